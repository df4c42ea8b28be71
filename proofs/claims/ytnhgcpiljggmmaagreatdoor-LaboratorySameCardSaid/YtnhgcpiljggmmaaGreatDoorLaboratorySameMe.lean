/-
  Texts made small by a program (see NOTES). Conditions: those that each theorem names.
-/
import Derived.Test.YtnhgcpiljggmmaaGreatDoorLaboratorySameMd
set_option linter.unusedVariables false
set_option linter.unusedSimpArgs false
set_option linter.unusedSectionVars false
set_option maxHeartbeats 2000000
noncomputable section
namespace Go.Proofs.YtnhgcpiljggmmaaGreatDoor
open Go.TQ
section
theorem Y1{m:ah}(h:bK m){p:ak->Bool}(hb:(iH p (dV (cg m))).testBit m.aq.toNat=true):aP m.aj=false/\p (gL m)=true:=by
 rw[Bz,List.any_eq_true]at hb;obtain⟨e,he,hp⟩:=hb;rw[Qm,Qi]at hp;obtain⟨h1,h2⟩:=h.ZF ((List.mem_filter.1 he).1) hp.2;rw[<-h2];exact⟨h1,hp.1⟩
theorem OM{m:ah}(h:bK m){b:ao}(hc:me m.aq.toNat m.aa (cg m) b=true):aP m.aj=false/\gU (gL m) b=true:=by
 have hsm:=qp (aG:=m.aq.toNat) h.aN.sm h.ev.sD.1;have hg:=IU hsm (rq (p:=(gU · b)) (w6 (cg m)));exact Y1 h (hg.inside _ hc).1
theorem Pw{m:ah}(h1:m.ba=1){b:ao}(ha:gU (gL m) b=true):aP b=false/\fj m.av m.aJ b=true:=by
 have e:gL m=⟨m.aq,m.aE,bV (cR m).aO 1,m.aa,m.ba,m.aj,m.av,m.aJ,m.bf,eZ m⟩:=by unfold gL cR;rw[Qr h1]
 rw[e]at ha;unfold gU at ha;rw[Qm,Qr h1]at ha;simpa using ha
theorem VO{m:ah}(h:bK m)(h1:P1 m):jI m=cq\/(cU (jI m)/\bJ m.aC (jI m)=true/\fj m.av m.aJ (jI m)=true):=by
 unfold jI zV;rcases Ow (l:=fL (cg m)) (p:=Ff (me m.aq.toNat m.aa (cg m)) m.aC) (z:=KQ)with e|⟨h2,h3⟩
 ·exact .inl e
 ·right;unfold Ff at h3;simp only[Qm,Qi]at h3;exact⟨RW (CU h h2) h3.1.2,h3.1.1,(Pw h1.bn (OM h h3.2).2).2⟩
theorem ZW{p q b:ao}{v:ByteArray}{n:Int}(hok:pz p q)(hb:fj p q b=true)(hv:b.Value≠v)(ha:oz p q v n=false):b.an<=n:=by
 unfold oz at ha;rw[Qq73]at ha
 have key:∀x:ao,aP x=false->x.Value≠v->eN x ⟨n,v⟩=false->x.an<=n:=by
  intro x hz hx h;unfold eN at h;rw[hz,(iK (a:=x) (b:=⟨n,v⟩)).2 hx,Qp,Bool.and_self,Bool.true_and]at h;exact GK h
 have hqp:aP q=false->cU q/\cU p/\bJ q p=true/\q.Value≠p.Value:=fun hz=>by
  rcases hok.2 with e|⟨e1,e2,e3,e4⟩
  ·rw[e,cp]at hz;cases hz
  ·exact⟨e1,e2,e3,iK.1 e4⟩
 rw[yy]at hb;rcases hb with hb|hb|⟨hz,hl⟩
 ·obtain⟨h1,h2,h3⟩:=(ju _ _).1 hb;have:=key p h1 (by rw[h2];exact hv) ha.1
  omega
 ·obtain⟨h1,h2,h3⟩:=(ju _ _).1 hb;have:=key q h1 (by rw[h2];exact hv) ha.2
  omega
 ·obtain⟨e1,e2,e3,e4⟩:=hqp hz;have h5:=gE hl
  by_cases hqv:q.Value=v
  ·have:=key p e2.nz (by rw[<-hqv];exact fun e=>e4 e.symm) ha.1
   have:=gE e3;omega
  ·have:=key q hz hqv ha.2;omega
theorem adB{m:ah}(h1:P1 m){b:ao}(hb:cU b)(hl:bJ m.aC b=true)(hp:fj m.av m.aJ b=true):P1 (yT m b)/\(yT m b).av=m.av/\(yT m b).aJ=m.aJ/\(yT m b).aC=b/\m.aj.an<=(yT m b).aj.an:=by
 unfold yT;have hh:=IN h1;split
 ·rename_i hlt
  have hhigh:∀L:Int,eZ {m with aC:=b,aj:=b,bf:=L}=b.an:=by
   intro L;unfold eZ;rw[Qr];rw[hb.nz,kp.2 rfl];rfl
  refine⟨⟨h1.bn,hb,h1.dt,h1.dO,.inr ⟨hb,hp⟩,VJ b,h1.eU,?_⟩,rfl,rfl,rfl,gE hlt⟩;show(if cS m.aj b=true then m.bf else 0)=0\/(1<=(if cS m.aj b=true then m.bf else 0)/\(if cS m.aj b=true then m.bf else 0)<=eZ {m with aC:=b,aj:=b,bf:=if cS m.aj b=true then m.bf else 0}/\oz m.av m.aJ b.Value (if cS m.aj b=true then m.bf else 0)=false)
  rw[hhigh];split
  ·rename_i hc;rw[kp]at hc;rcases h1.low with e|⟨h2,h3,h4⟩
   ·exact .inl e
   ·refine .inr ⟨h2,?_,by rw[<-hc];exact h4⟩
    have:=gE hlt;omega
  ·exact .inl rfl
 ·rename_i hlt;have hlt:bJ m.aj b=false:=by simpa using hlt
  refine⟨⟨h1.bn,h1.bc,h1.dt,h1.dO,.inr ⟨hb,hp⟩,hlt,h1.eU,?_⟩,rfl,rfl,rfl,Int.le_refl _⟩;rcases h1.low with e|⟨h2,h3,h4⟩
  ·exact .inl e
  ·refine .inr ⟨h2,?_,h4⟩;show m.bf<=eZ {m with aC:=b}
   have hv:b.Value=m.aj.Value:=by
    refine Classical.byContradiction fun hv=> ?_
    have h5:=ZW h1.gK hp hv h4;have h6:=gE hl;rcases hh.2.2 with e|⟨e1,e2,e3⟩
    ·omega
    ·
     have e4:bJ b m.aC=false:=EO.asymm hl;have e5:=hl;rw[tS]at e5;have hbc:b.an=m.aC.an:=by omega
     have hlow:m.bf=m.aC.an:=by omega
     have e6:bJ ⟨m.bf,m.aj.Value⟩ b=true:=by
      have:(⟨m.bf,m.aj.Value⟩:ao)=m.aC:=by rw[hlow,<-e2]
      rw[this];exact hl
     unfold oz at h4;rw[Qq73]at h4
     have key:∀x:ao,aP x=false->x.Value≠m.aj.Value->eN x ⟨m.bf,m.aj.Value⟩=false->bJ ⟨m.bf,m.aj.Value⟩ x=false:=by
      intro x hz hx h;unfold eN at h;rw[hz,(iK (a:=x) (b:=⟨m.bf,m.aj.Value⟩)).2 hx,Qp,Bool.and_self,Bool.true_and]at h;exact h
     rw[yy]at hp;rcases hp with hp|hp|⟨hz,hq⟩
     ·obtain⟨g1,g2,g3⟩:=(ju _ _).1 hp;have g4:=key _ g1 (by rw[g2];exact hv) h4.1
      have g5:bJ ⟨m.bf,m.aj.Value⟩ m.av=true:=by
       by_cases e:b=m.av
       ·rw[<-e];exact e6
       ·exact kl e6 (DR (Er hp) (fun e'=>e e'.symm))
      rw[g5]at g4;cases g4
     ·obtain⟨g1,g2,g3⟩:=(ju _ _).1 hp;have g4:=key _ g1 (by rw[g2];exact hv) h4.2
      have g5:bJ ⟨m.bf,m.aj.Value⟩ m.aJ=true:=by
       by_cases e:b=m.aJ
       ·rw[<-e];exact e6
       ·exact kl e6 (DR (Er hp) (fun e'=>e e'.symm))
      rw[g5]at g4;cases g4
     ·rcases h1.dO with e|⟨f1,f2,f3,f4⟩
      ·rw[e,cp]at hz;cases hz
      ·by_cases hqv:m.aJ.Value=m.aj.Value
       ·have g4:=key _ f2.nz (by rw[<-hqv];exact fun e=>(iK.1 f4) e.symm) h4.1
        rw[kl e6 (kl hq f3)]at g4;cases g4
       ·have g4:=key _ hz hqv h4.2;rw[kl e6 hq]at g4;cases g4
   have hhigh:eZ {m with aC:=b}=b.an:=by
    unfold eZ;rw[Qr];show(!aP b&&cS b m.aj)=true;rw[hb.nz,kp.2 hv];rfl
   rw[hhigh];rcases hh.2.2 with e|⟨e1,e2,e3⟩
   ·omega
   ·have:=gE hl;omega
theorem Y3{m:ah}(h1:P1 m){b:ao}(hb:cU b)(hc:m.aC=b):P1 (oT m b):=by
 unfold oT;split
 ·rename_i hv;obtain⟨hL,hcp,hle⟩:=hv;rw[kp]at hcp;refine⟨h1.bn,h1.bc,h1.dt,h1.dO,h1.dU,h1.up,h1.eU,?_⟩;obtain⟨h2,h3,h4⟩:=RB (v:=b.Value) (n:=m.aj.an) h1.gK.valid.1 h1.gK.valid.2;refine .inr ⟨h3,?_,by show oz m.av m.aJ m.aj.Value _=false;rw[hcp];exact h4⟩
  show oq b.Value m.aj.an m.av m.aJ<=eZ {m with bf:=oq b.Value m.aj.an m.av m.aJ}
  have hhigh:eZ {m with bf:=oq b.Value m.aj.an m.av m.aJ}=b.an:=by
   unfold eZ;rw[Qr]
   ·show m.aC.an=_;rw[hc]
   ·show(!aP m.aC&&cS m.aC m.aj)=true;rw[hc,hb.nz,kp.2 hcp.symm];rfl
  rw[hhigh];exact hle
 ·exact h1
theorem Si(m:ah)(b:ao):(oT m b).av=m.av/\(oT m b).aJ=m.aJ/\(oT m b).aC=m.aC/\(oT m b).aj=m.aj:=by
 unfold oT;split<;>exact⟨rfl,rfl,rfl,rfl⟩
theorem qv{m:ah}(h:m.ba≠1\/aP m.aj=true\/aP (jI m)=true):iz m=m:=Qr h
theorem zM{m m':ah}(h:bK m)(he:m'.aq=m.aq/\m'.aE=m.aE/\m'.aO=m.aO/\m'.aa=m.aa/\m'.bU=m.bU/\m'.aF=m.aF)(hb:P0 m'\/P1 m'\/P2 m'\/P3 m'):bK m':=by
 obtain⟨e1,e2,e3,e4,e5,e6⟩:=he;exact⟨by rw[e1];exact h.n0,by rw[e1];exact h.n1,by rw[e2];exact h.bj,by rw[e3];exact h.seq,by rw[e4];exact h.aN,by rw[e5];exact h.tt,by rw[e6,e1,e2];exact h.hv,by rw[e6];exact h.gJ,hb⟩
structure il (m m':ah):Prop where
 aG:m'.aq=m.aq
 bj:m'.aE=m.aE
 seq:m'.aO=m.aO
 aN:m'.aa=m.aa
 tt:m'.bU=m.bU
 heard:m'.aF=m.aF
theorem il.refl(m:ah):il m m:=⟨rfl,rfl,rfl,rfl,rfl,rfl⟩
theorem il.all{m m':ah}(h:il m m'):m'.aq=m.aq/\m'.aE=m.aE/\m'.aO=m.aO/\m'.aa=m.aa/\m'.bU=m.bU/\m'.aF=m.aF:=⟨h.aG,h.bj,h.seq,h.aN,h.tt,h.heard⟩
theorem KM(m:ah):il m (dP m):=by unfold dP;split<;>exact⟨rfl,rfl,rfl,rfl,rfl,rfl⟩
theorem Z7(m:ah)(b:ao):il m (yT m b):=by unfold yT;split<;>exact⟨rfl,rfl,rfl,rfl,rfl,rfl⟩
theorem Up(m:ah)(b:ao):il m (oT m b):=by unfold oT;split<;>exact⟨rfl,rfl,rfl,rfl,rfl,rfl⟩
theorem DC(m:ah):il m (iz m):=by
 unfold iz;split
 ·exact .refl m
 ·have h1:=Up (yT m (jI m)) (jI m);have h2:=Z7 m (jI m);exact⟨h1.aG.trans h2.aG,h1.bj.trans h2.bj,h1.seq.trans h2.seq,h1.aN.trans h2.aN,h1.tt.trans h2.tt,h1.heard.trans h2.heard⟩
theorem DF(m:ah):il m (gG m):=by
 unfold gG Kb xC;split
 ·split<;>exact⟨rfl,rfl,rfl,rfl,rfl,rfl⟩
 ·split<;>exact⟨rfl,rfl,rfl,rfl,rfl,rfl⟩
theorem DE(m:ah):il m (kj m):=by unfold kj I1;split<;>exact⟨rfl,rfl,rfl,rfl,rfl,rfl⟩
theorem DD(m:ah):il m (fC m):=by unfold fC;split<;>exact⟨rfl,rfl,rfl,rfl,rfl,rfl⟩
theorem Jz{m:ah}(h:bK m)(h1:P1 m):P1 (iz m)/\(iz m=m\/((iz m).av=m.av/\(iz m).aJ=m.aJ/\bJ m.aC (iz m).aC=true/\m.aj.an<=(iz m).aj.an)):=by
 unfold iz;split
 ·exact⟨h1,.inl rfl⟩
 ·rename_i hc;rcases VO h h1 with e|⟨hf,hl,hp⟩
  ·exact absurd (.inr (.inr (by rw[e];exact cp))) hc
  ·obtain⟨g1,g2,g3,g4,g5⟩:=adB h1 hf hl hp;obtain⟨v1,v2,v3,v4⟩:=Si (yT m (jI m)) (jI m);exact⟨Y3 g1 hf g4,.inr ⟨v1.trans g2,v2.trans g3,by rw[v3,g4];exact hl,by rw[v4];exact g5⟩⟩
theorem Ve{m:ah}(h:bK m):bK (iz m):=by
 rcases h.body with h0|h1|h2|h3
 ·rw[qv (.inr (.inl (by rw[h0.bc];exact cp)))];exact h
 ·exact zM h (DC m).all (.inr (.inl (Jz h h1).1))
 ·rw[qv (.inl (by rw[h2.bn];decide))];exact h
 ·rw[qv (.inl (by rw[h3.bn];decide))];exact h
theorem we{m:ah}(h:bK m)(v:ByteArray):∀x∈bG (cg m) v,1<=x/\x<=1000:=Ex h.ev.sD.1 h.ev.sD.2 v
theorem Wy{m:ah}(h:bK m):∀v∈fI (cg m),1<=v.size/\v.size<=200:=by
 intro v hv;obtain⟨e,he,h1,h2⟩:=((xF h.ev.sD.1.aN h.ev.sD.2).2.2.2 v).1 hv;rw[h2];exact FV h1
theorem TO{m:ah}(h:bK m){x:ByteArray->Int->Int->Bool}{p q:ao}:(fY x (cg m) p q).1=false\/(cU (fY x (cg m) p q).2/\(fY x (cg m) p q).2.Value∈fI (cg m)/\(fY x (cg m) p q).2.an∈bG (cg m) (fY x (cg m) p q).2.Value/\
  oz p q (fY x (cg m) p q).2.Value (fY x (cg m) p q).2.an=false/\x (fY x (cg m) p q).2.Value (fY x (cg m) p q).2.an (fY x (cg m) p q).2.an=true):=by
 let G:Bool×ao->Prop:=fun s=>s.1=false\/(cU s.2/\s.2.Value∈fI (cg m)/\s.2.an∈bG (cg m) s.2.Value/\oz p q s.2.Value s.2.an=false/\x s.2.Value s.2.an s.2.an=true)
 have inner:∀(v:ByteArray),v∈fI (cg m)->∀(b:List Int),(∀n∈b,n∈bG (cg m) v)->∀s,G s->G (b.foldl (gp x p q v) s):=by
  intro v hv b
  induction b with
  |nil=>intro _ s hs;exact hs
  |cons n b ih=>
   intro hb s hs;rw[QU];refine ih (fun k hk=>hb k (Qy _ hk)) _ ?_
   unfold gp;split
   ·rename_i hc;simp only[Qm,Bool.not_eq_true']at hc;have hn:=hb n Qx;have h1:=we h v n hn;have h2:=Wy h v hv;exact .inr ⟨⟨h1.1,h1.2,h2.1,h2.2⟩,hv,hn,hc.1.2,hc.2⟩
   ·exact hs
 have outer:∀(vs:List ByteArray),(∀v∈vs,v∈fI (cg m))->∀s,G s->G (vs.foldl (fun s v=>(bG (cg m) v).foldl (gp x p q v) s) s):=by
  intro vs
  induction vs with
  |nil=>intro _ s hs;exact hs
  |cons v vs ih=>
   intro hv s hs;rw[QU];exact ih (fun u hu=>hv u (Qy _ hu)) _ (inner v (hv v Qx) _ (fun n hn=>hn) s hs)
 exact outer _ (fun v hv=>hv) (false,⟨0,gH⟩) (.inl rfl)
structure ad3 (m:ah) (v:ByteArray) (lo hi:Int):Prop where
 fin:cU ⟨hi,v⟩
 lo1:1<=lo
 le:lo<=hi
 val:v∈fI (cg m)
 top:fS m v hi hi=true
 all:fS m v lo hi=true
theorem Oq{m:ah}(h:bK m)(hk:(jU m).2.2.2.1=true):ad3 m (jU m).1 (jU m).2.1 (jU m).2.2.1:=by
 rcases TO (x:=fS m) (p:=m.av) (q:=m.aJ) h with e|⟨h1,h2,h3,h4,h5⟩
 ·unfold jU qM at hk;rw[e]at hk;cases hk
 ·have hb:(fY (fS m) (cg m) m.av m.aJ).1=true:=by
   unfold jU qM at hk;split at hk
   ·assumption
   ·cases hk
  have e:jU m=((fY (fS m) (cg m) m.av m.aJ).2.Value,dR (fun n=> !oz m.av m.aJ (fY (fS m) (cg m) m.av m.aJ).2.Value n&&fS m (fY (fS m) (cg m) m.av m.aJ).2.Value n (fY (fS m) (cg m) m.av m.aJ).2.an) (bG (cg m) (fY (fS m) (cg m) m.av m.aJ).2.Value).reverse (fY (fS m) (cg m) m.av m.aJ).2.an,(fY (fS m) (cg m) m.av m.aJ).2.an,true,()):=by
   unfold jU qM;rw[Qr hb]
  rw[e];refine⟨h1,yX _ _ _ (fun x hx=>(we h _ x (List.mem_reverse.1 hx)).1) h1.1,qO _ _ _,h2,h5,?_⟩
  simp only;rcases yW (fun n=> !oz m.av m.aJ (fY (fS m) (cg m) m.av m.aJ).2.Value n&&fS m (fY (fS m) (cg m) m.av m.aJ).2.Value n (fY (fS m) (cg m) m.av m.aJ).2.an) (bG (cg m) (fY (fS m) (cg m) m.av m.aJ).2.Value).reverse (fY (fS m) (cg m) m.av m.aJ).2.an with e|⟨e,_⟩
  ·rw[e];exact h5
  ·rw[Qm]at e;exact e.2
theorem ON{m:ah}(hb0:m.aj=cq\/cU m.aj)(hp0:m.av=cq\/cU m.av){v:ByteArray}{lo hi:Int}(hf:cU ⟨hi,v⟩)(hlo:1<=lo)(hle:lo<=hi):P2 (Kb m v lo hi):=by
 unfold Kb
 have hmax:cU ⟨bV m.aj.an hi,v⟩:=by
  rcases hb0 with e|h2
  ·have:bV m.aj.an hi=hi:=by
    have h3:=hf.1;simp only at h3;have h4:m.aj.an=0:=by rw[e];rfl
    unfold bV;split<;>omega
   rw[this];exact hf
  ·have:bV m.aj.an hi=m.aj.an\/bV m.aj.an hi=hi:=by unfold bV;split<;>simp
   rcases this with e|e<;>rw[e]
   ·exact⟨h2.1,h2.2.1,hf.2.2⟩
   ·exact hf
 have hbv:∀b:ao,b=(if(!cS m.aj ⟨hi,v⟩||bJ m.aj ⟨hi,v⟩)=true then⟨bV m.aj.an hi,v⟩else m.aj)->cU b/\b.Value=v:=by
  intro b hb;split at hb
  ·rw[hb];exact⟨hmax,rfl⟩
  ·rename_i hc;rw[hb];simp only[Qn,Bool.not_eq_true',not_or,Bool.not_eq_false]at hc;refine⟨hb0.resolve_left (fun e=> ?_),kp.1 hc.1⟩
   have:=kp.1 hc.1;rw[e]at this;exact hf.ne this.symm
 obtain⟨b1,b2⟩:=hbv _ rfl
 have hpv:∀p:ao,p=(if kI m.av ⟨hi,v⟩=true then m.av else⟨hi,v⟩)->cU p/\p.Value=v/\hi<=p.an:=by
  intro p hp;split at hp
  ·rename_i hc;rw[hp];obtain⟨g1,g2,g3⟩:=(ju _ _).1 hc;refine⟨?_,g2,g3⟩;rcases hp0 with e|e
   ·rw[e,cp]at g1;cases g1
   ·exact e
  ·rw[hp];exact⟨hf,rfl,Int.le_refl _⟩
 obtain⟨p1,p2,p3⟩:=hpv _ rfl;exact⟨rfl,b1,⟨p1,p2.trans b2.symm⟩,rfl,.inr ⟨hf,b2.symm⟩,⟨hlo,hle,p3⟩⟩
theorem Oy{m:ah}(h:bK m)(h2:P2 m):1<=(ec m).1/\(ec m).1<=(ec m).2/\(ec m).2<=1000/\(((ec m).2=m.bM/\(ec m).1<=m.bf)\/m.bM<(ec m).2):=by
 have hr:=h2.range;have hH:m.bM<=1000:=by have:=h2.dt.1.2.1;omega
 have hb:∀x∈(bG (cg m) m.aj.Value).reverse,1<=x:=fun x hx=>(we h _ x (List.mem_reverse.1 hx)).1
 unfold ec G9;split
 ·refine⟨yX _ _ _ hb hr.1,?_,hH,.inl ⟨rfl,qO _ _ _⟩⟩;exact Int.le_trans (qO _ _ _) hr.2.1
 ·rename_i n hn;have hnb:=we h _ n (List.mem_reverse.1 (List.mem_of_find?_eq_some hn));have hnp:=List.find?_some hn;simp only[Qm,Qi]at hnp;have h5:1<=dR (fun x=>fS m m.aj.Value x n) (bG (cg m) m.aj.Value).reverse n:=yX _ _ _ hb hnb.1
  have h6:=qO (fun x=>fS m m.aj.Value x n) (bG (cg m) m.aj.Value).reverse n
  simp only;refine⟨yX _ _ _ hb ?_,?_,hnb.2,.inr hnp.1⟩
  ·split
   ·exact h5
   ·exact hr.1
  ·refine Int.le_trans (qO _ _ _) ?_;split
   ·exact h6
   ·omega
theorem TA{m:ah}(h2:P2 m){lo hi:Int}(hlo:1<=lo)(hle:lo<=hi)(hhi:hi<=1000):P2 (xC m lo hi):=by
 unfold xC;have hb:=h2.bc;have hp:=h2.dt;have e1:∀c:Int,bV c hi=c\/bV c hi=hi:=fun c=>by unfold bV;split<;>simp
 have e2:∀c:Int,hi<=bV c hi:=fun c=>by unfold bV;split<;>omega
 have mx:∀c:Int,c<=1000->cU ⟨bV c hi,m.aj.Value⟩:=by
  intro c hc;refine⟨by have:=e2 c;simp only;omega,?_,hb.2.2.1,hb.2.2.2⟩
  rcases e1 c with e|e<;>simp only[e]<;>omega
 refine⟨h2.bn,mx _ hb.2.1,⟨?_,?_⟩,h2.dO,.inr ⟨mx _ ?_,rfl⟩,⟨hlo,hle,e2 _⟩⟩
 ·show cU ⟨bV m.av.an hi,m.av.Value⟩;rw[hp.2];exact mx _ hp.1.2.1
 ·exact hp.2
 ·rcases h2.dU with e|e
  ·rw[e];decide
  ·exact e.1.2.1
theorem Vm{m:ah}(h:bK m):bK (gG m):=by
 refine zM h (DF m).all ?_;unfold gG;rcases h.body with h0|h1|h2|h3
 ·rw[Qr h0.bn];split
  ·rename_i hk;have hf:=Oq h hk;exact .inr (.inr (.inl (ON (.inl h0.bc) (.inl h0.dt) hf.fin hf.lo1 hf.le)))
  ·exact .inl h0
 ·rw[Qr h1.bn];split
  ·rename_i hk;have hf:=Oq h hk;exact .inr (.inr (.inl (ON (.inr h1.bc) h1.dt hf.fin hf.lo1 hf.le)))
  ·exact .inr (.inl h1)
 ·rw[Qs (by rw[h2.bn];decide),Qr h2.bn]
  have:=Oy h h2;exact .inr (.inr (.inl (TA h2 this.1 this.2.1 this.2.2.1)))
 ·rw[Qs (by rw[h3.bn];decide),Qs (by rw[h3.bn];decide)]
  exact .inr (.inr (.inr h3))
theorem acn{m:ah}(h:bK m)(hk:(mK m).2.2.1=true):1<=(mK m).1/\(mK m).1<=(mK m).2.1/\(mK m).2.1<=1000/\Hw m m.aj.Value (mK m).1 (mK m).2.1=true:=by
 unfold mK Ec at hk ⊢;split at hk
 ·rename_i n hn;have hnb:=we h _ n (List.mem_reverse.1 (List.mem_of_find?_eq_some hn));have hs:=List.find?_some hn;simp only;refine⟨yX _ _ _ (fun x hx=>(we h _ x (List.mem_reverse.1 hx)).1) hnb.1,qO _ _ _,hnb.2,?_⟩
  rcases yW (fun x=>Hw m m.aj.Value x n) (bG (cg m) m.aj.Value).reverse n with e|⟨e,_⟩
  ·rw[e];exact hs
  ·exact e
 ·cases hk
theorem Ru{m:ah}(h:bK m)(h2:P2 m)(hk:(mK m).2.2.1=true):P3 (I1 m (mK m).1 (mK m).2.1):=by
 obtain⟨g1,g2,g3,_⟩:=acn h hk;unfold I1;exact⟨rfl,⟨by simp only;omega,g3,h2.bc.2.2.1,h2.bc.2.2.2⟩,rfl,rfl,rfl,⟨g1,g2,g3⟩⟩
theorem Vk{m:ah}(h:bK m):bK (kj m):=by
 refine zM h (DE m).all ?_;unfold kj;split
 ·rename_i hc;rcases h.body with h0|h1|h2|h3
  ·have:=h0.bn;have:=hc.1;omega
  ·have:=h1.bn;have:=hc.1;omega
  ·exact .inr (.inr (.inr (Ru h h2 hc.2)))
  ·have:=h3.bn;have:=hc.1;omega
 ·exact h.body
theorem Tr{z:ao}:∀{l:List ao},l≠[]->IT z l∈l
 |[],h=>absurd rfl h
 |x::l,_=>by
  show l.foldl (fun a y=>if bJ a y=true then y else a) x∈x::l
  suffices key:∀(l:List ao) (a:ao),l.foldl (fun a y=>if bJ a y=true then y else a) a=a\/l.foldl (fun a y=>if bJ a y=true then y else a) a∈l by
   rcases key l x with e|e
   ·rw[e];exact Qx
   ·exact Qy _ e
  intro l
  induction l with
  |nil=>intro a;exact .inl rfl
  |cons y l ih=>
   intro a;rw[QU];rcases ih (if bJ a y=true then y else a)with e|e
   ·rw[e];split
    ·exact .inr Qx
    ·exact .inl rfl
   ·exact .inr (Qy _ e)
theorem Zd{t:ab}(h:cG t){s:Nat}(hs:∀k,k<10->s.testBit k=true):kC s t=true:=by
 have hn:∀x:Int,0<=x->x<10->kF s x=true:=by
  intro x h0 h1;unfold kF eY;rw[Qg h0,Qg h1,hs _ (by omega)]
  rfl
 have hc:t.aH.countP (kF s)=t.aH.length:=List.countP_eq_length.2 fun x hx=>hn x (h.nodes x hx).1 (h.nodes x hx).2
 have hi:tj s t.aL=t.aL.length:=by
  rcases h.inner with e|⟨x,h0,h1,e⟩
  ·rw[e];rfl
  ·rw[e]
   have:kC s ⟨1,[x],[]⟩=true:=by
    rw[ET];simp[hn x h0 h1,tj]
   simp[tj,this]
 rw[ET,hc,hi,Qi];have:=h.th.2;omega
theorem TZ{m:ah}(h:bK m){n:Int}(ha:jv m n=true):∃e∈m.aF,n<gQ e:=by
 refine Classical.byContradiction fun hno=> ?_
 have hz:ED m n=0:=by
  refine JH fun k=> ?_
  unfold ED;rw[Bz,Nat.zero_testBit,List.any_eq_false];intro e he;have:¬n<gQ e:=fun hlt=>hno ⟨e,he,hlt⟩
  simp[this]
 unfold jv Bp at ha;rw[hz,Qm]at ha
 have hown:kN (ji m.aq.toNat m.aa (cg m)) m.aq.toNat=m.aa:=by
  unfold kN;rw[Ur h.ev.aG.2 m.aa (cg m) h.ev.aG.2,Qr rfl];rfl
 rw[hown,Zd h.aN (fun k hk=>by rw[BW (by omega)];simp[hk])]at ha
 cases ha.2
theorem P6{m:ah}(h:bK m)(h1:m.ba=1)(hc:m.aC=cq\/cU m.aC)(hh:m.aF≠[]\/m.bU≠gH\/m.aC≠cq):1<=(dB m).size/\(dB m).size<=200:=by
 unfold dB;split
 ·rename_i hz;rcases hc with e|e
  ·rw[e,cp]at hz;cases hz
  ·exact e.2.2
 ·rename_i hz;have hz:aP m.aC=true:=by simpa using hz
  rw[Qs (fun h=>h h1)]
  split
  ·rename_i hp;refine⟨?_,h.tt⟩;rcases Nat.eq_zero_or_pos m.bU.size with e|e
   ·exfalso;apply hp;have:m.bU.data=#[]:=Array.eq_empty_of_size_eq_zero e
    cases hm:m.bU with
    |mk d=>rw[hm]at this;simp only at this;rw[this];rfl
   ·exact e
  ·rename_i hp
   have hne:m.aF≠[]:=by
    rcases hh with e|e|e
    ·exact e
    ·exact absurd e hp
    ·exact absurd (zy.1 hz) e
   have hm:=Tr (z:=cq) (l:=m.aF.map (·.aj)) (by simpa using hne)
   obtain⟨e,he,heq⟩:=QP.1 hm;rw[<-heq];exact FV (h.hv e he).1
theorem V8{e:ak}(hv:aX e=true):1<=gQ e/\(gQ e<=1000\/gQ e=1000000):=by
 unfold gQ;split
 ·exact⟨by decide,.inr rfl⟩
 ·rename_i h3;have hv':=hv;unfold aX lY at hv';rw[Qm,Qm]at hv';have hb:=hv'.2
  have gof:∀{b:ao},finite b=true->1<=b.an/\b.an<=1000:=by
   intro b hb;unfold finite at hb;rw[Qm,Qi]at hb;have:=(RW hb.1 hb.2);exact⟨this.1,this.2.1⟩
  by_cases h1:e.az=1
  ·rw[Qr h1]at hb;unfold gK at hb;simp only[Qm]at hb;have:=gof hb.1.1.1.1.1.1.1.1;exact⟨this.1,.inl this.2⟩
  ·rw[Qs h1]at hb
   by_cases h2:e.az=2
   ·rw[Qr h2]at hb;unfold uI at hb;simp only[Qm]at hb;have:=gof hb.1.1.1.1.1;exact⟨this.1,.inl this.2⟩
   ·rw[Qs h2,Qs h3]at hb;cases hb
theorem We(m:ah):gS m=1000000\/(m.aj.an<gS m/\gS m<1000000/\jv m (gS m)=false/\∃e∈m.aF,gS m=gQ e):=by
 unfold gS
 suffices key:∀(l:List ak),(∀e∈l,e∈m.aF)->∀s,(s=1000000\/(m.aj.an<s/\s<1000000/\jv m s=false/\∃e∈m.aF,s=gQ e))->
   (l.foldl (lS m) s=1000000\/(m.aj.an<l.foldl (lS m) s/\l.foldl (lS m) s<1000000/\jv m (l.foldl (lS m) s)=false/\∃e∈m.aF,l.foldl (lS m) s=gQ e))from key _ (fun e he=>he) _ (.inl rfl)
 intro l
 induction l with
 |nil=>intro _ s hs;exact hs
 |cons x l ih=>
  intro hm s hs;rw[QU];refine ih (fun e he=>hm e (Qy _ he)) _ ?_
  unfold lS;split
  ·rename_i hc;exact .inr ⟨hc.1,by rcases hs with e|e<;>omega,hc.2.2,x,hm x Qx,rfl⟩
  ·exact hs
theorem I5{m:ah}(h:bK m)(hb:0<=m.aj.an/\m.aj.an<=1000):m.aj.an<=bV m.aj.an (eS (gS m) 1000)/\bV m.aj.an (eS (gS m) 1000)<=1000/\1<=bV m.aj.an (eS (gS m) 1000)/\
  (bV m.aj.an (eS (gS m) 1000)=m.aj.an->m.aj.an=1000)/\bV m.aj.an (eS (gS m) 1000)=eS (gS m) 1000:=by
 have hmin:eS (gS m) 1000<=1000/\1<=eS (gS m) 1000/\(m.aj.an<eS (gS m) 1000\/eS (gS m) 1000=1000):=by
  rcases We m with e|⟨g1,g2,_,x,hx,g4⟩
  ·rw[e];exact⟨by decide,by decide,.inr (by decide)⟩
  ·have hc:=V8 (h.hv x hx).1;rw[<-g4]at hc;have:gS m<=1000:=by omega
   have e:eS (gS m) 1000=gS m:=by unfold eS;split<;>omega
   rw[e];omega
 unfold bV;split<;>omega
theorem JA{m:ah}(h:bK m)(h1:P0 m\/P1 m)(ha:jv m m.aj.an=true):P1 (fC m):=by
 have hph:m.ba=1:=by rcases h1 with h|h<;>exact h.bn
 have hbc:0<=m.aj.an/\m.aj.an<=1000:=by
  rcases h1 with h|h
  ·rw[h.bc];decide
  ·have:=h.bc;exact⟨by have:=this.1;omega,this.2.1⟩
 obtain⟨c1,c2,c3,_⟩:=I5 h hbc;obtain⟨e0,he0,_⟩:=TZ h ha
 have hconf:m.aC=cq\/cU m.aC:=by
  rcases h1 with h|h
  ·exact .inl h.dU
  ·exact h.dU.imp id (·.1)
 have hv:=P6 h hph hconf (.inl (List.ne_nil_of_mem he0));unfold fC;rw[Qs (by rw[hph,ha];decide)]
 have hnv:qD m=dB m:=Qr hph;rw[hnv];generalize hn:bV m.aj.an (eS (gS m) 1000)=n at c1 c2 c3 ⊢
 have hpo:pz m.av m.aJ:=by
  rcases h1 with h|h
  ·exact⟨.inl h.dt,.inl h.dO⟩
  ·exact h.gK
 refine⟨hph,⟨c3,c2,hv.1,hv.2⟩,hpo.1,hpo.2,?_,?_,?_,?_⟩
 ·rcases h1 with h|h
  ·exact .inl h.dU
  ·exact h.dU
 ·show bJ ⟨n,dB m⟩ m.aC=false;rcases hconf with e|e
  ·rw[e]
   cases hl:bJ ⟨n,dB m⟩ cq with
   |false=>rfl
   |true=>have:=gE hl;have h0:(cq:ao).an=0:=rfl;simp only at this;omega
  ·have hvc:dB m=m.aC.Value:=by unfold dB;rw[Qr e.nz]
   rw[Ij (show(⟨n,dB m⟩:ao).Value=m.aC.Value from hvc),Qj]
   rcases h1 with h|h
   ·exact absurd h.dU (G8 e)
   ·have:=GK h.up;simp only;omega
 ·rcases h1 with h|h<;>exact h.eU
 ·show(if dB m=m.aj.Value then m.bf else 0)=0\/(1<=(if dB m=m.aj.Value then m.bf else 0)/\_<=_/\oz m.av m.aJ (dB m) (if dB m=m.aj.Value then m.bf else 0)=false)
  split
  ·rename_i hve;rcases h1 with h|h
   ·exact .inl h.low
   ·rcases h.low with e|⟨g1,g2,g3⟩
    ·exact .inl e
    ·refine .inr ⟨g1,?_,by rw[hve];exact g3⟩
     have:eZ {m with bf:=m.bf,aj:=⟨n,dB m⟩}=eZ m:=by
      unfold eZ cS;simp only[hve]
     show m.bf<=eZ {m with bf:=m.bf,aj:=⟨n,dB m⟩}
     rw[this];exact g2
  ·exact .inl rfl
theorem Rt{m:ah}(h:bK m)(h2:P2 m):P2 (fC m):=by
 unfold fC;split
 ·exact h2
 ·obtain⟨c1,c2,c3,_⟩:=I5 h ⟨by have:=h2.bc.1;omega,h2.bc.2.1⟩
  have hnv:qD m=m.aj.Value:=Qs (by rw[h2.bn];decide)
  rw[hnv,Qr rfl];exact⟨h2.bn,⟨c3,c2,h2.bc.2.2⟩,h2.dt,h2.dO,h2.dU,h2.range⟩
theorem Vi{m:ah}(h:bK m):bK (fC m):=by
 have hid:m.ba=3\/jv m m.aj.an=false->fC m=m:=fun hc=>Qr hc
 cases ha:jv m m.aj.an with
 |false=>rw[hid (.inr ha)];exact h
 |true=>
  refine zM h (DD m).all ?_;rcases h.body with h0|h1|h2|h3
  ·exact .inr (.inl (JA h (.inl h0) ha))
  ·exact .inr (.inl (JA h (.inr h1) ha))
  ·exact .inr (.inr (.inl (Rt h h2)))
  ·rw[hid (.inl h3.bn)];exact .inr (.inr (.inr h3))
end
section
theorem lexLt{a a' b b' B:Nat}(hb:b<B)(h:a<a'):a*B+b<a'*B+b':=by
 have h1:(a+1)*B<=a'*B:=Qq62 B h;rw[Qq72]at h1;omega
theorem wB{a a' b b' B:Nat}(h:a=a')(hb:b<b'):a*B+b<a'*B+b':=by rw[h];omega
theorem B4{a b A B:Nat}(ha:a<A)(hb:b<B):a*B+b<A*B:=by
 have h1:(a+1)*B<=A*B:=Qq62 B ha;rw[Qq72]at h1;omega
theorem cU.sm{b:ao}(h:cU b):Sm b:=⟨by have:=h.1;omega,h.2.1,h.2.2.2⟩
theorem Vv:Sm cq:=⟨by decide,by decide,by decide⟩
theorem oV{b:ao}(h:b=cq\/cU b):Sm b:=by
 rcases h with rfl|h
 ·exact Vv
 ·exact h.sm
theorem fin_pos{b:ao}(h:cU b):lJ cq<lJ b:=qG Vv h.sm ((tS _ _).2 (.inl h.1))
 def t1(m:ah):Nat:=2*m.aj.an.toNat+(if m.aj.Value=qD m then 1 else 0)
 def pq(m:ah):Nat:=lJ m.av*WB+lJ m.aJ
 def r1(m:ah):Nat:=(pq m*WB+lJ m.aC)*2002+t1 m
def K1:Nat:=(WB*WB)*WB*2002
 def r2(m:ah):Nat:=(((m.bM.toNat*1001+(1000 - m.bf).toNat)*WB+lJ m.av)*WB+lJ m.aC)*1001+m.aj.an.toNat
def K2:Nat:=((1001*1001)*WB*WB)*1001
 def jR(m:ah):Nat:=if m.ba=1 then r1 m else if m.ba=2 then K1+r2 m else K1+K2
def wz(m:ah):Prop:=(m.av=cq\/cU m.av)/\(m.aJ=cq\/cU m.aJ)/\(m.aC=cq\/cU m.aC)/\(m.aj=cq\/cU m.aj)
theorem P0.ok{m:ah}(h:P0 m):wz m:=⟨.inl h.dt,.inl h.dO,.inl h.dU,.inl h.bc⟩
theorem P1.ok{m:ah}(h:P1 m):wz m:=⟨h.dt,h.dO.imp id (·.1),h.dU.imp id (·.1),.inr h.bc⟩
theorem P2.ok{m:ah}(h:P2 m):wz m:=⟨.inr h.dt.1,.inl h.dO,h.dU.imp id (·.1),.inr h.bc⟩
theorem Sn{m:ah}(h:wz m):t1 m<2002:=by
 have:m.aj.an<=1000:=by
  rcases h.2.2.2 with e|e
  ·rw[e];decide
  ·exact e.2.1
 unfold t1;split<;>omega
theorem adi{m:ah}(h:wz m):pq m<WB*WB:=B4 (mO (oV h.1)) (mO (oV h.2.1))
theorem SR{m:ah}(h:wz m):r1 m<K1:=B4 (B4 (adi h) (mO (oV h.2.2.1))) (Sn h)
theorem P2.eU{m:ah}(h:P2 m):m.bM<=1000:=by have:=h.range.2.2;have:=h.dt.1.2.1;omega
theorem Yz{m:ah}(h:P2 m):r2 m<K2:=by
 have h1:=h.range;have h2:=h.eU;refine B4 (B4 (B4 (B4 (A:=1001) ?_ ?_) (mO h.dt.1.sm)) (mO (oV h.ok.2.2.1))) ?_
 ·omega
 ·omega
 ·have:=h.bc.2.1;omega
theorem ug{m:ah}(h:m.ba=1):jR m=r1 m:=Qr h
theorem uf{m:ah}(h:m.ba=2):jR m=K1+r2 m:=by unfold jR;rw[Qs (by omega),Qr h]
theorem UX{m:ah}(h:m.ba=3):jR m=K1+K2:=by unfold jR;rw[Qs (by omega),Qs (by omega)]
theorem Zh{m:ah}(h:bK m):jR m<=K1+K2:=by
 rcases h.body with h0|h1|h2|h3
 ·rw[ug h0.bn];have:=SR h0.ok;omega
 ·rw[ug h1.bn];have:=SR h1.ok;omega
 ·rw[uf h2.bn];have:=Yz h2;omega
 ·rw[UX h3.bn];exact QI _
theorem rR.up_{p q b p' q':ao}(h:pz p q)(hb:b=cq\/cU b)(hj:rR p q b p' q'):(p'=p/\q'=q)\/lJ p*WB+lJ q<lJ p'*WB+lJ q':=by
 have hok:=hj.ok h hb;have hp:=oV h.1;have hq:Sm q:=oV (h.2.imp id (·.1))
 cases hj with
 |same=>exact .inl ⟨rfl,rfl⟩
 |first h1 h2=>
  subst h1 h2;rcases hb with e|e
  ·exact .inl ⟨e,rfl⟩
  ·exact .inr (lexLt (mO hq) (fin_pos e))
 |up h1 hl hc=>exact .inr (lexLt (mO hq) (qG hp (oV hb) hl))
 |over h1 hl hc=>exact .inr (lexLt (mO hq) (qG hp (oV hb) hl))
 |under h1 hl hc hq'=>
  rcases hq' with e|e
  ·subst e;rcases hb with e2|e2
   ·exact .inl ⟨rfl,e2⟩
   ·exact .inr (wB rfl (fin_pos e2))
  ·exact .inr (wB rfl (qG hq (oV hb) e))
theorem B3{m m':ah}(he:il m m')(h1:m'.ba=m.ba)(h2:m'.aj=m.aj)(h3:m'.av=m.av)(h4:m'.aJ=m.aJ)(h5:m'.aC=m.aC)(h6:m'.bf=m.bf)(h7:m'.bM=m.bM):m'=m:=by
 obtain⟨e1,e2,e3,e4,e5,e6⟩:=he;cases m;cases m';simp only at*;subst e1 e2 e3 e4 e5 e6 h1 h2 h3 h4 h5 h6 h7;rfl
theorem WO{m m':ah}(he:il m m')(h:zE m m'=true):m'=m:=by
 unfold zE at h;simp only[Qm,Qi,KB]at h;obtain⟨⟨⟨⟨⟨⟨h1,h2⟩,h3⟩,h4⟩,h5⟩,h6⟩,h7⟩:=h;exact B3 he h1.symm h2.symm h3.symm h4.symm h5.symm h6.symm h7.symm
theorem ub(m:ah):zE m m=true:=by
 unfold zE;simp only[decide_true,KB.2 rfl,Bool.and_self]
theorem adh{m m':ah}(h:wz m)(hlt:pq m<pq m'):r1 m<r1 m':=lexLt (Sn h) (lexLt (mO (oV h.2.2.1)) hlt)
theorem aeM{m m':ah}(h:wz m)(hpq:pq m=pq m')(hlt:lJ m.aC<lJ m'.aC):r1 m<r1 m':=lexLt (Sn h) (wB hpq hlt)
theorem aeL{m m':ah}(hpq:pq m=pq m')(hc:m.aC=m'.aC)(hlt:t1 m<t1 m'):r1 m<r1 m':=wB (by rw[hpq,hc]) hlt
theorem SZ{m:ah}(h1:P1 m):sn m m.av m.aJ=m.bf:=by
 unfold sn;split
 ·rename_i hc;rcases h1.low with e|⟨g1,g2,g3⟩
  ·exact absurd e hc.2
  ·rw[VC g1 g3,Qs (by omega)]
 ·rfl
theorem aev{m:ah}(h:bK m):dP m=m\/jR m<jR (dP m):=by
 have hid:m.ba=3\/aP m.aj=true->dP m=m:=fun hc=>Qr hc
 rcases h.body with h0|h1|h2|h3
 ·exact .inl (hid (.inr (by rw[h0.bc];exact cp)))
 ·have hj:=(E2 h h1.gK).up_ h1.gK (uJ h);have he:dP m={m with av:=(ff m.av m.aJ (ij (fo m))).1,aJ:=(ff m.av m.aJ (ij (fo m))).2,bf:=sn m (ff m.av m.aJ (ij (fo m))).1 (ff m.av m.aJ (ij (fo m))).2}:=Qs (by rw[h1.bn,h1.bc.nz];decide)
  rcases hj with⟨e1,e2⟩|hlt
  ·left;rw[he,e1,e2,SZ h1]
  ·right;rw[ug h1.bn,ug (by rw[he];exact h1.bn)]
   exact adh h1.ok (by rw[he];exact hlt)
 ·have hj:=(E2 h h2.gK).up_ h2.gK (uJ h);have hk:=Rs h h2;have he:dP m={m with av:=(ff m.av m.aJ (ij (fo m))).1,aJ:=(ff m.av m.aJ (ij (fo m))).2,bf:=sn m (ff m.av m.aJ (ij (fo m))).1 (ff m.av m.aJ (ij (fo m))).2}:=Qs (by rw[h2.bn,h2.bc.nz];decide)
  have hlow:∀p q,sn m p q=m.bf:=fun p q=>Qs (fun h=>by have:=h.1;rw[h2.bn]at this;cases this)
  rcases hj with⟨e1,e2⟩|hlt
  ·left;rw[he,e1,e2,hlow]
  ·right;rw[uf h2.bn,uf (by rw[he];exact h2.bn)]
   have e2:(ff m.av m.aJ (ij (fo m))).2=m.aJ:=by
    have h3:=hk.2.2;rw[he]at h3;exact h3.trans h2.dO.symm
   have hp:lJ m.av<lJ (dP m).av:=by
    rw[he];simp only;rw[e2]at hlt;refine Nat.lt_of_not_le fun hle=> ?_
    have:=Qq62 WB hle;omega
   have e3:(dP m).bM=m.bM/\(dP m).bf=m.bf/\(dP m).aC=m.aC/\(dP m).aj=m.aj:=by rw[he];exact⟨rfl,hlow _ _,rfl,rfl⟩
   have:r2 m<r2 (dP m):=by
    unfold r2;rw[e3.1,e3.2.1,e3.2.2.1,e3.2.2.2];exact lexLt (by have:=h2.bc.2.1;omega) (lexLt (mO (oV h2.ok.2.2.1)) (wB rfl hp))
   omega
 ·exact .inl (hid (.inl h3.bn))
theorem aeu{m:ah}(h:bK m):iz m=m\/jR m<jR (iz m):=by
 rcases h.body with h0|h1|h2|h3
 ·exact .inl (qv (.inr (.inl (by rw[h0.bc];exact cp))))
 ·obtain⟨g1,g2⟩:=Jz h h1;rcases g2 with e|⟨e1,e2,e3,_⟩
  ·exact .inl e
  ·right;rw[ug h1.bn,ug g1.bn];exact aeM h1.ok (by unfold pq;rw[e1,e2]) (qG (oV h1.ok.2.2.1) (oV g1.ok.2.2.1) e3)
 ·exact .inl (qv (.inl (by rw[h2.bn];decide)))
 ·exact .inl (qv (.inl (by rw[h3.bn];decide)))
theorem H9(a b:Int):(bV a b=a/\b<=a)\/(bV a b=b/\a<b):=by unfold bV;split<;>omega
theorem uN{a b:ao}(h1:a.an=b.an)(h2:a.Value=b.Value):a=b:=by cases a;cases b;simp only at h1 h2;rw[h1,h2]
theorem aey{m:ah}(h:bK m):gG m=m\/jR m<jR (gG m):=by
 have hC:m.ba=1->wz m->gG m=m\/jR m<jR (gG m):=by
  intro hp hok
  by_cases hk:(jU m).2.2.2.1=true
  ·right;have e:gG m=Kb m (jU m).1 (jU m).2.1 (jU m).2.2.1:=by unfold gG;rw[Qr hp,Qr hk]
   rw[ug hp,uf (by rw[e];rfl)]
   have:=SR hok;omega
  ·left;unfold gG;rw[Qr hp,Qs hk]
 rcases h.body with h0|h1|h2|h3
 ·exact hC h0.bn h0.ok
 ·exact hC h1.bn h1.ok
 ·have e:gG m=xC m (ec m).1 (ec m).2:=by unfold gG;rw[Qs (by rw[h2.bn];decide),Qr h2.bn]
  obtain⟨g1,g2,g3,g4⟩:=Oy h h2;have h2':=TA h2 g1 g2 g3;rw[e]
  have hr:m.bM.toNat<=1000/\(1000 - m.bf).toNat<1001/\m.aj.an.toNat<1001:=by
   have:=h2.eU;have:=h2.range;have:=h2.bc.2.1;omega
  have hcB:m.aC=(xC m (ec m).1 (ec m).2).aC\/lJ m.aC<lJ (xC m (ec m).1 (ec m).2).aC:=by
   rcases h2.dU with e|⟨hf,hv⟩
   ·right;rw[e]
    exact fin_pos (h2'.dU.resolve_left (fun e=>by
     have h1:=h2'.range;have h3:(xC m (ec m).1 (ec m).2).aC.an=bV m.aC.an (ec m).2:=rfl;rw[e]at h3;have h4:=H9 m.aC.an (ec m).2;have h5:(cq:ao).an=0:=rfl
     omega)).1
   ·rcases H9 m.aC.an (ec m).2 with⟨e1,_⟩|⟨e1,e2⟩
    ·exact .inl (uN e1.symm hv)
    ·right;refine qG hf.sm (oV h2'.ok.2.2.1) ((tS _ _).2 (.inl ?_));show m.aC.an<bV m.aC.an (ec m).2;omega
  have hpB:m.av=(xC m (ec m).1 (ec m).2).av\/lJ m.av<lJ (xC m (ec m).1 (ec m).2).av:=by
   rcases H9 m.av.an (ec m).2 with⟨e1,_⟩|⟨e1,e2⟩
   ·exact .inl (uN e1.symm rfl)
   ·right;refine qG h2.dt.1.sm h2'.dt.1.sm ((tS _ _).2 (.inl ?_));show m.av.an<bV m.av.an (ec m).2;omega
  have hbB:m.aj=(xC m (ec m).1 (ec m).2).aj\/m.aj.an<(xC m (ec m).1 (ec m).2).aj.an:=by
   rcases H9 m.aj.an (ec m).2 with⟨e1,_⟩|⟨e1,e2⟩
   ·exact .inl (uN e1.symm rfl)
   ·right;show m.aj.an<bV m.aj.an (ec m).2;omega
  rw[uf h2.bn,uf h2'.bn];have hPs:=mO h2.dt.1.sm;have hCs:=mO (oV h2.ok.2.2.1);have hHi:(xC m (ec m).1 (ec m).2).bM=(ec m).2:=rfl;have hLo:(xC m (ec m).1 (ec m).2).bf=(ec m).1:=rfl;have fin:r2 m<r2 (xC m (ec m).1 (ec m).2)->K1+r2 m<K1+r2 (xC m (ec m).1 (ec m).2):=fun h=>by omega
  have hrng:=h2.range;rcases g4 with⟨e1,e2⟩|e1
  ·rcases Int.lt_or_eq_of_le e2 with e3|e3
   ·
    refine .inr (fin (lexLt hr.2.2 (lexLt hCs (lexLt hPs (wB ?_ ?_)))))
    ·rw[hHi,e1]
    ·rw[hLo];omega
   ·rcases hpB with hp|hp
    ·rcases hcB with hc|hc
     ·rcases hbB with hb|hb
      ·left;exact B3 ⟨rfl,rfl,rfl,rfl,rfl,rfl⟩ rfl hb.symm hp.symm rfl hc.symm e3 e1
      ·refine .inr (fin (wB ?_ (by have:=h2.bc.1;omega)))
       rw[hHi,hLo,<-hp,<-hc,e1,e3]
     ·refine .inr (fin (lexLt hr.2.2 (wB ?_ hc)));rw[hHi,hLo,<-hp,e1,e3]
    ·refine .inr (fin (lexLt hr.2.2 (lexLt hCs (wB ?_ hp))));rw[hHi,hLo,e1,e3]
  ·refine .inr (fin (lexLt hr.2.2 (lexLt hCs (lexLt hPs (lexLt hr.2.1 ?_)))));rw[hHi];omega
 ·left;unfold gG;rw[Qs (by rw[h3.bn];decide),Qs (by rw[h3.bn];decide)]
theorem aex{m:ah}(h:bK m):kj m=m\/jR m<jR (kj m):=by
 by_cases hc:m.ba=2/\(mK m).2.2.1=true
 ·right;have e:kj m=I1 m (mK m).1 (mK m).2.1:=Qr hc;rw[uf hc.1,UX (by rw[e];rfl)]
  rcases h.body with h0|h1|h2|h3
  ·have:=h0.bn;have:=hc.1;omega
  ·have:=h1.bn;have:=hc.1;omega
  ·have:=Yz h2;omega
  ·have:=h3.bn;have:=hc.1;omega
 ·exact .inl (Qs hc)
theorem aew{m:ah}(h:bK m):fC m=m\/jR m<jR (fC m):=by
 have hid:m.ba=3\/jv m m.aj.an=false->fC m=m:=fun hc=>Qr hc
 cases ha:jv m m.aj.an with
 |false=>exact .inl (hid (.inr ha))
 |true=>
  have hC:m.ba=1->wz m->0<=m.aj.an/\m.aj.an<=1000->fC m=m\/jR m<jR (fC m):=by
   intro hp hok hb;obtain⟨c1,c2,c3,c4,_⟩:=I5 h hb;have e:fC m={m with bf:=if qD m=m.aj.Value then m.bf else 0,aj:=⟨bV m.aj.an (eS (gS m) 1000),qD m⟩}:=Qs (by rw[hp,ha];decide)
   have hnv:qD (fC m)=qD m:=by
    unfold qD dB;rw[e];simp only[hp,Qt,not_true_eq_false,Qu,ne_eq]
   by_cases hs:bV m.aj.an (eS (gS m) 1000)=m.aj.an/\qD m=m.aj.Value
   ·left;rw[e];refine B3 ⟨rfl,rfl,rfl,rfl,rfl,rfl⟩ rfl (uN hs.1 hs.2) rfl rfl rfl ?_ rfl;exact Qr hs.2
   ·right;rw[ug hp,ug (by rw[e];exact hp)]
    refine aeL (by rw[e];rfl) (by rw[e]) ?_
    unfold t1;rw[hnv];have hb':(fC m).aj=⟨bV m.aj.an (eS (gS m) 1000),qD m⟩:=by rw[e]
    rw[hb',Qr rfl];simp only
    by_cases hv:qD m=m.aj.Value
    ·rw[Qr hv.symm];have:bV m.aj.an (eS (gS m) 1000)≠m.aj.an:=fun e=>hs ⟨e,hv⟩
     omega
    ·rw[Qs (fun e=>hv e.symm)]
     omega
  rcases h.body with h0|h1|h2|h3
  ·exact hC h0.bn h0.ok (by rw[h0.bc];decide)
  ·exact hC h1.bn h1.ok ⟨by have:=h1.bc.1;omega,h1.bc.2.1⟩
  ·obtain⟨c1,c2,c3,c4,_⟩:=I5 h ⟨by have:=h2.bc.1;omega,h2.bc.2.1⟩
   have hnv:qD m=m.aj.Value:=Qs (by rw[h2.bn];decide)
   have e:fC m={m with aj:=⟨bV m.aj.an (eS (gS m) 1000),m.aj.Value⟩}:=by
    unfold fC;rw[Qs (by rw[h2.bn,ha];decide),hnv,Qr rfl]
   rw[e]
   by_cases hs:bV m.aj.an (eS (gS m) 1000)=m.aj.an
   ·left;exact B3 ⟨rfl,rfl,rfl,rfl,rfl,rfl⟩ rfl (uN hs rfl) rfl rfl rfl rfl rfl
   ·right;rw[uf h2.bn,uf (show({m with aj:=⟨bV m.aj.an (eS (gS m) 1000),m.aj.Value⟩}:ah).ba=2 from h2.bn)]
    have:r2 m<r2 {m with aj:=⟨bV m.aj.an (eS (gS m) 1000),m.aj.Value⟩}:=by
     refine wB rfl ?_;have:=h2.bc.1;show m.aj.an.toNat<(bV m.aj.an (eS (gS m) 1000)).toNat;omega
    omega
  ·exact .inl (hid (.inl h3.bn))
end
section
def adZ(p:ak->Bool):Prop:=∀e s,p {e with aO:=s}=p e
structure Alike (l l':List ak):Prop where
 view:∀aG,aG<10->∀t,ji aG t l=ji aG t l'
 PZ:∀p,adZ p->iH p (dV l)=iH p (dV l')
 bal:fL l=fL l'
 val:fI l=fI l'
 iM:∀v,bG l v=bG l' v
section
variable {l l' : List ak} (h : Alike l l')
 include h
theorem Alike.acc{aG:Nat}(hn:aG<10)(t:ab):nF aG t l=nF aG t l':=by
 funext b
 unfold nF;rw[h.view aG hn t,h.PZ _ (fun e s=>rfl),h.PZ _ (fun e s=>rfl)]
theorem Alike.dU{aG:Nat}(hn:aG<10)(t:ab):me aG t l=me aG t l':=by
 funext b
 unfold me;rw[h.view aG hn t,h.PZ _ (fun e s=>rfl)]
theorem Alike.ready{aG:Nat}(hn:aG<10)(t:ab):nb aG t l=nb aG t l':=by
 funext v lo hi
 unfold nb;rw[h.view aG hn t,h.PZ _ (fun e s=>rfl),h.PZ _ (fun e s=>rfl)]
theorem Alike.sure{aG:Nat}(hn:aG<10)(t:ab):wa aG t l=wa aG t l':=by
 funext v lo hi
 unfold wa;rw[h.view aG hn t,h.PZ _ (fun e s=>rfl)]
theorem Alike.next{aG:Nat}(hn:aG<10)(t:ab)(p q:ao)(v:ByteArray):zK aG t l p q v=zK aG t l' p q v:=by
 unfold zK;rw[h.bal,h.acc hn t]
theorem Alike.eU{aG:Nat}(hn:aG<10)(t:ab)(a:ao):zV aG t l a=zV aG t l' a:=by
 unfold zV;rw[h.bal,h.dU hn t]
theorem Alike.Cq(x:ByteArray->Int->Int->Bool)(p q:ao):fY x l p q=fY x l' p q:=by
 unfold fY;rw[h.val];congr 1
 funext s v
 rw[h.iM]
theorem Alike.first(x:ByteArray->Int->Int->Bool)(p q:ao)(s:Bool×ao):qM x l p q s=qM x l' p q s:=by
 unfold qM;rw[h.iM]
end
theorem TY{l l':List ak}(hl:xi l)(hn:l.length<=1000)(hl':xi l')(hn':l'.length<=1000)
  (h1:∀x,(∃e∈l,x∈said e/\aP x=false)↔∃e∈l',x∈said e/\aP x=false) (h2:∀x,(∃e∈l,aX e=true/\x=e.aj.Value)↔∃e∈l',aX e=true/\x=e.aj.Value)
  (h3:∀v x,x∈ends v l↔x∈ends v l'):fL l=fL l'/\fI l=fI l'/\∀v,bG l v=bG l' v:=by
 obtain⟨_,a2,_,a4⟩:=sN hl.aN hn;obtain⟨_,b2,_,b4⟩:=sN hl'.aN hn';obtain⟨_,c2,_,c4⟩:=xF hl.aN hn;obtain⟨_,d2,_,d4⟩:=xF hl'.aN hn';refine⟨EO.flip.unique a2 b2 fun x=> ?_,rC.unique c2 d2 fun x=> ?_,fun v=> ?_⟩
 ·rw[a4,b4];exact h1 x
 ·rw[c4,d4];exact h2 x
 ·obtain⟨_,e2,_,e4⟩:=nh hl.aN hn v;obtain⟨_,f2,_,f4⟩:=nh hl'.aN hn' v;refine Rb.unique (e2.imp fun h=>Qg h) (f2.imp fun h=>Qg h) fun x=> ?_
  rw[e4,f4];exact h3 v x
theorem Wl{l:List ak}(hl:xi l)(hn:l.length<=1000)(f:ak->ak)(hf:∀e∈l,f e={e with aO:=(f e).aO}/\aX (f e)=aX e):Alike l (l.map f):=by
 have e1:∀e∈l,(f e).aq=e.aq/\(f e).aa=e.aa/\(f e).aj=e.aj/\(f e).az=e.az/\(f e).av=e.av/\(f e).aJ=e.aJ/\(f e).bf=e.bf/\(f e).bM=e.bM:=fun e he=>by
  have:=(hf e he).1;rw[this];exact⟨rfl,rfl,rfl,rfl,rfl,rfl,rfl,rfl⟩
 have hl':xi (l.map f):=⟨by rw[QC];exact hl.len,fun e he=>by
  obtain⟨x,hx,rfl⟩:=QP.1 he
  rw[(e1 x hx).2.1];exact hl.aN x hx⟩
 have hm:∀(P:ak->Prop),(∀e∈l,P e↔P (f e))->((∃e∈l,P e)↔∃e∈l.map f,P e):=fun P hP=>⟨fun⟨e,he,hp⟩=>⟨f e,QP.2 ⟨e,he,rfl⟩,(hP e he).1 hp⟩,fun⟨e,he,hp⟩=>by
  obtain⟨x,hx,rfl⟩:=QP.1 he
  exact⟨x,hx,(hP x hx).2 hp⟩⟩
 have hsaid:∀e∈l,said (f e)=said e:=fun e he=>by
  obtain⟨g1,g2,g3,g4,g5,g6,g7,g8⟩:=e1 e he;unfold said at_
  rw[(hf e he).2,g4,g3,g5,g6]
 have hbnd:∀v,∀e∈l,kG v (f e)=kG v e:=fun v e he=>by
  obtain⟨g1,g2,g3,g4,g5,g6,g7,g8⟩:=e1 e he;unfold kG;simp only[(hf e he).2,g3,g7]
 obtain⟨a,b,c⟩:=TY hl hn hl' (by rw[QC];exact hn) (fun x=>hm _ fun e he=>by rw[hsaid e he]) (fun x=>hm _ fun e he=>by rw[(hf e he).2,(e1 e he).2.2.1])
  (fun v x=>by rw[GM,GM];exact hm _ fun e he=>by rw[hbnd v e he,(e1 e he).2.2.2.2.2.2.1,(e1 e he).2.2.2.2.2.2.2])
 refine⟨fun aG hn t=> ?_,fun p hp=> ?_,a,b,c⟩
 ·unfold ji;generalize (List.replicate 10 gM).set aG ⟨true,t⟩=ms
  suffices key:∀(k:List ak) (ms:List aU),(∀e∈k,e∈l)->k.foldl dA ms=(k.map f).foldl dA ms from key l ms fun e he=>he
  intro k
  induction k with
  |nil=>intro ms _;rfl
  |cons x k ih=>
   intro ms hk;have hx:=hk x Qx
   have:dA ms (f x)=dA ms x:=by
    unfold dA;rw[(hf x hx).2,(e1 x hx).1,(e1 x hx).2.1]
   rw[QD,QU,QU,this];exact ih _ fun e he=>hk e (Qy _ he)
 ·unfold dV
  suffices key:∀(k:List ak),(∀e∈k,e∈l)->iH p (k.filter aX)=iH p ((k.map f).filter aX)from key l fun e he=>he
  intro k
  induction k with
  |nil=>intro _;rfl
  |cons x k ih=>
   intro hk;have hx:=hk x Qx
   have hpx:p (f x)=p x:=by
    rw[(hf x hx).1];exact hp x _
   rw[QD,List.filter_cons,List.filter_cons,(hf x hx).2];split
   ·rw[iH,iH,hpx,(e1 x hx).1,ih fun e he=>hk e (Qy _ he)]
   ·exact ih fun e he=>hk e (Qy _ he)
structure kV (m:ah):Prop where
 zero:aP m.aj=true->m.aO=0
 pos:aP m.aj=false->1<=m.aO
theorem ZG{m:ah}(hs:kV m)(hz:aP m.aj=false):gL m=cR m:=by
 unfold gL
 have:bV (cR m).aO 1=(cR m).aO:=by
  have:=hs.pos hz;rw[OA];unfold bV;split<;>omega
 rw[this]
section
variable {m : ah} (h : bK m) (hs : kV m)
 include h
 include hs
end
end
section
theorem O5{m:ah}(h:bK m)(s:Int):cg {m with aO:=s}=(cg m).map (fun e=>if e.aq=m.aq then{e with aO:=bV s 1}else e):=by
 have hf:∀e∈m.aF,(if e.aq=m.aq then{e with aO:=bV s 1}else e)=e:=fun e he=>Qs (h.hv e he).2.2.2
 have hmap:m.aF.map (fun e=>if e.aq=m.aq then{e with aO:=bV s 1}else e)=m.aF:=by
  rw[Qq70 hf];simp
 have hown:gL {m with aO:=s}={gL m with aO:=bV s 1}:=by
  unfold gL cR eZ;split
  ·rfl
  ·split<;>rfl
 unfold cg;split
 ·exact hmap.symm
 ·rw[hown];have hn:(gL m).aq=m.aq:=Ei m
  suffices key:∀l:List ak,(∀e∈l,(if e.aq=m.aq then{e with aO:=bV s 1}else e)=e)->uD {gL m with aO:=bV s 1} l=(uD (gL m) l).map (fun e=>if e.aq=m.aq then{e with aO:=bV s 1}else e)from key _ hf
  intro l
  induction l with
  |nil=>
   intro _;simp only[uD,QD,QO,hn,Qt]
  |cons x l ih=>
   intro hx;unfold uD;simp only;split
   ·rw[QD,QD,hn,Qr rfl,hx x Qx,Qq70 (fun e he=>hx e (Qy _ he))]
    simp
   ·rw[QD,hx x Qx,ih fun e he=>hx e (Qy _ he)]
theorem J3{m:ah}(h:bK m){s:Int}(hs:0<=s/\s<=1000000):bK {m with aO:=s}:=by
 refine⟨h.n0,h.n1,h.bj,hs,h.aN,h.tt,h.hv,h.gJ,?_⟩;rcases h.body with k|k|k|k
 ·exact .inl ⟨k.bn,k.bc,k.dt,k.dO,k.dU,k.low,k.eU⟩
 ·exact .inr (.inl ⟨k.bn,k.bc,k.dt,k.dO,k.dU,k.up,k.eU,k.low⟩)
 ·exact .inr (.inr (.inl ⟨k.bn,k.bc,k.dt,k.dO,k.dU,k.range⟩))
 ·exact .inr (.inr (.inr ⟨k.bn,k.bc,k.dt,k.dO,k.dU,k.range⟩))
theorem nj{m:ah}(h:bK m){s:Int}(hs:0<=s/\s<=1000000):Alike (cg m) (cg {m with aO:=s}):=by
 rw[O5 h s];refine Wl h.ev.sD.1 h.ev.sD.2 _ fun e he=> ?_
 split
 ·rename_i hn;refine⟨rfl,?_⟩;rw[h.Ad e he];have hv:=h.Ad e he
  have hm:{e with aO:=bV s 1}∈cg {m with aO:=s}:=by
   rw[O5 h s];exact QP.2 ⟨e,he,Qr hn⟩
  exact(J3 h hs).Ad _ hm
 ·exact⟨rfl,rfl⟩
theorem Z6(m:ah)(s:Int)(b:ao):yT {m with aO:=s} b={yT m b with aO:=s}:=by
 unfold yT
 by_cases h:bJ m.aj b=true
 ·simp only[Qr h]
 ·simp only[Qs h]
theorem Uo(m:ah)(s:Int)(b:ao):oT {m with aO:=s} b={oT m b with aO:=s}:=by
 unfold oT
 by_cases h:m.bf=0/\cS m.aj b=true/\oq b.Value m.aj.an m.av m.aJ<=b.an
 ·simp only[Qr h]
 ·simp only[Qs h]
section
variable {m : ah} (h : bK m) {s : Int} (hs : 0 <= s /\ s <= 1000000)
 include h hs
theorem ZI:fo {m with aO:=s}=fo m:=((nj h hs).next h.ev.aG.2 m.aa _ _ _).symm
theorem Z4:jI {m with aO:=s}=jI m:=((nj h hs).eU h.ev.aG.2 m.aa _).symm
theorem KF:fS {m with aO:=s}=fS m:=((nj h hs).ready h.ev.aG.2 m.aa).symm
theorem WE:Hw {m with aO:=s}=Hw m:=((nj h hs).sure h.ev.aG.2 m.aa).symm
theorem aaf:jU {m with aO:=s}=jU m:=by
 unfold jU;rw[KF h hs];simp only;rw[<-(nj h hs).Cq,<-(nj h hs).first]
theorem aal:ec {m with aO:=s}=ec m:=by
 unfold ec;rw[KF h hs];simp only;rw[<-(nj h hs).iM]
theorem aak:mK {m with aO:=s}=mK m:=by
 unfold mK;rw[WE h hs];simp only;rw[<-(nj h hs).iM]
theorem Lx(n:Int):jv {m with aO:=s} n=jv m n:=by
 unfold jv;simp only;rw[<-(nj h hs).view _ h.ev.aG.2];rfl
theorem aaF:gS {m with aO:=s}=gS m:=by
 unfold gS;simp only;congr 1
 funext b e
 unfold lS;simp only[Lx h hs]
theorem Vf:dP {m with aO:=s}={dP m with aO:=s}:=by
 unfold dP;simp only[ZI h hs];split<;>rfl
theorem Vd:iz {m with aO:=s}={iz m with aO:=s}:=by
 unfold iz;simp only[Z4 h hs];split
 ·rfl
 ·rw[Z6,Uo]
theorem Vl:gG {m with aO:=s}={gG m with aO:=s}:=by
 unfold gG;simp only[aaf h hs,aal h hs];split
 ·split<;>rfl
 ·split<;>rfl
theorem Vj:kj {m with aO:=s}={kj m with aO:=s}:=by
 unfold kj;simp only[aak h hs];split<;>rfl
theorem Vh:fC {m with aO:=s}={fC m with aO:=s}:=by
 unfold fC;simp only[Lx h hs,aaF h hs];split<;>rfl
end
open Classical in
 def iT(m:ah):ah:=
 if dP m=m then(if iz m=m then(if gG m=m then(if kj m=m then fC m else kj m)else gG m)else iz m)else dP m
structure Kk (m:ah):Prop where
 p:dP m=m
 s:iz m=m
 c:gG m=m
 f:kj m=m
 k:fC m=m
theorem BI{m:ah}{Q:ah->Prop}(h1:Q (dP m))(h2:Q (iz m))(h3:Q (gG m))(h4:Q (kj m))(h5:Q (fC m)):Q (iT m):=by
 unfold iT;split
 ·split
  ·split
   ·split
    ·exact h5
    ·exact h4
   ·exact h3
  ·exact h2
 ·exact h1
theorem Kv{m:ah}(h:bK m):bK (iT m):=BI (Vg h) (Ve h) (Vm h) (Vk h) (Vi h)
theorem UK(m:ah):il m (iT m):=BI (KM m) (DC m) (DF m) (DE m) (DD m)
theorem WK{m:ah}(h:bK m):iT m=m\/jR m<jR (iT m):=BI (Q:=fun x=>x=m\/jR m<jR x) (aev h) (aeu h) (aey h) (aex h) (aew h)
theorem aeN(m:ah):(dP m).aj=m.aj:=by unfold dP;split<;>rfl
theorem WL{m:ah}(h:bK m)(hz:aP m.aj=false):aP (iT m).aj=false:=by
 have hb:P1 m\/P2 m\/P3 m:=h.body.resolve_left fun k=>by rw[k.bc,cp]at hz;cases hz
 refine BI (Q:=fun x=>aP x.aj=false) (by rw[aeN];exact hz) ?_ ?_ ?_ ?_
 ·rcases hb with k|k|k
  ·exact(Jz h k).1.bc.nz
  ·rw[qv (.inl (by rw[k.bn];decide))];exact hz
  ·rw[qv (.inl (by rw[k.bn];decide))];exact hz
 ·unfold gG;rcases hb with k|k|k
  ·rw[Qr k.bn];split
   ·rename_i hk;have hf:=Oq h hk;exact(ON (.inr k.bc) k.dt hf.fin hf.lo1 hf.le).bc.nz
   ·exact hz
  ·rw[Qs (by rw[k.bn];decide),Qr k.bn]
   obtain⟨g1,g2,g3,_⟩:=Oy h k;exact(TA k g1 g2 g3).bc.nz
  ·rw[Qs (by rw[k.bn];decide),Qs (by rw[k.bn];decide)];exact hz
 ·unfold kj;split
  ·rename_i hc;rcases hb with k|k|k
   ·have:=k.bn;have:=hc.1;omega
   ·exact(Ru h k hc.2).bc.nz
   ·have:=k.bn;have:=hc.1;omega
  ·exact hz
 ·cases ha:jv m m.aj.an with
  |false=>
   have:fC m=m:=Qr (.inr ha);rw[this];exact hz
  |true=>
   rcases hb with k|k|k
   ·exact(JA h (.inr k) ha).bc.nz
   ·exact(Rt h k).bc.nz
   ·have:fC m=m:=Qr (.inl k.bn);rw[this];exact hz
def fJ(m:ah):ah:=if aP m.aj=false then{m with aO:=bV m.aO 1}else m
theorem Rx{m:ah}(h:bK m):0<=bV m.aO 1/\bV m.aO 1<=1000000:=by
 have:=h.seq;unfold bV;split<;>omega
theorem Ni{m:ah}(h:bK m):bK (fJ m):=by
 unfold fJ;split
 ·exact J3 h (Rx h)
 ·exact h
theorem Ry{m:ah}(h:aP m.aj=true->m.aO=0):kV (fJ m):=by
 unfold fJ;split
 ·rename_i hz;exact⟨fun e=>(by rw[show({m with aO:=bV m.aO 1}:ah).aj=m.aj from rfl,hz]at e;cases e),fun _=>by show 1<=bV m.aO 1;unfold bV;split<;>omega⟩
 ·rename_i hz;exact⟨h,fun e=>absurd e hz⟩
theorem aai{m:ah}(h:bK m)(hf:Kk m){s:Int}(hs:0<=s/\s<=1000000):Kk {m with aO:=s}:=
 ⟨by rw[Vf h hs,hf.p],by rw[Vd h hs,hf.s],by rw[Vl h hs,hf.c],by rw[Vj h hs,hf.f],by rw[Vh h hs,hf.k]⟩
theorem Xo{m:ah}(h:bK m)(hf:Kk m):Kk (fJ m):=by
 unfold fJ;split
 ·exact aai h hf (Rx h)
 ·exact hf
theorem ZJ{m:ah}(hs:kV m):fJ m=m:=by
 unfold fJ;split
 ·rename_i hz;have:=hs.pos hz;have e:bV m.aO 1=m.aO:=by unfold bV;split<;>omega
  rw[e]
 ·rfl
structure Yp (R:ah->Prop) (m m':ah):Prop where
 inv:bK m'
 seq:kV m'
 env:m'.aq=m.aq/\m'.aE=m.aE/\m'.aa=m.aa/\m'.bU=m.bU/\m'.aF=m.aF
 num:m'.aO=m.aO\/(m.aO=0/\m'.aO=1)
 nz:aP m.aj=false->aP m'.aj=false
 rel:R m'
 fix:Kk m'
end
section
theorem Yf{α:Type}{s t:List α}(hl:s.length=t.length)(hn:s.length<=1000000){step:Int×Unit->Option ((Int×Unit)⊕Bool)}
  (h1:∀(i:Nat) (h:i<s.length) (h':i<t.length),decide ((i:Int)<((s.length:Nat):Int))=true->idx s (i:Int)=some s[i]->idx t (i:Int)=some t[i]->aB .i64 (i:Int) 1=((i+1:Nat):Int)->∃b:Bool,step ((i:Int),())=some (bif b then .inl (((i+1:Nat):Int),())else .inr false)/\(b=true↔s[i]=t[i]))
  (h2:decide (((s.length:Nat):Int)<((s.length:Nat):Int))=false->step (((s.length:Nat):Int),())=some (.inr true)):∃b,aD step (0,())=some b/\(b=true↔s=t):=by
 suffices key:∀(k i:Nat),i+k=s.length->∃b,aD step ((i:Int),())=some b/\(b=true↔s.drop i=t.drop i)from by simpa using key s.length 0 (by omega)
 intro k
 induction k with
 |zero=>
  intro i hi;obtain rfl:i=s.length:=by omega
  refine⟨true,cd (h2 (Qh (Qq63 _))),?_⟩;rw[List.drop_eq_nil_of_le (by omega),List.drop_eq_nil_of_le (by omega)]
  simp
 |succ k ih=>
  intro i hi;have hi':i<s.length:=by omega
  have hi'':i<t.length:=by omega
  obtain⟨b,h3,h4⟩:=h1 i hi' hi'' (Qg (by omega)) (by rw[bA];exact Qv hi') (by rw[bA];exact Qv hi'') (bY (by omega) (by omega))
  rw[QM hi',QM hi'',List.cons.injEq]
  cases b with
  |false=>
   refine⟨false,cd h3,?_⟩;simp only[Qq,false_iff]at h4 ⊢;exact fun h=>h4 h.1
  |true=>
   obtain⟨b,h5,h6⟩:=ih (i+1) (by omega)
   refine⟨b,(cm h3).trans h5,?_⟩;rw[h6];exact⟨fun h=>⟨h4.1 rfl,h⟩,fun h=>h.2⟩
theorem VK{α:Type}{s t:List α}(h:s.length≠t.length):(false=true↔s=t):=by
 simp only[Qq,false_iff];exact fun h1=>h (by rw[h1])
 def YM(a0:List Int)(a1:List Int):Option Bool:=
 bif (!decide (((List.length a0:Nat):Int)=((List.length a1:Nat):Int)))then
 some false
 else
 aD (fun(v1:Int×Unit)=>
 bif (decide (v1.1<((List.length a0:Nat):Int)))then
 Option.bind (idx a0 v1.1) fun x2=>
 Option.bind (idx a1 v1.1) fun x3=>
 bif (!decide (x2=x3))then
 Option.map Sum.inr (some false)
 else
 some (Sum.inl ((aB .i64 v1.1 (1:Int)),()))
 else
 Option.map Sum.inr (some true)) ((0:Int),())
theorem adA(s t:List Int)(h:s.length<=1000000):∃b,YM s t=some b/\(b=true↔s=t):=by
 unfold YM
 by_cases hl:s.length=t.length
 ·rw[Qg (by omega:((s.length:Nat):Int)=((t.length:Nat):Int)),Qo,Ql]
  refine Yf hl h (fun i hi hi' hd hx hy hw=> ?_) (fun hd=> ?_)
  ·refine⟨decide (s[i]=t[i]),?_,by simp⟩
   simp only[hd,hx,hy,hw,Qk,Qa];cases decide (s[i]=t[i])<;>rfl
  ·simp only[hd,Ql];rfl
 ·rw[Qh (by omega:¬((s.length:Nat):Int)=((t.length:Nat):Int)),Qp,Qk]
  exact⟨false,rfl,VK hl⟩
theorem ab2(s t:List Int)(h:s.length<=1000000):∃b,oH s t=some b/\(b=true↔s=t):=adA s t h
theorem UF(a b:ab):a=b↔a.aM=b.aM/\a.aH=b.aH/\a.aL=b.aL:=by
 cases a;cases b;simp
theorem acQ{n:Nat}:∀{a b:ab},SizeOf.sizeOf a<n->de a->∃r,kK n (a,b,())=some r/\(r=true↔a=b):=by
 induction n with
 |zero=>intro a b h;omega
 |succ n ih=>
  intro a b hs hm;show∃r,kM (kK n) a b=some r/\(r=true↔a=b);have hl:=hm.len;have hns:=hm.nodes;obtain⟨r,h1,h2⟩:=ab2 a.aH b.aH hns;rw[UF];unfold kM
  by_cases ht:a.aM=b.aM
  ·rw[Qg ht];simp only[Qo,Ql,h1,Qa]
   cases r with
   |false=>
    simp only[Qp,Qk,Qa];refine⟨false,rfl,?_⟩;simp only[Qq,false_iff]at h2 ⊢;exact fun h=>h2 h.2.1
   |true=>
    simp only[Qo,Ql,Qa]
    by_cases hi:a.aL.length=b.aL.length
    ·rw[Qg (by omega:((a.aL.length:Nat):Int)=((b.aL.length:Nat):Int)),Qo,Ql]
     have key:∀step:Int×Unit->Option ((Int×Unit)⊕Bool),(∃r,aD step (0,())=some r/\(r=true↔a.aL=b.aL))->∃r,aD step (0,())=some r/\(r=true↔a.aM=b.aM/\a.aH=b.aH/\a.aL=b.aL):=by
      rintro step ⟨r,h3,h4⟩;exact⟨r,h3,by rw[h4];exact⟨fun h=>⟨ht,h2.1 rfl,h⟩,fun h=>h.2.2⟩⟩
     refine key _ (Yf hi hl (fun i hi hi' hd hx hy hw=> ?_) (fun hd=> ?_))
     ·have hu:=QZ hi;obtain⟨r,h3,h4⟩:=ih (a:=a.aL[i]) (b:=b.aL[i]) (by have:=jt hu;omega) (hm.inner _ hu)
      refine⟨r,?_,h4⟩;simp only[hd,hx,hy,hw,Qk,Qa,ab.eta,h3];cases r<;>rfl
     ·simp only[hd,Ql];rfl
    ·rw[Qh (by omega:¬((a.aL.length:Nat):Int)=((b.aL.length:Nat):Int)),Qp,Qk]
     refine⟨false,rfl,?_⟩;simp only[Qq,false_iff];exact fun h=>hi (by rw[h.2.2])
  ·rw[Qh ht];refine⟨false,rfl,?_⟩;simp only[Qq,false_iff];exact fun h=>ht h.1
theorem Hb{a b:ab}(h:de a):∃r,dy a b=some r/\(r=true↔a=b):=acQ (by omega) h
theorem aan(a b:Int)(s t:ByteArray):ml false a b s t=(decide (a=b)&&decide (s=t)):=by
 simp
theorem TT(a b:ao):a=b↔a.an=b.an/\a.Value=b.Value:=by
 cases a;cases b;simp
theorem aao(a b:ak):a=b↔a.aq=b.aq/\a.aE=b.aE/\a.aO=b.aO/\a.aa=b.aa/\a.az=b.az/\a.aj=b.aj/\a.av=b.av/\a.aJ=b.aJ/\a.bf=b.bf/\a.bM=b.bM:=by
 cases a;cases b;simp
theorem aaC(a b:Bool):(bif a then some b else some false)=some (a&&b):=by cases a<;>rfl
theorem aeS{a b:ak}(h:de a.aa):∃r,iS a b=some r/\(r=true↔a=b):=by
 obtain⟨r,h1,h2⟩:=Hb (a:=a.aa) (b:=b.aa) h;have hc:∀x:Bool,(bif x then some r else some false)=some (x&&r):=fun x=>by cases x<;>rfl
 refine⟨_,by simp only[iS,ab.eta,h1,Qa,aaC,hc,aan];rfl,?_⟩
 rw[aao];simp only[Qm,Qi,h2,TT];constructor
 ·rintro⟨⟨⟨⟨⟨⟨⟨⟨⟨h1,h2⟩,h3⟩,h4⟩,h5⟩,h6⟩,h7⟩,h8⟩,h9⟩,h10⟩;exact⟨h1,h2,h3,h4,h5,h6,h7,h8,h9,h10⟩
 ·rintro⟨h1,h2,h3,h4,h5,h6,h7,h8,h9,h10⟩;exact⟨⟨⟨⟨⟨⟨⟨⟨⟨h1,h2⟩,h3⟩,h4⟩,h5⟩,h6⟩,h7⟩,h8⟩,h9⟩,h10⟩
end
section
theorem Tm{m:ah}(h:bK m){ρ:Type}{step:Int×Unit->Option ((Int×Unit)⊕ρ)}{fin:Option ρ}
  (h1:∀(i:Nat) (e:ak),e∈m.aF->decide ((i:Int)<((m.aF.length:Nat):Int))=true->idx m.aF (i:Int)=some e->aB .i64 (i:Int) 1=((i+1:Nat):Int)->
   (i=0\/(decide ((0:Int)<(i:Int))=true/\∃x,idx m.aF (ez .i64 (i:Int) 1)=some x/\decide (e.aq<=x.aq)=false))->step ((i:Int),())=some (.inl (((i+1:Nat):Int),())))
  (h2:decide (((m.aF.length:Nat):Int)<((m.aF.length:Nat):Int))=false->step (((m.aF.length:Nat):Int),())=Option.map Sum.inr fin):aD step (0,())=fin:=by
 have hl:=h.len;refine w5 m.aF.length (by omega) (fun i hi hd hw=> ?_) h2
 have hx:idx m.aF (i:Int)=some m.aF[i]:=by rw[bA];exact Qv hi
 refine h1 i m.aF[i] (QZ hi) hd hx hw ?_
 cases i with
 |zero=>exact .inl rfl
 |succ i=>
  refine .inr ⟨Qg (by omega),m.aF[i],?_,?_⟩
  ·have:ez .i64 ((i+1:Nat):Int) 1=(i:Int):=by rw[nS (by omega) (by omega)];omega
   rw[this,bA];exact Qv (by omega)
  ·have:=List.pairwise_iff_getElem.1 h.gJ i (i+1) (by omega) hi (by omega)
   exact Qh (by omega)
theorem JB{m:ah}(h:bK m)(hs:kV m)(hz:aP m.aj=false):aX (cR m)=true:=by
 rw[<-ZG hs hz];exact KO h hz
theorem rP{m:ah}(h:bK m)(hs:kV m):fU m=some true:=by
 have d1:decide (m.aq<0)=false:=Qh (by have:=h.n0;omega)
 have d2:decide ((9:Int)<m.aq)=false:=Qh (by have:=h.n1;omega)
 have d3:decide (m.aE<1)=false:=Qh (by have:=h.bj;omega)
 have d4:decide ((1000000:Int)<m.aE)=false:=Qh (by have:=h.bj;omega)
 have d5:decide (m.aO<0)=false:=Qh (by have:=h.seq;omega)
 have d6:decide ((1000000:Int)<m.aO)=false:=Qh (by have:=h.seq;omega)
 have d7:decide ((200:Int)<((m.bU.size:Nat):Int))=false:=Qh (by have:=h.tt;omega)
 have hm:de (cR m).aa:=by rw[o3];exact h.aN.sm
 unfold fU;simp only[d1,d2,d3,d4,d5,d6,d7,Ql,Qa,ab.eta,fH h.aN,decide_true,Qo];refine Tm h (fun i e he hd hx hw hi=> ?_) (fun hd=> ?_)
 ·obtain⟨g1,g2,g3,g4⟩:=h.hv e he;simp only[hd,hx,hw,Qk,Qa,bz,ab.eta,ak.eta,iy g2.sm,g1,Qo,Ql,Qg g3,Qh g4];rcases hi with rfl|⟨hi,x,hx2,hn⟩
  ·rfl
  ·rw[hi,hx2];simp only[Qk,Qa,hn,Ql]
 ·simp only[hd,Ql];congr 1;simp only[cT,zr,pU,ft,Qa,ab.eta,ah.eta,ak.eta,uH,iy hm]
  cases hz:aP m.aj with
  |true=>
   have h0:P0 m:=by
    rcases h.body with k|k|k|k
    ·exact k
    ·rw[k.bc.nz]at hz;cases hz
    ·rw[k.bc.nz]at hz;cases hz
    ·rw[k.bc.nz]at hz;cases hz
   simp only[h0.bn,hs.zero hz,h0.dt,h0.dO,h0.dU,h0.low,h0.eU,cp,decide_true,Qk,Qa]
  |false=>
   have hv:=JB h hs hz;simp only[hv,Ql,Qo];rcases h.body with k|k|k|k
   ·rw[k.bc,cp]at hz;cases hz
   ·simp only[k.bn,k.eU,decide_true,Qo,Ql,Qa,Qp,Qk,show decide ((1:Int)=3)=false from rfl,show decide ((1:Int)=2)=false from rfl]
    rcases k.dU with e|⟨hf,hp⟩
    ·rw[e,cp];rfl
    ·rw[hf.nz,hf.valid,Qh (show¬1000<m.aC.an by have:=hf.2.1;omega),hp];rfl
   ·simp only[k.bn,k.dO,cp,show decide ((2:Int)=1)=false from rfl,show decide ((2:Int)=3)=false from rfl,decide_true,Qo,Ql,Qa,Qp,Qk]
    rcases k.dU with e|⟨hf,hp⟩
    ·rw[e,cp];rfl
    ·rw[hf.nz,hf.valid,Qh (show¬1000<m.aC.an by have:=hf.2.1;omega),kp.2 hp];rfl
   ·simp only[k.bn,k.dO,k.dt,k.dU,cp,show decide ((3:Int)=1)=false from rfl,show decide ((3:Int)=2)=false from rfl,decide_true,Qo,Ql,Qa,Qp,Qk]
end
section
theorem GJ(x:ah):(fJ x).aq=x.aq/\(fJ x).aE=x.aE/\(fJ x).aa=x.aa/\(fJ x).bU=x.bU/\(fJ x).aF=x.aF/\(fJ x).aj=x.aj:=by
 unfold fJ;split<;>exact⟨rfl,rfl,rfl,rfl,rfl,rfl⟩
theorem Xn{x:ah}(hx:bK x):(fJ x).aO=x.aO\/(x.aO=0/\(fJ x).aO=1):=by
 have:=hx.seq;unfold fJ;split
 ·show bV x.aO 1=x.aO\/(x.aO=0/\bV x.aO 1=1);unfold bV;split<;>omega
 ·exact .inl rfl
theorem yE{m m':ah}(he:il m m')(h:¬m'=m):zE m m'=false:=by
 cases hs:zE m m' with
 |false=>rfl
 |true=>exact absurd (WO he hs) h
theorem Wn{R:ah->Prop}(hR1:∀m,bK m->R m->R (iT m))(hR2:∀m,R m->R (fJ m)){m:ah}(h:bK m)(hs:kV m)(hr:R m):Yd (qi m) (Yp R m):=by
 unfold qi;simp only[ah.eta,ab.eta,rP h hs,Qa,Qo,Ql];refine Yd.down (fun s=>bK s.1/\R s.1/\il m s.1/\(aP m.aj=false->aP s.1.aj=false)) (fun s=>K1+K2 - jR s.1) ?_ ⟨h,hr,il.refl m,id⟩
 rintro⟨x,z,_⟩ ⟨hx,hrx,hex,hzx⟩;simp only at hx hrx hex hzx;simp only[bz,SY hx.ev,Qa,abl]
 have hgo:∀{y:ah},y=iT x->¬y=x->(bK y/\R y/\il m y/\(aP m.aj=false->aP y.aj=false))/\K1+K2 - jR y<K1+K2 - jR x:=by
  rintro y rfl hne;have hv:=UK x;have hup:=(WK hx).resolve_left hne;have h1:=Zh (Kv hx);exact⟨⟨Kv hx,hR1 _ hx hrx,⟨hv.aG.trans hex.aG,hv.bj.trans hex.bj,hv.seq.trans hex.seq,hv.aN.trans hex.aN,hv.tt.trans hex.tt,hv.heard.trans hex.heard⟩,fun hz=>WL hx (hzx hz)⟩,by omega⟩
 by_cases hP:dP x=x
 ·simp only[hP,ub,Qk,PU hx.ev,Qa]
  by_cases hS:iz x=x
  ·simp only[hS,ub,Qk,PW hx.ev,Qa]
   by_cases hC:gG x=x
   ·simp only[hC,ub,Qk,aaj hx.ev,Qa]
    by_cases hF:kj x=x
    ·simp only[hF,ub,Qk,X5 hx.ev,Qa];have e:iT x=fC x:=by unfold iT;rw[Qr hP,Qr hS,Qr hC,Qr hF]
     by_cases hK:fC x=x
     ·simp only[hK,ub,Qk,cT,Qa]
      have hnum:(bif !aP x.aj then Option.map Sum.inr (some (⟨x.aq,x.aE,bV x.aO (1:Int),x.aa,x.ba,x.aj,x.av,x.aJ,x.aC,x.bf,x.bM,x.bU,x.aF⟩:ah))else Option.map (Sum.inr (α:=ah×ah×Unit)) (some x))=some (Sum.inr (fJ x)):=by
       unfold fJ;cases aP x.aj<;>rfl
      rw[hnum];obtain⟨e1,e2,e3,e4,e5,e6⟩:=GJ x;refine .some ⟨Ni hx,Ry fun hz=> ?_,⟨e1.trans hex.aG,e2.trans hex.bj,e3.trans hex.aN,e4.trans hex.tt,e5.trans hex.heard⟩,?_,fun hz=>by rw[e6];exact hzx hz,hR2 _ hrx,Xo hx ⟨hP,hS,hC,hF,hK⟩⟩
      ·rw[hex.seq];refine hs.zero ?_
       cases hzz:aP m.aj with
       |true=>rfl
       |false=>rw[hzx hzz]at hz;cases hz
      ·have:=Xn hx;rw[hex.seq]at this;exact this
     ·simp only[yE (DD x) hK,Ql];exact .some (hgo e.symm hK)
    ·simp only[yE (DE x) hF,Ql];have e:iT x=kj x:=by unfold iT;rw[Qr hP,Qr hS,Qr hC,Qs hF]
     exact .some (hgo e.symm hF)
   ·simp only[yE (DF x) hC,Ql];have e:iT x=gG x:=by unfold iT;rw[Qr hP,Qr hS,Qs hC]
    exact .some (hgo e.symm hC)
  ·simp only[yE (DC x) hS,Ql];have e:iT x=iz x:=by unfold iT;rw[Qr hP,Qs hS]
   exact .some (hgo e.symm hS)
 ·simp only[yE (KM x) hP,Ql];have e:iT x=dP x:=by unfold iT;rw[Qs hP]
  exact .some (hgo e.symm hP)
open Classical in
 def uL(m m2:ah):ah:=if aP m.aj=false/\{cR m with aO:=0}≠{cR m2 with aO:=0}then{m2 with aO:=eS (m2.aO+1) 1000000}else m2
theorem OQ(m m2:ah):∃s,uL m m2={m2 with aO:=s}/\(s=m2.aO\/s=eS (m2.aO+1) 1000000):=by
 unfold uL;split
 ·exact⟨_,rfl,.inr rfl⟩
 ·exact⟨m2.aO,rfl,.inl rfl⟩
theorem PX{m m2:ah}(h:bK m2):∃s,uL m m2={m2 with aO:=s}/\m2.aO<=s/\0<=s/\s<=1000000:=by
 obtain⟨s,h1,h2⟩:=OQ m m2;have:=h.seq;refine⟨s,h1,?_⟩;rcases h2 with rfl|rfl
 ·omega
 ·unfold eS;split<;>omega
theorem X7{m m2:ah}(h:bK m2):bK (uL m m2):=by
 obtain⟨s,h1,h2⟩:=PX (m:=m) h;rw[h1];exact J3 h h2.2
theorem aaH{m m2:ah}(h:bK m2)(hs:kV m2)(hnz:aP m.aj=false->aP m2.aj=false):kV (uL m m2):=by
 unfold uL;split
 ·rename_i hc;have:=hs.pos (hnz hc.1);refine⟨fun hz=> ?_,fun _=> ?_⟩
  ·rw[show({m2 with aO:=eS (m2.aO+1) 1000000}:ah).aj=m2.aj from rfl,hnz hc.1]at hz
   cases hz
  ·show 1<=eS (m2.aO+1) 1000000;unfold eS;split<;>omega
 ·exact hs
def O9(R:ah->Prop)(m m1:ah)(q:ah×Int×Unit):Prop:=∃m2,q=(uL m m2,(0:Int),())/\Yp R (fJ m1) m2
theorem aap{m:ah}(h:bK m):de ({cR m with aO:=0}:ak).aa:=by rw[show({cR m with aO:=0}:ak).aa=(cR m).aa from rfl,o3];exact h.aN.sm
theorem xJ{R:ah->Prop}(hR1:∀m,bK m->R m->R (iT m))(hR2:∀m,R m->R (fJ m)){m m1:ah}(h:bK m)(h1:bK m1)(hz1:aP m1.aj=true->m1.aO=0)(hnz:aP m.aj=false->aP m1.aj=false)(hr:R m1):
  Yd (fP m (fJ m1)) fun q=>∃m2,q=uL m m2/\Yp R (fJ m1) m2:=by
 unfold fP;simp only[ah.eta,ab.eta];refine Yd.bind (Wn hR1 hR2 (Ni h1) (Ry hz1) (hR2 _ hr)) fun m2 ha=> ?_
 have hq:=ha.inv.seq;obtain⟨r,g1,g2⟩:=aeS (a:={cR m with aO:=0}) (b:={cR m2 with aO:=0}) (aap h)
 have hadd:aB .i64 m2.aO 1=m2.aO+1:=bY (by omega) (by omega)
 simp only[cT,Qa,uH,bz,g1,hadd]
 cases hz2:aP m2.aj with
 |true=>
  have hz:aP m.aj=true:=by
   cases hc:aP m.aj with
   |true=>rfl
   |false=>rw[ha.nz (by rw[(GJ m1).2.2.2.2.2];exact hnz hc)]at hz2;cases hz2
  refine .some ⟨m2,?_,ha⟩;unfold uL;rw[Qs (by rw[hz];rintro⟨e,_⟩;cases e)]
 |false=>
  refine Yd.of_eq (x:=uL m m2) ?_ ⟨m2,rfl,ha⟩;unfold uL
  cases hz:aP m.aj with
  |true=>rw[Qs (by rintro⟨e,_⟩;cases e)];rfl
  |false=>
   cases r with
   |true=>rw[Qs (fun e=>e.2 (g2.1 rfl))];rfl
   |false=>rw[Qr ⟨rfl,fun e=>by have:=g2.2 e;cases this⟩];rfl
theorem KI{l:List ak}{e:ak}(hv:aX e=true):
  (∃x∈l,x.aq=e.aq/\e.aO<=x.aO/\vL l e=(l,false,()))\/
  (∃a b,((∃x,l=a++x::b/\x.aq=e.aq/\x.aO<e.aO)\/(l=a++b/\(∀x∈l,x.aq≠e.aq)/\(∀x∈a,¬e.aq<x.aq)/\(∀x,b.head?=some x->e.aq<x.aq)))/\vL l e=(a++e::b,true,())):=by
 unfold vL;rw[Qr hv]
 cases hf:l.findIdx? (fun x=>decide (x.aq=e.aq))with
 |some i=>
  obtain⟨hi,h2,_⟩:=List.findIdx?_eq_some_iff_getElem.1 hf;have hx:l[i]?=some l[i]:=Qv hi;have h2:=of_decide_eq_true h2;simp only[hx,Q2]
  by_cases hle:e.aO<=l[i].aO
  ·left;rw[Qr hle];exact⟨l[i],QZ hi,h2,hle,rfl⟩
  ·right;rw[Qs hle];refine⟨l.take i,l.drop (i+1),.inl ⟨l[i],?_,h2,by omega⟩,?_⟩
   ·rw[List.getElem_cons_drop];exact(List.take_append_drop i l).symm
   ·rw[List.set_eq_take_append_cons_drop,Qr hi]
 |none=>
  right
  have hne:∀x∈l,x.aq≠e.aq:=fun x hx he=>by
   have:=List.findIdx?_eq_none_iff.1 hf x hx;rw[he]at this;simp at this
  refine⟨l.take (I9 l e),l.drop (I9 l e),.inr ⟨(List.take_append_drop _ l).symm,hne,?_,?_⟩,by rw[QL];rfl⟩
  ·intro x hx hlt;obtain⟨j,hj,rfl⟩:=List.getElem_of_mem hx;rw[List.getElem_take]at hlt;rw[List.length_take]at hj;unfold I9 at hj
   cases hg:l.findIdx? (fun x=>decide (e.aq<x.aq))with
   |none=>
    have:=List.findIdx?_eq_none_iff.1 hg _ (QZ (show j<l.length by omega))
    simp[hlt]at this
   |some k=>
    obtain⟨_,_,h3⟩:=List.findIdx?_eq_some_iff_getElem.1 hg;rw[hg,Q2]at hj;have:=h3 j (by omega)
    simp[hlt]at this
  ·intro x hx;rw[List.head?_drop]at hx;unfold I9 at hx
   cases hg:l.findIdx? (fun x=>decide (e.aq<x.aq))with
   |none=>rw[hg,Option.getD_none,Qq71 (QI _)]at hx;cases hx
   |some k=>
    obtain⟨hk,h2,_⟩:=List.findIdx?_eq_some_iff_getElem.1 hg;rw[hg,Q2,Qv hk]at hx;obtain rfl:=Option.some.inj hx;exact of_decide_eq_true h2
theorem Zx{l:List ak}{e:ak}{y:ak}(hy:y∈(vL l e).1):y=e\/y∈l:=by
 by_cases hv:aX e=true
 ·rcases KI (l:=l) hv with⟨x,_,_,_,h⟩|⟨a,b,h1,h⟩
  ·rw[h]at hy;exact .inr hy
  ·rw[h]at hy;rcases Qz.1 hy with hy|hy
   ·rcases h1 with⟨x,rfl,_⟩|⟨rfl,_⟩
    ·exact .inr (List.mem_append_left _ hy)
    ·exact .inr (List.mem_append_left _ hy)
   ·rcases QA.1 hy with hy|hy
    ·exact .inl hy
    ·rcases h1 with⟨x,rfl,_⟩|⟨rfl,_⟩
     ·exact .inr (List.mem_append_right _ (Qy _ hy))
     ·exact .inr (List.mem_append_right _ hy)
 ·unfold vL at hy;rw[Qs hv]at hy;exact .inr hy
theorem SX{l:List ak}{e:ak}(hl:l.Pairwise (fun a b=>a.aq<b.aq)):(vL l e).1.Pairwise (fun a b=>a.aq<b.aq):=by
 by_cases hv:aX e=true
 ·rcases KI (l:=l) hv with⟨x,_,_,_,h⟩|⟨a,b,h1,h⟩
  ·rw[h];exact hl
  ·rw[h];show(a++e::b).Pairwise _;rcases h1 with⟨x,rfl,hn,_⟩|⟨rfl,hne,ha,hb⟩
   ·rw[Qq68,Q3]at hl ⊢;obtain⟨g1,⟨g2,g3⟩,g4⟩:=hl;refine⟨g1,⟨fun y hy=> ?_,g3⟩,fun y hy z hz=> ?_⟩
    ·rw[<-hn];exact g2 y hy
    ·rcases QA.1 hz with rfl|hz
     ·rw[<-hn];exact g4 y hy x Qx
     ·exact g4 y hy z (Qy _ hz)
   ·rw[Qq68]at hl;rw[Qq68,Q3];obtain⟨g1,g3,g4⟩:=hl
    have hbe:∀y∈b,e.aq<y.aq:=by
     intro y hy
     cases b with
     |nil=>cases hy
     |cons z b=>
      have:=hb z rfl;rcases QA.1 hy with rfl|hy
      ·exact this
      ·have:=(Q3.1 g3).1 y hy;omega
    refine⟨g1,⟨hbe,g3⟩,fun y hy z hz=> ?_⟩
    rcases QA.1 hz with rfl|hz
    ·have h2:=ha y hy;have h3:=hne y (List.mem_append_left _ hy);omega
    ·exact g4 y hy z hz
 ·unfold vL;rw[Qs hv];exact hl
structure EG (m:ah) (e:ak):Prop where
 valid:aX e=true
 aN:cG e.aa
 bj:e.aE=m.aE
 aG:e.aq≠m.aq
 def Cc(m:ah)(e:ak):ah:={m with aF:=(vL m.aF e).1}
theorem Oh{m:ah}(h:bK m){e:ak}(he:EG m e):bK (Cc m e):=by
 refine⟨h.n0,h.n1,h.bj,h.seq,h.aN,h.tt,fun y hy=> ?_,SX h.gJ,?_⟩
 ·rcases Zx hy with rfl|hy
  ·exact⟨he.valid,he.aN,he.bj,he.aG⟩
  ·exact h.hv y hy
 ·rcases h.body with k|k|k|k
  ·exact .inl ⟨k.bn,k.bc,k.dt,k.dO,k.dU,k.low,k.eU⟩
  ·exact .inr (.inl ⟨k.bn,k.bc,k.dt,k.dO,k.dU,k.up,k.eU,k.low⟩)
  ·exact .inr (.inr (.inl ⟨k.bn,k.bc,k.dt,k.dO,k.dU,k.range⟩))
  ·exact .inr (.inr (.inr ⟨k.bn,k.bc,k.dt,k.dO,k.dU,k.range⟩))
def Cj(m:ah)(t:ab):ah:={m with aa:=t}
theorem OF{m:ah}(h:bK m){t:ab}(ht:cG t):bK (Cj m t):=by
 refine⟨h.n0,h.n1,h.bj,h.seq,ht,h.tt,h.hv,h.gJ,?_⟩;rcases h.body with k|k|k|k
 ·exact .inl ⟨k.bn,k.bc,k.dt,k.dO,k.dU,k.low,k.eU⟩
 ·exact .inr (.inl ⟨k.bn,k.bc,k.dt,k.dO,k.dU,k.up,k.eU,k.low⟩)
 ·exact .inr (.inr (.inl ⟨k.bn,k.bc,k.dt,k.dO,k.dU,k.range⟩))
 ·exact .inr (.inr (.inr ⟨k.bn,k.bc,k.dt,k.dO,k.dU,k.range⟩))
def jL(m:ah)(v:ByteArray):ah:=if aP m.aj=true then{m with bU:=v,aj:=⟨1,dB {m with bU:=v}⟩}else{m with bU:=v}
theorem Za{v:ByteArray}(h:1<=v.size):v≠gH:=by
 rintro rfl;exact absurd h (by decide)
theorem MD{m:ah}(h:P0 m){v:ByteArray}(hv:1<=v.size):dB {m with bU:=v}=v:=by
 unfold dB;rw[Qs (by rw[show({m with bU:=v}:ah).aC=m.aC from rfl,h.dU,cp];decide),Qs (by rw[show({m with bU:=v}:ah).ba=m.ba from rfl,h.bn];decide),Qr (Za hv)]
theorem M7{m:ah}(h:bK m){v:ByteArray}(hv:1<=v.size/\v.size<=200):bK (jL m v):=by
 unfold jL;rcases h.body with k|k|k|k
 ·rw[Qr (by rw[k.bc];exact cp),MD k hv.1]
  refine⟨h.n0,h.n1,h.bj,h.seq,h.aN,hv.2,h.hv,h.gJ,.inr (.inl ⟨k.bn,⟨by show(1:Int)<=1;omega,by show(1:Int)<=1000;omega,hv.1,hv.2⟩,.inl k.dt,.inl k.dO,.inl k.dU,?_,k.eU,.inl k.low⟩)⟩
  show bJ _ m.aC=false;rw[k.dU]
  cases hl:bJ (⟨1,v⟩:ao) cq with
  |false=>rfl
  |true=>have:=gE hl;exact absurd (show(1:Int)<=0 from this) (by decide)
 ·rw[Qs (by rw[k.bc.nz];decide)]
  exact⟨h.n0,h.n1,h.bj,h.seq,h.aN,hv.2,h.hv,h.gJ,.inr (.inl ⟨k.bn,k.bc,k.dt,k.dO,k.dU,k.up,k.eU,k.low⟩)⟩
 ·rw[Qs (by rw[k.bc.nz];decide)]
  exact⟨h.n0,h.n1,h.bj,h.seq,h.aN,hv.2,h.hv,h.gJ,.inr (.inr (.inl ⟨k.bn,k.bc,k.dt,k.dO,k.dU,k.range⟩))⟩
 ·rw[Qs (by rw[k.bc.nz];decide)]
  exact⟨h.n0,h.n1,h.bj,h.seq,h.aN,hv.2,h.hv,h.gJ,.inr (.inr (.inr ⟨k.bn,k.bc,k.dt,k.dO,k.dU,k.range⟩))⟩
def mz(m:ah):ah:={m with bf:=if dB m=m.aj.Value then m.bf else 0,aj:=⟨m.aj.an+1,dB m⟩}
theorem Wz{m:ah}(h:bK m)(h3:m.ba≠3)(hv:dB m≠gH):1<=(dB m).size/\(dB m).size<=200:=by
 have h1:m.ba=1->(m.aC=cq\/cU m.aC)->1<=(dB m).size/\(dB m).size<=200:=fun hp hc=>by
  refine P6 h hp hc ?_;refine Classical.byContradiction fun hn=>hv ?_
  simp only[not_or,Classical.not_not]at hn;obtain⟨a1,a2,a3⟩:=hn;unfold dB;rw[Qs (by rw[a3,cp];decide),Qs (by rw[hp];decide),Qs (by rw[a2];exact fun e=>e rfl),a1]
  rfl
 rcases h.body with k|k|k|k
 ·exact h1 k.bn (.inl k.dU)
 ·exact h1 k.bn (k.dU.imp_right And.left)
 ·unfold dB;rcases k.dU with e|⟨hf,_⟩
  ·rw[Qs (by rw[e,cp];decide),Qr (by rw[k.bn];decide)]
   exact k.bc.2.2
  ·rw[Qr hf.nz];exact hf.2.2
 ·exact absurd k.bn h3
theorem acV{m:ah}(k:P2 m):dB m=m.aj.Value:=by
 unfold dB;rcases k.dU with e|⟨hf,he⟩
 ·rw[Qs (by rw[e,cp];decide),Qr (by rw[k.bn];decide)]
 ·rw[Qr hf.nz,he]
theorem MJ{m:ah}(h:bK m)(h3:m.ba≠3)(hv:dB m≠gH)(hc:m.aj.an<1000):bK (mz m):=by
 have hsz:=Wz h h3 hv;refine⟨h.n0,h.n1,h.bj,h.seq,h.aN,h.tt,h.hv,h.gJ,?_⟩;have hfin:0<=m.aj.an->cU (mz m).aj:=fun h0=>⟨by show 1<=m.aj.an+1;omega,by show m.aj.an+1<=1000;omega,hsz⟩
 rcases h.body with k|k|k|k
 ·have h0:m.aj.an=0:=by rw[k.bc];rfl
  refine .inr (.inl ⟨k.bn,hfin (by omega),.inl k.dt,.inl k.dO,.inl k.dU,?_,k.eU,.inl ?_⟩)
  ·show bJ (⟨m.aj.an+1,dB m⟩:ao) m.aC=false;rw[k.dU]
   cases hl:bJ (⟨m.aj.an+1,dB m⟩:ao) cq with
   |false=>rfl
   |true=>have:=gE hl;exact absurd (show m.aj.an+1<=0 from this) (by omega)
  ·show(if dB m=m.aj.Value then m.bf else 0)=0
   rw[k.low,ite_self]
 ·have hb:=k.bc;have h0:0<=m.aj.an:=by have:=hb.1;omega
  refine .inr (.inl ⟨k.bn,hfin h0,k.dt,k.dO,k.dU,?_,k.eU,?_⟩)
  ·show bJ (⟨m.aj.an+1,dB m⟩:ao) m.aC=false
   cases hl:bJ (⟨m.aj.an+1,dB m⟩:ao) m.aC with
   |false=>rfl
   |true=>
    have h1:=gE hl;have h2:=GK k.up;exact absurd (show m.aj.an+1<=m.aC.an from h1) (by omega)
  ·show(if dB m=m.aj.Value then m.bf else 0)=0\/_
   by_cases he:dB m=m.aj.Value
   ·have hlow:(mz m).bf=m.bf:=by show(if dB m=m.aj.Value then m.bf else 0)=m.bf;rw[Qr he]
    have hhigh:eZ (mz m)=eZ m:=by
     show(if(!aP m.aC&&cS m.aC ⟨m.aj.an+1,dB m⟩)=true then m.aC.an else 0)=eZ m
     rw[he];rfl
    rw[Qr he,hlow,hhigh];rcases k.low with e|⟨g1,g2,g3⟩
    ·exact .inl e
    ·refine .inr ⟨g1,g2,?_⟩;show oz m.av m.aJ (dB m) m.bf=false;rw[he];exact g3
   ·rw[Qs he];exact .inl rfl
 ·have hb:=k.bc;have h0:0<=m.aj.an:=by have:=hb.1;omega
  have hv2:=acV k;have hval:(mz m).aj.Value=m.aj.Value:=hv2;have hlow:(mz m).bf=m.bf:=by show(if dB m=m.aj.Value then m.bf else 0)=m.bf;rw[Qr hv2]
  refine .inr (.inr (.inl ⟨k.bn,hfin h0,?_,k.dO,?_,?_⟩))
  ·rw[hval];exact k.dt
  ·rw[hval];exact k.dU
  ·rw[hlow];exact k.range
 ·exact absurd k.bn h3
end
section
def acU:ab:=⟨0,[],[]⟩
def Mi:ah:=⟨0,0,0,acU,0,cq,cq,cq,cq,0,0,gH,[]⟩
theorem Nh{m m1:ah}(hs:kV m)(hb:aP m1.aj=aP m.aj)(hq:m1.aO=m.aO):fJ m1=m1:=by
 refine ZJ ⟨fun hz=> ?_,fun hz=> ?_⟩
 ·rw[hq];exact hs.zero (by rw[<-hb];exact hz)
 ·rw[hq];exact hs.pos (by rw[<-hb];exact hz)
theorem oo{m:ah}{v:ByteArray}:(aP m.aj=false->aP (jL m v).aj=false)/\(jL m v).aO=m.aO:=by
 unfold jL;split
 ·rename_i hz;refine⟨fun e=> ?_,rfl⟩
  rw[hz]at e;cases e
 ·exact⟨fun e=>e,rfl⟩
theorem Xi{m:ah}(h:bK m){v:ByteArray}(hv:1<=v.size/\v.size<=200):aP (jL m v).aj=false:=by
 rcases h.body with k|k|k|k
 ·unfold jL;rw[Qr (by rw[k.bc];exact cp),MD k hv.1]
  exact cU.nz ⟨by show(1:Int)<=1;omega,by show(1:Int)<=1000;omega,hv.1,hv.2⟩
 ·exact oo.1 k.bc.nz
 ·exact oo.1 k.bc.nz
 ·exact oo.1 k.bc.nz
theorem EL{m:ah}(h:bK m):aP (mz m).aj=false:=by
 have:0<=m.aj.an:=by
  rcases h.body with k|k|k|k
  ·rw[k.bc];decide
  ·have:=k.bc.1;omega
  ·have:=k.bc.1;omega
  ·have:=k.bc.1;omega
 cases hz:aP (mz m).aj with
 |false=>rfl
 |true=>
  have:=zy.1 hz;have h2:m.aj.an+1=0:=congrArg ao.an this;omega
section
variable {R : ah -> Prop} (hR1 : ∀ m, bK m -> R m -> R (iT m)) (hR2 : ∀ m, R m -> R (fJ m)) {m : ah} (h : bK m) (hs : kV m)
 include hR1 hR2 h hs
theorem W8{v:ByteArray}(hv:1<=v.size/\v.size<=200)(hr:R (jL m v)):Yd (kX m v) (O9 R m (jL m v)):=by
 have d1:decide (((ByteArray.size v:Nat):Int)<(1:Int))=false:=Qh (by omega)
 have d2:decide ((200:Int)<((ByteArray.size v:Nat):Int))=false:=Qh (by omega)
 have hi:=M7 h hv;have hval:lu {m with bU:=v}=some (dB {m with bU:=v}):=Jl (m:={m with bU:=v}) ⟨h.ev.n0,h.ev.n1,h.ev.aN,h.ev.len,h.ev.sm,h.ev.valid⟩
 unfold kX;simp only[ah.eta,ab.eta,rP h hs,Qa,Qo,Ql,d1,d2,cT,bz]
 have key:Yd ((fP m (fJ (jL m v))).bind fun r5=>some (r5,(0:Int),())) (O9 R m (jL m v)):=
  Yd.bind (xJ hR1 hR2 h hi (fun hz=>by rw[oo.2];exact hs.zero (by cases hc:aP m.aj with|true=>rfl|false=>rw[oo.1 hc]at hz;cases hz)) oo.1 hr) fun q hq=>by
   obtain⟨m2,rfl,ha⟩:=hq;exact .some ⟨m2,rfl,ha⟩
 cases hz:aP m.aj with
 |true=>
  have hsq:=hs.zero hz
  have he:fJ (jL m v)=⟨m.aq,m.aE,1,m.aa,m.ba,⟨1,dB {m with bU:=v}⟩,m.av,m.aJ,m.aC,m.bf,m.bM,v,m.aF⟩:=by
   unfold fJ;rw[Qr (Xi h hv),oo.2,hsq];unfold jL;rw[Qr hz];rfl
  rw[he]at key;simp only[Qk];rw[show(⟨m.aq,m.aE,m.aO,m.aa,m.ba,m.aj,m.av,m.aJ,m.aC,m.bf,m.bM,v,m.aF⟩:ah)={m with bU:=v}from rfl,hval]
  exact key
 |false=>
  have he:fJ (jL m v)=⟨m.aq,m.aE,m.aO,m.aa,m.ba,m.aj,m.av,m.aJ,m.aC,m.bf,m.bM,v,m.aF⟩:=by
   rw[Nh hs (by rw[oo.1 hz,hz]) oo.2]
   unfold jL;rw[Qs (by rw[hz];decide)]
  rw[he]at key;exact key
theorem W7{e:ak}(he:EG m e)(hr:R (Cc m e)):Yd (jy m e) fun q=>(O9 R m (Cc m e) q/\(vL m.aF e).2.1=true)\/(q=(Mi,(9:Int),())/\(vL m.aF e).2.1=false):=by
 have hi:=Oh h he;have hlen:=h.len;have hput:=Zo (l:=m.aF) (fun x hx=>(h.hv x hx).2.1.sm) (by omega) (e:=e) he.aN.sm
 have hid:fJ (Cc m e)=Cc m e:=Nh hs rfl rfl;unfold jy;simp only[ah.eta,ab.eta,ak.eta,rP h hs,Qa,Qo,Ql,iy he.aN.sm,he.valid,Qh he.aG,Qg he.bj,hput]
 cases hp:(vL m.aF e).2.1 with
 |false=>exact .some (.inr ⟨rfl,rfl⟩)
 |true=>
  have:=xJ hR1 hR2 h hi hs.zero (fun e=>e) hr
  rw[hid]at this;refine Yd.bind this fun q hq=> ?_
  obtain⟨m2,rfl,ha⟩:=hq;exact .some (.inl ⟨⟨m2,rfl,by rw[hid];exact ha⟩,rfl⟩)
theorem W6(hr:R (mz m)):Yd (nr m) fun q=>(O9 R m (mz m) q/\m.ba≠3/\dB m≠gH/\m.aj.an<1000)\/(q=(Mi,(62:Int),())/\(m.ba=3\/dB m=gH))\/(q=(Mi,(3:Int),())/\1000<=m.aj.an):=by
 unfold nr;simp only[ah.eta,ab.eta,rP h hs,Qa,Qo,Ql,Jl h.ev,bz]
 by_cases h3:m.ba=3
 ·rw[Qg h3];exact .some (.inr (.inl ⟨rfl,.inl h3⟩))
 ·rw[Qh h3]
  by_cases hv:dB m=ByteArray.mk #[]
  ·rw[Qg hv];exact .some (.inr (.inl ⟨rfl,.inr hv⟩))
  ·rw[Qh hv]
   by_cases hc:(1000:Int)<=m.aj.an
   ·rw[Qg hc];exact .some (.inr (.inr ⟨rfl,hc⟩))
   ·rw[Qh hc];have hi:=MJ h h3 hv (by omega)
    have hb0:0<=m.aj.an:=by
     rcases h.body with k|k|k|k
     ·rw[k.bc];decide
     ·have:=k.bc.1;omega
     ·have:=k.bc.1;omega
     ·have:=k.bc.1;omega
    have hadd:aB .i64 m.aj.an 1=m.aj.an+1:=bY (by omega) (by omega)
    have key:Yd ((fP m (fJ (mz m))).bind fun r5=>some (r5,(0:Int),())) (O9 R m (mz m)):=
     Yd.bind (xJ hR1 hR2 h hi (fun hz=>by rw[EL h]at hz;cases hz) (fun _=>EL h) hr) fun q hq=>by
      obtain⟨m2,rfl,ha⟩:=hq;exact .some ⟨m2,rfl,ha⟩
    have he:fJ (mz m)=⟨m.aq,m.aE,bV m.aO 1,m.aa,m.ba,⟨m.aj.an+1,dB m⟩,m.av,m.aJ,m.aC,(if dB m=m.aj.Value then m.bf else 0),m.bM,m.bU,m.aF⟩:=by
     unfold fJ;rw[Qr (EL h)];rfl
    rw[he]at key;simp only[hadd,Ql]
    by_cases hev:dB m=m.aj.Value
    ·simp only[Qg hev,Qo,Ql];rw[Qr hev]at key;exact key.mono fun q hq=> .inl ⟨hq,h3,hv,by omega⟩
    ·simp only[Qh hev,Qp,Qk];rw[Qs hev]at key;exact key.mono fun q hq=> .inl ⟨hq,h3,hv,by omega⟩
theorem Xc{t:ab}(ht:cG t)(hr:R (Cj m t)):Yd (nv m t) (O9 R m (Cj m t)):=by
 have hi:=OF h ht;have hid:fJ (Cj m t)=Cj m t:=Nh hs rfl rfl;unfold nv;simp only[ah.eta,ab.eta,rP h hs,Qa,Qo,Ql,fH ht,decide_true];have:=xJ hR1 hR2 h hi hs.zero (fun e=>e) hr
 rw[hid]at this;refine Yd.bind this fun q hq=> ?_
 obtain⟨m2,rfl,ha⟩:=hq;exact .some ⟨m2,rfl,by rw[hid];exact ha⟩
end
def Tc(aG bj:Int)(t:ab):ah:=⟨aG,bj,0,t,1,cq,cq,cq,cq,0,0,gH,[]⟩
theorem aeJ{aG bj:Int}{t:ab}(h0:0<=aG)(h1:aG<10)(h2:1<=bj)(h3:bj<=1000000)(ht:cG t):wS aG bj t=some (Tc aG bj t,(0:Int),()):=by
 unfold wS;simp only[ab.eta,Qh (show¬aG<0 by omega),Qh (show¬(9:Int)<aG by omega),Qh (show¬bj<1 by omega),Qh (show¬(1000000:Int)<bj by omega),Ql,Qa,fH ht,decide_true,Qo]
 rfl
theorem ZK{aG bj:Int}{t:ab}(h0:0<=aG)(h1:aG<10)(h2:1<=bj)(h3:bj<=1000000)(ht:cG t):bK (Tc aG bj t)/\kV (Tc aG bj t):=
 ⟨⟨h0,h1,⟨h2,h3⟩,⟨by show(0:Int)<=0;omega,by show(0:Int)<=1000000;omega⟩,ht,(by show gH.size<=200;decide),(fun e he=>absurd he QR),List.Pairwise.nil,.inl ⟨rfl,rfl,rfl,rfl,rfl,rfl,rfl⟩⟩,⟨fun _=>rfl,fun hz=>absurd (show aP cq=false from hz) (by rw[cp];decide)⟩⟩
end
section
structure xV (n:Nat) (k:Int) (m:ah):Prop where
 n10:n<=10
 k1:1<=k
 kn:k<=n
 aN:m.aa=flat n k
 heard:∀e∈m.aF,e.aa=flat n k
theorem xV.all{n:Nat}{k:Int}{m:ah}(hf:xV n k m){e:ak}(he:e∈cg m):e.aa=flat n k:=by
 rcases Cw he with he|⟨_,rfl⟩
 ·exact hf.heard e he
 ·rw[BV];exact hf.aN
section
variable {n : Nat} {k : Int} {m : ah} (h : bK m) (hf : xV n k m)
 include h
 include hf
end
section
variable {l : List ak} (hv : ∀ e ∈ l, aX e = true) (hsm : ∀ e ∈ l, de e.aa) (hlen : l.length <= 1000)
 include hv hsm hlen
end
section
variable {n : Nat} {k : Int} {m : ah} (h : bK m) (hf : xV n k m)
 include h hf
end
section
variable {n : Nat} {k : Int} {m : ah} (h : bK m) (hf : xV n k m)
 include h hf
end
theorem xV.step{n:Nat}{k:Int}{m m':ah}(hf:xV n k m)(he:il m m'):xV n k m':=⟨hf.n10,hf.k1,hf.kn,by rw[he.aN];exact hf.aN,by rw[he.heard];exact hf.heard⟩
structure YX (n:Nat) (k:Int) (m:ah):Prop where
 inv:bK m
 seq:kV m
 flat:xV n k m
 nz:aP m.aj=false
 bj:m.aE=1
theorem YX.env{n:Nat}{k:Int}{m:ah}(h:YX n k m):aX (cR m)=true/\(cR m).aa=Go.Proofs.YtnhgcpiljggmmaaGreatDoor.flat n k/\(cR m).aE=1:=⟨JB h.inv h.seq h.nz,by rw[o3];exact h.flat.aN,by rw[Li];exact h.bj⟩
end
section
end
section
section
variable {n : Nat} {k : Int} (hn : n <= 10) (hk1 : 1 <= k) (hkn : k <= n) {i : Int} (hi0 : 0 <= i) (hi9 : i < 10) {v : ByteArray} (hv : 1 <= v.size /\ v.size <= 200)
 include hn hk1 hkn hi0 hi9
 include hv
end
end
section
def vz(m m1:ah):Prop:=
 (∃v,(1<=v.size/\v.size<=200)/\m1=jL m v)\/(∃e,EG m e/\m1=Cc m e)\/(m.ba≠3/\dB m≠gH/\m.aj.an<1000/\m1=mz m)\/(∃t,cG t/\m1=Cj m t)
structure ad4 (m m1:ah):Prop where
 inv:bK m1
 aG:m1.aq=m.aq
 bj:m1.aE=m.aE
 seq:m1.aO=m.aO
 nz:aP m.aj=false->aP m1.aj=false
theorem X9{m m1:ah}(h:bK m)(hb:vz m m1):ad4 m m1:=by
 rcases hb with⟨v,hv,rfl⟩|⟨e,he,rfl⟩|⟨h3,hv,hc,rfl⟩|⟨t,ht,rfl⟩
 ·exact⟨M7 h hv,by unfold jL;split<;>rfl,by unfold jL;split<;>rfl,oo.2,oo.1⟩
 ·exact⟨Oh h he,rfl,rfl,rfl,fun e=>e⟩
 ·exact⟨MJ h h3 hv hc,rfl,rfl,rfl,fun _=>EL h⟩
 ·exact⟨OF h ht,rfl,rfl,rfl,fun e=>e⟩
structure OkM (m:ah):Prop where
 inv:bK m
 seq:kV m
 fix:Kk m
 aG:m.aq=0
 bj:m.aE=1
theorem Zn{m:ah}(h:bK m)(hs:kV m){e:ak}(ht:de e.aa)(hbad:aX e=false\/e.aq=m.aq\/e.aE≠m.aE):jy m e=some (Mi,(61:Int),()):=by
 unfold jy;simp only[ah.eta,ab.eta,ak.eta,rP h hs,Qa,Qo,Ql,iy ht]
 cases hv:aX e with
 |false=>rfl
 |true=>
  by_cases hn:e.aq=m.aq
  ·rw[Qg hn];rfl
  ·have hsl:e.aE≠m.aE:=(hbad.resolve_left (by rw[hv];decide)).resolve_left hn
   rw[Qh hn,Qh hsl];rfl
end
section
abbrev Lp{σ ρ:Type}(I:σ->Prop)(p:ρ->Prop):σ⊕ρ->Prop
 | .inl s=>I s
 | .inr r=>p r
theorem Yd.Aa{σ ρ:Type}{step:σ->Option (σ⊕ρ)}{p:ρ->Prop}(inv:σ->Prop)(μ:σ->Nat)(h:∀s,inv s->Yd (step s) (Lp (fun s'=>inv s'/\μ s'<μ s) p)){s:σ}(hs:inv s):Yd (aD step s) p:=
 Yd.down inv μ (fun s hi=>(h s hi).mono fun y hy=>by cases y<;>exact hy) hs
theorem Yd.list{α σ τ ρ:Type}{p:ρ->Prop}{step:τ->Option (τ⊕ρ)}(l:List α)(hl:l.length<=1000000)(mk:Int->σ->τ)(inv:Nat->σ->Prop)
  (h1:∀(i:Nat) (x:α) (s:σ),inv i s->l.drop i=x::l.drop (i+1)->x∈l->i<l.length->decide ((i:Int)<((l.length:Nat):Int))=true->idx l (i:Int)=some x->aB .i64 (i:Int) 1=((i+1:Nat):Int)->Yd (step (mk (i:Int) s)) (Lp (fun t=>∃s',t=mk ((i+1:Nat):Int) s'/\inv (i+1) s') p))
  (h2:∀s,inv l.length s->decide (((l.length:Nat):Int)<((l.length:Nat):Int))=false->Yd (step (mk ((l.length:Nat):Int) s)) (Lp (fun _=>False) p))
  {s:σ} (h0:inv 0 s):Yd (aD step (mk 0 s)) p:=by
 suffices key:∀(k i:Nat) (s:σ),i+k=l.length->inv i s->Yd (aD step (mk (i:Int) s)) p from key l.length 0 s (by omega) h0
 intro k
 induction k with
 |zero=>
  intro i s hi hs;obtain rfl:i=l.length:=by omega
  refine Yd.loop ((h2 s hs (Qh (Qq63 _))).mono fun y hy=> ?_)
  cases y with
  |inl t=>exact hy.elim
  |inr r=>exact hy
 |succ k ih=>
  intro i s hi hs;have hi':i<l.length:=by omega
  refine Yd.loop ((h1 i l[i] s hs (QM hi') (QZ hi') hi' (Qg (by omega)) (by rw[bA];exact Qv hi') (bY (by omega) (by omega))).mono fun y hy=> ?_)
  cases y with
  |inl t=>
   grind
  |inr r=>exact hy
def mB(x:ByteArray):Prop:=1<=x.size/\x.size<=200
instance (x:ByteArray):Decidable (mB x):=by unfold mB;infer_instance
def V6:∀(x:ByteArray) (l:List ByteArray),Decidable (x∈l)
 |_,[]=>isFalse QR
 |x,y::l=>if h:x=y then isTrue (by rw[h];exact Qx)else match V6 x l with
  |isTrue h2=>isTrue (Qy _ h2)
  |isFalse h2=>isFalse fun e=>(QA.1 e).elim h h2
instance (x:ByteArray) (l:List ByteArray):Decidable (x∈l):=V6 x l
structure VL (l:List ByteArray):Prop where
 BA:∀x∈l,mB x
 asc:l.Pairwise (fun a b=>dW a b=true)
 len:l.length<=40
theorem VL.nil:VL []:=⟨fun x h=>absurd h QR,List.Pairwise.nil,by simp⟩
theorem VL.vC{l:List ByteArray}(h:VL l):l.length<=1000000:=QK h.len (by omega)
def Ac(a b:ByteArray):Int:=if a=b then 0 else if dW a b=true then -1 else 1
theorem BR(a b:ByteArray):gD a b=some (Ac a b):=by
 grind [gD,Ac,dW,mA]
theorem Eu{a b:ByteArray}:decide (Ac a b<0)=dW a b:=by
 unfold Ac
 by_cases h:a=b
 ·subst h;rw[Qr rfl,rC.irrefl];rfl
 ·rw[Qs h];cases dW a b<;>rfl
theorem Wc{a b:ByteArray}:decide (0<Ac a b)=dW b a:=by
 unfold Ac
 by_cases h:a=b
 ·subst h;rw[Qr rfl,rC.irrefl];rfl
 ·rw[Qs h]
  cases h1:dW a b with
  |true=>rw[rC.asymm h1];rfl
  |false=>
   cases h2:dW b a with
   |true=>rfl
   |false=>exact absurd (rC.total _ _ h1 h2) h
theorem TI{a b:ByteArray}:decide (0<=Ac a b)= !dW a b:=by
 rw[<-Eu (a:=a) (b:=b)]
 grind
theorem UZ(x:ByteArray):pI x=some (decide (mB x)):=by
 grind [pI,mB]
theorem M0(l:List ByteArray)(hl:l.length<=1000000)(x:ByteArray):kv l x=some (decide (x∈l)):=by
 unfold kv
 have h:Yd (aD (fun(v1:Int×Unit)=>
   bif (decide (v1.1<((List.length l:Nat):Int)))then
   Option.bind (idx l v1.1) fun x2=>
   bif (decide (x=x2))then
   Option.map Sum.inr (some true)
   else
   some (Sum.inl ((aB .i64 v1.1 (1:Int)),()))
   else
   Option.map Sum.inr (some false)) ((0:Int),())) (fun b=>b=decide (x∈l)):=by
  refine Yd.list l hl (fun i (_:Unit)=>(i,())) (fun i _=>x∉l.take i) ?_ ?_ (s:=()) (by simp)
  ·intro i y s hs hd hy hi hdec hx hadd;simp only;rw[hdec,Qk,hx,Qa,hadd]
   by_cases hxy:x=y
   ·rw[Qg hxy,Qk];exact .some (by subst hxy;exact(Qg hy).symm)
   ·rw[Qh hxy,Ql];refine .some ⟨(),rfl,?_⟩
    have hi2:l[i]?=some y:=by
     rw[bA]at hx;exact hx
    rw[List.take_add_one,hi2];simp only[Option.toList_some,Qz,Q4];exact fun h=>h.elim hs hxy
  ·intro s hs hdec;simp only;rw[hdec,Ql];rw[Q9]at hs;exact .some (Qh hs).symm
 obtain⟨b,h1,rfl⟩:=h;exact h1
theorem Oe{α:Type}[DecidableEq α]{lt:α->α->Bool}(x:α):∀(l:List α),x∉l->(dK lt x l).length=l.length+1
 |[],_=>rfl
 |y::l,h=>by
  have h1:y≠x:=fun e=>h (by rw[e];exact Qx)
  rw[dK]
  by_cases h2:lt y x=true
  ·rw[Qr h2,QE,Oe x l (fun e=>h (Qy _ e)),QE]
  ·rw[Qs h2,Qs h1];rfl
def DA(l:List ByteArray)(x:ByteArray):List ByteArray:=if x∈l\/40<=l.length then l else dK dW x l
theorem SM{l:List ByteArray}(h:VL l)(x:ByteArray):nQ l x=some (DA l x):=by
 have hl:=h.len;unfold nQ DA;rw[M0 l h.vC,Qa]
 by_cases hx:x∈l
 ·grind
 rw[Qh hx];simp only[Ql,Qa]
 by_cases h40:40<=l.length
 ·grind
 rw[Qh (by omega:¬(40:Int)<=((l.length:Nat):Int)),Qs (fun e=>e.elim hx h40)]
 simp only[Ql,bz];have hk:∀n,n<=100->aT 16 n=true:=fun n hn=>br ⟨by omega,by omega⟩
 have:=Yd.list (p:=fun r=>r=dK dW x l) (step:=fun(v3:Bool×Int×(List ByteArray)×Unit)=>
   bif (decide (v3.2.1<((List.length l:Nat):Int)))then
   Option.bind (idx l v3.2.1) fun x4=>
   Option.bind (bif (!v3.1)then
   Option.bind (gD x x4) fun r7=>
   some (decide (r7<(0:Int)))
   else some false) fun b8=>
   bif b8 then
   bif aT 16 (List.length v3.2.2.1+List.length [x])then
   bif aT 16 (List.length (v3.2.2.1++[x])+List.length [x4])then
   some (Sum.inl (true,(aB .i64 v3.2.1 (1:Int)),((v3.2.2.1++[x])++[x4]),()))
   else none
   else none
   else
   bif aT 16 (List.length v3.2.2.1+List.length [x4])then
   some (Sum.inl (v3.1,(aB .i64 v3.2.1 (1:Int)),(v3.2.2.1++[x4]),()))
   else none
   else
   Option.map Sum.inr (
   bif (!v3.1)then
   bif aT 16 (List.length v3.2.2.1+List.length [x])then
   some (v3.2.2.1++[x])
   else none
   else
   some v3.2.2.1)) l h.vC (fun i (s:Bool×List ByteArray)=>(s.1,i,s.2,()))
   (fun i s=>s.2.length<=2*i/\(s.1=false->s.2++dK dW x (l.drop i)=dK dW x l)/\(s.1=true->s.2++l.drop i=dK dW x l)) ?_ ?_ (s:=(false,[])) ⟨by simp,fun _=>by simp,fun e=>by cases e⟩
 ·obtain⟨r,h1,rfl⟩:=this;exact h1
 ·rintro i y ⟨d,out⟩ ⟨hs1,hs2,hs3⟩ hd hy hi hdec hx' hadd;simp only at hs1 hs2 hs3;simp only;rw[hdec,Qk,hx',Qa,hadd,BR,Qa,Eu];have hne:y≠x:=fun e=>hx (by rw[<-e];exact hy)
  have k1:aT 16 (out.length+[x].length)=true:=hk _ (by simp only[Q5];omega)
  have k2:aT 16 ((out++[x]).length+[y].length)=true:=hk _ (by simp only[QB,Q5];omega)
  have k3:aT 16 (out.length+[y].length)=true:=hk _ (by simp only[Q5];omega)
  rw[k1,k2,k3]
  cases d with
  |true=>
   simp only[Qo,Ql,Qa,Qk];refine .some ⟨(true,out++[y]),rfl,by simp only[QB,Q5];omega,fun e=>(by cases e),fun _=> ?_⟩
   rw[<-hs3 rfl,hd,QL];rfl
  |false=>
   have hs2:=hs2 rfl;rw[hd,dK]at hs2;simp only[Qp,Qk,Qa]
   cases hxy:dW x y with
   |true=>
    simp only[Qk];rw[Qs (by rw[rC.asymm hxy];simp),Qs hne]at hs2
    refine .some ⟨(true,(out++[x])++[y]),rfl,by simp only[QB,Q5];omega,fun e=>(by cases e),fun _=> ?_⟩
    grind
   |false=>
    simp only[Ql]
    have hyx:dW y x=true:=by
     cases hh:dW y x with
     |true=>rfl
     |false=>exact absurd (rC.total _ _ hh hxy) hne
    rw[Qr hyx]at hs2;refine .some ⟨(false,out++[y]),rfl,by simp only[QB,Q5];omega,fun _=> ?_,fun e=>by cases e⟩
    rw[<-hs2,QL];rfl
 ·rintro⟨d,out⟩ ⟨hs1,hs2,hs3⟩ hdec;simp only at hs1 hs2 hs3;simp only;have k1:aT 16 (out.length+[x].length)=true:=hk _ (by simp only[Q5];omega)
  rw[hdec,Ql,k1]
  cases d with
  |true=>
   have:=hs3 rfl;rw[Qq65,List.append_nil]at this;exact .some this
  |false=>
   have:=hs2 rfl;rw[Qq65]at this;exact .some this
theorem EX{l:List ByteArray}(h:VL l){x:ByteArray}(hx:mB x):VL (DA l x)/\(∀y∈l,y∈DA l x)/\(∀y∈DA l x,y=x\/y∈l)/\(x∉l->l.length<40->(DA l x).length=l.length+1):=by
 unfold DA
 by_cases h1:x∈l\/40<=l.length
 ·grind
 ·rw[Qs h1];have hm:=B2 (lt:=dW) x l;have hlen:=qJ (lt:=dW) x l;have h2:¬40<=l.length:=fun e=>h1 (.inr e)
  refine⟨⟨fun y hy=> ?_,rC.dK x h.asc,by omega⟩,fun y hy=>(hm y).2 (.inr hy),fun y hy=>(hm y).1 hy,fun h3 _=>Oe x l h3⟩
  rcases(hm y).1 hy with rfl|hy
  ·exact hx
  ·exact h.BA y hy
theorem Dw{l:List ByteArray}(h:VL l):jG l=some true:=by
 unfold jG;refine Yd.eq_true (Yd.list l h.vC (fun i (_:Unit)=>(i,())) (fun _ _=>True) ?_ ?_ (s:=()) trivial)
 ·intro i y s hs hd hy hi hdec hx hadd;simp only;rw[hdec,Qk,hx,Qa,UZ,Qa,Qg (h.BA y hy),hadd];simp only[Qo,Ql]
  by_cases h0:i=0
  ·subst h0;rw[Qh (by omega:¬(0:Int)<((0:Nat):Int))]
   exact .some ⟨(),rfl,trivial⟩
  ·rw[Qg (by omega:(0:Int)<(i:Int))]
   simp only[Qk];have hsub:ez .i64 (i:Int) 1=((i - 1:Nat):Int):=by rw[nS (by omega) (by have:=h.len;omega)];omega
   have hi1:i - 1<l.length:=by omega
   rw[hsub,bA,Qv hi1,Qa,BR,Qa,TI]
   have hyi:y=l[i]:=by
    grind [bA]
   have hlt:dW l[i - 1] y=true:=by
    rw[hyi];exact List.pairwise_iff_getElem.1 h.asc (i - 1) i hi1 hi (by omega)
   rw[hlt];exact .some ⟨(),rfl,trivial⟩
 ·intro s hs hdec;simp only;rw[hdec,Ql,Qg (by have:=h.len;omega:((l.length:Nat):Int)<=(40:Int))]
  exact .some rfl
theorem U3{s t:List ByteArray}(h:s.length<=1000000):∃b,fV s t=some b/\(b=true↔s=t):=by
 unfold fV
 by_cases hl:s.length=t.length
 ·rw[Qg (by omega:((s.length:Nat):Int)=((t.length:Nat):Int)),Qo,Ql]
  refine Yf hl h (fun i hi hi' hd hx hy hw=> ?_) (fun hd=> ?_)
  ·simp only;rw[hd,Qk,hx,hy,Qa,Qa,hw]
   by_cases he:s[i]=t[i]
   ·rw[Qg he];exact⟨true,rfl,by simp[he]⟩
   ·rw[Qh he];exact⟨false,rfl,by simp[he]⟩
  ·simp only;rw[hd,Ql];rfl
 ·rw[Qh (by omega:¬((s.length:Nat):Int)=((t.length:Nat):Int))]
  exact⟨false,rfl,VK hl⟩
theorem HO{a b:List ByteArray}{n:Nat}(hn:a.length+b.length<=n)(h:n<=100000):Yd (lv a b) fun r=>r.length<=n/\∀x∈r,x∈a\/x∈b:=by
 unfold lv;simp only[bz];refine Yd.Aa (fun(v:Int×Int×List ByteArray×Unit)=>∃i k:Nat,v.1=i/\v.2.1=k/\i<=a.length/\k<=b.length/\v.2.2.1.length<=i+k/\∀x∈v.2.2.1,x∈a\/x∈b) (fun v=>a.length+b.length - (v.1.toNat+v.2.1.toNat)) ?_ ⟨0,0,rfl,rfl,by omega,by omega,by simp,fun x hx=>absurd hx QR⟩
 rintro⟨i',k',out,u⟩ ⟨i,k,e1,e2,hi,hk,hlen,hmem⟩;simp only at e1 e2 hlen hmem;subst e1 e2;have kk:∀x:ByteArray,aT 16 (out.length+[x].length)=true:=fun x=>br ⟨by simp only[Q5];omega,by simp only[Q5];omega⟩
 have hi1:aB .i64 (i:Int) 1=((i+1:Nat):Int):=bY (by omega) (by omega)
 have hk1:aB .i64 (k:Int) 1=((k+1:Nat):Int):=bY (by omega) (by omega)
 have ga:i<a.length->∃x∈a,idx a (i:Int)=some x:=fun h=>⟨a[i],QZ h,by rw[bA];exact Qv h⟩
 have gb:k<b.length->∃x∈b,idx b (k:Int)=some x:=fun h=>⟨b[k],QZ h,by rw[bA];exact Qv h⟩
 have fin1:∀(x:ByteArray) (j1 j2:Nat),(x∈a\/x∈b)->j1<=a.length->j2<=b.length->i+k<j1+j2->Yd (bif aT 16 (out.length+[x].length)then some (Sum.inl (((j1:Nat):Int),((j2:Nat):Int),(out++[x]),()))else(none:Option ((Int×Int×List ByteArray×Unit)⊕List ByteArray)))
   (Lp (fun s'=>(∃i k:Nat,s'.1=i/\s'.2.1=k/\i<=a.length/\k<=b.length/\s'.2.2.1.length<=i+k/\∀x∈s'.2.2.1,x∈a\/x∈b)/\a.length+b.length - (s'.1.toNat+s'.2.1.toNat)<a.length+b.length - ((i:Int).toNat+(k:Int).toNat)) (fun r=>r.length<=n/\∀x∈r,x∈a\/x∈b)):=by
  intro x j1 j2 hx h1 h2 h3;rw[kk x,Qk];refine .some ⟨⟨j1,j2,rfl,rfl,h1,h2,?_,?_⟩,?_⟩
  ·simp only[QB,Q5];omega
  ·intro y hy;rcases Qz.1 hy with hy|hy
   ·exact hmem y hy
   ·rw[Q4.1 hy];exact hx
  ·simp only[QV];omega
 simp only
 by_cases c1:i<a.length
 ·obtain⟨x,hx,ex⟩:=ga c1;rw[Qg (by omega:(i:Int)<((a.length:Nat):Int))]
  simp only[Qk,Qa]
  grind [BR,Eu,Wc,dW]
 ·rw[Qh (by omega:¬(i:Int)<((a.length:Nat):Int))]
  simp only[Ql]
  by_cases c2:k<b.length
  ·grind
  ·rw[Qh (by omega:¬(k:Int)<((b.length:Nat):Int))]
   simp only[Ql,Qa];exact .some ⟨by omega,hmem⟩
theorem SQ{l:List ByteArray}(h:l.length<=1000000):Yd (oc l) fun r=>r.2.1=true->mB r.1:=by
 unfold oc;simp only[bz];refine Yd.list l h (fun i (s:ByteArray×Bool)=>(s.1,s.2,i,())) (fun _ s=>s.2=true->mB s.1) ?_ ?_ (s:=(_,false)) (fun e=>by cases e)
 ·rintro i y ⟨Cq,found⟩ hs hd hy hi hdec hx hadd;simp only at hs;simp only;rw[hdec,Qk,hx,Qa,UZ,Qa,hadd]
  by_cases hv:mB y
  ·rw[Qg hv];simp only[Qk]
   cases found with
   |false=>
    simp only[Qp,Qk,Qa];exact .some ⟨(y,true),rfl,fun _=>hv⟩
   |true=>
    simp only[Qo,Ql,Qa,BR]
    cases decide (0<Ac y Cq)with
    |true=>exact .some ⟨(y,true),rfl,fun _=>hv⟩
    |false=>exact .some ⟨(Cq,true),rfl,hs⟩
  ·rw[Qh hv];simp only[Ql,Qa];exact .some ⟨(Cq,found),rfl,hs⟩
 ·rintro⟨Cq,found⟩ hs hdec;simp only;rw[hdec,Ql];exact .some hs
end
section
theorem Yo{rec:(ab×Int×Unit)->Option (kT×Bool×Unit)}{t:ab}{x:Int}(hm:de t)(hr:∀u∈t.aL,Yd (rec (u,x,())) fun _=>True):Yd (oN rec t x) fun _=>True:=by
 unfold oN;simp only[ab.eta];refine Yd.list t.aH hm.nodes (fun i (s:kT)=>(i,s,())) (fun _ _=>True) ?_ ?_ trivial
 ·intro i y s hs hd hy hi hdec hx hadd;simp only;rw[hdec,Qk,hx,Qa,hadd]
  cases decide (y=x)with
  |true=>exact .some trivial
  |false=>exact .some ⟨s,rfl,trivial⟩
 ·intro s hs hdec;simp only;rw[hdec,Ql];refine Yd.map (Yd.list t.aL hm.len (fun i (s:kT)=>(i,s,())) (fun _ _=>True) ?_ ?_ trivial)
  ·intro i y s hs hd hy hi hdec hx hadd;simp only;rw[hdec,Qk,hx,Qa,hadd];refine Yd.bind (hr y hy) fun q _=> ?_
   cases q.2.1 with
   |true=>exact .some trivial
   |false=>exact .some ⟨s,rfl,trivial⟩
  ·intro s hs hdec;simp only;rw[hdec,Ql];exact .some trivial
theorem Yk{x:Int}{n:Nat}:∀{t:ab},SizeOf.sizeOf t<n->de t->Yd (wi n (t,x,())) fun _=>True:=by
 induction n with
 |zero=>intro t h;omega
 |succ n ih=>
  intro t hz hm;show Yd (oN (wi n) t x) fun _=>True
  exact Yo hm fun u hu=>ih (t:=u) (by have:=jt hu;omega) (hm.inner u hu)
theorem Zi{t:ab}(hm:de t)(x:Int):Yd (wm t x) fun _=>True:=Yk (by omega) hm
structure Jj (t:ab) (v bj round:Int):Prop where
 aN:cG t
 v0:0<=v
 v1:v<10
 s0:0<=bj
 s1:bj<=1000000
 r1:1<=round
 r2:round<=1000
theorem SO(a b c d:Int):∃r,rj a b c d=some r:=⟨_,rfl⟩
section
variable {t : ab} {v bj round : Int}
theorem U5(h:Jj t v bj round):pL t v bj round=some 0:=by
 have e1:=h.v0;have e2:=h.v1;have e3:=h.s0;have e4:=h.s1;have e5:=h.r1;have e6:=h.r2;unfold pL;simp only[ab.eta,fH h.aN,Qa];rw[Qh (by omega:¬v<0),Qh (by omega:¬(10:Int)<=v),Qh (by omega:¬bj<0),Qh (by omega:¬(1000000:Int)<bj),Qh (by omega:¬round<1),Qh (by omega:¬(1000:Int)<round)]
 rfl
theorem abr(h:Jj t v bj round)(k:Int):Yd (od t v bj round k) fun _=>True:=by
 unfold od;simp only[ab.eta,U5 h,Qa,bz];have h1:∀b:Bool,Yd (bif b then(some true:Option Bool)else some (decide (k<0))) fun _=>True:=fun b=>by cases b<;>exact .some trivial
 refine Yd.bind (h1 _) fun b1 _=> ?_
 have h2:∀b:Bool,Yd (bif b then(some true:Option Bool)else some (decide ((10:Int)<=k))) fun _=>True:=fun b=>by cases b<;>exact .some trivial
 refine Yd.bind (h2 _) fun b2 _=> ?_
 cases b2 with
 |true=>exact .some trivial
 |false=>
  simp only[Ql];refine Yd.bind (Zi h.aN.sm k) fun q _=> ?_
  obtain⟨hsh,eh⟩:=SO 1 bj round k;rw[eh];simp only[Qa]
  cases decide (k=v)with
  |true=>exact .some trivial
  |false=>
   cases q.2.1<;>exact .some trivial
theorem Rn(h:Jj t v bj round):Yd (oG t v bj round) fun q=>0<=q.1/\q.1<10/\q.2.1=0:=by
 unfold oG;simp only[ab.eta,U5 h,Qa,bz];simp only[decide_true,Qo,Ql];refine Yd.Aa (fun(s:Int×Int×Unit)=>0<=s.1/\s.1<10/\0<=s.2.1/\s.2.1<=10) (fun s=>(10 - s.2.1).toNat) ?_ ⟨h.v0,h.v1,Int.le_refl _,by show(0:Int)<=10;omega⟩
 rintro⟨b,k,u⟩ ⟨h1,h2,h3,h4⟩;simp only at h1 h2 h3 h4;simp only
 by_cases hk:k<10
 ·rw[Qg hk];have hadd:aB .i64 k 1=k+1:=bY (by omega) (by omega)
  simp only[Qk];rw[hadd]
  have fin:∀x:Int,0<=x->x<10->Yd (some (Sum.inl (x,k+1,())):Option ((Int×Int×Unit)⊕(Int×Int×Unit))) (Lp (fun s'=>(0<=s'.1/\s'.1<10/\0<=s'.2.1/\s'.2.1<=10)/\(10 - s'.2.1).toNat<(10 - k).toNat) (fun r=>0<=r.1/\r.1<10/\r.2.1=0)):=
   fun x g1 g2=> .some ⟨⟨g1,g2,by show 0<=k+1;omega,by show k+1<=10;omega⟩,by show(10 - (k+1)).toNat<(10 - k).toNat;omega⟩
  refine Yd.bind (abr h k) fun r _=> ?_
  cases r with
  |false=>exact fin b h1 h2
  |true=>
   obtain⟨hsh,eh⟩:=SO 2 bj round k;obtain⟨hsb,eb⟩:=SO 2 bj round b;rw[eh,eb];simp only[Qo,Ql,Qa];refine Yd.bind (p:=fun _=>True) ?_ fun b9 _=> ?_
   ·refine Yd.cond (fun _=> .some trivial) fun _=> ?_
    exact Yd.bind (p:=fun _=>True) (Yd.cond (fun _=> .some trivial) fun _=> .some trivial) fun _ _=> .some trivial
   ·cases b9 with
    |true=>exact fin k h3 hk
    |false=>exact fin b h1 h2
 ·rw[Qh hk];exact .some ⟨h1,h2,rfl⟩
theorem W9(h:Jj t v bj round):Yd (qk t v bj round) fun q=>∃s:Nat,q.1=s/\s<1024:=by
 have e5:=h.r1;have e6:=h.r2;unfold qk;simp only[ab.eta,bz];refine Yd.bind (Rn h) fun q ⟨_,_,hq⟩=> ?_
 rw[hq];simp only[decide_true,Qo,Ql];refine Yd.Aa (fun(s:Int×Int×Unit)=>(∃n:Nat,s.1=n/\n<1024)/\1<=s.2.1/\s.2.1<=round+1) (fun s=>(round+1 - s.2.1).toNat) ?_ ⟨⟨0,rfl,by omega⟩,Int.le_refl _,by show(1:Int)<=round+1;omega⟩
 rintro⟨b,k,u⟩ ⟨⟨n,h1,h2⟩,h3,h4⟩;simp only at h1 h3 h4;subst h1;simp only
 by_cases hk:k<=round
 ·rw[Qg hk];have hadd:aB .i64 k 1=k+1:=bY (by omega) (by omega)
  simp only[Qk];rw[hadd];refine Yd.bind (Rn ⟨h.aN,h.v0,h.v1,h.s0,h.s1,h3,by omega⟩) fun q ⟨g1,g2,_⟩=> ?_
  rw[oI,Qa]
  have fin:∀x:Nat,x<1024->Yd (some (Sum.inl ((x:Int),k+1,())):Option ((Int×Int×Unit)⊕(Int×Int×Unit))) (Lp (fun s'=>((∃n:Nat,s'.1=n/\n<1024)/\1<=s'.2.1/\s'.2.1<=round+1)/\(round+1 - s'.2.1).toNat<(round+1 - k).toNat) (fun r=>∃s:Nat,r.1=s/\s<1024)):=
   fun x g=> .some ⟨⟨⟨x,rfl,g⟩,by show 1<=k+1;omega,by show k+1<=round+1;omega⟩,by show(round+1 - (k+1)).toNat<(round+1 - k).toNat;omega⟩
  cases vW n q.1 with
  |true=>exact fin n h2
  |false=>
   simp only[Qp,Qk];rw[Qs (by omega),yc h2 g1 g2]
   exact fin _ (E3 h2 g2)
 ·rw[Qh hk];exact .some ⟨n,rfl,h2⟩
end
end
section
structure Cz (m:ax):Prop where
 n0:0<=m.aq
 n1:m.aq<10
 seq:1<=m.aO
 aN:cG m.aa
 gy:VL m.cx
 jw:VL m.bo
structure gV (n:aA):Prop where
 ask:Jj n.aa n.aq n.aE n.Round
 own:n.Own.size<=200
 gy:VL n.cx
 jw:VL n.bo
 rQ:VL n.dG
 sub:∀x∈n.dG,x∈n.bo
 heard:∀m∈n.aF,Cz m/\m.aq≠n.aq
 gJ:n.aF.Pairwise (fun a b=>a.aq<b.aq)
theorem Vw:∀(l:List ax) (k:Nat),k<=10->(∀e∈l,(k:Int)<=e.aq/\e.aq<10)->l.Pairwise (fun a b=>a.aq<b.aq)->l.length+k<=10
 |[],k,hk,_,_=>by simp;omega
 |e::l,k,hk,h,hp=>by
  rw[Q3]at hp;have h1:=h e Qx;have h2:=Vw l (k+1) (by omega) (fun x hx=>⟨by have:=hp.1 x hx;omega,(h x (Qy _ hx)).2⟩) hp.2
  rw[QE];omega
theorem gV.len{n:aA}(h:gV n):n.aF.length<=10:=by
 have:=Vw n.aF 0 (by omega) (fun e he=>⟨by have:=(h.heard e he).1.n0;omega,(h.heard e he).1.n1⟩) h.gJ
 omega
theorem abh{n:aA}(h:gV n):∀m∈n.aF++[(⟨n.aq,n.aO,n.aa,n.cx,n.bo⟩:ax)],0<=m.aq/\m.aq<10/\VL m.cx/\VL m.bo:=by
 intro m hm;rcases Qz.1 hm with hm|hm
 ·have:=(h.heard m hm).1;exact⟨this.n0,this.n1,this.gy,this.jw⟩
 ·rw[Q4.1 hm];exact⟨h.ask.v0,h.ask.v1,h.gy,h.jw⟩
theorem RP{α:Type}{l:List α}{i:Nat}{x:α}(h:idx l (i:Int)=some x):l[Int.toNat (i:Int)]?=some x:=by
 rw[bA]at h;exact h
theorem U2{n:aA}(h:gV n)(x:ByteArray):Yd (pJ n x) fun q=>∃a b:Nat,q.1=a/\q.2.1=b/\a<1024/\b<1024:=by
 have hlen:=h.len;have hall:=abh h;unfold pJ sR;simp only[ab.eta,Qa,bz];rw[br (by simp;omega),Qk,br (by simp;omega),Qk]
 simp only[List.nil_append];have hl2:(n.aF++[(⟨n.aq,n.aO,n.aa,n.cx,n.bo⟩:ax)]).length<=1000000:=by simp;omega
 refine Yd.list (n.aF++[(⟨n.aq,n.aO,n.aa,n.cx,n.bo⟩:ax)]) hl2 (fun i (s:Int×Int)=>(s.1,s.2,i,())) (fun _ s=>∃a b:Nat,s.1=a/\s.2=b/\a<1024/\b<1024) ?_ ?_ (s:=(0,0)) ⟨0,0,rfl,rfl,by omega,by omega⟩
 ·rintro i y ⟨s1,s2⟩ ⟨a,b,e1,e2,ha,hb⟩ hd hy hi hdec hx hadd;simp only at e1 e2;subst e1 e2;obtain⟨g0,g1,gv,ga⟩:=hall y hy;simp only;rw[hdec,Qk,hx,Qa,RP hx,Qa,hadd,M0 _ gv.vC,Qa]
  have fin:∀c:Nat,c<1024->Yd (Option.bind (kv y.bo x) fun r9=>
    bif r9 then
     if y.aq<0 then none else
     some (Sum.inl ((c:Int),(qy .i64 (b:Int) (cP .i64 (1:Int) y.aq)),((i+1:Nat):Int),()))
    else
     some (Sum.inl ((c:Int),(b:Int),((i+1:Nat):Int),())):Option ((Int×Int×Int×Unit)⊕(Int×Int×Unit))) (Lp (fun t=>∃s':Int×Int,t=(s'.1,s'.2,((i+1:Nat):Int),())/\(∃a b:Nat,s'.1=a/\s'.2=b/\a<1024/\b<1024)) (fun r=>∃a b:Nat,r.1=a/\r.2.1=b/\a<1024/\b<1024)):=by
   intro c hc;rw[M0 _ ga.vC,Qa]
   cases decide (x∈y.bo)with
   |false=>exact .some ⟨((c:Int),(b:Int)),rfl,c,b,rfl,rfl,hc,hb⟩
   |true=>
    rw[Qk,Qs (by omega),yc hb g0 g1]
    exact .some ⟨((c:Int),_),rfl,c,_,rfl,rfl,hc,E3 hb g1⟩
  cases decide (x∈y.cx)with
  |false=>exact fin a ha
  |true=>
   rw[Qk,Qs (by omega),yc ha g0 g1]
   exact fin _ (E3 ha g1)
 ·rintro⟨s1,s2⟩ ⟨a,b,e1,e2,ha,hb⟩ hdec;simp only at e1 e2;simp only;rw[hdec,Ql];exact .some ⟨a,b,e1,e2,ha,hb⟩
theorem OP:Yd (pM []) fun _=>True:=by
 unfold pM;refine Yd.list ([]:List jN) (by simp) (fun i (_:Unit)=>(i,())) (fun _ _=>True) (fun i x s _ _ hx=>absurd hx QR) (fun s _ hdec=> ?_) (s:=()) trivial
 simp only;rw[hdec,Ql];exact .some trivial
def T8(m:gw):Prop:=0<=m.aq/\m.aq<10/\de m.aa/\m.cx=[]/\m.bo=[]
theorem ZA{m:gw}(h:T8 m):Yd (td m) fun _=>True:=by
 obtain⟨h0,h1,ht,hv,ha⟩:=h;unfold td;simp only[ab.eta];refine Yd.bind (p:=fun _=>True) (Yd.cond (fun _=> .some trivial) fun _=> .some trivial) fun b1 _=> ?_
 refine Yd.bind (p:=fun _=>True) (Yd.cond (fun _=> .some trivial) fun _=> .some trivial) fun b2 _=> ?_
 refine Yd.bind (p:=fun _=>True) (Yd.cond (fun _=>by rw[lZ ht];exact .some trivial) fun _=> .some trivial) fun b4 _=> ?_
 rw[hv,ha];refine Yd.bind (p:=fun _=>True) (Yd.cond (fun _=>Yd.bind OP fun _ _=> .some trivial) fun _=> .some trivial) fun b6 _=> ?_
 exact Yd.bind (p:=fun _=>True) (Yd.cond (fun _=>Yd.bind OP fun _ _=> .some trivial) fun _=> .some trivial) fun b8 _=> .some trivial
def noT:ab:=⟨0,[],[]⟩
theorem H6:de noT:= .mk _ (by simp[noT]) (by simp[noT]) (fun u hu=>by cases hu)
structure uR (l:List aU):Prop where
 len:l.length=10
 sm:∀m∈l,de m.aa
theorem uR.set{l:List aU}(h:uR l)(k:Nat){m:aU}(hm:de m.aa):uR (l.set k m):=
 ⟨by rw[QX];exact h.len,fun x hx=>(List.mem_or_eq_of_mem_set hx).elim (h.sm x) fun e=>by rw[e];exact hm⟩
theorem uR.get{l:List aU}(h:uR l){v:Int}(h0:0<=v)(h1:v<10):∃x,idx l v=some x/\l[v.toNat]?=some x:=by
 have hl:=h.len;have hv:v.toNat<l.length:=by omega
 exact⟨l[v.toNat],by rw[IM _ h0];exact Qv hv,Qv hv⟩
theorem uR.sc{l:List aU}(h:uR l):EE ⟨l⟩:=⟨by show l.length<=1000000;rw[h.len];omega,h.sm⟩
theorem aa1{v:Int}{t:ab}(hv0:0<=v)(hv1:v<10)(ht:de t){l:List gw}(hl:l.length<=1000000)(hm:∀m∈l,T8 m):Yd (vp v t l) EE:=by
 unfold vp
 have h1:(decide ((10:Int)<=(10:Int))&&decide (0<=(10:Int))&&aT 64 (Int.toNat (10:Int)))=true:=by
  rw[br (by decide)];rfl
 rw[h1,Qk];simp only[ab.eta,bz]
 have h0:uR (List.replicate (Int.toNat (10:Int)) (aU.mk false (ab.mk (0:Int) ([]:List Int) ([]:List ab)))):=
  ⟨by rw[List.length_replicate];rfl,fun m hm=>by rw[(List.mem_replicate.1 hm).2];exact H6⟩
 refine Yd.list l hl (fun i (s:List aU)=>(i,bQ.mk [],s,())) (fun _ s=>uR s) ?_ ?_ h0
 ·intro i y s hs hd hy hi hdec hx hadd;have hmy:=hm y hy;simp only;rw[hdec,Qk,hx,Qa,hadd];simp only[gw.eta];refine Yd.bind (ZA hmy) fun r _=> ?_
  cases r with
  |false=>exact .some ⟨s,rfl,hs⟩
  |true=>
   obtain⟨x,g1,g2⟩:=hs.get hmy.1 hmy.2.1;rw[Qk,g1,Qa,g2,Qa];exact .some ⟨_,rfl,hs.set _ hmy.2.2.1⟩
 ·intro s hs hdec;simp only;rw[hdec,Ql,Qg hv0,Qg hv1];simp only[Qk,Qa];obtain⟨x,g1,g2⟩:=hs.get hv0 hv1;have hs2:=hs.set v.toNat (m:=⟨false,⟨0,[],[]⟩⟩) H6;obtain⟨x2,k1,k2⟩:=hs2.get hv0 hv1;rw[g1,g2,lZ ht];simp only[Qa]
  cases decide (mH t=0)with
  |false=>exact .some hs2.sc
  |true=>
   simp only[Qk];rw[k1,k2];exact .some (hs2.set _ ht).sc
theorem Rl{n:aA}(h:gV n):Yd (ri n) EE:=by
 have hlen:=h.len;unfold ri;simp only[ab.eta];refine Yd.list n.aF (by omega) (fun i (s:List gw)=>(i,s,())) (fun i s=>s.length<=i/\∀m∈s,T8 m) ?_ ?_ (s:=[]) ⟨by simp,fun m hm=>absurd hm QR⟩
 ·intro i y s ⟨hs1,hs2⟩ hd hy hi hdec hx hadd;have hmy:=(h.heard y hy).1;simp only;rw[hdec,Qk,hx,Qa,hadd,br ⟨by simp only[Q5];omega,by simp only[Q5];omega⟩,Qk]
  refine .some ⟨_,rfl,by simp only[QB,Q5];omega,fun m hm=> ?_⟩
  rcases Qz.1 hm with hm|hm
  ·exact hs2 m hm
  ·rw[Q4.1 hm];exact⟨hmy.n0,hmy.n1,hmy.aN.sm,rfl,rfl⟩
 ·intro s ⟨hs1,hs2⟩ hdec;simp only;rw[hdec,Ql];exact Yd.map (Yd.bind (aa1 h.ask.v0 h.ask.v1 h.ask.aN.sm (by omega) hs2) fun c hc=> .some hc)
theorem Nl{n:aA}(h:gV n):n.aq=((n.aq.toNat:Nat):Int)/\n.aq.toNat<10:=by
 have h0:=h.ask.v0;have h1:=h.ask.v1;omega
theorem aeK{n:aA}(h:gV n)(x:ByteArray):Yd (wV n x) fun b=>b=true->x∉n.bo/\n.bo.length<40:=by
 obtain⟨hn,hn10⟩:=Nl h;unfold wV;simp only[ab.eta,aA.eta,bz];refine Yd.bind (U2 h x) fun q ⟨a,b,e1,e2,ha,hb⟩=> ?_
 rw[e1,e2,M0 _ h.jw.vC,Qa]
 by_cases hx:x∈n.bo
 ·rw[Qg hx];exact .some fun e=>by cases e
 ·rw[Qh hx];simp only[Qp,Qk]
  by_cases hl:n.bo.length<40
  ·rw[Qg (by omega:((n.bo.length:Nat):Int)<40),Qk]
   refine Yd.bind (Rl h) fun c hc=> ?_
   rw[hn,vH hc hn10 ha hb];exact .some fun _=>⟨hx,hl⟩
  ·rw[Qh (by omega:¬((n.bo.length:Nat):Int)<40)]
   exact .some fun e=>by cases e
theorem abt{n:aA}(h:gV n):Yd (tc n) fun r=>r.length<=1000/\∀x∈r,mB x:=by
 have hlen:=h.len;have l1:=h.gy.len;have l2:=h.jw.len;unfold tc;refine Yd.bind (HO (n:=80) (by omega) (by omega)) fun r1 ⟨k1,k2⟩=> ?_
 refine Yd.list n.aF (by omega) (fun i (s:List ByteArray)=>(s,i,())) (fun i s=>s.length<=80+80*i/\∀x∈s,mB x) ?_ ?_ ⟨by omega,fun x hx=>(k2 x hx).elim (h.gy.BA x) (h.jw.BA x)⟩
 ·intro i y s ⟨hs1,hs2⟩ hd hy hi hdec hx hadd;have hmy:=(h.heard y hy).1;have l3:=hmy.gy.len;have l4:=hmy.jw.len;simp only;rw[hdec,Qk,hx,Qa,hadd];refine Yd.bind (HO (n:=80) (by omega) (by omega)) fun r4 ⟨g1,g2⟩=> ?_
  refine Yd.bind (HO (n:=80+80*(i+1)) (by omega) (by omega)) fun r5 ⟨g3,g4⟩=> ?_
  exact .some ⟨r5,rfl,g3,fun x hx=>(g4 x hx).elim (hs2 x) fun hx=>(g2 x hx).elim (hmy.gy.BA x) (hmy.jw.BA x)⟩
 ·intro s ⟨hs1,hs2⟩ hdec;simp only;rw[hdec,Ql];exact .some ⟨by omega,hs2⟩
theorem gV.Sp{n:aA}(h:gV n){v:List ByteArray}(hv:VL v):gV {n with cx:=v}:=⟨h.ask,h.own,hv,h.jw,h.rQ,h.sub,h.heard,h.gJ⟩
theorem gV.aeD{n:aA}(h:gV n){a:List ByteArray}(ha:VL a)(hs:∀y∈n.bo,y∈a):gV {n with bo:=a}:=⟨h.ask,h.own,h.gy,ha,h.rQ,fun x hx=>hs x (h.sub x hx),h.heard,h.gJ⟩
theorem gV.aeC{n:aA}(h:gV n){c:List ByteArray}(hc:VL c)(hs:∀y∈c,y∈n.bo):gV {n with dG:=c}:=⟨h.ask,h.own,h.gy,h.jw,hc,hs,h.heard,h.gJ⟩
structure sZ (n r:aA):Prop where
 ok:gV r
 aG:r.aq=n.aq
 bj:r.aE=n.aE
 round:r.Round=n.Round
 seq:r.aO=n.aO
 aN:r.aa=n.aa
 own:r.Own=n.Own
 heard:r.aF=n.aF
theorem sZ.refl{n:aA}(h:gV n):sZ n n:=⟨h,rfl,rfl,rfl,rfl,rfl,rfl,rfl⟩
theorem sZ.Sp{n r:aA}(h:sZ n r){v:List ByteArray}(hv:VL v):sZ n {r with cx:=v}:=⟨h.ok.Sp hv,h.aG,h.bj,h.round,h.seq,h.aN,h.own,h.heard⟩
theorem Zr{n:aA}(h:gV n):Yd (rX n) (sZ n):=by
 unfold rX;simp only[ab.eta,aA.eta,bz];refine Yd.bind (W9 h.ask) fun q ⟨s,e1,hs⟩=> ?_
 rw[e1,KH hs,Qa];have hl:=H5 s;refine Yd.list (sH s) (by omega) (fun i (r:aA)=>(i,r,())) (fun _ r=>sZ n r) ?_ ?_ (.refl h)
 ·intro i y r hr hd hy hi hdec hx hadd;simp only;rw[hdec,Qk,hx,Qa,hadd];have hlen:=hr.ok.len
  by_cases hyn:y=r.aq
  ·rw[Qg hyn,Qk]
   by_cases hown:r.Own=ByteArray.mk #[]
   ·rw[Qg hown];exact .some ⟨r,rfl,hr⟩
   ·rw[Qh hown];simp only[Qp,Qk]
    have hv:mB r.Own:=by
     refine⟨?_,hr.ok.own⟩;rcases Nat.eq_zero_or_pos r.Own.size with h0|h0
     ·exact absurd (ByteArray.ext (Array.eq_empty_of_size_eq_zero h0)) hown
     ·exact h0
    rw[SM hr.ok.gy,Qa];exact .some ⟨_,rfl,hr.Sp (EX hr.ok.gy hv).1⟩
  ·rw[Qh hyn,Ql];refine Yd.list r.aF (by omega) (fun i (r:aA)=>(i,r,())) (fun _ r=>sZ n r) ?_ ?_ hr
   ·intro j m r2 hr2 hd2 hm hj hdec2 hx2 hadd2;simp only;rw[hdec2,Qk,hx2,Qa,hadd2];have hmy:=(hr.ok.heard m hm).1;have l3:=hmy.gy.len;have l4:=hmy.jw.len
    cases decide (m.aq=y)with
    |false=>exact .some ⟨r2,rfl,hr2⟩
    |true=>
     simp only[Qo,Ql];refine Yd.bind (HO (n:=80) (by omega) (by omega)) fun u ⟨g1,g2⟩=> ?_
     refine Yd.list u (by omega) (fun i (r:aA)=>(i,r,())) (fun _ r=>sZ n r) ?_ ?_ hr2
     ·intro k x r3 hr3 hd3 hxu hk hdec3 hx3 hadd3;simp only;rw[hdec3,Qk,hx3,Qa,hadd3,SM hr3.ok.gy,Qa];have hv:mB x:=(g2 x hxu).elim (hmy.gy.BA x) (hmy.jw.BA x);exact .some ⟨_,rfl,hr3.Sp (EX hr3.ok.gy hv).1⟩
     ·intro r3 hr3 hdec3;simp only;rw[hdec3,Ql];exact .some ⟨r3,rfl,hr3⟩
   ·intro r2 hr2 hdec2;simp only;rw[hdec2,Ql];exact .some ⟨r2,rfl,hr2⟩
 ·intro r hr hdec;simp only;rw[hdec,Ql];exact .some hr
structure T7 (b n r:aA):Prop where
 ok:gV r
 aG:r.aq=n.aq
 bj:r.aE=n.aE
 round:r.Round=n.Round
 aN:r.aa=n.aa
 seq:r.aO=n.aO\/r.aO=b.aO+1
theorem BP{b n:aA}(hb:de b.aa/\b.cx.length<=1000000/\b.bo.length<=1000000)(hs:0<=b.aO/\b.aO<=1000000)(h:gV n):Yd (iE b n) (T7 b n):=by
 unfold iE;simp only[ab.eta,aA.eta];refine Yd.join (fun v=>sZ n v.1) (fun v hv=> ?_) (fun j' hj=> ?_)
 ·refine Yd.Aa (fun(s:Bool×aA×Unit)=>sZ n s.2.1) (fun s=>(if s.1=true then 1 else 0)+2*(40 - s.2.1.bo.length)) ?_ hv
  rintro⟨again,r,u⟩ hr;simp only at hr;simp only
  cases again with
  |true=>
   rw[Qk];refine Yd.bind (abt hr.ok) fun l ⟨hl,hvals⟩=> ?_
   refine Yd.list l (by omega) (fun i (s:aA)=>(false,i,s,())) (fun _ s=>s=r) ?_ ?_ rfl
   ·rintro i x s rfl hd hx' hi hdec hx hadd;simp only;rw[hdec,Qk,hx,Qa,hadd];refine Yd.bind (aeK hr.ok x) fun c hc=> ?_
    cases c with
    |false=>exact .some ⟨s,rfl,rfl⟩
    |true=>
     obtain⟨hc1,hc2⟩:=hc rfl;obtain⟨p1,p2,p3,p4⟩:=EX hr.ok.jw (hvals x hx');rw[Qk,SM hr.ok.jw,Qa];refine .some ⟨⟨hr.ok.aeD p1 p2,hr.aG,hr.bj,hr.round,hr.seq,hr.aN,hr.own,hr.heard⟩,?_⟩;have:=p4 hc1 hc2;show(if true=true then 1 else 0)+2*(40 - (DA s.bo x).length)<(if true=true then 1 else 0)+2*(40 - s.bo.length)
     rw[this];omega
   ·rintro s rfl hdec;simp only;rw[hdec,Ql];refine .some ⟨hr,?_⟩;show(if false=true then 1 else 0)+2*(40 - s.bo.length)<(if true=true then 1 else 0)+2*(40 - s.bo.length)
    simp
  |false=>
   rw[Ql];refine Yd.map ?_;have hl:=hr.ok.jw.len;refine Yd.list r.bo (by omega) (fun i (s:aA)=>(i,s,())) (fun _ s=>sZ n s/\s.bo=r.bo) ?_ ?_ ⟨hr,rfl⟩
   ·rintro i x s ⟨hs',hsa⟩ hd hx' hi hdec hx hadd;obtain⟨hn,hn10⟩:=Nl hs'.ok;simp only[bz];rw[hdec,Qk,hx,Qa,hadd];refine Yd.bind (U2 hs'.ok x) fun q ⟨a,c,e1,e2,ha,hc⟩=> ?_
    refine Yd.bind (Rl hs'.ok) fun cf hcf=> ?_
    have hfc:=ue hcf hn10 hc;rw[<-hn]at hfc;rw[e2,hfc,Qa]
    cases (gq cf.bq c).testBit s.aq.toNat with
    |false=>exact .some ⟨s,rfl,hs',hsa⟩
    |true=>
     rw[Qk,SM hs'.ok.rQ,Qa];obtain⟨p1,p2,p3,p4⟩:=EX hs'.ok.rQ (hr.ok.jw.BA x hx');refine .some ⟨_,rfl,⟨hs'.ok.aeC p1 (fun y hy=> ?_),hs'.aG,hs'.bj,hs'.round,hs'.seq,hs'.aN,hs'.own,hs'.heard⟩,hsa⟩
     rcases p3 y hy with rfl|hy
     ·rw[hsa];exact hx'
     ·exact hs'.ok.sub y hy
   ·rintro s ⟨hs',hsa⟩ hdec;simp only[bz];rw[hdec,Ql];obtain⟨b1,f1,_⟩:=U3 (s:=b.cx) (t:=s.cx) hb.2.1;obtain⟨b2,f2,_⟩:=U3 (s:=b.bo) (t:=s.bo) hb.2.2;obtain⟨b3,f3,_⟩:=Hb (a:=b.aa) (b:=s.aa) hb.1;rw[f1,f2,f3];simp only[Qa];refine Yd.map (Yd.bind (p:=fun _=>True) (Yd.cond (fun _=> .some trivial) fun _=> .some trivial) fun c1 _=> ?_)
    refine Yd.bind (p:=fun _=>True) (Yd.cond (fun _=> .some trivial) fun _=> .some trivial) fun c2 _=> ?_
    cases c2 with
    |false=>exact .some ⟨hs'.ok,hs'.aG,hs'.bj,hs'.round,hs'.aN,.inl hs'.seq⟩
    |true=>
     have hadd:aB .i64 b.aO 1=b.aO+1:=bY (by omega) (by omega)
     rw[Qk,hadd];exact .some ⟨⟨hs'.ok.ask,hs'.ok.own,hs'.ok.gy,hs'.ok.jw,hs'.ok.rQ,hs'.ok.sub,hs'.ok.heard,hs'.ok.gJ⟩,hs'.aG,hs'.bj,hs'.round,hs'.aN,.inr rfl⟩
 ·cases decide (((List.length n.dG:Nat):Int)=(0:Int))with
  |true=>
   rw[Qk];refine Yd.bind (Zr h) fun r hr=> ?_
   exact hj (r,()) hr
  |false=>exact hj (n,()) (.refl h)
end
section
theorem Rm{m:ax}(h:Cz m):pK m=some true:=by
 have e1:=h.n0;have e2:=h.n1;have e3:=h.seq;unfold pK;simp only[ab.eta,fH h.aN,Dw h.gy,Dw h.jw];rw[Qg e1,Qg e2,Qg e3];rfl
theorem EW{n:aA}(h:gV n)(hs:1<=n.aO/\n.aO<=1000000):lx n=some true:=by
 have hlen:=h.len;have e1:=h.ask.v0;have e2:=h.ask.v1;have e3:=h.ask.s0;have e4:=h.ask.s1;have e5:=h.ask.r1;have e6:=h.ask.r2;have e7:=h.own;unfold lx;simp only[ab.eta,fH h.ask.aN,Dw h.gy,Dw h.jw,Dw h.rQ];rw[Qh (by omega:¬n.aq<0),Qh (by omega:¬(10:Int)<=n.aq),Qh (by omega:¬n.aE<0),Qh (by omega:¬(1000000:Int)<n.aE),Qh (by omega:¬n.Round<1),Qh (by omega:¬(1000:Int)<n.Round),Qh (by omega:¬n.aO<1),Qh (by omega:¬(1000000:Int)<n.aO),Qh (by omega:¬(200:Int)<((n.Own.size:Nat):Int))]
 simp only[Ql,Qa,decide_true,Qo];refine Yd.eq_true ?_;refine Yd.list n.dG h.rQ.vC (fun i (_:Unit)=>(i,())) (fun _ _=>True) ?_ ?_ (s:=()) trivial
 ·intro i x s _ hd hx' hi hdec hx hadd;simp only;rw[hdec,Qk,hx,Qa,hadd,M0 _ h.jw.vC,Qg (h.sub x hx')];exact .some ⟨(),rfl,trivial⟩
 ·intro s _ hdec;simp only;rw[hdec,Ql];refine Yd.map ?_;refine Yd.list n.aF (by omega) (fun i (_:Unit)=>(i,())) (fun _ _=>True) ?_ ?_ (s:=()) trivial
  ·intro i m s _ hd hm hi hdec hx hadd;obtain⟨hm1,hm2⟩:=h.heard m hm;simp only[bz];rw[hdec,Qk,hx,Qa,hadd];simp only[ax.eta];rw[Rm hm1,Qa,Qh hm2];simp only[Qo,Ql]
   by_cases h0:i=0
   ·subst h0;rw[Qh (by omega:¬(0:Int)<((0:Nat):Int))]
    exact .some ⟨(),rfl,trivial⟩
   ·rw[Qg (by omega:(0:Int)<(i:Int))]
    simp only[Qk];have hsub:ez .i64 (i:Int) 1=((i - 1:Nat):Int):=by rw[nS (by omega) (by omega)];omega
    have hi1:i - 1<n.aF.length:=by omega
    rw[hsub,bA,Qv hi1,Qa]
    have hyi:m=n.aF[i]:=by
     rw[bA,Qv hi]at hx;exact(Option.some.inj hx).symm
    have hlt:n.aF[i - 1].aq<m.aq:=by
     rw[hyi];exact List.pairwise_iff_getElem.1 h.gJ (i - 1) i hi1 hi (by omega)
    rw[Qh (by omega:¬m.aq<=n.aF[i - 1].aq)]
    exact .some ⟨(),rfl,trivial⟩
  ·intro s _ hdec;simp only;rw[hdec,Ql];exact .some rfl
theorem gV.Mx{n:aA}(h:gV n):de n.aa/\n.cx.length<=1000000/\n.bo.length<=1000000:=⟨h.ask.aN.sm,h.gy.vC,h.jw.vC⟩
def Sf:aA:=⟨0,0,0,0,⟨0,[],[]⟩,⟨#[]⟩,[],[],[],[]⟩
theorem ade{n:aA}{m:ax}(h:gV n)(hs:1<=n.aO/\n.aO<=1000000)(hm:Cz m)(hne:m.aq≠n.aq):Yd (vo n m) fun q=>(q.2.1=0/\T7 n n q.1)\/q.2.1=9:=by
 have hlen:=h.len;unfold vo;simp only[ab.eta,aA.eta,ax.eta,EW h hs,Rm hm,Qa,Qo,Ql];rw[Qh hne];simp only[Ql,bz];have kk:∀(a:List ax) (x:ax),a.length<=100->aT 120 (a.length+[x].length)=true:=fun a x ha=>br ⟨by simp only[Q5];omega,by simp only[Q5];omega⟩
 have setl:∀l:List ax,(∀y∈l,Cz y/\y.aq≠n.aq)->l.Pairwise (fun a b=>a.aq<b.aq)->Yd (Option.bind (iE n {n with aF:=l}) fun r14=>some (r14,(0:Int),())) fun q=>(q.2.1=0/\T7 n n q.1)\/q.2.1=9:=by
  intro l h1 h2;refine Yd.bind (BP h.Mx (by omega) (n:={n with aF:=l}) ⟨h.ask,h.own,h.gy,h.jw,h.rQ,h.sub,h1,h2⟩) fun r hr=> .some (.inl ⟨rfl,hr.ok,hr.aG,hr.bj,hr.round,hr.aN,hr.seq⟩)
 refine Yd.list n.aF (by omega) (fun i (s:Bool×List ax)=>(s.1,i,Sf,{n with aF:=[]},s.2,()))
  (fun i s=>s.2.length<=2*i/\(∀y∈s.2,Cz y/\y.aq≠n.aq)/\s.2.Pairwise (fun a b=>a.aq<b.aq)/\(∀y∈s.2,∀z∈n.aF.drop i,y.aq<z.aq)/\(s.1=false->∀y∈s.2,y.aq<m.aq)) ?_ ?_ (s:=(false,[]))
  ⟨by simp,fun y hy=>absurd hy QR,List.Pairwise.nil,fun y hy=>absurd hy QR,fun _ y hy=>absurd hy QR⟩
 ·rintro i x ⟨d,acc⟩ ⟨a1,a2,a3,a4,a5⟩ hd hx' hi hdec hx hadd;simp only at a1 a2 a3 a4 a5;have hxx:=h.heard x hx'
  have hsort:∀z∈n.aF.drop (i+1),x.aq<z.aq:=by
   have:=h.gJ.sublist (List.drop_sublist i n.aF);rw[hd,Q3]at this;exact this.1
  have a4x:∀y∈acc,y.aq<x.aq:=fun y hy=>a4 y hy x (by rw[hd];exact Qx)
  have a4r:∀y∈acc,∀z∈n.aF.drop (i+1),y.aq<z.aq:=fun y hy z hz=>a4 y hy z (by rw[hd];exact Qy _ hz)
  simp only;rw[hdec,Qk,hx,Qa,hadd];have k1:=kk acc m (by omega)
  have k2:=kk acc x (by omega)
  have k3:=kk (acc++[m]) x (by simp only[QB,Q5];omega)
  by_cases hn:x.aq=m.aq
  ·rw[Qg hn,Qk]
   cases decide (m.aO<=x.aO)with
   |true=>exact .some (.inr rfl)
   |false=>exact .some ⟨(d,acc),rfl,by show acc.length<=2*(i+1);omega,a2,a3,a4r,a5⟩
  ·rw[Qh hn,Ql,k1,k2,k3]
   have plain:(d=false->x.aq<m.aq)->Yd (some (Sum.inl (d,((i+1:Nat):Int),Sf,{n with aF:=([]:List ax)},(acc++[x]),())):Option ((Bool×Int×aA×aA×(List ax)×Unit)⊕(aA×Int×Unit))) (Lp (fun t=>∃s':Bool×List ax,t=(s'.1,((i+1:Nat):Int),Sf,{n with aF:=[]},s'.2,())/\(s'.2.length<=2*(i+1)/\(∀y∈s'.2,Cz y/\y.aq≠n.aq)/\s'.2.Pairwise (fun a b=>a.aq<b.aq)/\(∀y∈s'.2,∀z∈n.aF.drop (i+1),y.aq<z.aq)/\(s'.1=false->∀y∈s'.2,y.aq<m.aq))) (fun r=>(r.2.1=0/\T7 n n r.1)\/r.2.1=9)):=by
    intro hdm;refine .some ⟨(d,acc++[x]),rfl,by simp only[QB,Q5];omega,fun y hy=> ?_,?_,fun y hy z hz=> ?_,fun e y hy=> ?_⟩
    ·rcases Qz.1 hy with hy|hy
     ·exact a2 y hy
     ·rw[Q4.1 hy];exact hxx
    ·rw[Qq68];exact⟨a3,List.pairwise_singleton _ _,fun y hy z hz=>by rw[Q4.1 hz];exact a4x y hy⟩
    ·rcases Qz.1 hy with hy|hy
     ·exact a4r y hy z hz
     ·rw[Q4.1 hy];exact hsort z hz
    ·rcases Qz.1 hy with hy|hy
     ·exact a5 e y hy
     ·rw[Q4.1 hy];exact hdm e
   by_cases hlt:m.aq<x.aq
   ·rw[Qg hlt]
    cases d with
    |true=>exact plain fun e=>by cases e
    |false=>
     have a5:=a5 rfl;simp only[Qp,Qk,Qa];refine .some ⟨(true,(acc++[m])++[x]),rfl,by simp only[QB,Q5];omega,fun y hy=> ?_,?_,fun y hy z hz=> ?_,fun e=>by cases e⟩
     ·rcases Qz.1 hy with hy|hy
      ·rcases Qz.1 hy with hy|hy
       ·exact a2 y hy
       ·rw[Q4.1 hy];exact⟨hm,hne⟩
      ·rw[Q4.1 hy];exact hxx
     ·rw[Qq68,Qq68];refine⟨⟨a3,List.pairwise_singleton _ _,fun y hy z hz=>by rw[Q4.1 hz];exact a5 y hy⟩,List.pairwise_singleton _ _,fun y hy z hz=> ?_⟩
      rw[Q4.1 hz];rcases Qz.1 hy with hy|hy
      ·exact a4x y hy
      ·rw[Q4.1 hy];exact hlt
     ·rcases Qz.1 hy with hy|hy
      ·rcases Qz.1 hy with hy|hy
       ·exact a4r y hy z hz
       ·rw[Q4.1 hy];exact Int.lt_trans hlt (hsort z hz)
      ·rw[Q4.1 hy];exact hsort z hz
   ·rw[Qh hlt];exact plain fun _=>by omega
 ·rintro⟨d,acc⟩ ⟨a1,a2,a3,a4,a5⟩ hdec;simp only at a1 a2 a3 a4 a5;simp only;rw[hdec,Ql];refine Yd.map ?_;have k1:=kk acc m (by omega)
  rw[k1]
  cases d with
  |true=>exact setl acc a2 a3
  |false=>
   simp only[Qp,Qk];refine setl (acc++[m]) (fun y hy=> ?_) ?_
   ·rcases Qz.1 hy with hy|hy
    ·exact a2 y hy
    ·rw[Q4.1 hy];exact⟨hm,hne⟩
   ·rw[Qq68];exact⟨a3,List.pairwise_singleton _ _,fun y hy z hz=>by rw[Q4.1 hz];exact a5 rfl y hy⟩
theorem abp{n:aA}(h:gV n)(hs:1<=n.aO/\n.aO<=1000000):Yd (vm n) fun q=>(q.2.1=0/\gV q.1/\q.1.aq=n.aq/\q.1.aE=n.aE/\q.1.aa=n.aa/\(q.1.aO=n.aO\/q.1.aO=n.aO+1))\/q.2.1=3:=by
 unfold vm;simp only[ab.eta,aA.eta,EW h hs,Qa,Qo,Ql];have e5:=h.ask.r1;have e6:=h.ask.r2
 by_cases hr:n.Round=1000
 ·rw[Qg hr];exact .some (.inr rfl)
 ·have hadd:aB .i64 n.Round 1=n.Round+1:=bY (by omega) (by omega)
  rw[Qh hr,Ql,hadd];refine Yd.bind (BP h.Mx (by omega) (n:={n with Round:=n.Round+1}) ⟨⟨h.ask.aN,h.ask.v0,h.ask.v1,h.ask.s0,h.ask.s1,by show 1<=n.Round+1;omega,by show n.Round+1<=1000;omega⟩,h.own,h.gy,h.jw,h.rQ,h.sub,h.heard,h.gJ⟩) fun r hr=> .some (.inl ⟨rfl,hr.ok,hr.aG,hr.bj,hr.aN,hr.seq⟩)
theorem abx{n:aA}(h:gV n)(hs:1<=n.aO/\n.aO<=1000000){t:ab}(ht:cG t):Yd (qj n t) fun q=>q.2.1=0/\gV q.1/\q.1.aq=n.aq/\q.1.aE=n.aE/\q.1.aa=t/\(q.1.aO=n.aO\/q.1.aO=n.aO+1):=by
 unfold qj;simp only[ab.eta,aA.eta,EW h hs,fH ht,Qa,Qo,Ql,decide_true];obtain⟨b,f,hb⟩:=Hb (a:=n.aa) (b:=t) h.ask.aN.sm;rw[f,Qa]
 cases b with
 |true=>exact .some ⟨rfl,h,rfl,rfl,hb.1 rfl,.inl rfl⟩
 |false=>
  refine Yd.bind (BP h.Mx (by omega) (n:={n with aa:=t}) ⟨⟨ht,h.ask.v0,h.ask.v1,h.ask.s0,h.ask.s1,h.ask.r1,h.ask.r2⟩,h.own,h.gy,h.jw,h.rQ,h.sub,h.heard,h.gJ⟩) fun r hr=> .some ⟨rfl,hr.ok,hr.aG,hr.bj,hr.aN,hr.seq⟩
theorem Zm{t:ab}{v bj:Int}{own:ByteArray}(ht:cG t)(h0:0<=v)(h1:v<10)(h2:0<=bj)(h3:bj<=1000000)(ho:own.size<=200):Yd (tb v bj t own) fun q=>q.2.1=0/\gV q.1/\q.1.aq=v/\q.1.aE=bj/\q.1.aa=t/\q.1.aO=1:=by
 unfold tb;simp only[ab.eta,aA.eta,fH ht];rw[Qh (by omega:¬v<0),Qh (by omega:¬(10:Int)<=v),Qh (by omega:¬bj<0),Qh (by omega:¬(1000000:Int)<bj),Qh (by omega:¬(200:Int)<((own.size:Nat):Int))]
 simp only[Ql,Qa,decide_true,Qo];have hn:gV ⟨v,bj,1,1,t,own,[],[],[],[]⟩:=⟨⟨ht,h0,h1,h2,h3,by show(1:Int)<=1;omega,by show(1:Int)<=1000;omega⟩,ho,.nil,.nil,.nil,fun x hx=>absurd hx QR,fun x hx=>absurd hx QR,List.Pairwise.nil⟩
 refine Yd.bind (BP hn.Mx ⟨by show(0:Int)<=1;omega,by show(1:Int)<=1000000;omega⟩ hn) fun r hr=> .some ⟨rfl,⟨hr.ok.ask,hr.ok.own,hr.ok.gy,hr.ok.jw,hr.ok.rQ,hr.ok.sub,hr.ok.heard,hr.ok.gJ⟩,hr.aG,hr.bj,hr.aN,rfl⟩
end
section
theorem abd{m:ah}(h:m.ba=3):iT m=m:=by
 have h1:dP m=m:=by unfold dP;rw[Qr (.inl h)]
 have h2:iz m=m:=by unfold iz;rw[Qr (.inl (by rw[h];decide))]
 have h3:gG m=m:=by unfold gG;rw[Qs (by rw[h];decide),Qs (by rw[h];decide)]
 have h4:kj m=m:=by unfold kj;rw[Qs (by rw[h];rintro⟨e,_⟩;exact absurd e (by decide))]
 have h5:fC m=m:=by unfold fC;rw[Qr (.inl h)]
 unfold iT;rw[Qr h1,Qr h2,Qr h3,Qr h4];exact h5
structure Af (m:ah) (t:ab) (x:ah):Prop where
 inv:bK x
 seq:kV x
 aG:x.aq=m.aq
 bj:x.aE=m.aE
 aN:x.aa=t
 ext:m.ba=3->x.ba=3/\x.aj.Value=m.aj.Value
theorem Af.refl{m:ah}(h:bK m)(hs:kV m):Af m m.aa m:=⟨h,hs,rfl,rfl,rfl,fun e=>⟨e,rfl⟩⟩
def nX(m x:ah):Prop:=m.ba=3->x.ba=3/\x.aj.Value=m.aj.Value
theorem ER{m:ah}:∀x,bK x->nX m x->nX m (iT x):=fun x _ h e=>by
 have h2:=h e;rw[abd h2.1];exact h2
theorem EP{m:ah}:∀x,nX m x->nX m (fJ x):=fun x h e=>by
 have h2:=h e;unfold fJ;split
 ·exact h2
 ·exact h2
theorem xT{m m1:ah}(h:bK m)(hb:vz m m1):nX m m1:=by
 intro e;rcases hb with⟨v,hv,rfl⟩|⟨x,hx,rfl⟩|⟨h3,hv,hc,rfl⟩|⟨t,ht,rfl⟩
 ·have hz:aP m.aj=false:=by
   rcases h.body with k|k|k|k
   ·exact absurd (k.bn.symm.trans e) (by decide)
   ·exact k.bc.nz
   ·exact k.bc.nz
   ·exact k.bc.nz
  unfold jL;rw[Qs (by rw[hz];decide)]
  exact⟨e,rfl⟩
 ·exact⟨e,rfl⟩
 ·exact absurd e h3
 ·exact⟨e,rfl⟩
theorem E4{m m1:ah}(h:bK m)(hb:vz m m1){q:ah×Int×Unit}(hq:O9 (nX m) m m1 q):q.2.1=0/\Af m m1.aa q.1:=by
 obtain⟨m2,rfl,ha⟩:=hq;have hf:=X9 h hb;obtain⟨f1,f2,f3,f4,f5,f6⟩:=GJ m1;obtain⟨s,e,_⟩:=OQ m m2;refine⟨rfl,X7 ha.inv,aaH ha.inv ha.seq (fun hz=>ha.nz (by rw[f6];exact hf.nz hz)),?_,?_,?_,?_⟩
 ·rw[e];exact ha.env.1.trans (f1.trans hf.aG)
 ·rw[e];exact ha.env.2.1.trans (f2.trans hf.bj)
 ·rw[e];exact ha.env.2.2.1.trans f3
 ·rw[e];exact ha.rel
section
variable {m : ah} (h : bK m) (hs : kV m)
 include h hs
theorem Ns{v:ByteArray}(hv:mB v):Yd (kX m v) fun q=>q.2.1=0/\Af m m.aa q.1:=by
 have hb:vz m (jL m v):= .inl ⟨v,hv,rfl⟩;refine(W8 (R:=nX m) ER EP h hs hv (xT h hb)).mono fun q hq=> ?_
 have e:(jL m v).aa=m.aa:=by unfold jL;split<;>rfl
 exact e▸E4 h hb hq
theorem Xs{e:ak}(he:EG m e):Yd (jy m e) fun q=>(q.2.1=0/\Af m m.aa q.1)\/q.2.1=9:=by
 have hb:vz m (Cc m e):= .inr (.inl ⟨e,he,rfl⟩);refine(W7 (R:=nX m) ER EP h hs he (xT h hb)).mono fun q hq=> ?_
 rcases hq with⟨hq,_⟩|⟨rfl,_⟩
 ·exact .inl (E4 h hb hq)
 ·exact .inr rfl
theorem Xt{t:ab}(ht:cG t):Yd (nv m t) fun q=>q.2.1=0/\Af m t q.1:=by
 have hb:vz m (Cj m t):= .inr (.inr (.inr ⟨t,ht,rfl⟩));refine(Xc (R:=nX m) ER EP h hs ht (xT h hb)).mono fun q hq=> ?_
 exact E4 h hb hq
theorem Xr:Yd (nr m) fun q=>(q.2.1=0/\Af m m.aa q.1)\/q.2.1≠0:=by
 have hR:∃R:ah->Prop,(∀m,bK m->R m->R (iT m))/\(∀m,R m->R (fJ m))/\R (mz m)/\(vz m (mz m)->∀x,R x->nX m x):=by
  by_cases hi:vz m (mz m)
  ·exact⟨nX m,ER,EP,xT h hi,fun _ x hx=>hx⟩
  ·exact⟨fun _=>True,fun _ _ _=>trivial,fun _ _=>trivial,trivial,fun hi'=>absurd hi' hi⟩
 obtain⟨R,hR1,hR2,hR0,hRR⟩:=hR;refine(W6 hR1 hR2 h hs hR0).mono fun q hq=> ?_
 rcases hq with⟨⟨m2,rfl,ha⟩,h3,hv,hc⟩|⟨rfl,_⟩|⟨rfl,_⟩
 ·have hb:vz m (mz m):= .inr (.inr (.inl ⟨h3,hv,hc,rfl⟩));exact .inl (E4 h hb ⟨m2,rfl,ha.inv,ha.seq,ha.env,ha.num,ha.nz,hRR hb _ ha.rel,ha.fix⟩)
 ·exact .inr (by show(62:Int)≠0;decide)
 ·exact .inr (by show(3:Int)≠0;decide)
theorem M1:ny m=some (bif decide (m.ba=3)then m.aj.Value else gH,decide (m.ba=3),()):=by
 unfold ny;simp only[ah.eta,ab.eta,rP h hs,Qa,Qo,Ql];cases decide (m.ba=3)<;>rfl
theorem MZ:nu m=some (bif aP m.aj then(ak.mk (0:Int) (0:Int) (0:Int) (ab.mk (0:Int) ([]:List Int) ([]:List ab)) (0:Int) zB zB zB (0:Int) (0:Int))else cR m,!aP m.aj,()):=by
 unfold nu;simp only[ah.eta,ab.eta,ak.eta,rP h hs,Qa,Qo,Ql,cT,uH];cases aP m.aj<;>rfl
theorem U0:Yd (o9 m) fun _=>True:=by
 have hev:=h.ev;have hlen:=h.len;unfold o9;simp only[ah.eta,ab.eta,ak.eta,MZ h hs,Qa]
 cases hz:aP m.aj with
 |true=>exact .some trivial
 |false=>
  simp only[Qp,Qo,Ql,Qa]
  cases decide (m.ba=3)with
  |true=>exact .some trivial
  |false=>
   simp only[Ql];have ho:=JB h hs hz;have hm0:de (cR m).aa:=by rw[o3];exact h.aN.sm
   have hall:∀e∈[cR m]++m.aF,aX e=true/\de e.aa:=by
    intro e he;rcases Qz.1 he with he|he
    ·rw[Q4.1 he];exact⟨ho,hm0⟩
    ·exact⟨(h.hv e he).1,(h.hv e he).2.1.sm⟩
   have hl1:([cR m]++m.aF).length<=1000:=by simp;omega
   rw[br (by simp;omega),Qk]
   rw[Et ([cR m]++m.aF) hl1 (fun e=>decide (gQ (cR m)<=gQ e)) (fin:=fun s=>Option.bind (gX m.aq m.aa ([cR m]++m.aF)) fun r8=>Option.bind (fb ([cR m]++m.aF) s) fun r9=>Option.bind (ja r8 r9) fun r10=>if(bI .u64 m.aq)<0 then none else some (decide ((qQ .i64 (oi .i64 r10 (bI .u64 m.aq)) (1:Int))=(1:Int))))
    (fun i e s hs' he hd hx hw=>by
     simp only[hd,hx,hw,RP hx,Qk,Qa,BQ (hall e he).2 (hall e he).1,BQ hm0 ho]
     rw[br (by simp;omega),Qk])
    (fun s hd=>by simp only[hd,Ql])]
   have hsml:xi ([cR m]++m.aF):=⟨by omega,fun e he=>(hall e he).2⟩
   have hn:=hev.aG;have hv:=vI hn.2 (t:=m.aa) hsml;rw[hn.1]at hv;have hin:Fw ([cR m]++m.aF):=fun e he=>kE (hall e he).1
   rw[hv,Qa,wg ([cR m]++m.aF) hl1 _ (fun e he _=>hin e he),Qa,yu (qp h.aN.sm hsml) (rq hin),Qa]
   have hc:bI .u64 m.aq=m.aq:=by
    rw[<-hn.1];exact YP (by omega)
   rw[hc,Qs (by have:=h.n0;omega)]
   exact .some trivial
def yj(t:dX):Prop:=0<=t.an/\t.an<=1000000/\ -1<=t.nC/\t.nC<=212
 omit h hs in
theorem U1{t:dX}(ht:yj t):pG t=some true:=by
  obtain⟨h1,h2,h3,h4⟩:=ht;unfold pG;rw[Qg h1,Qg h2,Qg h3,Qg h4];rfl
 omit h hs in
theorem SJ{c:Int}(hc:0<=c)(hc2:c<=1000000):Yd (oC c) fun w=>1<=w/\w<=12:=by
  unfold oC
  by_cases h:12<=c
  ·rw[Qg h];exact .some ⟨by decide,by decide⟩
  ·have hadd:aB .i64 c 1=c+1:=bY (by omega) (by omega)
   rw[Qh h,Ql,hadd];refine .some ?_;unfold bV;split<;>omega
 omit hs in
theorem TS:0<=m.aj.an/\m.aj.an<=1000:=by
  rcases h.body with k|k|k|k
  ·rw[k.bc];exact⟨by decide,by decide⟩
  ·exact⟨by have:=k.bc.1;omega,k.bc.2.1⟩
  ·exact⟨by have:=k.bc.1;omega,k.bc.2.1⟩
  ·exact⟨by have:=k.bc.1;omega,k.bc.2.1⟩
theorem Zl{t:dX}(ht:yj t){now:Int}(h0:0<=now)(h1:now<=200):Yd (vh t m now) fun q=>yj q.1:=by
 obtain⟨b0,b1⟩:=TS h;unfold vh;simp only[ah.eta,ab.eta,U1 ht,Qa,Qo,Ql];rw[Qh (by omega:¬now<0),Qh (by omega:¬(200:Int)<now)]
 simp only[Ql,Qa];refine Yd.bind (U0 h hs) fun b _=> ?_
 have off:yj ⟨m.aj.an, -1⟩:=⟨b0,by show m.aj.an<=1000000;omega,by show(-1:Int)<= -1;omega,by show(-1:Int)<=212;omega⟩
 cases b with
 |false=>exact .some off
 |true=>
  simp only[Qo,Ql];refine Yd.bind (p:=fun _=>True) (Yd.cond (fun _=> .some trivial) fun _=> .some trivial) fun c _=> ?_
  cases c with
  |true=>
   rw[Qk];refine Yd.bind (SJ b0 (by omega)) fun w ⟨w1,w2⟩=> ?_
   have hadd:aB .i64 now w=now+w:=bY (by omega) (by omega)
   rw[hadd];exact .some ⟨b0,by show m.aj.an<=1000000;omega,by show -1<=now+w;omega,by show now+w<=212;omega⟩
  |false=>
   rw[Ql]
   cases decide (t.nC<=now)with
   |true=>exact .some off
   |false=>exact .some ht
end
end
section
structure wh (nd sl:Int) (k:Int) (x:bw):Prop where
 nG:bK x.au
 qE:kV x.au
 aG:x.au.aq=nd
 bj:x.au.aE=sl
 vB:gV x.aw
 se:1<=x.aw.aO/\x.aw.aO<=1+k
 uq:x.aw.aq=nd
 xK:x.aw.aE=sl
 aN:x.aw.aa=x.au.aa
 timer:yj x.Timer
 round:1<=x.Round/\x.Round<=1000
 next:0<=x.Next/\x.Next<=212
structure uT (nd sl:Int) (k:Int) (x:bw):Prop where
 pre:wh nd sl k x
 done:x.AJ=decide (x.au.ba=3)
 value:x.Value=bif decide (x.au.ba=3)then x.au.aj.Value else gH
theorem wh.le{nd sl k k':Int}{x:bw}(h:wh nd sl k x)(hk:k<=k'):wh nd sl k' x:=⟨h.nG,h.qE,h.aG,h.bj,h.vB,⟨h.se.1,by have:=h.se.2;omega⟩,h.uq,h.xK,h.aN,h.timer,h.round,h.next⟩
theorem uT.le{nd sl k k':Int}{x:bw}(h:uT nd sl k x)(hk:k<=k'):uT nd sl k' x:=⟨h.pre.le hk,h.done,h.value⟩
theorem wh.Sr{nd sl k:Int}{x:bw}(h:wh nd sl k x){m:ah}(hm:Af x.au x.au.aa m):wh nd sl k {x with au:=m}:=⟨hm.inv,hm.seq,hm.aG.trans h.aG,hm.bj.trans h.bj,h.vB,h.se,h.uq,h.xK,h.aN.trans hm.aN.symm,h.timer,h.round,h.next⟩
theorem vJ{nd sl k:Int}{x:bw}(h:wh nd sl k x):Yd (gl x) fun y=>uT nd sl k y/\nX x.au y.au:=by
 unfold gl;simp only[bw.eta,aA.eta,ah.eta,ab.eta];refine Yd.join (fun v=>wh nd sl k v.1/\nX x.au v.1.au) (fun v ⟨hv,hst⟩=> ?_) (fun j' hj=> ?_)
 ·rw[M1 hv.nG hv.qE,Qa];exact .some ⟨⟨⟨hv.nG,hv.qE,hv.aG,hv.bj,hv.vB,hv.se,hv.uq,hv.xK,hv.aN,hv.timer,hv.round,hv.next⟩,rfl,rfl⟩,hst⟩
 ·have same:wh nd sl k x/\nX x.au x.au:=⟨h,fun e=>⟨e,rfl⟩⟩
  refine Yd.bind (SQ h.vB.rQ.vC) fun c hc=> ?_
  rw[cT];simp only[Qa]
  have go:c.2.1=false\/mB c.1:=by
   cases e:c.2.1 with
   |false=>exact .inl rfl
   |true=>exact .inr (hc e)
  have hcond:∀b1 b2 b3:Bool,Yd (Option.bind (bif b1 then some b2 else some false) fun b5=>Option.bind (bif b5 then some b3 else some false) fun b7=>Option.bind (bif b7 then some (!decide (c.1=x.au.bU))else some false) fun b8=>(some b8:Option Bool)) fun b=>b=true->b1=true:=fun b1 b2 b3=>by
   cases b1 with
   |true=>cases b2<;>cases b3<;>exact .some fun _=>rfl
   |false=>exact .some fun e=>e
  obtain⟨b8,hb8,hb8'⟩:=hcond c.2.1 (decide (x.au.ba=1)) (aP x.au.aC)
  have key:∀K:Bool->Option bw,(Option.bind (bif c.2.1 then some (decide (x.au.ba=1))else some false) fun b5=>Option.bind (bif b5 then some (aP x.au.aC)else some false) fun b7=>Option.bind (bif b7 then some (!decide (c.1=x.au.bU))else some false) K)=K b8:=by
   intro K;revert hb8
   cases c.2.1 with
   |false=>intro e;cases e;rfl
   |true=>
    cases decide (x.au.ba=1)with
    |false=>intro e;cases e;rfl
    |true=>
     cases aP x.au.aC with
     |false=>intro e;cases e;rfl
     |true=>intro e;cases e;rfl
  rw[key]
  cases b8 with
  |false=>exact hj (x,()) same
  |true=>
   rw[Qk];have hv:=hc (hb8' rfl);refine Yd.bind (Ns h.nG h.qE hv) fun q ⟨h0,hn⟩=> ?_
   rw[h0];exact hj (_,()) ⟨h.Sr hn,hn.ext⟩
theorem tq{nd sl k:Int}{x:bw}(h:uT nd sl k x)(hk:k<=999999):hY x=some true:=by
 have p:=h.pre;obtain⟨b,f,hb⟩:=Hb (a:=x.aw.aa) (b:=x.au.aa) p.vB.ask.aN.sm;have hbt:=hb.2 p.aN;subst hbt;unfold hY;simp only[aA.eta,ah.eta,ab.eta,rP p.nG p.qE,EW p.vB ⟨p.se.1,by have:=p.se.2;omega⟩,f,U1 p.timer,M1 p.nG p.qE,Qa,Qo,Ql]
 rw[Qg (p.uq.trans p.aG.symm),Qg (p.xK.trans p.bj.symm),Qg p.round.1,Qg p.round.2,Qg p.next.1,Qg p.next.2,Qg h.done,Qg h.value]
 rfl
def wq(nd sl:Int)(k:Int)(x y:bw):Prop:=uT nd sl k y/\nX x.au y.au
theorem wq.self{nd sl k k':Int}{x:bw}(h:uT nd sl k x)(hk:k<=k'):wq nd sl k' x x:=⟨h.le hk,fun e=>⟨e,rfl⟩⟩
section
variable {nd sl k : Int} {x : bw} (h : uT nd sl k x) (hk : k <= 999998)
 include h hk
theorem SN{m:ax}(hm:Cz m)(hne:m.aq≠nd):Yd (nY x m) fun q=>(q.2.1=0/\wq nd sl (k+1) x q.1)\/q.2.1≠0:=by
 have p:=h.pre;unfold nY;simp only[bw.eta,aA.eta,ah.eta,ax.eta,ab.eta,tq h (by omega),Qa,Qo,Ql]
 refine Yd.bind (ade p.vB ⟨p.se.1,by have:=p.se.2;omega⟩ hm (by rw[p.uq];exact hne)) fun q hq=> ?_
 rcases hq with⟨h0,hq⟩|h9
 ·rw[h0];simp only[decide_true,Qo,Ql];have h1:=p.se;refine Yd.bind (vJ (k:=k+1) (x:={x with aw:=q.1}) ⟨p.nG,p.qE,p.aG,p.bj,hq.ok,?_,hq.aG.trans p.uq,hq.bj.trans p.xK,hq.aN.trans p.aN,p.timer,p.round,p.next⟩) fun y hy=> .some (.inl ⟨rfl,hy⟩)
  show 1<=q.1.aO/\q.1.aO<=1+(k+1);rcases hq.seq with e|e<;>rw[e]<;>omega
 ·rw[h9];exact .some (.inr (by show(9:Int)≠0;decide))
theorem U6{e:ak}(he:EG x.au e\/(de e.aa/\aX e=false)):Yd (o8 x e) fun q=>(q.2.1=0/\wq nd sl k x q.1)\/q.2.1≠0:=by
 have p:=h.pre;unfold o8;simp only[bw.eta,aA.eta,ah.eta,ak.eta,ab.eta,tq h (by omega),Qa,Qo,Ql]
 rcases he with he|⟨ht,hv⟩
 ·refine Yd.bind (Xs p.nG p.qE he) fun q hq=> ?_
  rcases hq with⟨h0,hq⟩|h9
  ·rw[h0];simp only[decide_true,Qo,Ql];refine Yd.bind (vJ (p.Sr hq)) fun y hy=> .some (.inl ⟨rfl,hy.1,fun e=> ?_⟩)
   have e1:=hq.ext e;have e2:=hy.2 e1.1;exact⟨e2.1,e2.2.trans e1.2⟩
  ·rw[h9];exact .some (.inr (by show(9:Int)≠0;decide))
 ·rw[Zn p.nG p.qE ht (.inl hv)];exact .some (.inr (by show(61:Int)≠0;decide))
theorem U4{v:ByteArray}(hv:mB v):Yd (rU x v) fun q=>(q.2.1=0/\wq nd sl k x q.1)\/q.2.1≠0:=by
 have p:=h.pre;unfold rU;simp only[bw.eta,aA.eta,ah.eta,ab.eta,tq h (by omega),Qa,Qo,Ql]
 refine Yd.bind (Ns p.nG p.qE hv) fun q ⟨h0,hq⟩=> ?_
 rw[h0];simp only[decide_true,Qo,Ql];refine Yd.bind (vJ (p.Sr hq)) fun y hy=> .some (.inl ⟨rfl,hy.1,fun e=> ?_⟩)
 have e1:=hq.ext e;have e2:=hy.2 e1.1;exact⟨e2.1,e2.2.trans e1.2⟩
theorem SP{t:ab}(ht:cG t):Yd (nq x t) fun q=>(q.2.1=0/\wq nd sl (k+1) x q.1)\/q.2.1≠0:=by
 have p:=h.pre;unfold nq;simp only[bw.eta,aA.eta,ah.eta,ab.eta,tq h (by omega),Qa,Qo,Ql]
 have h1:=p.se;refine Yd.bind (abx p.vB ⟨p.se.1,by omega⟩ ht) fun q ⟨h0,g1,g2,g3,g4,g5⟩=> ?_
 rw[h0];simp only[decide_true,Qo,Ql];refine Yd.bind (Xt p.nG p.qE ht) fun r ⟨r0,hr⟩=> ?_
 rw[r0];simp only[decide_true,Qo,Ql];refine Yd.bind (vJ (k:=k+1) (x:={x with aw:=q.1,au:=r.1}) ⟨hr.inv,hr.seq,hr.aG.trans p.aG,hr.bj.trans p.bj,g1,?_,g2.trans p.uq,g3.trans p.xK,g4.trans hr.aN.symm,p.timer,p.round,p.next⟩) fun y hy=> .some (.inl ⟨rfl,hy.1,fun e=> ?_⟩)
 ·show 1<=q.1.aO/\q.1.aO<=1+(k+1);rcases g5 with e|e<;>rw[e]<;>omega
 ·have e1:=hr.ext e;have e2:=hy.2 e1.1;exact⟨e2.1,e2.2.trans e1.2⟩
theorem Zk{now:Int}(h0:0<=now)(h1:now<=200):Yd (qW x now) fun q=>(q.2.1=0/\wq nd sl (k+1) x q.1)\/q.2.1≠0:=by
 have p:=h.pre;have hsq:=p.se;have hrd:=p.round;unfold qW;simp only[bw.eta,aA.eta,ah.eta,ab.eta,tq h (by omega),Qa,Qo,Ql]
 rw[Qh (by omega:¬now<0),Qh (by omega:¬(200:Int)<now)]
 simp only[Ql,Qa];refine Yd.join (fun v=>wq nd sl (k+1) x v.1) (fun v hv=> ?_) (fun j4 hj4=> ?_)
 ·have pv:=hv.1.pre;refine Yd.bind (Zl pv.nG pv.qE pv.timer h0 h1) fun t ht=> ?_
  refine Yd.join (fun w=>wq nd sl (k+1) x w.1) (fun w hw=> .some (.inl ⟨rfl,hw⟩)) (fun j7 hj7=> ?_)
  have pt:wh nd sl (k+1) {v.1 with Timer:=t.1}:=⟨pv.nG,pv.qE,pv.aG,pv.bj,pv.vB,pv.se,pv.uq,pv.xK,pv.aN,ht,pv.round,pv.next⟩
  cases t.2.1 with
  |false=>exact hj7 (_,()) ⟨⟨pt,hv.1.done,hv.1.value⟩,hv.2⟩
  |true=>
   rw[Qk];refine Yd.join (fun w=>wh nd sl (k+1) w.1/\nX v.1.au w.1.au) (fun w ⟨hw,hst⟩=> ?_) (fun j9 hj9=> ?_)
   ·refine Yd.bind (vJ hw) fun y hy=>hj7 (y,()) ⟨hy.1,fun e=> ?_⟩
    have e1:=hv.2 e;have e2:=hst e1.1;have e3:=hy.2 e2.1;exact⟨e3.1,e3.2.trans (e2.2.trans e1.2)⟩
   ·refine Yd.bind (Xr pv.nG pv.qE) fun r hr=> ?_
    rcases hr with⟨r0,hr⟩|hr
    ·rw[r0];exact hj9 (_,()) ⟨pt.Sr hr,hr.ext⟩
    ·rw[Qh hr];exact hj9 (_,()) ⟨pt,fun e=>⟨e,rfl⟩⟩
 ·have skip:=hj4 (x,()) (wq.self h (by omega))
  cases decide (((List.length x.aw.dG:Nat):Int)=(0:Int))with
  |false=>exact skip
  |true=>
   simp only[Qk,Qa]
   cases decide (x.Next<=now)with
   |false=>exact skip
   |true=>
    rw[Qk];refine Yd.join (fun v=>wh nd sl (k+1) v.1/\v.1.au=x.au) (fun v ⟨hv,hm⟩=> ?_) (fun j14 hj14=> ?_)
    ·have hvr:=hv.round;have hadd:aB .i64 v.1.Round 1=v.1.Round+1:=bY (by omega) (by omega)
     have hmin:1<=eS (v.1.Round+1) 1000/\eS (v.1.Round+1) 1000<=1000:=by unfold eS;split<;>omega
     rw[hadd];refine Yd.bind (SJ (by omega) (by omega)) fun w ⟨w1,w2⟩=> ?_
     have hadd2:aB .i64 now w=now+w:=bY (by omega) (by omega)
     rw[hadd2];refine Yd.bind (vJ (k:=k+1) (x:=⟨v.1.aw,v.1.au,v.1.Timer,eS (v.1.Round+1) 1000,now+w,v.1.AJ,v.1.Value⟩) ⟨hv.nG,hv.qE,hv.aG,hv.bj,hv.vB,hv.se,hv.uq,hv.xK,hv.aN,hv.timer,hmin,by show 0<=now+w/\now+w<=212;omega⟩) fun y hy=>hj4 (y,()) ⟨hy.1,?_⟩
     have h2:=hy.2;simp only at h2;rw[hm]at h2;exact h2
    ·refine Yd.bind (abp p.vB ⟨p.se.1,by omega⟩) fun q hq=> ?_
     rcases hq with⟨q0,g1,g2,g3,g4,g5⟩|q3
     ·rw[q0];refine hj14 (_,()) ⟨⟨p.nG,p.qE,p.aG,p.bj,g1,?_,g2.trans p.uq,g3.trans p.xK,g4.trans p.aN,p.timer,p.round,p.next⟩,rfl⟩
      show 1<=q.1.aO/\q.1.aO<=1+(k+1);rcases g5 with e|e<;>rw[e]<;>omega
     ·rw[q3];exact hj14 (x,()) ⟨p.le (by omega),rfl⟩
end
theorem ado{nd sl:Int}(hv0:0<=nd)(hv1:nd<10)(hs0:1<=sl)(hs1:sl<=1000000){t:ab}{own:ByteArray}{now:Int}(ht:cG t)(ho:own.size<=200)(h0:0<=now)(h1:now<=200):Yd (wR nd sl t own now) fun q=>q.2.1=0/\uT nd sl 0 q.1:=by
 unfold wR;simp only[bw.eta,aA.eta,ah.eta,ab.eta];rw[Qh (by omega:¬now<0),Qh (by omega:¬(200:Int)<now)]
 simp only[Ql,Qa];rw[aeJ hv0 hv1 hs0 hs1 ht];simp only[Qa,decide_true,Qo,Ql];refine Yd.bind (Zm ht hv0 hv1 (by omega) hs1 ho) fun q ⟨q0,g1,g2,g3,g4,g5⟩=> ?_
 rw[q0];simp only[decide_true,Qo,Ql];refine Yd.bind (SJ (by omega) (by omega)) fun w ⟨w1,w2⟩=> ?_
 have hadd2:aB .i64 now w=now+w:=bY (by omega) (by omega)
 rw[hadd2];obtain⟨m1,m2⟩:=ZK (aG:=nd) (bj:=sl) hv0 hv1 hs0 hs1 ht;have ht0:yj ⟨0, -1⟩:=⟨by decide,by decide,by decide,by decide⟩
 refine Yd.bind (vJ (k:=0) (x:=⟨q.1,Tc nd sl t,⟨0, -1⟩,1,now+w,false,ByteArray.mk #[]⟩) ⟨m1,m2,rfl,rfl,g1,by show 1<=q.1.aO/\q.1.aO<=1+0;rw[g5];decide,g2,g3,g4,ht0,⟨(by decide:(1:Int)<=1),(by decide:(1:Int)<=1000)⟩,by show 0<=now+w/\now+w<=212;omega⟩) fun y hy=> .some ⟨rfl,hy.1⟩
end
section
def Gy(nd k:Int)(x:bw):Prop:=1<=x.au.aE/\x.au.aE<=1000000/\uT nd x.au.aE k x
theorem Gy.le{nd k k':Int}{x:bw}(h:Gy nd k x)(hk:k<=k'):Gy nd k' x:=⟨h.1,h.2.1,h.2.2.le hk⟩
theorem Gy.XQ{nd k k':Int}{x y:bw}(h:Gy nd k x)(hd:wq nd x.au.aE k' x y):Gy nd k' y/\y.au.aE=x.au.aE:=by
 have e:=hd.1.pre.bj;exact⟨⟨by rw[e];exact h.1,by rw[e];exact h.2.1,by rw[e];exact hd.1⟩,e⟩
structure mo (nd k:Int) (p:ay):Prop where
 aG:p.aq=nd
 n0:0<=nd
 n1:nd<10
 aN:cG p.aa
 len:p.bE.length<=8
 bj:∀x∈p.bE,Gy nd k x
theorem mo.le{nd k k':Int}{p:ay}(h:mo nd k p)(hk:k<=k'):mo nd k' p:=⟨h.aG,h.n0,h.n1,h.aN,h.len,fun x hx=>(h.bj x hx).le hk⟩
theorem tW{nd k:Int}{p:ay}(h:mo nd k p)(hk:k<=999999):Yd (fT p) fun _=>True:=by
 have hlen:=h.len;unfold fT;simp only[bw.eta,aA.eta,ah.eta,ab.eta,lZ h.aN.sm,wZ h.aN,Qa,decide_true,Qo];rw[Qh (show¬p.aq<0 by rw[h.aG];have:=h.n0;omega),Qh (show¬(9:Int)<p.aq by rw[h.aG];have:=h.n1;omega),Qh (show¬(8:Int)<((p.bE.length:Nat):Int)by omega)]
 simp only[Ql,Qa];refine Yd.list p.bE (by omega) (fun i (_:Unit)=>(i,())) (fun _ _=>True) (fun i x _ _ _ hx hi hd hw ha=> ?_) (fun _ _ hd=> ?_) (s:=()) trivial
 ·have hs:=h.bj x hx;simp only[hd,Qk,hw,Qa,tq hs.2.2 hk,Qo,Ql];refine Yd.join (fun _=>True) (fun v _=> ?_) (fun j' hj=> ?_)
  ·refine Yd.cond (fun _=> .some trivial) (fun _=> .some ⟨(),by rw[ha],trivial⟩)
  ·refine Yd.cond (fun _=>hj _ trivial) (fun _=> ?_)
   obtain⟨r,hr,_⟩:=Hb (a:=x.au.aa) (b:=p.aa) hs.2.2.pre.nG.aN.sm;rw[hr,Qa];refine Yd.cond (fun _=>hj _ trivial) (fun _=>Yd.cond (fun h0=> ?_) (fun _=>hj _ trivial))
   have h0:=of_decide_eq_true h0;obtain⟨m,rfl⟩:∃m:Nat,i=m+1:=⟨i - 1,by omega⟩
   rw[nS (by omega) (by omega),show(((m+1:Nat):Int)) - 1=(m:Int)by omega,bA,Qv (show m<p.bE.length by omega),Qa]
   exact hj _ trivial
 ·simp only[hd,Ql];exact .some trivial
theorem TV{p:ay}(hl:p.bE.length<=8)(n:Int):∃(i:Nat) (b:Bool),vb p n=some ((i:Int),b,())/\i<=p.bE.length/\(∀(j:Nat) (x:bw),j<i->p.bE[j]?=some x->x.au.aE<n)/\
  (∀x,p.bE[i]?=some x->n<=x.au.aE)/\(b=true->∃x,p.bE[i]?=some x/\x.au.aE=n):=by
 obtain⟨i,h1,h2,h3,h4⟩:=MA p.bE (by omega) (fun x=>decide (x.au.aE<n)) (r:=fun i=>some ((i:Int),(match p.bE[i]? with|some x=>decide (x.au.aE=n)|none=>false),()))
  (step:=fun(v1:Int×Unit)=>
   Option.bind (bif (decide (v1.1<((List.length p.bE:Nat):Int)))then Option.bind (idx p.bE v1.1) fun x2=>some (decide (x2.au.aE<n))else some false) fun b3=>
   bif b3 then some (Sum.inl ((aB .i64 v1.1 (1:Int)),()))
   else Option.map Sum.inr (bm (fun(v4:Int×Bool×Unit)=>some (v4.1,v4.2.1,())) fun j5=>
    bif (decide (v1.1<((List.length p.bE:Nat):Int)))then Option.bind (idx p.bE v1.1) fun x6=>j5 (v1.1,(decide (x6.au.aE=n)),())else j5 (v1.1,false,())))
  (fun i y hy hd hx hP ha=>by simp only[hd,Qk,hx,Qa,hP,ha])
  (fun i y hy hd hx hP=>by simp only[hd,Qk,hx,Qa,hP,Ql,bz,hy])
  (fun hd=>by simp only[hd,Ql,Qa,bz];rw[Qq71 (QI _)])
 refine⟨i,_,h4,h1,fun j x hj hx=> ?_,fun x hx=> ?_,fun hb=> ?_⟩
 ·obtain⟨y,hy,hP⟩:=h2 j hj;rw[hx]at hy;injection hy with hy
  rw[hy];exact of_decide_eq_true hP
 ·have:=of_decide_eq_false (h3 x hx);omega
 ·cases hx:p.bE[i]? with
  |none=>rw[hx]at hb;cases hb
  |some x=>
   rw[hx]at hb;exact⟨x,rfl,of_decide_eq_true hb⟩
section
variable {nd k : Int} {p : ay} (h : mo nd k p) {n : Int} (hn0 : 1 <= n) (hn1 : n <= 1000000) {own : ByteArray} (ho : own.size <= 200) {now : Int} (h0 : 0 <= now) (h1 : now <= 200) (hk0 : 0 <= k)
 include h hn0 hn1 ho h0 h1 hk0
theorem R8:Yd (pF p n own now) fun q=>(q.2.1=0/\mo nd k q.1/\∃(i:Nat) (s:bw),i<=p.bE.length/\s.au.aE=n/\q.1.bE=p.bE.take i++[s]++p.bE.drop i/\∀(j:Nat) (x:bw),j<i->p.bE[j]?=some x->x.au.aE<n)\/(q.2.1≠0/\q.1.bE=[]):=by
 have hlen:=h.len;obtain⟨i,b,e1,e2,e3,e4,e5⟩:=TV hlen n;unfold pF;simp only[bw.eta,aA.eta,ah.eta,ab.eta,ay.eta];rw[e1,Qa];refine Yd.cond (fun _=> .some (.inr ⟨by decide,rfl⟩)) (fun _=>Yd.cond (fun _=> .some (.inr ⟨by decide,rfl⟩)) (fun h8=> ?_))
 have h8:=of_decide_eq_false h8;rw[h.aG];refine(ado h.n0 h.n1 hn0 hn1 h.aN ho h0 h1).bind fun r ⟨hr0,hr⟩=> ?_
 have hs:r.1.au.aE=n:=hr.pre.bj;have hd1:(p.bE.take (Int.toNat ((i:Nat):Int))).drop (Int.toNat 0)=p.bE.take i:=by simp
 have hd2:(p.bE.take (Int.toNat ((p.bE.length:Nat):Int))).drop (Int.toNat ((i:Nat):Int))=p.bE.drop i:=by simp
 have hlt:=List.length_take_le i p.bE;simp only[hd1,hd2];rw[Qg hr0,Qo,Ql,tZ e2,Qk,br (by omega),Qk,br (by simp;omega),Qk,ua e2,Qk,br (by simp;omega),Qk]
 refine .some (.inl ⟨rfl,⟨rfl,h.n0,h.n1,h.aN,?_,fun x hx=> ?_⟩,i,r.1,e2,hs,rfl,e3⟩)
 ·show(p.bE.take i++[r.1]++p.bE.drop i).length<=8;simp only[QB,List.length_take,List.length_drop,QE,QY];omega
 ·have hx:x∈p.bE.take i++[r.1]++p.bE.drop i:=hx;rcases Qz.1 hx with hx|hx
  ·rcases Qz.1 hx with hx|hx
   ·exact h.bj x (Q0 hx)
   ·rw[Q4.1 hx];refine⟨by omega,by omega,?_⟩
    rw[hs];exact hr.le hk0
  ·exact h.bj x (Q1 hx)
theorem Rk:Yd (pE p n own now) fun q=>(q.2.2.1=0/\mo nd k q.1/\∃(i:Nat) (x:bw),q.2.1=i/\q.1.bE[i]?=some x/\x.au.aE=n)\/q.2.2.1≠0:=by
 obtain⟨i,b,e1,e2,e3,e4,e5⟩:=TV h.len n;unfold pE;simp only[ab.eta,ay.eta];rw[e1,Qa];refine Yd.cond (fun hb=> ?_) (fun _=> ?_)
 ·obtain⟨x,hx,hs⟩:=e5 hb;exact .some (.inl ⟨rfl,h,i,x,rfl,hx,hs⟩)
 ·refine(R8 h hn0 hn1 ho h0 h1 hk0).bind fun q hq=> ?_
  rcases hq with⟨q0,hq,m,s,g1,g2,g3,g4⟩|⟨q0,hq⟩
  ·obtain⟨i',b',f1,f2,f3,f4,f5⟩:=TV hq.len n;rw[f1,Qa];refine .some (.inl ⟨q0,hq,i',?_⟩)
   have hm:q.1.bE[m]?=some s:=by
    rw[g3,QL,List.getElem?_append_right (by rw[List.length_take];omega),List.length_take,Nat.min_eq_left g1,Nat.sub_self]
    rfl
   have him:i'=m:=by
    rcases Nat.lt_trichotomy i' m with hlt|he|hgt
    ·have hx:q.1.bE[i']?=p.bE[i']?:=by
      rw[g3,QL,List.getElem?_append_left (by rw[List.length_take];omega),Qq67,Qr hlt]
     have hp:p.bE[i']?=some p.bE[i']:=Qv (by omega)
     have:=g4 i' _ hlt hp;have:=f4 _ (hx.trans hp);omega
    ·exact he
    ·have:=f3 m s hgt hm;omega
   exact⟨s,rfl,by rw[him];exact hm,g2⟩
  ·obtain⟨i',b',f1,_⟩:=TV (p:=q.1) (by rw[hq];simp) n
   rw[f1,Qa];exact .some (.inr q0)
end
theorem Mz{nd k k':Int}{p:ay}(h:mo nd k p)(hk:k<=k'){i:Nat}(hi:i<p.bE.length){s:bw}{e:Int}(hs:e=0->Gy nd k' s):
  Yd (iQ p (i:Int) s e) fun q=>(q.2.1=0/\e=0/\mo nd k' q.1/\q.1={p with bE:=p.bE.set i s})\/(q.2.1≠0/\e≠0):=by
 have hlen:=h.len;unfold iQ;simp only[bw.eta,aA.eta,ah.eta,ab.eta];refine Yd.cond (fun he=> .some (.inr ?_)) (fun he=> ?_)
 ·simp only[Bool.not_eq_true',Qj]at he;exact⟨he,he⟩
 ·simp only[Bool.not_eq_false',Qi]at he;rw[br (by omega),Qk,bA,Qv hi,Qa,QV,Qv hi,Qa]
  refine .some (.inl ⟨rfl,he,⟨h.aG,h.n0,h.n1,h.aN,by show(p.bE.set i s).length<=8;rw[QX];exact hlen,fun x hx=> ?_⟩,rfl⟩)
  rcases List.mem_or_eq_of_mem_set (show x∈p.bE.set i s from hx)with hx|rfl
  ·exact(h.bj x hx).le hk
  ·exact hs he
def Pq(nd k:Int)(q:ay×Int×Unit):Prop:=(q.2.1=0/\mo nd k q.1)\/q.2.1≠0
section
variable {nd k : Int} {p : ay} (h : mo nd k p) (hk0 : 0 <= k) (hk : k <= 999998)
 include h hk0 hk
theorem aba:Yd (vd p) (mo nd k):=by
 unfold vd;simp only[ab.eta,ay.eta];refine(tW h (by omega)).bind fun r _=>Yd.cond (fun _=> .some h) (fun _=> .some ⟨h.aG,h.n0,h.n1,h.aN,h.len,h.bj⟩)
section
variable {n : Int} (hn0 : 1 <= n) (hn1 : n <= 1000000) {now : Int} (h0 : 0 <= now) (h1 : now <= 200)
 include hn0 hn1 h0 h1
theorem abE{own:ByteArray}(ho:own.size<=200):Yd (s9 p n own now) (Pq nd k):=by
 unfold s9;simp only[ab.eta,ay.eta];refine(tW h (by omega)).bind fun r _=>Yd.cond (fun _=> .some (.inr (by decide))) (fun _=>Yd.cond (fun _=> .some (.inl ⟨rfl,h⟩)) (fun _=> ?_))
 refine(R8 h hn0 hn1 ho h0 h1 hk0).bind fun q hq=> .some ?_
 rcases hq with⟨q0,hq,_⟩|⟨q0,_⟩
 ·exact .inl ⟨q0,hq⟩
 ·exact .inr q0
theorem Xj{v:ByteArray}(hv:mB v):Yd (rS p n v now) (Pq nd k):=by
 unfold rS;simp only[bw.eta,aA.eta,ah.eta,ab.eta,ay.eta];refine(tW h (by omega)).bind fun r _=>Yd.cond (fun _=> .some (.inr (by decide))) (fun _=>Yd.cond (fun _=> .some (.inl ⟨rfl,h⟩)) (fun _=> ?_))
 refine(Rk h hn0 hn1 hv.2 h0 h1 hk0).bind fun q hq=> ?_
 rcases hq with⟨q0,hq,i,x,hi,hx,hs⟩|q0
 ·rw[Qg q0,Qo,Ql,hi,bA,hx,Qa];have hS:=hq.bj x (Q7 hx);refine(U4 hS.2.2 hk hv).bind fun y hy=> ?_
  refine(Mz hq (Int.le_refl k) (i:=i) (Qw.1 hx).1 (s:=y.1) (e:=y.2.1) fun he=> ?_).bind fun z hz=> .some ?_
  ·rcases hy with⟨_,hy⟩|hy
   ·exact(hS.XQ hy).1
   ·exact absurd he hy
  ·rcases hz with⟨z0,_,hz,_⟩|⟨z0,_⟩
   ·exact .inl ⟨z0,hz⟩
   ·exact .inr z0
 ·rw[Qh q0];exact .some (.inr q0)
end
end
structure YY (nd:Int) (l:aQ):Prop where
 vB:l.az=1->Cz l.al/\l.al.aq=nd
 env:l.az=2->de l.ai.aa/\(aX l.ai=true->cG l.ai.aa/\l.ai.aq=nd)
 s0:1<=l.aE
 s1:l.aE<=1000000
section
variable {nd k : Int} {p : ay} (h : mo nd k p) (hk0 : 0 <= k) (hk : k <= 999998) {now : Int} (h0 : 0 <= now) (h1 : now <= 200)
 include h hk0 hk h0 h1
theorem ab6{l:aQ}{src:Int}(hl:YY src l)(hne:src≠nd):Yd (vf p l now) (Pq nd (k+1)):=by
 unfold vf;simp only[bw.eta,aA.eta,ah.eta,ax.eta,ak.eta,ab.eta,ay.eta];refine(tW h (by omega)).bind fun r _=>Yd.cond (fun _=> .some (.inr (by decide))) (fun _=>Yd.cond (fun _=> .some (.inl ⟨rfl,h.le (by omega)⟩)) (fun _=> ?_))
 have hb:∃b4:Bool,(Option.bind (bif (!decide (l.az=(1:Int)))then some (!decide (l.az=(2:Int)))else some false) fun b2=>
   Option.bind (bif b2 then some true else Option.bind (bif (decide (l.az=(2:Int)))then some (!decide (l.aE=l.ai.aE))else some false) fun b3=>some b3) fun b4=>some b4)=some b4/\(b4=false->(l.az=1\/l.az=2)/\(l.az=2->l.aE=l.ai.aE)):=by
  by_cases k1:l.az=1
  ·exact⟨false,by simp[k1],fun _=>⟨.inl k1,fun e=>by omega⟩⟩
  ·by_cases k2:l.az=2
   ·exact⟨!decide (l.aE=l.ai.aE),by simp[k2],fun e=>⟨.inr k2,fun _=>by simpa using e⟩⟩
   ·exact⟨true,by simp[k1,k2],fun e=>by cases e⟩
 obtain⟨b4,hb4,hk4⟩:=hb
 have hb4':∀K:Bool->Option (ay×Int×Unit),(Option.bind (bif (!decide (l.az=(1:Int)))then some (!decide (l.az=(2:Int)))else some false) fun b2=>
   Option.bind (bif b2 then some true else Option.bind (bif (decide (l.az=(2:Int)))then some (!decide (l.aE=l.ai.aE))else some false) fun b3=>some b3) fun b4=>K b4)=K b4:=fun K=>by
  have:=congrArg (fun o=>Option.bind o K) hb4
  simpa only[Option.bind_assoc,Qa]using this
 rw[hb4'];refine Yd.cond (fun _=> .some (.inr (by decide))) (fun hf=> ?_)
 obtain⟨hkd,hsl⟩:=hk4 hf;refine(Rk h hl.s0 hl.s1 (own:=ByteArray.mk #[48]) (by decide) h0 h1 hk0).bind fun q hq=> ?_
 rcases hq with⟨q0,hq,i,x,hi,hx,hs⟩|q0
 ·rw[Qg q0,Qo,Ql,hi,bA,hx];simp only[Qa];have hS:=hq.bj x (Q7 hx)
  have fin:∀y:bw×Int×Unit,((y.2.1=0/\wq nd x.au.aE (k+1) x y.1)\/y.2.1≠0)->Yd (Option.bind (iQ q.1 (i:Int) y.1 y.2.1) fun r8=>some (r8.1,r8.2.1,())) (Pq nd (k+1)):=fun y hy=>by
   refine(Mz hq (show k<=k+1 by omega) (i:=i) (Qw.1 hx).1 (s:=y.1) (e:=y.2.1) fun he=> ?_).bind fun z hz=> .some ?_
   ·rcases hy with⟨_,hy⟩|hy
    ·exact(hS.XQ hy).1
    ·exact absurd he hy
   ·rcases hz with⟨z0,_,hz,_⟩|⟨z0,_⟩
    ·exact .inl ⟨z0,hz⟩
    ·exact .inr z0
  refine Yd.cond (fun k1=> ?_) (fun k1=> ?_)
  ·obtain⟨g1,g2⟩:=hl.vB (of_decide_eq_true k1);exact(SN hS.2.2 hk g1 (by rw[g2];exact hne)).bind fun y hy=>fin y hy
  ·have k2:l.az=2:=by
    have:=of_decide_eq_false k1;rcases hkd with e|e
    ·exact absurd e this
    ·exact e
   obtain⟨g1,g2⟩:=hl.env k2;refine(U6 hS.2.2 hk ?_).bind fun y hy=>fin y ?_
   ·cases hv:aX l.ai with
    |true=>
     obtain⟨g3,g4⟩:=g2 hv;exact .inl ⟨hv,g3,by rw[hs,hsl k2],by rw[g4,hS.2.2.pre.aG];exact hne⟩
    |false=>exact .inr ⟨g1,rfl⟩
   ·rcases hy with⟨y0,hy⟩|hy
    ·exact .inl ⟨y0,hy.1.le (by omega),hy.2⟩
    ·exact .inr hy
 ·rw[Qh q0];exact .some (.inr q0)
theorem V3{g:bw->Option (bw×Int×Unit)}(hg:∀x,Gy nd k x->Yd (g x) fun q=>(q.2.1=0/\wq nd x.au.aE (k+1) x q.1)\/q.2.1≠0){t:ab}(ht:cG t)(z:ay):
  Yd (aD (fun(v2:Int×ay×ay×Unit)=>
   bif (decide (v2.1<((List.length p.bE:Nat):Int)))then
    Option.bind (idx v2.2.1.bE v2.1) fun x3=>Option.bind (g x3) fun r4=>Option.bind (iQ v2.2.1 v2.1 r4.1 r4.2.1) fun r5=>
    bif (!decide (r5.2.1=(0:Int)))then Option.map Sum.inr (some (z,r5.2.1,()))else some (Sum.inl ((aB .i64 v2.1 (1:Int)),r5.1,v2.2.2.1,()))
   else Option.map Sum.inr (some (v2.2.1,(0:Int),()))) ((0:Int),{p with aa:=t},z,())) (Pq nd (k+1)):=by
 have hlen:=h.len
 refine Yd.list p.bE (by omega) (fun i (s:ay×ay)=>(i,s.1,s.2,())) (fun i s=>mo nd (k+1) s.1/\s.1.bE.length=p.bE.length/\∀j,i<=j->s.1.bE[j]?=p.bE[j]?) (fun i x s ⟨g1,g2,g3⟩ _ hx hi hd hw ha=> ?_) (fun s ⟨g1,_⟩ hd=> ?_)
  (s:=({p with aa:=t},z)) ⟨⟨h.aG,h.n0,h.n1,ht,h.len,fun x hx=>(h.bj x hx).le (by omega)⟩,rfl,fun _ _=>rfl⟩
 ·have hx':p.bE[i]?=some x:=by rw[<-hw,bA]
  simp only[hd,Qk];rw[bA,g3 i (QI i),hx',Qa];have hS:=h.bj x hx;refine(hg x hS).bind fun y hy=> ?_
  refine(Mz g1 (Int.le_refl (k+1)) (i:=i) (by omega) (s:=y.1) (e:=y.2.1) fun he=> ?_).bind fun w hw'=> ?_
  ·rcases hy with⟨_,hy⟩|hy
   ·exact(hS.XQ hy).1
   ·exact absurd he hy
  ·rcases hw' with⟨z0,_,hz,hz'⟩|⟨z0,_⟩
   ·rw[Qg z0,Qo,Ql,ha];refine .some ⟨(w.1,s.2),rfl,hz,?_,fun j hj=> ?_⟩
    ·show w.1.bE.length=_;rw[hz'];show(s.1.bE.set i y.1).length=_;rw[QX,g2]
    ·show w.1.bE[j]?=_;rw[hz'];show(s.1.bE.set i y.1)[j]?=_;rw[List.getElem?_set_ne (by omega),g3 j (by omega)]
   ·rw[Qh z0];exact .some (.inr z0)
 ·simp only[hd,Ql];exact .some (.inl ⟨rfl,g1⟩)
theorem aa6:Yd (vc p now) (Pq nd (k+1)):=by
 unfold vc;simp only[bw.eta,aA.eta,ah.eta,ab.eta,ay.eta];refine(tW h (by omega)).bind fun r _=>Yd.cond (fun _=> .some (.inr (by decide))) (fun _=>Yd.cond (fun _=> .some (.inl ⟨rfl,h.le (by omega)⟩)) (fun _=> ?_))
 exact V3 h hk0 hk h0 h1 (g:=fun x=>qW x now) (fun x hx=>Zk hx.2.2 hk h0 h1) (t:=p.aa) h.aN _
theorem acu{t:ab}(ht:cG t):Yd (qg p t) (Pq nd (k+1)):=by
 unfold qg;simp only[bw.eta,aA.eta,ah.eta,ab.eta,ay.eta];refine(tW h (by omega)).bind fun r _=>Yd.cond (fun _=> .some (.inr (by decide))) (fun _=>Yd.cond (fun _=> .some (.inl ⟨rfl,h.le (by omega)⟩)) (fun _=> ?_))
 rw[lZ ht.sm,Qa,wZ ht];simp only[decide_true,Qo,Ql];exact V3 h hk0 hk h0 h1 (g:=fun x=>nq x t) (fun x hx=>SP hx.2.2 hk ht) (t:=t) ht _
end
end
section
theorem abi{n:aA}(h:gV n)(hs:1<=n.aO):Cz ⟨n.aq,n.aO,n.aa,n.cx,n.bo⟩:=⟨h.ask.v0,h.ask.v1,hs,h.ask.aN,h.gy,h.jw⟩
structure acM (l:aQ):Prop where
 t1:de l.al.aa
 t2:de l.ai.aa
 v:l.al.cx.length<=1000000
 a:l.al.bo.length<=1000000
def CA(nd:Int)(l:aQ):Prop:=YY nd l/\acM l
theorem VF{nd k:Int}{x:bw}(h:Gy nd k x)(hk:k<=999998):Yd (qh x) fun l=>l.length<=2/\∀y∈l,CA nd y:=by
 have p:=h.2.2.pre;have hz:de (ab.mk (0:Int) ([]:List Int) ([]:List ab)):=H6;unfold qh sR;simp only[aA.eta,ah.eta,ab.eta,tq h.2.2 (by omega),Qa,Qo,Ql]
 refine Yd.join (fun v=>v.1.length<=1/\∀y∈v.1,CA nd y) (fun v ⟨hv,hvy⟩=> ?_) (fun j' hj=> ?_)
 ·refine Yd.join (fun v=>v.1.length<=2/\∀y∈v.1,CA nd y) (fun v hv=> .some hv) (fun j' hj=> ?_)
  rw[MZ p.nG p.qE,Qa];refine Yd.cond (fun hz'=> ?_) (fun _=>hj _ ⟨QK hv (by decide),hvy⟩)
  have hzb:aP x.au.aj=false:=by simpa using hz'
  rw[br (by simp;omega),Qk]
  refine hj _ ⟨by simp;omega,fun y hy=> ?_⟩
  rcases Qz.1 hy with hy|hy
  ·exact hvy y hy
  ·rw[Q4]at hy;rw[hy,hzb];have ht:de (cR x.au).aa:=by rw[o3];exact p.nG.aN.sm
   exact⟨⟨fun e=>absurd (show(2:Int)=1 from e) (by decide),fun _=>⟨ht,fun _=>⟨by show cG (cR x.au).aa;rw[o3];exact p.nG.aN,by show(cR x.au).aq=nd;rw[Ei];exact p.aG⟩⟩,h.1,h.2.1⟩,⟨hz,ht,QS _,QS _⟩⟩
 ·refine Yd.cond (fun _=> ?_) (fun _=>hj _ ⟨QS _,fun y hy=>by cases hy⟩)
  rw[br (by simp),Qk]
  refine hj _ ⟨by simp,fun y hy=> ?_⟩
  have hy:=Q4.1 (show y∈[_]from hy)
  rw[hy];have hn:=abi p.vB p.se.1;exact⟨⟨fun _=>⟨hn,p.uq⟩,fun e=>absurd (show(1:Int)=2 from e) (by decide),h.1,h.2.1⟩,⟨p.vB.ask.aN.sm,hz,p.vB.gy.vC,p.vB.jw.vC⟩⟩
theorem VE{nd k:Int}{p:ay}(h:mo nd k p)(hk:k<=999998):Yd (qf p) fun l=>l.length<=16/\∀y∈l,CA nd y:=by
 have hlen:=h.len;unfold qf;simp only[bw.eta,aA.eta,ah.eta,ab.eta,ay.eta];refine(tW h (by omega)).bind fun r _=> ?_
 have hb:∃b,(bif (!r)then some true else some p.kU)=some b:=by cases r<;>exact⟨_,rfl⟩
 obtain⟨b,hb⟩:=hb;rw[hb,Qa];refine Yd.cond (fun _=> .some ⟨by simp,fun y hy=>by cases hy⟩) (fun _=> ?_)
 refine Yd.list p.bE (by omega) (fun i (s:List aQ)=>(i,s,())) (fun i s=>s.length<=2*i/\∀y∈s,CA nd y) (fun i x s ⟨g1,g2⟩ _ hx hi hd hw ha=> ?_) (fun s ⟨g1,g2⟩ hd=> ?_) (s:=[]) ⟨by simp,fun y hy=>by cases hy⟩
 ·simp only[hd,Qk,hw,Qa];refine(VF (h.bj x hx) hk).bind fun l ⟨hl,hly⟩=> ?_
  rw[br (by omega),Qk,ha]
  refine .some ⟨_,rfl,by rw[QB];omega,fun y hy=> ?_⟩
  rcases Qz.1 hy with hy|hy
  ·exact g2 y hy
  ·exact hly y hy
 ·simp only[hd,Ql];exact .some ⟨by omega,g2⟩
structure Fu (q:bD):Prop where
 f0:0<=q.o6
 f1:q.o6<=9
 t0:0<=q.To
 t1:q.To<=9
 ne:q.o6≠q.To
 l:CA q.o6 q.af
structure tG (w:aY):Prop where
 len:w.bh.length<=4000
 Nc:∀q∈w.bh,Fu q
 parts:w.bx.length<=1000000
 Bi:w.eO.length=0\/w.eO.length=100
theorem Rq(l:List Int)(hl:l.length<=1000000):Yd (pC l) fun _=>True:=by
 unfold pC;refine Yd.list l hl (fun i (s:Int)=>(s,i,())) (fun _ _=>True) (fun i x s _ _ hx hi hd hw ha=> ?_) (fun s _ hd=> ?_) (s:=0) trivial
 ·simp only[hd,Qk,hw,Qa,ha];generalize qQ .i64 s x=z;cases decide (x<(1:Int))<;>cases decide ((1023:Int)<x)<;>cases decide (z=(0:Int))<;>first|exact .some trivial|exact .some ⟨_,rfl,trivial⟩
 ·simp only[hd,Ql];exact .some trivial
theorem w8(n:Int):∃b,gW n=some b/\(b=true↔0<=n/\n<=9):=by
 unfold gW
 by_cases h:0<=n
 ·exact⟨decide (n<=9),by simp[h],by simp[h]⟩
 ·exact⟨false,by simp[h],by simp[h]⟩
theorem OX(a b:bD):∃r,oB a b=some r:=by
 unfold oB;cases decide (a.nC=b.nC)<;>cases decide (a.o6=b.o6)<;>cases decide (a.To=b.To)<;>exact⟨_,rfl⟩
theorem or_some{b:Bool}{o:Option Bool}(h:∃r,o=some r):∃r,(bif b then some true else o)=some r:=by
 cases b
 ·exact h
 ·exact⟨_,rfl⟩
theorem zk{b:Bool}{o:Option Bool}(h:∃r,o=some r):∃r,(bif b then o else some false)=some r:=by
 cases b
 ·exact⟨_,rfl⟩
 ·exact h
theorem Yd.bool{β:Type}{o:Option Bool}{f:Bool->Option β}{q:β->Prop}(h:∃r,o=Option.some r)(k:∀b,Yd (f b) q):Yd (o.bind f) q:=by
 obtain⟨r,e⟩:=h;rw[e,Qa];exact k r
theorem Bm{w:aY}(h:tG w):Yd (jF w) fun _=>True:=by
 have hlen:=h.len;have hparts:=h.parts;have hdl:w.eO.length<=1000000:=by rcases h.Bi with e|e<;>omega
 unfold jF;obtain⟨pr,hpr,_⟩:=Rq w.bx hparts;simp only[ax.eta,ak.eta,aQ.eta,bD.eta,ab.eta,hpr,Qa];refine Yd.bool (or_some ⟨_,rfl⟩) fun b1=>Yd.bool (or_some ⟨_,rfl⟩) fun b2=>Yd.bool (or_some ⟨_,rfl⟩) fun b4=>Yd.bool (or_some ?_) fun b6=>Yd.cond (fun _=> .some trivial) (fun _=> ?_)
 ·cases decide (((List.length w.eO:Nat):Int)=(0:Int))<;>exact⟨_,rfl⟩
 refine Yd.list w.eO hdl (fun i (_:Unit)=>(i,())) (fun _ _=>True) (fun i x s _ _ hx hi hd hw ha=> ?_) (fun s _ hd=> ?_) (s:=()) trivial
 ·simp only[hd,Qk,hw,Qa,ha];refine Yd.bool (or_some ⟨_,rfl⟩) fun b9=>Yd.cond (fun _=> .some trivial) (fun _=> .some ⟨(),rfl,trivial⟩)
 ·simp only[hd,Ql];refine Yd.inr ?_;show Yd _ fun _=>True
  refine Yd.list w.bh (by omega) (fun i (_:Unit)=>(i,())) (fun _ _=>True) (fun i x s _ _ hx hi hd hw ha=> ?_) (fun s _ hd=> ?_) (s:=()) trivial
  ·simp only[hd,Qk,hw,Qa];refine Yd.join (fun _=>True) (fun v _=>Yd.cond (fun _=> .some trivial) (fun _=> .some ⟨(),by rw[ha],trivial⟩)) (fun j' hj=> ?_)
   obtain⟨n1,e1,_⟩:=w8 x.o6;obtain⟨n2,e2,_⟩:=w8 x.To;rw[e1,e2];simp only[Qa];refine Yd.cond (fun _=>hj _ trivial) (fun _=>Yd.cond (fun _=>hj _ trivial) (fun _=>Yd.cond (fun _=>hj _ trivial) (fun _=>Yd.cond (fun _=>hj _ trivial) (fun _=>Yd.cond (fun _=>hj _ trivial) (fun _=>Yd.cond (fun _=>hj _ trivial) (fun _=>Yd.cond (fun _=>hj _ trivial) (fun _=>Yd.cond (fun h0=> ?_) (fun _=>hj _ trivial))))))))
   have h0:=of_decide_eq_true h0;obtain⟨m,rfl⟩:∃m:Nat,i=m+1:=⟨i - 1,by omega⟩
   rw[nS (by omega) (by omega),show(((m+1:Nat):Int)) - 1=(m:Int)by omega,bA,Qv (show m<w.bh.length by omega),Qa]
   obtain⟨r,hr⟩:=OX w.bh[m] x;rw[hr,Qa];exact hj _ trivial
  ·simp only[hd,Ql];exact .some trivial
theorem Da{n:Int}(h1:0<=n)(h2:n<18446744073709551616):IntKind.u64.wrap n=n:=by
 show(n % 18446744073709551616)=n;omega
theorem Tp(a:Int){b:Int}(h0:0<=b)(h1:b<=1000):∃r,pQ a b=some r:=by
 unfold pQ;have hc:bI .u64 b=b:=by unfold bI;exact Da h0 (by omega)
 rw[hc,Qs (by omega)]
 cases decide ((0:Int)<=a)<;>cases decide (a<=(1023:Int))<;>exact⟨_,rfl⟩
theorem Vn{w:aY}(h:tG w){b:Int}(h0:0<=b)(h1:b<=1000):Yd (qU w b) fun _=>True:=by
 unfold qU;refine Yd.list w.bx h.parts (fun i (_:Unit)=>(i,())) (fun _ _=>True) (fun i x s _ _ hx hi hd hw ha=> ?_) (fun s _ hd=> ?_) (s:=()) trivial
 ·simp only[hd,Qk,hw,Qa,ha];exact Yd.bool (Tp x h0 h1) fun r=>Yd.cond (fun _=> .some trivial) (fun _=> .some ⟨(),rfl,trivial⟩)
 ·simp only[hd,Ql];exact .some trivial
theorem aaL{w:aY}(h:tG w){a b:Int}(ha0:0<=a)(ha1:a<=9)(hb0:0<=b)(hb1:b<=9):∃r,pD w a b=some r:=by
 suffices key:Yd (pD w a b) fun _=>True by
  obtain⟨r,hr,_⟩:=key;exact⟨r,hr⟩
 unfold pD;obtain⟨n1,e1,_⟩:=w8 a;obtain⟨n2,e2,_⟩:=w8 b;rw[e1,e2];simp only[Qa];refine Yd.bool (or_some ⟨_,rfl⟩) fun b3=>Yd.cond (fun _=> .some trivial) (fun _=> ?_)
 refine(Vn h ha0 (by omega)).bind fun r4 _=>(Vn h hb0 (by omega)).bind fun r5 _=> ?_
 refine Yd.list w.bx h.parts (fun i (_:Unit)=>(i,())) (fun _ _=>True) (fun i x s _ _ hx hi hd hw ha=> ?_) (fun s _ hd=> ?_) (s:=()) trivial
 ·simp only[hd,Qk,hw,Qa,ha];obtain⟨r9,h9⟩:=Tp x hb0 (by omega)
  refine Yd.bool (Tp x ha0 (by omega)) fun r8=>Yd.bool (zk ⟨r9,by rw[h9];rfl⟩) fun b10=>Yd.cond (fun _=> .some trivial) (fun _=> .some ⟨(),rfl,trivial⟩)
 ·simp only[hd,Ql];refine Yd.inr ?_;exact Yd.bool (zk ⟨_,rfl⟩) fun b11=>Yd.bool (zk ⟨_,rfl⟩) fun b12=> .some trivial
theorem adS{w:aY}(h:tG w)(now:Int):Yd (wQ w now) fun q=>q.1.length<=4000/\(∀x∈q.1,Fu x)/\tG q.2.1:=by
 have hlen:=h.len;unfold wQ;simp only[ax.eta,ak.eta,aQ.eta,bD.eta,ab.eta];refine(Bm h).bind fun r _=>Yd.cond (fun _=> .some ⟨QS _,(fun x hx=>by cases hx),h⟩) (fun _=> ?_)
 refine Yd.Aa (fun s=>∃(i:Nat) (l:List bD),s=((i:Int),l,())/\i<=w.bh.length/\l.length<=i/\∀x∈l,Fu x) (fun s=>w.bh.length - s.1.toNat) (fun s hs=> ?_) (s:=((0:Int),([]:List bD),())) ⟨0,[],rfl,QS _,QI _,fun x hx=>by cases hx⟩
 obtain⟨i,l,rfl,hi,hl,hly⟩:=hs
 have fin:Yd (Option.map (Sum.inr (α:=Int×List bD×Unit)) (bif dN ((i:Nat):Int) (w.bh.length:Int) (List.length w.bh)then
   bif aT 344 (List.length ((w.bh.take (Int.toNat (w.bh.length:Int))).drop (Int.toNat (i:Int))))then some (l,{w with bh:=((w.bh.take (Int.toNat (w.bh.length:Int))).drop (Int.toNat (i:Int)))},())else none else none))
   (Lp (fun s'=>(∃(i:Nat) (l:List bD),s'=((i:Int),l,())/\i<=w.bh.length/\l.length<=i/\∀x∈l,Fu x)/\w.bh.length - s'.1.toNat<w.bh.length - ((i:Int),l,()).1.toNat) (fun q:List bD×aY×Unit=>q.1.length<=4000/\(∀x∈q.1,Fu x)/\tG q.2.1)):=by
  have hd2:(w.bh.take (Int.toNat ((w.bh.length:Nat):Int))).drop (Int.toNat ((i:Nat):Int))=w.bh.drop i:=by simp
  rw[ua hi,Qk,hd2,br (by rw[List.length_drop];omega),Qk]
  exact .some ⟨by show l.length<=4000;omega,hly,by show(w.bh.drop i).length<=4000;rw[List.length_drop];omega,fun q hq=>h.Nc q (Q1 hq),h.parts,h.Bi⟩
 simp only[];rcases Nat.lt_or_ge i w.bh.length with hlt|hge
 ·have hx:w.bh[i]?=some w.bh[i]:=Qv hlt;have hp:=h.Nc _ (QZ hlt);rw[Qg (show((i:Nat):Int)<((w.bh.length:Nat):Int)by omega),Qk,bA,hx]
  simp only[Qa];refine Yd.cond (fun _=> ?_) (fun _=>fin)
  refine Yd.join (fun v=>v.1.length<=i+1/\∀x∈v.1,Fu x) (fun v ⟨g1,g2⟩=> ?_) (fun j' hj=> ?_)
  ·rw[bY (by omega) (by omega)]
   refine .some ⟨⟨i+1,v.1,rfl,hlt,g1,g2⟩,?_⟩;show w.bh.length - ((i:Int)+1).toNat<w.bh.length - ((i:Int)).toNat;omega
  ·obtain⟨r8,h8⟩:=aaL h hp.f0 hp.f1 hp.t0 hp.t1;rw[h8,Qa];refine Yd.cond (fun _=> ?_) (fun _=>hj _ ⟨by show l.length<=i+1;omega,hly⟩)
   rw[br (by simp;omega),Qk]
   refine hj _ ⟨by simp;omega,fun x hx=> ?_⟩
   rcases Qz.1 (show x∈l++[_]from hx)with hx|hx
   ·exact hly x hx
   ·rw[Q4.1 hx];exact hp
 ·rw[Qh (show¬((i:Nat):Int)<((w.bh.length:Nat):Int)by omega),Ql,Qa,Ql]
  exact fin
theorem Rp{a b:Int}(ha0:0<=a)(ha1:a<=9)(hb0:0<=b)(hb1:b<=9):∃m:Nat,aB .i64 (sj .i64 a (10:Int)) b=m/\m<100:=by
 have e:sj .i64 a 10=a*10:=wrap64 (by omega) (by omega)
 rw[e,bY (by omega) (by omega)]
 exact⟨(a*10+b).toNat,by omega,by omega⟩
theorem aar{w:aY}(h:tG w){a b:Int}(ha0:0<=a)(ha1:a<=9)(hb0:0<=b)(hb1:b<=9):∃r,s7 w a b=some r:=by
 obtain⟨m,hm,hm1⟩:=Rp ha0 ha1 hb0 hb1;unfold s7;rw[hm,bA];rcases h.Bi with e|e
 ·rw[Qg (show((List.length w.eO:Nat):Int)=0 by omega)]
  exact⟨_,rfl⟩
 ·rw[Qh (show¬((List.length w.eO:Nat):Int)=0 by omega),Qv (show m<w.eO.length by omega)]
  simp only[Ql,Qa];cases decide (w.eO[m]=(0:Int))<;>exact⟨_,rfl⟩
def Nq(q:aY×Int×Unit):Prop:=q.2.1=0->tG q.1
theorem UP{w:aY}(h:tG w){a b:Int}{l:aQ}(hl:CA a l)(now:Int):Yd (qV w a b l now) Nq:=by
 have hlen:=h.len;have no:∀{z:aY} {e:Int},e≠0->Yd (some (z,e,())) Nq:=fun he=> .some fun h0=>absurd h0 he
 unfold qV;simp only[ax.eta,ak.eta,aQ.eta,bD.eta,ab.eta];refine(Bm h).bind fun r _=>Yd.cond (fun _=>no (by decide)) (fun _=> ?_)
 obtain⟨n1,e1,f1⟩:=w8 a;obtain⟨n2,e2,f2⟩:=w8 b;rw[e1,e2];simp only[Qa]
 obtain⟨b5,h5,g5⟩:∃b5:Bool,(∀K:Bool->Option (aY×Int×Unit),(Option.bind (bif (!n1)then some true else some (!n2)) fun b4=>Option.bind (bif b4 then some true else some (decide (a=b))) fun b5=>K b5)=K b5)/\(b5=false->(0<=a/\a<=9)/\(0<=b/\b<=9)/\a≠b):=by
  cases n1 with
  |false=>exact⟨true,fun K=>rfl,fun e=>by cases e⟩
  |true=>
   cases n2 with
   |false=>exact⟨true,fun K=>rfl,fun e=>by cases e⟩
   |true=>exact⟨decide (a=b),fun K=>rfl,fun e=>⟨f1.1 rfl,f2.1 rfl,of_decide_eq_false e⟩⟩
 rw[h5];refine Yd.cond (fun _=>no (by decide)) (fun hb=> ?_)
 obtain⟨⟨a0,a1⟩,⟨b0,b1⟩,hne⟩:=g5 hb;refine Yd.bool (or_some ⟨_,rfl⟩) fun b6=>Yd.cond (fun _=>no (by decide)) (fun _=> ?_)
 obtain⟨b7,h7,g7⟩:∃b7:Bool,(bif (decide (((List.length w.bh:Nat):Int)=(4000:Int)))then some true else some (decide (w.Next=(1000000000:Int))))=some b7/\(b7=false->w.bh.length≠4000):=by
  by_cases e:((List.length w.bh:Nat):Int)=4000
  ·exact⟨true,by rw[Qg e];rfl,fun e=>by cases e⟩
  ·exact⟨_,by rw[Qh e];rfl,fun _=>by omega⟩
 rw[h7,Qa];refine Yd.cond (fun _=>no (by decide)) (fun hb7=> ?_)
 have h4:=g7 hb7;obtain⟨r8,h8⟩:=aar h a0 a1 b0 b1;rw[h8,Qa];refine Yd.Aa (fun s=>∃i:Nat,s=((i:Int),())/\i<=w.bh.length) (fun s=>s.1.toNat) (fun s hs=> ?_) (s:=(((List.length w.bh:Nat):Int),())) ⟨w.bh.length,rfl,QI _⟩
 obtain⟨i,rfl,hi⟩:=hs;refine Yd.join (fun v=>v.1=true->0<i) (fun v hv=> ?_) (fun j' hj=> ?_)
 ·refine Yd.cond (fun hc=> ?_) (fun _=> ?_)
  ·have h0:=hv hc;rw[show((i:Nat):Int)=(((i - 1:Nat):Int)+1)by omega,nS (by omega) (by omega)]
   exact .some ⟨⟨i - 1,by simp,by omega⟩,by show((((i - 1:Nat):Int)+1) - 1).toNat<((((i - 1:Nat):Int)+1)).toNat;omega⟩
  ·refine Yd.inr ?_;have hn:aB .i64 ((List.length w.bh:Nat):Int) (1:Int)=((w.bh.length+1:Nat):Int):=by rw[bY (by omega) (by omega)];omega
   have hd1:(w.bh.take (Int.toNat ((i:Nat):Int))).drop (Int.toNat 0)=w.bh.take i:=by simp
   have hd2:(w.bh.take (Int.toNat ((w.bh.length:Nat):Int))).drop (Int.toNat ((i:Nat):Int))=w.bh.drop i:=by simp
   have hlt:=List.length_take_le i w.bh;simp only[hn,hd1,hd2,Int.toNat_zero,List.replicate_zero,List.nil_append];rw[Qg (show(0:Int)<=((w.bh.length+1:Nat):Int)by omega),Qg (Int.le_refl 0),br (by rw[QV];omega),Bool.true_and,Bool.true_and,Qk,tZ hi,Qk,br (by simp;omega),Qk,br (by simp;omega),Qk,ua hi,Qk,br (by simp;omega),Qk]
   refine .some fun _=>⟨by simp;omega,fun q hq=> ?_,h.parts,h.Bi⟩
   rcases Qz.1 hq with hq|hq
   ·rcases Qz.1 hq with hq|hq
    ·exact h.Nc q (Q0 hq)
    ·rw[Q4.1 hq];exact⟨a0,a1,b0,b1,hne,hl⟩
   ·exact h.Nc q (Q1 hq)
 ·refine Yd.cond (fun h0=> ?_) (fun _=>hj _ fun e=>by cases e)
  have h0:=of_decide_eq_true h0;obtain⟨m,rfl⟩:∃m:Nat,i=m+1:=⟨i - 1,by simp only at h0;omega⟩
  simp only[];rw[nS (by omega) (by omega),show(((m+1:Nat):Int)) - 1=(m:Int)by omega,bA,Qv (show m<w.bh.length by omega),Qa]
  exact Yd.bool (OX _ _) fun r=>hj _ fun _=>by omega
theorem ZB{w:aY}(h:tG w){l:List Int}(hl:l.length<=1000000):Yd (va w l) Nq:=by
 have no:∀{z:aY} {e:Int},e≠0->Yd (some (z,e,())) Nq:=fun he=> .some fun h0=>absurd h0 he
 unfold va;refine(Bm h).bind fun r _=>Yd.cond (fun _=>no (by decide)) (fun _=>(Rq l hl).bind fun r2 _=>Yd.cond (fun _=>no (by decide)) (fun _=> ?_))
 rw[br (by omega),Qk]
 exact .some fun _=>⟨h.len,h.Nc,hl,h.Bi⟩
theorem XZ{α:Type}(l m:List α):(ll l 0 l.length m).length=l.length:=by
 unfold ll;simp;omega
theorem XS{w:aY}(h:tG w)(a b c:Int):Yd (s8 w a b c) Nq:=by
 have no:∀{z:aY} {e:Int},e≠0->Yd (some (z,e,())) Nq:=fun he=> .some fun h0=>absurd h0 he
 unfold s8;refine(Bm h).bind fun r _=>Yd.cond (fun _=>no (by decide)) (fun _=> ?_)
 obtain⟨n1,e1,f1⟩:=w8 a;obtain⟨n2,e2,f2⟩:=w8 b;rw[e1,e2];simp only[Qa]
 cases n1 with
 |false=>exact no (by decide)
 |true=>
  cases n2 with
  |false=>exact no (by decide)
  |true=>
   obtain⟨a0,a1⟩:=f1.1 rfl;obtain⟨b0,b1⟩:=f2.1 rfl;simp only[Qo,Ql,Qa];refine Yd.bool (or_some ⟨_,rfl⟩) fun b5=>Yd.cond (fun _=>no (by decide)) (fun _=> ?_)
   obtain⟨m,hm,hm1⟩:=Rp a0 a1 b0 b1;have h100:Int.toNat (100:Int)=100:=rfl;refine Yd.cond (fun _=> ?_) (fun hf=>absurd hf (by decide));rw[hm,h100]
   have hlen:(ll (List.replicate 100 (0:Int)) 0 (List.length (List.replicate 100 (0:Int))) w.eO).length=100:=by rw[XZ,List.length_replicate]
   have key:∀D:List Int,D.length=100->Yd ((D[m]?).bind fun x6=>(D[m]?).bind fun x7=>some ({w with eO:=D.set m c},(0:Int),())) Nq:=fun D hD=>by
    rw[Qv (show m<D.length by omega),Qa,Qa]
    exact .some fun _=>⟨h.len,h.Nc,h.parts,.inr (by show(D.set m c).length=100;rw[QX,hD])⟩
   rw[bA,QV]
   exact key _ hlen
end
section
structure ik (k:Int) (w:aZ):Prop where
 t0:0<=w.Time
 t1:w.Time<=200
 n0:1<=w.aH.length
 n1:w.aH.length<=10
 nodes:∀(i:Nat) (x:ay),w.aH[i]?=some x->mo (i:Int) k x
 F9:tG w.Net
 tl:w.cM.length=w.aH.length
 tr:∀l∈w.cM,l.length<=4/\∀t∈l,de t
theorem ik.le{k k':Int}{w:aZ}(h:ik k w)(hk:k<=k'):ik k' w:=⟨h.t0,h.t1,h.n0,h.n1,fun i x hx=>(h.nodes i x hx).le hk,h.F9,h.tl,h.tr⟩
theorem ik.Sq{k:Int}{w:aZ}(h:ik k w){n:aY}(hn:tG n):ik k {w with Net:=n}:=⟨h.t0,h.t1,h.n0,h.n1,h.nodes,hn,h.tl,h.tr⟩
theorem Tn(l:List ab)(hl:l.length<=100)(hs:∀t∈l,de t)(t:ab):∃r,nP l t=some r:=by
 suffices key:Yd (nP l t) fun _=>True by
  obtain⟨r,hr,_⟩:=key;exact⟨r,hr⟩
 unfold nP;simp only[ab.eta];refine Yd.list l (by omega) (fun i (_:Unit)=>(i,())) (fun _ _=>True) (fun i x s _ _ hx hi hd hw ha=> ?_) (fun s _ hd=> ?_) (s:=()) trivial
 ·simp only[hd,Qk,hw,Qa,ha];obtain⟨r,hr,_⟩:=Hb (a:=x) (b:=t) (hs x hx);rw[hr,Qa];exact Yd.cond (fun _=> .some trivial) (fun _=> .some ⟨(),rfl,trivial⟩)
 ·simp only[hd,Ql];exact .some trivial
theorem TH{n:Nat}(h:n<=1000):bI .u64 ((n:Nat):Int)=n:=by unfold bI;exact Da (by omega) (by omega)
theorem Dj(w:aZ){i:Int}(h0:0<=i)(h1:i<=1000):∃r,kL w i=some r:=by
 unfold kL;have hc:bI .u64 i=i:=by unfold bI;exact Da h0 (by omega)
 rw[hc,Qs (by omega)]
 exact⟨_,rfl⟩
theorem P8(w:aZ)(i:Int):∃r,pB w i=some r/\(r=true->∃m:Nat,i=m/\m<w.aH.length):=by
 unfold pB
 by_cases h:0<=i
 ·refine⟨decide (i<((List.length w.aH:Nat):Int)),by simp[h],fun e=>⟨i.toNat,by omega,by have:=of_decide_eq_true e;omega⟩⟩
 ·exact⟨false,by simp[h],fun e=>by cases e⟩
theorem aaD{k:Int}{w:aZ}(h:ik k w)(hk:k<=999999):Yd (s6 w) fun _=>True:=by
 have hn:=h.n1;have htl:=h.tl;obtain⟨rn,hrn,_⟩:=Bm h.F9;unfold s6;simp only[ab.eta,ay.eta,hrn,Qa];refine Yd.bool (or_some ⟨_,rfl⟩) fun b1=>Yd.bool (or_some ⟨_,rfl⟩) fun b2=>Yd.bool (or_some ⟨_,rfl⟩) fun b3=>Yd.bool (or_some ⟨_,rfl⟩) fun b4=>Yd.bool (or_some ?_) fun b5=>Yd.bool (or_some ⟨_,rfl⟩) fun b7=>Yd.bool (or_some ⟨_,rfl⟩) fun b8=>Yd.cond (fun _=> .some trivial) (fun _=> ?_)
 ·rw[TH (by omega),Qs (by omega)]
  exact⟨_,rfl⟩
 refine Yd.list w.aH (by omega) (fun i (_:Unit)=>(i,())) (fun _ _=>True) (fun i x s _ _ hx hi hd hw ha=> ?_) (fun s _ hd=> ?_) (s:=()) trivial
 ·have hx':w.aH[i]?=some x:=by rw[<-hw,bA]
  have hT:w.cM[i]?=some w.cM[i]:=Qv (by omega)
  obtain⟨g1,g2⟩:=h.tr _ (QZ (show i<w.cM.length by omega))
  simp only[hd,Qk,hw,Qa];refine Yd.join (fun _=>True) (fun v _=>Yd.cond (fun _=> .some trivial) (fun _=> ?_)) (fun j' hj=> ?_)
  ·rw[bA,hT,Qa];refine Yd.list w.cM[i] (by omega) (fun i (_:Unit)=>(i,())) (fun _ _=>True) (fun j t s _ _ ht hj hd' hw' ha'=> ?_) (fun s _ hd'=> ?_) (s:=()) trivial
   ·simp only[hd',Qk,hw',Qa];refine Yd.join (fun _=>True) (fun v _=>Yd.cond (fun _=> .some trivial) (fun _=> .some ⟨(),by rw[ha'],trivial⟩)) (fun j' hj'=> ?_)
    rw[tZ (by omega),Qk]
    refine Yd.bool (Tn _ ?_ (fun u hu=>g2 u (Q0 (Q1 hu))) t) fun r19=>Yd.cond (fun _=>hj' _ trivial) (fun _=> ?_)
    ·rw[List.length_drop,List.length_take];omega
    ·rw[lZ (g2 t ht),Qa];exact hj' _ trivial
   ·simp only[hd',Ql];exact .some ⟨(),by rw[ha],trivial⟩
  ·refine Yd.cond (fun _=>hj _ trivial) (fun _=>(tW (h.nodes i x hx') hk).bind fun r _=>Yd.cond (fun _=>hj _ trivial) (fun _=> ?_))
   rw[bA,hT,Qa];refine Yd.cond (fun _=>hj _ trivial) (fun _=> ?_)
   rw[Qa];exact Yd.bool (Tn _ (by omega) g2 _) fun r24=>hj _ trivial
 ·simp only[hd,Ql];exact .some trivial
theorem Hr{k k':Int}{w:aZ}(h:ik k w)(hk:k<=k'){i:Nat}(hi:i<w.aH.length){p:ay}(hp:mo (i:Int) k' p):
  Yd (mr w p) fun q=>q={w with aH:=w.aH.set i p}/\ik k' q:=by
 have hn:=h.n1;unfold mr;simp only[ab.eta,ay.eta];rw[br (by omega),Qk,hp.aG,bA,QV,Qv hi,Qa,Qa]
 refine .some ⟨rfl,h.t0,h.t1,by show 1<=(w.aH.set i p).length;rw[QX];exact h.n0,by show(w.aH.set i p).length<=10;rw[QX];exact hn,fun j x hx=> ?_,h.F9,by show w.cM.length=(w.aH.set i p).length;rw[QX];exact h.tl,h.tr⟩
 have hx:(w.aH.set i p)[j]?=some x:=hx
 by_cases e:i=j
 ·subst e;rw[List.getElem?_set_self hi]at hx;injection hx with hx
  rw[<-hx];exact hp
 ·rw[List.getElem?_set_ne e]at hx;exact(h.nodes j x hx).le hk
theorem aa5{k:Int}{w:aZ}(h:ik k w)(hk0:0<=k)(hk:k<=990000):Yd (uZ w) fun q=>q.2.1=0->ik (k+4001) q.1/\q.1.Time=w.Time+1:=by
 have hn1:=h.n1;have ht1:=h.t1;have ht0:=h.t0;unfold uZ;simp only[ax.eta,ak.eta,aQ.eta,ab.eta,ay.eta];refine Yd.cond (fun _=> .some fun e=>absurd e (by decide)) (fun ht=> ?_)
 have ht:=of_decide_eq_false ht;rw[bY (by omega) (by omega)]
 refine(adS h.F9 (w.Time+1)).bind fun r ⟨r1,r2,r3⟩=> ?_
 refine Yd.list r.1 (by omega) (fun i (s:aZ)=>(i,s,())) (fun i s=>ik (k+i) s/\s.Time=w.Time+1/\s.aH.length=w.aH.length) (fun i q s ⟨g1,g2,g3⟩ _ hq hi hd hw ha=> ?_) (fun s ⟨g1,g2,g3⟩ hd=> ?_)
  (s:={w with Time:=w.Time+1,Net:=r.2.1}) ⟨⟨by show 0<=w.Time+1;omega,by show w.Time+1<=200;omega,h.n0,h.n1,fun i x hx=>by rw[show k+((0:Nat):Int)=k by omega];exact h.nodes i x hx,r3,h.tl,h.tr⟩,rfl,rfl⟩
 ·have hp:=r2 q hq;simp only[hd,Qk];refine Yd.join (fun v=>ik (k+((i+1:Nat):Int)) v.1/\v.1.Time=w.Time+1/\v.1.aH.length=w.aH.length) (fun v hv=> .some ⟨_,by rw[ha],hv⟩) (fun j' hj=> ?_)
  have stay:ik (k+((i+1:Nat):Int)) s/\s.Time=w.Time+1/\s.aH.length=w.aH.length:=⟨g1.le (by omega),g2,g3⟩
  rw[hw,Qa];obtain⟨sk,hsk⟩:=Dj s hp.t0 (by have:=hp.t1;omega)
  rw[hsk]
  by_cases hto:((List.length s.aH:Nat):Int)<=q.To
  ·rw[Qg hto];exact hj _ stay
  ·rw[Qh hto];simp only[Ql,Qa];refine Yd.cond (fun _=>hj _ stay) (fun _=> ?_)
   obtain⟨m,hm⟩:∃m:Nat,q.To=m:=⟨q.To.toNat,by have:=hp.t0;omega⟩
   have hml:m<s.aH.length:=by omega
   rw[hm,bA,Qv hml,Qa,g2];refine(ab6 (g1.nodes m _ (Qv hml)) (by omega) (by omega) (now:=w.Time+1) (by omega) (by omega) hp.l.1 (by rw[<-hm];exact hp.ne)).bind fun y hy=> ?_
   refine Yd.cond (fun y0=> ?_) (fun _=>hj _ stay)
   rcases hy with⟨_,hy⟩|hy
   ·refine(Hr g1 (show k+(i:Int)<=k+((i+1:Nat):Int)by omega) hml (p:=y.1) (by rw[show k+((i+1:Nat):Int)=k+(i:Int)+1 by omega];exact hy)).bind fun z ⟨z1,z2⟩=>hj _ ⟨z2,?_,?_⟩
    ·rw[z1];exact g2
    ·rw[z1];show(s.aH.set m y.1).length=_;rw[QX,g3]
   ·exact absurd (of_decide_eq_true y0) hy
 simp only[hd,Ql];refine Yd.inr ?_;have K0:k+((r.1.length:Nat):Int)<=k+4000:=by omega
 have g1:=g1.le K0
 refine Yd.list s.aH (by omega) (fun i (s:aZ)=>(i,s,())) (fun i u=>ik (k+4001) u/\u.Time=w.Time+1/\u.aH.length=s.aH.length/\∀(j:Nat) (x:ay),i<=j->u.aH[j]?=some x->mo (j:Int) (k+4000) x) (fun i x u ⟨f1,f2,f3,f4⟩ _ hx hi hd hw ha=> ?_) (fun u ⟨f1,f2,f3,_⟩ hd=> ?_)
  (s:=s) ⟨g1.le (by omega),g2,rfl,fun j x _ hx=>g1.nodes j x hx⟩
 ·simp only[hd,Qk];refine Yd.join (fun v=>ik (k+4001) v.1/\v.1.Time=w.Time+1/\v.1.aH.length=s.aH.length/\∀(j:Nat) (x:ay),i+1<=j->v.1.aH[j]?=some x->mo (j:Int) (k+4000) x) (fun v hv=> .some ⟨_,by rw[ha],hv⟩) (fun j' hj=> ?_)
  have stay:ik (k+4001) u/\u.Time=w.Time+1/\u.aH.length=s.aH.length/\∀(j:Nat) (x:ay),i+1<=j->u.aH[j]?=some x->mo (j:Int) (k+4000) x:=⟨f1,f2,f3,fun j x hj=>f4 j x (by omega)⟩
  have hil:i<u.aH.length:=by omega
  refine Yd.bool (Dj u (i:=(i:Int)) (by omega) (by omega)) fun r14=>Yd.cond (fun _=>hj _ stay) (fun _=> ?_)
  rw[bA,Qv hil,Qa,f2];refine(aa6 (f4 i _ (QI i) (Qv hil)) (by omega) (by omega) (now:=w.Time+1) (by omega) (by omega)).bind fun y hy=> ?_
  refine Yd.cond (fun y0=> ?_) (fun _=>hj _ stay)
  rcases hy with⟨_,hy⟩|hy
  ·refine(Hr f1 (Int.le_refl _) hil (p:=y.1) (by rw[show k+4001=k+4000+1 by omega];exact hy)).bind fun z ⟨z1,z2⟩=>hj _ ⟨z2,?_,?_,fun j x hj' hx=> ?_⟩
   ·rw[z1];exact f2
   ·rw[z1];show(u.aH.set i y.1).length=_;rw[QX,f3]
   ·rw[z1]at hx;have hx:(u.aH.set i y.1)[j]?=some x:=hx;rw[List.getElem?_set_ne (by omega)]at hx
    exact f4 j x (by omega) hx
  ·exact absurd (of_decide_eq_true y0) hy
 simp only[hd,Ql];refine Yd.inr ?_;refine Yd.list u.aH (by omega) (fun i (s:aZ)=>(i,s,())) (fun _ v=>ik (k+4001) v/\v.Time=w.Time+1) (fun i x v ⟨e1,e2⟩ _ hx hi hd hw ha=> ?_) (fun v ⟨e1,e2⟩ hd=> ?_) (s:=u) ⟨f1,f2⟩
 ·have hx':u.aH[i]?=some x:=by rw[<-hw,bA]
  simp only[hd,Qk,hw,Qa];refine Yd.join (fun v=>ik (k+4001) v.1/\v.1.Time=w.Time+1) (fun v hv=> .some ⟨_,by rw[ha],hv⟩) (fun j' hj=> ?_)
  refine Yd.bool (Dj v (i:=(i:Int)) (by omega) (by omega)) fun r14=>Yd.cond (fun _=>hj _ ⟨e1,e2⟩) (fun _=> ?_)
  refine(VE (f1.nodes i x hx') (by omega)).bind fun L ⟨hL,hLy⟩=> ?_
  refine Yd.list L (by omega) (fun i (s:aZ)=>(i,s,())) (fun _ v=>ik (k+4001) v/\v.Time=w.Time+1) (fun m l v ⟨e1,e2⟩ _ hl hm hd' hw' ha'=> ?_) (fun v hv hd'=> ?_) (s:=v) ⟨e1,e2⟩
  ·simp only[hd',Qk,hw',Qa];have hvn:=e1.n1;refine Yd.list v.aH (by omega) (fun i (s:aZ)=>(i,s,())) (fun _ v=>ik (k+4001) v/\v.Time=w.Time+1) (fun n y v ⟨e1,e2⟩ _ hy hn hd'' hw'' ha''=> ?_) (fun v hv hd''=> ?_) (s:=v) ⟨e1,e2⟩
   ·simp only[hd'',Qk];refine Yd.join (fun v=>ik (k+4001) v.1/\v.1.Time=w.Time+1) (fun v hv=> .some ⟨_,by rw[ha''],hv⟩) (fun j' hj=> ?_)
    refine Yd.cond (fun _=>hj _ ⟨e1,e2⟩) (fun _=> ?_)
    refine(UP e1.F9 (hLy l hl) v.Time (a:=(i:Int)) (b:=(n:Int))).bind fun z hz=>Yd.cond (fun z0=>hj _ ⟨e1.Sq (hz (of_decide_eq_true z0)),e2⟩) (fun _=>hj _ ⟨e1,e2⟩)
   ·simp only[hd'',Ql];exact .some ⟨_,by rw[ha'],hv⟩
  ·simp only[hd',Ql];exact Yd.inr (hj _ hv)
 ·simp only[hd,Ql];exact .some fun _=>⟨e1,e2⟩
end
section
theorem acR{rec:(ab×Unit)->Option Int}{t:ab}(hm:de t)(hr:∀u∈t.aL,∃r,rec (u,())=some r):Yd (rp rec t) fun _=>True:=by
 have hn:=hm.nodes;have hl:=hm.len;unfold rp;simp only[ab.eta];refine Yd.list t.aH (by omega) (fun i (s:Int)=>(s,i,())) (fun _ _=>True) (fun i x s _ _ hx hi hd hw ha=> ?_) (fun s _ hd=> ?_) (s:=0) trivial
 ·simp only[hd,Qk,hw,Qa];refine Yd.join (fun _=>True) (fun v _=> .some ⟨_,by rw[ha],trivial⟩) (fun j' hj=> ?_)
  by_cases h0:(0:Int)<=x
  ·rw[Qg h0];simp only[Qk,Qa];refine Yd.cond (fun _=> ?_) (fun _=>hj _ trivial)
   rw[Qs (by omega)]
   exact hj _ trivial
  ·rw[Qh h0];exact hj _ trivial
 ·simp only[hd,Ql];refine Yd.inr ?_;show Yd _ fun _=>True
  refine Yd.list t.aL (by omega) (fun i (s:Int)=>(s,i,())) (fun _ _=>True) (fun i x s _ _ hx hi hd hw ha=> ?_) (fun s _ hd=> ?_) (s:=s) trivial
  ·simp only[hd,Qk,hw,Qa];obtain⟨r,hr⟩:=hr x hx;rw[hr,Qa];exact .some ⟨_,by rw[ha],trivial⟩
  ·simp only[hd,Ql];exact .some trivial
theorem acO{n:Nat}:∀{t:ab},SizeOf.sizeOf t<n->de t->∃r,uU n (t,())=some r:=by
 induction n with
 |zero=>intro t h;omega
 |succ n ih=>
  intro t hz hm;show∃r,rp (uU n) t=some r;obtain⟨r,hr,_⟩:=acR (rec:=uU n) hm fun u hu=>ih (t:=u) (by have:=jt hu;omega) (hm.inner u hu)
  exact⟨r,hr⟩
theorem Ux{t:ab}(h:de t):∃r,vr t=some r:=acO (by omega) h
def Wq(k T:Int)(q:aZ×Int×Unit):Prop:=q.2.1=0->ik k q.1/\q.1.Time=T
theorem Wq.no{k T e:Int}{z:aZ}(he:e≠0):Yd (some (z,e,())) (Wq k T):= .some fun h0=>absurd h0 he
structure T6 (x:aI):Prop where
 c1:x.az=1->1<=x.aE/\x.aE<=1000000/\x.Value.size<=200
 c8:x.az=8->1<=x.aE/\x.aE<=1000000/\mB x.Value
 c3:x.az=3->cG x.aa
 c5:x.az=5->CA x.aq x.af
 c6:x.bx.length<=1000000
section
variable {k : Int} {w : aZ} (h : ik k w) (hk0 : 0 <= k) (hk : k <= 990000) {x : aI}
 include h hk0 hk
theorem abf{m:Nat}(hm:x.aq=m)(hml:m<w.aH.length)(hL:CA x.aq x.af):Yd (u7 w x) (Wq k w.Time):=by
 have hn1:=h.n1;unfold u7;simp only[ax.eta,ak.eta,aQ.eta,ab.eta];refine Yd.bool (Dj w (by omega) (by omega)) fun r1=>Yd.bool (or_some ?_) fun b3=>Yd.bool (or_some ⟨_,rfl⟩) fun b4=>Yd.cond (fun _=>Wq.no (by decide)) (fun _=> ?_)
 ·obtain⟨r2,h2,_⟩:=P8 w x.To;exact⟨!r2,by rw[h2];rfl⟩
 refine Yd.bool (zk ⟨_,rfl⟩) fun b5=>Yd.bool (or_some ?_) fun b7=>Yd.cond (fun _=>Wq.no (by decide)) (fun _=>Yd.bool (zk ⟨_,rfl⟩) fun b8=>Yd.cond (fun _=>Wq.no (by decide)) (fun _=> ?_))
 ·cases decide (x.af.az=(2:Int))<;>exact⟨_,rfl⟩
 refine(UP h.F9 hL w.Time).bind fun z hz=>Yd.cond (fun z0=> .some fun e=> ?_) (fun z0=> .some fun _=>⟨h.Sq (hz (by simpa using z0)),rfl⟩)
 rw[Qg (show z.2.1=0 from e)]at z0
 cases z0
theorem acs{m:Nat}(hm:x.aq=m)(hml:m<w.aH.length)(ht:cG x.aa):Yd (qd w x) (Wq (k+1) w.Time):=by
 have hn1:=h.n1;have ht0:=h.t0;have ht1:=h.t1;have htl:=h.tl;have hP:=h.nodes m _ (Qv hml);have hT:w.cM[m]?=some w.cM[m]:=Qv (by omega)
 obtain⟨g1,g2⟩:=h.tr _ (QZ (show m<w.cM.length by omega))
 unfold qd;simp only[ab.eta,ay.eta];rw[hm,bA,Qv hml,Qa];refine Yd.cond (fun _=>Wq.no (by decide)) (fun _=> ?_)
 refine Yd.join (fun _=>True) (fun v _=>Yd.cond (fun _=>Wq.no (by decide)) (fun _=> ?_)) (fun j' hj=> ?_)
 ·rw[bA,hT,Qa];obtain⟨r5,h5⟩:=Tn _ (by omega) g2 x.aa
  rw[h5,Qa]
  obtain⟨b7,h7,h7'⟩:∃b7,(bif (!r5)then Option.bind (some w.cM[m]) fun x6=>some (decide ((4:Int)<=((List.length x6:Nat):Int)))else some false)=some b7/\(b7=false->r5=false->w.cM[m].length<4):=by
   cases r5 with
   |true=>exact⟨false,rfl,fun _ e=>by cases e⟩
   |false=>exact⟨_,rfl,fun e _=>by have:=of_decide_eq_false e;omega⟩
  rw[h7,Qa];refine Yd.cond (fun _=>Wq.no (by decide)) (fun hb7=> ?_)
  refine(acu hP (by omega) (by omega) (now:=0) (by omega) (by omega) ht).bind fun y hy=>Yd.cond (fun y0=> .some fun e=> ?_) (fun y0=> ?_)
  ·rw[Qg (show y.2.1=0 from e)]at y0
   cases y0
  ·have y0:y.2.1=0:=by simpa using y0
   rcases hy with⟨_,hy⟩|hy
   ·refine(Hr h (show k<=k+1 by omega) hml hy).bind fun z ⟨z1,z2⟩=> ?_
    have zt:z.Time=w.Time:=by rw[z1]
    have zT:z.cM=w.cM:=by rw[z1]
    refine Yd.join (fun v=>ik (k+1) v.1/\v.1.Time=w.Time) (fun v hv=> .some fun _=>hv) (fun j' hj=> ?_)
    refine Yd.cond (fun hr=> ?_) (fun _=>hj _ ⟨z2,zt⟩)
    have h4:=h7' hb7 (by simpa using hr)
    rw[zT,br (by omega),Qk,QV]
    simp only[bA,hT,Qa];rw[br (by omega),Qk,br (by simp;omega),Qk]
    refine hj _ ⟨⟨z2.t0,z2.t1,z2.n0,z2.n1,z2.nodes,z2.F9,?_,fun l hl=> ?_⟩,zt⟩
    ·show(w.cM.set m _).length=z.aH.length;rw[QX,<-zT];exact z2.tl
    ·rcases List.mem_or_eq_of_mem_set (show l∈w.cM.set m _ from hl)with hl|rfl
     ·exact h.tr l hl
     ·refine⟨by simp;omega,fun t ht'=> ?_⟩
      rcases Qz.1 ht' with ht'|ht'
      ·exact g2 t ht'
      ·rw[Q4.1 ht'];exact ht.sm
   ·exact absurd y0 hy
 ·rw[lZ ht.sm,Qa];refine Yd.cond (fun _=>hj _ trivial) (fun _=> ?_)
  obtain⟨r,hr⟩:=Ux ht.sm;rw[hr,Qa,TH (by omega),Qs (by omega)]
  exact hj _ trivial
end
def JW(s:Int)(w:aZ):Prop:=ik (4100*w.Time+2*s) w
theorem aeT{s:Int}{w:aZ}(h:JW s w)(hs0:0<=s)(hs:s<=400){x:aI}(hx:T6 x):Yd (xW w x) fun q=>q.2.1=0->JW (s+1) q.1:=by
 have hI:ik (4100*w.Time+2*s) w:=h;have ht0:=hI.t0;have ht1:=hI.t1;have no:∀{z:aZ} {e:Int},e≠0->Yd (some (z,e,())) fun q:aZ×Int×Unit=>q.2.1=0->JW (s+1) q.1:=fun he=> .some fun h0=>absurd h0 he
 have fin:∀{z:aZ} {k:Int},k<=4100*w.Time+2*s+1->ik k z->z.Time=w.Time->JW (s+1) z:=fun hk hz ht=>by
  show ik _ _;rw[ht];exact hz.le (by omega)
 unfold xW;simp only[ax.eta,ak.eta,aQ.eta,ab.eta,ay.eta,aI.eta];refine(aaD hI (by omega)).bind fun r1 _=>Yd.cond (fun _=>no (by decide)) (fun _=> ?_)
 obtain⟨b2,h2,g2⟩:∃b2,(bif (decide (x.az<(1:Int)))then some true else some (decide ((8:Int)<x.az)))=some b2/\(b2=false->1<=x.az/\x.az<=8):=by
  by_cases e:x.az<1
  ·exact⟨true,by rw[Qg e];rfl,fun e=>by cases e⟩
  ·exact⟨_,by rw[Qh e];rfl,fun e'=>⟨by omega,by have:=of_decide_eq_false e';omega⟩⟩
 rw[h2,Qa];refine Yd.cond (fun _=>no (by decide)) (fun hb2=> ?_)
 obtain⟨kd1,kd8⟩:=g2 hb2;obtain⟨rt,hrt,hrt'⟩:=P8 w x.aq
 by_cases k2:x.az=2
 ·simp only[Qg k2,Qo,Ql,Qk,Qa]
  obtain⟨b6,h6,g6⟩:∃b6,(bif (decide (x.Count<(1:Int)))then some true else some (decide ((200:Int)<x.Count)))=some b6/\(b6=false->x.Count<=200):=by
   by_cases e:x.Count<1
   ·exact⟨true,by rw[Qg e];rfl,fun e=>by cases e⟩
   ·exact⟨_,by rw[Qh e];rfl,fun e'=>by have:=of_decide_eq_false e';omega⟩
  rw[h6,Qa];refine Yd.cond (fun _=>no (by decide)) (fun hb6=> ?_)
  have hc:=g6 hb6;refine Yd.Aa (fun u=>∃(i:Nat) (v z:aZ),u=((i:Int),v,z,())/\JW s v) (fun u=>(x.Count - u.1).toNat) (fun u hu=> ?_) ⟨0,w,_,rfl,h⟩
  obtain⟨i,v,z,rfl,hv⟩:=hu;have hV:ik (4100*v.Time+2*s) v:=hv;have hv0:=hV.t0;have hv1:=hV.t1;refine Yd.cond (fun hi=> ?_) (fun _=> ?_)
  ·have hi:(i:Int)<x.Count:=of_decide_eq_true hi;refine(aa5 hV (by omega) (by omega)).bind fun q hq=>Yd.cond (fun q0=> .some fun e=> ?_) (fun q0=> ?_)
   ·rw[Qg (show q.2.1=0 from e)]at q0
    cases q0
   ·obtain⟨f1,f2⟩:=hq (by simpa using q0)
    refine .some ⟨⟨i+1,q.1,z,?_,?_⟩,?_⟩
    ·show(aB .i64 (i:Int) 1,q.1,z,())=_;rw[bY (by omega) (by omega)]
     rfl
    ·show ik _ _;rw[f2];exact f1.le (by omega)
    ·show(x.Count - aB .i64 (i:Int) 1).toNat<(x.Count - (i:Int)).toNat;rw[bY (by omega) (by omega)]
     omega
  ·refine .some fun _=> ?_
   show ik (4100*v.Time+2*(s+1)) v;exact hV.le (by omega)
 by_cases k6:x.az=6
 ·simp only[Qh k2,Qg k6,Qo,Qp,Ql,Qk,Qa];refine(ZB hI.F9 hx.c6).bind fun z hz=>Yd.cond (fun z0=> .some fun e=> ?_) (fun z0=> .some fun _=>fin (by omega) (hI.Sq (hz (by simpa using z0))) rfl)
  rw[Qg (show z.2.1=0 from e)]at z0
  cases z0
 simp only[Qh k2,Qh k6,Qp,Ql,Qk,hrt,Qa];refine Yd.cond (fun _=>no (by decide)) (fun hb5=> ?_)
 obtain⟨m,hm,hml⟩:=hrt' (by simpa using hb5)
 have hn1:=hI.n1;refine Yd.cond (fun _=> ?_) (fun k7=>Yd.cond (fun k5=> ?_) (fun k5=> ?_))
 ·refine(XS hI.F9 x.aq x.To x.Count).bind fun z hz=>Yd.cond (fun z0=> .some fun e=> ?_) (fun z0=> .some fun _=>fin (by omega) (hI.Sq (hz (by simpa using z0))) rfl)
  rw[Qg (show z.2.1=0 from e)]at z0
  cases z0
 ·refine(abf hI (by omega) (by omega) hm hml (hx.c5 (of_decide_eq_true k5))).bind fun z hz=> .some fun e=> ?_
  obtain⟨f1,f2⟩:=hz e;exact fin (by omega) f1 f2
 refine Yd.bool (Dj w (by omega) (by omega)) fun r12=>Yd.cond (fun _=>no (by decide)) (fun _=> ?_)
 rw[hm,bA,Qv hml,Qa];have hP:=hI.nodes m _ (Qv hml);refine Yd.join (fun v=>v.1=0->mo (m:Int) (4100*w.Time+2*s) v.2.2.1) (fun v hv=>Yd.cond (fun v0=> .some fun e=> ?_) (fun v0=> ?_)) (fun j' hj=> ?_)
 ·rw[Qg (show v.1=0 from e)]at v0
  cases v0
 ·refine(Hr hI (Int.le_refl _) hml (hv (by simpa using v0))).bind fun z ⟨z1,z2⟩=> .some fun _=>fin (by omega) z2 (by rw[z1])
 have got:∀{y:ay×Int×Unit} {z:aZ},Pq (m:Int) (4100*w.Time+2*s) y->Yd (j' (y.2.1,z,y.1,())) fun q:aZ×Int×Unit=>q.2.1=0->JW (s+1) q.1:=fun hy=>hj _ fun e=>by
  rcases hy with⟨_,hy⟩|hy
  ·exact hy
  ·exact absurd e hy
 refine Yd.cond (fun k1=> ?_) (fun k1=>Yd.cond (fun k8=> ?_) (fun k8=>Yd.cond (fun k4=> ?_) (fun k4=> ?_)))
 ·obtain⟨c1,c2,c3⟩:=hx.c1 (of_decide_eq_true k1);exact(abE hP (by omega) (by omega) c1 c2 ht0 ht1 c3).bind fun y hy=>got hy
 ·obtain⟨c1,c2,c3⟩:=hx.c8 (of_decide_eq_true k8);exact(Xj hP (by omega) (by omega) c1 c2 ht0 ht1 c3).bind fun y hy=>got hy
 ·exact(aba hP (by omega) (by omega)).bind fun y hy=>hj _ fun _=>hy
 ·have k1:=of_decide_eq_false k1;have k8:=of_decide_eq_false k8;have k4:=of_decide_eq_false k4;have k5:=of_decide_eq_false k5;have k7:=of_decide_eq_false k7;refine(acs hI (by omega) (by omega) hm hml (hx.c3 (by omega))).bind fun z hz=> .some fun e=> ?_
  obtain⟨f1,f2⟩:=hz e;exact fin (by omega) f1 f2
theorem Y5{c:bQ}(hc:∀m∈c.bq,de m.aa):Yd (tf c) fun e=>e=0->c.bq.length<=10:=by
 unfold tf;simp only[ab.eta];refine Yd.cond (fun _=> .some fun e=>absurd e (by decide)) (fun hl=> ?_)
 have hl:=of_decide_eq_false hl;refine Yd.list c.bq (by omega) (fun i (_:Unit)=>(i,())) (fun _ _=>True) (fun i x s _ _ hx hi hd hw ha=> ?_) (fun s _ hd=> ?_) (s:=()) trivial
 ·have hs:=hc x hx;have hle:c.bq.length<=10:=by omega
  simp only[hd,Qk,hw,Qa];refine Yd.join (fun _=>True) (fun v _=> .some ⟨(),by rw[ha],trivial⟩) (fun j' hj=>Yd.cond (fun _=> ?_) (fun _=> ?_))
  ·obtain⟨r,hr,_⟩:=Hb (a:=x.aa) (b:=ab.mk (0:Int) ([]:List Int) ([]:List ab)) hs;rw[hr,Qa];exact Yd.cond (fun _=> .some fun _=>hle) (fun _=>hj _ trivial)
  ·rw[lZ hs,Qa];refine Yd.cond (fun _=> .some fun _=>hle) (fun _=> ?_)
   obtain⟨r,hr⟩:=Ux hs;rw[hr,Qa,Qs (by omega)]
   exact Yd.cond (fun _=> .some fun _=>hle) (fun _=>hj _ trivial)
 ·simp only[hd,Ql];exact .some fun _=>by omega
theorem adn{c:bQ}(hc:∀m∈c.bq,cG m.aa)(qK:Int):Yd (wP c qK) fun q=>q.2.1=0->JW 0 q.1:=by
 have no:∀{z:aZ} {e:Int},e≠0->Yd (some (z,e,())) fun q:aZ×Int×Unit=>q.2.1=0->JW 0 q.1:=fun he=> .some fun h0=>absurd h0 he
 unfold wP;simp only[ab.eta];refine(Y5 fun m hm=>(hc m hm).sm).bind fun r hr=>Yd.cond (fun r0=>no (by simpa using r0)) (fun r0=> ?_)
 have hl:=hr (by simpa using r0)
 refine Yd.list c.bq (by omega) (fun i (s:aZ)=>(i,s,())) (fun _ _=>True) (fun i x s _ _ hx hi hd hw ha=> ?_) (fun s _ hd=> ?_) (s:=_) trivial
 ·simp only[hd,Qk,hw,Qa];exact Yd.cond (fun _=> .some fun e=>absurd e (by decide)) (fun _=> .some ⟨s,by rw[ha],trivial⟩)
 ·simp only[hd,Ql];refine Yd.inr ?_
  obtain⟨b4,h4,g4⟩:∃b4,(bif (decide (((List.length c.bq:Nat):Int)=(0:Int)))then some true else some (decide (qK<(0:Int))))=some b4/\(b4=false->1<=c.bq.length):=by
   by_cases e:((List.length c.bq:Nat):Int)=0
   ·exact⟨true,by rw[Qg e];rfl,fun e=>by cases e⟩
   ·exact⟨_,by rw[Qh e];rfl,fun _=>by omega⟩
  rw[h4,Qa,TH (by omega),Qs (by omega)]
  cases b4 with
  |true=>exact no (by decide)
  |false=>
   have hl1:=g4 rfl;simp only[Ql,Qa];refine Yd.cond (fun _=>no (by decide)) (fun _=> ?_)
   show Yd _ fun q:aZ×Int×Unit=>q.2.1=0->JW 0 q.1
   refine Yd.list c.bq (by omega) (fun i (s:aZ×List ay×List (List ab))=>(i,s.1,s.2.1,s.2.2,()))
    (fun i s=>(s.1.Time=0/\s.1.Net=⟨[],0,[],[]⟩)/\(s.2.1.length=i/\s.2.2.length=i)/\(∀(j:Nat) (x:ay),s.2.1[j]?=some x->mo (j:Int) 0 x)/\∀l∈s.2.2,l.length<=4/\∀t∈l,de t) (fun i x s ⟨g1,g2,g3,g5⟩ _ hx hi hd hw ha=> ?_) (fun s ⟨g1,g2,g3,g5⟩ hd=> ?_)
    (s:=(⟨0,[],qK,⟨[],0,[],[]⟩,[]⟩,[],[])) ⟨⟨rfl,rfl⟩,⟨rfl,rfl⟩,fun j x hx=>by simp at hx,fun l hl=>by cases hl⟩
   ·have hg:=hc x hx;simp only[hd,Qk,hw,Qa];rw[br (by simp;omega),Qk,br (by simp;omega),Qk,ha]
    refine .some ⟨({s.1 with aH:=[],cM:=[]},s.2.1++[_],s.2.2++[_]),rfl,g1,⟨by simp;omega,by simp;omega⟩,fun j y hy=> ?_,fun l hl=> ?_⟩
    ·have hy:(s.2.1++[(ay.mk (i:Int) false x.aa ([]:List bw))])[j]?=some y:=hy;rcases Nat.lt_trichotomy j i with hj|rfl|hj
     ·rw[List.getElem?_append_left (by omega)]at hy
      exact g3 j y hy
     ·rw[List.getElem?_append_right (by omega),g2.1,Nat.sub_self]at hy
      injection hy with hy
      rw[<-hy];exact⟨rfl,by omega,by omega,hg,QS _,fun x hx=>by cases hx⟩
     ·rw[List.getElem?_append_right (by omega),Qq71 (by simp;omega)]at hy
      cases hy
    ·rcases Qz.1 (show l∈s.2.2++[[x.aa]]from hl)with hl|hl
     ·exact g5 l hl
     ·rw[Q4.1 hl];exact⟨by simp,fun t ht=>by rw[Q4.1 ht];exact hg.sm⟩
   ·simp only[hd,Ql];refine .some fun _=> ?_
    show ik (4100*s.1.Time+2*0) {s.1 with aH:=s.2.1,cM:=s.2.2}
    rw[g1.1];exact⟨by show 0<=s.1.Time;rw[g1.1];omega,by show s.1.Time<=200;rw[g1.1];omega,by show 1<=s.2.1.length;omega,by show s.2.1.length<=10;omega,g3,by show tG s.1.Net;rw[g1.2];exact⟨QS _,(fun q hq=>by cases hq),QS _,.inl rfl⟩,by show s.2.2.length=s.2.1.length;omega,g5⟩
def YW(w:aZ):Prop:=w=⟨0,[],0,⟨[],0,[],[]⟩,[]⟩\/∃s,0<=s/\s<=400/\JW s w
theorem ac9{c:bQ}(hc:∀m∈c.bq,cG m.aa)(qK:Int){l:List aI}(hl:l.length<=400)(hs:∀x∈l,T6 x):Yd (sQ c qK l) fun q=>YW q.1:=by
 unfold sQ;simp only[ax.eta,ak.eta,aQ.eta,ab.eta,aI.eta];refine(adn hc qK).bind fun r hr=>Yd.cond (fun _=> .some (.inl rfl)) (fun r0=> ?_)
 have hJ:=hr (by simpa using r0)
 refine Yd.cond (fun _=> .some (.inr ⟨0,by omega,by omega,hJ⟩)) (fun _=> ?_)
 refine Yd.list l (by omega) (fun i (s:aZ×aZ)=>(i,s.1,s.2,())) (fun i s=>JW (i:Int) s.2) (fun i x s g _ hx hi hd hw ha=> ?_) (fun s g hd=> ?_) (s:=(_,r.1)) hJ
 ·simp only[hd,Qk,hw,Qa];refine(aeT g (by omega) (by omega) (hs x hx)).bind fun q hq=>Yd.cond (fun _=> .some (.inr ⟨i,by omega,by omega,g⟩)) (fun q0=> .some ⟨(s.1,q.1),by rw[ha],?_⟩)
  have:=hq (by simpa using q0)
  show JW ((i+1:Nat):Int) q.1;rw[show((i+1:Nat):Int)=(i:Int)+1 by omega]
  exact this
 ·simp only[hd,Ql];exact .some (.inr ⟨(l.length:Int),by omega,by omega,g⟩)
end
end Go.Proofs.YtnhgcpiljggmmaaGreatDoor
end
