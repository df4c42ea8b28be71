/-
  Texts made small by a program (see NOTES). Conditions: those that each theorem names.
-/
import Derived.Test.YtgjpkadjihpddaaGreatWaitsMe
set_option linter.unusedVariables false
set_option linter.unusedSimpArgs false
set_option linter.unusedSectionVars false
set_option maxHeartbeats 2000000
noncomputable section
namespace Go.Proofs.YtgjpkadjihpddaaGreat
open Go.TQ
section
theorem acs{m:ae}(h:bH m){p:aj->Bool}(hb:(jr p (eD (cr m))).testBit m.ao.toNat=true):aT m.af=false/\p (iv m)=true:=by
 rw[El,List.any_eq_true]at hb;obtain⟨e,he,hp⟩:=hb;rw[Qm,Qi]at hp;obtain⟨h1,h2⟩:=h.adb ((List.mem_filter.1 he).1) hp.2;rw[<-h2];exact⟨h1,hp.1⟩
theorem TG{m:ae}(h:bH m){b:ai}(hc:nJ m.ao.toNat m.ab (cr m) b=true):aT m.af=false/\iD (iv m) b=true:=by
 have hsm:=tO (aJ:=m.ao.toNat) h.aR.sm h.ev.vL.1;have hg:=Bf hsm (uI (p:=(iD · b)) (Ab (cr m)));exact acs h (hg.inside _ hc).1
theorem Ur{m:ae}(h1:m.aY=1){b:ai}(ha:iD (iv m) b=true):aT b=false/\dY m.an m.aH b=true:=by
 have e:iv m=⟨m.ao,m.aK,bP (df m).aO 1,m.ab,m.aY,m.af,m.an,m.aH,m.bo,fc m⟩:=by unfold iv df;rw[Qr h1]
 rw[e]at ha;unfold iD at ha;rw[Qm,Qr h1]at ha;simpa using ha
theorem Zl{m:ae}(h:bH m)(h1:P1 m):kV m=cq\/(dm (kV m)/\bD m.aw (kV m)=true/\dY m.an m.aH (kV m)=true):=by
 unfold kV CR;rcases Tk (l:=gw (cr m)) (p:=Ii (nJ m.ao.toNat m.ab (cr m)) m.aw) (z:=OH)with e|⟨h2,h3⟩
 ·exact .inl e
 ·right;unfold Ii at h3;simp only[Qm,Qi]at h3;exact⟨VC (FP h h2) h3.1.2,h3.1.1,(Ur h1.bf (TG h h3.2).2).2⟩
theorem adv{p q b:ai}{v:ByteArray}{n:Int}(hok:sw p q)(hb:dY p q b=true)(hv:b.Value≠v)(ha:qR p q v n=false):b.ah<=n:=by
 unfold qR at ha;rw[Qq73]at ha
 have key:∀x:ai,aT x=false->x.Value≠v->eS x ⟨n,v⟩=false->x.ah<=n:=by
  intro x hz hx h;unfold eS at h;rw[hz,(ju (a:=x) (b:=⟨n,v⟩)).2 hx,Qp,Bool.and_self,Bool.true_and]at h;exact JT h
 have hqp:aT q=false->dm q/\dm p/\bD q p=true/\q.Value≠p.Value:=fun hz=>by
  rcases hok.2 with e|⟨e1,e2,e3,e4⟩
  ·rw[e,cp]at hz;cases hz
  ·exact⟨e1,e2,e3,ju.1 e4⟩
 rw[BH]at hb;rcases hb with hb|hb|⟨hz,hl⟩
 ·obtain⟨h1,h2,h3⟩:=(kl _ _).1 hb;have:=key p h1 (by rw[h2];exact hv) ha.1
  omega
 ·obtain⟨h1,h2,h3⟩:=(kl _ _).1 hb;have:=key q h1 (by rw[h2];exact hv) ha.2
  omega
 ·obtain⟨e1,e2,e3,e4⟩:=hqp hz;have h5:=iq hl
  by_cases hqv:q.Value=v
  ·have:=key p e2.nz (by rw[<-hqv];exact fun e=>e4 e.symm) ha.1
   have:=iq e3;omega
  ·have:=key q hz hqv ha.2;omega
theorem agE{m:ae}(h1:P1 m){b:ai}(hb:dm b)(hl:bD m.aw b=true)(hp:dY m.an m.aH b=true):P1 (BZ m b)/\(BZ m b).an=m.an/\(BZ m b).aH=m.aH/\(BZ m b).aw=b/\m.af.ah<=(BZ m b).af.ah:=by
 unfold BZ;have hh:=Mz h1;split
 ·rename_i hlt
  have hhigh:∀L:Int,fc {m with aw:=b,af:=b,bo:=L}=b.ah:=by
   intro L;unfold fc;rw[Qr];rw[hb.nz,kp.2 rfl];rfl
  refine⟨⟨h1.bf,hb,h1.dH,h1.dJ,.inr ⟨hb,hp⟩,Zc b,h1.eX,?_⟩,rfl,rfl,rfl,iq hlt⟩;show(if cI m.af b=true then m.bo else 0)=0\/(1<=(if cI m.af b=true then m.bo else 0)/\(if cI m.af b=true then m.bo else 0)<=fc {m with aw:=b,af:=b,bo:=if cI m.af b=true then m.bo else 0}/\qR m.an m.aH b.Value (if cI m.af b=true then m.bo else 0)=false)
  rw[hhigh];split
  ·rename_i hc;rw[kp]at hc;rcases h1.low with e|⟨h2,h3,h4⟩
   ·exact .inl e
   ·refine .inr ⟨h2,?_,by rw[<-hc];exact h4⟩
    have:=iq hlt;omega
  ·exact .inl rfl
 ·rename_i hlt;have hlt:bD m.af b=false:=by simpa using hlt
  refine⟨⟨h1.bf,h1.bl,h1.dH,h1.dJ,.inr ⟨hb,hp⟩,hlt,h1.eX,?_⟩,rfl,rfl,rfl,Int.le_refl _⟩;rcases h1.low with e|⟨h2,h3,h4⟩
  ·exact .inl e
  ·refine .inr ⟨h2,?_,h4⟩;show m.bo<=fc {m with aw:=b}
   have hv:b.Value=m.af.Value:=by
    refine Classical.byContradiction fun hv=> ?_
    have h5:=adv h1.gE hp hv h4;have h6:=iq hl;rcases hh.2.2 with e|⟨e1,e2,e3⟩
    ·omega
    ·
     have e4:bD b m.aw=false:=HS.asymm hl;have e5:=hl;rw[xa]at e5;have hbc:b.ah=m.aw.ah:=by omega
     have hlow:m.bo=m.aw.ah:=by omega
     have e6:bD ⟨m.bo,m.af.Value⟩ b=true:=by
      have:(⟨m.bo,m.af.Value⟩:ai)=m.aw:=by rw[hlow,<-e2]
      rw[this];exact hl
     unfold qR at h4;rw[Qq73]at h4
     have key:∀x:ai,aT x=false->x.Value≠m.af.Value->eS x ⟨m.bo,m.af.Value⟩=false->bD ⟨m.bo,m.af.Value⟩ x=false:=by
      intro x hz hx h;unfold eS at h;rw[hz,(ju (a:=x) (b:=⟨m.bo,m.af.Value⟩)).2 hx,Qp,Bool.and_self,Bool.true_and]at h;exact h
     rw[BH]at hp;rcases hp with hp|hp|⟨hz,hq⟩
     ·obtain⟨g1,g2,g3⟩:=(kl _ _).1 hp;have g4:=key _ g1 (by rw[g2];exact hv) h4.1
      have g5:bD ⟨m.bo,m.af.Value⟩ m.an=true:=by
       by_cases e:b=m.an
       ·rw[<-e];exact e6
       ·exact lM e6 (GO (Hq hp) (fun e'=>e e'.symm))
      rw[g5]at g4;cases g4
     ·obtain⟨g1,g2,g3⟩:=(kl _ _).1 hp;have g4:=key _ g1 (by rw[g2];exact hv) h4.2
      have g5:bD ⟨m.bo,m.af.Value⟩ m.aH=true:=by
       by_cases e:b=m.aH
       ·rw[<-e];exact e6
       ·exact lM e6 (GO (Hq hp) (fun e'=>e e'.symm))
      rw[g5]at g4;cases g4
     ·rcases h1.dJ with e|⟨f1,f2,f3,f4⟩
      ·rw[e,cp]at hz;cases hz
      ·by_cases hqv:m.aH.Value=m.af.Value
       ·have g4:=key _ f2.nz (by rw[<-hqv];exact fun e=>(ju.1 f4) e.symm) h4.1
        rw[lM e6 (lM hq f3)]at g4;cases g4
       ·have g4:=key _ hz hqv h4.2;rw[lM e6 hq]at g4;cases g4
   have hhigh:fc {m with aw:=b}=b.ah:=by
    unfold fc;rw[Qr];show(!aT b&&cI b m.af)=true;rw[hb.nz,kp.2 hv];rfl
   rw[hhigh];rcases hh.2.2 with e|⟨e1,e2,e3⟩
   ·omega
   ·have:=iq hl;omega
theorem acx{m:ae}(h1:P1 m){b:ai}(hb:dm b)(hc:m.aw=b):P1 (ru m b):=by
 unfold ru;split
 ·rename_i hv;obtain⟨hL,hcp,hle⟩:=hv;rw[kp]at hcp;refine⟨h1.bf,h1.bl,h1.dH,h1.dJ,h1.dQ,h1.up,h1.eX,?_⟩;obtain⟨h2,h3,h4⟩:=Vq (v:=b.Value) (n:=m.af.ah) h1.gE.valid.1 h1.gE.valid.2;refine .inr ⟨h3,?_,by show qR m.an m.aH m.af.Value _=false;rw[hcp];exact h4⟩
  show qI b.Value m.af.ah m.an m.aH<=fc {m with bo:=qI b.Value m.af.ah m.an m.aH}
  have hhigh:fc {m with bo:=qI b.Value m.af.ah m.an m.aH}=b.ah:=by
   unfold fc;rw[Qr]
   ·show m.aw.ah=_;rw[hc]
   ·show(!aT m.aw&&cI m.aw m.af)=true;rw[hc,hb.nz,kp.2 hcp.symm];rfl
  rw[hhigh];exact hle
 ·exact h1
theorem V5(m:ae)(b:ai):(ru m b).an=m.an/\(ru m b).aH=m.aH/\(ru m b).aw=m.aw/\(ru m b).af=m.af:=by
 unfold ru;split<;>exact⟨rfl,rfl,rfl,rfl⟩
theorem tU{m:ae}(h:m.aY≠1\/aT m.af=true\/aT (kV m)=true):jl m=m:=Qr h
theorem CH{m m':ae}(h:bH m)(he:m'.ao=m.ao/\m'.aK=m.aK/\m'.aO=m.aO/\m'.ab=m.ab/\m'.bQ=m.bQ/\m'.aI=m.aI)(hb:P0 m'\/P1 m'\/P2 m'\/P3 m'):bH m':=by
 obtain⟨e1,e2,e3,e4,e5,e6⟩:=he;exact⟨by rw[e1];exact h.n0,by rw[e1];exact h.n1,by rw[e2];exact h.bx,by rw[e3];exact h.seq,by rw[e4];exact h.aR,by rw[e5];exact h.vt,by rw[e6,e1,e2];exact h.hv,by rw[e6];exact h.gX,hb⟩
structure jf (m m':ae):Prop where
 aJ:m'.ao=m.ao
 bx:m'.aK=m.aK
 seq:m'.aO=m.aO
 aR:m'.ab=m.ab
 vt:m'.bQ=m.bQ
 heard:m'.aI=m.aI
theorem jf.refl(m:ae):jf m m:=⟨rfl,rfl,rfl,rfl,rfl,rfl⟩
theorem jf.all{m m':ae}(h:jf m m'):m'.ao=m.ao/\m'.aK=m.aK/\m'.aO=m.aO/\m'.ab=m.ab/\m'.bQ=m.bQ/\m'.aI=m.aI:=⟨h.aJ,h.bx,h.seq,h.aR,h.vt,h.heard⟩
theorem OC(m:ae):jf m (eB m):=by unfold eB;split<;>exact⟨rfl,rfl,rfl,rfl,rfl,rfl⟩
theorem adI(m:ae)(b:ai):jf m (BZ m b):=by unfold BZ;split<;>exact⟨rfl,rfl,rfl,rfl,rfl,rfl⟩
theorem X2(m:ae)(b:ai):jf m (ru m b):=by unfold ru;split<;>exact⟨rfl,rfl,rfl,rfl,rfl,rfl⟩
theorem GB(m:ae):jf m (jl m):=by
 unfold jl;split
 ·exact .refl m
 ·have h1:=X2 (BZ m (kV m)) (kV m);have h2:=adI m (kV m);exact⟨h1.aJ.trans h2.aJ,h1.bx.trans h2.bx,h1.seq.trans h2.seq,h1.aR.trans h2.aR,h1.vt.trans h2.vt,h1.heard.trans h2.heard⟩
theorem GF(m:ae):jf m (ir m):=by
 unfold ir N2 AV;split
 ·split<;>exact⟨rfl,rfl,rfl,rfl,rfl,rfl⟩
 ·split<;>exact⟨rfl,rfl,rfl,rfl,rfl,rfl⟩
theorem GD(m:ae):jf m (lL m):=by unfold lL MK;split<;>exact⟨rfl,rfl,rfl,rfl,rfl,rfl⟩
theorem GC(m:ae):jf m (fX m):=by unfold fX;split<;>exact⟨rfl,rfl,rfl,rfl,rfl,rfl⟩
theorem Np{m:ae}(h:bH m)(h1:P1 m):P1 (jl m)/\(jl m=m\/((jl m).an=m.an/\(jl m).aH=m.aH/\bD m.aw (jl m).aw=true/\m.af.ah<=(jl m).af.ah)):=by
 unfold jl;split
 ·exact⟨h1,.inl rfl⟩
 ·rename_i hc;rcases Zl h h1 with e|⟨hf,hl,hp⟩
  ·exact absurd (.inr (.inr (by rw[e];exact cp))) hc
  ·obtain⟨g1,g2,g3,g4,g5⟩:=agE h1 hf hl hp;obtain⟨v1,v2,v3,v4⟩:=V5 (BZ m (kV m)) (kV m);exact⟨acx g1 hf g4,.inr ⟨v1.trans g2,v2.trans g3,by rw[v3,g4];exact hl,by rw[v4];exact g5⟩⟩
theorem YE{m:ae}(h:bH m):bH (jl m):=by
 rcases h.body with h0|h1|h2|h3
 ·rw[tU (.inr (.inl (by rw[h0.bl];exact cp)))];exact h
 ·exact CH h (GB m).all (.inr (.inl (Np h h1).1))
 ·rw[tU (.inl (by rw[h2.bf];decide))];exact h
 ·rw[tU (.inl (by rw[h3.bf];decide))];exact h
theorem zk{m:ae}(h:bH m)(v:ByteArray):∀x∈bF (cr m) v,1<=x/\x<=1000:=Hz h.ev.vL.1 h.ev.vL.2 v
theorem Z2{m:ae}(h:bH m):∀v∈gm (cr m),1<=v.size/\v.size<=200:=by
 intro v hv;obtain⟨e,he,h1,h2⟩:=((AZ h.ev.vL.1.aR h.ev.vL.2).2.2.2 v).1 hv;rw[h2];exact I7 h1
theorem XB{m:ae}(h:bH m){x:ByteArray->Int->Int->Bool}{p q:ai}:(gH x (cr m) p q).1=false\/(dm (gH x (cr m) p q).2/\(gH x (cr m) p q).2.Value∈gm (cr m)/\(gH x (cr m) p q).2.ah∈bF (cr m) (gH x (cr m) p q).2.Value/\
  qR p q (gH x (cr m) p q).2.Value (gH x (cr m) p q).2.ah=false/\x (gH x (cr m) p q).2.Value (gH x (cr m) p q).2.ah (gH x (cr m) p q).2.ah=true):=by
 let G:Bool×ai->Prop:=fun s=>s.1=false\/(dm s.2/\s.2.Value∈gm (cr m)/\s.2.ah∈bF (cr m) s.2.Value/\qR p q s.2.Value s.2.ah=false/\x s.2.Value s.2.ah s.2.ah=true)
 have inner:∀(v:ByteArray),v∈gm (cr m)->∀(b:List Int),(∀n∈b,n∈bF (cr m) v)->∀s,G s->G (b.foldl (gN x p q v) s):=by
  intro v hv b
  induction b with
  |nil=>intro _ s hs;exact hs
  |cons n b ih=>
   intro hb s hs;rw[QU];refine ih (fun k hk=>hb k (Qy _ hk)) _ ?_
   unfold gN;split
   ·rename_i hc;simp only[Qm,Bool.not_eq_true']at hc;have hn:=hb n Qx;have h1:=zk h v n hn;have h2:=Z2 h v hv;exact .inr ⟨⟨h1.1,h1.2,h2.1,h2.2⟩,hv,hn,hc.1.2,hc.2⟩
   ·exact hs
 have outer:∀(vs:List ByteArray),(∀v∈vs,v∈gm (cr m))->∀s,G s->G (vs.foldl (fun s v=>(bF (cr m) v).foldl (gN x p q v) s) s):=by
  intro vs
  induction vs with
  |nil=>intro _ s hs;exact hs
  |cons v vs ih=>
   intro hv s hs;rw[QU];exact ih (fun u hu=>hv u (Qy _ hu)) _ (inner v (hv v Qx) _ (fun n hn=>hn) s hs)
 exact outer _ (fun v hv=>hv) (false,⟨0,gY⟩) (.inl rfl)
structure ahe (m:ae) (v:ByteArray) (lo hi:Int):Prop where
 fin:dm ⟨hi,v⟩
 lo1:1<=lo
 le:lo<=hi
 val:v∈gm (cr m)
 top:gD m v hi hi=true
 all:gD m v lo hi=true
theorem Th{m:ae}(h:bH m)(hk:(ll m).2.2.2.1=true):ahe m (ll m).1 (ll m).2.1 (ll m).2.2.1:=by
 rcases XB (x:=gD m) (p:=m.an) (q:=m.aH) h with e|⟨h1,h2,h3,h4,h5⟩
 ·unfold ll ue at hk;rw[e]at hk;cases hk
 ·have hb:(gH (gD m) (cr m) m.an m.aH).1=true:=by
   unfold ll ue at hk;split at hk
   ·assumption
   ·cases hk
  have e:ll m=((gH (gD m) (cr m) m.an m.aH).2.Value,eC (fun n=> !qR m.an m.aH (gH (gD m) (cr m) m.an m.aH).2.Value n&&gD m (gH (gD m) (cr m) m.an m.aH).2.Value n (gH (gD m) (cr m) m.an m.aH).2.ah) (bF (cr m) (gH (gD m) (cr m) m.an m.aH).2.Value).reverse (gH (gD m) (cr m) m.an m.aH).2.ah,(gH (gD m) (cr m) m.an m.aH).2.ah,true,()):=by
   unfold ll ue;rw[Qr hb]
  rw[e];refine⟨h1,B2 _ _ _ (fun x hx=>(zk h _ x (List.mem_reverse.1 hx)).1) h1.1,ug _ _ _,h2,h5,?_⟩
  simp only;rcases B1 (fun n=> !qR m.an m.aH (gH (gD m) (cr m) m.an m.aH).2.Value n&&gD m (gH (gD m) (cr m) m.an m.aH).2.Value n (gH (gD m) (cr m) m.an m.aH).2.ah) (bF (cr m) (gH (gD m) (cr m) m.an m.aH).2.Value).reverse (gH (gD m) (cr m) m.an m.aH).2.ah with e|⟨e,_⟩
  ·rw[e];exact h5
  ·rw[Qm]at e;exact e.2
theorem TH{m:ae}(hb0:m.af=cq\/dm m.af)(hp0:m.an=cq\/dm m.an){v:ByteArray}{lo hi:Int}(hf:dm ⟨hi,v⟩)(hlo:1<=lo)(hle:lo<=hi):P2 (N2 m v lo hi):=by
 unfold N2
 have hmax:dm ⟨bP m.af.ah hi,v⟩:=by
  rcases hb0 with e|h2
  ·have:bP m.af.ah hi=hi:=by
    have h3:=hf.1;simp only at h3;have h4:m.af.ah=0:=by rw[e];rfl
    unfold bP;split<;>omega
   rw[this];exact hf
  ·have:bP m.af.ah hi=m.af.ah\/bP m.af.ah hi=hi:=by unfold bP;split<;>simp
   rcases this with e|e<;>rw[e]
   ·exact⟨h2.1,h2.2.1,hf.2.2⟩
   ·exact hf
 have hbv:∀b:ai,b=(if(!cI m.af ⟨hi,v⟩||bD m.af ⟨hi,v⟩)=true then⟨bP m.af.ah hi,v⟩else m.af)->dm b/\b.Value=v:=by
  intro b hb;split at hb
  ·rw[hb];exact⟨hmax,rfl⟩
  ·rename_i hc;rw[hb];simp only[Qn,Bool.not_eq_true',not_or,Bool.not_eq_false]at hc;refine⟨hb0.resolve_left (fun e=> ?_),kp.1 hc.1⟩
   have:=kp.1 hc.1;rw[e]at this;exact hf.ne this.symm
 obtain⟨b1,b2⟩:=hbv _ rfl
 have hpv:∀p:ai,p=(if km m.an ⟨hi,v⟩=true then m.an else⟨hi,v⟩)->dm p/\p.Value=v/\hi<=p.ah:=by
  intro p hp;split at hp
  ·rename_i hc;rw[hp];obtain⟨g1,g2,g3⟩:=(kl _ _).1 hc;refine⟨?_,g2,g3⟩;rcases hp0 with e|e
   ·rw[e,cp]at g1;cases g1
   ·exact e
  ·rw[hp];exact⟨hf,rfl,Int.le_refl _⟩
 obtain⟨p1,p2,p3⟩:=hpv _ rfl;exact⟨rfl,b1,⟨p1,p2.trans b2.symm⟩,rfl,.inr ⟨hf,b2.symm⟩,⟨hlo,hle,p3⟩⟩
theorem Tm{m:ae}(h:bH m)(h2:P2 m):1<=(eM m).1/\(eM m).1<=(eM m).2/\(eM m).2<=1000/\(((eM m).2=m.bC/\(eM m).1<=m.bo)\/m.bC<(eM m).2):=by
 have hr:=h2.range;have hH:m.bC<=1000:=by have:=h2.dH.1.2.1;omega
 have hb:∀x∈(bF (cr m) m.af.Value).reverse,1<=x:=fun x hx=>(zk h _ x (List.mem_reverse.1 hx)).1
 unfold eM Kv;split
 ·refine⟨B2 _ _ _ hb hr.1,?_,hH,.inl ⟨rfl,ug _ _ _⟩⟩;exact Int.le_trans (ug _ _ _) hr.2.1
 ·rename_i n hn;have hnb:=zk h _ n (List.mem_reverse.1 (List.mem_of_find?_eq_some hn));have hnp:=List.find?_some hn;simp only[Qm,Qi]at hnp;have h5:1<=eC (fun x=>gD m m.af.Value x n) (bF (cr m) m.af.Value).reverse n:=B2 _ _ _ hb hnb.1
  have h6:=ug (fun x=>gD m m.af.Value x n) (bF (cr m) m.af.Value).reverse n
  simp only;refine⟨B2 _ _ _ hb ?_,?_,hnb.2,.inr hnp.1⟩
  ·split
   ·exact h5
   ·exact hr.1
  ·refine Int.le_trans (ug _ _ _) ?_;split
   ·exact h6
   ·omega
theorem Xk{m:ae}(h2:P2 m){lo hi:Int}(hlo:1<=lo)(hle:lo<=hi)(hhi:hi<=1000):P2 (AV m lo hi):=by
 unfold AV;have hb:=h2.bl;have hp:=h2.dH;have e1:∀c:Int,bP c hi=c\/bP c hi=hi:=fun c=>by unfold bP;split<;>simp
 have e2:∀c:Int,hi<=bP c hi:=fun c=>by unfold bP;split<;>omega
 have mx:∀c:Int,c<=1000->dm ⟨bP c hi,m.af.Value⟩:=by
  intro c hc;refine⟨by have:=e2 c;simp only;omega,?_,hb.2.2.1,hb.2.2.2⟩
  rcases e1 c with e|e<;>simp only[e]<;>omega
 refine⟨h2.bf,mx _ hb.2.1,⟨?_,?_⟩,h2.dJ,.inr ⟨mx _ ?_,rfl⟩,⟨hlo,hle,e2 _⟩⟩
 ·show dm ⟨bP m.an.ah hi,m.an.Value⟩;rw[hp.2];exact mx _ hp.1.2.1
 ·exact hp.2
 ·rcases h2.dQ with e|e
  ·rw[e];decide
  ·exact e.1.2.1
theorem YM{m:ae}(h:bH m):bH (ir m):=by
 refine CH h (GF m).all ?_;unfold ir;rcases h.body with h0|h1|h2|h3
 ·rw[Qr h0.bf];split
  ·rename_i hk;have hf:=Th h hk;exact .inr (.inr (.inl (TH (.inl h0.bl) (.inl h0.dH) hf.fin hf.lo1 hf.le)))
  ·exact .inl h0
 ·rw[Qr h1.bf];split
  ·rename_i hk;have hf:=Th h hk;exact .inr (.inr (.inl (TH (.inr h1.bl) h1.dH hf.fin hf.lo1 hf.le)))
  ·exact .inr (.inl h1)
 ·rw[Qs (by rw[h2.bf];decide),Qr h2.bf]
  have:=Tm h h2;exact .inr (.inr (.inl (Xk h2 this.1 this.2.1 this.2.2.1)))
 ·rw[Qs (by rw[h3.bf];decide),Qs (by rw[h3.bf];decide)]
  exact .inr (.inr (.inr h3))
theorem afB{m:ae}(h:bH m)(hk:(oC m).2.2.1=true):1<=(oC m).1/\(oC m).1<=(oC m).2.1/\(oC m).2.1<=1000/\KX m m.af.Value (oC m).1 (oC m).2.1=true:=by
 unfold oC Hg at hk ⊢;split at hk
 ·rename_i n hn;have hnb:=zk h _ n (List.mem_reverse.1 (List.mem_of_find?_eq_some hn));have hs:=List.find?_some hn;simp only;refine⟨B2 _ _ _ (fun x hx=>(zk h _ x (List.mem_reverse.1 hx)).1) hnb.1,ug _ _ _,hnb.2,?_⟩
  rcases B1 (fun x=>KX m m.af.Value x n) (bF (cr m) m.af.Value).reverse n with e|⟨e,_⟩
  ·rw[e];exact hs
  ·exact e
 ·cases hk
theorem Vb{m:ae}(h:bH m)(h2:P2 m)(hk:(oC m).2.2.1=true):P3 (MK m (oC m).1 (oC m).2.1):=by
 obtain⟨g1,g2,g3,_⟩:=afB h hk;unfold MK;exact⟨rfl,⟨by simp only;omega,g3,h2.bl.2.2.1,h2.bl.2.2.2⟩,rfl,rfl,rfl,⟨g1,g2,g3⟩⟩
theorem YK{m:ae}(h:bH m):bH (lL m):=by
 refine CH h (GD m).all ?_;unfold lL;split
 ·rename_i hc;rcases h.body with h0|h1|h2|h3
  ·have:=h0.bf;have:=hc.1;omega
  ·have:=h1.bf;have:=hc.1;omega
  ·exact .inr (.inr (.inr (Vb h h2 hc.2)))
  ·have:=h3.bf;have:=hc.1;omega
 ·exact h.body
theorem Xb{z:ai}:∀{l:List ai},l≠[]->ME z l∈l
 |[],h=>absurd rfl h
 |x::l,_=>by
  show l.foldl (fun a y=>if bD a y=true then y else a) x∈x::l
  suffices key:∀(l:List ai) (a:ai),l.foldl (fun a y=>if bD a y=true then y else a) a=a\/l.foldl (fun a y=>if bD a y=true then y else a) a∈l by
   rcases key l x with e|e
   ·rw[e];exact Qx
   ·exact Qy _ e
  intro l
  induction l with
  |nil=>intro a;exact .inl rfl
  |cons y l ih=>
   intro a;rw[QU];rcases ih (if bD a y=true then y else a)with e|e
   ·rw[e];split
    ·exact .inr Qx
    ·exact .inl rfl
   ·exact .inr (Qy _ e)
theorem acG{t:aa}(h:cn t){s:Nat}(hs:∀k,k<10->s.testBit k=true):dC s t=true:=by
 have hn:∀x:Int,0<=x->x<10->dE s x=true:=by
  intro x h0 h1;unfold dE fl;rw[Qg h0,Qg h1,hs _ (by omega)]
  rfl
 have hc:t.au.countP (dE s)=t.au.length:=List.countP_eq_length.2 fun x hx=>hn x (h.nodes x hx).1 (h.nodes x hx).2
 have hi:kU s t.aG=t.aG.length:=by
  rcases h.inner with e|⟨x,h0,h1,e⟩
  ·rw[e];rfl
  ·rw[e]
   have:dC s ⟨1,[x],[]⟩=true:=by
    rw[DJ];simp[hn x h0 h1,kU]
   simp[kU,this]
 rw[DJ,hc,hi,Qi];have:=h.th.2;omega
theorem XK{m:ae}(h:bH m){n:Int}(ha:kx m n=true):∃e∈m.aI,n<iB e:=by
 refine Classical.byContradiction fun hno=> ?_
 have hz:HG m n=0:=by
  refine qH fun k=> ?_
  unfold HG;rw[El,Nat.zero_testBit,List.any_eq_false];intro e he;have:¬n<iB e:=fun hlt=>hno ⟨e,he,hlt⟩
  simp[this]
 unfold kx Ee at ha;rw[hz,Qm]at ha
 have hown:kL (jU m.ao.toNat m.ab (cr m)) m.ao.toNat=m.ab:=by
  unfold kL;rw[X4 h.ev.aJ.2 m.ab (cr m) h.ev.aJ.2,Qr rfl];rfl
 rw[hown,acG h.aR (fun k hk=>by rw[EJ (by omega)];simp[hk])]at ha
 cases ha.2
theorem US{m:ae}(h:bH m)(h1:m.aY=1)(hc:m.aw=cq\/dm m.aw)(hh:m.aI≠[]\/m.bQ≠gY\/m.aw≠cq):1<=(ei m).size/\(ei m).size<=200:=by
 unfold ei;split
 ·rename_i hz;rcases hc with e|e
  ·rw[e,cp]at hz;cases hz
  ·exact e.2.2
 ·rename_i hz;have hz:aT m.aw=true:=by simpa using hz
  rw[Qs (fun h=>h h1)]
  split
  ·rename_i hp;refine⟨?_,h.vt⟩;rcases Nat.eq_zero_or_pos m.bQ.size with e|e
   ·exfalso;apply hp;have:m.bQ.data=#[]:=Array.eq_empty_of_size_eq_zero e
    cases hm:m.bQ with
    |mk d=>rw[hm]at this;simp only at this;rw[this];rfl
   ·exact e
  ·rename_i hp
   have hne:m.aI≠[]:=by
    rcases hh with e|e|e
    ·exact e
    ·exact absurd e hp
    ·exact absurd (Cs.1 hz) e
   have hm:=Xb (z:=cq) (l:=m.aI.map (·.af)) (by simpa using hne)
   obtain⟨e,he,heq⟩:=QP.1 hm;rw[<-heq];exact I7 (h.hv e he).1
theorem Zz{e:aj}(hv:bj e=true):1<=iB e/\(iB e<=1000\/iB e=1000000):=by
 unfold iB;split
 ·exact⟨by decide,.inr rfl⟩
 ·rename_i h3;have hv':=hv;unfold bj lZ at hv';rw[Qm,Qm]at hv';have hb:=hv'.2
  have gof:∀{b:ai},finite b=true->1<=b.ah/\b.ah<=1000:=by
   intro b hb;unfold finite at hb;rw[Qm,Qi]at hb;have:=(VC hb.1 hb.2);exact⟨this.1,this.2.1⟩
  by_cases h1:e.bu=1
  ·rw[Qr h1]at hb;unfold gE at hb;simp only[Qm]at hb;have:=gof hb.1.1.1.1.1.1.1.1;exact⟨this.1,.inl this.2⟩
  ·rw[Qs h1]at hb
   by_cases h2:e.bu=2
   ·rw[Qr h2]at hb;unfold vU at hb;simp only[Qm]at hb;have:=gof hb.1.1.1.1.1;exact⟨this.1,.inl this.2⟩
   ·rw[Qs h2,Qs h3]at hb;cases hb
theorem ZH(m:ae):iC m=1000000\/(m.af.ah<iC m/\iC m<1000000/\kx m (iC m)=false/\∃e∈m.aI,iC m=iB e):=by
 unfold iC
 suffices key:∀(l:List aj),(∀e∈l,e∈m.aI)->∀s,(s=1000000\/(m.af.ah<s/\s<1000000/\kx m s=false/\∃e∈m.aI,s=iB e))->
   (l.foldl (nv m) s=1000000\/(m.af.ah<l.foldl (nv m) s/\l.foldl (nv m) s<1000000/\kx m (l.foldl (nv m) s)=false/\∃e∈m.aI,l.foldl (nv m) s=iB e))from key _ (fun e he=>he) _ (.inl rfl)
 intro l
 induction l with
 |nil=>intro _ s hs;exact hs
 |cons x l ih=>
  intro hm s hs;rw[QU];refine ih (fun e he=>hm e (Qy _ he)) _ ?_
  unfold nv;split
  ·rename_i hc;exact .inr ⟨hc.1,by rcases hs with e|e<;>omega,hc.2.2,x,hm x Qx,rfl⟩
  ·exact hs
theorem MO{m:ae}(h:bH m)(hb:0<=m.af.ah/\m.af.ah<=1000):m.af.ah<=bP m.af.ah (fm (iC m) 1000)/\bP m.af.ah (fm (iC m) 1000)<=1000/\1<=bP m.af.ah (fm (iC m) 1000)/\
  (bP m.af.ah (fm (iC m) 1000)=m.af.ah->m.af.ah=1000)/\bP m.af.ah (fm (iC m) 1000)=fm (iC m) 1000:=by
 have hmin:fm (iC m) 1000<=1000/\1<=fm (iC m) 1000/\(m.af.ah<fm (iC m) 1000\/fm (iC m) 1000=1000):=by
  rcases ZH m with e|⟨g1,g2,_,x,hx,g4⟩
  ·rw[e];exact⟨by decide,by decide,.inr (by decide)⟩
  ·have hc:=Zz (h.hv x hx).1;rw[<-g4]at hc;have:iC m<=1000:=by omega
   have e:fm (iC m) 1000=iC m:=by unfold fm;split<;>omega
   rw[e];omega
 unfold bP;split<;>omega
theorem Nr{m:ae}(h:bH m)(h1:P0 m\/P1 m)(ha:kx m m.af.ah=true):P1 (fX m):=by
 have hph:m.aY=1:=by rcases h1 with h|h<;>exact h.bf
 have hbc:0<=m.af.ah/\m.af.ah<=1000:=by
  rcases h1 with h|h
  ·rw[h.bl];decide
  ·have:=h.bl;exact⟨by have:=this.1;omega,this.2.1⟩
 obtain⟨c1,c2,c3,_⟩:=MO h hbc;obtain⟨e0,he0,_⟩:=XK h ha
 have hconf:m.aw=cq\/dm m.aw:=by
  rcases h1 with h|h
  ·exact .inl h.dQ
  ·exact h.dQ.imp id (·.1)
 have hv:=US h hph hconf (.inl (List.ne_nil_of_mem he0));unfold fX;rw[Qs (by rw[hph,ha];decide)]
 have hnv:tW m=ei m:=Qr hph;rw[hnv];generalize hn:bP m.af.ah (fm (iC m) 1000)=n at c1 c2 c3 ⊢
 have hpo:sw m.an m.aH:=by
  rcases h1 with h|h
  ·exact⟨.inl h.dH,.inl h.dJ⟩
  ·exact h.gE
 refine⟨hph,⟨c3,c2,hv.1,hv.2⟩,hpo.1,hpo.2,?_,?_,?_,?_⟩
 ·rcases h1 with h|h
  ·exact .inl h.dQ
  ·exact h.dQ
 ·show bD ⟨n,ei m⟩ m.aw=false;rcases hconf with e|e
  ·rw[e]
   cases hl:bD ⟨n,ei m⟩ cq with
   |false=>rfl
   |true=>have:=iq hl;have h0:(cq:ai).ah=0:=rfl;simp only at this;omega
  ·have hvc:ei m=m.aw.Value:=by unfold ei;rw[Qr e.nz]
   rw[LR (show(⟨n,ei m⟩:ai).Value=m.aw.Value from hvc),Qj]
   rcases h1 with h|h
   ·exact absurd h.dQ (Ku e)
   ·have:=JT h.up;simp only;omega
 ·rcases h1 with h|h<;>exact h.eX
 ·show(if ei m=m.af.Value then m.bo else 0)=0\/(1<=(if ei m=m.af.Value then m.bo else 0)/\_<=_/\qR m.an m.aH (ei m) (if ei m=m.af.Value then m.bo else 0)=false)
  split
  ·rename_i hve;rcases h1 with h|h
   ·exact .inl h.low
   ·rcases h.low with e|⟨g1,g2,g3⟩
    ·exact .inl e
    ·refine .inr ⟨g1,?_,by rw[hve];exact g3⟩
     have:fc {m with bo:=m.bo,af:=⟨n,ei m⟩}=fc m:=by
      unfold fc cI;simp only[hve]
     show m.bo<=fc {m with bo:=m.bo,af:=⟨n,ei m⟩}
     rw[this];exact g2
  ·exact .inl rfl
theorem Va{m:ae}(h:bH m)(h2:P2 m):P2 (fX m):=by
 unfold fX;split
 ·exact h2
 ·obtain⟨c1,c2,c3,_⟩:=MO h ⟨by have:=h2.bl.1;omega,h2.bl.2.1⟩
  have hnv:tW m=m.af.Value:=Qs (by rw[h2.bf];decide)
  rw[hnv,Qr rfl];exact⟨h2.bf,⟨c3,c2,h2.bl.2.2⟩,h2.dH,h2.dJ,h2.dQ,h2.range⟩
theorem YI{m:ae}(h:bH m):bH (fX m):=by
 have hid:m.aY=3\/kx m m.af.ah=false->fX m=m:=fun hc=>Qr hc
 cases ha:kx m m.af.ah with
 |false=>rw[hid (.inr ha)];exact h
 |true=>
  refine CH h (GC m).all ?_;rcases h.body with h0|h1|h2|h3
  ·exact .inr (.inl (Nr h (.inl h0) ha))
  ·exact .inr (.inl (Nr h (.inr h1) ha))
  ·exact .inr (.inr (.inl (Va h h2)))
  ·rw[hid (.inl h3.bf)];exact .inr (.inr (.inr h3))
end
section
theorem lexLt{a a' b b' B:Nat}(hb:b<B)(h:a<a'):a*B+b<a'*B+b':=by
 have h1:(a+1)*B<=a'*B:=Qq62 B h;rw[Qq72]at h1;omega
theorem zH{a a' b b' B:Nat}(h:a=a')(hb:b<b'):a*B+b<a'*B+b':=by rw[h];omega
theorem EV{a b A B:Nat}(ha:a<A)(hb:b<B):a*B+b<A*B:=by
 have h1:(a+1)*B<=A*B:=Qq62 B ha;rw[Qq72]at h1;omega
theorem dm.sm{b:ai}(h:dm b):Sm b:=⟨by have:=h.1;omega,h.2.1,h.2.2.2⟩
theorem YW:Sm cq:=⟨by decide,by decide,by decide⟩
theorem rB{b:ai}(h:b=cq\/dm b):Sm b:=by
 rcases h with rfl|h
 ·exact YW
 ·exact h.sm
theorem NY{b:ai}(h:dm b):nb cq<nb b:=tZ YW h.sm ((xa _ _).2 (.inl h.1))
 def t1(m:ae):Nat:=2*m.af.ah.toNat+(if m.af.Value=tW m then 1 else 0)
 def pq(m:ae):Nat:=nb m.an*WB+nb m.aH
 def r1(m:ae):Nat:=(pq m*WB+nb m.aw)*2002+t1 m
def K1:Nat:=(WB*WB)*WB*2002
 def r2(m:ae):Nat:=(((m.bC.toNat*1001+(1000 - m.bo).toNat)*WB+nb m.an)*WB+nb m.aw)*1001+m.af.ah.toNat
def K2:Nat:=((1001*1001)*WB*WB)*1001
 def lh(m:ae):Nat:=if m.aY=1 then r1 m else if m.aY=2 then K1+r2 m else K1+K2
def zD(m:ae):Prop:=(m.an=cq\/dm m.an)/\(m.aH=cq\/dm m.aH)/\(m.aw=cq\/dm m.aw)/\(m.af=cq\/dm m.af)
theorem P0.ok{m:ae}(h:P0 m):zD m:=⟨.inl h.dH,.inl h.dJ,.inl h.dQ,.inl h.bl⟩
theorem P1.ok{m:ae}(h:P1 m):zD m:=⟨h.dH,h.dJ.imp id (·.1),h.dQ.imp id (·.1),.inr h.bl⟩
theorem P2.ok{m:ae}(h:P2 m):zD m:=⟨.inr h.dH.1,.inl h.dJ,h.dQ.imp id (·.1),.inr h.bl⟩
theorem V7{m:ae}(h:zD m):t1 m<2002:=by
 have:m.af.ah<=1000:=by
  rcases h.2.2.2 with e|e
  ·rw[e];decide
  ·exact e.2.1
 unfold t1;split<;>omega
theorem agw{m:ae}(h:zD m):pq m<WB*WB:=EV (oL (rB h.1)) (oL (rB h.2.1))
theorem Wv{m:ae}(h:zD m):r1 m<K1:=EV (EV (agw h) (oL (rB h.2.2.1))) (V7 h)
theorem P2.eX{m:ae}(h:P2 m):m.bC<=1000:=by have:=h.range.2.2;have:=h.dH.1.2.1;omega
theorem abS{m:ae}(h:P2 m):r2 m<K2:=by
 have h1:=h.range;have h2:=h.eX;refine EV (EV (EV (EV (A:=1001) ?_ ?_) (oL h.dH.1.sm)) (oL (rB h.ok.2.2.1))) ?_
 ·omega
 ·omega
 ·have:=h.bl.2.1;omega
theorem xw{m:ae}(h:m.aY=1):lh m=r1 m:=Qr h
theorem xv{m:ae}(h:m.aY=2):lh m=K1+r2 m:=by unfold lh;rw[Qs (by omega),Qr h]
theorem Yl{m:ae}(h:m.aY=3):lh m=K1+K2:=by unfold lh;rw[Qs (by omega),Qs (by omega)]
theorem acJ{m:ae}(h:bH m):lh m<=K1+K2:=by
 rcases h.body with h0|h1|h2|h3
 ·rw[xw h0.bf];have:=Wv h0.ok;omega
 ·rw[xw h1.bf];have:=Wv h1.ok;omega
 ·rw[xv h2.bf];have:=abS h2;omega
 ·rw[Yl h3.bf];exact QI _
theorem vd.up_{p q b p' q':ai}(h:sw p q)(hb:b=cq\/dm b)(hj:vd p q b p' q'):(p'=p/\q'=q)\/nb p*WB+nb q<nb p'*WB+nb q':=by
 have hok:=hj.ok h hb;have hp:=rB h.1;have hq:Sm q:=rB (h.2.imp id (·.1))
 cases hj with
 |same=>exact .inl ⟨rfl,rfl⟩
 |first h1 h2=>
  subst h1 h2;rcases hb with e|e
  ·exact .inl ⟨e,rfl⟩
  ·exact .inr (lexLt (oL hq) (NY e))
 |up h1 hl hc=>exact .inr (lexLt (oL hq) (tZ hp (rB hb) hl))
 |Dd h1 hl hc=>exact .inr (lexLt (oL hq) (tZ hp (rB hb) hl))
 |under h1 hl hc hq'=>
  rcases hq' with e|e
  ·subst e;rcases hb with e2|e2
   ·exact .inl ⟨rfl,e2⟩
   ·exact .inr (zH rfl (NY e2))
  ·exact .inr (zH rfl (tZ hq (rB hb) e))
theorem EU{m m':ae}(he:jf m m')(h1:m'.aY=m.aY)(h2:m'.af=m.af)(h3:m'.an=m.an)(h4:m'.aH=m.aH)(h5:m'.aw=m.aw)(h6:m'.bo=m.bo)(h7:m'.bC=m.bC):m'=m:=by
 obtain⟨e1,e2,e3,e4,e5,e6⟩:=he;cases m;cases m';simp only at*;subst e1 e2 e3 e4 e5 e6 h1 h2 h3 h4 h5 h6 h7;rfl
theorem aad{m m':ae}(he:jf m m')(h:Cy m m'=true):m'=m:=by
 unfold Cy at h;simp only[Qm,Qi,On]at h;obtain⟨⟨⟨⟨⟨⟨h1,h2⟩,h3⟩,h4⟩,h5⟩,h6⟩,h7⟩:=h;exact EU he h1.symm h2.symm h3.symm h4.symm h5.symm h6.symm h7.symm
theorem xq(m:ae):Cy m m=true:=by
 unfold Cy;simp only[decide_true,On.2 rfl,Bool.and_self]
theorem agv{m m':ae}(h:zD m)(hlt:pq m<pq m'):r1 m<r1 m':=lexLt (V7 h) (lexLt (oL (rB h.2.2.1)) hlt)
theorem ahX{m m':ae}(h:zD m)(hpq:pq m=pq m')(hlt:nb m.aw<nb m'.aw):r1 m<r1 m':=lexLt (V7 h) (zH hpq hlt)
theorem ahW{m m':ae}(hpq:pq m=pq m')(hc:m.aw=m'.aw)(hlt:t1 m<t1 m'):r1 m<r1 m':=zH (by rw[hpq,hc]) hlt
theorem WE{m:ae}(h1:P1 m):vu m m.an m.aH=m.bo:=by
 unfold vu;split
 ·rename_i hc;rcases h1.low with e|⟨g1,g2,g3⟩
  ·exact absurd e hc.2
  ·rw[Y5 g1 g3,Qs (by omega)]
 ·rfl
theorem ahG{m:ae}(h:bH m):eB m=m\/lh m<lh (eB m):=by
 have hid:m.aY=3\/aT m.af=true->eB m=m:=fun hc=>Qr hc
 rcases h.body with h0|h1|h2|h3
 ·exact .inl (hid (.inr (by rw[h0.bl];exact cp)))
 ·have hj:=(H0 h h1.gE).up_ h1.gE (xX h);have he:eB m={m with an:=(hU m.an m.aH (iZ (fP m))).1,aH:=(hU m.an m.aH (iZ (fP m))).2,bo:=vu m (hU m.an m.aH (iZ (fP m))).1 (hU m.an m.aH (iZ (fP m))).2}:=Qs (by rw[h1.bf,h1.bl.nz];decide)
  rcases hj with⟨e1,e2⟩|hlt
  ·left;rw[he,e1,e2,WE h1]
  ·right;rw[xw h1.bf,xw (by rw[he];exact h1.bf)]
   exact agv h1.ok (by rw[he];exact hlt)
 ·have hj:=(H0 h h2.gE).up_ h2.gE (xX h);have hk:=U9 h h2;have he:eB m={m with an:=(hU m.an m.aH (iZ (fP m))).1,aH:=(hU m.an m.aH (iZ (fP m))).2,bo:=vu m (hU m.an m.aH (iZ (fP m))).1 (hU m.an m.aH (iZ (fP m))).2}:=Qs (by rw[h2.bf,h2.bl.nz];decide)
  have hlow:∀p q,vu m p q=m.bo:=fun p q=>Qs (fun h=>by have:=h.1;rw[h2.bf]at this;cases this)
  rcases hj with⟨e1,e2⟩|hlt
  ·left;rw[he,e1,e2,hlow]
  ·right;rw[xv h2.bf,xv (by rw[he];exact h2.bf)]
   have e2:(hU m.an m.aH (iZ (fP m))).2=m.aH:=by
    have h3:=hk.2.2;rw[he]at h3;exact h3.trans h2.dJ.symm
   have hp:nb m.an<nb (eB m).an:=by
    rw[he];simp only;rw[e2]at hlt;refine Nat.lt_of_not_le fun hle=> ?_
    have:=Qq62 WB hle;omega
   have e3:(eB m).bC=m.bC/\(eB m).bo=m.bo/\(eB m).aw=m.aw/\(eB m).af=m.af:=by rw[he];exact⟨rfl,hlow _ _,rfl,rfl⟩
   have:r2 m<r2 (eB m):=by
    unfold r2;rw[e3.1,e3.2.1,e3.2.2.1,e3.2.2.2];exact lexLt (by have:=h2.bl.2.1;omega) (lexLt (oL (rB h2.ok.2.2.1)) (zH rfl hp))
   omega
 ·exact .inl (hid (.inl h3.bf))
theorem ahF{m:ae}(h:bH m):jl m=m\/lh m<lh (jl m):=by
 rcases h.body with h0|h1|h2|h3
 ·exact .inl (tU (.inr (.inl (by rw[h0.bl];exact cp))))
 ·obtain⟨g1,g2⟩:=Np h h1;rcases g2 with e|⟨e1,e2,e3,_⟩
  ·exact .inl e
  ·right;rw[xw h1.bf,xw g1.bf];exact ahX h1.ok (by unfold pq;rw[e1,e2]) (tZ (rB h1.ok.2.2.1) (rB g1.ok.2.2.1) e3)
 ·exact .inl (tU (.inl (by rw[h2.bf];decide)))
 ·exact .inl (tU (.inl (by rw[h3.bf];decide)))
theorem LL(a b:Int):(bP a b=a/\b<=a)\/(bP a b=b/\a<b):=by unfold bP;split<;>omega
theorem yb{a b:ai}(h1:a.ah=b.ah)(h2:a.Value=b.Value):a=b:=by cases a;cases b;simp only at h1 h2;rw[h1,h2]
theorem ahJ{m:ae}(h:bH m):ir m=m\/lh m<lh (ir m):=by
 have hC:m.aY=1->zD m->ir m=m\/lh m<lh (ir m):=by
  intro hp hok
  by_cases hk:(ll m).2.2.2.1=true
  ·right;have e:ir m=N2 m (ll m).1 (ll m).2.1 (ll m).2.2.1:=by unfold ir;rw[Qr hp,Qr hk]
   rw[xw hp,xv (by rw[e];rfl)]
   have:=Wv hok;omega
  ·left;unfold ir;rw[Qr hp,Qs hk]
 rcases h.body with h0|h1|h2|h3
 ·exact hC h0.bf h0.ok
 ·exact hC h1.bf h1.ok
 ·have e:ir m=AV m (eM m).1 (eM m).2:=by unfold ir;rw[Qs (by rw[h2.bf];decide),Qr h2.bf]
  obtain⟨g1,g2,g3,g4⟩:=Tm h h2;have h2':=Xk h2 g1 g2 g3;rw[e]
  have hr:m.bC.toNat<=1000/\(1000 - m.bo).toNat<1001/\m.af.ah.toNat<1001:=by
   have:=h2.eX;have:=h2.range;have:=h2.bl.2.1;omega
  have hcB:m.aw=(AV m (eM m).1 (eM m).2).aw\/nb m.aw<nb (AV m (eM m).1 (eM m).2).aw:=by
   rcases h2.dQ with e|⟨hf,hv⟩
   ·right;rw[e]
    exact NY (h2'.dQ.resolve_left (fun e=>by
     have h1:=h2'.range;have h3:(AV m (eM m).1 (eM m).2).aw.ah=bP m.aw.ah (eM m).2:=rfl;rw[e]at h3;have h4:=LL m.aw.ah (eM m).2;have h5:(cq:ai).ah=0:=rfl
     omega)).1
   ·rcases LL m.aw.ah (eM m).2 with⟨e1,_⟩|⟨e1,e2⟩
    ·exact .inl (yb e1.symm hv)
    ·right;refine tZ hf.sm (rB h2'.ok.2.2.1) ((xa _ _).2 (.inl ?_));show m.aw.ah<bP m.aw.ah (eM m).2;omega
  have hpB:m.an=(AV m (eM m).1 (eM m).2).an\/nb m.an<nb (AV m (eM m).1 (eM m).2).an:=by
   rcases LL m.an.ah (eM m).2 with⟨e1,_⟩|⟨e1,e2⟩
   ·exact .inl (yb e1.symm rfl)
   ·right;refine tZ h2.dH.1.sm h2'.dH.1.sm ((xa _ _).2 (.inl ?_));show m.an.ah<bP m.an.ah (eM m).2;omega
  have hbB:m.af=(AV m (eM m).1 (eM m).2).af\/m.af.ah<(AV m (eM m).1 (eM m).2).af.ah:=by
   rcases LL m.af.ah (eM m).2 with⟨e1,_⟩|⟨e1,e2⟩
   ·exact .inl (yb e1.symm rfl)
   ·right;show m.af.ah<bP m.af.ah (eM m).2;omega
  rw[xv h2.bf,xv h2'.bf];have hPs:=oL h2.dH.1.sm;have hCs:=oL (rB h2.ok.2.2.1);have hHi:(AV m (eM m).1 (eM m).2).bC=(eM m).2:=rfl;have hLo:(AV m (eM m).1 (eM m).2).bo=(eM m).1:=rfl;have fin:r2 m<r2 (AV m (eM m).1 (eM m).2)->K1+r2 m<K1+r2 (AV m (eM m).1 (eM m).2):=fun h=>by omega
  have hrng:=h2.range;rcases g4 with⟨e1,e2⟩|e1
  ·rcases Int.lt_or_eq_of_le e2 with e3|e3
   ·
    refine .inr (fin (lexLt hr.2.2 (lexLt hCs (lexLt hPs (zH ?_ ?_)))))
    ·rw[hHi,e1]
    ·rw[hLo];omega
   ·rcases hpB with hp|hp
    ·rcases hcB with hc|hc
     ·rcases hbB with hb|hb
      ·left;exact EU ⟨rfl,rfl,rfl,rfl,rfl,rfl⟩ rfl hb.symm hp.symm rfl hc.symm e3 e1
      ·refine .inr (fin (zH ?_ (by have:=h2.bl.1;omega)))
       rw[hHi,hLo,<-hp,<-hc,e1,e3]
     ·refine .inr (fin (lexLt hr.2.2 (zH ?_ hc)));rw[hHi,hLo,<-hp,e1,e3]
    ·refine .inr (fin (lexLt hr.2.2 (lexLt hCs (zH ?_ hp))));rw[hHi,hLo,e1,e3]
  ·refine .inr (fin (lexLt hr.2.2 (lexLt hCs (lexLt hPs (lexLt hr.2.1 ?_)))));rw[hHi];omega
 ·left;unfold ir;rw[Qs (by rw[h3.bf];decide),Qs (by rw[h3.bf];decide)]
theorem ahI{m:ae}(h:bH m):lL m=m\/lh m<lh (lL m):=by
 by_cases hc:m.aY=2/\(oC m).2.2.1=true
 ·right;have e:lL m=MK m (oC m).1 (oC m).2.1:=Qr hc;rw[xv hc.1,Yl (by rw[e];rfl)]
  rcases h.body with h0|h1|h2|h3
  ·have:=h0.bf;have:=hc.1;omega
  ·have:=h1.bf;have:=hc.1;omega
  ·have:=abS h2;omega
  ·have:=h3.bf;have:=hc.1;omega
 ·exact .inl (Qs hc)
theorem ahH{m:ae}(h:bH m):fX m=m\/lh m<lh (fX m):=by
 have hid:m.aY=3\/kx m m.af.ah=false->fX m=m:=fun hc=>Qr hc
 cases ha:kx m m.af.ah with
 |false=>exact .inl (hid (.inr ha))
 |true=>
  have hC:m.aY=1->zD m->0<=m.af.ah/\m.af.ah<=1000->fX m=m\/lh m<lh (fX m):=by
   intro hp hok hb;obtain⟨c1,c2,c3,c4,_⟩:=MO h hb;have e:fX m={m with bo:=if tW m=m.af.Value then m.bo else 0,af:=⟨bP m.af.ah (fm (iC m) 1000),tW m⟩}:=Qs (by rw[hp,ha];decide)
   have hnv:tW (fX m)=tW m:=by
    unfold tW ei;rw[e];simp only[hp,Qt,not_true_eq_false,Qu,ne_eq]
   by_cases hs:bP m.af.ah (fm (iC m) 1000)=m.af.ah/\tW m=m.af.Value
   ·left;rw[e];refine EU ⟨rfl,rfl,rfl,rfl,rfl,rfl⟩ rfl (yb hs.1 hs.2) rfl rfl rfl ?_ rfl;exact Qr hs.2
   ·right;rw[xw hp,xw (by rw[e];exact hp)]
    refine ahW (by rw[e];rfl) (by rw[e]) ?_
    unfold t1;rw[hnv];have hb':(fX m).af=⟨bP m.af.ah (fm (iC m) 1000),tW m⟩:=by rw[e]
    rw[hb',Qr rfl];simp only
    by_cases hv:tW m=m.af.Value
    ·rw[Qr hv.symm];have:bP m.af.ah (fm (iC m) 1000)≠m.af.ah:=fun e=>hs ⟨e,hv⟩
     omega
    ·rw[Qs (fun e=>hv e.symm)]
     omega
  rcases h.body with h0|h1|h2|h3
  ·exact hC h0.bf h0.ok (by rw[h0.bl];decide)
  ·exact hC h1.bf h1.ok ⟨by have:=h1.bl.1;omega,h1.bl.2.1⟩
  ·obtain⟨c1,c2,c3,c4,_⟩:=MO h ⟨by have:=h2.bl.1;omega,h2.bl.2.1⟩
   have hnv:tW m=m.af.Value:=Qs (by rw[h2.bf];decide)
   have e:fX m={m with af:=⟨bP m.af.ah (fm (iC m) 1000),m.af.Value⟩}:=by
    unfold fX;rw[Qs (by rw[h2.bf,ha];decide),hnv,Qr rfl]
   rw[e]
   by_cases hs:bP m.af.ah (fm (iC m) 1000)=m.af.ah
   ·left;exact EU ⟨rfl,rfl,rfl,rfl,rfl,rfl⟩ rfl (yb hs rfl) rfl rfl rfl rfl rfl
   ·right;rw[xv h2.bf,xv (show({m with af:=⟨bP m.af.ah (fm (iC m) 1000),m.af.Value⟩}:ae).aY=2 from h2.bf)]
    have:r2 m<r2 {m with af:=⟨bP m.af.ah (fm (iC m) 1000),m.af.Value⟩}:=by
     refine zH rfl ?_;have:=h2.bl.1;show m.af.ah.toNat<(bP m.af.ah (fm (iC m) 1000)).toNat;omega
    omega
  ·exact .inl (hid (.inl h3.bf))
end
section
def ag8(p:aj->Bool):Prop:=∀e s,p {e with aO:=s}=p e
structure Alike (l l':List aj):Prop where
 view:∀aJ,aJ<10->∀t,jU aJ t l=jU aJ t l'
 UR:∀p,ag8 p->jr p (eD l)=jr p (eD l')
 bal:gw l=gw l'
 val:gm l=gm l'
 jx:∀v,bF l v=bF l' v
section
variable {l l' : List aj} (h : Alike l l')
 include h
theorem Alike.acc{aJ:Nat}(hn:aJ<10)(t:aa):pI aJ t l=pI aJ t l':=by
 funext b
 unfold pI;rw[h.view aJ hn t,h.UR _ (fun e s=>rfl),h.UR _ (fun e s=>rfl)]
theorem Alike.dQ{aJ:Nat}(hn:aJ<10)(t:aa):nJ aJ t l=nJ aJ t l':=by
 funext b
 unfold nJ;rw[h.view aJ hn t,h.UR _ (fun e s=>rfl)]
theorem Alike.ready{aJ:Nat}(hn:aJ<10)(t:aa):oZ aJ t l=oZ aJ t l':=by
 funext v lo hi
 unfold oZ;rw[h.view aJ hn t,h.UR _ (fun e s=>rfl),h.UR _ (fun e s=>rfl)]
theorem Alike.sure{aJ:Nat}(hn:aJ<10)(t:aa):zf aJ t l=zf aJ t l':=by
 funext v lo hi
 unfold zf;rw[h.view aJ hn t,h.UR _ (fun e s=>rfl)]
theorem Alike.next{aJ:Nat}(hn:aJ<10)(t:aa)(p q:ai)(v:ByteArray):CE aJ t l p q v=CE aJ t l' p q v:=by
 unfold CE;rw[h.bal,h.acc hn t]
theorem Alike.eX{aJ:Nat}(hn:aJ<10)(t:aa)(a:ai):CR aJ t l a=CR aJ t l' a:=by
 unfold CR;rw[h.bal,h.dQ hn t]
theorem Alike.Fm(x:ByteArray->Int->Int->Bool)(p q:ai):gH x l p q=gH x l' p q:=by
 unfold gH;rw[h.val];congr 1
 funext s v
 rw[h.jx]
theorem Alike.first(x:ByteArray->Int->Int->Bool)(p q:ai)(s:Bool×ai):ue x l p q s=ue x l' p q s:=by
 unfold ue;rw[h.jx]
end
theorem XJ{l l':List aj}(hl:Av l)(hn:l.length<=1000)(hl':Av l')(hn':l'.length<=1000)
  (h1:∀x,(∃e∈l,x∈said e/\aT x=false)↔∃e∈l',x∈said e/\aT x=false) (h2:∀x,(∃e∈l,bj e=true/\x=e.af.Value)↔∃e∈l',bj e=true/\x=e.af.Value)
  (h3:∀v x,x∈ends v l↔x∈ends v l'):gw l=gw l'/\gm l=gm l'/\∀v,bF l v=bF l' v:=by
 obtain⟨_,a2,_,a4⟩:=vV hl.aR hn;obtain⟨_,b2,_,b4⟩:=vV hl'.aR hn';obtain⟨_,c2,_,c4⟩:=AZ hl.aR hn;obtain⟨_,d2,_,d4⟩:=AZ hl'.aR hn';refine⟨HS.flip.unique a2 b2 fun x=> ?_,uL.unique c2 d2 fun x=> ?_,fun v=> ?_⟩
 ·rw[a4,b4];exact h1 x
 ·rw[c4,d4];exact h2 x
 ·obtain⟨_,e2,_,e4⟩:=o7 hl.aR hn v;obtain⟨_,f2,_,f4⟩:=o7 hl'.aR hn' v;refine UX.unique (e2.imp fun h=>Qg h) (f2.imp fun h=>Qg h) fun x=> ?_
  rw[e4,f4];exact h3 v x
theorem ZQ{l:List aj}(hl:Av l)(hn:l.length<=1000)(f:aj->aj)(hf:∀e∈l,f e={e with aO:=(f e).aO}/\bj (f e)=bj e):Alike l (l.map f):=by
 have e1:∀e∈l,(f e).ao=e.ao/\(f e).ab=e.ab/\(f e).af=e.af/\(f e).bu=e.bu/\(f e).an=e.an/\(f e).aH=e.aH/\(f e).bo=e.bo/\(f e).bC=e.bC:=fun e he=>by
  have:=(hf e he).1;rw[this];exact⟨rfl,rfl,rfl,rfl,rfl,rfl,rfl,rfl⟩
 have hl':Av (l.map f):=⟨by rw[QC];exact hl.len,fun e he=>by
  obtain⟨x,hx,rfl⟩:=QP.1 he
  rw[(e1 x hx).2.1];exact hl.aR x hx⟩
 have hm:∀(P:aj->Prop),(∀e∈l,P e↔P (f e))->((∃e∈l,P e)↔∃e∈l.map f,P e):=fun P hP=>⟨fun⟨e,he,hp⟩=>⟨f e,QP.2 ⟨e,he,rfl⟩,(hP e he).1 hp⟩,fun⟨e,he,hp⟩=>by
  obtain⟨x,hx,rfl⟩:=QP.1 he
  exact⟨x,hx,(hP x hx).2 hp⟩⟩
 have hsaid:∀e∈l,said (f e)=said e:=fun e he=>by
  obtain⟨g1,g2,g3,g4,g5,g6,g7,g8⟩:=e1 e he;unfold said at_
  rw[(hf e he).2,g4,g3,g5,g6]
 have hbnd:∀v,∀e∈l,l8 v (f e)=l8 v e:=fun v e he=>by
  obtain⟨g1,g2,g3,g4,g5,g6,g7,g8⟩:=e1 e he;unfold l8;simp only[(hf e he).2,g3,g7]
 obtain⟨a,b,c⟩:=XJ hl hn hl' (by rw[QC];exact hn) (fun x=>hm _ fun e he=>by rw[hsaid e he]) (fun x=>hm _ fun e he=>by rw[(hf e he).2,(e1 e he).2.2.1])
  (fun v x=>by rw[JV,JV];exact hm _ fun e he=>by rw[hbnd v e he,(e1 e he).2.2.2.2.2.2.1,(e1 e he).2.2.2.2.2.2.2])
 refine⟨fun aJ hn t=> ?_,fun p hp=> ?_,a,b,c⟩
 ·unfold jU;generalize (List.replicate 10 iw).set aJ ⟨true,t⟩=ms
  suffices key:∀(k:List aj) (ms:List aA),(∀e∈k,e∈l)->k.foldl ed ms=(k.map f).foldl ed ms from key l ms fun e he=>he
  intro k
  induction k with
  |nil=>intro ms _;rfl
  |cons x k ih=>
   intro ms hk;have hx:=hk x Qx
   have:ed ms (f x)=ed ms x:=by
    unfold ed;rw[(hf x hx).2,(e1 x hx).1,(e1 x hx).2.1]
   rw[QD,QU,QU,this];exact ih _ fun e he=>hk e (Qy _ he)
 ·unfold eD
  suffices key:∀(k:List aj),(∀e∈k,e∈l)->jr p (k.filter bj)=jr p ((k.map f).filter bj)from key l fun e he=>he
  intro k
  induction k with
  |nil=>intro _;rfl
  |cons x k ih=>
   intro hk;have hx:=hk x Qx
   have hpx:p (f x)=p x:=by
    rw[(hf x hx).1];exact hp x _
   rw[QD,List.filter_cons,List.filter_cons,(hf x hx).2];split
   ·rw[jr,jr,hpx,(e1 x hx).1,ih fun e he=>hk e (Qy _ he)]
   ·exact ih fun e he=>hk e (Qy _ he)
structure kX (m:ae):Prop where
 zero:aT m.af=true->m.aO=0
 pos:aT m.af=false->1<=m.aO
def WM(m:ae):aj:=⟨m.ao,m.aK,m.aO,m.ab,m.aY,m.af,m.an,m.aH,m.bo,if m.aY=1 then fc m else m.bC⟩
theorem Y3(m:ae):qt m=some (WM m):=by
 unfold qt WM fc;simp only[bc,etas,qx,oG,Qa]
 by_cases h1:m.aY=1
 ·rw[Qg h1,Qr h1];cases aT m.aw<;>cases cI m.aw m.af<;>rfl
 ·rw[Qh h1,Qs h1];rfl
theorem adn{m:ae}(h:bH m):WM m=df m:=by
 unfold WM df;rcases h.body with h0|h1|h2|h3
 ·rw[Qr h0.bf,Qr h0.bf]
 ·rw[Qr h1.bf,Qr h1.bf]
 ·rw[Qs (by rw[h2.bf];decide),Qs (by rw[h2.bf];decide),Qr h2.bf,h2.dJ]
 ·rw[Qs (by rw[h3.bf];decide),Qs (by rw[h3.bf];decide),Qs (by rw[h3.bf];decide),h3.dJ,h3.dH]
theorem ade{m:ae}(hs:kX m)(hz:aT m.af=false):iv m=df m:=by
 unfold iv
 have:bP (df m).aO 1=(df m).aO:=by
  have:=hs.pos hz;rw[Tn];unfold bP;split<;>omega
 rw[this]
section
variable {m : ae} (h : bH m) (hs : kX m)
 include h
 include hs
end
end
section
theorem TZ{m:ae}(h:bH m)(s:Int):cr {m with aO:=s}=(cr m).map (fun e=>if e.ao=m.ao then{e with aO:=bP s 1}else e):=by
 have hf:∀e∈m.aI,(if e.ao=m.ao then{e with aO:=bP s 1}else e)=e:=fun e he=>Qs (h.hv e he).2.2.2
 have hmap:m.aI.map (fun e=>if e.ao=m.ao then{e with aO:=bP s 1}else e)=m.aI:=by
  rw[Qq70 hf];simp
 have hown:iv {m with aO:=s}={iv m with aO:=bP s 1}:=by
  unfold iv df fc;split
  ·rfl
  ·split<;>rfl
 unfold cr;split
 ·exact hmap.symm
 ·rw[hown];have hn:(iv m).ao=m.ao:=Hm m
  suffices key:∀l:List aj,(∀e∈l,(if e.ao=m.ao then{e with aO:=bP s 1}else e)=e)->xT {iv m with aO:=bP s 1} l=(xT (iv m) l).map (fun e=>if e.ao=m.ao then{e with aO:=bP s 1}else e)from key _ hf
  intro l
  induction l with
  |nil=>
   intro _;simp only[xT,QD,QO,hn,Qt]
  |cons x l ih=>
   intro hx;unfold xT;simp only;split
   ·rw[QD,QD,hn,Qr rfl,hx x Qx,Qq70 (fun e he=>hx e (Qy _ he))]
    simp
   ·rw[QD,hx x Qx,ih fun e he=>hx e (Qy _ he)]
theorem NS{m:ae}(h:bH m){s:Int}(hs:0<=s/\s<=1000000):bH {m with aO:=s}:=by
 refine⟨h.n0,h.n1,h.bx,hs,h.aR,h.vt,h.hv,h.gX,?_⟩;rcases h.body with k|k|k|k
 ·exact .inl ⟨k.bf,k.bl,k.dH,k.dJ,k.dQ,k.low,k.eX⟩
 ·exact .inr (.inl ⟨k.bf,k.bl,k.dH,k.dJ,k.dQ,k.up,k.eX,k.low⟩)
 ·exact .inr (.inr (.inl ⟨k.bf,k.bl,k.dH,k.dJ,k.dQ,k.range⟩))
 ·exact .inr (.inr (.inr ⟨k.bf,k.bl,k.dH,k.dJ,k.dQ,k.range⟩))
theorem o9{m:ae}(h:bH m){s:Int}(hs:0<=s/\s<=1000000):Alike (cr m) (cr {m with aO:=s}):=by
 rw[TZ h s];refine ZQ h.ev.vL.1 h.ev.vL.2 _ fun e he=> ?_
 split
 ·rename_i hn;refine⟨rfl,?_⟩;rw[h.CZ e he];have hv:=h.CZ e he
  have hm:{e with aO:=bP s 1}∈cr {m with aO:=s}:=by
   rw[TZ h s];exact QP.2 ⟨e,he,Qr hn⟩
  exact(NS h hs).CZ _ hm
 ·exact⟨rfl,rfl⟩
theorem adH(m:ae)(s:Int)(b:ai):BZ {m with aO:=s} b={BZ m b with aO:=s}:=by
 unfold BZ
 by_cases h:bD m.af b=true
 ·simp only[Qr h]
 ·simp only[Qs h]
theorem X1(m:ae)(s:Int)(b:ai):ru {m with aO:=s} b={ru m b with aO:=s}:=by
 unfold ru
 by_cases h:m.bo=0/\cI m.af b=true/\qI b.Value m.af.ah m.an m.aH<=b.ah
 ·simp only[Qr h]
 ·simp only[Qs h]
section
variable {m : ae} (h : bH m) {s : Int} (hs : 0 <= s /\ s <= 1000000)
 include h hs
theorem adi:fP {m with aO:=s}=fP m:=((o9 h hs).next h.ev.aJ.2 m.ab _ _ _).symm
theorem adD:kV {m with aO:=s}=kV m:=((o9 h hs).eX h.ev.aJ.2 m.ab _).symm
theorem Ow:gD {m with aO:=s}=gD m:=((o9 h hs).ready h.ev.aJ.2 m.ab).symm
theorem Z6:KX {m with aO:=s}=KX m:=((o9 h hs).sure h.ev.aJ.2 m.ab).symm
theorem adR:ll {m with aO:=s}=ll m:=by
 unfold ll;rw[Ow h hs];simp only;rw[<-(o9 h hs).Fm,<-(o9 h hs).first]
theorem adW:eM {m with aO:=s}=eM m:=by
 unfold eM;rw[Ow h hs];simp only;rw[<-(o9 h hs).jx]
theorem adV:oC {m with aO:=s}=oC m:=by
 unfold oC;rw[Z6 h hs];simp only;rw[<-(o9 h hs).jx]
theorem O8(n:Int):kx {m with aO:=s} n=kx m n:=by
 unfold kx;simp only;rw[<-(o9 h hs).view _ h.ev.aJ.2];rfl
theorem aef:iC {m with aO:=s}=iC m:=by
 unfold iC;simp only;congr 1
 funext b e
 unfold nv;simp only[O8 h hs]
theorem YF:eB {m with aO:=s}={eB m with aO:=s}:=by
 unfold eB;simp only[adi h hs];split<;>rfl
theorem YD:jl {m with aO:=s}={jl m with aO:=s}:=by
 unfold jl;simp only[adD h hs];split
 ·rfl
 ·rw[adH,X1]
theorem YL:ir {m with aO:=s}={ir m with aO:=s}:=by
 unfold ir;simp only[adR h hs,adW h hs];split
 ·split<;>rfl
 ·split<;>rfl
theorem YJ:lL {m with aO:=s}={lL m with aO:=s}:=by
 unfold lL;simp only[adV h hs];split<;>rfl
theorem YH:fX {m with aO:=s}={fX m with aO:=s}:=by
 unfold fX;simp only[O8 h hs,aef h hs];split<;>rfl
end
open Classical in
 def jB(m:ae):ae:=
 if eB m=m then(if jl m=m then(if ir m=m then(if lL m=m then fX m else lL m)else ir m)else jl m)else eB m
structure N7 (m:ae):Prop where
 p:eB m=m
 s:jl m=m
 c:ir m=m
 f:lL m=m
 k:fX m=m
theorem Er{m:ae}{Q:ae->Prop}(h1:Q (eB m))(h2:Q (jl m))(h3:Q (ir m))(h4:Q (lL m))(h5:Q (fX m)):Q (jB m):=by
 unfold jB;split
 ·split
  ·split
   ·split
    ·exact h5
    ·exact h4
   ·exact h3
  ·exact h2
 ·exact h1
theorem Of{m:ae}(h:bH m):bH (jB m):=Er (YG h) (YE h) (YM h) (YK h) (YI h)
theorem Yh(m:ae):jf m (jB m):=Er (OC m) (GB m) (GF m) (GD m) (GC m)
theorem Z7{m:ae}(h:bH m):jB m=m\/lh m<lh (jB m):=Er (Q:=fun x=>x=m\/lh m<lh x) (ahG h) (ahF h) (ahJ h) (ahI h) (ahH h)
theorem ah1(m:ae):(eB m).af=m.af:=by unfold eB;split<;>rfl
theorem Z8{m:ae}(h:bH m)(hz:aT m.af=false):aT (jB m).af=false:=by
 have hb:P1 m\/P2 m\/P3 m:=h.body.resolve_left fun k=>by rw[k.bl,cp]at hz;cases hz
 refine Er (Q:=fun x=>aT x.af=false) (by rw[ah1];exact hz) ?_ ?_ ?_ ?_
 ·rcases hb with k|k|k
  ·exact(Np h k).1.bl.nz
  ·rw[tU (.inl (by rw[k.bf];decide))];exact hz
  ·rw[tU (.inl (by rw[k.bf];decide))];exact hz
 ·unfold ir;rcases hb with k|k|k
  ·rw[Qr k.bf];split
   ·rename_i hk;have hf:=Th h hk;exact(TH (.inr k.bl) k.dH hf.fin hf.lo1 hf.le).bl.nz
   ·exact hz
  ·rw[Qs (by rw[k.bf];decide),Qr k.bf]
   obtain⟨g1,g2,g3,_⟩:=Tm h k;exact(Xk k g1 g2 g3).bl.nz
  ·rw[Qs (by rw[k.bf];decide),Qs (by rw[k.bf];decide)];exact hz
 ·unfold lL;split
  ·rename_i hc;rcases hb with k|k|k
   ·have:=k.bf;have:=hc.1;omega
   ·exact(Vb h k hc.2).bl.nz
   ·have:=k.bf;have:=hc.1;omega
  ·exact hz
 ·cases ha:kx m m.af.ah with
  |false=>
   have:fX m=m:=Qr (.inr ha);rw[this];exact hz
  |true=>
   rcases hb with k|k|k
   ·exact(Nr h (.inr k) ha).bl.nz
   ·exact(Va h k).bl.nz
   ·have:fX m=m:=Qr (.inl k.bf);rw[this];exact hz
def gp(m:ae):ae:=if aT m.af=false then{m with aO:=bP m.aO 1}else m
theorem Ve{m:ae}(h:bH m):0<=bP m.aO 1/\bP m.aO 1<=1000000:=by
 have:=h.seq;unfold bP;split<;>omega
theorem R5{m:ae}(h:bH m):bH (gp m):=by
 unfold gp;split
 ·exact NS h (Ve h)
 ·exact h
theorem Vf{m:ae}(h:aT m.af=true->m.aO=0):kX (gp m):=by
 unfold gp;split
 ·rename_i hz;exact⟨fun e=>(by rw[show({m with aO:=bP m.aO 1}:ae).af=m.af from rfl,hz]at e;cases e),fun _=>by show 1<=bP m.aO 1;unfold bP;split<;>omega⟩
 ·rename_i hz;exact⟨h,fun e=>absurd e hz⟩
theorem adT{m:ae}(h:bH m)(hf:N7 m){s:Int}(hs:0<=s/\s<=1000000):N7 {m with aO:=s}:=
 ⟨by rw[YF h hs,hf.p],by rw[YD h hs,hf.s],by rw[YL h hs,hf.c],by rw[YJ h hs,hf.f],by rw[YH h hs,hf.k]⟩
theorem aaJ{m:ae}(h:bH m)(hf:N7 m):N7 (gp m):=by
 unfold gp;split
 ·exact adT h hf (Ve h)
 ·exact hf
theorem adj{m:ae}(hs:kX m):gp m=m:=by
 unfold gp;split
 ·rename_i hz;have:=hs.pos hz;have e:bP m.aO 1=m.aO:=by unfold bP;split<;>omega
  rw[e]
 ·rfl
structure abI (R:ae->Prop) (m m':ae):Prop where
 inv:bH m'
 seq:kX m'
 env:m'.ao=m.ao/\m'.aK=m.aK/\m'.ab=m.ab/\m'.bQ=m.bQ/\m'.aI=m.aI
 num:m'.aO=m.aO\/(m.aO=0/\m'.aO=1)
 nz:aT m.af=false->aT m'.af=false
 rel:R m'
 fix:N7 m'
end
section
theorem XI{α:Type}{s t:List α}(hl:s.length=t.length)(hn:s.length<=1000000){step:Int×Unit->Option ((Int×Unit)⊕Bool)}
  (h1:∀(i:Nat) (h:i<s.length) (h':i<t.length),decide ((i:Int)<(s.length:Int))=true->idx s (i:Int)=some s[i]->idx t (i:Int)=some t[i]->aq .i64 (i:Int) 1=((i+1:Nat):Int)->∃b:Bool,step ((i:Int),())=some (bif b then .inl (((i+1:Nat):Int),())else .inr false)/\(b=true↔s[i]=t[i]))
  (h2:decide ((s.length:Int)<(s.length:Int))=false->step ((s.length:Int),())=some (.inr true)):∃b,ax step (0,())=some b/\(b=true↔s=t):=by
 suffices key:∀(k i:Nat),i+k=s.length->∃b,ax step ((i:Int),())=some b/\(b=true↔s.drop i=t.drop i)from by simpa using key s.length 0 (by omega)
 intro k
 induction k with
 |zero=>
  intro i hi;obtain rfl:i=s.length:=by omega
  refine⟨true,ct (h2 (Qh (Qq63 _))),?_⟩;rw[List.drop_eq_nil_of_le (by omega),List.drop_eq_nil_of_le (by omega)]
  simp
 |succ k ih=>
  intro i hi;have hi':i<s.length:=by omega
  have hi'':i<t.length:=by omega
  obtain⟨b,h3,h4⟩:=h1 i hi' hi'' (Qg (by omega)) (by rw[aP];exact Qv hi') (by rw[aP];exact Qv hi'') (bN (by omega) (by omega))
  rw[QM hi',QM hi'',List.cons.injEq]
  cases b with
  |false=>
   refine⟨false,ct h3,?_⟩;simp only[Qq,false_iff]at h4 ⊢;exact fun h=>h4 h.1
  |true=>
   obtain⟨b,h5,h6⟩:=ih (i+1) (by omega)
   refine⟨b,(cD h3).trans h5,?_⟩;rw[h6];exact⟨fun h=>⟨h4.1 rfl,h⟩,fun h=>h.2⟩
theorem Sj{α:Type}{s t:List α}(h:s.length≠t.length):(false=true↔s=t):=by
 simp only[Qq,false_iff];exact fun h1=>h (by rw[h1])
 def acb(a0:List Int)(a1:List Int):Option Bool:=
 bif (!decide (((List.length a0:Nat):Int)=((List.length a1:Nat):Int)))then
 some false
 else
 ax (fun(v1:Int×Unit)=>
 bif (decide (v1.1<((List.length a0:Nat):Int)))then
 Option.bind (idx a0 v1.1) fun x2=>
 Option.bind (idx a1 v1.1) fun x3=>
 bif (!decide (x2=x3))then
 Option.map Sum.inr (some false)
 else
 some (Sum.inl ((aq .i64 v1.1 (1:Int)),()))
 else
 Option.map Sum.inr (some true)) ((0:Int),())
theorem ab3(s t:List Int)(h:s.length<=1000000):∃b,acb s t=some b/\(b=true↔s=t):=by
 unfold acb
 by_cases hl:s.length=t.length
 ·rw[Qg (by omega:(s.length:Int)=(t.length:Int)),Qo,Ql]
  refine XI hl h (fun i hi hi' hd hx hy hw=> ?_) (fun hd=> ?_)
  ·refine⟨decide (s[i]=t[i]),?_,by simp⟩
   simp only[hd,hx,hy,hw,Qk,Qa];cases decide (s[i]=t[i])<;>rfl
  ·simp only[hd,Ql];rfl
 ·rw[Qh (by omega:¬(s.length:Int)=(t.length:Int)),Qp,Qk]
  exact⟨false,rfl,Sj hl⟩
theorem afh(s t:List Int)(h:s.length<=1000000):∃b,Cm s t=some b/\(b=true↔s=t):=ab3 s t h
theorem agD(s t:List Int)(h:s.length<=1000000):∃b,pO s t=some b/\(b=true↔s=t):=ab3 s t h
theorem Oe(a b:aa):a=b↔a.ar=b.ar/\a.au=b.au/\a.aG=b.aG:=by
 cases a;cases b;simp
theorem af5{n:Nat}:∀{a b:aa},SizeOf.sizeOf a<n->cJ a->∃r,Ch n (a,b,())=some r/\(r=true↔a=b):=by
 induction n with
 |zero=>intro a b h;omega
 |succ n ih=>
  intro a b hs hm;show∃r,yI (Ch n) a b=some r/\(r=true↔a=b);have hl:=hm.len;have hns:=hm.nodes;obtain⟨r,h1,h2⟩:=afh a.au b.au hns;rw[Oe];unfold yI
  by_cases ht:a.ar=b.ar
  ·rw[Qg ht];simp only[Qo,Ql,h1,Qa]
   cases r with
   |false=>
    simp only[Qp,Qk,Qa];refine⟨false,rfl,?_⟩;simp only[Qq,false_iff]at h2 ⊢;exact fun h=>h2 h.2.1
   |true=>
    simp only[Qo,Ql,Qa]
    by_cases hi:a.aG.length=b.aG.length
    ·rw[Qg (by omega:(a.aG.length:Int)=(b.aG.length:Int)),Qo,Ql]
     have key:∀step:Int×Unit->Option ((Int×Unit)⊕Bool),(∃r,ax step (0,())=some r/\(r=true↔a.aG=b.aG))->∃r,ax step (0,())=some r/\(r=true↔a.ar=b.ar/\a.au=b.au/\a.aG=b.aG):=by
      rintro step ⟨r,h3,h4⟩;exact⟨r,h3,by rw[h4];exact⟨fun h=>⟨ht,h2.1 rfl,h⟩,fun h=>h.2.2⟩⟩
     refine key _ (XI hi hl (fun i hi hi' hd hx hy hw=> ?_) (fun hd=> ?_))
     ·have hu:=QZ hi;obtain⟨r,h3,h4⟩:=ih (a:=a.aG[i]) (b:=b.aG[i]) (by have:=iA hu;omega) (hm.inner _ hu)
      refine⟨r,?_,h4⟩;simp only[hd,hx,hy,hw,Qk,Qa,etas,h3];cases r<;>rfl
     ·simp only[hd,Ql];rfl
    ·rw[Qh (by omega:¬(a.aG.length:Int)=(b.aG.length:Int)),Qp,Qk]
     refine⟨false,rfl,?_⟩;simp only[Qq,false_iff];exact fun h=>hi (by rw[h.2.2])
  ·rw[Qh ht];refine⟨false,rfl,?_⟩;simp only[Qq,false_iff];exact fun h=>ht h.1
theorem B0{a b:aa}(h:cJ a):∃r,iL a b=some r/\(r=true↔a=b):=af5 (by omega) h
theorem ahd{n:Nat}:∀{a b:aa},SizeOf.sizeOf a<n->cJ a->∃r,wU n (a,b,())=some r/\(r=true↔a=b):=by
 induction n with
 |zero=>intro a b h;omega
 |succ n ih=>
  intro a b hs hm;show∃r,sj (wU n) a b=some r/\(r=true↔a=b);have hl:=hm.len;have hns:=hm.nodes;obtain⟨r,h1,h2⟩:=agD a.au b.au hns;rw[Oe];unfold sj
  by_cases ht:a.ar=b.ar
  ·rw[Qg ht];simp only[Qk,h1,Qa]
   cases r with
   |false=>
    simp only[Ql];refine⟨false,rfl,?_⟩;simp only[Qq,false_iff]at h2 ⊢;exact fun h=>h2 h.2.1
   |true=>
    simp only[Qk]
    have key:∀o:Option Bool,(∃r,o=some r/\(r=true↔a.aG=b.aG))->∃r,(Option.bind (Option.bind o fun r3=>some r3) fun b4=>some b4)=some r/\(r=true↔a.ar=b.ar/\a.au=b.au/\a.aG=b.aG):=by
     rintro o ⟨r,rfl,h4⟩;exact⟨r,rfl,by rw[h4];exact⟨fun h=>⟨ht,h2.1 rfl,h⟩,fun h=>h.2.2⟩⟩
    refine key _ ?_;unfold dG
    by_cases hi:a.aG.length=b.aG.length
    ·rw[Qg (by omega:(a.aG.length:Int)=(b.aG.length:Int)),Qo,Ql]
     refine XI hi hl (fun i hi hi' hd hx hy hw=> ?_) (fun hd=> ?_)
     ·have hu:=QZ hi;obtain⟨r,h3,h4⟩:=ih (a:=a.aG[i]) (b:=b.aG[i]) (by have:=iA hu;omega) (hm.inner _ hu)
      refine⟨r,?_,h4⟩;simp only[hd,hx,hy,hw,Qk,Qa,etas,h3];cases r<;>rfl
     ·simp only[hd,Ql];rfl
    ·rw[Qh (by omega:¬(a.aG.length:Int)=(b.aG.length:Int)),Qp,Qk]
     exact⟨false,rfl,Sj hi⟩
  ·rw[Qh ht];refine⟨false,rfl,?_⟩;simp only[Qq,false_iff];exact fun h=>ht h.1
theorem eqT{a b:aa}(h:cJ a):∃r,jM a b=some r/\(r=true↔a=b):=ahd (by omega) h
theorem adX(a b:Int)(s t:ByteArray):nR false a b s t=(decide (a=b)&&decide (s=t)):=by
 simp
theorem XE(a b:ai):a=b↔a.ah=b.ah/\a.Value=b.Value:=by
 cases a;cases b;simp
theorem adY(a b:aj):a=b↔a.ao=b.ao/\a.aK=b.aK/\a.aO=b.aO/\a.ab=b.ab/\a.bu=b.bu/\a.af=b.af/\a.an=b.an/\a.aH=b.aH/\a.bo=b.bo/\a.bC=b.bC:=by
 cases a;cases b;simp
theorem aec(a b:Bool):(bif a then some b else some false)=some (a&&b):=by cases a<;>rfl
theorem ah6{a b:aj}(h:cJ a.ab):∃r,yt a b=some r/\(r=true↔a=b):=by
 obtain⟨r,h1,h2⟩:=B0 (a:=a.ab) (b:=b.ab) h;have hc:∀x:Bool,(bif x then some r else some false)=some (x&&r):=fun x=>by cases x<;>rfl
 refine⟨_,by simp only[yt,etas,h1,Qa,aec,hc,adX];rfl,?_⟩
 rw[adY];simp only[Qm,Qi,h2,XE];constructor
 ·rintro⟨⟨⟨⟨⟨⟨⟨⟨⟨h1,h2⟩,h3⟩,h4⟩,h5⟩,h6⟩,h7⟩,h8⟩,h9⟩,h10⟩;exact⟨h1,h2,h3,h4,h5,h6,h7,h8,h9,h10⟩
 ·rintro⟨h1,h2,h3,h4,h5,h6,h7,h8,h9,h10⟩;exact⟨⟨⟨⟨⟨⟨⟨⟨⟨h1,h2⟩,h3⟩,h4⟩,h5⟩,h6⟩,h7⟩,h8⟩,h9⟩,h10⟩
end
section
theorem MA{m:ae}(h:bH m){ρ:Type}{step:Int×Unit->Option ((Int×Unit)⊕ρ)}{fin:Option ρ}
  (h1:∀(i:Nat) (e:aj),e∈m.aI->decide ((i:Int)<(m.aI.length:Int))=true->idx m.aI (i:Int)=some e->aq .i64 (i:Int) 1=((i+1:Nat):Int)->
   (i=0\/(decide ((0:Int)<(i:Int))=true/\∃x,idx m.aI (da .i64 (i:Int) 1)=some x/\decide (e.ao<=x.ao)=false))->step ((i:Int),())=some (.inl (((i+1:Nat):Int),())))
  (h2:decide ((m.aI.length:Int)<(m.aI.length:Int))=false->step ((m.aI.length:Int),())=Option.map Sum.inr fin):ax step (0,())=fin:=by
 have hl:=h.len;refine Yj m.aI.length (by omega) (fun i hi hd hw=> ?_) h2
 have hx:idx m.aI (i:Int)=some m.aI[i]:=by rw[aP];exact Qv hi
 refine h1 i m.aI[i] (QZ hi) hd hx hw ?_
 cases i with
 |zero=>exact .inl rfl
 |succ i=>
  refine .inr ⟨Qg (by omega),m.aI[i],?_,?_⟩
  ·have:da .i64 ((i+1:Nat):Int) 1=(i:Int):=by rw[jA (by omega) (by omega)];omega
   rw[this,aP];exact Qv (by omega)
  ·have:=List.pairwise_iff_getElem.1 h.gX i (i+1) (by omega) hi (by omega)
   exact Qh (by omega)
theorem adE{m:ae}(h:bH m):tK m=some true:=by
 unfold tK;refine MA h (fun i e he hd hx hw hi=> ?_) (fun hd=>by simp only[hd,Ql])
 obtain⟨g1,g2,g3,g4⟩:=h.hv e he;simp only[hd,hx,hw,Qk,Qa,bc,etas,T4 g2.sm,g1,Qo,Ql,Qg g3,Qh g4];rcases hi with rfl|⟨hi,x,hx2,hn⟩
 ·rfl
 ·rw[hi,hx2];simp only[Qk,Qa,hn,Ql]
theorem H2{m:ae}(h:bH m)(hs:kX m)(hz:aT m.af=false):bj (df m)=true:=by
 rw[<-ade hs hz];exact OD h hz
theorem adk:nR false cq.ah (0:Int) cq.Value bE=true:=by decide
theorem VP{m:ae}(h:bH m)(hs:kX m):pE m=some true:=by
 have d1:decide (m.ao<0)=false:=Qh (by have:=h.n0;omega)
 have d2:decide ((10:Int)<=m.ao)=false:=Qh (by have:=h.n1;omega)
 have d3:decide (m.aK<1)=false:=Qh (by have:=h.bx;omega)
 have d4:decide ((1000000:Int)<m.aK)=false:=Qh (by have:=h.bx;omega)
 have d5:decide (m.aO<0)=false:=Qh (by have:=h.seq;omega)
 have d6:decide ((1000000:Int)<m.aO)=false:=Qh (by have:=h.seq;omega)
 have d7:decide ((200:Int)<((m.bQ.size:Nat):Int))=false:=Qh (by have:=h.vt;omega)
 have hm:cJ (df m).ab:=by rw[oW];exact h.aR.sm
 unfold pE;simp only[d1,d2,d3,d4,d5,d6,d7,Ql,Qa,etas,lS h.aR,decide_true,Qo,adE h,qx,Y3,adn h,T4 hm]
 cases hz:aT m.af with
 |true=>
  have h0:P0 m:=by
   rcases h.body with k|k|k|k
   ·exact k
   ·rw[k.bl.nz]at hz;cases hz
   ·rw[k.bl.nz]at hz;cases hz
   ·rw[k.bl.nz]at hz;cases hz
  unfold yC;simp only[h0.bf,hs.zero hz,h0.dH,h0.dJ,h0.dQ,h0.low,h0.eX,adk,decide_true,Qk,Qa]
 |false=>
  have hv:=H2 h hs hz;simp only[hv,Ql,Qk]
  have hconf:oq m=some true:=by
   unfold oq;simp only[qx,HJ,xk,oG,Qa]
   have fin:∀(hf:dm m.aw) (hp:(dY m.an m.aH m.aw||(!decide (m.aY=1)&&cI m.aw m.af))=true),_:=fun hf hp=>(show(bif aT m.aw then some true else
     (bif !dB m.aw then some true else some (decide (1000<m.aw.ah))).bind fun b3=>bif b3 then some false else
     (bif dY m.an m.aH m.aw then some true else(bif !decide (m.aY=1)then some (cI m.aw m.af)else some false).bind fun b6=>some b6).bind fun b7=>some b7)=some true by
    rw[hf.nz,hf.valid,Qh (show¬1000<m.aw.ah by have:=hf.2.1;omega)]
    revert hp
    cases dY m.an m.aH m.aw<;>cases decide (m.aY=1)<;>cases cI m.aw m.af<;>simp)
   have nob:m.aw=cq->(bif aT m.aw then some true else
     (bif !dB m.aw then some true else some (decide (1000<m.aw.ah))).bind fun b3=>bif b3 then some false else
     (bif dY m.an m.aH m.aw then some true else(bif !decide (m.aY=1)then some (cI m.aw m.af)else some false).bind fun b6=>some b6).bind fun b7=>some b7)=some true:=fun e=>by rw[e,cp];rfl
   rcases h.body with k|k|k|k
   ·exact nob k.dQ
   ·rcases k.dQ with e|⟨hf,hp⟩
    ·exact nob e
    ·exact fin hf (by rw[hp];rfl)
   ·rcases k.dQ with e|⟨hf,hp⟩
    ·exact nob e
    ·exact fin hf (by rw[kp.2 hp,Qh (show¬m.aY=1 by have:=k.bf;omega)];simp)
   ·exact nob k.dQ
  rw[hconf];simp only[Qa,Qk];rcases h.body with k|k|k|k
  ·rw[k.bl,cp]at hz;cases hz
  ·simp only[k.bf,k.eX,decide_true,Qo,Ql,Qa,Qp,Qk,show decide ((1:Int)=3)=false from rfl]
  ·simp only[k.bf,k.dJ,cp,show decide ((2:Int)=1)=false from rfl,show decide ((2:Int)=3)=false from rfl,Qo,Ql,Qa,Qp,Qk]
  ·simp only[k.bf,k.dJ,k.dH,cp,show decide ((3:Int)=1)=false from rfl,decide_true,Qo,Ql,Qa,Qp,Qk]
theorem u9{m:ae}(h:bH m)(hs:kX m):gG m=some true:=by
 have d1:decide (m.ao<0)=false:=Qh (by have:=h.n0;omega)
 have d2:decide ((9:Int)<m.ao)=false:=Qh (by have:=h.n1;omega)
 have d3:decide (m.aK<1)=false:=Qh (by have:=h.bx;omega)
 have d4:decide ((1000000:Int)<m.aK)=false:=Qh (by have:=h.bx;omega)
 have d5:decide (m.aO<0)=false:=Qh (by have:=h.seq;omega)
 have d6:decide ((1000000:Int)<m.aO)=false:=Qh (by have:=h.seq;omega)
 have d7:decide ((200:Int)<((m.bQ.size:Nat):Int))=false:=Qh (by have:=h.vt;omega)
 have hm:cJ (df m).ab:=by rw[oW];exact h.aR.sm
 unfold gG;simp only[d1,d2,d3,d4,d5,d6,d7,Ql,Qa,etas,gl h.aR,decide_true,Qo];refine MA h (fun i e he hd hx hw hi=> ?_) (fun hd=> ?_)
 ·obtain⟨g1,g2,g3,g4⟩:=h.hv e he;simp only[hd,hx,hw,Qk,Qa,bc,jk g2.sm,g1,Qo,Ql,Qg g3,Qh g4];rcases hi with rfl|⟨hi,x,hx2,hn⟩
  ·rfl
  ·rw[hi,hx2];simp only[Qk,Qa,hn,Ql]
 ·simp only[hd,Ql];congr 1;simp only[dy,wX,s8,fS,Qa,xW,jk hm]
  cases hz:aT m.af with
  |true=>
   have h0:P0 m:=by
    rcases h.body with k|k|k|k
    ·exact k
    ·rw[k.bl.nz]at hz;cases hz
    ·rw[k.bl.nz]at hz;cases hz
    ·rw[k.bl.nz]at hz;cases hz
   simp only[h0.bf,hs.zero hz,h0.dH,h0.dJ,h0.dQ,h0.low,h0.eX,cp,decide_true,Qk,Qa]
  |false=>
   have hv:=H2 h hs hz;simp only[hv,Ql,Qo];rcases h.body with k|k|k|k
   ·rw[k.bl,cp]at hz;cases hz
   ·simp only[k.bf,k.eX,decide_true,Qo,Ql,Qa,Qp,Qk,show decide ((1:Int)=3)=false from rfl,show decide ((1:Int)=2)=false from rfl]
    rcases k.dQ with e|⟨hf,hp⟩
    ·rw[e,cp];rfl
    ·rw[hf.nz,hf.valid,Qh (show¬1000<m.aw.ah by have:=hf.2.1;omega),hp];rfl
   ·simp only[k.bf,k.dJ,cp,show decide ((2:Int)=1)=false from rfl,show decide ((2:Int)=3)=false from rfl,decide_true,Qo,Ql,Qa,Qp,Qk]
    rcases k.dQ with e|⟨hf,hp⟩
    ·rw[e,cp];rfl
    ·rw[hf.nz,hf.valid,Qh (show¬1000<m.aw.ah by have:=hf.2.1;omega),kp.2 hp];rfl
   ·simp only[k.bf,k.dJ,k.dH,k.dQ,cp,show decide ((3:Int)=1)=false from rfl,show decide ((3:Int)=2)=false from rfl,decide_true,Qo,Ql,Qa,Qp,Qk]
end
section
theorem JR(x:ae):(gp x).ao=x.ao/\(gp x).aK=x.aK/\(gp x).ab=x.ab/\(gp x).bQ=x.bQ/\(gp x).aI=x.aI/\(gp x).af=x.af:=by
 unfold gp;split<;>exact⟨rfl,rfl,rfl,rfl,rfl,rfl⟩
theorem aaI{x:ae}(hx:bH x):(gp x).aO=x.aO\/(x.aO=0/\(gp x).aO=1):=by
 have:=hx.seq;unfold gp;split
 ·show bP x.aO 1=x.aO\/(x.aO=0/\bP x.aO 1=1);unfold bP;split<;>omega
 ·exact .inl rfl
theorem BM{m m':ae}(he:jf m m')(h:¬m'=m):Cy m m'=false:=by
 cases hs:Cy m m' with
 |false=>rfl
 |true=>exact absurd (aad he hs) h
theorem ZS{R:ae->Prop}(hR1:∀m,bH m->R m->R (jB m))(hR2:∀m,R m->R (gp m)){m:ae}(h:bH m)(hs:kX m)(hr:R m):Yd (tE m) (abI R m):=by
 unfold tE;simp only[etas,u9 h hs,Qa,Qo,Ql];refine Yd.down (fun s=>bH s.1/\R s.1/\jf m s.1/\(aT m.af=false->aT s.1.af=false)) (fun s=>K1+K2 - lh s.1) ?_ ⟨h,hr,jf.refl m,id⟩
 rintro⟨x,z,_⟩ ⟨hx,hrx,hex,hzx⟩;simp only at hx hrx hex hzx;simp only[bc,WD hx.ev,Qa,aeP]
 have hgo:∀{y:ae},y=jB x->¬y=x->(bH y/\R y/\jf m y/\(aT m.af=false->aT y.af=false))/\K1+K2 - lh y<K1+K2 - lh x:=by
  rintro y rfl hne;have hv:=Yh x;have hup:=(Z7 hx).resolve_left hne;have h1:=acJ (Of hx);exact⟨⟨Of hx,hR1 _ hx hrx,⟨hv.aJ.trans hex.aJ,hv.bx.trans hex.bx,hv.seq.trans hex.seq,hv.aR.trans hex.aR,hv.vt.trans hex.vt,hv.heard.trans hex.heard⟩,fun hz=>Z8 hx (hzx hz)⟩,by omega⟩
 by_cases hP:eB x=x
 ·simp only[hP,xq,Qk,UK hx.ev,Qa]
  by_cases hS:jl x=x
  ·simp only[hS,xq,Qk,UL hx.ev,Qa]
   by_cases hC:ir x=x
   ·simp only[hC,xq,Qk,adU hx.ev,Qa]
    by_cases hF:lL x=x
    ·simp only[hF,xq,Qk,abk hx.ev,Qa];have e:jB x=fX x:=by unfold jB;rw[Qr hP,Qr hS,Qr hC,Qr hF]
     by_cases hK:fX x=x
     ·simp only[hK,xq,Qk,dy,Qa]
      have hnum:(bif !aT x.af then Option.map Sum.inr (some (⟨x.ao,x.aK,bP x.aO (1:Int),x.ab,x.aY,x.af,x.an,x.aH,x.aw,x.bo,x.bC,x.bQ,x.aI⟩:ae))else Option.map (Sum.inr (α:=ae×ae×Unit)) (some x))=some (Sum.inr (gp x)):=by
       unfold gp;cases aT x.af<;>rfl
      rw[hnum];obtain⟨e1,e2,e3,e4,e5,e6⟩:=JR x;refine .some ⟨R5 hx,Vf fun hz=> ?_,⟨e1.trans hex.aJ,e2.trans hex.bx,e3.trans hex.aR,e4.trans hex.vt,e5.trans hex.heard⟩,?_,fun hz=>by rw[e6];exact hzx hz,hR2 _ hrx,aaJ hx ⟨hP,hS,hC,hF,hK⟩⟩
      ·rw[hex.seq];refine hs.zero ?_
       cases hzz:aT m.af with
       |true=>rfl
       |false=>rw[hzx hzz]at hz;cases hz
      ·have:=aaI hx;rw[hex.seq]at this;exact this
     ·simp only[BM (GC x) hK,Ql];exact .some (hgo e.symm hK)
    ·simp only[BM (GD x) hF,Ql];have e:jB x=lL x:=by unfold jB;rw[Qr hP,Qr hS,Qr hC,Qs hF]
     exact .some (hgo e.symm hF)
   ·simp only[BM (GF x) hC,Ql];have e:jB x=ir x:=by unfold jB;rw[Qr hP,Qr hS,Qs hC]
    exact .some (hgo e.symm hC)
  ·simp only[BM (GB x) hS,Ql];have e:jB x=jl x:=by unfold jB;rw[Qr hP,Qs hS]
   exact .some (hgo e.symm hS)
 ·simp only[BM (OC x) hP,Ql];have e:jB x=eB x:=by unfold jB;rw[Qs hP]
  exact .some (hgo e.symm hP)
open Classical in
 def xZ(m m2:ae):ae:=if aT m.af=false/\{df m with aO:=0}≠{df m2 with aO:=0}then{m2 with aO:=fm (m2.aO+1) 1000000}else m2
theorem TN(m m2:ae):∃s,xZ m m2={m2 with aO:=s}/\(s=m2.aO\/s=fm (m2.aO+1) 1000000):=by
 unfold xZ;split
 ·exact⟨_,rfl,.inr rfl⟩
 ·exact⟨m2.aO,rfl,.inl rfl⟩
theorem UN{m m2:ae}(h:bH m2):∃s,xZ m m2={m2 with aO:=s}/\m2.aO<=s/\0<=s/\s<=1000000:=by
 obtain⟨s,h1,h2⟩:=TN m m2;have:=h.seq;refine⟨s,h1,?_⟩;rcases h2 with rfl|rfl
 ·omega
 ·unfold fm;split<;>omega
theorem abm{m m2:ae}(h:bH m2):bH (xZ m m2):=by
 obtain⟨s,h1,h2⟩:=UN (m:=m) h;rw[h1];exact NS h h2.2
theorem aeh{m m2:ae}(h:bH m2)(hs:kX m2)(hnz:aT m.af=false->aT m2.af=false):kX (xZ m m2):=by
 unfold xZ;split
 ·rename_i hc;have:=hs.pos (hnz hc.1);refine⟨fun hz=> ?_,fun _=> ?_⟩
  ·rw[show({m2 with aO:=fm (m2.aO+1) 1000000}:ae).af=m2.af from rfl,hnz hc.1]at hz
   cases hz
  ·show 1<=fm (m2.aO+1) 1000000;unfold fm;split<;>omega
 ·exact hs
def T9(R:ae->Prop)(m m1:ae)(q:ae×Int×Unit):Prop:=∃m2,q=(xZ m m2,(0:Int),())/\abI R (gp m1) m2
theorem adZ{m:ae}(h:bH m):cJ ({df m with aO:=0}:aj).ab:=by rw[show({df m with aO:=0}:aj).ab=(df m).ab from rfl,oW];exact h.aR.sm
theorem Ba{R:ae->Prop}(hR1:∀m,bH m->R m->R (jB m))(hR2:∀m,R m->R (gp m)){m m1:ae}(h:bH m)(h1:bH m1)(hz1:aT m1.af=true->m1.aO=0)(hnz:aT m.af=false->aT m1.af=false)(hr:R m1):
  Yd (gz m (gp m1)) fun q=>∃m2,q=xZ m m2/\abI R (gp m1) m2:=by
 unfold gz;simp only[etas];refine Yd.bind (ZS hR1 hR2 (R5 h1) (Vf hz1) (hR2 _ hr)) fun m2 ha=> ?_
 have hq:=ha.inv.seq;obtain⟨r,g1,g2⟩:=ah6 (a:={df m with aO:=0}) (b:={df m2 with aO:=0}) (adZ h)
 have hadd:aq .i64 m2.aO 1=m2.aO+1:=bN (by omega) (by omega)
 simp only[dy,Qa,xW,bc,g1,hadd]
 cases hz2:aT m2.af with
 |true=>
  have hz:aT m.af=true:=by
   cases hc:aT m.af with
   |true=>rfl
   |false=>rw[ha.nz (by rw[(JR m1).2.2.2.2.2];exact hnz hc)]at hz2;cases hz2
  refine .some ⟨m2,?_,ha⟩;unfold xZ;rw[Qs (by rw[hz];rintro⟨e,_⟩;cases e)]
 |false=>
  refine Yd.of_eq (x:=xZ m m2) ?_ ⟨m2,rfl,ha⟩;unfold xZ
  cases hz:aT m.af with
  |true=>rw[Qs (by rintro⟨e,_⟩;cases e)];rfl
  |false=>
   cases r with
   |true=>rw[Qs (fun e=>e.2 (g2.1 rfl))];rfl
   |false=>rw[Qr ⟨rfl,fun e=>by have:=g2.2 e;cases this⟩];rfl
theorem Oy{l:List aj}{e:aj}(hv:bj e=true):
  (∃x∈l,x.ao=e.ao/\e.aO<=x.aO/\yQ l e=(l,false,()))\/
  (∃a b,((∃x,l=a++x::b/\x.ao=e.ao/\x.aO<e.aO)\/(l=a++b/\(∀x∈l,x.ao≠e.ao)/\(∀x∈a,¬e.ao<x.ao)/\(∀x,b.head?=some x->e.ao<x.ao)))/\yQ l e=(a++e::b,true,())):=by
 unfold yQ;rw[Qr hv]
 cases hf:l.findIdx? (fun x=>decide (x.ao=e.ao))with
 |some i=>
  obtain⟨hi,h2,_⟩:=List.findIdx?_eq_some_iff_getElem.1 hf;have hx:l[i]?=some l[i]:=Qv hi;have h2:=of_decide_eq_true h2;simp only[hx,Q2]
  by_cases hle:e.aO<=l[i].aO
  ·left;rw[Qr hle];exact⟨l[i],QZ hi,h2,hle,rfl⟩
  ·right;rw[Qs hle];refine⟨l.take i,l.drop (i+1),.inl ⟨l[i],?_,h2,by omega⟩,?_⟩
   ·rw[List.getElem_cons_drop];exact(List.take_append_drop i l).symm
   ·rw[List.set_eq_take_append_cons_drop,Qr hi]
 |none=>
  right
  have hne:∀x∈l,x.ao≠e.ao:=fun x hx he=>by
   have:=List.findIdx?_eq_none_iff.1 hf x hx;rw[he]at this;simp at this
  refine⟨l.take (MY l e),l.drop (MY l e),.inr ⟨(List.take_append_drop _ l).symm,hne,?_,?_⟩,by rw[QL];rfl⟩
  ·intro x hx hlt;obtain⟨j,hj,rfl⟩:=List.getElem_of_mem hx;rw[List.getElem_take]at hlt;rw[List.length_take]at hj;unfold MY at hj
   cases hg:l.findIdx? (fun x=>decide (e.ao<x.ao))with
   |none=>
    have:=List.findIdx?_eq_none_iff.1 hg _ (QZ (show j<l.length by omega))
    simp[hlt]at this
   |some k=>
    obtain⟨_,_,h3⟩:=List.findIdx?_eq_some_iff_getElem.1 hg;rw[hg,Q2]at hj;have:=h3 j (by omega)
    simp[hlt]at this
  ·intro x hx;rw[List.head?_drop]at hx;unfold MY at hx
   cases hg:l.findIdx? (fun x=>decide (e.ao<x.ao))with
   |none=>rw[hg,Option.getD_none,Qq71 (QI _)]at hx;cases hx
   |some k=>
    obtain⟨hk,h2,_⟩:=List.findIdx?_eq_some_iff_getElem.1 hg;rw[hg,Q2,Qv hk]at hx;obtain rfl:=Option.some.inj hx;exact of_decide_eq_true h2
theorem ac0{l:List aj}{e:aj}{y:aj}(hy:y∈(yQ l e).1):y=e\/y∈l:=by
 by_cases hv:bj e=true
 ·rcases Oy (l:=l) hv with⟨x,_,_,_,h⟩|⟨a,b,h1,h⟩
  ·rw[h]at hy;exact .inr hy
  ·rw[h]at hy;rcases Qz.1 hy with hy|hy
   ·rcases h1 with⟨x,rfl,_⟩|⟨rfl,_⟩
    ·exact .inr (List.mem_append_left _ hy)
    ·exact .inr (List.mem_append_left _ hy)
   ·rcases QA.1 hy with hy|hy
    ·exact .inl hy
    ·rcases h1 with⟨x,rfl,_⟩|⟨rfl,_⟩
     ·exact .inr (List.mem_append_right _ (Qy _ hy))
     ·exact .inr (List.mem_append_right _ hy)
 ·unfold yQ at hy;rw[Qs hv]at hy;exact .inr hy
theorem WA{l:List aj}{e:aj}(hl:l.Pairwise (fun a b=>a.ao<b.ao)):(yQ l e).1.Pairwise (fun a b=>a.ao<b.ao):=by
 by_cases hv:bj e=true
 ·rcases Oy (l:=l) hv with⟨x,_,_,_,h⟩|⟨a,b,h1,h⟩
  ·rw[h];exact hl
  ·rw[h];show(a++e::b).Pairwise _;rcases h1 with⟨x,rfl,hn,_⟩|⟨rfl,hne,ha,hb⟩
   ·rw[Qq68,Q3]at hl ⊢;obtain⟨g1,⟨g2,g3⟩,g4⟩:=hl;refine⟨g1,⟨fun y hy=> ?_,g3⟩,fun y hy z hz=> ?_⟩
    ·rw[<-hn];exact g2 y hy
    ·rcases QA.1 hz with rfl|hz
     ·rw[<-hn];exact g4 y hy x Qx
     ·exact g4 y hy z (Qy _ hz)
   ·rw[Qq68]at hl;rw[Qq68,Q3];obtain⟨g1,g3,g4⟩:=hl
    have hbe:∀y∈b,e.ao<y.ao:=by
     intro y hy
     cases b with
     |nil=>cases hy
     |cons z b=>
      have:=hb z rfl;rcases QA.1 hy with rfl|hy
      ·exact this
      ·have:=(Q3.1 g3).1 y hy;omega
    refine⟨g1,⟨hbe,g3⟩,fun y hy z hz=> ?_⟩
    rcases QA.1 hz with rfl|hz
    ·have h2:=ha y hy;have h3:=hne y (List.mem_append_left _ hy);omega
    ·exact g4 y hy z hz
 ·unfold yQ;rw[Qs hv];exact hl
structure HI (m:ae) (e:aj):Prop where
 valid:bj e=true
 aR:cn e.ab
 bx:e.aK=m.aK
 aJ:e.ao≠m.ao
 def E9(m:ae)(e:aj):ae:={m with aI:=(yQ m.aI e).1}
theorem S9{m:ae}(h:bH m){e:aj}(he:HI m e):bH (E9 m e):=by
 refine⟨h.n0,h.n1,h.bx,h.seq,h.aR,h.vt,fun y hy=> ?_,WA h.gX,?_⟩
 ·rcases ac0 hy with rfl|hy
  ·exact⟨he.valid,he.aR,he.bx,he.aJ⟩
  ·exact h.hv y hy
 ·rcases h.body with k|k|k|k
  ·exact .inl ⟨k.bf,k.bl,k.dH,k.dJ,k.dQ,k.low,k.eX⟩
  ·exact .inr (.inl ⟨k.bf,k.bl,k.dH,k.dJ,k.dQ,k.up,k.eX,k.low⟩)
  ·exact .inr (.inr (.inl ⟨k.bf,k.bl,k.dH,k.dJ,k.dQ,k.range⟩))
  ·exact .inr (.inr (.inr ⟨k.bf,k.bl,k.dH,k.dJ,k.dQ,k.range⟩))
def Fe(m:ae)(t:aa):ae:={m with ab:=t}
theorem Tx{m:ae}(h:bH m){t:aa}(ht:cn t):bH (Fe m t):=by
 refine⟨h.n0,h.n1,h.bx,h.seq,ht,h.vt,h.hv,h.gX,?_⟩;rcases h.body with k|k|k|k
 ·exact .inl ⟨k.bf,k.bl,k.dH,k.dJ,k.dQ,k.low,k.eX⟩
 ·exact .inr (.inl ⟨k.bf,k.bl,k.dH,k.dJ,k.dQ,k.up,k.eX,k.low⟩)
 ·exact .inr (.inr (.inl ⟨k.bf,k.bl,k.dH,k.dJ,k.dQ,k.range⟩))
 ·exact .inr (.inr (.inr ⟨k.bf,k.bl,k.dH,k.dJ,k.dQ,k.range⟩))
def kW(m:ae)(v:ByteArray):ae:=if aT m.af=true then{m with bQ:=v,af:=⟨1,ei {m with bQ:=v}⟩}else{m with bQ:=v}
theorem acD{v:ByteArray}(h:1<=v.size):v≠gY:=by
 rintro rfl;exact absurd h (by decide)
theorem Rc{m:ae}(h:P0 m){v:ByteArray}(hv:1<=v.size):ei {m with bQ:=v}=v:=by
 unfold ei;rw[Qs (by rw[show({m with bQ:=v}:ae).aw=m.aw from rfl,h.dQ,cp];decide),Qs (by rw[show({m with bQ:=v}:ae).aY=m.aY from rfl,h.bf];decide),Qr (acD hv)]
theorem RT{m:ae}(h:bH m){v:ByteArray}(hv:1<=v.size/\v.size<=200):bH (kW m v):=by
 unfold kW;rcases h.body with k|k|k|k
 ·rw[Qr (by rw[k.bl];exact cp),Rc k hv.1]
  refine⟨h.n0,h.n1,h.bx,h.seq,h.aR,hv.2,h.hv,h.gX,.inr (.inl ⟨k.bf,⟨by show(1:Int)<=1;omega,by show(1:Int)<=1000;omega,hv.1,hv.2⟩,.inl k.dH,.inl k.dJ,.inl k.dQ,?_,k.eX,.inl k.low⟩)⟩
  show bD _ m.aw=false;rw[k.dQ]
  cases hl:bD (⟨1,v⟩:ai) cq with
  |false=>rfl
  |true=>have:=iq hl;exact absurd (show(1:Int)<=0 from this) (by decide)
 ·rw[Qs (by rw[k.bl.nz];decide)]
  exact⟨h.n0,h.n1,h.bx,h.seq,h.aR,hv.2,h.hv,h.gX,.inr (.inl ⟨k.bf,k.bl,k.dH,k.dJ,k.dQ,k.up,k.eX,k.low⟩)⟩
 ·rw[Qs (by rw[k.bl.nz];decide)]
  exact⟨h.n0,h.n1,h.bx,h.seq,h.aR,hv.2,h.hv,h.gX,.inr (.inr (.inl ⟨k.bf,k.bl,k.dH,k.dJ,k.dQ,k.range⟩))⟩
 ·rw[Qs (by rw[k.bl.nz];decide)]
  exact⟨h.n0,h.n1,h.bx,h.seq,h.aR,hv.2,h.hv,h.gX,.inr (.inr (.inr ⟨k.bf,k.bl,k.dH,k.dJ,k.dQ,k.range⟩))⟩
def oe(m:ae):ae:={m with bo:=if ei m=m.af.Value then m.bo else 0,af:=⟨m.af.ah+1,ei m⟩}
theorem Z3{m:ae}(h:bH m)(h3:m.aY≠3)(hv:ei m≠gY):1<=(ei m).size/\(ei m).size<=200:=by
 have h1:m.aY=1->(m.aw=cq\/dm m.aw)->1<=(ei m).size/\(ei m).size<=200:=fun hp hc=>by
  refine US h hp hc ?_;refine Classical.byContradiction fun hn=>hv ?_
  simp only[not_or,Classical.not_not]at hn;obtain⟨a1,a2,a3⟩:=hn;unfold ei;rw[Qs (by rw[a3,cp];decide),Qs (by rw[hp];decide),Qs (by rw[a2];exact fun e=>e rfl),a1]
  rfl
 rcases h.body with k|k|k|k
 ·exact h1 k.bf (.inl k.dQ)
 ·exact h1 k.bf (k.dQ.imp_right And.left)
 ·unfold ei;rcases k.dQ with e|⟨hf,_⟩
  ·rw[Qs (by rw[e,cp];decide),Qr (by rw[k.bf];decide)]
   exact k.bl.2.2
  ·rw[Qr hf.nz];exact hf.2.2
 ·exact absurd k.bf h3
theorem agb{m:ae}(k:P2 m):ei m=m.af.Value:=by
 unfold ei;rcases k.dQ with e|⟨hf,he⟩
 ·rw[Qs (by rw[e,cp];decide),Qr (by rw[k.bf];decide)]
 ·rw[Qr hf.nz,he]
theorem Rl{m:ae}(h:bH m)(h3:m.aY≠3)(hv:ei m≠gY)(hc:m.af.ah<1000):bH (oe m):=by
 have hsz:=Z3 h h3 hv;refine⟨h.n0,h.n1,h.bx,h.seq,h.aR,h.vt,h.hv,h.gX,?_⟩;have hfin:0<=m.af.ah->dm (oe m).af:=fun h0=>⟨by show 1<=m.af.ah+1;omega,by show m.af.ah+1<=1000;omega,hsz⟩
 rcases h.body with k|k|k|k
 ·have h0:m.af.ah=0:=by rw[k.bl];rfl
  refine .inr (.inl ⟨k.bf,hfin (by omega),.inl k.dH,.inl k.dJ,.inl k.dQ,?_,k.eX,.inl ?_⟩)
  ·show bD (⟨m.af.ah+1,ei m⟩:ai) m.aw=false;rw[k.dQ]
   cases hl:bD (⟨m.af.ah+1,ei m⟩:ai) cq with
   |false=>rfl
   |true=>have:=iq hl;exact absurd (show m.af.ah+1<=0 from this) (by omega)
  ·show(if ei m=m.af.Value then m.bo else 0)=0
   rw[k.low,ite_self]
 ·have hb:=k.bl;have h0:0<=m.af.ah:=by have:=hb.1;omega
  refine .inr (.inl ⟨k.bf,hfin h0,k.dH,k.dJ,k.dQ,?_,k.eX,?_⟩)
  ·show bD (⟨m.af.ah+1,ei m⟩:ai) m.aw=false
   cases hl:bD (⟨m.af.ah+1,ei m⟩:ai) m.aw with
   |false=>rfl
   |true=>
    have h1:=iq hl;have h2:=JT k.up;exact absurd (show m.af.ah+1<=m.aw.ah from h1) (by omega)
  ·show(if ei m=m.af.Value then m.bo else 0)=0\/_
   by_cases he:ei m=m.af.Value
   ·have hlow:(oe m).bo=m.bo:=by show(if ei m=m.af.Value then m.bo else 0)=m.bo;rw[Qr he]
    have hhigh:fc (oe m)=fc m:=by
     show(if(!aT m.aw&&cI m.aw ⟨m.af.ah+1,ei m⟩)=true then m.aw.ah else 0)=fc m
     rw[he];rfl
    rw[Qr he,hlow,hhigh];rcases k.low with e|⟨g1,g2,g3⟩
    ·exact .inl e
    ·refine .inr ⟨g1,g2,?_⟩;show qR m.an m.aH (ei m) m.bo=false;rw[he];exact g3
   ·rw[Qs he];exact .inl rfl
 ·have hb:=k.bl;have h0:0<=m.af.ah:=by have:=hb.1;omega
  have hv2:=agb k;have hval:(oe m).af.Value=m.af.Value:=hv2;have hlow:(oe m).bo=m.bo:=by show(if ei m=m.af.Value then m.bo else 0)=m.bo;rw[Qr hv2]
  refine .inr (.inr (.inl ⟨k.bf,hfin h0,?_,k.dJ,?_,?_⟩))
  ·rw[hval];exact k.dH
  ·rw[hval];exact k.dQ
  ·rw[hlow];exact k.range
 ·exact absurd k.bf h3
end
section
def aga:aa:=⟨0,[],[]⟩
def PR:ae:=⟨0,0,0,aga,0,cq,cq,cq,cq,0,0,gY,[]⟩
theorem R4{m m1:ae}(hs:kX m)(hb:aT m1.af=aT m.af)(hq:m1.aO=m.aO):gp m1=m1:=by
 refine adj ⟨fun hz=> ?_,fun hz=> ?_⟩
 ·rw[hq];exact hs.zero (by rw[<-hb];exact hz)
 ·rw[hq];exact hs.pos (by rw[<-hb];exact hz)
theorem qE{m:ae}{v:ByteArray}:(aT m.af=false->aT (kW m v).af=false)/\(kW m v).aO=m.aO:=by
 unfold kW;split
 ·rename_i hz;refine⟨fun e=> ?_,rfl⟩
  rw[hz]at e;cases e
 ·exact⟨fun e=>e,rfl⟩
theorem aaz{m:ae}(h:bH m){v:ByteArray}(hv:1<=v.size/\v.size<=200):aT (kW m v).af=false:=by
 rcases h.body with k|k|k|k
 ·unfold kW;rw[Qr (by rw[k.bl];exact cp),Rc k hv.1]
  exact dm.nz ⟨by show(1:Int)<=1;omega,by show(1:Int)<=1000;omega,hv.1,hv.2⟩
 ·exact qE.1 k.bl.nz
 ·exact qE.1 k.bl.nz
 ·exact qE.1 k.bl.nz
theorem HQ{m:ae}(h:bH m):aT (oe m).af=false:=by
 have:0<=m.af.ah:=by
  rcases h.body with k|k|k|k
  ·rw[k.bl];decide
  ·have:=k.bl.1;omega
  ·have:=k.bl.1;omega
  ·have:=k.bl.1;omega
 cases hz:aT (oe m).af with
 |false=>rfl
 |true=>
  have:=Cs.1 hz;have h2:m.af.ah+1=0:=congrArg ai.ah this;omega
section
variable {R : ae -> Prop} (hR1 : ∀ m, bH m -> R m -> R (jB m)) (hR2 : ∀ m, R m -> R (gp m)) {m : ae} (h : bH m) (hs : kX m)
 include hR1 hR2 h hs
theorem aap{v:ByteArray}(hv:1<=v.size/\v.size<=200)(hr:R (kW m v)):Yd (mr m v) (T9 R m (kW m v)):=by
 have d1:decide (((ByteArray.size v:Nat):Int)<(1:Int))=false:=Qh (by omega)
 have d2:decide ((200:Int)<((ByteArray.size v:Nat):Int))=false:=Qh (by omega)
 have hi:=RT h hv;have hval:mJ {m with bQ:=v}=some (ei {m with bQ:=v}):=M9 (m:={m with bQ:=v}) ⟨h.ev.n0,h.ev.n1,h.ev.aR,h.ev.len,h.ev.sm,h.ev.valid⟩
 unfold mr;simp only[etas,u9 h hs,Qa,Qo,Ql,d1,d2,dy,bc]
 have key:Yd ((gz m (gp (kW m v))).bind fun r5=>some (r5,(0:Int),())) (T9 R m (kW m v)):=
  Yd.bind (Ba hR1 hR2 h hi (fun hz=>by rw[qE.2];exact hs.zero (by cases hc:aT m.af with|true=>rfl|false=>rw[qE.1 hc]at hz;cases hz)) qE.1 hr) fun q hq=>by
   obtain⟨m2,rfl,ha⟩:=hq;exact .some ⟨m2,rfl,ha⟩
 cases hz:aT m.af with
 |true=>
  have hsq:=hs.zero hz
  have he:gp (kW m v)=⟨m.ao,m.aK,1,m.ab,m.aY,⟨1,ei {m with bQ:=v}⟩,m.an,m.aH,m.aw,m.bo,m.bC,v,m.aI⟩:=by
   unfold gp;rw[Qr (aaz h hv),qE.2,hsq];unfold kW;rw[Qr hz];rfl
  rw[he]at key;simp only[Qk];rw[show(⟨m.ao,m.aK,m.aO,m.ab,m.aY,m.af,m.an,m.aH,m.aw,m.bo,m.bC,v,m.aI⟩:ae)={m with bQ:=v}from rfl,hval]
  exact key
 |false=>
  have he:gp (kW m v)=⟨m.ao,m.aK,m.aO,m.ab,m.aY,m.af,m.an,m.aH,m.aw,m.bo,m.bC,v,m.aI⟩:=by
   rw[R4 hs (by rw[qE.1 hz,hz]) qE.2]
   unfold kW;rw[Qs (by rw[hz];decide)]
  rw[he]at key;exact key
theorem aao{e:aj}(he:HI m e)(hr:R (E9 m e)):Yd (kC m e) fun q=>(T9 R m (E9 m e) q/\(yQ m.aI e).2.1=true)\/(q=(PR,(9:Int),())/\(yQ m.aI e).2.1=false):=by
 have hi:=S9 h he;have hlen:=h.len;have hput:=acR (l:=m.aI) (fun x hx=>(h.hv x hx).2.1.sm) (by omega) (e:=e) he.aR.sm
 have hid:gp (E9 m e)=E9 m e:=R4 hs rfl rfl;unfold kC;simp only[etas,u9 h hs,Qa,Qo,Ql,jk he.aR.sm,he.valid,Qh he.aJ,Qg he.bx,hput]
 cases hp:(yQ m.aI e).2.1 with
 |false=>exact .some (.inr ⟨rfl,rfl⟩)
 |true=>
  have:=Ba hR1 hR2 h hi hs.zero (fun e=>e) hr
  rw[hid]at this;refine Yd.bind this fun q hq=> ?_
  obtain⟨m2,rfl,ha⟩:=hq;exact .some (.inl ⟨⟨m2,rfl,by rw[hid];exact ha⟩,rfl⟩)
theorem aan(hr:R (oe m)):Yd (pj m) fun q=>(T9 R m (oe m) q/\m.aY≠3/\ei m≠gY/\m.af.ah<1000)\/(q=(PR,(62:Int),())/\(m.aY=3\/ei m=gY))\/(q=(PR,(3:Int),())/\1000<=m.af.ah):=by
 unfold pj;simp only[etas,u9 h hs,Qa,Qo,Ql,M9 h.ev,bc]
 by_cases h3:m.aY=3
 ·rw[Qg h3];exact .some (.inr (.inl ⟨rfl,.inl h3⟩))
 ·rw[Qh h3]
  by_cases hv:ei m=bE
  ·rw[Qg hv];exact .some (.inr (.inl ⟨rfl,.inr hv⟩))
  ·rw[Qh hv]
   by_cases hc:(1000:Int)<=m.af.ah
   ·rw[Qg hc];exact .some (.inr (.inr ⟨rfl,hc⟩))
   ·rw[Qh hc];have hi:=Rl h h3 hv (by omega)
    have hb0:0<=m.af.ah:=by
     rcases h.body with k|k|k|k
     ·rw[k.bl];decide
     ·have:=k.bl.1;omega
     ·have:=k.bl.1;omega
     ·have:=k.bl.1;omega
    have hadd:aq .i64 m.af.ah 1=m.af.ah+1:=bN (by omega) (by omega)
    have key:Yd ((gz m (gp (oe m))).bind fun r5=>some (r5,(0:Int),())) (T9 R m (oe m)):=
     Yd.bind (Ba hR1 hR2 h hi (fun hz=>by rw[HQ h]at hz;cases hz) (fun _=>HQ h) hr) fun q hq=>by
      obtain⟨m2,rfl,ha⟩:=hq;exact .some ⟨m2,rfl,ha⟩
    have he:gp (oe m)=⟨m.ao,m.aK,bP m.aO 1,m.ab,m.aY,⟨m.af.ah+1,ei m⟩,m.an,m.aH,m.aw,(if ei m=m.af.Value then m.bo else 0),m.bC,m.bQ,m.aI⟩:=by
     unfold gp;rw[Qr (HQ h)];rfl
    rw[he]at key;simp only[hadd,Ql]
    by_cases hev:ei m=m.af.Value
    ·simp only[Qg hev,Qo,Ql];rw[Qr hev]at key;exact key.mono fun q hq=> .inl ⟨hq,h3,hv,by omega⟩
    ·simp only[Qh hev,Qp,Qk];rw[Qs hev]at key;exact key.mono fun q hq=> .inl ⟨hq,h3,hv,by omega⟩
theorem aat{t:aa}(ht:cn t)(hr:R (Fe m t)):Yd (pn m t) (T9 R m (Fe m t)):=by
 have hi:=Tx h ht;have hid:gp (Fe m t)=Fe m t:=R4 hs rfl rfl;unfold pn;simp only[etas,u9 h hs,Qa,Qo,Ql,gl ht,decide_true];have:=Ba hR1 hR2 h hi hs.zero (fun e=>e) hr
 rw[hid]at this;refine Yd.bind this fun q hq=> ?_
 obtain⟨m2,rfl,ha⟩:=hq;exact .some ⟨m2,rfl,by rw[hid];exact ha⟩
end
def WL(aJ bx:Int)(t:aa):ae:=⟨aJ,bx,0,t,1,cq,cq,cq,cq,0,0,gY,[]⟩
theorem ahU{aJ bx:Int}{t:aa}(h0:0<=aJ)(h1:aJ<10)(h2:1<=bx)(h3:bx<=1000000)(ht:cn t):zV aJ bx t=some (WL aJ bx t,(0:Int),()):=by
 unfold zV;simp only[etas,Qh (show¬aJ<0 by omega),Qh (show¬(9:Int)<aJ by omega),Qh (show¬bx<1 by omega),Qh (show¬(1000000:Int)<bx by omega),Ql,Qa,gl ht,decide_true,Qo]
 rfl
theorem adl{aJ bx:Int}{t:aa}(h0:0<=aJ)(h1:aJ<10)(h2:1<=bx)(h3:bx<=1000000)(ht:cn t):bH (WL aJ bx t)/\kX (WL aJ bx t):=
 ⟨⟨h0,h1,⟨h2,h3⟩,⟨by show(0:Int)<=0;omega,by show(0:Int)<=1000000;omega⟩,ht,(by show gY.size<=200;decide),(fun e he=>absurd he QR),List.Pairwise.nil,.inl ⟨rfl,rfl,rfl,rfl,rfl,rfl,rfl⟩⟩,⟨fun _=>rfl,fun hz=>absurd (show aT cq=false from hz) (by rw[cp];decide)⟩⟩
theorem aaC{m:ae}(h:bH m)(hs:kX m):qu m=some (bif decide (m.aY=3)then m.af.Value else gY,decide (m.aY=3),()):=by
 unfold qu;simp only[etas,VP h hs,Qa];cases decide (m.aY=3)<;>rfl
end
section
structure Bm (n:Nat) (k:Int) (m:ae):Prop where
 n10:n<=10
 k1:1<=k
 kn:k<=n
 aR:m.ab=flat n k
 heard:∀e∈m.aI,e.ab=flat n k
theorem Bm.all{n:Nat}{k:Int}{m:ae}(hf:Bm n k m){e:aj}(he:e∈cr m):e.ab=flat n k:=by
 rcases Fu he with he|⟨_,rfl⟩
 ·exact hf.heard e he
 ·rw[EI];exact hf.aR
section
variable {n : Nat} {k : Int} {m : ae} (h : bH m) (hf : Bm n k m)
 include h
 include hf
end
section
variable {l : List aj} (hv : ∀ e ∈ l, bj e = true) (hsm : ∀ e ∈ l, cJ e.ab) (hlen : l.length <= 1000)
 include hv hsm hlen
end
section
variable {n : Nat} {k : Int} {m : ae} (h : bH m) (hf : Bm n k m)
 include h hf
end
section
variable {n : Nat} {k : Int} {m : ae} (h : bH m) (hf : Bm n k m)
 include h hf
end
theorem Bm.step{n:Nat}{k:Int}{m m':ae}(hf:Bm n k m)(he:jf m m'):Bm n k m':=⟨hf.n10,hf.k1,hf.kn,by rw[he.aR];exact hf.aR,by rw[he.heard];exact hf.heard⟩
structure acp (n:Nat) (k:Int) (m:ae):Prop where
 inv:bH m
 seq:kX m
 flat:Bm n k m
 nz:aT m.af=false
 bx:m.aK=1
theorem acp.env{n:Nat}{k:Int}{m:ae}(h:acp n k m):bj (df m)=true/\(df m).ab=Go.Proofs.YtgjpkadjihpddaaGreat.flat n k/\(df m).aK=1:=⟨H2 h.inv h.seq h.nz,by rw[oW];exact h.flat.aR,by rw[OU];exact h.bx⟩
end
section
end
section
section
variable {n : Nat} {k : Int} (hn : n <= 10) (hk1 : 1 <= k) (hkn : k <= n) {i : Int} (hi0 : 0 <= i) (hi9 : i < 10) {v : ByteArray} (hv : 1 <= v.size /\ v.size <= 200)
 include hn hk1 hkn hi0 hi9
 include hv
end
end
section
def yG(m m1:ae):Prop:=
 (∃v,(1<=v.size/\v.size<=200)/\m1=kW m v)\/(∃e,HI m e/\m1=E9 m e)\/(m.aY≠3/\ei m≠gY/\m.af.ah<1000/\m1=oe m)\/(∃t,cn t/\m1=Fe m t)
structure ahf (m m1:ae):Prop where
 inv:bH m1
 aJ:m1.ao=m.ao
 bx:m1.aK=m.aK
 seq:m1.aO=m.aO
 nz:aT m.af=false->aT m1.af=false
theorem abo{m m1:ae}(h:bH m)(hb:yG m m1):ahf m m1:=by
 rcases hb with⟨v,hv,rfl⟩|⟨e,he,rfl⟩|⟨h3,hv,hc,rfl⟩|⟨t,ht,rfl⟩
 ·exact⟨RT h hv,by unfold kW;split<;>rfl,by unfold kW;split<;>rfl,qE.2,qE.1⟩
 ·exact⟨S9 h he,rfl,rfl,rfl,fun e=>e⟩
 ·exact⟨Rl h h3 hv hc,rfl,rfl,rfl,fun _=>HQ h⟩
 ·exact⟨Tx h ht,rfl,rfl,rfl,fun e=>e⟩
structure OkM (m:ae):Prop where
 inv:bH m
 seq:kX m
 fix:N7 m
 aJ:m.ao=0
 bx:m.aK=1
theorem acQ{m:ae}(h:bH m)(hs:kX m){e:aj}(ht:cJ e.ab)(hbad:bj e=false\/e.ao=m.ao\/e.aK≠m.aK):kC m e=some (PR,(61:Int),()):=by
 unfold kC;simp only[etas,u9 h hs,Qa,Qo,Ql,jk ht]
 cases hv:bj e with
 |false=>rfl
 |true=>
  by_cases hn:e.ao=m.ao
  ·rw[Qg hn];rfl
  ·have hsl:e.aK≠m.aK:=(hbad.resolve_left (by rw[hv];decide)).resolve_left hn
   rw[Qh hn,Qh hsl];rfl
end
section
abbrev Lp{σ ρ:Type}(I:σ->Prop)(p:ρ->Prop):σ⊕ρ->Prop
 | .inl s=>I s
 | .inr r=>p r
theorem Yd.CW{σ ρ:Type}{step:σ->Option (σ⊕ρ)}{p:ρ->Prop}(inv:σ->Prop)(μ:σ->Nat)(h:∀s,inv s->Yd (step s) (Lp (fun s'=>inv s'/\μ s'<μ s) p)){s:σ}(hs:inv s):Yd (ax step s) p:=
 Yd.down inv μ (fun s hi=>(h s hi).mono fun y hy=>by cases y<;>exact hy) hs
theorem Yd.list{α σ τ ρ:Type}{p:ρ->Prop}{step:τ->Option (τ⊕ρ)}(l:List α)(hl:l.length<=1000000)(mk:Int->σ->τ)(inv:Nat->σ->Prop)
  (h1:∀(i:Nat) (x:α) (s:σ),inv i s->l.drop i=x::l.drop (i+1)->x∈l->i<l.length->decide ((i:Int)<(l.length:Int))=true->idx l (i:Int)=some x->aq .i64 (i:Int) 1=((i+1:Nat):Int)->Yd (step (mk (i:Int) s)) (Lp (fun t=>∃s',t=mk ((i+1:Nat):Int) s'/\inv (i+1) s') p))
  (h2:∀s,inv l.length s->decide ((l.length:Int)<(l.length:Int))=false->Yd (step (mk (l.length:Int) s)) (Lp (fun _=>False) p))
  {s:σ} (h0:inv 0 s):Yd (ax step (mk 0 s)) p:=by
 suffices key:∀(k i:Nat) (s:σ),i+k=l.length->inv i s->Yd (ax step (mk (i:Int) s)) p from key l.length 0 s (by omega) h0
 intro k
 induction k with
 |zero=>
  intro i s hi hs;obtain rfl:i=l.length:=by omega
  refine Yd.loop ((h2 s hs (Qh (Qq63 _))).mono fun y hy=> ?_)
  cases y with
  |inl t=>exact hy.elim
  |inr r=>exact hy
 |succ k ih=>
  intro i s hi hs;have hi':i<l.length:=by omega
  refine Yd.loop ((h1 i l[i] s hs (QM hi') (QZ hi') hi' (Qg (by omega)) (by rw[aP];exact Qv hi') (bN (by omega) (by omega))).mono fun y hy=> ?_)
  cases y with
  |inl t=>
   grind
  |inr r=>exact hy
def nf(x:ByteArray):Prop:=1<=x.size/\x.size<=200
instance (x:ByteArray):Decidable (nf x):=by unfold nf;infer_instance
def Zw:∀(x:ByteArray) (l:List ByteArray),Decidable (x∈l)
 |_,[]=>isFalse QR
 |x,y::l=>if h:x=y then isTrue (by rw[h];exact Qx)else match Zw x l with
  |isTrue h2=>isTrue (Qy _ h2)
  |isFalse h2=>isFalse fun e=>(QA.1 e).elim h h2
instance (x:ByteArray) (l:List ByteArray):Decidable (x∈l):=Zw x l
structure VL (l:List ByteArray):Prop where
 C7:∀x∈l,nf x
 asc:l.Pairwise (fun a b=>dS a b=true)
 len:l.length<=40
theorem VL.nil:VL []:=⟨fun x h=>absurd h QR,List.Pairwise.nil,by simp⟩
theorem VL.AO{l:List ByteArray}(h:VL l):l.length<=1000000:=QK h.len (by omega)
def CY(a b:ByteArray):Int:=if a=b then 0 else if dS a b=true then -1 else 1
theorem ED(a b:ByteArray):ic a b=some (CY a b):=by
 grind [ic,CY,dS,jV]
theorem Hu{a b:ByteArray}:decide (CY a b<0)=dS a b:=by
 unfold CY
 by_cases h:a=b
 ·subst h;rw[Qr rfl,uL.irrefl];rfl
 ·rw[Qs h];cases dS a b<;>rfl
theorem ZE{a b:ByteArray}:decide (0<CY a b)=dS b a:=by
 unfold CY
 by_cases h:a=b
 ·subst h;rw[Qr rfl,uL.irrefl];rfl
 ·rw[Qs h]
  cases h1:dS a b with
  |true=>rw[uL.asymm h1];rfl
  |false=>
   cases h2:dS b a with
   |true=>rfl
   |false=>exact absurd (uL.total _ _ h1 h2) h
theorem Xs{a b:ByteArray}:decide (0<=CY a b)= !dS a b:=by
 rw[<-Hu (a:=a) (b:=b)]
 grind
theorem RE(x:ByteArray):sF x=some (decide (nf x)):=by
 grind [sF,nf]
theorem RI(l:List ByteArray)(hl:l.length<=1000000)(x:ByteArray):lW l x=some (decide (x∈l)):=by
 unfold lW
 have h:Yd (ax (fun(v1:Int×Unit)=>
   bif (decide (v1.1<((List.length l:Nat):Int)))then
   Option.bind (idx l v1.1) fun x2=>
   bif (decide (x=x2))then
   Option.map Sum.inr (some true)
   else
   some (Sum.inl ((aq .i64 v1.1 (1:Int)),()))
   else
   Option.map Sum.inr (some false)) ((0:Int),())) (fun b=>b=decide (x∈l)):=by
  refine Yd.list l hl (fun i (_:Unit)=>(i,())) (fun i _=>x∉l.take i) ?_ ?_ (s:=()) (by simp)
  ·intro i y s hs hd hy hi hdec hx hadd;simp only;rw[hdec,Qk,hx,Qa,hadd]
   by_cases hxy:x=y
   ·rw[Qg hxy,Qk];exact .some (by subst hxy;exact(Qg hy).symm)
   ·rw[Qh hxy,Ql];refine .some ⟨(),rfl,?_⟩
    have hi2:l[i]?=some y:=by
     rw[aP]at hx;exact hx
    rw[List.take_add_one,hi2];simp only[Option.toList_some,Qz,Q4];exact fun h=>h.elim hs hxy
  ·intro s hs hdec;simp only;rw[hdec,Ql];rw[Q9]at hs;exact .some (Qh hs).symm
 obtain⟨b,h1,rfl⟩:=h;exact h1
theorem SZ{α:Type}[DecidableEq α]{lt:α->α->Bool}(x:α):∀(l:List α),x∉l->(eo lt x l).length=l.length+1
 |[],_=>rfl
 |y::l,h=>by
  have h1:y≠x:=fun e=>h (by rw[e];exact Qx)
  rw[eo]
  by_cases h2:lt y x=true
  ·rw[Qr h2,QE,SZ x l (fun e=>h (Qy _ e)),QE]
  ·rw[Qs h2,Qs h1];rfl
def Gy(l:List ByteArray)(x:ByteArray):List ByteArray:=if x∈l\/40<=l.length then l else eo dS x l
theorem Wp{l:List ByteArray}(h:VL l)(x:ByteArray):pS l x=some (Gy l x):=by
 have hl:=h.len;unfold pS Gy;rw[RI l h.AO,Qa]
 by_cases hx:x∈l
 ·grind
 rw[Qh hx];simp only[Ql,Qa]
 by_cases h40:40<=l.length
 ·grind
 rw[Qh (by omega:¬(40:Int)<=(l.length:Int)),Qs (fun e=>e.elim hx h40)]
 simp only[Ql,bc];have hk:∀n,n<=100->aX 16 n=true:=fun n hn=>ba ⟨by omega,by omega⟩
 have:=Yd.list (p:=fun r=>r=eo dS x l) (step:=fun(v3:Bool×Int×(List ByteArray)×Unit)=>
   bif (decide (v3.2.1<((List.length l:Nat):Int)))then
   Option.bind (idx l v3.2.1) fun x4=>
   Option.bind (bif (!v3.1)then
   Option.bind (ic x x4) fun r7=>
   some (decide (r7<(0:Int)))
   else some false) fun b8=>
   bif b8 then
   bif aX 16 (List.length v3.2.2.1+List.length [x])then
   bif aX 16 (List.length (v3.2.2.1++[x])+List.length [x4])then
   some (Sum.inl (true,(aq .i64 v3.2.1 (1:Int)),((v3.2.2.1++[x])++[x4]),()))
   else none
   else none
   else
   bif aX 16 (List.length v3.2.2.1+List.length [x4])then
   some (Sum.inl (v3.1,(aq .i64 v3.2.1 (1:Int)),(v3.2.2.1++[x4]),()))
   else none
   else
   Option.map Sum.inr (
   bif (!v3.1)then
   bif aX 16 (List.length v3.2.2.1+List.length [x])then
   some (v3.2.2.1++[x])
   else none
   else
   some v3.2.2.1)) l h.AO (fun i (s:Bool×List ByteArray)=>(s.1,i,s.2,()))
   (fun i s=>s.2.length<=2*i/\(s.1=false->s.2++eo dS x (l.drop i)=eo dS x l)/\(s.1=true->s.2++l.drop i=eo dS x l)) ?_ ?_ (s:=(false,[])) ⟨by simp,fun _=>by simp,fun e=>by cases e⟩
 ·obtain⟨r,h1,rfl⟩:=this;exact h1
 ·rintro i y ⟨d,out⟩ ⟨hs1,hs2,hs3⟩ hd hy hi hdec hx' hadd;simp only at hs1 hs2 hs3;simp only;rw[hdec,Qk,hx',Qa,hadd,ED,Qa,Hu];have hne:y≠x:=fun e=>hx (by rw[<-e];exact hy)
  have k1:aX 16 (out.length+[x].length)=true:=hk _ (by simp only[Q5];omega)
  have k2:aX 16 ((out++[x]).length+[y].length)=true:=hk _ (by simp only[QB,Q5];omega)
  have k3:aX 16 (out.length+[y].length)=true:=hk _ (by simp only[Q5];omega)
  rw[k1,k2,k3]
  cases d with
  |true=>
   simp only[Qo,Ql,Qa,Qk];refine .some ⟨(true,out++[y]),rfl,by simp only[QB,Q5];omega,fun e=>(by cases e),fun _=> ?_⟩
   rw[<-hs3 rfl,hd,QL];rfl
  |false=>
   have hs2:=hs2 rfl;rw[hd,eo]at hs2;simp only[Qp,Qk,Qa]
   cases hxy:dS x y with
   |true=>
    simp only[Qk];rw[Qs (by rw[uL.asymm hxy];simp),Qs hne]at hs2
    refine .some ⟨(true,(out++[x])++[y]),rfl,by simp only[QB,Q5];omega,fun e=>(by cases e),fun _=> ?_⟩
    grind
   |false=>
    simp only[Ql]
    have hyx:dS y x=true:=by
     cases hh:dS y x with
     |true=>rfl
     |false=>exact absurd (uL.total _ _ hh hxy) hne
    rw[Qr hyx]at hs2;refine .some ⟨(false,out++[y]),rfl,by simp only[QB,Q5];omega,fun _=> ?_,fun e=>by cases e⟩
    rw[<-hs2,QL];rfl
 ·rintro⟨d,out⟩ ⟨hs1,hs2,hs3⟩ hdec;simp only at hs1 hs2 hs3;simp only;have k1:aX 16 (out.length+[x].length)=true:=hk _ (by simp only[Q5];omega)
  rw[hdec,Ql,k1]
  cases d with
  |true=>
   have:=hs3 rfl;rw[Qq65,List.append_nil]at this;exact .some this
  |false=>
   have:=hs2 rfl;rw[Qq65]at this;exact .some this
theorem HZ{l:List ByteArray}(h:VL l){x:ByteArray}(hx:nf x):VL (Gy l x)/\(∀y∈l,y∈Gy l x)/\(∀y∈Gy l x,y=x\/y∈l)/\(x∉l->l.length<40->(Gy l x).length=l.length+1):=by
 unfold Gy
 by_cases h1:x∈l\/40<=l.length
 ·grind
 ·rw[Qs h1];have hm:=ET (lt:=dS) x l;have hlen:=uc (lt:=dS) x l;have h2:¬40<=l.length:=fun e=>h1 (.inr e)
  refine⟨⟨fun y hy=> ?_,uL.eo x h.asc,by omega⟩,fun y hy=>(hm y).2 (.inr hy),fun y hy=>(hm y).1 hy,fun h3 _=>SZ x l h3⟩
  rcases(hm y).1 hy with rfl|hy
  ·exact hx
  ·exact h.C7 y hy
theorem Gu{l:List ByteArray}(h:VL l):kS l=some true:=by
 unfold kS;refine Yd.eq_true (Yd.list l h.AO (fun i (_:Unit)=>(i,())) (fun _ _=>True) ?_ ?_ (s:=()) trivial)
 ·intro i y s hs hd hy hi hdec hx hadd;simp only;rw[hdec,Qk,hx,Qa,RE,Qa,Qg (h.C7 y hy),hadd];simp only[Qo,Ql]
  by_cases h0:i=0
  ·subst h0;rw[Qh (by omega:¬(0:Int)<((0:Nat):Int))]
   exact .some ⟨(),rfl,trivial⟩
  ·rw[Qg (by omega:(0:Int)<(i:Int))]
   simp only[Qk];have hsub:da .i64 (i:Int) 1=((i - 1:Nat):Int):=by rw[jA (by omega) (by have:=h.len;omega)];omega
   have hi1:i - 1<l.length:=by omega
   rw[hsub,aP,Qv hi1,Qa,ED,Qa,Xs]
   have hyi:y=l[i]:=by
    grind [aP]
   have hlt:dS l[i - 1] y=true:=by
    rw[hyi];exact List.pairwise_iff_getElem.1 h.asc (i - 1) i hi1 hi (by omega)
   rw[hlt];exact .some ⟨(),rfl,trivial⟩
 ·intro s hs hdec;simp only;rw[hdec,Ql,Qg (by have:=h.len;omega:(l.length:Int)<=(40:Int))]
  exact .some rfl
theorem Yp{s t:List ByteArray}(h:s.length<=1000000):∃b,uC s t=some b/\(b=true↔s=t):=by
 unfold uC
 by_cases hl:s.length=t.length
 ·rw[Qg (by omega:(s.length:Int)=(t.length:Int)),Qo,Ql]
  refine XI hl h (fun i hi hi' hd hx hy hw=> ?_) (fun hd=> ?_)
  ·simp only;rw[hd,Qk,hx,hy,Qa,Qa,hw]
   by_cases he:s[i]=t[i]
   ·rw[Qg he];exact⟨true,rfl,by simp[he]⟩
   ·rw[Qh he];exact⟨false,rfl,by simp[he]⟩
  ·simp only;rw[hd,Ql];rfl
 ·rw[Qh (by omega:¬(s.length:Int)=(t.length:Int))]
  exact⟨false,rfl,Sj hl⟩
theorem Lg{a b:List ByteArray}{n:Nat}(hn:a.length+b.length<=n)(h:n<=100000):Yd (mK a b) fun r=>r.length<=n/\∀x∈r,x∈a\/x∈b:=by
 unfold mK;simp only[bc];refine Yd.CW (fun(v:Int×Int×List ByteArray×Unit)=>∃i k:Nat,v.1=i/\v.2.1=k/\i<=a.length/\k<=b.length/\v.2.2.1.length<=i+k/\∀x∈v.2.2.1,x∈a\/x∈b) (fun v=>a.length+b.length - (v.1.toNat+v.2.1.toNat)) ?_ ⟨0,0,rfl,rfl,by omega,by omega,by simp,fun x hx=>absurd hx QR⟩
 rintro⟨i',k',out,u⟩ ⟨i,k,e1,e2,hi,hk,hlen,hmem⟩;simp only at e1 e2 hlen hmem;subst e1 e2;have kk:∀x:ByteArray,aX 16 (out.length+[x].length)=true:=fun x=>ba ⟨by simp only[Q5];omega,by simp only[Q5];omega⟩
 have hi1:aq .i64 (i:Int) 1=((i+1:Nat):Int):=bN (by omega) (by omega)
 have hk1:aq .i64 (k:Int) 1=((k+1:Nat):Int):=bN (by omega) (by omega)
 have ga:i<a.length->∃x∈a,idx a (i:Int)=some x:=fun h=>⟨a[i],QZ h,by rw[aP];exact Qv h⟩
 have gb:k<b.length->∃x∈b,idx b (k:Int)=some x:=fun h=>⟨b[k],QZ h,by rw[aP];exact Qv h⟩
 have fin1:∀(x:ByteArray) (j1 j2:Nat),(x∈a\/x∈b)->j1<=a.length->j2<=b.length->i+k<j1+j2->Yd (bif aX 16 (out.length+[x].length)then some (Sum.inl (((j1:Nat):Int),((j2:Nat):Int),(out++[x]),()))else(none:Option ((Int×Int×List ByteArray×Unit)⊕List ByteArray)))
   (Lp (fun s'=>(∃i k:Nat,s'.1=i/\s'.2.1=k/\i<=a.length/\k<=b.length/\s'.2.2.1.length<=i+k/\∀x∈s'.2.2.1,x∈a\/x∈b)/\a.length+b.length - (s'.1.toNat+s'.2.1.toNat)<a.length+b.length - ((i:Int).toNat+(k:Int).toNat)) (fun r=>r.length<=n/\∀x∈r,x∈a\/x∈b)):=by
  intro x j1 j2 hx h1 h2 h3;rw[kk x,Qk];refine .some ⟨⟨j1,j2,rfl,rfl,h1,h2,?_,?_⟩,?_⟩
  ·simp only[QB,Q5];omega
  ·intro y hy;rcases Qz.1 hy with hy|hy
   ·exact hmem y hy
   ·rw[Q4.1 hy];exact hx
  ·simp only[QV];omega
 simp only
 by_cases c1:i<a.length
 ·obtain⟨x,hx,ex⟩:=ga c1;rw[Qg (by omega:(i:Int)<(a.length:Int))]
  simp only[Qk,Qa]
  grind [ED,Hu,ZE,dS]
 ·rw[Qh (by omega:¬(i:Int)<(a.length:Int))]
  simp only[Ql]
  by_cases c2:k<b.length
  ·grind
  ·rw[Qh (by omega:¬(k:Int)<(b.length:Int))]
   simp only[Ql,Qa];exact .some ⟨by omega,hmem⟩
theorem Wu{l:List ByteArray}(h:l.length<=1000000):Yd (qi l) fun r=>r.2.1=true->nf r.1:=by
 unfold qi;simp only[bc];refine Yd.list l h (fun i (s:ByteArray×Bool)=>(s.1,s.2,i,())) (fun _ s=>s.2=true->nf s.1) ?_ ?_ (s:=(_,false)) (fun e=>by cases e)
 ·rintro i y ⟨Fm,found⟩ hs hd hy hi hdec hx hadd;simp only at hs;simp only;rw[hdec,Qk,hx,Qa,RE,Qa,hadd]
  by_cases hv:nf y
  ·rw[Qg hv];simp only[Qk]
   cases found with
   |false=>
    simp only[Qp,Qk,Qa];exact .some ⟨(y,true),rfl,fun _=>hv⟩
   |true=>
    simp only[Qo,Ql,Qa,ED]
    cases decide (0<CY y Fm)with
    |true=>exact .some ⟨(y,true),rfl,fun _=>hv⟩
    |false=>exact .some ⟨(Fm,true),rfl,hs⟩
  ·rw[Qh hv];simp only[Ql,Qa];exact .some ⟨(Fm,found),rfl,hs⟩
 ·rintro⟨Fm,found⟩ hs hdec;simp only;rw[hdec,Ql];exact .some hs
end
section
theorem abH{rec:(aa×Int×Unit)->Option (mo×Bool×Unit)}{t:aa}{x:Int}(hm:cJ t)(hr:∀u∈t.aG,Yd (rec (u,x,())) fun _=>True):Yd (ri rec t x) fun _=>True:=by
 unfold ri;simp only[etas];refine Yd.list t.au hm.nodes (fun i (s:mo)=>(i,s,())) (fun _ _=>True) ?_ ?_ trivial
 ·intro i y s hs hd hy hi hdec hx hadd;simp only;rw[hdec,Qk,hx,Qa,hadd]
  cases decide (y=x)with
  |true=>exact .some trivial
  |false=>exact .some ⟨s,rfl,trivial⟩
 ·intro s hs hdec;simp only;rw[hdec,Ql];refine Yd.map (Yd.list t.aG hm.len (fun i (s:mo)=>(i,s,())) (fun _ _=>True) ?_ ?_ trivial)
  ·intro i y s hs hd hy hi hdec hx hadd;simp only;rw[hdec,Qk,hx,Qa,hadd];refine Yd.bind (hr y hy) fun q _=> ?_
   cases q.2.1 with
   |true=>exact .some trivial
   |false=>exact .some ⟨s,rfl,trivial⟩
  ·intro s hs hdec;simp only;rw[hdec,Ql];exact .some trivial
theorem abA{x:Int}{n:Nat}:∀{t:aa},SizeOf.sizeOf t<n->cJ t->Yd (zq n (t,x,())) fun _=>True:=by
 induction n with
 |zero=>intro t h;omega
 |succ n ih=>
  intro t hz hm;show Yd (ri (zq n) t x) fun _=>True
  exact abH hm fun u hu=>ih (t:=u) (by have:=iA hu;omega) (hm.inner u hu)
theorem acL{t:aa}(hm:cJ t)(x:Int):Yd (zw t x) fun _=>True:=abA (by omega) hm
structure M5 (t:aa) (v bx round:Int):Prop where
 aR:cn t
 v0:0<=v
 v1:v<10
 s0:0<=bx
 s1:bx<=1000000
 r1:1<=round
 r2:round<=1000
theorem Ws(a b c d:Int):∃r,uD a b c d=some r:=⟨_,rfl⟩
section
variable {t : aa} {v bx round : Int}
theorem Yr(h:M5 t v bx round):sI t v bx round=some 0:=by
 have e1:=h.v0;have e2:=h.v1;have e3:=h.s0;have e4:=h.s1;have e5:=h.r1;have e6:=h.r2;unfold sI;simp only[etas,gl h.aR,Qa];rw[Qh (by omega:¬v<0),Qh (by omega:¬(10:Int)<=v),Qh (by omega:¬bx<0),Qh (by omega:¬(1000000:Int)<bx),Qh (by omega:¬round<1),Qh (by omega:¬(1000:Int)<round)]
 rfl
theorem aeV(h:M5 t v bx round)(k:Int):Yd (qj t v bx round k) fun _=>True:=by
 unfold qj;simp only[etas,Yr h,Qa,bc];have h1:∀b:Bool,Yd (bif b then(some true:Option Bool)else some (decide (k<0))) fun _=>True:=fun b=>by cases b<;>exact .some trivial
 refine Yd.bind (h1 _) fun b1 _=> ?_
 have h2:∀b:Bool,Yd (bif b then(some true:Option Bool)else some (decide ((10:Int)<=k))) fun _=>True:=fun b=>by cases b<;>exact .some trivial
 refine Yd.bind (h2 _) fun b2 _=> ?_
 cases b2 with
 |true=>exact .some trivial
 |false=>
  simp only[Ql];refine Yd.bind (acL h.aR.sm k) fun q _=> ?_
  obtain⟨hsh,eh⟩:=Ws 1 bx round k;rw[eh];simp only[Qa]
  cases decide (k=v)with
  |true=>exact .some trivial
  |false=>
   cases q.2.1<;>exact .some trivial
theorem U5(h:M5 t v bx round):Yd (qX t v bx round) fun q=>0<=q.1/\q.1<10/\q.2.1=0:=by
 unfold qX;simp only[etas,Yr h,Qa,bc];simp only[decide_true,Qo,Ql];refine Yd.CW (fun(s:Int×Int×Unit)=>0<=s.1/\s.1<10/\0<=s.2.1/\s.2.1<=10) (fun s=>(10 - s.2.1).toNat) ?_ ⟨h.v0,h.v1,Int.le_refl _,by show(0:Int)<=10;omega⟩
 rintro⟨b,k,u⟩ ⟨h1,h2,h3,h4⟩;simp only at h1 h2 h3 h4;simp only
 by_cases hk:k<10
 ·rw[Qg hk];have hadd:aq .i64 k 1=k+1:=bN (by omega) (by omega)
  simp only[Qk];rw[hadd]
  have fin:∀x:Int,0<=x->x<10->Yd (some (Sum.inl (x,k+1,())):Option ((Int×Int×Unit)⊕(Int×Int×Unit))) (Lp (fun s'=>(0<=s'.1/\s'.1<10/\0<=s'.2.1/\s'.2.1<=10)/\(10 - s'.2.1).toNat<(10 - k).toNat) (fun r=>0<=r.1/\r.1<10/\r.2.1=0)):=
   fun x g1 g2=> .some ⟨⟨g1,g2,by show 0<=k+1;omega,by show k+1<=10;omega⟩,by show(10 - (k+1)).toNat<(10 - k).toNat;omega⟩
  refine Yd.bind (aeV h k) fun r _=> ?_
  cases r with
  |false=>exact fin b h1 h2
  |true=>
   obtain⟨hsh,eh⟩:=Ws 2 bx round k;obtain⟨hsb,eb⟩:=Ws 2 bx round b;rw[eh,eb];simp only[Qo,Ql,Qa];refine Yd.bind (p:=fun _=>True) ?_ fun b9 _=> ?_
   ·refine Yd.cond (fun _=> .some trivial) fun _=> ?_
    exact Yd.bind (p:=fun _=>True) (Yd.cond (fun _=> .some trivial) fun _=> .some trivial) fun _ _=> .some trivial
   ·cases b9 with
    |true=>exact fin k h3 hk
    |false=>exact fin b h1 h2
 ·rw[Qh hk];exact .some ⟨h1,h2,rfl⟩
theorem aaq(h:M5 t v bx round):Yd (tG t v bx round) fun q=>∃s:Nat,q.1=s/\s<1024:=by
 have e5:=h.r1;have e6:=h.r2;unfold tG;simp only[etas,bc];refine Yd.bind (U5 h) fun q ⟨_,_,hq⟩=> ?_
 rw[hq];simp only[decide_true,Qo,Ql];refine Yd.CW (fun(s:Int×Int×Unit)=>(∃n:Nat,s.1=n/\n<1024)/\1<=s.2.1/\s.2.1<=round+1) (fun s=>(round+1 - s.2.1).toNat) ?_ ⟨⟨0,rfl,by omega⟩,Int.le_refl _,by show(1:Int)<=round+1;omega⟩
 rintro⟨b,k,u⟩ ⟨⟨n,h1,h2⟩,h3,h4⟩;simp only at h1 h3 h4;subst h1;simp only
 by_cases hk:k<=round
 ·rw[Qg hk];have hadd:aq .i64 k 1=k+1:=bN (by omega) (by omega)
  simp only[Qk];rw[hadd];refine Yd.bind (U5 ⟨h.aR,h.v0,h.v1,h.s0,h.s1,h3,by omega⟩) fun q ⟨g1,g2,_⟩=> ?_
  rw[jQ,Qa]
  have fin:∀x:Nat,x<1024->Yd (some (Sum.inl ((x:Int),k+1,())):Option ((Int×Int×Unit)⊕(Int×Int×Unit))) (Lp (fun s'=>((∃n:Nat,s'.1=n/\n<1024)/\1<=s'.2.1/\s'.2.1<=round+1)/\(round+1 - s'.2.1).toNat<(round+1 - k).toNat) (fun r=>∃s:Nat,r.1=s/\s<1024)):=
   fun x g=> .some ⟨⟨⟨x,rfl,g⟩,by show 1<=k+1;omega,by show k+1<=round+1;omega⟩,by show(round+1 - (k+1)).toNat<(round+1 - k).toNat;omega⟩
  cases yY n q.1 with
  |true=>exact fin n h2
  |false=>
   simp only[Qp,Qk];rw[Qs (by omega),qF h2 g1 g2]
   exact fin _ (EM h2 g2)
 ·rw[Qh hk];exact .some ⟨n,rfl,h2⟩
end
end
section
structure Dx (m:aN):Prop where
 n0:0<=m.ao
 n1:m.ao<10
 seq:1<=m.aO
 aR:cn m.ab
 gV:VL m.dw
 jX:VL m.bB
structure ik (n:aB):Prop where
 ask:M5 n.ab n.ao n.aK n.Round
 own:n.Ax.size<=200
 gV:VL n.dw
 jX:VL n.bB
 tn:VL n.du
 sub:∀x∈n.du,x∈n.bB
 heard:∀m∈n.aI,Dx m/\m.ao≠n.ao
 gX:n.aI.Pairwise (fun a b=>a.ao<b.ao)
theorem YY:∀(l:List aN) (k:Nat),k<=10->(∀e∈l,(k:Int)<=e.ao/\e.ao<10)->l.Pairwise (fun a b=>a.ao<b.ao)->l.length+k<=10
 |[],k,hk,_,_=>by simp;omega
 |e::l,k,hk,h,hp=>by
  rw[Q3]at hp;have h1:=h e Qx;have h2:=YY l (k+1) (by omega) (fun x hx=>⟨by have:=hp.1 x hx;omega,(h x (Qy _ hx)).2⟩) hp.2
  rw[QE];omega
theorem ik.len{n:aB}(h:ik n):n.aI.length<=10:=by
 have:=YY n.aI 0 (by omega) (fun e he=>⟨by have:=(h.heard e he).1.n0;omega,(h.heard e he).1.n1⟩) h.gX
 omega
theorem aeN{n:aB}(h:ik n):∀m∈n.aI++[(⟨n.ao,n.aO,n.ab,n.dw,n.bB⟩:aN)],0<=m.ao/\m.ao<10/\VL m.dw/\VL m.bB:=by
 intro m hm;rcases Qz.1 hm with hm|hm
 ·have:=(h.heard m hm).1;exact⟨this.n0,this.n1,this.gV,this.jX⟩
 ·rw[Q4.1 hm];exact⟨h.ask.v0,h.ask.v1,h.gV,h.jX⟩
theorem Vw{α:Type}{l:List α}{i:Nat}{x:α}(h:idx l (i:Int)=some x):l[Int.toNat (i:Int)]?=some x:=by
 rw[aP]at h;exact h
theorem Yo{n:aB}(h:ik n)(x:ByteArray):Yd (sG n x) fun q=>∃a b:Nat,q.1=a/\q.2.1=b/\a<1024/\b<1024:=by
 have hlen:=h.len;have hall:=aeN h;unfold sG vZ;simp only[etas,Qa,bc];rw[ba (by simp;omega),Qk,ba (by simp;omega),Qk]
 simp only[List.nil_append];have hl2:(n.aI++[(⟨n.ao,n.aO,n.ab,n.dw,n.bB⟩:aN)]).length<=1000000:=by simp;omega
 refine Yd.list (n.aI++[(⟨n.ao,n.aO,n.ab,n.dw,n.bB⟩:aN)]) hl2 (fun i (s:Int×Int)=>(s.1,s.2,i,())) (fun _ s=>∃a b:Nat,s.1=a/\s.2=b/\a<1024/\b<1024) ?_ ?_ (s:=(0,0)) ⟨0,0,rfl,rfl,by omega,by omega⟩
 ·rintro i y ⟨s1,s2⟩ ⟨a,b,e1,e2,ha,hb⟩ hd hy hi hdec hx hadd;simp only at e1 e2;subst e1 e2;obtain⟨g0,g1,gv,ga⟩:=hall y hy;simp only;rw[hdec,Qk,hx,Qa,Vw hx,Qa,hadd,RI _ gv.AO,Qa]
  have fin:∀c:Nat,c<1024->Yd (Option.bind (lW y.bB x) fun r9=>
    bif r9 then
     if y.ao<0 then none else
     some (Sum.inl ((c:Int),(ka .i64 (b:Int) (cg .i64 (1:Int) y.ao)),((i+1:Nat):Int),()))
    else
     some (Sum.inl ((c:Int),(b:Int),((i+1:Nat):Int),())):Option ((Int×Int×Int×Unit)⊕(Int×Int×Unit))) (Lp (fun t=>∃s':Int×Int,t=(s'.1,s'.2,((i+1:Nat):Int),())/\(∃a b:Nat,s'.1=a/\s'.2=b/\a<1024/\b<1024)) (fun r=>∃a b:Nat,r.1=a/\r.2.1=b/\a<1024/\b<1024)):=by
   intro c hc;rw[RI _ ga.AO,Qa]
   cases decide (x∈y.bB)with
   |false=>exact .some ⟨((c:Int),(b:Int)),rfl,c,b,rfl,rfl,hc,hb⟩
   |true=>
    rw[Qk,Qs (by omega),qF hb g0 g1]
    exact .some ⟨((c:Int),_),rfl,c,_,rfl,rfl,hc,EM hb g1⟩
  cases decide (x∈y.dw)with
  |false=>exact fin a ha
  |true=>
   rw[Qk,Qs (by omega),qF ha g0 g1]
   exact fin _ (EM ha g1)
 ·rintro⟨s1,s2⟩ ⟨a,b,e1,e2,ha,hb⟩ hdec;simp only at e1 e2;simp only;rw[hdec,Ql];exact .some ⟨a,b,e1,e2,ha,hb⟩
theorem TL:Yd (sJ []) fun _=>True:=by
 unfold sJ;refine Yd.list ([]:List pa) (by simp) (fun i (_:Unit)=>(i,())) (fun _ _=>True) (fun i x s _ _ hx=>absurd hx QR) (fun s _ hdec=> ?_) (s:=()) trivial
 simp only;rw[hdec,Ql];exact .some trivial
def XP(m:iE):Prop:=0<=m.ao/\m.ao<10/\cJ m.ab/\m.dw=[]/\m.bB=[]
theorem ac2{m:iE}(h:XP m):Yd (wD m) fun _=>True:=by
 obtain⟨h0,h1,ht,hv,ha⟩:=h;unfold wD;simp only[etas];refine Yd.bind (p:=fun _=>True) (Yd.cond (fun _=> .some trivial) fun _=> .some trivial) fun b1 _=> ?_
 refine Yd.bind (p:=fun _=>True) (Yd.cond (fun _=> .some trivial) fun _=> .some trivial) fun b2 _=> ?_
 refine Yd.bind (p:=fun _=>True) (Yd.cond (fun _=>by rw[jH ht];exact .some trivial) fun _=> .some trivial) fun b4 _=> ?_
 rw[hv,ha];refine Yd.bind (p:=fun _=>True) (Yd.cond (fun _=>Yd.bind TL fun _ _=> .some trivial) fun _=> .some trivial) fun b6 _=> ?_
 exact Yd.bind (p:=fun _=>True) (Yd.cond (fun _=>Yd.bind TL fun _ _=> .some trivial) fun _=> .some trivial) fun b8 _=> .some trivial
def YX:aa:=⟨0,[],[]⟩
theorem LG:cJ YX:= .mk _ (by simp[YX]) (by simp[YX]) (fun u hu=>by cases hu)
structure ye (l:List aA):Prop where
 len:l.length=10
 sm:∀m∈l,cJ m.ab
theorem ye.set{l:List aA}(h:ye l)(k:Nat){m:aA}(hm:cJ m.ab):ye (l.set k m):=
 ⟨by rw[QX];exact h.len,fun x hx=>(List.mem_or_eq_of_mem_set hx).elim (h.sm x) fun e=>by rw[e];exact hm⟩
theorem ye.get{l:List aA}(h:ye l){v:Int}(h0:0<=v)(h1:v<10):∃x,idx l v=some x/\l[v.toNat]?=some x:=by
 have hl:=h.len;have hv:v.toNat<l.length:=by omega
 exact⟨l[v.toNat],by rw[Mw _ h0];exact Qv hv,Qv hv⟩
theorem ye.sc{l:List aA}(h:ye l):qS ⟨l⟩:=⟨by show l.length<=1000000;rw[h.len];omega,h.sm⟩
theorem aeC{v:Int}{t:aa}(hv0:0<=v)(hv1:v<10)(ht:cJ t){l:List iE}(hl:l.length<=1000000)(hm:∀m∈l,XP m):Yd (yx v t l) qS:=by
 unfold yx
 have h1:(decide ((10:Int)<=(10:Int))&&decide (0<=(10:Int))&&aX 64 (Int.toNat (10:Int)))=true:=by
  rw[ba (by decide)];rfl
 rw[h1,Qk];simp only[etas,bc]
 have h0:ye (List.replicate (Int.toNat (10:Int)) (aA.mk false (aa.mk (0:Int) ([]:List Int) ([]:List aa)))):=
  ⟨by rw[List.length_replicate];rfl,fun m hm=>by rw[(List.mem_replicate.1 hm).2];exact LG⟩
 refine Yd.list l hl (fun i (s:List aA)=>(i,av.mk [],s,())) (fun _ s=>ye s) ?_ ?_ h0
 ·intro i y s hs hd hy hi hdec hx hadd;have hmy:=hm y hy;simp only;rw[hdec,Qk,hx,Qa,hadd];simp only[iE.eta];refine Yd.bind (ac2 hmy) fun r _=> ?_
  cases r with
  |false=>exact .some ⟨s,rfl,hs⟩
  |true=>
   obtain⟨x,g1,g2⟩:=hs.get hmy.1 hmy.2.1;rw[Qk,g1,Qa,g2,Qa];exact .some ⟨_,rfl,hs.set _ hmy.2.2.1⟩
 ·intro s hs hdec;simp only;rw[hdec,Ql,Qg hv0,Qg hv1];simp only[Qk,Qa];obtain⟨x,g1,g2⟩:=hs.get hv0 hv1;have hs2:=hs.set v.toNat (m:=⟨false,⟨0,[],[]⟩⟩) LG;obtain⟨x2,k1,k2⟩:=hs2.get hv0 hv1;rw[g1,g2,jH ht];simp only[Qa]
  cases decide (C8 t=0)with
  |false=>exact .some hs2.sc
  |true=>
   simp only[Qk];rw[k1,k2];exact .some (hs2.set _ ht).sc
theorem U3{n:aB}(h:ik n):Yd (uB n) qS:=by
 have hlen:=h.len;unfold uB;simp only[etas];refine Yd.list n.aI (by omega) (fun i (s:List iE)=>(i,s,())) (fun i s=>s.length<=i/\∀m∈s,XP m) ?_ ?_ (s:=[]) ⟨by simp,fun m hm=>absurd hm QR⟩
 ·intro i y s ⟨hs1,hs2⟩ hd hy hi hdec hx hadd;have hmy:=(h.heard y hy).1;simp only;rw[hdec,Qk,hx,Qa,hadd,ba ⟨by simp only[Q5];omega,by simp only[Q5];omega⟩,Qk]
  refine .some ⟨_,rfl,by simp only[QB,Q5];omega,fun m hm=> ?_⟩
  rcases Qz.1 hm with hm|hm
  ·exact hs2 m hm
  ·rw[Q4.1 hm];exact⟨hmy.n0,hmy.n1,hmy.aR.sm,rfl,rfl⟩
 ·intro s ⟨hs1,hs2⟩ hdec;simp only;rw[hdec,Ql];exact Yd.map (Yd.bind (aeC h.ask.v0 h.ask.v1 h.ask.aR.sm (by omega) hs2) fun c hc=> .some hc)
theorem R6{n:aB}(h:ik n):n.ao=((n.ao.toNat:Nat):Int)/\n.ao.toNat<10:=by
 have h0:=h.ask.v0;have h1:=h.ask.v1;omega
theorem ahV{n:aB}(h:ik n)(x:ByteArray):Yd (zX n x) fun b=>b=true->x∉n.bB/\n.bB.length<40:=by
 obtain⟨hn,hn10⟩:=R6 h;unfold zX;simp only[etas,bc];refine Yd.bind (Yo h x) fun q ⟨a,b,e1,e2,ha,hb⟩=> ?_
 rw[e1,e2,RI _ h.jX.AO,Qa]
 by_cases hx:x∈n.bB
 ·rw[Qg hx];exact .some fun e=>by cases e
 ·rw[Qh hx];simp only[Qp,Qk]
  by_cases hl:n.bB.length<40
  ·rw[Qg (by omega:(n.bB.length:Int)<40),Qk]
   refine Yd.bind (U3 h) fun c hc=> ?_
   rw[hn,yM hc hn10 ha hb];exact .some fun _=>⟨hx,hl⟩
  ·rw[Qh (by omega:¬(n.bB.length:Int)<40)]
   exact .some fun e=>by cases e
theorem aeW{n:aB}(h:ik n):Yd (wC n) fun r=>r.length<=1000/\∀x∈r,nf x:=by
 have hlen:=h.len;have l1:=h.gV.len;have l2:=h.jX.len;unfold wC;refine Yd.bind (Lg (n:=80) (by omega) (by omega)) fun r1 ⟨k1,k2⟩=> ?_
 refine Yd.list n.aI (by omega) (fun i (s:List ByteArray)=>(s,i,())) (fun i s=>s.length<=80+80*i/\∀x∈s,nf x) ?_ ?_ ⟨by omega,fun x hx=>(k2 x hx).elim (h.gV.C7 x) (h.jX.C7 x)⟩
 ·intro i y s ⟨hs1,hs2⟩ hd hy hi hdec hx hadd;have hmy:=(h.heard y hy).1;have l3:=hmy.gV.len;have l4:=hmy.jX.len;simp only;rw[hdec,Qk,hx,Qa,hadd];refine Yd.bind (Lg (n:=80) (by omega) (by omega)) fun r4 ⟨g1,g2⟩=> ?_
  refine Yd.bind (Lg (n:=80+80*(i+1)) (by omega) (by omega)) fun r5 ⟨g3,g4⟩=> ?_
  exact .some ⟨r5,rfl,g3,fun x hx=>(g4 x hx).elim (hs2 x) fun hx=>(g2 x hx).elim (hmy.gV.C7 x) (hmy.jX.C7 x)⟩
 ·intro s ⟨hs1,hs2⟩ hdec;simp only;rw[hdec,Ql];exact .some ⟨by omega,hs2⟩
theorem ik.V9{n:aB}(h:ik n){v:List ByteArray}(hv:VL v):ik {n with dw:=v}:=⟨h.ask,h.own,hv,h.jX,h.tn,h.sub,h.heard,h.gX⟩
theorem ik.ahQ{n:aB}(h:ik n){a:List ByteArray}(ha:VL a)(hs:∀y∈n.bB,y∈a):ik {n with bB:=a}:=⟨h.ask,h.own,h.gV,ha,h.tn,fun x hx=>hs x (h.sub x hx),h.heard,h.gX⟩
theorem ik.ahP{n:aB}(h:ik n){c:List ByteArray}(hc:VL c)(hs:∀y∈c,y∈n.bB):ik {n with du:=c}:=⟨h.ask,h.own,h.gV,h.jX,hc,hs,h.heard,h.gX⟩
structure wq (n r:aB):Prop where
 ok:ik r
 aJ:r.ao=n.ao
 bx:r.aK=n.aK
 round:r.Round=n.Round
 seq:r.aO=n.aO
 aR:r.ab=n.ab
 own:r.Ax=n.Ax
 heard:r.aI=n.aI
theorem wq.refl{n:aB}(h:ik n):wq n n:=⟨h,rfl,rfl,rfl,rfl,rfl,rfl,rfl⟩
theorem wq.V9{n r:aB}(h:wq n r){v:List ByteArray}(hv:VL v):wq n {r with dw:=v}:=⟨h.ok.V9 hv,h.aJ,h.bx,h.round,h.seq,h.aR,h.own,h.heard⟩
theorem acU{n:aB}(h:ik n):Yd (vk n) (wq n):=by
 unfold vk;simp only[etas,bc];refine Yd.bind (aaq h.ask) fun q ⟨s,e1,hs⟩=> ?_
 rw[e1,Gv hs,Qa];have hl:=Bb s;refine Yd.list (mQ s) (by omega) (fun i (r:aB)=>(i,r,())) (fun _ r=>wq n r) ?_ ?_ (.refl h)
 ·intro i y r hr hd hy hi hdec hx hadd;simp only;rw[hdec,Qk,hx,Qa,hadd];have hlen:=hr.ok.len
  by_cases hyn:y=r.ao
  ·rw[Qg hyn,Qk]
   by_cases hown:r.Ax=bE
   ·rw[Qg hown];exact .some ⟨r,rfl,hr⟩
   ·rw[Qh hown];simp only[Qp,Qk]
    have hv:nf r.Ax:=by
     refine⟨?_,hr.ok.own⟩;rcases Nat.eq_zero_or_pos r.Ax.size with h0|h0
     ·exact absurd (ByteArray.ext (Array.eq_empty_of_size_eq_zero h0)) hown
     ·exact h0
    rw[Wp hr.ok.gV,Qa];exact .some ⟨_,rfl,hr.V9 (HZ hr.ok.gV hv).1⟩
  ·rw[Qh hyn,Ql];refine Yd.list r.aI (by omega) (fun i (r:aB)=>(i,r,())) (fun _ r=>wq n r) ?_ ?_ hr
   ·intro j m r2 hr2 hd2 hm hj hdec2 hx2 hadd2;simp only;rw[hdec2,Qk,hx2,Qa,hadd2];have hmy:=(hr.ok.heard m hm).1;have l3:=hmy.gV.len;have l4:=hmy.jX.len
    cases decide (m.ao=y)with
    |false=>exact .some ⟨r2,rfl,hr2⟩
    |true=>
     simp only[Qo,Ql];refine Yd.bind (Lg (n:=80) (by omega) (by omega)) fun u ⟨g1,g2⟩=> ?_
     refine Yd.list u (by omega) (fun i (r:aB)=>(i,r,())) (fun _ r=>wq n r) ?_ ?_ hr2
     ·intro k x r3 hr3 hd3 hxu hk hdec3 hx3 hadd3;simp only;rw[hdec3,Qk,hx3,Qa,hadd3,Wp hr3.ok.gV,Qa];have hv:nf x:=(g2 x hxu).elim (hmy.gV.C7 x) (hmy.jX.C7 x);exact .some ⟨_,rfl,hr3.V9 (HZ hr3.ok.gV hv).1⟩
     ·intro r3 hr3 hdec3;simp only;rw[hdec3,Ql];exact .some ⟨r3,rfl,hr3⟩
   ·intro r2 hr2 hdec2;simp only;rw[hdec2,Ql];exact .some ⟨r2,rfl,hr2⟩
 ·intro r hr hdec;simp only;rw[hdec,Ql];exact .some hr
structure XN (b n r:aB):Prop where
 ok:ik r
 aJ:r.ao=n.ao
 bx:r.aK=n.aK
 round:r.Round=n.Round
 aR:r.ab=n.ab
 seq:r.aO=n.aO\/r.aO=b.aO+1
theorem EA{b n:aB}(hb:cJ b.ab/\b.dw.length<=1000000/\b.bB.length<=1000000)(hs:0<=b.aO/\b.aO<=1000000)(h:ik n):Yd (jq b n) (XN b n):=by
 unfold jq;simp only[etas];refine Yd.join (fun v=>wq n v.1) (fun v hv=> ?_) (fun j' hj=> ?_)
 ·refine Yd.CW (fun(s:Bool×aB×Unit)=>wq n s.2.1) (fun s=>(if s.1=true then 1 else 0)+2*(40 - s.2.1.bB.length)) ?_ hv
  rintro⟨again,r,u⟩ hr;simp only at hr;simp only
  cases again with
  |true=>
   rw[Qk];refine Yd.bind (aeW hr.ok) fun l ⟨hl,hvals⟩=> ?_
   refine Yd.list l (by omega) (fun i (s:aB)=>(false,i,s,())) (fun _ s=>s=r) ?_ ?_ rfl
   ·rintro i x s rfl hd hx' hi hdec hx hadd;simp only;rw[hdec,Qk,hx,Qa,hadd];refine Yd.bind (ahV hr.ok x) fun c hc=> ?_
    cases c with
    |false=>exact .some ⟨s,rfl,rfl⟩
    |true=>
     obtain⟨hc1,hc2⟩:=hc rfl;obtain⟨p1,p2,p3,p4⟩:=HZ hr.ok.jX (hvals x hx');rw[Qk,Wp hr.ok.jX,Qa];refine .some ⟨⟨hr.ok.ahQ p1 p2,hr.aJ,hr.bx,hr.round,hr.seq,hr.aR,hr.own,hr.heard⟩,?_⟩;have:=p4 hc1 hc2;show(if true=true then 1 else 0)+2*(40 - (Gy s.bB x).length)<(if true=true then 1 else 0)+2*(40 - s.bB.length)
     rw[this];omega
   ·rintro s rfl hdec;simp only;rw[hdec,Ql];refine .some ⟨hr,?_⟩;show(if false=true then 1 else 0)+2*(40 - s.bB.length)<(if true=true then 1 else 0)+2*(40 - s.bB.length)
    simp
  |false=>
   rw[Ql];refine Yd.map ?_;have hl:=hr.ok.jX.len;refine Yd.list r.bB (by omega) (fun i (s:aB)=>(i,s,())) (fun _ s=>wq n s/\s.bB=r.bB) ?_ ?_ ⟨hr,rfl⟩
   ·rintro i x s ⟨hs',hsa⟩ hd hx' hi hdec hx hadd;obtain⟨hn,hn10⟩:=R6 hs'.ok;simp only[bc];rw[hdec,Qk,hx,Qa,hadd];refine Yd.bind (Yo hs'.ok x) fun q ⟨a,c,e1,e2,ha,hc⟩=> ?_
    refine Yd.bind (U3 hs'.ok) fun cf hcf=> ?_
    have hfc:=xt hcf hn10 hc;rw[<-hn]at hfc;rw[e2,hfc,Qa]
    cases (gq cf.ay c).testBit s.ao.toNat with
    |false=>exact .some ⟨s,rfl,hs',hsa⟩
    |true=>
     rw[Qk,Wp hs'.ok.tn,Qa];obtain⟨p1,p2,p3,p4⟩:=HZ hs'.ok.tn (hr.ok.jX.C7 x hx');refine .some ⟨_,rfl,⟨hs'.ok.ahP p1 (fun y hy=> ?_),hs'.aJ,hs'.bx,hs'.round,hs'.seq,hs'.aR,hs'.own,hs'.heard⟩,hsa⟩
     rcases p3 y hy with rfl|hy
     ·rw[hsa];exact hx'
     ·exact hs'.ok.sub y hy
   ·rintro s ⟨hs',hsa⟩ hdec;simp only[bc];rw[hdec,Ql];obtain⟨b1,f1,_⟩:=Yp (s:=b.dw) (t:=s.dw) hb.2.1;obtain⟨b2,f2,_⟩:=Yp (s:=b.bB) (t:=s.bB) hb.2.2;obtain⟨b3,f3,_⟩:=B0 (a:=b.ab) (b:=s.ab) hb.1;rw[f1,f2,f3];simp only[Qa];refine Yd.map (Yd.bind (p:=fun _=>True) (Yd.cond (fun _=> .some trivial) fun _=> .some trivial) fun c1 _=> ?_)
    refine Yd.bind (p:=fun _=>True) (Yd.cond (fun _=> .some trivial) fun _=> .some trivial) fun c2 _=> ?_
    cases c2 with
    |false=>exact .some ⟨hs'.ok,hs'.aJ,hs'.bx,hs'.round,hs'.aR,.inl hs'.seq⟩
    |true=>
     have hadd:aq .i64 b.aO 1=b.aO+1:=bN (by omega) (by omega)
     rw[Qk,hadd];exact .some ⟨⟨hs'.ok.ask,hs'.ok.own,hs'.ok.gV,hs'.ok.jX,hs'.ok.tn,hs'.ok.sub,hs'.ok.heard,hs'.ok.gX⟩,hs'.aJ,hs'.bx,hs'.round,hs'.aR,.inr rfl⟩
 ·cases decide (((List.length n.du:Nat):Int)=(0:Int))with
  |true=>
   rw[Qk];refine Yd.bind (acU h) fun r hr=> ?_
   exact hj (r,()) hr
  |false=>exact hj (n,()) (.refl h)
end
section
theorem U4{m:aN}(h:Dx m):sH m=some true:=by
 have e1:=h.n0;have e2:=h.n1;have e3:=h.seq;unfold sH;simp only[etas,gl h.aR,Gu h.gV,Gu h.jX];rw[Qg e1,Qg e2,Qg e3];rfl
theorem HY{n:aB}(h:ik n)(hs:1<=n.aO/\n.aO<=1000000):mL n=some true:=by
 have hlen:=h.len;have e1:=h.ask.v0;have e2:=h.ask.v1;have e3:=h.ask.s0;have e4:=h.ask.s1;have e5:=h.ask.r1;have e6:=h.ask.r2;have e7:=h.own;unfold mL;simp only[etas,gl h.ask.aR,Gu h.gV,Gu h.jX,Gu h.tn];rw[Qh (by omega:¬n.ao<0),Qh (by omega:¬(10:Int)<=n.ao),Qh (by omega:¬n.aK<0),Qh (by omega:¬(1000000:Int)<n.aK),Qh (by omega:¬n.Round<1),Qh (by omega:¬(1000:Int)<n.Round),Qh (by omega:¬n.aO<1),Qh (by omega:¬(1000000:Int)<n.aO),Qh (by omega:¬(200:Int)<((n.Ax.size:Nat):Int))]
 simp only[Ql,Qa,decide_true,Qo];refine Yd.eq_true ?_;refine Yd.list n.du h.tn.AO (fun i (_:Unit)=>(i,())) (fun _ _=>True) ?_ ?_ (s:=()) trivial
 ·intro i x s _ hd hx' hi hdec hx hadd;simp only;rw[hdec,Qk,hx,Qa,hadd,RI _ h.jX.AO,Qg (h.sub x hx')];exact .some ⟨(),rfl,trivial⟩
 ·intro s _ hdec;simp only;rw[hdec,Ql];refine Yd.map ?_;refine Yd.list n.aI (by omega) (fun i (_:Unit)=>(i,())) (fun _ _=>True) ?_ ?_ (s:=()) trivial
  ·intro i m s _ hd hm hi hdec hx hadd;obtain⟨hm1,hm2⟩:=h.heard m hm;simp only[bc];rw[hdec,Qk,hx,Qa,hadd];simp only[aN.eta];rw[U4 hm1,Qa,Qh hm2];simp only[Qo,Ql]
   by_cases h0:i=0
   ·subst h0;rw[Qh (by omega:¬(0:Int)<((0:Nat):Int))]
    exact .some ⟨(),rfl,trivial⟩
   ·rw[Qg (by omega:(0:Int)<(i:Int))]
    simp only[Qk];have hsub:da .i64 (i:Int) 1=((i - 1:Nat):Int):=by rw[jA (by omega) (by omega)];omega
    have hi1:i - 1<n.aI.length:=by omega
    rw[hsub,aP,Qv hi1,Qa]
    have hyi:m=n.aI[i]:=by
     rw[aP,Qv hi]at hx;exact(Option.some.inj hx).symm
    have hlt:n.aI[i - 1].ao<m.ao:=by
     rw[hyi];exact List.pairwise_iff_getElem.1 h.gX (i - 1) i hi1 hi (by omega)
    rw[Qh (by omega:¬m.ao<=n.aI[i - 1].ao)]
    exact .some ⟨(),rfl,trivial⟩
  ·intro s _ hdec;simp only;rw[hdec,Ql];exact .some rfl
theorem ik.P9{n:aB}(h:ik n):cJ n.ab/\n.dw.length<=1000000/\n.bB.length<=1000000:=⟨h.ask.aR.sm,h.gV.AO,h.jX.AO⟩
def V3:aB:=⟨0,0,0,0,⟨0,[],[]⟩,⟨#[]⟩,[],[],[],[]⟩
theorem ags{n:aB}{m:aN}(h:ik n)(hs:1<=n.aO/\n.aO<=1000000)(hm:Dx m)(hne:m.ao≠n.ao):Yd (yw n m) fun q=>(q.2.1=0/\XN n n q.1)\/q.2.1=9:=by
 have hlen:=h.len;unfold yw;simp only[etas,aN.eta,HY h hs,U4 hm,Qa,Qo,Ql];rw[Qh hne];simp only[Ql,bc];have kk:∀(a:List aN) (x:aN),a.length<=100->aX 120 (a.length+[x].length)=true:=fun a x ha=>ba ⟨by simp only[Q5];omega,by simp only[Q5];omega⟩
 have setl:∀l:List aN,(∀y∈l,Dx y/\y.ao≠n.ao)->l.Pairwise (fun a b=>a.ao<b.ao)->Yd (Option.bind (jq n {n with aI:=l}) fun r14=>some (r14,(0:Int),())) fun q=>(q.2.1=0/\XN n n q.1)\/q.2.1=9:=by
  intro l h1 h2;refine Yd.bind (EA h.P9 (by omega) (n:={n with aI:=l}) ⟨h.ask,h.own,h.gV,h.jX,h.tn,h.sub,h1,h2⟩) fun r hr=> .some (.inl ⟨rfl,hr.ok,hr.aJ,hr.bx,hr.round,hr.aR,hr.seq⟩)
 refine Yd.list n.aI (by omega) (fun i (s:Bool×List aN)=>(s.1,i,V3,{n with aI:=[]},s.2,()))
  (fun i s=>s.2.length<=2*i/\(∀y∈s.2,Dx y/\y.ao≠n.ao)/\s.2.Pairwise (fun a b=>a.ao<b.ao)/\(∀y∈s.2,∀z∈n.aI.drop i,y.ao<z.ao)/\(s.1=false->∀y∈s.2,y.ao<m.ao)) ?_ ?_ (s:=(false,[]))
  ⟨by simp,fun y hy=>absurd hy QR,List.Pairwise.nil,fun y hy=>absurd hy QR,fun _ y hy=>absurd hy QR⟩
 ·rintro i x ⟨d,acc⟩ ⟨a1,a2,a3,a4,a5⟩ hd hx' hi hdec hx hadd;simp only at a1 a2 a3 a4 a5;have hxx:=h.heard x hx'
  have hsort:∀z∈n.aI.drop (i+1),x.ao<z.ao:=by
   have:=h.gX.sublist (List.drop_sublist i n.aI);rw[hd,Q3]at this;exact this.1
  have a4x:∀y∈acc,y.ao<x.ao:=fun y hy=>a4 y hy x (by rw[hd];exact Qx)
  have a4r:∀y∈acc,∀z∈n.aI.drop (i+1),y.ao<z.ao:=fun y hy z hz=>a4 y hy z (by rw[hd];exact Qy _ hz)
  simp only;rw[hdec,Qk,hx,Qa,hadd];have k1:=kk acc m (by omega)
  have k2:=kk acc x (by omega)
  have k3:=kk (acc++[m]) x (by simp only[QB,Q5];omega)
  by_cases hn:x.ao=m.ao
  ·rw[Qg hn,Qk]
   cases decide (m.aO<=x.aO)with
   |true=>exact .some (.inr rfl)
   |false=>exact .some ⟨(d,acc),rfl,by show acc.length<=2*(i+1);omega,a2,a3,a4r,a5⟩
  ·rw[Qh hn,Ql,k1,k2,k3]
   have plain:(d=false->x.ao<m.ao)->Yd (some (Sum.inl (d,((i+1:Nat):Int),V3,{n with aI:=([]:List aN)},(acc++[x]),())):Option ((Bool×Int×aB×aB×(List aN)×Unit)⊕(aB×Int×Unit))) (Lp (fun t=>∃s':Bool×List aN,t=(s'.1,((i+1:Nat):Int),V3,{n with aI:=[]},s'.2,())/\(s'.2.length<=2*(i+1)/\(∀y∈s'.2,Dx y/\y.ao≠n.ao)/\s'.2.Pairwise (fun a b=>a.ao<b.ao)/\(∀y∈s'.2,∀z∈n.aI.drop (i+1),y.ao<z.ao)/\(s'.1=false->∀y∈s'.2,y.ao<m.ao))) (fun r=>(r.2.1=0/\XN n n r.1)\/r.2.1=9)):=by
    intro hdm;refine .some ⟨(d,acc++[x]),rfl,by simp only[QB,Q5];omega,fun y hy=> ?_,?_,fun y hy z hz=> ?_,fun e y hy=> ?_⟩
    ·rcases Qz.1 hy with hy|hy
     ·exact a2 y hy
     ·rw[Q4.1 hy];exact hxx
    ·rw[Qq68];exact⟨a3,List.pairwise_singleton _ _,fun y hy z hz=>by rw[Q4.1 hz];exact a4x y hy⟩
    ·rcases Qz.1 hy with hy|hy
     ·exact a4r y hy z hz
     ·rw[Q4.1 hy];exact hsort z hz
    ·rcases Qz.1 hy with hy|hy
     ·exact a5 e y hy
     ·rw[Q4.1 hy];exact hdm e
   by_cases hlt:m.ao<x.ao
   ·rw[Qg hlt]
    cases d with
    |true=>exact plain fun e=>by cases e
    |false=>
     have a5:=a5 rfl;simp only[Qp,Qk,Qa];refine .some ⟨(true,(acc++[m])++[x]),rfl,by simp only[QB,Q5];omega,fun y hy=> ?_,?_,fun y hy z hz=> ?_,fun e=>by cases e⟩
     ·rcases Qz.1 hy with hy|hy
      ·rcases Qz.1 hy with hy|hy
       ·exact a2 y hy
       ·rw[Q4.1 hy];exact⟨hm,hne⟩
      ·rw[Q4.1 hy];exact hxx
     ·rw[Qq68,Qq68];refine⟨⟨a3,List.pairwise_singleton _ _,fun y hy z hz=>by rw[Q4.1 hz];exact a5 y hy⟩,List.pairwise_singleton _ _,fun y hy z hz=> ?_⟩
      rw[Q4.1 hz];rcases Qz.1 hy with hy|hy
      ·exact a4x y hy
      ·rw[Q4.1 hy];exact hlt
     ·rcases Qz.1 hy with hy|hy
      ·rcases Qz.1 hy with hy|hy
       ·exact a4r y hy z hz
       ·rw[Q4.1 hy];exact Int.lt_trans hlt (hsort z hz)
      ·rw[Q4.1 hy];exact hsort z hz
   ·rw[Qh hlt];exact plain fun _=>by omega
 ·rintro⟨d,acc⟩ ⟨a1,a2,a3,a4,a5⟩ hdec;simp only at a1 a2 a3 a4 a5;simp only;rw[hdec,Ql];refine Yd.map ?_;have k1:=kk acc m (by omega)
  rw[k1]
  cases d with
  |true=>exact setl acc a2 a3
  |false=>
   simp only[Qp,Qk];refine setl (acc++[m]) (fun y hy=> ?_) ?_
   ·rcases Qz.1 hy with hy|hy
    ·exact a2 y hy
    ·rw[Q4.1 hy];exact⟨hm,hne⟩
   ·rw[Qq68];exact⟨a3,List.pairwise_singleton _ _,fun y hy z hz=>by rw[Q4.1 hz];exact a5 rfl y hy⟩
theorem aeT{n:aB}(h:ik n)(hs:1<=n.aO/\n.aO<=1000000):Yd (yv n) fun q=>(q.2.1=0/\ik q.1/\q.1.ao=n.ao/\q.1.aK=n.aK/\q.1.ab=n.ab/\(q.1.aO=n.aO\/q.1.aO=n.aO+1))\/q.2.1=3:=by
 unfold yv;simp only[etas,HY h hs,Qa,Qo,Ql];have e5:=h.ask.r1;have e6:=h.ask.r2
 by_cases hr:n.Round=1000
 ·rw[Qg hr];exact .some (.inr rfl)
 ·have hadd:aq .i64 n.Round 1=n.Round+1:=bN (by omega) (by omega)
  rw[Qh hr,Ql,hadd];refine Yd.bind (EA h.P9 (by omega) (n:={n with Round:=n.Round+1}) ⟨⟨h.ask.aR,h.ask.v0,h.ask.v1,h.ask.s0,h.ask.s1,by show 1<=n.Round+1;omega,by show n.Round+1<=1000;omega⟩,h.own,h.gV,h.jX,h.tn,h.sub,h.heard,h.gX⟩) fun r hr=> .some (.inl ⟨rfl,hr.ok,hr.aJ,hr.bx,hr.aR,hr.seq⟩)
theorem ae0{n:aB}(h:ik n)(hs:1<=n.aO/\n.aO<=1000000){t:aa}(ht:cn t):Yd (tF n t) fun q=>q.2.1=0/\ik q.1/\q.1.ao=n.ao/\q.1.aK=n.aK/\q.1.ab=t/\(q.1.aO=n.aO\/q.1.aO=n.aO+1):=by
 unfold tF;simp only[etas,HY h hs,gl ht,Qa,Qo,Ql,decide_true];obtain⟨b,f,hb⟩:=B0 (a:=n.ab) (b:=t) h.ask.aR.sm;rw[f,Qa]
 cases b with
 |true=>exact .some ⟨rfl,h,rfl,rfl,hb.1 rfl,.inl rfl⟩
 |false=>
  refine Yd.bind (EA h.P9 (by omega) (n:={n with ab:=t}) ⟨⟨ht,h.ask.v0,h.ask.v1,h.ask.s0,h.ask.s1,h.ask.r1,h.ask.r2⟩,h.own,h.gV,h.jX,h.tn,h.sub,h.heard,h.gX⟩) fun r hr=> .some ⟨rfl,hr.ok,hr.aJ,hr.bx,hr.aR,hr.seq⟩
theorem acP{t:aa}{v bx:Int}{own:ByteArray}(ht:cn t)(h0:0<=v)(h1:v<10)(h2:0<=bx)(h3:bx<=1000000)(ho:own.size<=200):Yd (wB v bx t own) fun q=>q.2.1=0/\ik q.1/\q.1.ao=v/\q.1.aK=bx/\q.1.ab=t/\q.1.aO=1:=by
 unfold wB;simp only[etas,gl ht];rw[Qh (by omega:¬v<0),Qh (by omega:¬(10:Int)<=v),Qh (by omega:¬bx<0),Qh (by omega:¬(1000000:Int)<bx),Qh (by omega:¬(200:Int)<((own.size:Nat):Int))]
 simp only[Ql,Qa,decide_true,Qo];have hn:ik ⟨v,bx,1,1,t,own,[],[],[],[]⟩:=⟨⟨ht,h0,h1,h2,h3,by show(1:Int)<=1;omega,by show(1:Int)<=1000;omega⟩,ho,.nil,.nil,.nil,fun x hx=>absurd hx QR,fun x hx=>absurd hx QR,List.Pairwise.nil⟩
 refine Yd.bind (EA hn.P9 ⟨by show(0:Int)<=1;omega,by show(1:Int)<=1000000;omega⟩ hn) fun r hr=> .some ⟨rfl,⟨hr.ok.ask,hr.ok.own,hr.ok.gV,hr.ok.jX,hr.ok.tn,hr.ok.sub,hr.ok.heard,hr.ok.gX⟩,hr.aJ,hr.bx,hr.aR,rfl⟩
end
section
theorem aeK{m:ae}(h:m.aY=3):jB m=m:=by
 have h1:eB m=m:=by unfold eB;rw[Qr (.inl h)]
 have h2:jl m=m:=by unfold jl;rw[Qr (.inl (by rw[h];decide))]
 have h3:ir m=m:=by unfold ir;rw[Qs (by rw[h];decide),Qs (by rw[h];decide)]
 have h4:lL m=m:=by unfold lL;rw[Qs (by rw[h];rintro⟨e,_⟩;exact absurd e (by decide))]
 have h5:fX m=m:=by unfold fX;rw[Qr (.inl h)]
 unfold jB;rw[Qr h1,Qr h2,Qr h3,Qr h4];exact h5
structure C1 (m:ae) (t:aa) (x:ae):Prop where
 inv:bH x
 seq:kX x
 aJ:x.ao=m.ao
 bx:x.aK=m.aK
 aR:x.ab=t
 ext:m.aY=3->x.aY=3/\x.af.Value=m.af.Value
theorem C1.refl{m:ae}(h:bH m)(hs:kX m):C1 m m.ab m:=⟨h,hs,rfl,rfl,rfl,fun e=>⟨e,rfl⟩⟩
def qa(m x:ae):Prop:=m.aY=3->x.aY=3/\x.af.Value=m.af.Value
theorem HU{m:ae}:∀x,bH x->qa m x->qa m (jB x):=fun x _ h e=>by
 have h2:=h e;rw[aeK h2.1];exact h2
theorem HT{m:ae}:∀x,qa m x->qa m (gp x):=fun x h e=>by
 have h2:=h e;unfold gp;split
 ·exact h2
 ·exact h2
theorem Bj{m m1:ae}(h:bH m)(hb:yG m m1):qa m m1:=by
 intro e;rcases hb with⟨v,hv,rfl⟩|⟨x,hx,rfl⟩|⟨h3,hv,hc,rfl⟩|⟨t,ht,rfl⟩
 ·have hz:aT m.af=false:=by
   rcases h.body with k|k|k|k
   ·exact absurd (k.bf.symm.trans e) (by decide)
   ·exact k.bl.nz
   ·exact k.bl.nz
   ·exact k.bl.nz
  unfold kW;rw[Qs (by rw[hz];decide)]
  exact⟨e,rfl⟩
 ·exact⟨e,rfl⟩
 ·exact absurd e h3
 ·exact⟨e,rfl⟩
theorem H6{m m1:ae}(h:bH m)(hb:yG m m1){q:ae×Int×Unit}(hq:T9 (qa m) m m1 q):q.2.1=0/\C1 m m1.ab q.1:=by
 obtain⟨m2,rfl,ha⟩:=hq;have hf:=abo h hb;obtain⟨f1,f2,f3,f4,f5,f6⟩:=JR m1;obtain⟨s,e,_⟩:=TN m m2;refine⟨rfl,abm ha.inv,aeh ha.inv ha.seq (fun hz=>ha.nz (by rw[f6];exact hf.nz hz)),?_,?_,?_,?_⟩
 ·rw[e];exact ha.env.1.trans (f1.trans hf.aJ)
 ·rw[e];exact ha.env.2.1.trans (f2.trans hf.bx)
 ·rw[e];exact ha.env.2.2.1.trans f3
 ·rw[e];exact ha.rel
section
variable {m : ae} (h : bH m) (hs : kX m)
 include h hs
theorem Sa{v:ByteArray}(hv:nf v):Yd (mr m v) fun q=>q.2.1=0/\C1 m m.ab q.1:=by
 have hb:yG m (kW m v):= .inl ⟨v,hv,rfl⟩;refine(aap (R:=qa m) HU HT h hs hv (Bj h hb)).mono fun q hq=> ?_
 have e:(kW m v).ab=m.ab:=by unfold kW;split<;>rfl
 exact e▸H6 h hb hq
theorem aaM{e:aj}(he:HI m e):Yd (kC m e) fun q=>(q.2.1=0/\C1 m m.ab q.1)\/q.2.1=9:=by
 have hb:yG m (E9 m e):= .inr (.inl ⟨e,he,rfl⟩);refine(aao (R:=qa m) HU HT h hs he (Bj h hb)).mono fun q hq=> ?_
 rcases hq with⟨hq,_⟩|⟨rfl,_⟩
 ·exact .inl (H6 h hb hq)
 ·exact .inr rfl
theorem aaN{t:aa}(ht:cn t):Yd (pn m t) fun q=>q.2.1=0/\C1 m t q.1:=by
 have hb:yG m (Fe m t):= .inr (.inr (.inr ⟨t,ht,rfl⟩));refine(aat (R:=qa m) HU HT h hs ht (Bj h hb)).mono fun q hq=> ?_
 exact H6 h hb hq
theorem aaL:Yd (pj m) fun q=>(q.2.1=0/\C1 m m.ab q.1)\/q.2.1≠0:=by
 have hR:∃R:ae->Prop,(∀m,bH m->R m->R (jB m))/\(∀m,R m->R (gp m))/\R (oe m)/\(yG m (oe m)->∀x,R x->qa m x):=by
  by_cases hi:yG m (oe m)
  ·exact⟨qa m,HU,HT,Bj h hi,fun _ x hx=>hx⟩
  ·exact⟨fun _=>True,fun _ _ _=>trivial,fun _ _=>trivial,trivial,fun hi'=>absurd hi' hi⟩
 obtain⟨R,hR1,hR2,hR0,hRR⟩:=hR;refine(aan hR1 hR2 h hs hR0).mono fun q hq=> ?_
 rcases hq with⟨⟨m2,rfl,ha⟩,h3,hv,hc⟩|⟨rfl,_⟩|⟨rfl,_⟩
 ·have hb:yG m (oe m):= .inr (.inr (.inl ⟨h3,hv,hc,rfl⟩));exact .inl (H6 h hb ⟨m2,rfl,ha.inv,ha.seq,ha.env,ha.num,ha.nz,hRR hb _ ha.rel,ha.fix⟩)
 ·exact .inr (by show(62:Int)≠0;decide)
 ·exact .inr (by show(3:Int)≠0;decide)
theorem RJ:po m=some (bif decide (m.aY=3)then m.af.Value else gY,decide (m.aY=3),()):=by
 unfold po;simp only[etas,u9 h hs,Qa,Qo,Ql];cases decide (m.aY=3)<;>rfl
theorem RH:pk m=some (bif aT m.af then(aj.mk (0:Int) (0:Int) (0:Int) (aa.mk (0:Int) ([]:List Int) ([]:List aa)) (0:Int) zB zB zB (0:Int) (0:Int))else df m,!aT m.af,()):=by
 unfold pk;simp only[etas,u9 h hs,Qa,Qo,Ql,dy,xW];cases aT m.af<;>rfl
theorem Yn:Yd (rU m) fun _=>True:=by
 have hev:=h.ev;have hlen:=h.len;unfold rU;simp only[etas,RH h hs,Qa]
 cases hz:aT m.af with
 |true=>exact .some trivial
 |false=>
  simp only[Qp,Qo,Ql,Qa]
  cases decide (m.aY=3)with
  |true=>exact .some trivial
  |false=>
   simp only[Ql];have ho:=H2 h hs hz;have hm0:cJ (df m).ab:=by rw[oW];exact h.aR.sm
   have hall:∀e∈[df m]++m.aI,bj e=true/\cJ e.ab:=by
    intro e he;rcases Qz.1 he with he|he
    ·rw[Q4.1 he];exact⟨ho,hm0⟩
    ·exact⟨(h.hv e he).1,(h.hv e he).2.1.sm⟩
   have hl1:([df m]++m.aI).length<=1000:=by simp;omega
   rw[ba (by simp;omega),Qk]
   rw[Hs ([df m]++m.aI) hl1 (fun e=>decide (iB (df m)<=iB e)) (fin:=fun s=>Option.bind (iI m.ao m.ab ([df m]++m.aI)) fun r8=>Option.bind (fD ([df m]++m.aI) s) fun r9=>Option.bind (iK r8 r9) fun r10=>if(bz .u64 m.ao)<0 then none else some (decide ((bp .i64 (cm .i64 r10 (bz .u64 m.ao)) (1:Int))=(1:Int))))
    (fun i e s hs' he hd hx hw=>by
     simp only[hd,hx,hw,Vw hx,Qk,Qa,EC (hall e he).2 (hall e he).1,EC hm0 ho]
     rw[ba (by simp;omega),Qk])
    (fun s hd=>by simp only[hd,Ql])]
   have hsml:Av ([df m]++m.aI):=⟨by omega,fun e he=>(hall e he).2⟩
   have hn:=hev.aJ;have hv:=yN hn.2 (t:=m.ab) hsml;rw[hn.1]at hv;have hin:Iv ([df m]++m.aI):=fun e he=>l7 (hall e he).1
   rw[hv,Qa,zn ([df m]++m.aI) hl1 _ (fun e he _=>hin e he),Qa,xx (tO h.aR.sm hsml) (uI hin),Qa]
   have hc:bz .u64 m.ao=m.ao:=by
    rw[<-hn.1];exact acg (by omega)
   rw[hc,Qs (by have:=h.n0;omega)]
   exact .some trivial
def zm(t:ep):Prop:=0<=t.ah/\t.ah<=1000000/\ -1<=t.lg/\t.lg<=212
 omit h hs in
theorem RF{t:ep}(ht:zm t):sD t=some true:=by
  obtain⟨h1,h2,h3,h4⟩:=ht;unfold sD;rw[Qg h1,Qg h2,Qg h3,Qg h4];rfl
 omit h hs in
theorem Wl{c:Int}(hc:0<=c)(hc2:c<=1000000):Yd (qT c) fun w=>1<=w/\w<=12:=by
  unfold qT
  by_cases h:12<=c
  ·rw[Qg h];exact .some ⟨by decide,by decide⟩
  ·have hadd:aq .i64 c 1=c+1:=bN (by omega) (by omega)
   rw[Qh h,Ql,hadd];refine .some ?_;unfold bP;split<;>omega
 omit hs in
theorem XD:0<=m.af.ah/\m.af.ah<=1000:=by
  rcases h.body with k|k|k|k
  ·rw[k.bl];exact⟨by decide,by decide⟩
  ·exact⟨by have:=k.bl.1;omega,k.bl.2.1⟩
  ·exact⟨by have:=k.bl.1;omega,k.bl.2.1⟩
  ·exact⟨by have:=k.bl.1;omega,k.bl.2.1⟩
theorem acO{t:ep}(ht:zm t){now:Int}(h0:0<=now)(h1:now<=200):Yd (yq t m now) fun q=>zm q.1:=by
 obtain⟨b0,b1⟩:=XD h;unfold yq;simp only[etas,RF ht,Qa,Qo,Ql];rw[Qh (by omega:¬now<0),Qh (by omega:¬(200:Int)<now)]
 simp only[Ql,Qa];refine Yd.bind (Yn h hs) fun b _=> ?_
 have off:zm ⟨m.af.ah, -1⟩:=⟨b0,by show m.af.ah<=1000000;omega,by show(-1:Int)<= -1;omega,by show(-1:Int)<=212;omega⟩
 cases b with
 |false=>exact .some off
 |true=>
  simp only[Qo,Ql];refine Yd.bind (p:=fun _=>True) (Yd.cond (fun _=> .some trivial) fun _=> .some trivial) fun c _=> ?_
  cases c with
  |true=>
   rw[Qk];refine Yd.bind (Wl b0 (by omega)) fun w ⟨w1,w2⟩=> ?_
   have hadd:aq .i64 now w=now+w:=bN (by omega) (by omega)
   rw[hadd];exact .some ⟨b0,by show m.af.ah<=1000000;omega,by show -1<=now+w;omega,by show now+w<=212;omega⟩
  |false=>
   rw[Ql]
   cases decide (t.lg<=now)with
   |true=>exact .some off
   |false=>exact .some ht
end
end
section
structure zo (nd sl:Int) (k:Int) (x:bG):Prop where
 mY:bH x.aC
 rE:kX x.aC
 aJ:x.aC.ao=nd
 bx:x.aC.aK=sl
 xD:ik x.aW
 sW:1<=x.aW.aO/\x.aW.aO<=1+k
 we:x.aW.ao=nd
 zF:x.aW.aK=sl
 aR:x.aW.ab=x.aC.ab
 timer:zm x.Timer
 round:1<=x.Round/\x.Round<=1000
 next:0<=x.Next/\x.Next<=212
structure yf (nd sl:Int) (k:Int) (x:bG):Prop where
 pre:zo nd sl k x
 done:x.kK=decide (x.aC.aY=3)
 value:x.Value=bif decide (x.aC.aY=3)then x.aC.af.Value else gY
theorem zo.le{nd sl k k':Int}{x:bG}(h:zo nd sl k x)(hk:k<=k'):zo nd sl k' x:=⟨h.mY,h.rE,h.aJ,h.bx,h.xD,⟨h.sW.1,by have:=h.sW.2;omega⟩,h.we,h.zF,h.aR,h.timer,h.round,h.next⟩
theorem yf.le{nd sl k k':Int}{x:bG}(h:yf nd sl k x)(hk:k<=k'):yf nd sl k' x:=⟨h.pre.le hk,h.done,h.value⟩
theorem zo.Wb{nd sl k:Int}{x:bG}(h:zo nd sl k x){m:ae}(hm:C1 x.aC x.aC.ab m):zo nd sl k {x with aC:=m}:=⟨hm.inv,hm.seq,hm.aJ.trans h.aJ,hm.bx.trans h.bx,h.xD,h.sW,h.we,h.zF,h.aR.trans hm.aR.symm,h.timer,h.round,h.next⟩
theorem yO{nd sl k:Int}{x:bG}(h:zo nd sl k x):Yd (gK x) fun y=>yf nd sl k y/\qa x.aC y.aC:=by
 unfold gK;simp only[etas];refine Yd.join (fun v=>zo nd sl k v.1/\qa x.aC v.1.aC) (fun v ⟨hv,hst⟩=> ?_) (fun j' hj=> ?_)
 ·rw[RJ hv.mY hv.rE,Qa];exact .some ⟨⟨⟨hv.mY,hv.rE,hv.aJ,hv.bx,hv.xD,hv.sW,hv.we,hv.zF,hv.aR,hv.timer,hv.round,hv.next⟩,rfl,rfl⟩,hst⟩
 ·have same:zo nd sl k x/\qa x.aC x.aC:=⟨h,fun e=>⟨e,rfl⟩⟩
  refine Yd.bind (Wu h.xD.tn.AO) fun c hc=> ?_
  rw[dy];simp only[Qa]
  have go:c.2.1=false\/nf c.1:=by
   cases e:c.2.1 with
   |false=>exact .inl rfl
   |true=>exact .inr (hc e)
  have hcond:∀b1 b2 b3:Bool,Yd (Option.bind (bif b1 then some b2 else some false) fun b5=>Option.bind (bif b5 then some b3 else some false) fun b7=>Option.bind (bif b7 then some (!decide (c.1=x.aC.bQ))else some false) fun b8=>(some b8:Option Bool)) fun b=>b=true->b1=true:=fun b1 b2 b3=>by
   cases b1 with
   |true=>cases b2<;>cases b3<;>exact .some fun _=>rfl
   |false=>exact .some fun e=>e
  obtain⟨b8,hb8,hb8'⟩:=hcond c.2.1 (decide (x.aC.aY=1)) (aT x.aC.aw)
  have key:∀K:Bool->Option bG,(Option.bind (bif c.2.1 then some (decide (x.aC.aY=1))else some false) fun b5=>Option.bind (bif b5 then some (aT x.aC.aw)else some false) fun b7=>Option.bind (bif b7 then some (!decide (c.1=x.aC.bQ))else some false) K)=K b8:=by
   intro K;revert hb8
   cases c.2.1 with
   |false=>intro e;cases e;rfl
   |true=>
    cases decide (x.aC.aY=1)with
    |false=>intro e;cases e;rfl
    |true=>
     cases aT x.aC.aw with
     |false=>intro e;cases e;rfl
     |true=>intro e;cases e;rfl
  rw[key]
  cases b8 with
  |false=>exact hj (x,()) same
  |true=>
   rw[Qk];have hv:=hc (hb8' rfl);refine Yd.bind (Sa h.mY h.rE hv) fun q ⟨h0,hn⟩=> ?_
   rw[h0];exact hj (_,()) ⟨h.Wb hn,hn.ext⟩
theorem rC{nd sl k:Int}{x:bG}(h:yf nd sl k x)(hk:k<=999999):iR x=some true:=by
 have p:=h.pre;obtain⟨b,f,hb⟩:=B0 (a:=x.aW.ab) (b:=x.aC.ab) p.xD.ask.aR.sm;have hbt:=hb.2 p.aR;subst hbt;unfold iR;simp only[etas,u9 p.mY p.rE,HY p.xD ⟨p.sW.1,by have:=p.sW.2;omega⟩,f,RF p.timer,RJ p.mY p.rE,Qa,Qo,Ql]
 rw[Qg (p.we.trans p.aJ.symm),Qg (p.zF.trans p.bx.symm),Qg p.round.1,Qg p.round.2,Qg p.next.1,Qg p.next.2,Qg h.done,Qg h.value]
 rfl
def zx(nd sl:Int)(k:Int)(x y:bG):Prop:=yf nd sl k y/\qa x.aC y.aC
theorem zx.self{nd sl k k':Int}{x:bG}(h:yf nd sl k x)(hk:k<=k'):zx nd sl k' x x:=⟨h.le hk,fun e=>⟨e,rfl⟩⟩
section
variable {nd sl k : Int} {x : bG} (h : yf nd sl k x) (hk : k <= 999998)
 include h hk
theorem Wr{m:aN}(hm:Dx m)(hne:m.ao≠nd):Yd (qd x m) fun q=>(q.2.1=0/\zx nd sl (k+1) x q.1)\/q.2.1≠0:=by
 have p:=h.pre;unfold qd;simp only[aN.eta,etas,rC h (by omega),Qa,Qo,Ql]
 refine Yd.bind (ags p.xD ⟨p.sW.1,by have:=p.sW.2;omega⟩ hm (by rw[p.we];exact hne)) fun q hq=> ?_
 rcases hq with⟨h0,hq⟩|h9
 ·rw[h0];simp only[decide_true,Qo,Ql];have h1:=p.sW;refine Yd.bind (yO (k:=k+1) (x:={x with aW:=q.1}) ⟨p.mY,p.rE,p.aJ,p.bx,hq.ok,?_,hq.aJ.trans p.we,hq.bx.trans p.zF,hq.aR.trans p.aR,p.timer,p.round,p.next⟩) fun y hy=> .some (.inl ⟨rfl,hy⟩)
  show 1<=q.1.aO/\q.1.aO<=1+(k+1);rcases hq.seq with e|e<;>rw[e]<;>omega
 ·rw[h9];exact .some (.inr (by show(9:Int)≠0;decide))
theorem Ys{e:aj}(he:HI x.aC e\/(cJ e.ab/\bj e=false)):Yd (rS x e) fun q=>(q.2.1=0/\zx nd sl k x q.1)\/q.2.1≠0:=by
 have p:=h.pre;unfold rS;simp only[etas,rC h (by omega),Qa,Qo,Ql]
 rcases he with he|⟨ht,hv⟩
 ·refine Yd.bind (aaM p.mY p.rE he) fun q hq=> ?_
  rcases hq with⟨h0,hq⟩|h9
  ·rw[h0];simp only[decide_true,Qo,Ql];refine Yd.bind (yO (p.Wb hq)) fun y hy=> .some (.inl ⟨rfl,hy.1,fun e=> ?_⟩)
   have e1:=hq.ext e;have e2:=hy.2 e1.1;exact⟨e2.1,e2.2.trans e1.2⟩
  ·rw[h9];exact .some (.inr (by show(9:Int)≠0;decide))
 ·rw[acQ p.mY p.rE ht (.inl hv)];exact .some (.inr (by show(61:Int)≠0;decide))
theorem Yq{v:ByteArray}(hv:nf v):Yd (vi x v) fun q=>(q.2.1=0/\zx nd sl k x q.1)\/q.2.1≠0:=by
 have p:=h.pre;unfold vi;simp only[etas,rC h (by omega),Qa,Qo,Ql]
 refine Yd.bind (Sa p.mY p.rE hv) fun q ⟨h0,hq⟩=> ?_
 rw[h0];simp only[decide_true,Qo,Ql];refine Yd.bind (yO (p.Wb hq)) fun y hy=> .some (.inl ⟨rfl,hy.1,fun e=> ?_⟩)
 have e1:=hq.ext e;have e2:=hy.2 e1.1;exact⟨e2.1,e2.2.trans e1.2⟩
theorem Wt{t:aa}(ht:cn t):Yd (ph x t) fun q=>(q.2.1=0/\zx nd sl (k+1) x q.1)\/q.2.1≠0:=by
 have p:=h.pre;unfold ph;simp only[etas,rC h (by omega),Qa,Qo,Ql]
 have h1:=p.sW;refine Yd.bind (ae0 p.xD ⟨p.sW.1,by omega⟩ ht) fun q ⟨h0,g1,g2,g3,g4,g5⟩=> ?_
 rw[h0];simp only[decide_true,Qo,Ql];refine Yd.bind (aaN p.mY p.rE ht) fun r ⟨r0,hr⟩=> ?_
 rw[r0];simp only[decide_true,Qo,Ql];refine Yd.bind (yO (k:=k+1) (x:={x with aW:=q.1,aC:=r.1}) ⟨hr.inv,hr.seq,hr.aJ.trans p.aJ,hr.bx.trans p.bx,g1,?_,g2.trans p.we,g3.trans p.zF,g4.trans hr.aR.symm,p.timer,p.round,p.next⟩) fun y hy=> .some (.inl ⟨rfl,hy.1,fun e=> ?_⟩)
 ·show 1<=q.1.aO/\q.1.aO<=1+(k+1);rcases g5 with e|e<;>rw[e]<;>omega
 ·have e1:=hr.ext e;have e2:=hy.2 e1.1;exact⟨e2.1,e2.2.trans e1.2⟩
theorem acN{now:Int}(h0:0<=now)(h1:now<=200):Yd (uv x now) fun q=>(q.2.1=0/\zx nd sl (k+1) x q.1)\/q.2.1≠0:=by
 have p:=h.pre;have hsq:=p.sW;have hrd:=p.round;unfold uv;simp only[etas,rC h (by omega),Qa,Qo,Ql]
 rw[Qh (by omega:¬now<0),Qh (by omega:¬(200:Int)<now)]
 simp only[Ql,Qa];refine Yd.join (fun v=>zx nd sl (k+1) x v.1) (fun v hv=> ?_) (fun j4 hj4=> ?_)
 ·have pv:=hv.1.pre;refine Yd.bind (acO pv.mY pv.rE pv.timer h0 h1) fun t ht=> ?_
  refine Yd.join (fun w=>zx nd sl (k+1) x w.1) (fun w hw=> .some (.inl ⟨rfl,hw⟩)) (fun j7 hj7=> ?_)
  have pt:zo nd sl (k+1) {v.1 with Timer:=t.1}:=⟨pv.mY,pv.rE,pv.aJ,pv.bx,pv.xD,pv.sW,pv.we,pv.zF,pv.aR,ht,pv.round,pv.next⟩
  cases t.2.1 with
  |false=>exact hj7 (_,()) ⟨⟨pt,hv.1.done,hv.1.value⟩,hv.2⟩
  |true=>
   rw[Qk];refine Yd.join (fun w=>zo nd sl (k+1) w.1/\qa v.1.aC w.1.aC) (fun w ⟨hw,hst⟩=> ?_) (fun j9 hj9=> ?_)
   ·refine Yd.bind (yO hw) fun y hy=>hj7 (y,()) ⟨hy.1,fun e=> ?_⟩
    have e1:=hv.2 e;have e2:=hst e1.1;have e3:=hy.2 e2.1;exact⟨e3.1,e3.2.trans (e2.2.trans e1.2)⟩
   ·refine Yd.bind (aaL pv.mY pv.rE) fun r hr=> ?_
    rcases hr with⟨r0,hr⟩|hr
    ·rw[r0];exact hj9 (_,()) ⟨pt.Wb hr,hr.ext⟩
    ·rw[Qh hr];exact hj9 (_,()) ⟨pt,fun e=>⟨e,rfl⟩⟩
 ·have skip:=hj4 (x,()) (zx.self h (by omega))
  cases decide (((List.length x.aW.du:Nat):Int)=(0:Int))with
  |false=>exact skip
  |true=>
   simp only[Qk,Qa]
   cases decide (x.Next<=now)with
   |false=>exact skip
   |true=>
    rw[Qk];refine Yd.join (fun v=>zo nd sl (k+1) v.1/\v.1.aC=x.aC) (fun v ⟨hv,hm⟩=> ?_) (fun j14 hj14=> ?_)
    ·have hvr:=hv.round;have hadd:aq .i64 v.1.Round 1=v.1.Round+1:=bN (by omega) (by omega)
     have hmin:1<=fm (v.1.Round+1) 1000/\fm (v.1.Round+1) 1000<=1000:=by unfold fm;split<;>omega
     rw[hadd];refine Yd.bind (Wl (by omega) (by omega)) fun w ⟨w1,w2⟩=> ?_
     have hadd2:aq .i64 now w=now+w:=bN (by omega) (by omega)
     rw[hadd2];refine Yd.bind (yO (k:=k+1) (x:=⟨v.1.aW,v.1.aC,v.1.Timer,fm (v.1.Round+1) 1000,now+w,v.1.kK,v.1.Value⟩) ⟨hv.mY,hv.rE,hv.aJ,hv.bx,hv.xD,hv.sW,hv.we,hv.zF,hv.aR,hv.timer,hmin,by show 0<=now+w/\now+w<=212;omega⟩) fun y hy=>hj4 (y,()) ⟨hy.1,?_⟩
     have h2:=hy.2;simp only at h2;rw[hm]at h2;exact h2
    ·refine Yd.bind (aeT p.xD ⟨p.sW.1,by omega⟩) fun q hq=> ?_
     rcases hq with⟨q0,g1,g2,g3,g4,g5⟩|q3
     ·rw[q0];refine hj14 (_,()) ⟨⟨p.mY,p.rE,p.aJ,p.bx,g1,?_,g2.trans p.we,g3.trans p.zF,g4.trans p.aR,p.timer,p.round,p.next⟩,rfl⟩
      show 1<=q.1.aO/\q.1.aO<=1+(k+1);rcases g5 with e|e<;>rw[e]<;>omega
     ·rw[q3];exact hj14 (x,()) ⟨p.le (by omega),rfl⟩
end
theorem agy{nd sl:Int}(hv0:0<=nd)(hv1:nd<10)(hs0:1<=sl)(hs1:sl<=1000000){t:aa}{own:ByteArray}{now:Int}(ht:cn t)(ho:own.size<=200)(h0:0<=now)(h1:now<=200):Yd (zU nd sl t own now) fun q=>q.2.1=0/\yf nd sl 0 q.1:=by
 unfold zU;simp only[etas];rw[Qh (by omega:¬now<0),Qh (by omega:¬(200:Int)<now)]
 simp only[Ql,Qa];rw[ahU hv0 hv1 hs0 hs1 ht];simp only[Qa,decide_true,Qo,Ql];refine Yd.bind (acP ht hv0 hv1 (by omega) hs1 ho) fun q ⟨q0,g1,g2,g3,g4,g5⟩=> ?_
 rw[q0];simp only[decide_true,Qo,Ql];refine Yd.bind (Wl (by omega) (by omega)) fun w ⟨w1,w2⟩=> ?_
 have hadd2:aq .i64 now w=now+w:=bN (by omega) (by omega)
 rw[hadd2];obtain⟨m1,m2⟩:=adl (aJ:=nd) (bx:=sl) hv0 hv1 hs0 hs1 ht;have ht0:zm ⟨0, -1⟩:=⟨by decide,by decide,by decide,by decide⟩
 refine Yd.bind (yO (k:=0) (x:=⟨q.1,WL nd sl t,⟨0, -1⟩,1,now+w,false,bE⟩) ⟨m1,m2,rfl,rfl,g1,by show 1<=q.1.aO/\q.1.aO<=1+0;rw[g5];decide,g2,g3,g4,ht0,⟨(by decide:(1:Int)<=1),(by decide:(1:Int)<=1000)⟩,by show 0<=now+w/\now+w<=212;omega⟩) fun y hy=> .some ⟨rfl,hy.1⟩
end
section
theorem aaD(a b:ByteArray):nj a b=some (Fj a b):=by
 simp[nj,Fj]
theorem ZD{a b:ByteArray}:decide (0<=Fj a b)= !dS a b:=by
 rw[<-TI]
 by_cases h:Fj a b<0
 ·rw[Qg h,Qh (by omega)];rfl
 ·rw[Qh h,Qg (by omega)];rfl
theorem ae3(x:ByteArray):uG x=some (decide (nf x)):=RE x
theorem Ls{l:List ByteArray}(h:VL l):gR l=some true:=by
 unfold gR;refine Yd.eq_true (Yd.list l h.AO (fun i (_:Unit)=>(i,())) (fun _ _=>True) ?_ ?_ (s:=()) trivial)
 ·intro i y s hs hd hy hi hdec hx hadd;simp only;rw[hdec,Qk,hx,Qa,ae3,Qa,Qg (h.C7 y hy),hadd];simp only[Qo,Ql]
  by_cases h0:i=0
  ·subst h0;rw[Qh (by omega:¬(0:Int)<((0:Nat):Int))]
   exact .some ⟨(),rfl,trivial⟩
  ·rw[Qg (by omega:(0:Int)<(i:Int))]
   simp only[Qk];have hsub:da .i64 (i:Int) 1=((i - 1:Nat):Int):=by rw[jA (by omega) (by have:=h.len;omega)];omega
   have hi1:i - 1<l.length:=by omega
   rw[hsub,aP,Qv hi1,Qa,aaD,Qa,ZD]
   have hyi:y=l[i]:=by
    rw[aP,Qv hi]at hx;exact(Option.some.inj hx).symm
   have hlt:dS l[i - 1] y=true:=by
    rw[hyi];exact List.pairwise_iff_getElem.1 h.asc (i - 1) i hi1 hi (by omega)
   rw[hlt];exact .some ⟨(),rfl,trivial⟩
 ·intro s hs hdec;simp only;rw[hdec,Ql,Qg (by have:=h.len;omega:(l.length:Int)<=(40:Int))]
  exact .some rfl
theorem ae5(l:List ByteArray)(hl:l.length<=1000000)(x:ByteArray):Yd (jc l x) fun r=>decide (0<=r)=decide (x∈l):=by
 unfold jc;refine Yd.list l hl (fun i (_:Unit)=>(i,())) (fun i _=>x∉l.take i) ?_ ?_ (s:=()) (by simp)
 ·intro i y s hs hd hy hi hdec hx hadd;simp only;rw[hdec,Qk,hx,Qa,hadd]
  by_cases hxy:x=y
  ·rw[Qg hxy,Qk];refine .some ?_;show decide ((0:Int)<=(i:Int))=decide (x∈l);rw[Qg (by omega:(0:Int)<=(i:Int))]
   exact(Qg (by rw[hxy];exact hy)).symm
  ·rw[Qh hxy,Ql];refine .some ⟨(),rfl,?_⟩
   have hi2:l[i]?=some y:=by
    rw[aP]at hx;exact hx
   rw[List.take_add_one,hi2];simp only[Option.toList_some,Qz,Q4];exact fun h=>h.elim hs hxy
 ·intro s hs hdec;simp only;rw[hdec,Ql];rw[Q9]at hs;refine .some ?_;show decide ((0:Int)<= -1)=decide (x∈l);rw[Qh hs];rfl
theorem ahY(l:List ByteArray)(hl:l.length<=1000000)(x:ByteArray):sb l x=some (decide (x∈l)):=by
 obtain⟨r,h1,h2⟩:=ae5 l hl x;unfold sb j0;rw[h1,Qa,Qa,h2]
theorem abT{v:Int}(h0:0<=v)(h1:v<10):mT v=some true:=by
 unfold mT;rw[Qg h0,Qg h1];rfl
theorem ada{m:aN}(h:Dx m):pC m=some true:=by
 unfold pC;simp only[etas,abT h.n0 h.n1,lS h.aR,Ls h.gV,Ls h.jX];rw[Qg h.seq];rfl
theorem YO{n:aB}(h:ik n):eP n.du n=some false:=by
 unfold eP im;simp only[etas]
 have:=Yd.list (p:=fun r:Int=>r= -1) (step:=fun(v1:Int×Unit)=>
   bif (decide (v1.1<((List.length n.du:Nat):Int)))then
   Option.bind (idx n.du v1.1) fun x2=>
   Option.bind (ni x2 n) fun r3=>
   bif r3 then
   Option.map Sum.inr (some v1.1)
   else
   some (Sum.inl ((aq .i64 v1.1 (1:Int)),()))
   else
   Option.map Sum.inr (some (-1:Int))) n.du h.tn.AO (fun i (_:Unit)=>(i,())) (fun _ _=>True) ?_ ?_ (s:=()) trivial
 ·obtain⟨r,h1,rfl⟩:=this;rw[h1];rfl
 ·intro i x s _ hd hx' hi hdec hx hadd;simp only;unfold ni;rw[hdec,Qk,hx,Qa,hadd,ahY _ h.jX.AO,Qg (h.sub x hx')];exact .some ⟨(),rfl,trivial⟩
 ·intro s _ hdec;simp only;rw[hdec,Ql];exact .some rfl
theorem ac9{n:aB}(h:ik n)(hs:1<=n.aO/\n.aO<=1000000):pB n=some true:=by
 have hlen:=h.len;unfold pB rZ;simp only[etas,abT h.ask.v0 h.ask.v1,lS h.ask.aR,Ls h.gV,Ls h.jX,Ls h.tn,YO h];rw[Qg h.ask.s0,Qg h.ask.s1,Qg h.ask.r1,Qg h.ask.r2,Qg hs.1,Qg hs.2,Qh (by have:=h.own;omega:¬(200:Int)<((n.Ax.size:Nat):Int))]
 simp only[Ql,Qk,Qa,decide_true,Qo];refine Yd.eq_true ?_;refine Yd.list n.aI (by omega) (fun i (_:Unit)=>(i,())) (fun _ _=>True) ?_ ?_ (s:=()) trivial
 ·intro i m s _ hd hm hi hdec hx hadd;obtain⟨hm1,hm2⟩:=h.heard m hm;simp only[bc];rw[hdec,Qk,hx,Qa,hadd];simp only[aN.eta];rw[ada hm1,Qa,Qh hm2];simp only[Qo,Ql]
  by_cases h0:i=0
  ·subst h0;rw[Qh (by omega:¬(0:Int)<((0:Nat):Int))]
   exact .some ⟨(),rfl,trivial⟩
  ·rw[Qg (by omega:(0:Int)<(i:Int))]
   simp only[Qk];have hsub:da .i64 (i:Int) 1=((i - 1:Nat):Int):=by rw[jA (by omega) (by omega)];omega
   have hi1:i - 1<n.aI.length:=by omega
   rw[hsub,aP,Qv hi1,Qa]
   have hyi:m=n.aI[i]:=by
    rw[aP,Qv hi]at hx;exact(Option.some.inj hx).symm
   have hlt:n.aI[i - 1].ao<m.ao:=by
    rw[hyi];exact List.pairwise_iff_getElem.1 h.gX (i - 1) i hi1 hi (by omega)
   rw[Qh (by omega:¬m.ao<=n.aI[i - 1].ao)]
   exact .some ⟨(),rfl,trivial⟩
 ·intro s _ hdec;simp only;rw[hdec,Ql];exact .some rfl
theorem ae4{t:ep}(ht:zm t):zr t=some true:=RF ht
theorem aaE{nd sl k:Int}{x:bG}(h:yf nd sl k x)(hk:k<=999999):yi x=some true:=by
 have p:=h.pre;obtain⟨b,f,hb⟩:=eqT (a:=x.aW.ab) (b:=x.aC.ab) p.xD.ask.aR.sm;have hbt:=hb.2 p.aR;subst hbt;unfold yi;simp only[etas,VP p.mY p.rE,ac9 p.xD ⟨p.sW.1,by have:=p.sW.2;omega⟩,f,ae4 p.timer,aaC p.mY p.rE,Qa,Qk]
 rw[Qg (p.we.trans p.aJ.symm),Qg (p.zF.trans p.bx.symm),Qg p.round.1,Qg p.round.2,Qg p.next.1,Qg p.next.2,Qg h.done,Qg h.value]
 rfl
end
section
def JE(nd k:Int)(x:bG):Prop:=1<=x.aC.aK/\x.aC.aK<=1000000/\yf nd x.aC.aK k x
theorem JE.le{nd k k':Int}{x:bG}(h:JE nd k x)(hk:k<=k'):JE nd k' x:=⟨h.1,h.2.1,h.2.2.le hk⟩
theorem JE.aa6{nd k k':Int}{x y:bG}(h:JE nd k x)(hd:zx nd x.aC.aK k' x y):JE nd k' y/\y.aC.aK=x.aC.aK:=by
 have e:=hd.1.pre.bx;exact⟨⟨by rw[e];exact h.1,by rw[e];exact h.2.1,by rw[e];exact hd.1⟩,e⟩
structure mI (nd k:Int) (p:az):Prop where
 aJ:p.ao=nd
 n0:0<=nd
 n1:nd<10
 aR:cn p.ab
 len:p.aQ.length<=8
 bx:∀x∈p.aQ,JE nd k x
theorem mI.le{nd k k':Int}{p:az}(h:mI nd k p)(hk:k<=k'):mI nd k' p:=⟨h.aJ,h.n0,h.n1,h.aR,h.len,fun x hx=>(h.bx x hx).le hk⟩
theorem sP{nd k:Int}{p:az}(h:mI nd k p)(hk:k<=999999):Yd (c7 p) fun _=>True:=by
 have hlen:=h.len;unfold c7;simp only[bG.eta,aB.eta,ae.eta,etas,jH h.aR.sm,l5 h.aR,Qa,decide_true,Qo];rw[Qh (show¬p.ao<0 by rw[h.aJ];have:=h.n0;omega),Qh (show¬(9:Int)<p.ao by rw[h.aJ];have:=h.n1;omega),Qh (show¬(8:Int)<(p.aQ.length:Int)by omega)]
 simp only[Ql,Qa];refine Yd.list p.aQ (by omega) (fun i (_:Unit)=>(i,())) (fun _ _=>True) (fun i x _ _ _ hx hi hd hw ha=> ?_) (fun _ _ hd=> ?_) (s:=()) trivial
 ·have hs:=h.bx x hx;simp only[hd,Qk,hw,Qa,rC hs.2.2 hk,Qo,Ql];refine Yd.join (fun _=>True) (fun v _=> ?_) (fun j' hj=> ?_)
  ·refine Yd.cond (fun _=> .some trivial) (fun _=> .some ⟨(),by rw[ha],trivial⟩)
  ·refine Yd.cond (fun _=>hj _ trivial) (fun _=> ?_)
   obtain⟨r,hr,_⟩:=B0 (a:=x.aC.ab) (b:=p.ab) hs.2.2.pre.mY.aR.sm;rw[hr,Qa];refine Yd.cond (fun _=>hj _ trivial) (fun _=>Yd.cond (fun h0=> ?_) (fun _=>hj _ trivial))
   have h0:=of_decide_eq_true h0;obtain⟨m,rfl⟩:∃m:Nat,i=m+1:=⟨i - 1,by omega⟩
   rw[jA (by omega) (by omega),show(((m+1:Nat):Int)) - 1=(m:Int)by omega,aP,Qv (show m<p.aQ.length by omega),Qa]
   exact hj _ trivial
 ·simp only[hd,Ql];exact .some trivial
theorem ack{p:az}(hl:p.aQ.length<=8)(n:Int):∃(i:Nat) (b:Bool),rR p n=some ((i:Int),b,())/\i<=p.aQ.length/\(∀(j:Nat) (x:bG),j<i->p.aQ[j]?=some x->x.aC.aK<n)/\
  (∀x,p.aQ[i]?=some x->n<=x.aC.aK)/\(b=true->∃x,p.aQ[i]?=some x/\x.aC.aK=n)/\∀x,p.aQ[i]?=some x->x.aC.aK=n->b=true:=by
 obtain⟨i,h1,h2,h3,h4⟩:=Rb p.aQ (by omega) (fun x=>decide (x.aC.aK<n)) (r:=fun i=>some ((i:Int),(match p.aQ[i]? with|some x=>decide (x.aC.aK=n)|none=>false),()))
  (step:=fun(v1:Int×Unit)=>
   Option.bind (bif (decide (v1.1<((List.length p.aQ:Nat):Int)))then Option.bind (idx p.aQ v1.1) fun x2=>some (decide (x2.aC.aK<n))else some false) fun b3=>
   bif b3 then some (Sum.inl ((aq .i64 v1.1 (1:Int)),()))
   else Option.map Sum.inr (bb (fun(v4:Int×Bool×Unit)=>some (v4.1,v4.2.1,())) fun j5=>
    bif (decide (v1.1<((List.length p.aQ:Nat):Int)))then Option.bind (idx p.aQ v1.1) fun x6=>j5 (v1.1,(decide (x6.aC.aK=n)),())else j5 (v1.1,false,())))
  (fun i y hy hd hx hP ha=>by simp only[hd,Qk,hx,Qa,hP,ha])
  (fun i y hy hd hx hP=>by simp only[hd,Qk,hx,Qa,hP,Ql,bc,hy])
  (fun hd=>by simp only[hd,Ql,Qa,bc];rw[Qq71 (QI _)])
 refine⟨i,_,h4,h1,fun j x hj hx=> ?_,fun x hx=> ?_,fun hb=> ?_,fun x hx hn=>by rw[hx];exact Qg hn⟩
 ·obtain⟨y,hy,hP⟩:=h2 j hj;rw[hx]at hy;injection hy with hy
  rw[hy];exact of_decide_eq_true hP
 ·have:=of_decide_eq_false (h3 x hx);omega
 ·cases hx:p.aQ[i]? with
  |none=>rw[hx]at hb;cases hb
  |some x=>
   rw[hx]at hb;exact⟨x,rfl,of_decide_eq_true hb⟩
theorem XF{p:az}(hl:p.aQ.length<=8)(n:Int):∃(i:Nat) (b:Bool),rR p n=some ((i:Int),b,())/\i<=p.aQ.length/\(∀(j:Nat) (x:bG),j<i->p.aQ[j]?=some x->x.aC.aK<n)/\
  (∀x,p.aQ[i]?=some x->n<=x.aC.aK)/\(b=true->∃x,p.aQ[i]?=some x/\x.aC.aK=n):=by
 obtain⟨i,b,h1,h2,h3,h4,h5,_⟩:=ack hl n;exact⟨i,b,h1,h2,h3,h4,h5⟩
section
variable {nd k : Int} {p : az} (h : mI nd k p) {n : Int} (hn0 : 1 <= n) (hn1 : n <= 1000000) {own : ByteArray} (ho : own.size <= 200) {now : Int} (h0 : 0 <= now) (h1 : now <= 200) (hk0 : 0 <= k)
 include h hn0 hn1 ho h0 h1 hk0
theorem VT:Yd (sC p n own now) fun q=>(q.2.1=0/\mI nd k q.1/\∃(i:Nat) (s:bG),i<=p.aQ.length/\s.aC.aK=n/\q.1.aQ=p.aQ.take i++[s]++p.aQ.drop i/\∀(j:Nat) (x:bG),j<i->p.aQ[j]?=some x->x.aC.aK<n)\/(q.2.1≠0/\q.1.aQ=[]):=by
 have hlen:=h.len;obtain⟨i,b,e1,e2,e3,e4,e5⟩:=XF hlen n;unfold sC;simp only[bG.eta,aB.eta,ae.eta,etas,az.eta];rw[e1,Qa];refine Yd.cond (fun _=> .some (.inr ⟨by decide,rfl⟩)) (fun _=>Yd.cond (fun _=> .some (.inr ⟨by decide,rfl⟩)) (fun h8=> ?_))
 have h8:=of_decide_eq_false h8;rw[h.aJ];refine(agy h.n0 h.n1 hn0 hn1 h.aR ho h0 h1).bind fun r ⟨hr0,hr⟩=> ?_
 have hs:r.1.aC.aK=n:=hr.pre.bx;have hd1:(p.aQ.take (Int.toNat ((i:Nat):Int))).drop (Int.toNat 0)=p.aQ.take i:=by simp
 have hd2:(p.aQ.take (Int.toNat (p.aQ.length:Int))).drop (Int.toNat ((i:Nat):Int))=p.aQ.drop i:=by simp
 have hlt:=List.length_take_le i p.aQ;simp only[hd1,hd2];rw[Qg hr0,Qo,Ql,tP e2,Qk,ba (by omega),Qk,ba (by simp;omega),Qk,tQ e2,Qk,ba (by simp;omega),Qk]
 refine .some (.inl ⟨rfl,⟨rfl,h.n0,h.n1,h.aR,?_,fun x hx=> ?_⟩,i,r.1,e2,hs,rfl,e3⟩)
 ·show(p.aQ.take i++[r.1]++p.aQ.drop i).length<=8;simp only[QB,List.length_take,List.length_drop,QE,QY];omega
 ·have hx:x∈p.aQ.take i++[r.1]++p.aQ.drop i:=hx;rcases Qz.1 hx with hx|hx
  ·rcases Qz.1 hx with hx|hx
   ·exact h.bx x (Q0 hx)
   ·rw[Q4.1 hx];refine⟨by omega,by omega,?_⟩
    rw[hs];exact hr.le hk0
  ·exact h.bx x (Q1 hx)
theorem U2:Yd (sB p n own now) fun q=>(q.2.2.1=0/\mI nd k q.1/\∃(i:Nat) (x:bG),q.2.1=i/\q.1.aQ[i]?=some x/\x.aC.aK=n)\/q.2.2.1≠0:=by
 obtain⟨i,b,e1,e2,e3,e4,e5⟩:=XF h.len n;unfold sB;simp only[etas,az.eta];rw[e1,Qa];refine Yd.cond (fun hb=> ?_) (fun _=> ?_)
 ·obtain⟨x,hx,hs⟩:=e5 hb;exact .some (.inl ⟨rfl,h,i,x,rfl,hx,hs⟩)
 ·refine(VT h hn0 hn1 ho h0 h1 hk0).bind fun q hq=> ?_
  rcases hq with⟨q0,hq,m,s,g1,g2,g3,g4⟩|⟨q0,hq⟩
  ·obtain⟨i',b',f1,f2,f3,f4,f5⟩:=XF hq.len n;rw[f1,Qa];refine .some (.inl ⟨q0,hq,i',?_⟩)
   have hm:q.1.aQ[m]?=some s:=by
    rw[g3,QL,List.getElem?_append_right (by rw[List.length_take];omega),List.length_take,Nat.min_eq_left g1,Nat.sub_self]
    rfl
   have him:i'=m:=by
    rcases Nat.lt_trichotomy i' m with hlt|he|hgt
    ·have hx:q.1.aQ[i']?=p.aQ[i']?:=by
      rw[g3,QL,List.getElem?_append_left (by rw[List.length_take];omega),Qq67,Qr hlt]
     have hp:p.aQ[i']?=some p.aQ[i']:=Qv (by omega)
     have:=g4 i' _ hlt hp;have:=f4 _ (hx.trans hp);omega
    ·exact he
    ·have:=f3 m s hgt hm;omega
   exact⟨s,rfl,by rw[him];exact hm,g2⟩
  ·obtain⟨i',b',f1,_⟩:=XF (p:=q.1) (by rw[hq];simp) n
   rw[f1,Qa];exact .some (.inr q0)
end
theorem Ra{nd k k':Int}{p:az}(h:mI nd k p)(hk:k<=k'){i:Nat}(hi:i<p.aQ.length){s:bG}{e:Int}(hs:e=0->JE nd k' s):
  Yd (jz p (i:Int) s e) fun q=>(q.2.1=0/\e=0/\mI nd k' q.1/\q.1={p with aQ:=p.aQ.set i s})\/(q.2.1≠0/\e≠0):=by
 have hlen:=h.len;unfold jz;simp only[etas];refine Yd.cond (fun he=> .some (.inr ?_)) (fun he=> ?_)
 ·simp only[Bool.not_eq_true',Qj]at he;exact⟨he,he⟩
 ·simp only[Bool.not_eq_false',Qi]at he;rw[ba (by omega),Qk,aP,Qv hi,Qa,QV,Qv hi,Qa]
  refine .some (.inl ⟨rfl,he,⟨h.aJ,h.n0,h.n1,h.aR,by show(p.aQ.set i s).length<=8;rw[QX];exact hlen,fun x hx=> ?_⟩,rfl⟩)
  rcases List.mem_or_eq_of_mem_set (show x∈p.aQ.set i s from hx)with hx|rfl
  ·exact(h.bx x hx).le hk
  ·exact hs he
def Pq(nd k:Int)(q:az×Int×Unit):Prop:=(q.2.1=0/\mI nd k q.1)\/q.2.1≠0
section
variable {nd k : Int} {p : az} (h : mI nd k p) (hk0 : 0 <= k) (hk : k <= 999998)
 include h hk0 hk
theorem aeJ:Yd (yo p) (mI nd k):=by
 unfold yo;simp only[etas,az.eta];refine(sP h (by omega)).bind fun r _=>Yd.cond (fun _=> .some h) (fun _=> .some ⟨h.aJ,h.n0,h.n1,h.aR,h.len,h.bx⟩)
section
variable {n : Int} (hn0 : 1 <= n) (hn1 : n <= 1000000) {now : Int} (h0 : 0 <= now) (h1 : now <= 200)
 include hn0 hn1 h0 h1
theorem afa{own:ByteArray}(ho:own.size<=200):Yd (wz p n own now) (Pq nd k):=by
 unfold wz;simp only[etas,az.eta];refine(sP h (by omega)).bind fun r _=>Yd.cond (fun _=> .some (.inr (by decide))) (fun _=>Yd.cond (fun _=> .some (.inl ⟨rfl,h⟩)) (fun _=> ?_))
 refine(VT h hn0 hn1 ho h0 h1 hk0).bind fun q hq=> .some ?_
 rcases hq with⟨q0,hq,_⟩|⟨q0,_⟩
 ·exact .inl ⟨q0,hq⟩
 ·exact .inr q0
theorem aaA{v:ByteArray}(hv:nf v):Yd (vh p n v now) (Pq nd k):=by
 unfold vh;simp only[bG.eta,aB.eta,ae.eta,etas,az.eta];refine(sP h (by omega)).bind fun r _=>Yd.cond (fun _=> .some (.inr (by decide))) (fun _=>Yd.cond (fun _=> .some (.inl ⟨rfl,h⟩)) (fun _=> ?_))
 refine(U2 h hn0 hn1 hv.2 h0 h1 hk0).bind fun q hq=> ?_
 rcases hq with⟨q0,hq,i,x,hi,hx,hs⟩|q0
 ·rw[Qg q0,Qo,Ql,hi,aP,hx,Qa];have hS:=hq.bx x (Q7 hx);refine(Yq hS.2.2 hk hv).bind fun y hy=> ?_
  refine(Ra hq (Int.le_refl k) (i:=i) (Qw.1 hx).1 (s:=y.1) (e:=y.2.1) fun he=> ?_).bind fun z hz=> .some ?_
  ·rcases hy with⟨_,hy⟩|hy
   ·exact(hS.aa6 hy).1
   ·exact absurd he hy
  ·rcases hz with⟨z0,_,hz,_⟩|⟨z0,_⟩
   ·exact .inl ⟨z0,hz⟩
   ·exact .inr z0
 ·rw[Qh q0];exact .some (.inr q0)
end
end
structure acq (nd:Int) (l:bM):Prop where
 xD:l.bu=1->Dx l.aE/\l.aE.ao=nd
 env:l.bu=2->cJ l.aD.ab/\(bj l.aD=true->cn l.aD.ab/\l.aD.ao=nd)
 s0:1<=l.aK
 s1:l.aK<=1000000
section
variable {nd k : Int} {p : az} (h : mI nd k p) (hk0 : 0 <= k) (hk : k <= 999998) {now : Int} (h0 : 0 <= now) (h1 : now <= 200)
 include h hk0 hk h0 h1
theorem afm{l:bM}{src:Int}(hl:acq src l)(hne:src≠nd):Yd (yp p l now) (Pq nd (k+1)):=by
 unfold yp;simp only[bG.eta,aB.eta,ae.eta,aN.eta,aj.eta,etas,az.eta];refine(sP h (by omega)).bind fun r _=>Yd.cond (fun _=> .some (.inr (by decide))) (fun _=>Yd.cond (fun _=> .some (.inl ⟨rfl,h.le (by omega)⟩)) (fun _=> ?_))
 have hb:∃b4:Bool,(Option.bind (bif (!decide (l.bu=(1:Int)))then some (!decide (l.bu=(2:Int)))else some false) fun b2=>
   Option.bind (bif b2 then some true else Option.bind (bif (decide (l.bu=(2:Int)))then some (!decide (l.aK=l.aD.aK))else some false) fun b3=>some b3) fun b4=>some b4)=some b4/\(b4=false->(l.bu=1\/l.bu=2)/\(l.bu=2->l.aK=l.aD.aK)):=by
  by_cases k1:l.bu=1
  ·exact⟨false,by simp[k1],fun _=>⟨.inl k1,fun e=>by omega⟩⟩
  ·by_cases k2:l.bu=2
   ·exact⟨!decide (l.aK=l.aD.aK),by simp[k2],fun e=>⟨.inr k2,fun _=>by simpa using e⟩⟩
   ·exact⟨true,by simp[k1,k2],fun e=>by cases e⟩
 obtain⟨b4,hb4,hk4⟩:=hb
 have hb4':∀K:Bool->Option (az×Int×Unit),(Option.bind (bif (!decide (l.bu=(1:Int)))then some (!decide (l.bu=(2:Int)))else some false) fun b2=>
   Option.bind (bif b2 then some true else Option.bind (bif (decide (l.bu=(2:Int)))then some (!decide (l.aK=l.aD.aK))else some false) fun b3=>some b3) fun b4=>K b4)=K b4:=fun K=>by
  have:=congrArg (fun o=>Option.bind o K) hb4
  simpa only[Option.bind_assoc,Qa]using this
 rw[hb4'];refine Yd.cond (fun _=> .some (.inr (by decide))) (fun hf=> ?_)
 obtain⟨hkd,hsl⟩:=hk4 hf;refine(U2 h hl.s0 hl.s1 (own:=ByteArray.mk #[48]) (by decide) h0 h1 hk0).bind fun q hq=> ?_
 rcases hq with⟨q0,hq,i,x,hi,hx,hs⟩|q0
 ·rw[Qg q0,Qo,Ql,hi,aP,hx];simp only[Qa];have hS:=hq.bx x (Q7 hx)
  have fin:∀y:bG×Int×Unit,((y.2.1=0/\zx nd x.aC.aK (k+1) x y.1)\/y.2.1≠0)->Yd (Option.bind (jz q.1 (i:Int) y.1 y.2.1) fun r8=>some (r8.1,r8.2.1,())) (Pq nd (k+1)):=fun y hy=>by
   refine(Ra hq (show k<=k+1 by omega) (i:=i) (Qw.1 hx).1 (s:=y.1) (e:=y.2.1) fun he=> ?_).bind fun z hz=> .some ?_
   ·rcases hy with⟨_,hy⟩|hy
    ·exact(hS.aa6 hy).1
    ·exact absurd he hy
   ·rcases hz with⟨z0,_,hz,_⟩|⟨z0,_⟩
    ·exact .inl ⟨z0,hz⟩
    ·exact .inr z0
  refine Yd.cond (fun k1=> ?_) (fun k1=> ?_)
  ·obtain⟨g1,g2⟩:=hl.xD (of_decide_eq_true k1);exact(Wr hS.2.2 hk g1 (by rw[g2];exact hne)).bind fun y hy=>fin y hy
  ·have k2:l.bu=2:=by
    have:=of_decide_eq_false k1;rcases hkd with e|e
    ·exact absurd e this
    ·exact e
   obtain⟨g1,g2⟩:=hl.env k2;refine(Ys hS.2.2 hk ?_).bind fun y hy=>fin y ?_
   ·cases hv:bj l.aD with
    |true=>
     obtain⟨g3,g4⟩:=g2 hv;exact .inl ⟨hv,g3,by rw[hs,hsl k2],by rw[g4,hS.2.2.pre.aJ];exact hne⟩
    |false=>exact .inr ⟨g1,rfl⟩
   ·rcases hy with⟨y0,hy⟩|hy
    ·exact .inl ⟨y0,hy.1.le (by omega),hy.2⟩
    ·exact .inr hy
 ·rw[Qh q0];exact .some (.inr q0)
theorem Zt{g:bG->Option (bG×Int×Unit)}(hg:∀x,JE nd k x->Yd (g x) fun q=>(q.2.1=0/\zx nd x.aC.aK (k+1) x q.1)\/q.2.1≠0){t:aa}(ht:cn t)(z:az):
  Yd (ax (fun(v2:Int×az×az×Unit)=>
   bif (decide (v2.1<((List.length p.aQ:Nat):Int)))then
    Option.bind (idx v2.2.1.aQ v2.1) fun x3=>Option.bind (g x3) fun r4=>Option.bind (jz v2.2.1 v2.1 r4.1 r4.2.1) fun r5=>
    bif (!decide (r5.2.1=(0:Int)))then Option.map Sum.inr (some (z,r5.2.1,()))else some (Sum.inl ((aq .i64 v2.1 (1:Int)),r5.1,v2.2.2.1,()))
   else Option.map Sum.inr (some (v2.2.1,(0:Int),()))) ((0:Int),{p with ab:=t},z,())) (Pq nd (k+1)):=by
 have hlen:=h.len
 refine Yd.list p.aQ (by omega) (fun i (s:az×az)=>(i,s.1,s.2,())) (fun i s=>mI nd (k+1) s.1/\s.1.aQ.length=p.aQ.length/\∀j,i<=j->s.1.aQ[j]?=p.aQ[j]?) (fun i x s ⟨g1,g2,g3⟩ _ hx hi hd hw ha=> ?_) (fun s ⟨g1,_⟩ hd=> ?_)
  (s:=({p with ab:=t},z)) ⟨⟨h.aJ,h.n0,h.n1,ht,h.len,fun x hx=>(h.bx x hx).le (by omega)⟩,rfl,fun _ _=>rfl⟩
 ·have hx':p.aQ[i]?=some x:=by rw[<-hw,aP]
  simp only[hd,Qk];rw[aP,g3 i (QI i),hx',Qa];have hS:=h.bx x hx;refine(hg x hS).bind fun y hy=> ?_
  refine(Ra g1 (Int.le_refl (k+1)) (i:=i) (by omega) (s:=y.1) (e:=y.2.1) fun he=> ?_).bind fun w hw'=> ?_
  ·rcases hy with⟨_,hy⟩|hy
   ·exact(hS.aa6 hy).1
   ·exact absurd he hy
  ·rcases hw' with⟨z0,_,hz,hz'⟩|⟨z0,_⟩
   ·rw[Qg z0,Qo,Ql,ha];refine .some ⟨(w.1,s.2),rfl,hz,?_,fun j hj=> ?_⟩
    ·show w.1.aQ.length=_;rw[hz'];show(s.1.aQ.set i y.1).length=_;rw[QX,g2]
    ·show w.1.aQ[j]?=_;rw[hz'];show(s.1.aQ.set i y.1)[j]?=_;rw[List.getElem?_set_ne (by omega),g3 j (by omega)]
   ·rw[Qh z0];exact .some (.inr z0)
 ·simp only[hd,Ql];exact .some (.inl ⟨rfl,g1⟩)
theorem aeI:Yd (yn p now) (Pq nd (k+1)):=by
 unfold yn;simp only[bG.eta,aB.eta,ae.eta,etas,az.eta];refine(sP h (by omega)).bind fun r _=>Yd.cond (fun _=> .some (.inr (by decide))) (fun _=>Yd.cond (fun _=> .some (.inl ⟨rfl,h.le (by omega)⟩)) (fun _=> ?_))
 exact Zt h hk0 hk h0 h1 (g:=fun x=>uv x now) (fun x hx=>acN hx.2.2 hk h0 h1) (t:=p.ab) h.aR _
theorem afH{t:aa}(ht:cn t):Yd (tB p t) (Pq nd (k+1)):=by
 unfold tB;simp only[bG.eta,aB.eta,ae.eta,etas,az.eta];refine(sP h (by omega)).bind fun r _=>Yd.cond (fun _=> .some (.inr (by decide))) (fun _=>Yd.cond (fun _=> .some (.inl ⟨rfl,h.le (by omega)⟩)) (fun _=> ?_))
 rw[jH ht.sm,Qa,l5 ht];simp only[decide_true,Qo,Ql];exact Zt h hk0 hk h0 h1 (g:=fun x=>ph x t) (fun x hx=>Wt hx.2.2 hk ht) (t:=t) ht _
end
end
section
theorem aeO{n:aB}(h:ik n)(hs:1<=n.aO):Dx ⟨n.ao,n.aO,n.ab,n.dw,n.bB⟩:=⟨h.ask.v0,h.ask.v1,hs,h.ask.aR,h.gV,h.jX⟩
structure aie (l:bM):Prop where
 t1:cJ l.aE.ab
 t2:cJ l.aD.ab
 v:l.aE.dw.length<=1000000
 a:l.aE.bB.length<=1000000
def Fy(nd:Int)(l:bM):Prop:=acq nd l/\aie l
theorem Y9{nd k:Int}{x:bG}(h:JE nd k x)(hk:k<=999998):Yd (tD x) fun l=>l.length<=2/\∀y∈l,Fy nd y:=by
 have p:=h.2.2.pre;have hz:cJ (aa.mk (0:Int) ([]:List Int) ([]:List aa)):=LG;unfold tD vZ;simp only[aB.eta,ae.eta,etas,rC h.2.2 (by omega),Qa,Qo,Ql]
 refine Yd.join (fun v=>v.1.length<=1/\∀y∈v.1,Fy nd y) (fun v ⟨hv,hvy⟩=> ?_) (fun j' hj=> ?_)
 ·refine Yd.join (fun v=>v.1.length<=2/\∀y∈v.1,Fy nd y) (fun v hv=> .some hv) (fun j' hj=> ?_)
  rw[RH p.mY p.rE,Qa];refine Yd.cond (fun hz'=> ?_) (fun _=>hj _ ⟨QK hv (by decide),hvy⟩)
  have hzb:aT x.aC.af=false:=by simpa using hz'
  rw[ba (by simp;omega),Qk]
  refine hj _ ⟨by simp;omega,fun y hy=> ?_⟩
  rcases Qz.1 hy with hy|hy
  ·exact hvy y hy
  ·rw[Q4]at hy;rw[hy,hzb];have ht:cJ (df x.aC).ab:=by rw[oW];exact p.mY.aR.sm
   exact⟨⟨fun e=>absurd (show(2:Int)=1 from e) (by decide),fun _=>⟨ht,fun _=>⟨by show cn (df x.aC).ab;rw[oW];exact p.mY.aR,by show(df x.aC).ao=nd;rw[Hm];exact p.aJ⟩⟩,h.1,h.2.1⟩,⟨hz,ht,QS _,QS _⟩⟩
 ·refine Yd.cond (fun _=> ?_) (fun _=>hj _ ⟨QS _,fun y hy=>by cases hy⟩)
  rw[ba (by simp),Qk]
  refine hj _ ⟨by simp,fun y hy=> ?_⟩
  have hy:=Q4.1 (show y∈[_]from hy)
  rw[hy];have hn:=aeO p.xD p.sW.1;exact⟨⟨fun _=>⟨hn,p.we⟩,fun e=>absurd (show(1:Int)=2 from e) (by decide),h.1,h.2.1⟩,⟨p.xD.ask.aR.sm,hz,p.xD.gV.AO,p.xD.jX.AO⟩⟩
theorem Y8{nd k:Int}{p:az}(h:mI nd k p)(hk:k<=999998):Yd (tz p) fun l=>l.length<=16/\∀y∈l,Fy nd y:=by
 have hlen:=h.len;unfold tz;simp only[bG.eta,aB.eta,ae.eta,etas,az.eta];refine(sP h (by omega)).bind fun r _=> ?_
 have hb:∃b,(bif (!r)then some true else some p.fQ)=some b:=by cases r<;>exact⟨_,rfl⟩
 obtain⟨b,hb⟩:=hb;rw[hb,Qa];refine Yd.cond (fun _=> .some ⟨by simp,fun y hy=>by cases hy⟩) (fun _=> ?_)
 refine Yd.list p.aQ (by omega) (fun i (s:List bM)=>(i,s,())) (fun i s=>s.length<=2*i/\∀y∈s,Fy nd y) (fun i x s ⟨g1,g2⟩ _ hx hi hd hw ha=> ?_) (fun s ⟨g1,g2⟩ hd=> ?_) (s:=[]) ⟨by simp,fun y hy=>by cases hy⟩
 ·simp only[hd,Qk,hw,Qa];refine(Y9 (h.bx x hx) hk).bind fun l ⟨hl,hly⟩=> ?_
  rw[ba (by omega),Qk,ha]
  refine .some ⟨_,rfl,by rw[QB];omega,fun y hy=> ?_⟩
  rcases Qz.1 hy with hy|hy
  ·exact g2 y hy
  ·exact hly y hy
 ·simp only[hd,Ql];exact .some ⟨by omega,g2⟩
structure Is (q:dv):Prop where
 f0:0<=q.lu
 f1:q.lu<=9
 t0:0<=q.To
 t1:q.To<=9
 ne:q.lu≠q.To
 l:Fy q.lu q.aF
structure wT (w:bq):Prop where
 len:w.bh.length<=4000
 par:∀q∈w.bh,Is q
 parts:w.hY.length<=1000000
 Am:w.eE.length=0\/w.eE.length=100
theorem No(l:List Int)(hl:l.length<=1000000):Yd (kR l) fun _=>True:=by
 unfold kR;refine Yd.list l hl (fun i (s:Int)=>(s,i,())) (fun _ _=>True) (fun i x s _ _ hx hi hd hw ha=> ?_) (fun s _ hd=> ?_) (s:=0) trivial
 ·simp only[hd,Qk,hw,Qa,ha];generalize bp .i64 s x=z;cases decide (x<(1:Int))<;>cases decide ((1023:Int)<x)<;>cases decide (z=(0:Int))<;>first|exact .some trivial|exact .some ⟨_,rfl,trivial⟩
 ·simp only[hd,Ql];exact .some trivial
theorem Ad(n:Int):∃b,eY n=some b/\(b=true↔0<=n/\n<=9):=by
 unfold eY
 by_cases h:0<=n
 ·exact⟨decide (n<=9),by simp[h],by simp[h]⟩
 ·exact⟨false,by simp[h],by simp[h]⟩
theorem TT(a b:dv):∃r,je a b=some r:=by
 unfold je;cases decide (a.lg=b.lg)<;>cases decide (a.lu=b.lu)<;>cases decide (a.To=b.To)<;>exact⟨_,rfl⟩
theorem or_some{b:Bool}{o:Option Bool}(h:∃r,o=some r):∃r,(bif b then some true else o)=some r:=by
 cases b
 ·exact h
 ·exact⟨_,rfl⟩
theorem Ca{b:Bool}{o:Option Bool}(h:∃r,o=some r):∃r,(bif b then o else some false)=some r:=by
 cases b
 ·exact⟨_,rfl⟩
 ·exact h
theorem Yd.bool{β:Type}{o:Option Bool}{f:Bool->Option β}{q:β->Prop}(h:∃r,o=Option.some r)(k:∀b,Yd (f b) q):Yd (o.bind f) q:=by
 obtain⟨r,e⟩:=h;rw[e,Qa];exact k r
theorem zh{w:bq}(h:wT w):Yd (eG w) fun _=>True:=by
 have hlen:=h.len;have hparts:=h.parts;have hdl:w.eE.length<=1000000:=by rcases h.Am with e|e<;>omega
 unfold eG;obtain⟨pr,hpr,_⟩:=No w.hY hparts;simp only[aN.eta,aj.eta,bM.eta,dv.eta,etas,hpr,Qa];refine Yd.bool (or_some ⟨_,rfl⟩) fun b1=>Yd.bool (or_some ⟨_,rfl⟩) fun b2=>Yd.bool (or_some ⟨_,rfl⟩) fun b4=>Yd.bool (or_some ?_) fun b6=>Yd.cond (fun _=> .some trivial) (fun _=> ?_)
 ·cases decide (((List.length w.eE:Nat):Int)=(0:Int))<;>exact⟨_,rfl⟩
 refine Yd.list w.eE hdl (fun i (_:Unit)=>(i,())) (fun _ _=>True) (fun i x s _ _ hx hi hd hw ha=> ?_) (fun s _ hd=> ?_) (s:=()) trivial
 ·simp only[hd,Qk,hw,Qa,ha];refine Yd.bool (or_some ⟨_,rfl⟩) fun b9=>Yd.cond (fun _=> .some trivial) (fun _=> .some ⟨(),rfl,trivial⟩)
 ·simp only[hd,Ql];refine Yd.inr ?_;show Yd _ fun _=>True
  refine Yd.list w.bh (by omega) (fun i (_:Unit)=>(i,())) (fun _ _=>True) (fun i x s _ _ hx hi hd hw ha=> ?_) (fun s _ hd=> ?_) (s:=()) trivial
  ·simp only[hd,Qk,hw,Qa];refine Yd.join (fun _=>True) (fun v _=>Yd.cond (fun _=> .some trivial) (fun _=> .some ⟨(),by rw[ha],trivial⟩)) (fun j' hj=> ?_)
   obtain⟨n1,e1,_⟩:=Ad x.lu;obtain⟨n2,e2,_⟩:=Ad x.To;rw[e1,e2];simp only[Qa];refine Yd.cond (fun _=>hj _ trivial) (fun _=>Yd.cond (fun _=>hj _ trivial) (fun _=>Yd.cond (fun _=>hj _ trivial) (fun _=>Yd.cond (fun _=>hj _ trivial) (fun _=>Yd.cond (fun _=>hj _ trivial) (fun _=>Yd.cond (fun _=>hj _ trivial) (fun _=>Yd.cond (fun _=>hj _ trivial) (fun _=>Yd.cond (fun h0=> ?_) (fun _=>hj _ trivial))))))))
   have h0:=of_decide_eq_true h0;obtain⟨m,rfl⟩:∃m:Nat,i=m+1:=⟨i - 1,by omega⟩
   rw[jA (by omega) (by omega),show(((m+1:Nat):Int)) - 1=(m:Int)by omega,aP,Qv (show m<w.bh.length by omega),Qa]
   obtain⟨r,hr⟩:=TT w.bh[m] x;rw[hr,Qa];exact hj _ trivial
  ·simp only[hd,Ql];exact .some trivial
theorem Ct{n:Int}(h1:0<=n)(h2:n<18446744073709551616):IntKind.u64.wrap n=n:=by
 show(n % 18446744073709551616)=n;omega
theorem W9(a:Int){b:Int}(h0:0<=b)(h1:b<=1000):∃r,sR a b=some r:=by
 unfold sR;have hc:bz .u64 b=b:=by unfold bz;exact Ct h0 (by omega)
 rw[hc,Qs (by omega)]
 cases decide ((0:Int)<=a)<;>cases decide (a<=(1023:Int))<;>exact⟨_,rfl⟩
theorem YN{w:bq}(h:wT w){b:Int}(h0:0<=b)(h1:b<=1000):Yd (ur w b) fun _=>True:=by
 unfold ur;refine Yd.list w.hY h.parts (fun i (_:Unit)=>(i,())) (fun _ _=>True) (fun i x s _ _ hx hi hd hw ha=> ?_) (fun s _ hd=> ?_) (s:=()) trivial
 ·simp only[hd,Qk,hw,Qa,ha];exact Yd.bool (W9 x h0 h1) fun r=>Yd.cond (fun _=> .some trivial) (fun _=> .some ⟨(),rfl,trivial⟩)
 ·simp only[hd,Ql];exact .some trivial
theorem aej{w:bq}(h:wT w){a b:Int}(ha0:0<=a)(ha1:a<=9)(hb0:0<=b)(hb1:b<=9):∃r,sA w a b=some r:=by
 suffices key:Yd (sA w a b) fun _=>True by
  obtain⟨r,hr,_⟩:=key;exact⟨r,hr⟩
 unfold sA;obtain⟨n1,e1,_⟩:=Ad a;obtain⟨n2,e2,_⟩:=Ad b;rw[e1,e2];simp only[Qa];refine Yd.bool (or_some ⟨_,rfl⟩) fun b3=>Yd.cond (fun _=> .some trivial) (fun _=> ?_)
 refine(YN h ha0 (by omega)).bind fun r4 _=>(YN h hb0 (by omega)).bind fun r5 _=> ?_
 refine Yd.list w.hY h.parts (fun i (_:Unit)=>(i,())) (fun _ _=>True) (fun i x s _ _ hx hi hd hw ha=> ?_) (fun s _ hd=> ?_) (s:=()) trivial
 ·simp only[hd,Qk,hw,Qa,ha];obtain⟨r9,h9⟩:=W9 x hb0 (by omega)
  refine Yd.bool (W9 x ha0 (by omega)) fun r8=>Yd.bool (Ca ⟨r9,by rw[h9];rfl⟩) fun b10=>Yd.cond (fun _=> .some trivial) (fun _=> .some ⟨(),rfl,trivial⟩)
 ·simp only[hd,Ql];refine Yd.inr ?_;exact Yd.bool (Ca ⟨_,rfl⟩) fun b11=>Yd.bool (Ca ⟨_,rfl⟩) fun b12=> .some trivial
theorem agU{w:bq}(h:wT w)(now:Int):Yd (zS w now) fun q=>q.1.length<=4000/\(∀x∈q.1,Is x)/\wT q.2.1:=by
 have hlen:=h.len;unfold zS;simp only[aN.eta,aj.eta,bM.eta,dv.eta,etas];refine(zh h).bind fun r _=>Yd.cond (fun _=> .some ⟨QS _,(fun x hx=>by cases hx),h⟩) (fun _=> ?_)
 refine Yd.CW (fun s=>∃(i:Nat) (l:List dv),s=((i:Int),l,())/\i<=w.bh.length/\l.length<=i/\∀x∈l,Is x) (fun s=>w.bh.length - s.1.toNat) (fun s hs=> ?_) (s:=((0:Int),([]:List dv),())) ⟨0,[],rfl,QS _,QI _,fun x hx=>by cases hx⟩
 obtain⟨i,l,rfl,hi,hl,hly⟩:=hs
 have fin:Yd (Option.map (Sum.inr (α:=Int×List dv×Unit)) (bif eA ((i:Nat):Int) (w.bh.length:Int) (List.length w.bh)then
   bif aX 344 (List.length ((w.bh.take (Int.toNat (w.bh.length:Int))).drop (Int.toNat (i:Int))))then some (l,{w with bh:=((w.bh.take (Int.toNat (w.bh.length:Int))).drop (Int.toNat (i:Int)))},())else none else none))
   (Lp (fun s'=>(∃(i:Nat) (l:List dv),s'=((i:Int),l,())/\i<=w.bh.length/\l.length<=i/\∀x∈l,Is x)/\w.bh.length - s'.1.toNat<w.bh.length - ((i:Int),l,()).1.toNat) (fun q:List dv×bq×Unit=>q.1.length<=4000/\(∀x∈q.1,Is x)/\wT q.2.1)):=by
  have hd2:(w.bh.take (Int.toNat (w.bh.length:Int))).drop (Int.toNat ((i:Nat):Int))=w.bh.drop i:=by simp
  rw[tQ hi,Qk,hd2,ba (by rw[List.length_drop];omega),Qk]
  exact .some ⟨by show l.length<=4000;omega,hly,by show(w.bh.drop i).length<=4000;rw[List.length_drop];omega,fun q hq=>h.par q (Q1 hq),h.parts,h.Am⟩
 simp only[];rcases Nat.lt_or_ge i w.bh.length with hlt|hge
 ·have hx:w.bh[i]?=some w.bh[i]:=Qv hlt;have hp:=h.par _ (QZ hlt);rw[Qg (show((i:Nat):Int)<(w.bh.length:Int)by omega),Qk,aP,hx]
  simp only[Qa];refine Yd.cond (fun _=> ?_) (fun _=>fin)
  refine Yd.join (fun v=>v.1.length<=i+1/\∀x∈v.1,Is x) (fun v ⟨g1,g2⟩=> ?_) (fun j' hj=> ?_)
  ·rw[bN (by omega) (by omega)]
   refine .some ⟨⟨i+1,v.1,rfl,hlt,g1,g2⟩,?_⟩;show w.bh.length - ((i:Int)+1).toNat<w.bh.length - ((i:Int)).toNat;omega
  ·obtain⟨r8,h8⟩:=aej h hp.f0 hp.f1 hp.t0 hp.t1;rw[h8,Qa];refine Yd.cond (fun _=> ?_) (fun _=>hj _ ⟨by show l.length<=i+1;omega,hly⟩)
   rw[ba (by simp;omega),Qk]
   refine hj _ ⟨by simp;omega,fun x hx=> ?_⟩
   rcases Qz.1 (show x∈l++[_]from hx)with hx|hx
   ·exact hly x hx
   ·rw[Q4.1 hx];exact hp
 ·rw[Qh (show¬((i:Nat):Int)<(w.bh.length:Int)by omega),Ql,Qa,Ql]
  exact fin
theorem U7{a b:Int}(ha0:0<=a)(ha1:a<=9)(hb0:0<=b)(hb1:b<=9):∃m:Nat,aq .i64 (tX .i64 a (10:Int)) b=m/\m<100:=by
 have e:tX .i64 a 10=a*10:=wrap64 (by omega) (by omega)
 rw[e,bN (by omega) (by omega)]
 exact⟨(a*10+b).toNat,by omega,by omega⟩
theorem ad1{w:bq}(h:wT w){a b:Int}(ha0:0<=a)(ha1:a<=9)(hb0:0<=b)(hb1:b<=9):∃r,wx w a b=some r:=by
 obtain⟨m,hm,hm1⟩:=U7 ha0 ha1 hb0 hb1;unfold wx;rw[hm,aP];rcases h.Am with e|e
 ·rw[Qg (show((List.length w.eE:Nat):Int)=0 by omega)]
  exact⟨_,rfl⟩
 ·rw[Qh (show¬((List.length w.eE:Nat):Int)=0 by omega),Qv (show m<w.eE.length by omega)]
  simp only[Ql,Qa];cases decide (w.eE[m]=(0:Int))<;>exact⟨_,rfl⟩
def Nq(q:bq×Int×Unit):Prop:=q.2.1=0->wT q.1
theorem Yi{w:bq}(h:wT w){a b:Int}{l:bM}(hl:Fy a l)(now:Int):Yd (uu w a b l now) Nq:=by
 have hlen:=h.len;have no:∀{z:bq} {e:Int},e≠0->Yd (some (z,e,())) Nq:=fun he=> .some fun h0=>absurd h0 he
 unfold uu;simp only[aN.eta,aj.eta,bM.eta,dv.eta,etas];refine(zh h).bind fun r _=>Yd.cond (fun _=>no (by decide)) (fun _=> ?_)
 obtain⟨n1,e1,f1⟩:=Ad a;obtain⟨n2,e2,f2⟩:=Ad b;rw[e1,e2];simp only[Qa]
 obtain⟨b5,h5,g5⟩:∃b5:Bool,(∀K:Bool->Option (bq×Int×Unit),(Option.bind (bif (!n1)then some true else some (!n2)) fun b4=>Option.bind (bif b4 then some true else some (decide (a=b))) fun b5=>K b5)=K b5)/\(b5=false->(0<=a/\a<=9)/\(0<=b/\b<=9)/\a≠b):=by
  cases n1 with
  |false=>exact⟨true,fun K=>rfl,fun e=>by cases e⟩
  |true=>
   cases n2 with
   |false=>exact⟨true,fun K=>rfl,fun e=>by cases e⟩
   |true=>exact⟨decide (a=b),fun K=>rfl,fun e=>⟨f1.1 rfl,f2.1 rfl,of_decide_eq_false e⟩⟩
 rw[h5];refine Yd.cond (fun _=>no (by decide)) (fun hb=> ?_)
 obtain⟨⟨a0,a1⟩,⟨b0,b1⟩,hne⟩:=g5 hb;refine Yd.bool (or_some ⟨_,rfl⟩) fun b6=>Yd.cond (fun _=>no (by decide)) (fun _=> ?_)
 obtain⟨b7,h7,g7⟩:∃b7:Bool,(bif (decide (((List.length w.bh:Nat):Int)=(4000:Int)))then some true else some (decide (w.Next=(1000000000:Int))))=some b7/\(b7=false->w.bh.length≠4000):=by
  by_cases e:((List.length w.bh:Nat):Int)=4000
  ·exact⟨true,by rw[Qg e];rfl,fun e=>by cases e⟩
  ·exact⟨_,by rw[Qh e];rfl,fun _=>by omega⟩
 rw[h7,Qa];refine Yd.cond (fun _=>no (by decide)) (fun hb7=> ?_)
 have h4:=g7 hb7;obtain⟨r8,h8⟩:=ad1 h a0 a1 b0 b1;rw[h8,Qa];refine Yd.CW (fun s=>∃i:Nat,s=((i:Int),())/\i<=w.bh.length) (fun s=>s.1.toNat) (fun s hs=> ?_) (s:=(((List.length w.bh:Nat):Int),())) ⟨w.bh.length,rfl,QI _⟩
 obtain⟨i,rfl,hi⟩:=hs;refine Yd.join (fun v=>v.1=true->0<i) (fun v hv=> ?_) (fun j' hj=> ?_)
 ·refine Yd.cond (fun hc=> ?_) (fun _=> ?_)
  ·have h0:=hv hc;rw[show((i:Nat):Int)=(((i - 1:Nat):Int)+1)by omega,jA (by omega) (by omega)]
   exact .some ⟨⟨i - 1,by simp,by omega⟩,by show((((i - 1:Nat):Int)+1) - 1).toNat<((((i - 1:Nat):Int)+1)).toNat;omega⟩
  ·refine Yd.inr ?_;have hn:aq .i64 ((List.length w.bh:Nat):Int) (1:Int)=((w.bh.length+1:Nat):Int):=by rw[bN (by omega) (by omega)];omega
   have hd1:(w.bh.take (Int.toNat ((i:Nat):Int))).drop (Int.toNat 0)=w.bh.take i:=by simp
   have hd2:(w.bh.take (Int.toNat (w.bh.length:Int))).drop (Int.toNat ((i:Nat):Int))=w.bh.drop i:=by simp
   have hlt:=List.length_take_le i w.bh;simp only[hn,hd1,hd2,Int.toNat_zero,List.replicate_zero,List.nil_append];rw[Qg (show(0:Int)<=((w.bh.length+1:Nat):Int)by omega),Qg (Int.le_refl 0),ba (by rw[QV];omega),Bool.true_and,Bool.true_and,Qk,tP hi,Qk,ba (by simp;omega),Qk,ba (by simp;omega),Qk,tQ hi,Qk,ba (by simp;omega),Qk]
   refine .some fun _=>⟨by simp;omega,fun q hq=> ?_,h.parts,h.Am⟩
   rcases Qz.1 hq with hq|hq
   ·rcases Qz.1 hq with hq|hq
    ·exact h.par q (Q0 hq)
    ·rw[Q4.1 hq];exact⟨a0,a1,b0,b1,hne,hl⟩
   ·exact h.par q (Q1 hq)
 ·refine Yd.cond (fun h0=> ?_) (fun _=>hj _ fun e=>by cases e)
  have h0:=of_decide_eq_true h0;obtain⟨m,rfl⟩:∃m:Nat,i=m+1:=⟨i - 1,by simp only at h0;omega⟩
  simp only[];rw[jA (by omega) (by omega),show(((m+1:Nat):Int)) - 1=(m:Int)by omega,aP,Qv (show m<w.bh.length by omega),Qa]
  exact Yd.bool (TT _ _) fun r=>hj _ fun _=>by omega
theorem ac5{w:bq}(h:wT w){l:List Int}(hl:l.length<=1000000):Yd (ym w l) Nq:=by
 have no:∀{z:bq} {e:Int},e≠0->Yd (some (z,e,())) Nq:=fun he=> .some fun h0=>absurd h0 he
 unfold ym;refine(zh h).bind fun r _=>Yd.cond (fun _=>no (by decide)) (fun _=>(No l hl).bind fun r2 _=>Yd.cond (fun _=>no (by decide)) (fun _=> ?_))
 rw[ba (by omega),Qk]
 exact .some fun _=>⟨h.len,h.par,hl,h.Am⟩
theorem abd{α:Type}(l m:List α):(jL l 0 l.length m).length=l.length:=by
 unfold jL;simp;omega
theorem aa8{w:bq}(h:wT w)(a b c:Int):Yd (wy w a b c) Nq:=by
 have no:∀{z:bq} {e:Int},e≠0->Yd (some (z,e,())) Nq:=fun he=> .some fun h0=>absurd h0 he
 unfold wy;refine(zh h).bind fun r _=>Yd.cond (fun _=>no (by decide)) (fun _=> ?_)
 obtain⟨n1,e1,f1⟩:=Ad a;obtain⟨n2,e2,f2⟩:=Ad b;rw[e1,e2];simp only[Qa]
 cases n1 with
 |false=>exact no (by decide)
 |true=>
  cases n2 with
  |false=>exact no (by decide)
  |true=>
   obtain⟨a0,a1⟩:=f1.1 rfl;obtain⟨b0,b1⟩:=f2.1 rfl;simp only[Qo,Ql,Qa];refine Yd.bool (or_some ⟨_,rfl⟩) fun b5=>Yd.cond (fun _=>no (by decide)) (fun _=> ?_)
   obtain⟨m,hm,hm1⟩:=U7 a0 a1 b0 b1;have h100:Int.toNat (100:Int)=100:=rfl;refine Yd.cond (fun _=> ?_) (fun hf=>absurd hf (by decide))
   rw[hm,h100];have hlen:(jL (List.replicate 100 (0:Int)) 0 (List.length (List.replicate 100 (0:Int))) w.eE).length=100:=by rw[abd,List.length_replicate]
   have key:∀D:List Int,D.length=100->Yd ((D[m]?).bind fun x6=>(D[m]?).bind fun x7=>some ({w with eE:=D.set m c},(0:Int),())) Nq:=fun D hD=>by
    rw[Qv (show m<D.length by omega),Qa,Qa]
    exact .some fun _=>⟨h.len,h.par,h.parts,.inr (by show(D.set m c).length=100;rw[QX,hD])⟩
   rw[aP,QV];exact key _ hlen
end
section
structure gg (k:Int) (w:aS):Prop where
 t0:0<=w.Time
 t1:w.Time<=200
 n0:1<=w.au.length
 n1:w.au.length<=4
 nodes:∀(i:Nat) (x:az),w.au[i]?=some x->mI (i:Int) k x
 BN:wT w.Net
 tl:w.bO.length=w.au.length
 tr:∀l∈w.bO,l.length<=4/\∀t∈l,cn t
theorem gg.Rk{k:Int}{w:aS}(h:gg k w):∀l∈w.bO,l.length<=4/\∀t∈l,cJ t:=fun l hl=>⟨(h.tr l hl).1,fun t ht=>((h.tr l hl).2 t ht).sm⟩
theorem gg.le{k k':Int}{w:aS}(h:gg k w)(hk:k<=k'):gg k' w:=⟨h.t0,h.t1,h.n0,h.n1,fun i x hx=>(h.nodes i x hx).le hk,h.BN,h.tl,h.tr⟩
theorem gg.Wa{k:Int}{w:aS}(h:gg k w){n:bq}(hn:wT n):gg k {w with Net:=n}:=⟨h.t0,h.t1,h.n0,h.n1,h.nodes,hn,h.tl,h.tr⟩
theorem W8(l:List aa)(hl:l.length<=100)(hs:∀t∈l,cJ t)(t:aa):∃r,lU l t=some r:=by
 suffices key:Yd (lU l t) fun _=>True by
  obtain⟨r,hr,_⟩:=key;exact⟨r,hr⟩
 unfold lU;simp only[etas];refine Yd.list l (by omega) (fun i (_:Unit)=>(i,())) (fun _ _=>True) (fun i x s _ _ hx hi hd hw ha=> ?_) (fun s _ hd=> ?_) (s:=()) trivial
 ·simp only[hd,Qk,hw,Qa,ha];obtain⟨r,hr,_⟩:=B0 (a:=x) (b:=t) (hs x hx);rw[hr,Qa];exact Yd.cond (fun _=> .some trivial) (fun _=> .some ⟨(),rfl,trivial⟩)
 ·simp only[hd,Ql];exact .some trivial
theorem CX{n:Nat}(h:n<=1000):bz .u64 ((n:Nat):Int)=n:=by unfold bz;exact Ct (by omega) (by omega)
theorem Ge(w:aS){i:Int}(h0:0<=i)(h1:i<=1000):∃r,iH w i=some r:=by
 unfold iH;have hc:bz .u64 i=i:=by unfold bz;exact Ct h0 (by omega)
 rw[hc,Qs (by omega)]
 exact⟨_,rfl⟩
theorem UT(w:aS)(i:Int):∃r,sz w i=some r/\(r=true->∃m:Nat,i=m/\m<w.au.length):=by
 unfold sz
 by_cases h:0<=i
 ·refine⟨decide (i<((List.length w.au:Nat):Int)),by simp[h],fun e=>⟨i.toNat,by omega,by have:=of_decide_eq_true e;omega⟩⟩
 ·exact⟨false,by simp[h],fun e=>by cases e⟩
theorem aed{k:Int}{w:aS}(h:gg k w)(hk:k<=999999):Yd (fO w) fun _=>True:=by
 have hn:=h.n1;have htl:=h.tl;obtain⟨rn,hrn,_⟩:=zh h.BN;unfold fO;simp only[etas,az.eta,hrn,Qa];refine Yd.bool (or_some ⟨_,rfl⟩) fun b1=>Yd.bool (or_some ⟨_,rfl⟩) fun b2=>Yd.bool (or_some ⟨_,rfl⟩) fun b3=>Yd.bool (or_some ⟨_,rfl⟩) fun b4=>Yd.bool (or_some ?_) fun b5=>Yd.bool (or_some ⟨_,rfl⟩) fun b7=>Yd.bool (or_some ⟨_,rfl⟩) fun b8=>Yd.cond (fun _=> .some trivial) (fun _=> ?_)
 ·rw[CX (by omega),Qs (by omega)]
  exact⟨_,rfl⟩
 refine Yd.list w.au (by omega) (fun i (_:Unit)=>(i,())) (fun _ _=>True) (fun i x s _ _ hx hi hd hw ha=> ?_) (fun s _ hd=> ?_) (s:=()) trivial
 ·have hx':w.au[i]?=some x:=by rw[<-hw,aP]
  have hT:w.bO[i]?=some w.bO[i]:=Qv (by omega)
  obtain⟨g1,g2⟩:=h.Rk _ (QZ (show i<w.bO.length by omega))
  simp only[hd,Qk,hw,Qa];refine Yd.join (fun _=>True) (fun v _=>Yd.cond (fun _=> .some trivial) (fun _=> ?_)) (fun j' hj=> ?_)
  ·rw[aP,hT,Qa];refine Yd.list w.bO[i] (by omega) (fun i (_:Unit)=>(i,())) (fun _ _=>True) (fun j t s _ _ ht hj hd' hw' ha'=> ?_) (fun s _ hd'=> ?_) (s:=()) trivial
   ·simp only[hd',Qk,hw',Qa];refine Yd.join (fun _=>True) (fun v _=>Yd.cond (fun _=> .some trivial) (fun _=> .some ⟨(),by rw[ha'],trivial⟩)) (fun j' hj'=> ?_)
    rw[tP (by omega),Qk]
    refine Yd.bool (W8 _ ?_ (fun u hu=>g2 u (Q0 (Q1 hu))) t) fun r19=>Yd.cond (fun _=>hj' _ trivial) (fun _=> ?_)
    ·rw[List.length_drop,List.length_take];omega
    ·rw[jH (g2 t ht),Qa];exact hj' _ trivial
   ·simp only[hd',Ql];exact .some ⟨(),by rw[ha],trivial⟩
  ·refine Yd.cond (fun _=>hj _ trivial) (fun _=>(sP (h.nodes i x hx') hk).bind fun r _=>Yd.cond (fun _=>hj _ trivial) (fun _=> ?_))
   rw[aP,hT,Qa];refine Yd.cond (fun _=>hj _ trivial) (fun _=> ?_)
   rw[Qa];exact Yd.bool (W8 _ (by omega) g2 _) fun r24=>hj _ trivial
 ·simp only[hd,Ql];exact .some trivial
theorem KP{k k':Int}{w:aS}(h:gg k w)(hk:k<=k'){i:Nat}(hi:i<w.au.length){p:az}(hp:mI (i:Int) k' p):
  Yd (nW w p) fun q=>q={w with au:=w.au.set i p}/\gg k' q:=by
 have hn:=h.n1;unfold nW;simp only[etas,az.eta];rw[ba (by omega),Qk,hp.aJ,aP,QV,Qv hi,Qa,Qa]
 refine .some ⟨rfl,h.t0,h.t1,by show 1<=(w.au.set i p).length;rw[QX];exact h.n0,by show(w.au.set i p).length<=4;rw[QX];exact hn,fun j x hx=> ?_,h.BN,by show w.bO.length=(w.au.set i p).length;rw[QX];exact h.tl,h.tr⟩
 have hx:(w.au.set i p)[j]?=some x:=hx
 by_cases e:i=j
 ·subst e;rw[List.getElem?_set_self hi]at hx;injection hx with hx
  rw[<-hx];exact hp
 ·rw[List.getElem?_set_ne e]at hx;exact(h.nodes j x hx).le hk
theorem aeH{k:Int}{w:aS}(h:gg k w)(hk0:0<=k)(hk:k<=990000):Yd (yk w) fun q=>q.2.1=0->gg (k+4001) q.1/\q.1.Time=w.Time+1:=by
 have hn1:=h.n1;have ht1:=h.t1;have ht0:=h.t0;unfold yk;simp only[aN.eta,aj.eta,bM.eta,etas,az.eta];refine Yd.cond (fun _=> .some fun e=>absurd e (by decide)) (fun ht=> ?_)
 have ht:=of_decide_eq_false ht;rw[bN (by omega) (by omega)]
 refine(agU h.BN (w.Time+1)).bind fun r ⟨r1,r2,r3⟩=> ?_
 refine Yd.list r.1 (by omega) (fun i (s:aS)=>(i,s,())) (fun i s=>gg (k+i) s/\s.Time=w.Time+1/\s.au.length=w.au.length) (fun i q s ⟨g1,g2,g3⟩ _ hq hi hd hw ha=> ?_) (fun s ⟨g1,g2,g3⟩ hd=> ?_)
  (s:={w with Time:=w.Time+1,Net:=r.2.1}) ⟨⟨by show 0<=w.Time+1;omega,by show w.Time+1<=200;omega,h.n0,h.n1,fun i x hx=>by rw[show k+((0:Nat):Int)=k by omega];exact h.nodes i x hx,r3,h.tl,h.tr⟩,rfl,rfl⟩
 ·have hp:=r2 q hq;simp only[hd,Qk];refine Yd.join (fun v=>gg (k+((i+1:Nat):Int)) v.1/\v.1.Time=w.Time+1/\v.1.au.length=w.au.length) (fun v hv=> .some ⟨_,by rw[ha],hv⟩) (fun j' hj=> ?_)
  have stay:gg (k+((i+1:Nat):Int)) s/\s.Time=w.Time+1/\s.au.length=w.au.length:=⟨g1.le (by omega),g2,g3⟩
  rw[hw,Qa];obtain⟨sk,hsk⟩:=Ge s hp.t0 (by have:=hp.t1;omega)
  rw[hsk]
  by_cases hto:((List.length s.au:Nat):Int)<=q.To
  ·rw[Qg hto];exact hj _ stay
  ·rw[Qh hto];simp only[Ql,Qa];refine Yd.cond (fun _=>hj _ stay) (fun _=> ?_)
   obtain⟨m,hm⟩:∃m:Nat,q.To=m:=⟨q.To.toNat,by have:=hp.t0;omega⟩
   have hml:m<s.au.length:=by omega
   rw[hm,aP,Qv hml,Qa,g2];refine(afm (g1.nodes m _ (Qv hml)) (by omega) (by omega) (now:=w.Time+1) (by omega) (by omega) hp.l.1 (by rw[<-hm];exact hp.ne)).bind fun y hy=> ?_
   refine Yd.cond (fun y0=> ?_) (fun _=>hj _ stay)
   rcases hy with⟨_,hy⟩|hy
   ·refine(KP g1 (show k+(i:Int)<=k+((i+1:Nat):Int)by omega) hml (p:=y.1) (by rw[show k+((i+1:Nat):Int)=k+(i:Int)+1 by omega];exact hy)).bind fun z ⟨z1,z2⟩=>hj _ ⟨z2,?_,?_⟩
    ·rw[z1];exact g2
    ·rw[z1];show(s.au.set m y.1).length=_;rw[QX,g3]
   ·exact absurd (of_decide_eq_true y0) hy
 simp only[hd,Ql];refine Yd.inr ?_;have K0:k+(r.1.length:Int)<=k+4000:=by omega
 have g1:=g1.le K0
 refine Yd.list s.au (by omega) (fun i (s:aS)=>(i,s,())) (fun i u=>gg (k+4001) u/\u.Time=w.Time+1/\u.au.length=s.au.length/\∀(j:Nat) (x:az),i<=j->u.au[j]?=some x->mI (j:Int) (k+4000) x) (fun i x u ⟨f1,f2,f3,f4⟩ _ hx hi hd hw ha=> ?_) (fun u ⟨f1,f2,f3,_⟩ hd=> ?_)
  (s:=s) ⟨g1.le (by omega),g2,rfl,fun j x _ hx=>g1.nodes j x hx⟩
 ·simp only[hd,Qk];refine Yd.join (fun v=>gg (k+4001) v.1/\v.1.Time=w.Time+1/\v.1.au.length=s.au.length/\∀(j:Nat) (x:az),i+1<=j->v.1.au[j]?=some x->mI (j:Int) (k+4000) x) (fun v hv=> .some ⟨_,by rw[ha],hv⟩) (fun j' hj=> ?_)
  have stay:gg (k+4001) u/\u.Time=w.Time+1/\u.au.length=s.au.length/\∀(j:Nat) (x:az),i+1<=j->u.au[j]?=some x->mI (j:Int) (k+4000) x:=⟨f1,f2,f3,fun j x hj=>f4 j x (by omega)⟩
  have hil:i<u.au.length:=by omega
  refine Yd.bool (Ge u (i:=(i:Int)) (by omega) (by omega)) fun r14=>Yd.cond (fun _=>hj _ stay) (fun _=> ?_)
  rw[aP,Qv hil,Qa,f2];refine(aeI (f4 i _ (QI i) (Qv hil)) (by omega) (by omega) (now:=w.Time+1) (by omega) (by omega)).bind fun y hy=> ?_
  refine Yd.cond (fun y0=> ?_) (fun _=>hj _ stay)
  rcases hy with⟨_,hy⟩|hy
  ·refine(KP f1 (Int.le_refl _) hil (p:=y.1) (by rw[show k+4001=k+4000+1 by omega];exact hy)).bind fun z ⟨z1,z2⟩=>hj _ ⟨z2,?_,?_,fun j x hj' hx=> ?_⟩
   ·rw[z1];exact f2
   ·rw[z1];show(u.au.set i y.1).length=_;rw[QX,f3]
   ·rw[z1]at hx;have hx:(u.au.set i y.1)[j]?=some x:=hx;rw[List.getElem?_set_ne (by omega)]at hx
    exact f4 j x (by omega) hx
  ·exact absurd (of_decide_eq_true y0) hy
 simp only[hd,Ql];refine Yd.inr ?_;refine Yd.list u.au (by omega) (fun i (s:aS)=>(i,s,())) (fun _ v=>gg (k+4001) v/\v.Time=w.Time+1) (fun i x v ⟨e1,e2⟩ _ hx hi hd hw ha=> ?_) (fun v ⟨e1,e2⟩ hd=> ?_) (s:=u) ⟨f1,f2⟩
 ·have hx':u.au[i]?=some x:=by rw[<-hw,aP]
  simp only[hd,Qk,hw,Qa];refine Yd.join (fun v=>gg (k+4001) v.1/\v.1.Time=w.Time+1) (fun v hv=> .some ⟨_,by rw[ha],hv⟩) (fun j' hj=> ?_)
  refine Yd.bool (Ge v (i:=(i:Int)) (by omega) (by omega)) fun r14=>Yd.cond (fun _=>hj _ ⟨e1,e2⟩) (fun _=> ?_)
  refine(Y8 (f1.nodes i x hx') (by omega)).bind fun L ⟨hL,hLy⟩=> ?_
  refine Yd.list L (by omega) (fun i (s:aS)=>(i,s,())) (fun _ v=>gg (k+4001) v/\v.Time=w.Time+1) (fun m l v ⟨e1,e2⟩ _ hl hm hd' hw' ha'=> ?_) (fun v hv hd'=> ?_) (s:=v) ⟨e1,e2⟩
  ·simp only[hd',Qk,hw',Qa];have hvn:=e1.n1;refine Yd.list v.au (by omega) (fun i (s:aS)=>(i,s,())) (fun _ v=>gg (k+4001) v/\v.Time=w.Time+1) (fun n y v ⟨e1,e2⟩ _ hy hn hd'' hw'' ha''=> ?_) (fun v hv hd''=> ?_) (s:=v) ⟨e1,e2⟩
   ·simp only[hd'',Qk];refine Yd.join (fun v=>gg (k+4001) v.1/\v.1.Time=w.Time+1) (fun v hv=> .some ⟨_,by rw[ha''],hv⟩) (fun j' hj=> ?_)
    refine Yd.cond (fun _=>hj _ ⟨e1,e2⟩) (fun _=> ?_)
    refine(Yi e1.BN (hLy l hl) v.Time (a:=(i:Int)) (b:=(n:Int))).bind fun z hz=>Yd.cond (fun z0=>hj _ ⟨e1.Wa (hz (of_decide_eq_true z0)),e2⟩) (fun _=>hj _ ⟨e1,e2⟩)
   ·simp only[hd'',Ql];exact .some ⟨_,by rw[ha'],hv⟩
  ·simp only[hd',Ql];exact Yd.inr (hj _ hv)
 ·simp only[hd,Ql];exact .some fun _=>⟨e1,e2⟩
end
end Go.Proofs.YtgjpkadjihpddaaGreat
end
