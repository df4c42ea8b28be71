/-
  Texts made small by a program (see NOTES). Conditions: those that each theorem names.
-/
import Derived.Test.YtkgenianmdfmdaaGreatMachineCatchesMe
set_option linter.unusedVariables false
set_option linter.unusedSimpArgs false
set_option linter.unusedSectionVars false
set_option maxHeartbeats 2000000
noncomputable section
namespace Go.Proofs.YtkgenianmdfmdaaGreat
open Go.TQ
theorem TD{m:ab}(h:aW m){p:aj->Bool}(hb:(de p (bH (aJ m))).testBit m.ar.toNat=true):aD m.aa=false/\p (ft m)=true:=by
 rw[mX,List.any_eq_true]at hb;obtain⟨e,he,hp⟩:=hb;rw[Qm,Qi]at hp;obtain⟨h1,h2⟩:=h.Ms ((List.mem_filter.1 he).1) hp.2;rw[<-h2];exact⟨h1,hp.1⟩
theorem B4{m:ab}(h:aW m){b:ae}(hc:fq m.ar.toNat m.af (aJ m) b=true):aD m.aa=false/\cQ (ft m) b=true:=by
 have hsm:=n4 (ay:=m.ar.toNat) h.aY.sm h.ev.nv.1;have hg:=Gk hsm (oU (p:=(cQ · b)) (oe (aJ m)));exact TD h (hg.inside _ hc).1
theorem LS{m:ab}(h1:m.aL=1){b:ae}(ha:cQ (ft m) b=true):aD b=false/\c9 m.al m.aw b=true:=by
 have e:ft m=⟨m.ar,m.bx,bd (cj m).aK 1,m.af,m.aL,m.aa,m.al,m.aw,m.aM,eo m⟩:=by unfold ft cj;rw[Qr h1]
 rw[e]at ha;unfold cQ at ha;rw[Qm,Qr h1]at ha;simpa using ha
theorem Pz{m:ab}(h:aW m)(h1:P1 m):ig m=bn\/(bX (ig m)/\ba m.au (ig m)=true/\c9 m.al m.aw (ig m)=true):=by
 unfold ig tM;rcases KH (l:=dY (aJ m)) (p:=sD (fq m.ar.toNat m.af (aJ m)) m.au) (z:=w9)with e|⟨h2,h3⟩
 ·exact .inl e
 ·right;unfold sD at h3;simp only[Qm,Qi]at h3;exact⟨MK (Ar h h2) h3.1.2,h3.1.1,(LS h1.aB (B4 h h3.2).2).2⟩
theorem Uh{p q b:ae}{v:ByteArray}{n:Int}(hok:nC p q)(hb:c9 p q b=true)(hv:b.Value≠v)(ha:mj p q v n=false):b.ai<=n:=by
 unfold mj at ha;rw[Bool.or_eq_false_iff]at ha
 have key:∀x:ae,aD x=false->x.Value≠v->dS x ⟨n,v⟩=false->x.ai<=n:=by
  intro x hz hx h;unfold dS at h;rw[hz,(ga (a:=x) (b:=⟨n,v⟩)).2 hx,Qp,Bool.and_self,Bool.true_and]at h;exact Ed h
 have hqp:aD q=false->bX q/\bX p/\ba q p=true/\q.Value≠p.Value:=fun hz=>by
  rcases hok.2 with e|⟨e1,e2,e3,e4⟩
  ·rw[e,bo]at hz;cases hz
  ·exact⟨e1,e2,e3,ga.1 e4⟩
 rw[vP]at hb;rcases hb with hb|hb|⟨hz,hl⟩
 ·obtain⟨h1,h2,h3⟩:=(iH _ _).1 hb;have:=key p h1 (by rw[h2];exact hv) ha.1
  omega
 ·obtain⟨h1,h2,h3⟩:=(iH _ _).1 hb;have:=key q h1 (by rw[h2];exact hv) ha.2
  omega
 ·obtain⟨e1,e2,e3,e4⟩:=hqp hz;have h5:=fU hl
  by_cases hqv:q.Value=v
  ·have:=key p e2.nz (by rw[<-hqv];exact fun e=>e4 e.symm) ha.1
   have:=fU e3;omega
  ·have:=key q hz hqv ha.2;omega
theorem WG{m:ab}(h1:P1 m){b:ae}(hb:bX b)(hl:ba m.au b=true)(hp:c9 m.al m.aw b=true):P1 (uO m b)/\(uO m b).al=m.al/\(uO m b).aw=m.aw/\(uO m b).au=b/\m.aa.ai<=(uO m b).aa.ai:=by
 unfold uO;have hh:=Gd h1;split
 ·rename_i hlt
  have hhigh:∀L:Int,eo {m with au:=b,aa:=b,aM:=L}=b.ai:=by
   intro L;unfold eo;rw[Qr];rw[hb.nz,gZ.2 rfl];rfl
  refine⟨⟨h1.aB,hb,h1.bW,h1.bs,.inr ⟨hb,hp⟩,Pr b,h1.bM,?_⟩,rfl,rfl,rfl,fU hlt⟩;show(if bB m.aa b=true then m.aM else 0)=0\/(1<=(if bB m.aa b=true then m.aM else 0)/\(if bB m.aa b=true then m.aM else 0)<=eo {m with au:=b,aa:=b,aM:=if bB m.aa b=true then m.aM else 0}/\mj m.al m.aw b.Value (if bB m.aa b=true then m.aM else 0)=false)
  rw[hhigh];split
  ·rename_i hc;rw[gZ]at hc;rcases h1.low with e|⟨h2,h3,h4⟩
   ·exact .inl e
   ·refine .inr ⟨h2,?_,by rw[<-hc];exact h4⟩
    have:=fU hlt;omega
  ·exact .inl rfl
 ·rename_i hlt;have hlt:ba m.aa b=false:=by simpa using hlt
  refine⟨⟨h1.aB,h1.aE,h1.bW,h1.bs,.inr ⟨hb,hp⟩,hlt,h1.bM,?_⟩,rfl,rfl,rfl,Int.le_refl _⟩;rcases h1.low with e|⟨h2,h3,h4⟩
  ·exact .inl e
  ·refine .inr ⟨h2,?_,h4⟩;show m.aM<=eo {m with au:=b}
   have hv:b.Value=m.aa.Value:=by
    refine Classical.byContradiction fun hv=> ?_
    have h5:=Uh h1.fp hp hv h4;have h6:=fU hl;rcases hh.2.2 with e|⟨e1,e2,e3⟩
    ·omega
    ·
     have e4:ba b m.au=false:=wX.asymm hl;have e5:=hl;rw[rD]at e5;have hbc:b.ai=m.au.ai:=by omega
     have hlow:m.aM=m.au.ai:=by omega
     have e6:ba ⟨m.aM,m.aa.Value⟩ b=true:=by
      have:(⟨m.aM,m.aa.Value⟩:ae)=m.au:=by rw[hlow,<-e2]
      rw[this];exact hl
     unfold mj at h4;rw[Bool.or_eq_false_iff]at h4
     have key:∀x:ae,aD x=false->x.Value≠m.aa.Value->dS x ⟨m.aM,m.aa.Value⟩=false->ba ⟨m.aM,m.aa.Value⟩ x=false:=by
      intro x hz hx h;unfold dS at h;rw[hz,(ga (a:=x) (b:=⟨m.aM,m.aa.Value⟩)).2 hx,Qp,Bool.and_self,Bool.true_and]at h;exact h
     rw[vP]at hp;rcases hp with hp|hp|⟨hz,hq⟩
     ·obtain⟨g1,g2,g3⟩:=(iH _ _).1 hp;have g4:=key _ g1 (by rw[g2];exact hv) h4.1
      have g5:ba ⟨m.aM,m.aa.Value⟩ m.al=true:=by
       by_cases e:b=m.al
       ·rw[<-e];exact e6
       ·exact jq e6 (BI (B2 hp) (fun e'=>e e'.symm))
      rw[g5]at g4;cases g4
     ·obtain⟨g1,g2,g3⟩:=(iH _ _).1 hp;have g4:=key _ g1 (by rw[g2];exact hv) h4.2
      have g5:ba ⟨m.aM,m.aa.Value⟩ m.aw=true:=by
       by_cases e:b=m.aw
       ·rw[<-e];exact e6
       ·exact jq e6 (BI (B2 hp) (fun e'=>e e'.symm))
      rw[g5]at g4;cases g4
     ·rcases h1.bs with e|⟨f1,f2,f3,f4⟩
      ·rw[e,bo]at hz;cases hz
      ·by_cases hqv:m.aw.Value=m.aa.Value
       ·have g4:=key _ f2.nz (by rw[<-hqv];exact fun e=>(ga.1 f4) e.symm) h4.1
        rw[jq e6 (jq hq f3)]at g4;cases g4
       ·have g4:=key _ hz hqv h4.2;rw[jq e6 hq]at g4;cases g4
   have hhigh:eo {m with au:=b}=b.ai:=by
    unfold eo;rw[Qr];show(!aD b&&bB b m.aa)=true;rw[hb.nz,gZ.2 hv];rfl
   rw[hhigh];rcases hh.2.2 with e|⟨e1,e2,e3⟩
   ·omega
   ·have:=fU hl;omega
theorem TF{m:ab}(h1:P1 m){b:ae}(hb:bX b)(hc:m.au=b):P1 (mm m b):=by
 unfold mm;split
 ·rename_i hv;obtain⟨hL,hcp,hle⟩:=hv;rw[gZ]at hcp;refine⟨h1.aB,h1.aE,h1.bW,h1.bs,h1.cO,h1.up,h1.bM,?_⟩;obtain⟨h2,h3,h4⟩:=MB (v:=b.Value) (n:=m.aa.ai) h1.fp.valid.1 h1.fp.valid.2;refine .inr ⟨h3,?_,by show mj m.al m.aw m.aa.Value _=false;rw[hcp];exact h4⟩
  show kg b.Value m.aa.ai m.al m.aw<=eo {m with aM:=kg b.Value m.aa.ai m.al m.aw}
  have hhigh:eo {m with aM:=kg b.Value m.aa.ai m.al m.aw}=b.ai:=by
   unfold eo;rw[Qr]
   ·show m.au.ai=_;rw[hc]
   ·show(!aD m.au&&bB m.au m.aa)=true;rw[hc,hb.nz,gZ.2 hcp.symm];rfl
  rw[hhigh];exact hle
 ·exact h1
theorem Nc(m:ab)(b:ae):(mm m b).al=m.al/\(mm m b).aw=m.aw/\(mm m b).au=m.au/\(mm m b).aa=m.aa:=by
 unfold mm;split<;>exact⟨rfl,rfl,rfl,rfl⟩
theorem lU{m:ab}(h:m.aL≠1\/aD m.aa=true\/aD (ig m)=true):gg m=m:=Qr h
theorem xd{m m':ab}(h:aW m)(he:m'.ar=m.ar/\m'.bx=m.bx/\m'.aK=m.aK/\m'.af=m.af/\m'.bm=m.bm/\m'.aA=m.aA)(hb:P0 m'\/P1 m'\/P2 m'\/P3 m'):aW m':=by
 obtain⟨e1,e2,e3,e4,e5,e6⟩:=he;exact⟨by rw[e1];exact h.n0,by rw[e1];exact h.n1,by rw[e2];exact h.bL,by rw[e3];exact h.seq,by rw[e4];exact h.aY,by rw[e5];exact h.kf,by rw[e6,e1,e2];exact h.hv,by rw[e6];exact h.mB,hb⟩
structure fF (m m':ab):Prop where
 ay:m'.ar=m.ar
 bL:m'.bx=m.bx
 seq:m'.aK=m.aK
 aY:m'.af=m.af
 kf:m'.bm=m.bm
 heard:m'.aA=m.aA
theorem fF.refl(m:ab):fF m m:=⟨rfl,rfl,rfl,rfl,rfl,rfl⟩
theorem fF.all{m m':ab}(h:fF m m'):m'.ar=m.ar/\m'.bx=m.bx/\m'.aK=m.aK/\m'.af=m.af/\m'.bm=m.bm/\m'.aA=m.aA:=⟨h.ay,h.bL,h.seq,h.aY,h.kf,h.heard⟩
theorem tX(m:ab):fF m (cy m):=by unfold cy;split<;>exact⟨rfl,rfl,rfl,rfl,rfl,rfl⟩
theorem Ur(m:ab)(b:ae):fF m (uO m b):=by unfold uO;split<;>exact⟨rfl,rfl,rfl,rfl,rfl,rfl⟩
theorem OO(m:ab)(b:ae):fF m (mm m b):=by unfold mm;split<;>exact⟨rfl,rfl,rfl,rfl,rfl,rfl⟩
theorem ru(m:ab):fF m (gg m):=by
 unfold gg;split
 ·exact .refl m
 ·have h1:=OO (uO m (ig m)) (ig m);have h2:=Ur m (ig m);exact⟨h1.ay.trans h2.ay,h1.bL.trans h2.bL,h1.seq.trans h2.seq,h1.aY.trans h2.aY,h1.kf.trans h2.kf,h1.heard.trans h2.heard⟩
theorem rB(m:ab):fF m (ff m):=by
 unfold ff EM sY;split
 ·split<;>exact⟨rfl,rfl,rfl,rfl,rfl,rfl⟩
 ·split<;>exact⟨rfl,rfl,rfl,rfl,rfl,rfl⟩
theorem rA(m:ab):fF m (iV m):=by unfold iV CG;split<;>exact⟨rfl,rfl,rfl,rfl,rfl,rfl⟩
theorem w6(m:ab):fF m (dV m):=by unfold dV;split<;>exact⟨rfl,rfl,rfl,rfl,rfl,rfl⟩
theorem Hf{m:ab}(h:aW m)(h1:P1 m):P1 (gg m)/\(gg m=m\/((gg m).al=m.al/\(gg m).aw=m.aw/\ba m.au (gg m).au=true/\m.aa.ai<=(gg m).aa.ai)):=by
 unfold gg;split
 ·exact⟨h1,.inl rfl⟩
 ·rename_i hc;rcases Pz h h1 with e|⟨hf,hl,hp⟩
  ·exact absurd (.inr (.inr (by rw[e];exact bo))) hc
  ·obtain⟨g1,g2,g3,g4,g5⟩:=WG h1 hf hl hp;obtain⟨v1,v2,v3,v4⟩:=Nc (uO m (ig m)) (ig m);exact⟨TF g1 hf g4,.inr ⟨v1.trans g2,v2.trans g3,by rw[v3,g4];exact hl,by rw[v4];exact g5⟩⟩
theorem Ia{m:ab}(h:aW m):aW (gg m):=by
 rcases h.body with h0|h1|h2|h3
 ·rw[lU (.inr (.inl (by rw[h0.aE];exact bo)))];exact h
 ·exact xd h (ru m).all (.inr (.inl (Hf h h1).1))
 ·rw[lU (.inl (by rw[h2.aB];decide))];exact h
 ·rw[lU (.inl (by rw[h3.aB];decide))];exact h
theorem tC{m:ab}(h:aW m)(v:ByteArray):∀x∈bS (aJ m) v,1<=x/\x<=1000:=IQ h.ev.nv.1 h.ev.nv.2 v
theorem Rq{m:ab}(h:aW m):∀v∈gd (aJ m),1<=v.size/\v.size<=200:=by
 intro v hv;obtain⟨e,he,h1,h2⟩:=((oV h.ev.nv.1.aY h.ev.nv.2).2.2.2 v).1 hv;rw[h2];exact Dl h1
theorem Ov{m:ab}(h:aW m){x:ByteArray->Int->Int->Bool}{p q:ae}:(fQ x (aJ m) p q).1=false\/(bX (fQ x (aJ m) p q).2/\(fQ x (aJ m) p q).2.Value∈gd (aJ m)/\(fQ x (aJ m) p q).2.ai∈bS (aJ m) (fQ x (aJ m) p q).2.Value/\
  mj p q (fQ x (aJ m) p q).2.Value (fQ x (aJ m) p q).2.ai=false/\x (fQ x (aJ m) p q).2.Value (fQ x (aJ m) p q).2.ai (fQ x (aJ m) p q).2.ai=true):=by
 let G:Bool×ae->Prop:=fun s=>s.1=false\/(bX s.2/\s.2.Value∈gd (aJ m)/\s.2.ai∈bS (aJ m) s.2.Value/\mj p q s.2.Value s.2.ai=false/\x s.2.Value s.2.ai s.2.ai=true)
 have inner:∀(v:ByteArray),v∈gd (aJ m)->∀(b:List Int),(∀n∈b,n∈bS (aJ m) v)->∀s,G s->G (b.foldl (oN x p q v) s):=by
  intro v hv b
  induction b with
  |nil=>intro _ s hs;exact hs
  |cons n b ih=>
   intro hb s hs;rw[QU];refine ih (fun k hk=>hb k (Qy _ hk)) _ ?_
   unfold oN;split
   ·rename_i hc;simp only[Qm,Bool.not_eq_true']at hc;have hn:=hb n Qx;have h1:=tC h v n hn;have h2:=Rq h v hv;exact .inr ⟨⟨h1.1,h1.2,h2.1,h2.2⟩,hv,hn,hc.1.2,hc.2⟩
   ·exact hs
 have outer:∀(vs:List ByteArray),(∀v∈vs,v∈gd (aJ m))->∀s,G s->G (vs.foldl (fun s v=>(bS (aJ m) v).foldl (oN x p q v) s) s):=by
  intro vs
  induction vs with
  |nil=>intro _ s hs;exact hs
  |cons v vs ih=>
   intro hv s hs;rw[QU];exact ih (fun u hu=>hv u (Qy _ hu)) _ (inner v (hv v Qx) _ (fun n hn=>hn) s hs)
 exact outer _ (fun v hv=>hv) (false,⟨0,iy⟩) (.inl rfl)
structure Xi (m:ab) (v:ByteArray) (lo hi:Int):Prop where
 fin:bX ⟨hi,v⟩
 Vy:1<=lo
 le:lo<=hi
 val:v∈gd (aJ m)
 top:eH m v hi hi=true
 all:eH m v lo hi=true
theorem yG{m:ab}(h:aW m)(hk:(fh m).2.2.2.1=true):Xi m (fh m).1 (fh m).2.1 (fh m).2.2.1:=by
 rcases Ov (x:=eH m) (p:=m.al) (q:=m.aw) h with e|⟨h1,h2,h3,h4,h5⟩
 ·unfold fh oF at hk;rw[e]at hk;cases hk
 ·have hb:(fQ (eH m) (aJ m) m.al m.aw).1=true:=by
   unfold fh oF at hk;split at hk
   ·assumption
   ·cases hk
  have e:fh m=((fQ (eH m) (aJ m) m.al m.aw).2.Value,dX (fun n=> !mj m.al m.aw (fQ (eH m) (aJ m) m.al m.aw).2.Value n&&eH m (fQ (eH m) (aJ m) m.al m.aw).2.Value n (fQ (eH m) (aJ m) m.al m.aw).2.ai) (bS (aJ m) (fQ (eH m) (aJ m) m.al m.aw).2.Value).reverse (fQ (eH m) (aJ m) m.al m.aw).2.ai,(fQ (eH m) (aJ m) m.al m.aw).2.ai,true,()):=by
   unfold fh oF;rw[Qr hb]
  rw[e];refine⟨h1,wm _ _ _ (fun x hx=>(tC h _ x (List.mem_reverse.1 hx)).1) h1.1,oI _ _ _,h2,h5,?_⟩
  simp only;rcases wj (fun n=> !mj m.al m.aw (fQ (eH m) (aJ m) m.al m.aw).2.Value n&&eH m (fQ (eH m) (aJ m) m.al m.aw).2.Value n (fQ (eH m) (aJ m) m.al m.aw).2.ai) (bS (aJ m) (fQ (eH m) (aJ m) m.al m.aw).2.Value).reverse (fQ (eH m) (aJ m) m.al m.aw).2.ai with e|⟨e,_⟩
  ·rw[e];exact h5
  ·rw[Qm]at e;exact e.2
theorem K0{m:ab}(hb0:m.aa=bn\/bX m.aa)(hp0:m.al=bn\/bX m.al){v:ByteArray}{lo hi:Int}(hf:bX ⟨hi,v⟩)(hlo:1<=lo)(hle:lo<=hi):P2 (EM m v lo hi):=by
 unfold EM
 have hmax:bX ⟨bd m.aa.ai hi,v⟩:=by
  rcases hb0 with e|h2
  ·have:bd m.aa.ai hi=hi:=by
    have h3:=hf.1;simp only at h3;have h4:m.aa.ai=0:=by rw[e];rfl
    unfold bd;split<;>omega
   rw[this];exact hf
  ·have:bd m.aa.ai hi=m.aa.ai\/bd m.aa.ai hi=hi:=by unfold bd;split<;>simp
   rcases this with e|e<;>rw[e]
   ·exact⟨h2.1,h2.2.1,hf.2.2⟩
   ·exact hf
 have hbv:∀b:ae,b=(if(!bB m.aa ⟨hi,v⟩||ba m.aa ⟨hi,v⟩)=true then⟨bd m.aa.ai hi,v⟩else m.aa)->bX b/\b.Value=v:=by
  intro b hb;split at hb
  ·rw[hb];exact⟨hmax,rfl⟩
  ·rename_i hc;rw[hb];simp only[Qn,Bool.not_eq_true',not_or,Bool.not_eq_false]at hc;refine⟨hb0.resolve_left (fun e=> ?_),gZ.1 hc.1⟩
   have:=gZ.1 hc.1;rw[e]at this;exact hf.ne this.symm
 obtain⟨b1,b2⟩:=hbv _ rfl
 have hpv:∀p:ae,p=(if fX m.al ⟨hi,v⟩=true then m.al else⟨hi,v⟩)->bX p/\p.Value=v/\hi<=p.ai:=by
  intro p hp;split at hp
  ·rename_i hc;rw[hp];obtain⟨g1,g2,g3⟩:=(iH _ _).1 hc;refine⟨?_,g2,g3⟩;rcases hp0 with e|e
   ·rw[e,bo]at g1;cases g1
   ·exact e
  ·rw[hp];exact⟨hf,rfl,Int.le_refl _⟩
 obtain⟨p1,p2,p3⟩:=hpv _ rfl;exact⟨rfl,b1,⟨p1,p2.trans b2.symm⟩,rfl,.inr ⟨hf,b2.symm⟩,⟨hlo,hle,p3⟩⟩
theorem KJ{m:ab}(h:aW m)(h2:P2 m):1<=(dw m).1/\(dw m).1<=(dw m).2/\(dw m).2<=1000/\(((dw m).2=m.bb/\(dw m).1<=m.aM)\/m.bb<(dw m).2):=by
 have hr:=h2.range;have hH:m.bb<=1000:=by have:=h2.bW.1.2.1;omega
 have hb:∀x∈(bS (aJ m) m.aa.Value).reverse,1<=x:=fun x hx=>(tC h _ x (List.mem_reverse.1 hx)).1
 unfold dw KL;split
 ·refine⟨wm _ _ _ hb hr.1,?_,hH,.inl ⟨rfl,oI _ _ _⟩⟩;exact Int.le_trans (oI _ _ _) hr.2.1
 ·rename_i n hn;have hnb:=tC h _ n (List.mem_reverse.1 (List.mem_of_find?_eq_some hn));have hnp:=List.find?_some hn;simp only[Qm,Qi]at hnp;have h5:1<=dX (fun x=>eH m m.aa.Value x n) (bS (aJ m) m.aa.Value).reverse n:=wm _ _ _ hb hnb.1
  have h6:=oI (fun x=>eH m m.aa.Value x n) (bS (aJ m) m.aa.Value).reverse n
  simp only;refine⟨wm _ _ _ hb ?_,?_,hnb.2,.inr hnp.1⟩
  ·split
   ·exact h5
   ·exact hr.1
  ·refine Int.le_trans (oI _ _ _) ?_;split
   ·exact h6
   ·omega
theorem N7{m:ab}(h2:P2 m){lo hi:Int}(hlo:1<=lo)(hle:lo<=hi)(hhi:hi<=1000):P2 (sY m lo hi):=by
 unfold sY;have hb:=h2.aE;have hp:=h2.bW;have e1:∀c:Int,bd c hi=c\/bd c hi=hi:=fun c=>by unfold bd;split<;>simp
 have e2:∀c:Int,hi<=bd c hi:=fun c=>by unfold bd;split<;>omega
 have mx:∀c:Int,c<=1000->bX ⟨bd c hi,m.aa.Value⟩:=by
  intro c hc;refine⟨by have:=e2 c;simp only;omega,?_,hb.2.2.1,hb.2.2.2⟩
  rcases e1 c with e|e<;>simp only[e]<;>omega
 refine⟨h2.aB,mx _ hb.2.1,⟨?_,?_⟩,h2.bs,.inr ⟨mx _ ?_,rfl⟩,⟨hlo,hle,e2 _⟩⟩
 ·show bX ⟨bd m.al.ai hi,m.al.Value⟩;rw[hp.2];exact mx _ hp.1.2.1
 ·exact hp.2
 ·rcases h2.cO with e|e
  ·rw[e];decide
  ·exact e.1.2.1
theorem Ik{m:ab}(h:aW m):aW (ff m):=by
 refine xd h (rB m).all ?_;unfold ff;rcases h.body with h0|h1|h2|h3
 ·rw[Qr h0.aB];split
  ·rename_i hk;have hf:=yG h hk;exact .inr (.inr (.inl (K0 (.inl h0.aE) (.inl h0.bW) hf.fin hf.Vy hf.le)))
  ·exact .inl h0
 ·rw[Qr h1.aB];split
  ·rename_i hk;have hf:=yG h hk;exact .inr (.inr (.inl (K0 (.inr h1.aE) h1.bW hf.fin hf.Vy hf.le)))
  ·exact .inr (.inl h1)
 ·rw[Qs (by rw[h2.aB];decide),Qr h2.aB]
  have:=KJ h h2;exact .inr (.inr (.inl (N7 h2 this.1 this.2.1 this.2.2.1)))
 ·rw[Qs (by rw[h3.aB];decide),Qs (by rw[h3.aB];decide)]
  exact .inr (.inr (.inr h3))
theorem VN{m:ab}(h:aW m)(hk:(kh m).2.2.1=true):1<=(kh m).1/\(kh m).1<=(kh m).2.1/\(kh m).2.1<=1000/\y3 m m.aa.Value (kh m).1 (kh m).2.1=true:=by
 unfold kh wh at hk ⊢;split at hk
 ·rename_i n hn;have hnb:=tC h _ n (List.mem_reverse.1 (List.mem_of_find?_eq_some hn));have hs:=List.find?_some hn;simp only;refine⟨wm _ _ _ (fun x hx=>(tC h _ x (List.mem_reverse.1 hx)).1) hnb.1,oI _ _ _,hnb.2,?_⟩
  rcases wj (fun x=>y3 m m.aa.Value x n) (bS (aJ m) m.aa.Value).reverse n with e|⟨e,_⟩
  ·rw[e];exact hs
  ·exact e
 ·cases hk
theorem Mr{m:ab}(h:aW m)(h2:P2 m)(hk:(kh m).2.2.1=true):P3 (CG m (kh m).1 (kh m).2.1):=by
 obtain⟨g1,g2,g3,_⟩:=VN h hk;unfold CG;exact⟨rfl,⟨by simp only;omega,g3,h2.aE.2.2.1,h2.aE.2.2.2⟩,rfl,rfl,rfl,⟨g1,g2,g3⟩⟩
theorem Ii{m:ab}(h:aW m):aW (iV m):=by
 refine xd h (rA m).all ?_;unfold iV;split
 ·rename_i hc;rcases h.body with h0|h1|h2|h3
  ·have:=h0.aB;have:=hc.1;omega
  ·have:=h1.aB;have:=hc.1;omega
  ·exact .inr (.inr (.inr (Mr h h2 hc.2)))
  ·have:=h3.aB;have:=hc.1;omega
 ·exact h.body
theorem NY{z:ae}:∀{l:List ae},l≠[]->Gj z l∈l
 |[],h=>absurd rfl h
 |x::l,_=>by
  show l.foldl (fun a y=>if ba a y=true then y else a) x∈x::l
  suffices key:∀(l:List ae) (a:ae),l.foldl (fun a y=>if ba a y=true then y else a) a=a\/l.foldl (fun a y=>if ba a y=true then y else a) a∈l by
   rcases key l x with e|e
   ·rw[e];exact Qx
   ·exact Qy _ e
  intro l
  induction l with
  |nil=>intro a;exact .inl rfl
  |cons y l ih=>
   intro a;rw[QU];rcases ih (if ba a y=true then y else a)with e|e
   ·rw[e];split
    ·exact .inr Qx
    ·exact .inl rfl
   ·exact .inr (Qy _ e)
theorem TP{t:ao}(h:iY t){s:Nat}(hs:∀k,k<10->s.testBit k=true):jv s t=true:=by
 have hn:∀x:Int,0<=x->x<10->gw s x=true:=by
  intro x h0 h1;unfold gw dp;rw[Qg h0,Qg h1,hs _ (by omega)]
  rfl
 have hc:t.bp.countP (gw s)=t.bp.length:=List.countP_eq_length.2 fun x hx=>hn x (h.nodes x hx).1 (h.nodes x hx).2
 have hi:qG s t.aR=t.aR.length:=by
  rcases h.inner with e|⟨x,h0,h1,e⟩
  ·rw[e];rfl
  ·rw[e]
   have:jv s ⟨1,[x],[]⟩=true:=by
    rw[Cq];simp[List.countP_cons,hn x h0 h1,qG]
   simp[qG,this]
 rw[Cq,hc,hi,Qi];have:=h.th.2;omega
theorem Ae{m:ab}(h:aW m){n:Int}(ha:ep m n=true):∃e∈m.aA,n<cm e:=by
 refine Classical.byContradiction fun hno=> ?_
 have hz:oP m n=0:=by
  refine vq fun k=> ?_
  unfold oP;rw[mX,Nat.zero_testBit,List.any_eq_false];intro e he;have:¬n<cm e:=fun hlt=>hno ⟨e,he,hlt⟩
  simp[this]
 unfold ep lp at ha;rw[hz,Qm]at ha
 have hown:kv (dU m.ar.toNat m.af (aJ m)) m.ar.toNat=m.af:=by
  unfold kv;rw[AO h.ev.ay.2 m.af (aJ m) h.ev.ay.2,Qr rfl];rfl
 rw[hown,TP h.aY (fun k hk=>by rw[sn (by omega)];simp[hk])]at ha
 cases ha.2
theorem Mf{m:ab}(h:aW m)(h1:m.aL=1)(hc:m.au=bn\/bX m.au)(hh:m.aA≠[]\/m.bm≠iy\/m.au≠bn):1<=(dE m).size/\(dE m).size<=200:=by
 unfold dE;split
 ·rename_i hz;rcases hc with e|e
  ·rw[e,bo]at hz;cases hz
  ·exact e.2.2
 ·rename_i hz;have hz:aD m.au=true:=by simpa using hz
  rw[Qs (fun h=>h h1)]
  split
  ·rename_i hp;refine⟨?_,h.kf⟩;rcases Nat.eq_zero_or_pos m.bm.size with e|e
   ·exfalso;apply hp;have:m.bm.data=#[]:=Array.eq_empty_of_size_eq_zero e
    cases hm:m.bm with
    |mk d=>rw[hm]at this;simp only at this;rw[this];rfl
   ·exact e
  ·rename_i hp
   have hne:m.aA≠[]:=by
    rcases hh with e|e|e
    ·exact e
    ·exact absurd e hp
    ·exact absurd (ri.1 hz) e
   have hm:=NY (z:=bn) (l:=m.aA.map (·.aa)) (by simpa using hne)
   obtain⟨e,he,heq⟩:=QP.1 hm;rw[<-heq];exact Dl (h.hv e he).1
theorem PS{e:aj}(hv:aZ e=true):1<=cm e/\(cm e<=1000\/cm e=1000000):=by
 unfold cm;split
 ·exact⟨by decide,.inr rfl⟩
 ·rename_i h3;have hv':=hv;unfold aZ jU at hv';rw[Qm,Qm]at hv';have hb:=hv'.2
  have gof:∀{b:ae},finite b=true->1<=b.ai/\b.ai<=1000:=by
   intro b hb;unfold finite at hb;rw[Qm,Qi]at hb;have:=(MK hb.1 hb.2);exact⟨this.1,this.2.1⟩
  by_cases h1:e.bR=1
  ·rw[Qr h1]at hb;unfold fp at hb;simp only[Qm]at hb;have:=gof hb.1.1.1.1.1.1.1.1;exact⟨this.1,.inl this.2⟩
  ·rw[Qs h1]at hb
   by_cases h2:e.bR=2
   ·rw[Qr h2]at hb;unfold um at hb;simp only[Qm]at hb;have:=gof hb.1.1.1.1.1;exact⟨this.1,.inl this.2⟩
   ·rw[Qs h2,Qs h3]at hb;cases hb
theorem IP(m:ab):dn m=1000000\/(m.aa.ai<dn m/\dn m<1000000/\ep m (dn m)=false/\∃e∈m.aA,dn m=cm e):=by
 unfold dn
 suffices key:∀(l:List aj),(∀e∈l,e∈m.aA)->∀s,(s=1000000\/(m.aa.ai<s/\s<1000000/\ep m s=false/\∃e∈m.aA,s=cm e))->
   (l.foldl (jf m) s=1000000\/(m.aa.ai<l.foldl (jf m) s/\l.foldl (jf m) s<1000000/\ep m (l.foldl (jf m) s)=false/\∃e∈m.aA,l.foldl (jf m) s=cm e))from key _ (fun e he=>he) _ (.inl rfl)
 intro l
 induction l with
 |nil=>intro _ s hs;exact hs
 |cons x l ih=>
  intro hm s hs;rw[QU];refine ih (fun e he=>hm e (Qy _ he)) _ ?_
  unfold jf;split
  ·rename_i hc;exact .inr ⟨hc.1,by rcases hs with e|e<;>omega,hc.2.2,x,hm x Qx,rfl⟩
  ·exact hs
theorem B6{m:ab}(h:aW m)(hb:0<=m.aa.ai/\m.aa.ai<=1000):m.aa.ai<=bd m.aa.ai (df (dn m) 1000)/\bd m.aa.ai (df (dn m) 1000)<=1000/\1<=bd m.aa.ai (df (dn m) 1000)/\
  (bd m.aa.ai (df (dn m) 1000)=m.aa.ai->m.aa.ai=1000)/\bd m.aa.ai (df (dn m) 1000)=df (dn m) 1000:=by
 have hmin:df (dn m) 1000<=1000/\1<=df (dn m) 1000/\(m.aa.ai<df (dn m) 1000\/df (dn m) 1000=1000):=by
  rcases IP m with e|⟨g1,g2,_,x,hx,g4⟩
  ·rw[e];exact⟨by decide,by decide,.inr (by decide)⟩
  ·have hc:=PS (h.hv x hx).1;rw[<-g4]at hc;have:dn m<=1000:=by omega
   have e:df (dn m) 1000=dn m:=by unfold df;split<;>omega
   rw[e];omega
 unfold bd;split<;>omega
theorem Hg{m:ab}(h:aW m)(h1:P0 m\/P1 m)(ha:ep m m.aa.ai=true):P1 (dV m):=by
 have hph:m.aL=1:=by rcases h1 with h|h<;>exact h.aB
 have hbc:0<=m.aa.ai/\m.aa.ai<=1000:=by
  rcases h1 with h|h
  ·rw[h.aE];decide
  ·have:=h.aE;exact⟨by have:=this.1;omega,this.2.1⟩
 obtain⟨c1,c2,c3,_⟩:=B6 h hbc;obtain⟨e0,he0,_⟩:=Ae h ha
 have hconf:m.au=bn\/bX m.au:=by
  rcases h1 with h|h
  ·exact .inl h.cO
  ·exact h.cO.imp id (·.1)
 have hv:=Mf h hph hconf (.inl (List.ne_nil_of_mem he0));unfold dV;rw[Qs (by rw[hph,ha];decide)]
 have hnv:iT m=dE m:=Qr hph;rw[hnv];generalize hn:bd m.aa.ai (df (dn m) 1000)=n at c1 c2 c3 ⊢
 have hpo:nC m.al m.aw:=by
  rcases h1 with h|h
  ·exact⟨.inl h.bW,.inl h.bs⟩
  ·exact h.fp
 refine⟨hph,⟨c3,c2,hv.1,hv.2⟩,hpo.1,hpo.2,?_,?_,?_,?_⟩
 ·rcases h1 with h|h
  ·exact .inl h.cO
  ·exact h.cO
 ·show ba ⟨n,dE m⟩ m.au=false;rcases hconf with e|e
  ·rw[e]
   cases hl:ba ⟨n,dE m⟩ bn with
   |false=>rfl
   |true=>have:=fU hl;have h0:(bn:ae).ai=0:=rfl;simp only at this;omega
  ·have hvc:dE m=m.au.Value:=by unfold dE;rw[Qr e.nz]
   rw[zG (show(⟨n,dE m⟩:ae).Value=m.au.Value from hvc),Qj]
   rcases h1 with h|h
   ·exact absurd h.cO (EA e)
   ·have:=Ed h.up;simp only;omega
 ·rcases h1 with h|h<;>exact h.bM
 ·show(if dE m=m.aa.Value then m.aM else 0)=0\/(1<=(if dE m=m.aa.Value then m.aM else 0)/\_<=_/\mj m.al m.aw (dE m) (if dE m=m.aa.Value then m.aM else 0)=false)
  split
  ·rename_i hve;rcases h1 with h|h
   ·exact .inl h.low
   ·rcases h.low with e|⟨g1,g2,g3⟩
    ·exact .inl e
    ·refine .inr ⟨g1,?_,by rw[hve];exact g3⟩
     have:eo {m with aM:=m.aM,aa:=⟨n,dE m⟩}=eo m:=by
      unfold eo bB;simp only[hve]
     show m.aM<=eo {m with aM:=m.aM,aa:=⟨n,dE m⟩}
     rw[this];exact g2
  ·exact .inl rfl
theorem Mq{m:ab}(h:aW m)(h2:P2 m):P2 (dV m):=by
 unfold dV;split
 ·exact h2
 ·obtain⟨c1,c2,c3,_⟩:=B6 h ⟨by have:=h2.aE.1;omega,h2.aE.2.1⟩
  have hnv:iT m=m.aa.Value:=Qs (by rw[h2.aB];decide)
  rw[hnv,Qr rfl];exact⟨h2.aB,⟨c3,c2,h2.aE.2.2⟩,h2.bW,h2.bs,h2.cO,h2.range⟩
theorem Ig{m:ab}(h:aW m):aW (dV m):=by
 have hid:m.aL=3\/ep m m.aa.ai=false->dV m=m:=fun hc=>Qr hc
 cases ha:ep m m.aa.ai with
 |false=>rw[hid (.inr ha)];exact h
 |true=>
  refine xd h (w6 m).all ?_;rcases h.body with h0|h1|h2|h3
  ·exact .inr (.inl (Hg h (.inl h0) ha))
  ·exact .inr (.inl (Hg h (.inr h1) ha))
  ·exact .inr (.inr (.inl (Mq h h2)))
  ·rw[hid (.inl h3.aB)];exact .inr (.inr (.inr h3))
end Go.Proofs.YtkgenianmdfmdaaGreat
namespace Go.Proofs.YtkgenianmdfmdaaGreat
open Go.TQ
theorem lexLt{a a' b b' B:Nat}(hb:b<B)(h:a<a'):a*B+b<a'*B+b':=by
 have h1:(a+1)*B<=a'*B:=Nat.mul_le_mul_right B h;rw[Nat.add_mul]at h1;omega
theorem tL{a a' b b' B:Nat}(h:a=a')(hb:b<b'):a*B+b<a'*B+b':=by rw[h];omega
theorem zF{a b A B:Nat}(ha:a<A)(hb:b<B):a*B+b<A*B:=by
 have h1:(a+1)*B<=A*B:=Nat.mul_le_mul_right B ha;rw[Nat.add_mul]at h1;omega
theorem bX.sm{b:ae}(h:bX b):Sm b:=⟨by have:=h.1;omega,h.2.1,h.2.2.2⟩
theorem Pj:Sm bn:=⟨by decide,by decide,by decide⟩
theorem mY{b:ae}(h:b=bn\/bX b):Sm b:=by
 rcases h with rfl|h
 ·exact Pj
 ·exact h.sm
theorem HA{b:ae}(h:bX b):ki bn<ki b:=ow Pj h.sm ((rD _ _).2 (.inl h.1))
 def t1(m:ab):Nat:=2*m.aa.ai.toNat+(if m.aa.Value=iT m then 1 else 0)
 def pq(m:ab):Nat:=ki m.al*WB+ki m.aw
 def r1(m:ab):Nat:=(pq m*WB+ki m.au)*2002+t1 m
def K1:Nat:=(WB*WB)*WB*2002
 def r2(m:ab):Nat:=(((m.bb.toNat*1001+(1000 - m.aM).toNat)*WB+ki m.al)*WB+ki m.au)*1001+m.aa.ai.toNat
def K2:Nat:=((1001*1001)*WB*WB)*1001
 def iE(m:ab):Nat:=if m.aL=1 then r1 m else if m.aL=2 then K1+r2 m else K1+K2
def tJ(m:ab):Prop:=(m.al=bn\/bX m.al)/\(m.aw=bn\/bX m.aw)/\(m.au=bn\/bX m.au)/\(m.aa=bn\/bX m.aa)
theorem P0.ok{m:ab}(h:P0 m):tJ m:=⟨.inl h.bW,.inl h.bs,.inl h.cO,.inl h.aE⟩
theorem P1.ok{m:ab}(h:P1 m):tJ m:=⟨h.bW,h.bs.imp id (·.1),h.cO.imp id (·.1),.inr h.aE⟩
theorem P2.ok{m:ab}(h:P2 m):tJ m:=⟨.inr h.bW.1,.inl h.bs,h.cO.imp id (·.1),.inr h.aE⟩
theorem Nh{m:ab}(h:tJ m):t1 m<2002:=by
 have:m.aa.ai<=1000:=by
  rcases h.2.2.2 with e|e
  ·rw[e];decide
  ·exact e.2.1
 unfold t1;split<;>omega
theorem Wt{m:ab}(h:tJ m):pq m<WB*WB:=zF (ln (mY h.1)) (ln (mY h.2.1))
theorem Ny{m:ab}(h:tJ m):r1 m<K1:=zF (zF (Wt h) (ln (mY h.2.2.1))) (Nh h)
theorem P2.bM{m:ab}(h:P2 m):m.bb<=1000:=by have:=h.range.2.2;have:=h.bW.1.2.1;omega
theorem Tb{m:ab}(h:P2 m):r2 m<K2:=by
 have h1:=h.range;have h2:=h.bM;refine zF (zF (zF (zF (A:=1001) ?_ ?_) (ln h.bW.1.sm)) (ln (mY h.ok.2.2.1))) ?_
 ·omega
 ·omega
 ·have:=h.aE.2.1;omega
theorem sf{m:ab}(h:m.aL=1):iE m=r1 m:=Qr h
theorem se{m:ab}(h:m.aL=2):iE m=K1+r2 m:=by unfold iE;rw[Qs (by omega),Qr h]
theorem O3{m:ab}(h:m.aL=3):iE m=K1+K2:=by unfold iE;rw[Qs (by omega),Qs (by omega)]
theorem TR{m:ab}(h:aW m):iE m<=K1+K2:=by
 rcases h.body with h0|h1|h2|h3
 ·rw[sf h0.aB];have:=Ny h0.ok;omega
 ·rw[sf h1.aB];have:=Ny h1.ok;omega
 ·rw[se h2.aB];have:=Tb h2;omega
 ·rw[O3 h3.aB];exact QI _
theorem pr.Xm{p q b p' q':ae}(h:nC p q)(hb:b=bn\/bX b)(hj:pr p q b p' q'):(p'=p/\q'=q)\/ki p*WB+ki q<ki p'*WB+ki q':=by
 have hok:=hj.ok h hb;have hp:=mY h.1;have hq:Sm q:=mY (h.2.imp id (·.1))
 cases hj with
 |same=>exact .inl ⟨rfl,rfl⟩
 |first h1 h2=>
  subst h1 h2;rcases hb with e|e
  ·exact .inl ⟨e,rfl⟩
  ·exact .inr (lexLt (ln hq) (HA e))
 |up h1 hl hc=>exact .inr (lexLt (ln hq) (ow hp (mY hb) hl))
 |xy h1 hl hc=>exact .inr (lexLt (ln hq) (ow hp (mY hb) hl))
 |under h1 hl hc hq'=>
  rcases hq' with e|e
  ·subst e;rcases hb with e2|e2
   ·exact .inl ⟨rfl,e2⟩
   ·exact .inr (tL rfl (HA e2))
  ·exact .inr (tL rfl (ow hq (mY hb) e))
theorem qL{m m':ab}(he:fF m m')(h1:m'.aL=m.aL)(h2:m'.aa=m.aa)(h3:m'.al=m.al)(h4:m'.aw=m.aw)(h5:m'.au=m.au)(h6:m'.aM=m.aM)(h7:m'.bb=m.bb):m'=m:=by
 obtain⟨e1,e2,e3,e4,e5,e6⟩:=he;cases m;cases m';simp only at*;subst e1 e2 e3 e4 e5 e6 h1 h2 h3 h4 h5 h6 h7;rfl
theorem JN{m m':ab}(he:fF m m')(h:ly m m'=true):m'=m:=by
 unfold ly at h;simp only[Qm,Qi,oa]at h;obtain⟨⟨⟨⟨⟨⟨h1,h2⟩,h3⟩,h4⟩,h5⟩,h6⟩,h7⟩:=h;exact qL he h1.symm h2.symm h3.symm h4.symm h5.symm h6.symm h7.symm
theorem Nk(m:ab):ly m m=true:=by
 unfold ly;simp only[decide_true,oa.2 rfl,Bool.and_self]
theorem Wr{m m':ab}(h:tJ m)(hlt:pq m<pq m'):r1 m<r1 m':=lexLt (Nh h) (lexLt (ln (mY h.2.2.1)) hlt)
theorem XZ{m m':ab}(h:tJ m)(hpq:pq m=pq m')(hlt:ki m.au<ki m'.au):r1 m<r1 m':=lexLt (Nh h) (tL hpq hlt)
theorem XY{m m':ab}(hpq:pq m=pq m')(hc:m.au=m'.au)(hlt:t1 m<t1 m'):r1 m<r1 m':=tL (by rw[hpq,hc]) hlt
theorem FI{m:ab}(h1:P1 m):pQ m m.al m.aw=m.aM:=by
 unfold pQ;split
 ·rename_i hc;rcases h1.low with e|⟨g1,g2,g3⟩
  ·exact absurd e hc.2
  ·rw[Pn g1 g3,Qs (by omega)]
 ·rfl
theorem XO{m:ab}(h:aW m):cy m=m\/iE m<iE (cy m):=by
 have hid:m.aL=3\/aD m.aa=true->cy m=m:=fun hc=>Qr hc
 rcases h.body with h0|h1|h2|h3
 ·exact .inl (hid (.inr (by rw[h0.aE];exact bo)))
 ·have hj:=(Cx h h1.fp).Xm h1.fp (sJ h);have he:cy m={m with al:=(cJ m.al m.aw (dh (dO m))).1,aw:=(cJ m.al m.aw (dh (dO m))).2,aM:=pQ m (cJ m.al m.aw (dh (dO m))).1 (cJ m.al m.aw (dh (dO m))).2}:=Qs (by rw[h1.aB,h1.aE.nz];decide)
  rcases hj with⟨e1,e2⟩|hlt
  ·left;rw[he,e1,e2,FI h1]
  ·right;rw[sf h1.aB,sf (by rw[he];exact h1.aB)]
   exact Wr h1.ok (by rw[he];exact hlt)
 ·have hj:=(Cx h h2.fp).Xm h2.fp (sJ h);have hk:=Mp h h2;have he:cy m={m with al:=(cJ m.al m.aw (dh (dO m))).1,aw:=(cJ m.al m.aw (dh (dO m))).2,aM:=pQ m (cJ m.al m.aw (dh (dO m))).1 (cJ m.al m.aw (dh (dO m))).2}:=Qs (by rw[h2.aB,h2.aE.nz];decide)
  have hlow:∀p q,pQ m p q=m.aM:=fun p q=>Qs (fun h=>by have:=h.1;rw[h2.aB]at this;cases this)
  rcases hj with⟨e1,e2⟩|hlt
  ·left;rw[he,e1,e2,hlow]
  ·right;rw[se h2.aB,se (by rw[he];exact h2.aB)]
   have e2:(cJ m.al m.aw (dh (dO m))).2=m.aw:=by
    have h3:=hk.2.2;rw[he]at h3;exact h3.trans h2.bs.symm
   have hp:ki m.al<ki (cy m).al:=by
    rw[he];simp only;rw[e2]at hlt;refine Nat.lt_of_not_le fun hle=> ?_
    have:=Nat.mul_le_mul_right WB hle;omega
   have e3:(cy m).bb=m.bb/\(cy m).aM=m.aM/\(cy m).au=m.au/\(cy m).aa=m.aa:=by rw[he];exact⟨rfl,hlow _ _,rfl,rfl⟩
   have:r2 m<r2 (cy m):=by
    unfold r2;rw[e3.1,e3.2.1,e3.2.2.1,e3.2.2.2];exact lexLt (by have:=h2.aE.2.1;omega) (lexLt (ln (mY h2.ok.2.2.1)) (tL rfl hp))
   omega
 ·exact .inl (hid (.inl h3.aB))
theorem XN{m:ab}(h:aW m):gg m=m\/iE m<iE (gg m):=by
 rcases h.body with h0|h1|h2|h3
 ·exact .inl (lU (.inr (.inl (by rw[h0.aE];exact bo))))
 ·obtain⟨g1,g2⟩:=Hf h h1;rcases g2 with e|⟨e1,e2,e3,_⟩
  ·exact .inl e
  ·right;rw[sf h1.aB,sf g1.aB];exact XZ h1.ok (by unfold pq;rw[e1,e2]) (ow (mY h1.ok.2.2.1) (mY g1.ok.2.2.1) e3)
 ·exact .inl (lU (.inl (by rw[h2.aB];decide)))
 ·exact .inl (lU (.inl (by rw[h3.aB];decide)))
theorem FV(a b:Int):(bd a b=a/\b<=a)\/(bd a b=b/\a<b):=by unfold bd;split<;>omega
theorem km{a b:ae}(h1:a.ai=b.ai)(h2:a.Value=b.Value):a=b:=by cases a;cases b;simp only at h1 h2;rw[h1,h2]
theorem XR{m:ab}(h:aW m):ff m=m\/iE m<iE (ff m):=by
 have hC:m.aL=1->tJ m->ff m=m\/iE m<iE (ff m):=by
  intro hp hok
  by_cases hk:(fh m).2.2.2.1=true
  ·right;have e:ff m=EM m (fh m).1 (fh m).2.1 (fh m).2.2.1:=by unfold ff;rw[Qr hp,Qr hk]
   rw[sf hp,se (by rw[e];rfl)]
   have:=Ny hok;omega
  ·left;unfold ff;rw[Qr hp,Qs hk]
 rcases h.body with h0|h1|h2|h3
 ·exact hC h0.aB h0.ok
 ·exact hC h1.aB h1.ok
 ·have e:ff m=sY m (dw m).1 (dw m).2:=by unfold ff;rw[Qs (by rw[h2.aB];decide),Qr h2.aB]
  obtain⟨g1,g2,g3,g4⟩:=KJ h h2;have h2':=N7 h2 g1 g2 g3;rw[e]
  have hr:m.bb.toNat<=1000/\(1000 - m.aM).toNat<1001/\m.aa.ai.toNat<1001:=by
   have:=h2.bM;have:=h2.range;have:=h2.aE.2.1;omega
  have hcB:m.au=(sY m (dw m).1 (dw m).2).au\/ki m.au<ki (sY m (dw m).1 (dw m).2).au:=by
   rcases h2.cO with e|⟨hf,hv⟩
   ·right;rw[e]
    exact HA (h2'.cO.resolve_left (fun e=>by
     have h1:=h2'.range;have h3:(sY m (dw m).1 (dw m).2).au.ai=bd m.au.ai (dw m).2:=rfl;rw[e]at h3;have h4:=FV m.au.ai (dw m).2;have h5:(bn:ae).ai=0:=rfl
     omega)).1
   ·rcases FV m.au.ai (dw m).2 with⟨e1,_⟩|⟨e1,e2⟩
    ·exact .inl (km e1.symm hv)
    ·right;refine ow hf.sm (mY h2'.ok.2.2.1) ((rD _ _).2 (.inl ?_));show m.au.ai<bd m.au.ai (dw m).2;omega
  have hpB:m.al=(sY m (dw m).1 (dw m).2).al\/ki m.al<ki (sY m (dw m).1 (dw m).2).al:=by
   rcases FV m.al.ai (dw m).2 with⟨e1,_⟩|⟨e1,e2⟩
   ·exact .inl (km e1.symm rfl)
   ·right;refine ow h2.bW.1.sm h2'.bW.1.sm ((rD _ _).2 (.inl ?_));show m.al.ai<bd m.al.ai (dw m).2;omega
  have hbB:m.aa=(sY m (dw m).1 (dw m).2).aa\/m.aa.ai<(sY m (dw m).1 (dw m).2).aa.ai:=by
   rcases FV m.aa.ai (dw m).2 with⟨e1,_⟩|⟨e1,e2⟩
   ·exact .inl (km e1.symm rfl)
   ·right;show m.aa.ai<bd m.aa.ai (dw m).2;omega
  rw[se h2.aB,se h2'.aB];have hPs:=ln h2.bW.1.sm;have hCs:=ln (mY h2.ok.2.2.1);have hHi:(sY m (dw m).1 (dw m).2).bb=(dw m).2:=rfl;have hLo:(sY m (dw m).1 (dw m).2).aM=(dw m).1:=rfl;have fin:r2 m<r2 (sY m (dw m).1 (dw m).2)->K1+r2 m<K1+r2 (sY m (dw m).1 (dw m).2):=fun h=>by omega
  have hrng:=h2.range;rcases g4 with⟨e1,e2⟩|e1
  ·rcases Int.lt_or_eq_of_le e2 with e3|e3
   ·
    refine .inr (fin (lexLt hr.2.2 (lexLt hCs (lexLt hPs (tL ?_ ?_)))))
    ·rw[hHi,e1]
    ·rw[hLo];omega
   ·rcases hpB with hp|hp
    ·rcases hcB with hc|hc
     ·rcases hbB with hb|hb
      ·left;exact qL ⟨rfl,rfl,rfl,rfl,rfl,rfl⟩ rfl hb.symm hp.symm rfl hc.symm e3 e1
      ·refine .inr (fin (tL ?_ (by have:=h2.aE.1;omega)))
       rw[hHi,hLo,<-hp,<-hc,e1,e3]
     ·refine .inr (fin (lexLt hr.2.2 (tL ?_ hc)));rw[hHi,hLo,<-hp,e1,e3]
    ·refine .inr (fin (lexLt hr.2.2 (lexLt hCs (tL ?_ hp))));rw[hHi,hLo,e1,e3]
  ·refine .inr (fin (lexLt hr.2.2 (lexLt hCs (lexLt hPs (lexLt hr.2.1 ?_)))));rw[hHi];omega
 ·left;unfold ff;rw[Qs (by rw[h3.aB];decide),Qs (by rw[h3.aB];decide)]
theorem XQ{m:ab}(h:aW m):iV m=m\/iE m<iE (iV m):=by
 by_cases hc:m.aL=2/\(kh m).2.2.1=true
 ·right;have e:iV m=CG m (kh m).1 (kh m).2.1:=Qr hc;rw[se hc.1,O3 (by rw[e];rfl)]
  rcases h.body with h0|h1|h2|h3
  ·have:=h0.aB;have:=hc.1;omega
  ·have:=h1.aB;have:=hc.1;omega
  ·have:=Tb h2;omega
  ·have:=h3.aB;have:=hc.1;omega
 ·exact .inl (Qs hc)
theorem XP{m:ab}(h:aW m):dV m=m\/iE m<iE (dV m):=by
 have hid:m.aL=3\/ep m m.aa.ai=false->dV m=m:=fun hc=>Qr hc
 cases ha:ep m m.aa.ai with
 |false=>exact .inl (hid (.inr ha))
 |true=>
  have hC:m.aL=1->tJ m->0<=m.aa.ai/\m.aa.ai<=1000->dV m=m\/iE m<iE (dV m):=by
   intro hp hok hb;obtain⟨c1,c2,c3,c4,_⟩:=B6 h hb;have e:dV m={m with aM:=if iT m=m.aa.Value then m.aM else 0,aa:=⟨bd m.aa.ai (df (dn m) 1000),iT m⟩}:=Qs (by rw[hp,ha];decide)
   have hnv:iT (dV m)=iT m:=by
    unfold iT dE;rw[e];simp only[hp,Qt,not_true_eq_false,Qu,ne_eq]
   by_cases hs:bd m.aa.ai (df (dn m) 1000)=m.aa.ai/\iT m=m.aa.Value
   ·left;rw[e];refine qL ⟨rfl,rfl,rfl,rfl,rfl,rfl⟩ rfl (km hs.1 hs.2) rfl rfl rfl ?_ rfl;exact Qr hs.2
   ·right;rw[sf hp,sf (by rw[e];exact hp)]
    refine XY (by rw[e];rfl) (by rw[e]) ?_
    unfold t1;rw[hnv];have hb':(dV m).aa=⟨bd m.aa.ai (df (dn m) 1000),iT m⟩:=by rw[e]
    rw[hb',Qr rfl];simp only
    by_cases hv:iT m=m.aa.Value
    ·rw[Qr hv.symm];have:bd m.aa.ai (df (dn m) 1000)≠m.aa.ai:=fun e=>hs ⟨e,hv⟩
     omega
    ·rw[Qs (fun e=>hv e.symm)]
     omega
  rcases h.body with h0|h1|h2|h3
  ·exact hC h0.aB h0.ok (by rw[h0.aE];decide)
  ·exact hC h1.aB h1.ok ⟨by have:=h1.aE.1;omega,h1.aE.2.1⟩
  ·obtain⟨c1,c2,c3,c4,_⟩:=B6 h ⟨by have:=h2.aE.1;omega,h2.aE.2.1⟩
   have hnv:iT m=m.aa.Value:=Qs (by rw[h2.aB];decide)
   have e:dV m={m with aa:=⟨bd m.aa.ai (df (dn m) 1000),m.aa.Value⟩}:=by
    unfold dV;rw[Qs (by rw[h2.aB,ha];decide),hnv,Qr rfl]
   rw[e]
   by_cases hs:bd m.aa.ai (df (dn m) 1000)=m.aa.ai
   ·left;exact qL ⟨rfl,rfl,rfl,rfl,rfl,rfl⟩ rfl (km hs rfl) rfl rfl rfl rfl rfl
   ·right;rw[se h2.aB,se (show({m with aa:=⟨bd m.aa.ai (df (dn m) 1000),m.aa.Value⟩}:ab).aL=2 from h2.aB)]
    have:r2 m<r2 {m with aa:=⟨bd m.aa.ai (df (dn m) 1000),m.aa.Value⟩}:=by
     refine tL rfl ?_;have:=h2.aE.1;show m.aa.ai.toNat<(bd m.aa.ai (df (dn m) 1000)).toNat;omega
    omega
  ·exact .inl (hid (.inl h3.aB))
end Go.Proofs.YtkgenianmdfmdaaGreat
namespace Go.Proofs.YtkgenianmdfmdaaGreat
open Go.TQ
def Xf(p:aj->Bool):Prop:=∀e s,p {e with aK:=s}=p e
structure Alike (l l':List aj):Prop where
 view:∀ay,ay<10->∀t,dU ay t l=dU ay t l'
 Me:∀p,Xf p->de p (bH l)=de p (bH l')
 XL:dY l=dY l'
 val:gd l=gd l'
 gp:∀v,bS l v=bS l' v
section
variable {l l' : List aj} (h : Alike l l')
 include h
theorem Alike.acc{ay:Nat}(hn:ay<10)(t:ao):gN ay t l=gN ay t l':=by
 funext b
 unfold gN;rw[h.view ay hn t,h.Me _ (fun e s=>rfl),h.Me _ (fun e s=>rfl)]
theorem Alike.cO{ay:Nat}(hn:ay<10)(t:ao):fq ay t l=fq ay t l':=by
 funext b
 unfold fq;rw[h.view ay hn t,h.Me _ (fun e s=>rfl)]
theorem Alike.ready{ay:Nat}(hn:ay<10)(t:ao):oJ ay t l=oJ ay t l':=by
 funext v lo hi
 unfold oJ;rw[h.view ay hn t,h.Me _ (fun e s=>rfl),h.Me _ (fun e s=>rfl)]
theorem Alike.sure{ay:Nat}(hn:ay<10)(t:ao):qV ay t l=qV ay t l':=by
 funext v lo hi
 unfold qV;rw[h.view ay hn t,h.Me _ (fun e s=>rfl)]
theorem Alike.next{ay:Nat}(hn:ay<10)(t:ao)(p q:ae)(v:ByteArray):gY ay t l p q v=gY ay t l' p q v:=by
 unfold gY;rw[h.XL,h.acc hn t]
theorem Alike.bM{ay:Nat}(hn:ay<10)(t:ao)(a:ae):tM ay t l a=tM ay t l' a:=by
 unfold tM;rw[h.XL,h.cO hn t]
theorem Alike.Cb(x:ByteArray->Int->Int->Bool)(p q:ae):fQ x l p q=fQ x l' p q:=by
 unfold fQ;rw[h.val];congr 1
 funext s v
 rw[h.gp]
theorem Alike.first(x:ByteArray->Int->Int->Bool)(p q:ae)(s:Bool×ae):oF x l p q s=oF x l' p q s:=by
 unfold oF;rw[h.gp]
end
theorem GI{l l':List aj}(hl:mK l)(hn:l.length<=1000)(hl':mK l')(hn':l'.length<=1000)
  (h1:∀x,(∃e∈l,x∈said e/\aD x=false)↔∃e∈l',x∈said e/\aD x=false) (h2:∀x,(∃e∈l,aZ e=true/\x=e.aa.Value)↔∃e∈l',aZ e=true/\x=e.aa.Value)
  (h3:∀v x,x∈ends v l↔x∈ends v l'):dY l=dY l'/\gd l=gd l'/\∀v,bS l v=bS l' v:=by
 obtain⟨_,a2,_,a4⟩:=nK hl.aY hn;obtain⟨_,b2,_,b4⟩:=nK hl'.aY hn';obtain⟨_,c2,_,c4⟩:=oV hl.aY hn;obtain⟨_,d2,_,d4⟩:=oV hl'.aY hn';refine⟨wX.flip.unique a2 b2 fun x=> ?_,wW.unique c2 d2 fun x=> ?_,fun v=> ?_⟩
 ·rw[a4,b4];exact h1 x
 ·rw[c4,d4];exact h2 x
 ·obtain⟨_,e2,_,e4⟩:=lM hl.aY hn v;obtain⟨_,f2,_,f4⟩:=lM hl'.aY hn' v;refine Cp.unique (e2.imp fun h=>Qg h) (f2.imp fun h=>Qg h) fun x=> ?_
  rw[e4,f4];exact h3 v x
theorem OA{l l':List aj}(hl:mK l)(hn:l.length<=1000)(ha:tT l)(h:l.Perm l'):Alike l l':=by
 have hl':mK l':=⟨by rw[<-h.length_eq];exact hl.len,fun e he=>hl.aY e (h.mem_iff.2 he)⟩
 have hm:∀(P:aj->Prop),(∃e∈l,P e)↔∃e∈l',P e:=fun P=>⟨fun⟨e,he,hp⟩=>⟨e,h.mem_iff.1 he,hp⟩,fun⟨e,he,hp⟩=>⟨e,h.mem_iff.2 he,hp⟩⟩
 obtain⟨a,b,c⟩:=GI hl hn hl' (by rw[<-h.length_eq];exact hn) (fun x=>hm _) (fun x=>hm _) (fun v x=>by rw[tf,tf];exact hm _)
 exact⟨fun ay hn t=>Nd hn t ha h,fun p _=>OM (LN h) p,a,b,c⟩
theorem Q7{l:List aj}(hl:mK l)(hn:l.length<=1000)(f:aj->aj)(hf:∀e∈l,f e={e with aK:=(f e).aK}/\aZ (f e)=aZ e):Alike l (l.map f):=by
 have e1:∀e∈l,(f e).ar=e.ar/\(f e).af=e.af/\(f e).aa=e.aa/\(f e).bR=e.bR/\(f e).al=e.al/\(f e).aw=e.aw/\(f e).aM=e.aM/\(f e).bb=e.bb:=fun e he=>by
  have:=(hf e he).1;rw[this];exact⟨rfl,rfl,rfl,rfl,rfl,rfl,rfl,rfl⟩
 have hl':mK (l.map f):=⟨by rw[QC];exact hl.len,fun e he=>by
  obtain⟨x,hx,rfl⟩:=QP.1 he
  rw[(e1 x hx).2.1];exact hl.aY x hx⟩
 have hm:∀(P:aj->Prop),(∀e∈l,P e↔P (f e))->((∃e∈l,P e)↔∃e∈l.map f,P e):=fun P hP=>⟨fun⟨e,he,hp⟩=>⟨f e,QP.2 ⟨e,he,rfl⟩,(hP e he).1 hp⟩,fun⟨e,he,hp⟩=>by
  obtain⟨x,hx,rfl⟩:=QP.1 he
  exact⟨x,hx,(hP x hx).2 hp⟩⟩
 have hsaid:∀e∈l,said (f e)=said e:=fun e he=>by
  obtain⟨g1,g2,g3,g4,g5,g6,g7,g8⟩:=e1 e he;unfold said at_
  rw[(hf e he).2,g4,g3,g5,g6]
 have hbnd:∀v,∀e∈l,jy v (f e)=jy v e:=fun v e he=>by
  obtain⟨g1,g2,g3,g4,g5,g6,g7,g8⟩:=e1 e he;unfold jy;simp only[(hf e he).2,g4,g3,g7,g8]
 obtain⟨a,b,c⟩:=GI hl hn hl' (by rw[QC];exact hn) (fun x=>hm _ fun e he=>by rw[hsaid e he]) (fun x=>hm _ fun e he=>by rw[(hf e he).2,(e1 e he).2.2.1])
  (fun v x=>by rw[tf,tf];exact hm _ fun e he=>by rw[hbnd v e he,(e1 e he).2.2.2.2.2.2.1,(e1 e he).2.2.2.2.2.2.2])
 refine⟨fun ay hn t=> ?_,fun p hp=> ?_,a,b,c⟩
 ·unfold dU;generalize (List.replicate 10 eM).set ay ⟨true,t⟩=ms
  suffices key:∀(k:List aj) (ms:List aT),(∀e∈k,e∈l)->k.foldl cz ms=(k.map f).foldl cz ms from key l ms fun e he=>he
  intro k
  induction k with
  |nil=>intro ms _;rfl
  |cons x k ih=>
   intro ms hk;have hx:=hk x Qx
   have:cz ms (f x)=cz ms x:=by
    unfold cz;rw[(hf x hx).2,(e1 x hx).1,(e1 x hx).2.1]
   rw[QD,QU,QU,this];exact ih _ fun e he=>hk e (Qy _ he)
 ·unfold bH
  suffices key:∀(k:List aj),(∀e∈k,e∈l)->de p (k.filter aZ)=de p ((k.map f).filter aZ)from key l fun e he=>he
  intro k
  induction k with
  |nil=>intro _;rfl
  |cons x k ih=>
   intro hk;have hx:=hk x Qx
   have hpx:p (f x)=p x:=by
    rw[(hf x hx).1];exact hp x _
   rw[QD,List.filter_cons,List.filter_cons,(hf x hx).2];split
   ·rw[de,de,hpx,(e1 x hx).1,ih fun e he=>hk e (Qy _ he)]
   ·exact ih fun e he=>hk e (Qy _ he)
structure gk (m:ab):Prop where
 zero:aD m.aa=true->m.aK=0
 pos:aD m.aa=false->1<=m.aK
def BB(m:ab):aj:=⟨m.ar,m.bx,m.aK,m.af,m.aL,m.aa,m.al,m.aw,m.aM,if m.aL=1 then eo m else m.bb⟩
theorem tY(m:ab):c5 m=some (BB m):=by
 unfold c5 BB eo;simp only[bA,ao.eta,bY,dZ,Qa]
 by_cases h1:m.aL=1
 ·rw[Qg h1,Qr h1];cases aD m.au<;>cases bB m.au m.aa<;>rfl
 ·rw[Qh h1,Qs h1];rfl
theorem yt{m:ab}(h:aW m):BB m=cj m:=by
 unfold BB cj;rcases h.body with h0|h1|h2|h3
 ·rw[Qr h0.aB,Qr h0.aB]
 ·rw[Qr h1.aB,Qr h1.aB]
 ·rw[Qs (by rw[h2.aB];decide),Qs (by rw[h2.aB];decide),Qr h2.aB,h2.bs]
 ·rw[Qs (by rw[h3.aB];decide),Qs (by rw[h3.aB];decide),Qs (by rw[h3.aB];decide),h3.bs,h3.bW]
theorem Mt{m:ab}(hs:gk m)(hz:aD m.aa=false):ft m=cj m:=by
 unfold ft
 have:bd (cj m).aK 1=(cj m).aK:=by
  have:=hs.pos hz;rw[KM];unfold bd;split<;>omega
 rw[this]
def o7(m:ab):List aj:=if aD m.aa=true then m.aA else m.aA++[BB m]
theorem PY{l:List aj}(hl:l.length<=1000):dG l=some l:=by
 unfold dG;have h1:bZ 176 (List.length ([]:List aj)+List.length l)=true:=ez (by simp;omega)
 rw[h1]
 cases l with
 |nil=>simp
 |cons x l=>rfl
theorem Bz{m:ab}(h:m.aA.length<=100):cr ⟨m⟩=some (o7 m,⟨m⟩):=by
 unfold cr o7;simp only[ab.eta,ao.eta,aj.eta,ax.eta,bY,tY,Qa,PY (show m.aA.length<=1000 by omega)]
 cases aD m.aa with
 |true=>rfl
 |false=>
  simp only[Ql,Qq,Qu];rw[ez (by simp;omega)]
  rfl
theorem aW.apart{m:ab}(h:aW m):tT (aJ m):=by
 have hs:∀a∈m.aA,∀b∈m.aA,a.ar=b.ar->a=b:=by
  have:=h.mB;revert this;generalize m.aA=l;intro hp
  induction l with
  |nil=>intro a ha;cases ha
  |cons x l ih=>
   rw[Q4]at hp;intro a ha b hb e;rcases QA.1 ha with ha'|ha'<;>rcases QA.1 hb with hb'|hb'
   ·rw[ha',hb']
   ·have:=hp.1 b hb';rw[ha']at e;omega
   ·have:=hp.1 a ha';rw[hb']at e;omega
   ·exact ih hp.2 a ha' b hb' e
 intro a ha b hb e;rcases qY ha with ha|⟨_,rfl⟩<;>rcases qY hb with hb|⟨_,rfl⟩
 ·exact hs a ha b hb e
 ·exact absurd (e.trans (oH m)) (h.hv a ha).2.2.2
 ·exact absurd (e.symm.trans (oH m)) (h.hv b hb).2.2.2
 ·rfl
theorem Il{m:ab}(h:aW m)(hs:gk m):(aJ m).Perm (o7 m):=by
 unfold aJ o7;split
 ·exact .refl _
 ·rename_i hz;rw[yt h,<-Mt hs (by simpa using hz)]
  exact xe _ _
theorem jo{m:ab}(h:aW m)(hs:gk m):Alike (aJ m) (o7 m):=OA h.ev.nv.1 h.ev.nv.2 h.apart (Il h hs)
theorem nb{m:ab}(h:aW m)(hs:gk m):mK (o7 m)/\(o7 m).length<=1000:=by
 have hp:=Il h hs;have:=h.ev.nv;exact⟨⟨by rw[<-hp.length_eq];exact this.1.len,fun e he=>this.1.aY e (hp.mem_iff.2 he)⟩,by rw[<-hp.length_eq];exact this.2⟩
section
variable {m : ab} (h : aW m) (hs : gk m)
 include h hs
theorem Vo(p q:ae)(v:ByteArray):kF m.ar m.af (o7 m) p q v=some (gY m.ar.toNat m.af (aJ m) p q v):=by
 have:=T3 h.ev.ay.2 h.ev.aY (nb h hs).1 (nb h hs).2 p q v
 rwa [h.ev.ay.1,<-(jo h hs).next h.ev.ay.2]at this
theorem Vq(a:ae):iR m.ar m.af (o7 m) a=some (tM m.ar.toNat m.af (aJ m) a):=by
 have:=T4 h.ev.ay.2 h.ev.aY (nb h hs).1 (nb h hs).2 a
 rwa [h.ev.ay.1,<-(jo h hs).bM h.ev.ay.2]at this
theorem T5:mR m.ar m.af (o7 m) m.al m.aw=some (fh m):=by
 have hl:=nb h hs;have:=V9 (J2 h.ev.ay.2 h.ev.aY hl.1) hl.1 hl.2 (look_eq h.ev.ay.2 h.ev.aY hl.1) m.al m.aw;rw[h.ev.ay.1,<-(jo h hs).ready h.ev.ay.2,<-(jo h hs).Cb,<-(jo h hs).first]at this
 exact this
theorem Wv:lS m.ar m.af (o7 m) m.aa.Value m.aM m.bb=some ((dw m).1,(dw m).2,()):=by
 have hl:=nb h hs;have:=U8 (J2 h.ev.ay.2 h.ev.aY hl.1) hl.1 hl.2 (look_eq h.ev.ay.2 h.ev.aY hl.1) m.aa.Value m.aM m.bb;rw[h.ev.ay.1,<-(jo h hs).ready h.ev.ay.2,<-(jo h hs).gp]at this;exact this
theorem Wu:mS m.ar m.af (o7 m) m.aa.Value=some (kh m):=by
 have hl:=nb h hs;have:=Wa (TM h.ev.ay.2 h.ev.aY hl.1) hl.1 hl.2 (look_eq h.ev.ay.2 h.ev.aY hl.1) m.aa.Value;rw[h.ev.ay.1,<-(jo h hs).sure h.ev.ay.2,<-(jo h hs).gp]at this;exact this
end
theorem H7(v:ByteArray)(n:Int)(p q:ae):kW v n p q=some (kg v n p q):=by
 unfold kW kg;generalize bd n 1=k
 have hst:∀(i:Nat) (x:ae) (k:Int),i<2->[p,q][i]?=some x->
   (fun(v1:Int×Int×Unit)=>
    bif (decide (v1.2.1<((List.length [p,q]:Nat):Int)))then
    bO (fun(v2:Int×Unit)=>some (Sum.inl (v2.1,(aI .i64 v1.2.1 (1:Int)),()))) fun j3=>
    Option.bind (idx [p,q] v1.2.1) fun x4=>
    Option.bind (eW x4) fun r5=>
    Option.bind (bif (!r5)then some true else Option.bind (dj x4 (ae.mk v1.1 v)) fun r6=>some (!r6)) fun b7=>
    bif b7 then j3 (v1.1,())
    else Option.bind (dj x4 (ae.mk x4.ai v)) fun r8=>
     bif r8 then j3 ((aI .i64 x4.ai (1:Int)),())else j3 (x4.ai,())
    else(Option.map Sum.inr (some v1.1):Option ((Int×Int×Unit)⊕Int))) (k,(i:Int),())=some (Sum.inl (tF v k x,((i+1:Nat):Int),())):=by
  intro i x k hi hx;have hd:decide ((i:Int)<((List.length [p,q]:Nat):Int))=true:=Qg (by simp;omega)
  have hw:aI .i64 (i:Int) 1=((i+1:Nat):Int):=b0 (by omega) (by omega)
  have hx':idx [p,q] (i:Int)=some x:=by rw[bK];exact hx
  simp only[hd,hw,hx',Qk,bA,Qa,oQ,nR];unfold tF
  cases hv:cd x with
  |false=>simp
  |true=>
   have hc:aI .i64 x.ai 1=x.ai+1:=by
    have:1<=x.ai/\x.ai<=1000000:=by
     simp only[cd,Qm,Qn,Qi]at hv;omega
    exact b0 (by omega) (by omega)
   cases h1:dS x ⟨k,v⟩with
   |false=>simp
   |true=>cases h2:dS x ⟨x.ai,v⟩<;>simp[hc]
 refine(bq (hst 0 p k (by omega) rfl)).trans ((bq (hst 1 q _ (by omega) rfl)).trans (bU ?_))
 rfl
theorem RY(b:ae):(⟨df b.ai 1000,b.Value⟩:ae)=dh b:=by
 unfold df dh;split<;>rfl
section
variable {m : ab} (h : aW m) (hs : gk m)
 include h
theorem FH(hz:aD (dO m)=true):cy m=m:=by
 have hid:m.aL=3\/aD m.aa=true->cy m=m:=fun hc=>Qr hc
 have hj:cJ m.al m.aw (dh (dO m))=(m.al,m.aw):=by
  have:dh (dO m)=bn:=by rw[ri.1 hz];decide
  rw[this];exact Qr bo
 have he:¬(m.aL=3\/aD m.aa=true)->pQ m m.al m.aw=m.aM->cy m=m:=by
  intro hc hl;unfold cy;rw[Qs hc,hj];simp only;rw[hl]
 rcases h.body with h0|h1|h2|h3
 ·exact hid (.inr (by rw[h0.aE];exact bo))
 ·exact he (by rw[h1.aB,h1.aE.nz];decide) (FI h1)
 ·exact he (by rw[h2.aB,h2.aE.nz];decide) (Qs (fun h=>by have:=h.1;rw[h2.aB]at this;cases this))
 ·exact hid (.inl h3.aB)
 include hs
theorem NF:iA ⟨m⟩=some ((),⟨cy m⟩):=by
 have hl:m.aA.length<=100:=by have:=h.len;omega
 unfold iA;simp only[ab.eta,ao.eta,ax.eta,bY,Bz hl,Vo h hs,TW,H7,tY,Qa,bA,RY]
 by_cases h3:m.aL=3\/aD m.aa=true
 ·have e:cy m=m:=Qr h3;rw[e];rcases h3 with h3|h3
  ·rw[Qg h3];cases aD m.aa<;>rfl
  ·rw[h3];rfl
 ·have hz:aD m.aa=false:=by
   cases hz:aD m.aa with
   |true=>exact absurd (.inr hz) h3
   |false=>rfl
  have h3':¬m.aL=3:=fun e=>h3 (.inl e)
  rw[hz,Qh h3'];simp only[Ql,Qa]
  have hmain:∀v:ByteArray,v=AQ m->(bif aD (gY m.ar.toNat m.af (aJ m) m.al m.aw v)then some ((),(⟨m⟩:ax))else
    Option.bind (bif decide (m.aL=1)then some (!decide (m.aM=0))else some false) fun b9=>
    bif b9 then
     bif decide ((BB ⟨m.ar,m.bx,m.aK,m.af,m.aL,m.aa,(cJ m.al m.aw (dh (gY m.ar.toNat m.af (aJ m) m.al m.aw v))).1,(cJ m.al m.aw (dh (gY m.ar.toNat m.af (aJ m) m.al m.aw v))).2,m.au,kg m.aa.Value m.aM (cJ m.al m.aw (dh (gY m.ar.toNat m.af (aJ m) m.al m.aw v))).1 (cJ m.al m.aw (dh (gY m.ar.toNat m.af (aJ m) m.al m.aw v))).2,m.bb,m.bm,m.aA⟩).bb<kg m.aa.Value m.aM (cJ m.al m.aw (dh (gY m.ar.toNat m.af (aJ m) m.al m.aw v))).1 (cJ m.al m.aw (dh (gY m.ar.toNat m.af (aJ m) m.al m.aw v))).2)then
      some ((),(⟨⟨m.ar,m.bx,m.aK,m.af,m.aL,m.aa,(cJ m.al m.aw (dh (gY m.ar.toNat m.af (aJ m) m.al m.aw v))).1,(cJ m.al m.aw (dh (gY m.ar.toNat m.af (aJ m) m.al m.aw v))).2,m.au,0,m.bb,m.bm,m.aA⟩⟩:ax))
     else some ((),(⟨⟨m.ar,m.bx,m.aK,m.af,m.aL,m.aa,(cJ m.al m.aw (dh (gY m.ar.toNat m.af (aJ m) m.al m.aw v))).1,(cJ m.al m.aw (dh (gY m.ar.toNat m.af (aJ m) m.al m.aw v))).2,m.au,kg m.aa.Value m.aM (cJ m.al m.aw (dh (gY m.ar.toNat m.af (aJ m) m.al m.aw v))).1 (cJ m.al m.aw (dh (gY m.ar.toNat m.af (aJ m) m.al m.aw v))).2,m.bb,m.bm,m.aA⟩⟩:ax))
    else some ((),(⟨⟨m.ar,m.bx,m.aK,m.af,m.aL,m.aa,(cJ m.al m.aw (dh (gY m.ar.toNat m.af (aJ m) m.al m.aw v))).1,(cJ m.al m.aw (dh (gY m.ar.toNat m.af (aJ m) m.al m.aw v))).2,m.au,m.aM,m.bb,m.bm,m.aA⟩⟩:ax)))=some ((),(⟨cy m⟩:ax)):=by
   intro v hv;subst hv;rw[show gY m.ar.toNat m.af (aJ m) m.al m.aw (AQ m)=dO m from rfl]
   cases hzn:aD (dO m)with
   |true=>rw[FH h hzn];rfl
   |false=>
    simp only[Ql];have e:cy m={m with al:=(cJ m.al m.aw (dh (dO m))).1,aw:=(cJ m.al m.aw (dh (dO m))).2,aM:=pQ m (cJ m.al m.aw (dh (dO m))).1 (cJ m.al m.aw (dh (dO m))).2}:=Qs h3
    rw[e];unfold pQ
    by_cases hc:m.aL=1/\m.aM≠0
    ·rw[Qg hc.1,Qh hc.2,Qr hc];simp only[Qk,Qa,Qp];have hh:∀(p q:ae) (L:Int),(BB {m with al:=p,aw:=q,aM:=L}).bb=eo m:=fun p q L=>by unfold BB;exact Qr hc.1
     rw[hh];split
     ·rename_i hlt;rw[Qg hlt];rfl
     ·rename_i hlt;rw[Qh hlt];rfl
    ·rw[Qs hc]
     by_cases h1:m.aL=1
     ·rw[Qg h1,Qg (show m.aM=0 from Classical.byContradiction fun hn=>hc ⟨h1,hn⟩)];rfl
     ·rw[Qh h1];rfl
  by_cases h2:m.aL=2
  ·rw[Qg h2];exact hmain _ (Qr h2).symm
  ·rw[Qh h2];exact hmain _ (Qs h2).symm
end
theorem OV(m:ab)(b:ae):iv ⟨m⟩ b=some ((),⟨{m with aM:=bif bB m.aa b then m.aM else 0,aa:=b}⟩):=by
 unfold iv;simp only[ab.eta,ao.eta,ax.eta,dZ,Qa,bA];cases bB m.aa b<;>rfl
theorem D8(m:ab)(b:ae){α:Type}(j:ab->Option α):
  (bif decide (m.aM=(0:Int))then(bif bB m.aa b then(bif decide (kg b.Value m.aa.ai m.al m.aw<=b.ai)then j {m with aM:=kg b.Value m.aa.ai m.al m.aw}else j m)else j m)else(bif false then(bif decide (kg b.Value m.aa.ai m.al m.aw<=b.ai)then j {m with aM:=kg b.Value m.aa.ai m.al m.aw}else j m)else j m))=j (mm m b):=by
 unfold mm
 by_cases hL:m.aM=0
 ·rw[Qg hL]
  cases hc:bB m.aa b with
  |true=>
   by_cases hle:kg b.Value m.aa.ai m.al m.aw<=b.ai
   ·rw[Qr ⟨hL,rfl,hle⟩,Qg hle];rfl
   ·rw[Qs (fun h=>hle h.2.2),Qh hle];rfl
  |false=>
   rw[Qs (fun h=>by cases h.2.1)];rfl
 ·rw[Qh hL,Qs (fun h=>hL h.1)];rfl
section
variable {m : ab} (h : aW m) (hs : gk m)
 include h hs
theorem Vd:jK ⟨m⟩=some ((),⟨gg m⟩):=by
 have hl:m.aA.length<=100:=by have:=h.len;omega
 unfold jK;simp only[ab.eta,ao.eta,ax.eta,bY,Bz hl,Vq h hs,H7,OV,dZ,gE,Qa,bA];have hb:tM m.ar.toNat m.af (aJ m) m.au=ig m:=rfl;simp only[hb];unfold gg
 cases hz:aD m.aa with
 |true=>rw[Qr (.inr (.inl rfl))];rfl
 |false=>
  by_cases h1:m.aL=1
  ·rw[Qg h1]
   cases hzb:aD (ig m)with
   |true=>rw[Qr (.inr (.inr rfl))];rfl
   |false=>
    rw[Qs (by simp[h1])]
    simp only[Qo,Ql,Qa];unfold uO
    cases hlt:ba m.aa (ig m)with
    |true=>
     simp only[Qk,Qt]
     cases hcp:bB m.aa (ig m)with
     |true=>exact D8 {m with au:=ig m,aa:=ig m} (ig m) (fun x=>some ((),(⟨x⟩:ax)))
     |false=>exact D8 {m with au:=ig m,aa:=ig m,aM:=0} (ig m) (fun x=>some ((),(⟨x⟩:ax)))
    |false=>
     simp only[Ql,Qq,Qu];exact D8 {m with au:=ig m} (ig m) (fun x=>some ((),(⟨x⟩:ax)))
  ·rw[Qh h1,Qr (.inl h1)];rfl
theorem PW:iL ⟨m⟩=some ((),⟨ff m⟩):=by
 have hl:m.aA.length<=100:=by have:=h.len;omega
 unfold iL;simp only[ab.eta,ao.eta,ax.eta,Bz hl,T5 h hs,Wv h hs,dZ,gE,Qa,bA];unfold ff
 by_cases h1:m.aL=1
 ·rw[Qg h1,Qr h1];simp only[Qk]
  cases hk:(fh m).2.2.2.1 with
  |false=>rfl
  |true=>
   have hf:=yG h hk
   have hcov:fX m.al ⟨(fh m).2.2.1,(fh m).1⟩= !(ba m.al ⟨(fh m).2.2.1,(fh m).1⟩|| !bB m.al ⟨(fh m).2.2.1,(fh m).1⟩):=by
    cases hc:bB m.al ⟨(fh m).2.2.1,(fh m).1⟩with
    |false=>unfold fX;rw[hc];simp
    |true=>
     have hv:=gZ.1 hc
     have hnz:aD m.al=false:=by
      cases hz:aD m.al with
      |false=>rfl
      |true=>rw[ri.1 hz]at hv;exact absurd hv.symm hf.fin.ne
     unfold fX;rw[hc,hnz,zG hv,Qo,Bool.or_false,Qp,Bool.and_self,Bool.true_and];rw[QW];simp only[Qi,Bool.not_eq_true',Qj];omega
   simp only[Qo,Ql,Qt];unfold EM;rw[hcov];cases bB m.aa ⟨(fh m).2.2.1,(fh m).1⟩<;>cases ba m.aa ⟨(fh m).2.2.1,(fh m).1⟩<;>cases ba m.al ⟨(fh m).2.2.1,(fh m).1⟩<;>cases bB m.al ⟨(fh m).2.2.1,(fh m).1⟩<;>rfl
 ·rw[Qh h1,Qs h1]
  by_cases h2:m.aL=2
  ·rw[Qg h2,Qr h2];rcases h.body with k|k|k|k
   ·exact absurd k.aB h1
   ·exact absurd k.aB h1
   ·unfold sY;rw[k.bW.2];rfl
   ·have:=k.aB;omega
  ·rw[Qh h2,Qs h2];rfl
theorem Sh:ja ⟨m⟩=some ((),⟨iV m⟩):=by
 have hl:m.aA.length<=100:=by have:=h.len;omega
 unfold ja iV;simp only[ab.eta,ao.eta,ax.eta,Bz hl,Wu h hs,Qa]
 by_cases h2:m.aL=2
 ·rw[Qg h2]
  cases hk:(kh m).2.2.1 with
  |false=>rw[Qs (fun h=>by cases h.2)];rfl
  |true=>rw[Qr ⟨h2,rfl⟩];rfl
 ·rw[Qh h2,Qs (fun h=>h2 h.1)];rfl
end
theorem J7{m:ab}(h:Cj m):fC ⟨m⟩=some (dE m):=by
 have hl:m.aA.length<=1000:=by have:=h.len;omega
 unfold fC dE;simp only[bY,Qa]
 cases hz:aD m.au with
 |false=>rfl
 |true=>
  simp only[Qo,Ql,Bool.true_eq_false,Qu]
  by_cases h1:m.aL=1
  ·rw[Qg h1,Qs (fun h=>h h1)]
   simp only[Qo,Ql]
   by_cases hp:m.bm=iy
   ·have hp':decide (m.bm=ByteArray.mk #[])=true:=Qg hp;rw[hp',Qs (fun h=>h hp)]
    simp only[Qo,Ql]
    rw[IM m.aA hl (·.aa) (fin:=fun s=>Option.bind (jD s) fun r=>some r.Value) (fun i e s hs he hd hx hw=>by
     simp only[hd,hx,hw,Qk,Qa]
     rw[ez (by simp;omega),Qk]) (fun s hd=>by simp only[hd,Ql]),RP _ (by simp;omega)]
    rfl
   ·have hp':decide (m.bm=ByteArray.mk #[])=false:=Qh hp;rw[hp',Qr hp];rfl
  ·rw[Qh h1,Qr h1];rfl
theorem T0(l:List aj)(hlen:l.length<=1000)(p:aj->Bool)(hp:∀e∈l,p e=true->0<=e.ar/\e.ar<10):lQ l (l.map p)=some ((de p l:Nat):Int):=by
 unfold lQ
 suffices key:∀(k i s:Nat),i+k=l.length->s<1024->aG _ ((s:Int),(i:Int),())=some ((s|||de p (l.drop i):Nat):Int)by
  have:=key l.length 0 0 (by omega) (by omega)
  rw[Nat.zero_or,List.drop_zero]at this;exact this
 intro k
 induction k with
 |zero=>
  intro i s hi hs;obtain rfl:i=l.length:=by omega
  have hd:decide (((l.length:Nat):Int)<((l.length:Nat):Int))=false:=Qh (Int.lt_irrefl _);rw[bU (r:=(s:Int)) (by simp only[hd,Ql,Qe]),List.drop_length,de]
  simp
 |succ k ih=>
  intro i s hi hs;have hlt:i<l.length:=by omega
  have hd:decide ((i:Int)<((l.length:Nat):Int))=true:=Qg (by omega)
  have hd2:decide ((i:Int)<(((l.map p).length:Nat):Int))=true:=Qg (by rw[QC];omega)
  have hw:aI .i64 (i:Int) 1=((i+1:Nat):Int):=b0 (by omega) (by omega)
  have hx:idx l (i:Int)=some l[i]:=by rw[bK];exact Qv hlt
  have hx2:idx (l.map p) (i:Int)=some (p l[i]):=by rw[bK,QT,Qv hlt];rfl
  rw[QM hlt,de]
  cases hpe:p l[i]with
  |false=>
   rw[bq (s':=((s:Int),((i+1:Nat):Int),())) (by simp only[hd,hd2,hx,hx2,hw,hpe,Qk,Ql,bA,Qa]),ih (i+1) s (by omega) hs]
   simp
  |true=>
   obtain⟨h0,h1⟩:=hp _ (Q0 hlt) hpe;have hn0:¬l[i].ar<0:=by omega
   have d1:decide ((0:Int)<=l[i].ar)=true:=Qg h0;have d2:decide (l[i].ar<(10:Int))=true:=Qg (by omega)
   rw[bq (s':=(((s|||2 ^ l[i].ar.toNat:Nat):Int),((i+1:Nat):Int),())) (by
    simp only[hd,hd2,hx,hx2,hw,hpe,Qk,bA,Qa,d1,d2,hn0,Qu]
    rw[yr hs h0 h1]),ih (i+1) _ (by omega) (Jn hs h1)]
   simp[Nat.or_assoc]
theorem RR{m:ab}(h:Cj m)(n:Int):ju ⟨m⟩ n=some ((oP m n:Nat):Int):=by
 have hl:m.aA.length<=1000:=by have:=h.len;omega
 unfold ju;have d1:decide (((m.aA.length:Nat):Int)=((m.aA.length:Nat):Int))=true:=Qg rfl;have d2:decide (0<=((m.aA.length:Nat):Int))=true:=Qg (Int.natCast_nonneg _);have d3:bZ 1 m.aA.length=true:=ez (by omega)
 simp only[d1,d2,d3,QV,Bool.and_self,Qk]
 rw[PI m.aA hl (fun e=>decide (n<cm e)) (fin:=fun s=>Option.bind (lQ m.aA s) fun r=>some r)
  (fun i e s hsl he hi hd hx hw=>by
   have h1:idx s (i:Int)=some s[i]:=by rw[bK];exact Qv (by omega)
   have h2:s[i]?=some s[i]:=Qv (by omega)
   simp only[hd,hx,hw,h1,h2,Qk,Qa,ao.eta,aj.eta,Ke (h.sm e he) (h.valid e he),QV])
  (fun s hd=>by simp only[hd,Ql]) (by simp),T0 m.aA hl _ (fun e he _=>h.Hu e he)]
 rfl
section
variable {m : ab} (h : aW m) (hs : gk m)
 include h hs
theorem IA(n:Int):fR n ⟨dU m.ar.toNat m.af (o7 m)⟩ ⟨m⟩=some (ep m n):=by
 unfold fR;simp only[ab.eta,ao.eta,ax.eta,RR h.ev,Qa];have hb:=IX (n4 (ay:=m.ar.toNat) h.ev.aY (nb h hs).1) (v:=m.ar.toNat) (Q8 h.ev n);rw[h.ev.ay.1]at hb;rw[hb,Qa];unfold ep;rw[(jo h hs).view _ h.ev.ay.2]
theorem R6:iZ ⟨m⟩=some ((),⟨dV m⟩):=by
 have hl:m.aA.length<=100:=by have:=h.len;omega
 have hv:=MZ h.ev.ay.2 h.ev.aY (nb h hs).1;rw[h.ev.ay.1]at hv;unfold iZ dV;simp only[ab.eta,ao.eta,ax.eta,bY,Bz hl,hv,IA h hs,J7 h.ev,OV,Qa,bA]
 by_cases h3:m.aL=3
 ·rw[Qg h3,Qr (.inl h3)];rfl
 ·rw[Qh h3]
  cases ha:ep m m.aa.ai with
  |false=>rw[Qr (.inr rfl)];rfl
  |true=>
   rw[Qs (by simp[h3])]
   simp only[Ql,Qo]
   have hbc:0<=m.aa.ai/\m.aa.ai<=1000:=by
    rcases h.body with k|k|k|k
    ·rw[k.aE];decide
    ·exact⟨by have:=k.aE.1;omega,k.aE.2.1⟩
    ·exact⟨by have:=k.aE.1;omega,k.aE.2.1⟩
    ·exact absurd k.aB h3
   have hz1:aD m.aa=true->m.aL=1:=by
    intro hz;rcases h.body with k|k|k|k
    ·exact k.aB
    ·exact k.aB
    ·rw[k.aE.nz]at hz;cases hz
    ·exact absurd k.aB h3
   refine(Ss h.ev (fin:=fun c=>some ((),(⟨{m with aM:=bif bB m.aa ⟨df c 1000,iT m⟩then m.aM else 0,aa:=⟨df c 1000,iT m⟩}⟩:ax))) (fun i e s he hd hx hw=> ?_) (fun s hd=> ?_)).trans ?_
   ·simp only[hd,hx,hw,Qk,bA,Qa,ao.eta,aj.eta,Ke (h.ev.sm e he) (h.ev.valid e he),IA h hs];unfold jf
    by_cases c1:m.aa.ai<cm e
    ·by_cases c2:cm e<s
     ·rw[Qg c1,Qg c2]
      cases c3:ep m (cm e)with
      |true=>rw[Qs (by simp)];rfl
      |false=>rw[Qr ⟨c1,c2,rfl⟩];rfl
     ·rw[Qg c1,Qh c2,Qs (fun h=>c2 h.2.1)];rfl
    ·rw[Qh c1,Qs (fun h=>c1 h.1)];rfl
   ·simp only[hd,Ql,bA,Qa];unfold iT
    by_cases h1:m.aL=1
    ·rw[Qg h1,Qr h1];cases aD m.aa<;>rfl
    ·rw[Qh h1,Qs h1]
     cases hz:aD m.aa with
     |true=>exact absurd (hz1 hz) h1
     |false=>rfl
   ·have hm:=(B6 h hbc).2.2.2.2;rw[hm]
    have hcp:(bif bB m.aa ⟨df (dn m) 1000,iT m⟩then m.aM else 0)=(if iT m=m.aa.Value then m.aM else 0):=by
     by_cases e:iT m=m.aa.Value
     ·rw[Qr e,(gZ (a:=m.aa) (b:=⟨df (dn m) 1000,iT m⟩)).2 e.symm];rfl
     ·rw[Qs e,(ga (a:=m.aa) (b:=⟨df (dn m) 1000,iT m⟩)).2 (fun hc=>e hc.symm)];rfl
    rw[hcp]
end
end Go.Proofs.YtkgenianmdfmdaaGreat
namespace Go.Proofs.YtkgenianmdfmdaaGreat
open Go.TQ
theorem Lg{m:ab}(h:aW m)(s:Int):aJ {m with aK:=s}=(aJ m).map (fun e=>if e.ar=m.ar then{e with aK:=bd s 1}else e):=by
 have hf:∀e∈m.aA,(if e.ar=m.ar then{e with aK:=bd s 1}else e)=e:=fun e he=>Qs (h.hv e he).2.2.2
 have hmap:m.aA.map (fun e=>if e.ar=m.ar then{e with aK:=bd s 1}else e)=m.aA:=by
  rw[List.map_congr_left hf];simp
 have hown:ft {m with aK:=s}={ft m with aK:=bd s 1}:=by
  unfold ft cj eo;split
  ·rfl
  ·split<;>rfl
 unfold aJ;split
 ·exact hmap.symm
 ·rw[hown];have hn:(ft m).ar=m.ar:=oH m
  suffices key:∀l:List aj,(∀e∈l,(if e.ar=m.ar then{e with aK:=bd s 1}else e)=e)->BQ {ft m with aK:=bd s 1} l=(BQ (ft m) l).map (fun e=>if e.ar=m.ar then{e with aK:=bd s 1}else e)from key _ hf
  intro l
  induction l with
  |nil=>
   intro _;simp only[BQ,QD,QO,hn,Qt]
  |cons x l ih=>
   intro hx;unfold BQ;simp only;split
   ·rw[QD,QD,hn,Qr rfl,hx x Qx,List.map_congr_left (fun e he=>hx e (Qy _ he))]
    simp
   ·rw[QD,hx x Qx,ih fun e he=>hx e (Qy _ he)]
theorem Ht{m:ab}(h:aW m){s:Int}(hs:0<=s/\s<=1000000):aW {m with aK:=s}:=by
 refine⟨h.n0,h.n1,h.bL,hs,h.aY,h.kf,h.hv,h.mB,?_⟩;rcases h.body with k|k|k|k
 ·exact .inl ⟨k.aB,k.aE,k.bW,k.bs,k.cO,k.low,k.bM⟩
 ·exact .inr (.inl ⟨k.aB,k.aE,k.bW,k.bs,k.cO,k.up,k.bM,k.low⟩)
 ·exact .inr (.inr (.inl ⟨k.aB,k.aE,k.bW,k.bs,k.cO,k.range⟩))
 ·exact .inr (.inr (.inr ⟨k.aB,k.aE,k.bW,k.bs,k.cO,k.range⟩))
theorem lO{m:ab}(h:aW m){s:Int}(hs:0<=s/\s<=1000000):Alike (aJ m) (aJ {m with aK:=s}):=by
 rw[Lg h s];refine Q7 h.ev.nv.1 h.ev.nv.2 _ fun e he=> ?_
 split
 ·rename_i hn;refine⟨rfl,?_⟩;rw[h.iS e he];have hv:=h.iS e he
  have hm:{e with aK:=bd s 1}∈aJ {m with aK:=s}:=by
   rw[Lg h s];exact QP.2 ⟨e,he,Qr hn⟩
  exact(Ht h hs).iS _ hm
 ·exact⟨rfl,rfl⟩
theorem Uq(m:ab)(s:Int)(b:ae):uO {m with aK:=s} b={uO m b with aK:=s}:=by
 unfold uO
 by_cases h:ba m.aa b=true
 ·simp only[Qr h]
 ·simp only[Qs h]
theorem ON(m:ab)(s:Int)(b:ae):mm {m with aK:=s} b={mm m b with aK:=s}:=by
 unfold mm
 by_cases h:m.aM=0/\bB m.aa b=true/\kg b.Value m.aa.ai m.al m.aw<=b.ai
 ·simp only[Qr h]
 ·simp only[Qs h]
section
variable {m : ab} (h : aW m) {s : Int} (hs : 0 <= s /\ s <= 1000000)
 include h hs
theorem T9:dO {m with aK:=s}=dO m:=((lO h hs).next h.ev.ay.2 m.af _ _ _).symm
theorem Uo:ig {m with aK:=s}=ig m:=((lO h hs).bM h.ev.ay.2 m.af _).symm
theorem H3:eH {m with aK:=s}=eH m:=((lO h hs).ready h.ev.ay.2 m.af).symm
theorem Rv:y3 {m with aK:=s}=y3 m:=((lO h hs).sure h.ev.ay.2 m.af).symm
theorem UA:fh {m with aK:=s}=fh m:=by
 unfold fh;rw[H3 h hs];simp only;rw[<-(lO h hs).Cb,<-(lO h hs).first]
theorem UE:dw {m with aK:=s}=dw m:=by
 unfold dw;rw[H3 h hs];simp only;rw[<-(lO h hs).gp]
theorem UD:kh {m with aK:=s}=kh m:=by
 unfold kh;rw[Rv h hs];simp only;rw[<-(lO h hs).gp]
theorem IW(n:Int):ep {m with aK:=s} n=ep m n:=by
 unfold ep;simp only;rw[<-(lO h hs).view _ h.ev.ay.2];rfl
theorem UW:dn {m with aK:=s}=dn m:=by
 unfold dn;simp only;congr 1
 funext b e
 unfold jf;simp only[IW h hs]
theorem Ib:cy {m with aK:=s}={cy m with aK:=s}:=by
 unfold cy;simp only[T9 h hs];split<;>rfl
theorem H9:gg {m with aK:=s}={gg m with aK:=s}:=by
 unfold gg;simp only[Uo h hs];split
 ·rfl
 ·rw[Uq,ON]
theorem Ij:ff {m with aK:=s}={ff m with aK:=s}:=by
 unfold ff;simp only[UA h hs,UE h hs];split
 ·split<;>rfl
 ·split<;>rfl
theorem Ih:iV {m with aK:=s}={iV m with aK:=s}:=by
 unfold iV;simp only[UD h hs];split<;>rfl
theorem Ie:dV {m with aK:=s}={dV m with aK:=s}:=by
 unfold dV;simp only[IW h hs,UW h hs];split<;>rfl
end
open Classical in
 def cI(m:ab):ab:=
 if cy m=m then(if gg m=m then(if ff m=m then(if iV m=m then dV m else iV m)else ff m)else gg m)else cy m
structure Ak (m:ab):Prop where
 p:cy m=m
 s:gg m=m
 c:ff m=m
 f:iV m=m
 k:dV m=m
theorem Rw{m:ab}(h:cI m=m):Ak m:=by
 unfold cI at h;split at h
 ·split at h
  ·split at h
   ·split at h
    ·exact⟨by assumption,by assumption,by assumption,by assumption,h⟩
    ·contradiction
   ·contradiction
  ·contradiction
 ·contradiction
theorem R7{m:ab}(h:Ak m):cI m=m:=by
 unfold cI;rw[Qr h.p,Qr h.s,Qr h.c,Qr h.f,h.k]
theorem y5{m:ab}{Q:ab->Prop}(h1:Q (cy m))(h2:Q (gg m))(h3:Q (ff m))(h4:Q (iV m))(h5:Q (dV m)):Q (cI m):=by
 unfold cI;split
 ·split
  ·split
   ·split
    ·exact h5
    ·exact h4
   ·exact h3
  ·exact h2
 ·exact h1
theorem AT{m:ab}(h:aW m):aW (cI m):=y5 (Ic h) (Ia h) (Ik h) (Ii h) (Ig h)
theorem tU(m:ab):fF m (cI m):=y5 (tX m) (ru m) (rB m) (rA m) (w6 m)
theorem Rx{m:ab}(h:aW m):cI m=m\/iE m<iE (cI m):=y5 (Q:=fun x=>x=m\/iE m<iE x) (XO h) (XN h) (XR h) (XQ h) (XP h)
theorem X0(m:ab):(cy m).aa=m.aa:=by unfold cy;split<;>rfl
theorem JJ{m:ab}(h:aW m)(hz:aD m.aa=false):aD (cI m).aa=false:=by
 have hb:P1 m\/P2 m\/P3 m:=h.body.resolve_left fun k=>by rw[k.aE,bo]at hz;cases hz
 refine y5 (Q:=fun x=>aD x.aa=false) (by rw[X0];exact hz) ?_ ?_ ?_ ?_
 ·rcases hb with k|k|k
  ·exact(Hf h k).1.aE.nz
  ·rw[lU (.inl (by rw[k.aB];decide))];exact hz
  ·rw[lU (.inl (by rw[k.aB];decide))];exact hz
 ·unfold ff;rcases hb with k|k|k
  ·rw[Qr k.aB];split
   ·rename_i hk;have hf:=yG h hk;exact(K0 (.inr k.aE) k.bW hf.fin hf.Vy hf.le).aE.nz
   ·exact hz
  ·rw[Qs (by rw[k.aB];decide),Qr k.aB]
   obtain⟨g1,g2,g3,_⟩:=KJ h k;exact(N7 k g1 g2 g3).aE.nz
  ·rw[Qs (by rw[k.aB];decide),Qs (by rw[k.aB];decide)];exact hz
 ·unfold iV;split
  ·rename_i hc;rcases hb with k|k|k
   ·have:=k.aB;have:=hc.1;omega
   ·exact(Mr h k hc.2).aE.nz
   ·have:=k.aB;have:=hc.1;omega
  ·exact hz
 ·cases ha:ep m m.aa.ai with
  |false=>
   have:dV m=m:=Qr (.inr ha);rw[this];exact hz
  |true=>
   rcases hb with k|k|k
   ·exact(Hg h (.inr k) ha).aE.nz
   ·exact(Mq h k).aE.nz
   ·have:dV m=m:=Qr (.inl k.aB);rw[this];exact hz
def dB(m:ab):ab:=if aD m.aa=false then{m with aK:=bd m.aK 1}else m
theorem Ua{m:ab}(h:aW m):0<=bd m.aK 1/\bd m.aK 1<=1000000:=by
 have:=h.seq;unfold bd;split<;>omega
theorem Ki{m:ab}(h:aW m):aW (dB m):=by
 unfold dB;split
 ·exact Ht h (Ua h)
 ·exact h
theorem Mx{m:ab}(h:aD m.aa=true->m.aK=0):gk (dB m):=by
 unfold dB;split
 ·rename_i hz;exact⟨fun e=>(by rw[show({m with aK:=bd m.aK 1}:ab).aa=m.aa from rfl,hz]at e;cases e),fun _=>by show 1<=bd m.aK 1;unfold bd;split<;>omega⟩
 ·rename_i hz;exact⟨h,fun e=>absurd e hz⟩
theorem UC{m:ab}(h:aW m)(hf:Ak m){s:Int}(hs:0<=s/\s<=1000000):Ak {m with aK:=s}:=
 ⟨by rw[Ib h hs,hf.p],by rw[H9 h hs,hf.s],by rw[Ij h hs,hf.c],by rw[Ih h hs,hf.f],by rw[Ie h hs,hf.k]⟩
theorem Ub{m:ab}(hs:gk m):dB m=m:=by
 unfold dB;split
 ·rename_i hz;have:=hs.pos hz;have e:bd m.aK 1=m.aK:=by unfold bd;split<;>omega
  rw[e]
 ·rfl
theorem RH(m:ab):iE (dB m)=iE m:=by
 unfold dB;split<;>rfl
theorem Kh{m:ab}(h:0<=m.aK):cv ⟨m⟩=some ((),⟨dB m⟩):=by
 unfold cv dB;simp only[ab.eta,ao.eta,ax.eta,bY,Qa]
 cases hz:aD m.aa with
 |true=>rfl
 |false=>
  simp only[Qp,Qk,Qa,Qt]
  by_cases hs:m.aK=0
  ·have e:bd m.aK 1=1:=by unfold bd;split<;>omega
   rw[Qg hs,e];rfl
  ·have e:bd m.aK 1=m.aK:=by unfold bd;split<;>omega
   rw[Qh hs,e];rfl
theorem qj{m m':ab}(he:fF m m'):
  (decide (m'.aL=m.aL)&&(decide (m'.aM=m.aM)&&(decide (m'.bb=m.bb)&&(decide (m'.aa.ai=m.aa.ai)&&(decide (m'.aa.Value=m.aa.Value)&&(decide (m'.al.ai=m.al.ai)&&(decide (m'.al.Value=m.al.Value)&&(decide (m'.aw.ai=m.aw.ai)&&(decide (m'.aw.Value=m.aw.Value)&&(decide (m'.au.ai=m.au.ai)&&(decide (m'.au.Value=m.au.Value)&&true)))))))))))=true↔m'=m:=by
 simp only[Qm,Qi];constructor
 ·rintro⟨h1,h2,h3,h4,h5,h6,h7,h8,h9,h10,h11,_⟩;exact qL he h1 (km h4 h5) (km h6 h7) (km h8 h9) (km h10 h11) h2 h3
 ·rintro rfl;simp
open Classical in
theorem Vf{m:ab}(h:aW m)(hs:gk m):jL ⟨m⟩=some (if cI m=m then(false,⟨m⟩)else(true,⟨dB (cI m)⟩)):=by
 have hnum:∀{x:ab},aW x->cv ⟨x⟩=some ((),⟨dB x⟩):=fun hx=>Kh hx.seq.1
 unfold jL;simp only[ab.eta,ao.eta,ax.eta,er,Qa,NF h hs]
 by_cases hP:cy m=m
 ·simp only[(qj (tX m)).2 hP,Bool.xor_true,Qo,Ql,show xor true true=false from rfl]
  rw[hP,Vd h hs];simp only[Qa]
  by_cases hS:gg m=m
  ·simp only[(qj (ru m)).2 hS,Ql,show xor true true=false from rfl]
   rw[hS,PW h hs];simp only[Qa]
   by_cases hC:ff m=m
   ·simp only[(qj (rB m)).2 hC,Ql,show xor true true=false from rfl]
    rw[hC,Sh h hs];simp only[Qa]
    by_cases hF:iV m=m
    ·simp only[(qj (rA m)).2 hF,Ql,show xor true true=false from rfl]
     rw[hF,R6 h hs];simp only[Qa];have e:cI m=dV m:=by unfold cI;rw[Qr hP,Qr hS,Qr hC,Qr hF]
     rw[e]
     by_cases hK:dV m=m
     ·simp only[(qj (w6 m)).2 hK,Ql,show xor true true=false from rfl]
      rw[Qr hK,hK]
     ·have hb:=mt (qj (w6 m)).1 hK;rw[QX]at hb;simp only[hb,Qk,show xor true false=true from rfl]
      rw[hnum (Ig h),Qs hK];rfl
    ·have e:cI m=iV m:=by unfold cI;rw[Qr hP,Qr hS,Qr hC,Qs hF]
     have hb:=mt (qj (rA m)).1 hF;rw[QX]at hb;simp only[hb,Qk,show xor true false=true from rfl]
     rw[hnum (Ii h),e,Qs hF];rfl
   ·have e:cI m=ff m:=by unfold cI;rw[Qr hP,Qr hS,Qs hC]
    have hb:=mt (qj (rB m)).1 hC;rw[QX]at hb;simp only[hb,Qk,show xor true false=true from rfl]
    rw[hnum (Ik h),e,Qs hC];rfl
  ·have e:cI m=gg m:=by unfold cI;rw[Qr hP,Qs hS]
   have hb:=mt (qj (ru m)).1 hS;rw[QX]at hb;simp only[hb,Qk,show xor true false=true from rfl]
   rw[hnum (Ia h),e,Qs hS];rfl
 ·have e:cI m=cy m:=by unfold cI;rw[Qs hP]
  have hb:=mt (qj (tX m)).1 hP;rw[QX]at hb;simp only[hb,Qk,show xor true false=true from rfl]
  rw[hnum (Ic h),e,Qs hP];rfl
structure Cm (R:ab->Prop) (m m':ab):Prop where
 inv:aW m'
 seq:gk m'
 env:m'.ar=m.ar/\m'.bx=m.bx/\m'.af=m.af/\m'.bm=m.bm/\m'.aA=m.aA
 num:m'.aK=m.aK\/(m.aK=0/\m'.aK=1)
 nz:aD m.aa=false->aD m'.aa=false
 rel:R m'
 fix:Ak m'
theorem Q9{R:ab->Prop}(hR1:∀m,aW m->R m->R (cI m))(hR2:∀m,R m->R (dB m)){m:ab}(h:aW m)(hs:aD m.aa=true->m.aK=0)(hr:R m):Yd (eN ⟨m⟩) fun q=>∃m',q=((),⟨m'⟩)/\Cm R m m':=by
 unfold eN;simp only[ab.eta,ao.eta,ax.eta,Kh h.seq.1,Qa]
 have num1:∀{x:ab},aW x->(dB x).aK=x.aK\/(x.aK=0/\(dB x).aK=1):=fun{x} hx=>by
  have:=hx.seq;unfold dB;split
  ·show bd x.aK 1=x.aK\/(x.aK=0/\bd x.aK 1=1);unfold bd;split<;>omega
  ·exact .inl rfl
 have env1:∀x:ab,(dB x).ar=x.ar/\(dB x).bx=x.bx/\(dB x).af=x.af/\(dB x).bm=x.bm/\(dB x).aA=x.aA/\(dB x).aa=x.aa:=fun x=>by
  unfold dB;split<;>exact⟨rfl,rfl,rfl,rfl,rfl,rfl⟩
 refine Yd.down (fun s=>∃x,s=((⟨x⟩:ax),())/\aW x/\gk x/\R x/\(x.ar=m.ar/\x.bx=m.bx/\x.af=m.af/\x.bm=m.bm/\x.aA=m.aA)/\(x.aK=m.aK\/(m.aK=0/\x.aK=1))/\(aD m.aa=false->aD x.aa=false)) (fun s=>K1+K2 - iE s.1.ak) ?_ ⟨dB m,rfl,Ki h,Mx hs,hR2 _ hr,⟨(env1 m).1,(env1 m).2.1,(env1 m).2.2.1,(env1 m).2.2.2.1,(env1 m).2.2.2.2.1⟩,num1 h,fun hz=>by rw[(env1 m).2.2.2.2.2];exact hz⟩
 rintro s ⟨x,rfl,hx,hsx,hrx,hex,hnx,hzx⟩;simp only[Vf hx hsx,Qa]
 by_cases hst:cI x=x
 ·rw[Qr hst];exact .some ⟨x,rfl,⟨hx,hsx,hex,hnx,hzx,hrx,Rw hst⟩⟩
 ·rw[Qs hst];have hi:=AT hx;have hv:=tU x;have hup:=(Rx hx).resolve_left hst;refine .some ⟨⟨dB (cI x),rfl,Ki hi,Mx ?_,hR2 _ (hR1 _ hx hrx),?_,?_,?_⟩,?_⟩
  ·intro hz;rw[hv.seq];refine hsx.zero ?_
   cases hzz:aD x.aa with
   |true=>rfl
   |false=>rw[JJ hx hzz]at hz;cases hz
  ·obtain⟨e1,e2,e3,e4,e5,_⟩:=env1 (cI x);exact⟨e1.trans (hv.ay.trans hex.1),e2.trans (hv.bL.trans hex.2.1),e3.trans (hv.aY.trans hex.2.2.1),e4.trans (hv.kf.trans hex.2.2.2.1),e5.trans (hv.heard.trans hex.2.2.2.2)⟩
  ·have h1:=num1 hi;rw[hv.seq]at h1;rcases h1 with e|⟨e1,e2⟩
   ·rw[e];exact hnx
   ·right;rcases hnx with e3|⟨_,e3⟩
    ·exact⟨by rw[<-e3];exact e1,e2⟩
    ·omega
  ·intro hz;rw[(env1 (cI x)).2.2.2.2.2];exact JJ hx (hzx hz)
  ·have h1:=TR hi;show K1+K2 - iE (dB (cI x))<K1+K2 - iE x;rw[RH];omega
end Go.Proofs.YtkgenianmdfmdaaGreat
namespace Go.Proofs.YtkgenianmdfmdaaGreat
open Go.TQ
theorem VY{α:Type}{s t:List α}(hl:s.length=t.length)(hn:s.length<=1000000){step:Int×Unit->Option ((Int×Unit)⊕Bool)}
  (h1:∀(i:Nat) (h:i<s.length) (h':i<t.length),decide ((i:Int)<((s.length:Nat):Int))=true->idx s (i:Int)=some s[i]->idx t (i:Int)=some t[i]->aI .i64 (i:Int) 1=((i+1:Nat):Int)->∃b:Bool,step ((i:Int),())=some (bif b then .inl (((i+1:Nat):Int),())else .inr false)/\(b=true↔s[i]=t[i]))
  (h2:decide (((s.length:Nat):Int)<((s.length:Nat):Int))=false->step (((s.length:Nat):Int),())=some (.inr true)):∃b,aG step (0,())=some b/\(b=true↔s=t):=by
 suffices key:∀(k i:Nat),i+k=s.length->∃b,aG step ((i:Int),())=some b/\(b=true↔s.drop i=t.drop i)from by simpa using key s.length 0 (by omega)
 intro k
 induction k with
 |zero=>
  intro i hi;obtain rfl:i=s.length:=by omega
  refine⟨true,bU (h2 (Qh (Int.lt_irrefl _))),?_⟩;rw[List.drop_eq_nil_of_le (by omega),List.drop_eq_nil_of_le (by omega)]
  simp
 |succ k ih=>
  intro i hi;have hi':i<s.length:=by omega
  have hi'':i<t.length:=by omega
  obtain⟨b,h3,h4⟩:=h1 i hi' hi'' (Qg (by omega)) (by rw[bK];exact Qv hi') (by rw[bK];exact Qv hi'') (b0 (by omega) (by omega))
  rw[QM hi',QM hi'',List.cons.injEq]
  cases b with
  |false=>
   refine⟨false,bU h3,?_⟩;simp only[Qq,false_iff]at h4 ⊢;exact fun h=>h4 h.1
  |true=>
   obtain⟨b,h5,h6⟩:=ih (i+1) (by omega)
   refine⟨b,(bq h3).trans h5,?_⟩;rw[h6];exact⟨fun h=>⟨h4.1 rfl,h⟩,fun h=>h.2⟩
theorem Pt{α:Type}{s t:List α}(h:s.length≠t.length):(false=true↔s=t):=by
 simp only[Qq,false_iff];exact fun h1=>h (by rw[h1])
 def To(a0:List Int)(a1:List Int):Option Bool:=
 bif (!decide (((List.length a0:Nat):Int)=((List.length a1:Nat):Int)))then
 some false
 else
 aG (fun(v1:Int×Unit)=>
 bif (decide (v1.1<((List.length a0:Nat):Int)))then
 Option.bind (idx a0 v1.1) fun x2=>
 Option.bind (idx a1 v1.1) fun x3=>
 bif (!decide (x2=x3))then
 Option.map Sum.inr (some false)
 else
 some (Sum.inl ((aI .i64 v1.1 (1:Int)),()))
 else
 Option.map Sum.inr (some true)) ((0:Int),())
theorem WA(s t:List Int)(h:s.length<=1000000):∃b,To s t=some b/\(b=true↔s=t):=by
 unfold To
 by_cases hl:s.length=t.length
 ·rw[Qg (by omega:((s.length:Nat):Int)=((t.length:Nat):Int)),Qo,Ql]
  refine VY hl h (fun i hi hi' hd hx hy hw=> ?_) (fun hd=> ?_)
  ·refine⟨decide (s[i]=t[i]),?_,by simp⟩
   simp only[hd,hx,hy,hw,Qk,Qa];cases decide (s[i]=t[i])<;>rfl
  ·simp only[hd,Ql];rfl
 ·rw[Qh (by omega:¬((s.length:Nat):Int)=((t.length:Nat):Int)),Qp,Qk]
  exact⟨false,rfl,Pt hl⟩
theorem WC(s t:List Int)(h:s.length<=1000000):∃b,me s t=some b/\(b=true↔s=t):=WA s t h
theorem OX(a b:ao):a=b↔a.aX=b.aX/\a.bp=b.bp/\a.aR=b.aR:=by
 cases a;cases b;simp
theorem Xh{n:Nat}:∀{a b:ao},SizeOf.sizeOf a<n->eJ a->∃r,q5 n (a,b,())=some r/\(r=true↔a=b):=by
 induction n with
 |zero=>intro a b h;omega
 |succ n ih=>
  intro a b hs hm;show∃r,nu (q5 n) a b=some r/\(r=true↔a=b);have hl:=hm.len;have hns:=hm.nodes;obtain⟨r,h1,h2⟩:=WC a.bp b.bp hns;rw[OX];unfold nu
  by_cases ht:a.aX=b.aX
  ·rw[Qg ht];simp only[Qk,h1,Qa]
   cases r with
   |false=>
    simp only[Ql,Qa];refine⟨false,rfl,?_⟩;simp only[Qq,false_iff]at h2 ⊢;exact fun h=>h2 h.2.1
   |true=>
    simp only[Qk,Qa]
    have key:∀o:Option Bool,(∃r,o=some r/\(r=true↔a.aR=b.aR))->∃r,(Option.bind (Option.bind o fun r3=>some r3) fun b4=>some b4)=some r/\(r=true↔a.aX=b.aX/\a.bp=b.bp/\a.aR=b.aR):=by
     rintro o ⟨r,rfl,h4⟩;exact⟨r,rfl,by rw[h4];exact⟨fun h=>⟨ht,h2.1 rfl,h⟩,fun h=>h.2.2⟩⟩
    refine key _ ?_;unfold cx
    by_cases hi:a.aR.length=b.aR.length
    ·rw[Qg (by omega:((a.aR.length:Nat):Int)=((b.aR.length:Nat):Int)),Qo,Ql]
     refine VY hi hl (fun i hi hi' hd hx hy hw=> ?_) (fun hd=> ?_)
     ·have hu:=Q0 hi;obtain⟨r,h3,h4⟩:=ih (a:=a.aR[i]) (b:=b.aR[i]) (by have:=tn hu;omega) (hm.inner _ hu)
      refine⟨r,?_,h4⟩;simp only[hd,hx,hy,hw,Qk,Qa,ao.eta,h3];cases r<;>rfl
     ·simp only[hd,Ql];rfl
    ·rw[Qh (by omega:¬((a.aR.length:Nat):Int)=((b.aR.length:Nat):Int)),Qp,Qk]
     exact⟨false,rfl,Pt hi⟩
  ·rw[Qh ht];refine⟨false,rfl,?_⟩;simp only[Qq,false_iff];exact fun h=>ht h.1
theorem Yo{a b:ao}(h:eJ a):∃r,q8 a b=some r/\(r=true↔a=b):=Xh (by omega) h
theorem UF(a b:Int)(s t:ByteArray):kZ false a b s t=(decide (a=b)&&decide (s=t)):=by
 simp
theorem Ox(a b:ae):a=b↔a.ai=b.ai/\a.Value=b.Value:=by
 cases a;cases b;simp
theorem ML(a b:aj):a=b↔a.ar=b.ar/\a.bx=b.bx/\a.aK=b.aK/\a.af=b.af/\a.bR=b.bR/\a.aa=b.aa/\a.al=b.al/\a.aw=b.aw/\a.aM=b.aM/\a.bb=b.bb:=by
 cases a;cases b;simp
theorem UT(a b:Bool):(bif a then some b else some false)=some (a&&b):=by cases a<;>rfl
end Go.Proofs.YtkgenianmdfmdaaGreat
namespace Go.Proofs.YtkgenianmdfmdaaGreat
open Go.TQ
theorem NW{m:ab}(h:aW m){ρ:Type}{step:Int×Unit->Option ((Int×Unit)⊕ρ)}{fin:Option ρ}
  (h1:∀(i:Nat) (e:aj),e∈m.aA->decide ((i:Int)<((m.aA.length:Nat):Int))=true->idx m.aA (i:Int)=some e->aI .i64 (i:Int) 1=((i+1:Nat):Int)->
   (i=0\/(decide ((0:Int)<(i:Int))=true/\∃x,idx m.aA (gf .i64 (i:Int) 1)=some x/\decide (e.ar<=x.ar)=false))->step ((i:Int),())=some (.inl (((i+1:Nat):Int),())))
  (h2:decide (((m.aA.length:Nat):Int)<((m.aA.length:Nat):Int))=false->step (((m.aA.length:Nat):Int),())=Option.map Sum.inr fin):aG step (0,())=fin:=by
 have hl:=h.len;refine H2 m.aA.length (by omega) (fun i hi hd hw=> ?_) h2
 have hx:idx m.aA (i:Int)=some m.aA[i]:=by rw[bK];exact Qv hi
 refine h1 i m.aA[i] (Q0 hi) hd hx hw ?_
 cases i with
 |zero=>exact .inl rfl
 |succ i=>
  refine .inr ⟨Qg (by omega),m.aA[i],?_,?_⟩
  ·have:gf .i64 ((i+1:Nat):Int) 1=(i:Int):=by rw[y4 (by omega) (by omega)];omega
   rw[this,bK];exact Qv (by omega)
  ·have:=List.pairwise_iff_getElem.1 h.mB i (i+1) (by omega) hi (by omega)
   exact Qh (by omega)
theorem Up{m:ab}(h:aW m):nY m=some true:=by
 unfold nY;refine NW h (fun i e he hd hx hw hi=> ?_) (fun hd=>by simp only[hd,Ql])
 obtain⟨g1,g2,g3,g4⟩:=h.hv e he;simp only[hd,hx,hw,Qk,Qa,bA,ao.eta,aj.eta,lZ g2.sm,g1,Qo,Ql,Qg g3,Qh g4];rcases hi with rfl|⟨hi,x,hx2,hn⟩
 ·rfl
 ·rw[hi,hx2];simp only[Qk,Qa,hn,Ql]
theorem Mu{m:ab}(h:aW m)(hs:gk m)(hz:aD m.aa=false):aZ (cj m)=true:=by
 rw[<-Mt hs hz];exact Im h hz
theorem Uc:kZ false bn.ai (0:Int) bn.Value (ByteArray.mk #[])=true:=by decide
theorem yM{m:ab}(h:aW m)(hs:gk m):iM m=some true:=by
 have d1:decide (m.ar<0)=false:=Qh (by have:=h.n0;omega)
 have d2:decide ((10:Int)<=m.ar)=false:=Qh (by have:=h.n1;omega)
 have d3:decide (m.bx<1)=false:=Qh (by have:=h.bL;omega)
 have d4:decide ((1000000:Int)<m.bx)=false:=Qh (by have:=h.bL;omega)
 have d5:decide (m.aK<0)=false:=Qh (by have:=h.seq;omega)
 have d6:decide ((1000000:Int)<m.aK)=false:=Qh (by have:=h.seq;omega)
 have d7:decide ((200:Int)<((m.bm.size:Nat):Int))=false:=Qh (by have:=h.kf;omega)
 have hm:eJ (cj m).af:=by rw[sI];exact h.aY.sm
 unfold iM;simp only[d1,d2,d3,d4,d5,d6,d7,Ql,Qa,ao.eta,ab.eta,aj.eta,ma h.aY,decide_true,Qo,Up h,bY,tY,yt h,lZ hm]
 cases hz:aD m.aa with
 |true=>
  have h0:P0 m:=by
   rcases h.body with k|k|k|k
   ·exact k
   ·rw[k.aE.nz]at hz;cases hz
   ·rw[k.aE.nz]at hz;cases hz
   ·rw[k.aE.nz]at hz;cases hz
  unfold sN;simp only[h0.aB,hs.zero hz,h0.bW,h0.bs,h0.cO,h0.low,h0.bM,Uc,decide_true,Qk,Qa]
 |false=>
  have hv:=Mu h hs hz;simp only[hv,Ql,Qk]
  have hconf:kX m=some true:=by
   unfold kX;simp only[bY,oQ,mU,dZ,Qa]
   have fin:∀(hf:bX m.au) (hp:(c9 m.al m.aw m.au||(!decide (m.aL=1)&&bB m.au m.aa))=true),_:=fun hf hp=>(show(bif aD m.au then some true else
     (bif !cd m.au then some true else some (decide (1000<m.au.ai))).bind fun b3=>bif b3 then some false else
     (bif c9 m.al m.aw m.au then some true else(bif !decide (m.aL=1)then some (bB m.au m.aa)else some false).bind fun b6=>some b6).bind fun b7=>some b7)=some true by
    rw[hf.nz,hf.valid,Qh (show¬1000<m.au.ai by have:=hf.2.1;omega)]
    revert hp
    cases c9 m.al m.aw m.au<;>cases decide (m.aL=1)<;>cases bB m.au m.aa<;>simp)
   have nob:m.au=bn->(bif aD m.au then some true else
     (bif !cd m.au then some true else some (decide (1000<m.au.ai))).bind fun b3=>bif b3 then some false else
     (bif c9 m.al m.aw m.au then some true else(bif !decide (m.aL=1)then some (bB m.au m.aa)else some false).bind fun b6=>some b6).bind fun b7=>some b7)=some true:=fun e=>by rw[e,bo];rfl
   rcases h.body with k|k|k|k
   ·exact nob k.cO
   ·rcases k.cO with e|⟨hf,hp⟩
    ·exact nob e
    ·exact fin hf (by rw[hp];rfl)
   ·rcases k.cO with e|⟨hf,hp⟩
    ·exact nob e
    ·exact fin hf (by rw[gZ.2 hp,Qh (show¬m.aL=1 by have:=k.aB;omega)];simp)
   ·exact nob k.cO
  rw[hconf];simp only[Qa,Qk];rcases h.body with k|k|k|k
  ·rw[k.aE,bo]at hz;cases hz
  ·simp only[k.aB,k.bM,decide_true,Qo,Ql,Qa,Qp,Qk,show decide ((1:Int)=3)=false from rfl]
  ·simp only[k.aB,k.bs,bo,show decide ((2:Int)=1)=false from rfl,show decide ((2:Int)=3)=false from rfl,Qo,Ql,Qa,Qp,Qk]
  ·simp only[k.aB,k.bs,k.bW,bo,show decide ((3:Int)=1)=false from rfl,decide_true,Qo,Ql,Qa,Qp,Qk]
end Go.Proofs.YtkgenianmdfmdaaGreat
namespace Go.Proofs.YtkgenianmdfmdaaGreat
open Go.TQ
theorem vR(x:ab):(dB x).ar=x.ar/\(dB x).bx=x.bx/\(dB x).af=x.af/\(dB x).bm=x.bm/\(dB x).aA=x.aA/\(dB x).aa=x.aa:=by
 unfold dB;split<;>exact⟨rfl,rfl,rfl,rfl,rfl,rfl⟩
theorem RW{m m':ab}(he:fF m m')(h:¬m'=m):ly m m'=false:=by
 cases hs:ly m m' with
 |false=>rfl
 |true=>exact absurd (JN he hs) h
open Classical in
 def hY(m m2:ab):ab:=if aD m.aa=false/\{cj m with aK:=0}≠{cj m2 with aK:=0}then{m2 with aK:=df (m2.aK+1) 1000000}else m2
theorem EP(m m2:ab):∃s,hY m m2={m2 with aK:=s}/\(s=m2.aK\/s=df (m2.aK+1) 1000000):=by
 unfold hY;split
 ·exact⟨_,rfl,.inr rfl⟩
 ·exact⟨m2.aK,rfl,.inl rfl⟩
theorem xT{m m2:ab}(h:aW m2):∃s,hY m m2={m2 with aK:=s}/\m2.aK<=s/\0<=s/\s<=1000000:=by
 obtain⟨s,h1,h2⟩:=EP m m2;have:=h.seq;refine⟨s,h1,?_⟩;rcases h2 with rfl|rfl
 ·omega
 ·unfold df;split<;>omega
theorem La{m m2:ab}(h:aW m2):aW (hY m m2):=by
 obtain⟨s,h1,h2⟩:=xT (m:=m) h;rw[h1];exact Ht h h2.2
theorem Sw{m m2:ab}(h:aW m2)(hf:Ak m2):Ak (hY m m2):=by
 obtain⟨s,h1,h2⟩:=xT (m:=m) h;rw[h1];exact UC h hf h2.2
theorem MV{m m2:ab}(h:aW m2)(hs:gk m2)(hnz:aD m.aa=false->aD m2.aa=false):gk (hY m m2):=by
 unfold hY;split
 ·rename_i hc;have:=hs.pos (hnz hc.1);refine⟨fun hz=> ?_,fun _=> ?_⟩
  ·rw[show({m2 with aK:=df (m2.aK+1) 1000000}:ab).aa=m2.aa from rfl,hnz hc.1]at hz
   cases hz
  ·show 1<=df (m2.aK+1) 1000000;unfold df;split<;>omega
 ·exact hs
def V6(R:ab->Prop)(m m1:ab)(q:ab×Int×Unit):Prop:=∃m2,q=(hY m m2,(0:Int),())/\Cm R (dB m1) m2
theorem U1{R:ab->Prop}{m1 m2:ab}(h1:aW m1)(h:Cm R m1 m2):Cm R (dB m1) m2:=by
 obtain⟨e1,e2,e3,e4,e5,e6⟩:=vR m1;refine⟨h.inv,h.seq,?_,?_,fun hz=>h.nz (by rw[e6]at hz;exact hz),h.rel,h.fix⟩
 ·obtain⟨a1,a2,a3,a4,a5⟩:=h.env;exact⟨a1.trans e1.symm,a2.trans e2.symm,a3.trans e3.symm,a4.trans e4.symm,a5.trans e5.symm⟩
 ·have hn:=h.num;have hq:=h1.seq
  cases hz:aD m1.aa with
  |true=>
   have:dB m1=m1:=Qs (by rw[hz];decide)
   rw[this];exact hn
  |false=>
   have h3:=h.seq.pos (h.nz hz);have:(dB m1).aK=bd m1.aK 1:=by unfold dB;rw[Qr hz]
   rw[this];left;unfold bd;split<;>omega
theorem Vl(a b:aj)(h:eJ a.af)(hn:a.ar=b.ar)(hs:a.bx=b.bx):∃r,kG a b=some r/\(r=true↔{a with aK:=0}={b with aK:=0}):=by
 obtain⟨r,h1,h2⟩:=Yo (a:=a.af) (b:=b.af) h;refine⟨r&&decide (a.bR=b.bR)&&decide (a.aa=b.aa)&&decide (a.al=b.al)&&decide (a.aw=b.aw)&&decide (a.aM=b.aM)&&decide (a.bb=b.bb),?_,?_⟩
 ·unfold kG;simp only[ao.eta,h1,Qa,UT,UF,<-Bool.decide_and,<-Ox,Qa]
 ·rw[ML];simp only[Qm,Qi,hn,hs,h2,true_and];simp only[and_assoc]
theorem z6{m:ab}(h:aW m):jm m=some m:=by
 unfold jm;simp only[ao.eta,rL h.aY.sm,Qa];rw[Rk (fun e he=>(h.hv e he).2.1.sm) (by have:=h.len;omega)]
 rfl
theorem Bv{l:List aj}{e:aj}(hv:aZ e=true):
  (∃x∈l,x.ar=e.ar/\e.aK<=x.aK/\na l e=(l,false,()))\/
  (∃a b,((∃x,l=a++x::b/\x.ar=e.ar/\x.aK<e.aK)\/(l=a++b/\(∀x∈l,x.ar≠e.ar)/\(∀x∈a,¬e.ar<x.ar)/\(∀x,b.head?=some x->e.ar<x.ar)))/\na l e=(a++e::b,true,())):=by
 unfold na;rw[Qr hv]
 cases hf:l.findIdx? (fun x=>decide (x.ar=e.ar))with
 |some i=>
  obtain⟨hi,h2,_⟩:=List.findIdx?_eq_some_iff_getElem.1 hf;have hx:l[i]?=some l[i]:=Qv hi;have h2:=of_decide_eq_true h2;simp only[hx,Q3]
  by_cases hle:e.aK<=l[i].aK
  ·left;rw[Qr hle];exact⟨l[i],Q0 hi,h2,hle,rfl⟩
  ·right;rw[Qs hle];refine⟨l.take i,l.drop (i+1),.inl ⟨l[i],?_,h2,by omega⟩,?_⟩
   ·rw[List.getElem_cons_drop];exact(List.take_append_drop i l).symm
   ·rw[List.set_eq_take_append_cons_drop,Qr hi]
 |none=>
  right
  have hne:∀x∈l,x.ar≠e.ar:=fun x hx he=>by
   have:=List.findIdx?_eq_none_iff.1 hf x hx;rw[he]at this;simp at this
  refine⟨l.take (Cc l e),l.drop (Cc l e),.inr ⟨(List.take_append_drop _ l).symm,hne,?_,?_⟩,by rw[QL];rfl⟩
  ·intro x hx hlt;obtain⟨j,hj,rfl⟩:=List.getElem_of_mem hx;rw[List.getElem_take]at hlt;rw[List.length_take]at hj;unfold Cc at hj
   cases hg:l.findIdx? (fun x=>decide (e.ar<x.ar))with
   |none=>
    have:=List.findIdx?_eq_none_iff.1 hg _ (Q0 (show j<l.length by omega))
    simp[hlt]at this
   |some k=>
    obtain⟨_,_,h3⟩:=List.findIdx?_eq_some_iff_getElem.1 hg;rw[hg,Q3]at hj;have:=h3 j (by omega)
    simp[hlt]at this
  ·intro x hx;rw[List.head?_drop]at hx;unfold Cc at hx
   cases hg:l.findIdx? (fun x=>decide (e.ar<x.ar))with
   |none=>rw[hg,Option.getD_none,List.getElem?_eq_none (QI _)]at hx;cases hx
   |some k=>
    obtain⟨hk,h2,_⟩:=List.findIdx?_eq_some_iff_getElem.1 hg;rw[hg,Q3,Qv hk]at hx;obtain rfl:=Option.some.inj hx;exact of_decide_eq_true h2
theorem Cu{l:List aj}{e:aj}{y:aj}(hy:y∈(na l e).1):y=e\/y∈l:=by
 by_cases hv:aZ e=true
 ·rcases Bv (l:=l) hv with⟨x,_,_,_,h⟩|⟨a,b,h1,h⟩
  ·rw[h]at hy;exact .inr hy
  ·rw[h]at hy;rcases Qz.1 hy with hy|hy
   ·rcases h1 with⟨x,rfl,_⟩|⟨rfl,_⟩
    ·exact .inr (List.mem_append_left _ hy)
    ·exact .inr (List.mem_append_left _ hy)
   ·rcases QA.1 hy with hy|hy
    ·exact .inl hy
    ·rcases h1 with⟨x,rfl,_⟩|⟨rfl,_⟩
     ·exact .inr (List.mem_append_right _ (Qy _ hy))
     ·exact .inr (List.mem_append_right _ hy)
 ·unfold na at hy;rw[Qs hv]at hy;exact .inr hy
theorem NC{l:List aj}{e:aj}(hl:l.Pairwise (fun a b=>a.ar<b.ar)):(na l e).1.Pairwise (fun a b=>a.ar<b.ar):=by
 by_cases hv:aZ e=true
 ·rcases Bv (l:=l) hv with⟨x,_,_,_,h⟩|⟨a,b,h1,h⟩
  ·rw[h];exact hl
  ·rw[h];show(a++e::b).Pairwise _;rcases h1 with⟨x,rfl,hn,_⟩|⟨rfl,hne,ha,hb⟩
   ·rw[List.pairwise_append,Q4]at hl ⊢;obtain⟨g1,⟨g2,g3⟩,g4⟩:=hl;refine⟨g1,⟨fun y hy=> ?_,g3⟩,fun y hy z hz=> ?_⟩
    ·rw[<-hn];exact g2 y hy
    ·rcases QA.1 hz with rfl|hz
     ·rw[<-hn];exact g4 y hy x Qx
     ·exact g4 y hy z (Qy _ hz)
   ·rw[List.pairwise_append]at hl;rw[List.pairwise_append,Q4];obtain⟨g1,g3,g4⟩:=hl
    have hbe:∀y∈b,e.ar<y.ar:=by
     intro y hy
     cases b with
     |nil=>cases hy
     |cons z b=>
      have:=hb z rfl;rcases QA.1 hy with rfl|hy
      ·exact this
      ·have:=(Q4.1 g3).1 y hy;omega
    refine⟨g1,⟨hbe,g3⟩,fun y hy z hz=> ?_⟩
    rcases QA.1 hz with rfl|hz
    ·have h2:=ha y hy;have h3:=hne y (List.mem_append_left _ hy);omega
    ·exact g4 y hy z hz
 ·unfold na;rw[Qs hv];exact hl
structure Ci (m:ab) (e:aj):Prop where
 valid:aZ e=true
 aY:iY e.af
 bL:e.bx=m.bx
 ay:e.ar≠m.ar
 def pb(m:ab)(e:aj):ab:={m with aA:=(na m.aA e).1}
theorem Ew{m:ab}(h:aW m){e:aj}(he:Ci m e):aW (pb m e):=by
 refine⟨h.n0,h.n1,h.bL,h.seq,h.aY,h.kf,fun y hy=> ?_,NC h.mB,?_⟩
 ·rcases Cu hy with rfl|hy
  ·exact⟨he.valid,he.aY,he.bL,he.ay⟩
  ·exact h.hv y hy
 ·rcases h.body with k|k|k|k
  ·exact .inl ⟨k.aB,k.aE,k.bW,k.bs,k.cO,k.low,k.bM⟩
  ·exact .inr (.inl ⟨k.aB,k.aE,k.bW,k.bs,k.cO,k.up,k.bM,k.low⟩)
  ·exact .inr (.inr (.inl ⟨k.aB,k.aE,k.bW,k.bs,k.cO,k.range⟩))
  ·exact .inr (.inr (.inr ⟨k.aB,k.aE,k.bW,k.bs,k.cO,k.range⟩))
def Tq(m:ab)(t:ao):ab:={m with af:=t}
theorem Sg{m:ab}(h:aW m){t:ao}(ht:iY t):aW (Tq m t):=by
 refine⟨h.n0,h.n1,h.bL,h.seq,ht,h.kf,h.hv,h.mB,?_⟩;rcases h.body with k|k|k|k
 ·exact .inl ⟨k.aB,k.aE,k.bW,k.bs,k.cO,k.low,k.bM⟩
 ·exact .inr (.inl ⟨k.aB,k.aE,k.bW,k.bs,k.cO,k.up,k.bM,k.low⟩)
 ·exact .inr (.inr (.inl ⟨k.aB,k.aE,k.bW,k.bs,k.cO,k.range⟩))
 ·exact .inr (.inr (.inr ⟨k.aB,k.aE,k.bW,k.bs,k.cO,k.range⟩))
def dK(m:ab)(v:ByteArray):ab:=if aD m.aa=true then{m with bm:=v,aa:=⟨1,dE {m with bm:=v}⟩}else{m with bm:=v}
theorem TO{v:ByteArray}(h:1<=v.size):v≠iy:=by
 rintro rfl;exact absurd h (by decide)
theorem DO{m:ab}(h:P0 m){v:ByteArray}(hv:1<=v.size):dE {m with bm:=v}=v:=by
 unfold dE;rw[Qs (by rw[show({m with bm:=v}:ab).au=m.au from rfl,h.cO,bo];decide),Qs (by rw[show({m with bm:=v}:ab).aL=m.aL from rfl,h.aB];decide),Qr (TO hv)]
theorem zt{m:ab}(h:aW m){v:ByteArray}(hv:1<=v.size/\v.size<=200):aW (dK m v):=by
 unfold dK;rcases h.body with k|k|k|k
 ·rw[Qr (by rw[k.aE];exact bo),DO k hv.1]
  refine⟨h.n0,h.n1,h.bL,h.seq,h.aY,hv.2,h.hv,h.mB,.inr (.inl ⟨k.aB,⟨by show(1:Int)<=1;omega,by show(1:Int)<=1000;omega,hv.1,hv.2⟩,.inl k.bW,.inl k.bs,.inl k.cO,?_,k.bM,.inl k.low⟩)⟩
  show ba _ m.au=false;rw[k.cO]
  cases hl:ba (⟨1,v⟩:ae) bn with
  |false=>rfl
  |true=>have:=fU hl;exact absurd (show(1:Int)<=0 from this) (by decide)
 ·rw[Qs (by rw[k.aE.nz];decide)]
  exact⟨h.n0,h.n1,h.bL,h.seq,h.aY,hv.2,h.hv,h.mB,.inr (.inl ⟨k.aB,k.aE,k.bW,k.bs,k.cO,k.up,k.bM,k.low⟩)⟩
 ·rw[Qs (by rw[k.aE.nz];decide)]
  exact⟨h.n0,h.n1,h.bL,h.seq,h.aY,hv.2,h.hv,h.mB,.inr (.inr (.inl ⟨k.aB,k.aE,k.bW,k.bs,k.cO,k.range⟩))⟩
 ·rw[Qs (by rw[k.aE.nz];decide)]
  exact⟨h.n0,h.n1,h.bL,h.seq,h.aY,hv.2,h.hv,h.mB,.inr (.inr (.inr ⟨k.aB,k.aE,k.bW,k.bs,k.cO,k.range⟩))⟩
def uV(m:ab):ab:={m with aM:=if dE m=m.aa.Value then m.aM else 0,aa:=⟨m.aa.ai+1,dE m⟩}
theorem Rr{m:ab}(h:aW m)(h3:m.aL≠3)(hv:dE m≠iy):1<=(dE m).size/\(dE m).size<=200:=by
 have h1:m.aL=1->(m.au=bn\/bX m.au)->1<=(dE m).size/\(dE m).size<=200:=fun hp hc=>by
  refine Mf h hp hc ?_;refine Classical.byContradiction fun hn=>hv ?_
  simp only[not_or,Classical.not_not]at hn;obtain⟨a1,a2,a3⟩:=hn;unfold dE;rw[Qs (by rw[a3,bo];decide),Qs (by rw[hp];decide),Qs (by rw[a2];exact fun e=>e rfl),a1]
  rfl
 rcases h.body with k|k|k|k
 ·exact h1 k.aB (.inl k.cO)
 ·exact h1 k.aB (k.cO.imp_right And.left)
 ·unfold dE;rcases k.cO with e|⟨hf,_⟩
  ·rw[Qs (by rw[e,bo];decide),Qr (by rw[k.aB];decide)]
   exact k.aE.2.2
  ·rw[Qr hf.nz];exact hf.2.2
 ·exact absurd k.aB h3
theorem Wh{m:ab}(k:P2 m):dE m=m.aa.Value:=by
 unfold dE;rcases k.cO with e|⟨hf,he⟩
 ·rw[Qs (by rw[e,bo];decide),Qr (by rw[k.aB];decide)]
 ·rw[Qr hf.nz,he]
theorem Ru{m:ab}(h:aW m)(h3:m.aL≠3)(hv:dE m≠iy)(hc:m.aa.ai<1000):aW (uV m):=by
 have hsz:=Rr h h3 hv;refine⟨h.n0,h.n1,h.bL,h.seq,h.aY,h.kf,h.hv,h.mB,?_⟩;have hfin:0<=m.aa.ai->bX (uV m).aa:=fun h0=>⟨by show 1<=m.aa.ai+1;omega,by show m.aa.ai+1<=1000;omega,hsz⟩
 rcases h.body with k|k|k|k
 ·have h0:m.aa.ai=0:=by rw[k.aE];rfl
  refine .inr (.inl ⟨k.aB,hfin (by omega),.inl k.bW,.inl k.bs,.inl k.cO,?_,k.bM,.inl ?_⟩)
  ·show ba (⟨m.aa.ai+1,dE m⟩:ae) m.au=false;rw[k.cO]
   cases hl:ba (⟨m.aa.ai+1,dE m⟩:ae) bn with
   |false=>rfl
   |true=>have:=fU hl;exact absurd (show m.aa.ai+1<=0 from this) (by omega)
  ·show(if dE m=m.aa.Value then m.aM else 0)=0
   rw[k.low,ite_self]
 ·have hb:=k.aE;have h0:0<=m.aa.ai:=by have:=hb.1;omega
  refine .inr (.inl ⟨k.aB,hfin h0,k.bW,k.bs,k.cO,?_,k.bM,?_⟩)
  ·show ba (⟨m.aa.ai+1,dE m⟩:ae) m.au=false
   cases hl:ba (⟨m.aa.ai+1,dE m⟩:ae) m.au with
   |false=>rfl
   |true=>
    have h1:=fU hl;have h2:=Ed k.up;exact absurd (show m.aa.ai+1<=m.au.ai from h1) (by omega)
  ·show(if dE m=m.aa.Value then m.aM else 0)=0\/_
   by_cases he:dE m=m.aa.Value
   ·have hlow:(uV m).aM=m.aM:=by show(if dE m=m.aa.Value then m.aM else 0)=m.aM;rw[Qr he]
    have hhigh:eo (uV m)=eo m:=by
     show(if(!aD m.au&&bB m.au ⟨m.aa.ai+1,dE m⟩)=true then m.au.ai else 0)=eo m
     rw[he];rfl
    rw[Qr he,hlow,hhigh];rcases k.low with e|⟨g1,g2,g3⟩
    ·exact .inl e
    ·refine .inr ⟨g1,g2,?_⟩;show mj m.al m.aw (dE m) m.aM=false;rw[he];exact g3
   ·rw[Qs he];exact .inl rfl
 ·have hb:=k.aE;have h0:0<=m.aa.ai:=by have:=hb.1;omega
  have hv2:=Wh k;have hval:(uV m).aa.Value=m.aa.Value:=hv2;have hlow:(uV m).aM=m.aM:=by show(if dE m=m.aa.Value then m.aM else 0)=m.aM;rw[Qr hv2]
  refine .inr (.inr (.inl ⟨k.aB,hfin h0,?_,k.bs,?_,?_⟩))
  ·rw[hval];exact k.bW
  ·rw[hval];exact k.cO
  ·rw[hlow];exact k.range
 ·exact absurd k.aB h3
end Go.Proofs.YtkgenianmdfmdaaGreat
namespace Go.Proofs.YtkgenianmdfmdaaGreat
open Go.TQ
def We:ao:=⟨0,[],[]⟩
def SQ:ab:=⟨0,0,0,We,0,bn,bn,bn,bn,0,0,iy,[]⟩
theorem Vv{m m1:ab}(hs:gk m)(hb:aD m1.aa=aD m.aa)(hq:m1.aK=m.aK):dB m1=m1:=by
 refine Ub ⟨fun hz=> ?_,fun hz=> ?_⟩
 ·rw[hq];exact hs.zero (by rw[<-hb];exact hz)
 ·rw[hq];exact hs.pos (by rw[<-hb];exact hz)
theorem o6{m:ab}{v:ByteArray}:(aD m.aa=false->aD (dK m v).aa=false)/\(dK m v).aK=m.aK:=by
 unfold dK;split
 ·rename_i hz;refine⟨fun e=> ?_,rfl⟩
  rw[hz]at e;cases e
 ·exact⟨fun e=>e,rfl⟩
theorem RO{m:ab}(h:aW m){v:ByteArray}(hv:1<=v.size/\v.size<=200):aD (dK m v).aa=false:=by
 rcases h.body with k|k|k|k
 ·unfold dK;rw[Qr (by rw[k.aE];exact bo),DO k hv.1]
  exact bX.nz ⟨by show(1:Int)<=1;omega,by show(1:Int)<=1000;omega,hv.1,hv.2⟩
 ·exact o6.1 k.aE.nz
 ·exact o6.1 k.aE.nz
 ·exact o6.1 k.aE.nz
theorem TL{m:ab}(h:aW m):aD (uV m).aa=false:=by
 have:0<=m.aa.ai:=by
  rcases h.body with k|k|k|k
  ·rw[k.aE];decide
  ·have:=k.aE.1;omega
  ·have:=k.aE.1;omega
  ·have:=k.aE.1;omega
 cases hz:aD (uV m).aa with
 |false=>rfl
 |true=>
  have:=ri.1 hz;have h2:m.aa.ai+1=0:=congrArg ae.ai this;omega
section
variable {R : ab -> Prop} (hR1 : ∀ m, aW m -> R m -> R (cI m)) (hR2 : ∀ m, R m -> R (dB m)) {m : ab} (h : aW m) (hs : gk m)
 include hR1 hR2 h hs
end
def ew(ay bL:Int)(t:ao):ab:=⟨ay,bL,0,t,1,bn,bn,bn,bn,0,0,iy,[]⟩
theorem Vp{ay bL:Int}{t:ao}(h0:0<=ay)(h1:ay<10)(h2:1<=bL)(h3:bL<=1000000)(ht:iY t):lx ay bL t=some (ew ay bL t,(0:Int),()):=by
 unfold lx;simp only[ao.eta,Qh (show¬ay<0 by omega),Qh (show¬(10:Int)<=ay by omega),Qh (show¬bL<1 by omega),Qh (show¬(1000000:Int)<bL by omega),Ql,Qa,ma ht,decide_true,Qo,rL ht.sm]
 rfl
theorem Mz{ay bL:Int}{t:ao}(h0:0<=ay)(h1:ay<10)(h2:1<=bL)(h3:bL<=1000000)(ht:iY t):aW (ew ay bL t)/\gk (ew ay bL t):=
 ⟨⟨h0,h1,⟨h2,h3⟩,⟨by show(0:Int)<=0;omega,by show(0:Int)<=1000000;omega⟩,ht,(by show iy.size<=200;decide),(fun e he=>absurd he QR),List.Pairwise.nil,.inl ⟨rfl,rfl,rfl,rfl,rfl,rfl,rfl⟩⟩,⟨fun _=>rfl,fun hz=>absurd (show aD bn=false from hz) (by rw[bo];decide)⟩⟩
theorem Uf{ay bL:Int}{t:ao}(h:aW (ew ay bL t)):Ak (ew ay bL t):=by
 have hz:aD (ew ay bL t).aa=true:=bo;have hall:aJ (ew ay bL t)=[]:=Qr hz;refine⟨Qr (.inr hz),lU (.inr (.inl hz)),?_,Qs (fun e=>by have:=e.1;exact absurd (show(1:Int)=2 from this) (by decide)),?_⟩
 ·unfold ff;rw[Qr (show(ew ay bL t).aL=1 from rfl)]
  rw[Qs];intro hk;have:=(yG h hk).val;rw[hall]at this;have hv:=((oV (l:=[]) (fun e he=>by cases he) (by decide)).2.2.2 _).1 this
  obtain⟨e,he,_⟩:=hv;cases he
 ·cases ha:ep (ew ay bL t) (ew ay bL t).aa.ai with
  |false=>exact Qr (.inr ha)
  |true=>
   obtain⟨e,he,_⟩:=Ae h ha;cases he
section
variable {R : ab -> Prop} (hR1 : ∀ m, aW m -> R m -> R (cI m)) (hR2 : ∀ m, R m -> R (dB m)) {m : ab} (h : aW m) (hs : gk m)
 include hR1 hR2 h hs
theorem K7{m1:ab}(h1:aW m1)(hz1:aD m1.aa=true->m1.aK=0)(hnz:aD m.aa=false->aD m1.aa=false)(hn:m1.ar=m.ar)(hsl:m1.bx=m.bx)(hr:R m1):
  Yd (Option.bind (eN ⟨m1⟩) fun p4=>
   bO (fun(v5:ax×Unit)=>some (v5.1.ak,(0:Int),())) fun j6=>
   bO (fun(v7:Bool×Unit)=>
   bif v7.1 then
   j6 ((ax.mk (ab.mk p4.2.ak.ar p4.2.ak.bx (df (aI .i64 p4.2.ak.aK (1:Int)) (1000000:Int)) p4.2.ak.af p4.2.ak.aL p4.2.ak.aa p4.2.ak.al p4.2.ak.aw p4.2.ak.au p4.2.ak.aM p4.2.ak.bb p4.2.ak.bm p4.2.ak.aA)),())
   else
   j6 (p4.2,())) fun j8=>
   Option.bind (aU m.aa) fun r9=>
   bif (!r9)then
   Option.bind (c5 m) fun r10=>
   Option.bind (c5 p4.2.ak) fun r11=>
   Option.bind (kG r10 r11) fun r12=>
   j8 ((!r12),())
   else
   j8 (false,())) (V6 R m m1):=by
 refine Yd.bind (Q9 hR1 hR2 h1 hz1 hr) fun q hq=> ?_
 obtain⟨m2,rfl,ha⟩:=hq;have hq:=ha.inv.seq;have hadd:aI .i64 m2.aK 1=m2.aK+1:=b0 (by omega) (by omega)
 obtain⟨r,g1,g2⟩:=Vl (cj m) (cj m2) (by rw[sI];exact h.aY.sm) (by rw[oH,oH,ha.env.1,hn]) (by rw[ug,ug,ha.env.2.1,hsl])
 simp only[bA,bY,Qa,tY,yt h,yt ha.inv,hadd,g1];have hb:=U1 h1 ha;refine Yd.of_eq (x:=(hY m m2,(0:Int),())) ?_ ⟨m2,rfl,hb⟩;unfold hY
 cases hz:aD m.aa with
 |true=>rw[Qs (by rintro⟨e,_⟩;cases e)];rfl
 |false=>
  cases r with
  |true=>rw[Qs (fun e=>e.2 (g2.1 rfl))];rfl
  |false=>rw[Qr ⟨rfl,fun e=>by have:=g2.2 e;cases this⟩];rfl
theorem Kd{v:ByteArray}(hv:1<=v.size/\v.size<=200)(hr:R (dK m v)):Yd (fJ m v) (V6 R m (dK m v)):=by
 have d1:decide (((ByteArray.size v:Nat):Int)<(1:Int))=false:=Qh (by omega)
 have d2:decide ((200:Int)<((ByteArray.size v:Nat):Int))=false:=Qh (by omega)
 have hi:=zt h hv;have hval:fC ⟨{m with bm:=v}⟩=some (dE {m with bm:=v}):=J7 (m:={m with bm:=v}) ⟨h.ev.n0,h.ev.n1,h.ev.aY,h.ev.len,h.ev.sm,h.ev.valid⟩
 have hdo:kY ⟨m⟩ v=some ((0:Int),⟨dK m v⟩):=by
  unfold kY dK;simp only[ab.eta,ax.eta,d1,d2,Ql,Qa,bY,bA]
  cases hz:aD m.aa with
  |true=>
   simp only[Qk,Qt,ao.eta];rw[show(⟨m.ar,m.bx,m.aK,m.af,m.aL,m.aa,m.al,m.aw,m.au,m.aM,m.bb,v,m.aA⟩:ab)={m with bm:=v}from rfl,hval]
   rfl
  |false=>simp only[Ql,Qq,Qu,ao.eta]
 unfold fJ nq;simp only[ab.eta,ao.eta,aj.eta,ax.eta,yM h hs,z6 h,hdo,Qa,Qo,Ql,decide_true];refine Yd.bind (K7 hR1 hR2 h hs hi (fun hz=>by rw[o6.2];exact hs.zero (by cases hc:aD m.aa with|true=>rfl|false=>rw[o6.1 hc]at hz;cases hz)) o6.1 (by unfold dK;split<;>rfl) (by unfold dK;split<;>rfl) hr) fun q hq=> ?_
 obtain⟨m2,rfl,ha⟩:=hq;exact .some ⟨m2,rfl,ha⟩
theorem Kc{e:aj}(he:Ci m e)(hr:R (pb m e)):Yd (fI m e) fun q=>(V6 R m (pb m e) q/\(na m.aA e).2.1=true)\/(q=(SQ,(9:Int),())/\(na m.aA e).2.1=false):=by
 have hi:=Ew h he;have hlen:=h.len;have hput:=V5 (l:=m.aA) (fun x hx=>(h.hv x hx).2.1.sm) (by omega) (e:=e) he.aY.sm
 have hdo:gJ ⟨m⟩ e=some (bif (na m.aA e).2.1 then((0:Int),⟨pb m e⟩)else((9:Int),⟨m⟩)):=by
  unfold gJ;simp only[ab.eta,ax.eta,aj.eta,ao.eta,bA,lZ he.aY.sm,he.valid,Qa,Qo,Ql,Qh he.ay,Qg he.bL,hput];cases (na m.aA e).2.1<;>rfl
 unfold fI kp;simp only[ab.eta,ao.eta,aj.eta,ax.eta,yM h hs,z6 h,hdo,Qa,Qo,Ql]
 cases hp:(na m.aA e).2.1 with
 |false=>exact .some (.inr ⟨rfl,rfl⟩)
 |true=>
  simp only[Qk,decide_true,Qo,Ql];refine Yd.bind (K7 hR1 hR2 h hs hi hs.zero (fun e=>e) rfl rfl hr) fun q hq=> ?_
  obtain⟨m2,rfl,ha⟩:=hq;exact .some (.inl ⟨⟨m2,rfl,ha⟩,trivial⟩)
end
theorem RT{m:ab}(h:aW m)(hs:gk m):∃e,mr m=some (e,!aD m.aa,())/\(aD m.aa=false->e=cj m):=by
 unfold mr;simp only[ab.eta,ao.eta,aj.eta,bY,yM h hs,z6 h,tY,yt h,Qa]
 cases aD m.aa with
 |true=>exact⟨_,rfl,fun e=>by cases e⟩
 |false=>exact⟨_,rfl,fun _=>rfl⟩
theorem RU{m:ab}(h:aW m)(hs:gk m):j5 m=some (bif decide (m.aL=3)then m.aa.Value else iy,decide (m.aL=3),()):=by
 unfold j5;simp only[ab.eta,ao.eta,yM h hs,Qa];cases decide (m.aL=3)<;>rfl
theorem T1{m:ab}(h:aW m)(hs:gk m){e:aj}(ht:eJ e.af)(hbad:aZ e=false\/e.ar=m.ar\/e.bx≠m.bx):fI m e=some (SQ,(61:Int),()):=by
 have hdo:gJ ⟨m⟩ e=some ((61:Int),⟨m⟩):=by
  unfold gJ;simp only[ab.eta,ax.eta,aj.eta,ao.eta,bA,lZ ht,Qa]
  cases hv:aZ e with
  |false=>rfl
  |true=>
   by_cases hn:e.ar=m.ar
   ·rw[Qg hn];rfl
   ·have hsl:e.bx≠m.bx:=(hbad.resolve_left (by rw[hv];decide)).resolve_left hn
    rw[Qh hn,Qh hsl];rfl
 unfold fI kp;simp only[ab.eta,ao.eta,aj.eta,ax.eta,yM h hs,z6 h,hdo,Qa,Qo,Ql];rfl
end Go.Proofs.YtkgenianmdfmdaaGreat
namespace Go.Proofs.YtkgenianmdfmdaaGreat
open Go.TQ
def gT(n:Nat)(k:Int)(i s:Nat):Bool:=s.testBit i&&decide (k<=(((kI n).countP (gw s):Nat):Int))
def bT(n:Nat)(k:Int)(i s:Nat):Bool:= !decide (k<=(((kI n).countP (gw (rC s i)):Nat):Int))
structure lP (n:Nat) (k:Int) (m:ab):Prop where
 n10:n<=10
 k1:1<=k
 kn:k<=n
 aY:m.af=flat n k
 heard:∀e∈m.aA,e.af=flat n k
theorem lP.all{n:Nat}{k:Int}{m:ab}(hf:lP n k m){e:aj}(he:e∈aJ m):e.af=flat n k:=by
 rcases qY he with he|⟨_,rfl⟩
 ·exact hf.heard e he
 ·rw[zu];exact hf.aY
section
variable {n : Nat} {k : Int} {m : ab} (h : aW m) (hf : lP n k m)
 include h
theorem tc:bH (aJ m)=aJ m:=FA h.iS
 include hf
theorem JM{j:Nat}(hj:j<10)(hs:j=m.ar.toNat\/∃e∈aJ m,e.ar.toNat=j):jX (dU m.ar.toNat m.af (aJ m)) j=true/\kv (dU m.ar.toNat m.af (aJ m)) j=flat n k:=
 HS h.ev.ay.2 (fun _=>flat n k) hf.aY.symm (fun e he=>by rw[tc h]at he;exact hf.all he) hj (by rw[tc h];exact hs)
theorem NZ{s:Nat}(hs:∀j,s.testBit j=true->∃e∈aJ m,e.ar.toNat=j):(gq (dU m.ar.toNat m.af (aJ m)) s).testBit m.ar.toNat=gT n k m.ar.toNat s:=by
 have hs10:∀j,s.testBit j=true->j<10:=fun j hj=>by
  obtain⟨e,he,rfl⟩:=hs j hj;have:=iG (h.iS e he);omega
 have hg:=Gk (n4 (ay:=m.ar.toNat) h.aY.sm h.ev.nv.1) (yu hs10);have hi:=JM h hf h.ev.ay.2 (.inl rfl);unfold gT;rw[QW,Qm,Qi];constructor
 ·intro hb;have h1:=hg.inside _ hb;refine⟨h1.1,?_⟩;have h3:=h1.2.2;rw[hi.2,y8]at h3;have h3:=of_decide_eq_true h3;have h2:=Oi (s':=s) (fun j hj=>(hg.inside j hj).1) (kI n)
  omega
 ·rintro⟨hb,hc⟩;refine hg.max s (fun j hj=> ?_) _ hb
  obtain⟨g1,g2⟩:=JM h hf (hs10 j hj) (.inr (hs j hj));exact⟨hj,g1,by rw[g2,y8];exact Qg hc⟩
theorem Ou(s:Nat):lp (dU m.ar.toNat m.af (aJ m)) m.ar.toNat s=bT n k m.ar.toNat s:=by
 obtain⟨g1,g2⟩:=JM h hf h.ev.ay.2 (.inl rfl);unfold lp bT;rw[g1,g2,y8,Bool.true_and]
end
theorem Cn{p:aj->Bool}{l:List aj}{j:Nat}(hb:(de p l).testBit j=true):∃e∈l,e.ar.toNat=j:=by
 rw[mX,List.any_eq_true]at hb;obtain⟨e,he,hp⟩:=hb;rw[Qm,Qi]at hp;exact⟨e,he,hp.2⟩
theorem JD{p q:aj->Bool}{l:List aj}{j:Nat}(hb:(de p l|||de q l).testBit j=true):∃e∈l,e.ar.toNat=j:=by
 rw[Nat.testBit_or,Qn]at hb;rcases hb with hb|hb
 ·exact Cn hb
 ·exact Cn hb
def HK(n:Nat)(k:Int)(i:Nat)(l:List aj)(b:ae):Bool:=bT n k i (de (cQ · b) l)||gT n k i (de (fun e=>mz e b||cQ e b) l|||de (cQ · b) l)
def Gu(n:Nat)(k:Int)(i:Nat)(l:List aj)(b:ae):Bool:=gT n k i (de (cQ · b) l)
def nA(n:Nat)(k:Int)(i:Nat)(l:List aj)(v:ByteArray)(lo hi:Int):Bool:=bT n k i (de (fj · v lo hi) l)||gT n k i (de (fun e=>qa e v lo hi||fj e v lo hi) l|||de (fj · v lo hi) l)
def E3(n:Nat)(k:Int)(i:Nat)(l:List aj)(v:ByteArray)(lo hi:Int):Bool:=gT n k i (de (fj · v lo hi) l)
def S6(e:aj):List ae:=if e.bR=1 then[e.aa,e.al,e.aw]else if e.bR=2 then[e.al,at_ e 1000000]else[at_ e 1000000]
def oO(l:List aj):List ae:=((l.flatMap S6).filter fun b=> !aD b).foldl (fun l x=>oC (fun x y=>ba y x) x l) []
def GS(l:List aj):List ByteArray:=(l.map (·.aa.Value)).foldl (fun l x=>oC lF x l) []
def Jy(v:ByteArray)(e:aj):List Int:=if e.aa.Value=v/\e.aM≠0 then[e.aM,e.bb]else[]
def nJ(l:List aj)(v:ByteArray):List Int:=(l.flatMap (Jy v)).foldl (fun l x=>oC (fun a b=>decide (a<b)) x l) []
section
variable {l : List aj} (hv : ∀ e ∈ l, aZ e = true) (hsm : ∀ e ∈ l, eJ e.af) (hlen : l.length <= 1000)
 include hv hsm hlen
theorem IT:dY l=oO l:=by
 obtain⟨_,h2,_,h4⟩:=nK hsm hlen;obtain⟨h5,h6⟩:=Ga wX.flip ((l.flatMap S6).filter fun b=> !aD b) [] .nil
 refine wX.flip.unique h2 h5 fun x=> ?_
 unfold oO;rw[h4,h6];simp only[List.mem_filter,QQ,QR,or_false,Bool.not_eq_true'];constructor
 ·rintro⟨e,he,hx,hz⟩;refine⟨⟨e,he,?_⟩,hz⟩;unfold said at hx;rw[hv e he]at hx;exact hx
 ·rintro⟨⟨e,he,hx⟩,hz⟩;refine⟨e,he,?_,hz⟩;unfold said;rw[hv e he];exact hx
theorem Rp:gd l=GS l:=by
 obtain⟨_,h2,_,h4⟩:=oV hsm hlen;obtain⟨h5,h6⟩:=Ga wW (l.map (·.aa.Value)) [] .nil;refine wW.unique h2 h5 fun x=> ?_
 unfold GS;rw[h4,h6];simp only[QP,QR,or_false];constructor
 ·rintro⟨e,he,_,rfl⟩;exact⟨e,he,rfl⟩
 ·rintro⟨e,he,rfl⟩;exact⟨e,he,hv e he,rfl⟩
theorem ES:bS l=nJ l:=by
 funext v
 obtain⟨_,h2,_,h4⟩:=lM hsm hlen v;obtain⟨h5,h6⟩:=Ga Cp (l.flatMap (Jy v)) [] .nil;refine Cp.unique (h2.imp fun hab=>Qg hab) h5 fun x=> ?_
 unfold nJ;rw[h4,h6,tf];simp only[QQ,QR,or_false];constructor
 ·rintro⟨e,he,hb,hx⟩;refine⟨e,he,?_⟩;simp only[jy,Qm,Qi,Bool.not_eq_true',Qj]at hb;unfold Jy;rw[Qr ⟨hb.1.2,hb.2⟩];simpa using hx
 ·rintro⟨e,he,hx⟩;unfold Jy at hx;split at hx
  ·rename_i hc;refine⟨e,he,?_,by simpa using hx⟩
   simp only[jy,Qm,Qi,Bool.not_eq_true',Qj];exact⟨⟨hv e he,hc.1⟩,hc.2⟩
  ·cases hx
end
section
variable {n : Nat} {k : Int} {m : ab} (h : aW m) (hf : lP n k m)
 include h hf
theorem Tx:gN m.ar.toNat m.af (aJ m)=HK n k m.ar.toNat (aJ m):=by
 funext b
 unfold gN pd HK;rw[tc h,Ou h hf,NZ h hf fun j hj=>JD hj]
theorem VU:fq m.ar.toNat m.af (aJ m)=Gu n k m.ar.toNat (aJ m):=by
 funext b
 unfold fq Gu;rw[tc h,NZ h hf fun j hj=>Cn hj]
theorem Hc:eH m=nA n k m.ar.toNat (aJ m):=by
 funext v lo hi
 unfold eH oJ pd nA;rw[tc h,Ou h hf,NZ h hf fun j hj=>JD hj]
theorem Ve:y3 m=E3 n k m.ar.toNat (aJ m):=by
 funext v lo hi
 unfold y3 qV E3;rw[tc h,NZ h hf fun j hj=>Cn hj]
end
def P8(x:ByteArray->Int->Int->Bool)(p q:ae)(v:ByteArray)(s:Bool×ae)(n:Int):Bool×ae:=
 if ba s.2 ⟨n,v⟩&& !mj p q v n&&x v n n then(true,⟨n,v⟩)else s
def JC(x:ByteArray->Int->Int->Bool)(l:List aj)(p q:ae):Bool×ae:=
 (GS l).foldl (fun s v=>(nJ l v).foldl (P8 x p q v) s) (false,⟨0,iy⟩)
def Gp(x:ByteArray->Int->Int->Bool)(l:List aj)(p q:ae)(s:Bool×ae):ByteArray×Int×Int×Bool×Unit:=
 if s.1 then(s.2.Value,dX (fun n=> !mj p q s.2.Value n&&x s.2.Value n s.2.ai) (nJ l s.2.Value).reverse s.2.ai,s.2.ai,true,())else(iy,0,0,false,())
def R9(b:List Int)(ready:Int->Int->Bool)(low bM:Int):Int×Int:=
 match b.reverse.find? (fun n=>decide (bM<n)&&ready n n)with
 |none=>(dX (fun x=>ready x bM) b.reverse low,bM)
 |some n=>
  let bottom:=dX (fun x=>ready x n) b.reverse n
  (dX (fun x=>ready x n) b.reverse (if bM<bottom - 1\/bottom<low then bottom else low),n)
def Pc(nx:ae)(m:ab):ab:=
 if m.aL=3\/aD m.aa=true then m else
  {m with al:=(cJ m.al m.aw (dh nx)).1,aw:=(cJ m.al m.aw (dh nx)).2,aM:=pQ m (cJ m.al m.aw (dh nx)).1 (cJ m.al m.aw (dh nx)).2}
def Pb(hg:ae)(m:ab):ab:=if m.aL≠1\/aD m.aa=true\/aD hg=true then m else mm (uO m hg) hg
def Pe(fs:ByteArray×Int×Int×Bool×Unit)(ex:Int×Int)(m:ab):ab:=
 if m.aL=1 then(if fs.2.2.2.1=true then EM m fs.1 fs.2.1 fs.2.2.1 else m)
 else if m.aL=2 then sY m ex.1 ex.2 else m
def Pd(fn:Int×Int×Bool×Unit)(m:ab):ab:=if m.aL=2/\fn.2.2.1=true then CG m fn.1 fn.2.1 else m
def Sv(ah:Int->Bool)(m:ab):Int:=m.aA.foldl (fun Cb e=>if m.aa.ai<cm e/\cm e<Cb/\ah (cm e)=false then cm e else Cb) 1000000
def Te(m:ab):ByteArray:=if m.aL=1 then dE m else m.aa.Value
def Kb(ah:Int->Bool)(m:ab):ab:=
 if m.aL=3\/ah m.aa.ai=false then m
 else{m with aM:=if Te m=m.aa.Value then m.aM else 0,aa:=⟨bd m.aa.ai (df (Sv ah m) 1000),Te m⟩}
def Cf(n:Nat)(k:Int)(m:ab)(c:Int):Bool:=bT n k m.ar.toNat (oP m c)
def Cw(m p r:ab):ab:=bif ly m p then r else p
def stepT(n:Nat)(k:Int)(m:ab):ab:=
 Cw m (Pc (((oO (aJ m)).find? (su (HK n k m.ar.toNat (aJ m)) m.al m.aw (AQ m))).getD w9) m)<|
 Cw m (Pb (((oO (aJ m)).find? (sD (Gu n k m.ar.toNat (aJ m)) m.au)).getD w9) m)<|
 Cw m (Pe (Gp (nA n k m.ar.toNat (aJ m)) (aJ m) m.al m.aw (JC (nA n k m.ar.toNat (aJ m)) (aJ m) m.al m.aw)) (R9 (nJ (aJ m) m.aa.Value) (nA n k m.ar.toNat (aJ m) m.aa.Value) m.aM m.bb) m)<|
 Cw m (Pd (wh (nJ (aJ m) m.aa.Value) (E3 n k m.ar.toNat (aJ m) m.aa.Value)) m)<|
 Kb (Cf n k m) m
open Classical in
theorem Cv{m m' r:ab}(he:fF m m'):Cw m m' r=if m'=m then r else m':=by
 unfold Cw
 by_cases h:m'=m
 ·rw[Qr h,h,Nk];rfl
 ·rw[Qs h,RW he h];rfl
section
variable {n : Nat} {k : Int} {m : ab} (h : aW m) (hf : lP n k m)
 include h hf
theorem Wx:dO m=((oO (aJ m)).find? (su (HK n k m.ar.toNat (aJ m)) m.al m.aw (AQ m))).getD w9:=by
 unfold dO gY;rw[Tx h hf,IT h.iS h.ev.nv.1.aY h.ev.nv.2]
theorem WE:ig m=((oO (aJ m)).find? (sD (Gu n k m.ar.toNat (aJ m)) m.au)).getD w9:=by
 unfold ig tM;rw[VU h hf,IT h.iS h.ev.nv.1.aY h.ev.nv.2]
theorem WT:fh m=Gp (nA n k m.ar.toNat (aJ m)) (aJ m) m.al m.aw (JC (nA n k m.ar.toNat (aJ m)) (aJ m) m.al m.aw):=by
 unfold fh oF fQ Gp JC;rw[Hc h hf,ES h.iS h.ev.nv.1.aY h.ev.nv.2,Rp h.iS h.ev.nv.1.aY h.ev.nv.2];rfl
theorem WY:dw m=R9 (nJ (aJ m) m.aa.Value) (nA n k m.ar.toNat (aJ m) m.aa.Value) m.aM m.bb:=by
 unfold dw;rw[Hc h hf,ES h.iS h.ev.nv.1.aY h.ev.nv.2];rfl
theorem WX:kh m=wh (nJ (aJ m) m.aa.Value) (E3 n k m.ar.toNat (aJ m) m.aa.Value):=by
 unfold kh;rw[Ve h hf,ES h.iS h.ev.nv.1.aY h.ev.nv.2]
theorem HJ:ep m=Cf n k m:=by
 funext c
 exact Ou h hf _
theorem TZ:dV m=Kb (Cf n k m) m:=by
 have e:dn m=Sv (Cf n k m) m:=by
  unfold dn Sv jf;rw[HJ h hf]
 unfold dV Kb;rw[HJ h hf,e];rfl
theorem Vg:cI m=stepT n k m:=by
 have eP:Pc (((oO (aJ m)).find? (su (HK n k m.ar.toNat (aJ m)) m.al m.aw (AQ m))).getD w9) m=cy m:=by rw[<-Wx h hf];rfl
 have eS:Pb (((oO (aJ m)).find? (sD (Gu n k m.ar.toNat (aJ m)) m.au)).getD w9) m=gg m:=by rw[<-WE h hf];rfl
 have eC:Pe (Gp (nA n k m.ar.toNat (aJ m)) (aJ m) m.al m.aw (JC (nA n k m.ar.toNat (aJ m)) (aJ m) m.al m.aw)) (R9 (nJ (aJ m) m.aa.Value) (nA n k m.ar.toNat (aJ m) m.aa.Value) m.aM m.bb) m=ff m:=by rw[<-WT h hf,<-WY h hf];rfl
 have eF:Pd (wh (nJ (aJ m) m.aa.Value) (E3 n k m.ar.toNat (aJ m) m.aa.Value)) m=iV m:=by rw[<-WX h hf];rfl
 unfold cI stepT;rw[eP,eS,eC,eF,<-TZ h hf,Cv (tX m),Cv (ru m),Cv (rB m),Cv (rA m)]
end
 def rH:Nat->ab->ab
 |0,m=>m
 |j+1,m=>rH j (cI m)
theorem Es:∀(j:Nat) (m:ab),rH (j+1) m=cI (rH j m)
 |0,_=>rfl
 |j+1,m=>Es j (cI m)
theorem Hr{m:ab}(h:aW m):∀j,aW (rH j m)
 |0=>h
 |j+1=>by rw[Es];exact AT (Hr h j)
theorem Et{m:ab}(h:cI m=m):∀j,rH j m=m
 |0=>rfl
 |j+1=>by rw[rH,h];exact Et h j
theorem Hs:∀(i j:Nat) (m:ab),rH (i+j) m=rH j (rH i m)
 |0,j,m=>by rw[Nat.zero_add];rfl
 |i+1,j,m=>by rw[show i+1+j=(i+j)+1 by omega,rH,Hs i j];rfl
theorem Uj{m:ab}{i j:Nat}(hi:cI (rH i m)=rH i m)(hj:cI (rH j m)=rH j m):rH i m=rH j m:=by
 rcases Nat.le_total i j with hl|hl
 ·have:=Hs i (j - i) m;rw[Et hi]at this;rw[<-this,show i+(j - i)=j by omega]
 ·have:=Hs j (i - j) m;rw[Et hj]at this;rw[<-this,show j+(i - j)=i by omega]
theorem AY{m m':ab}(he:fF m m')(s:Int):({m' with aK:=s}:ab)={m with aK:=s}↔m'=m:=by
 constructor
 ·intro h;have e1:m'.aL=m.aL:=(congrArg ab.aL h:_);have e2:m'.aa=m.aa:=(congrArg ab.aa h:_);have e3:m'.al=m.al:=(congrArg ab.al h:_);have e4:m'.aw=m.aw:=(congrArg ab.aw h:_);have e5:m'.au=m.au:=(congrArg ab.au h:_);have e6:m'.aM=m.aM:=(congrArg ab.aM h:_);have e7:m'.bb=m.bb:=(congrArg ab.bb h:_);exact qL he e1 e2 e3 e4 e5 e6 e7
 ·rintro rfl;rfl
open Classical in
theorem HU{m:ab}(h:aW m){s:Int}(hs:0<=s/\s<=1000000):cI {m with aK:=s}={cI m with aK:=s}:=by
 unfold cI;rw[Ib h hs,H9 h hs,Ij h hs,Ih h hs,Ie h hs];simp only[AY (tX m),AY (ru m),AY (rB m),AY (rA m)]
 by_cases hP:cy m=m
 ·by_cases hS:gg m=m
  ·by_cases hC:ff m=m
   ·by_cases hF:iV m=m
    ·simp only[Qr hP,Qr hS,Qr hC,Qr hF]
    ·simp only[Qr hP,Qr hS,Qr hC,Qs hF]
   ·simp only[Qr hP,Qr hS,Qs hC]
  ·simp only[Qr hP,Qs hS]
 ·simp only[Qs hP]
def Reach(m x:ab):Prop:=∃j s,(0<=s/\s<=1000000)/\x={rH j m with aK:=s}
theorem Mm{m:ab}(h:aW m):∀x,aW x->Reach m x->Reach m (cI x):=by
 rintro x _ ⟨j,s,hs,rfl⟩;exact⟨j+1,s,hs,by rw[HU (Hr h j) hs,Es]⟩
theorem Ml{m:ab}:∀x,Reach m x->Reach m (dB x):=by
 rintro x ⟨j,s,hs,rfl⟩;unfold dB;split
 ·exact⟨j,bd s 1,by unfold bd;split<;>omega,rfl⟩
 ·exact⟨j,s,hs,rfl⟩
theorem Mn{m:ab}(h:aW m):Reach m m:=⟨0,m.aK,h.seq,rfl⟩
def runT(n:Nat)(k:Int):Nat->ab->Option ab
 |0,_=>none
 |f+1,m=>if ly m (stepT n k m)=true then some m else runT n k f (stepT n k m)
theorem lP.step{n:Nat}{k:Int}{m m':ab}(hf:lP n k m)(he:fF m m'):lP n k m':=⟨hf.n10,hf.k1,hf.kn,by rw[he.aY];exact hf.aY,by rw[he.heard];exact hf.heard⟩
theorem JR{n:Nat}{k:Int}:∀{f:Nat} {m z:ab},aW m->lP n k m->runT n k f m=some z->∃j,rH j m=z/\cI z=z
 |0,m,z,_,_,e=>by cases e
 |f+1,m,z,h,hf,e=>by
  rw[runT,<-Vg h hf]at e;split at e
  ·rename_i hs;obtain rfl:=Option.some.inj e;exact⟨0,rfl,JN (tU m) hs⟩
  ·obtain⟨j,h1,h2⟩:=JR (AT h) (hf.step (tU m)) e;exact⟨j+1,h1,h2⟩
theorem Tw{n:Nat}{k:Int}{f:Nat}{m1 z m m2:ab}(h:aW m1)(hf:lP n k m1)(hz:runT n k f m1=some z)(ha:Cm (Reach m1) m m2):m2={z with aK:=m2.aK}:=by
 obtain⟨j,s,hs,e⟩:=ha.rel;obtain⟨i,h1,h2⟩:=JR h hf hz;have h3:=R7 ha.fix;rw[e,HU (Hr h j) hs]at h3;have h4:=(AY (tU (rH j m1)) s).1 h3;rw[<-h1]at h2;have h5:=Uj h2 h4;rw[e,<-h5,h1]
def He(l:List aj)(e:aj):List aj×Bool:=
 match l.findIdx? fun x=>decide (x.ar=e.ar)with
 |some i=>if e.aK<=((l[i]?).getD e).aK then(l,false)else(l.set i e,true)
 |none=>(l.take (Cc l e)++[e]++l.drop (Cc l e),true)
theorem Ws{l:List aj}{e:aj}(hv:aZ e=true):(na l e).1=(He l e).1/\(na l e).2.1=(He l e).2:=by
 unfold na He;rw[Qr hv]
 cases l.findIdx? (fun x=>decide (x.ar=e.ar))with
 |none=>exact⟨rfl,rfl⟩
 |some i=>
  by_cases hc:e.aK<=((l[i]?).getD e).aK
  ·simp only[Qr hc];exact⟨trivial,trivial⟩
  ·simp only[Qs hc];exact⟨trivial,trivial⟩
def Jk(a b:aj):Bool:=decide (a.bR=b.bR)&&uW a.aa b.aa&&uW a.al b.al&&uW a.aw b.aw&&decide (a.aM=b.aM)&&decide (a.bb=b.bb)
def JB(m m2:ab):ab:=if Jk (cj m) (cj m2)=true then m2 else{m2 with aK:=df (m2.aK+1) 1000000}
theorem VW{m m2:ab}(hz:aD m.aa=false)(hn:m2.ar=m.ar)(hs:m2.bx=m.bx)(ht:m2.af=m.af):hY m m2=JB m m2:=by
 have key:(Jk (cj m) (cj m2)=true)↔({cj m with aK:=0}:aj)={cj m2 with aK:=0}:=by
  rw[ML];unfold Jk;simp only[Qm,Qi,oa,oH,ug,sI,hn,hs,ht,true_and,and_assoc]
 unfold hY JB
 by_cases hk:Jk (cj m) (cj m2)=true
 ·rw[Qr hk,Qs (fun e=>e.2 (key.1 hk))]
 ·rw[Qs hk,Qr ⟨hz,fun e=>hk (key.2 e)⟩]
structure nm (n:Nat) (k:Int) (m:ab):Prop where
 inv:aW m
 seq:gk m
 flat:lP n k m
 nz:aD m.aa=false
 bL:m.bx=1
theorem nm.env{n:Nat}{k:Int}{m:ab}(h:nm n k m):aZ (cj m)=true/\(cj m).af=Go.Proofs.YtkgenianmdfmdaaGreat.flat n k/\(cj m).bx=1:=⟨Mu h.inv h.seq h.nz,by rw[sI];exact h.flat.aY,by rw[ug];exact h.bL⟩
def Nu(n:Nat)(k:Int)(m:ab)(e:aj):Option ab:=
 if e.ar=m.ar then some m else
 if(He m.aA e).2=false then some m else
 (runT n k 20 {m with aA:=(He m.aA e).1}).map fun z=>JB m {z with aK:=m.aK}
theorem RZ{n:Nat}{k:Int}{m m1 m2:ab}{R:ab->Prop}(h:nm n k m)(hf:lP n k m1)(hnz:aD m1.aa=false)(hsl:m1.bx=1)(ha:Cm R m1 m2):nm n k (hY m m2):=by
 have hz2:=ha.nz hnz;obtain⟨s,e,hs⟩:=xT (m:=m) ha.inv;refine⟨La ha.inv,MV ha.inv ha.seq (fun _=>hz2),?_,by rw[e];exact hz2,by rw[e];exact ha.env.2.1.trans hsl⟩
 rw[e];exact⟨hf.n10,hf.k1,hf.kn,ha.env.2.2.1.trans hf.aY,fun x hx=>hf.heard x (by have:x∈m2.aA:=hx;rw[ha.env.2.2.2.2]at this;exact this)⟩
theorem O1{n:Nat}{k:Int}{m x:ab}{e:aj}(h:nm n k m)(hv:aZ e=true)(ht:e.af=flat n k)(hsl:e.bx=1)(hx:Nu n k m e=some x):
  ∃y c,fI m e=some (y,c,())/\((c=0/\y=x)\/(c≠0/\x=m))/\nm n k x:=by
 have hgood:iY e.af:=by rw[ht];exact rI n h.flat.n10 k h.flat.k1 h.flat.kn
 unfold Nu at hx;split at hx
 ·rename_i hn;obtain rfl:=Option.some.inj hx;exact⟨_,_,T1 h.inv h.seq hgood.sm (.inr (.inl hn)),.inr ⟨by decide,rfl⟩,h⟩
 ·rename_i hn;have he:Ci m e:=⟨hv,hgood,by rw[hsl,h.bL],hn⟩
  have hi:=Ew h.inv he;have hp:=Ws (l:=m.aA) hv;have hm1:pb m e={m with aA:=(He m.aA e).1}:=by unfold pb;rw[hp.1]
  obtain⟨q,hq,hq2⟩:=Kc (R:=Reach (pb m e)) (Mm hi) Ml h.inv h.seq he (Mn hi);rcases hq2 with⟨⟨m2,rfl,ha⟩,hok⟩|⟨rfl,hok⟩
  ·rw[hp.2]at hok;rw[Qs (by rw[hok];decide),<-hm1]at hx
   obtain⟨z,hz,rfl⟩:=Qb.1 hx
   have hf1:lP n k (pb m e):=⟨h.flat.n10,h.flat.k1,h.flat.kn,h.flat.aY,fun y hy=>by
    rcases Cu hy with rfl|hy
    ·exact ht
    ·exact h.flat.heard y hy⟩
   have e2:=Tw hi hf1 hz ha;have hid:dB (pb m e)=pb m e:=Vv h.seq rfl rfl;rw[hid]at ha
   have hsq:m2.aK=m.aK:=by
    rcases ha.num with g|⟨g,_⟩
    ·exact g
    ·have:=h.seq.pos h.nz;have g:m.aK=0:=g;omega
   have hb:hY m m2=JB m {z with aK:=m.aK}:=by
    rw[VW h.nz ha.env.1 ha.env.2.1 ha.env.2.2.1,<-hsq,<-e2]
   refine⟨_,_,hq,.inl ⟨rfl,hb⟩,?_⟩;rw[<-hb];exact RZ h hf1 h.nz h.bL ha
  ·rw[hp.2]at hok;rw[Qr hok]at hx;obtain rfl:=Option.some.inj hx;exact⟨_,_,hq,.inr ⟨by decide,rfl⟩,h⟩
end Go.Proofs.YtkgenianmdfmdaaGreat
namespace Go.Proofs.YtkgenianmdfmdaaGreat
open Go.TQ
theorem PE{σ ρ:Type}(n:Nat)(P:Nat->σ->Prop)(r:ρ->Prop){step:Int×σ×Unit->Option ((Int×σ×Unit)⊕ρ)}
  (h1:∀(i:Nat) (s:σ),i<n->P i s->∃s',step ((i:Int),s,())=some (.inl (((i+1:Nat):Int),s',()))/\P (i+1) s')
  (h2:∀s,P n s->Yd (step ((n:Int),s,())) fun y=>match y with| .inl _=>False| .inr q=>r q):∀s0,P 0 s0->Yd (aG step ((0:Int),s0,())) r:=by
 suffices key:∀(d i:Nat),i+d=n->∀s,P i s->Yd (aG step ((i:Int),s,())) r from fun s0 h=>key n 0 (by omega) s0 h
 intro d
 induction d with
 |zero=>
  intro i hi s hs;obtain rfl:i=n:=by omega
  refine Yd.loop ((h2 s hs).mono fun y hy=> ?_)
  cases y with
  |inl _=>exact hy.elim
  |inr q=>exact hy
 |succ d ih=>
  intro i hi s hs;obtain⟨s',e,hs'⟩:=h1 i s (by omega) hs
  exact Yd.loop (Yd.of_eq e (ih (i+1) (by omega) s' hs'))
theorem Wg{α:Type}{o:Option α}{x:α}(h:Yd o fun q=>q=x):o=some x:=by
 obtain⟨q,rfl,rfl⟩:=h;rfl
theorem Wf{α β:Type}{o:Option β}{f:α->β}{P:α->Prop}(h:Yd o fun q=>∃s,q=f s/\P s):∃s,o=some (f s)/\P s:=by
 obtain⟨q,rfl,s,rfl,hp⟩:=h;exact⟨s,rfl,hp⟩
def rq(n:Nat)(k:Int):ab->List aj->Option ab
 |m,[]=>some m
 |m,e::es=>(Nu n k m e).bind fun x=>rq n k x es
def Bs(n:Nat)(k:Int)(es:List aj):List ab->Option (List ab)
 |[]=>some []
 |m::ms=>(rq n k m es).bind fun x=>(Bs n k es ms).map (x::·)
theorem JX{n:Nat}{k:Int}{es:List aj}:∀{ms ms':List ab},Bs n k es ms=some ms'->ms'.length=ms.length/\∀(t:Nat) (m:ab),ms[t]?=some m->∃x,ms'[t]?=some x/\rq n k m es=some x
 |[],ms',h=>by
  obtain rfl:=Option.some.inj h;exact⟨rfl,fun t m e=>by simp at e⟩
 |m::ms,ms',h=>by
  rw[Bs]at h;obtain⟨x,h1,h2⟩:=Qc.1 h;obtain⟨r,h3,rfl⟩:=Qb.1 h2;obtain⟨g1,g2⟩:=JX h3;refine⟨by simp[g1],fun t y e=> ?_⟩
  cases t with
  |zero=>exact⟨x,rfl,by rw[List.getElem?_cons_zero]at e;rw[<-Option.some.inj e];exact h1⟩
  |succ t=>exact g2 t y (by rw[List.getElem?_cons_succ]at e;exact e)
section
variable {n : Nat} {k : Int}
theorem Bu:∀{es:List aj} {m x:ab},nm n k m->(∀e∈es,aZ e=true/\e.af=flat n k/\e.bx=1)->rq n k m es=some x->nm n k x
 |[],m,x,h,_,e=>by rw[<-Option.some.inj e];exact h
 |e::es,m,x,h,he,hx=>by
  rw[rq]at hx;obtain⟨y,h1,h2⟩:=Qc.1 hx;obtain⟨g1,g2,g3⟩:=he e Qx;obtain⟨_,_,_,_,hl⟩:=O1 h g1 g2 g3 h1;exact Bu hl (fun e he'=>he e (Qy _ he')) h2
theorem vl{ms ms':List ab}(hl:ms.length<=10)(h:∀m∈ms,nm n k m)(hr:Bs n k (ms.map cj) ms=some ms'):qD ms=some ms'/\(∀m∈ms',nm n k m)/\ms'.length=ms.length:=by
 obtain⟨hlen,hat⟩:=JX hr
 have hes:∀e∈ms.map cj,aZ e=true/\e.af=flat n k/\e.bx=1:=fun e he=>by
  obtain⟨m,hm,rfl⟩:=QP.1 he;exact(h m hm).env
 refine⟨?_,fun m hm=> ?_,hlen⟩
 ·have hlo:∀{b c:Nat},b<=240->c<=1000000->bZ b c=true:=fun hb hc=>ez ⟨QK (Nat.mul_le_mul hc hb) (by decide),hc⟩
  unfold qD;refine Eq.trans (IM ms (by omega) cj (fin:= ?fin) (fun i m s hs hm hd hx hw=> ?h1) (fun s hd=> ?h2)) ?h3
  case h2=>
   simp only[hd,Ql];exact rfl
  case h1=>
   obtain⟨e,he1,he2⟩:=RT (h m hm).inv (h m hm).seq;have hz:=(h m hm).nz;rw[he2 hz]at he1;have hlo1:bZ 176 (s.length+[cj m].length)=true:=hlo (by omega) (by simp only[List.length_singleton];omega)
   simp only[hd,hx,hw,Qk,bA,Qa,ab.eta,ao.eta,aj.eta,he1,hz,Qp,hlo1]
  case h3=>
   rw[hlo (b:=240) (c:=ms.length) (by omega) (by omega)]
   simp only[Qk];refine Wg (PE ms.length (fun i out=>out.length=ms.length/\(∀t,t<i->out[t]?=ms'[t]?)/\∀t,i<=t->out[t]?=ms[t]?) (fun q=>q=ms') (fun i out hi ho=> ?_) (fun out ho=> ?_) ms ⟨rfl,fun t ht=>by omega,fun t _=>rfl⟩)
   ·
    obtain⟨ho1,ho2,ho3⟩:=ho;have hd6:decide ((i:Int)<((ms.length:Nat):Int))=true:=Qg (by omega)
    have hm:ms[i]?=some ms[i]:=Qv hi;obtain⟨x,hx1,hx2⟩:=hat i ms[i] hm;have hw6:aI .i64 (i:Int) 1=((i+1:Nat):Int):=b0 (by omega) (by omega)
    simp only[hd6,Qk]
    suffices hin:∃o:List ab,_=some (Sum.inl (((i+1:Nat):Int),o,()))/\(o.length=ms.length/\(∀t,t≠i->o[t]?=out[t]?)/\o[i]?=some x)by
     obtain⟨o,hq,g1,g2,g3⟩:=hin;refine⟨o,hq,g1,fun t ht=> ?_,fun t ht=> ?_⟩
     ·by_cases hti:t=i
      ·rw[hti,g3,hx1]
      ·rw[g2 t hti];exact ho2 t (by omega)
     ·rw[g2 t (by omega)];exact ho3 t (by omega)
    refine Wf (f:=fun o:List ab=>Sum.inl (((i+1:Nat):Int),o,())) (PE (ms.map cj).length
     (fun j o=>o.length=ms.length/\(∀t,t≠i->o[t]?=out[t]?)/\∃y,o[i]?=some y/\nm n k y/\rq n k y ((ms.map cj).drop j)=some x) _ (fun j o hj ho=> ?_) (fun o ho=> ?_) out ⟨ho1,fun t _=>rfl,ms[i],by rw[ho3 i (QI i)];exact hm,h _ (Q0 hi),hx2⟩)
    ·obtain⟨g1,g2,y,g3,g4,g5⟩:=ho;have hd7:decide ((j:Int)<(((ms.map cj).length:Nat):Int))=true:=Qg (by omega)
     have hw7:aI .i64 (j:Int) 1=((j+1:Nat):Int):=b0 (by omega) (by rw[QC]at hj;omega)
     have he:(ms.map cj)[j]?=some (ms.map cj)[j]:=Qv hj;have hdrop:(ms.map cj).drop j=(ms.map cj)[j]::(ms.map cj).drop (j+1):=(QM hj);rw[hdrop,rq]at g5;obtain⟨z,h1,h2⟩:=Qc.1 g5;obtain⟨a1,a2,a3⟩:=hes _ (Q0 hj);obtain⟨w,c,b1,b2,b3⟩:=O1 g4 a1 a2 a3 h1;have hxj:idx (ms.map cj) (j:Int)=some (ms.map cj)[j]:=by rw[bK];exact he
     have hxi:idx o (i:Int)=some y:=by rw[bK];exact g3
     simp only[hd7,Qk,bA,ab.eta,ao.eta,aj.eta,hxj,QV,he,Qa,hxi,g3,b1,hw7];rcases b2 with⟨rfl,rfl⟩|⟨hc,rfl⟩
     ·refine⟨o.set i w,by rw[Qg rfl];rfl,by rw[QY];exact g1,fun t ht=>by rw[List.getElem?_set_ne (Ne.symm ht)];exact g2 t ht,w,by rw[List.getElem?_set_self (by omega)],b3,h2⟩
     ·exact⟨o,by rw[Qh hc];rfl,g1,g2,z,g3,b3,h2⟩
    ·obtain⟨g1,g2,y,g3,g4,g5⟩:=ho;have hd7:decide ((((ms.map cj).length:Nat):Int)<(((ms.map cj).length:Nat):Int))=false:=Qh (by omega)
     rw[List.drop_length,rq]at g5;obtain rfl:=Option.some.inj g5;simp only[hd7,Ql,hw6];exact .some ⟨o,rfl,g1,g2,g3⟩
   ·obtain⟨ho1,ho2,ho3⟩:=ho;have hd6:decide (((ms.length:Nat):Int)<((ms.length:Nat):Int))=false:=Qh (by omega)
    simp only[hd6,Ql];refine .some (List.ext_getElem? fun t=> ?_)
    by_cases ht:t<ms.length
    ·exact ho2 t ht
    ·rw[List.getElem?_eq_none (by omega),List.getElem?_eq_none (by omega)]
 ·obtain⟨t,ht,rfl⟩:=List.getElem_of_mem hm;obtain⟨x,hx1,hx2⟩:=hat t (ms[t]'(by omega)) (Qv (by omega))
  rw[Qv ht]at hx1;obtain rfl:=Option.some.inj hx1;exact Bu (h _ (Q0 _)) hes hx2
end
end Go.Proofs.YtkgenianmdfmdaaGreat
namespace Go.Proofs.YtkgenianmdfmdaaGreat
open Go.TQ
def aV:ByteArray:=ByteArray.mk #[97]
def firstM(n:Nat)(k:Int)(i:Int)(v:ByteArray):ab:={dK (ew i 1 (flat n k)) v with aK:=1}
def Cz(n:Nat)(k:Int)(s:List ab):Option (List ab):=Bs n k (s.map cj) s
def Vj(n:Nat)(k:Int)(s:List ab):Option (List ab):=(Cz n k s).bind fun s=>(Cz n k s).bind fun s=>(Cz n k s).bind fun s=>(Cz n k s).bind fun s=>(Cz n k s).bind fun s=>Cz n k s
def Od(m:ab):Bool:=decide (m.aL=3)&&decide (m.aa.Value=aV)
def S7:List ab:=[firstM 4 3 0 aV,firstM 4 3 1 aV,firstM 4 3 2 aV,firstM 4 3 3 aV]
theorem PG:([0,1,2,3]:List Int).all (fun i=>(runT 4 3 5 (dK (ew i 1 (flat 4 3)) aV)).any (ly (firstM 4 3 i aV)))=true:=by decide+kernel
theorem Vi:((Vj 4 3 S7).map (List.all · Od))=some true:=by decide+kernel
section
variable {n : Nat} {k : Int} (hn : n <= 10) (hk1 : 1 <= k) (hkn : k <= n) {i : Int} (hi0 : 0 <= i) (hi9 : i < 10) {v : ByteArray} (hv : 1 <= v.size /\ v.size <= 200)
 include hn hk1 hkn hi0 hi9
theorem Pk:aW (ew i 1 (flat n k))/\gk (ew i 1 (flat n k))/\lP n k (ew i 1 (flat n k)):=by
 obtain⟨h1,h2⟩:=Mz hi0 hi9 (show(1:Int)<=1 by omega) (show(1:Int)<=1000000 by omega) (rI n hn k hk1 hkn)
 exact⟨h1,h2,hn,hk1,hkn,rfl,fun e he=>absurd he QR⟩
 include hv
theorem R8{z:ab}(hz:runT n k 5 (dK (ew i 1 (flat n k)) v)=some z):fJ (ew i 1 (flat n k)) v=some ({z with aK:=1},(0:Int),())/\nm n k {z with aK:=1}:=by
 obtain⟨h1,h2,h3⟩:=Pk hn hk1 hkn hi0 hi9;have hp:=zt h1 hv;have hz0:aD (ew i 1 (flat n k)).aa=true:=bo
 have henv:(dK (ew i 1 (flat n k)) v).af=flat n k/\(dK (ew i 1 (flat n k)) v).aA=[]/\(dK (ew i 1 (flat n k)) v).bx=1:=by
  unfold dK;split<;>exact⟨rfl,rfl,rfl⟩
 have hf:lP n k (dK (ew i 1 (flat n k)) v):=⟨hn,hk1,hkn,henv.1,fun e he=>by rw[henv.2.1]at he;cases he⟩
 obtain⟨q,hq,m2,rfl,ha⟩:=Kd (R:=Reach (dK (ew i 1 (flat n k)) v)) (Mm hp) Ml h1 h2 hv (Mn hp);have hnz:=RO h1 hv;have e1:=Tw hp hf hz ha
 have hsq:(dB (dK (ew i 1 (flat n k)) v)).aK=1:=by
  unfold dB;rw[Qr hnz,o6.2];rfl
 have hs2:m2.aK=1:=by
  have:=ha.num;rw[hsq]at this;omega
 have hb:hY (ew i 1 (flat n k)) m2=m2:=by
  unfold hY;rw[Qs (fun e=>by rw[hz0]at e;cases e.1)]
 rw[hb]at hq;rw[hs2]at e1;obtain⟨f1,f2,f3,f4,f5,f6⟩:=vR (dK (ew i 1 (flat n k)) v);refine⟨by rw[hq,e1],?_⟩
 rw[<-e1];exact⟨ha.inv,ha.seq,⟨hn,hk1,hkn,ha.env.2.2.1.trans (f3.trans hf.aY),fun e he=>by rw[ha.env.2.2.2.2,f5,henv.2.1]at he;cases he⟩,ha.nz (by rw[f6];exact hnz),ha.env.2.1.trans (f2.trans henv.2.2)⟩
end
theorem GJ:1<=aV.size/\aV.size<=200:=by decide
theorem BS(i:Int)(hi:i=0\/i=1\/i=2\/i=3):fJ (ew i 1 (flat 4 3)) aV=some (firstM 4 3 i aV,(0:Int),())/\nm 4 3 (firstM 4 3 i aV):=by
 have h:=QH.1 PG i (by simp;exact hi)
 cases hr:runT 4 3 5 (dK (ew i 1 (flat 4 3)) aV)with
 |none=>rw[hr]at h;cases h
 |some z=>
  rw[hr]at h;have h:ly (firstM 4 3 i aV) z=true:=h;have hg:=R8 (n:=4) (k:=3) (by omega) (by omega) (by omega) (by omega) (by omega) GJ hr
  obtain⟨h1,h2,h3⟩:=Pk (n:=4) (k:=3) (i:=i) (by omega) (by omega) (by omega) (by omega) (by omega)
  have hp:=zt h1 GJ
  have hf:lP 4 3 (dK (ew i 1 (flat 4 3)) aV):=⟨by omega,by omega,by omega,by unfold dK;split<;>rfl,fun e he=>by
   have:(dK (ew i 1 (flat 4 3)) aV).aA=[]:=by unfold dK;split<;>rfl
   rw[this]at he;cases he⟩
  obtain⟨j,hj,_⟩:=JR hp hf hr
  have henv:∀(j:Nat) (m:ab),fF m (rH j m):=by
   intro j
   induction j with
   |zero=>exact fun m=>fF.refl m
   |succ j ih=>
    intro m;have a:=tU m;have b:=ih (cI m);exact⟨b.ay.trans a.ay,b.bL.trans a.bL,b.seq.trans a.seq,b.aY.trans a.aY,b.kf.trans a.kf,b.heard.trans a.heard⟩
  have he:=henv j (dK (ew i 1 (flat 4 3)) aV);rw[hj]at he
  have hz:({z with aK:=1}:ab)=firstM 4 3 i aV:=qL (m:=firstM 4 3 i aV) (m':={z with aK:=1}) ⟨he.ay,he.bL,rfl,he.aY,he.kf,he.heard⟩
   (by simp only[ly,Qm,Qi]at h;exact h.1.1.1.1.1.1.symm)
   (by simp only[ly,Qm,Qi,oa]at h;exact h.1.1.1.1.1.2.symm)
   (by simp only[ly,Qm,Qi,oa]at h;exact h.1.1.1.1.2.symm)
   (by simp only[ly,Qm,Qi,oa]at h;exact h.1.1.1.2.symm)
   (by simp only[ly,Qm,Qi,oa]at h;exact h.1.1.2.symm)
   (by simp only[ly,Qm,Qi]at h;exact h.1.2.symm)
   (by simp only[ly,Qm,Qi]at h;exact h.2.symm)
  rw[hz]at hg;exact hg
theorem PN{n:Nat}{k:Int}{m:ab}(h:nm n k m)(hd:Od m=true):j5 m=some (aV,true,()):=by
 simp only[Od,Qm,Qi]at hd;rw[RU h.inv h.seq,Qg hd.1,hd.2];rfl
theorem Vk:sO=some true:=by
 have hF:mg 4 3=some (flat 4 3):=M8 4 (by omega) 3
 have hlo:∀{c:Nat},c<=1000000->bZ 240 c=true:=fun hc=>ez ⟨QK (Nat.mul_le_mul hc (QI 240)) (by decide),hc⟩
 have hN:∀i:Int,(i=0\/i=1\/i=2\/i=3)->lx i 1 (flat 4 3)=some (ew i 1 (flat 4 3),(0:Int),()):=fun i hi=>Vp (by omega) (by omega) (by omega) (by omega) (rI 4 (by omega) 3 (by omega) (by omega))
 have ha:(ByteArray.mk #[97]:ByteArray)=aV:=rfl;have hsim:=Vi;obtain⟨s6,hs6,hdone⟩:=Qb.1 hsim;unfold Vj at hs6;obtain⟨s1,e1,hs6⟩:=Qc.1 hs6;obtain⟨s2,e2,hs6⟩:=Qc.1 hs6;obtain⟨s3,e3,hs6⟩:=Qc.1 hs6;obtain⟨s4,e4,hs6⟩:=Qc.1 hs6;obtain⟨s5,e5,e6⟩:=Qc.1 hs6
 have h0:∀m∈S7,nm 4 3 m:=by
  intro m hm;simp only[S7,QA,QR,or_false]at hm;rcases hm with rfl|rfl|rfl|rfl
  ·exact(BS 0 (by omega)).2
  ·exact(BS 1 (by omega)).2
  ·exact(BS 2 (by omega)).2
  ·exact(BS 3 (by omega)).2
 obtain⟨g1,h1,l1⟩:=vl (by decide) h0 e1
 have l1:s1.length=4:=l1;obtain⟨g2,h2,l2⟩:=vl (by omega) h1 e2
 obtain⟨g3,h3,l3⟩:=vl (by omega) h2 e3
 obtain⟨g4,h4,l4⟩:=vl (by omega) h3 e4
 obtain⟨g5,h5,l5⟩:=vl (by omega) h4 e5
 obtain⟨g6,h6,l6⟩:=vl (by omega) h5 e6
 have l6':s6.length=4:=by omega
 unfold sO
 have hbeg:∀(i:Int) (l:List ab),(i=0\/i=1\/i=2\/i=3)->l.length<=1000->fJ (ew i 1 (flat 4 3)) aV=some (firstM 4 3 i aV,(0:Int),())/\decide (i<4)=true/\aI .i64 i 1=i+1/\bZ 240 (l.length+[firstM 4 3 i aV].length)=true:=fun i l hi hl=>
  ⟨(BS i hi).1,Qg (by omega),b0 (by omega) (by omega),hlo (by simp only[List.length_singleton];omega)⟩
 obtain⟨a1,a2,a3,a4⟩:=hbeg 0 [] (by omega) (by decide)
 obtain⟨b1,b2,b3,b4⟩:=hbeg 1 ([]++[firstM 4 3 0 aV]) (by omega) (by decide)
 obtain⟨c1,c2,c3,c4⟩:=hbeg 2 ([]++[firstM 4 3 0 aV]++[firstM 4 3 1 aV]) (by omega) (by decide)
 obtain⟨d1,d2,d3,d4⟩:=hbeg 3 ([]++[firstM 4 3 0 aV]++[firstM 4 3 1 aV]++[firstM 4 3 2 aV]) (by omega) (by decide)
 rw[bq (s':=(1,[]++[firstM 4 3 0 aV],())) (by simp only[hF,hN 0 (by omega),a1,a2,a3,a4,ha,ao.eta,ab.eta,Qa,Qk,Ql,decide_true,Qo];rfl)]
 rw[bq (s':=(2,[]++[firstM 4 3 0 aV]++[firstM 4 3 1 aV],())) (by simp only[hF,hN 1 (by omega),b1,b2,b3,b4,ha,ao.eta,ab.eta,Qa,Qk,Ql,decide_true,Qo];rfl)]
 rw[bq (s':=(3,[]++[firstM 4 3 0 aV]++[firstM 4 3 1 aV]++[firstM 4 3 2 aV],())) (by simp only[hF,hN 2 (by omega),c1,c2,c3,c4,ha,ao.eta,ab.eta,Qa,Qk,Ql,decide_true,Qo];rfl)]
 rw[bq (s':=(4,S7,())) (by simp only[hF,hN 3 (by omega),d1,d2,d3,d4,ha,ao.eta,ab.eta,Qa,Qk,Ql,decide_true,Qo];rfl)]
 refine(bU (r:=true) ?_);have hk:∀j:Int,0<=j->j<6->decide (j<6)=true/\aI .i64 j 1=j+1:=fun j h0 h6=>⟨Qg h6,b0 (by omega) (by omega)⟩
 simp only[show decide ((4:Int)<4)=false from rfl,Ql]
 rw[bq (s':=(s1,1,())) (by simp only[(hk 0 (by omega) (by omega)).1,(hk 0 (by omega) (by omega)).2,Qk,g1,Qa];rfl)]
 rw[bq (s':=(s2,2,())) (by simp only[(hk 1 (by omega) (by omega)).1,(hk 1 (by omega) (by omega)).2,Qk,g2,Qa];rfl)]
 rw[bq (s':=(s3,3,())) (by simp only[(hk 2 (by omega) (by omega)).1,(hk 2 (by omega) (by omega)).2,Qk,g3,Qa];rfl)]
 rw[bq (s':=(s4,4,())) (by simp only[(hk 3 (by omega) (by omega)).1,(hk 3 (by omega) (by omega)).2,Qk,g4,Qa];rfl)]
 rw[bq (s':=(s5,5,())) (by simp only[(hk 4 (by omega) (by omega)).1,(hk 4 (by omega) (by omega)).2,Qk,g5,Qa];rfl)]
 rw[bq (s':=(s6,6,())) (by simp only[(hk 5 (by omega) (by omega)).1,(hk 5 (by omega) (by omega)).2,Qk,g6,Qa];rfl)]
 rw[bU (r:=true) ?_]
 ·rfl
 simp only[show decide ((6:Int)<6)=false from rfl,Ql]
 rw[H2 s6.length (fin:=some true) (by omega) (fun i hi hd hw=> ?_) (fun hd=> ?_)]
 ·rfl
 ·have hx:idx s6 (i:Int)=some s6[i]:=by rw[bK];exact Qv hi
  have hm:s6[i]∈s6:=Q0 hi;have hdec:=PN (h6 _ hm) (QH.1 hdone _ hm);simp only[hd,hx,hw,hdec,ha,Qk,Qa,ab.eta,ao.eta,Qo,Ql,decide_true]
 ·simp only[hd,Ql]
end Go.Proofs.YtkgenianmdfmdaaGreat
namespace Go.Proofs.YtkgenianmdfmdaaGreat
open Go.TQ
def Lx(m m1:ab):Prop:=
 (∃v,(1<=v.size/\v.size<=200)/\m1=dK m v)\/(∃e,Ci m e/\m1=pb m e)\/(m.aL≠3/\dE m≠iy/\m.aa.ai<1000/\m1=uV m)\/(∃t,iY t/\m1=Tq m t)
structure TA (m m1:ab):Prop where
 inv:aW m1
 ay:m1.ar=m.ar
 bL:m1.bx=m.bx
 seq:m1.aK=m.aK
 nz:aD m.aa=false->aD m1.aa=false
theorem ET{m m1:ab}(h:aW m)(hb:Lx m m1):TA m m1:=by
 rcases hb with⟨v,hv,rfl⟩|⟨e,he,rfl⟩|⟨h3,hv,hc,rfl⟩|⟨t,ht,rfl⟩
 ·exact⟨zt h hv,by unfold dK;split<;>rfl,by unfold dK;split<;>rfl,o6.2,o6.1⟩
 ·exact⟨Ew h he,rfl,rfl,rfl,fun e=>e⟩
 ·exact⟨Ru h h3 hv hc,rfl,rfl,rfl,fun _=>TL h⟩
 ·exact⟨Sg h ht,rfl,rfl,rfl,fun e=>e⟩
structure Ri (m:ab):Prop where
 inv:aW m
 seq:gk m
 fix:Ak m
 ay:m.ar=0
 bL:m.bx=1
theorem ER(m m2:ab):(hY m m2).ar=m2.ar/\(hY m m2).bx=m2.bx/\(hY m m2).aA=m2.aA/\(hY m m2).aa=m2.aa:=by
 obtain⟨s,e,_⟩:=EP m m2;rw[e];exact⟨rfl,rfl,rfl,rfl⟩
theorem Ra{m m1 m2:ab}{R:ab->Prop}(h:Ri m)(hf:TA m m1)(ha:Cm R (dB m1) m2):Ri (hY m m2):=by
 obtain⟨e1,e2,e3,e4⟩:=ER m m2;obtain⟨f1,f2,f3,f4,f5,f6⟩:=vR m1;exact⟨La ha.inv,MV ha.inv ha.seq (fun hz=>ha.nz (by rw[f6];exact hf.nz hz)),Sw ha.inv ha.fix,by rw[e1,ha.env.1,f1,hf.ay];exact h.ay,by rw[e2,ha.env.2.1,f2,hf.bL];exact h.bL⟩
theorem X2{t:ao}(ht:iY t):Ri (ew 0 1 t):=by
 obtain⟨h1,h2⟩:=Mz (ay:=0) (bL:=1) (by omega) (by omega) (by omega) (by omega) ht
 exact⟨h1,h2,Uf h1,rfl,rfl⟩
end Go.Proofs.YtkgenianmdfmdaaGreat
namespace Go.Proofs.YtkgenianmdfmdaaGreat
open Go.TQ
structure YC (m x:ab):Prop where
 up:m.aK<=x.aK
 one:x.aK<=m.aK+1
 same:aD m.aa=false->x.aK=m.aK->cj x=cj m
 nz:aD m.aa=false->aD x.aa=false
end Go.Proofs.YtkgenianmdfmdaaGreat
namespace Go.Proofs.YtkgenianmdfmdaaGreat
open Go.TQ
def bV:ByteArray:=ByteArray.mk #[98]
def eB(n:Nat)(k:Int)(i:Int)(c:Int):aj:=⟨i,1,1,flat n k,1,⟨c,bV⟩,bn,bn,0,0⟩
theorem Sc{n:Nat}(hn:n<=10){k:Int}(h1:1<=k)(h2:k<=n){i c:Int}(hi:0<=i/\i<10)(hc:1<=c/\c<=1000):aZ (eB n k i c)=true:=by
 rw[aZ,show(eB n k i c).af=flat n k from rfl,show y2 (flat n k)=0 from AR (rI n hn k h1 h2)]
 have h5:cd (⟨c,bV⟩:ae)=true:=by
  unfold cd;simp only[Qm,Qn,Qi];exact⟨⟨.inl hc,by decide⟩,by decide⟩
 have hz:aD bn=true:=bo;have hc0:(0:Int)<=c:=by omega
 simp[jU,wg,fp,vm,eB,finite,h5,hz,hi.1,hi.2,hc.2,hc0]
structure gW (n:Nat) (k:Int) (top:Int) (m:ab):Prop where
 ay:m.ar=0
 bL:m.bx=1
 aY:m.af=flat n k
 heard:∀e∈m.aA,∃i c,e=eB n k i c/\1<=i/\i<10/\1<=c/\c<=top
 kf:m.bm=aV
 aB:m.aL=1
 bW:m.al=bn
 bs:m.aw=bn
 cO:m.au=bn
 low:m.aM=0
 bM:m.bb=0
 val:m.aa.Value=aV
 Gv:1<=m.aa.ai/\m.aa.ai<=top
section
variable {n : Nat} {k top : Int} (hn : n <= 10) (hk1 : 2 <= k) (hkn : k <= n) {m : ab} (h : aW m) (hC : gW n k top m)
 include hC
theorem gW.own:ft m=⟨0,1,bd m.aK 1,flat n k,1,m.aa,bn,bn,0,eo m⟩:=by
 unfold ft cj;rw[Qr hC.aB,hC.ay,hC.bL,hC.aY,hC.aB,hC.bW,hC.bs,hC.low]
theorem gW.mem{e:aj}(he:e∈aJ m):e=ft m\/∃i c,e=eB n k i c/\1<=i/\i<10/\1<=c/\c<=top:=by
 rcases qY he with h1|⟨_,h1⟩
 ·exact .inr (hC.heard e h1)
 ·exact .inl h1
 include hn hk1 hkn
theorem gW.flat:lP n k m:=⟨hn,by omega,hkn,hC.aY,fun e he=>by
 obtain⟨i,c,rfl,_⟩:=hC.heard e he
 rfl⟩
theorem B3(b:ae):c9 bn bn b=false:=by
 unfold c9 fX;rw[bo];rfl
theorem yX{p:aj->Bool}{l:List aj}(hp:∀e∈l,p e=false):de p l=0:=by
 induction l with
 |nil=>rfl
 |cons e l ih=>rw[de,hp e Qx,ih fun x hx=>hp x (Qy _ hx)];simp
 omit hC hk1 in
theorem HI(i:Nat):bT n k i 0=false:=by
  unfold bT
  have:(kI n).countP (gw (rC 0 i))=n:=Oj hn fun j hj=>by
   rw[sn (by omega)]
   have:j<10:=by omega
   simp[this]
  rw[this,Qg (by omega)]
  rfl
theorem gW.acc(b:ae){e:aj}(he:e∈aJ m):cQ e b=false:=by
 rcases hC.mem he with rfl|⟨i,c,rfl,_⟩
 ·rw[hC.own];unfold cQ;simp[B3 hn hk1 hkn hC]
 ·unfold cQ eB;simp[B3 hn hk1 hkn hC]
theorem gW.Va(b:ae){e:aj}(he:e∈aJ m)(hb:mz e b=true):(e=ft m/\b.Value=aV)\/(e≠ft m/\b.Value=bV):=by
 rcases hC.mem he with rfl|⟨i,c,rfl,h1,h2⟩
 ·left;refine⟨rfl,?_⟩;rw[hC.own]at hb;simp only[mz,fX,bB,Qm,Qi,Qt]at hb;rw[<-hb.2.1.2,hC.val]
 ·right;refine⟨fun e=> ?_,?_⟩
  ·rw[hC.own]at e;have:i=0:=congrArg aj.ar e;omega
  ·simp only[mz,eB,fX,bB,Qm,Qi,Qt]at hb;exact(of_decide_eq_true hb.2.1.2).symm
 include h
theorem gW.Wy(b:ae):gN m.ar.toNat m.af (aJ m) b=false:=by
 have hf:=hC.flat hn hk1 hkn;rw[Tx h hf];have h0:de (cQ · b) (aJ m)=0:=yX hn hk1 hkn hC fun e he=>hC.acc hn hk1 hkn b he
 unfold HK;rw[h0,HI hn hkn,Bool.false_or,Nat.or_zero];unfold gT
 cases hb:(de (fun e=>mz e b||cQ e b) (aJ m)).testBit m.ar.toNat with
 |false=>rfl
 |true=>
  rw[Bool.true_and];refine Qh ?_;rw[mX,List.any_eq_true]at hb;obtain⟨e,he,hb⟩:=hb;rw[Qm,Qn,Qi]at hb;obtain⟨_,heo⟩:=h.Ms he hb.2
  have hbv:b.Value=aV:=by
   rcases hb.1 with h1|h1
   ·rcases hC.Va hn hk1 hkn b he h1 with⟨_,h2⟩|⟨h2,_⟩
    ·exact h2
    ·exact absurd heo h2
   ·rw[hC.acc hn hk1 hkn b he]at h1;cases h1
  have hle:(kI n).countP (gw (de (fun e=>mz e b||cQ e b) (aJ m)))<=(kI n).countP (fun x=>decide (x=0)):=by
   refine List.countP_mono_left fun x hx hh=> ?_
   obtain⟨j,hj,rfl⟩:=Hj.1 hx;simp only[gw,Qm,QV]at hh;have hbit:=hh.2;rw[mX,List.any_eq_true]at hbit;obtain⟨e',he',hb'⟩:=hbit;rw[Qm,Qn,Qi]at hb'
   have:e'=ft m:=by
    rcases hb'.1 with h1|h1
    ·rcases hC.Va hn hk1 hkn b he' h1 with⟨h2,_⟩|⟨_,h2⟩
     ·exact h2
     ·rw[hbv]at h2;exact absurd h2 (by decide)
    ·rw[hC.acc hn hk1 hkn b he']at h1;cases h1
   have hnode:e'.ar=0:=by rw[this,hC.own]
   refine Qg ?_;rw[hnode]at hb';have:=hb'.2;simp at this;omega
  have h1:(kI n).countP (fun x=>decide (x=0))<=1:=by
   suffices key:∀n:Nat,(kI n).countP (fun x=>decide (x=0))<=1/\(n=0->(kI n).countP (fun x=>decide (x=0))=0)from(key n).1
   intro n
   have:(kI n).countP (fun x=>decide (x=0))=if n=0 then 0 else 1:=by
    induction n with
    |zero=>rfl
    |succ n ih=>
     rw[DP,List.countP_append,ih]
     by_cases hz:n=0
     ·subst hz;rfl
     ·have:¬((n:Int)=0):=by omega
      simp[hz,this]
   rw[this];constructor
   ·split<;>omega
   ·intro e;rw[Qr e]
  omega
theorem gW.Vw(b:ae):fq m.ar.toNat m.af (aJ m) b=false:=by
 cases hc:fq m.ar.toNat m.af (aJ m) b with
 |false=>rfl
 |true=>
  obtain⟨_,h2⟩:=B4 h hc;rw[hC.own]at h2;unfold cQ at h2;simp[B3 hn hk1 hkn hC]at h2
theorem gW.Ud(v:ByteArray)(lo hi:Int):eH m v lo hi=false:=by
 have hf:=hC.flat hn hk1 hkn;rw[Hc h hf]
 have ha:∀e∈aJ m,fj e v lo hi=false:=fun e he=>by
  rcases hC.mem he with rfl|⟨i,c,rfl,_⟩
  ·rw[hC.own];simp[fj]
  ·simp[fj,eB]
 have hv:∀e∈aJ m,(qa e v lo hi||fj e v lo hi)=false:=fun e he=>by
  rw[ha e he,Bool.or_false];rcases hC.mem he with rfl|⟨i,c,rfl,_⟩
  ·rw[hC.own];simp[qa]
  ·simp[qa,eB]
 unfold nA;rw[yX hn hk1 hkn hC ha,yX hn hk1 hkn hC hv,HI hn hkn];unfold gT;simp
theorem gW.pP:cy m=m:=by
 refine FH h ?_;unfold dO gY
 have:(dY (aJ m)).find? (su (gN m.ar.toNat m.af (aJ m)) m.al m.aw (AQ m))=none:=by
  rw[List.find?_eq_none];intro x _ hx;unfold su at hx;rw[hC.Wy hn hk1 hkn h,Bool.and_false]at hx;cases hx
 rw[this];exact bo
theorem gW.pS:gg m=m:=by
 refine lU (.inr (.inr ?_));unfold ig tM
 have:(dY (aJ m)).find? (sD (fq m.ar.toNat m.af (aJ m)) m.au)=none:=by
  rw[List.find?_eq_none];intro x _ hx;unfold sD at hx;rw[hC.Vw hn hk1 hkn h,Bool.and_false]at hx;cases hx
 rw[this];exact bo
theorem gW.pC:ff m=m:=by
 unfold ff;rw[Qr hC.aB];rw[Qs];intro hk;have:=(yG h hk).top;rw[hC.Ud hn hk1 hkn h]at this;cases this
theorem gW.pF:iV m=m:=Qs fun e=>by have:=e.1;rw[hC.aB]at this;exact absurd this (by decide)
theorem P4{c:aj->Bool}{f:Int->aj->Int}(hf:∀b e,f b e<=b/\(c e=true->f b e<=cm e)):∀(l:List aj) (b:Int),l.foldl f b<=b/\∀e∈l,c e=true->l.foldl f b<=cm e
 |[],b=>⟨Int.le_refl _,fun e he=>absurd he QR⟩
 |x::l,b=>by
  obtain⟨h1,h2⟩:=P4 hf l (f b x);obtain⟨h3,h4⟩:=hf b x;rw[QU];refine⟨Int.le_trans h1 h3,fun e he hc=> ?_⟩
  rcases QA.1 he with rfl|he
  ·exact Int.le_trans h1 (h4 hc)
  ·exact h2 e he hc
theorem max_mem:∀(l:List aj),l≠[]->∃e∈l,∀x∈l,cm x<=cm e
 |[],h=>absurd rfl h
 |[e],_=>⟨e,List.mem_singleton.2 rfl,fun x hx=>by rw[List.mem_singleton.1 hx];exact Int.le_refl _⟩
 |e::y::l,_=>by
  obtain⟨z,hz,hm⟩:=max_mem (y::l) (by simp)
  by_cases hle:cm z<=cm e
  ·exact⟨e,Qx,fun x hx=>by
    rcases QA.1 hx with rfl|hx
    ·exact Int.le_refl _
    ·exact Int.le_trans (hm x hx) hle⟩
  ·exact⟨z,Qy _ hz,fun x hx=>by
    rcases QA.1 hx with rfl|hx
    ·omega
    ·exact hm x hx⟩
theorem gW.cat(htop:top<=9)(ha:ep m m.aa.ai=true):m.aa.ai<dn m/\dn m<=top:=by
 have hf:=hC.flat hn hk1 hkn;obtain⟨e0,he0,hlt0⟩:=Ae h ha;obtain⟨e,he,hmax⟩:=max_mem hn hk1 hkn h hC m.aA (fun e=>by rw[e]at he0;cases he0)
 have hnone:ep m (cm e)=false:=by
  rw[HJ h hf];unfold Cf oP;rw[yX hn hk1 hkn hC (fun x hx=>Qh (by have:=hmax x hx;omega)),HI hn hkn]
 have hlt:m.aa.ai<cm e:=Int.lt_of_lt_of_le hlt0 (hmax e0 he0);obtain⟨i,c,hec,_,_,hc1,hc2⟩:=hC.heard e he;have hce:cm e=c:=by rw[hec];rfl
 have hle:dn m<=cm e:=by
  unfold dn;refine(P4 hn hk1 hkn h hC (c:=fun e=>decide (m.aa.ai<cm e)&& !ep m (cm e)) (fun b x=> ?_) m.aA 1000000).2 e he (by rw[hnone,Qg hlt];rfl)
  unfold jf;constructor
  ·split<;>omega
  ·intro hc;rw[Qm,Qi,Bool.not_eq_true']at hc
   by_cases hb:cm x<b
   ·rw[Qr ⟨hc.1,hb,hc.2⟩];exact Int.le_refl _
   ·split<;>omega
 have hcnt:=hC.Gv;rcases IP m with h1|⟨h1,_⟩
 ·omega
 ·exact⟨h1,by omega⟩
end
section
variable {n : Nat} {k top : Int} (hn : n <= 10) (hk1 : 2 <= k) (hkn : k <= n) (htop : top <= 9)
 include hn hk1 hkn htop
theorem Tv(m:ab)(h:aW m)(hC:gW n k top m):gW n k top (cI m):=by
 have hP:=hC.pP hn hk1 hkn h;have hS:=hC.pS hn hk1 hkn h;have hc:=hC.pC hn hk1 hkn h;have hF:=hC.pF hn hk1 hkn h;have e:cI m=dV m:=by unfold cI;rw[Qr hP,Qr hS,Qr hc,Qr hF]
 rw[e]
 cases ha:ep m m.aa.ai with
 |false=>
  have:dV m=m:=Qr (.inr ha);rw[this];exact hC
 |true=>
  obtain⟨h1,h2⟩:=hC.cat hn hk1 hkn h htop ha
  have hv:iT m=aV:=by
   unfold iT dE;rw[Qr hC.aB,Qs (by rw[hC.cO,bo];decide),Qs (by rw[hC.aB];decide),Qr (by rw[hC.kf];decide),hC.kf]
  have hcnt:=hC.Gv;have hk:dV m={m with aM:=if iT m=m.aa.Value then m.aM else 0,aa:=⟨bd m.aa.ai (df (dn m) 1000),iT m⟩}:=Qs (fun h=>h.elim (fun e=>by rw[hC.aB]at e;exact absurd e (by decide)) (fun e=>by rw[ha]at e;cases e))
  have hmn:df (dn m) 1000=dn m:=by unfold df;split<;>omega
  have hmx:bd m.aa.ai (df (dn m) 1000)=dn m:=by rw[hmn];unfold bd;split<;>omega
  rw[hk,hmx,hv,Qr hC.val.symm];exact⟨hC.ay,hC.bL,hC.aY,hC.heard,hC.kf,hC.aB,hC.bW,hC.bs,hC.cO,hC.low,hC.bM,rfl,by show 1<=dn m;omega,h2⟩
 omit hn hk1 hkn htop in
theorem Tu(m:ab)(hC:gW n k top m):gW n k top (dB m):=by
  unfold dB;split
  ·exact⟨hC.ay,hC.bL,hC.aY,hC.heard,hC.kf,hC.aB,hC.bW,hC.bs,hC.cO,hC.low,hC.bM,hC.val,hC.Gv⟩
  ·exact hC
 omit hn hk1 hkn htop in
theorem K8(m m2:ab)(hC:gW n k top m2):gW n k top (hY m m2):=by
  obtain⟨s,e,_⟩:=EP m m2;rw[e];exact⟨hC.ay,hC.bL,hC.aY,hC.heard,hC.kf,hC.aB,hC.bW,hC.bs,hC.cO,hC.low,hC.bM,hC.val,hC.Gv⟩
 omit hn hk1 hkn htop in
theorem gW.mono{m:ab}{top':Int}(hC:gW n k top m)(hle:top<=top'):gW n k top' m:=
  ⟨hC.ay,hC.bL,hC.aY,fun e he=>by obtain⟨i,c,h1,h2,h3,h4,h5⟩:=hC.heard e he;exact⟨i,c,h1,h2,h3,h4,by omega⟩,hC.kf,hC.aB,hC.bW,hC.bs,hC.cO,hC.low,hC.bM,hC.val,hC.Gv.1,by have:=hC.Gv.2;omega⟩
theorem UX{m:ab}(hm:Ri m)(hC:gW n k top m):ep m m.aa.ai=false:=by
 cases ha:ep m m.aa.ai with
 |false=>rfl
 |true=>
  exfalso;obtain⟨h1,h2⟩:=hC.cat hn hk1 hkn hm.inv htop ha;have hf:=hm.fix.k;have hk:dV m={m with aM:=if iT m=m.aa.Value then m.aM else 0,aa:=⟨bd m.aa.ai (df (dn m) 1000),iT m⟩}:=Qs (fun h=>h.elim (fun e=>by rw[hC.aB]at e;exact absurd e (by decide)) (fun e=>by rw[ha]at e;cases e))
  rw[hk]at hf;have:=congrArg (fun x=>x.aa.ai) hf
  have:bd m.aa.ai (df (dn m) 1000)=m.aa.ai:=this;have hmn:df (dn m) 1000=dn m:=by unfold df;split<;>omega
  rw[hmn]at this;revert this;unfold bd;split<;>omega
end
theorem Hh(p:aj->Bool):∀(l:List aj),mL l->∀s:Nat,s<1024->l.foldl (fun(s:Int) e=>if p e then oi .i64 s (iB .i64 1 e.ar)else s) (s:Int)=((s|||de p l:Nat):Int)
 |[],_,s,_=>by simp[de]
 |e::l,hin,s,hs=>by
  rw[QU,de];have hl:mL l:=fun x hx=>hin x (Qy _ hx)
  obtain⟨h0,h9⟩:=hin e Qx
  cases p e with
  |false=>
   simp only[Qq,Qu,Nat.zero_or];exact Hh p l hl s hs
  |true=>
   simp only[Qt];have he:e.ar=((e.ar.toNat:Nat):Int):=by omega
   have hp:2 ^ e.ar.toNat<1024:=QJ (Nat.pow_lt_pow_right (by omega) (show e.ar.toNat<10 by omega)) (by decide)
   rw[he,qF _ (by omega),yq s (2 ^ e.ar.toNat) (by omega) (by omega),QV,Hh p l hl _ (Nat.or_lt_two_pow (n:=10) hs hp),Nat.or_assoc]
theorem Su{n:Nat}{k top:Int}{m:ab}(hC:gW n k top m){i c:Int}(hi:1<=i/\i<10)(hc:1<=c):gW n k (bd top c) (pb m (eB n k i c)):=by
 have h1:top<=bd top c/\c<=bd top c:=by unfold bd;split<;>omega
 have h2:=hC.mono h1.1;refine⟨h2.ay,h2.bL,h2.aY,fun e he=> ?_,h2.kf,h2.aB,h2.bW,h2.bs,h2.cO,h2.low,h2.bM,h2.val,h2.Gv⟩
 rcases Cu he with rfl|he
 ·exact⟨i,c,rfl,hi.1,hi.2,hc,h1.2⟩
 ·exact h2.heard e he
theorem catches(l:List Int):mh l=some true:=by
 refine Yd.eq_true ?_;unfold mh;simp only[ab.eta,ao.eta,aj.eta,Vk,Qa];refine Yd.bind (V7 l) fun s hO=> ?_
 refine Yd.bind (EW hO (by omega) (by omega) (by omega)) fun p2 ⟨hO2,hn2,hn5,_⟩=> ?_
 have hn5:=hn5 (by omega)
 obtain⟨n,hn⟩:∃n:Nat,p2.1=(n:Int):=⟨p2.1.toNat,by omega⟩
 refine Yd.bind (EW hO2 (by omega) (by omega) (by omega)) fun p3 ⟨hO3,hk2,hkn,_⟩=> ?_
 have hkn:=hkn (by omega)
 rw[hn]at hkn hn2 hn5 ⊢;have hF:mg (n:Int) p3.1=some (flat n p3.1):=M8 n (by omega) p3.1
 have hgood:iY (flat n p3.1):=rI n (by omega) p3.1 (by omega) (by omega)
 rw[hF];simp only[Qa];rw[Vp (by omega) (by omega) (by omega) (by omega) hgood]
 simp only[Qa];have hm0:=X2 hgood;have hb0:Lx (ew 0 1 (flat n p3.1)) (dK (ew 0 1 (flat n p3.1)) aV):= .inl ⟨aV,GJ,rfl⟩;have hi0:=(ET hm0.inv hb0).inv;have hP0:P0 (ew 0 1 (flat n p3.1)):=⟨rfl,rfl,rfl,rfl,rfl,rfl,rfl⟩
 have hpm:dK (ew 0 1 (flat n p3.1)) aV=⟨0,1,0,flat n p3.1,1,⟨1,aV⟩,bn,bn,bn,0,0,aV,[]⟩:=by
  unfold dK;rw[Qr (show aD (ew 0 1 (flat n p3.1)).aa=true from bo)]
  exact congrArg (fun w=>(⟨0,1,0,flat n p3.1,1,⟨1,w⟩,bn,bn,bn,0,0,aV,[]⟩:ab)) (DO hP0 GJ.1)
 have hC0:gW n p3.1 1 (dK (ew 0 1 (flat n p3.1)) aV):=by
  rw[hpm];exact⟨rfl,rfl,rfl,fun e he=>absurd he QR,rfl,rfl,rfl,rfl,rfl,rfl,rfl,rfl,Int.le_refl _,Int.le_refl _⟩
 refine Yd.bind (Kd (R:=gW n p3.1 1) (Tv (by omega) hk2 hkn (by omega)) Tu hm0.inv hm0.seq GJ hC0) fun q hq=> ?_
 obtain⟨m2,rfl,ha⟩:=hq;simp only[decide_true,Qo,Ql]
 refine Yd.down (fun(v:Int×Int×nj×ab×Unit)=>1<=v.1/\v.1<=9/\1<=v.2.1/\v.2.1<=(n:Int)/\M6 v.2.2.1/\Ri v.2.2.2.1/\gW n p3.1 v.1 v.2.2.2.1/\∀e∈v.2.2.2.1.aA,e.ar<v.2.1) (fun v=>((n:Int) - v.2.1).toNat) ?_
  ⟨by show(1:Int)<=1;omega,by show(1:Int)<=9;omega,by show(1:Int)<=1;omega,by show(1:Int)<=n;omega,hO3,Ra hm0 (ET hm0.inv hb0) ha,(show gW n p3.1 1 (hY (ew 0 1 (flat n p3.1)) m2)from K8 _ _ ha.rel),fun e he=> ?_⟩
 ·rintro⟨top,i,s',m,_⟩ ⟨ht1,ht9,hi1,hin,hOs,hm,hC,hlt⟩;simp only at ht1 ht9 hi1 hin hOs hm hC hlt;simp only
  by_cases hi:i<(n:Int)
  ·rw[Qg hi];simp only[Qk];refine Yd.bind (EW hOs (by omega) (by omega) (by omega)) fun p8 ⟨hO8,hc1,hc9,_⟩=> ?_
   have hc9:=hc9 (by omega)
   have hadd:aI .i64 i 1=i+1:=b0 (by omega) (by omega)
   have he:Ci m (eB n p3.1 i p8.1):=⟨Sc (by omega) (by omega) hkn (by omega) (by omega),hgood,by rw[hm.bL];rfl,by rw[hm.ay];show¬i=0;omega⟩
   have hb:Lx m (pb m (eB n p3.1 i p8.1)):= .inr (.inl ⟨_,he,rfl⟩);have hmx:bd top p8.1<=9/\1<=bd top p8.1:=by unfold bd;split<;>omega
   refine Yd.bind (Kc (R:=gW n p3.1 (bd top p8.1)) (Tv (by omega) hk2 hkn hmx.1) Tu hm.inv hm.seq he (Su hC (by omega) hc1)) fun q hq=> ?_
   rcases hq with⟨⟨m2,rfl,ha⟩,_⟩|⟨_,hbad⟩
   ·simp only[decide_true,Qo,Ql,hadd];refine .some ⟨⟨hmx.2,hmx.1,by show 1<=i+1;omega,by show i+1<=n;omega,hO8,Ra hm (ET hm.inv hb) ha,K8 _ _ ha.rel,fun e he'=> ?_⟩,by show((n:Int) - (i+1)).toNat<((n:Int) - i).toNat;omega⟩
    have he':e∈(hY m m2).aA:=he';rw[(ER m m2).2.2.1,ha.env.2.2.2.2,(vR _).2.2.2.2.1]at he';show e.ar<i+1;rcases Cu he' with rfl|he'
    ·show i<i+1;omega
    ·have:=hlt e he';omega
   ·exfalso;rcases Bv (l:=m.aA) he.valid with⟨x,hx,hxn,_⟩|⟨a,b,_,hp⟩
    ·have:=hlt x hx;have hxn:x.ar=i:=hxn;omega
    ·have hbad:(na m.aA (eB n p3.1 i p8.1)).2.1=false:=hbad;rw[hp]at hbad;cases hbad
  ·rw[Qh hi];simp only[Ql];have d1:decide (m.aa.ai<1)=false:=Qh (by have:=hC.Gv;omega)
   have d2:decide (top<m.aa.ai)=false:=Qh (by have:=hC.Gv;omega)
   simp only[d1,d2,Ql,Qa];refine Yd.inr ?_;have hlen:=hm.inv.len;have hah:=UX (by omega) hk2 hkn ht9 hm hC
   have hkind:∀e∈m.aA,cm e=e.aa.ai:=fun e he=>by
    obtain⟨j,c,rfl,_⟩:=hC.heard e he;rfl
   have hin':mL m.aA:=hm.inv.ev.Hu;rw[PF m.aA (by omega) (fun(s:Int) e=>if decide (m.aa.ai<cm e)then oi .i64 s (iB .i64 1 e.ar)else s) (fun _ _=>True) (fin:=fun s=>Option.bind (kT (0:Int) (flat n p3.1) m.aA) fun r15=>Option.bind (kE r15 (0:Int) s) fun r16=>Option.bind (bif (!r16)then some true else some false) fun b18=>some b18) (fun _ _ _ _ _=>trivial) (fun j e s _ _ he hd hx hw=> ?_) (fun s hd=> ?_) 0 trivial]
   ·have hfold:=Hh (fun e=>decide (m.aa.ai<cm e)) m.aA hin' 0 (by omega)
    rw[show((0:Nat):Int)=0 from rfl]at hfold
    rw[hfold,Nat.zero_or];have hsl:mK m.aA:=⟨by omega,fun e he=>(hm.inv.hv e he).2.1.sm⟩
    have hvw:=RI (ay:=0) (t:=flat n p3.1) (by omega) hsl
    rw[show((0:Nat):Int)=0 from rfl]at hvw
    rw[hvw];have hbl:=Nx (c:=⟨dU 0 (flat n p3.1) m.aA⟩) (n4 hgood.sm hsl) (v:=0) (s:=de (fun e=>decide (m.aa.ai<cm e)) m.aA) (oU hin')
    rw[show((0:Nat):Int)=0 from rfl]at hbl
    simp only[Qa];rw[hbl];have hf:=hC.flat (by omega) hk2 hkn
    have hb1:=Ou hm.inv hf (oP m m.aa.ai);have hb2:ep m m.aa.ai=bT n p3.1 m.ar.toNat (oP m m.aa.ai):=hb1;rw[hah,hm.ay]at hb2
    have hb3:lp (dU 0 (flat n p3.1) m.aA) 0 (oP m m.aa.ai)=false:=by
     obtain⟨g1,g2⟩:=HS (ay:=0) (t:=flat n p3.1) (l:=m.aA) (by omega) (fun _=>flat n p3.1) rfl (fun e he=>hf.heard e (List.mem_filter.1 he).1) (k:=0) (by omega) (.inl rfl)
     unfold lp;rw[g1,g2,y8,Bool.true_and];exact hb2.symm
    show Yd ((some (lp (dU 0 (flat n p3.1) m.aA) 0 (oP m m.aa.ai))).bind _) _;rw[hb3];exact .some rfl
   ·obtain⟨h0,h9⟩:=hin' e he
    have hcv:xg .u64 e.ar=e.ar:=by
     have:=W0 (n:=e.ar.toNat) (by omega)
     rwa [show((e.ar.toNat:Nat):Int)=e.ar by omega]at this
    simp only[hd,hx,hw,Qk,Qa,bA,hcv,hkind e he]
    cases decide (m.aa.ai<e.aa.ai)with
    |true=>simp only[Qk,Qt];rw[Qs (by omega)]
    |false=>simp only[Ql,Qq,Qu]
   ·simp only[hd,Ql]
 ·have ha:Cm (gW n p3.1 1) (dB (dK (ew 0 1 (flat n p3.1)) aV)) m2:=ha;have he:e∈(hY (ew 0 1 (flat n p3.1)) m2).aA:=he;rw[(ER _ m2).2.2.1,ha.env.2.2.2.2,(vR _).2.2.2.2.1,hpm]at he;cases he
end Go.Proofs.YtkgenianmdfmdaaGreat
end
noncomputable section
namespace Go.TQ
open Go.RowKit
theorem RE{w:World}{M:Nat->Prop}{G:Gh}{a:Option Addr}{len cap:Nat}{zs:List Int}(hM:∀b,¬M b)
  (h:(a=none/\len=0/\cap=0/\zs=[])\/∃x,a=some x/\len<=cap/\cap<=maxLen/\zs.length=cap/\(∀i,i<zs.length->w.cell? (x.add i)=some (.int .i64 (zs.getD i 0)))/\∀n∈zs,(Lit.int .i64 n).wf=true):
  aN w M G (.sl ((zs.take len).map fun n=>[.int .i64 n])) (.slice a len cap):=by
 rcases h with⟨rfl,rfl,rfl,rfl⟩|⟨x,rfl,h1,h2,h3,h4,_⟩
 ·exact .slnil
 ·have hfl:∀l:List Int,(l.map fun n=>[PV.int .i64 n]).flatten=l.map fun n=> .int .i64 n:=by
   intro l
   induction l with
   |nil=>rfl
   |cons n l ih=>simp only[QD,List.flatten_cons,ih];rfl
  have hlen:((zs.take len).map fun n=>[PV.int .i64 n]).length=len:=by simp;omega
  have:=aN.sl (w:=w) (M:=M) (G:=G) ((zs.take len).map fun n=>[.int .i64 n]) x cap 1 ((zs.take len).map fun n=> .int .i64 n) (fun e he=>by obtain⟨n,_,rfl⟩:=QP.1 he;rfl) (by rw[hfl];simp)
   (fun i v hv=> ?_) (fun i y v hy hv=> ?_) (by rw[hlen];exact h1) h2
  ·rw[hlen]at this;exact this
  ·refine⟨?_,hM _⟩;rw[QT,Qb]at hv;obtain⟨n,hn,rfl⟩:=hv;rw[List.getElem?_take]at hn;split at hn
   ·have hi:i<zs.length:=(Qw.1 hn).1;rw[h4 i hi,List.getD_eq_getElem?_getD,hn];rfl
   ·cases hn
  ·rw[hfl]at hy;rw[QT]at hy hv;rw[Qb]at hy hv;obtain⟨n,hn,rfl⟩:=hy;obtain⟨n',hn',rfl⟩:=hv;rw[hn]at hn';injection hn' with e
   subst e;exact .int _ _
theorem Pu{P:Program}{f:FuncId}{args:List PV}{vs:List Value}{w:World}(h:Rj P f false [] args (.bool true) [])(hr:aO w (fun _=>False) cp args vs):
  Calls P f vs.toArray w fun e w'=>e= .returned (.bool true)/\Below w.heap.size w w':=by
 refine(h w (fun _=>False) (fun _ hb=>hb.elim) 0 0 [] vs (fun hq=>by cases hq) ?_).mono ?_
 ·exact⟨hr.1,fun i x v hx hv=>(hr.2 i x v hx hv).mono (c7.of fun _ _=>fun hq=>by rcases hq with⟨hq,_⟩|hq;cases hq;exact hq) (Gh.le.refl _)⟩
 ·rintro e w' ⟨v,_,rfl,hv,_,hF⟩;refine⟨by rw[hv.jQ],hF.os,hF.tape,hF.output,hF.size,fun k hk=>hF.block k hk (by simp)⟩
end Go.TQ
end
