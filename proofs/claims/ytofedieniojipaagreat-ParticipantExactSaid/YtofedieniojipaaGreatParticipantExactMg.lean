/-
  Texts made small by a program (see NOTES). Conditions: those that each theorem names.
-/
import Derived.Test.YtofedieniojipaaGreatParticipantExactMf
import Derived.ChangeArms
import Derived.DataReads
import Derived.OpenShut
import Derived.WideShapes
set_option linter.unusedVariables false
set_option linter.defProp false
set_option linter.unusedSimpArgs false
set_option linter.unusedSectionVars false
set_option maxHeartbeats 2000000
open Int (toNat)
open Sum (inl inr)
open List (replicate)
noncomputable section
namespace Go.Proofs.YtofedieniojipaaGreat
open Go.TQ
section
def UK{m:aA}(h:wE m):qH m=some true:=by have e1:=h.n0;have e2:=h.n1;have a:=h.seq;unfold qH aO;simp only[etas,dw h.aL,L6 h.di,L6 h.eA];rw[Qd e1,Qd e2,Qd a];rfl
def Bh{n:av}(h:df n)(hs:1<=n.aI/\n.aI<=1000000):qG n=some true:=by
 have r:=h.len;have e1:=h.ask.v0;have e2:=h.ask.v1;have G:=h.ask.s0;have F:=h.ask.s1;have E:=h.ask.r1;have D:=h.ask.r2;have B:=h.own;unfold qG oO;simp only[etas,dw h.ask.aL,L6 h.di,L6 h.eA,L6 h.kV];rw[Qf (O:¬n.ak<0),Qf (O:¬(10:Int)<=n.ak),Qf (O:¬n.aJ<0),Qf (O:¬(1000000:Int)<n.aJ),Qf (O:¬n.Round<1),Qf (O:¬(1000:Int)<n.Round),Qf (O:¬n.aI<1),Qf (O:¬(1000000:Int)<n.aI),Qf (O:¬(200:Int)<((n.oa.size:Nat):Int))];simp only[Qb,Qa,Ql,Qh];refine Yd.eq_true ?_;refine Yd.list n.aU h.kV.uL (λi (_:Unit)=>(i,())) (λ_ _=>True) ?_ ?_ (s:=()) trivial
 .intro i x s _ A j hi a d c;simp only;rw[a,Qc,d,Qa,c,L9 _ h.eA.uL,Qd (h.sub x j)];exact .some ⟨(),rfl,trivial⟩
 .intro s _ a;simp only;rw[a,Qb];refine Yd.map ?_;refine Yd.list n.au O (λi (_:Unit)=>(i,())) (λ_ _=>True) ?_ ?_ (s:=()) trivial
  .intro i m s _ A u hi a d c;obtain⟨q,o⟩:=h.heard m u;simp only[aS];rw[a,Qc,d,Qa,c];simp only[aA.eta];rw[UK q,Qa,Qf o];simp only[Qh,Qb]
   by_cases h0:i=0
   .subst h0;rw[Qf (O:¬(0:Int)<((0:Nat):Int))];exact .some ⟨(),rfl,trivial⟩
   .rw[Qd (O:(0:Int)<(i:Int))];simp only[Qc];have f:cQ .i64 (i:Int) 1=((i - 1:Nat):Int):=by rw[om O O];omega
    have hi1:i - 1<n.au.length:=O;rw[f,ba,Qj hi1,Qa]
    have g:m=n.au[i]:=by rw[ba,Qj hi]at d;exact(Q7 d).symm
    have y:n.au[i - 1].ak<m.ak:=by rw[g];exact List.pairwise_iff_getElem.1 h.dg (i - 1) i hi1 hi O
    rw[Qf (O:¬m.ak<=n.au[i - 1].ak)];exact .some ⟨(),rfl,trivial⟩
  .intro s _ a;simp only;rw[a,Qb];exact .some rfl
def df.Ax{n:av}(h:df n):cI n.aa/\n.bj.length<=1000000/\n.aG.length<=1000000:=⟨h.ask.aL.sm,h.di.uL,h.eA.uL⟩
def yL:av:=⟨0,0,0,0,⟨0,[],[]⟩,⟨#[]⟩,[],[],[],[]⟩
def ami{n:av}{m:aA}(h:df n)(hs:1<=n.aI/\n.aI<=1000000)(N:wE m)(B:m.ak≠n.ak):Yd (pH n m) λq=>(q.2.1=0/\aae n n q.1)\/q.2.1=9:=by
 have V:=h.len;unfold pH oO aO;simp only[etas,aA.eta,Bh h hs,UK N,Qa,Qh,Qb];rw[Qf B];simp only[Qb,aS];have J:∀(a:Z aA) (x:aA),a.length<=100->bl 120 (a.length+[x].length)=true:=λa x ha=>br ⟨by simp only[QU];omega,by simp only[QU];omega⟩
 have A:∀l:Z aA,(∀y∈l,wE y/\y.ak≠n.ak)->l.Pairwise (λa b=>a.ak<b.ak)->Yd (Option.bind (gM n {n with au:=l}) λK=>some (K,(0:Int),())) λq=>(q.2.1=0/\aae n n q.1)\/q.2.1=9:=by intro l h1 h2;refine Yd.bind (JJ h.Ax O (n:={n with au:=l}) ⟨h.ask,h.own,h.di,h.eA,h.kV,h.sub,h1,h2⟩) λr E=> .some (.inl ⟨rfl,E.ok,E.aF,E.aK,E.round,E.aL,E.seq⟩)
 refine Yd.list n.au O (λi (s:Bool×Z aA)=>(s.1,i,yL,{n with au:=[]},s.2,()))
  (λi s=>s.2.length<=2*i/\(∀y∈s.2,wE y/\y.ak≠n.ak)/\s.2.Pairwise (λa b=>a.ak<b.ak)/\(∀y∈s.2,∀z∈n.au.drop i,y.ak<z.ak)/\(s.1=false->∀y∈s.2,y.ak<m.ak)) ?_ ?_ (s:=(false,[]))
  ⟨t_,λy c=>absurd c QX,List.Pairwise.nil,λy c=>absurd c QX,λ_ y c=>absurd c QX⟩
 .rintro i x ⟨d,acc⟩ ⟨T,a2,a3,a4,u⟩ S L hi j hx G;simp only at T a2 a3 a4 u;have F:=h.heard x L
  have g:∀z∈n.au.drop (i+1),x.ak<z.ak:=by have:=h.dg.sublist (List.drop_sublist i n.au);rw[S,Q0]at this;exact this.1
  have I:∀y∈acc,y.ak<x.ak:=λy c=>a4 y c x (by rw[S];exact QC)
  have D:∀y∈acc,∀z∈n.au.drop (i+1),y.ak<z.ak:=λy c z f=>a4 y c z (by rw[S];exact QI _ f)
  simp only;rw[j,Qc,hx,Qa,G];have k1:=J acc m O;have X:=J acc x O;have W:=J (acc++[m]) x (by simp only[QM,QU];omega)
  by_cases U:x.ak=m.ak
  .rw[Qd U,Qc]
   cases decide (m.aI<=x.aI)with
   |true=>exact .some (.inr rfl)
   |false=>exact .some ⟨(d,acc),rfl,by show acc.length<=2*(i+1);omega,a2,a3,D,u⟩
  .rw[Qf U,Qb,k1,X,W]
   have plain:(d=false->x.ak<m.ak)->Yd (some (inl (d,((i+1:Nat):Int),yL,{n with au:=([]:Z aA)},(acc++[x]),())):Y ((Bool×Int×av×av×(Z aA)×Unit)⊕(av×Int×Unit))) (Lp (λt=>∃s':Bool×Z aA,t=(s'.1,((i+1:Nat):Int),yL,{n with au:=[]},s'.2,())/\(s'.2.length<=2*(i+1)/\(∀y∈s'.2,wE y/\y.ak≠n.ak)/\s'.2.Pairwise (λa b=>a.ak<b.ak)/\(∀y∈s'.2,∀z∈n.au.drop (i+1),y.ak<z.ak)/\(s'.1=false->∀y∈s'.2,y.ak<m.ak))) (λr=>(r.2.1=0/\aae n n r.1)\/r.2.1=9)):=by
    intro Q;refine .some ⟨(d,acc++[x]),rfl,by simp only[QM,QU];omega,λy c=> ?_,?_,λy c z f=> ?_,λe y c=> ?_⟩
    .rcases QA.1 c with c|c
     .exact a2 y c
     .rw[Qz.1 c];exact F
    .rw[qai];exact⟨a3,List.pairwise_singleton _ _,λy c z f=>by rw[Qz.1 f];exact I y c⟩
    .rcases QA.1 c with c|c
     .exact D y c z f
     .rw[Qz.1 c];exact g z f
    .rcases QA.1 c with c|c
     .exact u e y c
     .rw[Qz.1 c];exact Q e
   by_cases o:m.ak<x.ak
   .rw[Qd o]
    cases d with
    |true=>exact plain λe=>by cases e
    |false=>
     have u:=u rfl;simp only[Qt,Qc,Qa];refine .some ⟨(true,(acc++[m])++[x]),rfl,by simp only[QM,QU];omega,λy c=> ?_,?_,λy c z f=> ?_,λe=>by cases e⟩
     .rcases QA.1 c with c|c
      .rcases QA.1 c with c|c
       .exact a2 y c
       .rw[Qz.1 c];exact⟨N,B⟩
      .rw[Qz.1 c];exact F
     .rw[qai,qai];refine⟨⟨a3,List.pairwise_singleton _ _,λy c z f=>by rw[Qz.1 f];exact u y c⟩,List.pairwise_singleton _ _,λy c z f=> ?_⟩
      rw[Qz.1 f];rcases QA.1 c with c|c
      .exact I y c
      .rw[Qz.1 c];exact o
     .rcases QA.1 c with c|c
      .rcases QA.1 c with c|c
       .exact D y c z f
       .rw[Qz.1 c];exact Int.lt_trans o (g z f)
      .rw[Qz.1 c];exact g z f
   .rw[Qf o];exact plain λ_=>O
 .rintro⟨d,acc⟩ ⟨T,a2,a3,a4,u⟩ j;simp only at T a2 a3 a4 u;simp only;rw[j,Qb];refine Yd.map ?_;have k1:=J acc m O;rw[k1]
  cases d with
  |true=>exact A acc a2 a3
  |false=>
   simp only[Qt,Qc];refine A (acc++[m]) (λy c=> ?_) ?_
   .rcases QA.1 c with c|c
    .exact a2 y c
    .rw[Qz.1 c];exact⟨N,B⟩
   .rw[qai];exact⟨a3,List.pairwise_singleton _ _,λy c z f=>by rw[Qz.1 f];exact u rfl y c⟩
def aeg{n:av}(h:df n)(hs:1<=n.aI/\n.aI<=1000000):Yd (vH n) λq=>(q.2.1=0/\df q.1/\q.1.ak=n.ak/\q.1.aJ=n.aJ/\q.1.aa=n.aa/\(q.1.aI=n.aI\/q.1.aI=n.aI+1))\/q.2.1=3:=by
 unfold vH;simp only[etas,Bh h hs,Qa,Qh,Qb];have f:=h.ask.r1;have d:=h.ask.r2
 by_cases a:n.Round=1000
 .rw[Qd a];exact .some (.inr rfl)
 .have c:aC .i64 n.Round 1=n.Round+1:=bH O O;rw[Qf a,Qb,c];refine Yd.bind (JJ h.Ax O (n:={n with Round:=n.Round+1}) ⟨⟨h.ask.aL,h.ask.v0,h.ask.v1,h.ask.s0,h.ask.s1,by show 1<=n.Round+1;omega,by show n.Round+1<=1000;omega⟩,h.own,h.di,h.eA,h.kV,h.sub,h.heard,h.dg⟩) λr a=> .some (.inl ⟨rfl,a.ok,a.aF,a.aK,a.aL,a.seq⟩)
def ael{n:av}(h:df n)(hs:1<=n.aI/\n.aI<=1000000){t:aq}(ht:cW t):Yd (qg n t) λq=>q.2.1=0/\df q.1/\q.1.ak=n.ak/\q.1.aJ=n.aJ/\q.1.aa=t/\(q.1.aI=n.aI\/q.1.aI=n.aI+1):=by
 unfold qg;simp only[etas,Bh h hs,dw ht,Qa,Qh,Qb,Ql];obtain⟨b,f,d⟩:=Eu (a:=n.aa) (b:=t) h.ask.aL.sm;rw[f,Qa]
 cases b with
 |true=>exact .some ⟨rfl,h,rfl,rfl,d.1 rfl,.inl rfl⟩
 |false=>refine Yd.bind (JJ h.Ax O (n:={n with aa:=t}) ⟨⟨ht,h.ask.v0,h.ask.v1,h.ask.s0,h.ask.s1,h.ask.r1,h.ask.r2⟩,h.own,h.di,h.eA,h.kV,h.sub,h.heard,h.dg⟩) λr c=> .some ⟨rfl,c.ok,c.aF,c.aK,c.aL,c.seq⟩
def UI{t:aq}{v aK:Int}{own:C}(ht:cW t)(h0:0<=v)(h1:v<10)(g:0<=aK)(f:aK<=1000000)(ho:own.size<=200):Yd (kN v aK t own) λq=>q.2.1=0/\df q.1/\q.1.ak=v/\q.1.aJ=aK/\q.1.aa=t/\q.1.aI=1:=by
 unfold kN oO;simp only[etas,dw ht];rw[Qf (O:¬v<0),Qf (O:¬(10:Int)<=v),Qf (O:¬aK<0),Qf (O:¬(1000000:Int)<aK),Qf (O:¬(200:Int)<((own.size:Nat):Int))];simp only[Qb,Qa,Ql,Qh];have d:df ⟨v,aK,1,1,t,own,[],[],[],[]⟩:=⟨⟨ht,h0,h1,g,f,by show(1:Int)<=1;omega,by show(1:Int)<=1000;omega⟩,ho,.nil,.nil,.nil,λx c=>absurd c QX,λx c=>absurd c QX,List.Pairwise.nil⟩
 refine Yd.bind (JJ d.Ax ⟨by show(0:Int)<=1;omega,by show(1:Int)<=1000000;omega⟩ d) λr a=> .some ⟨rfl,⟨a.ok.ask,a.ok.own,a.ok.di,a.ok.eA,a.ok.kV,a.ok.sub,a.ok.heard,a.ok.dg⟩,a.aF,a.aK,a.aL,rfl⟩
end
section
def akp{m:ae}(h:m.aW=3):dB m=m:=by
 have h1:ed m=m:=by unfold ed;rw[Qe (.inl h)]
 have f:ig m=m:=by unfold ig;rw[Qe (.inl (by rw[h];decide))]
 have d:gI m=m:=by unfold gI;rw[Qg (by rw[h];decide),Qg (by rw[h];decide)]
 have c:jX m=m:=by unfold jX;rw[Qg (by rw[h];rintro⟨e,_⟩;exact absurd e s_)]
 have a:gB m=m:=by unfold gB;rw[Qe (.inl h)]
 unfold dB;rw[Qe h1,Qe f,Qe d,Qe c];exact a
structure Fs (m:ae) (t:aq) (x:ae):Prop where
 inv:bz x
 seq:gp x
 aF:x.ak=m.ak
 aK:x.aJ=m.aJ
 aL:x.aa=t
 ext:m.aW=3->x.aW=3/\x.af.Value=m.af.Value
def Fs.refl{m:ae}(h:bz m)(hs:gp m):Fs m m.aa m:=⟨h,hs,rfl,rfl,rfl,λe=>⟨e,rfl⟩⟩
def oq(m x:ae):Prop:=m.aW=3->x.aW=3/\x.af.Value=m.af.Value
def ND{m:ae}:∀x,bz x->oq m x->oq m (dB x):=λx _ h e=>by have a:=h e;rw[akp a.1];exact a
def NC{m:ae}:∀x,oq m x->oq m (dI x):=λx h e=>by
 have a:=h e;unfold dI;split
 .exact a
 .exact a
def Fp{m m1:ae}(h:bz m)(c:Cw m m1):oq m m1:=by
 intro e;rcases c with⟨v,hv,rfl⟩|⟨x,f,rfl⟩|⟨d,hv,g,rfl⟩|⟨t,ht,rfl⟩
 .have a:aQ m.af=false:=by
   rcases h.body with k|k|k|k
   .exact absurd (k.bf.symm.trans e) s_
   .exact k.aY.nz
   .exact k.aY.nz
   .exact k.aY.nz
  unfold ic;rw[Qg (by rw[a];decide)]
  exact⟨e,rfl⟩
 .exact⟨e,rfl⟩
 .exact absurd e d
 .exact⟨e,rfl⟩
def NO{m c:ae}(h:bz m)(i:Cw m c){q:ae×Int×Unit}(g:HD (oq m) m c q):q.2.1=0/\Fs m c.aa q.1:=by
 obtain⟨m2,rfl,a⟩:=g;have d:=ag6 h i;obtain⟨f1,f2,f3,f4,f5,f6⟩:=F2 c;obtain⟨s,e,_⟩:=RJ m m2;refine⟨rfl,ag3 a.inv,ajT a.inv a.seq (λf=>a.nz (by rw[f6];exact d.nz f)),?_,?_,?_,?_⟩
 .rw[e];exact a.env.1.trans (f1.trans d.aF)
 .rw[e];exact a.env.2.1.trans (f2.trans d.aK)
 .rw[e];exact a.env.2.2.1.trans f3
 .rw[e];exact a.rel
section
variable{m:ae}(h:bz m)(hs:gp m)
 include h hs
theorem F5{v:C}(hv:iU v):Yd (jL m v) λq=>q.2.1=0/\Fs m m.aa q.1:=by
 have a:Cw m (ic m v):= .inl ⟨v,hv,rfl⟩;refine(PN (R:=oq m) ND NC h hs hv (Fp h a)).mono λq c=> ?_
 have e:(ic m v).aa=m.aa:=by unfold ic;split<;>rfl
 exact e▸NO h a c
theorem YJ{e:aj}(he:Ai m e):Yd (lR m e) λq=>(q.2.1=0/\Fs m m.aa q.1)\/q.2.1=9:=by
 have c:Cw m (Ds m e):= .inr (.inl ⟨e,he,rfl⟩);refine(Yk (R:=oq m) ND NC h hs he (Fp h c)).mono λq a=> ?_
 rcases a with⟨a,_⟩|⟨rfl,_⟩
 .exact .inl (NO h c a)
 .exact .inr rfl
theorem YK{t:aq}(ht:cW t):Yd (pZ m t) λq=>q.2.1=0/\Fs m t q.1:=by
 have a:Cw m (Dx m t):= .inr (.inr (.inr ⟨t,ht,rfl⟩));refine(Ym (R:=oq m) ND NC h hs ht (Fp h a)).mono λq c=> ?_
 exact NO h a c
theorem YI:Yd (lQ m) λq=>(q.2.1=0/\Fs m m.aa q.1)\/q.2.1≠0:=by
 have hR:∃R:ae->Prop,(∀m,bz m->R m->R (dB m))/\(∀m,R m->R (dI m))/\R (oi m)/\(Cw m (oi m)->∀x,R x->oq m x):=by
  by_cases hi:Cw m (oi m)
  .exact⟨oq m,ND,NC,Fp h hi,λ_ x o=>o⟩
  .exact⟨λ_=>True,λ_ _ _=>trivial,λ_ _=>trivial,trivial,λc=>absurd c hi⟩
 obtain⟨R,g,f,i,d⟩:=hR;refine(Yi g f h hs i).mono λq r=> ?_
 rcases r with⟨⟨m2,rfl,a⟩,y,hv,u⟩|⟨rfl,_⟩|⟨rfl,_⟩
 .have j:Cw m (oi m):= .inr (.inr (.inl ⟨y,hv,u,rfl⟩));exact .inl (NO h j ⟨m2,rfl,a.inv,a.seq,a.env,a.num,a.nz,d j _ a.rel,a.fix⟩)
 .exact .inr (by show(62:Int)≠0;decide)
 .exact .inr (by show(3:Int)≠0;decide)
theorem CP:uf m=some (bif decide (m.aW=3)then m.af.Value else gl,decide (m.aW=3),()):=by unfold uf oO;simp only[etas,vq h hs,Qa,Qh,Qb];cases decide (m.aW=3)<;>rfl
theorem PO:ue m=some (bif aQ m.af then(aj.mk (0:Int) (0:Int) (0:Int) (aq.mk (0:Int) ([]:Z Int) ([]:Z aq)) (0:Int) zB zB zB (0:Int) (0:Int))else bM m,!aQ m.af,()):=by unfold ue oO;simp only[etas,vq h hs,Qa,Qh,Qb,dx,Ce];cases aQ m.af<;>rfl
theorem aef:Yd (oJ m) λ_=>True:=by
 have q:=h.ev;have y:=h.len;unfold oJ oO;simp only[etas,PO h hs,Qa]
 cases D:aQ m.af with
 |true=>exact .some trivial
 |false=>
  simp only[Qt,Qh,Qb,Qa]
  cases decide (m.aW=3)with
  |true=>exact .some trivial
  |false=>
   simp only[Qb];have ho:=Fz h hs D;have d:cI (bM m).aa:=by rw[pb];exact h.aL.sm
   have a:∀e∈[bM m]++m.au,bd e=true/\cI e.aa:=by
    intro e he;rcases QA.1 he with he|he
    .rw[Qz.1 he];exact⟨ho,d⟩
    .exact⟨(h.hv e he).1,(h.hv e he).2.1.sm⟩
   have f:([bM m]++m.au).length<=1000:=o_;rw[br o_,Qc]
   rw[D8 ([bM m]++m.au) f (λe=>decide (cD (bM m)<=cD e)) (fin:=λs=>Option.bind (jj m.ak m.aa ([bM m]++m.au)) λB=>Option.bind (gz ([bM m]++m.au) s) λA=>Option.bind (km B A) λj=>if(bu .u64 m.ak)<0 then none else some (decide ((GH .i64 (kb .i64 j (bu .u64 m.ak)) (1:Int))=(1:Int))))
    (λi e s F he r u E=>by
     simp only[r,u,E,NZ u,Qc,Qa,CQ (a e he).2 (a e he).1,CQ d ho]
     rw[br o_,Qc])
    (λs r=>by simp only[r,Qb])]
   have c:tY ([bM m]++m.au):=⟨O,λe he=>(a e he).2⟩
   have o:=q.aF;have hv:=AE o.2 (t:=m.aa) c;rw[o.1]at hv;have g:vw ([bM m]++m.au):=λe he=>jf (a e he).1
   rw[hv,Qa,AX ([bM m]++m.au) f _ (λe he _=>g e he),Qa,BJ (nu h.aL.sm c) (lV g),Qa]
   have G:bu .u64 m.ak=m.ak:=by rw[<-o.1];exact adt O
   rw[G,Qg (by have:=h.n0;omega)]
   exact .some trivial
def xb(t:fU):Prop:=0<=t.ai/\t.ai<=1000000/\ -1<=t.Bt/\t.Bt<=212
 omit h hs in
theorem Sj{t:fU}(ht:xb t):wR t=some true:=by
  obtain⟨h1,d,c,a⟩:=ht;unfold wR aO;rw[Qd h1,Qd d,Qd c,Qd a];rfl
 omit h hs in
theorem NJ{c:Int}(f:0<=c)(d:c<=1000000):Yd (nK c) λw=>1<=w/\w<=12:=by
  unfold nK
  by_cases h:12<=c
  .rw[Qd h];exact .some ⟨s_,s_⟩
  .have a:aC .i64 c 1=c+1:=bH O O;rw[Qf h,Qb,a];refine .some ?_;unfold bO;split<;>omega
 omit hs in
theorem Ug:0<=m.af.ai/\m.af.ai<=1000:=by
  rcases h.body with k|k|k|k
  .rw[k.aY];exact⟨s_,s_⟩
  .exact⟨by have:=k.aY.1;omega,k.aY.2.1⟩
  .exact⟨by have:=k.aY.1;omega,k.aY.2.1⟩
  .exact⟨by have:=k.aY.1;omega,k.aY.2.1⟩
theorem aba{t:fU}(ht:xb t){now:Int}(h0:0<=now)(h1:now<=200):Yd (sL t m now) λq=>xb q.1:=by
 obtain⟨b0,b1⟩:=Ug h;unfold sL oO;simp only[etas,Sj ht,Qa,Qh,Qb];rw[Qf (O:¬now<0),Qf (O:¬(200:Int)<now)];simp only[Qb,Qa];refine Yd.bind (aef h hs) λb _=> ?_
 have off:xb ⟨m.af.ai, -1⟩:=⟨b0,by show m.af.ai<=1000000;omega,by show(-1:Int)<= -1;omega,by show(-1:Int)<=212;omega⟩
 cases b with
 |false=>exact .some off
 |true=>
  simp only[Qh,Qb];refine Yd.bind (p:=λ_=>True) (Yd.cond (λ_=> .some trivial) λ_=> .some trivial) λc _=> ?_
  cases c with
  |true=>
   rw[Qc];refine Yd.bind (NJ b0 O) λw ⟨w1,w2⟩=> ?_
   have a:aC .i64 now w=now+w:=bH O O;rw[a];exact .some ⟨b0,by show m.af.ai<=1000000;omega,by show -1<=now+w;omega,by show now+w<=212;omega⟩
  |false=>
   rw[Qb]
   cases decide (t.Bt<=now)with
   |true=>exact .some off
   |false=>exact .some ht
end
end
section
structure qD (nd sl:Int) (k:Int) (x:aD):Prop where
 eP:bz x.ab
 gf:gp x.ab
 aF:x.ab.ak=nd
 aK:x.ab.aJ=sl
 jt:df x.az
 lZ:1<=x.az.aI/\x.az.aI<=1+k
 pS:x.az.ak=nd
 uM:x.az.aJ=sl
 aL:x.az.aa=x.ab.aa
 timer:xb x.Timer
 round:1<=x.Round/\x.Round<=1000
 next:0<=x.Next/\x.Next<=212
structure pd (nd sl:Int) (k:Int) (x:aD):Prop where
 pre:qD nd sl k x
 done:x.qL=decide (x.ab.aW=3)
 value:x.Value=bif decide (x.ab.aW=3)then x.ab.af.Value else gl
def qD.le{nd sl k k':Int}{x:aD}(h:qD nd sl k x)(hk:k<=k'):qD nd sl k' x:=⟨h.eP,h.gf,h.aF,h.aK,h.jt,⟨h.lZ.1,by have:=h.lZ.2;omega⟩,h.pS,h.uM,h.aL,h.timer,h.round,h.next⟩
def pd.le{nd sl k k':Int}{x:aD}(h:pd nd sl k x)(hk:k<=k'):pd nd sl k' x:=⟨h.pre.le hk,h.done,h.value⟩
def qD.Jz{nd sl k:Int}{x:aD}(h:qD nd sl k x){m:ae}(a:Fs x.ab x.ab.aa m):qD nd sl k {x with ab:=m}:=⟨a.inv,a.seq,a.aF.trans h.aF,a.aK.trans h.aK,h.jt,h.lZ,h.pS,h.uM,h.aL.trans a.aL.symm,h.timer,h.round,h.next⟩
def rP{nd sl k:Int}{x:aD}(h:qD nd sl k x):Yd (eI x) λy=>pd nd sl k y/\oq x.ab y.ab/\y.ab.aa=x.ab.aa:=by
 unfold eI aO;simp only[etas];refine Yd.join (λv=>qD nd sl k v.1/\oq x.ab v.1.ab/\v.1.ab.aa=x.ab.aa) (λv ⟨hv,g⟩=> ?_) (λB u=> ?_)
 .rw[CP hv.eP hv.gf,Qa];exact .some ⟨⟨⟨hv.eP,hv.gf,hv.aF,hv.aK,hv.jt,hv.lZ,hv.pS,hv.uM,hv.aL,hv.timer,hv.round,hv.next⟩,rfl,rfl⟩,g⟩
 .have same:qD nd sl k x/\oq x.ab x.ab/\x.ab.aa=x.ab.aa:=⟨h,λe=>⟨e,rfl⟩,rfl⟩
  refine Yd.bind (acG h.jt.kV.uL) λc A=> ?_
  rw[dx];simp only[Qa]
  have go:c.2.1=false\/iU c.1:=by
   cases e:c.2.1 with
   |false=>exact .inl rfl
   |true=>exact .inr (A e)
  have a:∀b1 r b3:Bool,Yd (Option.bind (bif b1 then some r else some false) λb5=>Option.bind (bif b5 then some b3 else some false) λo=>Option.bind (bif o then some (!decide (c.1=x.ab.bm))else some false) λb8=>(some b8:Y Bool)) λb=>b=true->b1=true:=λb1 r b3=>by
   cases b1 with
   |true=>cases r<;>cases b3<;>exact .some λ_=>rfl
   |false=>exact .some λe=>e
  obtain⟨b8,j,d⟩:=a c.2.1 (decide (x.ab.aW=1)) (aQ x.ab.aB)
  have f:∀K:Bool->Y aD,(Option.bind (bif c.2.1 then some (decide (x.ab.aW=1))else some false) λb5=>Option.bind (bif b5 then some (aQ x.ab.aB)else some false) λo=>Option.bind (bif o then some (!decide (c.1=x.ab.bm))else some false) K)=K b8:=by
   intro K;revert j
   cases c.2.1 with
   |false=>intro e;cases e;rfl
   |true=>
    cases decide (x.ab.aW=1)with
    |false=>intro e;cases e;rfl
    |true=>
     cases aQ x.ab.aB with
     |false|true=>intro e;cases e;rfl
  rw[f]
  cases b8 with
  |false=>exact u (x,()) same
  |true=>
   rw[Qc];have hv:=A (d rfl);refine Yd.bind (F5 h.eP h.gf hv) λq ⟨h0,i⟩=> ?_
   rw[h0];exact u (_,()) ⟨h.Jz i,i.ext,i.aL⟩
def jz{nd sl k:Int}{x:aD}(h:pd nd sl k x)(hk:k<=999999):kK x=some true:=by
 have p:=h.pre;obtain⟨b,f,d⟩:=Eu (a:=x.az.aa) (b:=x.ab.aa) p.jt.ask.aL.sm;have c:=d.2 p.aL;subst c;unfold kK oO aO;simp only[etas,vq p.eP p.gf,Bh p.jt ⟨p.lZ.1,by have:=p.lZ.2;omega⟩,f,Sj p.timer,CP p.eP p.gf,Qa,Qh,Qb]
 rw[Qd (p.pS.trans p.aF.symm),Qd (p.uM.trans p.aK.symm),Qd p.round.1,Qd p.round.2,Qd p.next.1,Qd p.next.2,Qd h.done,Qd h.value]
 rfl
def vR(nd sl:Int)(k:Int)(x y:aD):Prop:=pd nd sl k y/\oq x.ab y.ab
def vR.self{nd sl k k':Int}{x:aD}(h:pd nd sl k x)(hk:k<=k'):vR nd sl k' x x:=⟨h.le hk,λe=>⟨e,rfl⟩⟩
section
variable{nd sl k:Int}{x:aD}(h:pd nd sl k x)(hk:k<=999998)
 include h hk
theorem Sl{m:aA}(f:wE m)(d:m.ak≠nd):Yd (eJ x m) λq=>(q.2.1=0/\vR nd sl (k+1) x q.1/\q.1.ab.aa=x.ab.aa)\/q.2.1≠0:=by
 have p:=h.pre;unfold eJ;simp only[aA.eta,etas,jz h O,Qa,Qh,Qb];refine Yd.bind (ami p.jt ⟨p.lZ.1,by have:=p.lZ.2;omega⟩ f (by rw[p.pS];exact d)) λq a=> ?_
 rcases a with⟨h0,a⟩|g
 .rw[h0];simp only[Ql,Qh,Qb];have h1:=p.lZ;refine Yd.bind (rP (k:=k+1) (x:={x with az:=q.1}) ⟨p.eP,p.gf,p.aF,p.aK,a.ok,?_,a.aF.trans p.pS,a.aK.trans p.uM,a.aL.trans p.aL,p.timer,p.round,p.next⟩) λy c=> .some (.inl ⟨rfl,⟨c.1,c.2.1⟩,c.2.2⟩)
  show 1<=q.1.aI/\q.1.aI<=1+(k+1);rcases a.seq with e|e<;>rw[e]<;>omega
 .rw[g];exact .some (.inr (by show(9:Int)≠0;decide))
theorem V6{e:aj}(he:Ai x.ab e\/(cI e.aa/\bd e=false)):Yd (gX x e) λq=>(q.2.1=0/\vR nd sl k x q.1/\q.1.ab.aa=x.ab.aa)\/q.2.1≠0:=by
 have p:=h.pre;unfold gX;simp only[etas,jz h O,Qa,Qh,Qb];rcases he with he|⟨ht,hv⟩
 .refine Yd.bind (YJ p.eP p.gf he) λq a=> ?_
  rcases a with⟨h0,a⟩|d
  .rw[h0];simp only[Ql,Qh,Qb];refine Yd.bind (rP (p.Jz a)) λy c=> .some (.inl ⟨rfl,⟨c.1,λe=> ?_⟩,c.2.2.trans a.aL⟩)
   have e1:=a.ext e;have e2:=c.2.1 e1.1;exact⟨e2.1,e2.2.trans e1.2⟩
  .rw[d];exact .some (.inr (by show(9:Int)≠0;decide))
 .rw[UJ p.eP p.gf ht (.inl hv)];exact .some (.inr (by show(61:Int)≠0;decide))
theorem V5{v:C}(hv:iU v):Yd (gH x v) λq=>(q.2.1=0/\vR nd sl k x q.1/\q.1.ab.aa=x.ab.aa)\/q.2.1≠0:=by
 have p:=h.pre;unfold gH;simp only[etas,jz h O,Qa,Qh,Qb];refine Yd.bind (F5 p.eP p.gf hv) λq ⟨h0,c⟩=> ?_
 rw[h0];simp only[Ql,Qh,Qb];refine Yd.bind (rP (p.Jz c)) λy a=> .some (.inl ⟨rfl,⟨a.1,λe=> ?_⟩,a.2.2.trans c.aL⟩)
 have e1:=c.ext e;have e2:=a.2.1 e1.1;exact⟨e2.1,e2.2.trans e1.2⟩
theorem acF{t:aq}(ht:cW t):Yd (iG x t) λq=>q.2.1=0/\vR nd sl (k+1) x q.1/\q.1.ab.aa=t:=by
 have p:=h.pre;unfold iG;simp only[etas,jz h O,Qa,Qh,Qb];have h1:=p.lZ;refine Yd.bind (ael p.jt ⟨p.lZ.1,O⟩ ht) λq ⟨h0,g1,g2,g3,g4,g5⟩=> ?_
 rw[h0];simp only[Ql,Qh,Qb];refine Yd.bind (YK p.eP p.gf ht) λr ⟨d,a⟩=> ?_
 rw[d];simp only[Ql,Qh,Qb];refine Yd.bind (rP (k:=k+1) (x:={x with az:=q.1,ab:=r.1}) ⟨a.inv,a.seq,a.aF.trans p.aF,a.aK.trans p.aK,g1,?_,g2.trans p.pS,g3.trans p.uM,g4.trans a.aL.symm,p.timer,p.round,p.next⟩) λy c=> .some ⟨rfl,⟨c.1,λe=> ?_⟩,c.2.2.trans a.aL⟩
 .show 1<=q.1.aI/\q.1.aI<=1+(k+1);rcases g5 with e|e<;>rw[e]<;>omega
 .have e1:=a.ext e;have e2:=c.2.1 e1.1;exact⟨e2.1,e2.2.trans e1.2⟩
theorem aio{now:Int}(h0:0<=now)(h1:now<=200):Yd (ix x now) λq=>q.2.1=0/\vR nd sl (k+1) x q.1/\q.1.ab.aa=x.ab.aa:=by
 have p:=h.pre;have Q:=p.lZ;have S:=p.round;unfold ix oO aO;simp only[etas,jz h O,Qa,Qh,Qb];rw[Qf (O:¬now<0),Qf (O:¬(200:Int)<now)];simp only[Qb,Qa];refine Yd.join (λv=>vR nd sl (k+1) x v.1/\v.1.ab.aa=x.ab.aa) (λv ⟨hv,g⟩=> ?_) (λW u=> ?_)
 .have pv:=hv.1.pre;refine Yd.bind (aba pv.eP pv.gf pv.timer h0 h1) λt ht=> ?_
  refine Yd.join (λw=>vR nd sl (k+1) x w.1/\w.1.ab.aa=x.ab.aa) (λw F=> .some ⟨rfl,F⟩) (λV o=> ?_)
  have D:qD nd sl (k+1) {v.1 with Timer:=t.1}:=⟨pv.eP,pv.gf,pv.aF,pv.aK,pv.jt,pv.lZ,pv.pS,pv.uM,pv.aL,ht,pv.round,pv.next⟩
  cases t.2.1 with
  |false=>exact o (_,()) ⟨⟨⟨D,hv.1.done,hv.1.value⟩,hv.2⟩,g⟩
  |true=>
   rw[Qc];refine Yd.join (λw=>qD nd sl (k+1) w.1/\oq v.1.ab w.1.ab/\w.1.ab.aa=v.1.ab.aa) (λw ⟨F,G,E⟩=> ?_) (λU j=> ?_)
   .refine Yd.bind (rP F) λy f=>o (y,()) ⟨⟨f.1,λe=> ?_⟩,f.2.2.trans (E.trans g)⟩
    have e1:=hv.2 e;have e2:=G e1.1;have I:=f.2.1 e2.1;exact⟨I.1,I.2.trans (e2.2.trans e1.2)⟩
   .refine Yd.bind (YI pv.eP pv.gf) λr c=> ?_
    rcases c with⟨J,c⟩|c
    .rw[J];exact j (_,()) ⟨D.Jz c,c.ext,c.aL⟩
    .rw[Qf c];exact j (_,()) ⟨D,λe=>⟨e,rfl⟩,rfl⟩
 .have skip:=u (x,()) ⟨vR.self h O,rfl⟩
  cases decide (((List.length x.az.aU:Nat):Int)=(0:Int))with
  |false=>exact skip
  |true=>
   simp only[Qc,Qa]
   cases decide (x.Next<=now)with
   |false=>exact skip
   |true=>
    rw[Qc];refine Yd.join (λv=>qD nd sl (k+1) v.1/\v.1.ab=x.ab) (λv ⟨hv,hm⟩=> ?_) (λL a=> ?_)
    .have N:=hv.round;have A:aC .i64 v.1.Round 1=v.1.Round+1:=bH O O;have i:1<=dy (v.1.Round+1) 1000/\dy (v.1.Round+1) 1000<=1000:=by unfold dy;split<;>omega
     rw[A];refine Yd.bind (NJ O O) λw ⟨w1,w2⟩=> ?_
     have d:aC .i64 now w=now+w:=bH O O;rw[d];refine Yd.bind (rP (k:=k+1) (x:=⟨v.1.az,v.1.ab,v.1.Timer,dy (v.1.Round+1) 1000,now+w,v.1.qL,v.1.Value⟩) ⟨hv.eP,hv.gf,hv.aF,hv.aK,hv.jt,hv.lZ,hv.pS,hv.uM,hv.aL,hv.timer,i,by show 0<=now+w/\now+w<=212;omega⟩) λy f=>u (y,()) ?_
     have B:=f.2;simp only at B;rw[hm]at B;exact⟨⟨f.1,B.1⟩,B.2⟩
    .refine Yd.bind (aeg p.jt ⟨p.lZ.1,O⟩) λq T=> ?_
     rcases T with⟨q0,g1,g2,g3,g4,g5⟩|K
     .rw[q0];refine a (_,()) ⟨⟨p.eP,p.gf,p.aF,p.aK,g1,?_,g2.trans p.pS,g3.trans p.uM,g4.trans p.aL,p.timer,p.round,p.next⟩,rfl⟩
      show 1<=q.1.aI/\q.1.aI<=1+(k+1);rcases g5 with e|e<;>rw[e]<;>omega
     .rw[K];exact a (x,()) ⟨p.le O,rfl⟩
end
def amy{nd sl:Int}(c:0<=nd)(a:nd<10)(g:1<=sl)(d:sl<=1000000){t:aq}{own:C}{now:Int}(ht:cW t)(ho:own.size<=200)(h0:0<=now)(h1:now<=200):Yd (iF nd sl t own now) λq=>q.2.1=0/\pd nd sl 0 q.1/\q.1.ab.aa=t:=by
 unfold iF oO;simp only[etas];rw[Qf (O:¬now<0),Qf (O:¬(200:Int)<now)];simp only[Qb,Qa];rw[acD c a g d ht];simp only[Qa,Ql,Qh,Qb];refine Yd.bind (UI ht c a O d ho) λq ⟨q0,g1,g2,g3,g4,g5⟩=> ?_
 rw[q0];simp only[Ql,Qh,Qb];refine Yd.bind (NJ O O) λw ⟨w1,w2⟩=> ?_
 have f:aC .i64 now w=now+w:=bH O O;rw[f];obtain⟨m1,m2⟩:=UR (aF:=nd) (aK:=sl) c a g d ht;have i:xb ⟨0, -1⟩:=⟨s_,s_,s_,s_⟩;refine Yd.bind (rP (k:=0) (x:=⟨q.1,PY nd sl t,⟨0, -1⟩,1,now+w,false,bE⟩) ⟨m1,m2,rfl,rfl,g1,by show 1<=q.1.aI/\q.1.aI<=1+0;rw[g5];decide,g2,g3,g4,i,⟨(s_:(1:Int)<=1),(s_:(1:Int)<=1000)⟩,by show 0<=now+w/\now+w<=212;omega⟩) λy j=> .some ⟨rfl,j.1,j.2.2⟩
end
section
theorem CT(a b:C):fO a b=some (zH a b):=by simp[fO,zH]
def afm{a b:C}:decide (0<=zH a b)= !bS a b:=by
 rw[<-wB]
 by_cases h:zH a b<0
 .rw[Qd h,Qf O];rfl
 .rw[Qf h,Qd O];rfl
def Yu(x:C):ui x=some (decide (iU x)):=IA x
def Sy{l:Z C}(h:VL l):gA l=some true:=by
 unfold gA oO aO;refine Yd.eq_true (Yd.list l h.uL (λi (_:Unit)=>(i,())) (λ_ _=>True) ?_ ?_ (s:=()) trivial)
 .intro i y s hs q o hi a g d;simp only;rw[a,Qc,g,Qa,Yu,Qa,Qd (h.uu y o),d];simp only[Qh,Qb]
  by_cases h0:i=0
  .subst h0;rw[Qf (O:¬(0:Int)<((0:Nat):Int))];exact .some ⟨(),rfl,trivial⟩
  .rw[Qd (O:(0:Int)<(i:Int))];simp only[Qc];have c:cQ .i64 (i:Int) 1=((i - 1:Nat):Int):=by rw[om O (by have:=h.len;omega)];omega
   have hi1:i - 1<l.length:=O;rw[c,ba,Qj hi1,Qa,CT,Qa,afm]
   have f:y=l[i]:=by rw[ba,Qj hi]at g;exact(Q7 g).symm
   have j:bS l[i - 1] y=true:=by rw[f];exact List.pairwise_iff_getElem.1 h.Jd (i - 1) i hi1 hi O
   rw[j];exact .some ⟨(),rfl,trivial⟩
 .intro s hs a;simp only;rw[a,Qb,Qd (by have:=h.len;omega:(l.length:Int)<=(40:Int))]
  exact .some rfl
def akS(l:Z C)(hl:l.length<=1000000)(x:C):Yd (kY l x) λr=>decide (0<=r)=decide (x∈l):=by
 unfold kY;refine Yd.list l hl (λi (_:Unit)=>(i,())) (λi _=>x∉l.take i) ?_ ?_ (s:=()) t_
 .intro i y s hs o j hi a f d;simp only;rw[a,Qc,f,Qa,d]
  by_cases c:x=y
  .rw[Qd c,Qc];refine .some ?_;show decide ((0:Int)<=(i:Int))=decide (x∈l);rw[Qd (O:(0:Int)<=(i:Int))];exact(Qd (by rw[c];exact j)).symm
  .rw[Qf c,Qb];refine .some ⟨(),rfl,?_⟩
   have g:l[i]?=some y:=by rw[ba]at f;exact f
   rw[List.take_add_one,g];simp only[qbz,QA,Qz];exact λh=>h.elim hs c
 .intro s hs a;simp only;rw[a,Qb];rw[QK]at hs;refine .some ?_;show decide ((0:Int)<= -1)=decide (x∈l);rw[Qf hs];rfl
def acV(l:Z C)(hl:l.length<=1000000)(x:C):mM l x=some (decide (x∈l)):=by obtain⟨r,h1,a⟩:=akS l hl x;unfold mM nn;rw[h1,Qa,Qa,a]
def acU{v:Int}(h0:0<=v)(h1:v<10):jw v=some true:=by unfold jw aO;rw[Qd h0,Qd h1];rfl
def abn{m:aA}(h:wE m):kD m=some true:=by unfold kD aO;simp only[etas,acU h.n0 h.n1,c6 h.aL,Sy h.di,Sy h.eA];rw[Qd h.seq];rfl
def aey{n:av}(h:df n):fN n.aU n=some false:=by
 unfold fN jS;simp only[etas]
 have:=Yd.list (p:=λr:Int=>r= -1) (step:=λ(v1:Int×Unit)=>
   bif (decide (v1.1<((List.length n.aU:Nat):Int)))then
   Option.bind (idx n.aU v1.1) λf=>
   Option.bind (rH f n) λg=>
   bif g then
   Option.map inr (some v1.1)
   else
   some (inl ((aC .i64 v1.1 (1:Int)),()))
   else
   Option.map inr (some (-1:Int))) n.aU h.kV.uL (λi (_:Unit)=>(i,())) (λ_ _=>True) ?_ ?_ (s:=()) trivial
 .obtain⟨r,h1,rfl⟩:=this;rw[h1];rfl
 .intro i x s _ o d hi a j c;simp only;unfold rH;rw[a,Qc,j,Qa,c,acV _ h.eA.uL,Qd (h.sub x d)];exact .some ⟨(),rfl,trivial⟩
 .intro s _ a;simp only;rw[a,Qb];exact .some rfl
def IE{n:av}(h:df n)(hs:1<=n.aI/\n.aI<=1000000):kC n=some true:=by
 have q:=h.len;unfold kC wI oO aO;simp only[etas,acU h.ask.v0 h.ask.v1,c6 h.ask.aL,Sy h.di,Sy h.eA,Sy h.kV,aey h];rw[Qd h.ask.s0,Qd h.ask.s1,Qd h.ask.r1,Qd h.ask.r2,Qd hs.1,Qd hs.2,Qf (by have:=h.own;omega:¬(200:Int)<((n.oa.size:Nat):Int))]
 simp only[Qb,Qc,Qa,Ql,Qh];refine Yd.eq_true ?_;refine Yd.list n.au O (λi (_:Unit)=>(i,())) (λ_ _=>True) ?_ ?_ (s:=()) trivial
 .intro i m s _ y r hi a g d;obtain⟨o,j⟩:=h.heard m r;simp only[aS];rw[a,Qc,g,Qa,d];simp only[aA.eta];rw[abn o,Qa,Qf j];simp only[Qh,Qb]
  by_cases h0:i=0
  .subst h0;rw[Qf (O:¬(0:Int)<((0:Nat):Int))];exact .some ⟨(),rfl,trivial⟩
  .rw[Qd (O:(0:Int)<(i:Int))];simp only[Qc];have c:cQ .i64 (i:Int) 1=((i - 1:Nat):Int):=by rw[om O O];omega
   have hi1:i - 1<n.au.length:=O;rw[c,ba,Qj hi1,Qa]
   have f:m=n.au[i]:=by rw[ba,Qj hi]at g;exact(Q7 g).symm
   have u:n.au[i - 1].ak<m.ak:=by rw[f];exact List.pairwise_iff_getElem.1 h.dg (i - 1) i hi1 hi O
   rw[Qf (O:¬m.ak<=n.au[i - 1].ak)];exact .some ⟨(),rfl,trivial⟩
 .intro s _ a;simp only;rw[a,Qb];exact .some rfl
def aet{t:fU}(ht:xb t):zi t=some true:=Sj ht
def so{nd sl k:Int}{x:aD}(h:pd nd sl k x)(hk:k<=999999):mg x=some true:=by
 have p:=h.pre;obtain⟨b,f,d⟩:=eqT (a:=x.az.aa) (b:=x.ab.aa) p.jt.ask.aL.sm;have c:=d.2 p.aL;subst c;unfold mg aO;simp only[etas,xa p.eP p.gf,IE p.jt ⟨p.lZ.1,by have:=p.lZ.2;omega⟩,f,aet p.timer,PW p.eP p.gf,Qa,Qc]
 rw[Qd (p.pS.trans p.aF.symm),Qd (p.uM.trans p.aK.symm),Qd p.round.1,Qd p.round.2,Qd p.next.1,Qd p.next.2,Qd h.done,Qd h.value]
 rfl
def yr(l:Z C)(h:l.length<=1000):bV l=some l:=by
 unfold bV;have hk:bl 16 (([]:Z C).length+l.length)=true:=br ⟨o_,o_⟩;rw[hk]
 cases l with
 |nil|cons x l=>simp
def abl{t:aq}(h:cI t):pJ t=some t:=(show pJ t=dn t from rfl).trans (eN h)
def Wl{m:aA}(ht:cI m.aa)(hv:m.bj.length<=1000)(a:m.aG.length<=1000):nR m=some m:=by unfold nR;simp only[etas,abl ht,yr _ hv,yr _ a,Qa]
def Yx{m:aA}(ht:cI m.aa)(hv:m.bj.length<=1000)(a:m.aG.length<=1000):oC m=some m:=by unfold oC;simp only[etas,eN ht,yr _ hv,yr _ a,Qa]
end
section
def al2{rec:(aq×Unit)->Y aq}{t:aq}(o:cI t)(y:∀u∈t.aR,rec (u,())=some u):pO rec t=some t:=by
 have B:=o.nodes;have hi:=o.len;unfold pO;rw[br ⟨O,O⟩,Qc];simp only[etas]
 have:=Yd.list (p:=λr=>r=t) (step:=λ(v1:Int×aq×(Z Int)×(Z aq)×Unit)=>
   bif (decide (v1.1<((List.length t.aR:Nat):Int)))then
   Option.bind (idx t.aR v1.1) λq=>
   Option.bind (rec (q,())) λj=>
   bif bl 56 (List.length v1.2.2.2.1+List.length [j])then
   some (inl ((aC .i64 v1.1 (1:Int)),(aq.mk v1.2.1.aN ([]:Z Int) ([]:Z aq)),v1.2.2.1,(v1.2.2.2.1++[j]),()))
   else none
   else
   Option.map inr (some (aq.mk v1.2.1.aN v1.2.2.1 v1.2.2.2.1))) t.aR hi (λi (s:Z aq)=>(i,(aq.mk t.aN [] []),t.bc,s,())) (λi s=>s=t.aR.take i) ?_ ?_ (s:=[]) t_
 .obtain⟨r,h1,rfl⟩:=this;exact h1
 .rintro i x s rfl D d A a f c;have g:t.aR[i]?=some x:=by rw[ba]at f;exact f
  simp only;rw[a,Qc,f,Qa,y x d,Qa,c,br ⟨o_,o_⟩,Qc];refine .some ⟨_,rfl,?_⟩;rw[List.take_add_one,g];rfl
 .rintro s rfl a;simp only;rw[a,Qb,QK];exact .some (aq.eta t)
def alW{n:Nat}:∀{t:aq},SizeOf.sizeOf t<n->cI t->yy n (t,())=some t:=by
 induction n with
 |zero=>intro t h;omega
 |succ n d=>intro t f c;show pO (yy n) t=some t;exact al2 c λu a=>d (t:=u) (by have:=sD a;omega) (c.inner u a)
def Yy{t:aq}(h:cI t):uk t=some t:=alW O h
end
section
def amV{n:Nat}(h:n<4611686018427387904):bu .u64 (n:Int)=n:=by unfold bu IntKind.wrap;simp[IntKind.signed,IntKind.bits];omega
def aeM{i j:Nat}(hi:i<=1000000)(c:j<=1000000):bu .i64 (kb .u64 (bu .u64 (aC .i64 (i:Int) (j:Int))) (1:Int))=(((i+j) / 2:Nat):Int):=by
 have h1:aC .i64 (i:Int) (j:Int)=((i+j:Nat):Int):=bH O O
 have a:kb .u64 (((i+j:Nat)):Int) (1:Int)=(((i+j) / 2:Nat):Int):=by
  show(((i+j:Nat)):Int).fdiv 2=_
  grind
 rw[h1,amV O,a];exact FN _ O
def KA{α ρ:Type}(l:Z α)(hl:l.length<=1000000)(P:α->Bool)(r:l.Pairwise λa b=>P b=true->P a=true){step:Int×Int×Unit->Y ((Int×Int×Unit)⊕ρ)}{fin:Nat->Y ρ}
  (h1:∀(i j m:Nat) (x:α),decide ((i:Int)<(j:Int))=true->j<=l.length->bu .i64 (kb .u64 (bu .u64 (aC .i64 (i:Int) (j:Int))) (1:Int))=(m:Int)->aC .i64 (m:Int) 1=((m+1:Nat):Int)->idx l (m:Int)=some x->step ((i:Int),(j:Int),())=some (.inl (bif P x then(((m+1:Nat):Int),(j:Int),())else((i:Int),(m:Int),()))))
  (E:∀i:Nat,decide ((i:Int)<(i:Int))=false->i<=l.length->step ((i:Int),(i:Int),())=Option.map inr (fin i)):
  aE step ((0:Int),(l.length:Int),())=fin (l.takeWhile P).length:=by
 have q:∀(l:Z α),(l.Pairwise λa b=>P b=true->P a=true)->∀i x,l[i]?=some x->(P x=true↔i<(l.takeWhile P).length):=by
  intro l
  induction l with
  |nil=>intro _ i x h;simp at h
  |cons y l o=>
   intro r i x h;rw[Q0]at r
   cases A:P y with
   |false|true=>
    rw[List.takeWhile_cons,A]
    grind
 have hk:(l.takeWhile P).length<=l.length:=(List.takeWhile_sublist P).length_le
 suffices g:∀(d i j:Nat),j=i+d->j<=l.length->i<=(l.takeWhile P).length->(l.takeWhile P).length<=j->aE step ((i:Int),(j:Int),())=fin (l.takeWhile P).length from g l.length 0 l.length O (Qs _) O hk
 intro d
 induction d using Nat.strongRecOn with
 |_ d o=>
  intro i j D c hi B
  by_cases h0:d=0
  .obtain rfl:j=i:=O;obtain rfl:(l.takeWhile P).length=j:=O;rw[fB,E _ (Qf (QF _)) c];cases fin (l.takeWhile P).length<;>rfl
  .have u:(i+j) / 2<l.length:=O;have hs:=h1 i j ((i+j) / 2) l[(i+j) / 2] (Qd O) c (aeM O O) (bH O O) (by rw[ba];exact Qj u)
   have ht:=q l r _ _ (Qj u)
   cases f:P l[(i+j) / 2]with
   |true=>rw[f]at hs;have:=ht.1 f;exact(bB hs).trans (o (j - ((i+j) / 2+1)) O _ _ O c O B)
   |false=>
    rw[f]at hs;have:¬(i+j) / 2<(l.takeWhile P).length:=λe=>by rw[ht.2 e]at f;cases f
    exact(bB hs).trans (o ((i+j) / 2 - i) O _ _ O O hi O)
def Nc{a b:C}:decide (zH a b=0)=decide (a=b):=by grind [bS,wB,zH,Hw,Vx,LL]
def aeY{l:Z C}{a:Nat}(c:a<=l.length)(h:l.length<=1000)(x:C):jZ l (a:Int) [x]=some (l.take a++[x]++l.drop a):=by grind [jZ,Er,nV]
def DE{α:Type}(P:α->Bool):∀(l:Z α),(∀j,j<(l.takeWhile P).length->∃y,l[j]?=some y/\P y=true)/\(∀y,l[(l.takeWhile P).length]?=some y->P y=false)
 |[]=>⟨λj h=>by simp at h,λy h=>by simp at h⟩
 |x::l=>by
  obtain⟨h1,c⟩:=DE P l
  cases a:P x with
  |false=>rw[List.takeWhile_cons,a];simp only[QB,Qx,qay];exact⟨λj h=>O,λy h=>by simp only[List.getElem?_cons_zero,Qk]at h;rw[<-h];exact a⟩
  |true=>
   rw[List.takeWhile_cons,a];simp only[Qr,QN];refine⟨λj h=> ?_,λy h=>c y (by simpa using h)⟩
   cases j with
   |zero=>exact⟨x,rfl,a⟩
   |succ j=>obtain⟨y,g1,g2⟩:=h1 j O;exact⟨y,by simpa using g1,g2⟩
def PA{α:Type}(P:α->Bool)(l:Z α):(l.takeWhile P).length<=l.length:=(List.takeWhile_sublist P).length_le
def amr{l:Z C}(h:VL l)(x:C):dU l x=some ((((l.takeWhile λy=>bS y x).length:Nat):Int),decide (x∈l),()):=by
 have hl:=h.len;unfold dU aO;refine(KA l h.uL (λy=>bS y x) (h.Jd.imp λ{a b} f u=>kQ.trans _ _ _ f u) (fin:=λk=>some (((k:Nat):Int),decide (l[k]?=some x),())) (λi j m y q D o r B=> ?_) (λi q hi=> ?_)).trans ?_
 .grind [CT,wB,bS]
 .simp only[q,Qb]
  by_cases c:i<l.length
  .rw[Qd (O:(i:Int)<(l.length:Int))];simp only[Qc,ba,Qj c,Qa,CT,Nc,Qo,Qk]
  .grind
 .obtain⟨h1,A⟩:=DE (λy=>bS y x) l
  congr 3;rw[qam];constructor
  .exact QL
  .intro o;obtain⟨i,hi⟩:=List.getElem?_of_mem o;have d:i<l.length:=(QH.1 hi).1
   have hk:(l.takeWhile λy=>bS y x).length=i:=by
    rcases Nat.lt_trichotomy (l.takeWhile λy=>bS y x).length i with g|g|g
    .have hk:(l.takeWhile λy=>bS y x).length<l.length:=O
     have:=A _ (Qj hk);have E:=List.pairwise_iff_getElem.1 h.Jd _ i hk d g
     grind
    .exact g
    .obtain⟨y,g1,g2⟩:=h1 i g;rw[hi]at g1;cases g1;rw[kQ.irrefl]at g2;cases g2
   rw[hk];exact hi
theorem acT{l:Z C}(h:VL l)(x:C):jb l x=some (oD l x):=by
 have hl:=h.len;unfold jb oD oO;rw[amr h x,Qa]
 by_cases a:x∈l
 .grind
 by_cases c:40<=l.length
 .grind
 rw[Qf a,Qf (O:¬(40:Int)<=(l.length:Int)),Qg (λe=>e.elim a c)]
 simp only[Qb,Qa,yr l O];rw[aeY (PA _ _) O,Qa];obtain⟨h1,d⟩:=DE (λy=>bS y x) l
 rw[Vj x l _ h1 d,Qg (λe=>a (QL e))]
 simp
def ab9(a b:Z C):Z C:=b.foldl (λl x=>eQ bS x l) a
def aib{a:Z C}(c:a.Pairwise (λx y=>bS x y=true))(b:Z C):(ab9 a b).Pairwise (λx y=>bS x y=true)/\∀x,x∈ab9 a b↔x∈b\/x∈a:=MT kQ b a c
theorem afO(a b:Z C):(ab9 a b).length<=a.length+b.length:=TB b a
def HI(m:aA):Z C:=m.bj++m.aG
def tB(L:Z aA):Z C:=ab9 [] (L.flatMap HI)
def Jn(L:Z aA):(tB L).Pairwise (λx y=>bS x y=true)/\∀x,x∈tB L↔∃m∈L,x∈m.bj\/x∈m.aG:=by
 obtain⟨h1,c⟩:=aib (a:=[]) List.Pairwise.nil (L.flatMap HI)
 grind [tB,HI]
theorem PC{l:Z C}(L:Z aA)(h1:l.Pairwise (λx y=>bS x y=true))(a:∀x,x∈l↔∃m∈L,x∈m.bj\/x∈m.aG):l=tB L:=
 kQ.unique h1 (Jn L).1 λx=>by rw[a,(Jn L).2]
theorem Vq{L:Z aA}(h:∀m∈L,VL m.bj/\VL m.aG):(L.flatMap HI).length<=80*L.length:=by
 induction L with
 |nil=>simp
 |cons m L a=>
  have h1:=a λx c=>h x (QI _ c)
  have f:=(h m QC).1.len;have d:=(h m QC).2.len
  grind [HI]
def VO{L:Z aA}(h:∀m∈L,VL m.bj/\VL m.aG):(tB L).length<=80*L.length:=by grind [afO,HI,Vq,tB]
def ak1{L:Z aA}(h:∀m∈L,VL m.bj/\VL m.aG)(hl:L.length<=100):oS L=some (tB L):=by
 have I:=Vq h
 have c:∀s:Z C,s.length<1000000->(∀x,x∈s↔∃m∈L,x∈m.bj\/x∈m.aG)->(Option.bind (gL s) λA=>Option.bind (fq A.2) λu=>some u)=some (tB L):=by
  intro s hs o;obtain⟨t,h1,Q,N,K⟩:=kQ.aci (cmp:=λx y=>fO x y) CT (λx y=>wB x y) s O
  have D:=Fl (eq:=λx y:C=>decide (x=y)) (ne:=λx y=> !decide (x=y)) (z:=bE) (λ_ _=>rfl) (λ_ _=>rfl) t O
  have E:gL s=some ((),t):=h1;have B:fq t=some (dd t):=D
  grind [PC]
 unfold oS
 suffices g:Yd (aE _ ((0:Int),([]:Z C),())) λr=>r=tB L by obtain⟨r,h1,rfl⟩:=g;exact h1
 refine Yd.list L O (λi (s:Z C)=>(i,s,())) (λi s=>s=(L.take i).flatMap HI) ?_ ?_ (s:=[]) t_
 .rintro i m s rfl J hm hi a d f;have j:L[i]?=some m:=by rw[ba]at d;exact d
  have e:L.take (i+1)=L.take i++[m]:=by rw[List.take_add_one,j];rfl
  have q:((L.take i).flatMap HI).length<=80*100:=QJ (Vq λx d=>h x (qa0 d)) (Nat.mul_le_mul_left _ (by rw[List.length_take];omega))
  have G:=(h m hm).1.len;have F:=(h m hm).2.len;simp only;rw[a,Qc,d,Qa,f,nV O O,Qc,nV O (by rw[QM];omega),Qc]
  refine .some ⟨_,rfl,?_⟩;rw[e,List.flatMap_append];simp[HI]
 .rintro s rfl a;rw[QK];simp only;rw[a,Qb,c _ O (λx=>by simp[HI])]
  exact .some rfl
def NK{a b:Z C}(S:a.Pairwise (λx y=>bS x y=true))(K:b.Pairwise (λx y=>bS x y=true))(h:a.length+b.length<=100000):
  Yd (kM a b) λr=>r.Pairwise (λx y=>bS x y=true)/\(∀x,x∈r↔x∈a\/x∈b)/\r.length<=a.length+b.length:=by
 unfold kM oO;simp only[aS];refine Yd.Hu (λ(v:Int×Int×Z C×Unit)=>∃i k:Nat,v.1=i/\v.2.1=k/\i<=a.length/\k<=b.length/\v.2.2.1.length<=i+k/\v.2.2.1.Pairwise (λx y=>bS x y=true)/\(∀x,x∈v.2.2.1↔x∈a.take i\/x∈b.take k)/\(∀x∈v.2.2.1,(∀y∈a.drop i,bS x y=true)/\∀y∈b.drop k,bS x y=true)) (λv=>a.length+b.length - (v.1.toNat+v.2.1.toNat)) ?_ ⟨0,0,rfl,rfl,O,O,t_,List.Pairwise.nil,t_,λx W=>absurd W QX⟩
 rintro⟨i',k',out,u⟩ ⟨i,k,e1,e2,hi,hk,hlen,E,q,d⟩;simp only at e1 e2 hlen E q d;subst e1 e2;have V:∀x:C,bl 16 (out.length+[x].length)=true:=λx=>br ⟨by simp only[QU];omega,by simp only[QU];omega⟩
 have hi1:aC .i64 (i:Int) 1=((i+1:Nat):Int):=bH O O;have F:aC .i64 (k:Int) 1=((k+1:Nat):Int):=bH O O;have ga:∀h:i<a.length,idx a (i:Int)=some a[i]:=λh=>by rw[ba];exact Qj h
 have gb:∀h:k<b.length,idx b (k:Int)=some b[k]:=λh=>by rw[ba];exact Qj h
 have tail:∀{l:Z C} (N:l.Pairwise (λx y=>bS x y=true)) {j:Nat} (Q:j<l.length),∀y∈l.drop (j+1),bS l[j] y=true:=by intro l N j Q;have:=N.sublist (List.drop_sublist j l);rw[QQ Q,Q0]at this;exact this.1
 have f:∀(x:C) (o g:Nat),o<=a.length->g<=b.length->i<=o->k<=g->i+k<o+g->(∀y,(y∈a.take o\/y∈b.take g)↔y=x\/y∈a.take i\/y∈b.take k)->(x∈a.drop i\/x∈b.drop k)->(∀y∈a.drop o,bS x y=true)->(∀y∈b.drop g,bS x y=true)->Yd (bif bl 16 (out.length+[x].length)then some (inl (((o:Nat):Int),((g:Nat):Int),(out++[x]),()))else(none:Y ((Int×Int×Z C×Unit)⊕Z C)))
   (Lp (λs'=>(∃i k:Nat,s'.1=i/\s'.2.1=k/\i<=a.length/\k<=b.length/\s'.2.2.1.length<=i+k/\s'.2.2.1.Pairwise (λx y=>bS x y=true)/\(∀x,x∈s'.2.2.1↔x∈a.take i\/x∈b.take k)/\(∀x∈s'.2.2.1,(∀y∈a.drop i,bS x y=true)/\∀y∈b.drop k,bS x y=true))/\a.length+b.length - (s'.1.toNat+s'.2.1.toNat)<a.length+b.length - ((i:Int).toNat+(k:Int).toNat)) (λr=>r.Pairwise (λx y=>bS x y=true)/\(∀x,x∈r↔x∈a\/x∈b)/\r.length<=a.length+b.length)):=by
  intro x o g h1 h2 h3 h4 h5 X G J I;rw[V x,Qc];refine .some ⟨⟨o,g,rfl,rfl,h1,h2,?_,?_,λy=> ?_,λy c=> ?_⟩,?_⟩
  .simp only[QM,QU];omega
  .rw[qai];refine⟨E,List.pairwise_singleton _ _,λy c z A=> ?_⟩
   rw[Qz.1 A];exact G.elim ((d y c).1 x) ((d y c).2 x)
  .rw[QA,Qz,q,X];exact or_comm
  .rcases QA.1 c with c|c
   .refine⟨λz A=>(d y c).1 z ?_,λz A=>(d y c).2 z ?_⟩
    .rw[show o=i+(o - i)by omega,<-List.drop_drop]at A
     exact qbc A
    .rw[show g=k+(g - k)by omega,<-List.drop_drop]at A
     exact qbc A
   .rw[Qz.1 c];exact⟨J,I⟩
  .simp only[QV];omega
 have U:∀(h:i<a.length) (y:C),y∈a.take (i+1)↔y=a[i]\/y∈a.take i:=λh y=>by rw[qab h,QA,Qz];exact or_comm
 have L:∀(h:k<b.length) (y:C),y∈b.take (k+1)↔y=b[k]\/y∈b.take k:=λh y=>by rw[qab h,QA,Qz];exact or_comm
 have da:∀h:i<a.length,a[i]∈a.drop i:=λh=>by rw[QQ h];exact QC
 have T:∀h:k<b.length,b[k]∈b.drop k:=λh=>by rw[QQ h];exact QC
 simp only
 by_cases c1:i<a.length
 .rw[Qd (O:(i:Int)<(a.length:Int))];simp only[Qc,Qa]
  by_cases c2:k=b.length
  .grind
  .have c3:k<b.length:=O;rw[Qf (O:¬(k:Int)=(b.length:Int)),ga c1,gb c3,Qf (O:¬(i:Int)=(a.length:Int))];simp only[Qb,Qa,xS,Hy,Nd,hi1,F]
   cases D:bS a[i] b[k]with
   |true=>
    refine f a[i] (i+1) k O hk O O O (λy=>by rw[U c1,or_assoc]) (.inl (da c1)) (tail S c1) λy c=> ?_
    rw[QQ c3]at c;rcases Qv.1 c with rfl|c
    .exact D
    .exact kQ.trans _ _ _ D (tail K c3 y c)
   |false=>
    cases B:bS b[k] a[i]with
    |true=>
     refine f b[k] i (k+1) hi O O O O (λy=>by rw[L c3,or_left_comm]) (.inr (T c3)) (λy c=> ?_) (tail K c3)
     rw[QQ c1]at c;rcases Qv.1 c with rfl|c
     .exact B
     .exact kQ.trans _ _ _ B (tail S c1 y c)
    |false=>
     have he:a[i]=b[k]:=kQ.total _ _ D B
     grind
 .rw[Qf (O:¬(i:Int)<(a.length:Int))];simp only[Qb];have ci:i=a.length:=O
  by_cases c2:k<b.length
  .rw[Qd (O:(k:Int)<(b.length:Int)),Qf (O:¬(k:Int)=(b.length:Int)),gb c2,Qd (O:(i:Int)=(a.length:Int))];simp only[Qb,Qc,Qa,F];refine f b[k] i (k+1) hi O O O O (λy=>by rw[L c2,or_left_comm]) (.inr (T c2)) (λy c=> ?_) (tail K c2)
   grind
  .rw[Qf (O:¬(k:Int)<(b.length:Int))];simp only[Qb,Qa];refine .some ⟨E,λx=> ?_,O⟩
   grind
def ain{m:aA}(h:VL m.bj/\VL m.aG):kM m.bj m.aG=some (tB [m]):=by
 have c:=h.1.len;have a:=h.2.len;obtain⟨r,h1,f,d,_⟩:=NK h.1.Jd h.2.Jd O
 grind [PC]
end
section
def xP(n:av):aA:=⟨n.ak,n.aI,n.aa,n.bj,n.aG⟩
def orN(b:Bool)(s:Nat)(k:Int):Nat:=if b then s|||2 ^ k.toNat else s
def aez{b:Bool}{s:Nat}{k:Int}(h:s<1024)(hk:k<10):orN b s k<1024:=by
 unfold orN;split
 .exact Dl h hk
 .exact h
def Jy(x:C)(s:Nat×Nat)(m:aA):Nat×Nat:=(orN (decide (x∈m.bj)) s.1 m.ak,orN (decide (x∈m.aG)) s.2 m.ak)
def mP(L:Z aA)(x:C):Nat×Nat:=L.foldl (Jy x) (0,0)
def Uq(L:Z aA):Prop:=L.length<=100/\∀m∈L,0<=m.ak/\m.ak<10/\VL m.bj/\VL m.aG
def VU{x:C}:∀{L:Z aA} (h:∀m∈L,0<=m.ak/\m.ak<10/\VL m.bj/\VL m.aG) {s:Nat×Nat},s.1<1024->s.2<1024->(L.foldl (Jy x) s).1<1024/\(L.foldl (Jy x) s).2<1024
 |[],_,s,h1,a=>⟨h1,a⟩
 |m::L,h,s,h1,a=>by obtain⟨_,g,_⟩:=h m QC;exact VU (L:=L) (λy c=>h y (QI _ c)) (aez h1 g) (aez a g)
def DF{L:Z aA}(h:Uq L)(x:C):(mP L x).1<1024/\(mP L x).2<1024:=VU h.2 s_ s_
def R4{L:Z aA}(h:Uq L)(x:C){step:Int×Int×Int×Unit->Y ((Int×Int×Int×Unit)⊕(Int×Int×Unit))}
  (h1:∀(i a b:Nat) (m:aA),decide ((i:Int)<(L.length:Int))=true->idx L (i:Int)=some m->L[toNat (i:Int)]?=some m->aC .i64 (i:Int) 1=((i+1:Nat):Int)->0<=m.ak->m.ak<10->VL m.bj->VL m.aG->a<1024->b<1024->step ((a:Int),(b:Int),(i:Int),())=some (.inl (((Jy x (a,b) m).1:Int),((Jy x (a,b) m).2:Int),((i+1:Nat):Int),())))
  (u:∀a b:Nat,decide ((L.length:Int)<(L.length:Int))=false->step ((a:Int),(b:Int),(L.length:Int),())=Option.map inr (some ((a:Int),(b:Int),()))):
  aE step ((0:Int),(0:Int),(0:Int),())=some (((mP L x).1:Int),((mP L x).2:Int),()):=by
 suffices o:Yd (aE step ((0:Int),(0:Int),(0:Int),())) λr=>r=(((mP L x).1:Int),((mP L x).2:Int),())by obtain⟨r,g,rfl⟩:=o;exact g
 refine Yd.list L (by have:=h.1;omega) (λi (s:Int×Int)=>(s.1,s.2,i,())) (λi s=>s=(((mP (L.take i) x).1:Int),((mP (L.take i) x).2:Int))) ?_ ?_ (s:=(0,0)) rfl
 .rintro i m s rfl D hm hi c j f;obtain⟨g0,g1,A,B⟩:=h.2 m hm;have d:=DF (L:=L.take i) ⟨by rw[List.length_take];have:=h.1;omega,λy q=>h.2 y (qa0 q)⟩ x
  have e:L.take (i+1)=L.take i++[m]:=by rw[List.take_add_one,show L[i]?=some m by rw[ba]at j;exact j];rfl
  refine .of_eq (h1 i _ _ m c j (NZ j) f g0 g1 A B d.1 d.2) ⟨(_,_),rfl,?_⟩;rw[e];simp only[mP,List.foldl_append,QZ,List.foldl_nil]
 .rintro s rfl c;rw[QK];exact .of_eq (u _ _ c) rfl
def Ub{b:Bool}{s:Nat}{k:Int}(h:s<1024)(h0:0<=k)(h1:k<10):(if b then tH .i64 (s:Int) (cj .i64 (1:Int) k)else(s:Int))=((orN b s k:Nat):Int):=by
 cases b with
 |true=>simp only[Qr,orN];exact te h h0 h1
 |false=>rfl
def abm{L:Z aA}(h:Uq L)(x:C):ib L x=some (((mP L x).1:Int),((mP L x).2:Int),()):=by
 unfold ib;refine R4 h x (λi a b m d o j c g f u y r q=> ?_) (λa b d=> ?_)
 .have e1:=Ub (b:=decide (x∈m.bj)) r g f;have e2:=Ub (b:=decide (x∈m.aG)) q g f;simp only[d,o,c,Qc,Qa,aS,acV _ u.uL,acV _ y.uL,Jy,<-e1,<-e2,Qg (show¬m.ak<0 by omega)]
  cases decide (x∈m.bj)<;>cases decide (x∈m.aG)<;>rfl
 .simp only[d,Qb]
theorem df.said{n:av}(h:df n):Uq (n.au++[xP n]):=⟨by have:=h.len;simp;omega,R6 h⟩
def abb{n:av}(h:df n)(x:C):mC n x=some (((mP (n.au++[xP n]) x).1:Int),((mP (n.au++[xP n]) x).2:Int),()):=by
 have j:=h.len;unfold mC xc;simp only[etas,Qa,aS];rw[nV O o_,Qc,nV O o_,Qc];simp only[List.nil_append];refine R4 h.said x (λi a b m d g c f q o y A u r=> ?_) (λa b d=> ?_)
 .have e1:=Ub (b:=decide (x∈m.bj)) u q o;have e2:=Ub (b:=decide (x∈m.aG)) r q o;show(λ_=>_) _=_
  unfold xP at d g c;simp only[d,g,c,f,Qc,Qa,L9 _ y.uL,L9 _ A.uL,Jy,<-e1,<-e2,Qg (show¬m.ak<0 by omega)]
  cases decide (x∈m.bj)<;>cases decide (x∈m.aG)<;>rfl
 .unfold xP at d ⊢;simp only[d,Qb]
def JW(m:aA):de:=⟨m.ak,m.aI,m.aa,[],[]⟩
def JB(l:Z bw)(m:de):Z bw:=l.set m.ak.toNat ⟨true,m.aa⟩
def qN(n:av):Z bw:=((n.au.map JW).foldl JB (replicate 10 ⟨false,vg⟩)).set n.ak.toNat ⟨true,n.aa⟩
structure Ec (m:de):Prop where
 n0:0<=m.ak
 n1:m.ak<10
 seq:1<=m.aI
 aL:cW m.aa
 di:m.bj=[]
 eA:m.aG=[]
def wE.msg{m:aA}(h:wE m):Ec (JW m):=⟨h.n0,h.n1,h.seq,h.aL,rfl,rfl⟩
def air{m:de}(h:Ec m):tw m=some true:=by
 have a:qJ []=some true:=by unfold qJ;exact bN rfl
 unfold tw aO;simp only[etas,h.di,h.eA,a,dw h.aL];rw[Qd h.n0,Qd h.n1,Qd h.seq];rfl
def aiN{m:de}(h:Ec m):uY m=some true:=by
 have a:vP []=some true:=by unfold vP;exact bN rfl
 unfold uY sQ aO;simp only[etas,h.di,h.eA,a,c6 h.aL];rw[Qd h.n0,Qd h.n1,Qd h.seq];rfl
def JA:∀{l:Z de} (h:∀m∈l,Ec m) {r:Z bw},vt r->vt (l.foldl JB r)
 |[],_,r,a=>a
 |m::l,h,r,a=>JA (l:=l) (λy c=>h y (QI _ c)) (a.set _ (h m QC).aL.sm)
def acq:vt (replicate 10 ⟨false,vg⟩):=⟨by rw[List.length_replicate],λm a=>by rw[(List.mem_replicate.1 a).2];exact SQ⟩
def X3{l:Z de}(h:∀m∈l,Ec m)(hl:l.length<=1000){fin:Z bw->Y bs}{step:Int×bs×Z bw×Unit->Y ((Int×bs×Z bw×Unit)⊕bs)}
  (h1:∀(i:Nat) (m:de) (s:Z bw) (y:bw),decide ((i:Int)<(l.length:Int))=true->idx l (i:Int)=some m->aC .i64 (i:Int) 1=((i+1:Nat):Int)->m∈l->Ec m->idx s m.ak=some y->s[m.ak.toNat]?=some y->step ((i:Int),bs.mk [],s,())=some (.inl (((i+1:Nat):Int),bs.mk [],JB s m,())))
  (j:∀s,decide ((l.length:Int)<(l.length:Int))=false->vt s->step ((l.length:Int),bs.mk [],s,())=Option.map inr (fin s)):
  aE step ((0:Int),bs.mk [],replicate 10 ⟨false,vg⟩,())=fin (l.foldl JB (replicate 10 ⟨false,vg⟩)):=by
 suffices c:∀(k i:Nat),i+k=l.length->aE step ((i:Int),bs.mk [],(l.take i).foldl JB (replicate 10 ⟨false,vg⟩),())=fin (l.foldl JB (replicate 10 ⟨false,vg⟩))from c l.length 0 O
 intro k
 induction k with
 |zero=>intro i hi;obtain rfl:i=l.length:=O;rw[QK,fB,j _ (Qf (QF _)) (JA h acq)];cases fin (l.foldl JB (replicate 10 ⟨false,vg⟩))<;>rfl
 |succ k f=>
  intro i hi;have a:i<l.length:=O;have d:=h l[i] (QE a);obtain⟨y,g1,g2⟩:=(JA (l:=l.take i) (λz g=>h z (qa0 g)) acq).get d.n0 d.n1
  have hs:=h1 i l[i] _ y (Qd O) (by rw[ba];exact Qj a) (bH O O) (QE a) d g1 g2
  refine(bB hs).trans ?_;have:=f (i+1) O;rw[qab a,List.foldl_append]at this;exact this
def XS:(decide ((10:Int)<=(10:Int))&&decide (0<=(10:Int))&&bl 64 (toNat (10:Int)))=true:=by rw[br s_];rfl
section
variable{v:Int}{t:aq}(h0:0<=v)(h1:v<10)(ht:cW t){l:Z de}(hl:l.length<=1000)(h:∀m∈l,Ec m)
 include h0 h1 ht hl h
theorem af4:sO v t l=some ⟨(l.foldl JB (replicate 10 ⟨false,vg⟩)).set v.toNat ⟨true,t⟩⟩:=by
 unfold sO aO;rw[XS,Qc];simp only[etas,aS];refine(X3 h hl (fin:=λs=>some ⟨s.set v.toNat ⟨true,t⟩⟩) (λi m s y f q a u d g g2=> ?_) (λs f j=> ?_)).trans rfl
 .simp only[f,q,a,Qc,Qa,de.eta,air d,g,g2];rfl
 .obtain⟨x,g,g2⟩:=j.get h0 h1;have c:=j.set v.toNat (m:=⟨false,⟨0,[],[]⟩⟩) SQ;obtain⟨r,k1,o⟩:=c.get h0 h1;simp only[f,Qb,Qd h0,Qd h1,Qc,Qa,g,g2,dw ht,Ql,k1,o,List.set_set]
theorem agk(d:∀m∈l,m.ak≠v):sR v t l=some ⟨(l.foldl JB (replicate 10 ⟨false,vg⟩)).set v.toNat ⟨true,t⟩⟩:=by
 unfold sR sQ aO;rw[XS,Qc];simp only[etas,aS];refine(X3 h hl (fin:=λs=>some ⟨s.set v.toNat ⟨true,t⟩⟩) (λi m s y f j c q a g g2=> ?_) (λs f o=> ?_)).trans rfl
 .simp only[f,j,c,Qc,Qa,de.eta,Qf (d m q),Qt,aiN a,Yy a.aL.sm,g,g2];rfl
 .obtain⟨x,g,g2⟩:=o.get h0 h1;simp only[f,Qb,Qd h0,Qd h1,Qc,Qa,g,g2,c6 ht,Ql,Yy ht.sm]
end
def Ws{L:Z aA}(hl:L.length<=100){fin:Z de->Y bs}{step:Int×Z de×Unit->Y ((Int×Z de×Unit)⊕bs)}
  (h1:∀(i:Nat) (m:aA) (s:Z de),decide ((i:Int)<(L.length:Int))=true->idx L (i:Int)=some m->aC .i64 (i:Int) 1=((i+1:Nat):Int)->s.length=i->step ((i:Int),s,())=some (.inl (((i+1:Nat):Int),s++[JW m],())))
  (f:∀s,decide ((L.length:Int)<(L.length:Int))=false->step ((L.length:Int),s,())=Option.map inr (fin s)):
  aE step ((0:Int),[],())=fin (L.map JW):=by
 suffices c:∀(k i:Nat),i+k=L.length->aE step ((i:Int),(L.take i).map JW,())=fin (L.map JW)from c L.length 0 O
 intro k
 induction k with
 |zero=>intro i hi;obtain rfl:i=L.length:=O;rw[QK,fB,f _ (Qf (QF _))];cases fin (L.map JW)<;>rfl
 |succ k d=>
  intro i hi;have a:i<L.length:=O;have hs:=h1 i L[i] ((L.take i).map JW) (Qd O) (by rw[ba];exact Qj a) (bH O O) o_
  refine(bB hs).trans ?_;have:=d (i+1) O;rw[qab a,List.map_append]at this;exact this
section
variable{n:av}(h:df n)
 include h
theorem df.agu:∀m∈n.au.map JW,Ec m:=λm c=>by obtain⟨x,a,rfl⟩:=QO.1 c;exact(h.heard x a).1.msg
theorem EU:CH ⟨qN n⟩:=((JA h.agu acq).set n.ak.toNat (m:=⟨true,n.aa⟩) h.ask.aL.sm).sc
theorem aee:nN n=some ⟨qN n⟩:=by
 have d:=h.len;unfold nN;simp only[etas];refine(Ws (L:=n.au) O (fin:=λs=>Option.bind (sO n.ak n.aa s) λf=>some f) (λi m s c g a hs=> ?_) (λs c=> ?_)).trans ?_
 .simp only[c,g,a,Qc,Qa];rw[nV O (by simp only[QU];have:=qal c;omega)]
  rfl
 .simp only[c,Qb]
 .rw[af4 h.ask.v0 h.ask.v1 h.ask.aL o_ h.agu];rfl
theorem akM:qY n=some ⟨qN n⟩:=by
 have f:=h.len;unfold qY;simp only[etas];refine(Ws (L:=n.au) O (fin:=λs=>Option.bind (sR n.ak n.aa s) λg=>some g) (λi m s c d a hs=> ?_) (λs c=> ?_)).trans ?_
 .simp only[c,d,a,Qc,Qa];rw[nV O (by simp only[QU];have:=qal c;omega)]
  rfl
 .simp only[c,Qb]
 .rw[agk h.ask.v0 h.ask.v1 h.ask.aL o_ h.agu (λm j=>by
   obtain⟨x,d,rfl⟩:=QO.1 j
   exact(h.heard x d).2)]
  rfl
end
 def uB(n:av)(x:C):Bool:= !decide (x∈n.aG)&&decide (n.aG.length<40)&&tQ (qN n) n.ak.toNat (mP (n.au++[xP n]) x).1 (mP (n.au++[xP n]) x).2
 def Nz(n:av)(x:C):Bool:=(gq (qN n) (mP (n.au++[xP n]) x).2).testBit n.ak.toNat
def fR(n:av):Z C:=tB (n.au++[xP n])
section
variable{n:av}(h:df n)
 include h
theorem ahD(x:C):uJ n x=some (uB n x):=by
 obtain⟨g,a⟩:=CZ h;obtain⟨f,d⟩:=DF h.said x;have c:=yQ (EU h) a f d;rw[<-g]at c;unfold uJ uB;simp only[etas,aS,abb h,L9 _ h.eA.uL,aee h,c,Qa];have i:decide ((n.aG.length:Int)<40)=decide (n.aG.length<40):=by rw[qam];omega
 rw[i];cases decide (x∈n.aG)<;>cases decide (n.aG.length<40)<;>rfl
theorem Kj:∀m∈n.au++[xP n],VL m.bj/\VL m.aG:=λm a=>⟨(R6 h m a).2.2.1,(R6 h m a).2.2.2⟩
theorem Ww:(fR n).length<=880:=by have h1:=VO (Kj h);have:=h.len;rw[QM,QU]at h1;unfold fR;omega
theorem aeV{x:C}(a:x∈fR n):iU x:=by obtain⟨m,hm,g⟩:=((Jn _).2 x).1 a;exact g.elim ((Kj h m hm).1.uu x) ((Kj h m hm).2.uu x)
theorem ait:qI n=some (fR n):=by
 have A:=h.len;have L:=h.di.len;have K:=h.eA.len;unfold qI;obtain⟨r,E,k1,D,N⟩:=NK h.di.Jd h.eA.Jd O;rw[E,Qa]
 suffices o:Yd (aE _ (r,(0:Int),())) λq=>q=fR n by obtain⟨q,g,rfl⟩:=o;exact g
 refine Yd.list n.au O (λi (s:Z C)=>(s,i,())) (λi s=>s.Pairwise (λx y=>bS x y=true)/\s.length<=80+80*i/\∀x,x∈s↔(x∈n.bj\/x∈n.aG)\/∃m∈n.au.take i,x∈m.bj\/x∈m.aG) ?_ ?_ ⟨k1,O,λx=>by rw[D];simp⟩
 .rintro i m s ⟨s1,s2,j⟩ Q hm hi c u f;have d:=(h.heard m hm).1;have J:=d.di.len;have I:=d.eA.len;obtain⟨G,g0,g1,g2,g3⟩:=NK d.di.Jd d.eA.Jd O;obtain⟨B,F,e1,e2,S⟩:=NK s1 g1 O;simp only;rw[c,Qc,u,Qa,f,g0,Qa,F];refine .some ⟨B,rfl,e1,O,λx=> ?_⟩
  have e:n.au.take (i+1)=n.au.take i++[m]:=by rw[List.take_add_one,show n.au[i]?=some m by rw[ba]at u;exact u];rfl
  rw[e2,j,g2,e];simp only[QA,Qz,or_assoc];constructor
  .rintro(a|a|⟨m',a,b⟩|a)
   .exact .inl a
   .exact .inr (.inl a)
   .exact .inr (.inr ⟨m',.inl a,b⟩)
   .exact .inr (.inr ⟨m,.inr rfl,a⟩)
  .rintro(a|a|⟨m',a|rfl,b⟩)
   .exact .inl a
   .exact .inr (.inl a)
   .exact .inr (.inr (.inl ⟨m',a,b⟩))
   .exact .inr (.inr (.inr b))
 .rintro s ⟨s1,s2,j⟩ c;rw[QK]at j;simp only;rw[c,Qb];refine .some (PC _ s1 λx=> ?_)
  rw[j];simp only[QA,Qz];constructor
  .rintro(a|⟨m',a,b⟩)
   .exact⟨xP n,.inr rfl,a⟩
   .exact⟨m',.inl a,b⟩
  .rintro⟨m',a|rfl,b⟩
   .exact .inr ⟨m',a,b⟩
   .exact .inl b
theorem ZT:cx n.au=some n.au:=by
 have a:=h.len;unfold cx;have hk:bl 120 (([]:Z aA).length+n.au.length)=true:=nV O o_;rw[hk]
 cases n.au with
 |nil|cons x l=>simp
theorem aeu:lA n ⟨qN n⟩=some (match(fR n).find? (uB n)with|some x=>(x,true,())|none=>(⟨#[]⟩,false,())):=by
 have A:=h.len;obtain⟨G,d⟩:=CZ h;have I:=Ww h;unfold lA ky aO;simp only[etas,ZT h,Qa];rw[nV O o_,Qc];have o:oS (n.au++[(⟨n.ak,n.aI,n.aa,n.bj,n.aG⟩:aA)])=some (fR n):=ak1 (Kj h) h.said.1;rw[o,Qa];refine(BP (fR n) O (uB n) (f:=λ_ x=>some (x,true,())) (fin:=some (⟨#[]⟩,false,())) (λi x hi E y r q=> ?_) (λ_ y=> ?_)).trans ?_
 .obtain⟨D,B⟩:=DF h.said x;have g:=Et (EU h) d D B;rw[<-G]at g;have a:ib (n.au++[(⟨n.ak,n.aI,n.aa,n.bj,n.aG⟩:aA)]) x=_:=abm h.said x;have u:decide ((n.aG.length:Int)<40)=decide (n.aG.length<40):=by rw[qam];omega
  simp only[y,r,q,Qc,Qa,a,acV _ h.eA.uL,g,u,uB];cases decide (x∈n.aG)<;>cases decide (n.aG.length<40)<;>cases tQ (qN n) n.ak.toNat (mP (n.au++[xP n]) x).1 (mP (n.au++[xP n]) x).2<;>rfl
 .simp only[y,Qb]
 .cases g:(fR n).findIdx? (uB n)with
  |none=>
   have:(fR n).find? (uB n)=none:=List.find?_eq_none.2 λx r=>by rw[List.findIdx?_eq_none_iff.1 g x r];simp
   rw[this]
  |some i=>
   obtain⟨hi,F,c⟩:=List.findIdx?_eq_some_iff_getElem.1 g;have:(fR n).find? (uB n)=some (fR n)[i]:=List.find?_eq_some_iff_getElem.2 ⟨F,i,hi,rfl,λj J=>by simpa using c j J⟩
   rw[this];simp only[Qj hi,Qa]
end
end
section
def Vm(x:Int):Z aq->Bool
 |[]=>false
 |u::_=>decide (x∈u.bc)
def Zl(t:aq)(x:Int):Bool:=decide (x∈t.bc)||Vm x t.aR
def wz(t:aq):Int:=((t.bc.length+t.aR.length:Nat):Int)
def KO(t:aq)(x:Int):fZ×Bool×Unit:=if Zl t x then(⟨t.aN,wz t⟩,true,())else(⟨0,0⟩,false,())
def den_add(t:aq)(h:t.bc.length+t.aR.length<=1000):aC .i64 (t.bc.length:Int) (t.aR.length:Int)=wz t:=by rw[bH O O];unfold wz;omega
def ahI{a b:Int}(h0:0<=a*b)(h:a*b<=9223372036854775807):sv .i64 a b=a*b:=wrap64 O h
def akZ(l:Z Int)(hl:l.length<=1000000)(x:Int):nh l x=some (decide (x∈l)):=by
 unfold nh uG
 have:=Yd.list (p:=λr=>decide (0<=r)=decide (x∈l)) (step:=λ(v1:Int×Unit)=>
   bif (decide (v1.1<((List.length l:Nat):Int)))then
   Option.bind (idx l v1.1) λg=>
   bif (decide (x=g))then
   Option.map inr (some v1.1)
   else
   some (inl ((aC .i64 v1.1 (1:Int)),()))
   else
   Option.map inr (some (-1:Int))) l hl (λi (_:Unit)=>(i,())) (λi _=>x∉l.take i) ?_ ?_ (s:=()) t_
 .obtain⟨r,h1,o⟩:=this;rw[h1,Qa,o]
 .intro i y s hs q j hi a f d;simp only;rw[a,Qc,f,Qa,d]
  by_cases c:x=y
  .rw[Qd c,Qc];refine .some ?_;show decide ((0:Int)<=(i:Int))=decide (x∈l);rw[Qd (O:(0:Int)<=(i:Int))];exact(Qd (by rw[c];exact j)).symm
  .rw[Qf c,Qb];refine .some ⟨(),rfl,?_⟩;rw[List.take_add_one,show l[i]?=some y by rw[ba]at f;exact f]
   simp only[qbz,QA,Qz];exact λh=>h.elim hs c
 .intro s hs a;simp only;rw[a,Qb];rw[QK]at hs;refine .some ?_;show decide ((0:Int)<= -1)=decide (x∈l);rw[Qf hs];rfl
def aeG{ρ:Type}(l:Z Int)(hl:l.length<=1000000)(x:Int)(z:fZ){hit:Y ρ}{fin:Y ρ}{step:Int×fZ×Unit->Y ((Int×fZ×Unit)⊕ρ)}
  (h1:∀(i:Nat) (y:Int),decide ((i:Int)<(l.length:Int))=true->idx l (i:Int)=some y->aC .i64 (i:Int) 1=((i+1:Nat):Int)->step ((i:Int),z,())=bif decide (y=x)then Option.map inr hit else some (.inl (((i+1:Nat):Int),z,())))
  (j:decide ((l.length:Int)<(l.length:Int))=false->step ((l.length:Int),z,())=Option.map inr fin):
  aE step ((0:Int),z,())=if x∈l then hit else fin:=by
 suffices f:∀(k i:Nat),i+k=l.length->aE step ((i:Int),z,())=if x∈l.drop i then hit else fin from by have:=f l.length 0 O;rw[List.drop_zero]at this;exact this
 intro k
 induction k with
 |zero=>intro i hi;obtain rfl:i=l.length:=O;rw[fB,j (Qf (QF _)),Q9,Qg QX];cases fin<;>rfl
 |succ k g=>
  intro i hi;have a:i<l.length:=O;have hs:=h1 i l[i] (Qd O) (by rw[ba];exact Qj a) (bH O O)
  rw[QQ a]
  by_cases c:l[i]=x
  .rw[Qd c,Qc]at hs;rw[fB,hs,Qe (by rw[<-c];exact QC)]
   cases hit<;>rfl
  .rw[Qf c,Qb]at hs;rw[bB hs,g (i+1) O]
   by_cases d:x∈l.drop (i+1)
   .rw[Qe d,Qe (QI _ d)]
   .rw[Qg d,Qg (λe=>(Qv.1 e).elim (λe=>c e.symm) d)]
def TC{l:Z aq}(hl:l=[]\/∃y,l=[⟨1,[y],[]⟩]){x:Int}{th n:Int}(d:1<=th/\th<=1000)(j:1<=n/\n<=1000)(z:fZ){rec:aq->Y (fZ×Bool×Unit)}
  (f:∀y,l=[⟨1,[y],[]⟩]->rec ⟨1,[y],[]⟩=some (KO ⟨1,[y],[]⟩ x)) {step:Int×fZ×Unit->Y ((Int×fZ×Unit)⊕(fZ×Bool×Unit))}
  (h1:∀(i:Nat) (u:aq),decide ((i:Int)<(l.length:Int))=true->idx l (i:Int)=some u->aC .i64 (i:Int) 1=((i+1:Nat):Int)->step ((i:Int),z,())=Option.bind (rec u) λr=>bif r.2.1 then Option.map inr (some (⟨sv .i64 th r.1.Xc,sv .i64 n r.1.Xd⟩,true,()))else some (.inl (((i+1:Nat):Int),z,())))
  (c:decide ((l.length:Int)<(l.length:Int))=false->step ((l.length:Int),z,())=Option.map inr (some (⟨0,0⟩,false,()))):
  aE step ((0:Int),z,())=some (if Vm x l then(⟨th,n⟩,true,())else(⟨0,0⟩,false,())):=by
 rcases hl with rfl|⟨y,rfl⟩
 .exact bN (c s_)
 .have g:=h1 0 _ t_ rfl rfl;rw[f y rfl]at g;simp only[Qa,KO,Zl,Vm,qbI,wz,QU,qay]at g
  by_cases a:x∈[y]
  .simp only[Qd a,Qr,Qc]at g;rw[ahI O O,ahI o_ o_]at g;refine bN (g.trans ?_);simp only[Vm,Qd a,Qr,Int.mul_one];simp
  .simp only[Qf a,QB,Qx,Qb]at g;refine(bB g).trans ((bN (c t_)).trans ?_);simp only[Vm,Qf a,QB,Qx]
def cW.aeZ{t:aq}(h:cW t):t.aR=[]\/∃y,t.aR=[⟨1,[y],[]⟩]:=h.inner.elim .inl λ⟨x,_,_,e⟩=> .inr ⟨x,e⟩
def cW.total{t:aq}(h:cW t):t.bc.length+t.aR.length<=11/\1<=t.bc.length+t.aR.length:=by have h1:=h.len;have a:=h.th;rcases h.inner with e|⟨_,_,_,e⟩<;>rw[e]at a ⊢<;>simp only[qay,QU]at a ⊢<;>omega
def abk{rec:(aq×Int×Unit)->Y (fZ×Bool×Unit)}{t:aq}{x:Int}(h1:t.aR=[]\/∃y,t.aR=[⟨1,[y],[]⟩])(j:t.bc.length<=100)(d:1<=t.aN/\t.aN<=1000)(o:1<=t.bc.length+t.aR.length)
  (g:∀y,t.aR=[⟨1,[y],[]⟩]->rec (⟨1,[y],[]⟩,x,())=some (KO ⟨1,[y],[]⟩ x)):oW rec t x=some (KO t x):=by
 have hl:t.aR.length<=1:=by rcases h1 with e|⟨_,e⟩<;>rw[e]<;>simp
 unfold oW;simp only[akZ t.bc O,den_add t O,Qa];unfold KO Zl
 cases decide (x∈t.bc)with
 |true=>rfl
 |false=>
  simp only[Qb,qa8];rcases h1 with e|⟨y,e⟩
  .rw[e];exact bN rfl
  .refine(TC (l:=t.aR) (.inr ⟨y,e⟩) (th:=t.aN) (n:=wz t) d (by unfold wz;omega) ⟨0,0⟩ (rec:=λu=>rec (u,x,())) g (λi u a f c=> ?_) (λa=> ?_)).trans rfl
   .simp only[a,f,c,Qc,Qa,etas]
   .simp only[a,Qb]
def aa8{rec:(aq×Int×Unit)->Y (fZ×Bool×Unit)}{t:aq}{x:Int}(h1:t.aR=[]\/∃y,t.aR=[⟨1,[y],[]⟩])(j:t.bc.length<=100)(f:1<=t.aN/\t.aN<=1000)(o:1<=t.bc.length+t.aR.length)
  (g:∀y,t.aR=[⟨1,[y],[]⟩]->rec (⟨1,[y],[]⟩,x,())=some (KO ⟨1,[y],[]⟩ x)):k9 rec t x=some (KO t x):=by
 have hl:t.aR.length<=1:=by rcases h1 with e|⟨_,e⟩<;>rw[e]<;>simp
 unfold k9;refine(aeG t.bc O x ⟨0,0⟩ (hit:=some (⟨t.aN,wz t⟩,true,())) (fin:=some (if Vm x t.aR then(⟨t.aN,wz t⟩,true,())else(⟨0,0⟩,false,()))) (λi y a d c=> ?_) (λa=> ?_)).trans ?_
 .simp only[a,d,c,Qc,Qa,den_add t O]
 .simp only[a,Qb,den_add t O];congr 1;rcases h1 with e|⟨y,e⟩
  .rw[e];exact bN rfl
  .refine(TC (l:=t.aR) (.inr ⟨y,e⟩) (th:=t.aN) (n:=wz t) f (by unfold wz;omega) ⟨0,0⟩ (rec:=λu=>rec (u,x,())) g (λi u a d c=> ?_) (λa=> ?_)).trans rfl
   .simp only[a,d,c,Qc,Qa,etas]
   .simp only[a,Qb]
 .unfold KO Zl
  by_cases d:x∈t.bc
  .rw[Qe d,Qd d];rfl
  .rw[Qg d,Qf d,qa8]
def pW{t:aq}(h:cW t)(x:Int):Bc t x=some (KO t x):=by
 have h1:=h.total;have d:=h.th;have c:=h.len;show oW (AZ (SizeOf.sizeOf t+SizeOf.sizeOf x)) t x=_;refine abk h.aeZ O O h1.2 λy e=> ?_
 obtain⟨n,a⟩:∃n,SizeOf.sizeOf t+SizeOf.sizeOf x=n+1:=by obtain⟨n,a⟩:=FQ t;exact⟨n+SizeOf.sizeOf x,O⟩
 rw[a];show oW (AZ n) ⟨1,[y],[]⟩ x=_;exact abk (.inl rfl) t_ t_ t_ λy e=>by cases e
def rW{t:aq}(h:cW t)(x:Int):zm t x=some (KO t x):=by
 have h1:=h.total;have d:=h.th;have c:=h.len;show k9 (vx (SizeOf.sizeOf t+SizeOf.sizeOf x)) t x=_;refine aa8 h.aeZ O O h1.2 λy e=> ?_
 obtain⟨n,a⟩:∃n,SizeOf.sizeOf t+SizeOf.sizeOf x=n+1:=by obtain⟨n,a⟩:=FQ t;exact⟨n+SizeOf.sizeOf x,O⟩
 rw[a];show k9 (vx n) ⟨1,[y],[]⟩ x=_;exact aa8 (.inl rfl) t_ t_ t_ λy e=>by cases e
def N0(a b c d:Int):∃r,pI a b c d=some r/\se a b c d=some r/\0<=r/\r<4294967296:=by
 have f:∀n:Int,0<=bu .u32 n/\bu .u32 n<4294967296:=λn=>by unfold bu IntKind.wrap;simp[IntKind.signed,IntKind.bits];omega
 unfold pI se;exact⟨_,rfl,rfl,f _⟩
 def pT(a b c d:Int):Int:=Classical.choose (N0 a b c d)
def Yl(a b c d:Int):pI a b c d=some (pT a b c d):=(qbj (N0 a b c d)).1
def aex(a b c d:Int):se a b c d=some (pT a b c d):=(qbj (N0 a b c d)).2.1
def Zp(a b c d:Int):0<=pT a b c d/\pT a b c d<4294967296:=(qbj (N0 a b c d)).2.2
 def z6(t:aq)(v aK round k:Int):Bool:=decide (k=v)||(Zl t k&&decide (pT 1 aK round k*wz t<t.aN*4294967296))
section
variable{t:aq}{v aK round:Int}(h:Fu t v aK round)
 include h
theorem abx(k:Int):sv .u64 (bu .u64 (pT 1 aK round k)) (bu .u64 (wz t))=pT 1 aK round k*wz t/\cj .u64 (bu .u64 t.aN) (32:Int)=t.aN*4294967296/\sv .i64 (bu .i64 (pT 1 aK round k)) (wz t)=pT 1 aK round k*wz t/\cj .i64 t.aN (32:Int)=t.aN*4294967296:=by
 obtain⟨h1,i⟩:=Zp 1 aK round k;have q:=h.aL.total;have o:=h.aL.th;generalize pT 1 aK round k=a at h1 i;have f:1<=wz t/\wz t<=11:=by unfold wz;omega
 generalize wz t=d at f;have ht:1<=t.aN/\t.aN<=11:=O;generalize t.aN=th at ht;have g:0<=a*d/\a*d<=4294967296*11:=⟨Int.mul_nonneg h1 O,Int.mul_le_mul O f.2 O O⟩
 have c:∀n:Int,0<=n->n<9223372036854775808->IntKind.u64.wrap n=n:=λn a b=>by unfold IntKind.wrap;simp[IntKind.signed,IntKind.bits];omega
 have c1:bu .u64 a=a:=c a h1 O;have c2:bu .u64 d=d:=c d O O;have c3:bu .u64 th=th:=c th O O;have j:bu .i64 a=a:=wrap64 O O;rw[c1,c2,c3,j];refine⟨c _ g.1 O,?_,wrap64 O O,?_⟩
 .exact c (th*2 ^ 32) O O
 .exact wrap64 (n:=th*2 ^ 32) O O
theorem pNb(k:Int):s6 t v aK round k=some (z6 t v aK round k):=by
 obtain⟨c1,c2,_,_⟩:=abx h k;unfold s6 z6 oO;simp only[etas,pW h.aL,aex,Qa,aS]
 cases decide (k=v)with
 |true=>rfl
 |false=>
  unfold KO
  cases Zl t k with
  |true=>simp only[Qr,Qc,Qb,c1,c2];rfl
  |false=>rfl
theorem rNb(k:Int)(h0:0<=k)(h1:k<10):nY t v aK round k=some (z6 t v aK round k):=by
 obtain⟨_,_,c1,c2⟩:=abx h k;unfold nY z6 oO;simp only[etas,Sp h,rW h.aL,Yl,Qa,aS,Ql,Qh,Qb];rw[Qf (O:¬k<0),Qf (O:¬(10:Int)<=k)];simp only[Qb,Qa]
 cases decide (k=v)with
 |true=>rfl
 |false=>
  unfold KO
  cases Zl t k with
  |true=>simp only[Qr,Qc,Qb,c1,c2];rfl
  |false=>rfl
def Ay(aK round j b:Int):Prop:=pT 2 aK round j<pT 2 aK round b\/pT 2 aK round j=pT 2 aK round b/\j<=b
structure Ed (t:aq) (v aK round b:Int):Prop where
 b0:0<=b
 b1:b<10
 nb:z6 t v aK round b=true
 top:∀j,0<=j->j<10->z6 t v aK round j=true->Ay aK round j b
 omit h in
theorem Ed.unique{a b:Int}(d:Ed t v aK round a)(c:Ed t v aK round b):a=b:=by have h1:=d.top b c.b0 c.b1 c.nb;have f:=c.top a d.b0 d.b1 d.nb;unfold Ay at h1 f;omega
theorem ago:Yd (oU t v aK round) (Ed t v aK round):=by
 have E:=h.v0;have I:=h.v1;unfold oU;simp only[etas,aS];refine Yd.Hu (λ(s:Int×Int×Int×Unit)=>0<=s.2.2.1/\s.2.2.1<=10/\((s.2.1=0/\(∀j,0<=j->j<s.2.2.1->z6 t v aK round j=false))\/(0<=s.1/\s.1<s.2.2.1/\z6 t v aK round s.1=true/\s.2.1=pT 2 aK round s.1/\∀j,0<=j->j<s.2.2.1->z6 t v aK round j=true->Ay aK round j s.1))) (λs=>(10 - s.2.2.1).toNat) ?_ ⟨Q8 _,by show(0:Int)<=10;omega,.inl ⟨rfl,λj h0 h1=>by simp only at h1;omega⟩⟩
 rintro⟨b,m,k,u⟩ ⟨h1,J,D⟩;simp only at h1 J D;simp only
 by_cases hk:k<10
 .rw[Qd hk];have A:aC .i64 k 1=k+1:=bH O O;simp only[Qc];rw[A,pNb h,Qa];have G:(10 - (k+1)).toNat<(10 - k).toNat:=O;have a:∀j,j<k+1->j<k\/j=k:=λj d=>O
  cases F:z6 t v aK round k with
  |false=>
   refine .some ⟨⟨by show 0<=k+1;omega,by show k+1<=10;omega,?_⟩,G⟩
   rcases D with⟨f,i⟩|⟨f,i,r,B,q⟩
   .refine .inl ⟨f,λj g c=> ?_⟩
    rcases a j c with c|rfl
    .exact i j g c
    .exact F
   .refine .inr ⟨f,by show b<k+1;omega,r,B,λj g c d=> ?_⟩
    rcases a j c with c|rfl
    .exact q j g c d
    .rw[F]at d;cases d
  |true=>
   rw[aex];simp only[Qh,Qb,Qa]
   by_cases y:m<=pT 2 aK round k
   .rw[Qd y,Qc];refine .some ⟨⟨by show 0<=k+1;omega,by show k+1<=10;omega,.inr ⟨h1,by show k<k+1;omega,F,rfl,λj g c d=> ?_⟩⟩,G⟩
    show Ay aK round j k;rcases a j c with c|rfl
    .rcases D with⟨f,i⟩|⟨f,i,r,B,q⟩
     .have:=i j g c;rw[this]at d;cases d
     .have:=q j g c d;unfold Ay at this ⊢;omega
    .exact .inr ⟨rfl,Q8 _⟩
   .rw[Qf y,Qb];refine .some ⟨⟨by show 0<=k+1;omega,by show k+1<=10;omega,?_⟩,G⟩
    have K:=Zp 2 aK round k;rcases D with⟨f,i⟩|⟨f,i,r,B,q⟩
    .omega
    .refine .inr ⟨f,by show b<k+1;omega,r,B,λj g c d=> ?_⟩
     rcases a j c with c|rfl
     .exact q j g c d
     .show Ay aK round j b;unfold Ay;omega
 .rw[Qf hk];have o:z6 t v aK round v=true:=by unfold z6;simp
  rcases D with⟨f,i⟩|⟨f,i,r,B,q⟩
  .have:=i v E O;rw[o]at this;cases this
  .exact .some ⟨f,O,r,λj g c d=>q j g O d⟩
theorem aga:Yd (mV t v aK round) λq=>Ed t v aK round q.1/\q.2.1=0:=by
 have G:=h.v0;have F:=h.v1;have g:z6 t v aK round v=true:=by unfold z6;simp
 unfold mV oO aO;simp only[etas,Sp h,Qa,aS];simp only[Ql,Qh,Qb];refine Yd.Hu (λ(s:Int×Int×Unit)=>0<=s.2.1/\s.2.1<=10/\0<=s.1/\s.1<10/\z6 t v aK round s.1=true/\∀j,0<=j->j<s.2.1->z6 t v aK round j=true->Ay aK round j s.1) (λs=>(10 - s.2.1).toNat) ?_ ⟨Q8 _,by show(0:Int)<=10;omega,G,F,g,λj h0 h1=>by simp only at h1;omega⟩
 rintro⟨b,k,u⟩ ⟨h1,K,E,D,B,o⟩;simp only at h1 K E D B o;simp only
 by_cases hk:k<10
 .rw[Qd hk];have A:aC .i64 k 1=k+1:=bH O O;simp only[Qc];rw[A,rNb h k h1 hk,Qa];have J:(10 - (k+1)).toNat<(10 - k).toNat:=O;have a:∀j,j<k+1->j<k\/j=k:=λj d=>O
  have fin:∀x:Int,0<=x->x<10->z6 t v aK round x=true->(∀j,0<=j->j<k+1->z6 t v aK round j=true->Ay aK round j x)->Yd (some (inl (x,k+1,())):Y ((Int×Int×Unit)⊕(Int×Int×Unit))) (Lp (λs'=>(0<=s'.2.1/\s'.2.1<=10/\0<=s'.1/\s'.1<10/\z6 t v aK round s'.1=true/\∀j,0<=j->j<s'.2.1->z6 t v aK round j=true->Ay aK round j s'.1)/\(10 - s'.2.1).toNat<(10 - k).toNat) (λq=>Ed t v aK round q.1/\q.2.1=0)):=
   λx S Q N L=> .some ⟨⟨by show 0<=k+1;omega,by show k+1<=10;omega,S,Q,N,L⟩,J⟩
  cases I:z6 t v aK round k with
  |false=>
   refine fin b E D B λj f c d=> ?_
   rcases a j c with c|rfl
   .exact o j f c d
   .rw[I]at d;cases d
  |true=>
   rw[Yl,Yl];simp only[Qh,Qb,Qa]
   by_cases r:pT 2 aK round b<pT 2 aK round k
   .rw[Qd r];refine fin k h1 hk I λj f c d=> ?_
    rcases a j c with c|rfl
    .have:=o j f c d;unfold Ay at this ⊢;omega
    .exact .inr ⟨rfl,Q8 _⟩
   .rw[Qf r];simp only[Qb]
    by_cases i:pT 2 aK round k=pT 2 aK round b
    .rw[Qd i];simp only[Qc,Qa]
     by_cases y:b<k
     .rw[Qd y];refine fin k h1 hk I λj f c d=> ?_
      rcases a j c with c|rfl
      .have:=o j f c d;unfold Ay at this ⊢;omega
      .exact .inr ⟨rfl,Q8 _⟩
     .rw[Qf y];refine fin b E D B λj f c d=> ?_
      rcases a j c with c|rfl
      .exact o j f c d
      .exact .inr ⟨i,O⟩
    .rw[Qf i];refine fin b E D B λj f c d=> ?_
     rcases a j c with c|rfl
     .exact o j f c d
     .exact .inl O
 .rw[Qf hk];exact .some ⟨⟨E,D,B,λj f c d=>o j f O d⟩,rfl⟩
end
 def yU(t:aq)(v aK round:Int):Int:=(oU t v aK round).getD 0
 def lK(t:aq)(v aK:Int):Nat->Nat
 |0=>0
 |k+1=>lK t v aK k|||2 ^ (yU t v aK ((k+1:Nat):Int)).toNat
section
variable{t:aq}{v aK round:Int}(h:Fu t v aK round)
 include h
theorem Fu.at{r:Int}(h1:1<=r)(a:r<=round):Fu t v aK r:=⟨h.aL,h.v0,h.v1,h.s0,h.s1,h1,by have:=h.r2;omega⟩
theorem XE:oU t v aK round=some (yU t v aK round)/\Ed t v aK round (yU t v aK round):=by obtain⟨b,h1,a⟩:=ago h;unfold yU;rw[h1];exact⟨rfl,a⟩
theorem ahB:mV t v aK round=some (yU t v aK round,0,()):=by obtain⟨⟨b,e,u⟩,h1,d,a⟩:=aga h;simp only at a;subst a;have c:Ed t v aK round b:=d;rw[h1,c.unique (XE h).2]
theorem J2:∀k:Nat,(k:Int)<=round->lK t v aK k<1024
 |0,_=>by unfold lK;omega
 |k+1,hk=>by have h1:=J2 k O;have a:=(XE (h.at (r:=((k+1:Nat):Int)) O hk)).2;unfold lK;exact Dl h1 a.b1
theorem aew:uX t v aK round=some (((lK t v aK round.toNat:Nat):Int),0,()):=by
 have e1:=h.v0;have e2:=h.v1;have o:=h.s0;have j:=h.s1;have i:=h.r1;have g:=h.r2;unfold uX Cr oO;simp only[etas,c6 h.aL,Qa,Ql,Qh,Qb];rw[Qf (O:¬v<0),Qf (O:¬(10:Int)<=v),Qf (O:¬aK<0),Qf (O:¬(1000000:Int)<aK),Qf (O:¬round<1),Qf (O:¬(1000:Int)<round)];simp only[Qb,Qa,Ql,Qh]
 suffices c:∀(d k:Nat),k+d=round.toNat->aE _ (((lK t v aK k:Nat):Int),(k:Int),())=some (((lK t v aK round.toNat:Nat):Int),(0:Int),())from c round.toNat 0 O
 intro d
 induction d with
 |zero=>intro k hk;obtain rfl:k=round.toNat:=O;refine bN ?_;rw[Qf (O:¬((round.toNat:Nat):Int)<round)];rfl
 |succ d f=>
  intro k hk;have a:aC .i64 (k:Int) 1=((k+1:Nat):Int):=bH O O;obtain⟨g1,g2⟩:=XE (h.at (r:=((k+1:Nat):Int)) O O);refine(bB ?_).trans (f (k+1) O);rw[Qd (O:(k:Int)<round)];simp only[a,g1,Qc,Qa];rw[Qg (by have:=g2.b0;omega),te (J2 h k O) g2.b0 g2.b1]
  rfl
theorem aej:qi t v aK round=some (((lK t v aK round.toNat:Nat):Int),0,()):=by
 have B:=h.r1;have A:=h.r2;unfold qi;simp only[etas,aS,ahB h,Qa,Ql,Qh,Qb]
 suffices f:∀(d k:Nat),k+d=round.toNat->aE _ (((lK t v aK k:Nat):Int),((k+1:Nat):Int),())=some (((lK t v aK round.toNat:Nat):Int),(0:Int),())from f round.toNat 0 O
 intro d
 induction d with
 |zero=>intro k hk;obtain rfl:k=round.toNat:=O;refine bN ?_;rw[Qf (O:¬((round.toNat+1:Nat):Int)<=round)];rfl
 |succ d o=>
  intro k hk;have a:aC .i64 ((k+1:Nat):Int) 1=((k+1+1:Nat):Int):=bH O O;have j:=h.at (r:=((k+1:Nat):Int)) O O;have y:=ahB j;have c:=(XE j).2;have g:=J2 h k O;refine(bB ?_).trans (o (k+1) O);rw[Qd (O:((k+1:Nat):Int)<=round)];have q:mm ((lK t v aK k:Nat):Int) (yU t v aK ((k+1:Nat):Int))=some (yi ((lK t v aK k:Nat):Int) (yU t v aK ((k+1:Nat):Int))):=oP _ _
  have hs:yi ((lK t v aK k:Nat):Int) (yU t v aK ((k+1:Nat):Int))=(lK t v aK k).testBit (yU t v aK ((k+1:Nat):Int)).toNat:=by unfold yi fG;rw[Qd (O:(0:Int)<=((lK t v aK k:Nat):Int)),Qd (O:((lK t v aK k:Nat):Int)<1024),Qd c.b0,Qd c.b1];simp
  simp only[a,y,q,hs,Qc,Qa];show _=some (inl (((lK t v aK k|||2 ^ (yU t v aK ((k+1:Nat):Int)).toNat:Nat):Int),((k+1+1:Nat):Int),()))
  cases u:(lK t v aK k).testBit (yU t v aK ((k+1:Nat):Int)).toNat with
  |true=>
   have:lK t v aK k|||2 ^ (yU t v aK ((k+1:Nat):Int)).toNat=lK t v aK k:=by
    refine qbZ λi=> ?_
    rw[qaO,qaE]
    by_cases hi:(yU t v aK ((k+1:Nat):Int)).toNat=i
    .rw[<-hi,u];rfl
    .rw[Qf hi,qbI]
   rw[this];rfl
  |false=>simp only[Qt,Qc];rw[Qg (by have:=c.b0;omega),te g c.b0 c.b1]
theorem S8:lK t v aK round.toNat<1024:=J2 h round.toNat (by have:=h.r1;omega)
end
end
section
def fold_eq{α a d ρ:Type}(l:Z α)(hl:l.length<=1000000)(f:a->α->a)(mk:Int->a->d)(Inv:a->Prop)(hI:∀s x,x∈l->Inv s->Inv (f s x)){step:d->Y (d⊕ρ)}{fin:a->Y ρ}
  (h1:∀(i:Nat) (x:α) (s:a),Inv s->x∈l->decide ((i:Int)<(l.length:Int))=true->idx l (i:Int)=some x->aC .i64 (i:Int) 1=((i+1:Nat):Int)->step (mk (i:Int) s)=some (.inl (mk ((i+1:Nat):Int) (f s x))))
  (q:∀s,Inv s->decide ((l.length:Int)<(l.length:Int))=false->step (mk (l.length:Int) s)=Option.map inr (fin s))
  {s:a} (h0:Inv s):aE step (mk 0 s)=fin (l.foldl f s):=by
 suffices g:∀(k i:Nat) (s:a),i+k=l.length->Inv s->aE step (mk (i:Int) s)=fin ((l.drop i).foldl f s)from g l.length 0 s O h0
 intro k
 induction k with
 |zero=>intro i s hi hs;obtain rfl:i=l.length:=O;rw[fB,q s hs (Qf (QF _)),Q9,List.foldl_nil];cases fin s<;>rfl
 |succ k o=>
  intro i s hi hs;have c:i<l.length:=O;have j:=QE c;refine(bB (h1 i l[i] s hs j (Qd O) (by rw[ba];exact Qj c) (bH O O))).trans ((o (i+1) _ O (hI s _ j hs)).trans ?_)
  rw[QQ c,QZ]
def Gw{α a:Type}{f:a->α->a}{Inv:a->Prop}:∀(l:Z α) (hI:∀s x,x∈l->Inv s->Inv (f s x)) {s:a},Inv s->Inv (l.foldl f s)
 |[],_,_,h=>h
 |x::l,hI,s,h=>Gw l (λs y c=>hI s y (QI _ c)) (hI s x QC h)
def YB(n:av)(l:Z C):Z C:=if n.oa=bE then l else oD l n.oa
def Kl(u:Int)(l:Z C)(m:aA):Z C:=if m.ak=u then(tB [m]).foldl oD l else l
def Jm(n:av)(l:Z C)(u:Int):Z C:=if u=n.ak then YB n l else n.au.foldl (Kl u) l
 def BA(n:av):Z C:=(qQ (lK n.aa n.ak n.aJ n.Round.toNat)).foldl (Jm n) n.bj
def ak3{x:C}(h:x.size<=200)(a:x≠bE):iU x:=by
 refine⟨?_,h⟩;rcases qbh x.size with h0|h0
 .exact absurd (ByteArray.ext (qa2 h0)) a
 .exact h0
def ab7{m:aA}(h:VL m.bj/\VL m.aG):(tB [m]).length<=80/\∀x∈tB [m],iU x:=by
 refine⟨VO (L:=[m]) (λy c=>by rw[Qz.1 c];exact h),λx d=> ?_⟩
 obtain⟨y,c,a⟩:=((Jn _).2 x).1 d;rw[Qz.1 c]at a;exact a.elim (h.1.uu x) (h.2.uu x)
section
variable{n:av}(h:df n)
 include h
theorem aiT{l:Z C}(hl:VL l):VL (YB n l):=by
 unfold YB;split
 .exact hl
 .rename_i a;exact(wY hl (ak3 h.own a)).1
theorem MV{m:aA}(a:m∈n.au):VL m.bj/\VL m.aG:=⟨(h.heard m a).1.di,(h.heard m a).1.eA⟩
theorem Rr{u:Int}{l:Z C}(hl:VL l){m:aA}(c:m∈n.au):VL (Kl u l m):=by
 unfold Kl;split
 .exact Gw (Inv:=VL) (tB [m]) (λs x a hs=>(wY hs ((ab7 (MV h c)).2 x a)).1) hl
 .exact hl
theorem PB{u:Int}{l:Z C}(hl:VL l):VL (Jm n l u):=by
 unfold Jm;split
 .exact aiT h hl
 .exact Gw (Inv:=VL) n.au (λs m a hs=>Rr h hs a) hl
theorem G0:VL (BA n):=Gw (Inv:=VL) _ (λs u _ hs=>PB h hs) h.di
theorem aiJ:uh n=some (BA n):=by
 have I:=h.len;have E:=S8 h.ask;have T:=BS (lK n.aa n.ak n.aJ n.Round.toNat);unfold uh;simp only[etas,aew h.ask,aag E,Qa,aS];refine fold_eq (qQ (lK n.aa n.ak n.aJ n.Round.toNat)) O (Jm n) (λi s=>(s,i,())) VL (λs u _ hs=>PB h hs) (λi u s hs U F B q=> ?_) (λs hs F=> ?_) h.di
 .simp only[F,B,q,Qc,Qa];unfold Jm
  by_cases f:u=n.ak
  .grind [YB,acT]
  .rw[Qg f,Qf f,Qb];refine fold_eq n.au O (Kl u) (λi s=>(s,i,())) VL (λs m r hs=>Rr h hs r) (fin:=λs=>some (inl (s,((i+1:Nat):Int),()))) (λj m K g r c A d=> ?_) (λK g c=> ?_) hs
   .simp only[c,A,d,Qc,Qa,aA.eta];unfold Kl
    by_cases a:m.ak=u
    .obtain⟨v1,v2⟩:=ab7 (MV h r);rw[Qe a,Qd a];simp only[Qh,Qb,ak1 (L:=[m]) (λy N=>by rw[Qz.1 N];exact MV h r) t_,Qa]
     refine fold_eq (tB [m]) O oD (λi s=>(s,i,())) VL (λs x B hs=>(wY hs (v2 x B)).1) (fin:=λs=>some (inl (s,((j+1:Nat):Int),()))) (λk x J D Q o S G=> ?_) (λJ D o=> ?_) g
     .grind [acT]
     .simp only[o,Qb]
    .rw[Qg a,Qf a];rfl
   .simp only[c,Qb]
 .simp only[F,Qb]
theorem af6:rZ n=some {n with bj:=BA n}:=by
 have G:=h.len;have D:=S8 h.ask;have N:=BS (lK n.aa n.ak n.aJ n.Round.toNat);unfold rZ;simp only[etas,aej h.ask,L8 D,Qa,aS];refine(fold_eq (qQ (lK n.aa n.ak n.aJ n.Round.toNat)) O (Jm n) (λi s=>(i,{n with bj:=s},())) VL (λs u _ hs=>PB h hs) (fin:=λs=>some {n with bj:=s}) (λi u s hs Q E A q=> ?_) (λs hs E=> ?_) h.di).trans rfl
 .simp only[E,A,q,Qc,Qa];unfold Jm
  by_cases f:u=n.ak
  .grind [YB,L0]
  .rw[Qg f,Qf f,Qb];refine fold_eq n.au O (Kl u) (λi s=>(i,{n with bj:=s},())) VL (λs m r hs=>Rr h hs r) (fin:=λs=>some (inl (((i+1:Nat):Int),{n with bj:=s},()))) (λj m J g r c y d=> ?_) (λJ g c=> ?_) hs
   .simp only[c,y,d,Qc,Qa];unfold Kl
    by_cases a:m.ak=u
    .obtain⟨v1,v2⟩:=ab7 (MV h r);rw[Qe a,Qd a];simp only[Qh,Qb,ain (MV h r),Qa];refine fold_eq (tB [m]) O oD (λi s=>(i,{n with bj:=s},())) VL (λs x A hs=>(wY hs (v2 x A)).1) (fin:=λs=>some (inl (((j+1:Nat):Int),{n with bj:=s},()))) (λk x I B K o L F=> ?_) (λI B o=> ?_) g
     .grind [L0]
     .simp only[o,Qb]
    .rw[Qg a,Qf a];rfl
   .simp only[c,Qb]
 .simp only[E,Qb]
end
 def rq:Nat->av->av
 |0,n=>n
 |k+1,n=>match(fR n).find? (uB n)with
  |none=>n
  |some x=>rq k {n with aG:=oD n.aG x}
def RI{n:av}(h:df n){x:C}(c:(fR n).find? (uB n)=some x):df {n with aG:=oD n.aG x}/\(oD n.aG x).length=n.aG.length+1:=by have a:=List.find?_some c;have i:=List.mem_of_find?_eq_some c;unfold uB at a;simp only[Qi,qad,qaG,Qw]at a;obtain⟨g,f,j,d⟩:=wY h.eA (aeV h i);exact⟨h.akr g f,d a.1.1 a.1.2⟩
def TP:∀(k:Nat) {n:av},df n->uO n (rq k n)/\(rq k n).bj=n.bj/\(rq k n).aU=n.aU
 |0,n,h=>⟨.refl h,rfl,rfl⟩
 |k+1,n,h=>by
  unfold rq
  cases a:(fR n).find? (uB n)with
  |none=>exact⟨.refl h,rfl,rfl⟩
  |some x=>obtain⟨h1,d,c⟩:=TP k (RI h a).1;exact⟨⟨h1.ok,h1.aF,h1.aK,h1.round,h1.seq,h1.aL,h1.own,h1.heard⟩,d,c⟩
def ahC{fin:av->Y av}{step:Bool×av×Unit->Y ((Bool×av×Unit)⊕av)}
  (h1:∀n,df n->step (true,n,())=some (.inl (match(fR n).find? (uB n)with|some x=>(true,{n with aG:=oD n.aG x},())|none=>(false,n,()))))
  (c:∀n,df n->step (false,n,())=Option.map inr (fin n)):∀(k:Nat) {n:av},df n->41<=k+n.aG.length->aE step (true,n,())=fin (rq k n)
 |0,n,h,hk=>by have:=h.eA.len;omega
 |k+1,n,h,hk=>by
  have g:=h1 n h;unfold rq
  cases a:(fR n).find? (uB n)with
  |none=>rw[a]at g;rw[bB g,fB,c n h];cases fin n<;>rfl
  |some x=>rw[a]at g;obtain⟨g1,g2⟩:=RI h a;exact(bB g).trans (ahC h1 c k g1 (by show 41<=k+(oD n.aG x).length;omega))
 def Wq(n:av):C×Bool×Unit:=match(fR n).find? (uB n)with|some x=>(x,true,())|none=>(⟨#[]⟩,false,())
def ahG{fin:av->Y av}{step:C×Bool×av×Unit->Y ((C×Bool×av×Unit)⊕av)}{c:Z bw}
  (h1:∀n x,df n->qN n=c->df {n with aG:=oD n.aG x}->step (x,true,n,())=some (.inl ((Wq {n with aG:=oD n.aG x}).1,(Wq {n with aG:=oD n.aG x}).2.1,{n with aG:=oD n.aG x},())))
  (d:∀n x,df n->qN n=c->step (x,false,n,())=Option.map inr (fin n)):∀(k:Nat) {n:av},df n->qN n=c->41<=k+n.aG.length->aE step ((Wq n).1,(Wq n).2.1,n,())=fin (rq k n)
 |0,n,h,_,hk=>by have:=h.eA.len;omega
 |k+1,n,h,hv,hk=>by
  unfold rq
  cases a:(fR n).find? (uB n)with
  |none=>
   have e:Wq n=(⟨#[]⟩,false,()):=by unfold Wq;rw[a]
   rw[e,fB,d n _ h hv];cases fin n<;>rfl
  |some x=>
   have e:Wq n=(x,true,()):=by unfold Wq;rw[a]
   obtain⟨g1,g2⟩:=RI h a;rw[e];exact(bB (h1 n x h hv g1)).trans (ahG h1 d k g1 hv (by show 41<=k+(oD n.aG x).length;omega))
 def Ju(n:av)(c:Z C)(x:C):Z C:=if Nz n x then oD c x else c
 def Dz(n:av):Z C:=n.aG.foldl (Ju n) n.aU
 def xO(n:av):av:={rq 41 (if n.aU.length=0 then{n with bj:=BA n}else n)with aU:=Dz (rq 41 (if n.aU.length=0 then{n with bj:=BA n}else n))}
structure GR (n:av) (c:List ByteArray):Prop where
 vl:VL c
 sub:∀x∈c,x∈n.aG
def PG{n:av}(h:df n){c:Z C}(a:GR n c){x:C}(d:x∈n.aG):GR n (Ju n c x):=by
 unfold Ju;split
 .obtain⟨g,_,f,_⟩:=wY a.vl (h.eA.uu x d);exact⟨g,λy i=>(f y i).elim (λe=>by rw[e];exact d) (a.sub y)⟩
 .exact a
def df.ag2{n:av}(h:df n):GR n n.aU:=⟨h.kV,h.sub⟩
def agT{n:av}(h:df n):GR n (Dz n):=Gw (Inv:=GR n) n.aG (λs x a hs=>PG h hs a) h.ag2
def amn{n:av}(h:df n)(x:C):fP ⟨qN n⟩ n.ak (((mP (n.au++[xP n]) x).2:Nat):Int)=some (Nz n x):=by obtain⟨d,a⟩:=CZ h;have c:=C8 (EU h) a (DF h.said x).2;rw[<-d]at c;exact c
def amg{n:av}(h:df n)(x:C):iY ⟨qN n⟩ n.ak (((mP (n.au++[xP n]) x).2:Nat):Int)=some (Nz n x):=by obtain⟨d,a⟩:=CZ h;have c:=xw (EU h) a (DF h.said x).2;rw[<-d]at c;exact c
section
variable{n:av}(h:df n)
 include h
theorem ajW:df (if n.aU.length=0 then{n with bj:=BA n}else n)/\uO n (if n.aU.length=0 then{n with bj:=BA n}else n):=by
 split
 .exact⟨h.LO (G0 h),(uO.refl h).LO (G0 h)⟩
 .exact⟨h,.refl h⟩
theorem G6:uO n (xO n):=by obtain⟨h1,a⟩:=ajW h;obtain⟨g,_,_⟩:=TP 41 h1;obtain⟨c1,c2⟩:=agT g.ok;exact⟨g.ok.afU c1 c2,g.aF.trans a.aF,g.aK.trans a.aK,g.round.trans a.round,g.seq.trans a.seq,g.aL.trans a.aL,g.own.trans a.own,g.heard.trans a.heard⟩
theorem Wk:nQ n=some (xO n):=by
 have body:∀n:av,df n->(Option.bind (qY n) λB=>
   Option.bind (lA n B) λQ=>
   aE (λ(d:C×Bool×av×Unit)=>
   bif d.2.1 then
   Option.bind (jb d.2.2.1.aG d.1) λN=>
   Option.bind (lA {d.2.2.1 with aa:=(ao d.2.2.1.aa),aG:=N} B) λL=>
   some (inl (L.1,L.2.1,{d.2.2.1 with aa:=(ao d.2.2.1.aa),aG:=N},()))
   else
   Option.map inr (Option.bind (cx d.2.2.1.au) λK=>
   Option.bind (ky (eT0 d.2.2.1)) λu=>
   bif bl 120 (List.length K+List.length [{u with aa:=(ao u.aa)}])then
   aE (λ(a:Int×av×Unit)=>
   bif (decide (a.1<((List.length d.2.2.1.aG:Nat):Int)))then
   aX (λ(A:av×Unit)=>
   some (inl ((aC .i64 a.1 (1:Int)),(eT0 A.1),()))) λo=>
   Option.bind (idx d.2.2.1.aG a.1) λj=>
   Option.bind (ib (K++[{u with aa:=(ao u.aa)}]) j) λF=>
   Option.bind (fP B a.2.1.ak F.2.1) λE=>
   bif E then
   Option.bind (jb a.2.1.aU j) λD=>
   o ({a.2.1 with aa:=(ao a.2.1.aa),aU:=D},())
   else
   o ((eT0 a.2.1),())
   else
   Option.map inr (some (eT0 a.2.1))) ((0:Int),(eT0 d.2.2.1),())
   else none)) (Q.1,Q.2.1,n,()))=some {rq 41 n with aU:=Dz (rq 41 n)}:=by
  intro n h;rw[akM h,Qa,aeu h,Qa];refine ahG (c:=qN n) (fin:=λS=>some {S with aU:=Dz S}) (λm x f hv I=> ?_) (λm x f hv=> ?_) 41 h rfl O
  .have g:=aeu I;have G:qN {m with aG:=oD m.aG x}=qN n:=hv
   rw[G]at g;simp only[Qc,etas,acT f.eA,Qa,g];rfl
  .have T:=f.len;have U:=f.eA.len;simp only[Qb,etas,ZT f,ky,Qa,aS];rw[nV O o_,Qc];congr 1;refine(fold_eq m.aG O (Ju m) (λi c=>(i,{m with aU:=c},())) (GR m) (λs x g hs=>PG f hs g) (fin:=λc=>some {m with aU:=c}) (λi y s hs V J g r=> ?_) (λs hs J=> ?_) f.ag2).trans rfl
   .have q:ib (m.au++[(⟨m.ak,m.aI,m.aa,m.bj,m.aG⟩:aA)]) y=_:=abm f.said y;simp only[J,g,r,Qc,Qa,q,<-hv,amn f y];unfold Ju
    cases Nz m y with
    |true=>simp only[Qc,acT hs.vl,Qa,Qr]
    |false=>rfl
   .simp only[J,Qb]
 unfold nQ;simp only[etas,aS,aiJ h,Qa];unfold xO
 by_cases h0:n.aU.length=0
 .rw[Qd (O:(n.aU.length:Int)=0),Qc,Qe h0];have:=body {n with bj:=BA n} (h.LO (G0 h))
  simp only[etas,aS]at this;exact this
 .rw[Qf (O:¬(n.aU.length:Int)=0),Qb,Qg h0];have:=body n h;simp only[etas,aS]at this;exact this
end
end
section
open Classical in
 def JC(b r:av):Bool:=decide (b.bj=r.bj/\b.aG=r.aG/\b.aa=r.aa)
open Classical in
def G7{b r:av}:JC b r=true↔b.bj=r.bj/\b.aG=r.aG/\b.aa=r.aa:=by
 unfold JC;rw[Qw]
 def nc(b n:av):av:=if JC b (xO n)=true then xO n else{xO n with aI:=b.aI+1}
def PE{b n:av}(h:df n):aae b n (nc b n):=by
 have k:=G6 h;unfold nc;split
 .exact⟨k.ok,k.aF,k.aK,k.round,k.aL,.inl k.seq⟩
 .exact⟨⟨k.ok.ask,k.ok.own,k.ok.di,k.ok.eA,k.ok.kV,k.ok.sub,k.ok.heard,k.ok.dg⟩,k.aF,k.aK,k.round,k.aL,.inr rfl⟩
def OX{b n:av}(h:df n):(nc b n).au=n.au/\(nc b n).oa=n.oa:=by have k:=G6 h;unfold nc;split<;>exact⟨k.heard,k.own⟩
def akW{s t:Z C}(h:s.length<=1000000):∃b,iw s t=some b/\(b=true↔s=t):=by
 unfold iw
 by_cases hl:s.length=t.length
 .rw[Qd (O:(s.length:Int)=(t.length:Int)),Qh,Qb];refine Z7 hl h (λi hi g a d c f=> ?_) (λa=> ?_)
  .simp only;rw[a,Qc,d,c,Qa,Qa,f]
   by_cases he:s[i]=t[i]
   .rw[Qd he];exact⟨true,rfl,by simp[he]⟩
   .rw[Qf he];exact⟨false,rfl,by simp[he]⟩
  .simp only;rw[a,Qb];rfl
 .rw[Qf (O:¬(s.length:Int)=(t.length:Int))];exact⟨false,rfl,S6 hl⟩
def DH{b n:av}(hb:cI b.aa/\b.bj.length<=1000000/\b.aG.length<=1000000)(hs:0<=b.aI/\b.aI<=1000000)(h:df n):gM b n=some (nc b n):=by
 have body:∀n:av,df n->aE (λ(E:Bool×av×Unit)=>
   bif E.1 then
   Option.bind (qI (eT0 E.2.1)) λr4=>
   aE (λ(o:Bool×Int×av×Unit)=>
   bif (decide (o.2.1<((List.length r4:Nat):Int)))then
   Option.bind (idx r4 o.2.1) λx6=>
   Option.bind (uJ (eT0 o.2.2.1) x6) λr7=>
   bif r7 then
   Option.bind (pj o.2.2.1.aG x6) λr8=>
   Option.map inr (some (inl (true,{o.2.2.1 with aa:=(ao o.2.2.1.aa),aG:=r8},())))
   else
   some (inl (o.1,(aC .i64 o.2.1 (1:Int)),(eT0 o.2.2.1),()))
   else
   Option.map inr (some (inl (o.1,(eT0 o.2.2.1),())))) (false,(0:Int),(eT0 E.2.1),())
   else
   Option.map inr (aE (λ(g:Int×av×Unit)=>
   bif (decide (g.1<((List.length E.2.1.aG:Nat):Int)))then
   aX (λ(N:av×Unit)=>
   some (inl ((aC .i64 g.1 (1:Int)),(eT0 N.1),()))) λJ=>
   Option.bind (idx E.2.1.aG g.1) λG=>
   Option.bind (mC (eT0 g.2.1) G) λX=>
   Option.bind (nN (eT0 g.2.1)) λW=>
   Option.bind (iY W g.2.1.ak X.2.1) λV=>
   bif V then
   Option.bind (pj g.2.1.aU G) λU=>
   J ({g.2.1 with aa:=(ao g.2.1.aa),aU:=U},())
   else
   J ((eT0 g.2.1),())
   else
   Option.map inr (aX (λ(L:av×Unit)=>
   some (eT0 L.1)) λI=>
   Option.bind (gN b.bj g.2.1.bj) λT=>
   Option.bind (bif (!T)then some true
   else
   Option.bind (gN b.aG g.2.1.aG) λS=>
   some (!S)) λb21=>
   Option.bind (bif b21 then some true
   else
   Option.bind (gO (ao b.aa) (ao g.2.1.aa)) λQ=>
   some (!Q)) λb23=>
   bif b23 then
   I ({g.2.1 with aI:=(aC .i64 b.aI (1:Int)),aa:=(ao g.2.1.aa)},())
   else
   I ((eT0 g.2.1),()))) ((0:Int),(eT0 E.2.1),()))) (true,n,())=
   some (if JC b {rq 41 n with aU:=Dz (rq 41 n)}=true then{rq 41 n with aU:=Dz (rq 41 n)}else{rq 41 n with aU:=Dz (rq 41 n),aI:=b.aI+1}):=by
  intro n h;refine ahC (fin:=λm=>some (if JC b {m with aU:=Dz m}=true then{m with aU:=Dz m}else{m with aU:=Dz m,aI:=b.aI+1})) (λm q=> ?_) (λm q=> ?_) 41 h O
  .have hkl:=Ww q;simp only[Qc,etas,ait q,Qa]
   suffices key:∀(k i:Nat),i+k=(fR m).length->(∀x∈(fR m).take i,uB m x=false)->aE _ (false,(i:Int),m,())=some (inl (match(fR m).find? (uB m)with|some x=>(true,{m with aG:=oD m.aG x},())|none=>(false,m,())))from key (fR m).length 0 O t_
   intro k
   induction k with
   |zero=>
    intro i hi d;obtain rfl:i=(fR m).length:=O;rw[QK]at d;have hf:(fR m).find? (uB m)=none:=List.find?_eq_none.2 λx A=>by rw[d x A];simp
    rw[hf];exact bN (by simp only[Qf (QF _),Qb,Qo])
   |succ k ih=>
    intro i hi d;have D:i<(fR m).length:=O;have A:idx (fR m) (i:Int)=some (fR m)[i]:=by rw[ba];exact Qj D
    have f:aC .i64 (i:Int) 1=((i+1:Nat):Int):=bH O O;have F:decide ((i:Int)<(((fR m).length:Nat):Int))=true:=Qd O
    cases K:uB m (fR m)[i]with
    |true=>
     have hf:(fR m).find? (uB m)=some (fR m)[i]:=by
      rw[List.find?_eq_some_iff_getElem];refine⟨K,i,D,rfl,λj hj=> ?_⟩
      rw[d _ (List.mem_take_iff_getElem.2 ⟨j,O,rfl⟩)];rfl
     rw[hf];refine bN ?_;simp only[F,A,Qc,Qa,ahD q,K,L0 q.eA,Qo]
    |false=>
     refine(bB ?_).trans (ih (i+1) O λx u=> ?_)
     .simp only[F,A,f,Qc,Qb,Qa,ahD q,K]
     .rw[qab D,QA,Qz]at u;rcases u with u|rfl
      .exact d x u
      .exact K
  .have hal:=q.eA.len;simp only[Qb,etas,aS];congr 1;refine(fold_eq m.aG O (Ju m) (λi c=>(i,{m with aU:=c},())) (GR m) (λs x A hs=>PG q hs A) (fin:=λc=>some (if JC b {m with aU:=c}=true then{m with aU:=c}else{m with aU:=c,aI:=b.aI+1})) (λi y s hs hy F A f=> ?_) (λs hs F=> ?_) q.ag2).trans rfl
   .have B:=q.afU hs.vl hs.sub;have hsd:mC {m with aU:=s} y=_:=abb B y
    have hvw:nN {m with aU:=s}=_:=aee B
    have hsu:iY ⟨qN {m with aU:=s}⟩ m.ak _=some (Nz m y):=amg B y
    simp only[F,A,f,Qc,Qa,hsd,hvw,hsu];unfold Ju
    cases Nz m y with
    |true=>simp only[Qc,L0 hs.vl,Qa,Qr]
    |false=>rfl
   .obtain⟨b1,f1,g1⟩:=Sk (s:=b.bj) (t:=m.bj) hb.2.1;obtain⟨b2,f2,g2⟩:=Sk (s:=b.aG) (t:=m.aG) hb.2.2;obtain⟨b3,f3,g3⟩:=Eu (a:=b.aa) (b:=m.aa) hb.1;have f:aC .i64 b.aI 1=b.aI+1:=bH O O;simp only[F,Qb,f1,f2,f3,Qa,f]
    by_cases e:b.bj=m.bj/\b.aG=m.aG/\b.aa=m.aa
    .rw[Qe ((G7 (b:=b) (r:={m with aU:=s})).2 e),g1.2 e.1,g2.2 e.2.1,g3.2 e.2.2]
     rfl
    .rw[Qg (λe'=>e ((G7 (b:=b) (r:={m with aU:=s})).1 e'))]
     cases b1 with
     |false=>rfl
     |true=>
      cases b2 with
      |false=>rfl
      |true=>
       cases b3 with
       |false=>rfl
       |true=>exact absurd ⟨g1.1 rfl,g2.1 rfl,g3.1 rfl⟩ e
 unfold gM oO;simp only[etas,aS,af6 h,Qa];unfold nc xO
 by_cases h0:n.aU.length=0
 .rw[Qd (O:(n.aU.length:Int)=0),Qc];simp only[Qe h0];have:=body {n with bj:=BA n} (h.LO (G0 h))
  simp only[etas,aS]at this;exact this
 .rw[Qf (O:¬(n.aU.length:Int)=0),Qb];simp only[Qg h0];have:=body n h;simp only[etas,aS]at this;exact this
def IF{n:av}(h:df n):mX n=some n:=by
 have j:=h.len;have hv:=h.di.len;have u:=h.eA.len;have r:=h.kV.len;unfold mX;simp only[etas,abl h.ask.aL.sm,yr _ (QJ hv O),yr _ (QJ u O),yr _ (QJ r O),Qa]
 suffices c:∀(k i:Nat),i+k=n.au.length->aE _ ((i:Int),{n with bj:=[],aG:=[],aU:=[],au:=[]},n.bj,n.aG,n.aU,n.au.take i,())=some n from c n.au.length 0 O
 intro k
 induction k with
 |zero=>intro i hi;obtain rfl:i=n.au.length:=O;refine bN ?_;simp only[Qf (QF _),Qb,QK,Qo]
 |succ k o=>
  intro i hi;have a:i<n.au.length:=O;have q:idx n.au (i:Int)=some n.au[i]:=by rw[ba];exact Qj a
  have f:=(h.heard _ (QE a)).1;have d:=f.di.len;have g:=f.eA.len;refine(bB ?_).trans (o (i+1) O);simp only[Qd (O:(i:Int)<(n.au.length:Int)),q,Qc,Qa,aA.eta,Wl f.aL.sm (QJ d O) (QJ g O)];rw[nV O o_,bH O O,qab a];rfl
def PU{b n:av}(g:cI b.aa/\b.bj.length<=1000000/\b.aG.length<=1000000)(hs:0<=b.aI/\b.aI<=1000000)(i:n.aI=b.aI)(h:df n):jF b n=some (nc b n):=by
 have k:=G6 h;have c:=(PE (b:=b) h).ok;have d:aC .i64 (xO n).aI 1=b.aI+1:=by rw[k.seq,i];exact bH O O
 obtain⟨b1,f1,g1⟩:=akW (s:=b.bj) (t:=(xO n).bj) g.2.1;obtain⟨j,f2,g2⟩:=akW (s:=b.aG) (t:=(xO n).aG) g.2.2;obtain⟨b3,f3,g3⟩:=eqT (a:=b.aa) (b:=(xO n).aa) g.1;unfold jF oO;simp only[etas,aS,Wk h,f1,f2,f3,Qa,d];unfold nc at c ⊢
 by_cases f:JC b (xO n)=true
 .have e:=G7.1 f;rw[Qe f]at c ⊢;rw[g1.2 e.1,g2.2 e.2.1,g3.2 e.2.2];simp only[Qh,Qb,Qa,IF c]
 .have e:¬(b.bj=(xO n).bj/\b.aG=(xO n).aG/\b.aa=(xO n).aa):=λe=>f (G7.2 e)
  rw[Qg f]at c ⊢
  cases b3 with
  |false=>simp only[Qt,Qc,Qa,IF c]
  |true=>
   cases b1 with
   |false=>simp only[Qt,Qh,Qc,Qb,Qa,IF c]
   |true=>
    cases j with
    |false=>simp only[Qt,Qh,Qc,Qb,Qa,IF c]
    |true=>exact absurd ⟨g1.1 rfl,g2.1 rfl,g3.1 rfl⟩ e
end
section
def jk(l:Z aA)(m:aA):Z aA:=l.filter (λx=>decide (x.ak<m.ak))++m::l.filter (λx=>decide (m.ak<x.ak))
def xg(l:Z aA)(m:aA):Bool:=l.any λx=>decide (x.ak=m.ak)&&decide (m.aI<=x.aI)
def Wz{l:Z aA}{m x:aA}:x∈jk l m↔x=m\/(x∈l/\x.ak≠m.ak):=by grind [jk]
def Km{n:av}(h:df n){m:aA}(d:wE m)(c:m.ak≠n.ak):df {n with au:=jk n.au m}:=by
 refine⟨h.ask,h.own,h.di,h.eA,h.kV,h.sub,λx a=> ?_,?_⟩
 .rcases Wz.1 a with rfl|⟨a,_⟩
  .exact⟨d,c⟩
  .exact h.heard x a
 .show(jk n.au m).Pairwise _;unfold jk;rw[qai,Q0];refine⟨h.dg.filter _,⟨λx a=>qal (List.mem_filter.1 a).2,h.dg.filter _⟩,λx a y f=> ?_⟩
  grind
def R2{a:Int}:∀{l:Z aA},l.Pairwise (λx y=>x.ak<y.ak)->l.filter (λx=>decide (x.ak<a))=l.takeWhile (λx=>decide (x.ak<a))/\∀x∈l.drop (l.takeWhile λx=>decide (x.ak<a)).length,a<=x.ak
 |[],_=>⟨rfl,λx c=>by simp at c⟩
 |y::l,d=>by
  rw[Q0]at d
  by_cases f:y.ak<a
  .obtain⟨h1,g⟩:=R2 (a:=a) d.2;rw[List.filter_cons,List.takeWhile_cons,Qd f];simp only[Qr,QN,List.drop_succ_cons];exact⟨by rw[h1],g⟩
  .rw[List.filter_cons,List.takeWhile_cons,Qf f];simp only[QB,Qx,qay,List.drop_zero];refine⟨List.filter_eq_nil_iff.2 λx c=> ?_,λx c=> ?_⟩
   .have:=d.1 x c;rw[Qw];omega
   .rcases Qv.1 c with rfl|c
    .omega
    .have:=d.1 x c;omega
def VR{a:Int}:∀{l:Z aA},l.Pairwise (λx y=>x.ak<y.ak)->l.filter (λx=>decide (a<x.ak))=match l.drop (l.takeWhile λx=>decide (x.ak<a)).length with|[]=>[]|y::r=>if y.ak=a then r else y::r
 |[],_=>rfl
 |y::l,f=>by
  rw[Q0]at f
  by_cases g:y.ak<a
  .have h1:=VR (a:=a) f.2;rw[List.filter_cons,List.takeWhile_cons,Qd g,Qf (O:¬a<y.ak)];simp only[Qr,QB,Qx,QN,List.drop_succ_cons];exact h1
  .have c:∀x∈l,a<x.ak:=λx d=>by have:=f.1 x d;omega
   rw[List.filter_cons,List.takeWhile_cons,Qf g];simp only[QB,Qx,qay,List.drop_zero];rw[List.filter_eq_self.2 λx d=>Qd (c x d)]
   by_cases he:y.ak=a
   .rw[Qe he,Qf (O:¬a<y.ak)];rfl
   .rw[Qg he,Qd (O:a<y.ak)];rfl
theorem ahO(x:aA)(a:Int):oA x a=some (AU x.ak a):=by unfold oA;simp
section
variable{n:av}(h:df n)
 include h
theorem akV(a:Int):cP n.au a=some ((((n.au.takeWhile λx=>decide (x.ak<a)).length:Nat):Int),(match n.au.drop (n.au.takeWhile λx=>decide (x.ak<a)).length with|[]=>false|y::_=>decide (y.ak=a)),()):=by
 have d:=h.len;unfold cP aO;refine(KA n.au O (λy=>decide (y.ak<a)) (h.dg.imp λ{x y} q o=>by simp only[Qw]at o ⊢;omega) (fin:=λk=>some (((k:Nat):Int),(match n.au.drop k with|[]=>false|y::_=>decide (y.ak=a)),())) (λi j m y f A u g r=> ?_) (λi f hi=> ?_)).trans rfl
 .grind [AU,Kx,aA.eta,aq.eta,ahO]
 .simp only[f,Qb]
  by_cases c:i<n.au.length
  .have B:decide (AU n.au[i].ak a=0)=decide (n.au[i].ak=a):=by rw[qam];exact Hw _ _
   rw[Qd (O:(i:Int)<(n.au.length:Int)),QQ c]
   grind [ba,aA.eta,aq.eta,ahO]
  .grind
theorem akU(hs:1<=n.aI/\n.aI<=1000000){m:aA}(J:wE m)(E:m.ak≠n.ak):n4 n m=some (if xg n.au m then(yL,9,())else(nc n {n with au:=jk n.au m},0,())):=by
 have K:=h.len;have I:=Km h J E;have hk:=PA (λx:aA=>decide (x.ak<m.ak)) n.au
 obtain⟨s1,s2⟩:=R2 (a:=m.ak) h.dg;have L:=VR (a:=m.ak) h.dg
 have c:n.au.take (n.au.takeWhile λx=>decide (x.ak<m.ak)).length=n.au.takeWhile λx=>decide (x.ak<m.ak):=by
  conv=>lhs;arg 2;rw[<-List.takeWhile_append_dropWhile (p:=λx=>decide (x.ak<m.ak)) (l:=n.au)]
  exact List.take_left
 have f:jF n {n with au:=jk n.au m}=some (nc n {n with au:=jk n.au m}):=PU h.Ax ⟨O,hs.2⟩ rfl I
 unfold n4 oO;simp only[etas,aA.eta,IE h hs,abn J,akV h,ZT h,Qa,Qh,Qb,Qf E,aS]
 have D:xg n.au m=match n.au.drop (n.au.takeWhile λx=>decide (x.ak<m.ak)).length with|[]=>false|y::_=>decide (y.ak=m.ak)&&decide (m.aI<=y.aI):=by
  have d:n.au=(n.au.takeWhile λx=>decide (x.ak<m.ak))++n.au.drop (n.au.takeWhile λx=>decide (x.ak<m.ak)).length:=by
   conv=>lhs;rw[<-List.take_append_drop (n.au.takeWhile λx=>decide (x.ak<m.ak)).length n.au]
   rw[c]
  have B:∀x∈n.au.takeWhile λx=>decide (x.ak<m.ak),x.ak<m.ak:=λx q=>by grind
  have o:=h.dg;unfold xg;rw[d]at o
  conv=>lhs;rw[d]
  rw[List.any_append,List.any_eq_false.2 λx q=>by have:=B x q;rw[Qf (O:¬x.ak=m.ak)];simp,qa8]
  cases j:n.au.drop (n.au.takeWhile λx=>decide (x.ak<m.ak)).length with
  |nil=>rfl
  |cons y r=>
   rw[j,qai,Q0]at o;have S:m.ak<=y.ak:=s2 y (by rw[j];exact QC)
   rw[List.any_cons,List.any_eq_false.2 λx q=>by have:=o.2.1.1 x q;rw[Qf (O:¬x.ak=m.ak)];simp,qbI]
 have hl:jk n.au m=(n.au.takeWhile λx=>decide (x.ak<m.ak))++m::(match n.au.drop (n.au.takeWhile λx=>decide (x.ak<m.ak)).length with|[]=>[]|y::r=>if y.ak=m.ak then r else y::r):=by unfold jk;rw[s1,L]
 rw[D];generalize Q:(n.au.takeWhile λx=>decide (x.ak<m.ak)).length=k at*
 cases j:n.au.drop k with
 |nil=>grind [dG,jk,Er,nV]
 |cons y r=>
  rw[j]at hl
  have g:k<n.au.length:=by grind
  have u:n.au[k]=y:=by rw[QQ g]at j;exact(List.cons.inj j).1
  have N:n.au.drop (k+1)=r:=by rw[QQ g]at j;exact(List.cons.inj j).2
  have q:idx n.au (k:Int)=some y:=by rw[ba,Qj g,u]
  have G:n.au[k]?=some y:=by rw[Qj g,u]
  by_cases i:y.ak=m.ak
  .simp only[Qe i]at hl;simp only[Qd i,Qc,q,Qa,qae,QV,G]
   cases decide (m.aI<=y.aI)with
   |true=>rfl
   |false=>
    have A:n.au.set k m=jk n.au m:=by rw[hl,List.set_eq_take_append_cons_drop,Qe g,c,N]
    simp only[Qb,A,f,Qa,QB,Qx]
  .simp only[Qg i]at hl
   have F:dG n.au (k:Int) [m]=some (jk n.au m):=by unfold dG Er;rw[Qd (O:(0:Int)<=(k:Int)),Qd (O:(k:Int)<=(n.au.length:Int)),nV O o_,hl];simp only[QV,c,j];simp
   simp only[Qf i,Qb,F,f,Qa,qbw,QB,Qx]
theorem aek(hs:1<=n.aI/\n.aI<=1000000){m:aA}(W:wE m)(E:m.ak≠n.ak):pH n m=some (if xg n.au m then(yL,9,())else(nc n {n with au:=jk n.au m},0,())):=by
 have X:=h.len;have o:gM n {n with au:=jk n.au m}=some (nc n {n with au:=jk n.au m}):=DH h.Ax ⟨O,hs.2⟩ (Km h W E)
 have J:∀(a:Z aA) (x:aA),a.length<=100->bl 120 (a.length+[x].length)=true:=λa x ha=>br ⟨by simp only[QU];omega,by simp only[QU];omega⟩
 unfold pH oO aO;simp only[etas,aA.eta,Bh h hs,UK W,Qa,Qh,Qb];rw[Qf E];simp only[Qb,aS]
 suffices K:Yd (aE _ (false,(0:Int),yL,{n with au:=[]},[],())) λr=>r=if xg n.au m then(yL,(9:Int),())else(nc n {n with au:=jk n.au m},(0:Int),())by obtain⟨r,g,rfl⟩:=K;exact g
 refine Yd.list n.au O (λi (s:Bool×Z aA)=>(s.1,i,yL,{n with au:=[]},s.2,()))
  (λi s=>s.2.length<=i+1/\xg (n.au.take i) m=false/\s.1=(n.au.take i).any (λx=>decide (m.ak<x.ak))/\s.2=(n.au.take i).filter (λx=>decide (x.ak<m.ak))++(if s.1 then[m]else[])++(n.au.take i).filter (λx=>decide (m.ak<x.ak))) ?_ ?_ (s:=(false,[])) ⟨t_,rfl,rfl,rfl⟩
 .rintro i x ⟨d,acc⟩ ⟨V,a2,a3,a4⟩ hd L hi j N I;simp only at V a2 a3 a4;have e:n.au.take (i+1)=n.au.take i++[x]:=by rw[List.take_add_one,show n.au[i]?=some x by rw[ba]at N;exact N];rfl
  have T:∀y∈n.au.take i,y.ak<x.ak:=by
   have:=h.dg.sublist (List.take_sublist (i+1) n.au)
   grind
  have k1:=J acc m O;have k2:=J acc x O;have k3:=J (acc++[m]) x (by simp only[QM,QU];omega)
  simp only;rw[j,Qc,N,Qa,I]
  by_cases S:x.ak=m.ak
  .rw[Qd S,Qc]
   by_cases Q:m.aI<=x.aI
   .rw[Qd Q];refine .some ?_;have:xg n.au m=true:=List.any_eq_true.2 ⟨x,L,by rw[Qd S,Qd Q];rfl⟩
    show _=_;rw[Qe this];rfl
   .rw[Qf Q];refine .some ⟨(d,acc),rfl,by show acc.length<=i+1+1;omega,?_,?_,?_⟩
    .grind [xg]
    .grind
    .grind
  .rw[Qf S,Qb,k1,k2,k3]
   have f:xg (n.au.take (i+1)) m=false:=by grind [xg]
   by_cases A:m.ak<x.ak
   .rw[Qd A]
    have q:(n.au.take (i+1)).any (λx=>decide (m.ak<x.ak))=true:=by rw[e,List.any_append];simp[A]
    have F:(n.au.take (i+1)).filter (λx=>decide (x.ak<m.ak))=(n.au.take i).filter (λx=>decide (x.ak<m.ak)):=by grind
    have G:(n.au.take (i+1)).filter (λx=>decide (m.ak<x.ak))=(n.au.take i).filter (λx=>decide (m.ak<x.ak))++[x]:=by grind
    cases d with
    |true=>
     simp only[Qh,Qb,Qc,Qa];refine .some ⟨(true,acc++[x]),rfl,by simp only[QM,QU];omega,f,q.symm,?_⟩
     simp only;rw[F,G,a4];simp
    |false=>
     simp only[Qt,Qc,Qa]
     have c:(n.au.take i).filter (λx=>decide (m.ak<x.ak))=[]:=by
      refine List.filter_eq_nil_iff.2 λy B=> ?_
      grind
     rw[c]at a4;refine .some ⟨(true,acc++[m]++[x]),rfl,?_,f,q.symm,?_⟩
     .grind
     .simp only;rw[F,G,c,a4];simp
   .have hxm:x.ak<m.ak:=O;rw[Qf A];have u:∀y∈n.au.take i,¬m.ak<y.ak:=λy B=>by have:=T y B;omega
    have U:d=false:=by grind
    have c:(n.au.take i).filter (λx=>decide (m.ak<x.ak))=[]:=List.filter_eq_nil_iff.2 λy B=>by rw[Qf (u y B)];simp
    subst U;rw[c]at a4;simp only[Qt,Qc,Qb,Qa];refine .some ⟨(false,acc++[x]),rfl,by simp only[QM,QU];omega,f,?_,?_⟩
    .grind
    .grind
 .rintro⟨d,acc⟩ ⟨V,a2,a3,a4⟩ j;rw[QK]at a2 a3 a4;simp only at V a2 a3 a4;simp only;rw[j,Qb];have k1:=J acc m O;have D:xg n.au m=false:=a2;rw[k1,D]
  cases d with
  |true=>
   have:acc=jk n.au m:=by rw[a4];simp[jk]
   rw[this];simp only[Qh,Qb,o,Qa,Qo];exact .some rfl
  |false=>
   have c:n.au.filter (λx=>decide (m.ak<x.ak))=[]:=List.filter_eq_nil_iff.2 λy B=>List.any_eq_false.1 a3.symm y B
   have:acc++[m]=jk n.au m:=by grind [jk]
   simp only[Qt,Qc,this,o,Qa,Qo];exact .some rfl
theorem akN(hs:1<=n.aI/\n.aI<=1000000):uW n=vH n:=by
 have g:=h.ask.r1;have f:=h.ask.r2;unfold vH uW;simp only[etas,av.eta,Bh h hs,IE h hs,Qa,Qh,Qb]
 by_cases c:n.Round=1000
 .rw[Qd c];rfl
 .have a:aC .i64 n.Round 1=n.Round+1:=bH O O;have d:df {n with Round:=n.Round+1}:=⟨⟨h.ask.aL,h.ask.v0,h.ask.v1,h.ask.s0,h.ask.s1,by show 1<=n.Round+1;omega,by show n.Round+1<=1000;omega⟩,h.own,h.di,h.eA,h.kV,h.sub,h.heard,h.dg⟩
  rw[Qf c,Qb,Qb,a];rw[DH h.Ax ⟨O,hs.2⟩ d,PU (n:={n with Round:=n.Round+1}) h.Ax ⟨O,hs.2⟩ rfl d]
theorem akY(hs:1<=n.aI/\n.aI<=1000000){t:aq}(ht:cW t):rI n t=qg n t:=by
 unfold qg rI;simp only[etas,av.eta,Bh h hs,IE h hs,dw ht,c6 ht,Qa,Qh,Qb,Ql];obtain⟨b,f,g⟩:=Eu (a:=n.aa) (b:=t) h.ask.aL.sm;obtain⟨j,i,c⟩:=eqT (a:=n.aa) (b:=t) h.ask.aL.sm;have e:j=b:=by rw[qaH,g,c]
 rw[f,i,e];simp only[Qa]
 cases b with
 |true=>simp only[Qc,IF h,Qa]
 |false=>
  have d:df {n with aa:=t}:=⟨⟨ht,h.ask.v0,h.ask.v1,h.ask.s0,h.ask.s1,h.ask.r1,h.ask.r2⟩,h.own,h.di,h.eA,h.kV,h.sub,h.heard,h.dg⟩
  simp only[Qb];rw[DH h.Ax ⟨O,hs.2⟩ d,PU (n:={n with aa:=t}) h.Ax ⟨O,hs.2⟩ rfl d]
end
def aiK{t:aq}{v aK:Int}{own:C}(ht:cW t)(h0:0<=v)(h1:v<10)(f:0<=aK)(d:aK<=1000000)(ho:own.size<=200):mY v aK t own=kN v aK t own:=by
 have a:df ⟨v,aK,1,1,t,own,[],[],[],[]⟩:=⟨⟨ht,h0,h1,f,d,by show(1:Int)<=1;omega,by show(1:Int)<=1000;omega⟩,ho,.nil,.nil,.nil,λx c=>absurd c QX,λx c=>absurd c QX,List.Pairwise.nil⟩
 have k:=G6 a;have g:(xO ⟨v,aK,1,1,t,own,[],[],[],[]⟩).aI=1:=k.seq;unfold kN mY oO;simp only[etas,dw ht,c6 ht,acU h0 h1];rw[Qf (O:¬v<0),Qf (O:¬(10:Int)<=v),Qf (O:¬aK<0),Qf (O:¬(1000000:Int)<aK),Qf (O:¬(200:Int)<((own.size:Nat):Int))];simp only[Qb,Qa,Ql,Qh,Wk a,IF k.ok];rw[DH a.Ax ⟨by show(0:Int)<=1;omega,by show(1:Int)<=1000000;omega⟩ a,Qa]
 grind [nc,xO]
end
section
def Iy{a b:ae}(c:a.aI=b.aI){s:Int}:({a with aI:=s}:ae)={b with aI:=s}↔a=b:=by
 constructor
 .intro h;cases a;cases b;simp only[ae.mk.injEq]at h c ⊢;obtain⟨h1,f,_,d⟩:=h;exact⟨h1,f,c,d⟩
 .rintro rfl;rfl
def step_seq{m:ae}(h:bz m){s:Int}(hs:0<=s/\s<=1000000):dB {m with aI:=s}={dB m with aI:=s}:=by
 have e1:ed {m with aI:=s}={m with aI:=s}↔ed m=m:=by rw[Mg h hs];exact Iy (DK m).seq
 have e2:ig {m with aI:=s}={m with aI:=s}↔ig m=m:=by rw[Mf h hs];exact Iy (Bi m).seq
 have f:gI {m with aI:=s}={m with aI:=s}↔gI m=m:=by rw[Mi h hs];exact Iy (Bk m).seq
 have d:jX {m with aI:=s}={m with aI:=s}↔jX m=m:=by rw[Mh h hs];exact Iy (Bj m).seq
 unfold dB
 by_cases a:ed m=m
 .rw[Qe (e1.2 a),Qe a]
  by_cases hS:ig m=m
  .rw[Qe (e2.2 hS),Qe hS]
   by_cases c:gI m=m
   .rw[Qe (f.2 c),Qe c]
    by_cases hF:jX m=m
    .rw[Qe (d.2 hF),Qe hF,Wf h hs]
    .rw[Qg (mt d.1 hF),Qg hF,Mh h hs]
   .rw[Qg (mt f.1 c),Qg c,Mi h hs]
  .rw[Qg (mt e2.1 hS),Qg hS,Mf h hs]
 .rw[Qg (mt e1.1 a),Qg a,Mg h hs]
 def Pf:Nat->ae->ae
 |0,m=>m
 |k+1,m=>dB (Pf k m)
def Vg{m:ae}(h:dB m=m):∀k,Pf k m=m
 |0=>rfl
 |k+1=>by rw[Pf,Vg h k,h]
def Vh(m:ae)(k:Nat):∀j,Pf (j+k) m=Pf j (Pf k m)
 |0=>by rw[qau];rfl
 |j+1=>by rw[Nat.add_right_comm,Pf,Pf,Vh m k j]
def Br(a x:ae):Prop:=bz x/\∃k,({x with aI:=0}:ae)=Pf k {a with aI:=0}
def Br.self{m1:ae}(h:bz m1):Br m1 m1:=⟨h,0,rfl⟩
def Hd{a:ae}:∀m,bz m->Br a m->Br a (dB m):=λm h ⟨_,k,e⟩=>⟨G5 h,k+1,by rw[Pf,<-e,step_seq (s:=0) h ⟨s_,s_⟩]⟩
def Hc{a:ae}:∀m,Br a m->Br a (dI m):=λm ⟨h,k,e⟩=>⟨wb h,k,by
 rw[<-e];unfold dI
 split<;>rfl⟩
def adJ{i d a b:ae}(g:KN (Br d) i a)(f:KN (Br d) i b)(E:0<=i.aI):a=b:=by
 have c:∀{x:ae},KN (Br d) i x->dB {x with aI:=0}={x with aI:=0}:=λ{x} r=>by rw[step_seq (s:=0) r.inv ⟨s_,s_⟩,agH r.fix]
 obtain⟨_,k,y⟩:=g.rel;obtain⟨_,j,u⟩:=f.rel
 have core:({a with aI:=0}:ae)={b with aI:=0}:=by
  rcases Nat.le_total k j with h|h
  .have e2:=Vh {d with aI:=0} k (j - k)
   rw[show j - k+k=j by omega,<-u,<-y,Vg (c g)]at e2
   exact e2.symm
  .have e2:=Vh {d with aI:=0} j (k - j)
   rw[show k - j+j=k by omega,<-u,<-y,Vg (c f)]at e2
   exact e2
 have q:a.af=b.af:=by have:=qag ae.af core;exact this
 have hs:a.aI=b.aI:=by
  have n1:=g.num;have D:=f.num
  cases o:aQ a.af with
  |true=>rw[g.seq.zero o,f.seq.zero (by rw[<-q];exact o)]
  |false=>
   have B:=g.seq.pos o;have A:=f.seq.pos (by rw[<-q];exact o)
   omega
 exact(Iy hs).1 core
def Hg{m c:ae}{q q':ae×Int×Unit}(h1:0<=(dI c).aI)(h:HD (Br c) m c q)(g:HD (Br c) m c q'):q=q':=by obtain⟨a,rfl,f⟩:=h;obtain⟨b,rfl,d⟩:=g;rw[adJ f d h1]
section
variable{m:ae}(h:bz m)(hs:gp m)
 include h hs
theorem WJ{v:C}(hv:1<=v.size/\v.size<=200):lD m v=jL m v:=by have hi:=JO h hv;obtain⟨q,e1,h1⟩:=agn Hd Hc h hs hv (Br.self hi);obtain⟨c,e2,a⟩:=PN Hd Hc h hs hv (Br.self hi);rw[e1,e2,Hg (wb hi).seq.1 h1 a]
theorem afa{e:aj}(he:Ai m e):lC m e=lR m e:=by
 have hi:=Kk h he;obtain⟨q,e1,h1⟩:=agm Hd Hc h hs he (Br.self hi);obtain⟨d,e2,c⟩:=Yk Hd Hc h hs he (Br.self hi);rw[e1,e2];rcases h1 with⟨h1,a⟩|⟨rfl,a⟩<;>rcases c with⟨c,b⟩|⟨rfl,b⟩
 .rw[Hg (wb hi).seq.1 h1 c]
 .rw[a]at b;cases b
 .rw[a]at b;cases b
 .rfl
theorem ae9:lB m=lQ m:=by
 by_cases c:m.aW≠3/\dH m≠gl/\m.af.ai<1000
 .have hi:=Js h c.1 c.2.1 c.2.2;obtain⟨q,e1,h1⟩:=agl Hd Hc h hs (Br.self hi);obtain⟨i,e2,g⟩:=Yi Hd Hc h hs (Br.self hi);rw[e1,e2];rcases h1 with⟨h1,_⟩|⟨_,a⟩|⟨_,a⟩
  .rcases g with⟨g,_⟩|⟨_,a⟩|⟨_,a⟩
   .rw[Hg (wb hi).seq.1 h1 g]
   .exact absurd a λa=>a.elim c.1 c.2.1
   .exact absurd a (by have:=c.2.2;omega)
  .exact absurd a λa=>a.elim c.1 c.2.1
  .exact absurd a (by have:=c.2.2;omega)
 .unfold lB qm s4 lQ oO;simp only[ae.eta,etas,aj.eta,aM.eta,xa h hs,vq h hs,yn h,Qa,Qh,Qb,JK h.ev,Ny h.ev,aS]
  by_cases f:m.aW=3
  .rw[Qd f];rfl
  .rw[Qf f]
   by_cases hv:dH m=bE
   .rw[Qd hv];rfl
   .have d:(1000:Int)<=m.af.ai:=by
     rcases Int.lt_or_le m.af.ai 1000 with d|d
     .exact absurd ⟨f,hv,d⟩ c
     .exact d
    rw[Qf hv,Qd d];rfl
end
end
section
def agX{a b:C}:decide (0<zH a b)=bS b a:=by
 cases h:bS b a with
 |true=>
  have h1:¬zH a b<0:=λe=>by have:=wB a b;rw[Qd e,kQ.asymm h]at this;cases this
  have d:¬zH a b=0:=λe=>by have c:=Nc (a:=a) (b:=b);rw[Qd e]at c;rw[qal c.symm,kQ.irrefl]at h;cases h
  exact Qd O
 |false=>
  refine Qf λe=> ?_
  have h1:bS a b=false:=by rw[<-wB];exact Qf O
  have d:=kQ.total _ _ h1 h;have c:=Nc (a:=a) (b:=b);rw[Qd d]at c;have:=qal c;omega
def o0(l:Z C):C:=l.getLast?.getD bE
def Mt{l:Z C}(h:l≠[]):o0 l∈l:=by
 unfold o0
 cases hl:l.getLast? with
 |none=>exact absurd (List.getLast?_eq_none_iff.1 hl) h
 |some a=>exact List.mem_of_getLast? hl
def agz{x:C}(h:iU x):bS bE x=true:=by
 have:=h.1;have h0:bE.size=0:=rfl;unfold bS;rw[Qg (by rw[h0];omega),h0]
 exact Qd O
def J3{l:Z C}{i:Nat}{x:C}(a:l[i]?=some x):o0 (l.take (i+1))=x:=by unfold o0;rw[List.take_add_one,a];simp
def Wu{l:Z C}(h:VL l){i:Nat}{x:C}(c:l[i]?=some x):bS (o0 (l.take i)) x=true:=by
 have hi:i<l.length:=(QH.1 c).1;have a:l[i]=x:=(QH.1 c).2
 by_cases h0:i=0
 .subst h0;exact agz (h.uu x (QL c))
 .have e:=J3 (l:=l) (i:=i - 1) (Qj O);rw[show i - 1+1=i by omega]at e
  rw[e,<-a];exact List.pairwise_iff_getElem.1 h.Jd (i - 1) i O hi O
def aem{l:Z C}(h:VL l):nX l=some (o0 l,decide (l≠[]),()):=by
 unfold nX oO aO;simp only[aS]
 suffices f:Yd (aE _ (bE,false,(0:Int),())) λr=>r=(o0 l,decide (l≠[]),())by obtain⟨r,g,rfl⟩:=f;exact g
 refine Yd.list l h.uL (λi (s:C×Bool)=>(s.1,s.2,i,())) (λi s=>s=(o0 (l.take i),decide (i≠0))) ?_ ?_ (s:=(_,false)) rfl
 .rintro i x s rfl q j hi a o d;have c:l[i]?=some x:=by rw[ba]at o;exact o
  have hl:=Wu h c;simp only;rw[a,Qc,o,Qa,IA,Qa,d,Qd (h.uu x j),xS];simp only[Qc,Qa,Nd,hl];have g:∃s':C×Bool,((x,true,((i+1:Nat):Int),()):C×Bool×Int×Unit)=(s'.1,s'.2,((i+1:Nat):Int),())/\s'=(o0 (l.take (i+1)),decide (i+1≠0)):=⟨(x,true),rfl,by rw[J3 c];rfl⟩
  cases decide (i≠0)<;>exact .some g
 .rintro s rfl a;simp only;rw[a,Qb,QK];refine .some ?_;show _=_;congr 2;rw[qam];cases l<;>simp
def ak0{l:Z C}(h:VL l):pn l=some (o0 l,decide (l≠[]),()):=by
 unfold pn aO;simp only[aS]
 suffices f:Yd (aE _ (bE,(0:Int),())) λr=>r=(o0 l,decide (l≠[]),())by obtain⟨r,g,rfl⟩:=f;exact g
 refine Yd.list l h.uL (λi (s:C)=>(s,i,())) (λi s=>s=o0 (l.take i)) ?_ ?_ rfl
 .rintro i x s rfl A j hi a o d;have c:l[i]?=some x:=by rw[ba]at o;exact o
  have hl:=Wu h c;simp only;rw[a,Qc,o,Qa,Yu,Qa,d,Qd (h.uu x j),CT];simp only[Qc,Qa,agX,hl];exact .some ⟨x,rfl,by rw[J3 c]⟩
 .rintro s rfl a;simp only;rw[a,Qb,QK];refine .some ?_;show _=_;congr 2
  cases hl:l with
  |nil=>rfl
  |cons y r=>
   have u:o0 l∈l:=Mt (by rw[hl];simp)
   have hv:=h.uu _ u;rw[<-hl]
   have q:o0 l≠bE:=λe=>by rw[e]at hv;exact absurd hv.1 s_
   rw[Qf q,Qd (by rw[hl];simp)]
   rfl
def amv{l:Z aA}(d:l.length<=100)(h:∀m∈l,cI m.aa/\m.bj.length<=1000/\m.aG.length<=1000):gk l=some l:=by
 unfold gk
 suffices c:∀(k i:Nat),i+k=l.length->aE _ ((i:Int),l.take i,())=some l from c l.length 0 O
 intro k
 induction k with
 |zero=>intro i hi;obtain rfl:i=l.length:=O;refine bN ?_;simp only[Qf (QF _),Qb,QK,Qo]
 |succ k f=>
  intro i hi;have a:i<l.length:=O;have g:idx l (i:Int)=some l[i]:=by rw[ba];exact Qj a
  obtain⟨h1,o,j⟩:=h _ (QE a);refine(bB ?_).trans (f (i+1) O);simp only[Qd (O:(i:Int)<(l.length:Int)),g,Qc,Qa,etas,aA.eta,Yx h1 o j];rw[nV O o_,bH O O,qab a];rfl
section
variable{nd sl k:Int}{x:aD}
def DN(h:qD nd sl k x):mD x=some x:=by
 have n:=h.jt;have f:=n.di.len;have d:=n.eA.len;have c:=n.kV.len;have o:=n.len;have j:=h.eP.len;have g:gk x.az.au=some x.az.au:=amv O λm a=>⟨(n.heard m a).1.aL.sm,QJ (n.heard m a).1.di.len O,QJ (n.heard m a).1.eA.len O⟩
 have i:eH x.ab.au=some x.ab.au:=aam (λe he=>(h.eP.hv e he).2.1.sm) O
 unfold mD;simp only[aD.eta,av.eta,ae.eta,etas,eN n.ask.aL.sm,eN h.eP.aL.sm,yr _ (QJ f O),yr _ (QJ d O),yr _ (QJ c O),g,i,Qa]
def wx(h:qD nd sl k x):jh x=eI x:=by
 unfold jh eI aO;simp only[etas,aS,ak0 h.jt.kV,aem h.jt.kV,dq,dx,Qa,PW h.eP h.gf,CP h.eP h.gf]
 by_cases c:x.az.aU=[]
 .have e1:decide ((0:Int)<(x.az.aU.length:Int))=false:=by rw[c];rfl
  rw[e1,c];cases decide (x.ab.aW=1)<;>cases aQ x.ab.aB<;>rfl
 .have f:0<x.az.aU.length:=List.length_pos_iff.2 c;have a:iU (o0 x.az.aU):=h.jt.kV.uu _ (Mt c);rw[Qd (O:(0:Int)<(x.az.aU.length:Int)),Qd c,WJ h.eP h.gf a];obtain⟨q,e,q0,d⟩:=F5 h.eP h.gf a;rw[e];simp only[Qa,q0,Ql,Qc,PW d.inv d.seq,CP d.inv d.seq];cases decide (x.ab.aW=1)<;>cases aQ x.ab.aB<;>cases decide (o0 x.az.aU=x.ab.bm)<;>rfl
def aeK{m:ae}(h:bz m)(hs:gp m){v:C}(hv:iU v):Yd (jL m v) λq=>q.2.1=0/\Fs m m.aa q.1/\q.1.bm=v/\q.1.au=m.au:=by
 obtain⟨q,e,h1,d⟩:=F5 h hs hv;obtain⟨o,c,m2,rfl,a⟩:=PN (R:=λ_=>True) (λ_ _ _=>trivial) (λ_ _=>trivial) h hs hv trivial
 rw[e]at c;obtain rfl:=Q7 c;obtain⟨_,_,_,j,i,_⟩:=F2 (ic m v);obtain⟨s,es,_⟩:=RJ m m2;have g:(ic m v).bm=v:=by unfold ic;split<;>rfl
 have f:(ic m v).au=m.au:=by unfold ic;split<;>rfl
 refine⟨_,e,h1,d,?_,?_⟩
 .show(xC m m2).bm=v;rw[es];exact a.env.2.2.2.1.trans (j.trans g)
 .show(xC m m2).au=m.au;rw[es];exact a.env.2.2.2.2.trans (i.trans f)
structure ab2 (x y:aD):Prop where
 jt:y.az=x.az
 round:y.Round=x.Round
 next:y.Next=x.Next
 timer:y.Timer=x.Timer
 heard:y.ab.au=x.ab.au
 xe:x.az.aU≠[]->y.ab.aW=1->aQ y.ab.aB=true->y.ab.bm=o0 x.az.aU
def Yj(h:qD nd sl k x):Yd (eI x) λy=>pd nd sl k y/\oq x.ab y.ab/\ab2 x y:=by
 obtain⟨y,e,h1,u,_⟩:=rP h;refine⟨y,e,h1,u,?_⟩;unfold eI aO at e;simp only[etas,aS,aem h.jt.kV,dx,Qa,CP h.eP h.gf]at e
 have same:(x.az.aU≠[]->x.ab.aW=1->aQ x.ab.aB=true->x.ab.bm=o0 x.az.aU)->∀{a:Bool} {b:C},y=⟨x.az,x.ab,x.Timer,x.Round,x.Next,a,b⟩->ab2 x y:=λc a b A=>by subst A;exact⟨rfl,rfl,rfl,rfl,rfl,c⟩
 by_cases f:x.az.aU=[]
 .rw[f]at e;exact same (λd=>absurd f d) (Q7 e).symm
 .have i:iU (o0 x.az.aU):=h.jt.kV.uu _ (Mt f);rw[Qd f]at e
  by_cases j:x.ab.aW=1
  .rw[Qd j]at e
   cases g:aQ x.ab.aB with
   |false=>rw[g]at e;exact same (λ_ _ e2=>by rw[g]at e2;cases e2) (Q7 e).symm
   |true=>
    rw[g]at e
    by_cases c:o0 x.az.aU=x.ab.bm
    .rw[Qd c]at e;exact same (λ_ _ _=>c.symm) (Q7 e).symm
    .rw[Qf c]at e;obtain⟨q,eq,q0,d,o,r⟩:=aeK h.eP h.gf i;rw[eq]at e;simp only[Qc,Qt,Qa,q0,Ql,CP d.inv d.seq]at e;obtain rfl:=Q7 e;exact⟨rfl,rfl,rfl,rfl,r,λ_ _ _=>o⟩
  .rw[Qf j]at e;exact same (λ_ e2=>absurd e2 j) (Q7 e).symm
end
end
section
def ZA{c:Int}(i:0<=c)(f:c<=1000000):ob c=nK c:=by
 have h1:∀d:Int,0<=d->d<=1000000->aC .i64 d 1=d+1:=λd a b=>bH O O
 unfold ob nK;have g:0<=bO (dy c 11) 0/\bO (dy c 11) 0<=11:=by unfold bO dy;split<;>split<;>omega
 rw[h1 _ g.1 O]
 by_cases h:12<=c
 .have:bO (dy c 11) 0=11:=by unfold bO dy;split<;>split<;>omega
  rw[Qd h,this];rfl
 .have e1:bO (dy c 11) 0=c:=by unfold bO dy;split<;>split<;>omega
  have e2:bO (c+1) 1=c+1:=by unfold bO;split<;>omega
  rw[Qf h,Qb,h1 c i f,e1,e2]
section
variable{m:ae}(h:bz m)(hs:gp m)
 include h hs
 def acd(m:ae):Bool:=(gq (iR m.ak.toNat m.aa ([bM m]++m.au)) (eX (λe=>decide (cD (bM m)<=cD e)) ([bM m]++m.au))).testBit m.ak.toNat
theorem aa0(a:aQ m.af=false):∀e∈[bM m]++m.au,bd e=true/\cI e.aa:=by
 intro e he;rcases QA.1 he with he|he
 .rw[Qz.1 he];exact⟨Fz h hs a,by rw[pb];exact h.aL.sm⟩
 .exact⟨(h.hv e he).1,(h.hv e he).2.1.sm⟩
theorem acB:oJ m=some (!aQ m.af&& !decide (m.aW=3)&&acd m):=by
 have r:=h.ev;have B:=h.len;unfold oJ oO;simp only[etas,PO h hs,Qa]
 cases y:aQ m.af with
 |true=>rfl
 |false=>
  simp only[Qt,Qh,Qb,Qa,qae]
  cases decide (m.aW=3)with
  |true=>rfl
  |false=>
   simp only[Qb,Qt,qae];have a:=aa0 h hs y;have ho:=Fz h hs y;have q:cI (bM m).aa:=by rw[pb];exact h.aL.sm
   have f:([bM m]++m.au).length<=1000:=o_;rw[br o_,Qc]
   rw[D8 ([bM m]++m.au) f (λe=>decide (cD (bM m)<=cD e)) (fin:=λs=>Option.bind (jj m.ak m.aa ([bM m]++m.au)) λF=>Option.bind (gz ([bM m]++m.au) s) λE=>Option.bind (km F E) λj=>if(bu .u64 m.ak)<0 then none else some (decide ((GH .i64 (kb .i64 j (bu .u64 m.ak)) (1:Int))=(1:Int))))
    (λi e s I he u A G=>by
     simp only[u,A,G,NZ A,Qc,Qa,CQ (a e he).2 (a e he).1,CQ q ho]
     rw[br o_,Qc])
    (λs u=>by simp only[u,Qb])]
   have c:tY ([bM m]++m.au):=⟨O,λe he=>(a e he).2⟩
   have o:=r.aF;have hv:=AE o.2 (t:=m.aa) c;rw[o.1]at hv;have d:vw ([bM m]++m.au):=λe he=>jf (a e he).1
   have g:=nu (aF:=m.ak.toNat) h.aL.sm c;have K:gq (iR m.ak.toNat m.aa ([bM m]++m.au)) (eX (λe=>decide (cD (bM m)<=cD e)) ([bM m]++m.au))<1024:=(Fi g (lV (p:=λe=>decide (cD (bM m)<=cD e)) d)).lt
   rw[hv,Qa,AX ([bM m]++m.au) f _ (λe he _=>d e he),Qa,BJ g (lV d),Qa]
   have J:bu .u64 m.ak=m.ak:=by rw[<-o.1];exact adt O
   rw[J,Qg (by have:=h.n0;omega)]
   have D:=OZ (s:=((gq (iR m.ak.toNat m.aa ([bM m]++m.au)) (eX (λe=>decide (cD (bM m)<=cD e)) ([bM m]++m.au)):Nat):Int)) (x:=m.ak) O O h.n0 h.n1
   unfold acd;rw[QV]at D;congr 1;rw[qaH,Qw,D]
theorem acS:uQ m=some (!aQ m.af&& !decide (m.aW=3)&&acd m):=by
 have F:=h.ev;have Q:=h.len;obtain⟨W,q,I⟩:=Yv h hs;unfold uQ oO;simp only[ae.eta,etas,aj.eta,q,Qa]
 cases B:aQ m.af with
 |true=>rfl
 |false=>
  have G:=I B;subst G;simp only[Qt,Qh,Qb,Qa,qae]
  by_cases L:m.aW=3
  .rw[Qd L];rfl
  .rw[Qf L];simp only[Qb,Qt,qae];have A:=aa0 h hs B;have a:([bM m]++m.au).Perm (m.au++[bM m]):=List.perm_append_comm;have c:∀e∈m.au++[bM m],bd e=true/\cI e.aa:=λe he=>A e (a.mem_iff.2 he)
   have j:tY (m.au++[bM m]):=⟨o_,λe he=>(c e he).2⟩
   have E:=F.aF;have U:dj (m.au++[bM m])=m.au++[bM m]:=List.filter_eq_self.2 λe he=>(c e he).1
   have r:vw (m.au++[bM m]):=λe he=>jf (c e he).1
   have u:cD (bM m)=(bM m).af.ai:=by unfold cD;rw[WK,Qg L]
   have d:=Oc E.2 h.aL.sm j;rw[E.1,U]at d
   have o:ot ⟨m.ak,⟨iR m.ak.toNat m.aa (m.au++[bM m])⟩,(m.au++[bM m]).map bL.mk⟩ (bM m)=some ((eX (λe=>decide (cD (bM m)<=cD e)) (m.au++[bM m]):Nat):Int):=by
    unfold ot;refine FO (λe=>decide (cD (bM m)<=cD e)) (m.au++[bM m]) r _ (λi e s he=> ?_) (λs=> ?_)
    .have f:i<(m.au++[bM m]).length:=(QH.1 he).1;have N:i<=1000:=by simp at f;omega
     have J:decide ((i:Int)<((((m.au++[bM m]).map bL.mk).length:Nat):Int))=true:=Qd (by rw[QD];omega)
     have T:aC .i64 (i:Int) 1=((i+1:Nat):Int):=bH O O;have S:idx ((m.au++[bM m]).map bL.mk) (i:Int)=some ⟨e⟩:=by rw[ba,QG,he];rfl
     simp only[J,S,T,Qc,Qa,etas,aj.eta,xo,RO,aS,<-u];cases decide (cD (bM m)<=cD e)<;>simp
    .have J:decide ((((m.au++[bM m]).length:Nat):Int)<((((m.au++[bM m]).map bL.mk).length:Nat):Int))=false:=Qf (by rw[QD];exact QF _)
     simp only[J,Qb,Qo]
   have y:=nu (aF:=m.ak.toNat) h.aL.sm j;have f:=lV (p:=λe=>decide (cD (bM m)<=cD e)) r
   have V:gq (iR m.ak.toNat m.aa (m.au++[bM m])) (eX (λe=>decide (cD (bM m)<=cD e)) (m.au++[bM m]))<1024:=(Fi y f).lt
   rw[WX O,Qa,br o_,Qc,d,Qa,o,Qa,Il y f,Qa,oT,Qa]
   have K:Cx ([bM m]++m.au):=by
    have h1:=h.apart;unfold bU at h1;rw[Qg (by rw[B];decide),UQ hs B]at h1
    exact h1.perm ((D0 _ _).trans a.symm)
   have D:=RR E.2 m.aa K a;unfold acd;rw[D,VK a];generalize gq (iR m.ak.toNat m.aa (m.au++[bM m])) (eX (λe=>decide (cD (bM m)<=cD e)) (m.au++[bM m]))=g at V
   unfold yi fG;rw[Qd (O:(0:Int)<=(g:Int)),Qd (O:(g:Int)<1024),Qd h.n0,Qd h.n1,QV];rfl
theorem alB{t:fU}(ht:xb t){now:Int}:wQ t m now=sL t m now:=by
 obtain⟨b0,b1⟩:=Ug h;have a:decide (t.Bt= -1)=decide (t.Bt<0):=by rw[qam];have:=ht.2.2.1;omega
 unfold wQ sL oO;simp only[ae.eta,etas,Sj ht,aet ht,acS h hs,acB h hs,ZA b0 O,a]
end
section
variable{nd sl k:Int}{x:aD}(h:pd nd sl k x)(hk:k<=999998)
 include h hk
theorem Pm{m:aA}(f:wE m)(d:m.ak≠nd):oI x m=eJ x m:=by
 have p:=h.pre;have c:1<=x.az.aI/\x.az.aI<=1000000:=⟨p.lZ.1,by have:=p.lZ.2;omega⟩
 have a:m.ak≠x.az.ak:=by rw[p.pS];exact d
 unfold oI uR ub lO eJ;simp only[aA.eta,etas,aS,jz h O,so h O,DN p,akU p.jt c f a,aek p.jt c f a,Qa,Qh,Qb];have hs:=PE (b:=x.az) (Km p.jt f a)
 cases xg x.az.au m with
 |true=>rfl
 |false=>
  have h1:=p.lZ;have g:qD nd sl (k+1) {x with az:=nc x.az {x.az with au:=jk x.az.au m}}:=⟨p.eP,p.gf,p.aF,p.aK,hs.ok,by show 1<=(nc x.az {x.az with au:=jk x.az.au m}).aI/\(nc x.az {x.az with au:=jk x.az.au m}).aI<=1+(k+1);rcases hs.seq with e|e<;>rw[e]<;>(try show 1<=x.az.aI/\x.az.aI<=1+(k+1))<;>omega,hs.aF.trans p.pS,hs.aK.trans p.uM,hs.aL.trans p.aL,p.timer,p.round,p.next⟩
  simp only[QB,Qx,Ql,Qh,Qb,Qc,Qa,wx g];obtain⟨y,i,_⟩:=rP g;rw[i];rfl
theorem Ko{e:aj}(he:Ai x.ab e\/(cI e.aa/\(bd e=false\/e.ak=x.ab.ak\/e.aJ≠x.ab.aJ))):uc x e=gX x e:=by
 have p:=h.pre;unfold uc zK zL kI gX;simp only[etas,aS,jz h O,so h O,DN p,Qa,Qh,Qb];rcases he with he|⟨ht,hv⟩
 .rw[afa p.eP p.gf he];obtain⟨q,e1,d⟩:=YJ p.eP p.gf he;rw[e1];rcases d with⟨q0,a⟩|c
  .simp only[Qa,q0,Ql,Qh,Qb,Qc,wx (p.Jz a)];obtain⟨y,f,_⟩:=rP (p.Jz a);rw[f];rfl
  .simp only[Qa,c];rfl
 .rw[UJ p.eP p.gf ht hv,aiM p.eP p.gf ht hv];rfl
theorem alA{now:Int}(h0:0<=now)(h1:now<=200):pf x now=ix x now:=by
 have p:=h.pre;have A:1<=x.az.aI/\x.az.aI<=1000000:=⟨p.lZ.1,by have:=p.lZ.2;omega⟩
 have W:=p.round
 have d:∀y:aD,qD nd sl (k+1) y->(Option.bind (wQ y.Timer y.ab now) λg=>
   bif g.2.1 then
   Option.bind (lB y.ab) λo=>
   Option.bind (bif decide (o.2.1=0)then some (o.2.1,({y with ab:=o.1,Timer:=g.1}:aD))else some (o.2.1,{y with Timer:=g.1})) λV=>
   Option.bind (jh V.2) λG=>some (G,(0:Int),())
   else some ({y with Timer:=g.1},(0:Int),()))=
   Option.bind (sL y.Timer y.ab now) λg=>
   bif g.2.1 then
   Option.bind (lQ y.ab) λo=>
   bif decide (o.2.1=0)then Option.bind (eI {y with ab:=o.1,Timer:=g.1}) λF=>some (F,(0:Int),())
   else Option.bind (eI {y with Timer:=g.1}) λF=>some (F,(0:Int),())
   else some ({y with Timer:=g.1},(0:Int),()):=by
  intro y a;rw[alB a.eP a.gf a.timer,ae9 a.eP a.gf];obtain⟨t,et,ht⟩:=aba a.eP a.gf a.timer h0 h1;obtain⟨r,er,B⟩:=YI a.eP a.gf;have u:qD nd sl (k+1) {y with Timer:=t.1}:=⟨a.eP,a.gf,a.aF,a.aK,a.jt,a.lZ,a.pS,a.uM,a.aL,ht,a.round,a.next⟩
  rw[et];simp only[Qa]
  cases t.2.1 with
  |false=>rfl
  |true=>
   rw[er];simp only[Qc,Qa];rcases B with⟨T,B⟩|B
   .simp only[T,Ql,Qc,Qa];rw[wx (u.Jz B)]
   .simp only[Qf B,Qb,Qa];rw[wx u]
 have N:qD nd sl (k+1) x:=p.le O;unfold pf GO mz kI lO ix oO aO;simp only[aD.eta,av.eta,ae.eta,etas,aS,jz h O,so h O,DN p,Qd h0,Qd h1,Qf (O:¬now<0),Qf (O:¬(200:Int)<now),Qa,Qh,Qb,Qc];simp only[aD.eta,av.eta,ae.eta,etas,aS]at d
 by_cases J:x.az.aU=[]
 .have e1:decide ((0:Int)<(x.az.aU.length:Int))=false:=by rw[J];rfl
  have e2:decide ((x.az.aU.length:Int)=(0:Int))=true:=by rw[J];rfl
  rw[e1,e2];simp only[Qb,Qc,Qa]
  by_cases S:now<x.Next
  .rw[Qd S,Qf (O:¬x.Next<=now)];simp only[Qb,Qc,Qa];exact d x N
  .rw[Qf S,Qd (O:x.Next<=now)];simp only[Qb,Qc,Qa];have j:aC .i64 x.Round 1=x.Round+1:=bH O O;have i:1<=dy (x.Round+1) 1000/\dy (x.Round+1) 1000<=1000:=by unfold dy;split<;>omega
   obtain⟨w,L,w1,w2⟩:=NJ (c:=dy (x.Round+1) 1000) O O;have f:aC .i64 now w=now+w:=bH O O;have E:ob (dy (x.Round+1) 1000)=some w:=(ZA O O).trans L;rw[akN p.jt A];obtain⟨q,eq,X⟩:=aeg p.jt A;rw[eq];rcases X with⟨q0,g1,g2,g3,g4,g5⟩|U
   .have D:qD nd sl (k+1) ⟨q.1,x.ab,x.Timer,dy (x.Round+1) 1000,now+w,x.qL,x.Value⟩:=⟨p.eP,p.gf,p.aF,p.aK,g1,by show 1<=q.1.aI/\q.1.aI<=1+(k+1);have h1:=p.lZ;rcases g5 with e|e<;>rw[e]<;>omega,g2.trans p.pS,g3.trans p.uM,g4.trans p.aL,p.timer,i,by show 0<=now+w/\now+w<=212;omega⟩
    obtain⟨y,K,a,_⟩:=rP D;simp only[Qa,q0,Ql,Qc,j,L,E,f,wx D,K];exact d y a.pre
   .have D:qD nd sl (k+1) ⟨x.az,x.ab,x.Timer,dy (x.Round+1) 1000,now+w,x.qL,x.Value⟩:=⟨p.eP,p.gf,p.aF,p.aK,p.jt,by show 1<=x.az.aI/\x.az.aI<=1+(k+1);have h1:=p.lZ;omega,p.pS,p.uM,p.aL,p.timer,i,by show 0<=now+w/\now+w<=212;omega⟩
    obtain⟨y,K,a,_⟩:=rP D;have I:decide (q.2.1=(0:Int))=false:=by rw[U];rfl
    simp only[Qa,I,Qb,j,L,E,f,wx D,K];exact d y a.pre
 .have Q:0<x.az.aU.length:=List.length_pos_iff.2 J;rw[Qd (O:(0:Int)<(x.az.aU.length:Int)),Qf (O:¬(x.az.aU.length:Int)=(0:Int))];simp only[Qb,Qc,Qa];exact d x N
end
def amS{nd sl:Int}(d:0<=nd)(a:nd<10)(g:1<=sl)(f:sl<=1000000){t:aq}{own:C}{now:Int}(ht:cW t)(ho:own.size<=200)(h0:0<=now)(h1:now<=200):gr nd sl t own now=iF nd sl t own now:=by
 unfold gr iF mz oO aO;simp only[etas,Qd h0,Qd h1,Qf (O:¬now<0),Qf (O:¬(200:Int)<now),Qb,Qc,Qh,Qa];rw[acD d a g f ht,akP d a g f ht,aiK ht d a O f ho];obtain⟨q,eq,q0,g1,g2,g3,g4,g5⟩:=UI ht d a (show(0:Int)<=sl by omega) f ho
 obtain⟨w,r,w1,w2⟩:=NJ (c:=1) O O;have i:aC .i64 now w=now+w:=bH O O;have o:ob 1=some w:=(ZA O O).trans r;obtain⟨m1,m2⟩:=UR (aF:=nd) (aK:=sl) d a g f ht;have j:xb ⟨0, -1⟩:=⟨s_,s_,s_,s_⟩;have u:qD nd sl 0 ⟨q.1,PY nd sl t,⟨0, -1⟩,1,now+w,false,bE⟩:=⟨m1,m2,rfl,rfl,g1,by show 1<=q.1.aI/\q.1.aI<=1+0;rw[g5];decide,g2,g3,g4,j,⟨(s_:(1:Int)<=1),(s_:(1:Int)<=1000)⟩,by show 0<=now+w/\now+w<=212;omega⟩
 rw[eq];simp only[Qa,Ql,Qh,Qb,q0,r,o,i,wx u]
end
section
section
variable{nd sl k:Int}{x:aD}(h:pd nd sl k x)(hk:k<=999998)
 include h hk
theorem amh{m:aA}(j:wE m)(i:m.ak≠nd):Yd (eJ x m) λq=>(xg x.az.au m=false/\q.2.1=0/\pd nd sl (k+1) q.1/\oq x.ab q.1.ab/\xg q.1.az.au m=true/\(q.1.az.aU≠[]->q.1.ab.aW=1->aQ q.1.ab.aB=true->q.1.ab.bm=o0 q.1.az.aU))\/(xg x.az.au m=true/\q.2.1=9):=by
 have p:=h.pre;have h1:=p.lZ;have g:1<=x.az.aI/\x.az.aI<=1000000:=⟨p.lZ.1,O⟩;have a:m.ak≠x.az.ak:=by rw[p.pS];exact i
 have c:=Km p.jt j a;have hs:=PE (b:=x.az) c;have B:=(OX (b:=x.az) c).1;unfold eJ;simp only[aA.eta,etas,jz h O,aek p.jt g j a,Qa,Qh,Qb]
 cases ho:xg x.az.au m with
 |true=>exact .some (.inr ⟨by trivial,rfl⟩)
 |false=>
  have d:(nc x.az {x.az with au:=jk x.az.au m}).aI=x.az.aI\/(nc x.az {x.az with au:=jk x.az.au m}).aI=x.az.aI+1:=hs.seq
  have A:qD nd sl (k+1) {x with az:=nc x.az {x.az with au:=jk x.az.au m}}:=⟨p.eP,p.gf,p.aF,p.aK,hs.ok,by show 1<=(nc x.az {x.az with au:=jk x.az.au m}).aI/\(nc x.az {x.az with au:=jk x.az.au m}).aI<=1+(k+1);omega,hs.aF.trans p.pS,hs.aK.trans p.uM,hs.aL.trans p.aL,p.timer,p.round,p.next⟩
  simp only[QB,Qx,Ql,Qh,Qb];refine Yd.bind (Yj A) λy ⟨u,f,d⟩=> .some (.inl ⟨by trivial,rfl,u,f,?_,λh1 r o=> ?_⟩)
  .show xg y.az.au m=true;rw[d.jt];show xg (nc x.az {x.az with au:=jk x.az.au m}).au m=true
   rw[B];exact List.any_eq_true.2 ⟨m,Wz.2 (.inl rfl),t_⟩
  .have e:=d.jt;simp only at h1 r o ⊢;rw[e]at h1 ⊢;exact d.xe h1 r o
theorem aev:vy x=some ((bif x.qL then[]else[(⟨1,x.ab.aJ,xP x.az,⟨0,0,0,vg,0,⟨0,⟨#[]⟩⟩,⟨0,⟨#[]⟩⟩,⟨0,⟨#[]⟩⟩,0,0⟩⟩:bI)])++(bif aQ x.ab.af then[]else[(⟨2,x.ab.aJ,⟨0,0,vg,[],[]⟩,bM x.ab⟩:bI)])):=by
 have p:=h.pre;obtain⟨e,he,a⟩:=Yv p.eP p.gf;have f:=p.jt.di.len;have d:=p.jt.eA.len;unfold vy Bb ky;simp only[aA.eta,etas,so h O,Qa,Qh,Qb,he,aS];rw[Wl p.jt.ask.aL.sm (by show x.az.bj.length<=1000;omega) (by show x.az.aG.length<=1000;omega)]
 simp only[Qa];rw[Yx p.jt.ask.aL.sm (by show x.az.bj.length<=1000;omega) (by show x.az.aG.length<=1000;omega)]
 simp only[Qa,List.nil_append];rw[br t_,br t_,br t_]
 cases c:aQ x.ab.af with
 |true=>cases x.qL<;>rfl
 |false=>have:=a c;subst this;cases x.qL<;>rfl
end
def aip{t:aq}{v aK:Int}{own:C}(ht:cW t)(h0:0<=v)(h1:v<10)(f:0<=aK)(d:aK<=1000000)(ho:own.size<=200):Yd (kN v aK t own) λq=>q.1.au=[]:=by
 have c:df ⟨v,aK,1,1,t,own,[],[],[],[]⟩:=⟨⟨ht,h0,h1,f,d,by show(1:Int)<=1;omega,by show(1:Int)<=1000;omega⟩,ho,.nil,.nil,.nil,λx a=>absurd a QX,λx a=>absurd a QX,List.Pairwise.nil⟩
 unfold kN oO;simp only[etas,dw ht];rw[Qf (O:¬v<0),Qf (O:¬(10:Int)<=v),Qf (O:¬aK<0),Qf (O:¬(1000000:Int)<aK),Qf (O:¬(200:Int)<((own.size:Nat):Int))];simp only[Qb,Qa,Ql,Qh];rw[DH c.Ax ⟨by show(0:Int)<=1;omega,by show(1:Int)<=1000000;omega⟩ c,Qa]
 exact .some (OX c).1
def alb{nd sl:Int}(d:0<=nd)(a:nd<10)(j:1<=sl)(g:sl<=1000000){t:aq}{own:C}{now:Int}(ht:cW t)(ho:own.size<=200)(h0:0<=now)(h1:now<=200):Yd (iF nd sl t own now) λq=>q.2.1=0/\pd nd sl 0 q.1/\q.1.az.au=[]/\q.1.ab.au=[]/\q.1.Round=1/\∀w,nK 1=some w->q.1.Next=now+w:=by
 unfold iF oO;simp only[etas];rw[Qf (O:¬now<0),Qf (O:¬(200:Int)<now)];simp only[Qb,Qa];rw[acD d a j g ht];simp only[Qa,Ql,Qh,Qb];obtain⟨q,eq,q0,g1,g2,g3,g4,g5⟩:=UI ht d a (show(0:Int)<=sl by omega) g ho
 obtain⟨E,o,B⟩:=aip ht d a (show(0:Int)<=sl by omega) g ho
 rw[eq]at o;obtain rfl:=Q7 o;rw[eq,Qa,q0];simp only[Ql,Qh,Qb];obtain⟨w,D,w1,w2⟩:=NJ (c:=1) O O;have i:aC .i64 now w=now+w:=bH O O;rw[D,Qa,i];obtain⟨m1,m2⟩:=UR (aF:=nd) (aK:=sl) d a j g ht;have u:xb ⟨0, -1⟩:=⟨s_,s_,s_,s_⟩;refine Yd.bind (Yj (k:=0) (x:=⟨q.1,PY nd sl t,⟨0, -1⟩,1,now+w,false,bE⟩) ⟨m1,m2,rfl,rfl,g1,by show 1<=q.1.aI/\q.1.aI<=1+0;rw[g5];decide,g2,g3,g4,u,⟨(s_:(1:Int)<=1),(s_:(1:Int)<=1000)⟩,by show 0<=now+w/\now+w<=212;omega⟩) λy ⟨A,_,f⟩=> .some ⟨rfl,A,?_,f.heard,f.round,λw' r=> ?_⟩
 .show y.az.au=[];rw[f.jt];exact B
 .obtain rfl:=Q7 r;exact f.next
end
section
def Yd.is{α:Type}{o:Y α}{x:α}(h:Yd o λr=>r=x):o=Option.some x:=by obtain⟨y,e,rfl⟩:=h;exact e
def aeN{α β:Type}{R:α->β->Prop}:∀{l:Z α},(∀x∈l,∃y,R x y)->∃d:Z β,d.length=l.length/\∀(i:Nat) (x:α),l[i]?=some x->∃y,d[i]?=some y/\R x y
 |[],_=>⟨[],rfl,λi x h=>by simp at h⟩
 |a::l,h=>by
  obtain⟨y,f⟩:=h a QC;obtain⟨d,h1,g⟩:=aeN λx c=>h x (QI _ c)
  refine⟨y::d,by simp[h1],λi x c=> ?_⟩
  cases i with
  |zero=>simp only[List.getElem?_cons_zero,Qk]at c;subst c;exact⟨y,rfl,f⟩
  |succ i=>simpa using g i x (by simpa using c)
def X2{α:Type}{a l:Z α}(h:a.length=l.length){i:Nat}(hi:i<l.length){y:α}(c:a[i]?=some y):(a.take i++l.drop i).set i y=a.take (i+1)++l.drop (i+1):=by
 have e:a.take (i+1)=a.take i++[y]:=by rw[List.take_add_one,c];rfl
 rw[e,QQ hi,List.set_append_right _ _ (by rw[List.length_take];omega),List.length_take,qaD O,Nat.sub_self,List.set_cons_zero,qah]
 rfl
def aby{α:Type}{a l:Z α}(h:a.length=l.length)(i:Nat):(a.take i++l.drop i)[i]?=l[i]?:=by grind
def Ux{α:Type}{P:α->Bool}:∀{l:Z α} {i:Nat},i<=l.length->(∀j,j<i->∃y,l[j]?=some y/\P y=true)->(∀y,l[i]?=some y->P y=false)->(l.takeWhile P).length=i
 |[],i,h,_,_=>by simp at h;subst h;rfl
 |x::l,0,_,_,c=>by rw[List.takeWhile_cons,c x rfl];rfl
 |x::l,i+1,h,h1,c=>by
  obtain⟨y,e,a⟩:=h1 0 O;obtain rfl:x=y:=by simpa using e
  rw[List.takeWhile_cons,a,Qe rfl,QN,Ux (by simpa using h) (λj d=>by simpa using h1 (j+1) O) λy a=>c y (by simpa using a)]
def Bq(nd k:Int)(x:aD):Prop:=1<=x.ab.aJ/\x.ab.aJ<=1000000/\pd nd x.ab.aJ k x
def Bq.le{nd k k':Int}{x:aD}(h:Bq nd k x)(hk:k<=k'):Bq nd k' x:=⟨h.1,h.2.1,h.2.2.le hk⟩
def Bq.Vu{nd k k':Int}{x y:aD}(h:Bq nd k x)(a:vR nd x.ab.aJ k' x y):Bq nd k' y/\y.ab.aJ=x.ab.aJ:=by have e:=a.1.pre.aK;exact⟨⟨by rw[e];exact h.1,by rw[e];exact h.2.1,by rw[e];exact a.1⟩,e⟩
structure iV (nd k:Int) (p:al):Prop where
 aF:p.ak=nd
 n0:0<=nd
 n1:nd<10
 aL:cW p.aa
 len:p.ax.length<=8
 aK:∀x∈p.ax,Bq nd k x
 dg:p.ax.Pairwise λx y=>x.ab.aJ<y.ab.aJ
 same:∀x∈p.ax,x.ab.aa=p.aa
def iV.le{nd k k':Int}{p:al}(h:iV nd k p)(hk:k<=k'):iV nd k' p:=⟨h.aF,h.n0,h.n1,h.aL,h.len,λx a=>(h.aK x a).le hk,h.dg,h.same⟩
def alI{nd k:Int}{p:al}(h:iV nd k p){d:aD->Y Bool}{S:aq->aq->Y Bool}(E:∀x∈p.ax,d x=some true)(hS:∀x∈p.ax,S x.ab.aa p.aa=some true):
  aE (λ(a:Int×Unit)=>
   bif (decide (a.1<((List.length p.ax:Nat):Int)))then
   Option.bind (idx p.ax a.1) λf=>
   aX (λ(A:Bool×Unit)=>bif A.1 then Option.map inr (some false)else some (inl ((aC .i64 a.1 (1:Int)),()))) λc=>
   Option.bind (d f) λB=>
   bif (!B)then c (true,())else
   bif (!decide (f.ab.ak=p.ak))then c (true,())else
   Option.bind (S f.ab.aa p.aa) λj=>
   bif (!j)then c (true,())else
   bif (decide ((0:Int)<a.1))then
   Option.bind (idx p.ax (cQ .i64 a.1 (1:Int))) λg=>c ((decide (f.ab.aJ<=g.ab.aJ)),())
   else c (false,())
   else Option.map inr (some true)) ((0:Int),())=some true:=by
 have u:=h.len;refine Yd.eq_true (Yd.list p.ax O (λi (_:Unit)=>(i,())) (λ_ _=>True) (λi x _ _ _ o hi r q y=> ?_) (λ_ _ r=> ?_) (s:=()) trivial)
 .simp only[r,Qc,q,Qa,E x o,hS x o,Qh,Qb,Qd ((h.aK x o).2.2.pre.aF.trans h.aF.symm),aS]
  by_cases h0:(0:Int)<(i:Int)
  .obtain⟨m,rfl⟩:∃m:Nat,i=m+1:=⟨i - 1,O⟩;have D:=List.pairwise_iff_getElem.1 h.dg m (m+1) O hi O;obtain rfl:p.ax[m+1]=x:=by rw[ba,Qj hi]at q;exact Q7 q
   rw[Qd h0,Qc,om O O,show(((m+1:Nat):Int)) - 1=(m:Int)by omega,ba,Qj (show m<p.ax.length by omega),Qa,Qf O,Qb,y]
   exact .some ⟨(),rfl,trivial⟩
  .rw[Qf h0,Qb,y];exact .some ⟨(),rfl,trivial⟩
 .simp only[r,Qb];exact .some rfl
def oG{nd k:Int}{p:al}(h:iV nd k p)(hk:k<=999999):fe p=some true:=by
 have d:=h.len;unfold fe oO;simp only[aD.eta,av.eta,ae.eta,etas,sk h.aL.sm,tC h.aL,Qa,Ql,Qh];rw[Qf (show¬p.ak<0 by rw[h.aF];have:=h.n0;omega),Qf (show¬(9:Int)<p.ak by rw[h.aF];have:=h.n1;omega),Qf (show¬(8:Int)<(p.ax.length:Int)by omega)]
 simp only[Qb,Qa];refine alI h (λx c=>jz (h.aK x c).2.2 hk) λx c=> ?_
 obtain⟨r,f,g⟩:=Eu (a:=x.ab.aa) (b:=p.aa) (h.aK x c).2.2.pre.eP.aL.sm;rw[f,g.2 (h.same x c)]
def mE(l:Z aD)(n:Int):Nat:=(l.takeWhile λx=>decide (x.ab.aJ<n)).length
def np(l:Z aD)(n:Int):Bool:=match l[mE l n]? with|some x=>decide (x.ab.aJ=n)|none=>false
def RQ(l:Z aD)(n:Int):mE l n<=l.length:=PA _ _
def akf{l:Z aD}{n:Int}{x:aD}(a:x∈l.take (mE l n)):x.ab.aJ<n:=by
 obtain⟨j,c,rfl⟩:=List.getElem_of_mem a;rw[List.length_take]at c;obtain⟨y,e,d⟩:=(DE (λx:aD=>decide (x.ab.aJ<n)) l).1 j (by show j<mE l n;omega)
 grind
def akg{l:Z aD}(hs:l.Pairwise λx y=>x.ab.aJ<y.ab.aJ){n:Int}(ht:np l n=false){x:aD}(c:x∈l.drop (mE l n)):n<x.ab.aJ:=by
 obtain⟨j,d,rfl⟩:=List.getElem_of_mem c;rw[List.length_drop]at d;have a:mE l n<l.length:=O;have e:=Qj a;have h1:=qb3 ((DE (λx:aD=>decide (x.ab.aJ<n)) l).2 _ e)
 have g:¬l[mE l n].ab.aJ=n:=by grind [np]
 rw[List.getElem_drop];rcases qbh j with rfl|f
 .show n<(l[mE l n]).ab.aJ;omega
 .have:=List.pairwise_iff_getElem.1 hs (mE l n) (mE l n+j) a O O;omega
theorem Jt{l:Z aD}{n:Int}(h:np l n=true):∃x,l[mE l n]?=some x/\x.ab.aJ=n:=by grind [np]
theorem adX{l:Z aD}(hs:l.Pairwise λx y=>x.ab.aJ<y.ab.aJ){i:Nat}{x:aD}(a:l[i]?=some x):mE l x.ab.aJ=i:=by
 obtain⟨hi,rfl⟩:=QH.1 a;refine Ux O (λj c=>⟨_,Qj (show j<l.length by omega),?_⟩) λy d=> ?_
 .exact Qd (List.pairwise_iff_getElem.1 hs j i O hi c)
 .grind
def akj{l:Z aD}(hs:l.Pairwise λx y=>x.ab.aJ<y.ab.aJ){i:Nat}{x:aD}(a:l[i]?=some x):np l x.ab.aJ=true:=by grind [np,adX]
def Nj{p:al}(hl:p.ax.length<=8)(n:Int):zk p n=some (((mE p.ax n:Nat):Int),np p.ax n,()):=by
 obtain⟨i,h1,D,B,A⟩:=XR p.ax O (λx=>decide (x.ab.aJ<n)) (r:=λi=>some ((i:Int),(match p.ax[i]? with|some x=>decide (x.ab.aJ=n)|none=>false),()))
  (step:=λ(v1:Int×Unit)=>
   Option.bind (bif (decide (v1.1<((List.length p.ax:Nat):Int)))then Option.bind (idx p.ax v1.1) λq=>some (decide (q.ab.aJ<n))else some false) λb3=>
   bif b3 then some (inl ((aC .i64 v1.1 (1:Int)),()))
   else Option.map inr (aX (λ(f:Int×Bool×Unit)=>some (f.1,f.2.1,())) λg=>bif (decide (v1.1<((List.length p.ax:Nat):Int)))then Option.bind (idx p.ax v1.1) λo=>g (v1.1,(decide (o.ab.aJ=n)),())else g (v1.1,false,())))
  (λi y j a c d u=>by simp only[a,Qc,c,Qa,d,u])
  (λi y j a c d=>by simp only[a,Qc,c,Qa,d,Qb,aS,j])
  (λa=>by simp only[a,Qb,Qa,aS];rw[qaJ (Qs _)])
 have e:mE p.ax n=i:=Ux h1 D B;unfold np;rw[e];exact A
def zP:al:=⟨0,false,⟨0,[],[]⟩,[]⟩
structure Ns (nd k n:Int) (p:al) (own:ByteArray) (now:Int) (s:aD):Prop where
 e:iF nd n p.aa own now=some (s,0,())
 ok:Bq nd k s
 aK:s.ab.aJ=n
 aL:s.ab.aa=p.aa
def MS(p:al)(n:Int)(s:aD):al:={p with ax:=p.ax.take (mE p.ax n)++[s]++p.ax.drop (mE p.ax n)}
def Cg(p:al)(n:Int)(s:aD):al×Int×Unit:=if np p.ax n=true then(zP,6,())else if p.ax.length=8 then(zP,3,())else(MS p n s,0,())
def n5(p:al)(n:Int)(s:aD):al:=if np p.ax n=true then p else MS p n s
def LP(p:al)(i:Nat)(s:aD):al:={p with ax:=p.ax.set i s}
def xB(p:al)(n:Int)(s:aD)(g:aD->Y (aD×Int×Unit)):Y (al×Int×Unit):=
 if np p.ax n=false/\p.ax.length=8 then some (zP,3,())else
 Option.bind (n5 p n s).ax[mE (n5 p n s).ax n]? λx=>Option.bind (g x) λr=>some (if r.2.1=0 then(LP (n5 p n s) (mE (n5 p n s).ax n) r.1,0,())else(zP,r.2.1,()))
section
variable{nd k:Int}{p:al}(h:iV nd k p)
 include h
theorem US{n:Int}(c:1<=n)(a:n<=1000000){own:C}(ho:own.size<=200){now:Int}(h0:0<=now)(h1:now<=200)(hk0:0<=k):∃s,Ns nd k n p own now s:=by obtain⟨⟨s,e,u⟩,e1,e2,d,f⟩:=amy h.n0 h.n1 c a h.aL ho h0 h1;obtain rfl:e=0:=e2;have hs:s.ab.aJ=n:=d.pre.aK;exact⟨s,e1,⟨O,O,by rw[hs];exact d.le hk0⟩,hs,f⟩
section
variable{n:Int}{own:C}{now:Int}{s:aD}(hs:Ns nd k n p own now s)
 include hs
theorem NW(ht:np p.ax n=false)(i:p.ax.length≠8):iV nd k (MS p n s):=by
 have f:=h.len;have g:=RQ p.ax n
 have e:∀x,x∈(MS p n s).ax↔x∈p.ax\/x=s:=λx=>by
  show x∈p.ax.take _++[s]++p.ax.drop _↔_
  conv=>rhs;rw[<-List.take_append_drop (mE p.ax n) p.ax]
  simp only[QA,Qz]
  grind
 refine⟨h.aF,h.n0,h.n1,h.aL,?_,λx a=> ?_,?_,λx a=> ?_⟩
 .show(p.ax.take _++[s]++p.ax.drop _).length<=8;simp only[QM,List.length_take,List.length_drop,QN,qay];omega
 .rcases(e x).1 a with a|rfl
  .exact h.aK x a
  .exact hs.ok
 .show(p.ax.take (mE p.ax n)++[s]++p.ax.drop (mE p.ax n)).Pairwise _;have d:=h.dg;rw[<-List.take_append_drop (mE p.ax n) p.ax,qai]at d;rw[qah,qai];refine⟨d.1,Q0.2 ⟨λy c=> ?_,d.2.1⟩,λx a y c=> ?_⟩
  .rw[hs.aK];exact akg h.dg ht c
  .rcases Qv.1 c with rfl|c
   .rw[hs.aK];exact akf a
   .exact d.2.2 x a y c
 .rcases(e x).1 a with a|rfl
  .exact h.same x a
  .exact hs.aL
theorem ajd(ht:np p.ax n=false)(c:p.ax.length≠8):(MS p n s).ax[mE p.ax n]?=some s:=by
 have a:=RQ p.ax n;show(p.ax.take _++[s]++p.ax.drop _)[_]?=_
 grind
theorem XD(d:¬(np p.ax n=false/\p.ax.length=8)):iV nd k (n5 p n s)/\np (n5 p n s).ax n=true/\∃x,(n5 p n s).ax[mE (n5 p n s).ax n]?=some x/\x.ab.aJ=n/\x∈(n5 p n s).ax:=by
 have c:iV nd k (n5 p n s)/\np (n5 p n s).ax n=true:=by
  unfold n5
  cases ht:np p.ax n with
  |true=>exact⟨h,ht⟩
  |false=>
   have a:p.ax.length≠8:=λe=>d ⟨ht,e⟩
   have hi:=NW h hs ht a;refine⟨hi,?_⟩;have:=akj hi.dg (ajd h hs ht a);rw[hs.aK]at this;exact this
 grind [Jt]
theorem abX:qE p n own now=some (Cg p n s):=by
 have a:=h.len;have d:=RQ p.ax n;unfold qE Cg MS;simp only[aD.eta,av.eta,ae.eta,etas,al.eta,Nj h.len,Qa]
 cases np p.ax n with
 |true=>rfl
 |false=>
  simp only[Qb,QB,Qx]
  by_cases c:p.ax.length=8
  .rw[Qe c,Qd O];rfl
  .rw[Qg c,Qf O,Qb,h.aF,hs.e,Qa,Qd rfl]
   grind [vY,AA,mE,FT,br,FU]
theorem aij:kJ p n own now=some (if np p.ax n=false/\p.ax.length=8 then(zP,0,3,())else(n5 p n s,((mE (n5 p n s).ax n:Nat):Int),0,())):=by
 have c:=h.len;unfold kJ;simp only[etas,al.eta,Nj h.len,Qa,abX h hs]
 cases ht:np p.ax n with
 |true=>grind [n5]
 |false=>
  rw[Qb];unfold Cg;rw[Qg (by rw[ht];simp)]
  by_cases a:p.ax.length=8
  .rw[Qe a,Qe ⟨rfl,a⟩,Nj (show zP.ax.length<=8 by decide),Qa]
   rfl
  .rw[Qg a,Qg λe=>a e.2,Nj (NW h hs ht a).len,Qa]
   unfold n5;rw[Qg (by rw[ht];simp)]
end
theorem adW{i:Nat}(hi:i<p.ax.length){s:aD}{e:Int}:fH p (i:Int) s e=some (if e=0 then(LP p i s,0,())else(zP,e,())):=by
 have a:=h.len;unfold fH;simp only[etas]
 by_cases he:e=0
 .rw[Qe he,Qd he,Qh,Qb,br O,Qc,ba,Qj hi,Qa,QV,Qj hi];rfl
 .rw[Qg he,Qf he];rfl
theorem aa3{k':Int}(hk:k<=k'){i:Nat}{x y:aD}(f:p.ax[i]?=some x)(o:Bq nd k' y)(hs:y.ab.aJ=x.ab.aJ)(ht:y.ab.aa=x.ab.aa):iV nd k' (LP p i y):=by
 have q:=QL f;obtain⟨hi,rfl⟩:=QH.1 f;refine⟨h.aF,h.n0,h.n1,h.aL,by show(p.ax.set i y).length<=8;rw[qan];exact h.len,λz c=> ?_,?_,λz c=> ?_⟩
 .rcases List.mem_or_eq_of_mem_set (show z∈p.ax.set i y from c)with c|rfl
  .exact(h.aK z c).le hk
  .exact o
 .show(p.ax.set i y).Pairwise _;rw[List.pairwise_iff_getElem];intro a b j g d;rw[qan]at j g;have:=List.pairwise_iff_getElem.1 h.dg a b j g d
  grind
 .rcases List.mem_or_eq_of_mem_set (show z∈p.ax.set i y from c)with c|rfl
  .exact h.same z c
  .exact ht.trans (h.same _ q)
end
structure rF (p q:al):Prop where
 len:p.ax.length<=q.ax.length
 has:∀x∈p.ax,∃y∈q.ax,y.ab.aJ=x.ab.aJ/\oq x.ab y.ab
theorem rF.refl(p:al):rF p p:=⟨Qs _,λx a=>⟨x,a,rfl,λe=>⟨e,rfl⟩⟩⟩
def ach{a b c:ae}(h:oq a b)(d:oq b c):oq a c:=λe=>(let e1:=h e;let e2:=d e1.1;⟨e2.1,e2.2.trans e1.2⟩)
def rF.trans{p q r:al}(h:rF p q)(a:rF q r):rF p r:=⟨QJ h.len a.len,λx f=>by
 obtain⟨y,d,e1,e2⟩:=h.has x f;obtain⟨z,c,i,g⟩:=a.has y d
 exact⟨z,c,i.trans e1,ach e2 g⟩⟩
def Pq(nd k:Int)(p:al)(q:al×Int×Unit):Prop:=(q.2.1=0/\iV nd k q.1/\rF p q.1/\q.1.bh=p.bh)\/q.2.1≠0
section
variable{nd k:Int}{p:al}(h:iV nd k p){n:Int}{own:C}{now:Int}{s:aD}(hs:Ns nd k n p own now s)
 include h hs
theorem ag5:Pq nd k p (Cg p n s):=by
 unfold Cg;split
 .exact .inr s_
 .rename_i ht;split
  .exact .inr s_
  .rename_i c;refine .inl ⟨rfl,NW h hs (by simpa using ht) c,⟨?_,λx a=>⟨x,?_,rfl,λe=>⟨e,rfl⟩⟩⟩,rfl⟩
   .show _<=(p.ax.take _++[s]++p.ax.drop _).length;simp only[QM,List.length_take,List.length_drop,QN,qay];omega
   .show x∈p.ax.take _++[s]++p.ax.drop _;rw[<-List.take_append_drop (mE p.ax n) p.ax]at a
    grind
theorem aa6:rF p (n5 p n s)/\(∀x∈p.ax,x∈(n5 p n s).ax)/\∀x∈(n5 p n s).ax,x∈p.ax\/x=s:=by
 unfold n5;split
 .grind [rF.refl]
 .have e:∀x,x∈(MS p n s).ax↔x∈p.ax\/x=s:=λx=>by
   show x∈p.ax.take _++[s]++p.ax.drop _↔_
   conv=>rhs;rw[<-List.take_append_drop (mE p.ax n) p.ax]
   simp only[QA,Qz]
   grind
  refine⟨⟨?_,λx a=>⟨x,(e x).2 (.inl a),rfl,λe=>⟨e,rfl⟩⟩⟩,λx a=>(e x).2 (.inl a),λx a=>(e x).1 a⟩
  show _<=(p.ax.take _++[s]++p.ax.drop _).length;simp only[QM,List.length_take,List.length_drop,QN,qay];omega
theorem N5{k':Int}(hk:k<=k'){g:aD->Y (aD×Int×Unit)}(N:∀x,Bq nd k x->x.ab.aJ=n->Yd (g x) λq=>(q.2.1=0/\vR nd x.ab.aJ k' x q.1/\q.1.ab.aa=x.ab.aa)\/q.2.1≠0):
  Yd (xB p n s g) λq=>Pq nd k' p q/\(q.2.1=0->(∀x∈p.ax,x.ab.aJ≠n->x∈q.1.ax)/\(∀y∈q.1.ax,y∈p.ax\/y.ab.aJ=n)/\∃y∈q.1.ax,y.ab.aJ=n):=by
 unfold xB;split
 .exact .some ⟨.inr s_,λe=>by cases e⟩
 .rename_i Q;obtain⟨hi,ht,x,B,c,u⟩:=XD h hs Q;obtain⟨g1,g2,g3⟩:=aa6 h hs;rw[B,Qa];refine(N x (hi.aK x u) c).bind λr K=> .some ?_
  rcases K with⟨i,I,F⟩|i
  .rw[Qe i];obtain⟨d1,d2⟩:=(hi.aK x u).Vu I;have J:=(QH.1 B).1;have E:=(QH.1 B).2
   have d:∀z,z∈(n5 p n s).ax->z.ab.aJ≠n->z∈(n5 p n s).ax.set (mE (n5 p n s).ax n) r.1:=λz a f=>by
    obtain⟨j,G,rfl⟩:=List.getElem_of_mem a;have L:mE (n5 p n s).ax n≠j:=λe=>f (by subst e;rw[E];exact c)
    have:=QE (l:=(n5 p n s).ax.set (mE (n5 p n s).ax n) r.1) (n:=j) (by rw[qan];exact G)
    grind
   have A:r.1∈(n5 p n s).ax.set (mE (n5 p n s).ax n) r.1:=List.mem_set J _;refine⟨.inl ⟨rfl,aa3 hi hk B d1 d2 F,⟨by show _<=((n5 p n s).ax.set _ _).length;rw[qan];exact g1.len,λz a=> ?_⟩,?_⟩,λ_=>⟨λz a f=>d z (g2 z a) f,λz a=> ?_,r.1,A,d2.trans c⟩⟩
   .by_cases o:z.ab.aJ=n
    .refine⟨r.1,A,by rw[d2,c,o],?_⟩
     have D:z=x:=by
      obtain⟨j,G⟩:=List.getElem?_of_mem (g2 z a);have:=adX hi.dg G
      grind
     rw[D];exact I.2
    .exact⟨z,d z (g2 z a) o,rfl,λe=>⟨e,rfl⟩⟩
   .show(n5 p n s).bh=p.bh;unfold n5;split<;>rfl
   .rcases List.mem_or_eq_of_mem_set (show z∈(n5 p n s).ax.set _ _ from a)with a|rfl
    .rcases g3 z a with a|rfl
     .exact .inl a
     .exact .inr hs.aK
    .exact .inr (d2.trans c)
  .rw[Qg i];exact⟨.inr i,λe=>absurd e i⟩
theorem NL{g:aD->Y (aD×Int×Unit)}{F:Y (al×Int×Unit)}(hF:F=Option.bind (kJ p n own now) λq=>bif (!decide (q.2.2.1=(0:Int)))then some (zP,q.2.2.1,())else
   Option.bind (idx q.1.ax q.2.1) λx=>Option.bind (g x) λr=>Option.bind (fH q.1 q.2.1 r.1 r.2.1) λw=>some (w.1,w.2.1,())):F=xB p n s g:=by
 rw[hF,aij h hs,Qa];unfold xB;split
 .rfl
 .rename_i d;obtain⟨hi,ht,x,f,a,c⟩:=XD h hs d
  grind [ba,adW]
end
section
variable{nd k:Int}{p:al}(h:iV nd k p)(hk0:0<=k)(hk:k<=999998)
 include h hk0 hk
theorem afQ:iV nd k {p with bh:=true}:=⟨h.aF,h.n0,h.n1,h.aL,h.len,h.aK,h.dg,h.same⟩
theorem akm:vz p=some {p with bh:=true}:=by unfold vz;simp only[etas,al.eta,oG h O,Qa,Qh,Qb]
section
variable{n:Int}{own:C}{now:Int}{s:aD}(hs:Ns nd k n p own now s)
 include hs
theorem aeA:mB p n own now=some (if p.bh=true then(p,0,())else Cg p n s):=by unfold mB;simp only[etas,al.eta,oG h O,Qa,Qh,Qb,abX h hs];cases p.bh<;>rfl
theorem agf:kZ p n own now=if p.bh=true then some (p,0,())else xB p n s λx=>gH x own:=by
 unfold kZ;simp only[aD.eta,av.eta,ae.eta,etas,al.eta,oG h O,Qa,Qh,Qb]
 cases p.bh with
 |true=>rfl
 |false=>exact NL h hs rfl
end
end
def zI(l:bI):Bool:= !(decide (l.bF=1)||(decide (l.bF=2)&&decide (l.aJ=l.ay.aJ)))
 def jo(l:bI)(x:aD):Y (aD×Int×Unit):=bif decide (l.bF=1)then eJ x l.aP else gX x l.ay
def ali{nd k:Int}{p:al}(h:iV nd k p)(hk:k<=999998){now:Int}{l:bI}{s:aD}(hs:Ns nd k l.aJ p (ByteArray.mk #[48]) now s):
  mi p l now=if p.bh=true then some (p,0,())else if zI l=true then some (zP,1,())else xB p l.aJ s (jo l):=by
 unfold mi zI oO aO;simp only[aD.eta,av.eta,ae.eta,aA.eta,aj.eta,etas,al.eta,oG h O,Qa,Qh,Qb]
 cases p.bh with
 |true=>rfl
 |false=>
  rw[Qb,Qg t_]
  by_cases k1:l.bF=1
  .rw[<-NL h hs (g:=jo l) rfl];simp[jo,k1,zP]
  .by_cases a:l.bF=2
   .by_cases c:l.aJ=l.ay.aJ
    .rw[<-NL h hs (g:=jo l) rfl];simp[jo,a,<-c,zP]
    .simp[a,c,zP]
   .simp[k1,a,zP]
structure Ur (nd:Int) (l:bI):Prop where
 jt:l.bF=1->wE l.aP/\l.aP.ak=nd
 env:l.bF=2->cI l.ay.aa/\(bd l.ay=true->cW l.ay.aa/\l.ay.ak=nd)
 s0:1<=l.aJ
 s1:l.aJ<=1000000
def TJ{nd k:Int}(hk:k<=999998){l:bI}{c:Int}(hl:Ur c l)(d:c≠nd)(f:zI l=false){x:aD}(g:Bq nd k x)(hs:x.ab.aJ=l.aJ):
  Yd (jo l x) λq=>(q.2.1=0/\vR nd x.ab.aJ (k+1) x q.1/\q.1.ab.aa=x.ab.aa)\/q.2.1≠0:=by
 unfold jo;refine Yd.cond (λk1=> ?_) (λk1=> ?_)
 .obtain⟨g1,g2⟩:=hl.jt (qal k1);exact Sl g.2.2 hk g1 (by rw[g2];exact d)
 .have k1:=qb3 k1;simp only[zI,Bool.not_eq_false',QR,Qw,Qi]at f;have f:=f.resolve_left k1;obtain⟨g1,g2⟩:=hl.env f.1;refine(V6 g.2.2 hk ?_).mono λy a=>a.imp (λa=>⟨a.1,⟨a.2.1.1.le O,a.2.1.2⟩,a.2.2⟩) id
  cases hv:bd l.ay with
  |true=>obtain⟨g3,g4⟩:=g2 hv;exact .inl ⟨hv,g3,by rw[hs,f.2],by rw[g4,g.2.2.pre.aF];exact d⟩
  |false=>exact .inr ⟨g1,rfl⟩
structure VG (g:aD->Option (aD×Int×Unit)) (l ys:List aD):Prop where
 len:ys.length=l.length
 at_:∀(i:Nat) (x:aD),l[i]?=some x->∃y,ys[i]?=some y/\g x=some (y,0,())
def xl(p:al)(t:aq)(a:Z aD):al:={p with aa:=t,ax:=a}
def afd{p:al}{g:aD->Y (aD×Int×Unit)}(B:p.ax.length<=8){a:Z aD}(d:VG g p.ax a)(t:aq)(z:al)
  (E:∀(q:al) (i:Nat) (y:aD),q.ax.length<=8->i<q.ax.length->fH q (i:Int) y 0=some (LP q i y,0,())):
  aE (λ(c:Int×al×al×Unit)=>
   bif (decide (c.1<((List.length p.ax:Nat):Int)))then
    Option.bind (idx c.2.1.ax c.1) λD=>Option.bind (g D) λA=>Option.bind (fH c.2.1 c.1 A.1 A.2.1) λj=>
    bif (!decide (j.2.1=(0:Int)))then Option.map inr (some (z,j.2.1,()))else some (inl ((aC .i64 c.1 (1:Int)),j.1,c.2.2.1,()))
   else Option.map inr (some (c.2.1,(0:Int),()))) ((0:Int),{p with aa:=t},z,())=some (xl p t a,0,()):=by
 refine Yd.is (Yd.list p.ax O (λi (s:al×al)=>(i,s.1,s.2,())) (λi s=>s.1=xl p t (a.take i++p.ax.drop i)) (λi x s u _ I hi r o G=> ?_) (λs u r=> ?_) (s:=({p with aa:=t},z)) ?_)
 .have f:p.ax[i]?=some x:=by rw[<-o,ba]
  obtain⟨y,e1,e2⟩:=d.at_ i x f
  have F:(a.take i++p.ax.drop i).length=p.ax.length:=by grind
  simp only[r,Qc,u];rw[ba,show(xl p t (a.take i++p.ax.drop i)).ax=a.take i++p.ax.drop i from rfl,aby d.len,f,Qa,e2,Qa,E _ i y (by show(a.take i++p.ax.drop i).length<=8;omega) (by show i<(a.take i++p.ax.drop i).length;omega),Qa,G]
  refine .some ⟨(LP (xl p t (a.take i++p.ax.drop i)) i y,s.2),rfl,?_⟩;show xl p t ((a.take i++p.ax.drop i).set i y)=_;rw[X2 d.len hi e1]
 .simp only[r,Qb,u];refine .some ?_;show(xl p t (a.take p.ax.length++p.ax.drop p.ax.length),(0:Int),())=_;rw[<-d.len,QK,d.len,Q9,List.append_nil]
 .rfl
def ahx(q:al)(i:Nat)(y:aD)(hl:q.ax.length<=8)(hi:i<q.ax.length):fH q (i:Int) y 0=some (LP q i y,0,()):=by unfold fH;simp only[aD.eta,av.eta,ae.eta,etas,Ql,Qh,Qb];rw[br O,Qc,ba,Qj hi,Qa,QV,Qj hi];rfl
section
variable{nd k:Int}{p:al}(h:iV nd k p)(hk0:0<=k)(hk:k<=999998)
 include h hk0 hk
theorem abz{g:aD->Y (aD×Int×Unit)}{t:aq}(ht:cW t)(E:∀x,Bq nd k x->x∈p.ax->Yd (g x) λq=>q.2.1=0/\vR nd x.ab.aJ (k+1) x q.1/\q.1.ab.aa=t):
  ∃c,VG g p.ax c/\iV nd (k+1) (xl p t c)/\rF p (xl p t c):=by
 obtain⟨c,h1,D⟩:=aeN (R:=λx y=>g x=some (y,0,())/\vR nd x.ab.aJ (k+1) x y/\y.ab.aa=t) (l:=p.ax) λx j=>by obtain⟨⟨y,e,u⟩,e1,e2,f⟩:=E x (h.aK x j) j;obtain rfl:e=0:=e2;exact⟨y,e1,f⟩
 have back:∀(i:Nat) (hi:i<c.length),∃d:i<p.ax.length,vR nd (p.ax[i]).ab.aJ (k+1) p.ax[i] c[i]/\(c[i]).ab.aa=t/\Bq nd k p.ax[i]:=λi hi=>by have d:i<p.ax.length:=O;obtain⟨y,e1,_,e2,f⟩:=D i _ (Qj d);rw[Qj hi]at e1;obtain rfl:=Q7 e1;exact⟨d,e2,f,h.aK _ (QE d)⟩
 refine⟨c,⟨h1,λi x j=> ?_⟩,⟨h.aF,h.n0,h.n1,ht,by show c.length<=8;rw[h1];exact h.len,λy o=> ?_,?_,λy o=> ?_⟩,⟨by show _<=c.length;omega,λx j=> ?_⟩⟩
 .grind
 .obtain⟨i,hi,rfl⟩:=List.getElem_of_mem (show y∈c from o)
  obtain⟨_,e1,_,f⟩:=back i hi;exact(f.Vu e1).1
 .show c.Pairwise _;rw[List.pairwise_iff_getElem];intro a b G F A;obtain⟨B,e1,_,f⟩:=back a G;obtain⟨r,J,_,I⟩:=back b F;rw[(f.Vu e1).2,(I.Vu J).2];exact List.pairwise_iff_getElem.1 h.dg a b B r A
 .obtain⟨i,hi,rfl⟩:=List.getElem_of_mem (show y∈c from o)
  obtain⟨_,_,e,_⟩:=back i hi;exact e
 .obtain⟨i,hi⟩:=List.getElem?_of_mem j;obtain⟨y,e1,_,e2,_⟩:=D i x hi;exact⟨y,QL e1,((h.aK x j).Vu e2).2,e2.2⟩
theorem ad5{now:Int}(h0:0<=now)(h1:now<=200):∃a,VG (λx=>ix x now) p.ax a/\iV nd (k+1) (xl p p.aa a)/\rF p (xl p p.aa a)/\nI p now=some (if p.bh=true then(p,0,())else(xl p p.aa a,0,())):=by
 obtain⟨a,d,hi,c⟩:=abz h hk0 hk (g:=λx=>ix x now) h.aL λx f i=>(aio f.2.2 hk h0 h1).mono λq c=>⟨c.1,c.2.1,c.2.2.trans (h.same x i)⟩
 refine⟨a,d,hi,c,?_⟩;unfold nI;simp only[aD.eta,av.eta,ae.eta,etas,al.eta,oG h O,Qa,Qh,Qb]
 cases p.bh with
 |true=>rfl
 |false=>exact afd h.len d p.aa _ ahx
theorem afe{t:aq}(ht:cW t):∃c,VG (λx=>iG x t) p.ax c/\iV nd (k+1) (xl p t c)/\rF p (xl p t c)/\jK p t=some (if p.bh=true then(p,0,())else(xl p t c,0,())):=by
 obtain⟨c,d,hi,i⟩:=abz h hk0 hk (g:=λx=>iG x t) ht λx f _=>acF f.2.2 hk ht
 refine⟨c,d,hi,i,?_⟩;unfold jK;simp only[aD.eta,av.eta,ae.eta,etas,al.eta,oG h O,Qa,Qh,Qb,sk ht.sm,tC ht,Ql];rw[qbJ]
 by_cases a:p.bh=true
 .rw[Qe a,Qe a]
 .rw[Qg a,Qg a];exact afd h.len d t _ ahx
end
end
section
def ln{α β:Type}(o:Y (α×β×Unit)):(o.bind λr=>some (r.1,r.2.1,()))=o:=by cases o<;>rfl
section
variable{m:ae}(h:bz m)(hs:gp m)
 include h hs
theorem abN{t:aq}(ht:cW t):q8 m t=pZ m t:=by
 have hi:=RA h ht;obtain⟨g,e2,f⟩:=Ym Hd Hc h hs ht (Br.self hi)
 have a:s5 ⟨m⟩ t=some ((0:Int),⟨Dx m t⟩):=by unfold s5;simp only[ae.eta,aM.eta,etas,c6 ht,eN ht.sm,Qa,Ql,Qh,Qb];rfl
 have h1:Yd (q8 m t) (HD (Br (Dx m t)) m (Dx m t)):=by
  unfold q8 vL;simp only[ae.eta,etas,aj.eta,aM.eta,xa h hs,yn h,a,Qa,Qh,Qb,Ql];refine Yd.bind (Kz Hd Hc h hs hi hs.zero (λe=>e) rfl rfl (Br.self hi)) λq c=> ?_
  obtain⟨m2,rfl,d⟩:=c;exact .some ⟨m2,rfl,d⟩
 obtain⟨q,e1,h1⟩:=h1;rw[e1,e2,Hg (wb hi).seq.1 h1 f]
end
def agJ{nd sl k:Int}{x:aD}(h:pd nd sl k x)(hk:k<=999998){t:aq}(ht:cW t):zj x t=iG x t:=by
 have p:=h.pre;have a:1<=x.az.aI/\x.az.aI<=1000000:=⟨p.lZ.1,by have:=p.lZ.2;omega⟩
 unfold zj yz A9 lO kI iG;simp only[aD.eta,av.eta,ae.eta,etas,aS,jz h O,so h O,DN p,akY p.jt a ht,abN p.eP p.gf ht,Qa,Qh,Qb];obtain⟨q,e1,h0,g1,g2,g3,g4,g5⟩:=ael p.jt a ht;obtain⟨r,e2,d,c⟩:=YK p.eP p.gf ht;simp only[e1,e2,abN p.eP p.gf ht,Qa,h0,d,Ql,Qh,Qb,Qc];have h1:=p.lZ;have f:qD nd sl (k+1) {x with az:=q.1,ab:=r.1}:=⟨c.inv,c.seq,c.aF.trans p.aF,c.aK.trans p.aK,g1,by show 1<=q.1.aI/\q.1.aI<=1+(k+1);rcases g5 with e|e<;>rw[e]<;>omega,g2.trans p.pS,g3.trans p.uM,g4.trans c.aL.symm,p.timer,p.round,p.next⟩
 rw[wx f];exact ln _
def Yz{nd k:Int}{l:Z aD}(d:l.length<=16)(h:∀x∈l,Bq nd k x):cZ l=some l:=by
 unfold cZ;refine Yd.is (Yd.list l O (λi (s:Z aD)=>(i,s,())) (λi s=>s=l.take i) (λi x s e _ f hi c a g=> ?_) (λs e c=> ?_) (s:=[]) rfl)
 .subst e;simp only[c,Qc,a,Qa,aD.eta,av.eta,ae.eta,etas,DN (h x f).2.2.pre,g];rw[br o_,Qc];refine .some ⟨_,rfl,?_⟩;rw[ba]at a;rw[List.take_add_one,a];rfl
 .subst e;simp only[c,Qb,QK];exact .some rfl
def Dk{nd k:Int}{l:Z aD}(a:l.length<=8)(h:∀x∈l,Bq nd k x):cZ l=some l:=Yz O h
section
variable{nd k:Int}{p:al}(h:iV nd k p)(hk:k<=999998)
 include h hk
theorem pQ:cz p=some true:=by
 have d:=h.len;have h0:=h.n0;have h1:=h.n1;have i:=h.aF;unfold cz iN oO aO;simp only[aD.eta,av.eta,ae.eta,etas,wX h.aL.sm,tC h.aL,Qa,Ql,Qh];rw[Qd (show(0:Int)<=p.ak by omega),Qd (show p.ak<10 by omega),Qf (show¬(8:Int)<(p.ax.length:Int)by omega)]
 simp only[Qb,Qc,Qa,Qh];refine alI h (λx c=>so (h.aK x c).2.2 O) λx c=> ?_
 obtain⟨r,f,g⟩:=eqT (a:=x.ab.aa) (b:=p.aa) (h.aK x c).2.2.pre.eP.aL.sm;rw[f,g.2 (h.same x c)]
 omit hk in
theorem Sx{n:Int}(B:0<=n)(A:n<=1000000):aT p.ax n=some (((mE p.ax n:Nat):Int),np p.ax n,()):=by
  have r:=h.len
  have a:∀y∈p.ax,cQ .i64 y.ab.aJ n=y.ab.aJ - n:=λy c=>by have h1:=(h.aK y c).1;have F:=(h.aK y c).2.1;exact om O O
  unfold aT aO;refine(KA p.ax O (λy=>decide (y.ab.aJ<n)) (h.dg.imp λ{x y} u c=>by simp only[Qw]at c ⊢;omega) (fin:=λk=>some (((k:Nat):Int),(match p.ax[k]? with|some y=>decide (y.ab.aJ=n)|none=>false),())) (λi j m y o E D f g=> ?_) (λi o hi=> ?_)).trans rfl
  .have c:y∈p.ax:=by rw[ba]at g;exact QL g
   have q:decide (y.ab.aJ - n<0)=decide (y.ab.aJ<n):=by rw[qam];omega
   simp only[o,D,f,g,aD.eta,av.eta,ae.eta,etas,iA,a y c,q,Qa,Qc];cases decide (y.ab.aJ<n)<;>rfl
  .simp only[o,Qb]
   by_cases d:i<p.ax.length
   .have q:decide (p.ax[i].ab.aJ - n=0)=decide (p.ax[i].ab.aJ=n):=by rw[qam];omega
    rw[Qd (O:(i:Int)<(p.ax.length:Int))];simp only[Qc,ba,Qj d,Qa,aD.eta,av.eta,ae.eta,etas,iA,a _ (QE d),q,Qo]
   .rw[Qf (O:¬(i:Int)<(p.ax.length:Int)),qaJ O];rfl
section
variable{n:Int}{own:C}{now:Int}{s:aD}(hs:Ns nd k n p own now s)(ho:own.size<=200)(h0:0<=now)(h1:now<=200)
 include hs
 omit hk in
theorem akR(d:p.ax.length≠8):bX p.ax ((mE p.ax n:Nat):Int) [s]=some (MS p n s).ax:=by
  have a:=h.len;have c:=RQ p.ax n;unfold bX Er;rw[Qd (O:(0:Int)<=((mE p.ax n:Nat):Int)),Qd (O:((mE p.ax n:Nat):Int)<=(p.ax.length:Int)),br o_];rfl
  include ho h0 h1
 omit hk in
theorem ahF:gr p.ak n p.aa own now=some (s,0,()):=by have d:=hs.aK;have c:=hs.ok.1;have a:=hs.ok.2.1;rw[<-hs.e,h.aF];exact amS h.n0 h.n1 O O h.aL ho h0 h1
theorem amp:hZ p n own now=some (if p.bh=true then(p,0,())else Cg p n s):=by
 have g:=hs.aK;have f:=hs.ok.1;have d:=hs.ok.2.1;unfold hZ ku Cg;simp only[aD.eta,av.eta,ae.eta,etas,al.eta,aS,pQ h hk,eN h.aL.sm,Dk h.len h.aK,Qa,Qh,Qb,Sx h (n:=n) O O,ahF h hs ho h0 h1];rw[qbJ]
 by_cases a:p.bh=true
 .rw[Qe a,Qe a];rfl
 .rw[Qg a,Qg a]
  cases np p.ax n with
  |true=>rfl
  |false=>
   by_cases c:p.ax.length=8
   .simp[c,zP]
   .rw[Qf O];simp only[Qb,Qc,Qa,Ql,Qh,akR h hs c,QB,Qx,Qg c];rfl
end
 def Ht(g:aD->Y (aD×Int×Unit))(n:Int)(a:Int×al×(Z aD)×Unit):Y (al×Int×Unit):=
 Option.bind (bif (!decide (a.1=(0:Int)))then some (!decide (a.1=(6:Int)))else some false) λr=>
 bif r then
 bif (!decide (a.1=(0:Int)))then some (zP,a.1,())else some ((al.mk a.2.1.ak a.2.1.bh a.2.1.aa a.2.2.1),(0:Int),())
 else
 Option.bind (aT a.2.2.1 n) λf=>
 Option.bind (idx a.2.2.1 f.1) λu=>
 Option.bind (a.2.2.1[(toNat f.1)]?) λj=>
 Option.bind (g j) λd=>
 aX (λ(c:al×(Z aD)×Unit)=>
 bif (!decide (d.2.1=(0:Int)))then some (zP,d.2.1,())else some ((al.mk c.1.ak c.1.bh c.1.aa c.2.1),(0:Int),())) λi=>
 bif (decide (d.2.1=(0:Int)))then
 Option.bind (idx a.2.2.1 f.1) λq=>
 Option.bind (a.2.2.1[(toNat f.1)]?) λo=>
 i ((al.mk a.2.1.ak a.2.1.bh a.2.1.aa ([]:Z aD)),(a.2.2.1.set (toNat f.1) d.1),())
 else
 i ((al.mk a.2.1.ak a.2.1.bh a.2.1.aa ([]:Z aD)),a.2.2.1,())
 omit hk in
theorem WN{n:Int}(d:0<=n)(c:n<=1000000){x:aD}(f:p.ax[mE p.ax n]?=some x){e:Int}(he:e=0\/e=6)(g:aD->Y (aD×Int×Unit)):
   Ht g n (e,⟨p.ak,p.bh,p.aa,[]⟩,p.ax,())=Option.bind (g x) λr=>some (if r.2.1=0 then(LP p (mE p.ax n) r.1,0,())else(zP,r.2.1,())):=by
  have j:(Option.bind (bif (!decide (e=(0:Int)))then some (!decide (e=(6:Int)))else some false) λi=>(some i:Y Bool))=some false:=by rcases he with rfl|rfl<;>rfl
  unfold Ht;simp only[Sx h d c,Qa,ba,f,QV,aS];rcases he with rfl|rfl
  all_goals
   simp only[Ql,Qh,Qb,Qa,Qc,Qt,show decide ((6:Int)=0)=false from rfl]
   congr 1
   funext r
   by_cases a:r.2.1=0
   .rw[Qd a,Qe a];rfl
   .rw[Qf a,Qg a];rfl
section
variable{n:Int}{own:C}{now:Int}{s:aD}(hs:Ns nd k n p own now s)(ho:own.size<=200)(h0:0<=now)(h1:now<=200)
 include hs ho h0 h1
 omit hk in
theorem acW{g g':aD->Y (aD×Int×Unit)}(A:∀x,Bq nd k x->x.ab.aJ=n->g x=g' x):
   (aX (Ht g n) λj=>
    Option.bind (aT p.ax n) λd=>
    bif d.2.1 then j ((6:Int),(al.mk p.ak p.bh p.aa ([]:Z aD)),p.ax,())else
    bif (decide (((List.length p.ax:Nat):Int)=(8:Int)))then j ((3:Int),(al.mk p.ak p.bh p.aa ([]:Z aD)),p.ax,())else
    Option.bind (gr p.ak n p.aa own now) λc=>
    aX (λ(a:al×(Z aD)×Unit)=>j (c.2.1,(al.mk a.1.ak a.1.bh a.1.aa ([]:Z aD)),a.2.1,())) λf=>
    bif (decide (c.2.1=(0:Int)))then
    Option.bind (bX p.ax d.1 [c.1]) λi=>f ((al.mk p.ak p.bh p.aa ([]:Z aD)),i,())
    else f ((al.mk p.ak p.bh p.aa ([]:Z aD)),p.ax,()))=xB p n s g':=by
  have E:=hs.aK;have D:=hs.ok.1;have B:=hs.ok.2.1
  have fin:¬(np p.ax n=false/\p.ax.length=8)->∀e:Int,e=0\/e=6->Ht g n (e,⟨(n5 p n s).ak,(n5 p n s).bh,(n5 p n s).aa,[]⟩,(n5 p n s).ax,())=xB p n s g':=λy e he=>by obtain⟨hi,ht,x,u,o,q⟩:=XD h hs y;rw[WN hi O O u he,A x (hi.aK x q) o];unfold xB;rw[Qg y,u];rfl
  rw[aS,Sx h O O,Qa,ahF h hs ho h0 h1]
  cases ht:np p.ax n with
  |true=>
   have:=fin (λe=>by rw[ht]at e;cases e.1) 6 (.inr rfl)
   unfold n5 at this;rw[Qe ht]at this;exact this
  |false=>
   by_cases r:p.ax.length=8
   .rw[Qd O];unfold xB;rw[Qe ⟨ht,r⟩];rfl
   .have:=fin (λe=>r e.2) 0 (.inl rfl)
    unfold n5 at this;rw[Qg (by rw[ht];simp)]at this
    rw[Qf O];simp only[Qb,Qc,Qa,Ql,akR h hs r,aS,<-this];rfl
end
theorem amq{l:bI}{c:Int}(hl:Ur c l)(f:c≠nd){now:Int}(h0:0<=now)(h1:now<=200){s:aD}(hs:Ns nd k l.aJ p (ByteArray.mk #[48]) now s):
  fl p l now=if p.bh=true then some (p,0,())else if zI l=true then some (zP,1,())else xB p l.aJ s (jo l):=by
 unfold fl kv zI aO;simp only[aD.eta,av.eta,ae.eta,aA.eta,aj.eta,bI.eta,etas,al.eta,pQ h hk,eN h.aL.sm,Dk h.len h.aK,Qa,Qh,Qb];rw[ln,qbJ]
 by_cases a:p.bh=true
 .rw[Qe a,Qe a]
 .rw[Qg a,Qg a]
  by_cases k1:l.bF=1
  .have i:=hl.jt k1;rw[Qd k1,Qc,qb4,Qh,Qg t_];refine acW h hs s_ h0 h1 (g:=λx=>gZ x l) (g':=jo l) λx o d=> ?_
   show gZ x l=jo l x;unfold gZ jo;simp only[aD.eta,av.eta,ae.eta,aA.eta,etas,Pm o.2.2 hk i.1 (by rw[i.2];exact f),Qd k1,Qc]
   exact ln _
  .rw[Qf k1,Qb,qa8]
   by_cases j:l.bF=2
   .by_cases q:l.aJ=l.ay.aJ
    .obtain⟨g1,g2⟩:=hl.env j;rw[Qd j,Qd q,Qc,Qa,Qc,qap,Qh,Qg t_];refine acW h hs s_ h0 h1 (g:=λx=>gY x l) (g':=jo l) λx o d=> ?_
     show gY x l=jo l x;unfold gY jo
     have he:Ai x.ab l.ay\/(cI l.ay.aa/\(bd l.ay=false\/l.ay.ak=x.ab.ak\/l.ay.aJ≠x.ab.aJ)):=by
      cases hv:bd l.ay with
      |true=>obtain⟨g3,g4⟩:=g2 hv;exact .inl ⟨hv,g3,by rw[d,q],by rw[g4,o.2.2.pre.aF];exact f⟩
      |false=>exact .inr ⟨g1,.inl rfl⟩
     simp only[aD.eta,av.eta,ae.eta,aj.eta,etas,Ko o.2.2 hk he,Qf k1,Qb];exact ln _
    .rw[Qd j,Qf q];rfl
   .rw[Qf j];rfl
 omit hk in
theorem akQ{g g':aD->Y (aD×Int×Unit)}(F:∀x∈p.ax,g x=g' x){f:Z aD}(c:VG g' p.ax f)(t:aq){z:Int->Z aD->al->Y (al×Int×Unit)}:
   aE (λ(a:Int×(Z aD)×al×Unit)=>
    bif (decide (a.1<((List.length p.ax:Nat):Int)))then
    Option.bind (idx a.2.1 a.1) λI=>
    Option.bind (a.2.1[(toNat a.1)]?) λA=>
    Option.bind (g A) λj=>
    bif (!decide (j.2.1=(0:Int)))then Option.map inr (z j.2.1 a.2.1 a.2.2.1)else
    Option.bind (idx a.2.1 a.1) λD=>
    Option.bind (a.2.1[(toNat a.1)]?) λB=>
    some (inl ((aC .i64 a.1 (1:Int)),(a.2.1.set (toNat a.1) j.1),(al.mk a.2.2.1.ak a.2.2.1.bh a.2.2.1.aa ([]:Z aD)),()))
    else
    Option.map inr (some ((al.mk a.2.2.1.ak a.2.2.1.bh a.2.2.1.aa a.2.1),(0:Int),()))) ((0:Int),p.ax,(al.mk p.ak p.bh t ([]:Z aD)),())=some (xl p t f,0,()):=by
  have u:=h.len;refine Yd.is (Yd.list p.ax O (λi (s:Z aD)=>(i,s,(al.mk p.ak p.bh t ([]:Z aD)),())) (λi s=>s=f.take i++p.ax.drop i) (λi x s r _ E hi q o G=> ?_) (λs r q=> ?_) (s:=p.ax) rfl)
  .have d:p.ax[i]?=some x:=by rw[<-o,ba]
   obtain⟨y,e1,e2⟩:=c.at_ i x d
   subst r;simp only[q,Qc,ba,QV,aby c.len,d,Qa,F x E,e2,Ql,Qh,Qb,G];exact .some ⟨_,rfl,X2 c.len hi e1⟩
  .subst r;simp only[q,Qb];refine .some ?_;show((al.mk p.ak p.bh t (f.take p.ax.length++p.ax.drop p.ax.length)),(0:Int),())=_;rw[<-c.len,QK,c.len,Q9,List.append_nil];rfl
theorem amu{t:aq}(ht:cW t){c:Z aD}(d:VG (λx=>iG x t) p.ax c):gw p t=some (if p.bh=true then(p,0,())else(xl p t c,0,())):=by
 unfold gw kq;simp only[aD.eta,av.eta,ae.eta,etas,al.eta,pQ h hk,eN h.aL.sm,eN ht.sm,c6 ht,Dk h.len h.aK,Qa,Qh,Qb,Ql];rw[qbJ]
 by_cases a:p.bh=true
 .rw[Qe a,Qe a];rfl
 .rw[Qg a,Qg a,ln];refine akQ h (g:=λx=>jN x t) (λx f=> ?_) d t (z:=λe l q=>bif (!decide (e=(0:Int)))then some (zP,e,())else some ((al.mk q.ak q.bh q.aa l),(0:Int),()))
  show jN x t=iG x t;unfold jN;simp only[aD.eta,av.eta,ae.eta,etas,agJ (h.aK x f).2.2 hk ht];exact ln _
theorem amo:mW p=some {p with bh:=true}:=by unfold mW oO;simp only[aD.eta,av.eta,ae.eta,etas,al.eta,pQ h hk,eN h.aL.sm,Dk h.len h.aK,Qa];cases p.bh<;>rfl
end
end
section
def G2{α:Type}{a b:Z α}(hl:a.length<=1000000)(E:a.length=b.length){f:α->α->Y Bool}(D:∀x∈a,∀y∈b,∃r,f x y=some r/\(x=y->r=true)):
  ∃r,aE (λ(v:Int×Unit)=>bif (decide (v.1<((List.length a:Nat):Int)))then Option.bind (idx a v.1) λu=>Option.bind (idx b v.1) λq=>Option.bind (f u q) λA=>bif (!A)then Option.map inr (some false)else some (inl ((aC .i64 v.1 (1:Int)),()))else Option.map inr (some true)) ((0:Int),())=some r/\(a=b->r=true):=by
 refine Yd.list (p:=λr=>a=b->r=true) a hl (λi (_:Unit)=>(i,())) (λ_ _=>True) (λi x _ _ _ B hi j o F=> ?_) (λ_ _ j=> ?_) (s:=()) trivial
 .have d:i<b.length:=O;have c:idx b (i:Int)=some b[i]:=by rw[ba];exact Qj d
  obtain⟨r,e,h⟩:=D x B b[i] (QE d);simp only[j,Qc,o,c,Qa,e,F]
  cases r with
  |true=>exact .some ⟨(),rfl,trivial⟩
  |false=>
   refine .some λg=> ?_
   subst g;rw[o]at c;exact absurd (h (Q7 c)) t_
 .simp only[j,Qb];exact .some λ_=>rfl
def Iq(a b:Z C)(hl:a.length<=1000000):∃r,gN a b=some r/\(a=b->r=true):=by
 unfold gN
 by_cases c:a.length=b.length
 .obtain⟨r,e,h⟩:=G2 hl c (f:=λx y=>some (decide (x=y))) λx _ y _=>⟨_,rfl,λe=>Qd e⟩
  rw[Qd O,Qh,Qb];exact⟨r,e,h⟩
 .rw[Qf O];exact⟨false,rfl,λe=>absurd (qag List.length e) c⟩
def ak9{m m':aA}(h:wE m):∃r,ml m m'=some r/\(m=m'->r=true):=by
 obtain⟨r1,e1,h1⟩:=Eu (a:=m.aa) (b:=m'.aa) h.aL.sm;obtain⟨r2,e2,d⟩:=Iq m.bj m'.bj h.di.uL;obtain⟨g,f,c⟩:=Iq m.aG m'.aG h.eA.uL;unfold ml aO;simp only[etas,e1,e2,f,Qa,jA];refine⟨_,rfl,λe=> ?_⟩
 subst e;rw[h1.2 rfl,d rfl,c rfl];simp
def aiZ{n n':av}(h:df n):∃r,Cn n n'=some r/\(n=n'->r=true):=by
 have c:=h.len;obtain⟨r1,e1,h1⟩:=Eu (a:=n.aa) (b:=n'.aa) h.ask.aL.sm;obtain⟨r2,e2,u⟩:=Iq n.bj n'.bj h.di.uL;obtain⟨i,D,q⟩:=Iq n.aG n'.aG h.eA.uL;obtain⟨g,B,o⟩:=Iq n.aU n'.aU h.kV.uL;unfold Cn oO;simp only[aA.eta,etas,e1,e2,D,B,Qa,jA];generalize d:(bif (bif (bif (bif (bif (bif (bif (bif !decide (n.ak=n'.ak)then true else !decide (n.aJ=n'.aJ))then true else !decide (n.Round=n'.Round))then true else !decide (n.aI=n'.aI))then true else !decide (n.oa=n'.oa))then true else !r1)then true else !r2)then true else !i)then true else !g)=b
 cases b with
 |true=>
  refine⟨_,rfl,λe=> ?_⟩
  subst e;rw[h1.2 rfl,u rfl,q rfl,o rfl]at d;simp at d
 |false=>
  rw[Qb]
  by_cases hl:n.au.length=n'.au.length
  .obtain⟨r,e,A⟩:=G2 O hl (f:=ml) λx j y _=>ak9 (h.heard x j).1
   rw[Qd O,Qh,Qb,e];exact⟨r,rfl,λe=>A (by rw[e])⟩
  .rw[Qf O];exact⟨false,rfl,λe=>absurd (by rw[e]) hl⟩
def ajA{a b:Z aj}(hl:a.length<=1000000)(h:∀e∈a,cI e.aa):∃r,uV a b=some r/\(a=b->r=true):=by
 unfold uV;simp only[aj.eta,etas]
 by_cases c:a.length=b.length
 .obtain⟨r,e,g⟩:=G2 hl c (f:=nL) λx d y _=>(let⟨r,e,h⟩:=alC (a:=x) (b:=y) (h x d);⟨r,e,h.2⟩)
  rw[Qd O,Qh,Qb];exact⟨r,e,g⟩
 .rw[Qf O];exact⟨false,rfl,λe=>absurd (qag List.length e) c⟩
def ai4{m m':ae}(h:bz m):∃r,Ck m m'=some r/\(m=m'->r=true):=by
 have c:=h.len;obtain⟨r1,e1,h1⟩:=Eu (a:=m.aa) (b:=m'.aa) h.aL.sm;obtain⟨r2,e2,d⟩:=ajA (a:=m.au) (b:=m'.au) O λe he=>(h.hv e he).2.1.sm
 unfold Ck mj aO;simp only[ae.eta,etas,e1,e2,Qa,jA];refine⟨_,rfl,λe=> ?_⟩
 subst e;rw[h1.2 rfl,d rfl];simp
def aif{nd sl k:Int}{x y:aD}(h:pd nd sl k x):∃r,yA x y=some r/\(x=y->r=true):=by
 obtain⟨r1,e1,h1⟩:=aiZ (n:=x.az) (n':=y.az) h.pre.jt;obtain⟨r2,e2,a⟩:=ai4 (m:=x.ab) (m':=y.ab) h.pre.eP;unfold yA aO;simp only[av.eta,ae.eta,etas,e1,e2,Qa,jA];refine⟨_,rfl,λe=> ?_⟩
 subst e;rw[h1 rfl,a rfl];simp
def NN{nd k:Int}{p:al}(ht:cI p.aa)(hl:p.ax.length<=1000000)(hs:∀x∈p.ax,Bq nd k x):fj p p=some true:=by
 obtain⟨r1,e1,h1⟩:=Eu (a:=p.aa) (b:=p.aa) ht;obtain⟨r,e,d⟩:=G2 (a:=p.ax) hl rfl (f:=yA) λx c y _=>aif (hs x c).2.2
 unfold fj oO;simp only[aD.eta,av.eta,ae.eta,etas,e1,h1.2 rfl,Ql,Qh,qb5,Qc,Qb,Qa];rw[e,d rfl]
def abj{nd k:Int}{p:al}(h:iV nd k p):fj p p=some true:=NN h.aL.sm (by have:=h.len;omega) h.aK
def amx{t:aq}(ht:cW t):uI 0 t=some (⟨0,false,t,[]⟩,0,()):=by unfold uI oO;simp only[etas,sk ht.sm,tC ht,Qa];rfl
def ahM{t:aq}(ht:cW t):iV 0 0 ⟨0,false,t,[]⟩:=⟨rfl,s_,s_,ht,QT _,(λx a=>by cases a),List.Pairwise.nil,λx a=>by cases a⟩
def vl1{v:C}(h:iU v):VL [v]:=⟨λx a=>by rw[Qz.1 a];exact h,List.pairwise_singleton _ _,t_⟩
def agy{s:dP}(E:nq s){v:Int}(h0:0<=v)(h1:v<10):Yd (oV s v) λq=>nq q.2/\Ur v q.1/\zI q.1=false:=by
 unfold oV;refine Yd.bind (lp E O O O) λg ⟨y,s0,s1,_⟩=> ?_
 have s1:=s1 O;refine Yd.bind (pG y O) λL ⟨c,_,_,_⟩=> ?_
 simp only[etas,aA.eta];refine Yd.cond (λ_=> ?_) (λ_=> ?_)
 .refine Yd.bind (lp c O O O) λK ⟨u,q0,_,_⟩=> ?_
  refine Yd.bind (GL u (n:=4) O O) λJ ⟨r,ht,_,_⟩=> ?_
  refine Yd.bind (yw r) λI ⟨o,hv⟩=> ?_
  refine Yd.join (λw=>nq w.1/\wE w.2.1/\w.2.1.ak=v) (λw ⟨g1,g2,g3⟩=> .some ⟨g1,⟨λ_=>⟨g2,g3⟩,λe=>(by cases e),by show 1<=g.1;omega,by show g.1<=1000000;omega⟩,rfl⟩) (λN A=> ?_)
  refine Yd.bind (pG o O) λG ⟨a,_,_,_⟩=> ?_
  refine Yd.cond (λ_=> ?_) (λ_=>A _ ⟨a,⟨h0,h1,q0,ht,vl1 (Ir hv),VL.nil⟩,rfl⟩)
  exact Yd.bind (yw a) λF ⟨j,i⟩=>A _ ⟨j,⟨h0,h1,q0,ht,vl1 (Ir hv),vl1 (Ir i)⟩,rfl⟩
 .refine Yd.bind (Py c h0 h1 O O (n:=4) O O) λD ⟨f,he⟩=> ?_
  refine Yd.bind (pG f O) λB ⟨d,_,_,_⟩=> ?_
  refine .some ⟨d,⟨λe=>(by cases e),λ_=>⟨he.aL.sm,λ_=>⟨he.aL,he.aF⟩⟩,by show 1<=g.1;omega,by show g.1<=1000000;omega⟩,?_⟩
  show zI _=false;simp only[zI,he.aK];simp
def UA{nd k:Int}{p:al}(h:iV nd k p){q:al×Int×Unit}(a:Pq nd k p q):Pq nd k p (if p.bh=true then(p,0,())else q):=by
 split
 .exact .inl ⟨rfl,h,rF.refl p,rfl⟩
 .exact a
def ako{k:Int}{p:al}(h:iV 0 k p)(hk0:0<=k)(hk:k<=999998){s:dP}(N:nq s){now:Int}(h0:0<=now)(h1:now<=200):Yd (Cs s p now) λq=>nq q.2/\iV 0 (k+1) q.1/\rF p q.1/\q.1.bh=p.bh:=by
 unfold Cs;simp only[aD.eta,av.eta,ae.eta,etas,al.eta];have a:∀{q:al×Int×Unit} {k':Int},k'<=k+1->Pq 0 k' p q->q.2.1=0->iV 0 (k+1) q.1/\rF p q.1/\q.1.bh=p.bh:=λ{q k'} E d e=>d.elim (λg=>⟨g.2.1.le E,g.2.2.1,g.2.2.2⟩) λg=>absurd e g
 have self:iV 0 (k+1) p:=h.le O;refine Yd.join (λv=>nq v.2.1/\(v.1=0->iV 0 (k+1) v.2.2.1/\rF p v.2.2.1/\v.2.2.1.bh=p.bh)) (λv ⟨v1,v2⟩=> ?_) (λS j=> ?_)
 .by_cases e:v.1=0
  .rw[Qd e];exact .some ⟨v1,v2 e⟩
  .rw[Qf e];exact .some ⟨v1,self,rF.refl p,rfl⟩
 .refine Yd.bind (pG N O) λQ ⟨c,_,_,_⟩=> ?_
  refine Yd.cond (λ_=> ?_) (λ_=>Yd.cond (λ_=> ?_) (λ_=>Yd.cond (λ_=> ?_) (λ_=>Yd.cond (λ_=> ?_) (λ_=> ?_))))
  .refine Yd.bind (lp c O O O) λA ⟨o,n0,n1,_⟩=> ?_
   have n1:=n1 O;refine Yd.bind (yw o) λF ⟨f,hv⟩=> ?_
   obtain⟨x,hs⟩:=US h (n:=A.1) n0 O (Ir hv).2 h0 h1 hk0;rw[aeA h hk0 hk hs,Qa];exact j _ ⟨f,a O (UA h (ag5 h hs))⟩
  .refine Yd.bind (lp c O O O) λA ⟨o,n0,n1,_⟩=> ?_
   have n1:=n1 O;refine Yd.bind (yw o) λF ⟨f,hv⟩=> ?_
   obtain⟨x,hs⟩:=US h (n:=A.1) n0 O (Ir hv).2 h0 h1 hk0;rw[agf h hk0 hk hs];split
   .exact j _ ⟨f,λ_=>⟨self,rF.refl p,rfl⟩⟩
   .refine(N5 h hs (Q8 k) (g:=λx=>gH x F.1) λy D _=>V5 D.2.2 hk (Ir hv)).bind λq d=> ?_
    exact j _ ⟨f,a O d.1⟩
  .obtain⟨I,_,hi,d,e⟩:=ad5 h hk0 hk h0 h1;rw[e,Qa];exact j _ ⟨c,a (Q8 _) (UA self (.inl ⟨rfl,hi,d,rfl⟩))⟩
  .refine Yd.bind (GL c (n:=4) O O) λL ⟨u,ht,_,_⟩=> ?_
   obtain⟨I,_,hi,d,e⟩:=afe h hk0 hk ht;rw[e,Qa];exact j _ ⟨u,a (Q8 _) (UA self (.inl ⟨rfl,hi,d,rfl⟩))⟩
  .refine Yd.bind (lp c O O O) λK ⟨r,n0,n1,_⟩=> ?_
   have n1:=n1 O;refine Yd.bind (agy r O O) λJ ⟨i,hl,G⟩=> ?_
   simp only[aA.eta,aj.eta,bI.eta,etas];obtain⟨x,hs⟩:=US h hl.s0 hl.s1 (own:=ByteArray.mk #[48]) s_ h0 h1 hk0;rw[ali h hk hs,G];split
   .exact j _ ⟨i,λ_=>⟨self,rF.refl p,rfl⟩⟩
   .rw[Qg t_];refine(N5 h hs (show k<=k+1 by omega) λy D B=>TJ hk hl O G D B).bind λq d=> ?_
    exact j _ ⟨i,a (Q8 _) d.1⟩
def ald{s:dP}(g:nq s):Yd (Ct s) λq=>nq q.2/\iV 0 10 q.1/\q.1.bh=false:=by
 unfold Ct;refine Yd.bind (GL g (n:=4) O O) λo ⟨c,ht,_,_⟩=> ?_
 simp only[etas,al.eta,amx ht,Qa];refine Yd.bind (pG c O) λd ⟨a,g0,f,_⟩=> ?_
 have f:=f O;refine Yd.Hu (λ(v:Int×dP×al×Unit)=>0<=v.1/\v.1<=9/\nq v.2.1/\iV 0 (9 - v.1) v.2.2.1/\v.2.2.1.bh=false) (λv=>v.1.toNat) ?_ ⟨g0,by show d.1<=9;omega,a,(ahM ht).le (by show(0:Int)<=9 - d.1;omega),rfl⟩
 rintro⟨k,s',x,u⟩ ⟨j,a2,a3,a4,a5⟩;simp only at j a2 a3 a4 a5;simp only
 by_cases hk:0<k
 .rw[Qd hk,Qc,om O O,om O O];refine Yd.bind (ako a4 O O a3 O O) λq ⟨b1,i,_,b3⟩=> ?_
  exact .some ⟨⟨by show 0<=k - 1;omega,by show k - 1<=9;omega,b1,i.le (by show 9 - k+1<=9 - (k - 1);omega),b3.trans a5⟩,by show(k - 1).toNat<k.toNat;omega⟩
 .rw[Qf hk,Qb];exact .some ⟨a3,a4.le O,a5⟩
def agp{nd k n:Int}{q:al}(h:iV nd k q)(h1:∀y∈q.ax,y.ab.aJ=n)(d:∃y∈q.ax,y.ab.aJ=n):∃y,q.ax=[y]/\y.ab.aJ=n:=by
 obtain⟨y,c,f⟩:=d;have hs:=h.dg
 cases hl:q.ax with
 |nil=>rw[hl]at c;cases c
 |cons a l=>
  cases l with
  |nil=>exact⟨a,rfl,h1 a (by rw[hl];exact QC)⟩
  |cons b l=>
   rw[hl,Q0]at hs;have e1:=h1 a (by rw[hl];exact QC)
   have e2:=h1 b (by rw[hl];exact QI _ QC)
   have:=hs.1 b QC;omega
def aju{t:aq}(ht:cW t){l:bI}{d:Int}(hl:Ur d l)(c:d≠0)(E:zI l=false){now:Int}(h0:0<=now)(h1:now<=200):
  Yd (fl ⟨0,false,t,[]⟩ l now) λq=>(q.2.1=0->∃y,q.1.ax=[y]/\y.ab.aJ=l.aJ/\iV 0 1 q.1)/\(∀m,l.bF=1->m=l.aP->q.2.1=0):=by
 have h:=ahM ht;obtain⟨x,hs⟩:=US h hl.s0 hl.s1 (own:=ByteArray.mk #[48]) s_ h0 h1 (Q8 0);rw[amq h O hl c h0 h1 hs,E];simp only[QB,Qx];obtain⟨q,e,a,D⟩:=N5 h hs (show(0:Int)<=0+1 by omega) (g:=jo l) λy f A=>TJ O hl c E f A
 refine⟨q,e,λq0=> ?_,λm k1 _=> ?_⟩
 .rcases a with⟨_,hi,_⟩|a
  .obtain⟨_,g2,g3⟩:=D q0;obtain⟨y,e1,e2⟩:=agp hi (λy f=>(g2 y f).resolve_left λe=>(by cases e)) g3
   exact⟨y,e1,e2,hi⟩
  .exact absurd q0 a
 .have j:¬(np ([]:Z aD) l.aJ=false/\([]:Z aD).length=8):=λe=>by cases e.2
  unfold xB at e;rw[Qg j]at e;obtain⟨hi,_,y,f,I,B⟩:=XD h hs j;have u:y=x:=((aa6 h hs).2.2 y B).resolve_left λe=>(by cases e)
  rw[f,Qa,u]at e;obtain⟨g1,g2⟩:=hl.jt k1;obtain⟨z,J,_,_,G,_⟩:=alb (nd:=0) (sl:=l.aJ) O O hl.s0 hl.s1 ht (own:=ByteArray.mk #[48]) s_ h0 h1;have i:=hs.e;rw[J]at i;obtain rfl:=Q7 i;obtain⟨r,K,o⟩:=amh hs.ok.2.2 O g1 (by rw[g2];exact c)
  rw[show jo l x=eJ x l.aP from by unfold jo;rw[Qd k1];rfl,K,Qa]at e
  rcases o with⟨_,F,_⟩|⟨o,_⟩
  .rw[Qe F]at e;rw[<-Q7 e]
  .rw[show x.az.au=[]from G]at o
   cases o
def aks:yI=some true:=by
 have ht:cW ⟨2,zR 2,[]⟩:=WE 2 O 2 O O;have hF:xd 2 2=some ⟨2,zR 2,[]⟩:=akc 2 O 2
 have f:lz 0 ⟨2,zR 2,[]⟩=some (⟨0,false,⟨2,zR 2,[]⟩,[]⟩,0,()):=by unfold lz iN aO;simp only[etas,wX ht.sm,tC ht,eN ht.sm,Qa];rfl
 unfold yI aO;refine Yd.eq_true ?_;simp only[hF,Qa,etas,al.eta,f];generalize d:(bI.mk (1:Int) (3:Int) _ _)=L
 have hl:Ur 1 L:=by subst d;exact⟨λ_=>⟨⟨s_,s_,s_,ht,vl1 s_,VL.nil⟩,rfl⟩,λe=>(by cases e),s_,s_⟩
 have a:L.bF=1/\L.aJ=3:=by subst d;exact⟨rfl,rfl⟩
 refine Yd.bind (aju ht hl s_ (by simp[zI,a.1]) (now:=4) s_ s_) λq ⟨q1,q2⟩=> ?_
 have q0:=q2 _ a.1 rfl;obtain⟨y,e1,e2,hi⟩:=q1 q0;have c:idx q.1.ax (0:Int)=some y:=by rw[e1];rfl
 simp only[q0,Ql,Qc,Qa,e2,a.2,c,aD.eta,av.eta,ae.eta,etas,al.eta,pQ hi O];rw[show decide (((List.length q.1.ax:Nat):Int)=1)=true by rw[e1];rfl]
 exact .some rfl
end
section
def Yd.amB{α c f ρ:Type}{p:ρ->Prop}{step:f->Y (f⊕ρ)}(l:Z α)(hl:l.length<=9223372036854775807)(mk:Int->c->f)(inv:Nat->c->Prop)
  (h1:∀(i:Nat) (x:α) (s:c),inv i s->l.drop i=x::l.drop (i+1)->x∈l->i<l.length->decide ((i:Int)<(l.length:Int))=true->idx l (i:Int)=some x->aC .i64 (i:Int) 1=((i+1:Nat):Int)->Yd (step (mk (i:Int) s)) (Lp (λt=>∃s',t=mk ((i+1:Nat):Int) s'/\inv (i+1) s') p))
  (j:∀s,inv l.length s->decide ((l.length:Int)<(l.length:Int))=false->Yd (step (mk (l.length:Int) s)) (Lp (λ_=>False) p))
  {s:c} (h0:inv 0 s):Yd (aE step (mk 0 s)) p:=by
 suffices g:∀(k i:Nat) (s:c),i+k=l.length->inv i s->Yd (aE step (mk (i:Int) s)) p from g l.length 0 s O h0
 intro k
 induction k with
 |zero=>
  intro i s hi hs;obtain rfl:i=l.length:=O;refine Yd.loop ((j s hs (Qf (QF _))).mono λy d=> ?_)
  cases y with
  |inl t=>exact d.elim
  |inr r=>exact d
 |succ k o=>
  intro i s hi hs;have a:i<l.length:=O;refine Yd.loop ((h1 i l[i] s hs (QQ a) (QE a) a (Qd O) (by rw[ba];exact Qj a) (bH O O)).mono λy d=> ?_)
  cases y with
  |inl t=>grind
  |inr r=>exact d
structure KF (t:aq):Prop where
 inner:t.aR=[]
 len:t.bc.length<=12
def KF.sm{t:aq}(h:KF t):cI t:= .mk t (by have:=h.len;omega) (by rw[h.inner];simp) (by rw[h.inner];simp)
def SO:∀(l:Z Int) (s:Nat),(wa s l).2.1=0->l.Nodup/\(∀x∈l,0<=x/\x<10)/\∀x∈l,s.testBit x.toNat=false
 |[],s,_=>⟨List.nodup_nil,t_,t_⟩
 |x::l,s,h=>by
  unfold wa at h
  cases h1:fG x with
  |false=>rw[h1]at h;cases h
  |true=>
   cases c:s.testBit x.toNat with
   |true=>rw[h1,c]at h;cases h
   |false=>
    rw[h1,c]at h;obtain⟨g1,g2,g3⟩:=SO l _ h;have f:0<=x/\x<10:=by simpa[fG]using h1
    have d:∀y∈l,s.testBit y.toNat=false/\y≠x:=λy a=>by have:=g3 y a;rw[qaO,qao,qaE]at this;exact⟨this.1,λe=>by subst e;simp at this⟩
    refine⟨List.nodup_cons.2 ⟨λg=>(d x g).2 rfl,g1⟩,λy a=> ?_,λy a=> ?_⟩
    .rcases Qv.1 a with rfl|a
     .exact f
     .exact g2 y a
    .rcases Qv.1 a with rfl|a
     .exact c
     .exact(d y a).1
def Wr:∀(n:Nat) (l:Z Int),(∀x∈l,0<=x/\x<n)->l.Nodup->l.length<=n
 |0,[],_,_=>t_
 |0,x::l,h,_=>by have:=h x t_;omega
 |n+1,l,h,c=>by
  have h1:=Wr n (l.erase (n:Int)) (λx a=>by
   have:=h x (List.mem_of_mem_erase a);have:x≠(n:Int):=λe=>by subst e;exact(List.Nodup.not_mem_erase c) a
   omega) (c.erase _)
  rw[List.length_erase]at h1;split at h1<;>omega
def ad6{t:aq}(h:KF t)(hv:xM t=0):cW t:=by
 have d:=h.len;obtain⟨th,c,is⟩:=t;obtain rfl:is=[]:=h.inner;have hl:c.length<=12:=d;have e:=wX h.sm;rw[hv]at e;obtain⟨n,g⟩:=FQ ⟨th,c,[]⟩;unfold bQ lq jv ki oO at e;simp only[etas]at e;rw[g,T3,size_leaf,show fc (n+1+1) (⟨th,c,[]⟩,())=sx (λu=>fc (n+1) (u,())) ⟨th,c,[]⟩from Jl (by show c.length<=_;omega) (QT _)]at e
 rw[bH O O]at e;unfold sx at e;rw[show aC .i64 ((⟨th,c,[]⟩:aq).bc.length:Int) ((⟨th,c,[]⟩:aq).aR.length:Int)=(c.length:Int)+(0:Nat)from bH (a:=(c.length:Int)) (b:=((0:Nat):Int)) O O]at e
 simp only[Qa]at e;rw[show decide ((4:Int)<1)=false from rfl,Qf (O:¬(200:Int)<(c.length:Int)+(0:Nat))]at e
 simp only[Qb,Qa]at e;split at e
 .cases e
 .rename_i h1;split at e
  .cases e
  .split at e
   .rename_i f;obtain⟨g1,g2,_⟩:=SO _ _ f;exact⟨g2,g1,Wr 10 c g2 g1,.inl rfl,by show 1<=th/\th<=c.length+(0:Nat);omega⟩
   .rename_i f;exact absurd (Q7 e) f
structure GM (t:aq):Prop where
 sm:cI t
 gJ:xM t=0->cW t
def KF.raw{t:aq}(h:KF t):GM t:=⟨h.sm,ad6 h⟩
def cW.raw{t:aq}(h:cW t):GM t:=⟨h.sm,λ_=>h⟩
def amC(l:Z C):gA l=iq l:=by unfold gA iq oO aO;simp only[Yu,IA,CT,xS,Qa,λa b=>(show decide (0<=zH a b)=decide (0<=Fm a b)by rw[Ky,<-wB,dlt,Bool.not_not])]
def aes{l:Z C}(hl:l.length<=9223372036854775807):∃b,iq l=some b/\(b=true->VL l):=by
 unfold iq oO aO;refine Yd.amB (p:=λb=>b=true->VL l) l hl (λi (_:Unit)=>(i,())) (λi _=>(∀x∈l.take i,iU x)/\(l.take i).Pairwise λa b=>bS a b=true) (λi y _ h _ B hi q r c=> ?_) (λ_ h q=> ?_) (s:=()) ⟨t_,t_⟩
 .simp only[q,Qc,r,Qa,IA,c];have j:l[i]?=some y:=by rw[<-r,ba]
  have ht:l.take (i+1)=l.take i++[y]:=by rw[List.take_add_one,j];rfl
  by_cases hv:iU y
  .have f:∀x∈l.take (i+1),iU x:=λx g=>by
    rw[ht,QA,Qz]at g;rcases g with g|rfl
    .exact h.1 x g
    .exact hv
   rw[Qd hv];simp only[Qh,Qb]
   by_cases h0:i=0
   .subst h0;rw[Qf (O:¬(0:Int)<((0:Nat):Int))];exact .some ⟨(),rfl,f,by rw[ht];simp⟩
   .have hi1:i - 1<l.length:=O;rw[Qd (O:(0:Int)<(i:Int))];simp only[Qc];rw[show cQ .i64 (i:Int) 1=((i - 1:Nat):Int)by rw[om O O];omega,ba,Qj hi1,Qa,xS,Qa,Ky]
    cases d:bS l[i - 1] y with
    |false=>exact .some (λe=>by cases e)
    |true=>
     refine .some ⟨(),rfl,f,?_⟩
     have o:l.take i=l.take (i - 1)++[l[i - 1]]:=by
      conv=>lhs;rw[show i=i - 1+1 by omega]
      rw[List.take_add_one,Qj hi1];rfl
     rw[ht,qai];refine⟨h.2,List.pairwise_singleton _ _,λa c b A=> ?_⟩
     rw[Qz.1 A];have u:=h.2;rw[o]at c u;rcases QA.1 c with c|c
     .exact kQ.trans _ _ _ ((qai.1 u).2.2 a c _ (Qz.2 rfl)) d
     .rw[Qz.1 c];exact d
  .rw[Qf hv];exact .some (λe=>by cases e)
 .simp only[q,Qb];rw[QK]at h;exact .some λe=>⟨h.1,h.2,by have:=qal e;omega⟩
structure adL (m:aA):Prop where
 aL:GM m.aa
 di:m.bj.length<=9223372036854775807
 eA:m.aG.length<=9223372036854775807
def anO{m:aA}(h:adL m):∃b,qH m=some b/\kD m=some b/\(b=true->wE m):=by
 obtain⟨b1,e1,g1⟩:=aes (l:=m.bj) h.di;obtain⟨c,e2,g2⟩:=aes (l:=m.aG) h.eA;unfold qH kD jw aO;simp only[etas,amC,e1,e2,wX h.aL.sm,sk h.aL.sm,Qa]
 by_cases c1:0<=m.ak
 .by_cases c2:m.ak<10
  .by_cases c3:1<=m.aI
   .by_cases a:xM m.aa=0
    .refine⟨b1&&c,?_,?_,λe=> ?_⟩
     .cases b1<;>simp[c1,c2,c3,a]
     .cases b1<;>simp[c1,c2,c3,a]
     .rw[Qi]at e;exact⟨c1,c2,c3,h.aL.gJ a,g1 e.1,g2 e.2⟩
    .exact⟨false,by simp[c1,c2,c3,a],by simp[c1,c2,c3,a],t_⟩
   .exact⟨false,by simp[c1,c2,c3],by simp[c1,c2,c3],t_⟩
  .exact⟨false,by simp[c1,c2],by simp[c1,c2],t_⟩
 .exact⟨false,by simp[c1],by simp[c1],t_⟩
section
variable{nd sl k:Int}{x:aD}(h:pd nd sl k x)(hk:k<=999998)
 include h hk
theorem acZ{m:aA}(f:adL m):oI x m=eJ x m/\Yd (eJ x m) λq=>(q.2.1=0/\vR nd sl (k+1) x q.1/\q.1.ab.aa=x.ab.aa)\/q.2.1≠0:=by
 obtain⟨b,e1,e2,g⟩:=anO f;have p:=h.pre;have a:1<=x.az.aI/\x.az.aI<=1000000:=⟨p.lZ.1,by have:=p.lZ.2;omega⟩
 by_cases c:b=true/\m.ak≠nd
 .exact⟨Pm h hk (g c.1) c.2,Sl h hk (g c.1) c.2⟩
 .have d:(bif (!b)then some true else some (decide (m.ak=x.az.ak)))=some true:=by
   rw[p.pS]
   cases b with
   |false=>rfl
   |true=>rw[Qd (qbf.1 λe=>c ⟨rfl,e⟩)];rfl
  have r1:pH x.az m=some (yL,1,()):=by unfold pH oO aO;simp only[etas,av.eta,aA.eta,Bh p.jt a,e1,Qa,Qh,Qb,d,Qc];rfl
  have r2:n4 x.az m=some (yL,1,()):=by unfold n4 oO;simp only[etas,av.eta,aA.eta,IE p.jt a,e2,Qa,Qh,Qb,d,Qc];rfl
  unfold oI uR ub lO eJ;simp only[aD.eta,av.eta,ae.eta,aA.eta,etas,aS,jz h O,so h O,DN p,r1,r2,Qa,Qh,Qb];exact⟨rfl,.some (.inr s_)⟩
theorem afv{e:aj}(ht:GM e.aa):uc x e=gX x e/\Yd (gX x e) λq=>(q.2.1=0/\vR nd sl k x q.1/\q.1.ab.aa=x.ab.aa)\/q.2.1≠0:=by
 have p:=h.pre
 by_cases a:bd e=false\/e.ak=x.ab.ak\/e.aJ≠x.ab.aJ
 .refine⟨Ko h hk (.inr ⟨ht.sm,a⟩),?_⟩;unfold gX;simp only[aD.eta,av.eta,ae.eta,aj.eta,etas,jz h O,Qa,Qh,Qb,UJ p.eP p.gf ht.sm a];exact .some (.inr s_)
 .have hv:bd e=true:=by cases hv:bd e with|true=>rfl|false=>exact absurd (.inl hv) a
  have c:Ai x.ab e:=⟨hv,ht.gJ (by unfold bd iu at hv;rw[Qi,Qi]at hv;exact qal hv.1.2),qbf.1 λe=>a (.inr (.inr e)),λe=>a (.inr (.inl e))⟩
  exact⟨Ko h hk (.inl c),V6 h hk (.inl c)⟩
theorem adm{v:C}(hv:iU v):tr x v=gH x v:=by have p:=h.pre;unfold tr ua xD kI gH;simp only[aD.eta,av.eta,ae.eta,etas,aS,jz h O,so h O,DN p,Qa,Qh,Qb];rw[WJ p.eP p.gf hv];obtain⟨q,e1,q0,a⟩:=F5 p.eP p.gf hv;rw[e1];simp only[Qa,q0,Ql,Qh,Qb,Qc,wx (p.Jz a)];obtain⟨y,c,_⟩:=rP (p.Jz a);rw[c];rfl
theorem aiD(v:C):tr x v=gH x v/\Yd (gH x v) λq=>(q.2.1=0/\vR nd sl k x q.1/\q.1.ab.aa=x.ab.aa)\/q.2.1≠0:=by
 have p:=h.pre
 by_cases hv:iU v
 .exact⟨adm h hk hv,V5 h hk hv⟩
 .have a:(bif decide ((v.size:Int)<1)then some true else some (decide ((200:Int)<v.size)))=some true:=by
   unfold iU at hv
   by_cases c:v.size<1
   .rw[Qd (O:(v.size:Int)<1)];rfl
   .rw[Qf (O:¬(v.size:Int)<1),Qd (O:(200:Int)<v.size)];rfl
  unfold tr ua xD kI gH lD qn oB jL oO;simp only[aD.eta,av.eta,ae.eta,aM.eta,etas,aS,jz h O,so h O,DN p,xa p.eP p.gf,vq p.eP p.gf,yn p.eP,a,Qa,Qh,Qb,Qc];exact⟨rfl,.some (.inr s_)⟩
theorem aht(now:Int):pf x now=ix x now/\((0<=now/\now<=200)\/∃z,ix x now=some (z,1,())):=by
 by_cases a:0<=now/\now<=200
 .exact⟨alA h hk a.1 a.2,.inl a⟩
 .unfold pf mz ix oO aO;simp only[aD.eta,av.eta,ae.eta,etas,aS,jz h O,so h O,Qa,Qh,Qb]
  by_cases c:0<=now
  .rw[Qd c,Qf (O:¬now<=200),Qf (O:¬now<0),Qd (O:(200:Int)<now)];exact⟨rfl,.inr ⟨_,rfl⟩⟩
  .rw[Qf c,Qd (O:now<0)];exact⟨rfl,.inr ⟨_,rfl⟩⟩
end
def ab4:aD:=⟨yL,⟨0,0,0,⟨0,[],[]⟩,0,⟨0,⟨#[]⟩⟩,⟨0,⟨#[]⟩⟩,⟨0,⟨#[]⟩⟩,⟨0,⟨#[]⟩⟩,0,0,⟨#[]⟩,[]⟩,⟨0,0⟩,0,0,false,⟨#[]⟩⟩
def ala{nd n:Int}(d:0<=nd)(a:nd<10){t:aq}(ht:cW t)(own:C)(now:Int):
  ((1<=n/\n<=1000000)/\own.size<=200/\0<=now/\now<=200)\/∃z e,(e≠0/\e≠6)/\gr nd n t own now=some (z,e,())/\iF nd n t own now=some (z,e,()):=by
 by_cases c1:0<=now/\now<=200
 .have g:mz now=some true:=by unfold mz aO;rw[Qd c1.1,Qd c1.2];rfl
  have f:(bif decide (now<0)then some true else some (decide ((200:Int)<now)))=some false:=by rw[Qf O,Qf O];rfl
  by_cases c2:1<=n/\n<=1000000
  .by_cases c3:own.size<=200
   .exact .inl ⟨c2,c3,c1⟩
   .refine .inr ⟨ab4,3,s_,?_,?_⟩
    .unfold gr;rw[g];simp only[etas,ae.eta,av.eta,Qa,Qh,Qb,akP d a c2.1 c2.2 ht,Ql]
     rw[show mY nd n t own=some (yL,3,())by
      unfold mY jw oO aO;rw[Qd d,Qd a,Qf (O:¬n<0),Qf (O:¬(1000000:Int)<n),Qd (O:(200:Int)<own.size)];simp only[etas,c6 ht,Qa,Qc,Qb,Qh,Ql]
      rfl]
     rfl
    .unfold iF oO;rw[f];simp only[etas,ae.eta,av.eta,Qa,Qh,Qb,acD d a c2.1 c2.2 ht,Ql]
     rw[show kN nd n t own=some (yL,3,())by
      unfold kN oO;rw[Qf (O:¬nd<0),Qf (O:¬(10:Int)<=nd),Qf (O:¬n<0),Qf (O:¬(1000000:Int)<n),Qd (O:(200:Int)<own.size)];simp only[etas,dw ht,Qa,Qc,Qb,Qh,Ql]
      rfl]
     rfl
  .have i:(bif decide (n<1)then some true else some (decide ((1000000:Int)<n)))=some true:=by
    by_cases c:n<1
    .rw[Qd c];rfl
    .rw[Qf c,Qd (O:(1000000:Int)<n)];rfl
   refine .inr ⟨ab4,77,s_,?_,?_⟩
   .unfold gr wW oO;rw[g,Qf (O:¬nd<0),Qf (O:¬(10:Int)<=nd),i];rfl
   .unfold iF Ak oO;rw[f,Qf (O:¬nd<0),Qf (O:¬(9:Int)<nd),i];rfl
 .refine .inr ⟨ab4,1,s_,?_,?_⟩
  .unfold gr mz aO
   by_cases c:0<=now
   .rw[Qd c,Qf (O:¬now<=200)];rfl
   .rw[Qf c];rfl
  .unfold iF oO
   by_cases c:0<=now
   .rw[Qf (O:¬now<0),Qd (O:(200:Int)<now)];rfl
   .rw[Qd (O:now<0)];rfl
end
section
def ajU{α ρ:Type}(l:Z α)(hl:l.length<=1000000)(P:α->Bool){step:Int×Int×Unit->Y ((Int×Int×Unit)⊕ρ)}{fin:Nat->Y ρ}
  (h1:∀(i j m:Nat) (x:α),decide ((i:Int)<(j:Int))=true->j<=l.length->bu .i64 (kb .u64 (bu .u64 (aC .i64 (i:Int) (j:Int))) (1:Int))=(m:Int)->aC .i64 (m:Int) 1=((m+1:Nat):Int)->idx l (m:Int)=some x->step ((i:Int),(j:Int),())=some (.inl (bif P x then(((m+1:Nat):Int),(j:Int),())else((i:Int),(m:Int),()))))
  (u:∀i:Nat,decide ((i:Int)<(i:Int))=false->i<=l.length->step ((i:Int),(i:Int),())=Option.map inr (fin i)):
  ∃i,i<=l.length/\aE step ((0:Int),(l.length:Int),())=fin i:=by
 suffices c:∀(d i j:Nat),j=i+d->j<=l.length->∃q,q<=l.length/\aE step ((i:Int),(j:Int),())=fin q from c l.length 0 l.length O (Qs _)
 intro d
 induction d using Nat.strongRecOn with
 |_ d f=>
  intro i j r a
  by_cases h0:d=0
  .obtain rfl:j=i:=O;refine⟨j,a,?_⟩;rw[fB,u _ (Qf (QF _)) a];cases fin j<;>rfl
  .have o:(i+j) / 2<l.length:=O;have hs:=h1 i j ((i+j) / 2) l[(i+j) / 2] (Qd O) a (aeM O O) (bH O O) (by rw[ba];exact Qj o)
   cases g:P l[(i+j) / 2]with
   |true=>rw[g]at hs;rw[bB hs];exact f (j - ((i+j) / 2+1)) O _ _ O a
   |false=>rw[g]at hs;rw[bB hs];exact f ((i+j) / 2 - i) O _ _ O O
def akl{a b:Int}(d:1<=a)(c:a<=1000000)(hb0: -9223372036854775808<=b)(hb1:b<=9223372036854775807)(h:a≠b):cQ .i64 a b≠0:=by unfold cQ IntKind.wrap;simp[IntKind.signed,IntKind.bits];omega
def ad1(l:Z C)(hl:l.length<=1000000):vB l l=some true:=by
 unfold vB;simp only[Ql,Qh,Qb];refine Yd.eq_true (Yd.list l hl (λi (_:Unit)=>(i,())) (λ_ _=>True) (λi x _ _ _ f hi a c d=> ?_) (λ_ _ a=> ?_) (s:=()) trivial)
 .simp only[a,Qc,c,Qa,Ql,Qh,Qb,d];exact .some ⟨(),rfl,trivial⟩
 .simp only[a,Qb];exact .some rfl
def YQ{y:bI}(h1:cI y.ay.aa)(c:cI y.aP.aa)(hv:y.aP.bj.length<=1000000)(a:y.aP.aG.length<=1000000):rX y y=some true:=by unfold rX yB aO;simp only[etas,aj.eta,aA.eta,akv h1,X4 c,ad1 _ hv,ad1 _ a,Ql,Qc,Qa]
def F9{l:Z bI}(hl:l.length<=1000000)(h:∀y∈l,rX y y=some true):qq l l=some true:=by
 unfold qq;simp only[Ql,Qh,Qb];refine Yd.eq_true (Yd.list l hl (λi (_:Unit)=>(i,())) (λ_ _=>True) (λi x _ _ _ c hi a d f=> ?_) (λ_ _ a=> ?_) (s:=()) trivial)
 .simp only[a,Qc,d,Qa,etas,aj.eta,aA.eta,bI.eta,h x c,Qh,Qb,f];exact .some ⟨(),rfl,trivial⟩
 .simp only[a,Qb];exact .some rfl
 def uw(x:aD):Z bI:=(bif x.qL then[]else[(⟨1,x.ab.aJ,xP x.az,⟨0,0,0,vg,0,⟨0,⟨#[]⟩⟩,⟨0,⟨#[]⟩⟩,⟨0,⟨#[]⟩⟩,0,0⟩⟩:bI)])++(bif aQ x.ab.af then[]else[(⟨2,x.ab.aJ,⟨0,0,vg,[],[]⟩,bM x.ab⟩:bI)])
def aei{nd sl k:Int}{x:aD}(h:pd nd sl k x)(hk:k<=999998):ud x=some (uw x):=by have p:=h.pre;unfold ud xc uw;simp only[aD.eta,av.eta,ae.eta,aA.eta,aj.eta,etas,jz h O,Qa,Qh,Qb,PO p.eP p.gf,aS];rw[br t_,br t_,br t_];cases a:aQ x.ab.af<;>cases x.qL<;>rfl
def HR{nd sl k:Int}{x:aD}(h:pd nd sl k x):(uw x).length<=2/\∀y∈uw x,rX y y=some true:=by
 have g:=h.pre.jt.di.len;have f:=h.pre.jt.eA.len;have n0:cI vg:= .mk _ (QT _) (QT _) (by simp[vg])
 unfold uw;refine⟨by cases x.qL<;>cases aQ x.ab.af<;>simp,λy a=> ?_⟩
 rcases QA.1 a with a|a
 .cases d:x.qL with
  |true=>rw[d]at a;cases a
  |false=>rw[d]at a;rw[Qz.1 a];exact YQ n0 h.pre.jt.ask.aL.sm (by show x.az.bj.length<=_;omega) (by show x.az.aG.length<=_;omega)
 .cases c:aQ x.ab.af with
  |true=>rw[c]at a;cases a
  |false=>rw[c]at a;rw[Qz.1 a];exact YQ (by rw[pb];exact h.pre.eP.aL.sm) n0 (QT _) (QT _)
section
variable{nd k:Int}{p:al}(h:iV nd k p)(hk0:0<=k)(hk:k<=999998)
 include h hk0 hk
theorem agx:∃l,iB p=some l/\nJ p=some l/\qq l l=some true:=by
 have r:=h.len
 cases c:p.bh with
 |true=>
  refine⟨[],?_,?_,F9 (QT _) (λy d=>by cases d)⟩
  .unfold iB oO;rw[c];rfl
  .unfold nJ oO;simp only[etas,al.eta,oG h O];rw[c];rfl
 |false=>
  have j:∀g:aD->Y (Z bI),(∀x∈p.ax,g x=some (uw x))->aE (λ(f:Int×(Z bI)×Unit)=>
    bif (decide (f.1<((List.length p.ax:Nat):Int)))then
    Option.bind (idx p.ax f.1) λu=>Option.bind (g u) λq=>
    bif bl 312 (List.length f.2.1+List.length q)then some (inl ((aC .i64 f.1 (1:Int)),(f.2.1++q),()))else none
    else Option.map inr (some f.2.1)) ((0:Int),([]:Z bI),())=some (p.ax.flatMap uw):=λg B=>by
   refine Yd.is (Yd.list p.ax O (λi (l:Z bI)=>(i,l,())) (λi l=>l=(p.ax.take i).flatMap uw/\l.length<=2*i) (λi x l ⟨e,e2⟩ _ a hi o hw D=> ?_) (λl ⟨e,_⟩ o=> ?_) (s:=[]) ⟨rfl,QT _⟩)
   .have E:=(HR (h.aK x a).2.2).1;simp only[o,Qc,hw,Qa,B x a,D];rw[br O,Qc];refine .some ⟨_,rfl,?_,by rw[QM];omega⟩
    rw[ba]at hw;rw[List.take_add_one,hw,List.flatMap_append,<-e];simp
   .simp only[o,Qb];rw[QK]at e;exact .some e
  refine⟨p.ax.flatMap uw,?_,?_,F9 ?_ λy d=> ?_⟩
  .unfold iB oO;simp only[aD.eta,av.eta,ae.eta,etas,al.eta,pQ h hk,Qa,Qh];rw[c];exact j vy λx a=>aev (h.aK x a).2.2 O
  .unfold nJ oO;simp only[aD.eta,av.eta,ae.eta,etas,al.eta,oG h O,Qa,Qh];rw[c];exact j ud λx a=>aei (h.aK x a).2.2 O
  .have:∀l:Z aD,(∀x∈l,x∈p.ax)->(l.flatMap uw).length<=2*l.length:=by
    intro l
    induction l with
    |nil=>intro _;exact QT _
    |cons x l A=>
     intro hl;have h1:=(HR (h.aK x (hl x t_)).2.2).1;have E:=A λy d=>hl y (by simp[d])
     rw[List.flatMap_cons,QM,QN];omega
   have:=this p.ax λx a=>a
   omega
  .obtain⟨x,a,d⟩:=qat.1 d;exact(HR (h.aK x a).2.2).2 y d
 omit hk0 hk in
theorem UP{n:Int}(hb0: -9223372036854775808<=n)(hb1:n<=9223372036854775807):∃i:Nat,aT p.ax n=some ((i:Int),np p.ax n,())/\(np p.ax n=true->i=mE p.ax n):=by
  by_cases u:0<=n/\n<=1000000
  .exact⟨_,Sx h u.1 u.2,λ_=>rfl⟩
  .have A:=h.len
   have a:∀y∈p.ax,y.ab.aJ≠n:=λy r e=>by have h1:=(h.aK y r).1;have D:=(h.aK y r).2.1;omega
   have ht:np p.ax n=false:=by
    cases e:np p.ax n with
    |false=>rfl
    |true=>obtain⟨x,o,g⟩:=Jt e;exact absurd g (a x (QL o))
   rw[ht]
   suffices ∃i,i<=p.ax.length/\aT p.ax n=some (((i:Nat):Int),false,())by obtain⟨i,_,e⟩:=this;exact⟨i,e,λe=>by cases e⟩
   unfold aT aO;refine ajU p.ax O (λy=>decide (cQ .i64 y.ab.aJ n<0)) (fin:=λk=>some (((k:Nat):Int),false,())) (λi j m y q B c f o=> ?_) (λi q hi=> ?_)
   .simp only[q,c,f,o,aD.eta,av.eta,ae.eta,etas,iA,Qa,Qc];cases decide (cQ .i64 y.ab.aJ n<0)<;>rfl
   .simp only[q,Qb]
    by_cases d:i<p.ax.length
    .have c:=QE d;rw[Qd (O:(i:Int)<(p.ax.length:Int))];simp only[Qc,ba,Qj d,Qa,aD.eta,av.eta,ae.eta,etas,iA,Qf (akl (h.aK _ c).1 (h.aK _ c).2.1 hb0 hb1 (a _ c)),Qo]
    .rw[Qf (O:¬(i:Int)<(p.ax.length:Int))];rfl
theorem agO{n:Int}(hb0: -9223372036854775808<=n)(hb1:n<=9223372036854775807):∃q,jV p n=some q/\pY p n=some q:=by
 obtain⟨i,e,hi⟩:=UP h hb0 hb1;unfold jV pY oO aO;simp only[aD.eta,av.eta,ae.eta,etas,al.eta,pQ h hk,oG h O,Nj h.len,e,Qa,Qh,Qb]
 cases ht:np p.ax n with
 |false=>exact⟨_,rfl,rfl⟩
 |true=>obtain⟨x,c,a⟩:=Jt ht;rw[hi ht];simp only[Qh,Qb,Qc,ba,c,Qa];cases x.qL<;>exact⟨_,rfl,rfl⟩
def Io(nd k:Int)(a b:Y (al×Int×Unit)):Prop:=∃q,a=some q/\b=some q/\(iV nd k q.1\/q.1=zP)
 omit h hk0 hk in
theorem R7:fj zP zP=some true:=by
  unfold fj oO;simp only[etas,X4 (show cI zP.aa from .mk _ (QT _) (QT _) (by simp[zP])),Ql,Qh,Qa,Qb]
  exact bN rfl
 omit h hk0 hk in
theorem Io.same{a b:Y (al×Int×Unit)}(d:Io nd k a b):∃q,a=some q/\b=some q/\fj q.1 q.1=some true:=by
  obtain⟨q,e1,e2,c⟩:=d;refine⟨q,e1,e2,?_⟩;rcases c with c|c
  .exact abj c
  .rw[c];exact R7
end
 def N6(p:al)(n e:Int)(g:aD->Y (aD×Int×Unit)):Y (al×Int×Unit):=
 if np p.ax n=true then Option.bind p.ax[mE p.ax n]? λx=>Option.bind (g x) λr=>some (if r.2.1=0 then(LP p (mE p.ax n) r.1,0,())else(zP,r.2.1,()))
 else some (zP,if p.ax.length=8 then 3 else e,())
def ajD{p:al}{n:Int}{s:aD}{g:aD->Y (aD×Int×Unit)}{q:al×Int×Unit}(h:xB p n s g=some q)(c:q.2.1≠0):q.1=zP:=by
 unfold xB at h;split at h
 .obtain rfl:=Q7 h;rfl
 .obtain⟨x,_,h⟩:=Qm.1 h;obtain⟨r,_,h⟩:=Qm.1 h;obtain rfl:=Q7 h;split
  .rename_i a;exact absurd (by rw[Qe a]) c
  .rfl
section
variable{nd k:Int}{p:al}(h:iV nd k p)(hk0:0<=k)(hk:k<=999998)
 include h
theorem PF{n:Int}(ht:np p.ax n=true):1<=n/\n<=1000000/\∃x,p.ax[mE p.ax n]?=some x/\x.ab.aJ=n/\x∈p.ax:=by obtain⟨x,d,a⟩:=Jt ht;have c:=QL d;have h1:=(h.aK x c).1;have f:=(h.aK x c).2.1;exact⟨O,O,x,d,a,c⟩
section
variable{n:Int}(hb0: -9223372036854775808<=n)(hb1:n<=9223372036854775807){own:C}{now:Int}{z:aD}{e:Int}(he:e≠0/\e≠6)
section
variable(e2:iF nd n p.aa own now=some (z,e,()))
 include he e2
theorem abd:qE p n own now=some (if np p.ax n=true then(zP,6,())else(zP,if p.ax.length=8 then 3 else e,())):=by
 have a:=h.len;unfold qE;simp only[aD.eta,av.eta,ae.eta,etas,al.eta,Nj h.len,Qa]
 cases np p.ax n with
 |true=>rfl
 |false=>
  rw[Qb,Qg t_]
  by_cases c:p.ax.length=8
  .rw[Qe c,Qd O];rfl
  .rw[Qg c,Qf O,Qb,h.aF,e2,Qa,Qf he.1];rfl
theorem akI(g:aD->Y (aD×Int×Unit)):(Option.bind (kJ p n own now) λq=>bif (!decide (q.2.2.1=(0:Int)))then some (zP,q.2.2.1,())else
   Option.bind (idx q.1.ax q.2.1) λx=>Option.bind (g x) λr=>Option.bind (fH q.1 q.2.1 r.1 r.2.1) λw=>some (w.1,w.2.1,()))=N6 p n e g:=by
 unfold kJ N6;simp only[etas,al.eta,Nj h.len,Qa,abd h he e2]
 cases ht:np p.ax n with
 |true=>
  obtain⟨_,_,x,a,_⟩:=PF h ht;rw[Qe rfl,Qc];simp only[Qa,Ql,Qh,Qb,ba,a];congr 1
  funext r
  rw[adW h (QH.1 a).1,Qa]
 |false=>
  simp only[QB,Qx,Qb,Qa];rw[Nj (show zP.ax.length<=8 by decide),Qa]
  by_cases c:p.ax.length=8
  .rw[Qe c];rfl
  .rw[Qg c];simp only[Qa,Qf he.1,Qt,Qc]
end
variable(e1:gr nd n p.aa own now=some (z,e,()))
 include hb0 hb1 he e1
theorem akX{g g':aD->Y (aD×Int×Unit)}(A:∀x,Bq nd k x->x.ab.aJ=n->g x=g' x):
  (aX (Ht g n) λo=>
   Option.bind (aT p.ax n) λd=>
   bif d.2.1 then o ((6:Int),(al.mk p.ak p.bh p.aa ([]:Z aD)),p.ax,())else
   bif (decide (((List.length p.ax:Nat):Int)=(8:Int)))then o ((3:Int),(al.mk p.ak p.bh p.aa ([]:Z aD)),p.ax,())else
   Option.bind (gr p.ak n p.aa own now) λc=>
   aX (λ(a:al×(Z aD)×Unit)=>o (c.2.1,(al.mk a.1.ak a.1.bh a.1.aa ([]:Z aD)),a.2.1,())) λf=>
   bif (decide (c.2.1=(0:Int)))then
   Option.bind (bX p.ax d.1 [c.1]) λj=>f ((al.mk p.ak p.bh p.aa ([]:Z aD)),j,())
   else f ((al.mk p.ak p.bh p.aa ([]:Z aD)),p.ax,()))=N6 p n e g':=by
 obtain⟨i,B,hi⟩:=UP h hb0 hb1;rw[aS,B,Qa,h.aF,e1];unfold N6
 cases ht:np p.ax n with
 |true=>obtain⟨h1,D,x,u,q,r⟩:=PF h ht;rw[Qc,Qe rfl,u,Qa,<-A x (h.aK x r) q,<-h.aF];exact WN h O O u (.inr rfl) g
 |false=>
  rw[Qb,Qg t_]
  by_cases y:p.ax.length=8
  .rw[Qe y,Qd O];rfl
  .rw[Qg y,Qf O];simp only[Qb,Qa,Qf he.1,aS];unfold Ht;rw[Qf he.1,Qf he.2];rfl
end
 include hk0 hk
theorem ahW{n:Int}(hb0: -9223372036854775808<=n)(hb1:n<=9223372036854775807)(own:C)(now:Int){g g':aD->Y (aD×Int×Unit)}
  (y:∀x,Bq nd k x->x.ab.aJ=n->g x=g' x/\Yd (g' x) λq=>(q.2.1=0/\vR nd x.ab.aJ (k+1) x q.1/\q.1.ab.aa=x.ab.aa)\/q.2.1≠0):
  Io nd (k+1) (aX (Ht g n) λE=>
   Option.bind (aT p.ax n) λj=>
   bif j.2.1 then E ((6:Int),(al.mk p.ak p.bh p.aa ([]:Z aD)),p.ax,())else
   bif (decide (((List.length p.ax:Nat):Int)=(8:Int)))then E ((3:Int),(al.mk p.ak p.bh p.aa ([]:Z aD)),p.ax,())else
   Option.bind (gr p.ak n p.aa own now) λf=>
   aX (λ(c:al×(Z aD)×Unit)=>E (f.2.1,(al.mk c.1.ak c.1.bh c.1.aa ([]:Z aD)),c.2.1,())) λo=>
   bif (decide (f.2.1=(0:Int)))then
   Option.bind (bX p.ax j.1 [f.1]) λA=>o ((al.mk p.ak p.bh p.aa ([]:Z aD)),A,())
   else o ((al.mk p.ak p.bh p.aa ([]:Z aD)),p.ax,()))
   (Option.bind (kJ p n own now) λq=>bif (!decide (q.2.2.1=(0:Int)))then some (zP,q.2.2.1,())else
   Option.bind (idx q.1.ax q.2.1) λx=>Option.bind (g' x) λr=>Option.bind (fH q.1 q.2.1 r.1 r.2.1) λw=>some (w.1,w.2.1,())):=by
 rcases ala (n:=n) h.n0 h.n1 h.aL own now with⟨⟨c1,c2⟩,c3,I,G⟩|⟨z,e,he,e1,e2⟩
 .obtain⟨s,hs⟩:=US h c1 c2 c3 I G hk0;obtain⟨q,eq,i,_⟩:=N5 h hs (k':=k+1) O λx d a=>(y x d a).2
  refine⟨q,(acW h hs c3 I G λx d a=>(y x d a).1).trans eq,(NL h hs rfl).trans eq,?_⟩
  rcases i with i|i
  .exact .inl i.2.1
  .exact .inr (ajD eq i)
 .have D:∃q,N6 p n e g'=some q/\(iV nd (k+1) q.1\/q.1=zP):=by
   unfold N6
   cases ht:np p.ax n with
   |false=>exact⟨_,rfl,.inr rfl⟩
   |true=>
    obtain⟨h1,N,x,d,a,u⟩:=PF h ht;rw[Qe rfl,d,Qa];obtain⟨r,L,J⟩:=(y x (h.aK x u) a).2;rw[L,Qa];refine⟨_,rfl,?_⟩;rcases J with⟨B,K,F⟩|B
    .rw[Qe B];obtain⟨d1,d2⟩:=(h.aK x u).Vu K;exact .inl (aa3 h O d d1 d2 F)
    .rw[Qg B];exact .inr rfl
  obtain⟨q,eq,i⟩:=D;exact⟨q,(akX h hb0 hb1 he e1 λx d a=>(y x d a).1).trans eq,(akI h he e2 g').trans eq,i⟩
 omit hk0 hk in
theorem CM{k':Int}(c:k<=k'){a b A B:Y (al×Int×Unit)}(g:a=bif p.bh then some (p,0,())else A)(f:b=bif p.bh then some (p,0,())else B)(d:Io nd k' A B):Io nd k' a b:=by
  rw[g,f]
  cases p.bh with
  |true=>exact⟨_,rfl,rfl,.inl (h.le c)⟩
  |false=>exact d
theorem alK{n:Int}(hb0: -9223372036854775808<=n)(hb1:n<=9223372036854775807)(own:C)(now:Int):Io nd (k+1) (hZ p n own now) (mB p n own now):=by
 rcases ala (n:=n) h.n0 h.n1 h.aL own now with⟨⟨c1,c2⟩,c3,d,c⟩|⟨z,e,he,e1,e2⟩
 .obtain⟨s,hs⟩:=US h c1 c2 c3 d c hk0;refine⟨_,amp h hk hs c3 d c,aeA h hk0 hk hs,?_⟩;split
  .exact .inl (h.le O)
  .unfold Cg;split
   .exact .inr rfl
   .split
    .exact .inr rfl
    .rename_i ht a;exact .inl ((NW h hs (by simpa using ht) a).le O)
 .obtain⟨i,f,_⟩:=UP h hb0 hb1;have r2:=abd h he e2;have g:gr p.ak n p.aa own now=some (z,e,()):=by rw[h.aF];exact e1
  refine CM h (k':=k+1) O (A:=some (if np p.ax n=true then(zP,6,())else(zP,if p.ax.length=8 then 3 else e,()))) (B:=some (if np p.ax n=true then(zP,6,())else(zP,if p.ax.length=8 then 3 else e,()))) ?_ ?_ ⟨_,rfl,rfl,?_⟩
  .unfold hZ ku;simp only[aD.eta,av.eta,ae.eta,etas,al.eta,aS,pQ h hk,eN h.aL.sm,Dk h.len h.aK,Qa,Qh,Qb,f,g,Qf he.1];rw[ln];congr 1
   cases np p.ax n with
   |true=>rfl
   |false=>
    by_cases a:p.ax.length=8
    .rw[Qd O];simp[a,zP]
    .rw[Qf O];simp[a,zP]
  .unfold mB;simp only[etas,al.eta,oG h O,Qa,Qh,Qb,r2]
  .split<;>exact .inr rfl
theorem aiE{n:Int}(hb0: -9223372036854775808<=n)(hb1:n<=9223372036854775807)(own:C)(now:Int):Io nd (k+1) (k8 p n own now) (kZ p n own now):=by
 refine CM h (k':=k+1) O ?_ ?_ (ahW h hk0 hk hb0 hb1 own now (g:=λx=>nP x own) (g':=λx=>gH x own) λx f d=> ?_)
 .unfold k8 nO aO;simp only[aD.eta,av.eta,ae.eta,etas,al.eta,pQ h hk,eN h.aL.sm,Dk h.len h.aK,Qa,Qh,Qb];exact ln _
 .unfold kZ;simp only[aD.eta,av.eta,ae.eta,etas,al.eta,oG h O,Qa,Qh,Qb];rfl
 .obtain⟨e,c⟩:=aiD f.2.2 hk own;refine⟨?_,c.mono λq a=>a.imp (λa=>⟨a.1,⟨a.2.1.1.le O,a.2.1.2⟩,a.2.2⟩) id⟩
  unfold nP;simp only[aD.eta,av.eta,ae.eta,etas,e];exact ln _
structure aaf (l:bI):Prop where
 jt:adL l.aP
 env:GM l.ay.aa
 s0: -9223372036854775808<=l.aJ
 s1:l.aJ<=9223372036854775807
theorem amF{l:bI}(hl:aaf l)(now:Int):Io nd (k+1) (fl p l now) (mi p l now):=by
 have E:fl p l now=bif p.bh then some (p,0,())else bif zI l then some (zP,1,())else
   (aX (Ht (λx=>bif decide (l.bF=1)then gZ x l else gY x l) l.aJ) λu=>
   Option.bind (aT p.ax l.aJ) λg=>
   bif g.2.1 then u ((6:Int),(al.mk p.ak p.bh p.aa ([]:Z aD)),p.ax,())else
   bif (decide (((List.length p.ax:Nat):Int)=(8:Int)))then u ((3:Int),(al.mk p.ak p.bh p.aa ([]:Z aD)),p.ax,())else
   Option.bind (gr p.ak l.aJ p.aa (ByteArray.mk #[48]) now) λc=>
   aX (λ(a:al×(Z aD)×Unit)=>u (c.2.1,(al.mk a.1.ak a.1.bh a.1.aa ([]:Z aD)),a.2.1,())) λj=>
   bif (decide (c.2.1=(0:Int)))then
   Option.bind (bX p.ax g.1 [c.1]) λo=>j ((al.mk p.ak p.bh p.aa ([]:Z aD)),o,())
   else j ((al.mk p.ak p.bh p.aa ([]:Z aD)),p.ax,())):=by
  unfold fl kv zI aO;simp only[aD.eta,av.eta,ae.eta,aA.eta,aj.eta,bI.eta,etas,al.eta,pQ h hk,eN h.aL.sm,Dk h.len h.aK,Qa,Qh,Qb];rw[ln];congr 1
  by_cases k1:l.bF=1
  .simp only[Qd k1,Qc,qb4,Qh,Qb];rfl
  .simp only[Qf k1,Qb,qa8]
   by_cases d:l.bF=2
   .by_cases i:l.aJ=l.ay.aJ
    .simp only[Qd d,Qd i,Qc,Qa,qap,Qh,Qb];rfl
    .simp only[Qd d,Qf i,Qc,Qa,qae,Qt,Qb];rfl
   .simp only[Qf d,Qa,qbw,Qt,Qb,Qc];rfl
 have hR:mi p l now=bif p.bh then some (p,0,())else bif zI l then some (zP,1,())else
   (Option.bind (kJ p l.aJ (ByteArray.mk #[48]) now) λq=>bif (!decide (q.2.2.1=(0:Int)))then some (zP,q.2.2.1,())else
   Option.bind (idx q.1.ax q.2.1) λx=>Option.bind (jo l x) λr=>Option.bind (fH q.1 q.2.1 r.1 r.2.1) λw=>some (w.1,w.2.1,())):=by
  unfold mi zI oO aO;simp only[aD.eta,av.eta,ae.eta,aA.eta,aj.eta,etas,al.eta,oG h O,Qa,Qh,Qb];congr 1
  by_cases k1:l.bF=1
  .simp[jo,k1,zP]
  .by_cases d:l.bF=2
   .by_cases i:l.aJ=l.ay.aJ
    .simp[jo,d,<-i,zP]
    .simp[d,i,zP]
   .simp[k1,d,zP]
 refine CM h (k':=k+1) O E hR ?_
 cases B:zI l with
 |true=>exact⟨_,rfl,rfl,.inr rfl⟩
 |false=>
  refine ahW h hk0 hk hl.s0 hl.s1 _ now λx A D=> ?_
  unfold jo
  by_cases k1:l.bF=1
  .obtain⟨e,y⟩:=acZ A.2.2 hk hl.jt;simp only[Qd k1,Qc];refine⟨?_,y⟩;unfold gZ;simp only[aD.eta,av.eta,ae.eta,aA.eta,etas,e];exact ln _
  .obtain⟨e,y⟩:=afv A.2.2 hk hl.env;simp only[Qf k1,Qb];refine⟨?_,y.mono λq f=>f.imp (λf=>⟨f.1,⟨f.2.1.1.le O,f.2.1.2⟩,f.2.2⟩) id⟩
   unfold gY;simp only[aD.eta,av.eta,ae.eta,aj.eta,etas,e];exact ln _
theorem amU{t:aq}(ht:GM t):Io nd (k+1) (gw p t) (jK p t):=by
 by_cases hv:xM t=0
 .have a:=ht.gJ hv;obtain⟨f,c,hi,_,d⟩:=afe h hk0 hk a;refine⟨_,amu h hk a c,d,?_⟩;split
  .exact .inl (h.le O)
  .exact .inl hi
 .refine CM h (k':=k+1) O (A:=some (zP,1,())) (B:=some (zP,1,())) ?_ ?_ ⟨_,rfl,rfl,.inr rfl⟩
  .unfold gw kq;simp only[aD.eta,av.eta,ae.eta,etas,al.eta,pQ h hk,eN h.aL.sm,wX ht.sm,Dk h.len h.aK,Qa,Qh,Qb,Qf hv,Qt,Qc];exact ln _
  .unfold jK;simp only[aD.eta,av.eta,ae.eta,etas,al.eta,oG h O,sk ht.sm,Qa,Qh,Qb,Qf hv,Qt,Qc];rfl
theorem ame(now:Int):Io nd (k+1) (kx p now) (nI p now):=by
 have h1:∀x,mn x now=pf x now:=λx=>by unfold mn;simp only[etas];exact ln _
 by_cases f:0<=now/\now<=200
 .obtain⟨i,u,hi,_,y⟩:=ad5 h hk0 hk f.1 f.2;refine CM h (k':=k+1) O (A:=some (xl p p.aa i,0,())) (B:=some (xl p p.aa i,0,())) ?_ ?_ ⟨_,rfl,rfl,.inl hi⟩
  .unfold kx kp;simp only[aD.eta,av.eta,ae.eta,etas,al.eta,pQ h hk,eN h.aL.sm,Dk h.len h.aK,Qa,Qh,Qb];rw[ln];congr 1;exact akQ h (g:=λx=>mn x now) (λx d=>(h1 x).trans (aht (h.aK x d).2.2 hk now).1) u p.aa (z:=λe l q=>bif (!decide (e=(0:Int)))then some (zP,e,())else some ((al.mk q.ak q.bh q.aa l),(0:Int),()))
  .rw[y];cases p.bh<;>rfl
 .have j:∀x∈p.ax,∃z,pf x now=some (z,1,())/\ix x now=some (z,1,()):=λx d=>by
   obtain⟨e,r⟩:=aht (h.aK x d).2.2 hk now;obtain⟨z,o⟩:=r.resolve_left f;exact⟨z,e.trans o,o⟩
  refine CM h (k':=k+1) O (A:=some (if p.ax=[]then(p,0,())else(zP,1,()))) (B:=some (if p.ax=[]then(p,0,())else(zP,1,()))) ?_ ?_ ⟨_,rfl,rfl,?_⟩
  .unfold kx kp;simp only[aD.eta,av.eta,ae.eta,etas,al.eta,pQ h hk,eN h.aL.sm,Dk h.len h.aK,Qa,Qh,Qb,h1];rw[ln];congr 1;obtain⟨a,b,c,l⟩:=p
   cases l with
   |nil=>exact bN rfl
   |cons x l=>
    obtain⟨z,e1,_⟩:=j x t_;refine bN ?_;rw[Qd (by show(0:Int)<(((x::l).length:Nat):Int);rw[QN];omega),Qc]
    show Option.bind (pf x now) _=_;rw[e1];rfl
  .unfold nI;simp only[aD.eta,av.eta,ae.eta,etas,al.eta,oG h O,Qa,Qh,Qb];congr 1;obtain⟨a,b,c,l⟩:=p
   cases l with
   |nil=>exact bN rfl
   |cons x l=>
    obtain⟨z,_,e1⟩:=j x t_;refine bN ?_;rw[Qd (by show(0:Int)<(((x::l).length:Nat):Int);rw[QN];omega),Qc]
    show Option.bind (ix x now) _=_;rw[e1];rfl
  .split
   .exact .inl (h.le O)
   .exact .inr rfl
end
end
section
def Tw(a b:Y (al×Int×Unit)):Prop:=∃q,a=some q/\b=some q/\fj q.1 q.1=some true
structure Ex (x:al) (t:aq):Prop where
 chk:∃b,cz x=some b/\fe x=some b
 lets:∃l,iB x=some l/\nJ x=some l/\qq l l=some true
 stop:∃q,mW x=some q/\vz x=some q/\fj q q=some true
 dec:∀n:Int, -9223372036854775808<=n->n<=9223372036854775807->∃q,jV x n=some q/\pY x n=some q
 beg:∀n:Int, -9223372036854775808<=n->n<=9223372036854775807->∀own now,Tw (hZ x n own now) (mB x n own now)
 pre:∀n:Int, -9223372036854775808<=n->n<=9223372036854775807->∀own now,Tw (k8 x n own now) (kZ x n own now)
 tick:∀now,Tw (kx x now) (nI x now)
 anS:∀y,aaf y->∀now,Tw (fl x y now) (mi x y now)
 decl:Tw (gw x t) (jK x t)
def Ex.inv{nd k:Int}{x:al}(h:iV nd k x)(hk0:0<=k)(hk:k<=999998){t:aq}(ht:GM t):Ex x t:=
 ⟨⟨true,pQ h hk,oG h O⟩,agx h hk0 hk,⟨_,amo h hk,akm h hk0 hk,abj (afQ h hk0 hk)⟩,λn b0 b1=>agO h hk0 hk b0 b1,
  λn b0 b1 own now=>(alK h hk0 hk b0 b1 own now).same,λn b0 b1 own now=>(aiE h hk0 hk b0 b1 own now).same,λnow=>(ame h hk0 hk now).same,
  λy a now=>(amF h hk0 hk a now).same,(amU h hk0 hk ht).same⟩
structure al1 (x:al):Prop where
 c1:cz x=some false
 c2:fe x=some false
 sm:cI x.aa
 cp:cZ x.ax=some x.ax
 same:fj x x=some true
def Ex.bad{x:al}(h:al1 x)(t:aq):Ex x t:=by
 have z:∀{a b:Y (al×Int×Unit)},a=some (zP,13,())->b=some (zP,13,())->Tw a b:=λe1 e2=>⟨_,e1,e2,R7⟩
 refine⟨⟨false,h.c1,h.c2⟩,⟨[],?_,?_,F9 (QT _) λy f=>by cases f⟩,⟨x,?_,?_,h.same⟩,λn _ _=>⟨(bE,false,()),?_,?_⟩,λn _ _ own now=>z ?_ ?_,λn _ _ own now=>z ?_ ?_,λnow=>z ?_ ?_,λy _ now=>z ?_ ?_,z ?_ ?_⟩
 .unfold iB oO;simp only[etas,al.eta,h.c1,Qa,Qt];cases x.bh<;>rfl
 .unfold nJ oO;simp only[etas,al.eta,h.c2,Qa,Qt];rfl
 .unfold mW oO;simp only[aD.eta,av.eta,ae.eta,etas,al.eta,h.c1,eN h.sm,h.cp,Qa];obtain⟨a,b,c,d⟩:=x;cases b<;>rfl
 .unfold vz;simp only[etas,al.eta,h.c2,Qa,Qt,Qc]
 .unfold jV oO;simp only[etas,al.eta,h.c1,Qa,Qt,Qc]
 .unfold pY aO;simp only[etas,al.eta,h.c2,Qa,Qt,Qc]
 .unfold hZ ku;simp only[etas,al.eta,h.c1,Qa,Qt,Qc];rfl
 .unfold mB;simp only[etas,al.eta,h.c2,Qa,Qt,Qc];rfl
 .unfold k8 nO aO;simp only[etas,al.eta,h.c1,Qa,Qt,Qc];rfl
 .unfold kZ;simp only[etas,al.eta,h.c2,Qa,Qt,Qc];rfl
 .unfold kx kp;simp only[etas,al.eta,h.c1,Qa,Qt,Qc];rfl
 .unfold nI;simp only[etas,al.eta,h.c2,Qa,Qt,Qc];rfl
 .unfold fl kv aO;simp only[etas,al.eta,h.c1,Qa,Qt,Qc];rfl
 .unfold mi oO aO;simp only[etas,al.eta,h.c2,Qa,Qt,Qc];rfl
 .unfold gw kq;simp only[etas,al.eta,h.c1,Qa,Qt,Qc];rfl
 .unfold jK;simp only[etas,al.eta,h.c2,Qa,Qt,Qc];rfl
def afo{nd k:Int}{p:al}(h:iV nd k p)(A:p.ax≠[]){o:aD->Y Bool}{S:aq->aq->Y Bool}(Q:∀x∈p.ax,o x=some true)(hS:∀x∈p.ax,S x.ab.aa p.aa=some true):
  aE (λ(d:Int×Unit)=>
   bif (decide (d.1<((List.length (p.ax++p.ax):Nat):Int)))then
   Option.bind (idx (p.ax++p.ax) d.1) λq=>
   aX (λ(J:Bool×Unit)=>bif J.1 then Option.map inr (some false)else some (inl ((aC .i64 d.1 (1:Int)),()))) λf=>
   Option.bind (o q) λK=>
   bif (!K)then f (true,())else
   bif (!decide (q.ab.ak=p.ak))then f (true,())else
   Option.bind (S q.ab.aa p.aa) λy=>
   bif (!y)then f (true,())else
   bif (decide ((0:Int)<d.1))then
   Option.bind (idx (p.ax++p.ax) (cQ .i64 d.1 (1:Int))) λu=>f ((decide (q.ab.aJ<=u.ab.aJ)),())
   else f (false,())
   else Option.map inr (some true)) ((0:Int),())=some false:=by
 have F:=h.len;have a:=List.length_pos_iff.2 A;have N:(p.ax++p.ax).length=p.ax.length+p.ax.length:=QM;refine Yd.is (Yd.list (p.ax++p.ax) O (λi (_:Unit)=>(i,())) (λi _=>i<=p.ax.length) (λi x _ E _ j hi G c I=> ?_) (λ_ E G=> ?_) (s:=()) (QT _))
 .have j:x∈p.ax:=(QA.1 j).elim id id;simp only[G,Qc,c,Qa,Q x j,hS x j,Qh,Qb,Qd ((h.aK x j).2.2.pre.aF.trans h.aF.symm),aS]
  by_cases h0:(0:Int)<(i:Int)
  .obtain⟨m,rfl⟩:∃m:Nat,i=m+1:=⟨i - 1,O⟩;have r:m<p.ax.length:=O;rw[Qd h0,Qc,om O O,show(((m+1:Nat):Int)) - 1=(m:Int)by omega,ba,List.getElem?_append_left r,Qj r,Qa]
   rw[ba]at c;rcases qaK (m+1) p.ax.length with g|g
   .have L:=List.pairwise_iff_getElem.1 h.dg m (m+1) r g O;rw[List.getElem?_append_left g,Qj g]at c;obtain rfl:=Q7 c;rw[Qf O,Qb,I];exact .some ⟨(),rfl,O⟩
   .rw[List.getElem?_append_right g,show m+1 - p.ax.length=0 by omega,Qj a]at c
    obtain rfl:=Q7 c
    have D:(p.ax[0]).ab.aJ<=(p.ax[m]).ab.aJ:=by
     by_cases B:m=0
     .subst B;exact Q8 _
     .exact Int.le_of_lt (List.pairwise_iff_getElem.1 h.dg 0 m a r O)
    rw[Qd D,Qc];exact .some rfl
  .rw[Qf h0,Qb,I];exact .some ⟨(),rfl,O⟩
 .omega
def aiV{nd k:Int}{p:al}(h:iV nd k p)(hk:k<=999998)(d:p.ax≠[]):al1 {p with ax:=p.ax++p.ax}:=by
 have i:=h.len;have h0:=h.n0;have h1:=h.n1;have o:=h.aF;have hs:∀x∈p.ax++p.ax,Bq nd k x:=λx c=>h.aK x ((QA.1 c).elim id id)
 have j:(p.ax++p.ax).length=p.ax.length+p.ax.length:=QM;refine⟨?_,?_,h.aL.sm,Yz (by show(p.ax++p.ax).length<=16;omega) hs,NN h.aL.sm (by show(p.ax++p.ax).length<=_;omega) hs⟩
 .unfold cz iN oO aO;simp only[aD.eta,av.eta,ae.eta,etas,wX h.aL.sm,tC h.aL,Qa,Ql,Qh];rw[Qd (show(0:Int)<=p.ak by omega),Qd (show p.ak<10 by omega)]
  simp only[Qb,Qc,Qa,Qh];rw[afo h d (λx c=>so (h.aK x c).2.2 O) λx c=> ?_]
  .cases decide ((8:Int)<(((p.ax++p.ax).length:Nat):Int))<;>rfl
  .obtain⟨r,f,g⟩:=eqT (a:=x.ab.aa) (b:=p.aa) (h.aK x c).2.2.pre.eP.aL.sm;rw[f,g.2 (h.same x c)]
 .unfold fe oO;simp only[aD.eta,av.eta,ae.eta,etas,sk h.aL.sm,tC h.aL,Qa,Ql,Qh];rw[Qf (show¬p.ak<0 by omega),Qf (show¬(9:Int)<p.ak by omega)]
  simp only[Qb,Qc,Qa,Qh];rw[afo h d (λx c=>jz (h.aK x c).2.2 O) λx c=> ?_]
  .cases decide ((8:Int)<(((p.ax++p.ax).length:Nat):Int))<;>rfl
  .obtain⟨r,f,g⟩:=Eu (a:=x.ab.aa) (b:=p.aa) (h.aK x c).2.2.pre.eP.aL.sm;rw[f,g.2 (h.same x c)]
def aly{nd:Int}{t u:aq}(ht:GM t)(i:GM u):Ex ⟨nd,false,t,[]⟩ u:=by
 by_cases f:(0<=nd/\nd<10)/\xM t=0
 .exact Ex.inv (nd:=nd) (k:=0) ⟨rfl,f.1.1,f.1.2,ht.gJ f.2,QT _,(λx d=>by cases d),List.Pairwise.nil,λx d=>by cases d⟩ s_ s_ i
 .refine Ex.bad ⟨?_,?_,ht.sm,Yz (nd:=0) (k:=0) (QT _) (λx d=>by cases d),NN (nd:=0) (k:=0) ht.sm (QT _) (λx d=>by cases d)⟩ u
  .unfold cz iN oO aO;simp only[etas,wX ht.sm,Qa]
   by_cases a:0<=nd
   .by_cases b:nd<10
    .have c:¬xM t=0:=λe=>f ⟨⟨a,b⟩,e⟩
     simp[a,b,c]
    .simp[a,b]
   .simp[a]
  .unfold fe oO;simp only[etas,sk ht.sm,Qa]
   by_cases a:0<=nd
   .by_cases b:nd<10
    .have c:¬xM t=0:=λe=>f ⟨⟨a,b⟩,e⟩
     have a':¬nd<0:=O;have g:¬9<nd:=O;simp[a',g,c]
    .have a':¬nd<0:=O;have g:9<nd:=O;simp[a',g]
   .have a':nd<0:=O;simp[a']
def anP(nd:Int){t:aq}(ht:GM t):Tw (lz nd t) (uI nd t):=by
 unfold lz uI iN oO aO;simp only[etas,wX ht.sm,sk ht.sm,eN ht.sm,Qa]
 by_cases a:0<=nd
 .have a':¬nd<0:=O
  by_cases b:nd<10
  .have d:¬9<nd:=O
   by_cases c:xM t=0
   .exact⟨(⟨nd,false,t,[]⟩,0,()),by simp[a,b,c],by simp[a',d,c],NN (nd:=0) (k:=0) ht.sm (QT _) (λx f=>by cases f)⟩
   .exact⟨(zP,1,()),by simp[a,b,c,zP],by simp[a',d,c,zP],R7⟩
  .have d:9<nd:=O;exact⟨(zP,5,()),by simp[a,b,zP],by simp[a',d,zP],R7⟩
 .have a':nd<0:=O;exact⟨(zP,5,()),by simp[a,zP],by simp[a',zP],R7⟩
def abu:GM ⟨0,[],[]⟩:=KF.raw ⟨rfl,QT _⟩
def aeQ{s:dP}(G:nq s){v:Int}(h0:0<=v)(h1:v<10):Yd (oV s v) λq=>nq q.2/\aaf q.1:=by
 unfold oV;refine Yd.bind (lp G O O O) λg ⟨u,s0,s1,_⟩=> ?_
 have s1:=s1 O;refine Yd.bind (pG u O) λL ⟨c,_,_,_⟩=> ?_
 simp only[etas,aA.eta];refine Yd.cond (λ_=> ?_) (λ_=> ?_)
 .refine Yd.bind (lp c O O O) λK ⟨r,q0,_,_⟩=> ?_
  refine Yd.bind (GL r (n:=4) O O) λJ ⟨o,ht,_,_⟩=> ?_
  refine Yd.bind (yw o) λy ⟨j,hv⟩=> ?_
  refine Yd.join (λw=>nq w.1/\adL w.2.1) (λw ⟨g1,g2⟩=> .some ⟨g1,⟨g2,abu,by show -9223372036854775808<=g.1;omega,by show g.1<=9223372036854775807;omega⟩⟩) (λN A=> ?_)
  refine Yd.bind (pG j O) λI ⟨a,_,_,_⟩=> ?_
  refine Yd.cond (λ_=> ?_) (λ_=>A _ ⟨a,⟨ht.raw,by show([y.1]:Z C).length<=9223372036854775807;simp,QT _⟩⟩)
  exact Yd.bind (yw a) λB ⟨i,F⟩=>A _ ⟨i,⟨ht.raw,by show([y.1]:Z C).length<=9223372036854775807;simp,by show([B.1]:Z C).length<=9223372036854775807;simp⟩⟩
 .refine Yd.bind (Py c h0 h1 O O (n:=4) O O) λE ⟨f,he⟩=> ?_
  refine Yd.bind (pG f O) λD ⟨d,_,_,_⟩=> ?_
  exact .some ⟨d,⟨⟨abu,QT _,QT _⟩,he.aL.raw,by show -9223372036854775808<=g.1;omega,by show g.1<=9223372036854775807;omega⟩⟩
def ace(t:aq):∃b,vM t=some b/\(b=true->KF t):=by
 unfold vM aO
 by_cases a:(t.bc.length:Int)<=12
 .by_cases b:(t.aR.length:Int)=0
  .exact⟨true,by simp only[Qd a,Qd b,Qc,Qa],λ_=>⟨qaz O,O⟩⟩
  .exact⟨false,by simp only[Qd a,Qf b,Qc,Qa],λe=>by cases e⟩
 .exact⟨false,by simp only[Qf a,Qb,Qa],λe=>by cases e⟩
def akL(ts:Z Int)(aF:Int)(aL:aq)(l:bI){c:Int}(now:Int)(value:C)(a:Bool)
  (hn0: -9223372036854775808<=c) (hn1:c<=9223372036854775807) (hs0: -9223372036854775808<=l.aJ) (X:l.aJ<=9223372036854775807)
  (hv:l.aP.bj.length<=9223372036854775807) (ha:l.aP.aG.length<=9223372036854775807):sP ts aF aL l c now value a=some true:=by
 obtain⟨b1,e1,g1⟩:=ace aL;obtain⟨T,e2,g2⟩:=ace l.aP.aa;obtain⟨b3,e3,g3⟩:=ace l.ay.aa
 have I:∃b,DD l=some b/\(b=true->T=true/\b3=true):=by unfold DD aO;simp only[etas,e2,e3,Qa];cases T<;>cases b3<;>simp
 obtain⟨b4,e4,g4⟩:=I;unfold sP oO;simp only[aD.eta,av.eta,ae.eta,aA.eta,aj.eta,bI.eta,etas,al.eta,e1,e4,aks,Qa];refine Yd.eq_true ?_
 cases hb1:b1 with
 |false=>exact .some rfl
 |true=>
  cases J:b4 with
  |false=>exact .some rfl
  |true=>
   simp only[Qh,Qb,Qa];refine Yd.cond (λ_=> .some rfl) (λ_=> ?_)
   have E:=(g1 hb1).raw;have hL:aaf l:=⟨⟨(g2 (g4 J).1).raw,hv,ha⟩,(g3 (g4 J).2).raw,hs0,X⟩;refine Yd.bind (alT ts) λs hO=> ?_
   obtain⟨q,n1,n2,n3⟩:=anP aF E;simp only[n1,n2,n3,Qa,Qh,Qb,Ql];refine Yd.bind (ald hO) λp ⟨hO1,h,hst⟩=> ?_
   have hlen:=h.len;rw[br O,Qc,br O,Qc]
   have K:∀x∈[p.1,⟨p.1.ak,p.1.bh,p.1.aa,p.1.ax++p.1.ax⟩,⟨p.1.ak,a,p.1.aa,p.1.ax⟩,⟨aF,false,aL,[]⟩],Ex x aL:=λx r=>by
    simp only[Qv,QX,qaC]at r;rcases r with rfl|rfl|rfl|rfl
    .exact Ex.inv h s_ s_ E
    .by_cases he:p.1.ax=[]
     .rw[he];exact Ex.inv (x:=⟨p.1.ak,p.1.bh,p.1.aa,[]⟩) (nd:=0) (k:=10) ⟨h.aF,h.n0,h.n1,h.aL,QT _,(λx r=>by cases r),List.Pairwise.nil,λx r=>by cases r⟩ s_ s_ E
     .exact Ex.bad (aiV h s_ he) aL
    .exact Ex.inv (x:=⟨p.1.ak,a,p.1.aa,p.1.ax⟩) (nd:=0) (k:=10) ⟨h.aF,h.n0,h.n1,h.aL,h.len,h.aK,h.dg,h.same⟩ s_ s_ E
    .exact aly E E
   refine Yd.list (p:=λb=>b=true) [p.1,⟨p.1.ak,p.1.bh,p.1.aa,p.1.ax++p.1.ax⟩,⟨p.1.ak,a,p.1.aa,p.1.ax⟩,⟨aF,false,aL,[]⟩] t_ (λi (s:dP×al×al)=>(i,s.1,s.2.1,s.2.2,())) (λ_ s=>nq s.1) (λi x s hs _ r hi D hw ha=> ?_) (λs hs D=> ?_) (s:=(p.2,q.1,q.1)) hO1
   .have o:=K x r;have D:decide ((i:Int)<4)=true:=D;obtain⟨cb,c1,c2⟩:=o.chk;obtain⟨ll,l1,l2,l3⟩:=o.lets;obtain⟨sq,s1,s2,s3⟩:=o.stop;simp only[D,Qc,hw,Qa,c1,c2,l1,l2,l3,s1,s2,s3,Ql,qb5,Qh,Qb,aS];refine Yd.bind (lp hs O O O) λA ⟨S,a0,a1,_⟩=> ?_
    have a1:=a1 O;refine Yd.bind (pG S O) λG ⟨Q,_,_,_⟩=> ?_
    refine Yd.list [mH.mk c now,mH.mk A.1 G.1] t_ (λi (s:dP×al×al)=>(i,s.1,s.2.1,s.2.2,())) (λ_ s=>nq s.1) (λj y s' B _ hy hj f W ha'=> ?_) (λs' B f=> ?_) (s:=(G.2,s.2.1,s.2.2)) Q
    .have f:decide ((j:Int)<2)=true:=f
     have g: -9223372036854775808<=y.c0/\y.c0<=9223372036854775807:=by
      simp only[Qv,QX,qaC]at hy;rcases hy with rfl|rfl
      .exact⟨hn0,hn1⟩
      .exact⟨by show -9223372036854775808<=A.1;omega,by show A.1<=9223372036854775807;omega⟩
     obtain⟨qb,b1,T,b3⟩:=o.beg y.c0 g.1 g.2 value y.c1;obtain⟨qd,d1,d2⟩:=o.dec y.c0 g.1 g.2;obtain⟨qp,p1,p2,p3⟩:=o.pre y.c0 g.1 g.2 value y.c1;obtain⟨qt,t1,t2,t3⟩:=o.tick y.c1;simp only[f,Qc,W,Qa,b1,T,b3,d1,d2,p1,p2,p3,t1,t2,t3,Ql,qb5,Qh,Qb];refine Yd.bind (pG B O) λp36 ⟨N,m0,m1,_⟩=> ?_
     have m1:=m1 O;refine Yd.bind (aeQ N O O) λF ⟨L,hR⟩=> ?_
     refine Yd.list [l,F.1] t_ (λi (s:al×al)=>(i,s.1,s.2,())) (λ_ _=>True) (λm z u _ _ hz hm d V ha2=> ?_) (λu _ d=> ?_) (s:=(qt.1,qt.1)) trivial
     .have d:decide ((m:Int)<2)=true:=d
      have U:aaf z:=by
       simp only[Qv,QX,qaC]at hz;rcases hz with rfl|rfl
       .exact hL
       .exact hR
      obtain⟨qh,h1,h2,h3⟩:=o.anS z U y.c1;simp only[d,Qc,V,Qa,h1,h2,h3,Ql,Qh,Qb,ha2];exact .some ⟨(qh.1,qh.1),rfl,trivial⟩
     .have d:decide ((2:Int)<2)=false:=d;show Yd (bif decide ((2:Int)<2)then _ else _) _
      simp only[d,Qb,ha'];exact .some ⟨(F.2,u.1,u.2),rfl,L⟩
    .have f:decide ((2:Int)<2)=false:=f;obtain⟨qe,u1,u2,u3⟩:=o.decl;show Yd (bif decide ((2:Int)<2)then _ else _) _
     simp only[f,Qb,u1,u2,u3,Qa,Ql,Qh,ha];exact .some ⟨(s'.1,qe.1,qe.1),rfl,B⟩
   .have D:decide ((4:Int)<4)=false:=D;show Yd (bif decide ((4:Int)<4)then _ else _) _
    simp only[D,Qb];exact .some rfl
end
end Go.Proofs.YtofedieniojipaaGreat
end
noncomputable section
namespace Go.TQ
open Go.RowKit
section
def anJ{w:Wo}{M:Nat->Prop}{G:Gh}{a:Y Addr}{len cap:Nat}{c:Z Int}(hM:∀b,¬M b)
  (h:(a=none/\len=0/\cap=0/\c=[])\/∃x,a=some x/\len<=cap/\cap<=maxLen/\c.length=cap/\(∀i,i<c.length->w.cell? (x.add i)=some (.int .i64 (c.getD i 0)))/\∀n∈c,(Lit.int .i64 n).wf=true):
  bp w M G (.sl ((c.take len).map λn=>[.int .i64 n])) (.slice a len cap):=by
 rcases h with⟨rfl,rfl,rfl,rfl⟩|⟨x,rfl,h1,u,A,r,_⟩
 .exact .slnil
 .have j:∀l:Z Int,(l.map λn=>[PV.int .i64 n]).flatten=l.map λn=> .int .i64 n:=by
   intro l
   induction l with
   |nil=>rfl
   |cons n l q=>simp only[Qy,List.flatten_cons,q];rfl
  have d:((c.take len).map λn=>[PV.int .i64 n]).length=len:=o_
  have:=bp.sl (w:=w) (M:=M) (G:=G) ((c.take len).map λn=>[.int .i64 n]) x cap 1 ((c.take len).map λn=> .int .i64 n) (λe he=>by obtain⟨n,_,rfl⟩:=QO.1 he;rfl) (by rw[j];simp)
   (λi v hv=> ?_) (λi y v o hv=> ?_) (by rw[d];exact h1) u
  .rw[d]at this;exact this
  .refine⟨?_,hM _⟩;rw[QG,Qq]at hv;obtain⟨n,f,rfl⟩:=hv;rw[qaR]at f;split at f
   .have hi:i<c.length:=(QH.1 f).1;rw[r i hi,qb7,f];rfl
   .cases f
  .rw[j]at o;rw[QG]at o hv;rw[Qq]at o hv;obtain⟨n,f,rfl⟩:=o;obtain⟨n',g,rfl⟩:=hv;rw[f]at g;injection g with e
   subst e;exact .int _ _
def aeU{P:Pr}{f:FI}{a:Z PV}{vs:Z Va}{w:Wo}(j:GI w)(h:Con P f false [] a (.bool true) [])(d:bo w (λ_=>False) dz a vs):
  Calls P f vs.toArray w λe w'=>e= .returned (.bool true)/\Below w.heap.size w w':=by
 refine(h w (λ_=>False) (.nil j) 0 0 [] vs (λc=>by cases c) ?_).mono ?_
 .exact⟨d.1,λi x v g hv=>(d.2 i x v g hv).mono (dp.of λ_ _=>λc=>by rcases c with⟨c,_⟩|c;cases c;exact c) (Gh.le.refl _)⟩
 .rintro e w' ⟨v,_,rfl,hv,_,hF⟩;refine⟨by rw[hv.qC],hF.os,hF.tape,hF.output,hF.size,λk hk=>hF.block k hk t_⟩
end
section
def Ty.ls:Ty->Z Ty
 | .st n=>n.leaves
 |t=>[t]
def YL(P:Pr)(rec:TI->Y (Z Ty)):Nat->Z Field->Y (Nat×Z Ty)
 |off,[]=>some (off,[])
 |off,f::a=>(match Nat.beq f.offset off with
  |true=>(match rec f.type with
   |some l=>(match Nat.beq l.length (P.cellsOf f.type)with
    |true=>(match YL P rec (off+l.length) a with
     |some (e,r)=>some (e,l++r)
     |none=>none)
    |false=>none)
   |none=>none)
  |false=>none)
def P6(P:Pr)(R:Z Nat):Nat->TI->Y (Z Ty)
 |0,_=>none
 |f+1,t=>(match P.underlying t with
  |some (.int k)=>some [.i k]
  |some .bool=>some [.bool]
  |some .string=>some [.str]
  |some (.slice e)=>(match je e R with
   |true=>(match RU e acb with|some T=>some [.sl T]|none=>none)
   |false=>none)
  |some (.struct a)=>(match YL P (P6 P R f) 0 a.toList with
   |some (e,l)=>(match Nat.beq e (P.cellsOf t)with|true=>some l|false=>none)
   |none=>none)
  |_=>none)
def XK:Z Ty->Z Ty->Bool
 |[],[]=>true
 |a::l,b::m=>Ty.beq a b&&XK l m
 |_,_=>false
def YM:∀{l m:Z Ty},XK l m=true->l=m
 |[],[],_=>rfl
 |a::l,b::m,h=>by rw[XK,Qi]at h;rw[Ty.eq_of_beq h.1,YM h.2]
 |[],_::_,h=>by cases h
 |_::_,[],h=>by cases h
def okR(P:Pr)(R:Z Nat):Bool:=R.all λe=>(match RU e acb with
 |some T=>(match P6 P R 20 e with|some l=>XK l T.ls&&Nat.beq T.ls.length (P.cellsOf e)|none=>false)
 |none=>false)
def Ty.agq:(T:Ty)->uF T.ls->T.den
 | .st n,v=>n.ofL v
 | .i _,v| .bool,v| .str,v| .sl _,v=>v.1
def Ty.abq:∀(T:Ty) (v:uF T.ls),T.pv (T.agq v)=mU T.ls v
 | .st n,v=>by exact(n.JL (n.ofL v)).trans (qag (mU n.leaves) (n.ahs v))
 | .i _,v| .bool,v| .str,v| .sl _,v=>rfl
def an1:∀T:Ty,T.ls.all Ty.leaf=true
 | .st n=>n.FF
 | .i _| .bool| .str| .sl _=>rfl
def adD:{l m:Z Ty}->uF l->uF m->uF (l++m)
 |[],_,_,w=>w
 |_::_,_,v,w=>(v.1,adD v.2 w)
def ab0:∀{l m:Z Ty} (v:uF l) (w:uF m),mU (l++m) (adD v w)=mU l v++mU m w
 |[],_,_,_=>rfl
 |t::l,m,v,w=>by show t.pv v.1++mU (l++m) (adD v.2 w)=(t.pv v.1++mU l v.2)++mU m w;rw[ab0 v.2 w,qah]
def Pk{T:Ty}{k:Nat}(h:∀v:T.den,(T.pv v).length=k):∀xs:Z T.den,((xs.map T.pv).flatten).length=xs.length*k
 |[]=>t_
 |x::xs=>by rw[Qy,List.flatten_cons,QM,h,Pk h xs,QN,Nat.succ_mul,qaL]
section
variable{P:Pr}{R:Z Nat}(hR:okR P R=true){H:Type}{gu:TI×Va->H}{w:Wo}{M:Nat->Prop}(hM:∀b,¬M b)
def TX{off:Nat}{rec:TI->Y (Z Ty)}{cs:Z Va}:∀{j:Z Field} {off e:Nat} {l:Z Ty},YL P rec off j=some (e,l)->
  (∀f∈j,∀l,rec f.type=some l->∃v:uF l,bo w M dz (mU l v) ((cs.drop f.offset).take (P.cellsOf f.type)))->e<=cs.length->off<=e/\∃v:uF l,bo w M dz (mU l v) ((cs.drop off).take (e - off))
 |[],off,e,l,h,_,_=>by
  rw[YL]at h;injection h with h
  injection h with h1 i
  subst h1 i;exact⟨Qs _,(),by rw[Nat.sub_self,List.take_zero];exact .nil⟩
 |f::j,off,e,l,h,o,he=>by
  rw[YL]at h;split at h
  .rename_i ho;have ho:=Qp ho;split at h
   .rename_i a c;split at h
    .rename_i g;have g:=Qp g;split at h
     .rename_i e2 r q;injection h with h
      injection h with h1 i
      subst h1 i;obtain⟨B,v2,y⟩:=TX (off:=off+a.length) q (λA d=>o A (by simp[d])) he
      obtain⟨v1,u⟩:=o f t_ a c;refine⟨O,adD v1 v2,?_⟩;rw[ab0]
      have hs:(cs.drop off).take (e2 - off)=(cs.drop f.offset).take (P.cellsOf f.type)++(cs.drop (off+a.length)).take (e2 - (off+a.length)):=by rw[ho,<-g,<-List.drop_drop,show e2 - off=a.length+(e2 - (off+a.length))by omega,List.take_add]
      rw[hs];exact u.append y
     .cases h
    .cases h
   .cases h
  .cases h
 include hR hM
theorem Jr:∀(g:Nat) (t:TI) (cs:Z Va) (x:DataW H×Z MemPlace),DataW.trod gu P w 0 (λ_=>true) true g t cs=some x->∀(f:Nat) (ls:Z Ty),P6 P R f t=some ls->∃v:uF ls,bo w M dz (mU ls v) cs
 |0,t,cs,x,h=>by rw[DataW.trod]at h;cases h
 |g+1,t,cs,x,h=>by
  intro f ls hl
  cases f with
  |zero=>rw[P6]at hl;cases hl
  |succ f=>
  rw[P6]at hl;split at hl
  .rename_i k o;injection hl with hl
   subst hl;obtain⟨n,rfl,_⟩:=DataW.trod_int o h;exact⟨(n,()),.cons (.int k n) .nil⟩
  .rename_i o;injection hl with hl
   subst hl;obtain⟨b,rfl,_⟩:=DataW.trod_bool o h;exact⟨(b,()),.cons (.bool b) .nil⟩
  .rename_i o;injection hl with hl
   subst hl;obtain⟨s,rfl,_⟩:=DataW.trod_string o h;exact⟨(s,()),.cons (.str s) .nil⟩
  .rename_i e o;split at hl
   .rename_i he;split at hl
    .rename_i T hT;injection hl with hl
     subst hl;have c:=Qn.1 hR e (eD.1 he);rw[hT]at c;simp only at c;split at c
     .rename_i le K;rw[Qi]at c;have A:le=T.ls:=YM c.1;have hk:=Qp c.2;subst A;rcases DataW.trod_slice o h with⟨rfl,_⟩|⟨a,len,cap,jY,rest,m,d,rfl,_,_,L,V,hlen,U,_,_⟩
      .exact⟨(([]:Z T.den),()),.cons .slnil .nil⟩
      .injection d with d
       subst d
       have E:∀i,i<len->∃(ci:Z Va) (v:T.den),(∀j u,ci[j]?=some u->w.cell? ((a.add (i*P.cellsOf e)).add j)=some u)/\bo w M dz (T.pv v) ci:=by
        intro i hi;have h1:=U i hi;have q:∃y,jY[i]?=some y:=⟨_,Qj O⟩;obtain⟨y,I⟩:=q;rw[I,Qm]at h1;obtain⟨ci,W,J⟩:=h1;obtain⟨v,hv⟩:=Jr g e ci y J 20 T.ls K;refine⟨ci,T.agq v,λj u B=> ?_,by rw[Ty.abq];exact hv⟩
        have hs:=World.cells?_some W;have hjl:j<ci.length:=(QH.1 B).1;have:=hs.2.2 j (by have:=hs.2.1;omega)
        rw[this,B]
       have r:∀v:T.den,(T.pv v).length=P.cellsOf e:=λv=>by
        rw[<-hk]
        cases T with
        |st n=>exact(qag List.length (n.JL v)).trans (Yq _ _ n.FF)
        |_=>rfl
       have all:∀n,n<=len->∃(vs:Z Va) (xs:Z T.den),xs.length=n/\bo w M dz ((xs.map T.pv).flatten) vs/\∀j u,vs[j]?=some u->w.cell? (a.add j)=some u:=by
        intro n
        induction n with
        |zero=>exact λ_=>⟨[],[],rfl,.nil,λj u h=>by simp at h⟩
        |succ n ih=>
         intro hn;obtain⟨vs,xs,h1,D,X⟩:=ih O;obtain⟨ci,v,h4,h5⟩:=E n O;refine⟨vs++ci,xs++[v],by simp[h1],by simpa using D.append h5,λj u F=> ?_⟩
         have hvl:vs.length=n*P.cellsOf e:=by rw[D.1,Pk r,h1]
         by_cases N:j<vs.length
         .rw[List.getElem?_append_left N]at F;exact X j u F
         .rw[List.getElem?_append_right O]at F;have:=h4 _ u F;rw[Addr.add_add,show n*P.cellsOf e+(j - vs.length)=j by omega]at this
          exact this
       obtain⟨vs,xs,h1,D,X⟩:=all len (Qs _);refine⟨(xs,()),.cons ?_ .nil⟩;have:=bp.sl (w:=w) (M:=M) (G:=dz) (xs.map T.pv) a cap (P.cellsOf e) vs (λu o=>by obtain⟨v,_,rfl⟩:=QO.1 o;exact r v) D.1 (λi u o=>⟨X i u o,hM _⟩) D.2 (by simpa[h1]using L) V
       rw[QD,h1]at this;exact this
     .cases c
    .cases hl
   .cases hl
  .rename_i fs o;split at hl
   .rename_i e l Q;split at hl
    .rename_i hc;injection hl with hl
     subst hl;have hc:=Qp hc;obtain⟨xs,m,d,_,hlen,hxl,hf⟩:=DataW.trod_struct o h;injection d with d
     subst d
     obtain⟨_,v,hv⟩:=TX (off:=0) (w:=w) (M:=M) (cs:=cs) Q (λfd S l hl=>by
      obtain⟨i,hi⟩:=List.getElem?_of_mem S;have h1:=hf i fd (by simpa using hi)
      have hil:i<fs.size:=by simpa using(QH.1 hi).1
      have q:∃y,xs[i]?=some y:=⟨_,Qj O⟩;obtain⟨y,I⟩:=q;rw[I]at h1
      exact Jr g fd.type _ y h1 f l hl) O
     refine⟨v,?_⟩;rw[List.drop_zero,qbl,List.take_of_length_le O]at hv;exact hv
    .cases hl
   .cases hl
  .cases hl
theorem aeb{n:pc}{t:TI}{j:Array Field}{v:Va}{d:DataW H}{ps:Z MemPlace}{b0:Nat}(g:P.underlying t=some (.struct j))(hl:P6 P R 20 t=some n.leaves)
  (a:Value.okWide P w .any b0 t v) (h:DataW.Trod gu P w 0 (λ_=>true) true t v d ps):∃x:(Ty.st n).den,bp w M dz (fo (U:=U) (Ty.st n) x) v:=by
 obtain⟨cs,rfl,_⟩:=Go.WideShapes.okWide_struct g a;obtain⟨c,i⟩:=h;obtain⟨x,f⟩:=Jr hR hM c t _ _ i 20 n.leaves hl;have:=bp.agg (w:=w) (M:=M) (G:=dz) _ _ f.1 f.2;have e:(Value.agg (Value.agg cs).cells.toList.toArray)= .agg cs:=by simp[Value.cells]
 rw[e]at this;exact⟨(Ty.st n).agq x,(qag (λl=>bp w M dz (.agg l) (.agg cs)) (Ty.abq (.st n) x)).mpr this⟩
theorem akB{T:Ty}{t e:TI}{v:Va}{d:DataW H}{ps:Z MemPlace}{b0:Nat}(i:P.underlying t=some (.slice e))(hl:P6 P R 20 t=some [.sl T])
  (c:Value.okWide P w .any b0 t v) (h:DataW.Trod gu P w 0 (λ_=>true) true t v d ps):∃x:Z T.den,bp w M dz (fo (U:=U) (Ty.sl T) x) v:=by
 obtain⟨a,len,cap,rfl⟩:=Go.WideShapes.okWide_slice i c;obtain⟨f,j⟩:=h;obtain⟨x,g⟩:=Jr hR hM f t _ _ j 20 _ hl;exact⟨x.1,g.2 0 _ _ rfl rfl⟩
 omit hR hM in
theorem an0{T:Ty}{x:Z T.den}{v:Va}(h:bp w M dz (fo (U:=U) (Ty.sl T) x) v):x.length<=9223372036854775807:=by
  have h:bp w M dz (.sl (x.map T.pv)) v:=h;have hl:(x.map T.pv).length=x.length:=QD _;rw[<-hl];generalize x.map T.pv=es at h
  cases h with
  |sl _ _ _ _ _ _ _ _ _ a hm=>simp only[maxLen]at hm;omega
  |slnil=>simp
 omit hR hM in
theorem aik{t u:TI}{B:Array Field}{v:Va}{b0 j:Nat}{k:IntKind}{a:Int}{cs:Z PV}{G:Gh}(r:P.underlying t=some (.struct B))(d:Value.okWide P w .any b0 t v)
   (f:((P.cellTypes P.depth t).bind λi=>i[j]?)=some u) (hk:P.underlying u=some (.int k)) (h:bp w M G (.agg cs) v) (o:cs[j]?=some (.int k a)):(Lit.int k a).wf=true:=by
  simp only[Value.okWide,r]at d;obtain⟨vs,rfl,_,i,e,_,g⟩:=d;rw[e,Qa]at f
  cases h with
  |agg _ c hl A=>have E:j<cs.length:=(QH.1 o).1;have q:c[j]?=some c[j]:=Qj O;have h1:=A j _ _ o q;obtain⟨D,e1,e2⟩:=g j c[j] t_;rw[Nat.mod_eq_of_lt (QH.1 f).1,f]at e1;obtain rfl:=Q7 e1;generalize c[j]=y at h1 e2;cases h1;simpa[Cell.okWide,Cell.ok,hk,IntKind.has,Lit.wf]using e2
 omit hR hM in
theorem Yg{α:Type}{v:Va}{j:Nat}{l:Z α}{f:α->Z PV}{cs:Z PV}{G:Gh}(h:bp w M G (.agg cs) v)(c:cs[j]?=some (.sl (l.map f))):l.length<=9223372036854775807:=by
  cases h with
  |agg _ a hl d=>
   have i:j<cs.length:=(QH.1 c).1;have h1:=d j _ _ c (Qj O);rw[show l.length=(l.map f).length from(QD f).symm]
   generalize l.map f=es at h1;generalize a[j]=y at h1
   cases h1 with
   |sl _ _ _ _ _ _ _ _ _ g hm=>simp only[maxLen]at hm;omega
   |slnil=>simp
end
def wf_i64{n:Int}(h:(Lit.int .i64 n).wf=true): -9223372036854775808<=n/\n<=9223372036854775807:=by simp only[Lit.wf,Qi,Qw]at h;exact h
end
end Go.TQ
end
