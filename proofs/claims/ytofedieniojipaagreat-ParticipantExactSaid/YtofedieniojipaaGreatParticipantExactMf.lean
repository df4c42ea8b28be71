/-
  Texts made small by a program (see NOTES). Conditions: those that each theorem names.
-/
import Derived.Test.YtofedieniojipaaGreatParticipantExactMe
set_option linter.unusedVariables false
set_option linter.defProp false
set_option linter.unusedSimpArgs false
set_option linter.unusedSectionVars false
set_option maxHeartbeats 2000000
open Int (toNat)
open Sum (inl inr)
open List (replicate)
noncomputable section
namespace Go.Proofs.YtofedieniojipaaGreat
open Go.TQ
section
theorem nV{a n:Nat}(h:a<=200)(hn:n<=1000000):bl a n=true:=
 br ⟨QJ (qb2 hn h) s_,hn⟩
def BP{α ρ:Type}(l:Z α)(hl:l.length<=1000000)(p:α->Bool){step:Int×Unit->Y ((Int×Unit)⊕ρ)}{fin:Y ρ}{f:Nat->α->Y ρ}
  (u:∀(i:Nat) (x:α),i<l.length->l[i]?=some x->decide ((i:Int)<(l.length:Int))=true->idx l (i:Int)=some x->aC .i64 (i:Int) 1=((i+1:Nat):Int)->step ((i:Int),())=bif p x then Option.map inr (f i x)else some (.inl (((i+1:Nat):Int),())))
  (r:(∀x∈l,p x=false)->decide ((l.length:Int)<(l.length:Int))=false->step ((l.length:Int),())=Option.map inr fin):
  aE step ((0:Int),())=match l.findIdx? p with|some i=>(l[i]?).bind (f i)|none=>fin:=by
 suffices d:∀(k i:Nat),i+k=l.length->(∀x∈l.take i,p x=false)->aE step ((i:Int),())=match(l.drop i).findIdx? p with|some j=>(l[i+j]?).bind (f (i+j))|none=>fin by have:=d l.length 0 O t_;rw[List.drop_zero]at this;simp only[qau]at this;exact this
 intro k
 induction k with
 |zero=>intro i hi a;obtain rfl:i=l.length:=O;rw[QK]at a;rw[fB,r a (Qf (QF _)),Q9];cases fin<;>rfl
 |succ k o=>
  intro i hi a;have b:i<l.length:=O;have c:l[i]?=some l[i]:=Qj b;have hs:=u i l[i] b c (Qd O) (by rw[ba];exact c) (bH O O)
  rw[QQ b,List.findIdx?_cons]
  cases g:p l[i]with
  |true=>rw[g]at hs;rw[fB,hs];simp only[Qc,Qr,qbe,c,Qa];cases f i l[i]<;>rfl
  |false=>
   rw[g]at hs
   rw[bB hs,o (i+1) O (λx c=>by
    rw[qab b,QA,Qz]at c;rcases c with c|rfl
    .exact a x c
    .exact g)]
   simp only[QB,Qx]
   cases (l.drop (i+1)).findIdx? p with
   |none=>rfl
   |some j=>simp only[Qo];rw[show i+1+j=i+(j+1)by omega]
def Le(l:Z aj)(e:aj):Nat:=(l.findIdx? λx=>decide (e.ak<x.ak)).getD l.length
 def ve(l:Z aj)(e:aj):Z aj×Bool×Unit:=
 if bd e then
  match l.findIdx? λx=>decide (x.ak=e.ak)with
  |some i=>if e.aI<=((l[i]?).getD e).aI then(l,false,())else(l.set i e,true,())
  |none=>(l.take (Le l e)++[e]++l.drop (Le l e),true,())
 else(l,false,())
def amX(l:Z aj)(e:aj):Le l e<=l.length:=by
 unfold Le
 cases h:l.findIdx? λx=>decide (e.ak<x.ak)with
 |none=>exact Qs _
 |some i=>exact qbV ((List.findIdx?_eq_some_iff_getElem.1 h).1)
section
variable{l:Z aj}(hl:∀x∈l,cI x.aa)(hlen:l.length<=1000)
 include hlen
theorem afJ(e:aj):eu l e=some (match l.findIdx? λx=>decide (x.ak=e.ak)with|some i=>(i:Int)|none=> -1):=by
 unfold eu;refine(BP l O (λx=>decide (x.ak=e.ak)) (f:=λi _=>some (i:Int)) (fin:=some (-1)) (λi x hi c a d g=> ?_) (λb a=> ?_)).trans ?_
 .simp only[a,d,g,Qc,Qa,zN,etas]
 .simp only[a,Qb]
 .cases h:l.findIdx? λx=>decide (x.ak=e.ak)with
  |none=>rfl
  |some i=>have:=(List.findIdx?_eq_some_iff_getElem.1 h).1;simp[Qj this]
theorem ahd(e:aj):ep l e=some (match l.findIdx? λx=>decide (e.ak<x.ak)with|some i=>(i:Int)|none=> -1):=by
 unfold ep;refine(BP l O (λx=>decide (e.ak<x.ak)) (f:=λi _=>some (i:Int)) (fin:=some (-1)) (λi x hi c a d g=> ?_) (λb a=> ?_)).trans ?_
 .simp only[a,d,g,Qc,Qa,zM,etas]
 .simp only[a,Qb]
 .cases h:l.findIdx? λx=>decide (e.ak<x.ak)with
  |none=>rfl
  |some i=>have:=(List.findIdx?_eq_some_iff_getElem.1 h).1;simp[Qj this]
 include hl
theorem aam:eH l=some l:=by
 unfold eH
 suffices b:∀(k i:Nat),i+k=l.length->aE _ ((i:Int),l.take i,())=some l from b l.length 0 O
 intro k
 induction k with
 |zero=>intro i hi;obtain rfl:i=l.length:=O;have c:decide ((l.length:Int)<(l.length:Int))=false:=Qf (QF _);exact bN (by simp only[c,Qb,Qo,QK])
 |succ k d=>
  intro i hi;have a:i<l.length:=O;have c:decide ((i:Int)<(l.length:Int))=true:=Qd O;have g:aC .i64 (i:Int) 1=((i+1:Nat):Int):=bH O O;have f:idx l (i:Int)=some l[i]:=by rw[ba];exact Qj a
  have j:lE l[i]=some l[i]:=by simp only[lE,etas,eN (hl _ (QE a)),Qa]
  refine(bB ?_).trans (d (i+1) O);simp only[c,f,g,Qc,Qa,etas,j];rw[nV O o_,qab a];rfl
theorem alS{e:aj}(g:cI e.aa):xH l e=some (ve l e):=by
 have u:lE e=some e:=by simp only[lE,etas,eN g,Qa]
 have f:=amX l e;unfold xH;simp only[aam hl hlen,etas,uC g,u,afJ hlen,ahd hlen,Qa,aS];unfold ve
 cases bd e with
 |false=>rfl
 |true=>
  simp only[Qh,Qb,Qr]
  cases h:l.findIdx? λx=>decide (x.ak=e.ak)with
  |some i=>
   have hi:=(List.findIdx?_eq_some_iff_getElem.1 h).1;have d:decide ((0:Int)<=(i:Int))=true:=Qd O;have o:idx l (i:Int)=some l[i]:=by rw[ba];exact Qj hi
   simp only[d,o,Qc,Qa,QV,Qj hi,qaI]
   by_cases hs:e.aI<=l[i].aI<;>simp[hs]
  |none=>
   have d:decide ((0:Int)<= -1)=false:=rfl;simp only[d,Qb]
   have b:∀a:Nat,a<=l.length->fE l (a:Int) [e]=some (l.take a++[e]++l.drop a):=λa A=>by unfold fE Er;have y:decide ((0:Int)<=(a:Int))=true:=Qd O;have w:decide ((a:Int)<=(l.length:Int))=true:=Qd O;rw[y,w,nV O o_];rfl
   unfold Le at f ⊢
   cases z:l.findIdx? λx=>decide (e.ak<x.ak)with
   |none=>have c:decide ((-1:Int)<0)=true:=rfl;simp only[c,Qc,b _ (Qs _),Qa,Option.getD_none]
   |some j=>have r:=(List.findIdx?_eq_some_iff_getElem.1 z).1;have c:decide ((j:Int)<0)=false:=Qf O;simp only[c,Qb,b _ (qbV r),Qa,qaI]
end
end
section
section
variable{l:Z aj}(hlen:l.length<=1000)
 include hlen
theorem Mb(e:aj){a b:Nat}(d:a<=b)(c:b<=l.length):c9 (0:Int) (a:Int) l.length=true/\bl 176 (List.length ((l.take (toNat (a:Int))).drop (toNat (0:Int))))=true/\
  bl 176 (List.length ((l.take (toNat (a:Int))).drop (toNat (0:Int)))+List.length [e])=true/\c9 (b:Int) (l.length:Int) l.length=true/\
  bl 176 (List.length (((l.take (toNat (a:Int))).drop (toNat (0:Int)))++[e])+List.length ((l.take (toNat (l.length:Int))).drop (toNat (b:Int))))=true/\
  (((l.take (toNat (a:Int))).drop (toNat (0:Int)))++[e])++((l.take (toNat (l.length:Int))).drop (toNat (b:Int)))=l.take a++[e]++l.drop b:=by
 refine⟨by simp[c9];omega,sy O o_,sy O o_,by simp[c9];omega,sy O o_,?_⟩
 simp only[QV,qb1,List.drop_zero,QK]
end
def Lc{α:Type}{p q:α->Bool}:∀{l:Z α},(∀x∈l,p x=q x)->l.findIdx? p=l.findIdx? q
 |[],_=>rfl
 |x::l,h=>by rw[List.findIdx?_cons,List.findIdx?_cons,h x t_,Lc λy a=>h y (by simp[a])]
def aiq{l:Z aj}(hl:∀x∈l,cI x.aa)(hlen:l.length<=1000){e:aj}(u:cI e.aa):DC l e=some (ve l e):=by
 unfold DC;simp only[etas,lI u,Qa,aS];unfold ve
 cases bd e with
 |false=>rfl
 |true=>
  simp only[Qh,Qb,Qr];refine(BP l O (λx=>decide (x.ak=e.ak)) (f:=λi x=>if e.aI<=x.aI then some (l,false,())else some (l.take i++[e]++l.drop (i+1),true,())) (fin:=some (l.take (Le l e)++[e]++l.drop (Le l e),true,())) (λi x hi d a b g=> ?_) (λc a=> ?_)).trans ?_
  .simp only[a,b,g,Qc,Qa]
   cases decide (x.ak=e.ak)with
   |false=>rfl
   |true=>
    simp only[Qc];obtain⟨f1,f2,f3,f4,f5,f6⟩:=Mb hlen e (show i<=i+1 by omega) (show i+1<=l.length by omega)
    simp only[f1,f2,f3,f4,f5,f6,Qc]
    by_cases hs:e.aI<=x.aI<;>simp[hs]
  .simp only[a,Qb];refine qag (Option.map inr) ?_
   have j:(l.findIdx? λx=> !decide (x.ak<e.ak))=l.findIdx? λx=>decide (e.ak<x.ak):=Lc λx b=>by
    have:=c x b;have r:x.ak≠e.ak:=qb3 this
    by_cases h:x.ak<e.ak
    .have o:¬e.ak<x.ak:=O;simp[h,o]
    .have o:e.ak<x.ak:=O;simp[h,o]
   refine(BP l O (λx=> !decide (x.ak<e.ak)) (f:=λi x=>some (l.take i++[e]++l.drop i,true,())) (fin:=some (l.take l.length++[e]++l.drop l.length,true,())) (λi x hi d a b g=> ?_) (λ_ a=> ?_)).trans ?_
   .simp only[a,b,g,Qc,Qa]
    cases decide (x.ak<e.ak)with
    |true=>rfl
    |false=>
     simp only[Qb,Qt,Qc];obtain⟨f1,f2,f3,f4,f5,f6⟩:=Mb hlen e (Qs i) (show i<=l.length by omega)
     simp only[f1,f2,f3,f4,f5,f6,Qc]
   .simp only[a,Qb];obtain⟨f1,f2,f3,f4,f5,f6⟩:=Mb hlen e (Qs l.length) (Qs _);simp only[f1,f2,f3,f4,f5,f6,Qc]
   .rw[j];unfold Le
    cases h:l.findIdx? λx=>decide (e.ak<x.ak)with
    |none=>rfl
    |some i=>have hi:=(List.findIdx?_eq_some_iff_getElem.1 h).1;simp only[Qj hi,Qa,qaI]
  .cases h:l.findIdx? λx=>decide (x.ak=e.ak)with
   |none=>rfl
   |some i=>
    have hi:=(List.findIdx?_eq_some_iff_getElem.1 h).1;simp only[Qj hi,Qa,qaI]
    by_cases hs:e.aI<=l[i].aI
    .simp[hs]
    .simp only[hs,Qx];rw[List.set_eq_take_append_cons_drop,Qe hi];simp
end
section
structure yK (m:ae):Prop where
 n0:0<=m.ak
 n1:m.ak<10
 aL:cI m.aa
 len:m.au.length<=100
 sm:∀e∈m.au,cI e.aa
 valid:∀e∈m.au,bd e=true
def GK{m:ae}{e:aj}(h:e∈bU m):e∈m.au\/(aQ m.af=false/\e=kR m):=by
 unfold bU at h;split at h
 .exact .inl h
 .rename_i a;rw[(D0 _ _).mem_iff,QA,Qz]at h;rcases h with h|h
  .exact .inl h
  .exact .inr ⟨by simpa using a,h⟩
def ahc(m:ae):(bU m).length<=m.au.length+1:=by
 unfold bU;split
 .omega
 .rw[(D0 _ _).length_eq,QM,QU];omega
def Sz(m:ae):(kR m).aa=m.aa:=pb m
def yK.xu{m:ae}(h:yK m):tY (bU m)/\(bU m).length<=1000:=by
 have c:=ahc m;have b:=h.len;refine⟨⟨O,λe a=> ?_⟩,O⟩
 rcases GK a with a|⟨_,rfl⟩
 .exact h.sm e a
 .rw[Sz];exact h.aL
def yK.aF{m:ae}(h:yK m):((m.ak.toNat:Nat):Int)=m.ak/\m.ak.toNat<10:=by have:=h.n0;have:=h.n1;omega
def eW(b:ah):ah:=if 1000<b.ai then⟨1000,b.Value⟩else b
def amW(b:ah):vC b=some (eW b):=agI b
def dO(p q b:ah):ah×ah:=
 if aQ b=true then(p,q)else if aQ p=true then(b,q)else if bG p b=true then(if bW p b=true then(b,if bW q b=true then cu else q)else(b,p))
 else if(bG b p&& !bW b p&&(aQ q||bG q b))=true then(p,b)else(p,q)
def aaQ(a b:ah):bW a b=bW b a:=qam.2 ⟨Eq.symm,Eq.symm⟩
def alf(p q b:ah):Cl p q b=some ((dO p q b).1,(dO p q b).2,()):=by unfold Cl dO oO aO;simp only[dx,lT,iy,Qa,aS];cases aQ b<;>cases aQ p<;>cases bG p b<;>cases bW p b<;>cases bW q b<;>cases bG b p<;>cases bW b p<;>cases aQ q<;>cases bG q b<;>rfl
def aiG(p q b:ah):zn p q b=some ((dO p q b).1,(dO p q b).2,()):=by unfold zn dO oO aO;simp only[dq,lF,gD,Qa,aS,aaQ b p];cases aQ b<;>cases aQ p<;>cases bG p b<;>cases bW p b<;>cases bW q b<;>cases bG b p<;>cases aQ q<;>cases bG q b<;>rfl
def LH(m:ae):C:=if m.aW=2 then m.af.Value else gl
 def fF(m:ae):ah:=lJ m.ak.toNat m.aa (bU m) m.ar m.aH (LH m)
def we(m:ae)(p q:ah):Int:=
 if m.aW=1/\m.bg≠0 then(if ij m<oh m.af.Value m.bg p q then 0 else oh m.af.Value m.bg p q)else m.bg
 def ed(m:ae):ae:=
 if m.aW=3\/aQ m.af=true then m else
  {m with ar:=(dO m.ar m.aH (eW (fF m))).1,aH:=(dO m.ar m.aH (eW (fF m))).2,bg:=we m (dO m.ar m.aH (eW (fF m))).1 (dO m.ar m.aH (eW (fF m))).2}
def akC{m:ae}(h:yK m)(p q:ah)(v:C):vD m.ak m.aa (bU m) p q v=some (lJ m.ak.toNat m.aa (bU m) p q v):=by
 have:=ais h.aF.2 h.aL h.xu.1 h.xu.2 p q v
 rwa [h.aF.1]at this
def akF{m:ae}(h:yK m)(a:ah):qa m.ak m.aa (bU m) a=some (B8 m.ak.toNat m.aa (bU m) a):=by
 have:=aiu h.aF.2 h.aL h.xu.1 h.xu.2 a
 rwa [h.aF.1]at this
def acQ{m:ae}(h:yK m):wG m=some (ed m):=by
 have hl:m.au.length<=1000:=by have:=h.len;omega
 unfold wG ed oO aO;simp only[etas,dx,Uj hl,akC h,amW,alf,Ce,YN,Qa,aS]
 by_cases d:m.aW=3
 .rw[Qd d,Qe (.inl d)];rfl
 .rw[Qf d]
  cases j:aQ m.af with
  |true=>rw[Qe (.inr rfl)];rfl
  |false=>
   rw[Qg (by simp[d])]
   simp only[Qb,Qa]
   by_cases f:m.aW=2
   .have b:¬m.aW=1:=O;simp only[Qd f,Qc,we,LH,fF,Qe f,b,false_and,Qx];rfl
   .simp only[Qf f,Qb];have hv:bE=LH m:=by simp only[LH,Qg f];rfl
    rw[hv];have hn:lJ m.ak.toNat m.aa (bU m) m.ar m.aH (LH m)=fF m:=rfl;simp only[hn]
    by_cases b:m.aW=1
    .have g:∀p q:ah,(bM {m with ar:=p,aH:=q}).bx=ij m:=λp q=>by unfold bM;rw[Qe (show({m with ar:=p,aH:=q}:ae).aW=1 from b)];rfl
     simp only[Qd b,Qc,Qa]
     by_cases c:m.bg=0
     .rw[Qd c];unfold we;rw[Qg (λh=>h.2 c)]
      rfl
     .rw[Qf c];unfold we;rw[Qe ⟨b,c⟩];simp only[Qt,Qc];rw[show(bM (ae.mk m.ak m.aJ m.aI m.aa m.aW m.af (dO m.ar m.aH (eW (fF m))).1 (dO m.ar m.aH (eW (fF m))).2 m.aB m.bg m.bx m.bm m.au)).bx=ij m from g _ _]
      by_cases a:ij m<oh m.af.Value m.bg (dO m.ar m.aH (eW (fF m))).1 (dO m.ar m.aH (eW (fF m))).2
      .rw[Qd a,Qe a];rfl
      .rw[Qf a,Qg a];rfl
    .rw[Qf b];unfold we;rw[Qg (λh=>b h.1)]
     rfl
 def iT(m:ae):ah:=B8 m.ak.toNat m.aa (bU m) m.aB
def EM(m:ae)(b:ah):ae:=
 if bG m.af b=true then{m with aB:=b,af:=b,bg:=if bW m.af b=true then m.bg else 0}else{m with aB:=b}
def tz(m:ae)(b:ah):ae:=
 if m.bg=0/\bW m.af b=true/\oh b.Value m.af.ai m.ar m.aH<=b.ai then{m with bg:=oh b.Value m.af.ai m.ar m.aH}else m
 def ig(m:ae):ae:=
 if m.aW≠1\/aQ m.af=true\/aQ (iT m)=true then m else tz (EM m (iT m)) (iT m)
def Uy(m:ae)(b:ah){α:Type}(j:ae->Y α):
  ((bif decide (m.bg=(0:Int))then some (bW m.af b)else some false).bind λx=>bif x then(bif decide (oh b.Value m.af.ai m.ar m.aH<=b.ai)then j {m with bg:=oh b.Value m.af.ai m.ar m.aH}else j m)else j m)=j (tz m b):=by
 unfold tz
 by_cases c:m.bg=0
 .rw[Qd c]
  cases d:bW m.af b with
  |true=>
   by_cases a:oh b.Value m.af.ai m.ar m.aH<=b.ai
   .rw[Qe ⟨c,rfl,a⟩,Qd a];rfl
   .rw[Qg (λh=>a h.2.2),Qf a];rfl
  |false=>rw[Qg (λh=>by cases h.2.1)];rfl
 .rw[Qf c,Qg (λh=>c h.1)];rfl
def aaP{m:ae}(h:yK m):uT m=some (ig m):=by
 have hl:m.au.length<=1000:=by have:=h.len;omega
 unfold uT ig oO aO;simp only[etas,dx,Uj hl,akF h,YN,Qa,aS,iy,lT];have f:B8 m.ak.toNat m.aa (bU m) m.aB=iT m:=rfl;simp only[f]
 by_cases a:m.aW=1
 .rw[Qd a]
  cases g:aQ m.af with
  |true=>rw[Qe (.inr (.inl rfl))];rfl
  |false=>
   cases b:aQ (iT m)with
   |true=>rw[Qe (.inr (.inr rfl))];rfl
   |false=>
    rw[Qg (by simp[a])]
    simp only[Qh,Qb,Qa];unfold EM
    cases c:bG m.af (iT m)with
    |true=>
     cases d:bW m.af (iT m)with
     |true=>simp only[Qc,Qh,Qb,Qr];exact Uy {m with aB:=iT m,af:=iT m} (iT m) some
     |false=>simp only[Qc,Qt,Qr,QB,Qx];exact Uy {m with aB:=iT m,af:=iT m,bg:=0} (iT m) some
    |false=>simp only[Qb,QB,Qx];exact Uy {m with aB:=iT m} (iT m) some
 .rw[Qf a,Qe (.inl a)];rfl
section
variable{aF:Nat}(hn:aF<10){t:aq}(ht:cI t){l:Z aj}(hl:tY l)(hlen:l.length<=1000)
 include hn ht hl hlen
theorem abe(v:C)(lo hi:Int):lS aF t l v lo hi=some (pE aF t l v lo hi):=by have a:=py l;have hsm:=nu (aF:=aF) ht hl;simp only[lS,etas,VV hl.aL hlen,AE hn hl,Qa,yQ hsm hn (lV a) (lV a)];rfl
theorem af9(v:C)(lo hi:Int):oK aF t l v lo hi=some (yo aF t l v lo hi):=by have a:=py l;have hsm:=nu (aF:=aF) ht hl;simp only[oK,etas,VV hl.aL hlen,AE hn hl,Qa,xw hsm hn (lV a)];rfl
theorem af7(p q:ah):tt aF t l p q=some (tP (pE aF t l) l p q (kX (pE aF t l) l p q)):=aiw hl hlen (abe hn ht hl hlen) p q
theorem akH(v:C)(low cv:Int):rY aF t l v low cv=some ((Ie (bC l v) (pE aF t l v) low cv).1,(Ie (bC l v) (pE aF t l v) low cv).2,()):=af8 hl hlen (abe hn ht hl hlen) v low cv
theorem akG(v:C):tu aF t l v=some (Gx (bC l v) (yo aF t l v)):=aiy hl hlen (af9 hn ht hl hlen) v
end
 def mT(m:ae):C->Int->Int->Bool:=pE m.ak.toNat m.aa (bU m)
 def RX(m:ae):C->Int->Int->Bool:=yo m.ak.toNat m.aa (bU m)
 def gC(m:ae):C×Int×Int×Bool×Unit:=tP (mT m) (bU m) m.ar m.aH (kX (mT m) (bU m) m.ar m.aH)
 def fC(m:ae):Int×Int:=Ie (bC (bU m) m.af.Value) (mT m m.af.Value) m.bg m.bx
 def ru(m:ae):Int×Int×Bool×Unit:=Gx (bC (bU m) m.af.Value) (RX m m.af.Value)
def aix{m:ae}(h:yK m):tt m.ak m.aa (bU m) m.ar m.aH=some (gC m):=by
 have:=af7 h.aF.2 h.aL h.xu.1 h.xu.2 m.ar m.aH
 rwa [h.aF.1]at this
def amk{m:ae}(h:yK m):rY m.ak m.aa (bU m) m.af.Value m.bg m.bx=some ((fC m).1,(fC m).2,()):=by
 have:=akH h.aF.2 h.aL h.xu.1 h.xu.2 m.af.Value m.bg m.bx
 rwa [h.aF.1]at this
def amj{m:ae}(h:yK m):tu m.ak m.aa (bU m) m.af.Value=some (ru m):=by
 have:=akG h.aF.2 h.aL h.xu.1 h.xu.2 m.af.Value
 rwa [h.aF.1]at this
def RG(m:ae)(v:C)(lo hi:Int):ae:=
 {m with af:=if(!bW m.af ⟨hi,v⟩||bG m.af ⟨hi,v⟩)=true then⟨bO m.af.ai hi,v⟩else m.af,ar:=if lf m.ar ⟨hi,v⟩=true then m.ar else⟨hi,v⟩,aW:=2,bg:=lo,bx:=hi,aB:=⟨hi,v⟩,aH:=cu}
def D1(m:ae)(lo hi:Int):ae:=
 {m with af:=⟨bO m.af.ai hi,m.af.Value⟩,ar:=⟨bO m.ar.ai hi,m.ar.Value⟩,aB:=⟨bO m.aB.ai hi,m.af.Value⟩,bg:=lo,bx:=hi}
 def gI(m:ae):ae:=
 if m.aW=1 then(if(gC m).2.2.2.1=true then RG m (gC m).1 (gC m).2.1 (gC m).2.2.1 else m)
 else if m.aW=2 then D1 m (fC m).1 (fC m).2 else m
def aaR{m:ae}(h:yK m):uU m=some (gI m):=by
 have hl:m.au.length<=1000:=by have:=h.len;omega
 unfold uU gI oO;simp only[etas,Uj hl,aix h,amk h,Qa,aS,iy,lT,ER]
 by_cases b:m.aW=1
 .rw[Qd b,Qe b]
  cases hk:(gC m).2.2.2.1 with
  |false=>simp only[Qc,Qt,QB,Qx]
  |true=>simp only[Qc,Qh,Qb,Qr];unfold RG;cases bW m.af ⟨(gC m).2.2.1,(gC m).1⟩<;>cases bG m.af ⟨(gC m).2.2.1,(gC m).1⟩<;>cases lf m.ar ⟨(gC m).2.2.1,(gC m).1⟩<;>rfl
 .rw[Qf b,Qg b]
  by_cases a:m.aW=2
  .rw[Qd a,Qe a];rfl
  .rw[Qf a,Qg a];rfl
def T1(m:ae)(lo hi:Int):ae:={m with aW:=3,bg:=lo,bx:=hi,af:=⟨hi,m.af.Value⟩,ar:=cu,aH:=cu,aB:=cu}
 def jX(m:ae):ae:=if m.aW=2/\(ru m).2.2.1=true then T1 m (ru m).1 (ru m).2.1 else m
def ajx{m:ae}(h:yK m):Az m=some (jX m):=by
 have hl:m.au.length<=1000:=by have:=h.len;omega
 unfold Az jX;simp only[etas,Uj hl,amj h,Qa]
 by_cases a:m.aW=2
 .rw[Qd a]
  cases hk:(ru m).2.2.1 with
  |false=>rw[Qg (λh=>by cases h.2)];rfl
  |true=>rw[Qe ⟨a,rfl⟩];rfl
 .rw[Qf a,Qg (λh=>a h.1)];rfl
end
section
def D8{α β ρ:Type}(l:Z α)(hl:l.length<=1000)(f:α->β){step:Int×Z β×Unit->Y ((Int×Z β×Unit)⊕ρ)}{fin:Z β->Y ρ}
  (j:∀(i:Nat) (e:α) (s:Z β),s.length<=1000->e∈l->decide ((i:Int)<(l.length:Int))=true->idx l (i:Int)=some e->aC .i64 (i:Int) 1=((i+1:Nat):Int)->step ((i:Int),s,())=some (.inl (((i+1:Nat):Int),s++[f e],())))
  (g:∀s,decide ((l.length:Int)<(l.length:Int))=false->step ((l.length:Int),s,())=Option.map inr (fin s)):aE step ((0:Int),[],())=fin (l.map f):=by
 suffices b:∀(k i:Nat) (s:Z β),i+k=l.length->s.length=i->aE step ((i:Int),s,())=fin (s++(l.drop i).map f)by have:=b l.length 0 [] O rfl;simpa using this
 intro k
 induction k with
 |zero=>
  intro i s hi hs;obtain rfl:i=l.length:=O;have d:decide ((l.length:Int)<(l.length:Int))=false:=Qf (QF _);have h:=g s d;rw[Q9,qas,List.append_nil]
  cases hf:fin s with
  |none=>rw[hf]at h;exact SY h
  |some r=>rw[hf]at h;exact bN h
 |succ k c=>
  intro i s hi hs;have a:i<l.length:=O
  rw[bB (j i l[i] s O (QE a) (Qd O) (by rw[ba];exact Qj a) (bH O O)),c (i+1) (s++[f l[i]]) O o_,
   QQ a,Qy,qah]
  rfl
def ae7{α β ρ:Type}(l:Z α)(hl:l.length<=1000)(f:α->β){step:Int×Z β×Unit->Y ((Int×Z β×Unit)⊕ρ)}{fin:Z β->Y ρ}
  (o:∀(i:Nat) (e:α) (s:Z β),s.length=l.length->e∈l->i<l.length->decide ((i:Int)<(l.length:Int))=true->idx l (i:Int)=some e->aC .i64 (i:Int) 1=((i+1:Nat):Int)->step ((i:Int),s,())=some (.inl (((i+1:Nat):Int),s.set i (f e),())))
  (j:∀s,decide ((l.length:Int)<(l.length:Int))=false->step ((l.length:Int),s,())=Option.map inr (fin s)) {s0:Z β} (c:s0.length=l.length):aE step ((0:Int),s0,())=fin (l.map f):=by
 suffices b:∀(k i:Nat) (s:Z β),i+k=l.length->s.length=l.length->aE step ((i:Int),s,())=fin (s.take i++(l.drop i).map f)by have:=b l.length 0 s0 O c;simpa using this
 intro k
 induction k with
 |zero=>
  intro i s hi hs;obtain rfl:i=l.length:=O;have g:decide ((l.length:Int)<(l.length:Int))=false:=Qf (QF _);have h:=j s g;rw[Q9,qas,List.append_nil,<-hs,QK];rw[<-hs]at h
  cases hf:fin s with
  |none=>rw[hf]at h;exact SY h
  |some r=>rw[hf]at h;exact bN h
 |succ k d=>
  intro i s hi hs;have a:i<l.length:=O
  rw[bB (o i l[i] s hs (QE a) a (Qd O) (by rw[ba];exact Qj a) (bH O O)),d (i+1) (s.set i (f l[i])) O (by simpa using hs),
   QQ a,Qy]
  congr 1;rw[List.take_add_one,List.take_set_of_le (Qs i),List.getElem?_set_self O];simp
def MW(z:ah):Z ah->ah
 |[]=>z
 |x::l=>l.foldl (λa y=>if bG a y=true then y else a) x
def TR(l:Z ah)(hl:l.length<=1000000)(z:ah){step:Int×ah×Unit->Y ((Int×ah×Unit)⊕ah)}
  (o:∀(i:Nat) (x s:ah),decide ((i:Int)<(l.length:Int))=true->idx l (i:Int)=some x->aC .i64 (i:Int) 1=((i+1:Nat):Int)->step ((i:Int),s,())=some (.inl (((i+1:Nat):Int),(if i=0 then x else if bG s x=true then x else s),())))
  (j:∀s,decide ((l.length:Int)<(l.length:Int))=false->step ((l.length:Int),s,())=some (.inr s)):aE step ((0:Int),z,())=some (MW z l):=by
 have g:decide ((l.length:Int)<(l.length:Int))=false:=Qf (QF _)
 have c:∀(k i:Nat) (s:ah),i+k=l.length->1<=i->aE step ((i:Int),s,())=some ((l.drop i).foldl (λa y=>if bG a y=true then y else a) s):=by
  intro k
  induction k with
  |zero=>intro i s hi d;obtain rfl:i=l.length:=O;rw[Q9];exact bN (j s g)
  |succ k r=>intro i s hi d;have b:i<l.length:=O;rw[bB (o i l[i] s (Qd O) (by rw[ba];exact Qj b) (bH O O)),r (i+1) _ O O,QQ b,QZ,Qg (O:¬i=0)]
 cases l with
 |nil=>exact bN (j z g)
 |cons x l=>
  have f:=o 0 x z (Qd t_) (by rw[ba];rfl) (bH O O)
  rw[Qe rfl]at f;exact(bB f).trans (c l.length 1 x o_ O)
def aji(l:Z ah)(hl:l.length<=1000000):sN l=some (MW cu l):=by
 unfold sN oO;refine TR l hl cu (λi x s a b c=> ?_) (λs a=> ?_)
 .simp only[a,b,c,Qc,aS,Qa,lT]
  by_cases hi:i=0
  .subst hi;rfl
  .have:decide ((i:Int)=0)=false:=Qf O;rw[this,Qg hi];cases bG s x<;>rfl
 .simp only[a,Qb,Qo]
def agh(l:Z ah)(hl:l.length<=1000000):pN l=some (MW cu l):=by
 unfold pN oO;refine TR l hl cu (λi x s a b c=> ?_) (λs a=> ?_)
 .simp only[a,b,c,Qc,aS,Qa,lF]
  by_cases hi:i=0
  .subst hi;rfl
  .have:decide ((i:Int)=0)=false:=Qf O;rw[this,Qg hi];cases bG s x<;>rfl
 .simp only[a,Qb,Qo]
def dH(m:ae):C:=
 if aQ m.aB=false then m.aB.Value else if m.aW≠1 then m.af.Value else if m.bm≠gl then m.bm else(MW cu (m.au.map (·.af))).Value
def Ny{m:ae}(h:yK m):qF m=some (dH m):=by
 have hl:m.au.length<=1000:=by have:=h.len;omega
 unfold qF dH;simp only[dx,Qa]
 cases j:aQ m.aB with
 |false=>rfl
 |true=>
  simp only[Qh,Qb,qbx,Qx]
  by_cases c:m.aW=1
  .rw[Qd c,Qg (λh=>h c)]
   simp only[Qh,Qb]
   by_cases b:m.bm=gl
   .have a:decide (m.bm=bE)=true:=Qd b;rw[a,Qg (λh=>h b)]
    simp only[Qh,Qb]
    rw[D8 m.au hl (·.af) (fin:=λs=>Option.bind (sN s) λr=>some r.Value) (λi e s hs o d f g=>by
     simp only[d,f,g,Qc,Qa]
     rw[br o_,Qc]) (λs d=>by simp only[d,Qb]),aji _ o_]
    rfl
   .have a:decide (m.bm=bE)=false:=Qf b;rw[a,Qe b];rfl
  .rw[Qf c,Qe c];rfl
def CQ{e:aj}(h:cI e.aa)(hv:bd e=true):nM e=some (cD e):=by
 simp only[nM,etas,lI h,Qa,hv,cD]
 by_cases a:e.bF=3
 .rw[Qd a,Qe a];rfl
 .rw[Qf a,Qg a];rfl
def Yw{e:aj}(h:cI e.aa)(hv:bd e=true):lX e=some (cD e):=by rw[aaj (wX h)];have:iu (xM e.aa) e=true:=hv;rw[this,Qe rfl]
def Jf(m:ae)(n:Int):Nat:=eX (λe=>decide (n<cD e)) m.au
 def kh(m:ae)(n:Int):Bool:=Dd (iR m.ak.toNat m.aa (bU m)) m.ak.toNat (Jf m n)
def yK.Vl{m:ae}(h:yK m):vw m.au:=λe a=>jf (h.valid e a)
def Xa{m:ae}(h:yK m)(n:Int):Jf m n<1024:=lV h.Vl
def ajY{m:ae}(h:yK m)(n:Int):wS m n=some (kh m n):=by
 have hl:m.au.length<=1000:=by have:=h.len;omega
 unfold wS
 rw[D8 m.au hl (λe=>decide (n<cD e)) (fin:=λs=>Option.bind (nr m) λj=>Option.bind (jj m.ak m.aa j) λg=>Option.bind (gz m.au s) λf=>Option.bind (sb g m.ak f) λd=>some d)
  (λi e s hs a b o r=>by
   simp only[b,o,r,Qc,Qa,etas,CQ (h.sm e a) (h.valid e a)]
   rw[br o_,Qc])
  (λs b=>by simp only[b,Qb,etas])]
 have hv:=AE h.aF.2 (t:=m.aa) h.xu.1;have c:=Sn (nu (aF:=m.ak.toNat) h.aL h.xu.1) (v:=m.ak.toNat) (Xa h n);rw[h.aF.1]at hv c;rw[Uj hl,Qa,hv,Qa,AX m.au hl _ (λe a _=>h.Vl e a),Qa,show eX (λe=>decide (n<cD e)) m.au=Jf m n from rfl,c]
 rfl
 def pU(m:ae)(Ij:Int)(e:aj):Int:=
 if m.af.ai<cD e/\cD e<Ij/\kh m (cD e)=false then cD e else Ij
 def me(m:ae):Int:=m.au.foldl (pU m) 1000000
 def qx(m:ae):C:=if m.aW=1 then dH m else m.af.Value
 def gB(m:ae):ae:=
 if m.aW=3\/kh m m.af.ai=false then m
 else{m with bg:=if qx m=m.af.Value then m.bg else 0,af:=⟨bO m.af.ai (dy (me m) 1000),qx m⟩}
open Classical in
def ZV{m:ae}(h:yK m){ρ:Type}{step:Int×Int×Unit->Y ((Int×Int×Unit)⊕ρ)}{fin:Int->Y ρ}
  (u:∀(i:Nat) (e:aj) (s:Int),e∈m.au->decide ((i:Int)<(m.au.length:Int))=true->idx m.au (i:Int)=some e->aC .i64 (i:Int) 1=((i+1:Nat):Int)->step (s,(i:Int),())=some (.inl (pU m s e,((i+1:Nat):Int),())))
  (r:∀s,decide ((m.au.length:Int)<(m.au.length:Int))=false->step (s,(m.au.length:Int),())=Option.map inr (fin s)):aE step ((1000000:Int),(0:Int),())=fin (me m):=by
 have hl:=h.len
 have b:=jn m.au O (λi s=>(s,i,())) (λe s=>if e∈m.au then some (.inl (pU m s e))else none) fin (step:=step) (λi x s d a j=>by
  have f:x∈m.au:=by rw[ba]at a;exact QL a
  rw[u i x s f d a j,Qe f]) (λs d=>r s d) 1000000
 refine b.trans ?_;unfold me
 suffices o:∀(l:Z aj),(∀e∈l,e∈m.au)->∀s,gn (λe s=>if e∈m.au then some (inl (β:=ρ) (pU m s e))else none) fin l s=fin (l.foldl (pU m) s)from o _ (λe c=>c) _
 intro l
 induction l with
 |nil=>intro _ s;rfl
 |cons x l g=>intro a s;rw[gn,Qe (a x QC),QZ];exact g (λe c=>a e (QI _ c)) _
def ag1{m:ae}(h:yK m):zl m=some (gB m):=by
 unfold zl gB oO aO;simp only[etas,ajY h,Ny h,Qa]
 by_cases a:m.aW=3
 .rw[Qd a,Qe (.inl a)];rfl
 .rw[Qf a]
  cases o:kh m m.af.ai with
  |false=>rw[Qe (.inr rfl)];rfl
  |true=>
   rw[Qg (by simp[a])]
   simp only[Qb,Qh];refine(ZV h (fin:=λc=>some {m with bg:=if qx m=m.af.Value then m.bg else 0,af:=⟨bO m.af.ai (dy c 1000),qx m⟩}) (λi e s f d g j=> ?_) (λs d=> ?_)).trans rfl
   .simp only[d,g,j,Qc,aS,Qa,CQ (h.sm e f) (h.valid e f)];unfold pU
    by_cases c1:m.af.ai<cD e
    .by_cases c2:cD e<s
     .rw[Qd c1,Qd c2]
      cases c3:kh m (cD e)with
      |true=>rw[Qg t_];rfl
      |false=>rw[Qe ⟨c1,c2,rfl⟩];rfl
     .rw[Qd c1,Qf c2,Qg (λh=>c2 h.2.1)];rfl
    .rw[Qf c1,Qg (λh=>c1 h.1)];rfl
   .simp only[d,Qb,aS];unfold qx
    by_cases b:m.aW=1
    .rw[Qd b,Qe b]
     by_cases hv:dH m=m.af.Value
     .simp only[Qc,Qd hv,Qh,Qb,Qe hv]
     .simp only[Qc,Qf hv,Qt,Qg hv]
    .rw[Qf b,Qg b];simp only[Qb,Ql,Qh,Qr]
end
section
def dF(b:ah):Prop:=1<=b.ai/\b.ai<=1000/\1<=b.Value.size/\b.Value.size<=200
def dF.valid{b:ah}(h:dF b):dt b=true:=by obtain⟨h1,d,c,a⟩:=h;simp only[dt,Qi,QR,Qw];exact⟨⟨.inl ⟨h1,d⟩,c⟩,a⟩
theorem dF.finite{b:ah}(h:dF b):finite b=true:=by unfold Go.Proofs.YtofedieniojipaaGreat.finite;rw[h.valid,Qd h.2.1];rfl
def abL{b:ah}(h:dt b=true)(a:b.ai<=1000):dF b:=by simp only[dt,Qi,QR,Qw]at h;obtain⟨⟨h1,d⟩,c⟩:=h;exact⟨O,a,d,c⟩
theorem dF.nz{b:ah}(h:dF b):aQ b=false:=SX h.1
def dF.ne{b:ah}(h:dF b):b.Value≠gl:=by intro e;have:=h.2.2.1;rw[e]at this;exact absurd this s_
theorem Be{b:ah}:aQ b=true↔b=cu:=by obtain⟨c,v⟩:=b;simp[aQ,cu]
theorem cr:aQ cu=true:=Be.2 rfl
structure P1 (m:ae):Prop where
 bf:m.aW=1
 aY:dF m.af
 dY:m.ar=cu\/dF m.ar
 cm:m.aH=cu\/(dF m.aH/\dF m.ar/\bG m.aH m.ar=true/\bW m.aH m.ar=false)
 eR:m.aB=cu\/(dF m.aB/\eM m.ar m.aH m.aB=true)
 up:bG m.af m.aB=false
 cv:m.bx=0
 low:m.bg=0\/(1<=m.bg/\m.bg<=ij m/\qU m.ar m.aH m.af.Value m.bg=false)
structure P2 (m:ae):Prop where
 bf:m.aW=2
 aY:dF m.af
 dY:dF m.ar/\m.ar.Value=m.af.Value
 cm:m.aH=cu
 eR:m.aB=cu\/(dF m.aB/\m.aB.Value=m.af.Value)
 range:1<=m.bg/\m.bg<=m.bx/\m.bx<=m.ar.ai
structure P3 (m:ae):Prop where
 bf:m.aW=3
 aY:dF m.af
 dY:m.ar=cu
 cm:m.aH=cu
 eR:m.aB=cu
 range:1<=m.bg/\m.bg<=m.bx/\m.bx<=1000
structure P0 (m:ae):Prop where
 bf:m.aW=1
 aY:m.af=cu
 dY:m.ar=cu
 cm:m.aH=cu
 eR:m.aB=cu
 low:m.bg=0
 cv:m.bx=0
structure bz (m:ae):Prop where
 n0:0<=m.ak
 n1:m.ak<10
 aK:1<=m.aJ/\m.aJ<=1000000
 seq:0<=m.aI/\m.aI<=1000000
 aL:cW m.aa
 xe:m.bm.size<=200
 hv:∀e∈m.au,bd e=true/\cW e.aa/\e.aJ=m.aJ/\e.ak≠m.ak
 dg:m.au.Pairwise (λa b=>a.ak<b.ak)
 body:P0 m\/P1 m\/P2 m\/P3 m
def R1:∀(l:Z aj) (k:Nat),k<=10->(∀e∈l,(k:Int)<=e.ak/\e.ak<10)->l.Pairwise (λa b=>a.ak<b.ak)->l.length+k<=10
 |[],k,hk,_,_=>by simpa using hk
 |x::l,k,hk,h,c=>by
  rw[Q0]at c;have f:=h x QC;have:=R1 l (k+1) O (λe d=>⟨by have:=c.1 e d;omega,(h e (QI _ d)).2⟩) c.2
  rw[QN];omega
def bz.len{m:ae}(h:bz m):m.au.length<=10:=by
 have:=R1 m.au 0 O (λe a=>by have:=jf (h.hv e a).1;omega) h.dg
 omega
def bz.ev{m:ae}(h:bz m):yK m:=
 ⟨h.n0,h.n1,h.aL.sm,by have:=h.len;omega,λe a=>(h.hv e a).2.1.sm,λe a=>(h.hv e a).1⟩
def TG{m:ae}(h:P1 m):0<=ij m/\ij m<=m.af.ai/\(ij m=0\/(dF m.aB/\m.aB.Value=m.af.Value/\ij m=m.aB.ai)):=by
 unfold ij;split
 .rename_i b;simp only[Qi,qad,bW,Qw]at b;rcases h.eR with e|⟨hf,_⟩
  .rw[e,cr]at b;cases b.1
  .have a:=h.up;unfold bG at a;split at a
   .rename_i e;exact⟨by have:=hf.1;omega,O,.inr ⟨hf,b.2,rfl⟩⟩
   .simp only[qaG]at a;exact⟨by have:=hf.1;omega,O,.inr ⟨hf,b.2,rfl⟩⟩
 .exact⟨Q8 _,by have:=h.aY.1;omega,.inl rfl⟩
def Wm{m:ae}(h:bz m)(D:aQ m.af=false):bd (kR m)=true:=by
 have f:1<=(kR m).aI/\(kR m).aI<=1000000:=by
  have c:(kR m).aI=bO m.aI 1:=by show bO (bM m).aI 1=_;rw[ZB]
  have:=h.seq;rw[c];unfold bO;split<;>omega
 have j:(kR m).ak=m.ak:=Bo m;have g:(kR m).aJ=m.aJ:=Hs m
 have r:B9 (kR m)=true:=by unfold B9;rw[j,g];simp only[Qi,Qw];exact⟨⟨⟨⟨⟨h.n0,h.n1⟩,h.aK.1⟩,h.aK.2⟩,f.1⟩,f.2⟩
 unfold bd;rw[Sz,tC h.aL];unfold iu;rw[r];have o:(kR m).bF=m.aW:=WK m;rw[o];rcases h.body with G|c|a|d
 .rw[G.aY,cr]at D;cases D
 .rw[Qe c.bf];have A:=TG c;have e:kR m=⟨m.ak,m.aJ,bO (bM m).aI 1,m.aa,m.aW,m.af,m.ar,m.aH,m.bg,ij m⟩:=by unfold kR bM;rw[Qe c.bf]
  have y:(aQ m.ar||dt m.ar)=true:=by
   rcases c.dY with e|hf
   .rw[e,cr];rfl
   .rw[hf.valid,qbG]
  have E:(aQ m.aH||dt m.aH)=true:=by
   rcases c.cm with e|hf
   .rw[e,cr];rfl
   .rw[hf.1.valid,qbG]
  have w:Fy (kR m)=true:=by
   rw[e];unfold Fy;rcases c.cm with e|⟨_,hf,hl,B⟩
   .simp only[e,cr,qb4]
   .simp only[hf.nz,hl,B,Qt,qap,qbG]
  have z:(decide (ij m=0)||eM m.ar m.aH ⟨ij m,m.af.Value⟩)=true:=by
   rcases A.2.2 with e|⟨hf,hv,e⟩
   .rw[Qd e];rfl
   .rw[e,<-hv];rcases c.eR with H|⟨_,y⟩
    .have:=hf.nz;rw[H,cr]at this;cases this
    .rw[y,qbG]
  have b:0<=m.bg/\m.bg<=ij m/\(decide (m.bg=0)||(!fT m.ar ⟨m.bg,m.af.Value⟩&& !fT m.aH ⟨m.bg,m.af.Value⟩))=true:=by
   rcases c.low with e|⟨I,F,u⟩
   .rw[e];exact⟨Q8 _,A.1,rfl⟩
   .refine⟨O,F,?_⟩;unfold qU at u;rw[qao]at u;rw[u.1,u.2];simp
  unfold iL;rw[w];rw[e];unfold at_
  simp only[c.aY.finite,y,E,Qd b.1,Qd b.2.1,Qd A.2.1,z,b.2.2,qap,Ql]
 .rw[Qg (by rw[a.bf];decide),Qe a.bf]
  have e:kR m=⟨m.ak,m.aJ,bO (bM m).aI 1,m.aa,m.aW,m.af,m.ar,cu,m.bg,m.bx⟩:=by unfold kR bM;rw[Qg (by rw[a.bf];decide),Qe a.bf]
  have B:m.bx<=1000:=by have:=a.range.2.2;have:=a.dY.1.2.1;omega
  unfold yp wM;rw[e];simp only[a.aY.finite,a.dY.1.valid,bW,Qd a.dY.2,cr,Qd a.range.1,Qd a.range.2.1,Qd a.range.2.2,Qd B,qap,Ql]
 .rw[Qg (by rw[d.bf];decide),Qg (by rw[d.bf];decide),Qe d.bf]
  have e:kR m=⟨m.ak,m.aJ,bO (bM m).aI 1,m.aa,m.aW,m.af,cu,cu,m.bg,m.bx⟩:=by unfold kR bM;rw[Qg (by rw[d.bf];decide),Qg (by rw[d.bf];decide)]
  unfold Dw wM;rw[e];simp only[d.aY.valid,cr,Qd d.range.1,Qd d.range.2.1,Qd d.range.2.2,qap,Ql]
def bz.HC{m:ae}(h:bz m):∀e∈bU m,bd e=true:=by
 intro e a;rcases GK a with a|⟨b,rfl⟩
 .exact(h.hv e a).1
 .exact Wm h b
def bz.aiS{m:ae}(h:bz m){e:aj}(a:e∈bU m)(hn:e.ak.toNat=m.ak.toNat):aQ m.af=false/\e=kR m:=by
 rcases GK a with a|⟨b,rfl⟩
 .have d:=(h.hv e a).2.2.2;have c:=jf (h.hv e a).1;have:=h.n0;omega
 .exact⟨b,rfl⟩
end
section
theorem Bl(a b:ah):bG a b=true↔a.ai<b.ai\/(a.ai=b.ai/\bS a.Value b.Value=true):=by grind [bG]
theorem oZ{a b c:ah}(h:bG a b=true)(d:bG b c=true):bG a c=true:=G3.trans _ _ _ h d
def aeT(a:ah):bG a a=false:=G3.irrefl a
theorem Mr{a b:ah}(h:bG a b=false)(c:a≠b):bG b a=true:=by
 cases h1:bG b a with
 |true=>rfl
 |false=>exact absurd (G3.total a b h h1) c
theorem kS{a b:ah}(h:bG a b=true):a.ai<=b.ai:=by rw[Bl]at h;omega
def PX{a b:ah}(h:bG a b=false):b.ai<=a.ai:=by grind [Bl]
theorem aeR(v:C):bS v v=false:=kQ.irrefl v
theorem JZ{a b:ah}(hv:a.Value=b.Value):bG a b=decide (a.ai<b.ai):=by grind [bG,aeR]
theorem M9{p x:ah}(h:lf p x=true):bG p x=false:=by grind [rB,JZ]
theorem WU{p x q:ah}(h:lf p x=true)(a:bG p q=true):bG x q=true:=by grind [oZ,Mr,M9]
theorem jJ{a b:ah}:bW a b=true↔a.Value=b.Value:=decide_eq_true_iff
theorem jm{a b:ah}:bW a b=false↔a.Value≠b.Value:=qaG
def FZ(p q x:ah):eM p q x=true↔lf p x=true\/lf q x=true\/(aQ q=false/\bG x q=true):=by grind [eM]
def wP(p q:ah):Prop:=(p=cu\/dF p)/\(q=cu\/(dF q/\dF p/\bG q p=true/\bW q p=false))
theorem P1.iL{m:ae}(h:P1 m):wP m.ar m.aH:=⟨h.dY,h.cm⟩
def Rw{b:ah}(h:dF b):b≠cu:=λe=>by have:=h.nz;rw[e,cr]at this;cases this
inductive zf (p q b:ah):ah->ah->Prop where
 |same:zf p q b p q
 |first (hp:p=cu) (hq:q=cu):zf p q b b cu
 |up (hp:dF p) (hl:bG p b=true) (hc:p.Value=b.Value):zf p q b b q
 |JQ (hp:dF p) (hl:bG p b=true) (hc:p.Value≠b.Value):zf p q b b p
 |under (hp:dF p) (hl:bG b p=true) (hc:b.Value≠p.Value) (hq:q=cu\/bG q b=true):zf p q b p b
def ai9{p q b:ah}(h:wP p q)(d:b=cu\/dF b):zf p q b (dO p q b).1 (dO p q b).2:=by
 unfold dO;rcases d with rfl|d
 .rw[Qe cr];exact .same
 rw[Qg (by rw[d.nz];decide)]
 rcases h.1 with rfl|c
 .have j:q=cu:=by
   rcases h.2 with e|⟨_,e,_⟩
   .exact e
   .exact absurd rfl (Rw e)
  rw[Qe cr,j];exact .first rfl rfl
 rw[Qg (by rw[c.nz];decide)]
 by_cases hl:bG p b=true
 .rw[Qe hl]
  by_cases a:bW p b=true
  .rw[Qe a]
   have g:bW q b=false:=by
    rw[jJ]at a;rw[jm];rcases h.2 with rfl|⟨_,_,_,e⟩
    .exact λe=>d.ne e.symm
    .rw[jm]at e;rw[<-a];exact e
   rw[Qg (by rw[g];decide)]
   exact .up c hl (jJ.1 a)
  .rw[Qg a];exact .JQ c hl (jm.1 (by simpa using a))
 .rw[Qg hl];split
  .rename_i f;simp only[Qi,QR,qad]at f;refine .under c f.1.1 (jm.1 f.1.2) ?_
   grind [Be]
  .exact .same
def zf.ok{p q b g q':ah}(h:wP p q)(d:b=cu\/dF b)(u:zf p q b g q'):wP g q':=by
 have w:∀{x:ah},bG x b=true\/dF b\/(dF x/\bG b x=true)->True:=λ_=>trivial
 cases u with
 |same=>exact h
 |first c r=>exact⟨d,.inl rfl⟩
 |up c hl f=>
  have a:dF b:=by
   rcases d with rfl|d
   .have o:=kS hl;have j:=c.1;have:(cu:ah).ai=0:=rfl;omega
   .exact d
  refine⟨.inr a,?_⟩;rcases h.2 with e|⟨o,j,z,y⟩
  .exact .inl e
  .grind [oZ,jm]
 |JQ c hl f=>
  have a:dF b:=by
   rcases d with rfl|d
   .have o:=kS hl;have j:=c.1;have:(cu:ah).ai=0:=rfl;omega
   .exact d
  exact⟨.inr a,.inr ⟨c,a,hl,jm.2 f⟩⟩
 |under c hl f r=>
  refine⟨.inr c,?_⟩
  grind [jm]
def zf.mono{p q b u r:ah}(h:wP p q)(y:zf p q b u r){x:ah}(a:eM p q x=true):eM u r x=true:=by
 rw[FZ]at a ⊢
 have f:aQ q=false->bG q p=true:=λc=>by
  rcases h.2 with e|⟨_,_,e,_⟩
  .rw[e,cr]at c;cases c
  .exact e
 have j:lf q x=true->aQ q=false:=λg=>((rB q x).1 g).1
 cases y with
 |same=>exact a
 |first d w=>grind
 |up d hl g=>
  rcases a with a|a|a
  .obtain⟨D,B,A⟩:=(rB _ _).1 a;refine .inl ((rB _ _).2 ⟨?_,g.symm.trans B,qbp A (kS hl)⟩);have:=d.1;have:=kS hl;exact SX O
  .exact .inr (.inl a)
  .exact .inr (.inr a)
 |JQ d hl g=>
  rcases a with a|a|a
  .exact .inr (.inl a)
  .exact .inr (.inr ⟨d.nz,WU a (f (j a))⟩)
  .exact .inr (.inr ⟨d.nz,oZ a.2 (f a.1)⟩)
 |under d hl g w=>
  have o:aQ q=false->bG q b=true:=λc=>by grind [cr]
  have z:aQ q=false->aQ b=false:=λc=>by
   have D:=kS (o c);rcases h.2 with e|⟨e,_⟩
   .rw[e,cr]at c;cases c
   .have:=e.1;exact SX O
  grind [WU,oZ]
theorem afC{p:ah}{v:C}{n k:Int}(h:fT p ⟨n,v⟩=false)(a:n<=k):fT p ⟨k,v⟩=false:=aaU a h
theorem afS{v:C}{n:Int}{x:ah}(a:x=cu\/dt x=true):n<=Am v n x/\fT x ⟨Am v n x,v⟩=false:=by grind [Am,fT,kS,bG,cr]
def abA{v:C}{n:Int}{p q:ah}(b:p=cu\/dt p=true)(a:q=cu\/dt q=true):n<=oh v n p q/\1<=oh v n p q/\qU p q v (oh v n p q)=false:=by grind [oh,afS,bO,Am,qU,afC]
theorem acg{v:C}{n:Int}{x:ah}(h:fT x ⟨n,v⟩=false):Am v n x=n:=by unfold Am;rw[h,Bool.and_false];rfl
def aeO{v:C}{n:Int}{p q:ah}(a:1<=n)(h:qU p q v n=false):oh v n p q=n:=by grind [qU,bO,oh,acg]
def wP.valid{p q:ah}(h:wP p q):(p=cu\/dt p=true)/\(q=cu\/dt q=true):=
 ⟨h.1.imp id dF.valid,h.2.imp id λh=>h.1.valid⟩
def acm{e:aj}(hv:bd e=true){x:ah}(c:x∈said e)(u:aQ x=false):dt x=true:=by
 have f:=hv;unfold bd iu at f;unfold said at c;rw[Qe hv]at c;rw[Qi,Qi]at f;have a:=f.2
 by_cases r:e.bF=1
 .grind [iL,finite]
 .rw[Qg r]at a c
  have d:∀{b:ah},dt b=true->dt ⟨1000000,b.Value⟩=true:=by grind [dt]
  by_cases j:e.bF=2
  .rw[Qe j]at a c;unfold yp at a;simp only[Qi]at a;obtain⟨⟨⟨⟨⟨hf,o⟩,w⟩,_⟩,_⟩,_⟩:=a;simp only[Qv,QX,qaC]at c;rcases c with rfl|rfl
   .exact o
   .unfold finite at hf;rw[Qi]at hf;exact d hf.1
  .rw[Qg j]at a c;simp only[Qv,QX,qaC]at c;subst c
   by_cases g:e.bF=3
   .rw[Qe g]at a;unfold Dw at a;simp only[Qi]at a;exact d a.1.1.1
   .rw[Qg g]at a;cases a
def OU{e:aj}(hv:bd e=true):1<=e.af.Value.size/\e.af.Value.size<=200:=by grind [bd,iu,ah,dt,finite,iL,yp,Dw]
def ajS{b:ah}(h:dt b=true):dF (eW b):=by
 simp only[dt,Qi,QR,Qw]at h;obtain⟨⟨h1,c⟩,a⟩:=h;unfold eW;split
 .exact⟨(s_:(1:Int)<=1000),(s_:(1000:Int)<=1000),c,a⟩
 .exact⟨O,O,c,a⟩
def Zx{α:Type}{l:Z α}{p:α->Bool}{z:α}:(l.find? p).getD z=z\/((l.find? p).getD z∈l/\p ((l.find? p).getD z)=true):=by
 cases h:l.find? p with
 |none=>exact .inl rfl
 |some x=>exact .inr ⟨List.mem_of_find?_eq_some h,List.find?_some h⟩
theorem Ld{m:ae}(h:bz m){x:ah}(a:x∈fL (bU m)):dt x=true:=by obtain⟨e,he,h1,b⟩:=((rN h.ev.xu.1.aL h.ev.xu.2).2.2.2 x).1 a;exact acm (h.HC e he) h1 b
def Wp{m:ae}(h:bz m):fF m=cu\/(dt (fF m)=true/\(LH m=gl\/(fF m).Value=LH m)/\eM (tj m.ar) (tj m.aH) (fF m)=false/\rM m.ak.toNat m.aa (bU m) (fF m)=true):=by
 unfold fF lJ;rcases Zx (l:=fL (bU m)) (p:=E8 (rM m.ak.toNat m.aa (bU m)) m.ar m.aH (LH m)) (z:=KU)with e|⟨h1,a⟩
 .exact .inl e
 .grind [E8,Ld]
def Cf{m:ae}(h:bz m):eW (fF m)=cu\/dF (eW (fF m)):=by
 rcases Wp h with e|⟨h1,_⟩
 .left;rw[e];decide
 .exact .inr (ajS h1)
def NM{m:ae}(h:bz m)(a:wP m.ar m.aH):zf m.ar m.aH (eW (fF m)) (dO m.ar m.aH (eW (fF m))).1 (dO m.ar m.aH (eW (fF m))).2:=ai9 a (Cf h)
theorem P2.iL{m:ae}(h:P2 m):wP m.ar m.aH:=⟨.inr h.dY.1,.inl h.cm⟩
theorem aiI{m:ae}(h:bz m)(a:P1 m):P1 (ed m):=by
 unfold ed;rw[Qg (by rw[a.bf,a.aY.nz];decide)]
 have c:=NM h a.iL;generalize (dO m.ar m.aH (eW (fF m))).1=p at c;generalize (dO m.ar m.aH (eW (fF m))).2=q at c;have b:=c.ok a.iL (Cf h);refine⟨a.bf,a.aY,b.1,b.2,?_,a.up,a.cv,?_⟩
 .rcases a.eR with e|⟨hf,d⟩
  .exact .inl e
  .exact .inr ⟨hf,c.mono a.iL d⟩
 .show we m p q=0\/(1<=we m p q/\we m p q<=ij m/\qU p q m.af.Value (we m p q)=false);unfold we
  by_cases g:m.bg=0
  .grind
  .rw[Qe ⟨a.bf,g⟩];split
   .exact .inl rfl
   .rename_i f;obtain⟨r,o,j⟩:=abA (v:=m.af.Value) (n:=m.bg) b.valid.1 b.valid.2;exact .inr ⟨o,O,j⟩
theorem abg{m:ae}(h:bz m)(a:P2 m):P2 (ed m)/\m.ar.ai<=(ed m).ar.ai/\(ed m).aH=cu:=by
 unfold ed;rw[Qg (by rw[a.bf,a.aY.nz];decide)]
 have hv:eW (fF m)=cu\/(eW (fF m)).Value=m.af.Value:=by
  rcases Wp h with e|⟨A,u,_⟩
  .left;rw[e];decide
  .right;have f:(eW (fF m)).Value=(fF m).Value:=by unfold eW;split<;>rfl
   have r:LH m=m.af.Value:=Qe a.bf;rw[r]at u;rw[f];exact u.resolve_left a.aY.ne
 have j:=NM h a.iL;have g:∀p q,we m p q=m.bg:=λp q=>Qg (λh=>by have:=h.1;rw[a.bf]at this;cases this)
 simp only[g];have d:=j.ok a.iL (Cf h);generalize (dO m.ar m.aH (eW (fF m))).1=p at j d;generalize (dO m.ar m.aH (eW (fF m))).2=q at j d;generalize z:eW (fF m)=b at j hv
 have c:dF p/\p.Value=m.af.Value/\m.ar.ai<=p.ai/\q=cu:=by
  cases j with
  |same=>exact⟨a.dY.1,a.dY.2,Q8 _,a.cm⟩
  |first o w=>exact absurd o (Rw a.dY.1)
  |up o hl f=>exact⟨d.1.resolve_left (λe=>by have:=kS hl;rw[e]at this;have y:=a.dY.1.1;have:(cu:ah).ai=0:=rfl;omega),f.symm.trans a.dY.2,kS hl,a.cm⟩
  |JQ o hl f=>
   exfalso;rcases hv with e|e
   .have:=kS hl;rw[e]at this;have y:=a.dY.1.1;have:(cu:ah).ai=0:=rfl;omega
   .exact f (a.dY.2.trans e.symm)
  |under o hl f w=>
   rcases hv with e|e
   .exact⟨a.dY.1,a.dY.2,Q8 _,e⟩
   .exact absurd (e.trans a.dY.2.symm) f
 exact⟨⟨a.bf,a.aY,⟨c.1,c.2.1⟩,c.2.2.2,a.eR,⟨a.range.1,a.range.2.1,qbp a.range.2.2 c.2.2.1⟩⟩,c.2.2.1,c.2.2.2⟩
def We{m:ae}(h:bz m):bz (ed m):=by grind [aQ,ed,P0,P1,P2,P3,bz,cr,aiI,abg]
end
section
end
section
def ym(q:Int->Bool):∀(r:Z Int) (lo:Int),dC q r lo<=lo
 |[],lo=>Q8 _
 |e::r,lo=>by
  rw[dC];split
  .exact ym q r lo
  .split
   .exact qbp (ym q r e) O
   .exact Q8 _
theorem Gz(q:Int->Bool):∀(r:Z Int) (lo:Int),dC q r lo=lo\/q (dC q r lo)=true/\dC q r lo∈r
 |[],lo=> .inl rfl
 |e::r,lo=>by
  rw[dC];split
  .exact(Gz q r lo).imp id λh=>⟨h.1,by simp[h.2]⟩
  .split
   .rename_i a;rcases Gz q r e with h|h
    .exact .inr ⟨by rw[h];exact a,by rw[h];simp⟩
    .exact .inr ⟨h.1,by simp[h.2]⟩
   .exact .inl rfl
def GA(q:Int->Bool)(r:Z Int)(lo:Int)(h:∀x∈r,1<=x)(a:1<=lo):1<=dC q r lo:=by
 rcases Gz q r lo with e|⟨_,e⟩
 .omega
 .exact h _ e
section
variable{aF:Nat}{t:aq}{l:Z aj}(p q:ah)
end
end
section
def ah4{m:ae}(h:bz m){p:aj->Bool}(b:(eX p (dj (bU m))).testBit m.ak.toNat=true):aQ m.af=false/\p (kR m)=true:=by rw[CI,List.any_eq_true]at b;obtain⟨e,he,a⟩:=b;rw[Qi,Qw]at a;obtain⟨h1,c⟩:=h.aiS ((List.mem_filter.1 he).1) a.2;rw[<-c];exact⟨h1,a.1⟩
def ZP{m:ae}(h:bz m){b:ah}(c:pz m.ak.toNat m.aa (bU m) b=true):aQ m.af=false/\eS (kR m) b=true:=by have hsm:=nu (aF:=m.ak.toNat) h.aL.sm h.ev.xu.1;have a:=Fi hsm (lV (p:=(eS · b)) (py (bU m)));exact ah4 h (a.inside _ c).1
def aaA{m:ae}(c:m.aW=1){b:ah}(a:eS (kR m) b=true):aQ b=false/\eM m.ar m.aH b=true:=by grind [kR,bO,bM,ij,eS]
theorem ae0{m:ae}(h:bz m)(c:P1 m):iT m=cu\/(dF (iT m)/\bG m.aB (iT m)=true/\eM m.ar m.aH (iT m)=true):=by
 unfold iT B8;rcases Zx (l:=fL (bU m)) (p:=Fh (pz m.ak.toNat m.aa (bU m)) m.aB) (z:=KU)with e|⟨b,a⟩
 .exact .inl e
 .right;unfold Fh at a;simp only[Qi,Qw]at a;exact⟨abL (Ld h b) a.1.2,a.1.1,(aaA c.bf (ZP h a.2).2).2⟩
def ai8{p q b:ah}{v:C}{n:Int}(r:wP p q)(g:eM p q b=true)(hv:b.Value≠v)(j:qU p q v n=false):b.ai<=n:=by
 unfold qU at j;rw[qao]at j
 have d:∀x:ah,aQ x=false->x.Value≠v->fT x ⟨n,v⟩=false->x.ai<=n:=by intro x c A h;unfold fT at h;rw[c,(jm (a:=x) (b:=⟨n,v⟩)).2 A,Qt,qap,qae]at h;exact PX h
 have o:aQ q=false->dF q/\dF p/\bG q p=true/\q.Value≠p.Value:=λc=>by
  rcases r.2 with e|⟨z,y,w,u⟩
  .rw[e,cr]at c;cases c
  .exact⟨z,y,w,jm.1 u⟩
 rw[FZ]at g;rcases g with g|g|⟨c,hl⟩
 .grind [rB]
 .grind [rB]
 .obtain⟨z,y,w,u⟩:=o c;have B:=kS hl
  by_cases f:q.Value=v
  .have:=d p y.nz (by rw[<-f];exact λe=>u e.symm) j.1
   have:=kS w;omega
  .have:=d q c f j.2;omega
theorem amG{m:ae}(d:P1 m){b:ah}(A:dF b)(hl:bG m.aB b=true)(g:eM m.ar m.aH b=true):P1 (EM m b)/\(EM m b).ar=m.ar/\(EM m b).aH=m.aH/\(EM m b).aB=b/\m.af.ai<=(EM m b).af.ai:=by
 unfold EM;have G:=TG d;split
 .rename_i f
  have c:∀L:Int,ij {m with aB:=b,af:=b,bg:=L}=b.ai:=by intro L;unfold ij;rw[Qe];rw[A.nz,jJ.2 rfl];rfl
  refine⟨⟨d.bf,A,d.dY,d.cm,.inr ⟨A,g⟩,aeT b,d.cv,?_⟩,rfl,rfl,rfl,kS f⟩;show(if bW m.af b=true then m.bg else 0)=0\/(1<=(if bW m.af b=true then m.bg else 0)/\(if bW m.af b=true then m.bg else 0)<=ij {m with aB:=b,af:=b,bg:=if bW m.af b=true then m.bg else 0}/\qU m.ar m.aH b.Value (if bW m.af b=true then m.bg else 0)=false)
  rw[c];split
  .rename_i H;rw[jJ]at H;rcases d.low with e|⟨B,M,o⟩
   .exact .inl e
   .refine .inr ⟨B,?_,by rw[<-H];exact o⟩
    have:=kS f;omega
  .exact .inl rfl
 .rename_i f;have f:bG m.af b=false:=by simpa using f
  refine⟨⟨d.bf,d.aY,d.dY,d.cm,.inr ⟨A,g⟩,f,d.cv,?_⟩,rfl,rfl,rfl,Q8 _⟩;rcases d.low with e|⟨B,M,o⟩
  .exact .inl e
  .refine .inr ⟨B,?_,o⟩;show m.bg<=ij {m with aB:=b}
   have hv:b.Value=m.af.Value:=by
    refine qbH λhv=> ?_
    have T:=ai8 d.iL g hv o;have S:=kS hl;rcases G.2.2 with e|⟨Q,I,P⟩
    .omega
    .
     have U:bG b m.aB=false:=G3.asymm hl;have N:=hl;rw[Bl]at N;have K:b.ai=m.aB.ai:=O;have z:m.bg=m.aB.ai:=O
     have u:bG ⟨m.bg,m.af.Value⟩ b=true:=by
      have:(⟨m.bg,m.af.Value⟩:ah)=m.aB:=by rw[z,<-I]
      rw[this];exact hl
     unfold qU at o;rw[qao]at o
     have r:∀x:ah,aQ x=false->x.Value≠m.af.Value->fT x ⟨m.bg,m.af.Value⟩=false->bG ⟨m.bg,m.af.Value⟩ x=false:=by intro x w J h;unfold fT at h;rw[w,(jm (a:=x) (b:=⟨m.bg,m.af.Value⟩)).2 J,Qt,qap,qae]at h;exact h
     rw[FZ]at g;rcases g with g|g|⟨w,F⟩
     .obtain⟨g1,g2,g3⟩:=(rB _ _).1 g;have j:=r _ g1 (by rw[g2];exact hv) o.1
      have D:bG ⟨m.bg,m.af.Value⟩ m.ar=true:=by
       by_cases e:b=m.ar
       .rw[<-e];exact u
       .exact oZ u (Mr (M9 g) (λE=>e E.symm))
      rw[D]at j;cases j
     .obtain⟨g1,g2,g3⟩:=(rB _ _).1 g;have j:=r _ g1 (by rw[g2];exact hv) o.2
      have D:bG ⟨m.bg,m.af.Value⟩ m.aH=true:=by
       by_cases e:b=m.aH
       .rw[<-e];exact u
       .exact oZ u (Mr (M9 g) (λE=>e E.symm))
      rw[D]at j;cases j
     .rcases d.cm with e|⟨f1,f2,f3,f4⟩
      .rw[e,cr]at w;cases w
      .by_cases y:m.aH.Value=m.af.Value
       .have j:=r _ f2.nz (by rw[<-y];exact λe=>(jm.1 f4) e.symm) o.1
        rw[oZ u (oZ F f3)]at j;cases j
       .have j:=r _ w y o.2;rw[oZ u F]at j;cases j
   have c:ij {m with aB:=b}=b.ai:=by grind [ij,aQ,bW,jJ]
   rw[c];rcases G.2.2 with e|⟨Q,I,P⟩
   .omega
   .have:=kS hl;omega
theorem ah6{m:ae}(a:P1 m){b:ah}(f:dF b)(d:m.aB=b):P1 (tz m b):=by
 unfold tz;split
 .rename_i hv;obtain⟨g,c,hle⟩:=hv;rw[jJ]at c;refine⟨a.bf,a.aY,a.dY,a.cm,a.eR,a.up,a.cv,?_⟩;obtain⟨r,o,j⟩:=abA (v:=b.Value) (n:=m.af.ai) a.iL.valid.1 a.iL.valid.2
  grind [qU,oh,ij,aQ,bW,jJ]
 .exact a
theorem ab6(m:ae)(b:ah):(tz m b).ar=m.ar/\(tz m b).aH=m.aH/\(tz m b).aB=m.aB/\(tz m b).af=m.af:=by grind [tz]
def xV{m:ae}(h:m.aW≠1\/aQ m.af=true\/aQ (iT m)=true):ig m=m:=Qe h
def Hj{m m':ae}(h:bz m)(d:m'.ak=m.ak/\m'.aJ=m.aJ/\m'.aI=m.aI/\m'.aa=m.aa/\m'.bm=m.bm/\m'.au=m.au)(f:P0 m'\/P1 m'\/P2 m'\/P3 m'):bz m':=by obtain⟨a,c,o,j,g,b⟩:=d;exact⟨by rw[a];exact h.n0,by rw[a];exact h.n1,by rw[c];exact h.aK,by rw[o];exact h.seq,by rw[j];exact h.aL,by rw[g];exact h.xe,by rw[b,a,c];exact h.hv,by rw[b];exact h.dg,f⟩
structure jW (m m':ae):Prop where
 aF:m'.ak=m.ak
 aK:m'.aJ=m.aJ
 seq:m'.aI=m.aI
 aL:m'.aa=m.aa
 xe:m'.bm=m.bm
 heard:m'.au=m.au
def jW.refl(m:ae):jW m m:=⟨rfl,rfl,rfl,rfl,rfl,rfl⟩
def jW.all{m m':ae}(h:jW m m'):m'.ak=m.ak/\m'.aJ=m.aJ/\m'.aI=m.aI/\m'.aa=m.aa/\m'.bm=m.bm/\m'.au=m.au:=⟨h.aF,h.aK,h.seq,h.aL,h.xe,h.heard⟩
def DK(m:ae):jW m (ed m):=by unfold ed;split<;>exact⟨rfl,rfl,rfl,rfl,rfl,rfl⟩
def ajk(m:ae)(b:ah):jW m (EM m b):=by unfold EM;split<;>exact⟨rfl,rfl,rfl,rfl,rfl,rfl⟩
def adZ(m:ae)(b:ah):jW m (tz m b):=by unfold tz;split<;>exact⟨rfl,rfl,rfl,rfl,rfl,rfl⟩
def Bi(m:ae):jW m (ig m):=by
 unfold ig;split
 .exact .refl m
 .have b:=adZ (EM m (iT m)) (iT m);have a:=ajk m (iT m);exact⟨b.aF.trans a.aF,b.aK.trans a.aK,b.seq.trans a.seq,b.aL.trans a.aL,b.xe.trans a.xe,b.heard.trans a.heard⟩
def Bk(m:ae):jW m (gI m):=by
 unfold gI RG D1;split
 .split<;>exact⟨rfl,rfl,rfl,rfl,rfl,rfl⟩
 .split<;>exact⟨rfl,rfl,rfl,rfl,rfl,rfl⟩
def Bj(m:ae):jW m (jX m):=by unfold jX T1;split<;>exact⟨rfl,rfl,rfl,rfl,rfl,rfl⟩
def DM(m:ae):jW m (gB m):=by unfold gB;split<;>exact⟨rfl,rfl,rfl,rfl,rfl,rfl⟩
def UN{m:ae}(h:bz m)(a:P1 m):P1 (ig m)/\(ig m=m\/((ig m).ar=m.ar/\(ig m).aH=m.aH/\bG m.aB (ig m).aB=true/\m.af.ai<=(ig m).af.ai)):=by grind [ig,ae0,cr,amG,ab6,EM,iT,ah6]
def Wd{m:ae}(h:bz m):bz (ig m):=by
 rcases h.body with c|h1|b|a
 .rw[xV (.inr (.inl (by rw[c.aY];exact cr)))];exact h
 .exact Hj h (Bi m).all (.inr (.inl (UN h h1).1))
 .rw[xV (.inl (by rw[b.bf];decide))];exact h
 .rw[xV (.inl (by rw[a.bf];decide))];exact h
def Dc{m:ae}(h:bz m)(v:C):∀x∈bC (bU m) v,1<=x/\x<=1000:=HA h.ev.xu.1 h.ev.xu.2 v
def afK{m:ae}(h:bz m):∀v∈ir (bU m),1<=v.size/\v.size<=200:=by intro v hv;obtain⟨e,he,h1,a⟩:=((yN h.ev.xu.1.aL h.ev.xu.2).2.2.2 v).1 hv;rw[a];exact OU h1
def ady{m:ae}(h:bz m){x:C->Int->Int->Bool}{p q:ah}:(kX x (bU m) p q).1=false\/(dF (kX x (bU m) p q).2/\(kX x (bU m) p q).2.Value∈ir (bU m)/\(kX x (bU m) p q).2.ai∈bC (bU m) (kX x (bU m) p q).2.Value/\
  qU p q (kX x (bU m) p q).2.Value (kX x (bU m) p q).2.ai=false/\x (kX x (bU m) p q).2.Value (kX x (bU m) p q).2.ai (kX x (bU m) p q).2.ai=true):=by
 let G:Bool×ah->Prop:=λs=>s.1=false\/(dF s.2/\s.2.Value∈ir (bU m)/\s.2.ai∈bC (bU m) s.2.Value/\qU p q s.2.Value s.2.ai=false/\x s.2.Value s.2.ai s.2.ai=true)
 have inner:∀(v:C),v∈ir (bU m)->∀(b:Z Int),(∀n∈b,n∈bC (bU m) v)->∀s,G s->G (b.foldl (gK x p q v) s):=by
  intro v hv b
  induction b with
  |nil=>intro _ s hs;exact hs
  |cons n b d=>
   intro f s hs;rw[QZ];refine d (λk o=>f k (QI _ o)) _ ?_
   unfold gK;split
   .rename_i c;simp only[Qi,qad]at c;have hn:=f n QC;have j:=Dc h v n hn;have g:=afK h v hv;exact .inr ⟨⟨j.1,j.2,g.1,g.2⟩,hv,hn,c.1.2,c.2⟩
   .exact hs
 have a:∀(vs:Z C),(∀v∈vs,v∈ir (bU m))->∀s,G s->G (vs.foldl (λs v=>(bC (bU m) v).foldl (gK x p q v) s) s):=by
  intro vs
  induction vs with
  |nil=>intro _ s hs;exact hs
  |cons v vs d=>grind
 exact a _ (λv hv=>hv) (false,⟨0,gl⟩) (.inl rfl)
structure am4 (m:ae) (v:ByteArray) (lo hi:Int):Prop where
 fin:dF ⟨hi,v⟩
 lo1:1<=lo
 le:lo<=hi
 val:v∈ir (bU m)
 top:mT m v hi hi=true
 all:mT m v lo hi=true
def TS{m:ae}(h:bz m)(f:(gC m).2.2.2.1=true):am4 m (gC m).1 (gC m).2.1 (gC m).2.2.1:=by
 rcases ady (x:=mT m) (p:=m.ar) (q:=m.aH) h with e|⟨h1,d,j,g,c⟩
 .grind [gC,tP]
 .have b:(kX (mT m) (bU m) m.ar m.aH).1=true:=by
   grind [gC,tP]
  have e:gC m=((kX (mT m) (bU m) m.ar m.aH).2.Value,dC (λn=> !qU m.ar m.aH (kX (mT m) (bU m) m.ar m.aH).2.Value n&&mT m (kX (mT m) (bU m) m.ar m.aH).2.Value n (kX (mT m) (bU m) m.ar m.aH).2.ai) (bC (bU m) (kX (mT m) (bU m) m.ar m.aH).2.Value).reverse (kX (mT m) (bU m) m.ar m.aH).2.ai,(kX (mT m) (bU m) m.ar m.aH).2.ai,true,()):=by unfold gC tP;rw[Qe b]
  rw[e];refine⟨h1,GA _ _ _ (λx a=>(Dc h _ x (List.mem_reverse.1 a)).1) h1.1,ym _ _ _,d,c,?_⟩
  grind [Gz,qU,kX,mT,bU,bC]
def ZQ{m:ae}(c:m.af=cu\/dF m.af)(B:m.ar=cu\/dF m.ar){v:C}{lo hi:Int}(hf:dF ⟨hi,v⟩)(f:1<=lo)(g:lo<=hi):P2 (RG m v lo hi):=by
 unfold RG
 have a:dF ⟨bO m.af.ai hi,v⟩:=by
  rcases c with e|u
  .have:bO m.af.ai hi=hi:=by
    have D:=hf.1;simp only at D;have E:m.af.ai=0:=by rw[e];rfl
    unfold bO;split<;>omega
   rw[this];exact hf
  .have:bO m.af.ai hi=m.af.ai\/bO m.af.ai hi=hi:=by unfold bO;split<;>simp
   rcases this with e|e<;>rw[e]
   .exact⟨u.1,u.2.1,hf.2.2⟩
   .exact hf
 have o:∀b:ah,b=(if(!bW m.af ⟨hi,v⟩||bG m.af ⟨hi,v⟩)=true then⟨bO m.af.ai hi,v⟩else m.af)->dF b/\b.Value=v:=by
  intro b r;split at r
  .rw[r];exact⟨a,rfl⟩
  .rename_i j;rw[r];simp only[QR,qad,qaF,Bool.not_eq_false]at j;refine⟨c.resolve_left (λe=> ?_),jJ.1 j.1⟩
   have:=jJ.1 j.1;rw[e]at this;exact hf.ne this.symm
 obtain⟨b1,w⟩:=o _ rfl
 have d:∀p:ah,p=(if lf m.ar ⟨hi,v⟩=true then m.ar else⟨hi,v⟩)->dF p/\p.Value=v/\hi<=p.ai:=by grind [rB,cr]
 obtain⟨A,z,y⟩:=d _ rfl;exact⟨rfl,b1,⟨A,z.trans w.symm⟩,rfl,.inr ⟨hf,w.symm⟩,⟨f,g,y⟩⟩
theorem Zz{m:ae}(h:bz m)(f:P2 m):1<=(fC m).1/\(fC m).1<=(fC m).2/\(fC m).2<=1000/\(((fC m).2=m.bx/\(fC m).1<=m.bg)\/m.bx<(fC m).2):=by
 have c:=f.range;have j:m.bx<=1000:=by have:=f.dY.1.2.1;omega
 have d:∀x∈(bC (bU m) m.af.Value).reverse,1<=x:=λx g=>(Dc h _ x (List.mem_reverse.1 g)).1
 unfold fC Ie;split
 .refine⟨GA _ _ _ d c.1,?_,j,.inl ⟨rfl,ym _ _ _⟩⟩;exact qbp (ym _ _ _) c.2.1
 .rename_i n hn;have b:=Dc h _ n (List.mem_reverse.1 (List.mem_of_find?_eq_some hn));have a:=List.find?_some hn;simp only[Qi,Qw]at a;have r:1<=dC (λx=>mT m m.af.Value x n) (bC (bU m) m.af.Value).reverse n:=GA _ _ _ d b.1
  have o:=ym (λx=>mT m m.af.Value x n) (bC (bU m) m.af.Value).reverse n
  simp only;refine⟨GA _ _ _ d ?_,?_,b.2,.inr a.1⟩
  .split
   .exact r
   .exact c.1
  .refine qbp (ym _ _ _) ?_;split
   .exact o
   .omega
theorem adl{m:ae}(a:P2 m){lo hi:Int}(b:1<=lo)(d:lo<=hi)(o:hi<=1000):P2 (D1 m lo hi):=by
 unfold D1;have f:=a.aY;have j:=a.dY;have u:∀c:Int,bO c hi=c\/bO c hi=hi:=λc=>by unfold bO;split<;>simp
 have g:∀c:Int,hi<=bO c hi:=λc=>by unfold bO;split<;>omega
 have mx:∀c:Int,c<=1000->dF ⟨bO c hi,m.af.Value⟩:=by
  intro c r;refine⟨by have:=g c;simp only;omega,?_,f.2.2.1,f.2.2.2⟩
  grind
 refine⟨a.bf,mx _ f.2.1,⟨?_,?_⟩,a.cm,.inr ⟨mx _ ?_,rfl⟩,⟨b,d,g _⟩⟩
 .grind [dF,bO]
 .exact j.2
 .rcases a.eR with e|e
  .rw[e];decide
  .exact e.1.2.1
def Wi{m:ae}(h:bz m):bz (gI m):=by
 refine Hj h (Bk m).all ?_;unfold gI;rcases h.body with a|h1|d|c
 .rw[Qe a.bf];split
  .rename_i b;have hf:=TS h b;exact .inr (.inr (.inl (ZQ (.inl a.aY) (.inl a.dY) hf.fin hf.lo1 hf.le)))
  .exact .inl a
 .rw[Qe h1.bf];split
  .rename_i b;have hf:=TS h b;exact .inr (.inr (.inl (ZQ (.inr h1.aY) h1.dY hf.fin hf.lo1 hf.le)))
  .exact .inr (.inl h1)
 .rw[Qg (by rw[d.bf];decide),Qe d.bf]
  grind [Zz,adl]
 .rw[Qg (by rw[c.bf];decide),Qg (by rw[c.bf];decide)]
  exact .inr (.inr (.inr c))
def alx{m:ae}(h:bz m)(b:(ru m).2.2.1=true):1<=(ru m).1/\(ru m).1<=(ru m).2.1/\(ru m).2.1<=1000/\RX m m.af.Value (ru m).1 (ru m).2.1=true:=by
 unfold ru Gx at b ⊢;split at b
 .rename_i n hn;have a:=Dc h _ n (List.mem_reverse.1 (List.mem_of_find?_eq_some hn));have hs:=List.find?_some hn;simp only;refine⟨GA _ _ _ (λx c=>(Dc h _ x (List.mem_reverse.1 c)).1) a.1,ym _ _ _,a.2,?_⟩
  grind [Gz,RX,bC,bU]
 .cases b
theorem abi{m:ae}(h:bz m)(a:P2 m)(b:(ru m).2.2.1=true):P3 (T1 m (ru m).1 (ru m).2.1):=by obtain⟨g1,g2,g3,_⟩:=alx h b;unfold T1;exact⟨rfl,⟨by simp only;omega,g3,a.aY.2.2.1,a.aY.2.2.2⟩,rfl,rfl,rfl,⟨g1,g2,g3⟩⟩
def Wh{m:ae}(h:bz m):bz (jX m):=by
 refine Hj h (Bj m).all ?_;unfold jX;split
 .rename_i a;rcases h.body with c|h1|d|b
  .have:=c.bf;have:=a.1;omega
  .have:=h1.bf;have:=a.1;omega
  .grind [abi]
  .have:=b.bf;have:=a.1;omega
 .exact h.body
def ac9{z:ah}:∀{l:Z ah},l≠[]->MW z l∈l
 |[],h=>absurd rfl h
 |x::l,_=>by
  show l.foldl (λa y=>if bG a y=true then y else a) x∈x::l
  suffices b:∀(l:Z ah) (a:ah),l.foldl (λa y=>if bG a y=true then y else a) a=a\/l.foldl (λa y=>if bG a y=true then y else a) a∈l by
   rcases b l x with e|e
   .rw[e];exact QC
   .exact QI _ e
  intro l
  induction l with
  |nil=>intro a;exact .inl rfl
  |cons y l c=>
   intro a;rw[QZ];rcases c (if bG a y=true then y else a)with e|e
   .rw[e];split
    .exact .inr QC
    .exact .inl rfl
   .exact .inr (QI _ e)
def aii{t:aq}(h:cW t){s:Nat}(hs:∀k,k<10->s.testBit k=true):oe s t=true:=by
 have hn:∀x:Int,0<=x->x<10->sE s x=true:=by grind [sE,fG]
 have b:t.bc.countP (sE s)=t.bc.length:=List.countP_eq_length.2 λx a=>hn x (h.nodes x a).1 (h.nodes x a).2
 have hi:CN s t.aR=t.aR.length:=by
  rcases h.inner with e|⟨x,c,h1,e⟩
  .rw[e];rfl
  .grind [oe,UC,CN]
 rw[UC,b,hi,Qw];have:=h.th.2;omega
def adH{m:ae}(h:bz m){n:Int}(b:kh m n=true):∃e∈m.au,n<cD e:=by
 refine qbH λd=> ?_
 have c:Jf m n=0:=by
  refine FE λk=> ?_
  grind [Jf,CI,cD]
 unfold kh Dd at b;rw[c,Qi]at b
 have a:rO (iR m.ak.toNat m.aa (bU m)) m.ak.toNat=m.aa:=by unfold rO;rw[LD h.ev.aF.2 m.aa (bU m) h.ev.aF.2,Qe rfl];rfl
 rw[a,aii h.aL (λk f=>by rw[E5 O];simp[f])]at b
 cases b.2
def aaZ{m:ae}(h:bz m)(o:m.aW=1)(j:m.aB=cu\/dF m.aB)(r:m.au≠[]\/m.bm≠gl\/m.aB≠cu):1<=(dH m).size/\(dH m).size<=200:=by
 unfold dH;split
 .rename_i a;rcases j with e|e
  .rw[e,cr]at a;cases a
  .exact e.2.2
 .rename_i a;have a:aQ m.aB=true:=by simpa using a
  rw[Qg (λh=>h o)]
  split
  .rename_i g;refine⟨?_,h.xe⟩;rcases qbh m.bm.size with e|e
   .exfalso;apply g;have:m.bm.data=#[]:=qa2 e
    cases c:m.bm with
    |mk d=>rw[c]at this;simp only at this;rw[this];rfl
   .exact e
  .rename_i g
   have b:m.au≠[]:=by grind [Be]
   have c:=ac9 (z:=cu) (l:=m.au.map (·.af)) (by simpa using b)
   obtain⟨e,he,f⟩:=QO.1 c;rw[<-f];exact OU (h.hv e he).1
theorem afj{e:aj}(hv:bd e=true):1<=cD e/\(cD e<=1000\/cD e=1000000):=by
 unfold cD;split
 .exact⟨s_,.inr rfl⟩
 .rename_i f;have a:=hv;unfold bd iu at a;rw[Qi,Qi]at a;have c:=a.2
  have d:∀{b:ah},finite b=true->1<=b.ai/\b.ai<=1000:=by intro b c;unfold finite at c;rw[Qi,Qw]at c;have:=(abL c.1 c.2);exact⟨this.1,this.2.1⟩
  grind [iL,yp]
theorem afq(m:ae):me m=1000000\/(m.af.ai<me m/\me m<1000000/\kh m (me m)=false/\∃e∈m.au,me m=cD e):=by
 unfold me
 suffices a:∀(l:Z aj),(∀e∈l,e∈m.au)->∀s,(s=1000000\/(m.af.ai<s/\s<1000000/\kh m s=false/\∃e∈m.au,s=cD e))->
   (l.foldl (pU m) s=1000000\/(m.af.ai<l.foldl (pU m) s/\l.foldl (pU m) s<1000000/\kh m (l.foldl (pU m) s)=false/\∃e∈m.au,l.foldl (pU m) s=cD e))from a _ (λe b=>b) _ (.inl rfl)
 intro l
 induction l with
 |nil=>intro _ s hs;exact hs
 |cons x l c=>
  intro d s hs;rw[QZ]
  grind [pU]
def Nb{m:ae}(h:bz m)(a:0<=m.af.ai/\m.af.ai<=1000):m.af.ai<=bO m.af.ai (dy (me m) 1000)/\bO m.af.ai (dy (me m) 1000)<=1000/\1<=bO m.af.ai (dy (me m) 1000)/\
  (bO m.af.ai (dy (me m) 1000)=m.af.ai->m.af.ai=1000)/\bO m.af.ai (dy (me m) 1000)=dy (me m) 1000:=by
 grind [dy,me,afq,afj,bO]
def UO{m:ae}(h:bz m)(c:P0 m\/P1 m)(r:kh m m.af.ai=true):P1 (gB m):=by
 have b:m.aW=1:=by rcases c with h|h<;>exact h.bf
 have o:0<=m.af.ai/\m.af.ai<=1000:=by
  rcases c with h|h
  .rw[h.aY];decide
  .have:=h.aY;exact⟨by have:=this.1;omega,this.2.1⟩
 obtain⟨c1,c2,c3,_⟩:=Nb h o;obtain⟨w,j,_⟩:=adH h r
 have a:m.aB=cu\/dF m.aB:=by
  rcases c with h|h
  .exact .inl h.eR
  .exact h.eR.imp id (·.1)
 have hv:=aaZ h b a (.inl (List.ne_nil_of_mem j));unfold gB;rw[Qg (by rw[b,r];decide)]
 have g:qx m=dH m:=Qe b;rw[g];generalize hn:bO m.af.ai (dy (me m) 1000)=n at c1 c2 c3 ⊢
 have d:wP m.ar m.aH:=by
  rcases c with h|h
  .exact⟨.inl h.dY,.inl h.cm⟩
  .exact h.iL
 refine⟨b,⟨c3,c2,hv.1,hv.2⟩,d.1,d.2,?_,?_,?_,?_⟩
 .rcases c with h|h
  .exact .inl h.eR
  .exact h.eR
 .show bG ⟨n,dH m⟩ m.aB=false;rcases a with e|e
  .grind [bG,dH,cu,kS,ah]
  .have f:dH m=m.aB.Value:=by unfold dH;rw[Qe e.nz]
   rw[JZ (show(⟨n,dH m⟩:ah).Value=m.aB.Value from f),qaG]
   rcases c with h|h
   .exact absurd h.eR (Rw e)
   .have:=PX h.up;simp only;omega
 .rcases c with h|h<;>exact h.cv
 .show(if dH m=m.af.Value then m.bg else 0)=0\/(1<=(if dH m=m.af.Value then m.bg else 0)/\_<=_/\qU m.ar m.aH (dH m) (if dH m=m.af.Value then m.bg else 0)=false)
  split
  .rename_i u;rcases c with h|h
   .exact .inl h.low
   .rcases h.low with e|⟨g1,g2,g3⟩
    .exact .inl e
    .grind [ij,dH,bW]
  .exact .inl rfl
def abh{m:ae}(h:bz m)(a:P2 m):P2 (gB m):=by
 unfold gB;split
 .exact a
 .obtain⟨c1,c2,c3,_⟩:=Nb h ⟨by have:=a.aY.1;omega,a.aY.2.1⟩
  have b:qx m=m.af.Value:=Qg (by rw[a.bf];decide)
  rw[b,Qe rfl];exact⟨a.bf,⟨c3,c2,a.aY.2.2⟩,a.dY,a.cm,a.eR,a.range⟩
def Wg{m:ae}(h:bz m):bz (gB m):=by
 have a:m.aW=3\/kh m m.af.ai=false->gB m=m:=λd=>Qe d
 cases b:kh m m.af.ai with
 |false=>rw[a (.inr b)];exact h
 |true=>
  refine Hj h (DM m).all ?_;rcases h.body with g|h1|f|c
  .exact .inr (.inl (UO h (.inl g) b))
  .exact .inr (.inl (UO h (.inr h1) b))
  .exact .inr (.inr (.inl (abh h f)))
  .rw[a (.inl c.bf)];exact .inr (.inr (.inr c))
end
section
def lexLt{a a' b b' B:Nat}(d:b<B)(h:a<a'):a*B+b<a'*B+b':=by have c:(a+1)*B<=a'*B:=Q2 B h;rw[Q1]at c;omega
def Dp{a a' b b' B:Nat}(h:a=a')(c:b<b'):a*B+b<a'*B+b':=by rw[h];omega
def JY{a b A B:Nat}(c:a<A)(f:b<B):a*B+b<A*B:=by have d:(a+1)*B<=A*B:=Q2 B c;rw[Q1]at d;omega
def dF.sm{b:ah}(h:dF b):Sm b:=⟨by have:=h.1;omega,h.2.1,h.2.2.2⟩
def aeH:Sm cu:=⟨s_,s_,s_⟩
def xv{b:ah}(h:b=cu\/dF b):Sm b:=by
 rcases h with rfl|h
 .exact aeH
 .exact h.sm
def Vr{b:ah}(h:dF b):rA cu<rA b:=Bm aeH h.sm ((Bl _ _).2 (.inl h.1))
 def t1(m:ae):Nat:=2*m.af.ai.toNat+(if m.af.Value=qx m then 1 else 0)
 def pq(m:ae):Nat:=rA m.ar*WB+rA m.aH
 def r1(m:ae):Nat:=(pq m*WB+rA m.aB)*2002+t1 m
def K1:Nat:=(WB*WB)*WB*2002
 def r2(m:ae):Nat:=(((m.bx.toNat*1001+(1000 - m.bg).toNat)*WB+rA m.ar)*WB+rA m.aB)*1001+m.af.ai.toNat
def K2:Nat:=((1001*1001)*WB*WB)*1001
 def lY(m:ae):Nat:=if m.aW=1 then r1 m else if m.aW=2 then K1+r2 m else K1+K2
def Dm(m:ae):Prop:=(m.ar=cu\/dF m.ar)/\(m.aH=cu\/dF m.aH)/\(m.aB=cu\/dF m.aB)/\(m.af=cu\/dF m.af)
def P0.ok{m:ae}(h:P0 m):Dm m:=⟨.inl h.dY,.inl h.cm,.inl h.eR,.inl h.aY⟩
def P1.ok{m:ae}(h:P1 m):Dm m:=⟨h.dY,h.cm.imp id (·.1),h.eR.imp id (·.1),.inr h.aY⟩
def P2.ok{m:ae}(h:P2 m):Dm m:=⟨.inr h.dY.1,.inl h.cm,h.eR.imp id (·.1),.inr h.aY⟩
def acf{m:ae}(h:Dm m):t1 m<2002:=by
 have:m.af.ai<=1000:=by
  rcases h.2.2.2 with e|e
  .rw[e];decide
  .exact e.2.1
 unfold t1;split<;>omega
def amm{m:ae}(h:Dm m):pq m<WB*WB:=JY (vo (xv h.1)) (vo (xv h.2.1))
def acH{m:ae}(h:Dm m):r1 m<K1:=JY (JY (amm h) (vo (xv h.2.2.1))) (acf h)
def P2.cv{m:ae}(h:P2 m):m.bx<=1000:=by have:=h.range.2.2;have:=h.dY.1.2.1;omega
def ahE{m:ae}(h:P2 m):r2 m<K2:=by
 have b:=h.range;have a:=h.cv;refine JY (JY (JY (JY (A:=1001) ?_ ?_) (vo h.dY.1.sm)) (vo (xv h.ok.2.2.1))) ?_
 .omega
 .omega
 .have:=h.aY.2.1;omega
def BI{m:ae}(h:m.aW=1):lY m=r1 m:=Qe h
def BH{m:ae}(h:m.aW=2):lY m=K1+r2 m:=by unfold lY;rw[Qg O,Qe h]
def aec{m:ae}(h:m.aW=3):lY m=K1+K2:=by unfold lY;rw[Qg O,Qg O]
def aa7{m:ae}(h:bz m):lY m<=K1+K2:=by
 rcases h.body with b|h1|a|c
 .rw[BI b.bf];have:=acH b.ok;omega
 .rw[BI h1.bf];have:=acH h1.ok;omega
 .rw[BH a.bf];have:=ahE a;omega
 .rw[aec c.bf];exact Qs _
def zf.up_{p q b c q':ah}(h:wP p q)(a:b=cu\/dF b)(j:zf p q b c q'):(c=p/\q'=q)\/rA p*WB+rA q<rA c*WB+rA q':=by
 have u:=j.ok h a;have r:=xv h.1;have f:Sm q:=xv (h.2.imp id (·.1))
 cases j with
 |same=>exact .inl ⟨rfl,rfl⟩
 |first h1 w=>
  subst h1 w;rcases a with e|e
  .exact .inl ⟨e,rfl⟩
  .exact .inr (lexLt (vo f) (Vr e))
 |up h1 hl o|JQ h1 hl o=>exact .inr (lexLt (vo f) (Bm r (xv a) hl))
 |under h1 hl o d=>
  rcases d with e|e
  .subst e;rcases a with g|g
   .exact .inl ⟨rfl,g⟩
   .exact .inr (Dp rfl (Vr g))
  .exact .inr (Dp rfl (Bm f (xv a) e))
def F8{m m':ae}(a:jW m m')(o:m'.aW=m.aW)(j:m'.af=m.af)(g:m'.ar=m.ar)(f:m'.aH=m.aH)(d:m'.aB=m.aB)(c:m'.bg=m.bg)(b:m'.bx=m.bx):m'=m:=by obtain⟨A,z,y,w,u,r⟩:=a;cases m;cases m';simp only at*;subst A z y w u r o j g f d c b;rfl
theorem afV{m m':ae}(a:jW m m')(h:G8 m m'=true):m'=m:=by unfold G8 at h;simp only[Qi,Qw,V0]at h;obtain⟨⟨⟨⟨⟨⟨h1,j⟩,g⟩,f⟩,d⟩,c⟩,b⟩:=h;exact F8 a h1.symm j.symm g.symm f.symm d.symm c.symm b.symm
def BD(m:ae):G8 m m=true:=by unfold G8;simp only[Ql,V0.2 rfl,qap]
def aml{m m':ae}(h:Dm m)(a:pq m<pq m'):r1 m<r1 m':=lexLt (acf h) (lexLt (vo (xv h.2.2.1)) a)
def anM{m m':ae}(h:Dm m)(a:pq m=pq m')(b:rA m.aB<rA m'.aB):r1 m<r1 m':=lexLt (acf h) (Dp a b)
def anL{m m':ae}(a:pq m=pq m')(c:m.aB=m'.aB)(b:t1 m<t1 m'):r1 m<r1 m':=Dp (by rw[a,c]) b
def Sv{m:ae}(b:P1 m):we m m.ar m.aH=m.bg:=by
 unfold we;split
 .rename_i a;rcases b.low with e|⟨g1,g2,g3⟩
  .exact absurd e a.2
  .rw[aeO g1 g3,Qg O]
 .rfl
def anz{m:ae}(h:bz m):ed m=m\/lY m<lY (ed m):=by
 have f:m.aW=3\/aQ m.af=true->ed m=m:=λA=>Qe A
 rcases h.body with B|h1|a|j
 .exact .inl (f (.inr (by rw[B.aY];exact cr)))
 .have u:=(NM h h1.iL).up_ h1.iL (Cf h);have b:ed m={m with ar:=(dO m.ar m.aH (eW (fF m))).1,aH:=(dO m.ar m.aH (eW (fF m))).2,bg:=we m (dO m.ar m.aH (eW (fF m))).1 (dO m.ar m.aH (eW (fF m))).2}:=Qg (by rw[h1.bf,h1.aY.nz];decide)
  rcases u with⟨w,g⟩|d
  .left;rw[b,w,g,Sv h1]
  .right;rw[BI h1.bf,BI (by rw[b];exact h1.bf)]
   exact aml h1.ok (by rw[b];exact d)
 .have u:=(NM h a.iL).up_ a.iL (Cf h);have z:=abg h a;have b:ed m={m with ar:=(dO m.ar m.aH (eW (fF m))).1,aH:=(dO m.ar m.aH (eW (fF m))).2,bg:=we m (dO m.ar m.aH (eW (fF m))).1 (dO m.ar m.aH (eW (fF m))).2}:=Qg (by rw[a.bf,a.aY.nz];decide)
  have c:∀p q,we m p q=m.bg:=λp q=>Qg (λh=>by have:=h.1;rw[a.bf]at this;cases this)
  rcases u with⟨w,g⟩|d
  .left;rw[b,w,g,c]
  .right;rw[BH a.bf,BH (by rw[b];exact a.bf)]
   have g:(dO m.ar m.aH (eW (fF m))).2=m.aH:=by have j:=z.2.2;rw[b]at j;exact j.trans a.cm.symm
   have y:rA m.ar<rA (ed m).ar:=by
    rw[b];simp only;rw[g]at d;refine Nat.lt_of_not_le λr=> ?_
    have:=Q2 WB r;omega
   have o:(ed m).bx=m.bx/\(ed m).bg=m.bg/\(ed m).aB=m.aB/\(ed m).af=m.af:=by rw[b];exact⟨rfl,c _ _,rfl,rfl⟩
   have:r2 m<r2 (ed m):=by unfold r2;rw[o.1,o.2.1,o.2.2.1,o.2.2.2];exact lexLt (by have:=a.aY.2.1;omega) (lexLt (vo (xv a.ok.2.2.1)) (Dp rfl y))
   omega
 .exact .inl (f (.inl j.bf))
def anx{m:ae}(h:bz m):ig m=m\/lY m<lY (ig m):=by
 rcases h.body with c|h1|b|a
 .exact .inl (xV (.inr (.inl (by rw[c.aY];exact cr))))
 .obtain⟨g1,g2⟩:=UN h h1;rcases g2 with e|⟨g,f,d,_⟩
  .exact .inl e
  .right;rw[BI h1.bf,BI g1.bf];exact anM h1.ok (by unfold pq;rw[g,f]) (Bm (xv h1.ok.2.2.1) (xv g1.ok.2.2.1) d)
 .exact .inl (xV (.inl (by rw[b.bf];decide)))
 .exact .inl (xV (.inl (by rw[a.bf];decide)))
def SS(a b:Int):(bO a b=a/\b<=a)\/(bO a b=b/\a<b):=by unfold bO;split<;>omega
def rD{a b:ah}(d:a.ai=b.ai)(c:a.Value=b.Value):a=b:=by cases a;cases b;simp only at d c;rw[d,c]
def anC{m:ae}(h:bz m):gI m=m\/lY m<lY (gI m):=by
 have J:m.aW=1->Dm m->gI m=m\/lY m<lY (gI m):=by
  intro f B
  by_cases H:(gC m).2.2.2.1=true
  .right;have e:gI m=RG m (gC m).1 (gC m).2.1 (gC m).2.2.1:=by unfold gI;rw[Qe f,Qe H]
   rw[BI f,BH (by rw[e];rfl)]
   have:=acH B;omega
  .left;unfold gI;rw[Qe f,Qg H]
 rcases h.body with K|F|b|y
 .exact J K.bf K.ok
 .exact J F.bf F.ok
 .have e:gI m=D1 m (fC m).1 (fC m).2:=by unfold gI;rw[Qg (by rw[b.bf];decide),Qe b.bf]
  obtain⟨g1,g2,g3,g4⟩:=Zz h b;have d:=adl b g1 g2 g3;rw[e]
  have o:m.bx.toNat<=1000/\(1000 - m.bg).toNat<1001/\m.af.ai.toNat<1001:=by have:=b.cv;have:=b.range;have:=b.aY.2.1;omega
  have D:m.aB=(D1 m (fC m).1 (fC m).2).aB\/rA m.aB<rA (D1 m (fC m).1 (fC m).2).aB:=by
   rcases b.eR with e|⟨hf,hv⟩
   .right;rw[e]
    exact Vr (d.eR.resolve_left (λe=>by
     have F:=d.range;have y:(D1 m (fC m).1 (fC m).2).aB.ai=bO m.aB.ai (fC m).2:=rfl;rw[e]at y;have M:=SS m.aB.ai (fC m).2;have L:(cu:ah).ai=0:=rfl
     omega)).1
   .rcases SS m.aB.ai (fC m).2 with⟨a,_⟩|⟨a,z⟩
    .exact .inl (rD a.symm hv)
    .right;refine Bm hf.sm (xv d.ok.2.2.1) ((Bl _ _).2 (.inl ?_));show m.aB.ai<bO m.aB.ai (fC m).2;omega
  have A:m.ar=(D1 m (fC m).1 (fC m).2).ar\/rA m.ar<rA (D1 m (fC m).1 (fC m).2).ar:=by
   rcases SS m.ar.ai (fC m).2 with⟨a,_⟩|⟨a,z⟩
   .exact .inl (rD a.symm rfl)
   .right;refine Bm b.dY.1.sm d.dY.1.sm ((Bl _ _).2 (.inl ?_));show m.ar.ai<bO m.ar.ai (fC m).2;omega
  have E:m.af=(D1 m (fC m).1 (fC m).2).af\/m.af.ai<(D1 m (fC m).1 (fC m).2).af.ai:=by
   rcases SS m.af.ai (fC m).2 with⟨a,_⟩|⟨a,z⟩
   .exact .inl (rD a.symm rfl)
   .right;show m.af.ai<bO m.af.ai (fC m).2;omega
  rw[BH b.bf,BH d.bf];have r:=vo b.dY.1.sm;have j:=vo (xv b.ok.2.2.1);have c:(D1 m (fC m).1 (fC m).2).bx=(fC m).2:=rfl;have g:(D1 m (fC m).1 (fC m).2).bg=(fC m).1:=rfl;have fin:r2 m<r2 (D1 m (fC m).1 (fC m).2)->K1+r2 m<K1+r2 (D1 m (fC m).1 (fC m).2):=λh=>O
  have G:=b.range;rcases g4 with⟨a,z⟩|a
  .rcases Int.lt_or_eq_of_le z with u|u
   .
    refine .inr (fin (lexLt o.2.2 (lexLt j (lexLt r (Dp ?_ ?_)))))
    .rw[c,a]
    .rw[g];omega
   .rcases A with f|f
    .rcases D with w|w
     .rcases E with I|I
      .left;exact F8 ⟨rfl,rfl,rfl,rfl,rfl,rfl⟩ rfl I.symm f.symm rfl w.symm u a
      .refine .inr (fin (Dp ?_ (by have:=b.aY.1;omega)))
       rw[c,g,<-f,<-w,a,u]
     .refine .inr (fin (lexLt o.2.2 (Dp ?_ w)));rw[c,g,<-f,a,u]
    .refine .inr (fin (lexLt o.2.2 (lexLt j (Dp ?_ f))));rw[c,g,a,u]
  .refine .inr (fin (lexLt o.2.2 (lexLt j (lexLt r (lexLt o.2.1 ?_)))));rw[c];omega
 .left;unfold gI;rw[Qg (by rw[y.bf];decide),Qg (by rw[y.bf];decide)]
def anB{m:ae}(h:bz m):jX m=m\/lY m<lY (jX m):=by
 by_cases a:m.aW=2/\(ru m).2.2.1=true
 .right;have e:jX m=T1 m (ru m).1 (ru m).2.1:=Qe a;rw[BH a.1,aec (by rw[e];rfl)]
  rcases h.body with d|h1|c|b
  .have:=d.bf;have:=a.1;omega
  .have:=h1.bf;have:=a.1;omega
  .have:=ahE c;omega
  .have:=b.bf;have:=a.1;omega
 .exact .inl (Qg a)
def anA{m:ae}(h:bz m):gB m=m\/lY m<lY (gB m):=by
 have c:m.aW=3\/kh m m.af.ai=false->gB m=m:=λu=>Qe u
 cases g:kh m m.af.ai with
 |false=>exact .inl (c (.inr g))
 |true=>
  have o:m.aW=1->Dm m->0<=m.af.ai/\m.af.ai<=1000->gB m=m\/lY m<lY (gB m):=by
   intro d r w;obtain⟨c1,c2,c3,z,_⟩:=Nb h w;have e:gB m={m with bg:=if qx m=m.af.Value then m.bg else 0,af:=⟨bO m.af.ai (dy (me m) 1000),qx m⟩}:=Qg (by rw[d,g];decide)
   have a:qx (gB m)=qx m:=by unfold qx dH;rw[e];simp only[d,Qr,qaT,Qx,ne_eq]
   by_cases hs:bO m.af.ai (dy (me m) 1000)=m.af.ai/\qx m=m.af.Value
   .left;rw[e];refine F8 ⟨rfl,rfl,rfl,rfl,rfl,rfl⟩ rfl (rD hs.1 hs.2) rfl rfl rfl ?_ rfl;exact Qe hs.2
   .right;rw[BI d,BI (by rw[e];exact d)]
    refine anL (by rw[e];rfl) (by rw[e]) ?_
    unfold t1;rw[a];have f:(gB m).af=⟨bO m.af.ai (dy (me m) 1000),qx m⟩:=by rw[e]
    rw[f,Qe rfl];simp only
    by_cases hv:qx m=m.af.Value
    .rw[Qe hv.symm];have:bO m.af.ai (dy (me m) 1000)≠m.af.ai:=λe=>hs ⟨e,hv⟩
     omega
    .rw[Qg (λe=>hv e.symm)]
     omega
  rcases h.body with j|h1|b|y
  .exact o j.bf j.ok (by rw[j.aY];decide)
  .exact o h1.bf h1.ok ⟨by have:=h1.aY.1;omega,h1.aY.2.1⟩
  .obtain⟨c1,c2,c3,z,_⟩:=Nb h ⟨by have:=b.aY.1;omega,b.aY.2.1⟩
   have a:qx m=m.af.Value:=Qg (by rw[b.bf];decide)
   have e:gB m={m with af:=⟨bO m.af.ai (dy (me m) 1000),m.af.Value⟩}:=by unfold gB;rw[Qg (by rw[b.bf,g];decide),a,Qe rfl]
   rw[e]
   by_cases hs:bO m.af.ai (dy (me m) 1000)=m.af.ai
   .left;exact F8 ⟨rfl,rfl,rfl,rfl,rfl,rfl⟩ rfl (rD hs rfl) rfl rfl rfl rfl rfl
   .right;rw[BH b.bf,BH (show({m with af:=⟨bO m.af.ai (dy (me m) 1000),m.af.Value⟩}:ae).aW=2 from b.bf)]
    have:r2 m<r2 {m with af:=⟨bO m.af.ai (dy (me m) 1000),m.af.Value⟩}:=by refine Dp rfl ?_;have:=b.aY.1;show m.af.ai.toNat<(bO m.af.ai (dy (me m) 1000)).toNat;omega
    omega
  .exact .inl (c (.inl y.bf))
end
section
def am1(p:aj->Bool):Prop:=∀e s,p {e with aI:=s}=p e
structure Alike (l l':List aj):Prop where
 view:∀aF,aF<10->∀t,iR aF t l=iR aF t l'
 who:∀p,am1 p->eX p (dj l)=eX p (dj l')
 bal:fL l=fL l'
 val:ir l=ir l'
 kP:∀v,bC l v=bC l' v
section
variable{l l':Z aj}(h:Alike l l')
 include h
theorem Alike.acc{aF:Nat}(hn:aF<10)(t:aq):rM aF t l=rM aF t l':=by
 funext b
 unfold rM;rw[h.view aF hn t,h.who _ (λe s=>rfl),h.who _ (λe s=>rfl)]
theorem Alike.eR{aF:Nat}(hn:aF<10)(t:aq):pz aF t l=pz aF t l':=by
 funext b
 unfold pz;rw[h.view aF hn t,h.who _ (λe s=>rfl)]
theorem Alike.ready{aF:Nat}(hn:aF<10)(t:aq):pE aF t l=pE aF t l':=by
 funext v lo hi
 unfold pE;rw[h.view aF hn t,h.who _ (λe s=>rfl),h.who _ (λe s=>rfl)]
theorem Alike.sure{aF:Nat}(hn:aF<10)(t:aq):yo aF t l=yo aF t l':=by
 funext v lo hi
 unfold yo;rw[h.view aF hn t,h.who _ (λe s=>rfl)]
theorem Alike.next{aF:Nat}(hn:aF<10)(t:aq)(p q:ah)(v:C):lJ aF t l p q v=lJ aF t l' p q v:=by unfold lJ;rw[h.bal,h.acc hn t]
theorem Alike.cv{aF:Nat}(hn:aF<10)(t:aq)(a:ah):B8 aF t l a=B8 aF t l' a:=by unfold B8;rw[h.bal,h.eR hn t]
theorem Alike.Ij(x:C->Int->Int->Bool)(p q:ah):kX x l p q=kX x l' p q:=by
 unfold kX;rw[h.val];congr 1
 funext s v
 rw[h.kP]
theorem Alike.first(x:C->Int->Int->Bool)(p q:ah)(s:Bool×ah):tP x l p q s=tP x l' p q s:=by unfold tP;rw[h.kP]
end
def Uk{l l':Z aj}(hl:tY l)(hn:l.length<=1000)(b:tY l')(a:l'.length<=1000)
  (f:∀x,(∃e∈l,x∈said e/\aQ x=false)↔∃e∈l',x∈said e/\aQ x=false) (d:∀x,(∃e∈l,bd e=true/\x=e.af.Value)↔∃e∈l',bd e=true/\x=e.af.Value)
  (c:∀v x,x∈ends v l↔x∈ends v l'):fL l=fL l'/\ir l=ir l'/\∀v,bC l v=bC l' v:=by
 obtain⟨_,a2,_,a4⟩:=rN hl.aL hn;obtain⟨_,r,_,b4⟩:=rN b.aL a;obtain⟨_,c2,_,o⟩:=yN hl.aL hn;obtain⟨_,d2,_,d4⟩:=yN b.aL a;refine⟨G3.flip.unique a2 r λx=> ?_,kQ.unique c2 d2 λx=> ?_,λv=> ?_⟩
 .rw[a4,b4];exact f x
 .rw[o,d4];exact d x
 .obtain⟨_,j,_,g⟩:=kW hl.aL hn v;obtain⟨_,f2,_,f4⟩:=kW b.aL a v;refine NB.unique (j.imp λh=>Qd h) (f2.imp λh=>Qd h) λx=> ?_
  rw[g,f4];exact c v x
def adG{l l':Z aj}(hl:tY l)(hn:l.length<=1000)(o:Cx l)(h:l.Perm l'):Alike l l':=by
 have j:tY l':=⟨by rw[<-h.length_eq];exact hl.len,λe d=>hl.aL e (h.mem_iff.2 d)⟩
 have g:∀(P:aj->Prop),(∃e∈l,P e)↔∃e∈l',P e:=λP=>⟨λ⟨e,d,f⟩=>⟨e,h.mem_iff.1 d,f⟩,λ⟨e,d,f⟩=>⟨e,h.mem_iff.2 d,f⟩⟩
 obtain⟨a,b,c⟩:=Uk hl hn j (by rw[<-h.length_eq];exact hn) (λx=>g _) (λx=>g _) (λv x=>by rw[F7,F7];exact g _)
 exact⟨λaF hn t=>RR hn t o h,λp _=>VK (aau h) p,a,b,c⟩
def afy{l:Z aj}(hl:tY l)(hn:l.length<=1000)(f:aj->aj)(hf:∀e∈l,f e={e with aI:=(f e).aI}/\bd (f e)=bd e):Alike l (l.map f):=by
 have j:∀e∈l,(f e).ak=e.ak/\(f e).aa=e.aa/\(f e).af=e.af/\(f e).bF=e.bF/\(f e).ar=e.ar/\(f e).aH=e.aH/\(f e).bg=e.bg/\(f e).bx=e.bx:=λe d=>by have:=(hf e d).1;rw[this];exact⟨rfl,rfl,rfl,rfl,rfl,rfl,rfl,rfl⟩
 have D:tY (l.map f):=⟨by rw[QD];exact hl.len,λe d=>by
  obtain⟨x,g,rfl⟩:=QO.1 d
  rw[(j x g).2.1];exact hl.aL x g⟩
 have B:∀(P:aj->Prop),(∀e∈l,P e↔P (f e))->((∃e∈l,P e)↔∃e∈l.map f,P e):=λP E=>⟨λ⟨e,d,w⟩=>⟨f e,QO.2 ⟨e,d,rfl⟩,(E e d).1 w⟩,λ⟨e,d,w⟩=>by
  obtain⟨x,g,rfl⟩:=QO.1 d
  exact⟨x,g,(E x g).2 w⟩⟩
 have r:∀e∈l,said (f e)=said e:=λe d=>by
  obtain⟨g1,g2,g3,g4,g5,g6,g7,g8⟩:=j e d;unfold said at_
  rw[(hf e d).2,g4,g3,g5,g6]
 have y:∀v,∀e∈l,lL v (f e)=lL v e:=λv e d=>by obtain⟨g1,g2,g3,g4,g5,g6,g7,g8⟩:=j e d;unfold lL;simp only[(hf e d).2,g3,g7]
 obtain⟨a,b,c⟩:=Uk hl hn D (by rw[QD];exact hn) (λx=>B _ λe d=>by rw[r e d]) (λx=>B _ λe d=>by rw[(hf e d).2,(j e d).2.2.1])
  (λv x=>by rw[F7,F7];exact B _ λe d=>by rw[y v e d,(j e d).2.2.2.2.2.2.1,(j e d).2.2.2.2.2.2.2])
 refine⟨λaF hn t=> ?_,λp w=> ?_,a,b,c⟩
 .unfold iR;generalize (replicate 10 kg).set aF ⟨true,t⟩=ms
  suffices o:∀(k:Z aj) (ms:Z bw),(∀e∈k,e∈l)->k.foldl gd ms=(k.map f).foldl gd ms from o l ms λe d=>d
  intro k
  induction k with
  |nil=>intro ms _;rfl
  |cons x k z=>
   intro ms u;have g:=u x QC
   have:gd ms (f x)=gd ms x:=by unfold gd;rw[(hf x g).2,(j x g).1,(j x g).2.1]
   rw[Qy,QZ,QZ,this];exact z _ λe d=>u e (QI _ d)
 .unfold dj
  suffices o:∀(k:Z aj),(∀e∈k,e∈l)->eX p (k.filter bd)=eX p ((k.map f).filter bd)from o l λe d=>d
  intro k
  induction k with
  |nil=>intro _;rfl
  |cons x k z=>
   intro u;have g:=u x QC
   have A:p (f x)=p x:=by rw[(hf x g).1];exact w x _
   rw[Qy,List.filter_cons,List.filter_cons,(hf x g).2];split
   .rw[eX,eX,A,(j x g).1,z λe d=>u e (QI _ d)]
   .exact z λe d=>u e (QI _ d)
structure gp (m:ae):Prop where
 zero:aQ m.af=true->m.aI=0
 pos:aQ m.af=false->1<=m.aI
def Mk(m:ae):aj:=⟨m.ak,m.aJ,m.aI,m.aa,m.aW,m.af,m.ar,m.aH,m.bg,if m.aW=1 then ij m else m.bx⟩
def DP(m:ae):c8 m=some (Mk m):=by
 unfold c8 Mk ij aO;simp only[aS,etas,dq,gD,Qa]
 by_cases a:m.aW=1
 .rw[Qd a,Qe a];cases aQ m.aB<;>cases bW m.aB m.af<;>rfl
 .rw[Qf a,Qg a];rfl
def II{m:ae}(h:bz m):Mk m=bM m:=by
 unfold Mk bM;rcases h.body with c|h1|b|a
 .rw[Qe c.bf,Qe c.bf]
 .rw[Qe h1.bf,Qe h1.bf]
 .rw[Qg (by rw[b.bf];decide),Qg (by rw[b.bf];decide),Qe b.bf,b.cm]
 .rw[Qg (by rw[a.bf];decide),Qg (by rw[a.bf];decide),Qg (by rw[a.bf];decide),a.cm,a.dY]
def UQ{m:ae}(hs:gp m)(a:aQ m.af=false):kR m=bM m:=by
 unfold kR
 have:bO (bM m).aI 1=(bM m).aI:=by have:=hs.pos a;rw[ZB];unfold bO;split<;>omega
 rw[this]
def yS(m:ae):Z aj:=if aQ m.af=true then m.au else m.au++[Mk m]
def WX{l:Z aj}(hl:l.length<=1000):eG l=some l:=by
 unfold eG;have a:bl 176 (List.length ([]:Z aj)+List.length l)=true:=br o_;rw[a]
 cases l with
 |nil=>simp
 |cons x l=>rfl
def Mj{m:ae}(h:m.au.length<=100):dQ ⟨m⟩=some (yS m,⟨m⟩):=by
 unfold dQ yS;simp only[etas,dq,DP,Qa,WX (show m.au.length<=1000 by omega)]
 cases aQ m.af with
 |true=>rfl
 |false=>simp only[Qb,QB,Qx];rw[br o_];rfl
def bz.apart{m:ae}(h:bz m):Cx (bU m):=by
 have hs:∀a∈m.au,∀b∈m.au,a.ak=b.ak->a=b:=by
  have:=h.dg;revert this;generalize m.au=l;intro j
  induction l with
  |nil=>intro a f;cases f
  |cons x l o=>
   rw[Q0]at j;intro a f b g e;rcases Qv.1 f with d|d<;>rcases Qv.1 g with c|c
   .rw[d,c]
   .have:=j.1 b c;rw[d]at e;omega
   .have:=j.1 a d;rw[c]at e;omega
   .exact o j.2 a d b c e
 intro a f b g e;rcases GK f with f|⟨_,rfl⟩<;>rcases GK g with g|⟨_,rfl⟩
 .exact hs a f b g e
 .exact absurd (e.trans (Bo m)) (h.hv a f).2.2.2
 .exact absurd (e.symm.trans (Bo m)) (h.hv b g).2.2.2
 .rfl
def Wj{m:ae}(h:bz m)(hs:gp m):(bU m).Perm (yS m):=by
 unfold bU yS;split
 .exact .refl _
 .rename_i a;rw[II h,<-UQ hs (by simpa using a)]
  exact D0 _ _
def oY{m:ae}(h:bz m)(hs:gp m):Alike (bU m) (yS m):=adG h.ev.xu.1 h.ev.xu.2 h.apart (Wj h hs)
def vZ{m:ae}(h:bz m)(hs:gp m):tY (yS m)/\(yS m).length<=1000:=by have a:=Wj h hs;have:=h.ev.xu;exact⟨⟨by rw[<-a.length_eq];exact this.1.len,λe b=>this.1.aL e (a.mem_iff.2 b)⟩,by rw[<-a.length_eq];exact this.2⟩
section
variable{m:ae}(h:bz m)(hs:gp m)
 include h hs
theorem akO(p q:ah)(v:C):sd m.ak m.aa (yS m) p q v=some (lJ m.ak.toNat m.aa (bU m) p q v):=by
 have:=aiO h.ev.aF.2 h.ev.aL (vZ h hs).1 (vZ h hs).2 p q v
 rwa [h.ev.aF.1,<-(oY h hs).next h.ev.aF.2]at this
theorem akT(a:ah):nZ m.ak m.aa (yS m) a=some (B8 m.ak.toNat m.aa (bU m) a):=by
 have:=aiP h.ev.aF.2 h.ev.aL (vZ h hs).1 (vZ h hs).2 a
 rwa [h.ev.aF.1,<-(oY h hs).cv h.ev.aF.2]at this
theorem aiQ:vN m.ak m.aa (yS m) m.ar m.aH=some (gC m):=by
 have hl:=vZ h hs;have:=alY (Yc h.ev.aF.2 h.ev.aL hl.1) hl.1 hl.2 (look_eq h.ev.aF.2 h.ev.aL hl.1) m.ar m.aH;rw[h.ev.aF.1,<-(oY h hs).ready h.ev.aF.2,<-(oY h hs).Ij,<-(oY h hs).first]at this
 exact this
theorem amt:uq m.ak m.aa (yS m) m.af.Value m.bg m.bx=some ((fC m).1,(fC m).2,()):=by have hl:=vZ h hs;have:=akd (Yc h.ev.aF.2 h.ev.aL hl.1) hl.1 hl.2 (look_eq h.ev.aF.2 h.ev.aL hl.1) m.af.Value m.bg m.bx;rw[h.ev.aF.1,<-(oY h hs).ready h.ev.aF.2,<-(oY h hs).kP]at this;exact this
theorem ams:vO m.ak m.aa (yS m) m.af.Value=some (ru m):=by have hl:=vZ h hs;have:=alZ (aid h.ev.aF.2 h.ev.aL hl.1) hl.1 hl.2 (look_eq h.ev.aF.2 h.ev.aL hl.1) m.af.Value;rw[h.ev.aF.1,<-(oY h hs).sure h.ev.aF.2,<-(oY h hs).kP]at this;exact this
end
def Wb(v:C)(n:Int)(p q:ah):sV v n p q=some (oh v n p q):=by
 unfold sV oh oO;generalize bO n 1=k
 have b:∀(i:Nat) (x:ah) (k:Int),i<2->[p,q][i]?=some x->
   (λ(v1:Int×Int×Unit)=>
    bif (decide (v1.2.1<((List.length [p,q]:Nat):Int)))then
    aX (λ(f:Int×Unit)=>some (inl (f.1,(aC .i64 v1.2.1 (1:Int)),()))) λc=>
    Option.bind (idx [p,q] v1.2.1) λa=>
    Option.bind (jQ a) λo=>
    Option.bind (bif (!o)then some true else Option.bind (eZ a (ah.mk v1.1 v)) λj=>some (!j)) λz=>
    bif z then c (v1.1,())
    else Option.bind (eZ a (ah.mk a.ai v)) λg=>bif g then c ((aC .i64 a.ai (1:Int)),())else c (a.ai,())
    else(Option.map inr (some v1.1):Y ((Int×Int×Unit)⊕Int))) (k,(i:Int),())=some (inl (Am v k x,((i+1:Nat):Int),())):=by
  intro i x k hi r;have w:decide ((i:Int)<((List.length [p,q]:Nat):Int))=true:=Qd o_;have u:aC .i64 (i:Int) 1=((i+1:Nat):Int):=bH O O;have d:idx [p,q] (i:Int)=some x:=by rw[ba];exact r
  simp only[w,u,d,Qc,aS,Qa,Ee,xr];unfold Am
  cases hv:dt x with
  |false=>simp
  |true=>
   have y:aC .i64 x.ai 1=x.ai+1:=by
    have:1<=x.ai/\x.ai<=1000000:=by simp only[dt,Qi,QR,Qw]at hv;omega
    exact bH O O
   cases h1:fT x ⟨k,v⟩with
   |false=>simp
   |true=>cases A:fT x ⟨x.ai,v⟩<;>simp[y]
 refine(bB (b 0 p k O rfl)).trans ((bB (b 1 q _ O rfl)).trans (bN ?_));rfl
def agw(b:ah):(⟨dy b.ai 1000,b.Value⟩:ah)=eW b:=by unfold dy eW;split<;>rfl
section
variable{m:ae}(h:bz m)(hs:gp m)
 include h
theorem acR(f:aQ (fF m)=true):ed m=m:=by
 have a:m.aW=3\/aQ m.af=true->ed m=m:=λb=>Qe b
 have g:dO m.ar m.aH (eW (fF m))=(m.ar,m.aH):=by
  have:eW (fF m)=cu:=by rw[Be.1 f];decide
  rw[this];exact Qe cr
 have d:¬(m.aW=3\/aQ m.af=true)->we m m.ar m.aH=m.bg->ed m=m:=by intro b hl;unfold ed;rw[Qg b,g];simp only;rw[hl]
 rcases h.body with o|h1|c|j
 .exact a (.inr (by rw[o.aY];exact cr))
 .exact d (by rw[h1.bf,h1.aY.nz];decide) (Sv h1)
 .exact d (by rw[c.bf,c.aY.nz];decide) (Qg (λh=>by have:=h.1;rw[c.bf]at this;cases this))
 .exact a (.inl j.bf)
 include hs
theorem acP:ni ⟨m⟩=some ((),⟨ed m⟩):=by
 have hl:m.au.length<=100:=by have:=h.len;omega
 unfold ni oO aO;simp only[etas,dq,Mj hl,akO h hs,aiG,Wb,DP,Qa,aS,agw]
 by_cases b:m.aW=3\/aQ m.af=true
 .have e:ed m=m:=Qe b;rw[e];rcases b with b|b
  .rw[Qd b];cases aQ m.af<;>rfl
  .rw[b];rfl
 .have j:aQ m.af=false:=by
   cases j:aQ m.af with
   |true=>exact absurd (.inr j) b
   |false=>rfl
  have o:¬m.aW=3:=λe=>b (.inl e)
  rw[j,Qf o];simp only[Qb,Qa]
  have a:∀v:C,v=LH m->(bif aQ (lJ m.ak.toNat m.aa (bU m) m.ar m.aH v)then some ((),(⟨m⟩:aM))else
    Option.bind (bif decide (m.aW=1)then some (!decide (m.bg=0))else some false) λw=>
    bif w then
     bif decide ((Mk ⟨m.ak,m.aJ,m.aI,m.aa,m.aW,m.af,(dO m.ar m.aH (eW (lJ m.ak.toNat m.aa (bU m) m.ar m.aH v))).1,(dO m.ar m.aH (eW (lJ m.ak.toNat m.aa (bU m) m.ar m.aH v))).2,m.aB,oh m.af.Value m.bg (dO m.ar m.aH (eW (lJ m.ak.toNat m.aa (bU m) m.ar m.aH v))).1 (dO m.ar m.aH (eW (lJ m.ak.toNat m.aa (bU m) m.ar m.aH v))).2,m.bx,m.bm,m.au⟩).bx<oh m.af.Value m.bg (dO m.ar m.aH (eW (lJ m.ak.toNat m.aa (bU m) m.ar m.aH v))).1 (dO m.ar m.aH (eW (lJ m.ak.toNat m.aa (bU m) m.ar m.aH v))).2)then
      some ((),(⟨⟨m.ak,m.aJ,m.aI,m.aa,m.aW,m.af,(dO m.ar m.aH (eW (lJ m.ak.toNat m.aa (bU m) m.ar m.aH v))).1,(dO m.ar m.aH (eW (lJ m.ak.toNat m.aa (bU m) m.ar m.aH v))).2,m.aB,0,m.bx,m.bm,m.au⟩⟩:aM))
     else some ((),(⟨⟨m.ak,m.aJ,m.aI,m.aa,m.aW,m.af,(dO m.ar m.aH (eW (lJ m.ak.toNat m.aa (bU m) m.ar m.aH v))).1,(dO m.ar m.aH (eW (lJ m.ak.toNat m.aa (bU m) m.ar m.aH v))).2,m.aB,oh m.af.Value m.bg (dO m.ar m.aH (eW (lJ m.ak.toNat m.aa (bU m) m.ar m.aH v))).1 (dO m.ar m.aH (eW (lJ m.ak.toNat m.aa (bU m) m.ar m.aH v))).2,m.bx,m.bm,m.au⟩⟩:aM))
    else some ((),(⟨⟨m.ak,m.aJ,m.aI,m.aa,m.aW,m.af,(dO m.ar m.aH (eW (lJ m.ak.toNat m.aa (bU m) m.ar m.aH v))).1,(dO m.ar m.aH (eW (lJ m.ak.toNat m.aa (bU m) m.ar m.aH v))).2,m.aB,m.bg,m.bx,m.bm,m.au⟩⟩:aM)))=some ((),(⟨ed m⟩:aM)):=by
   intro v hv;subst hv;rw[show lJ m.ak.toNat m.aa (bU m) m.ar m.aH (LH m)=fF m from rfl]
   cases g:aQ (fF m)with
   |true=>rw[acR h g];rfl
   |false=>
    simp only[Qb];have e:ed m={m with ar:=(dO m.ar m.aH (eW (fF m))).1,aH:=(dO m.ar m.aH (eW (fF m))).2,bg:=we m (dO m.ar m.aH (eW (fF m))).1 (dO m.ar m.aH (eW (fF m))).2}:=Qg b
    rw[e];unfold we
    by_cases d:m.aW=1/\m.bg≠0
    .rw[Qd d.1,Qf d.2,Qe d];simp only[Qc,Qa,Qt];have u:∀(p q:ah) (L:Int),(Mk {m with ar:=p,aH:=q,bg:=L}).bx=ij m:=λp q L=>by unfold Mk;exact Qe d.1
     rw[u];split
     .rename_i c;rw[Qd c];rfl
     .rename_i c;rw[Qf c];rfl
    .rw[Qg d]
     by_cases r:m.aW=1
     .rw[Qd r,Qd (show m.bg=0 from qbH λhn=>d ⟨r,hn⟩)];rfl
     .rw[Qf r];rfl
  by_cases f:m.aW=2
  .rw[Qd f];exact a _ (Qe f).symm
  .rw[Qf f];exact a _ (Qg f).symm
end
def XZ(m:ae)(b:ah):iC ⟨m⟩ b=some ((),⟨{m with bg:=bif bW m.af b then m.bg else 0,af:=b}⟩):=by unfold iC;simp only[etas,gD,Qa,aS];cases bW m.af b<;>rfl
def PQ(m:ae)(b:ah){α:Type}(j:ae->Y α):
  (bif decide (m.bg=(0:Int))then(bif bW m.af b then(bif decide (oh b.Value m.af.ai m.ar m.aH<=b.ai)then j {m with bg:=oh b.Value m.af.ai m.ar m.aH}else j m)else j m)else(bif false then(bif decide (oh b.Value m.af.ai m.ar m.aH<=b.ai)then j {m with bg:=oh b.Value m.af.ai m.ar m.aH}else j m)else j m))=j (tz m b):=by
 unfold tz
 by_cases c:m.bg=0
 .rw[Qd c]
  cases d:bW m.af b with
  |true=>
   by_cases a:oh b.Value m.af.ai m.ar m.aH<=b.ai
   .rw[Qe ⟨c,rfl,a⟩,Qd a];rfl
   .rw[Qg (λh=>a h.2.2),Qf a];rfl
  |false=>rw[Qg (λh=>by cases h.2.1)];rfl
 .rw[Qf c,Qg (λh=>c h.1)];rfl
section
variable{m:ae}(h:bz m)(hs:gp m)
 include h hs
theorem akk:qk ⟨m⟩=some ((),⟨ig m⟩):=by
 have hl:m.au.length<=100:=by have:=h.len;omega
 unfold qk oO;simp only[etas,aM.eta,dq,Mj hl,akT h hs,Wb,XZ,gD,lF,Qa,aS];have f:B8 m.ak.toNat m.aa (bU m) m.aB=iT m:=rfl;simp only[f];unfold ig
 cases g:aQ m.af with
 |true=>rw[Qe (.inr (.inl rfl))];rfl
 |false=>
  by_cases a:m.aW=1
  .rw[Qd a]
   cases b:aQ (iT m)with
   |true=>rw[Qe (.inr (.inr rfl))];rfl
   |false=>
    rw[Qg (by simp[a])]
    simp only[Qh,Qb,Qa];unfold EM
    cases c:bG m.af (iT m)with
    |true=>
     simp only[Qc,Qr]
     cases d:bW m.af (iT m)with
     |true=>exact PQ {m with aB:=iT m,af:=iT m} (iT m) (λx=>some ((),(⟨x⟩:aM)))
     |false=>exact PQ {m with aB:=iT m,af:=iT m,bg:=0} (iT m) (λx=>some ((),(⟨x⟩:aM)))
    |false=>simp only[Qb,QB,Qx];exact PQ {m with aB:=iT m} (iT m) (λx=>some ((),(⟨x⟩:aM)))
  .rw[Qf a,Qe (.inl a)];rfl
theorem afl:nS ⟨m⟩=some ((),⟨gI m⟩):=by
 have hl:m.au.length<=100:=by have:=h.len;omega
 unfold nS;simp only[etas,aM.eta,Mj hl,aiQ h hs,amt h hs,gD,lF,Qa,aS];unfold gI
 by_cases a:m.aW=1
 .rw[Qd a,Qe a];simp only[Qc]
  cases hk:(gC m).2.2.2.1 with
  |false=>rfl
  |true=>
   have hf:=TS h hk
   have b:lf m.ar ⟨(gC m).2.2.1,(gC m).1⟩= !(bG m.ar ⟨(gC m).2.2.1,(gC m).1⟩|| !bW m.ar ⟨(gC m).2.2.1,(gC m).1⟩):=by
    cases f:bW m.ar ⟨(gC m).2.2.1,(gC m).1⟩with
    |false=>unfold lf;rw[f];simp
    |true=>
     have hv:=jJ.1 f
     have d:aQ m.ar=false:=by
      cases g:aQ m.ar with
      |false=>rfl
      |true=>rw[Be.1 g]at hv;exact absurd hv.symm hf.fin.ne
     unfold lf;rw[f,d,JZ hv,Qh,qbI,Qt,qap,qae];rw[qaH];simp only[Qw,qad,qaG];omega
   simp only[Qh,Qb,Qr];unfold RG;rw[b];cases bW m.af ⟨(gC m).2.2.1,(gC m).1⟩<;>cases bG m.af ⟨(gC m).2.2.1,(gC m).1⟩<;>cases bG m.ar ⟨(gC m).2.2.1,(gC m).1⟩<;>cases bW m.ar ⟨(gC m).2.2.1,(gC m).1⟩<;>rfl
 .rw[Qf a,Qg a]
  by_cases c:m.aW=2
  .rw[Qd c,Qe c];rcases h.body with k|k|k|k
   .exact absurd k.bf a
   .exact absurd k.bf a
   .unfold D1;rw[k.dY.2];rfl
   .have:=k.bf;omega
  .rw[Qf c,Qg c];rfl
theorem agP:ow ⟨m⟩=some ((),⟨jX m⟩):=by
 have hl:m.au.length<=100:=by have:=h.len;omega
 unfold ow jX;simp only[etas,Mj hl,ams h hs,Qa]
 by_cases a:m.aW=2
 .rw[Qd a]
  cases hk:(ru m).2.2.1 with
  |false=>rw[Qg (λh=>by cases h.2)];rfl
  |true=>rw[Qe ⟨a,rfl⟩];rfl
 .rw[Qf a,Qg (λh=>a h.1)];rfl
end
def JK{m:ae}(h:yK m):fV ⟨m⟩=some (dH m):=by
 have hl:m.au.length<=1000:=by have:=h.len;omega
 unfold fV dH;simp only[dq,Qa]
 cases j:aQ m.aB with
 |false=>rfl
 |true=>
  simp only[Qh,Qb,qbx,Qx]
  by_cases c:m.aW=1
  .rw[Qd c,Qg (λh=>h c)]
   simp only[Qh,Qb]
   by_cases b:m.bm=gl
   .have a:decide (m.bm=bE)=true:=Qd b;rw[a,Qg (λh=>h b)]
    simp only[Qh,Qb]
    rw[D8 m.au hl (·.af) (fin:=λs=>Option.bind (pN s) λr=>some r.Value) (λi e s hs o d f g=>by
     simp only[d,f,g,Qc,Qa]
     rw[br o_,Qc]) (λs d=>by simp only[d,Qb]),agh _ o_]
    rfl
   .have a:decide (m.bm=bE)=false:=Qf b;rw[a,Qe b];rfl
  .rw[Qf c,Qe c];rfl
def aiL(l:Z aj)(hlen:l.length<=1000)(p:aj->Bool)(z:∀e∈l,p e=true->0<=e.ak/\e.ak<10):um l (l.map p)=some ((eX p l:Nat):Int):=by
 unfold um aO
 suffices g:∀(k i s:Nat),i+k=l.length->s<1024->aE _ ((s:Int),(i:Int),())=some ((s|||eX p (l.drop i):Nat):Int)by have:=g l.length 0 0 O O;rw[Nat.zero_or,List.drop_zero]at this;exact this
 intro k
 induction k with
 |zero=>
  intro i s hi hs;obtain rfl:i=l.length:=O;have f:decide ((l.length:Int)<(l.length:Int))=false:=Qf (QF _);rw[bN (r:=(s:Int)) (by simp only[f,Qb,Qo]),Q9,eX]
  simp
 |succ k o=>
  intro i s hi hs;have a:i<l.length:=O;have f:decide ((i:Int)<(l.length:Int))=true:=Qd O;have d:decide ((i:Int)<(((l.map p).length:Nat):Int))=true:=Qd (by rw[QD];omega)
  have w:aC .i64 (i:Int) 1=((i+1:Nat):Int):=bH O O;have u:idx l (i:Int)=some l[i]:=by rw[ba];exact Qj a
  have c:idx (l.map p) (i:Int)=some (p l[i]):=by rw[ba,QG,Qj a];rfl
  rw[QQ a,eX]
  cases b:p l[i]with
  |false=>
   rw[bB (s':=((s:Int),((i+1:Nat):Int),())) (by simp only[f,d,u,c,w,b,Qc,Qb,aS,Qa]),o (i+1) s O hs]
   simp
  |true=>
   obtain⟨y,h1⟩:=z _ (QE a) b;have j:¬l[i].ak<0:=O;have d1:decide ((0:Int)<=l[i].ak)=true:=Qd y;have d2:decide (l[i].ak<(10:Int))=true:=Qd O
   rw[bB (s':=(((s|||2 ^ l[i].ak.toNat:Nat):Int),((i+1:Nat):Int),())) (by
    simp only[f,d,u,c,w,b,Qc,aS,Qa,d1,d2,j,Qx]
    rw[te hs y h1]),o (i+1) _ O (Dl hs h1)]
   simp[qb0]
def agj{m:ae}(h:yK m)(n:Int):po ⟨m⟩ n=some ((Jf m n:Nat):Int):=by
 have hl:m.au.length<=1000:=by have:=h.len;omega
 unfold po;have d1:decide ((m.au.length:Int)<=(m.au.length:Int))=true:=Qd (Q8 _);have d2:decide (0<=(m.au.length:Int))=true:=Qd (qbU _);have o:bl 1 m.au.length=true:=br O;simp only[d1,d2,o,QV,Q8,Ql,qap,Qc]
 rw[ae7 m.au hl (λe=>decide (n<cD e)) (fin:=λs=>Option.bind (um m.au s) λr=>some r)
  (λi e s f a hi b c d=>by
   have j:idx s (i:Int)=some s[i]:=by rw[ba];exact Qj O
   have g:s[i]?=some s[i]:=Qj O
   simp only[b,c,d,j,g,Qc,Qa,etas,Yw (h.sm e a) (h.valid e a),QV])
  (λs b=>by simp only[b,Qb]) t_,aiL m.au hl _ (λe a _=>h.Vl e a)]
 rfl
section
variable{m:ae}(h:bz m)(hs:gp m)
 include h hs
theorem ae6(n:Int):jO n ⟨iR m.ak.toNat m.aa (yS m)⟩ ⟨m⟩=some (kh m n):=by unfold jO;simp only[etas,agj h.ev,Qa];have a:=Xe (nu (aF:=m.ak.toNat) h.ev.aL (vZ h hs).1) (v:=m.ak.toNat) (Xa h.ev n);rw[h.ev.aF.1]at a;rw[a,Qa];unfold kh;rw[(oY h hs).view _ h.ev.aF.2]
theorem agG:ou ⟨m⟩=some ((),⟨gB m⟩):=by
 have hl:m.au.length<=100:=by have:=h.len;omega
 have hv:=ab1 h.ev.aF.2 h.ev.aL (vZ h hs).1;rw[h.ev.aF.1]at hv;unfold ou gB oO aO;simp only[etas,aM.eta,dq,Mj hl,hv,ae6 h hs,JK h.ev,XZ,Qa,aS]
 by_cases d:m.aW=3
 .rw[Qd d,Qe (.inl d)];rfl
 .rw[Qf d]
  cases D:kh m m.af.ai with
  |false=>rw[Qe (.inr rfl)];rfl
  |true=>
   rw[Qg (by simp[d])]
   simp only[Qb,Qh]
   have u:0<=m.af.ai/\m.af.ai<=1000:=by
    rcases h.body with k|k|k|k
    .rw[k.aY];decide
    .exact⟨by have:=k.aY.1;omega,k.aY.2.1⟩
    .exact⟨by have:=k.aY.1;omega,k.aY.2.1⟩
    .exact absurd k.bf d
   have j:aQ m.af=true->m.aW=1:=by
    intro g;rcases h.body with k|k|k|k
    .exact k.bf
    .exact k.bf
    .rw[k.aY.nz]at g;cases g
    .exact absurd k.bf d
   refine(ZV h.ev (fin:=λc=>some ((),(⟨{m with bg:=bif bW m.af ⟨dy c 1000,qx m⟩then m.bg else 0,af:=⟨dy c 1000,qx m⟩}⟩:aM))) (λi e s w o y z=> ?_) (λs o=> ?_)).trans ?_
   .simp only[o,y,z,Qc,Qa,Yw (h.ev.sm e w) (h.ev.valid e w)];unfold pU
    by_cases c1:m.af.ai<cD e
    .by_cases c2:cD e<s
     .rw[Qd c1,Qd c2]
      cases c3:kh m (cD e)with
      |true=>rw[Qg t_];rfl
      |false=>rw[Qe ⟨c1,c2,rfl⟩];rfl
     .rw[Qd c1,Qf c2,Qg (λh=>c2 h.2.1)];rfl
    .rw[Qf c1,Qg (λh=>c1 h.1)];rfl
   .simp only[o,Qb,aS];unfold qx
    by_cases f:m.aW=1
    .rw[Qd f,Qe f];cases aQ m.af<;>rfl
    .rw[Qf f,Qg f]
     cases g:aQ m.af with
     |true=>exact absurd (j g) f
     |false=>rfl
   .have A:=(Nb h u).2.2.2.2;rw[A]
    have r:(bif bW m.af ⟨dy (me m) 1000,qx m⟩then m.bg else 0)=(if qx m=m.af.Value then m.bg else 0):=by
     by_cases e:qx m=m.af.Value
     .rw[Qe e,(jJ (a:=m.af) (b:=⟨dy (me m) 1000,qx m⟩)).2 e.symm];rfl
     .rw[Qg e,(jm (a:=m.af) (b:=⟨dy (me m) 1000,qx m⟩)).2 (λB=>e B.symm)];rfl
    rw[r]
end
end
section
def Z6{m:ae}(h:bz m)(s:Int):bU {m with aI:=s}=(bU m).map (λe=>if e.ak=m.ak then{e with aI:=bO s 1}else e):=by
 have hf:∀e∈m.au,(if e.ak=m.ak then{e with aI:=bO s 1}else e)=e:=λe c=>Qg (h.hv e c).2.2.2
 have b:m.au.map (λe=>if e.ak=m.ak then{e with aI:=bO s 1}else e)=m.au:=by rw[qak hf];simp
 have a:kR {m with aI:=s}={kR m with aI:=bO s 1}:=by
  unfold kR bM ij;split
  .rfl
  .split<;>rfl
 unfold bU;split
 .exact b.symm
 .rw[a];have hn:(kR m).ak=m.ak:=Bo m
  suffices f:∀l:Z aj,(∀e∈l,(if e.ak=m.ak then{e with aI:=bO s 1}else e)=e)->Es {kR m with aI:=bO s 1} l=(Es (kR m) l).map (λe=>if e.ak=m.ak then{e with aI:=bO s 1}else e)from f _ hf
  intro l
  induction l with
  |nil=>intro _;simp only[Es,Qy,qas,hn,Qr]
  |cons x l g=>
   intro d;unfold Es;simp only;split
   .rw[Qy,Qy,hn,Qe rfl,d x QC,qak (λe c=>d e (QI _ c))]
    simp
   .rw[Qy,d x QC,g λe c=>d e (QI _ c)]
def Vi{m:ae}(h:bz m){s:Int}(hs:0<=s/\s<=1000000):bz {m with aI:=s}:=by
 refine⟨h.n0,h.n1,h.aK,hs,h.aL,h.xe,h.hv,h.dg,?_⟩;rcases h.body with k|k|k|k
 .exact .inl ⟨k.bf,k.aY,k.dY,k.cm,k.eR,k.low,k.cv⟩
 .exact .inr (.inl ⟨k.bf,k.aY,k.dY,k.cm,k.eR,k.up,k.cv,k.low⟩)
 .exact .inr (.inr (.inl ⟨k.bf,k.aY,k.dY,k.cm,k.eR,k.range⟩))
 .exact .inr (.inr (.inr ⟨k.bf,k.aY,k.dY,k.cm,k.eR,k.range⟩))
def tX{m:ae}(h:bz m){s:Int}(hs:0<=s/\s<=1000000):Alike (bU m) (bU {m with aI:=s}):=by
 rw[Z6 h s];refine afy h.ev.xu.1 h.ev.xu.2 _ λe a=> ?_
 split
 .rename_i hn;refine⟨rfl,?_⟩;rw[h.HC e a];have hv:=h.HC e a
  have b:{e with aI:=bO s 1}∈bU {m with aI:=s}:=by rw[Z6 h s];exact QO.2 ⟨e,a,Qe hn⟩
  exact(Vi h hs).HC _ b
 .exact⟨rfl,rfl⟩
def ajj(m:ae)(s:Int)(b:ah):EM {m with aI:=s} b={EM m b with aI:=s}:=by
 unfold EM
 by_cases h:bG m.af b=true
 .simp only[Qe h]
 .simp only[Qg h]
def adY(m:ae)(s:Int)(b:ah):tz {m with aI:=s} b={tz m b with aI:=s}:=by
 unfold tz
 by_cases h:m.bg=0/\bW m.af b=true/\oh b.Value m.af.ai m.ar m.aH<=b.ai
 .simp only[Qe h]
 .simp only[Qg h]
section
variable{m:ae}(h:bz m){s:Int}(hs:0<=s/\s<=1000000)
 include h hs
theorem aiX:fF {m with aI:=s}=fF m:=((tX h hs).next h.ev.aF.2 m.aa _ _ _).symm
theorem ajg:iT {m with aI:=s}=iT m:=((tX h hs).cv h.ev.aF.2 m.aa _).symm
theorem V4:mT {m with aI:=s}=mT m:=((tX h hs).ready h.ev.aF.2 m.aa).symm
theorem afP:RX {m with aI:=s}=RX m:=((tX h hs).sure h.ev.aF.2 m.aa).symm
theorem ajt:gC {m with aI:=s}=gC m:=by unfold gC;rw[V4 h hs];simp only;rw[<-(tX h hs).Ij,<-(tX h hs).first]
theorem ajz:fC {m with aI:=s}=fC m:=by unfold fC;rw[V4 h hs];simp only;rw[<-(tX h hs).kP]
theorem ajy:ru {m with aI:=s}=ru m:=by unfold ru;rw[afP h hs];simp only;rw[<-(tX h hs).kP]
theorem W9(n:Int):kh {m with aI:=s} n=kh m n:=by unfold kh;simp only;rw[<-(tX h hs).view _ h.ev.aF.2];rfl
theorem ajR:me {m with aI:=s}=me m:=by
 unfold me;simp only;congr 1
 funext b e
 unfold pU;simp only[W9 h hs]
theorem Mg:ed {m with aI:=s}={ed m with aI:=s}:=by unfold ed;simp only[aiX h hs];split<;>rfl
theorem Mf:ig {m with aI:=s}={ig m with aI:=s}:=by
 unfold ig;simp only[ajg h hs];split
 .rfl
 .rw[ajj,adY]
theorem Mi:gI {m with aI:=s}={gI m with aI:=s}:=by
 unfold gI;simp only[ajt h hs,ajz h hs];split
 .split<;>rfl
 .split<;>rfl
theorem Mh:jX {m with aI:=s}={jX m with aI:=s}:=by unfold jX;simp only[ajy h hs];split<;>rfl
theorem Wf:gB {m with aI:=s}={gB m with aI:=s}:=by unfold gB;simp only[W9 h hs,ajR h hs];split<;>rfl
end
open Classical in
 def dB(m:ae):ae:=
 if ed m=m then(if ig m=m then(if gI m=m then(if jX m=m then gB m else jX m)else gI m)else ig m)else ed m
structure Nu (m:ae):Prop where
 p:ed m=m
 s:ig m=m
 c:gI m=m
 f:jX m=m
 k:gB m=m
def afR{m:ae}(h:dB m=m):Nu m:=by
 unfold dB at h;split at h
 .split at h
  .split at h
   .split at h
    .exact⟨by assumption,by assumption,by assumption,by assumption,h⟩
    .contradiction
   .contradiction
  .contradiction
 .contradiction
def agH{m:ae}(h:Nu m):dB m=m:=by unfold dB;rw[Qe h.p,Qe h.s,Qe h.c,Qe h.f,h.k]
def Jv{m:ae}{Q:ae->Prop}(f:Q (ed m))(d:Q (ig m))(c:Q (gI m))(b:Q (jX m))(a:Q (gB m)):Q (dB m):=by
 unfold dB;split
 .split
  .split
   .split
    .exact a
    .exact b
   .exact c
  .exact d
 .exact f
def G5{m:ae}(h:bz m):bz (dB m):=Jv (We h) (Wd h) (Wi h) (Wh h) (Wg h)
def VQ(m:ae):jW m (dB m):=Jv (DK m) (Bi m) (Bk m) (Bj m) (DM m)
def X1{m:ae}(h:bz m):dB m=m\/lY m<lY (dB m):=Jv (Q:=λx=>x=m\/lY m<lY x) (anz h) (anx h) (anC h) (anB h) (anA h)
def anN(m:ae):(ed m).af=m.af:=by unfold ed;split<;>rfl
def PH{m:ae}(h:bz m)(a:aQ m.af=false):aQ (dB m).af=false:=by
 have b:P1 m\/P2 m\/P3 m:=h.body.resolve_left λk=>by rw[k.aY,cr]at a;cases a
 refine Jv (Q:=λx=>aQ x.af=false) (by rw[anN];exact a) ?_ ?_ ?_ ?_
 .rcases b with k|k|k
  .exact(UN h k).1.aY.nz
  .rw[xV (.inl (by rw[k.bf];decide))];exact a
  .rw[xV (.inl (by rw[k.bf];decide))];exact a
 .unfold gI;rcases b with k|k|k
  .rw[Qe k.bf];split
   .rename_i f;have hf:=TS h f;exact(ZQ (.inr k.aY) k.dY hf.fin hf.lo1 hf.le).aY.nz
   .exact a
  .rw[Qg (by rw[k.bf];decide),Qe k.bf]
   obtain⟨g1,g2,g3,_⟩:=Zz h k;exact(adl k g1 g2 g3).aY.nz
  .rw[Qg (by rw[k.bf];decide),Qg (by rw[k.bf];decide)];exact a
 .unfold jX;split
  .rename_i c;rcases b with k|k|k
   .have:=k.bf;have:=c.1;omega
   .exact(abi h k c.2).aY.nz
   .have:=k.bf;have:=c.1;omega
  .exact a
 .cases d:kh m m.af.ai with
  |false=>have:gB m=m:=Qe (.inr d);rw[this];exact a
  |true=>
   rcases b with k|k|k
   .exact(UO h (.inr k) d).aY.nz
   .exact(abh h k).aY.nz
   .have:gB m=m:=Qe (.inl k.bf);rw[this];exact a
def dI(m:ae):ae:=if aQ m.af=false then{m with aI:=bO m.aI 1}else m
def abt{m:ae}(h:bz m):0<=bO m.aI 1/\bO m.aI 1<=1000000:=by have:=h.seq;unfold bO;split<;>omega
def wb{m:ae}(h:bz m):bz (dI m):=by
 unfold dI;split
 .exact Vi h (abt h)
 .exact h
def NQ{m:ae}(h:aQ m.af=true->m.aI=0):gp (dI m):=by
 unfold dI;split
 .rename_i a;exact⟨λe=>(by rw[show({m with aI:=bO m.aI 1}:ae).af=m.af from rfl,a]at e;cases e),λ_=>by show 1<=bO m.aI 1;unfold bO;split<;>omega⟩
 .rename_i a;exact⟨h,λe=>absurd e a⟩
def ajw{m:ae}(h:bz m)(hf:Nu m){s:Int}(hs:0<=s/\s<=1000000):Nu {m with aI:=s}:=
 ⟨by rw[Mg h hs,hf.p],by rw[Mf h hs,hf.s],by rw[Mi h hs,hf.c],by rw[Mh h hs,hf.f],by rw[Wf h hs,hf.k]⟩
def ags{m:ae}(h:bz m)(hf:Nu m):Nu (dI m):=by
 unfold dI;split
 .exact ajw h hf (abt h)
 .exact hf
def aiY{m:ae}(hs:gp m):dI m=m:=by
 unfold dI;split
 .rename_i a;have:=hs.pos a;have e:bO m.aI 1=m.aI:=by unfold bO;split<;>omega
  rw[e]
 .rfl
def af3(m:ae):lY (dI m)=lY m:=by unfold dI;split<;>rfl
def YD{m:ae}(h:0<=m.aI):dW ⟨m⟩=some ((),⟨dI m⟩):=by
 unfold dW dI aO;simp only[etas,dq,Qa]
 cases a:aQ m.af with
 |true=>rfl
 |false=>
  simp only[Qt,Qc,Qa,Qr]
  by_cases hs:m.aI=0
  .have e:bO m.aI 1=1:=by unfold bO;split<;>omega
   rw[Qd hs,e];rfl
  .have e:bO m.aI 1=m.aI:=by unfold bO;split<;>omega
   rw[Qf hs,e];rfl
def zZ{m m':ae}(c:jW m m'):
  (decide (m'.aW=m.aW)&&(decide (m'.bg=m.bg)&&(decide (m'.bx=m.bx)&&(decide (m'.af.ai=m.af.ai)&&(decide (m'.af.Value=m.af.Value)&&(decide (m'.ar.ai=m.ar.ai)&&(decide (m'.ar.Value=m.ar.Value)&&(decide (m'.aH.ai=m.aH.ai)&&(decide (m'.aH.Value=m.aH.Value)&&(decide (m'.aB.ai=m.aB.ai)&&(decide (m'.aB.Value=m.aB.Value)&&true)))))))))))=true↔m'=m:=by
 simp only[Qi,Qw];constructor
 .rintro⟨h1,w,u,r,o,j,g,f,d,b,a,_⟩;exact F8 c h1 (rD r o) (rD j g) (rD f d) (rD b a) w u
 .rintro rfl;simp
open Classical in
def akn{m:ae}(h:bz m)(hs:gp m):ql ⟨m⟩=some (if dB m=m then(false,⟨m⟩)else(true,⟨dI (dB m)⟩)):=by
 have a:∀{x:ae},bz x->dW ⟨x⟩=some ((),⟨dI x⟩):=λg=>YD g.seq.1
 unfold ql;simp only[etas,aM.eta,gQ,Qa,acP h hs]
 by_cases c:ed m=m
 .simp only[(zZ (DK m)).2 c,Qb,show xor true true=false from rfl]
  rw[c,akk h hs];simp only[Qa]
  by_cases hS:ig m=m
  .simp only[(zZ (Bi m)).2 hS,Qb,show xor true true=false from rfl]
   rw[hS,afl h hs];simp only[Qa]
   by_cases d:gI m=m
   .simp only[(zZ (Bk m)).2 d,Qb,show xor true true=false from rfl]
    rw[d,agP h hs];simp only[Qa]
    by_cases hF:jX m=m
    .simp only[(zZ (Bj m)).2 hF,Qb,show xor true true=false from rfl]
     rw[hF,agG h hs];simp only[Qa];have e:dB m=gB m:=by unfold dB;rw[Qe c,Qe hS,Qe d,Qe hF]
     rw[e]
     by_cases f:gB m=m
     .simp only[(zZ (DM m)).2 f,Qb,show xor true true=false from rfl]
      rw[Qe f,f]
     .have b:=mt (zZ (DM m)).1 f;rw[qaZ]at b;simp only[b,Qc,show xor true false=true from rfl]
      rw[a (Wg h),Qg f];rfl
    .have e:dB m=jX m:=by unfold dB;rw[Qe c,Qe hS,Qe d,Qg hF]
     have b:=mt (zZ (Bj m)).1 hF;rw[qaZ]at b;simp only[b,Qc,show xor true false=true from rfl]
     rw[a (Wh h),e,Qg hF];rfl
   .have e:dB m=gI m:=by unfold dB;rw[Qe c,Qe hS,Qg d]
    have b:=mt (zZ (Bk m)).1 d;rw[qaZ]at b;simp only[b,Qc,show xor true false=true from rfl]
    rw[a (Wi h),e,Qg d];rfl
  .have e:dB m=ig m:=by unfold dB;rw[Qe c,Qg hS]
   have b:=mt (zZ (Bi m)).1 hS;rw[qaZ]at b;simp only[b,Qc,show xor true false=true from rfl]
   rw[a (Wd h),e,Qg hS];rfl
 .have e:dB m=ed m:=by unfold dB;rw[Qg c]
  have b:=mt (zZ (DK m)).1 c;rw[qaZ]at b;simp only[b,Qc,show xor true false=true from rfl]
  rw[a (We h),e,Qg c];rfl
structure KN (R:ae->Prop) (m m':ae):Prop where
 inv:bz m'
 seq:gp m'
 env:m'.ak=m.ak/\m'.aJ=m.aJ/\m'.aa=m.aa/\m'.bm=m.bm/\m'.au=m.au
 num:m'.aI=m.aI\/(m.aI=0/\m'.aI=1)
 nz:aQ m.af=false->aQ m'.af=false
 rel:R m'
 fix:Nu m'
def afz{R:ae->Prop}(hR1:∀m,bz m->R m->R (dB m))(hR2:∀m,R m->R (dI m)){m:ae}(h:bz m)(hs:aQ m.af=true->m.aI=0)(D:R m):Yd (fm ⟨m⟩) λq=>∃m',q=((),⟨m'⟩)/\KN R m m':=by
 unfold fm;simp only[etas,aM.eta,YD h.seq.1,Qa]
 have d:∀{x:ae},bz x->(dI x).aI=x.aI\/(x.aI=0/\(dI x).aI=1):=λ{x} b=>by
  have:=b.seq;unfold dI;split
  .show bO x.aI 1=x.aI\/(x.aI=0/\bO x.aI 1=1);unfold bO;split<;>omega
  .exact .inl rfl
 have a:∀x:ae,(dI x).ak=x.ak/\(dI x).aJ=x.aJ/\(dI x).aa=x.aa/\(dI x).bm=x.bm/\(dI x).au=x.au/\(dI x).af=x.af:=λx=>by unfold dI;split<;>exact⟨rfl,rfl,rfl,rfl,rfl,rfl⟩
 refine Yd.down (λs=>∃x,s=((⟨x⟩:aM),())/\bz x/\gp x/\R x/\(x.ak=m.ak/\x.aJ=m.aJ/\x.aa=m.aa/\x.bm=m.bm/\x.au=m.au)/\(x.aI=m.aI\/(m.aI=0/\x.aI=1))/\(aQ m.af=false->aQ x.af=false)) (λs=>K1+K2 - lY s.1.ab) ?_ ⟨dI m,rfl,wb h,NQ hs,hR2 _ D,⟨(a m).1,(a m).2.1,(a m).2.2.1,(a m).2.2.2.1,(a m).2.2.2.2.1⟩,d h,λj=>by rw[(a m).2.2.2.2.2];exact j⟩
 rintro s ⟨x,rfl,b,f,r,hex,g,o⟩;simp only[akn b f,Qa]
 by_cases c:dB x=x
 .rw[Qe c];exact .some ⟨x,rfl,⟨b,f,hex,g,o,r,afR c⟩⟩
 .rw[Qg c];have hi:=G5 b;have hv:=VQ x;have B:=(X1 b).resolve_left c;refine .some ⟨⟨dI (dB x),rfl,wb hi,NQ ?_,hR2 _ (hR1 _ b r),?_,?_,?_⟩,?_⟩
  .intro j;rw[hv.seq];refine f.zero ?_
   cases w:aQ x.af with
   |true=>rfl
   |false=>rw[PH b w]at j;cases j
  .obtain⟨A,z,u,F,E,_⟩:=a (dB x);exact⟨A.trans (hv.aF.trans hex.1),z.trans (hv.aK.trans hex.2.1),u.trans (hv.aL.trans hex.2.2.1),F.trans (hv.xe.trans hex.2.2.2.1),E.trans (hv.heard.trans hex.2.2.2.2)⟩
  .have y:=d hi;rw[hv.seq]at y;rcases y with e|⟨A,z⟩
   .rw[e];exact g
   .right;rcases g with u|⟨_,u⟩
    .exact⟨by rw[<-u];exact A,z⟩
    .omega
  .intro j;rw[(a (dB x)).2.2.2.2.2];exact PH b (o j)
  .have y:=aa7 hi;show K1+K2 - lY (dI (dB x))<K1+K2 - lY x;rw[af3];omega
end
section
def Z7{α:Type}{s t:Z α}(hl:s.length=t.length)(hn:s.length<=1000000){step:Int×Unit->Y ((Int×Unit)⊕Bool)}
  (w:∀(i:Nat) (h:i<s.length) (y:i<t.length),decide ((i:Int)<(s.length:Int))=true->idx s (i:Int)=some s[i]->idx t (i:Int)=some t[i]->aC .i64 (i:Int) 1=((i+1:Nat):Int)->∃b:Bool,step ((i:Int),())=some (bif b then .inl (((i+1:Nat):Int),())else .inr false)/\(b=true↔s[i]=t[i]))
  (u:decide ((s.length:Int)<(s.length:Int))=false->step ((s.length:Int),())=some (.inr true)):∃b,aE step (0,())=some b/\(b=true↔s=t):=by
 suffices d:∀(k i:Nat),i+k=s.length->∃b,aE step ((i:Int),())=some b/\(b=true↔s.drop i=t.drop i)from by simpa using d s.length 0 O
 intro k
 induction k with
 |zero=>intro i hi;obtain rfl:i=s.length:=O;refine⟨true,bN (u (Qf (QF _))),?_⟩;rw[List.drop_eq_nil_of_le O,List.drop_eq_nil_of_le O];simp
 |succ k j=>
  intro i hi;have c:i<s.length:=O;have a:i<t.length:=O;obtain⟨b,g,f⟩:=w i c a (Qd O) (by rw[ba];exact Qj c) (by rw[ba];exact Qj a) (bH O O)
  rw[QQ c,QQ a,List.cons.injEq]
  cases b with
  |false=>refine⟨false,bN g,?_⟩;simp only[QB,qaY]at f ⊢;exact λh=>f h.1
  |true=>obtain⟨b,r,o⟩:=j (i+1) O;refine⟨b,(bB g).trans r,?_⟩;rw[o];exact⟨λh=>⟨f.1 rfl,h⟩,λh=>h.2⟩
def S6{α:Type}{s t:Z α}(h:s.length≠t.length):(false=true↔s=t):=by
 simp only[QB,qaY];exact λa=>h (by rw[a])
 def ahU(a:Z Int)(b:Z Int):Y Bool:=
 bif (!decide (((List.length a:Nat):Int)=((List.length b:Nat):Int)))then
 some false
 else
 aE (λ(v1:Int×Unit)=>
 bif (decide (v1.1<((List.length a:Nat):Int)))then
 Option.bind (idx a v1.1) λd=>
 Option.bind (idx b v1.1) λc=>
 bif (!decide (d=c))then
 Option.map inr (some false)
 else
 some (inl ((aC .i64 v1.1 (1:Int)),()))
 else
 Option.map inr (some true)) ((0:Int),())
def ahN(s t:Z Int)(h:s.length<=1000000):∃b,ahU s t=some b/\(b=true↔s=t):=by
 unfold ahU
 by_cases hl:s.length=t.length
 .rw[Qd (O:(s.length:Int)=(t.length:Int)),Qh,Qb];refine Z7 hl h (λi hi g a d c f=> ?_) (λa=> ?_)
  .refine⟨decide (s[i]=t[i]),?_,t_⟩;simp only[a,d,c,f,Qc,Qa];cases decide (s[i]=t[i])<;>rfl
  .simp only[a,Qb];rfl
 .rw[Qf (O:¬(s.length:Int)=(t.length:Int)),Qt,Qc];exact⟨false,rfl,S6 hl⟩
def alg(s t:Z Int)(h:s.length<=1000000):∃b,yH s t=some b/\(b=true↔s=t):=ahN s t h
def amE(s t:Z Int)(h:s.length<=1000000):∃b,uH s t=some b/\(b=true↔s=t):=ahN s t h
def VP(a b:aq):a=b↔a.aN=b.aN/\a.bc=b.bc/\a.aR=b.aR:=by cases a;cases b;simp
def alX{n:Nat}:∀{a b:aq},SizeOf.sizeOf a<n->cI a->∃r,yx n (a,b,())=some r/\(r=true↔a=b):=by
 induction n with
 |zero=>intro a b h;omega
 |succ n y=>
  intro a b hs f;show∃r,vS (yx n) a b=some r/\(r=true↔a=b);have hl:=f.len;have d:=f.nodes;obtain⟨r,h1,u⟩:=alg a.bc b.bc d;rw[VP];unfold vS oO
  by_cases ht:a.aN=b.aN
  .rw[Qd ht];simp only[Qh,Qb,h1,Qa]
   cases r with
   |false=>simp only[Qt,Qc,Qa];refine⟨false,rfl,?_⟩;simp only[QB,qaY]at u ⊢;exact λh=>u h.2.1
   |true=>
    simp only[Qh,Qb,Qa]
    by_cases hi:a.aR.length=b.aR.length
    .rw[Qd (O:(a.aR.length:Int)=(b.aR.length:Int)),Qh,Qb]
     have c:∀step:Int×Unit->Y ((Int×Unit)⊕Bool),(∃r,aE step (0,())=some r/\(r=true↔a.aR=b.aR))->∃r,aE step (0,())=some r/\(r=true↔a.aN=b.aN/\a.bc=b.bc/\a.aR=b.aR):=by rintro step ⟨r,o,j⟩;exact⟨r,o,by rw[j];exact⟨λh=>⟨ht,u.1 rfl,h⟩,λh=>h.2.2⟩⟩
     refine c _ (Z7 hi hl (λi hi D g A z B=> ?_) (λg=> ?_))
     .have w:=QE hi;obtain⟨r,o,j⟩:=y (a:=a.aR[i]) (b:=b.aR[i]) (by have:=sD w;omega) (f.inner _ w)
      refine⟨r,?_,j⟩;simp only[g,A,z,B,Qc,Qa,etas,o];cases r<;>rfl
     .simp only[g,Qb];rfl
    .rw[Qf (O:¬(a.aR.length:Int)=(b.aR.length:Int)),Qt,Qc];refine⟨false,rfl,?_⟩;simp only[QB,qaY];exact λh=>hi (by rw[h.2.2])
  .rw[Qf ht];refine⟨false,rfl,?_⟩;simp only[QB,qaY];exact λh=>ht h.1
def Eu{a b:aq}(h:cI a):∃r,gO a b=some r/\(r=true↔a=b):=alX O h
def am3{n:Nat}:∀{a b:aq},SizeOf.sizeOf a<n->cI a->∃r,AY n (a,b,())=some r/\(r=true↔a=b):=by
 induction n with
 |zero=>intro a b h;omega
 |succ n z=>
  intro a b hs f;show∃r,wK (AY n) a b=some r/\(r=true↔a=b);have hl:=f.len;have d:=f.nodes;obtain⟨r,h1,u⟩:=amE a.bc b.bc d;rw[VP];unfold wK aO
  by_cases ht:a.aN=b.aN
  .rw[Qd ht];simp only[Qc,h1,Qa]
   cases r with
   |false=>simp only[Qb];refine⟨false,rfl,?_⟩;simp only[QB,qaY]at u ⊢;exact λh=>u h.2.1
   |true=>
    simp only[Qc]
    have c:∀o:Y Bool,(∃r,o=some r/\(r=true↔a.aR=b.aR))->∃r,(Option.bind (Option.bind o λy=>some y) λb4=>some b4)=some r/\(r=true↔a.aN=b.aN/\a.bc=b.bc/\a.aR=b.aR):=by rintro o ⟨r,rfl,j⟩;exact⟨r,rfl,by rw[j];exact⟨λh=>⟨ht,u.1 rfl,h⟩,λh=>h.2.2⟩⟩
    refine c _ ?_;unfold eo
    by_cases hi:a.aR.length=b.aR.length
    .rw[Qd (O:(a.aR.length:Int)=(b.aR.length:Int)),Qh,Qb];refine Z7 hi hl (λi hi E g B A D=> ?_) (λg=> ?_)
     .have w:=QE hi;obtain⟨r,F,j⟩:=z (a:=a.aR[i]) (b:=b.aR[i]) (by have:=sD w;omega) (f.inner _ w)
      refine⟨r,?_,j⟩;simp only[g,B,A,D,Qc,Qa,etas,F];cases r<;>rfl
     .simp only[g,Qb];rfl
    .rw[Qf (O:¬(a.aR.length:Int)=(b.aR.length:Int)),Qt,Qc];exact⟨false,rfl,S6 hi⟩
  .rw[Qf ht];refine⟨false,rfl,?_⟩;simp only[QB,qaY];exact λh=>ht h.1
def eqT{a b:aq}(h:cI a):∃r,mI a b=some r/\(r=true↔a=b):=am3 O h
def abO(a b:Int)(s t:C):nF false a b s t=(decide (a=b)&&decide (s=t)):=t_
def Uh(a b:ah):a=b↔a.ai=b.ai/\a.Value=b.Value:=by cases a;cases b;simp
def ajB(a b:aj):a=b↔a.ak=b.ak/\a.aJ=b.aJ/\a.aI=b.aI/\a.aa=b.aa/\a.bF=b.bF/\a.af=b.af/\a.ar=b.ar/\a.aH=b.aH/\a.bg=b.bg/\a.bx=b.bx:=by cases a;cases b;simp
def abU(a b:Bool):(bif a then some b else some false)=some (a&&b):=by cases a<;>rfl
def alC{a b:aj}(h:cI a.aa):∃r,nL a b=some r/\(r=true↔a=b):=by
 obtain⟨r,h1,d⟩:=Eu (a:=a.aa) (b:=b.aa) h;have z:∀x:Bool,(bif x then some r else some false)=some (x&&r):=λx=>by cases x<;>rfl
 refine⟨_,by simp only[nL,etas,h1,Qa,abU,z,abO,aO];rfl,?_⟩
 rw[ajB];simp only[Qi,Qw,d,Uh];constructor
 .rintro⟨⟨⟨⟨⟨⟨⟨⟨⟨h1,d⟩,y⟩,w⟩,u⟩,o⟩,j⟩,g⟩,f⟩,c⟩;exact⟨h1,d,y,w,u,o,j,g,f,c⟩
 .rintro⟨h1,d,y,w,u,o,j,g,f,c⟩;exact⟨⟨⟨⟨⟨⟨⟨⟨⟨h1,d⟩,y⟩,w⟩,u⟩,o⟩,j⟩,g⟩,f⟩,c⟩
end
section
def TH{m:ae}(h:bz m){ρ:Type}{step:Int×Unit->Y ((Int×Unit)⊕ρ)}{fin:Y ρ}
  (f:∀(i:Nat) (e:aj),e∈m.au->decide ((i:Int)<(m.au.length:Int))=true->idx m.au (i:Int)=some e->aC .i64 (i:Int) 1=((i+1:Nat):Int)->
   (i=0\/(decide ((0:Int)<(i:Int))=true/\∃x,idx m.au (cQ .i64 (i:Int) 1)=some x/\decide (e.ak<=x.ak)=false))->step ((i:Int),())=some (.inl (((i+1:Nat):Int),())))
  (d:decide ((m.au.length:Int)<(m.au.length:Int))=false->step ((m.au.length:Int),())=Option.map inr fin):aE step (0,())=fin:=by
 have hl:=h.len;refine ad9 m.au.length O (λi hi c b=> ?_) d
 have a:idx m.au (i:Int)=some m.au[i]:=by rw[ba];exact Qj hi
 refine f i m.au[i] (QE hi) c a b ?_
 cases i with
 |zero=>exact .inl rfl
 |succ i=>
  refine .inr ⟨Qd O,m.au[i],?_,?_⟩
  .have:cQ .i64 ((i+1:Nat):Int) 1=(i:Int):=by rw[om O O];omega
   rw[this,ba];exact Qj O
  .have:=List.pairwise_iff_getElem.1 h.dg i (i+1) O hi O;exact Qf O
def ajh{m:ae}(h:bz m):xG m=some true:=by
 unfold xG;refine TH h (λi e f b c d hi=> ?_) (λb=>by simp only[b,Qb])
 obtain⟨g1,g2,g3,g4⟩:=h.hv e f;simp only[b,c,d,Qc,Qa,aS,etas,uC g2.sm,g1,Qh,Qb,Qd g3,Qf g4];rcases hi with rfl|⟨hi,x,a,hn⟩
 .rfl
 .rw[hi,a];simp only[Qc,Qa,hn,Qb]
def Fz{m:ae}(h:bz m)(hs:gp m)(a:aQ m.af=false):bd (bM m)=true:=by rw[<-UQ hs a];exact Wm h a
def ai0:nF false cu.ai (0:Int) cu.Value bE=true:=s_
def xa{m:ae}(h:bz m)(hs:gp m):iJ m=some true:=by
 have d1:decide (m.ak<0)=false:=Qf (by have:=h.n0;omega)
 have d2:decide ((10:Int)<=m.ak)=false:=Qf (by have:=h.n1;omega)
 have z:decide (m.aJ<1)=false:=Qf (by have:=h.aK;omega)
 have y:decide ((1000000:Int)<m.aJ)=false:=Qf (by have:=h.aK;omega)
 have w:decide (m.aI<0)=false:=Qf (by have:=h.seq;omega)
 have u:decide ((1000000:Int)<m.aI)=false:=Qf (by have:=h.seq;omega)
 have r:decide ((200:Int)<((m.bm.size:Nat):Int))=false:=Qf (by have:=h.xe;omega)
 have o:cI (bM m).aa:=by rw[pb];exact h.aL.sm
 unfold iJ oO aO;simp only[d1,d2,z,y,w,u,r,Qb,Qa,etas,c6 h.aL,Ql,Qh,ajh h,dq,DP,II h,uC o]
 cases a:aQ m.af with
 |true=>
  have f:P0 m:=by
   rcases h.body with k|k|k|k
   .exact k
   .rw[k.aY.nz]at a;cases a
   .rw[k.aY.nz]at a;cases a
   .rw[k.aY.nz]at a;cases a
  unfold Cq aO;simp only[f.bf,hs.zero a,f.dY,f.cm,f.eR,f.low,f.cv,ai0,Ql,Qc,Qa]
 |false=>
  have hv:=Fz h hs a;simp only[hv,Qb,Qc]
  have c:sZ m=some true:=by
   unfold sZ oO aO;simp only[dq,Ee,vQ,gD,Qa]
   have fin:∀(hf:dF m.aB) (d:(eM m.ar m.aH m.aB||(!decide (m.aW=1)&&bW m.aB m.af))=true),_:=λhf d=>(show(bif aQ m.aB then some true else
     (bif !dt m.aB then some true else some (decide (1000<m.aB.ai))).bind λb3=>bif b3 then some false else
     (bif eM m.ar m.aH m.aB then some true else(bif !decide (m.aW=1)then some (bW m.aB m.af)else some false).bind λj=>some j).bind λg=>some g)=some true by
    rw[hf.nz,hf.valid,Qf (show¬1000<m.aB.ai by have:=hf.2.1;omega)]
    revert d
    cases eM m.ar m.aH m.aB<;>cases decide (m.aW=1)<;>cases bW m.aB m.af<;>simp)
   have b:m.aB=cu->(bif aQ m.aB then some true else
     (bif !dt m.aB then some true else some (decide (1000<m.aB.ai))).bind λb3=>bif b3 then some false else
     (bif eM m.ar m.aH m.aB then some true else(bif !decide (m.aW=1)then some (bW m.aB m.af)else some false).bind λj=>some j).bind λg=>some g)=some true:=λe=>by rw[e,cr];rfl
   rcases h.body with k|k|k|k
   .exact b k.eR
   .rcases k.eR with e|⟨hf,d⟩
    .exact b e
    .exact fin hf (by rw[d];rfl)
   .rcases k.eR with e|⟨hf,d⟩
    .exact b e
    .exact fin hf (by rw[jJ.2 d,Qf (show¬m.aW=1 by have:=k.bf;omega)];simp)
   .exact b k.eR
  rw[c];simp only[Qa,Qc];rcases h.body with k|k|k|k
  .rw[k.aY,cr]at a;cases a
  .simp only[k.bf,k.cv,Ql,Qh,Qb,Qa,Qt,Qc,show decide ((1:Int)=3)=false from rfl]
  .simp only[k.bf,k.cm,cr,show decide ((2:Int)=1)=false from rfl,show decide ((2:Int)=3)=false from rfl,Qh,Qb,Qa,Qt,Qc]
  .simp only[k.bf,k.cm,k.dY,cr,show decide ((3:Int)=1)=false from rfl,Ql,Qh,Qb,Qa,Qt,Qc]
def vq{m:ae}(h:bz m)(hs:gp m):ji m=some true:=by
 have d1:decide (m.ak<0)=false:=Qf (by have:=h.n0;omega)
 have d2:decide ((9:Int)<m.ak)=false:=Qf (by have:=h.n1;omega)
 have A:decide (m.aJ<1)=false:=Qf (by have:=h.aK;omega)
 have z:decide ((1000000:Int)<m.aJ)=false:=Qf (by have:=h.aK;omega)
 have y:decide (m.aI<0)=false:=Qf (by have:=h.seq;omega)
 have w:decide ((1000000:Int)<m.aI)=false:=Qf (by have:=h.seq;omega)
 have u:decide ((200:Int)<((m.bm.size:Nat):Int))=false:=Qf (by have:=h.xe;omega)
 have o:cI (bM m).aa:=by rw[pb];exact h.aL.sm
 unfold ji oO aO;simp only[d1,d2,A,z,y,w,u,Qb,Qa,etas,dw h.aL,Ql,Qh];refine TH h (λi e r f g j hi=> ?_) (λf=> ?_)
 .obtain⟨g1,g2,g3,g4⟩:=h.hv e r;simp only[f,g,j,Qc,Qa,aS,lI g2.sm,g1,Qh,Qb,Qd g3,Qf g4];rcases hi with rfl|⟨hi,x,c,hn⟩
  .rfl
  .rw[hi,c];simp only[Qc,Qa,hn,Qb]
 .simp only[f,Qb];congr 1;simp only[dx,Ba,xp,iy,Qa,Ce,lI o]
  cases a:aQ m.af with
  |true=>
   have b:P0 m:=by
    rcases h.body with k|k|k|k
    .exact k
    .rw[k.aY.nz]at a;cases a
    .rw[k.aY.nz]at a;cases a
    .rw[k.aY.nz]at a;cases a
   simp only[b.bf,hs.zero a,b.dY,b.cm,b.eR,b.low,b.cv,cr,Ql,Qc,Qa]
  |false=>
   have hv:=Fz h hs a;simp only[hv,Qb,Qh];rcases h.body with k|k|k|k
   .rw[k.aY,cr]at a;cases a
   .simp only[k.bf,k.cv,Ql,Qh,Qb,Qa,Qt,Qc,show decide ((1:Int)=3)=false from rfl,show decide ((1:Int)=2)=false from rfl]
    rcases k.eR with e|⟨hf,d⟩
    .rw[e,cr];rfl
    .rw[hf.nz,hf.valid,Qf (show¬1000<m.aB.ai by have:=hf.2.1;omega),d];rfl
   .simp only[k.bf,k.cm,cr,show decide ((2:Int)=1)=false from rfl,show decide ((2:Int)=3)=false from rfl,Ql,Qh,Qb,Qa,Qt,Qc]
    rcases k.eR with e|⟨hf,d⟩
    .rw[e,cr];rfl
    .rw[hf.nz,hf.valid,Qf (show¬1000<m.aB.ai by have:=hf.2.1;omega),jJ.2 d];rfl
   .simp only[k.bf,k.cm,k.dY,k.eR,cr,show decide ((3:Int)=1)=false from rfl,show decide ((3:Int)=2)=false from rfl,Ql,Qh,Qb,Qa,Qt,Qc]
end
section
def F2(x:ae):(dI x).ak=x.ak/\(dI x).aJ=x.aJ/\(dI x).aa=x.aa/\(dI x).bm=x.bm/\(dI x).au=x.au/\(dI x).af=x.af:=by grind [dI]
def agr{x:ae}(a:bz x):(dI x).aI=x.aI\/(x.aI=0/\(dI x).aI=1):=by
 have:=a.seq
 grind [dI,bO]
def F3{m m':ae}(a:jW m m')(h:¬m'=m):G8 m m'=false:=by grind [G8,afV]
def afA{R:ae->Prop}(hR1:∀m,bz m->R m->R (dB m))(hR2:∀m,R m->R (dI m)){m:ae}(h:bz m)(hs:gp m)(B:R m):Yd (xE m) (KN R m):=by
 unfold xE;simp only[etas,vq h hs,Qa,Qh,Qb];refine Yd.down (λs=>bz s.1/\R s.1/\jW m s.1/\(aQ m.af=false->aQ s.1.af=false)) (λs=>K1+K2 - lY s.1) ?_ ⟨h,B,jW.refl m,id⟩
 rintro⟨x,z,_⟩ ⟨a,f,hex,c⟩;simp only at a f hex c;simp only[aS,acQ a.ev,Qa,aku]
 have b:∀{y:ae},y=dB x->¬y=x->(bz y/\R y/\jW m y/\(aQ m.af=false->aQ y.af=false))/\K1+K2 - lY y<K1+K2 - lY x:=by rintro y rfl w;have hv:=VQ x;have A:=(X1 a).resolve_left w;have J:=aa7 (G5 a);exact⟨⟨G5 a,hR1 _ a f,⟨hv.aF.trans hex.aF,hv.aK.trans hex.aK,hv.seq.trans hex.seq,hv.aL.trans hex.aL,hv.xe.trans hex.xe,hv.heard.trans hex.heard⟩,λj=>PH a (c j)⟩,O⟩
 by_cases d:ed x=x
 .simp only[d,BD,Qc,aaP a.ev,Qa]
  by_cases hS:ig x=x
  .simp only[hS,BD,Qc,aaR a.ev,Qa]
   by_cases g:gI x=x
   .simp only[g,BD,Qc,ajx a.ev,Qa]
    by_cases hF:jX x=x
    .simp only[hF,BD,Qc,ag1 a.ev,Qa];have e:dB x=gB x:=by unfold dB;rw[Qe d,Qe hS,Qe g,Qe hF]
     by_cases r:gB x=x
     .simp only[r,BD,Qc,dx,Qa]
      have o:(bif !aQ x.af then Option.map inr (some (⟨x.ak,x.aJ,bO x.aI (1:Int),x.aa,x.aW,x.af,x.ar,x.aH,x.aB,x.bg,x.bx,x.bm,x.au⟩:ae))else Option.map (inr (α:=ae×ae×Unit)) (some x))=some (inr (dI x)):=by unfold dI;cases aQ x.af<;>rfl
      rw[o];obtain⟨I,H,G,F,E,D⟩:=F2 x;refine .some ⟨wb a,NQ λj=> ?_,⟨I.trans hex.aF,H.trans hex.aK,G.trans hex.aL,F.trans hex.xe,E.trans hex.heard⟩,?_,λj=>by rw[D];exact c j,hR2 _ f,ags a ⟨d,hS,g,hF,r⟩⟩
      .rw[hex.seq];refine hs.zero ?_
       cases u:aQ m.af with
       |true=>rfl
       |false=>rw[c u]at j;cases j
      .have:=agr a;rw[hex.seq]at this;exact this
     .simp only[F3 (DM x) r,Qb];exact .some (b e.symm r)
    .simp only[F3 (Bj x) hF,Qb];have e:dB x=jX x:=by unfold dB;rw[Qe d,Qe hS,Qe g,Qg hF]
     exact .some (b e.symm hF)
   .simp only[F3 (Bk x) g,Qb];have e:dB x=gI x:=by unfold dB;rw[Qe d,Qe hS,Qg g]
    exact .some (b e.symm g)
  .simp only[F3 (Bi x) hS,Qb];have e:dB x=ig x:=by unfold dB;rw[Qe d,Qg hS]
   exact .some (b e.symm hS)
 .simp only[F3 (DK x) d,Qb];have e:dB x=ed x:=by unfold dB;rw[Qg d]
  exact .some (b e.symm d)
open Classical in
 def xC(m a:ae):ae:=if aQ m.af=false/\{bM m with aI:=0}≠{bM a with aI:=0}then{a with aI:=dy (a.aI+1) 1000000}else a
def RJ(m a:ae):∃s,xC m a={a with aI:=s}/\(s=a.aI\/s=dy (a.aI+1) 1000000):=by
 unfold xC;split
 .exact⟨_,rfl,.inr rfl⟩
 .exact⟨a.aI,rfl,.inl rfl⟩
def aaT{m a:ae}(h:bz a):∃s,xC m a={a with aI:=s}/\a.aI<=s/\0<=s/\s<=1000000:=by
 obtain⟨s,h1,b⟩:=RJ m a;have:=h.seq
 grind [dy]
def ag3{m a:ae}(h:bz a):bz (xC m a):=by obtain⟨s,h1,b⟩:=aaT (m:=m) h;rw[h1];exact Vi h b.2
def ajT{m a:ae}(h:bz a)(hs:gp a)(b:aQ m.af=false->aQ a.af=false):gp (xC m a):=by
 unfold xC;split
 .rename_i c;have:=hs.pos (b c.1);refine⟨λd=> ?_,λ_=> ?_⟩
  .grind
  .grind [dy]
 .exact hs
def HD(R:ae->Prop)(m b:ae)(q:ae×Int×Unit):Prop:=∃a,q=(xC m a,(0:Int),())/\KN R (dI b) a
def ajZ{R:ae->Prop}{a m2:ae}(c:bz a)(h:KN R a m2):KN R (dI a) m2:=by
 obtain⟨w,u,r,o,j,d⟩:=F2 a;refine⟨h.inv,h.seq,?_,?_,λb=>h.nz (by rw[d]at b;exact b),h.rel,h.fix⟩
 .obtain⟨y,a2,a3,a4,a5⟩:=h.env
  grind
 .have hn:=h.num;have f:=c.seq
  cases b:aQ a.af with
  |true=>grind [dI]
  |false=>
   have g:=h.seq.pos (h.nz b)
   grind [dI,bO]
def ajC{m:ae}(h:bz m):cI ({bM m with aI:=0}:aj).aa:=by rw[show({bM m with aI:=0}:aj).aa=(bM m).aa from rfl,pb];exact h.aL.sm
def E7{R:ae->Prop}(hR1:∀m,bz m->R m->R (dB m))(hR2:∀m,R m->R (dI m)){m c:ae}(h:bz m)(z:bz c)(g:aQ c.af=true->c.aI=0)(j:aQ m.af=false->aQ c.af=false)(w:R c):
  Yd (iW m (dI c)) λq=>∃m2,q=xC m m2/\KN R (dI c) m2:=by
 unfold iW aO;simp only[etas];refine Yd.bind (afA hR1 hR2 (wb z) (NQ g) (hR2 _ w)) λm2 o=> ?_
 have A:=o.inv.seq;obtain⟨r,g1,g2⟩:=alC (a:={bM m with aI:=0}) (b:={bM m2 with aI:=0}) (ajC h)
 have f:aC .i64 m2.aI 1=m2.aI+1:=bH O O;simp only[dx,Qa,Ce,aS,g1,f]
 cases d:aQ m2.af with
 |true=>
  have u:aQ m.af=true:=by
   cases y:aQ m.af with
   |true=>rfl
   |false=>rw[o.nz (by rw[(F2 c).2.2.2.2.2];exact j y)]at d;cases d
  refine .some ⟨m2,?_,o⟩;unfold xC;rw[Qg (by rw[u];rintro⟨e,_⟩;cases e)]
 |false=>grind [Yd.of_eq,xC,aQ]
def akt(a b:aj)(h:cI a.aa)(hn:a.ak=b.ak)(hs:a.aJ=b.aJ):∃r,mZ a b=some r/\(r=true↔{a with aI:=0}={b with aI:=0}):=by
 obtain⟨r,h1,c⟩:=eqT (a:=a.aa) (b:=b.aa) h;refine⟨r&&decide (a.bF=b.bF)&&decide (a.af=b.af)&&decide (a.ar=b.ar)&&decide (a.aH=b.aH)&&decide (a.bg=b.bg)&&decide (a.bx=b.bx),?_,?_⟩
 .unfold mZ aO;simp only[etas,h1,Qa,abU,abO,<-Bool.decide_and,<-Uh,Qa]
 .grind
def yn{m:ae}(h:bz m):kE m=some m:=by
 unfold kE;simp only[etas,eN h.aL.sm,Qa];rw[aam (λe a=>(h.hv e a).2.1.sm) (by have:=h.len;omega)]
 rfl
def V9{l:Z aj}{e:aj}(hv:bd e=true):
  (∃x∈l,x.ak=e.ak/\e.aI<=x.aI/\ve l e=(l,false,()))\/
  (∃a b,((∃x,l=a++x::b/\x.ak=e.ak/\x.aI<e.aI)\/(l=a++b/\(∀x∈l,x.ak≠e.ak)/\(∀x∈a,¬e.ak<x.ak)/\(∀x,b.head?=some x->e.ak<x.ak)))/\ve l e=(a++e::b,true,())):=by
 unfold ve;rw[Qe hv]
 cases hf:l.findIdx? (λx=>decide (x.ak=e.ak))with
 |some i=>
  obtain⟨hi,g,_⟩:=List.findIdx?_eq_some_iff_getElem.1 hf;have c:l[i]?=some l[i]:=Qj hi;have g:=qal g;simp only[c,qaI]
  by_cases r:e.aI<=l[i].aI
  .grind
  .right;rw[Qg r];refine⟨l.take i,l.drop (i+1),.inl ⟨l[i],?_,g,O⟩,?_⟩
   .rw[List.getElem_cons_drop];exact(List.take_append_drop i l).symm
   .rw[List.set_eq_take_append_cons_drop,Qe hi]
 |none=>
  right
  have o:∀x∈l,x.ak≠e.ak:=λx c y=>by grind
  refine⟨l.take (Le l e),l.drop (Le l e),.inr ⟨(List.take_append_drop _ l).symm,o,?_,?_⟩,by rw[qah];rfl⟩
  .intro x c d;obtain⟨j,u,rfl⟩:=List.getElem_of_mem c;rw[List.getElem_take]at d;rw[List.length_take]at u;unfold Le at u
   cases f:l.findIdx? (λx=>decide (e.ak<x.ak))with
   |none=>grind
   |some k=>obtain⟨_,_,w⟩:=List.findIdx?_eq_some_iff_getElem.1 f;rw[f,qaI]at u;have:=w j O;simp[d]at this
  .intro x c;rw[List.head?_drop]at c;unfold Le at c
   cases f:l.findIdx? (λx=>decide (e.ak<x.ak))with
   |none=>rw[f,Option.getD_none,qaJ (Qs _)]at c;cases c
   |some k=>
    obtain⟨hk,g,_⟩:=List.findIdx?_eq_some_iff_getElem.1 f
    grind
def aiC{l:Z aj}{e:aj}{y:aj}(c:y∈(ve l e).1):y=e\/y∈l:=by
 by_cases hv:bd e=true
 .rcases V9 (l:=l) hv with⟨x,_,_,_,h⟩|⟨a,b,h1,h⟩
  .rw[h]at c;exact .inr c
  .grind
 .grind [ve]
def acN{l:Z aj}{e:aj}(hl:l.Pairwise (λa b=>a.ak<b.ak)):(ve l e).1.Pairwise (λa b=>a.ak<b.ak):=by
 by_cases hv:bd e=true
 .rcases V9 (l:=l) hv with⟨x,_,_,_,h⟩|⟨a,b,h1,h⟩
  .rw[h];exact hl
  .rw[h];show(a++e::b).Pairwise _;rcases h1 with⟨x,rfl,hn,_⟩|⟨rfl,d,j,g⟩
   .rw[qai,Q0]at hl ⊢
    grind
   .rw[qai]at hl;rw[qai,Q0];obtain⟨g1,g3,g4⟩:=hl
    have f:∀y∈b,e.ak<y.ak:=by
     intro y c
     cases b with
     |nil=>cases c
     |cons z b=>
      have:=g z rfl;rcases Qv.1 c with rfl|c
      .exact this
      .have:=(Q0.1 g3).1 y c;omega
    grind
 .unfold ve;rw[Qg hv];exact hl
structure Ai (m:ae) (e:aj):Prop where
 valid:bd e=true
 aL:cW e.aa
 aK:e.aJ=m.aJ
 aF:e.ak≠m.ak
 def Ds(m:ae)(e:aj):ae:={m with au:=(ve m.au e).1}
def Kk{m:ae}(h:bz m){e:aj}(a:Ai m e):bz (Ds m e):=by
 refine⟨h.n0,h.n1,h.aK,h.seq,h.aL,h.xe,λy b=> ?_,acN h.dg,?_⟩
 .rcases aiC b with rfl|b
  .exact⟨a.valid,a.aL,a.aK,a.aF⟩
  .exact h.hv y b
 .rcases h.body with k|k|k|k
  .exact .inl ⟨k.bf,k.aY,k.dY,k.cm,k.eR,k.low,k.cv⟩
  .exact .inr (.inl ⟨k.bf,k.aY,k.dY,k.cm,k.eR,k.up,k.cv,k.low⟩)
  .exact .inr (.inr (.inl ⟨k.bf,k.aY,k.dY,k.cm,k.eR,k.range⟩))
  .exact .inr (.inr (.inr ⟨k.bf,k.aY,k.dY,k.cm,k.eR,k.range⟩))
def Dx(m:ae)(t:aq):ae:={m with aa:=t}
def RA{m:ae}(h:bz m){t:aq}(ht:cW t):bz (Dx m t):=by
 refine⟨h.n0,h.n1,h.aK,h.seq,ht,h.xe,h.hv,h.dg,?_⟩;rcases h.body with k|k|k|k
 .exact .inl ⟨k.bf,k.aY,k.dY,k.cm,k.eR,k.low,k.cv⟩
 .exact .inr (.inl ⟨k.bf,k.aY,k.dY,k.cm,k.eR,k.up,k.cv,k.low⟩)
 .exact .inr (.inr (.inl ⟨k.bf,k.aY,k.dY,k.cm,k.eR,k.range⟩))
 .exact .inr (.inr (.inr ⟨k.bf,k.aY,k.dY,k.cm,k.eR,k.range⟩))
def ic(m:ae)(v:C):ae:=if aQ m.af=true then{m with bm:=v,af:=⟨1,dH {m with bm:=v}⟩}else{m with bm:=v}
def aih{v:C}(h:1<=v.size):v≠gl:=by rintro rfl;exact absurd h s_
def XU{m:ae}(h:P0 m){v:C}(hv:1<=v.size):dH {m with bm:=v}=v:=by unfold dH;rw[Qg (by rw[show({m with bm:=v}:ae).aB=m.aB from rfl,h.eR,cr];decide),Qg (by rw[show({m with bm:=v}:ae).aW=m.aW from rfl,h.bf];decide),Qe (aih hv)]
def JO{m:ae}(h:bz m){v:C}(hv:1<=v.size/\v.size<=200):bz (ic m v):=by
 unfold ic;rcases h.body with k|k|k|k
 .rw[Qe (by rw[k.aY];exact cr),XU k hv.1]
  refine⟨h.n0,h.n1,h.aK,h.seq,h.aL,hv.2,h.hv,h.dg,.inr (.inl ⟨k.bf,⟨by show(1:Int)<=1;omega,by show(1:Int)<=1000;omega,hv.1,hv.2⟩,.inl k.dY,.inl k.cm,.inl k.eR,?_,k.cv,.inl k.low⟩)⟩
  show bG _ m.aB=false;rw[k.eR]
  grind [bG,ah,cu,kS]
 .rw[Qg (by rw[k.aY.nz];decide)]
  exact⟨h.n0,h.n1,h.aK,h.seq,h.aL,hv.2,h.hv,h.dg,.inr (.inl ⟨k.bf,k.aY,k.dY,k.cm,k.eR,k.up,k.cv,k.low⟩)⟩
 .rw[Qg (by rw[k.aY.nz];decide)]
  exact⟨h.n0,h.n1,h.aK,h.seq,h.aL,hv.2,h.hv,h.dg,.inr (.inr (.inl ⟨k.bf,k.aY,k.dY,k.cm,k.eR,k.range⟩))⟩
 .rw[Qg (by rw[k.aY.nz];decide)]
  exact⟨h.n0,h.n1,h.aK,h.seq,h.aL,hv.2,h.hv,h.dg,.inr (.inr (.inr ⟨k.bf,k.aY,k.dY,k.cm,k.eR,k.range⟩))⟩
def oi(m:ae):ae:={m with bg:=if dH m=m.af.Value then m.bg else 0,af:=⟨m.af.ai+1,dH m⟩}
def afL{m:ae}(h:bz m)(d:m.aW≠3)(hv:dH m≠gl):1<=(dH m).size/\(dH m).size<=200:=by
 have b:m.aW=1->(m.aB=cu\/dF m.aB)->1<=(dH m).size/\(dH m).size<=200:=λa c=>by
  refine aaZ h a c ?_;refine qbH λhn=>hv ?_
  simp only[qaF,qbf]at hn;obtain⟨f,a2,a3⟩:=hn;unfold dH;rw[Qg (by rw[a3,cr];decide),Qg (by rw[a];decide),Qg (by rw[a2];exact λe=>e rfl),f]
  rfl
 rcases h.body with k|k|k|k
 .exact b k.bf (.inl k.eR)
 .exact b k.bf (k.eR.imp_right And.left)
 .unfold dH;rcases k.eR with e|⟨hf,_⟩
  .rw[Qg (by rw[e,cr];decide),Qe (by rw[k.bf];decide)]
   exact k.aY.2.2
  .rw[Qe hf.nz];exact hf.2.2
 .exact absurd k.bf d
def al6{m:ae}(k:P2 m):dH m=m.af.Value:=by
 unfold dH;rcases k.eR with e|⟨hf,he⟩
 .rw[Qg (by rw[e,cr];decide),Qe (by rw[k.bf];decide)]
 .rw[Qe hf.nz,he]
def Js{m:ae}(h:bz m)(u:m.aW≠3)(hv:dH m≠gl)(w:m.af.ai<1000):bz (oi m):=by
 have o:=afL h u hv;refine⟨h.n0,h.n1,h.aK,h.seq,h.aL,h.xe,h.hv,h.dg,?_⟩;have b:0<=m.af.ai->dF (oi m).af:=λj=>⟨by show 1<=m.af.ai+1;omega,by show m.af.ai+1<=1000;omega,o⟩
 rcases h.body with k|k|k|k
 .have j:m.af.ai=0:=by rw[k.aY];rfl
  refine .inr (.inl ⟨k.bf,b O,.inl k.dY,.inl k.cm,.inl k.eR,?_,k.cv,.inl ?_⟩)
  .show bG (⟨m.af.ai+1,dH m⟩:ah) m.aB=false;rw[k.eR]
   grind [bG,dH,ah,cu,kS]
  .show(if dH m=m.af.Value then m.bg else 0)=0
   rw[k.low,ite_self]
 .have r:=k.aY;have j:0<=m.af.ai:=by have:=r.1;omega
  refine .inr (.inl ⟨k.bf,b j,k.dY,k.cm,k.eR,?_,k.cv,?_⟩)
  .show bG (⟨m.af.ai+1,dH m⟩:ah) m.aB=false
   cases hl:bG (⟨m.af.ai+1,dH m⟩:ah) m.aB with
   |false=>rfl
   |true=>
    have z:=kS hl;have y:=PX k.up
    grind
  .show(if dH m=m.af.Value then m.bg else 0)=0\/_
   by_cases g:dH m=m.af.Value
   .have a:(oi m).bg=m.bg:=by show(if dH m=m.af.Value then m.bg else 0)=m.bg;rw[Qe g]
    have d:ij (oi m)=ij m:=by
     show(if(!aQ m.aB&&bW m.aB ⟨m.af.ai+1,dH m⟩)=true then m.aB.ai else 0)=ij m
     rw[g];rfl
    rw[Qe g,a,d];rcases k.low with e|⟨g1,g2,g3⟩
    .exact .inl e
    .refine .inr ⟨g1,g2,?_⟩;show qU m.ar m.aH (dH m) m.bg=false;rw[g];exact g3
   .rw[Qg g];exact .inl rfl
 .have r:=k.aY;have j:0<=m.af.ai:=by have:=r.1;omega
  have f:=al6 k;have c:(oi m).af.Value=m.af.Value:=f;have a:(oi m).bg=m.bg:=by show(if dH m=m.af.Value then m.bg else 0)=m.bg;rw[Qe f]
  refine .inr (.inr (.inl ⟨k.bf,b j,?_,k.cm,?_,?_⟩))
  .rw[c];exact k.dY
  .rw[c];exact k.eR
  .rw[a];exact k.range
 .exact absurd k.bf u
end
section
def al5:aq:=⟨0,[],[]⟩
def GZ:ae:=⟨0,0,0,al5,0,cu,cu,cu,cu,0,0,gl,[]⟩
def YE{m m1:ae}(hs:gp m)(c:aQ m1.af=aQ m.af)(b:m1.aI=m.aI):dI m1=m1:=by
 refine aiY ⟨λa=> ?_,λa=> ?_⟩
 .rw[b];exact hs.zero (by rw[<-c];exact a)
 .rw[b];exact hs.pos (by rw[<-c];exact a)
def pP{m:ae}{v:C}:(aQ m.af=false->aQ (ic m v).af=false)/\(ic m v).aI=m.aI:=by
 unfold ic;split
 .rename_i a;refine⟨λe=> ?_,rfl⟩
  rw[a]at e;cases e
 .exact⟨λe=>e,rfl⟩
def age{m:ae}(h:bz m){v:C}(hv:1<=v.size/\v.size<=200):aQ (ic m v).af=false:=by
 rcases h.body with k|k|k|k
 .unfold ic;rw[Qe (by rw[k.aY];exact cr),XU k hv.1]
  exact dF.nz ⟨by show(1:Int)<=1;omega,by show(1:Int)<=1000;omega,hv.1,hv.2⟩
 .exact pP.1 k.aY.nz
 .exact pP.1 k.aY.nz
 .exact pP.1 k.aY.nz
def Fw{m:ae}(h:bz m):aQ (oi m).af=false:=by
 have:0<=m.af.ai:=by
  rcases h.body with k|k|k|k
  .rw[k.aY];decide
  .have:=k.aY.1;omega
  .have:=k.aY.1;omega
  .have:=k.aY.1;omega
 cases a:aQ (oi m).af with
 |false=>rfl
 |true=>have:=Be.1 a;have b:m.af.ai+1=0:=qag ah.ai this;omega
section
variable{R:ae->Prop}(hR1:∀m,bz m->R m->R (dB m))(hR2:∀m,R m->R (dI m)){m:ae}(h:bz m)(hs:gp m)
 include hR1 hR2 h hs
theorem PN{v:C}(hv:1<=v.size/\v.size<=200)(j:R (ic m v)):Yd (jL m v) (HD R m (ic m v)):=by
 have d1:decide (((ByteArray.size v:Nat):Int)<(1:Int))=false:=Qf O;have d2:decide ((200:Int)<((ByteArray.size v:Nat):Int))=false:=Qf O;have hi:=JO h hv;have c:qF {m with bm:=v}=some (dH {m with bm:=v}):=Ny (m:={m with bm:=v}) ⟨h.ev.n0,h.ev.n1,h.ev.aL,h.ev.len,h.ev.sm,h.ev.valid⟩
 unfold jL oO;simp only[etas,vq h hs,Qa,Qh,Qb,d1,d2,dx,aS]
 have a:Yd ((iW m (dI (ic m v))).bind λg=>some (g,(0:Int),())) (HD R m (ic m v)):=
  Yd.bind (E7 hR1 hR2 h hi (λb=>by rw[pP.2];exact hs.zero (by cases r:aQ m.af with|true=>rfl|false=>rw[pP.1 r]at b;cases b)) pP.1 j) λq o=>by obtain⟨m2,rfl,u⟩:=o;exact .some ⟨m2,rfl,u⟩
 cases b:aQ m.af with
 |true=>
  have d:=hs.zero b
  have f:dI (ic m v)=⟨m.ak,m.aJ,1,m.aa,m.aW,⟨1,dH {m with bm:=v}⟩,m.ar,m.aH,m.aB,m.bg,m.bx,v,m.au⟩:=by unfold dI;rw[Qe (age h hv),pP.2,d];unfold ic;rw[Qe b];rfl
  rw[f]at a;simp only[Qc];rw[show(⟨m.ak,m.aJ,m.aI,m.aa,m.aW,m.af,m.ar,m.aH,m.aB,m.bg,m.bx,v,m.au⟩:ae)={m with bm:=v}from rfl,c]
  exact a
 |false=>
  have f:dI (ic m v)=⟨m.ak,m.aJ,m.aI,m.aa,m.aW,m.af,m.ar,m.aH,m.aB,m.bg,m.bx,v,m.au⟩:=by
   rw[YE hs (by rw[pP.1 b,b]) pP.2]
   unfold ic;rw[Qg (by rw[b];decide)]
  rw[f]at a;exact a
theorem Yk{e:aj}(a:Ai m e)(f:R (Ds m e)):Yd (lR m e) λq=>(HD R m (Ds m e) q/\(ve m.au e).2.1=true)\/(q=(GZ,(9:Int),())/\(ve m.au e).2.1=false):=by
 have hi:=Kk h a;have hlen:=h.len;have b:=aiq (l:=m.au) (λx d=>(h.hv x d).2.1.sm) O (e:=e) a.aL.sm
 have c:dI (Ds m e)=Ds m e:=YE hs rfl rfl;unfold lR oO;simp only[etas,vq h hs,Qa,Qh,Qb,lI a.aL.sm,a.valid,Qf a.aF,Qd a.aK,b]
 cases o:(ve m.au e).2.1 with
 |false=>exact .some (.inr ⟨rfl,rfl⟩)
 |true=>
  have:=E7 hR1 hR2 h hi hs.zero (λe=>e) f
  rw[c]at this;refine Yd.bind this λq g=> ?_
  obtain⟨m2,rfl,j⟩:=g;exact .some (.inl ⟨⟨m2,rfl,by rw[c];exact j⟩,rfl⟩)
theorem Yi(r:R (oi m)):Yd (lQ m) λq=>(HD R m (oi m) q/\m.aW≠3/\dH m≠gl/\m.af.ai<1000)\/(q=(GZ,(62:Int),())/\(m.aW=3\/dH m=gl))\/(q=(GZ,(3:Int),())/\1000<=m.af.ai):=by
 unfold lQ oO;simp only[etas,vq h hs,Qa,Qh,Qb,Ny h.ev,aS]
 by_cases c:m.aW=3
 .rw[Qd c];exact .some (.inr (.inl ⟨rfl,.inl c⟩))
 .rw[Qf c]
  by_cases hv:dH m=bE
  .rw[Qd hv];exact .some (.inr (.inl ⟨rfl,.inr hv⟩))
  .rw[Qf hv]
   by_cases g:(1000:Int)<=m.af.ai
   .rw[Qd g];exact .some (.inr (.inr ⟨rfl,g⟩))
   .rw[Qf g];have hi:=Js h c hv O
    have w:0<=m.af.ai:=by
     rcases h.body with k|k|k|k
     .rw[k.aY];decide
     .have:=k.aY.1;omega
     .have:=k.aY.1;omega
     .have:=k.aY.1;omega
    have f:aC .i64 m.af.ai 1=m.af.ai+1:=bH O O
    have a:Yd ((iW m (dI (oi m))).bind λo=>some (o,(0:Int),())) (HD R m (oi m)):=
     Yd.bind (E7 hR1 hR2 h hi (λj=>by rw[Fw h]at j;cases j) (λ_=>Fw h) r) λq d=>by obtain⟨m2,rfl,y⟩:=d;exact .some ⟨m2,rfl,y⟩
    have u:dI (oi m)=⟨m.ak,m.aJ,bO m.aI 1,m.aa,m.aW,⟨m.af.ai+1,dH m⟩,m.ar,m.aH,m.aB,(if dH m=m.af.Value then m.bg else 0),m.bx,m.bm,m.au⟩:=by unfold dI;rw[Qe (Fw h)];rfl
    rw[u]at a;simp only[f,Qb]
    by_cases b:dH m=m.af.Value
    .simp only[Qd b,Qh,Qb];rw[Qe b]at a;exact a.mono λq d=> .inl ⟨d,c,hv,O⟩
    .simp only[Qf b,Qt,Qc];rw[Qg b]at a;exact a.mono λq d=> .inl ⟨d,c,hv,O⟩
theorem Ym{t:aq}(ht:cW t)(b:R (Dx m t)):Yd (pZ m t) (HD R m (Dx m t)):=by
 have hi:=RA h ht;have a:dI (Dx m t)=Dx m t:=YE hs rfl rfl;unfold pZ;simp only[etas,vq h hs,Qa,Qh,Qb,dw ht,Ql];have:=E7 hR1 hR2 h hi hs.zero (λe=>e) b
 rw[a]at this;refine Yd.bind this λq c=> ?_
 obtain⟨m2,rfl,d⟩:=c;exact .some ⟨m2,rfl,by rw[a];exact d⟩
end
def PY(aF aK:Int)(t:aq):ae:=⟨aF,aK,0,t,1,cu,cu,cu,cu,0,0,gl,[]⟩
def acD{aF aK:Int}{t:aq}(d:0<=aF)(c:aF<10)(b:1<=aK)(a:aK<=1000000)(ht:cW t):Ak aF aK t=some (PY aF aK t,(0:Int),()):=by
 unfold Ak oO;simp only[etas,Qf (show¬aF<0 by omega),Qf (show¬(9:Int)<aF by omega),Qf (show¬aK<1 by omega),Qf (show¬(1000000:Int)<aK by omega),Qb,Qa,dw ht,Ql,Qh]
 rfl
def akP{aF aK:Int}{t:aq}(d:0<=aF)(c:aF<10)(b:1<=aK)(a:aK<=1000000)(ht:cW t):wW aF aK t=some (PY aF aK t,(0:Int),()):=by
 unfold wW oO;simp only[etas,Qf (show¬aF<0 by omega),Qf (show¬(10:Int)<=aF by omega),Qf (show¬aK<1 by omega),Qf (show¬(1000000:Int)<aK by omega),Qb,Qa,c6 ht,Ql,Qh,eN ht.sm]
 rfl
def UR{aF aK:Int}{t:aq}(g:0<=aF)(f:aF<10)(d:1<=aK)(c:aK<=1000000)(ht:cW t):bz (PY aF aK t)/\gp (PY aF aK t):=
 ⟨⟨g,f,⟨d,c⟩,⟨by show(0:Int)<=0;omega,by show(0:Int)<=1000000;omega⟩,ht,(by show gl.size<=200;decide),(λe b=>absurd b QX),List.Pairwise.nil,.inl ⟨rfl,rfl,rfl,rfl,rfl,rfl,rfl⟩⟩,⟨λ_=>rfl,λa=>absurd (show aQ cu=false from a) (by rw[cr];decide)⟩⟩
section
variable{R:ae->Prop}(hR1:∀m,bz m->R m->R (dB m))(hR2:∀m,R m->R (dI m)){m:ae}(h:bz m)(hs:gp m)
 include hR1 hR2 h hs
theorem Kz{b:ae}(A:bz b)(o:aQ b.af=true->b.aI=0)(G:aQ m.af=false->aQ b.af=false)(hn:b.ak=m.ak)(u:b.aJ=m.aJ)(F:R b):
  Yd (Option.bind (fm ⟨b⟩) λa=>
   aX (λ(D:aM×Unit)=>some (D.1.ab,(0:Int),())) λy=>
   aX (λ(B:Bool×Unit)=>
   bif B.1 then
   y ((aM.mk (ae.mk a.2.ab.ak a.2.ab.aJ (dy (aC .i64 a.2.ab.aI (1:Int)) (1000000:Int)) a.2.ab.aa a.2.ab.aW a.2.ab.af a.2.ab.ar a.2.ab.aH a.2.ab.aB a.2.ab.bg a.2.ab.bx a.2.ab.bm a.2.ab.au)),())
   else
   y (a.2,())) λw=>
   Option.bind (bA m.af) λE=>
   bif (!E)then
   Option.bind (c8 m) λj=>
   Option.bind (c8 a.2.ab) λg=>
   Option.bind (mZ j g) λf=>
   w ((!f),())
   else
   w (false,())) (HD R m b):=by
 refine Yd.bind (afz hR1 hR2 A o F) λq z=> ?_
 obtain⟨m2,rfl,d⟩:=z;have z:=d.inv.seq;have c:aC .i64 m2.aI 1=m2.aI+1:=bH O O;obtain⟨r,g1,g2⟩:=akt (bM m) (bM m2) (by rw[pb];exact h.aL.sm) (by rw[Bo,Bo,d.env.1,hn]) (by rw[Hs,Hs,d.env.2.1,u])
 simp only[aS,dq,Qa,DP,II h,II d.inv,c,g1];have H:=ajZ A d;refine Yd.of_eq (x:=(xC m m2,(0:Int),())) ?_ ⟨m2,rfl,H⟩;unfold xC
 cases I:aQ m.af with
 |true=>rw[Qg (by rintro⟨e,_⟩;cases e)];rfl
 |false=>
  cases r with
  |true=>rw[Qg (λe=>e.2 (g2.1 rfl))];rfl
  |false=>rw[Qe ⟨rfl,λe=>by have:=g2.2 e;cases this⟩];rfl
theorem agn{v:C}(hv:1<=v.size/\v.size<=200)(d:R (ic m v)):Yd (lD m v) (HD R m (ic m v)):=by
 have d1:decide (((ByteArray.size v:Nat):Int)<(1:Int))=false:=Qf O;have d2:decide ((200:Int)<((ByteArray.size v:Nat):Int))=false:=Qf O;have hi:=JO h hv;have a:fV ⟨{m with bm:=v}⟩=some (dH {m with bm:=v}):=JK (m:={m with bm:=v}) ⟨h.ev.n0,h.ev.n1,h.ev.aL,h.ev.len,h.ev.sm,h.ev.valid⟩
 have c:oB ⟨m⟩ v=some ((0:Int),⟨ic m v⟩):=by
  unfold oB ic oO;simp only[d1,d2,Qb,Qa,dq,aS]
  cases b:aQ m.af with
  |true=>
   simp only[Qc,Qr,etas];rw[show(⟨m.ak,m.aJ,m.aI,m.aa,m.aW,m.af,m.ar,m.aH,m.aB,m.bg,m.bx,v,m.au⟩:ae)={m with bm:=v}from rfl,a]
   rfl
  |false=>simp only[Qb,QB,Qx,etas]
 unfold lD qn;simp only[etas,aM.eta,xa h hs,yn h,c,Qa,Qh,Qb,Ql];refine Yd.bind (Kz hR1 hR2 h hs hi (λb=>by rw[pP.2];exact hs.zero (by cases g:aQ m.af with|true=>rfl|false=>rw[pP.1 g]at b;cases b)) pP.1 (by unfold ic;split<;>rfl) (by unfold ic;split<;>rfl) d) λq f=> ?_
 obtain⟨m2,rfl,j⟩:=f;exact .some ⟨m2,rfl,j⟩
theorem agm{e:aj}(a:Ai m e)(f:R (Ds m e)):Yd (lC m e) λq=>(HD R m (Ds m e) q/\(ve m.au e).2.1=true)\/(q=(GZ,(9:Int),())/\(ve m.au e).2.1=false):=by
 have hi:=Kk h a;have hlen:=h.len;have b:=alS (l:=m.au) (λx d=>(h.hv x d).2.1.sm) O (e:=e) a.aL.sm
 have c:lW ⟨m⟩ e=some (bif (ve m.au e).2.1 then((0:Int),⟨Ds m e⟩)else((9:Int),⟨m⟩)):=by unfold lW;simp only[etas,aS,uC a.aL.sm,a.valid,Qa,Qh,Qb,Qf a.aF,Qd a.aK,b];cases (ve m.au e).2.1<;>rfl
 unfold lC qo;simp only[etas,aM.eta,xa h hs,yn h,c,Qa,Qh,Qb]
 cases o:(ve m.au e).2.1 with
 |false=>exact .some (.inr ⟨rfl,rfl⟩)
 |true=>
  simp only[Qc,Ql,Qh,Qb];refine Yd.bind (Kz hR1 hR2 h hs hi hs.zero (λe=>e) rfl rfl f) λq g=> ?_
  obtain⟨m2,rfl,j⟩:=g;exact .some (.inl ⟨⟨m2,rfl,j⟩,trivial⟩)
theorem agl(g:R (oi m)):Yd (lB m) λq=>(HD R m (oi m) q/\m.aW≠3/\dH m≠gl/\m.af.ai<1000)\/(q=(GZ,(62:Int),())/\(m.aW=3\/dH m=gl))\/(q=(GZ,(3:Int),())/\1000<=m.af.ai):=by
 unfold lB qm s4 oO;simp only[ae.eta,etas,aj.eta,aM.eta,xa h hs,yn h,Qa,Qh,Qb,JK h.ev]
 by_cases c:m.aW=3
 .rw[Qd c];exact .some (.inr (.inl ⟨rfl,.inl c⟩))
 .rw[Qf c]
  by_cases hv:dH m=bE
  .rw[Qd hv];exact .some (.inr (.inl ⟨rfl,.inr hv⟩))
  .rw[Qf hv]
   by_cases d:(1000:Int)<=m.af.ai
   .rw[Qd d];exact .some (.inr (.inr ⟨rfl,d⟩))
   .rw[Qf d];have hi:=Js h c hv O
    have o:0<=m.af.ai:=by
     rcases h.body with k|k|k|k
     .rw[k.aY];decide
     .have:=k.aY.1;omega
     .have:=k.aY.1;omega
     .have:=k.aY.1;omega
    have b:aC .i64 m.af.ai 1=m.af.ai+1:=bH O O
    have ht:iC ⟨m⟩ ⟨m.af.ai+1,dH m⟩=some ((),⟨oi m⟩):=by
     rw[XZ];unfold oi
     by_cases a:dH m=m.af.Value
     .have:bW m.af ⟨m.af.ai+1,dH m⟩=true:=jJ.2 a.symm;rw[this,Qe a];rfl
     .have:bW m.af ⟨m.af.ai+1,dH m⟩=false:=jm.2 (Ne.symm a);rw[this,Qg a];rfl
    simp only[b,Qb,Qc,Qa,ht,Ql,Qh,ae.eta,aM.eta];refine Yd.bind (Kz hR1 hR2 h hs hi (λf=>by rw[Fw h]at f;cases f) (λ_=>Fw h) rfl rfl g) λq j=> ?_
    obtain⟨m2,rfl,r⟩:=j;exact .some (.inl ⟨⟨m2,rfl,r⟩,c,hv,O⟩)
end
def Yv{m:ae}(h:bz m)(hs:gp m):∃e,qZ m=some (e,!aQ m.af,())/\(aQ m.af=false->e=bM m):=by
 unfold qZ oO;simp only[etas,dq,xa h hs,yn h,DP,II h,Qa]
 cases aQ m.af with
 |true=>exact⟨_,rfl,λe=>by cases e⟩
 |false=>exact⟨_,rfl,λ_=>rfl⟩
def PW{m:ae}(h:bz m)(hs:gp m):ra m=some (bif decide (m.aW=3)then m.af.Value else gl,decide (m.aW=3),()):=by unfold ra oO;simp only[etas,xa h hs,Qa];cases decide (m.aW=3)<;>rfl
def aiM{m:ae}(h:bz m)(hs:gp m){e:aj}(ht:cI e.aa)(a:bd e=false\/e.ak=m.ak\/e.aJ≠m.aJ):lC m e=some (GZ,(61:Int),()):=by
 have c:lW ⟨m⟩ e=some ((61:Int),⟨m⟩):=by
  unfold lW;simp only[etas,aS,uC ht,Qa]
  cases hv:bd e with
  |false=>rfl
  |true=>
   by_cases hn:e.ak=m.ak
   .rw[Qd hn];rfl
   .have b:e.aJ≠m.aJ:=(a.resolve_left (by rw[hv];decide)).resolve_left hn
    rw[Qf hn,Qf b];rfl
 unfold lC qo;simp only[etas,aM.eta,xa h hs,yn h,c,Qa,Qh,Qb];rfl
end
section
structure KJ (n:Nat) (k:Int) (m:ae):Prop where
 n10:n<=10
 k1:1<=k
 kn:k<=n
 aL:m.aa=flat n k
 heard:∀e∈m.au,e.aa=flat n k
section
variable{n:Nat}{k:Int}{m:ae}(h:bz m)(hf:KJ n k m)
 include h
 include hf
end
section
variable{l:Z aj}(hv:∀e∈l,bd e=true)(hsm:∀e∈l,cI e.aa)(hlen:l.length<=1000)
 include hv hsm hlen
end
section
variable{n:Nat}{k:Int}{m:ae}(h:bz m)(hf:KJ n k m)
 include h hf
end
section
variable{n:Nat}{k:Int}{m:ae}(h:bz m)(hf:KJ n k m)
 include h hf
end
def KJ.step{n:Nat}{k:Int}{m m':ae}(hf:KJ n k m)(a:jW m m'):KJ n k m':=⟨hf.n10,hf.k1,hf.kn,by rw[a.aL];exact hf.aL,by rw[a.heard];exact hf.heard⟩
structure ah3 (n:Nat) (k:Int) (m:ae):Prop where
 inv:bz m
 seq:gp m
 flat:KJ n k m
 nz:aQ m.af=false
 aK:m.aJ=1
def ah3.env{n:Nat}{k:Int}{m:ae}(h:ah3 n k m):bd (bM m)=true/\(bM m).aa=Go.Proofs.YtofedieniojipaaGreat.flat n k/\(bM m).aJ=1:=⟨Fz h.inv h.seq h.nz,by rw[pb];exact h.flat.aL,by rw[Hs];exact h.aK⟩
end
section
section
variable{n:Nat}{k:Int}
end
end
section
section
variable{n:Nat}{k:Int}(hn:n<=10)(hk1:1<=k)(hkn:k<=n){i:Int}(hi0:0<=i)(hi9:i<10){v:C}(hv:1<=v.size/\v.size<=200)
 include hn hk1 hkn hi0 hi9
 include hv
end
end
section
def Cw(m a:ae):Prop:=
 (∃v,(1<=v.size/\v.size<=200)/\a=ic m v)\/(∃e,Ai m e/\a=Ds m e)\/(m.aW≠3/\dH m≠gl/\m.af.ai<1000/\a=oi m)\/(∃t,cW t/\a=Dx m t)
structure am5 (m m1:ae):Prop where
 inv:bz m1
 aF:m1.ak=m.ak
 aK:m1.aJ=m.aJ
 seq:m1.aI=m.aI
 nz:aQ m.af=false->aQ m1.af=false
def ag6{m m1:ae}(h:bz m)(b:Cw m m1):am5 m m1:=by
 rcases b with⟨v,hv,rfl⟩|⟨e,he,rfl⟩|⟨c,hv,a,rfl⟩|⟨t,ht,rfl⟩
 .exact⟨JO h hv,by unfold ic;split<;>rfl,by unfold ic;split<;>rfl,pP.2,pP.1⟩
 .exact⟨Kk h he,rfl,rfl,rfl,λe=>e⟩
 .exact⟨Js h c hv a,rfl,rfl,rfl,λ_=>Fw h⟩
 .exact⟨RA h ht,rfl,rfl,rfl,λe=>e⟩
structure OkM (m:ae):Prop where
 inv:bz m
 seq:gp m
 fix:Nu m
 aF:m.ak=0
 aK:m.aJ=1
def UJ{m:ae}(h:bz m)(hs:gp m){e:aj}(ht:cI e.aa)(a:bd e=false\/e.ak=m.ak\/e.aJ≠m.aJ):lR m e=some (GZ,(61:Int),()):=by
 unfold lR oO;simp only[etas,vq h hs,Qa,Qh,Qb,lI ht]
 cases hv:bd e with
 |false=>rfl
 |true=>
  by_cases hn:e.ak=m.ak
  .rw[Qd hn];rfl
  .have b:e.aJ≠m.aJ:=(a.resolve_left (by rw[hv];decide)).resolve_left hn
   rw[Qf hn,Qf b];rfl
def Ir{v:C}(h:Ul v):1<=v.size/\v.size<=200:=by have:=h.size;omega
end
section
abbrev Lp{a ρ:Type}(I:a->Prop)(p:ρ->Prop):a⊕ρ->Prop
 | .inl s=>I s
 | .inr r=>p r
def Yd.Hu{a ρ:Type}{step:a->Y (a⊕ρ)}{p:ρ->Prop}(inv:a->Prop)(b:a->Nat)(h:∀s,inv s->Yd (step s) (Lp (λs'=>inv s'/\b s'<b s) p)){s:a}(hs:inv s):Yd (aE step s) p:=
 Yd.down inv b (λs hi=>(h s hi).mono λy c=>by cases y<;>exact c) hs
def Yd.list{α b d ρ:Type}{p:ρ->Prop}{step:d->Y (d⊕ρ)}(l:Z α)(hl:l.length<=1000000)(mk:Int->b->d)(inv:Nat->b->Prop)
  (j:∀(i:Nat) (x:α) (s:b),inv i s->l.drop i=x::l.drop (i+1)->x∈l->i<l.length->decide ((i:Int)<(l.length:Int))=true->idx l (i:Int)=some x->aC .i64 (i:Int) 1=((i+1:Nat):Int)->Yd (step (mk (i:Int) s)) (Lp (λt=>∃s',t=mk ((i+1:Nat):Int) s'/\inv (i+1) s') p))
  (g:∀s,inv l.length s->decide ((l.length:Int)<(l.length:Int))=false->Yd (step (mk (l.length:Int) s)) (Lp (λ_=>False) p))
  {s:b} (o:inv 0 s):Yd (aE step (mk 0 s)) p:=by
 suffices f:∀(k i:Nat) (s:b),i+k=l.length->inv i s->Yd (aE step (mk (i:Int) s)) p from f l.length 0 s O o
 intro k
 induction k with
 |zero=>
  intro i s hi hs;obtain rfl:i=l.length:=O;refine Yd.loop ((g s hs (Qf (QF _))).mono λy c=> ?_)
  cases y with
  |inl t=>exact c.elim
  |inr r=>exact c
 |succ k u=>
  intro i s hi hs;have a:i<l.length:=O;refine Yd.loop ((j i l[i] s hs (QQ a) (QE a) a (Qd O) (by rw[ba];exact Qj a) (bH O O)).mono λy c=> ?_)
  cases y with
  |inl t=>grind
  |inr r=>exact c
def iU(x:C):Prop:=1<=x.size/\x.size<=200
instance (x:ByteArray):Decidable (iU x):=by unfold iU;infer_instance
def aff:∀(x:C) (l:Z C),Decidable (x∈l)
 |_,[]=>isFalse QX
 |x,y::l=>if h:x=y then isTrue (by rw[h];exact QC)else match aff x l with
  |isTrue a=>isTrue (QI _ a)
  |isFalse a=>isFalse λe=>(Qv.1 e).elim h a
instance (x:ByteArray) (l:List ByteArray):Decidable (x∈l):=aff x l
structure VL (l:List ByteArray):Prop where
 uu:∀x∈l,iU x
 Jd:l.Pairwise (λa b=>bS a b=true)
 len:l.length<=40
def VL.nil:VL []:=⟨λx h=>absurd h QX,List.Pairwise.nil,t_⟩
def VL.uL{l:Z C}(h:VL l):l.length<=1000000:=QJ h.len O
def Fm(a b:C):Int:=if a=b then 0 else if bS a b=true then -1 else 1
theorem xS(a b:C):jM a b=some (Fm a b):=by grind [jM,Fm,bS,nf]
theorem Hy{a b:C}:decide (Fm a b<0)=bS a b:=by
 unfold Fm
 by_cases h:a=b
 .subst h;rw[Qe rfl,kQ.irrefl];rfl
 .rw[Qg h];cases bS a b<;>rfl
theorem Nd{a b:C}:decide (0<Fm a b)=bS b a:=by
 unfold Fm
 by_cases h:a=b
 .subst h;rw[Qe rfl,kQ.irrefl];rfl
 .rw[Qg h]
  cases h1:bS a b with
  |true=>rw[kQ.asymm h1];rfl
  |false=>
   cases c:bS b a with
   |true=>rfl
   |false=>exact absurd (kQ.total _ _ h1 c) h
def Ky{a b:C}:decide (0<=Fm a b)= !bS a b:=by
 rw[<-Hy (a:=a) (b:=b)]
 grind
def IA(x:C):wT x=some (decide (iU x)):=by grind [wT,iU]
def L9(l:Z C)(hl:l.length<=1000000)(x:C):pk l x=some (decide (x∈l)):=by
 unfold pk
 have h:Yd (aE (λ(v1:Int×Unit)=>
   bif (decide (v1.1<((List.length l:Nat):Int)))then
   Option.bind (idx l v1.1) λj=>
   bif (decide (x=j))then
   Option.map inr (some true)
   else
   some (inl ((aC .i64 v1.1 (1:Int)),()))
   else
   Option.map inr (some false)) ((0:Int),())) (λb=>b=decide (x∈l)):=by
  refine Yd.list l hl (λi (_:Unit)=>(i,())) (λi _=>x∉l.take i) ?_ ?_ (s:=()) t_
  .intro i y s hs r o hi a f d;simp only;rw[a,Qc,f,Qa,d]
   by_cases c:x=y
   .rw[Qd c,Qc];exact .some (by subst c;exact(Qd o).symm)
   .rw[Qf c,Qb];refine .some ⟨(),rfl,?_⟩
    have g:l[i]?=some y:=by rw[ba]at f;exact f
    rw[List.take_add_one,g];simp only[qbz,QA,Qz];exact λh=>h.elim hs c
  .intro s hs a;simp only;rw[a,Qb];rw[QK]at hs;exact .some (Qf hs).symm
 obtain⟨b,h1,rfl⟩:=h;exact h1
def Ze{α:Type}[DecidableEq α]{lt:α->α->Bool}(x:α):∀(l:Z α),x∉l->(eQ lt x l).length=l.length+1
 |[],_=>rfl
 |y::l,h=>by
  have b:y≠x:=λe=>h (by rw[e];exact QC)
  rw[eQ]
  by_cases a:lt y x=true
  .rw[Qe a,QN,Ze x l (λe=>h (QI _ e)),QN]
  .rw[Qg a,Qg b];rfl
def oD(l:Z C)(x:C):Z C:=if x∈l\/40<=l.length then l else eQ bS x l
theorem L0{l:Z C}(h:VL l)(x:C):pj l x=some (oD l x):=by
 have hl:=h.len;unfold pj oD oO aO;rw[L9 l h.uL,Qa]
 by_cases D:x∈l
 .grind
 rw[Qf D];simp only[Qb,Qa]
 by_cases E:40<=l.length
 .grind
 rw[Qf (O:¬(40:Int)<=(l.length:Int)),Qg (λe=>e.elim D E)]
 simp only[Qb,aS];have z:∀n,n<=100->bl 16 n=true:=λn hn=>br ⟨O,O⟩
 have:=Yd.list (p:=λr=>r=eQ bS x l) (step:=λ(b:Bool×Int×(Z C)×Unit)=>
   bif (decide (b.2.1<((List.length l:Nat):Int)))then
   Option.bind (idx l b.2.1) λj=>
   Option.bind (bif (!b.1)then
   Option.bind (jM x j) λG=>
   some (decide (G<(0:Int)))
   else some false) λL=>
   bif L then
   bif bl 16 (List.length b.2.2.1+List.length [x])then
   bif bl 16 (List.length (b.2.2.1++[x])+List.length [j])then
   some (inl (true,(aC .i64 b.2.1 (1:Int)),((b.2.2.1++[x])++[j]),()))
   else none
   else none
   else
   bif bl 16 (List.length b.2.2.1+List.length [j])then
   some (inl (b.1,(aC .i64 b.2.1 (1:Int)),(b.2.2.1++[j]),()))
   else none
   else
   Option.map inr (
   bif (!b.1)then
   bif bl 16 (List.length b.2.2.1+List.length [x])then
   some (b.2.2.1++[x])
   else none
   else
   some b.2.2.1)) l h.uL (λi (s:Bool×Z C)=>(s.1,i,s.2,()))
   (λi s=>s.2.length<=2*i/\(s.1=false->s.2++eQ bS x (l.drop i)=eQ bS x l)/\(s.1=true->s.2++l.drop i=eQ bS x l)) ?_ ?_ (s:=(false,[])) ⟨t_,λ_=>t_,λe=>by cases e⟩
 .obtain⟨r,h1,rfl⟩:=this;exact h1
 .rintro i y ⟨d,out⟩ ⟨g,a,c⟩ F J hi f B w;simp only at g a c;simp only;rw[f,Qc,B,Qa,w,xS,Qa,Hy];have u:y≠x:=λe=>D (by rw[<-e];exact J)
  have k1:bl 16 (out.length+[x].length)=true:=z _ (by simp only[QU];omega)
  have I:bl 16 ((out++[x]).length+[y].length)=true:=z _ (by simp only[QM,QU];omega)
  have H:bl 16 (out.length+[y].length)=true:=z _ (by simp only[QU];omega)
  rw[k1,I,H]
  cases d with
  |true=>
   simp only[Qh,Qb,Qa,Qc];refine .some ⟨(true,out++[y]),rfl,by simp only[QM,QU];omega,λe=>(by cases e),λ_=> ?_⟩
   rw[<-c rfl,F,qah];rfl
  |false=>
   have a:=a rfl;rw[F,eQ]at a;simp only[Qt,Qc,Qa]
   cases o:bS x y with
   |true=>
    simp only[Qc];rw[Qg (by rw[kQ.asymm o];simp),Qg u]at a
    refine .some ⟨(true,(out++[x])++[y]),rfl,by simp only[QM,QU];omega,λe=>(by cases e),λ_=> ?_⟩
    grind
   |false=>
    simp only[Qb]
    have A:bS y x=true:=by
     cases K:bS y x with
     |true=>rfl
     |false=>exact absurd (kQ.total _ _ K o) u
    rw[Qe A]at a;refine .some ⟨(false,out++[y]),rfl,by simp only[QM,QU];omega,λ_=> ?_,λe=>by cases e⟩
    rw[<-a,qah];rfl
 .rintro⟨d,out⟩ ⟨g,a,c⟩ f;simp only at g a c;simp only;have k1:bl 16 (out.length+[x].length)=true:=z _ (by simp only[QU];omega)
  rw[f,Qb,k1]
  cases d with
  |true=>have:=c rfl;rw[Q9,List.append_nil]at this;exact .some this
  |false=>have:=a rfl;rw[Q9]at this;exact .some this
def wY{l:Z C}(h:VL l){x:C}(d:iU x):VL (oD l x)/\(∀y∈l,y∈oD l x)/\(∀y∈oD l x,y=x\/y∈l)/\(x∉l->l.length<40->(oD l x).length=l.length+1):=by
 unfold oD
 by_cases c:x∈l\/40<=l.length
 .grind
 .rw[Qg c];have b:=JX (lt:=bS) x l;have hlen:=AR (lt:=bS) x l;have g:¬40<=l.length:=λe=>c (.inr e)
  refine⟨⟨λy a=> ?_,kQ.eQ x h.Jd,O⟩,λy a=>(b y).2 (.inr a),λy a=>(b y).1 a,λf _=>Ze x l f⟩
  rcases(b y).1 a with rfl|a
  .exact d
  .exact h.uu y a
def L6{l:Z C}(h:VL l):iq l=some true:=by
 unfold iq oO aO;refine Yd.eq_true (Yd.list l h.uL (λi (_:Unit)=>(i,())) (λ_ _=>True) ?_ ?_ (s:=()) trivial)
 .intro i y s hs r g hi a j c;simp only;rw[a,Qc,j,Qa,IA,Qa,Qd (h.uu y g),c];simp only[Qh,Qb]
  by_cases o:i=0
  .subst o;rw[Qf (O:¬(0:Int)<((0:Nat):Int))];exact .some ⟨(),rfl,trivial⟩
  .rw[Qd (O:(0:Int)<(i:Int))];simp only[Qc];have b:cQ .i64 (i:Int) 1=((i - 1:Nat):Int):=by rw[om O (by have:=h.len;omega)];omega
   have hi1:i - 1<l.length:=O;rw[b,ba,Qj hi1,Qa,xS,Qa,Ky]
   have d:y=l[i]:=by grind [ba]
   have f:bS l[i - 1] y=true:=by rw[d];exact List.pairwise_iff_getElem.1 h.Jd (i - 1) i hi1 hi O
   rw[f];exact .some ⟨(),rfl,trivial⟩
 .intro s hs a;simp only;rw[a,Qb,Qd (by have:=h.len;omega:(l.length:Int)<=(40:Int))]
  exact .some rfl
def Sk{s t:Z C}(h:s.length<=1000000):∃b,gN s t=some b/\(b=true↔s=t):=by
 unfold gN
 by_cases hl:s.length=t.length
 .rw[Qd (O:(s.length:Int)=(t.length:Int)),Qh,Qb];refine Z7 hl h (λi hi j c f d g=> ?_) (λc=> ?_)
  .simp only;rw[c,Qc,f,d,Qa,Qa,g]
   by_cases a:s[i]=t[i]
   .rw[Qd a];exact⟨true,rfl,by simp[a]⟩
   .rw[Qf a];exact⟨false,rfl,by simp[a]⟩
  .simp only;rw[c,Qb];rfl
 .rw[Qf (O:¬(s.length:Int)=(t.length:Int))];exact⟨false,rfl,S6 hl⟩
def Si{a b:Z C}{n:Nat}(hn:a.length+b.length<=n)(h:n<=100000):Yd (kM a b) λr=>r.length<=n/\∀x∈r,x∈a\/x∈b:=by
 unfold kM oO;simp only[aS];refine Yd.Hu (λ(v:Int×Int×Z C×Unit)=>∃i k:Nat,v.1=i/\v.2.1=k/\i<=a.length/\k<=b.length/\v.2.2.1.length<=i+k/\∀x∈v.2.2.1,x∈a\/x∈b) (λv=>a.length+b.length - (v.1.toNat+v.2.1.toNat)) ?_ ⟨0,0,rfl,rfl,O,O,t_,λx j=>absurd j QX⟩
 rintro⟨F,k',out,u⟩ ⟨i,k,z,w,hi,hk,hlen,c⟩;simp only at z w hlen c;subst z w;have A:∀x:C,bl 16 (out.length+[x].length)=true:=λx=>br ⟨by simp only[QU];omega,by simp only[QU];omega⟩
 have hi1:aC .i64 (i:Int) 1=((i+1:Nat):Int):=bH O O;have hk1:aC .i64 (k:Int) 1=((k+1:Nat):Int):=bH O O;have E:i<a.length->∃x∈a,idx a (i:Int)=some x:=λh=>⟨a[i],QE h,by rw[ba];exact Qj h⟩
 have gb:k<b.length->∃x∈b,idx b (k:Int)=some x:=λh=>⟨b[k],QE h,by rw[ba];exact Qj h⟩
 have o:∀(x:C) (f d:Nat),(x∈a\/x∈b)->f<=a.length->d<=b.length->i+k<f+d->Yd (bif bl 16 (out.length+[x].length)then some (inl (((f:Nat):Int),((d:Nat):Int),(out++[x]),()))else(none:Y ((Int×Int×Z C×Unit)⊕Z C)))
   (Lp (λs'=>(∃i k:Nat,s'.1=i/\s'.2.1=k/\i<=a.length/\k<=b.length/\s'.2.2.1.length<=i+k/\∀x∈s'.2.2.1,x∈a\/x∈b)/\a.length+b.length - (s'.1.toNat+s'.2.1.toNat)<a.length+b.length - ((i:Int).toNat+(k:Int).toNat)) (λr=>r.length<=n/\∀x∈r,x∈a\/x∈b)):=by
  intro x f d j D B G;rw[A x,Qc];refine .some ⟨⟨f,d,rfl,rfl,D,B,?_,?_⟩,?_⟩
  .simp only[QM,QU];omega
  .intro y g;rcases QA.1 g with g|g
   .exact c y g
   .rw[Qz.1 g];exact j
  .simp only[QV];omega
 simp only
 by_cases c1:i<a.length
 .obtain⟨x,j,ex⟩:=E c1;rw[Qd (O:(i:Int)<(a.length:Int))];simp only[Qc,Qa]
  grind [xS,Hy,Nd,bS]
 .rw[Qf (O:¬(i:Int)<(a.length:Int))];simp only[Qb]
  by_cases c2:k<b.length
  .grind
  .rw[Qf (O:¬(k:Int)<(b.length:Int))];simp only[Qb,Qa];exact .some ⟨O,c⟩
def acG{l:Z C}(h:l.length<=1000000):Yd (nX l) λr=>r.2.1=true->iU r.1:=by
 unfold nX oO aO;simp only[aS];refine Yd.list l h (λi (s:C×Bool)=>(s.1,s.2,i,())) (λ_ s=>s.2=true->iU s.1) ?_ ?_ (s:=(_,false)) (λe=>by cases e)
 .rintro i y ⟨Ij,found⟩ hs f d hi a c b;simp only at hs;simp only;rw[a,Qc,c,Qa,IA,Qa,b]
  by_cases hv:iU y
  .rw[Qd hv];simp only[Qc]
   cases found with
   |false=>simp only[Qt,Qc,Qa];exact .some ⟨(y,true),rfl,λ_=>hv⟩
   |true=>
    simp only[Qh,Qb,Qa,xS]
    cases decide (0<Fm y Ij)with
    |true=>exact .some ⟨(y,true),rfl,λ_=>hv⟩
    |false=>exact .some ⟨(Ij,true),rfl,hs⟩
  .rw[Qf hv];simp only[Qb,Qa];exact .some ⟨(Ij,found),rfl,hs⟩
 .rintro⟨Ij,found⟩ hs a;simp only;rw[a,Qb];exact .some hs
end
section
def ahn{rec:(aq×Int×Unit)->Y (fZ×Bool×Unit)}{t:aq}{x:Int}(f:cI t)(g:∀u∈t.aR,Yd (rec (u,x,())) λ_=>True):Yd (k9 rec t x) λ_=>True:=by
 unfold k9;simp only[etas];refine Yd.list t.bc f.nodes (λi (s:fZ)=>(i,s,())) (λ_ _=>True) ?_ ?_ trivial
 .intro i y s hs j d hi a c b;simp only;rw[a,Qc,c,Qa,b]
  cases decide (y=x)with
  |true=>exact .some trivial
  |false=>exact .some ⟨s,rfl,trivial⟩
 .intro s hs a;simp only;rw[a,Qb];refine Yd.map (Yd.list t.aR f.len (λi (s:fZ)=>(i,s,())) (λ_ _=>True) ?_ ?_ trivial)
  .intro i y s hs j d hi a c b;simp only;rw[a,Qc,c,Qa,b];refine Yd.bind (g y d) λq _=> ?_
   cases q.2.1 with
   |true=>exact .some trivial
   |false=>exact .some ⟨s,rfl,trivial⟩
  .intro s hs a;simp only;rw[a,Qb];exact .some trivial
def ahj{x:Int}{n:Nat}:∀{t:aq},SizeOf.sizeOf t<n->cI t->Yd (vx n (t,x,())) λ_=>True:=by
 induction n with
 |zero=>intro t h;omega
 |succ n c=>
  intro t d b;show Yd (k9 (vx n) t x) λ_=>True
  exact ahn b λu a=>c (t:=u) (by have:=sD a;omega) (b.inner u a)
def ail{t:aq}(a:cI t)(x:Int):Yd (zm t x) λ_=>True:=ahj O a
structure Fu (t:aq) (v aK round:Int):Prop where
 aL:cW t
 v0:0<=v
 v1:v<10
 s0:0<=aK
 s1:aK<=1000000
 r1:1<=round
 r2:round<=1000
def acE(a b c d:Int):∃r,pI a b c d=some r:=⟨_,rfl⟩
section
variable{t:aq}{v aK round:Int}
def Sp(h:Fu t v aK round):wU t v aK round=some 0:=by
 have g:=h.v0;have f:=h.v1;have d:=h.s0;have c:=h.s1;have b:=h.r1;have a:=h.r2;unfold wU oO;simp only[etas,dw h.aL,Qa]
 grind
def akD(h:Fu t v aK round)(k:Int):Yd (nY t v aK round k) λ_=>True:=by
 unfold nY oO;simp only[etas,Sp h,Qa,aS];have d:∀b:Bool,Yd (bif b then(some true:Y Bool)else some (decide (k<0))) λ_=>True:=λb=>by cases b<;>exact .some trivial
 refine Yd.bind (d _) λb1 _=> ?_
 have c:∀b:Bool,Yd (bif b then(some true:Y Bool)else some (decide ((10:Int)<=k))) λ_=>True:=λb=>by cases b<;>exact .some trivial
 refine Yd.bind (c _) λg _=> ?_
 cases g with
 |true=>exact .some trivial
 |false=>
  simp only[Qb];refine Yd.bind (ail h.aL.sm k) λq _=> ?_
  obtain⟨a,f⟩:=acE 1 aK round k;rw[f];simp only[Qa]
  cases decide (k=v)with
  |true=>exact .some trivial
  |false=>cases q.2.1<;>exact .some trivial
def abc(h:Fu t v aK round):Yd (mV t v aK round) λq=>0<=q.1/\q.1<10/\q.2.1=0:=by
 unfold mV oO aO;simp only[etas,Sp h,Qa,aS];simp only[Ql,Qh,Qb];refine Yd.Hu (λ(s:Int×Int×Unit)=>0<=s.1/\s.1<10/\0<=s.2.1/\s.2.1<=10) (λs=>(10 - s.2.1).toNat) ?_ ⟨h.v0,h.v1,Q8 _,by show(0:Int)<=10;omega⟩
 rintro⟨b,k,u⟩ ⟨h1,c,o,j⟩;simp only at h1 c o j;simp only
 by_cases d:k<10
 .rw[Qd d];have a:aC .i64 k 1=k+1:=bH O O;simp only[Qc];rw[a]
  have fin:∀x:Int,0<=x->x<10->Yd (some (inl (x,k+1,())):Y ((Int×Int×Unit)⊕(Int×Int×Unit))) (Lp (λs'=>(0<=s'.1/\s'.1<10/\0<=s'.2.1/\s'.2.1<=10)/\(10 - s'.2.1).toNat<(10 - k).toNat) (λr=>0<=r.1/\r.1<10/\r.2.1=0)):=
   λx y w=> .some ⟨⟨y,w,by show 0<=k+1;omega,by show k+1<=10;omega⟩,by show(10 - (k+1)).toNat<(10 - k).toNat;omega⟩
  refine Yd.bind (akD h k) λr _=> ?_
  cases r with
  |false=>exact fin b h1 c
  |true=>
   obtain⟨f,z⟩:=acE 2 aK round k;obtain⟨g,A⟩:=acE 2 aK round b
   grind
 .rw[Qf d];exact .some ⟨h1,c,rfl⟩
def af5(h:Fu t v aK round):Yd (qi t v aK round) λq=>∃s:Nat,q.1=s/\s<1024:=by
 have y:=h.r1;have w:=h.r2;unfold qi;simp only[etas,aS];refine Yd.bind (abc h) λq ⟨_,_,f⟩=> ?_
 rw[f];simp only[Ql,Qh,Qb];refine Yd.Hu (λ(s:Int×Int×Unit)=>(∃n:Nat,s.1=n/\n<1024)/\1<=s.2.1/\s.2.1<=round+1) (λs=>(round+1 - s.2.1).toNat) ?_ ⟨⟨0,rfl,O⟩,Q8 _,by show(1:Int)<=round+1;omega⟩
 rintro⟨b,k,u⟩ ⟨⟨n,h1,o⟩,d,j⟩;simp only at h1 d j;subst h1;simp only
 by_cases c:k<=round
 .rw[Qd c];have a:aC .i64 k 1=k+1:=bH O O;simp only[Qc];rw[a];refine Yd.bind (abc ⟨h.aL,h.v0,h.v1,h.s0,h.s1,d,O⟩) λq ⟨g1,g2,_⟩=> ?_
  rw[oP,Qa]
  have fin:∀x:Nat,x<1024->Yd (some (inl ((x:Int),k+1,())):Y ((Int×Int×Unit)⊕(Int×Int×Unit))) (Lp (λs'=>((∃n:Nat,s'.1=n/\n<1024)/\1<=s'.2.1/\s'.2.1<=round+1)/\(round+1 - s'.2.1).toNat<(round+1 - k).toNat) (λr=>∃s:Nat,r.1=s/\s<1024)):=
   λx g=> .some ⟨⟨⟨x,rfl,g⟩,by show 1<=k+1;omega,by show k+1<=round+1;omega⟩,by show(round+1 - (k+1)).toNat<(round+1 - k).toNat;omega⟩
  grind [yi,te,Dl]
 .rw[Qf c];exact .some ⟨n,rfl,o⟩
end
end
section
structure wE (m:aA):Prop where
 n0:0<=m.ak
 n1:m.ak<10
 seq:1<=m.aI
 aL:cW m.aa
 di:VL m.bj
 eA:VL m.aG
structure df (n:av):Prop where
 ask:Fu n.aa n.ak n.aJ n.Round
 own:n.oa.size<=200
 di:VL n.bj
 eA:VL n.aG
 kV:VL n.aU
 sub:∀x∈n.aU,x∈n.aG
 heard:∀m∈n.au,wE m/\m.ak≠n.ak
 dg:n.au.Pairwise (λa b=>a.ak<b.ak)
def aeI:∀(l:Z aA) (k:Nat),k<=10->(∀e∈l,(k:Int)<=e.ak/\e.ak<10)->l.Pairwise (λa b=>a.ak<b.ak)->l.length+k<=10
 |[],k,hk,_,_=>o_
 |e::l,k,hk,h,c=>by
  rw[Q0]at c;have g:=h e QC;have f:=aeI l (k+1) O (λx d=>⟨by have:=c.1 x d;omega,(h x (QI _ d)).2⟩) c.2
  rw[QN];omega
def df.len{n:av}(h:df n):n.au.length<=10:=by
 have:=aeI n.au 0 O (λe a=>⟨by have:=(h.heard e a).1.n0;omega,(h.heard e a).1.n1⟩) h.dg
 omega
def R6{n:av}(h:df n):∀m∈n.au++[(⟨n.ak,n.aI,n.aa,n.bj,n.aG⟩:aA)],0<=m.ak/\m.ak<10/\VL m.bj/\VL m.aG:=by
 intro m a;rcases QA.1 a with a|a
 .have:=(h.heard m a).1;exact⟨this.n0,this.n1,this.di,this.eA⟩
 .rw[Qz.1 a];exact⟨h.ask.v0,h.ask.v1,h.di,h.eA⟩
def NZ{α:Type}{l:Z α}{i:Nat}{x:α}(h:idx l (i:Int)=some x):l[toNat (i:Int)]?=some x:=by rw[ba]at h;exact h
def aeh{n:av}(h:df n)(x:C):Yd (mC n x) λq=>∃a b:Nat,q.1=a/\q.2.1=b/\a<1024/\b<1024:=by
 have hlen:=h.len;have g:=R6 h;unfold mC xc;simp only[etas,Qa,aS];rw[br o_,Qc,br o_,Qc];simp only[List.nil_append];have z:(n.au++[(⟨n.ak,n.aI,n.aa,n.bj,n.aG⟩:aA)]).length<=1000000:=o_;refine Yd.list (n.au++[(⟨n.ak,n.aI,n.aa,n.bj,n.aG⟩:aA)]) z (λi (s:Int×Int)=>(s.1,s.2,i,())) (λ_ s=>∃a b:Nat,s.1=a/\s.2=b/\a<1024/\b<1024) ?_ ?_ (s:=(0,0)) ⟨0,0,rfl,rfl,O,O⟩
 .rintro i y ⟨s1,s2⟩ ⟨a,b,w,u,o,f⟩ H E hi d A j;simp only at w u;subst w u;obtain⟨g0,g1,F,G⟩:=g y E;simp only;rw[d,Qc,A,Qa,NZ A,Qa,j,L9 _ F.uL,Qa]
  have fin:∀c:Nat,c<1024->Yd (Option.bind (pk y.aG x) λD=>
    bif D then
     if y.ak<0 then none else
     some (inl ((c:Int),(tH .i64 (b:Int) (cj .i64 (1:Int) y.ak)),((i+1:Nat):Int),()))
    else
     some (inl ((c:Int),(b:Int),((i+1:Nat):Int),())):Y ((Int×Int×Int×Unit)⊕(Int×Int×Unit))) (Lp (λt=>∃s':Int×Int,t=(s'.1,s'.2,((i+1:Nat):Int),())/\(∃a b:Nat,s'.1=a/\s'.2=b/\a<1024/\b<1024)) (λr=>∃a b:Nat,r.1=a/\r.2.1=b/\a<1024/\b<1024)):=by
   intro c B;rw[L9 _ G.uL,Qa]
   cases decide (x∈y.aG)with
   |false=>exact .some ⟨((c:Int),(b:Int)),rfl,c,b,rfl,rfl,B,f⟩
   |true=>rw[Qc,Qg O,te f g0 g1];exact .some ⟨((c:Int),_),rfl,c,_,rfl,rfl,B,Dl f g1⟩
  cases decide (x∈y.bj)with
  |false=>exact fin a o
  |true=>rw[Qc,Qg O,te o g0 g1];exact fin _ (Dl o g1)
 .rintro⟨s1,s2⟩ ⟨a,b,w,u,o,f⟩ d;simp only at w u;simp only;rw[d,Qb];exact .some ⟨a,b,w,u,o,f⟩
def ZU:Yd (qJ []) λ_=>True:=by
 unfold qJ;refine Yd.list ([]:Z ox) t_ (λi (_:Unit)=>(i,())) (λ_ _=>True) (λi x s _ _ b=>absurd b QX) (λs _ a=> ?_) (s:=()) trivial
 simp only;rw[a,Qb];exact .some trivial
def adM(m:de):Prop:=0<=m.ak/\m.ak<10/\cI m.aa/\m.bj=[]/\m.aG=[]
def aiF{m:de}(h:adM m):Yd (tw m) λ_=>True:=by
 obtain⟨b,h1,ht,hv,a⟩:=h;unfold tw aO;simp only[etas];refine Yd.bind (p:=λ_=>True) (Yd.cond (λ_=> .some trivial) λ_=> .some trivial) λb1 _=> ?_
 refine Yd.bind (p:=λ_=>True) (Yd.cond (λ_=> .some trivial) λ_=> .some trivial) λf _=> ?_
 refine Yd.bind (p:=λ_=>True) (Yd.cond (λ_=>by rw[sk ht];exact .some trivial) λ_=> .some trivial) λb4 _=> ?_
 rw[hv,a];refine Yd.bind (p:=λ_=>True) (Yd.cond (λ_=>Yd.bind ZU λ_ _=> .some trivial) λ_=> .some trivial) λd _=> ?_
 exact Yd.bind (p:=λ_=>True) (Yd.cond (λ_=>Yd.bind ZU λ_ _=> .some trivial) λ_=> .some trivial) λc _=> .some trivial
def vg:aq:=⟨0,[],[]⟩
def SQ:cI vg:= .mk _ (by simp[vg]) (by simp[vg]) (λu a=>by cases a)
structure vt (l:List bw):Prop where
 len:l.length=10
 sm:∀m∈l,cI m.aa
def vt.set{l:Z bw}(h:vt l)(k:Nat){m:bw}(b:cI m.aa):vt (l.set k m):=
 ⟨by rw[qan];exact h.len,λx a=>(List.mem_or_eq_of_mem_set a).elim (h.sm x) λe=>by rw[e];exact b⟩
def vt.get{l:Z bw}(h:vt l){v:Int}(a:0<=v)(b:v<10):∃x,idx l v=some x/\l[v.toNat]?=some x:=by have hl:=h.len;have hv:v.toNat<l.length:=O;exact⟨l[v.toNat],by rw[TD _ a];exact Qj hv,Qj hv⟩
def vt.sc{l:Z bw}(h:vt l):CH ⟨l⟩:=⟨by show l.length<=1000000;rw[h.len];omega,h.sm⟩
def akh{v:Int}{t:aq}(d:0<=v)(c:v<10)(ht:cI t){l:Z de}(hl:l.length<=1000000)(j:∀m∈l,adM m):Yd (sO v t l) CH:=by
 unfold sO aO
 have z:(decide ((10:Int)<=(10:Int))&&decide (0<=(10:Int))&&bl 64 (toNat (10:Int)))=true:=by rw[br s_];rfl
 rw[z,Qc];simp only[etas,aS]
 have A:vt (replicate (toNat (10:Int)) (bw.mk false (aq.mk (0:Int) ([]:Z Int) ([]:Z aq)))):=
  ⟨by rw[List.length_replicate];rfl,λm j=>by rw[(List.mem_replicate.1 j).2];exact SQ⟩
 refine Yd.list l hl (λi (s:Z bw)=>(i,bs.mk [],s,())) (λ_ s=>vt s) ?_ ?_ A
 .intro i y s hs D u hi a w g;have b:=j y u;simp only;rw[a,Qc,w,Qa,g];simp only[de.eta];refine Yd.bind (aiF b) λr _=> ?_
  cases r with
  |false=>exact .some ⟨s,rfl,hs⟩
  |true=>obtain⟨x,g1,g2⟩:=hs.get b.1 b.2.1;rw[Qc,g1,Qa,g2,Qa];exact .some ⟨_,rfl,hs.set _ b.2.2.1⟩
 .intro s hs a;simp only;rw[a,Qb,Qd d,Qd c];simp only[Qc,Qa];obtain⟨x,g1,g2⟩:=hs.get d c;have f:=hs.set v.toNat (m:=⟨false,⟨0,[],[]⟩⟩) SQ;obtain⟨B,k1,o⟩:=f.get d c;rw[g1,g2,sk ht];simp only[Qa]
  cases decide (xM t=0)with
  |false=>exact .some f.sc
  |true=>simp only[Qc];rw[k1,o];exact .some (f.set _ ht).sc
def aa9{n:av}(h:df n):Yd (nN n) CH:=by
 have hlen:=h.len;unfold nN;simp only[etas];refine Yd.list n.au O (λi (s:Z de)=>(i,s,())) (λi s=>s.length<=i/\∀m∈s,adM m) ?_ ?_ (s:=[]) ⟨t_,λm f=>absurd f QX⟩
 .intro i y s ⟨j,b⟩ w o hi a r g;have d:=(h.heard y o).1;simp only;rw[a,Qc,r,Qa,g,br ⟨by simp only[QU];omega,by simp only[QU];omega⟩,Qc]
  refine .some ⟨_,rfl,by simp only[QM,QU];omega,λm f=> ?_⟩
  rcases QA.1 f with f|f
  .exact b m f
  .rw[Qz.1 f];exact⟨d.n0,d.n1,d.aL.sm,rfl,rfl⟩
 .intro s ⟨j,b⟩ a;simp only;rw[a,Qb];exact Yd.map (Yd.bind (akh h.ask.v0 h.ask.v1 h.ask.aL.sm O b) λc u=> .some u)
def CZ{n:av}(h:df n):n.ak=((n.ak.toNat:Nat):Int)/\n.ak.toNat<10:=by have b:=h.ask.v0;have a:=h.ask.v1;omega
def anK{n:av}(h:df n)(x:C):Yd (uJ n x) λb=>b=true->x∉n.aG/\n.aG.length<40:=by
 obtain⟨hn,d⟩:=CZ h;unfold uJ;simp only[etas,aS];refine Yd.bind (aeh h x) λq ⟨a,b,u,r,o,j⟩=> ?_
 rw[u,r,L9 _ h.eA.uL,Qa]
 by_cases f:x∈n.aG
 .rw[Qd f];exact .some λe=>by cases e
 .rw[Qf f];simp only[Qt,Qc]
  by_cases hl:n.aG.length<40
  .rw[Qd (O:(n.aG.length:Int)<40),Qc];refine Yd.bind (aa9 h) λc g=> ?_
   rw[hn,yQ g d o j];exact .some λ_=>⟨f,hl⟩
  .rw[Qf (O:¬(n.aG.length:Int)<40)];exact .some λe=>by cases e
def akE{n:av}(h:df n):Yd (qI n) λr=>r.length<=1000/\∀x∈r,iU x:=by
 have hlen:=h.len;have D:=h.di.len;have B:=h.eA.len;unfold qI;refine Yd.bind (Si (n:=80) O O) λr1 ⟨k1,o⟩=> ?_
 refine Yd.list n.au O (λi (s:Z C)=>(s,i,())) (λi s=>s.length<=80+80*i/\∀x∈s,iU x) ?_ ?_ ⟨O,λx c=>(o x c).elim (h.di.uu x) (h.eA.uu x)⟩
 .intro i y s ⟨g,d⟩ E u hi a c f;have b:=(h.heard y u).1;have A:=b.di.len;have z:=b.eA.len;simp only;rw[a,Qc,c,Qa,f];refine Yd.bind (Si (n:=80) O O) λw ⟨g1,g2⟩=> ?_
  refine Yd.bind (Si (n:=80+80*(i+1)) O O) λj ⟨g3,g4⟩=> ?_
  exact .some ⟨j,rfl,g3,λx c=>(g4 x c).elim (d x) λc=>(g2 x c).elim (b.di.uu x) (b.eA.uu x)⟩
 .intro s ⟨g,d⟩ a;simp only;rw[a,Qb];exact .some ⟨O,d⟩
def df.LO{n:av}(h:df n){v:Z C}(hv:VL v):df {n with bj:=v}:=⟨h.ask,h.own,hv,h.eA,h.kV,h.sub,h.heard,h.dg⟩
def df.akr{n:av}(h:df n){a:Z C}(c:VL a)(hs:∀y∈n.aG,y∈a):df {n with aG:=a}:=⟨h.ask,h.own,h.di,c,h.kV,λx b=>hs x (h.sub x b),h.heard,h.dg⟩
def df.afU{n:av}(h:df n){c:Z C}(a:VL c)(hs:∀y∈c,y∈n.aG):df {n with aU:=c}:=⟨h.ask,h.own,h.di,h.eA,a,hs,h.heard,h.dg⟩
structure uO (n r:av):Prop where
 ok:df r
 aF:r.ak=n.ak
 aK:r.aJ=n.aJ
 round:r.Round=n.Round
 seq:r.aI=n.aI
 aL:r.aa=n.aa
 own:r.oa=n.oa
 heard:r.au=n.au
def uO.refl{n:av}(h:df n):uO n n:=⟨h,rfl,rfl,rfl,rfl,rfl,rfl,rfl⟩
def uO.LO{n r:av}(h:uO n r){v:Z C}(hv:VL v):uO n {r with bj:=v}:=⟨h.ok.LO hv,h.aF,h.aK,h.round,h.seq,h.aL,h.own,h.heard⟩
def aiv{n:av}(h:df n):Yd (rZ n) (uO n):=by
 unfold rZ;simp only[etas,aS];refine Yd.bind (af5 h.ask) λq ⟨s,N,hs⟩=> ?_
 rw[N,L8 hs,Qa];have hl:=BS s;refine Yd.list (qQ s) O (λi (r:av)=>(i,r,())) (λ_ r=>uO n r) ?_ ?_ (.refl h)
 .intro i y r g V S hi f J D;simp only;rw[f,Qc,J,Qa,D];have hlen:=g.ok.len
  by_cases B:y=r.ak
  .rw[Qd B,Qc]
   by_cases d:r.oa=bE
   .rw[Qd d];exact .some ⟨r,rfl,g⟩
   .rw[Qf d];simp only[Qt,Qc]
    have hv:iU r.oa:=by
     refine⟨?_,g.ok.own⟩;rcases qbh r.oa.size with H|H
     .exact absurd (ByteArray.ext (qa2 H)) d
     .exact H
    rw[L0 g.ok.di,Qa];exact .some ⟨_,rfl,g.LO (wY g.ok.di hv).1⟩
  .rw[Qf B,Qb];refine Yd.list r.au O (λi (r:av)=>(i,r,())) (λ_ r=>uO n r) ?_ ?_ g
   .intro j m r2 o M K U b G A;simp only;rw[b,Qc,G,Qa,A];have w:=(g.ok.heard m K).1;have Q:=w.di.len;have P:=w.eA.len
    cases decide (m.ak=y)with
    |false=>exact .some ⟨r2,rfl,o⟩
    |true=>
     simp only[Qh,Qb];refine Yd.bind (Si (n:=80) O O) λu ⟨g1,g2⟩=> ?_
     refine Yd.list u O (λi (r:av)=>(i,r,())) (λ_ r=>uO n r) ?_ ?_ o
     .intro k x I c L E T a F z;simp only;rw[a,Qc,F,Qa,z,L0 c.ok.di,Qa];have hv:iU x:=(g2 x E).elim (w.di.uu x) (w.eA.uu x);exact .some ⟨_,rfl,c.LO (wY c.ok.di hv).1⟩
     .intro I c a;simp only;rw[a,Qb];exact .some ⟨I,rfl,c⟩
   .intro r2 o b;simp only;rw[b,Qb];exact .some ⟨r2,rfl,o⟩
 .intro r g f;simp only;rw[f,Qb];exact .some g
structure aae (b n r:av):Prop where
 ok:df r
 aF:r.ak=n.ak
 aK:r.aJ=n.aJ
 round:r.Round=n.Round
 aL:r.aa=n.aa
 seq:r.aI=n.aI\/r.aI=b.aI+1
def JJ{b n:av}(K:cI b.aa/\b.bj.length<=1000000/\b.aG.length<=1000000)(hs:0<=b.aI/\b.aI<=1000000)(h:df n):Yd (gM b n) (aae b n):=by
 unfold gM oO;simp only[etas];refine Yd.join (λv=>uO n v.1) (λv hv=> ?_) (λU P=> ?_)
 .refine Yd.Hu (λ(s:Bool×av×Unit)=>uO n s.2.1) (λs=>(if s.1=true then 1 else 0)+2*(40 - s.2.1.aG.length)) ?_ hv
  rintro⟨again,r,u⟩ g;simp only at g;simp only
  cases again with
  |true=>
   rw[Qc];refine Yd.bind (akE g.ok) λl ⟨hl,z⟩=> ?_
   refine Yd.list l O (λi (s:av)=>(false,i,s,())) (λ_ s=>s=r) ?_ ?_ rfl
   .rintro i x s rfl Q o hi f F j;simp only;rw[f,Qc,F,Qa,j];refine Yd.bind (anK g.ok x) λc J=> ?_
    cases c with
    |false=>exact .some ⟨s,rfl,rfl⟩
    |true=>
     obtain⟨I,H⟩:=J rfl;obtain⟨D,N,M,L⟩:=wY g.ok.eA (z x o);rw[Qc,L0 g.ok.eA,Qa];refine .some ⟨⟨g.ok.akr D N,g.aF,g.aK,g.round,g.seq,g.aL,g.own,g.heard⟩,?_⟩;have:=L I H;show(if true=true then 1 else 0)+2*(40 - (oD s.aG x).length)<(if true=true then 1 else 0)+2*(40 - s.aG.length)
     rw[this];omega
   .rintro s rfl f;simp only;rw[f,Qb];refine .some ⟨g,?_⟩;show(if false=true then 1 else 0)+2*(40 - s.aG.length)<(if true=true then 1 else 0)+2*(40 - s.aG.length)
    simp
  |false=>
   rw[Qb];refine Yd.map ?_;have hl:=g.ok.eA.len;refine Yd.list r.aG O (λi (s:av)=>(i,s,())) (λ_ s=>uO n s/\s.aG=r.aG) ?_ ?_ ⟨g,rfl⟩
   .rintro i x s ⟨d,w⟩ Q o hi f F j;obtain⟨hn,A⟩:=CZ d.ok;simp only[aS];rw[f,Qc,F,Qa,j];refine Yd.bind (aeh d.ok x) λq ⟨a,c,W,S,V,J⟩=> ?_
    refine Yd.bind (aa9 d.ok) λT G=> ?_
    have B:=xw G A J;rw[<-hn]at B;rw[S,B,Qa]
    cases (gq T.bq c).testBit s.ak.toNat with
    |false=>exact .some ⟨s,rfl,d,w⟩
    |true=>
     rw[Qc,L0 d.ok.kV,Qa];obtain⟨D,N,M,L⟩:=wY d.ok.kV (g.ok.eA.uu x o);refine .some ⟨_,rfl,⟨d.ok.afU D (λy E=> ?_),d.aF,d.aK,d.round,d.seq,d.aL,d.own,d.heard⟩,w⟩
     rcases M y E with rfl|E
     .rw[w];exact o
     .exact d.ok.sub y E
   .rintro s ⟨d,w⟩ f;simp only[aS];rw[f,Qb];obtain⟨b1,f1,_⟩:=Sk (s:=b.bj) (t:=s.bj) K.2.1;obtain⟨X,f2,_⟩:=Sk (s:=b.aG) (t:=s.aG) K.2.2;obtain⟨b3,f3,_⟩:=Eu (a:=b.aa) (b:=s.aa) K.1;rw[f1,f2,f3];simp only[Qa];refine Yd.map (Yd.bind (p:=λ_=>True) (Yd.cond (λ_=> .some trivial) λ_=> .some trivial) λc1 _=> ?_)
    refine Yd.bind (p:=λ_=>True) (Yd.cond (λ_=> .some trivial) λ_=> .some trivial) λc2 _=> ?_
    cases c2 with
    |false=>exact .some ⟨d.ok,d.aF,d.aK,d.round,d.aL,.inl d.seq⟩
    |true=>have j:aC .i64 b.aI 1=b.aI+1:=bH O O;rw[Qc,j];exact .some ⟨⟨d.ok.ask,d.ok.own,d.ok.di,d.ok.eA,d.ok.kV,d.ok.sub,d.ok.heard,d.ok.dg⟩,d.aF,d.aK,d.round,d.aL,.inr rfl⟩
 .cases decide (((List.length n.aU:Nat):Int)=(0:Int))with
  |true=>
   rw[Qc];refine Yd.bind (aiv h) λr g=> ?_
   exact P (r,()) g
  |false=>exact P (n,()) (.refl h)
end
end Go.Proofs.YtofedieniojipaaGreat
end
