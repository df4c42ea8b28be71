/-
  Texts made small by a program (see NOTES). Conditions: those that each theorem names.
-/
import Derived.Test.YtppbofaglpdghaaGreatScenarioAgreeMa
import Derived.RangeFuncRecord
set_option linter.unusedVariables false
set_option linter.defProp false
set_option linter.unusedSimpArgs false
set_option linter.unusedSectionVars false
set_option maxHeartbeats 2000000
open Int (toNat)
open Sum (inl inr)
open List (replicate)
noncomputable section
namespace Go.TQ
section
open Go.RowKit
def ax(P:Pr)(nt:Nat)(hs:Z Nat):Code->Y SC
 | .skip=>some .skip
 | .region _ ops false=>
  match ops.toList.mapM (mN P hs ops)with
  |some gs=>if ops.toList.all (λo=>match o.dst with|some t=>decide (t<nt)|none=>true)then some (.lZ gs)else none
  |none=>none
 | .region _ ops true=>
  match ops.toList.mapM (mN P hs ops)with
  |some gs=>
   if ops.toList.all (λo=>match o.dst with|some t=>decide (t<nt)|none=>true)&&P.follows .mixedOrders then
    match GF ops.toList gs with
    |some un=>some (.jl un gs)
    |none=>none
   else none
  |none=>none
 | .seq x y=>
  match ax P nt hs x,ax P nt hs y with
  |some d,some b=>some (.seq d b)
  |_,_=>none
 | .cond c x y=>
  match aM c,ax P nt hs x,ax P nt hs y with
  |some f,some d,some b=>some (.cond f d b)
  |_,_,_=>none
 | .block id c=>(ax P nt hs c).map (.block id)
 | .loop c=>(ax P nt hs c).map .loop
 | .exit id=>some (.exit id)
 | .ret=>some .ret
 | .rangeFunc g ps x y=>
  match aM g,ax P nt hs x,ax P nt hs y with
  |some e,some d,some b=>if ql x&&ql y&&ps.toList.all (λt=>decide (t<nt))then some (.zA e ps.toList d b)else none
  |_,_,_=>none
 |_=>none
section
variable{P:Pr}{S:St}{Γ:gW}{nt:Nat}{Q:Exit->St->Prop}
def VS(P:Pr)(nt:Nat)(b:SC)(Q:Exit->St->Prop)(S:St):Prop:=∀c hs,ax P nt hs c=some b->V P nt c Q S
def VS.mono{b:SC}{Q':Exit->St->Prop}(h:VS P nt b Q S)(d:∀e S,Q e S->Q' e S):VS P nt b Q' S:=λc hs f=>(h c hs f).mono d
theorem CT{ops:Array Oper}(h:ops.toList.all (λo=>match o.dst with|some t=>decide (t<nt)|none=>true)=true):∀o∈ops.toList,∀t,o.dst=some t->t<nt:=by grind
def N8{c:Code}{hs:Z Nat}{un:Z (Nat×Nat)}{b:Z SG}(h:ax P nt hs c=some (.jl un b)):∃id ops,c= .region id ops true/\ops.toList.mapM (mN P hs ops)=some b/\(∀o∈ops.toList,∀t,o.dst=some t->t<nt)/\P.follows .mixedOrders=true/\GF ops.toList b=some un:=by
 cases c with
 |region id ops d=>
  cases d with
  |false=>simp[ax]at h;split at h<;>(try split at h)<;>cases h
  |true=>grind [ax,CT]
 |seq x y|cond c x y=>simp[ax]at h;split at h<;>cases h
 |block id c|loop c=>simp only[ax,Qh]at h;obtain⟨_,_,h⟩:=h;cases h
 |rangeFunc g ps x y=>simp[ax]at h;(try split at h)<;>(try split at h)<;>cases h
 |_=>simp[ax]at h<;>cases h
def O1{c:Code}{hs:Z Nat}{b:Z SG}(h:ax P nt hs c=some (.lZ b)):∃id ops,c= .region id ops false/\ops.toList.mapM (mN P hs ops)=some b/\∀o∈ops.toList,∀t,o.dst=some t->t<nt:=by
 cases c with
 |region id ops d=>
  cases d with
  |true=>simp[ax]at h;(try split at h)<;>(try split at h)<;>(try split at h)<;>cases h
  |false=>grind [ax,CT]
 |seq x y|cond c x y=>simp[ax]at h;split at h<;>cases h
 |block id c|loop c=>simp only[ax,Qh]at h;obtain⟨_,_,h⟩:=h;cases h
 |rangeFunc g ps x y=>simp[ax]at h;(try split at h)<;>(try split at h)<;>cases h
 |_=>simp[ax]at h<;>cases h
def SM(h:Q .normal S):VS P nt .skip Q S:=by
 intro c hs b
 cases c with
 |skip=>exact UJ h
 |region id ops d=>cases d<;>simp[ax]at b<;>(try split at b)<;>(try split at b)<;>(try split at b)<;>cases b
 |seq x y=>simp only[ax]at b;split at b<;>cases b
 |cond c x y=>simp[ax]at b;split at b<;>cases b
 |block id c|loop c=>simp only[ax,Qh]at b;obtain⟨_,_,b⟩:=b;cases b
 |rangeFunc g ps x y=>simp[ax]at b;(try split at b)<;>(try split at b)<;>cases b
 |_=>simp[ax]at b<;>cases b
def SS{id:Nat}(h:Q (.exit id) S):VS P nt (.exit id) Q S:=by
 intro c hs b
 cases c with
 |exit j=>simp[ax,Qb,SC.exit.injEq]at b;subst b;exact UK h
 |region id ops d=>cases d<;>simp[ax]at b<;>(try split at b)<;>(try split at b)<;>(try split at b)<;>cases b
 |seq x y|cond c x y=>simp[ax]at b;split at b<;>cases b
 |block id c|loop c=>simp only[ax,Qh]at b;obtain⟨_,_,b⟩:=b;cases b
 |rangeFunc g ps x y=>simp[ax]at b;(try split at b)<;>(try split at b)<;>cases b
 |_=>simp[ax]at b<;>cases b
def UO(h:Q .ret S):VS P nt .ret Q S:=by
 intro c hs b
 cases c with
 |ret=>exact VF h
 |region id ops d=>cases d<;>simp[ax]at b<;>(try split at b)<;>(try split at b)<;>(try split at b)<;>cases b
 |seq x y|cond c x y=>simp[ax]at b;split at b<;>cases b
 |block id c|loop c=>simp only[ax,Qh]at b;obtain⟨_,_,b⟩:=b;cases b
 |rangeFunc g ps x y=>simp[ax]at b;(try split at b)<;>(try split at b)<;>cases b
 |_=>simp[ax]at b<;>cases b
def UN{x y:SC}(h:VS P nt x (Hr (VS P nt y Q) Q) S):VS P nt (.seq x y) Q S:=by
 intro c hs b
 cases c with
 |seq p q=>
  simp[ax]at b;split at b
  .rename_i m l j i;injection b with b
   injection b with h1 k
   subst h1 k;refine VE ((h p hs j).mono ?_);intro e S' f;cases e<;>first|exact f q hs i|exact f
  .cases b
 |region id ops d=>cases d<;>simp[ax]at b<;>(try split at b)<;>(try split at b)<;>(try split at b)<;>cases b
 |cond c x y=>simp[ax]at b;split at b<;>cases b
 |block id c|loop c=>simp only[ax,Qh]at b;obtain⟨_,_,b⟩:=b;cases b
 |rangeFunc g ps x y=>simp[ax]at b;(try split at b)<;>(try split at b)<;>cases b
 |_=>simp[ax]at b<;>cases b
def SU{c:aQ}{x y:SC}{b:Bool}(k:c.val S= .bool b)(h:VS P nt (if b then x else y) Q S):VS P nt (.cond c x y) Q S:=by
 intro o hs e
 cases o with
 |cond c0 p q=>
  simp[ax]at e;split at e
  .rename_i t s r f j i;injection e with e
   injection e with h1 m l
   subst h1 m l;refine UL f k ?_;cases b
   .exact h q hs i
   .exact h p hs j
  .cases e
 |region id ops d=>cases d<;>simp[ax]at e<;>(try split at e)<;>(try split at e)<;>(try split at e)<;>cases e
 |seq x y=>simp[ax]at e;split at e<;>cases e
 |block id c|loop c=>simp only[ax,Qh]at e;obtain⟨_,_,e⟩:=e;cases e
 |rangeFunc g ps x y=>simp[ax]at e;(try split at e)<;>(try split at e)<;>cases e
 |_=>simp[ax]at e<;>cases e
def Pd{c:aQ}{x y:SC}(r:c.val S= .dI)(t:VS P nt x Q S)(s:VS P nt y Q S):VS P nt (.cond c x y) Q S:=by
 intro B hs e
 cases B with
 |cond c0 p q=>
  simp[ax]at e;split at e
  .rename_i G F D i m l;injection e with e
   injection e with A z v
   subst A z v;intro E k j a w L h;have f:=h.dK i;rw[r]at f;generalize o:a.eval c0=u at f
   cases f with
   |dI b=>
    refine qa4 o ?_;cases b
    .exact s q hs l E k j.PU a w L h
    .exact t p hs m E k j.PW a w L h
  .cases e
 |region id ops d=>cases d<;>simp[ax]at e<;>(try split at e)<;>(try split at e)<;>(try split at e)<;>cases e
 |seq x y=>simp only[ax]at e;split at e<;>cases e
 |block id c|loop c=>simp only[ax,Qh]at e;obtain⟨_,_,e⟩:=e;cases e
 |rangeFunc g ps x y=>simp[ax]at e;(try split at e)<;>(try split at e)<;>cases e
 |_=>simp[ax]at e<;>cases e
def Pe{id:Nat}{x:SC}(h:VS P nt x (Ah id Q) S):VS P nt (.block id x) Q S:=by
 intro c hs b
 cases c with
 |block j p=>
  simp only[ax,Qh]at b;obtain⟨i,e,b⟩:=b;injection b with h1 f
  subst h1 f;exact SL (h p hs e)
 |region id ops d=>cases d<;>simp[ax]at b<;>(try split at b)<;>(try split at b)<;>(try split at b)<;>cases b
 |seq x y|cond c x y=>simp[ax]at b;split at b<;>cases b
 |loop c=>simp only[ax,Qh]at b;obtain⟨_,_,b⟩:=b;cases b
 |rangeFunc g ps x y=>simp[ax]at b;(try split at b)<;>(try split at b)<;>cases b
 |_=>simp[ax]at b<;>cases b
def UP{Γs:Nat->gW}(f:∀i,fQ P (Γs i)){un:Z (Nat×Nat)}{e:Z SG}{S':St}(j:Ht Γs S.N un e {S with N:=S.N+e.length}=some S')(h:Q .normal S'):VS P nt (.jl un e) Q S:=by
 intro c hs b
 cases c with
 |region id ops d=>
  cases d with
  |false=>simp[ax]at b;(try split at b)<;>(try split at b)<;>(try split at b)<;>cases b
  |true=>grind [ax,VG,CT]
 |seq x y|cond c x y=>simp[ax]at b;split at b<;>cases b
 |block id c|loop c=>simp only[ax,Qh]at b;obtain⟨_,_,b⟩:=b;cases b
 |rangeFunc g ps x y=>simp[ax]at b;(try split at b)<;>(try split at b)<;>cases b
 |_=>simp[ax]at b<;>cases b
def ev(P:Pr)(nt:Nat)(Γ:gW):SC->(Exit->St->Prop)->St->Prop
 | .skip,Q,S=>Q .normal S
 | .lZ gs,Q,S=>match vm Γ S.N gs {S with N:=S.N+gs.length}with|some S'=>Q .normal S'|none=>False
 | .jl un gs,Q,S=>match Ht (λ_=>Γ) S.N un gs {S with N:=S.N+gs.length}with|some S'=>Q .normal S'|none=>False
 | .seq x y,Q,S=>ev P nt Γ x (Hr (ev P nt Γ y Q) Q) S
 | .cond c x y,Q,S=>match c.val S with| .bool b=>(b=true->ev P nt Γ x Q S)/\(b=false->ev P nt Γ y Q S)| .dI=>ev P nt Γ x Q S/\ev P nt Γ y Q S|_=>False
 | .block id c,Q,S=>ev P nt Γ c (Ah id Q) S
 | .loop c,Q,S=>VS P nt (.loop c) Q S
 | .zA g ps x y,Q,S=>VS P nt (.zA g ps x y) Q S
 | .exit id,Q,S=>Q (.exit id) S
 | .ret,Q,S=>Q .ret S
inductive RV where
 |tmp (t:Nat)
 |cell (t:Nat) (n:Option Nat)
def gQ(P:Pr):Z ResultVar->Y (Z RV)
 |[]=>some []
 | .tmp t::rs=>(gQ P rs).map (.tmp t::·)
 | .cell t ty::rs=>match nc P ty,gQ P rs with
  |some n,some b=>some (.cell t n::b)
  |_,_=>none
def w7(S:St):RV->Y PV
 | .tmp t=>some (S.env t)
 | .cell t n=>match S.env t with
  | .ptr id ab off=>if(S.H id).ab=ab then(match(S.H id).c with| .box cs=>nr n (cs.drop off)|_=>none)else none
  |_=>none
def qh(S:St):Z RV->Y (Z PV)
 |[]=>some []
 |r::rs=>match w7 S r,qh S rs with
  |some x,some xs=>some (x::xs)
  |_,_=>none
def nq(S:St)(rs:Z RV):Y PV:=
 match qh S rs with
 |some [x]=>some x
 |some xs=>some (.cg xs)
 |none=>none
def cr(pos:Nat)(recv:Bool)(cs b:Z PV):St:=
 {env:=λt=>((gL pos (if recv then[.ptr 0 0 0]else[]) b)[t]?).getD .undef,H:=λid=>if recv=true/\id=0 then⟨0,.box cs⟩else⟨0,.dead⟩,N:=if recv then 1 else 0}
abbrev Xh:=cr 0
theorem JL{α:Type}(p:Nat)(x l:Z α):(gL p x l).length=x.length+l.length:=by grind [gL]
def tX(rs:Z RV)(recv:Bool)(R:PV->Z PV->Prop)(S:St):Prop:=
 match nq S rs with
 |some x=>match recv with
  |true=>match S.H 0 with
   |⟨0,.box cs'⟩=>cs'.all PV.closed=true/\R (fz S.H (some 0) 9 x) cs'
   |_=>False
  |false=>R (fz S.H none 9 x) []
 |none=>False
def Ou(rs:Z RV)(recv:Bool)(R:PV->Z PV->Prop):Exit->St->Prop
 | .ret,S| .normal,S=>tX rs recv R S
 |_,_=>False
def K1{E:En}{a:Act}{w:Wo}{L:Nat->Va}(h:Rel E S a w L){rv:ResultVar}{r:RV}{x:PV}(g:gQ P [rv]=some [r])(d:w7 S r=some x):
  ∃v,(match rv with| .tmp t=>pure (a.tmps.getD t undef)| .cell ad t=>do loadVar t (<-asAddr (a.tmps.getD ad undef)):Sem Va).run P w= .ok v w/\aJ w (aI E S L) (S.gh L) x v:=by
 cases rv with
 |tmp t=>simp[gQ,Qn,Qb,List.cons.injEq,Q8]at g;subst g;simp[w7,Qb]at d;subst d;exact⟨_,rfl,h.env t⟩
 |cell t ty=>
  simp[gQ]at g;split at g
  .rename_i n p B z;injection g with g
   injection g with h1 H
   subst h1 H;simp[w7]at d;split at d
   .rename_i id ab k e;split at d
    .rename_i f;split at d
     .rename_i cs m;have r:=h.env t;rw[e]at r
      let⟨F,_⟩:=r.lC (show(S.gh L).V id=ab from f)
      let⟨b,q,G⟩:=h.qj r f m
      let⟨J,I,T,j,D,A,_⟩:=h.mO F m
      rw[G]at j;simp[Value.pointer.injEq,Qb,qaI]at j;obtain⟨rfl,_⟩:=j
      let⟨v,l,o⟩:=Dl (P:=P) (ad:=⟨b,k,none⟩) B (A.drop k) (λi u s=>by rw[add_mid];exact kH D (ed s)) d
      exact⟨v,by simp[q,asAddr,l],o⟩
     .cases d
    .cases d
   .cases d
  .cases g
def Cb{E:En}{a:Act}{w:Wo}{L:Nat->Va}(h:Rel E S a w L):∀(b:Z ResultVar) (rs:Z RV) (xs:Z PV),gQ P b=some rs->qh S rs=some xs->
  ∃vs,(b.mapM λ| .tmp t=>pure (a.tmps.getD t undef)| .cell ad t=>do loadVar t (<-asAddr (a.tmps.getD ad undef)):Sem (Z Va)).run P w= .ok vs w/\aK w (aI E S L) (S.gh L) xs vs
 |[],rs,xs,d,e=>by simp[gQ,Qb]at d;subst d;simp[qh,Qb]at e;subst e;exact⟨[],t_,.nil⟩
 |rv::b,rs,xs,d,e=>by
  have l:∃r rs',rs=r::rs'/\gQ P [rv]=some [r]/\gQ P b=some rs':=by
   cases rv with
   |tmp t=>simp[gQ,Qh]at d;obtain⟨rs',h1,rfl⟩:=d;exact⟨_,rs',rfl,rfl,h1⟩
   |cell t ty=>
    simp[gQ]at d;split at d
    .rename_i n rs' p f;injection d with d
     subst d;exact⟨_,rs',rfl,by simp[gQ,p],f⟩
    .cases d
  obtain⟨r,rs',rfl,h1,q⟩:=l;simp[qh]at e;split at e
  .rename_i x g j i;injection e with e
   subst e
   let⟨v,m,o⟩:=K1 h h1 j
   let⟨vs,k,f⟩:=Cb h b rs' g q i
   refine⟨v::vs,?_,.cons o f⟩;simp only[QH,Qs]
   erw [m]
   simp only[QK]
   erw [k]
   rfl
  .cases e
def tY{E:En}{a:Act}{w:Wo}{L:Nat->Va}(h:Rel E S a w L){fn:Func}{rs:Z RV}{x:PV}(k:gQ P fn.results.toList=some rs)(b:nq S rs=some x):
  ∃v,(results fn a.tmps).run P w= .ok v w/\aJ w (aI E S L) (S.gh L) x v:=by
 unfold nq at b
 cases i:qh S rs with
 |none=>rw[i]at b;cases b
 |some xs=>
  rw[i]at b
  let⟨vs,g,d⟩:=Cb h _ _ _ k i
  have e:(results fn a.tmps).run P w= .ok (if h:vs.toArray.size=1 then vs.toArray[0]else .tuple vs.toArray) w:=by
   unfold results;rw[qbv];simp only[Qs,map_eq_pure_bind]
   erw [g]
   rfl
  refine⟨_,e,?_⟩
  match xs,vs,d,b with
  |[],vs,d,b=>
   injection b with b
   subst b;have:=d.lF;subst this;exact .cg _ _ d.1 d.2
  |[y],vs,d,b=>
   injection b with b
   subst b;obtain⟨v,f,rfl,h1,j⟩:=d.cons_inv;have:=j.lF;subst this;exact h1
  |y::z::l,vs,d,b=>
   injection b with b
   subst b;obtain⟨v,f,rfl,h1,j⟩:=d.cons_inv;obtain⟨u,us,rfl,o,m⟩:=j.cons_inv;rw[dif_neg t_];exact .cg _ _ d.1 d.2
def wQ{w w':Wo}(h:w.heap=#[]):vE w w':=⟨by rw[h];exact Q7 _,λk o b _=>by rw[h]at b;simp at b⟩
def Rel.shut{E:En}{S:St}{a:Act}{w:Wo}{L:Nat->Va}(h:Rel E S a w L)(z:E.wk.heap=#[]){d:Deferred}{J:Z Deferred}(x:a.defers=d::J):
  ∃D w',d.target= .collected D/\(Instr.takeDeferred D).run P w= .ok [] w'/\Rel E S {a with defers:=J} w' L:=by
 have r:=h.defers.nodup;rw[x,List.nodup_cons]at r
 let⟨D,l,I,q⟩:=h.defers.at_ d (by rw[x];exact Qx)
 have f:∀k,k≠D->(w.putObj D (.deferred none)).heap[k]?=w.heap[k]?:=λk N=>World.putObj_heap_other N
 have j:∀(p:Addr) (v:Va),w.cell? p=some v->p.block≠D:=by intro p v m e;unfold World.cell? at m;rw[e,q]at m;simp at m
 have hs:bN w (w.putObj D (.deferred none)) (aI E S L) (aI E S L):=⟨λp v m F=>⟨(World.cell?_of_block (f _ (j p v m))).trans m,F⟩,λb es ck i F=>⟨(f b (λe=>by rw[e,q]at i;cases i)).trans i,F⟩⟩
 have B:∀id b,id<S.N->(S.H id).c.live=true->bp (L id)=some b->b≠D:=by
  intro id b g s i e
  let⟨o,u,H⟩:=(h.obj id g).cells s i
  rw[e,q]at u;injection u with u
  rw[<-u]at H;cases H
 refine⟨D,w.putObj D (.deferred none),by rw[l],run_takeDeferred q,⟨λe=>(by have:=h.defers.none e;rw[x]at this;cases this),r.2,λV G=> ?_⟩,h.size,λt=>(h.env t).mono hs (Gh.le.refl _),λid g=> ?_,h.apart,h.fresh,
  ⟨⟨h.fr.os,h.fr.tape,h.fr.output,by rw[World.putObj_size];exact h.fr.size,λb i M=>by rw[f b O];exact h.fr.block b i M,h.fr.drawn⟩,wQ z⟩,h.sP,h.gy,h.an.1.trans ⟨λb o l I A=>⟨(f b (λe=>by rw[e,q]at l;injection l with l;rw[<-l]at I;cases I)).trans l,A⟩⟩,h.an.2.1,λb T=>(let⟨q1,⟨o,q2,q4,q5⟩,q6⟩:=h.an.2.2 b T;⟨q1,⟨o,q2,q4,(f b (λe=>by rw[e,q]at q5;injection q5 with q5;rw[<-q5]at q4;cases q4)).trans q5⟩,q6⟩)⟩
 .let⟨D',u,H,h6⟩:=h.defers.at_ V (by rw[x];exact Qz _ G)
  grind
 .cases s:(S.H id).c.live with
  |false=>
   cases R:(S.H id).c with
   |dead=>trivial
   |box cs|row e k es=>rw[R]at s;cases s
  |true=>exact(h.obj id g).mono hs (Gh.le.refl _) (λb i _=>f b (B id b g s i))
def Em{E:En}{S:St}{L:Nat->Va}(b:E.wk.heap=#[]){fn:Func}{R:Ending->Wo->Prop}{tmps:Array Va}(g:∀w',Rel E S {tmps:=tmps,defers:=[]} w' L->∃v,(results fn tmps).run P w'= .ok v w'/\R (.returned v) w'):
  ∀(f:Z Deferred) (w:Wo),Rel E S {tmps:=tmps,defers:=f} w L->LeavesInM (WF none) 0 P fn tmps R f .returning w
 |[],w,h=>g w h
 |d::f,w,h=>by
  let⟨D,w',h1,j,i⟩:=Rel.shut (P:=P) h b rfl
  exact⟨(λe=>by cases e),.inl ⟨D,w',h1,j,Em b g f w' i⟩⟩
def yv{f:FI}{fn:Func}{c:Code}{E:En}{S0:St}{Q:Exit->St->Prop}{b:Array Va}{w:Wo}{L:Nat->Va}{R:Ending->Wo->Prop}(r:P.funcs[f]?=some fn)(s:fn.body=some c)(h:V P fn.ntmps c Q S0)
  (u:E.nt=fn.ntmps) (i:E.rd=none/\E.nd=false/\∀id,E.gy id=none) (o:∀t,E.kt t=none) (m:E.wk.heap=#[]) (g:Rel E S0 {tmps:=b++Array.replicate (fn.ntmps - b.size) undef,defers:=[]} w L)
  (j:∀(e:Exit) (S':St) (k:Nat->Va) (a':Act) (w':Wo),Rel E S' a' w' k->Q e S'->(e= .ret\/e= .normal)/\∃v,(results fn a'.tmps).run P w'= .ok v w'/\R (.returned v) w'):Calls P f b w R:=by
 have q:=h E u ⟨λt _=>o t,.inl i⟩ _ w L g
 rw[i.1]at q;refine wG.1 (callsIn_of_wp_marks (F:=WF none) (n:=0) r s trivial (Q6 q ?_));rintro e a' w' ⟨S',k,h1,p⟩
 have x:LeavesInM (WF none) 0 P fn a'.tmps R a'.defers .returning w':=
  Em m (λl d=>(j e S' k _ l d p).2) a'.defers w' h1
 rcases(j e S' k a' w' h1 p).1 with rfl|rfl<;>exact x
theorem N5{f:FI}{fn:Func}{c:Code}{sc:SC}{rs:Z RV}{pos:Nat}{recv:Bool}{cs d cs':Z PV}{r:PV}(hf:P.funcs[f]?=some fn)(m:fn.body=some c){hs:Z Nat}(hc:ax P fn.ntmps hs c=some sc)(hrs:gQ P fn.results.toList=some rs)
  (hlen:(if recv then 1 else 0)+d.length<=fn.ntmps) (h:VS P fn.ntmps sc (Ou rs recv λr' o=>r'=r/\(recv=true->o=cs')) (cr pos recv cs d)):DE P f pos recv cs d r cs':=by
 intro w X hX rb T rvs vs F z
 have hrb0:∀b,(if recv then some rb else none)=some b->b<w.heap.size/\¬gb b:=by grind
 let E:En:={w0:=w,rb:=if recv then some rb else none,nt:=fn.ntmps,X:=X,H0:=λ_=>False,hX:=⟨λb m=>hX.lt b m.1,λb m=>hX.ng b m.1,hX.gi⟩,Fa:=recv,rv:= .pointer (some ⟨rb,0,none⟩),rk:=false,vD:=hrb0,Gn:=λh=>(by cases h),rd:=none,nd:=false,kt:=λ_=>none,wk:={w with heap:=#[]},wm:=w,M0:=λ_=>True}
 let L:Nat->Va:=λ_=> .pointer (some ⟨rb,0,none⟩)
 have hvl:vs.length=d.length:=z.1
 have hm:∀b,aI E (cr pos recv cs d) L b->Mc recv rb X b:=by
  rintro b (⟨id,k,R,m⟩|m)
  .simp[cr]at k R
   cases recv with
   |false=>simp at k
   |true=>simp[L,bp,Qb]at m;exact .inl ⟨rfl,m.symm⟩
  .exact .inr m
 have hm':∀b,Mc recv rb X b->aI E (cr pos recv cs d) L b:=by
  rintro b (⟨p,M⟩|m)
  .subst M;exact .inl ⟨0,by simp[cr,p],by simp[cr,p,ji.live],rfl⟩
  .exact .inr m
 have hst:bN w w (Mc recv rb X) (aI E (cr pos recv cs d) L):=(bN.of λ_ hn=>λu=>hn (hm _ u))
 have hrel:Rel E (cr pos recv cs d) {tmps:=(gL pos (qb recv rb) vs).toArray++Array.replicate (fn.ntmps - (gL pos (qb recv rb) vs).toArray.size) undef,defers:=[]} w L:=by
  refine⟨Marks.nil rfl,⟨?_,λt v hv=>by cases hv⟩,λt=> ?_,λid k=> ?_,λi j b hi hj _ _ _ _=> ?_,λid k=> ?_,⟨Fr.refl _ _,wQ rfl⟩,λ_ _ _=>rfl,λ_ _ _ h=>(by cases h),Kept.top _ _ _,λid b k _ _ _=>(by cases recv<;>simp[cr]at k<;>omega),λb m=>m.elim⟩
  .grind [qb,JL]
  .have hget:(((gL pos (qb recv rb) vs).toArray++Array.replicate (fn.ntmps - (gL pos (qb recv rb) vs).toArray.size) undef).getD t undef)=((gL pos (qb recv rb) vs)[t]?).getD undef:=by
    rw[Qy,qaz]
    grind
   simp only;rw[hget]
   have D:aK w (aI E (cr pos recv cs d) L) ((cr pos recv cs d).gh L) (gL pos (if recv then[.ptr 0 0 0]else[]) d) (gL pos (qb recv rb) vs):=by
    have ha:=z.mono hst (cn.le ((cr pos recv cs d).gh L));refine((ha.take pos).append ?_).append (ha.drop pos)
    cases recv with
    |false=>exact .nil
    |true=>simp[qb,Qp];exact .cons (.ptr _ _ _ _ (by simp[St.gh,cr]) (Q7 _) (λ_=>by simp[St.gh,L,bp])) .nil
   show aJ w _ _ (((gL pos (if recv then[.ptr 0 0 0]else[]) d:Z PV)[t]?).getD .undef) _
   cases hx:(gL pos (if recv then[.ptr 0 0 0]else[]) d:Z PV)[t]? with
   |none=>
    have:(gL pos (qb recv rb) vs)[t]?=none:=by rw[List.getElem?_eq_none_iff]at hx ⊢;rw[D.1];exact hx
    rw[this];exact .undef
   |some x=>
    let⟨v,hv,hr⟩:=D.get hx
    rw[hv];exact hr
  .cases recv with
   |false=>simp[cr]at k
   |true=>
    simp[cr]at k;subst k
    let⟨p,M,_⟩:=F rfl
    have e:((cr pos true cs d).H 0).c= .box cs:=by simp[cr]
    rw[e];exact⟨rb,rvs.toArray,T,rfl,p,.inl (by simp[E]),by simpa using M.mono hst (cn.le ((cr pos true cs d).gh L))⟩
  .grind [cr]
  .grind [cr]
 have fin:∀(S':St) (N:Nat->Va) (a':Act) (w':Wo),Rel E S' a' w' N->tX rs recv (λr' o=>r'=r/\(recv=true->o=cs')) S'->
   ∃v,(results fn a'.tmps).run P w'= .ok v w'/\LR recv rb X w r cs' (.returned v) w':=by
  intro S' N a' w' u g;unfold tX at g;split at g
  .rename_i x hx
   let⟨v,hv,B⟩:=tY u hrs hx
   refine⟨v,hv,?_⟩
   cases recv with
   |false=>
    simp[QR,false_implies,Q8]at g;subst g;refine⟨v,[],rfl,?_,(λs=>by cases s),u.fr.toFr⟩
    refine u.fz (λb m=> ?_) (λid b k R _ m s=> ?_) 9 B
    .rcases m with⟨m,_⟩|m
     .cases m
     .exact .inr m
    .rcases s with⟨s,_⟩|s
     .cases s
     .rcases((u.obj id k).pI R m).2 with p|p
      .simp[E]at p
      .have:=hX.lt b s;simp[E]at p;omega
   |true=>
    simp only at g;split at g
    .rename_i o V;obtain⟨hcl,rfl,G⟩:=g;have G:=G trivial;subst G
     have H:0<S'.N:=by
      rcases Nat.eq_zero_or_pos S'.N with h0|h0
      .have:=u.fresh 0 O;rw[V]at this;cases this
      .exact h0
     have I:N 0= .pointer (some ⟨rb,0,none⟩):=u.sP rfl (by rw[V];rfl) (by rw[V])
     let⟨b,cur,T',J,hh,hr,_⟩:=u.mO H (show(S'.H 0).c= .box o by rw[V])
     rw[I]at J;simp[Value.pointer.injEq,Qb,qaI]at J;obtain⟨rfl,_⟩:=J
     have A:∀q,Mc true rb X q->aI E S' N q:=by
      rintro q (⟨_,rfl⟩|s)
      .exact .inl ⟨0,H,by rw[V];rfl,by rw[I];rfl⟩
      .exact .inr s
     refine⟨v,cur.toList,rfl,?_,λ_=>⟨?_,hr.closed hcl A⟩,u.fr.toFr⟩
     .refine u.fz A (λid b k R hne m s=> ?_) 9 B
      have hnb:b≠rb:=λe=>hne (by rw[u.apart id 0 b k H R (by rw[V];rfl) m (by rw[I,e];rfl)])
      rcases s with⟨_,s⟩|s
      .exact hnb s
      .rcases((u.obj id k).pI R m).2 with p|p
       .simp[E,Qp,Qb]at p;exact hnb p.symm
       .have:=hX.lt b s;simp[E]at p;omega
     .exact⟨T',by simpa using hh⟩
    .exact g.elim
  .exact g.elim
 exact yv hf m (h c hs hc) rfl ⟨rfl,rfl,λ_=>rfl⟩ (λ_=>rfl) rfl hrel λe S' N a' w' p M=>by
  cases e with
  |normal=>exact⟨.inr rfl,fin S' N a' w' p M⟩
  |ret=>exact⟨.inl rfl,fin S' N a' w' p M⟩
  |exit i|goto l|panic c|outgrown=>exact M.elim
def JC(rs:Z RV)(R:Z PV->Prop):Exit->St->Prop
 | .ret,S=>match nq S rs with
  |some (.ptr id ab 0)=>if(S.H id).ab=ab then(match(S.H id).c with| .box cs=>cs.all PV.closed=true/\R cs|_=>False)else False
  |_=>False
 |_,_=>False
theorem SD{f:FI}{fn:Func}{c:Code}{R:SC}{rs:Z RV}{d cs:Z PV}(hf:P.funcs[f]?=some fn)(m:fn.body=some c){hs:Z Nat}(hc:ax P fn.ntmps hs c=some R)(I:gQ P fn.results.toList=some rs)
  (V:d.length<=fn.ntmps) (h:VS P fn.ntmps R (JC rs λcs'=>cs'=cs) (cr 0 false [] d)):No P f d cs:=by
 intro w X hX vs o
 let E:En:={w0:=w,rb:=none,nt:=fn.ntmps,X:=X,H0:=λ_=>False,hX:=⟨λb m=>hX.lt b m.1,λb m=>hX.ng b m.1,hX.gi⟩,Fa:=false,rv:=undef,rk:=false,vD:=λb m=>(by cases m),Gn:=λh=>(by cases h),rd:=none,nd:=false,kt:=λ_=>none,wk:={w with heap:=#[]},wm:=w,M0:=λ_=>True}
 let L:Nat->Va:=λ_=> .pointer none
 have H:bN w w X (aI E (cr 0 false [] d) L):=(bN.of λ_ hn s=>hn (by
  rcases s with⟨id,g,_⟩|s
  .simp[cr]at g
  .exact s))
 have hvl:vs.length=d.length:=o.1
 have B:Rel E (cr 0 false [] d) {tmps:=vs.toArray++Array.replicate (fn.ntmps - vs.toArray.size) undef,defers:=[]} w L:=by
  refine⟨Marks.nil rfl,⟨?_,λt v A=>by cases A⟩,λt=> ?_,λid g=> ?_,λi j b hi hj _ _ _ _=> ?_,λid g=> ?_,⟨Fr.refl _ _,wQ rfl⟩,λm _ _=>(by cases m),λ_ _ _ h=>(by cases h),Kept.top _ _ _,λid b g _ _ _=>(by simp[cr]at g),λb m=>m.elim⟩
  .simp[E];omega
  .have D:((vs.toArray++Array.replicate (fn.ntmps - vs.toArray.size) undef).getD t undef)=(vs[t]?).getD undef:=by
    rw[Qy,qaz]
    grind
   simp only;rw[D];have ha:=o.mono H (cn.le ((cr 0 false [] d).gh L));show aJ w _ _ ((([]++d:Z PV)[t]?).getD .undef) _;rw[List.nil_append]
   cases F:d[t]? with
   |none=>
    have:vs[t]?=none:=by grind
    rw[this];exact .undef
   |some x=>
    let⟨v,A,J⟩:=ha.get F
    rw[A];exact J
  .simp[cr]at g
  .simp[cr]at hi
  .simp[cr]
 refine yv hf m (h c hs hc) rfl ⟨rfl,rfl,λ_=>rfl⟩ (λ_=>rfl) rfl B λe S' L' a' w' s k=> ?_
 cases e with
 |ret=>
  simp only[JC]at k;split at k
  .rename_i id ab F;split at k
   .rename_i p;split at k
    .rename_i cs' u;obtain⟨M,rfl⟩:=k
     let⟨v,A,r⟩:=tY s I F
     let⟨hN,_⟩:=r.lC (show(S'.gh L').V id=ab from p)
     let⟨b,G,hL⟩:=s.qj r p u
     let⟨b',N,T,z,hh,J,hE⟩:=s.mO hN u
     rw[hL]at z;simp only[Value.pointer.injEq,Qb,qaI]at z;obtain⟨rfl,_⟩:=z;refine⟨.inl rfl,v,A,b,N.toList,T,by rw[G],?_,by simpa using hh,?_,s.fr.toFr⟩
     .grind
     .refine J.closed M ?_;rintro q (k|rfl)
      .exact .inr k
      .exact .inl ⟨id,hN,by rw[u];rfl,by rw[hL];rfl⟩
    .exact k.elim
   .exact k.elim
  .exact k.elim
 |normal|exit i|goto l|panic c|outgrown=>exact k.elim
def nf(e k:Nat)(es:Z (Z PV))(b:Z PV):St:=
 {env:=λt=>((.own 0 0::b)[t]?).getD .undef,H:=λid=>if id=0 then⟨0,.row e k es⟩else⟨0,.dead⟩,N:=1}
def yS(rs:Z RV)(e k:Nat)(R:Z (Z PV)->Prop):Exit->St->Prop
 | .ret,S| .normal,S=>match nq S rs with
  |some (.own id ab)=>(S.H id).ab=ab/\(match(S.H id).c with
   | .row f d b=>f=e/\d=k/\ur b=true/\R b
   |_=>False)
  |_=>False
 |_,_=>False
def Nx{fn:Func}{e k:Nat}{es:Z (Z PV)}{d:Z PV}{w:Wo}{X:Nat->Prop}(hX:o3 w X){v:Va}{vs:Z Va}(A:∀b,bp v=some b->¬X b/\¬gb b)(r:sw w (Mv v X) e k v es)(o:aK w (Mv v X) cn d vs)(G:1+d.length<=fn.ntmps):
  ∃E:En,E.w0=w/\E.rb=bp v/\E.nt=fn.ntmps/\E.X=X/\E.Fa=true/\E.rv=v/\(E.rd=none/\E.nd=false/\∀id,E.gy id=none)/\(∀t,E.kt t=none)/\E.wk.heap=#[]/\
   Rel E (nf e k es d) {tmps:=(v::vs).toArray++Array.replicate (fn.ntmps - (v::vs).toArray.size) undef,defers:=[]} w (λ_=>v):=by
 let⟨us,m,hk,M⟩:=r
 have D:∀b,bp v=some b->b<w.heap.size:=by
  intro b f;rcases m.2 with⟨rfl,_⟩|⟨g,cap,p,rfl,_,hh,_⟩
  .cases f
  .grind [bp]
 let E:En:={w0:=w,rb:=bp v,nt:=fn.ntmps,X:=X,H0:=λ_=>False,hX:=⟨λb f=>hX.lt b f.1,λb f=>hX.ng b f.1,hX.gi⟩,Fa:=true,rv:=v,rk:=true,vD:=λb f=>⟨D b f,(A b f).2⟩,Gn:=λ_ b f=>(A b f).1,rd:=none,nd:=false,kt:=λ_=>none,wk:={w with heap:=#[]},wm:=w,M0:=λ_=>True}
 have R:∀b,aI E (nf e k es d) (λ_=>v) b↔Mv v X b:=by
  intro b;constructor
  .rintro(⟨id,l,hl,f⟩|f)
   .exact .inl f
   .exact .inr f
  .rintro(f|f)
   .exact .inl ⟨0,by simp[nf],by simp[nf,ji.live],f⟩
   .exact .inr f
 have q:bN w w (Mv v X) (aI E (nf e k es d) (λ_=>v)):=(bN.of λ_ N=>λh'=>N ((R _).1 h'))
 obtain⟨ad,n0,c0,B⟩:∃ad n c,v= .slice ad n c:=by
  rcases m.2 with⟨h1,_⟩|⟨g,cap,p,h1,_⟩
  .exact⟨_,_,_,h1⟩
  .exact⟨_,_,_,h1⟩
 have I:vs.length=d.length:=o.1;refine⟨E,rfl,rfl,rfl,rfl,rfl,rfl,⟨rfl,rfl,λ_=>rfl⟩,λ_=>rfl,rfl,⟨Marks.nil rfl,⟨?_,λt v J=>by cases J⟩,λt=> ?_,λid l=> ?_,λi j b hi T _ _ _ _=> ?_,λid l=> ?_,⟨Fr.refl _ _,wQ rfl⟩,λ_ _ _=>rfl,λ_ _ _ h=>(by cases h),Kept.top _ _ _,λid b l _ _ _=>(by simp[nf]at l;omega),λb f=>f.elim⟩⟩
 .simp[E];omega
 .have s:(((v::vs).toArray++Array.replicate (fn.ntmps - (v::vs).toArray.size) undef).getD t undef)=((v::vs)[t]?).getD undef:=by
   rw[Qy,qaz]
   grind
  simp only;rw[s]
  have z:aK w (aI E (nf e k es d) (λ_=>v)) ((nf e k es d).gh (λ_=>v)) (.own 0 0::d) (v::vs):=by refine .cons ?_ (o.mono q (cn.le _));rw[B];exact .own _ _ _ _ _ (by simp[St.gh,nf]) (Q7 _) (λ_=>rfl)
  show aJ w _ _ (((.own 0 0::d:Z PV)[t]?).getD .undef) _
  cases H:((.own 0 0::d:Z PV))[t]? with
  |none=>
   have:(v::vs)[t]?=none:=by grind
   rw[this];exact .undef
  |some x=>
   let⟨u,hu,F⟩:=z.get H
   rw[hu];exact F
 .have:id=0:=by simp[nf]at l;exact l
  subst this;have V:((nf e k es d).H 0).c= .row e k es:=by simp[nf]
  rw[V];refine⟨us,⟨m.1,?_⟩,hk,M.mono q (cn.le _)⟩;rcases m.2 with h1|⟨g,cap,p,h1,_,h3⟩
  .exact .inl h1
  .refine .inr ⟨g,cap,p,h1,?_,h3⟩
   grind [bp,dQ]
 .simp[nf]at hi T;omega
 .simp[nf]at l ⊢;omega
def Lo{E:En}{S':St}{x:Nat->Va}{a':Act}{w':Wo}{X:Nat->Prop}(t:E.X=X)(v:Rel E S' a' w' x){fn:Func}{rs:Z RV}(o:gQ P fn.results.toList=some rs){e k:Nat}{l:Z (Z PV)}(d:yS rs e k (λj=>j=l) .ret S'):
  ∃u,(results fn a'.tmps).run P w'= .ok u w'/\sw w' (Mv u X) e k u l/\∀b,bp u=some b->E.rb=some b\/E.w0.heap.size<=b:=by
 simp[yS]at d;split at d
 .rename_i id ab A
  let⟨g,d⟩:=d
  split at d
  .rename_i H G F z;obtain⟨rfl,rfl,r,rfl⟩:=d
   let⟨u,hu,h⟩:=tY v o A
   let⟨s,m⟩:=h.iy (show(S'.gh x).V id=ab from g)
   have m:u=x id:=m;subst m;have f:(S'.H id).c.live=true:=by rw[z];rfl
   let⟨us,i,hk,B⟩:=v.gd s z
   refine⟨_,hu,⟨us,xb i,hk,B.closed (yW r) ?_⟩,λb D=>((v.obj id s).pI f D).2⟩
   rintro q (p|p)
   .exact .inl ⟨id,s,f,p⟩
   .exact .inr (by rw[t];exact p)
  .exact d.elim
 .exact d.elim
theorem SF{f:FI}{fn:Func}{c:Code}{D:SC}{rs:Z RV}{e k:Nat}{es es':Z (Z PV)}{g:Z PV}(H:P.funcs[f]?=some fn)(J:fn.body=some c){hs:Z Nat}(I:ax P fn.ntmps hs c=some D)(z:gQ P fn.results.toList=some rs)
  (r:1+g.length<=fn.ntmps) (h:VS P fn.ntmps D (yS rs e k λd=>d=es') (nf e k es g)):Fv P f e k es g es':=by
 intro w X hX v vs A o m
 let⟨E,e1,G,e3,V,e5,e6,T,R,N,q⟩:=Nx (fn:=fn) hX A o m r
 subst e1;refine yv H J (h c hs I) e3 T R N q λM S' L' a' w' F B=> ?_
 have s:yS rs e k (λd=>d=es') .ret S'->∃u,(results fn a'.tmps).run P w'= .ok u w'/\∃t,Ending.returned u= .returned t/\sw w' (Mv t X) e k t es'/\(∀b,bp t=some b->bp v=some b\/E.w0.heap.size<=b)/\Fr (bp v) E.w0 w':=by
  intro p
  let⟨u,hu,j,x⟩:=Lo V F z p
  refine⟨u,hu,u,rfl,j,?_,by rw[<-G];exact F.fr.toFr⟩
  rw[<-G];exact x
 cases M with
 |normal=>exact⟨.inr rfl,s B⟩
 |ret=>exact⟨.inl rfl,s B⟩
 |exit i|goto l|panic c|outgrown=>exact B.elim
theorem SE{f:FI}{fn:Func}{c:Code}{J:SC}{rs:Z RV}{e k:Nat}{es':Z (Z PV)}{d:Z PV}(hf:P.funcs[f]?=some fn)(m:fn.body=some c){hs:Z Nat}(hc:ax P fn.ntmps hs c=some J)(G:gQ P fn.results.toList=some rs)
  (M:d.length<=fn.ntmps) (h:VS P fn.ntmps J (yS rs e k λp=>p=es') (cr 0 false [] d)):KT P f d e k es':=by
 intro w X hX vs o
 let E:En:={w0:=w,rb:=none,nt:=fn.ntmps,X:=X,H0:=λ_=>False,hX:=⟨λb m=>hX.lt b m.1,λb m=>hX.ng b m.1,hX.gi⟩,Fa:=false,rv:=undef,rk:=false,vD:=λb m=>(by cases m),Gn:=λh=>(by cases h),rd:=none,nd:=false,kt:=λ_=>none,wk:={w with heap:=#[]},wm:=w,M0:=λ_=>True}
 let L:Nat->Va:=λ_=> .pointer none
 have F:bN w w X (aI E (cr 0 false [] d) L):=(bN.of λ_ hn I=>hn (by
  rcases I with⟨id,g,_⟩|I
  .simp[cr]at g
  .exact I))
 have T:vs.length=d.length:=o.1
 have s:Rel E (cr 0 false [] d) {tmps:=vs.toArray++Array.replicate (fn.ntmps - vs.toArray.size) undef,defers:=[]} w L:=by
  refine⟨Marks.nil rfl,⟨?_,λt v D=>by cases D⟩,λt=> ?_,λid g=> ?_,λi j b hi hj _ _ _ _=> ?_,λid g=> ?_,⟨Fr.refl _ _,wQ rfl⟩,λm _ _=>(by cases m),λ_ _ _ h=>(by cases h),Kept.top _ _ _,λid b g _ _ _=>(by simp[cr]at g),λb m=>m.elim⟩
  .simp[E];omega
  .have z:((vs.toArray++Array.replicate (fn.ntmps - vs.toArray.size) undef).getD t undef)=(vs[t]?).getD undef:=by
    rw[Qy,qaz]
    grind
   simp only;rw[z];have ha:=o.mono F (cn.le ((cr 0 false [] d).gh L));show aJ w _ _ ((([]++d:Z PV)[t]?).getD .undef) _;rw[List.nil_append]
   cases R:d[t]? with
   |none=>
    have:vs[t]?=none:=by grind
    rw[this];exact .undef
   |some x=>
    let⟨v,D,hr⟩:=ha.get R
    rw[D];exact hr
  .simp[cr]at g
  .simp[cr]at hi
  .simp[cr]
 refine yv hf m (h c hs hc) rfl ⟨rfl,rfl,λ_=>rfl⟩ (λ_=>rfl) rfl s λen S' L' a' w' N H=> ?_
 have A:yS rs e k (λp=>p=es') .ret S'->∃u,(results fn a'.tmps).run P w'= .ok u w'/\∃B,Ending.returned u= .returned B/\sw w' (Mv B X) e k B es'/\(∀b,bp B=some b->w.heap.size<=b)/\Fr none w w':=by
  intro r
  let⟨u,hu,q,V⟩:=Lo (E:=E) rfl N G r
  refine⟨u,hu,u,rfl,q,λb hbb=> ?_,N.fr.toFr⟩
  grind
 cases en with
 |normal=>exact⟨.inr rfl,A H⟩
 |ret=>exact⟨.inl rfl,A H⟩
 |exit i|goto l|panic c|outgrown=>exact H.elim
def ep(P:Pr)(f:FI)(nt:Nat)(b:SC)(rs:Z RV):Prop:=
 ∃fn hs,P.funcs[f]?=some fn/\fn.ntmps=nt/\(fn.body.bind (ax P nt hs))=some b/\gQ P fn.results.toList=some rs/\(fn.name== "runtime.NumGoroutine")=false
def ep.enters{f:FI}{d:SC}{rs:Z RV}(h:ep P f nt d rs):Enters P f:=by
 let⟨fn,hs,h1,_,b,_,g⟩:=h
 refine⟨fn,h1,?_,g⟩
 cases e:fn.body with
 |none=>rw[e]at b;cases b
 |some c=>rfl
def ep.GD{f:FI}{e:SC}{rs:Z RV}(h:ep P f nt e rs){pos:Nat}{recv:Bool}{cs b cs':Z PV}{r:PV}(g:(if recv then 1 else 0)+b.length<=nt)
  (l:VS P nt e (Ou rs recv λj d=>j=r/\(recv=true->d=cs')) (cr pos recv cs b)):DE P f pos recv cs b r cs':=by
 obtain⟨fn,hs,h1,rfl,i,m,_⟩:=h
 cases k:fn.body with
 |none=>rw[k]at i;cases i
 |some c=>grind [N5]
def ep.WZ{f:FI}{d:SC}{rs:Z RV}(h:ep P f nt d rs){b cs:Z PV}(e:b.length<=nt)
  (j:VS P nt d (JC rs λcs'=>cs'=cs) (cr 0 false [] b)):No P f b cs:=by
 obtain⟨fn,hs,h1,rfl,g,k,_⟩:=h
 cases i:fn.body with
 |none=>rw[i]at g;cases g
 |some c=>grind [SD]
def ep.W8{f:FI}{g:SC}{rs:Z RV}(h:ep P f nt g rs){e k:Nat}{es es':Z (Z PV)}{b:Z PV}(i:1+b.length<=nt)
  (m:VS P nt g (yS rs e k λd=>d=es') (nf e k es b)):Fv P f e k es b es':=by
 obtain⟨fn,hs,h1,rfl,j,o,_⟩:=h
 cases l:fn.body with
 |none=>rw[l]at j;cases j
 |some c=>grind [SF]
def ep.W0{f:FI}{g:SC}{rs:Z RV}(h:ep P f nt g rs){e k:Nat}{es':Z (Z PV)}{b:Z PV}(i:b.length<=nt)
  (m:VS P nt g (yS rs e k λd=>d=es') (cr 0 false [] b)):KT P f b e k es':=by
 obtain⟨fn,hs,h1,rfl,j,o,_⟩:=h
 cases l:fn.body with
 |none=>rw[l]at j;cases j
 |some c=>grind [SE]
def tab:Z (FI×Model)->gW
 |[],_=>none
 |(g,m)::l,f=>if f=g then some m else tab l f
end
end
section
open Go.RowKit
section
variable{P:Pr}{nt:Nat}{hs:Z Nat}
def uL{c:Code}{x y:SC}(h:ax P nt hs c=some (.seq x y)):∃p q,c= .seq p q/\ax P nt hs p=some x/\ax P nt hs q=some y:=by
 cases c with
 |seq p q=>
  simp[ax]at h;split at h
  .rename_i j i e b;injection h with h
   injection h with h1 f
   subst h1 f;exact⟨p,q,rfl,e,b⟩
  .cases h
 |region id ops d=>cases d<;>simp[ax]at h<;>(try split at h)<;>(try split at h)<;>(try split at h)<;>cases h
 |cond c x y=>simp[ax]at h;split at h<;>cases h
 |block id c|loop c=>simp only[ax,Qh]at h;obtain⟨_,_,h⟩:=h;cases h
 |rangeFunc g ps x y=>simp[ax]at h;split at h<;>(try split at h)<;>cases h
 |_=>simp only[ax]at h<;>cases h
def GH{c:Code}{o:aQ}{x y:SC}(h:ax P nt hs c=some (.cond o x y)):∃b p q,c= .cond b p q/\aM b=some o/\ax P nt hs p=some x/\ax P nt hs q=some y:=by
 cases c with
 |cond b p q=>
  simp[ax]at h;split at h
  .rename_i r m l i f e;injection h with h
   injection h with h1 k j
   subst h1 k j;exact⟨b,p,q,rfl,i,f,e⟩
  .cases h
 |region id ops d=>cases d<;>simp[ax]at h<;>(try split at h)<;>(try split at h)<;>(try split at h)<;>cases h
 |seq x y=>simp[ax]at h;split at h<;>cases h
 |block id c|loop c=>simp only[ax,Qh]at h;obtain⟨_,_,h⟩:=h;cases h
 |rangeFunc g ps x y=>simp[ax]at h;split at h<;>(try split at h)<;>cases h
 |_=>simp[ax]at h<;>cases h
def Eu{c:Code}{id:Nat}{x:SC}(h:ax P nt hs c=some (.block id x)):∃p,c= .block id p/\ax P nt hs p=some x:=by
 cases c with
 |block j p=>
  simp only[ax,Qh]at h;obtain⟨f,b,h⟩:=h;injection h with h1 e
  subst h1 e;exact⟨p,rfl,b⟩
 |region id ops d=>cases d<;>simp[ax]at h<;>(try split at h)<;>(try split at h)<;>(try split at h)<;>cases h
 |seq x y|cond c x y=>simp[ax]at h;split at h<;>cases h
 |loop c=>simp only[ax,Qh]at h;obtain⟨_,_,h⟩:=h;cases h
 |rangeFunc g ps x y=>simp[ax]at h;split at h<;>(try split at h)<;>cases h
 |_=>simp[ax]at h<;>cases h
def MG{c:Code}{x:SC}(h:ax P nt hs c=some (.loop x)):∃p,c= .loop p/\ax P nt hs p=some x:=by
 cases c with
 |loop p=>
  simp only[ax,Qh]at h;obtain⟨e,b,h⟩:=h;injection h with h1
  subst h1;exact⟨p,rfl,b⟩
 |region id ops d=>cases d<;>simp[ax]at h<;>(try split at h)<;>(try split at h)<;>(try split at h)<;>cases h
 |seq x y=>simp[ax]at h;split at h<;>cases h
 |cond c x y=>simp only[ax]at h;split at h<;>cases h
 |block id c=>simp only[ax,Qh]at h;obtain⟨_,_,h⟩:=h;cases h
 |rangeFunc g ps x y=>simp[ax]at h;split at h<;>(try split at h)<;>cases h
 |_=>simp[ax]at h<;>cases h
def ID{c:Code}{e:Z SG}(h:ax P nt hs c=some (.lZ e)):∃id ops,c= .region id ops false/\ops.toList.mapM (mN P hs ops)=some e/\∀o∈ops.toList,∀t,o.dst=some t->t<nt:=by
 cases c with
 |region id ops d=>
  cases d with
  |true=>simp[ax]at h;(try split at h)<;>(try split at h)<;>(try split at h)<;>cases h
  |false=>
   simp only[ax]at h;split at h
   .rename_i i b;split at h
    .rename_i f;injection h with h
     injection h with h
     subst h;exact⟨id,ops,rfl,b,CT f⟩
    .cases h
   .cases h
 |seq x y|cond c x y=>simp[ax]at h;split at h<;>cases h
 |block id c|loop c=>simp only[ax,Qh]at h;obtain⟨_,_,h⟩:=h;cases h
 |rangeFunc g ps x y=>simp[ax]at h;split at h<;>(try split at h)<;>cases h
 |_=>simp only[ax]at h<;>cases h
def MH{c:Code}{id:Nat}(h:ax P nt hs c=some (.exit id)):c= .exit id:=by
 cases c with
 |exit j=>simp[ax,Qb,SC.exit.injEq]at h;rw[h]
 |region id ops d=>cases d<;>simp[ax]at h<;>(try split at h)<;>(try split at h)<;>(try split at h)<;>cases h
 |seq x y=>simp[ax]at h;split at h<;>cases h
 |cond c x y=>simp only[ax]at h;split at h<;>cases h
 |block id c|loop c=>simp only[ax,Qh]at h;obtain⟨_,_,h⟩:=h;cases h
 |rangeFunc g ps x y=>simp[ax]at h;split at h<;>(try split at h)<;>cases h
 |_=>simp[ax]at h<;>cases h
def GG{c:Code}(h:ax P nt hs c=some .skip):c= .skip:=by
 cases c with
 |skip=>rfl
 |region id ops d=>cases d<;>simp[ax]at h<;>(try split at h)<;>(try split at h)<;>(try split at h)<;>cases h
 |seq x y|cond c x y=>simp[ax]at h;split at h<;>cases h
 |block id c|loop c=>simp only[ax,Qh]at h;obtain⟨_,_,h⟩:=h;cases h
 |rangeFunc g ps x y=>simp[ax]at h;split at h<;>(try split at h)<;>cases h
 |_=>simp[ax]at h<;>cases h
def N7{c:Code}(h:ax P nt hs c=some .ret):c= .ret:=by
 cases c with
 |ret=>rfl
 |region id ops d=>cases d<;>simp[ax]at h<;>(try split at h)<;>(try split at h)<;>(try split at h)<;>cases h
 |seq x y|cond c x y=>simp[ax]at h;split at h<;>cases h
 |block id c|loop c=>simp only[ax,Qh]at h;obtain⟨_,_,h⟩:=h;cases h
 |rangeFunc g ps x y=>simp[ax]at h;split at h<;>(try split at h)<;>cases h
 |_=>simp[ax]at h<;>cases h
def eW{α β:Type}{f:α->Y β}{l:Z α}{y:β}{ys:Z β}(h:l.mapM f=some (y::ys)):∃x xs,l=x::xs/\f x=some y/\xs.mapM f=some ys:=by
 cases l with
 |nil=>simp at h
 |cons x xs=>simp only[QH,Qi,Qd,QO,Qb,List.cons.injEq]at h;obtain⟨z,d,e,b,rfl,rfl⟩:=h;exact⟨x,xs,rfl,d,b⟩
def Ck{α β:Type}{f:α->Y β}{l:Z α}(h:l.mapM f=some []):l=[]:=by
 cases l with
 |nil=>rfl
 |cons x xs=>simp only[QH,Qi,Qd,QO,Qb]at h;obtain⟨z,e,d,b,h⟩:=h;cases h
def IA{o:Oper}{f:aQ}{xs:Z aQ}(h:xv P hs o=some (.lp f xs)):∃(g:Od) (args:Array Od) (i:Array TI),o.op= .call {callee:= .value g,args:=args,argTypes:=i}/\aM g=some f/\args.toList.mapM aM=some xs:=by
 unfold xv at h;split at h
 case h_22 k args l d=>
  simp[Qi,Qd]at h
  let⟨m,b,h⟩:=h
  split at h
  .cases h
  .simp[Qd,Qb,bV.lp.injEq]at h;obtain⟨j,e,rfl,rfl⟩:=h;exact⟨_,_,_,d,e,b⟩
 all_goals (repeat' (first|(cases h;done)|split at h|(simp only[Qi,Qd]at h;obtain⟨_,_,h⟩:=h)|(obtain⟨_,_,h⟩:=h)))
def qy{x:Od}{t:Nat}(h:aM x=some (.tmp t)):x= .tmp t:=by
 cases x with
 |tmp u=>simp[aM,Qb,aQ.tmp.injEq]at h;rw[h]
 |const v=>simp only[aM,Qh]at h;obtain⟨_,_,h⟩:=h;cases h
 |global g|func f=>simp[aM]at h
end
def xw(k:Nat)(b:Y Nat):SC:=
 .seq (.lZ [⟨some 4,none,.load none (.tmp 1)⟩,⟨some 5,none,.len false (.tmp 4)⟩,⟨some 6,none,.bin .sub (.tmp 5) (.qP (.int .i64 1))⟩,⟨some 3,none,.jR (.tmp 6)⟩])
  (.block 0 (.loop (.seq (.seq (.lZ [⟨some 7,none,.jR (.tmp 3)⟩,⟨some 8,none,.bin .geq (.tmp 7) (.qP (.int .i64 0))⟩]) (.cond (.tmp 8) .skip (.exit 0)))
   (.seq (.block 1 (.seq (.lZ [⟨some 11,none,.jR (.tmp 0)⟩,⟨some 12,none,.jR (.tmp 3)⟩,⟨some 13,none,.load none (.tmp 1)⟩,⟨some 14,none,.jR (.tmp 3)⟩,⟨some 15,none,.mq k (.tmp 13) (.tmp 14)⟩,
    ⟨some 16,none,.load b (.tmp 15)⟩,⟨some 17,none,.lp (.tmp 11) [.tmp 12,.tmp 16]⟩,⟨some 18,none,.not (.tmp 17)⟩]) (.cond (.tmp 18) .ret .skip)))
    (.lZ [⟨some 9,none,.jR (.tmp 3)⟩,⟨some 10,none,.bin .sub (.tmp 9) (.qP (.int .i64 1))⟩,⟨some 3,none,.jR (.tmp 10)⟩])))))
section
variable{P:Pr}
def Ij:gW:=λ_=>none
def Jz:fQ P Ij:=λ_ _ h=>by cases h
def Jf{Γ:gW}(d:fQ P Γ){E:En}{hs:Z Nat}{ops:Array Oper}{r:Z Oper}:∀(l:Z Oper) (e:Z SG) (nid:Nat) (S S':St) (a:Act) (w:Wo) (L:Nat->Va),l.mapM (mN P hs ops)=some e->Rel E S a w L->nid+l.length<=S.N->
  (∀o∈l,∀t,o.dst=some t->E.can t)->vm Γ nid e S=some S'->∀{Q:Exit->Act->Wo->Prop},(∀a' w' q,Rel E S' a' w' q->wpListIn (WF E.rd) 0 P ops Q r a' w')->wpListIn (WF E.rd) 0 P ops Q (l++r) a w
 |[],e,nid,S,S',a,w,L,hm,h,m,j,b,Q,k=>by simp at hm;subst hm;simp[vm,Qb]at b;subst b;exact k a w L h
 |o::l,e,nid,S,S',a,w,L,hm,h,m,j,b,Q,k=>by
  simp[QH,Qi,Qd,QO,Qb]at hm;obtain⟨g,u,p,i,rfl⟩:=hm;simp[vm]at b;split at b
  .rename_i S1 hs;rw[List.cons_append];refine qaK λK v=> ?_
   refine qL d u h (by simp at m;omega) (j o t_) hs (λa' w' q x=>v _ _ ?_)
   exact Jf d l p (nid+1) S1 S' a' w' q i x (by rw[Pt hs];simp at m;omega) (λs f=>j s (by simp[f])) b k
  .cases b
def EB(nt:Nat)(W:Wo)(X:Nat->Prop)(hX:o3 W X)(kt:Nat->Y Va):En:=
 {w0:=W,rb:=none,nt:=nt,X:=X,H0:=λ_=>False,hX:=⟨λb d=>hX.lt b d.1,λb d=>hX.ng b d.1,hX.gi⟩,Fa:=false,rv:=undef,rk:=false,vD:=λb d=>(by cases d),Gn:=λh=>(by cases h),rd:=none,nd:=true,kt:=kt,wk:={W with heap:=#[]},wm:=W,M0:=λ_=>True}
def SB(env:Nat->PV):St:={env:=env,H:=λ_=>⟨0,.dead⟩,N:=8}
def IU{nt:Nat}{W:Wo}{X:Nat->Prop}(hX:o3 W X){kt:Nat->Y Va}{env:Nat->PV}{a:Act}{L:Nat->Va}(k:a.defers=[])(hs:a.tmps.size=nt)(f:∀t v,kt t=some v->a.tmps.getD t undef=v)
  (g:∀t,aJ W X cn (env t) (a.tmps.getD t undef)):Rel (EB nt W X hX kt) (SB env) a W L:=by
 have m:∀b,aI (EB nt W X hX kt) (SB env) L b->X b:=by
  rintro b (⟨id,_,d,_⟩|h)
  .cases d
  .exact h
 exact⟨Marks.nil k,⟨hs,f⟩,λt=>(g t).mono (bN.of λ_ e=>λh=>e (m _ h)) (cn.le _),λ_ _=>trivial,λi j b _ _ hi=>(by cases hi),λ_ _=>rfl,⟨Fr.refl _ _,wQ rfl⟩,λh=>(by cases h),λ_ _ _ h=>(by cases h),Kept.top _ _ _,(λ_ _ _ d=>by cases d),λb l=>l.elim⟩
structure BF (y c:Value) (i:Int) (a:Act):Prop where
 defers:a.defers=[]
 size:a.tmps.size=19
 y:a.tmps.getD 0 undef=y
 c:a.tmps.getD 1 undef=c
 i:a.tmps.getD 3 undef= .int .i64 i
def uu(y c:Va)(t:Nat):Y Va:=if t=0 then some y else if t=1 then some c else none
def w9{nt:Nat}{W W':Wo}{X:Nat->Prop}{hX:o3 W X}{kt:Nat->Y Va}{S:St}{a:Act}{L:Nat->Va}(h:Rel (EB nt W X hX kt) S a W' L):Fr none W W':=h.fr.toFr
def Dv{hs:Z Nat}{ops:Array Oper}{p:Nat->Prop}:∀{l:Z Oper} {f:Z SG},l.mapM (mN P hs ops)=some f->(∀g∈f,∀t,g.d=some t->p t)->∀o∈l,∀t,o.dst=some t->p t
 |[],_,_,_=>t_
 |x::l,f,h,j=>by
  simp[QH,Qi,Qd,QO,Qb]at h;obtain⟨g,e,k,d,rfl⟩:=h;intro o b t i;rcases Qm.1 b with rfl|b
  .exact j g Qx t (by rw[(CW e).2.1];exact i)
  .exact Dv d (λg e=>j g (Qz _ e)) o b t i
def xu(es:Z (Z PV))(x:Nat->PV)(t:Nat):PV:=if t=1 then .ref [.sl es]else x t
variable{hs:Z Nat}{es:Z (Z PV)}{y c:Va}{W:Wo}{X:Nat->Prop}{hX:o3 W X}{a:Act}
def BF.env{i:Int}(h:BF y c i a)(b:aJ W X cn (.ref [.sl es]) c)(t:Nat):aJ W X cn (xu es (λt=>if t=3 then .int .i64 i else .any) t) (a.tmps.getD t undef):=by
 unfold xu;split
 .rename_i e;rw[e,h.c];exact b
 .simp only;split
  .rename_i e;rw[e,h.i];exact .int _ _
  .exact .any _
def BF.kt{i:Int}(h:BF y c i a)(t:Nat)(v:Va)(b:uu y c t=some v):a.tmps.getD t undef=v:=by
 unfold uu at b;split at b
 .rename_i e;injection b with b;rw[e,h.y,b]
 .split at b
  .rename_i e;injection b with b;rw[e,h.c,b]
  .cases b
def BF.rel{i:Int}(h:BF y c i a)(b:aJ W X cn (.ref [.sl es]) c)(L:Nat->Va):Rel (EB 19 W X hX (uu y c)) (SB (xu es λt=>if t=3 then .int .i64 i else .any)) a W L:=
 IU hX h.defers h.size h.kt (h.env b)
def L9{c0:Code}{b:Z SG}(e:ax P 19 hs c0=some (.lZ b)){env:Nat->PV}{S':St}(j:b.length<=8)(m:∀g∈b,∀t,g.d=some t->t≠0/\t≠1){L:Nat->Va}(h:Rel (EB 19 W X hX (uu y c)) (SB env) a W L)
  (l:vm Ij 0 b (SB env)=some S') {Q:Exit->Act->Wo->Prop} (q:∀a' k r,Rel (EB 19 W X hX (uu y c)) S' a' k r->Q .normal a' k):c0.wpIn (WF none) 0 P Q a W:=by
 obtain⟨id,ops,rfl,hm,d⟩:=ID e;refine qa6 ?_;have s:=mS hm;refine AG (E:=EB 19 W X hX (uu y c)) Jz ops.toList b 0 (SB env) S' a W L hm h (by simp only[SB];omega) (λo i t f=>⟨d o i t f,?_⟩) l q
 have:=Dv (p:=λt=>t≠0/\t≠1) hm m o i t f
 show uu y c t=none;unfold uu;rw[Qg this.1,Qg this.2]
def BF.of{S':St}{b:Wo}{d:Nat->Va}{i:Int}{a':Act}(h:Rel (EB 19 W X hX (uu y c)) S' a' b d)(hi:S'.env 3= .int .i64 i):BF y c i a':=by refine⟨h.defers.none rfl,h.size.1,h.size.2 0 y rfl,h.size.2 1 c rfl,?_⟩;have:=h.env 3;rw[hi]at this;exact this.dE
def Tc(e:aJ W X cn (.ref [.sl es]) c):es.length<=maxLen:=by
 cases e with
 |ref _ ad vs d b h=>
  cases vs with
  |nil=>simp at d
  |cons v vs=>
   have f:=h 0 (.sl es) v t_ t_
   cases f with
   |sl _ _ _ _ _ _ _ _ _ g hm=>omega
   |slnil=>simp
def wrap_small{n:Int}(h: -1<=n)(b:n<=9223372036854775807):IntKind.i64.wrap n=n:=by rw[qbo];omega
def uH(b:Y Nat)(e:Z PV):PV:=(nr b e).getD .any
structure Dc (k:Nat) (nE:Option Nat) (es:List (List PV)):Prop where
 len:∀e∈es,e.length=k
 ld:∀e∈es,nr nE e=some (uH nE e)
 cl:∀e∈es,(uH nE e).aZ=true
def KL(P:Pr)(l:Nat)(i:Nat)(v:Va)(W:Wo)(R:Ending->Wo->Prop):Prop:=
 ∃(fn:FI) (tmps:Array Va) (b d:Code),(Instr.yield l #[.int .i64 i,v]).run P W= .ok (.round l fn tmps b d) W/\RoundIn (WF none) 0 P l fn tmps b d W R
def Ox{k:Nat}{H:Y Nat}{l:Nat}{m:Nat}(hin:Dc k H es)(hX:o3 W X)(hc:aJ W X cn (.ref [.sl es]) c){J0 J1:Wo->Prop}(hJ0:∀f,Fr none W f->J0 f)
  (hJ:∀f i,J1 f->Fr none f i->J1 i) {Jx:Wo->Prop} (hJx:∀f i,Jx f->Fr none f i->Jx i) (hG1:∀f,J1 f->GI f) (hGx:∀f,Jx f->GI f)
  (hr:∀(f:Wo) (e:Z PV) (v:Va),J0 f->es[m]?=some e->aJ f X cn (uH H e) v->KL P l m v f λen i=>(en= .returned (.bool true)/\J1 i)\/(en= .returned (.bool false)/\Jx i))
  {c0:Code} (hcc:ax P 19 hs c0=some (.lZ [⟨some 11,none,.jR (.tmp 0)⟩,⟨some 12,none,.jR (.tmp 3)⟩,⟨some 13,none,.load none (.tmp 1)⟩,⟨some 14,none,.jR (.tmp 3)⟩,⟨some 15,none,.mq k (.tmp 13) (.tmp 14)⟩,
    ⟨some 16,none,.load H (.tmp 15)⟩,⟨some 17,none,.lp (.tmp 11) [.tmp 12,.tmp 16]⟩,⟨some 18,none,.not (.tmp 17)⟩]))
  (hm:m<es.length) (hB:BF (.func (.yield l) #[] #[]) c m a) {Q:Exit->Act->Wo->Prop}
  (hQ:∀a' f b,BF (.func (.yield l) #[] #[]) c m a'->a'.tmps.getD 18 undef= .bool (!b)->(b=true->J1 f)->(b=false->Jx f)->Q .normal a' f):c0.wpIn (WF none) 0 P Q a W:=by
 obtain⟨id,ops,rfl,hmm,hlt⟩:=ID hcc;refine qa6 ?_
 let⟨B,l1,e1,g11,hm1⟩:=eW hmm
 obtain⟨o12,l2,rfl,g12,hm2⟩:=eW hm1;obtain⟨o13,l3,rfl,g13,hm3⟩:=eW hm2;obtain⟨o14,l4,rfl,g14,hm4⟩:=eW hm3;obtain⟨o15,l5,rfl,g15,hm5⟩:=eW hm4;obtain⟨o16,l6,rfl,g16,hm6⟩:=eW hm5;obtain⟨o17,l7,rfl,g17,hm7⟩:=eW hm6;obtain⟨o18,l8,rfl,g18,hm8⟩:=eW hm7;have:=Ck hm8;subst this;rw[e1]at hlt ⊢
 have plain:∀{o:Oper} {d:Y Nat} {s:bV},mN P hs ops o=some ⟨d,none,s⟩->o.guard=none/\o.dst=d/\xv P hs o=some s:=by
  intro o d s hg
  let⟨q1,q2,q3⟩:=CW hg
  rcases q3 with⟨q3,_⟩|⟨_,_,_,_,_,_,_,q⟩
  .exact⟨q3,q2.symm,q1⟩
  .cases q
 let⟨u1,u2,u3⟩:=plain g11
 have hmv:(B.op= .move (.tmp 0)\/B.op= .assign (.tmp 0)):=by
  unfold xv at u3;split at u3
  case h_1 x V=>simp only[Qi,Qd,Qb,bV.jR.injEq]at u3;obtain⟨z,hz,rfl⟩:=u3;rw[qy hz]at V;exact .inl V
  case h_2 x V=>simp only[Qi,Qd,Qb,bV.jR.injEq]at u3;obtain⟨z,hz,rfl⟩:=u3;rw[qy hz]at V;exact .inr V
  all_goals (exfalso)
  all_goals (repeat' (first|(cases u3;done)|split at u3|(simp only[Qi,Qd]at u3;obtain⟨_,_,u3⟩:=u3)|(obtain⟨_,_,u3⟩:=u3)))
 refine wpListIn_plain u1 λK hK=> ?_
 have hev:a.eval (.tmp 0)= .func (.yield l) #[] #[]:=hB.y
 have step1:∀{Q':Exit->Act->Wo->Prop},K (a.put (some 11) (.func (.yield l) #[] #[])) W->B.wpIn (WF none) 0 P a W K Q':=by
  intro Q' hk;unfold Oper.wpIn;rw[qaQ _ _ _ (ud u3)]
  have D:(execOp a.eval B).run P W= .ok (.value (.func (.yield l) #[] #[])) W:=by rcases hmv with V|V<;>simp[execOp,V,hev]
  rw[D];refine⟨λ_ _=>trivial,?_⟩
  show K (a.put B.dst _) W;rw[u2];exact hk
 refine step1 (hK _ _ ?_);have hsz:(a.put (some 11) (.func (.yield l) #[] #[])).tmps.size=19:=by simp[Act.put,hB.size]
 have hne:∀t,t≠11->(a.put (some 11) (.func (.yield l) #[] #[])).tmps.getD t undef=a.tmps.getD t undef:=λt j=>EI j
 have h11:(a.put (some 11) (.func (.yield l) #[] #[])).tmps.getD 11 undef= .func (.yield l) #[] #[]:=by simp[Act.put,Qy,qaF (show 11<a.tmps.size by rw[hB.size];omega)]
 have hrel:Rel (EB 19 W X hX (λt=>if t=11 then some (.func (.yield l) #[] #[])else uu (.func (.yield l) #[] #[]) c t)) (SB (xu es λt=>if t=3 then .int .i64 m else .any)) (a.put (some 11) (.func (.yield l) #[] #[])) W (λ_=>undef):=by
  refine IU hX hB.defers hsz (λt v I=> ?_) (λt=> ?_)
  .by_cases u:t=11
   .rw[Qc u]at I;injection I with I;rw[u,h11,I]
   .rw[Qg u]at I;rw[hne t u];exact hB.kt t v I
  .by_cases u:t=11
   .have:xu es (λt=>if t=3 then .int .i64 m else .any) t= .any:=by rw[u];rfl
    rw[this];exact .any _
   .rw[hne t u];exact hB.env hc t
 have helt:es[m]?=some es[m]:=Qt hm;have hek:=hin.len _ (qam hm);have hld:=hin.ld _ (qam hm);have s12:pz Ij 0 (SB (xu es λt=>if t=3 then .int .i64 m else .any)) ⟨some 12,none,.jR (.tmp 3)⟩=some ((SB (xu es λt=>if t=3 then .int .i64 m else .any)).bA (some 12) (.int .i64 m) none):=rfl
 generalize A:(SB (xu es λt=>if t=3 then .int .i64 m else .any)).bA (some 12) (.int .i64 m) none=S1 at s12
 have s13:pz Ij 1 S1 ⟨some 13,none,.load none (.tmp 1)⟩=some (S1.bA (some 13) (.sl es) none):=by subst A;rfl
 generalize F:S1.bA (some 13) (.sl es) none=S2 at s13;have s14:pz Ij 2 S2 ⟨some 14,none,.jR (.tmp 3)⟩=some (S2.bA (some 14) (.int .i64 m) none):=by subst F A;rfl
 generalize R:S2.bA (some 14) (.int .i64 m) none=S3 at s14;have e13:S3.env 13= .sl es:=by subst R F A;rfl
 have e14:S3.env 14= .int .i64 m:=by subst R F A;rfl
 have s15:pz Ij 3 S3 ⟨some 15,none,.mq k (.tmp 13) (.tmp 14)⟩=some (S3.bA (some 15) (.ref es[m]) none):=by simp only[pz,SG.wanted,exec,aQ.val,e13,e14];rw[Qc ⟨O,O⟩];simp[Int.toNat_natCast,helt,hek,Qp,Qn]
 generalize hS4:S3.bA (some 15) (.ref es[m]) none=S4 at s15;have e15:S4.env 15= .ref es[m]:=by subst hS4;rfl
 have s16:pz Ij 4 S4 ⟨some 16,none,.load H (.tmp 15)⟩=some (S4.bA (some 16) (uH H es[m]) none):=by simp[pz,SG.wanted,exec,aQ.val,e15,hld,Qn]
 generalize hS5:S4.bA (some 16) (uH H es[m]) none=S5 at s16;have f12:S5.env 12= .int .i64 m:=by subst hS5 hS4 R F A;rfl
 have f16:S5.env 16=uH H es[m]:=by subst hS5;rfl
 have f3:S5.env 3= .int .i64 m:=by subst hS5 hS4 R F A;rfl
 have D:vm Ij 0 [⟨some 12,none,.jR (.tmp 3)⟩,⟨some 13,none,.load none (.tmp 1)⟩,⟨some 14,none,.jR (.tmp 3)⟩,⟨some 15,none,.mq k (.tmp 13) (.tmp 14)⟩,⟨some 16,none,.load H (.tmp 15)⟩] (SB (xu es λt=>if t=3 then .int .i64 m else .any))=some S5:=by simp[vm,s12,s13,s14,s15,s16]
 have hmap:[o12,o13,o14,o15,o16].mapM (mN P hs ops)=some [⟨some 12,none,.jR (.tmp 3)⟩,⟨some 13,none,.load none (.tmp 1)⟩,⟨some 14,none,.jR (.tmp 3)⟩,⟨some 15,none,.mq k (.tmp 13) (.tmp 14)⟩,⟨some 16,none,.load H (.tmp 15)⟩]:=by simp[QH,List.mapM_nil,g12,g13,g14,g15,g16,Qi,QM,QO]
 show wpListIn (WF none) 0 P ops Q ([o12,o13,o14,o15,o16]++[o17,o18]) _ W;refine Jf (E:=EB 19 W X hX _) Jz _ _ 0 _ S5 _ W _ hmap hrel (by simp[SB]) (λo ho t j=>⟨hlt o (by simp[Qm]at ho ⊢;right;rcases ho with h|h|h|h|h|h<;>simp_all) t j,?_⟩) D (λa5 W5 L5 T=> ?_)
 .have:=Dv (p:=λt=>t≠0/\t≠1/\t≠11) hmap (by intro g hg t j;simp[Qm,qaN,qaU]at hg;rcases hg with rfl|rfl|rfl|rfl|rfl<;>(injection j with j;omega)) o ho t j
  show(if t=11 then _ else uu _ _ t)=none
  rw[Qg this.2.2];unfold uu;rw[Qg this.1,Qg this.2.1]
 have hfr5:Fr none W W5:=w9 T;have v11:a5.tmps.getD 11 undef= .func (.yield l) #[] #[]:=T.size.2 11 _ rfl;have v12:a5.tmps.getD 12 undef= .int .i64 m:=by have:=T.env 12;rw[f12]at this;exact this.dE
 have r16:aJ W5 X cn (uH H es[m]) (a5.tmps.getD 16 undef):=by have:=T.env 16;rw[f16]at this;exact this.aZ (hin.cl _ (qam hm)) (λb hb=> .inr hb)
 have G:BF (.func (.yield l) #[] #[]) c m a5:=⟨T.defers.none rfl,T.size.1,T.size.2 0 _ rfl,T.size.2 1 _ rfl,by have:=T.env 3;rw[f3]at this;exact this.dE⟩
 let⟨fn,tmps,assign,body,hy,M⟩:=hr W5 _ _ (hJ0 W5 hfr5) helt r16
 let⟨w1,w2,w3⟩:=plain g17
 let⟨gv,args,ts,hop,hgv,hargs⟩:=IA w3
 have hgv:=qy hgv;subst hgv
 let⟨x12,xs,ex,hx12,hxs⟩:=eW hargs
 obtain⟨x16,xs',rfl,hx16,hxs'⟩:=eW hxs;have:=Ck hxs';subst this;rw[qy hx12,qy hx16]at ex;have N:args=#[.tmp 12,.tmp 16]:=by rw[<-QZ (xs:=args),ex]
 refine wpListIn_plain w1 λK hK=> ?_
 unfold Oper.wpIn;rw[qaQ _ _ _ (ud w3)]
 have J:(execOp a5.eval o17).run P W5= .ok (.round l fn tmps assign body) W5:=by
  have q1:a5.eval (.tmp 11)= .func (.yield l) #[] #[]:=v11;simp[execOp,hop,resolve,q1,Deferred.ofValue,Qs,QP,QK,invoke,N];have q4:a5.tmps[12]?.getD undef= .int .i64 m:=by rw[<-Qy];exact v12
  simpa[Act.eval,q4]using hy
 rw[J];refine⟨λ_ _=>trivial,(λh=>by cases h),M.mono ?_⟩
 rintro en W6 hen
 have fin:∀b:Bool,en= .returned (.bool b)->(b=true->J1 W6)->(b=false->Jx W6)->K (a5.put o17.dst (.bool b)) W6:=by
  rintro b rfl hj1 hjx;refine hK _ _ ?_;rw[w2];have hsz6:(a5.put (some 17) (.bool b)).tmps.size=19:=by simp[Act.put,G.size]
  have hne6:∀t,t≠17->(a5.put (some 17) (.bool b)).tmps.getD t undef=a5.tmps.getD t undef:=λt j=>EI j
  have h17:(a5.put (some 17) (.bool b)).tmps.getD 17 undef= .bool b:=by simp[Act.put,Qy,qaF (show 17<a5.tmps.size by rw[G.size];omega)]
  have hgi:GI W6:=by
   cases b with
   |true=>exact hG1 _ (hj1 rfl)
   |false=>exact hGx _ (hjx rfl)
  have hrel6:Rel (EB 19 W6 (λ_=>False) (.nil hgi) (uu (.func (.yield l) #[] #[]) c)) (SB λt=>if t=17 then .bool b else if t=3 then .int .i64 m else .any) (a5.put (some 17) (.bool b)) W6 (λ_=>undef):=by
   refine IU _ G.defers hsz6 (λt v I=> ?_) (λt=> ?_)
   .by_cases u:t=17
    .subst u;cases I
    .rw[hne6 t u];exact G.kt t v I
   .split
    .rename_i u;rw[u,h17];exact .bool _
    .rename_i u;rw[hne6 t u];split
     .rename_i h3;rw[h3,G.i];exact .int _ _
     .exact .any _
  have r:[o18].mapM (mN P hs ops)=some [⟨some 18,none,.not (.tmp 17)⟩]:=by simp[QH,List.mapM_nil,g18,Qi,QM,QO]
  refine AG (E:=EB 19 W6 (λ_=>False) (.nil hgi) _) Jz _ _ 0 _ ((SB λt=>if t=17 then .bool b else if t=3 then .int .i64 m else .any).bA (some 18) (.bool !b) none) _ W6 _ r hrel6 (by simp[SB]) (λo ho t j=>⟨hlt o (by simp[Qm]at ho ⊢;simp_all) t j,?_⟩) rfl (λa7 W7 L7 h7=> ?_)
  .have:=Dv (p:=λt=>t≠0/\t≠1) r (by intro g hg t j;simp[Qm,qaN,qaU]at hg;subst hg;injection j with j;omega) o ho t j
   show uu _ _ t=none;unfold uu;rw[Qg this.1,Qg this.2]
  .have hfr7:=w9 h7;refine hQ a7 W7 b (BF.of h7 rfl) ?_ (λhb=>hJ _ _ (hj1 hb) hfr7) (λhb=>hJx _ _ (hjx hb) hfr7)
   have:=h7.env 18;have e18:((SB λt=>if t=17 then .bool b else if t=3 then .int .i64 m else .any).bA (some 18) (.bool !b) none).env 18= .bool !b:=rfl
   rw[e18]at this;exact this.iK
 rcases hen with⟨rfl,hj⟩|⟨rfl,hj⟩
 .exact fin true rfl (λ_=>hj) (λh=>by cases h)
 .exact fin false rfl (λh=>by cases h) (λ_=>hj)
def ML{f:FI}{k:Nat}{T:Y Nat}(hf:ep P f 19 (xw k T) [])(hin:Dc k T es){l:Nat}(J:Nat->(Nat->Prop)->Wo->Prop)(Jx:Wo->Prop)
  (p:∀i X W,J i X W->o3 W X/\aJ W X cn (.ref [.sl es]) c) (R:∀i X d h,J i X d->Fr none d h->J i X h) (hJx:∀d h,Jx d->Fr none d h->Jx h) (hGx:∀d,Jx d->GI d)
  (hr:∀(m:Nat) (X:Nat->Prop) (d:Wo) (e:Z PV) (v:Va),J (m+1) X d->es[m]?=some e->aJ d X cn (uH T e) v->KL P l m v d λen h=>(en= .returned (.bool true)/\∃X,J m X h)\/(en= .returned (.bool false)/\Jx h))
  (W:Wo) (V:J es.length X W):CallsIn (WF none) 0 P f #[.func (.yield l) #[] #[],c] W λen d=>(∃v,en= .returned v)/\((∃X,J 0 X d)\/Jx d):=by
 let⟨fn,hs,h1,h2,G,z,_⟩:=hf
 cases N:fn.body with
 |none=>rw[N]at G;cases G
 |some c0=>
 rw[N]at G;have G:ax P 19 hs c0=some (xw k T):=G
 have H:fn.results.toList=[]:=by
  cases hq:fn.results.toList with
  |nil=>rfl
  |cons r rs=>rw[hq]at z;cases r<;>simp[gQ]at z<;>first|(split at z<;>cases z)|(simp[Qh]at z;let⟨_,_,z⟩:=z;cases z)
 have j:∀(tm:Array Va) (W:Wo),(results fn tm).run P W= .ok (.tuple #[]) W:=by intro tm W;unfold results;rw[qbv,H];simp
 refine callsIn_of_wp (F:=WF none) (n:=0) h1 N trivial ?_;obtain⟨cA,cB,rfl,hA,hB⟩:=uL G;obtain⟨cL,rfl,hL⟩:=Eu hB;obtain⟨cR,rfl,hR⟩:=MG hL;obtain⟨cR1,cR2,rfl,hR1,hR2⟩:=uL hR;obtain⟨cT,cC,rfl,hT,hC⟩:=uL hR1;obtain⟨oc,cS,cX,rfl,hoc,hcS,hcX⟩:=GH hC;have:=GG hcS;subst this;have:=MH hcX;subst this;have:=qy hoc;subst this;obtain⟨cM,cN,rfl,hM,hN⟩:=uL hR2;obtain⟨cM2,rfl,hM2⟩:=Eu hM;obtain⟨cG,cH,rfl,hG,hH⟩:=uL hM2;obtain⟨od,cV,cK,rfl,hod,hcV,hcK⟩:=GH hH;have:=N7 hcV;subst this;have:=GG hcK;subst this;have:=qy hod;subst this;have I:=Tc (p _ _ _ V).2;simp[maxLen]at I
 have o:∀t,(#[Value.func (.yield l) #[] #[],c]++Array.replicate (fn.ntmps - (#[Value.func (.yield l) #[] #[],c]:Array Va).size) undef).getD t undef=if t=0 then .func (.yield l) #[] #[]else if t=1 then c else undef:=by
  intro t;rw[h2,Qy,qaz]
  match t with
  |0|1=>rfl
  |t+2=>simp only[List.size_toArray,QW,List.length_nil];rw[Qg O,Qg O,Qg O,qbn];split<;>rfl
 refine qay ?_
 have A:Rel (EB 19 W X (p _ _ _ V).1 (uu (.func (.yield l) #[] #[]) c)) (SB (xu es λ_=> .any)) {tmps:=#[Value.func (.yield l) #[] #[],c]++Array.replicate (fn.ntmps - (#[Value.func (.yield l) #[] #[],c]:Array Va).size) undef,defers:=[]} W (λ_=>undef):=by
  refine IU _ rfl (by simp[h2]) (λt v D=> ?_) (λt=> ?_)
  .simp only;rw[o t];unfold uu at D;split at D
   .rename_i e;rw[Qc e];injection D
   .rename_i e;rw[Qg e];split at D
    .rename_i e';rw[Qc e'];injection D
    .cases D
  .simp only;rw[o t];unfold xu;split
   .rename_i e;subst e;exact(p _ _ _ V).2
   .exact .any _
 have dA:∀g∈[(⟨some 4,none,.load none (.tmp 1)⟩:SG),⟨some 5,none,.len false (.tmp 4)⟩,⟨some 6,none,.bin .sub (.tmp 5) (.qP (.int .i64 1))⟩,⟨some 3,none,.jR (.tmp 6)⟩],∀t,g.d=some t->t≠0/\t≠1:=by intro g x t u;simp[Qm,qaN,qaU]at x;rcases x with rfl|rfl|rfl|rfl<;>(injection u with u;omega)
 refine L9 hA t_ dA A rfl λa1 W1 L1 r1=> ?_
 have hJ1:J es.length X W1:=R _ _ _ _ V (w9 r1)
 have b1:BF (.func (.yield l) #[] #[]) c ((es.length:Int) - 1) a1:=by refine BF.of r1 ?_;show PV.int .i64 (IntKind.i64.wrap ((es.length:Int) - 1))=_;rw[wrap_small O O]
 refine wpIn_block ?_;refine wpIn_loop_ghost (λn a W=>n<=es.length/\BF (.func (.yield l) #[] #[]) c ((n:Int) - 1) a/\∃X,J n X W) es.length ⟨Ql _,b1,X,hJ1⟩ ?_
 rintro n a W ⟨hn,N,X,hj⟩;refine qay (qay ?_)
 have dT:∀g∈[(⟨some 7,none,.jR (.tmp 3)⟩:SG),⟨some 8,none,.bin .geq (.tmp 7) (.qP (.int .i64 0))⟩],∀t,g.d=some t->t≠0/\t≠1:=by intro g x t u;simp[Qm,qaN,qaU]at x;rcases x with rfl|rfl<;>(injection u with u;omega)
 refine L9 hT t_ dT (N.rel (hX:=(p _ _ _ hj).1) (p _ _ _ hj).2 (λ_=>undef)) rfl λa2 W2 L2 r2=> ?_
 have s:J n X W2:=R _ _ _ _ hj (w9 r2);have b2:BF (.func (.yield l) #[] #[]) c ((n:Int) - 1) a2:=BF.of r2 rfl
 have t8:a2.eval (.tmp 8)= .bool (decide (0<=(n:Int) - 1)):=by have:=r2.env 8;exact(show aJ _ _ _ (.bool (decide ((0:Int)<=(n:Int) - 1))) _ from this).iK
 refine qa4 t8 ?_
 cases n with
 |zero=>
  rw[qae O];refine wpIn_exit ?_;simp[Exit.then,Exit.inBlock,Qp]
  exact⟨b2.defers,_,j _ _,⟨_,rfl⟩,.inl ⟨X,s⟩⟩
 |succ m=>
  rw[qad O];refine wpIn_skip ?_;have e1:((m+1:Nat):Int) - 1=(m:Int):=O;rw[e1]at b2;refine qay (wpIn_block (qay ?_));refine Ox (J0:=J (m+1) X) (J1:=λW=>∃X,J m X W) (Jx:=Jx) hin (p _ _ _ s).1 (p _ _ _ s).2 (λd hW'=>R _ _ _ _ s hW') (λ_ _ ⟨X',q1⟩ q2=>⟨X',R _ _ _ _ q1 q2⟩) hJx (λd ⟨X',q⟩=>(p _ _ _ q).1.gi) hGx (λd e v q1 q2 q3=>hr m X d e v q1 q2 q3) hG O b2 λa3 W3 b M t18 hj3 hx3=> ?_
  refine qa4 (t:= !b) t18 ?_
  cases b with
  |false=>refine wpIn_ret ?_;exact⟨M.defers,_,j _ _,⟨_,rfl⟩,.inr (hx3 rfl)⟩
  |true=>
   refine wpIn_skip ?_
   have dN:∀g∈[(⟨some 9,none,.jR (.tmp 3)⟩:SG),⟨some 10,none,.bin .sub (.tmp 9) (.qP (.int .i64 1))⟩,⟨some 3,none,.jR (.tmp 10)⟩],∀t,g.d=some t->t≠0/\t≠1:=by intro g x t u;simp[Qm,qaN,qaU]at x;rcases x with rfl|rfl|rfl<;>(injection u with u;omega)
   let⟨X',B⟩:=hj3 rfl
   refine L9 hN t_ dN (M.rel (hX:=(p _ _ _ B).1) (p _ _ _ B).2 (λ_=>undef)) rfl λa4 W4 L4 r4=> ?_
   refine⟨m,Q9 m,O,BF.of r4 ?_,X',R _ _ _ _ B (w9 r4)⟩;show PV.int .i64 (IntKind.i64.wrap ((m:Int) - 1))=_;rw[wrap_small O O]
end
end
section
open Go.RowKit
section
variable{P:Pr}{E:En}{S:St}{a:Act}{w:Wo}{L:Nat->Va}
def Rel.Dj(h:Rel E S a w L){w':Wo}{a':Act}{env':Nat->PV}(rd:Y Nat)(nd:Bool)(kt:Nat->Y Va)(wk:Wo)
  (l:∀(b:Nat) (o:Obj),w.heap[b]?=some o->CD o=true->w'.heap[b]?=some o) (D:∀t,aJ w (aI E S L) (S.gh L) (env' t) (a'.tmps.getD t undef))
  (A:Marks {E with rd:=rd,nd:=nd,kt:=kt,wk:=wk} a' w') (hs:a'.tmps.size=E.nt/\∀t v,kt t=some v->a'.tmps.getD t undef=v) (B:V1 {E with rd:=rd,nd:=nd,kt:=kt,wk:=wk} w'):
  Rel {E with rd:=rd,nd:=nd,kt:=kt,wk:=wk} {S with env:=env'} a' w' L:=by
 have f:∀(p:Addr) (v:Va),w.cell? p=some v->w'.heap[p.block]?=w.heap[p.block]?:=by
  intro p v d;unfold World.cell? at d
  cases i:w.heap[p.block]? with
  |none=>rw[i]at d;simp at d
  |some o=>refine l _ o i ?_;rw[i]at d;cases o<;>first|rfl|(simp at d)
 have j:bN w w' (aI E S L) (aI E S L):=⟨λp v d r=>⟨(World.cell?_of_block (f p v d)).trans d,r⟩,λb _ _ x r=>⟨l b _ x rfl,r⟩⟩
 refine⟨A,hs,λt=>(D t).mono j (Gh.le.refl _),λid u=> ?_,h.apart,h.fresh,B,h.sP,h.gy,h.an.1.trans ⟨λb o m z q=>⟨l b o m z,q⟩⟩,h.an.2.1,λb F=>(let⟨q1,⟨o,q2,q3,q4⟩,q5⟩:=h.an.2.2 b F;⟨q1,⟨o,q2,q3,l b o q4 q3⟩,q5⟩)⟩
 have i:=h.obj id u
 cases s:(S.H id).c.live with
 |false=>
  cases g:(S.H id).c with
  |dead=>trivial
  |box cs|row e k es=>rw[g]at s;cases s
 |true=>
  have:=iD.mono (w':=w') j (Gh.le.refl _) (λb x _=>by
   let⟨o,m,z⟩:=i.cells s x
   rw[m]
   exact l b o m (Lx z)) i
  cases g:(S.H id).c with
  |dead=>trivial
  |box cs|row e k es=>rw[g]at this;exact this
def Fr.putObj{rb:Y Nat}{w0:Wo}(h:Fr rb w0 w){l:Nat}(f:w0.heap.size<=l)(o:Obj):Fr rb w0 (w.putObj l o):=
 ⟨h.os,h.tape,h.output,by rw[World.putObj_size];exact h.size,λb e d=>by rw[World.putObj_heap_other O];exact h.block b e d,h.drawn⟩
def St.oN(S:St)(D:Z Nat):St:={S with env:=λt=>if t∈D then .any else S.env t}
def Rel.drop(h:Rel E S a w L)(D:Z Nat):Rel E (S.oN D) a w L:=
 ⟨h.defers,h.size,λt=>by
  show aJ _ _ _ (if t∈D then .any else S.env t) _
  split
  .exact .any _
  .exact h.env t,h.obj,h.apart,h.fresh,h.fr,h.sP,h.gy,h.an⟩
def R4{x:Wo}(h:vE x w){l:Nat}(f:x.heap.size<=l)(o:Obj):vE x (w.putObj l o):=
 ⟨by rw[World.putObj_size];exact h.size,λk p b d=>by
  have e:k<x.heap.size:=(QG.1 b).1;rw[World.putObj_heap_other O]
  exact h.same k p b d⟩
def CX{l:Nat}{o:Obj}(h:w.heap[l]?=some o)(g:CD o=false)(d:Obj):∀(b:Nat) (q:Obj),w.heap[b]?=some q->CD q=true->(w.putObj l d).heap[b]?=some q:=by
 intro b q e f
 have:b≠l:=by grind
 rw[World.putObj_heap_other this];exact e
def NU:Exit->Y Code
 | .ret=>some .ret
 | .exit i=>some (.exit i)
 | .goto l=>some (.goto l)
 |_=>none
def KM(I:St->Prop)(S:St):Prop:=∃S',(∀(E:En),(∀id,E.gy id=none)->∀(a:Act) (w:Wo) (L:Nat->Va),Rel E S a w L->∃b,Rel E S' a w b)/\I S'
def KM.of{I:St->Prop}{S:St}(h:I S):KM I S:=⟨S,λ_ _ _ _ L h=>⟨L,h⟩,h⟩
def Th(D:Z Nat)(I:St->Prop)(Q:Exit->St->Prop):Exit->St->Prop
 | .normal,T=>KM I (T.oN D)
 | .ret,T=>Q .ret (T.oN D)
 | .exit i,T=>Q (.exit i) (T.oN D)
 | .goto l,T=>Q (.goto l) (T.oN D)
 |_,_=>False
def Vz(b:Array Va)(d p1:Nat)(u v:Va):(#[d,p1].zip #[u,v]).foldl (λtmps x=>match x with|(t,a)=>tmps.setIfInBounds t a) b=(b.setIfInBounds d u).setIfInBounds p1 v:=by rw[<-Array.foldl_toList,Array.toList_zip];rfl
def WV{b:Array Va}{d p1 t:Nat}{u v:Va}(f:d<b.size)(e:p1<b.size):((b.setIfInBounds d u).setIfInBounds p1 v).getD t undef=if t=p1 then v else if t=d then u else b.getD t undef:=by
 simp[Qy]
 grind
def UM{nt:Nat}{tg p0 p1:Nat}{assign body:Code}{f:FI}{k:Nat}{nE:Y Nat}{es:Z (Z PV)}{Q:Exit->St->Prop}(hf:ep P f 19 (xw k nE) [])(hin:Dc k nE es)(hna:ql assign=true)(hnb:ql body=true)
  (hp0:p0<nt) (hp1:p1<nt) (_htg:tg∉gN (.rangeFunc (.tmp tg) #[p0,p1] assign body)) (I:Nat->St->Prop)
  (h0:KM (I es.length) (S.oN (gN (.rangeFunc (.tmp tg) #[p0,p1] assign body)))) (hI:∀i T,I i T->T.env tg= .aT f [.ref [.sl es]])
  (hround:∀m T e,I (m+1) T->es[m]?=some e->V P nt assign (Hr (V P nt body (Th (gN (.rangeFunc (.tmp tg) #[p0,p1] assign body)) (I m) Q)) (λ_ _=>False)) {T with env:=bd (bd T.env p0 (.int .i64 m)) p1 (uH nE e)})
  (hend:∀T,I 0 T->Q .normal T):V P nt (.rangeFunc (.tmp tg) #[p0,p1] assign body) Q S:=by
 intro E hE M a w L hrel;generalize hD:gN (.rangeFunc (.tmp tg) #[p0,p1] assign body)=D at*;have hk1:∀t∈D,E.kt t=none:=by rw[<-hD];exact M.1
 obtain⟨hrd,hnd,hz⟩:E.rd=none/\E.nd=false/\∀id,E.gy id=none:=by
  rcases M.2 with h|h
  .exact h
  .cases h
 have hDa:∀t∈gN assign,t∈D:=by rw[<-hD];intro t ht;simp only[gN,Qu];exact .inl (.inr ht)
 have hDb:∀t∈gN body,t∈D:=by rw[<-hD];intro t ht;simp only[gN,Qu];exact .inr ht
 have hD0:p0∈D:=by rw[<-hD];simp[gN]
 have hD1:p1∈D:=by rw[<-hD];simp[gN]
 have hclo:∀{i:Nat} {T:St} {w':Wo} {L':Nat->Va},I i T->Rel E T a w' L'->∃c,a.tmps.getD tg undef= .func (.func f) #[] #[c]/\aJ w' (aI E T L') cn (.ref [.sl es]) c:=by
  intro i T w' L' hi q;have:=q.env tg;rw[hI i T hi]at this
  let⟨vs,hv,hrv⟩:=this.oQ
  obtain⟨c,vs',rfl,hc,hr'⟩:=hrv.cons_inv;have:=hr'.lF;subst this;exact⟨c,hv,hc.closed rfl (λb B=>B)⟩
 let⟨S0,hw0,h0⟩:=h0
 let⟨L,hrel0⟩:=hw0 E hz a w L (hrel.drop D)
 let⟨c,hgv,hc0⟩:=hclo h0 hrel0
 rw[hrd];refine wpIn_rangeFunc ?_;intro fn _;obtain⟨rec,g⟩:∃rec:LoopState->Y Code->Loop,rec=λst pe=>{state:=st,pending:=pe,fn,tmps:=a.tmps,params:=#[p0,p1],assign,body,defers:=w.heap.size}:=⟨_,rfl⟩
 obtain⟨W1,x⟩:∃W1,(w.alloc (.deferred (some []))).alloc (.loop (rec .ready none))=W1:=⟨_,rfl⟩
 have hL1:W1.heap[w.heap.size+1]?=some (.loop (rec .ready none)):=by rw[<-x];have:=World.alloc_heap_new (w.alloc (.deferred (some []))) (.loop (rec .ready none));rwa [World.size_alloc]at this
 have hK1:W1.heap[w.heap.size]?=some (.deferred (some [])):=by rw[<-x];exact(Below.heap_alloc _ _ _ t_).trans (World.alloc_heap_new w _)
 let J:Nat->(Nat->Prop)->Wo->Prop:=λi X W=>∃T L',X=aI E T L'/\I i T/\Rel E T a W L'/\W.heap[w.heap.size+1]?=some (.loop (rec .ready none))/\W.heap[w.heap.size]?=some (.deferred (some []))
 let Jx:Wo->Prop:=λW=>∃A j T L',NU A=some j/\Q A T/\Rel E T a W L'/\W.heap[w.heap.size+1]?=some (.loop (rec .done (some j)))/\W.heap[w.heap.size]?=some (.deferred (some []))
 have grow:∀{T:St} {L':Nat->Va} {r s:Wo},Rel E T a r L'->Fr none r s->Rel E T a s L':=λh hf=>(h.grow hf.os hf.tape hf.output hf.size (λb B=>hf.block b B t_) hf.drawn).1
 have cO:∀{r s:Wo} {b:Nat} {o:Obj},Fr none r s->r.heap[b]?=some o->s.heap[b]?=some o:=λhf B=>by rw[hf.block _ (QG.1 B).1 t_];exact B
 have hE0:E.w0.heap.size<=w.heap.size:=hrel.fr.size;have hEk:E.wk.heap.size<=w.heap.size:=hrel.fr.ko.size
 have hW1s:∀(b:Nat),b<w.heap.size->W1.heap[b]?=w.heap[b]?:=by intro b B;rw[<-x];exact(Below.heap_alloc _ _ _ o_).trans (Below.heap_alloc _ _ _ B)
 have hrel1:Rel E S0 a W1 L:=(hrel0.grow (w':=W1) (by rw[<-x];rfl) (by rw[<-x];rfl) (by rw[<-x];rfl) (by rw[<-x];simp;omega) hW1s (by rw[<-x];exact DL.of (Ql _))).1
 have old:∀d∈a.defers,∃Do,d={target:= .collected Do,args:=#[]}/\E.w0.heap.size<=Do/\Do<w.heap.size:=by
  intro d hd
  let⟨Do,q1,q2,q3⟩:=hrel.defers.at_ d hd
  grind
 have hrounds:∀(m:Nat) (X:Nat->Prop) (r:Wo) (e:Z PV) (v:Va),J (m+1) X r->es[m]?=some e->aJ r X cn (uH nE e) v->KL P (w.heap.size+1) m v r λA s=>(A= .returned (.bool true)/\∃X,J m X s)\/(A= .returned (.bool false)/\Jx s):=by
  rintro m X r e v ⟨T,L',rfl,hi,q,H,M⟩ hem hrep;refine⟨fn,(a.tmps.setIfInBounds p0 (.int .i64 m)).setIfInBounds p1 v,assign,body,by rw[run_yield H (by rw[g];rfl)];simp only[g];rw[<-Vz],?_⟩
  refine roundIn_of_wpIn (F:=WF none) trivial ?_
  let E1:En:={E with rd:=some (w.heap.size+1),nd:=true,kt:=λt=>if t∈D then none else some (a.tmps.getD t undef),wk:=r}
  have hget:∀t,((a.tmps.setIfInBounds p0 (.int .i64 m)).setIfInBounds p1 v).getD t undef=if t=p1 then v else if t=p0 then .int .i64 m else a.tmps.getD t undef:=by intro t;exact WV (by rw[q.size.1,hE];exact hp0) (by rw[q.size.1,hE];exact hp1)
  have hrel2:Rel E1 {T with env:=bd (bd T.env p0 (.int .i64 m)) p1 (uH nE e)} {tmps:=(a.tmps.setIfInBounds p0 (.int .i64 m)).setIfInBounds p1 v,defers:=[]} r L':=by
   refine q.Dj (some (w.heap.size+1)) true _ r (λ_ _ B _=>B) (λt=> ?_) (Marks.nil rfl) ⟨by simp[Array.size_setIfInBounds];exact q.size.1,λt u hu=> ?_⟩ ⟨q.fr.toFr,vE.refl _⟩
   .simp only;rw[hget t];simp only[bd];split
    .exact hrep.mono (bN.of λ_ hn=>hn) (cn.le _)
    .split
     .exact .int _ _
     .exact q.env t
   .grind
  have hV:=hround m T e hi hem;have hw1:=hV E1 hE ⟨λt ht=>Qc (hDa t ht),.inr hna⟩ _ r L' hrel2
  refine Q6 hw1 ?_;rintro A a1 w1 ⟨S1,L1,G,hq1⟩
  cases A with
  |exit i|goto i|ret|panic ch|outgrown=>exact hq1.elim
  |normal=>
   have hl1:w1.heap[w.heap.size+1]?=some (.loop (rec .ready none)):=G.fr.ko.same _ _ H rfl;have hd1:a1.defers=[]:=G.defers.none rfl;refine⟨_,run_beginRound hl1 (by rw[g]),?_⟩
   generalize hw2:w1.putObj (w.heap.size+1) (.loop {rec .ready none with state:= .busy})=w2
   have hrec2:({rec .ready none with state:= .busy}:Loop)=rec .busy none:=by rw[g]
   rw[hrec2]at hw2;have hlt1:w.heap.size+1<w1.heap.size:=(QG.1 hl1).1;have hl2:w2.heap[w.heap.size+1]?=some (.loop (rec .busy none)):=by rw[<-hw2];exact World.putObj_heap_same hlt1
   have hrel3:Rel {E with rd:=some (w.heap.size+1),nd:=true,kt:=λt=>if t∈D then none else some (a.tmps.getD t undef),wk:=w2} S1 a1 w2 L1:=by
    refine G.Dj (some (w.heap.size+1)) true _ w2 (by rw[<-hw2];exact CX hl1 rfl _) (λt=>G.env t) (Marks.nil hd1) G.size ⟨?_,vE.refl _⟩
    rw[<-hw2];exact G.fr.toFr.putObj (by show E.w0.heap.size<=_;omega) _
   have hw3:=hq1 {E with rd:=some (w.heap.size+1),nd:=true,kt:=λt=>if t∈D then none else some (a.tmps.getD t undef),wk:=w2} hE ⟨λt ht=>Qc (hDb t ht),.inr hnb⟩ a1 w2 L1 hrel3
   refine Q6 hw3 ?_;rintro A a3 w3 ⟨S3,L3,hr3,hq3⟩;have hl3:w3.heap[w.heap.size+1]?=some (.loop (rec .busy none)):=hr3.fr.ko.same _ _ hl2 rfl;have hlt3:w.heap.size+1<w3.heap.size:=(QG.1 hl3).1
   have stay:∀(b:Nat) (o:Obj),b≠w.heap.size+1->r.heap[b]?=some o->PH o=false->∀z,(w3.putObj (w.heap.size+1) z).heap[b]?=some o:=by intro b o hne B ho z;rw[World.putObj_heap_other hne];refine hr3.fr.ko.same b o ?_ ho;rw[<-hw2,World.putObj_heap_other hne];exact G.fr.ko.same b o B ho
   have back:∀z,Rel E (S3.oN D) a (w3.putObj (w.heap.size+1) z) L3:=by
    intro z
    have:=hr3.Dj (w':=w3.putObj (w.heap.size+1) z) (a':=a) (env':=(S3.oN D).env) E.rd E.nd E.kt E.wk (CX hl3 rfl _) (λt=>by
      show aJ _ _ _ (if t∈D then .any else S3.env t) _
      split
      .exact .any _
      .rename_i hnt;have h4:=hr3.size.2 t (a.tmps.getD t undef) (Qg hnt);rw[<-h4];exact hr3.env t) ⟨q.defers.none,q.defers.nodup,λd hd=>by
      let⟨Do,q1,q2,q3⟩:=q.defers.at_ d hd
      let⟨Do',q4,_,q6⟩:=old d hd
      have:Do=Do':=by rw[q1]at q4;injection q4 with q4;injection q4
      subst this
      exact⟨Do,q1,q2,stay Do _ O q3 rfl _⟩⟩ q.size ⟨hr3.fr.toFr.putObj (by show E.w0.heap.size<=_;omega) _,⟨by rw[World.putObj_size];show E.wk.heap.size<=_;omega,λb o B ho=>stay b o (by have hb':b<E.wk.heap.size:=(QG.1 B).1;omega) (q.fr.ko.same b o B ho) ho _⟩⟩
    exact this
   have hk3:∀z,(w3.putObj (w.heap.size+1) z).heap[w.heap.size]?=some (.deferred (some [])):=λz=>stay _ _ O M rfl z
   have leave:∀j,NU A=some j->Q A (S3.oN D)->∃v w',(Instr.endRound (w.heap.size+1) (some j)).run P w3= .ok v w'/\((Ending.returned v= .returned (.bool true)/\∃X,J m X w')\/(Ending.returned v= .returned (.bool false)/\Jx w')):=by intro j hj hq;refine⟨_,_,run_endRound (some j) hl3,.inr ⟨rfl,A,j,S3.oN D,L3,hj,hq,back _,?_,hk3 _⟩⟩;rw[World.putObj_heap_same hlt3,g];rfl
   cases A with
   |normal=>
    let⟨S5,hw5,hi5⟩:=hq3
    obtain⟨L5,hr5⟩:=hw5 E hz a _ L3 (back _);refine⟨_,_,run_endRound none hl3,.inl ⟨rfl,_,S5,L5,rfl,hi5,hr5,?_,hk3 _⟩⟩;rw[World.putObj_heap_same hlt3,g];rfl
   |ret|exit i|goto i=>exact leave _ rfl hq3
   |panic ch|outgrown=>exact hq3.elim
 have hcalls:=ML (P:=P) (c:=c) (l:=w.heap.size+1) hf hin J Jx
  (λi X W ⟨T,L',hX,hi,q,_,_⟩=>by
   subst hX
   let⟨c',h1,h2⟩:=hclo hi q
   rw[hgv]at h1;injection h1 with _ _ h1
   have:c'=c:=by have:=QL (λa:Array Va=>a.toList) h1;simpa using this.symm
   subst this
   exact⟨q.Le λb B=>B,h2⟩)
  (λi X r s ⟨T,L',hX,hi,q,H,M⟩ N=>⟨T,L',hX,hi,grow q N,cO N H,cO N M⟩)
  (λr s ⟨A,j,T,L',h1,h2,q,H,M⟩ N=>⟨A,j,T,L',h1,h2,grow q N,cO N H,cO N M⟩) (λr ⟨A,j,T,L',h1,h2,q,H,M⟩=>q.gi)
  hrounds W1 (X:=aI E S0 L) ⟨S0,L,rfl,h0,hrel1,hL1,hK1⟩
 refine⟨w.heap.size+1,[{target:= .collected w.heap.size,args:=#[]}],W1,{target:= .fn (.func f) #[c],args:=#[.func (.yield (w.heap.size+1)) #[] #[]]},W1,f,#[.func (.yield (w.heap.size+1)) #[] #[],c],W1,?_,?_,λ_ _=>trivial,?_,(λh=>by cases h),hcalls.mono ?_⟩
 .rw[<-x,g];exact run_enterLoop_outer _ _ _ _ _
 .have:a.eval (.tmp tg)= .func (.func f) #[] #[c]:=hgv
  have h2:(#[]++#[Operand.const (Value.func (Fn.yield (w.heap.size+1)) #[] #[])].map a.eval:Array Va)=#[.func (.yield (w.heap.size+1)) #[] #[]]:=by rw[Array.empty_append];simp[Act.eval]
  simp only[resolve,this,Deferred.ofValue];rw[h2];rfl
 .have hen:Enters P f:=hf.enters;simp[invoke];exact hY hen _
 .rintro A r ⟨⟨v,rfl⟩,hW'⟩
  have marks:∀{T:St} {L':Nat->Va} (z:Obj),Rel E T a r L'->r.heap[w.heap.size+1]?=some z->CD z=false->r.heap[w.heap.size]?=some (.deferred (some []))->∀o'',Rel E T {a with defers:=[{target:= .collected w.heap.size,args:=#[]}]++a.defers} (r.putObj (w.heap.size+1) o'') L':=by
   intro T L' z q H ho M o'';refine q.Dj (env':=T.env) E.rd E.nd E.kt E.wk (CX H ho _) (λt=>q.env t) ⟨(λe=>by rw[hnd]at e;cases e),?_,λd hd=> ?_⟩ q.size ⟨q.fr.toFr.putObj O _,R4 q.fr.ko O _⟩
   .rw[List.singleton_append,List.nodup_cons];refine⟨λhmem=> ?_,q.defers.nodup⟩
    grind
   .rcases Qu.1 hd with hd|hd
    .rw[qag.1 hd];exact⟨_,rfl,hE0,by rw[World.putObj_heap_other O];exact M⟩
    .let⟨Do,q1,q2,q3⟩:=q.defers.at_ d hd
     let⟨Do',q4,_,q6⟩:=old d hd
     have:Do=Do':=by rw[q1]at q4;injection q4 with q4;injection q4
     subst this;exact⟨Do,q1,q2,by rw[World.putObj_heap_other O];exact q3⟩
  rcases hW' with⟨X,T,L',_,hi,q,H,M⟩|⟨A,j,T,L',hj,hq,q,H,M⟩
  .have R:=run_endLoop (P:=P) H (by rw[g];intro e;cases e)
   exact⟨none,_,by rw[R,g],T,L',marks _ q H rfl M _,hend T hi⟩
  .have R:=run_endLoop (P:=P) H (by rw[g];intro e;cases e)
   obtain⟨p,z,hp,hrun⟩:∃p z,p=some j/\(Instr.endLoop (w.heap.size+1)).run P r= .ok p (r.putObj (w.heap.size+1) z):=⟨_,_,by rw[g],R⟩
   subst hp;have hfin:=marks _ q H rfl M z;refine⟨some j,_,hrun,?_⟩
   cases A with
   |ret=>cases hj;exact wpIn_ret ⟨T,L',hfin,hq⟩
   |exit i=>cases hj;exact wpIn_exit ⟨T,L',hfin,hq⟩
   |goto i=>cases hj;exact wpIn_goto ⟨T,L',hfin,hq⟩
   |normal|panic ch|outgrown=>cases hj
def SC.jb:SC->Z Nat
 | .lZ gs| .jl _ gs=>gs.filterMap (·.d)
 | .seq x y| .cond _ x y=>x.jb++y.jb
 | .block _ x| .loop x=>x.jb
 | .zA _ ps x y=>ps++x.jb++y.jb
 |_=>[]
def HN{hs:Z Nat}{ops:Array Oper}:∀(l:Z Oper) (b:Z SG),l.mapM (mN P hs ops)=some b->l.filterMap (·.dst)=b.filterMap (·.d)
 |[],b,h=>by simp at h;subst h;rfl
 |o::l,b,h=>by simp[QH,Qi,Qd,QO,Qb]at h;obtain⟨g,f,e,d,rfl⟩:=h;simp[List.filterMap_cons,(CW f).2.1,HN l e d]
def kZ{nt:Nat}{hs:Z Nat}:∀(c:Code) (b:SC),ax P nt hs c=some b->gN c=b.jb
 | .skip,b,h| .exit _,b,h| .ret,b,h=>by simp[ax]at h;cases h;rfl
 | .region _ ops false,b,h=>by
  simp[ax]at h;split at h
  .rename_i j e;split at h
   .cases h;exact HN _ _ e
   .cases h
  .cases h
 | .region _ ops true,b,h=>by
  simp[ax]at h;split at h
  .rename_i j e;split at h
   .split at h
    .cases h;exact HN _ _ e
    .cases h
   .cases h
  .cases h
 | .seq x y,b,h=>by
  simp[ax]at h;split at h
  .rename_i d f;cases h;simp[gN,SC.jb,kZ x _ d,kZ y _ f]
  .cases h
 | .cond c x y,b,h=>by
  simp[ax]at h;split at h
  .rename_i _ d f;cases h;simp[gN,SC.jb,kZ x _ d,kZ y _ f]
  .cases h
 | .block _ x,b,h=>by simp[ax,Qh]at h;obtain⟨i,d,rfl⟩:=h;simp[gN,SC.jb,kZ x _ d]
 | .loop x,b,h=>by simp[ax,Qh]at h;obtain⟨i,d,rfl⟩:=h;simp[gN,SC.jb,kZ x _ d]
 | .rangeFunc g ps x y,b,h=>by
  simp[ax]at h;split at h
  .rename_i _ d f;split at h
   .cases h;simp[gN,SC.jb,kZ x _ d,kZ y _ f]
   .cases h
  .cases h
 | .goto _,b,h| .scope _,b,h| .label _,b,h| .refuse _,b,h=>by simp only[ax]at h;cases h
def SV{nt:Nat}{tg q p1:Nat}{x y:SC}{f:FI}{k:Nat}{z:Y Nat}{es:Z (Z PV)}{Q:Exit->St->Prop}(R:ep P f 19 (xw k z) [])(F:Dc k z es)
  (r:tg∉SC.jb (.zA (.tmp tg) [q,p1] x y)) (I:Nat->St->Prop)
  (J:KM (I es.length) (S.oN (SC.jb (.zA (.tmp tg) [q,p1] x y)))) (hI:∀i T,I i T->T.env tg= .aT f [.ref [.sl es]])
  (h:∀m T e,I (m+1) T->es[m]?=some e->VS P nt x (Hr (VS P nt y (Th (SC.jb (.zA (.tmp tg) [q,p1] x y)) (I m) Q)) (λ_ _=>False)) {T with env:=bd (bd T.env q (.int .i64 m)) p1 (uH z e)})
  (u:∀T,I 0 T->Q .normal T):VS P nt (.zA (.tmp tg) [q,p1] x y) Q S:=by
 intro c hs b;have o:=kZ c _ b
 cases c with
 |rangeFunc g ps assign body=>
  simp only[ax]at b;split at b
  .rename_i g' x' y' j N M;split at b
   .rename_i l;injection b with b
    injection b with e1 e2 e3 e4
    subst e1 e3 e4;simp only[Qa]at l
    let⟨⟨D,B⟩,p⟩:=l
    have s:ps=#[q,p1]:=by grind
    subst s
    have G:g= .tmp tg:=by
     cases g with
     |tmp t=>simp only[aM]at j;injection j with j;injection j with j;rw[j]
     |const v=>simp only[aM,Qh]at j;obtain⟨_,_,j⟩:=j;cases j
     |global g|func f=>simp[aM]at j
    subst G;rw[<-o]at J h r;simp[QA,List.all_nil,QV,Qa,QB]at p;refine UM R F D B p.1 p.2 r I J hI (λm T e hi V=> ?_) u
    refine(h m T e hi V assign hs N).mono ?_;intro en A H
    cases en with
    |normal=>exact H body hs M
    |exit i|goto i|ret|panic ch|outgrown=>exact H
   .cases b
  .cases b
 |region id ops d=>cases d<;>simp[ax]at b<;>(try split at b)<;>(try split at b)<;>(try split at b)<;>cases b
 |seq x y|cond c x y=>simp[ax]at b;split at b<;>cases b
 |block id c|loop c=>simp only[ax,Qh]at b;obtain⟨_,_,b⟩:=b;cases b
 |_=>simp[ax]at b<;>cases b
end
end
section
 def VW{α:Type}(dD:α->Z PV)(e:α->Prop)(b:α->PV):Model:=
 {recv:=false,pos:=0,fresh:=false,m:=λ_ d=>open Classical in if h:∃x,d=dD x/\e x then some (b (Classical.choose h),[])else none,rk:= .no,ro:=false,rm:=λ_ _=>none}
def NQ{α:Type}{dD:α->Z PV}{d:α->Prop}{b:α->PV}:(VW dD d b).fresh=false:=rfl
def OJ{α:Type}{dD:α->Z PV}{d:α->Prop}{b:α->PV}:(VW dD d b).recv=false:=rfl
@[simp] def VH {α:Type} (f:Nat->α) (i:Nat) (x:α) (j:Nat):bd f i x j=if j=i then x else f j:=rfl
@[simp] def V4 (g:FI) (m:Model) (l:Z (FI×Model)) (f:FI):tab ((g,m)::l) f=if f=g then some m else tab l f:=rfl
attribute [simp] ev vm pz SG.wanted exec St.bA aQ.val Xh cr gL Hr Ou tX Ah nq qh w7 fz nr lJ ob PV.cells PV.one PV.closed eF Dw C2 GM ig PV.nO PV.plain PV.kv PV.aZ PV.oP gM
 Ht dL og pn Ad eN dx qx Ab OJ NQ JC PV.iN
section
variable(n:Nat)
@[simp] def VR:PV.under n .any=true:=rfl
@[simp] def UT:PV.under n .undef=true:=rfl
@[simp] def VO (k:IntKind) (i:Int):PV.under n (.int k i)=true:=rfl
@[simp] def U2 (b:Bool):PV.under n (.bool b)=true:=rfl
@[simp] def UU:PV.under n .dI=true:=rfl
@[simp] def VJ (s:C):PV.under n (.str s)=true:=rfl
@[simp] def UZ:PV.under n .fF=true:=rfl
@[simp] def UY:PV.under n .cu=true:=rfl
@[simp] def VL (cs:Z PV):PV.under n (.ref cs)=true:=rfl
@[simp] def V3 (es:Z (Z PV)):PV.under n (.sl es)=true:=rfl
@[simp] def VN (i v:Nat):PV.under n (.own i v)=decide (i<n):=rfl
@[simp] def VM (i v o:Nat):PV.under n (.ptr i v o)=decide (i<n):=rfl
@[simp] def U0 (i v k j o:Nat):PV.under n (.cp i v k j o)=decide (i<n):=rfl
@[simp] def UX (i v k j o:Nat):PV.under n (.view i v k j o)=decide (i<n):=rfl
@[simp] def VT (cs:Z PV):PV.under n (.agg cs)=cs.all (PV.iN n):=rfl
@[simp] def VI (cs:Z PV):PV.under n (.cg cs)=cs.all (PV.iN n):=rfl
@[simp] def VP (f:FI) (cs:Z PV):PV.under n (.aT f cs)=cs.all (PV.iN n):=rfl
@[simp] def U1:ji.under n .dead=true:=rfl
@[simp] def VQ (cs:Z PV):ji.under n (.box cs)=cs.all (PV.under n):=rfl
@[simp] def VK (e k:Nat) (es:Z (Z PV)):ji.under n (.row e k es)=es.all λu=>u.all (PV.under n):=rfl
end
def i64_in{n:Int}(h: -9223372036854775808<=n)(b:n<=9223372036854775807):IntKind.i64.wrap n=n:=by rw[qbo];omega
end
section
open Go.RowKit
section
variable{P:Pr}{S:St}{nt:Nat}{Q:Exit->St->Prop}{E:En}{a:Act}{w:Wo}{L:Nat->Va}
def Rel.Tg(h:Rel E S a w L){id:Nat}(d:id<S.N)(e k:Nat):
  Rel E {S with H:=bd S.H id ⟨(S.H id).ab+1,.row e k []⟩} a w (bd L id (.slice none 0 0)):=
 (h.nM (w':=w) d ⟨(S.H id).ab+1,.row e k []⟩ (.slice none 0 0) (.inr (Q9 _)) rfl rfl rfl (Ql _) (λ_ _ _=>rfl)
  (λb _ g=>by simp[bp]at g) (λ_ _=>⟨[],⟨t_,.inl ⟨rfl,rfl⟩⟩,t_,by exact⟨rfl,λi y v f=>by simp at f⟩⟩)).1
def Tn{S:St}{id:Nat}(b:id<S.N)(e k:Nat){w:Wo}{M:Nat->Prop}{v:Va}(h:v= .slice none 0 0):
  aJ w M (St.gh {S with H:=bd S.H id ⟨(S.H id).ab+1,.row e k []⟩} (bd L id (.slice none 0 0))) (.own id ((S.H id).ab+1)) v:=by
 subst h;exact .own _ _ _ _ _ b (by simp[St.gh]) (λ_=>by simp[St.gh])
end
end
section
structure TU where
 Ty:Type
 PT:DecidableEq Ty
 den:Ty->Type
 pv:(t:Ty)->den t->List PV
 size:Ty->Nat
 agg:Ty->Bool
 plain:Ty->Bool
inductive KV (U:TU) where
 |any
 |undef
 |int (k:IntKind) (n:Int)
 |bool (b:Bool)
 |dI
 |str (s:ByteArray)
 |fF
 |cu
 |aT (f:FuncId) (caps:List (KV U))
 |fe (f:FuncId) (first:List (KV U))
 |agg (cs:List (KV U))
 |cg (cs:List (KV U))
 |ptr (id ab off:Nat)
 |ref (cs:List (KV U))
 |sl (T:U.Ty) (xs:List (U.den T))
 |own (id ab:Nat)
 |cp (id ab k i off:Nat)
 |view (id ab k lo n:Nat)
 |gm (A B:U.Ty) (xs:List (U.den A×U.den B))
 |jc (b:Bool)
 |fH (T:TypeId) (x:KV U)
 |Ka (Ti Ts:TypeId) (b:Bool) (n:Int) (s:ByteArray)
def cQ{U:TU}(T:U.Ty)(v:U.den T):PV:=
 match U.agg T with
 |true=> .agg (U.pv T v)
 |false=>(U.pv T v).headD .any
section
variable{U:TU}
mutual
def KV.pv:KV U->PV
 | .any=> .any
 | .undef=> .undef
 | .int k n=> .int k n
 | .bool b=> .bool b
 | .dI=> .dI
 | .str s=> .str s
 | .fF=> .fF
 | .cu=> .cu
 | .aT f cs=> .aT f (KV.ye cs)
 | .fe f cs=> .fe f (KV.ye cs)
 | .agg cs=> .agg (KV.ye cs)
 | .cg cs=> .cg (KV.ye cs)
 | .ptr id ab off=> .ptr id ab off
 | .ref cs=> .ref (KV.ye cs)
 | .sl T xs=> .sl (xs.map (U.pv T))
 | .own id ab=> .own id ab
 | .cp id ab k i off=> .cp id ab k i off
 | .view id ab k lo n=> .view id ab k lo n
 | .gm A B xs=> .gm (xs.map λp=>cQ A p.1) (xs.map λp=>cQ B p.2)
 | .jc b=> .jc b
 | .fH T x=> .fH T (KV.pv x)
 | .Ka e d b n s=> .fH (cond b d e) (cond b (.str s) (.int .i64 n))
def KV.ye:Z (KV U)->Z PV
 |[]=>[]
 |x::l=>KV.pv x::KV.ye l
end
theorem KV.bR:∀(l:Z (KV U)),KV.ye l=l.map KV.pv
 |[]=>by simp[KV.ye]
 |x::l=>by simp[KV.ye,KV.bR l]
inductive cj (U:TU) where
 |dead
 |box (cs:List (KV U))
 |row (e k:Nat) (T:U.Ty) (xs:List (U.den T))
 |raw (e k:Nat) (es:List (List (KV U)))
structure bu (U:TU) where
 ab:Nat
 c:cj U
structure aw (U:TU) where
 env:Nat->KV U
 H:Nat->bu U
 N:Nat
def cj.pv:cj U->ji
 | .dead=> .dead
 | .box cs=> .box (cs.map KV.pv)
 | .row e k T xs=> .row e k (xs.map (U.pv T))
 | .raw e k es=> .row e k (es.map λc=>c.map KV.pv)
def bu.pv(o:bu U):dg:=⟨o.ab,o.c.pv⟩
def aw.st(S:aw U):St:=⟨λt=>(S.env t).pv,λid=>(S.H id).pv,S.N⟩
def dj{α:Type}(f:Nat->α)(i:Nat)(x:α)(j:Nat):α:=
 match Nat.beq j i with
 |true=>x
 |false=>f j
theorem bT{α:Type}(f:Nat->α)(i:Nat)(x:α):dj f i x=bd f i x:=by
 funext j
 unfold dj bd;split
 .rename_i h;rw[Qc (Qf h)]
 .rename_i h;rw[Qg (qaA h)]
def aw.bA(S:aw U)(d:Y Nat)(x:KV U)(wr:Y (Nat×bu U)):aw U:=
 match d with
 |none=>(match wr with
  |none=>{env:=S.env,H:=S.H,N:=S.N}
  |some p=>{env:=S.env,H:=dj S.H p.1 p.2,N:=S.N})
 |some d=>(match wr with
  |none=>{env:=dj S.env d x,H:=S.H,N:=S.N}
  |some p=>{env:=dj S.env d x,H:=dj S.H p.1 p.2,N:=S.N})
def aw.xz(S:aw U)(d:Y Nat)(x:KV U)(wr:Y (Nat×bu U)):S.bA d x wr=
 {env:=match d with|some d=>dj S.env d x|none=>S.env,H:=match wr with|some (id,o)=>dj S.H id o|none=>S.H,N:=S.N}:=by cases d<;>cases wr<;>rfl
def eZ(p:Nat×bu U):Nat×dg:=(p.1,p.2.pv)
def kg{α β:Type}(g:α->β)(f:Nat->α)(i:Nat)(x:α):(λj=>g (bd f i x j))=bd (λj=>g (f j)) i (g x):=by
 funext j
 unfold bd;split<;>rfl
def wX(S:aw U)(d:Y Nat)(x:KV U)(wr:Y (Nat×bu U)):(S.bA d x wr).st=S.st.bA d x.pv (wr.map eZ):=by
 rw[aw.xz];unfold St.bA aw.st;congr 1
 .cases d with
  |none=>rfl
  |some d=>simp[bT];exact kg _ _ _ _
 .cases wr with
  |none=>rfl
  |some p=>let⟨i,o⟩:=p;simp[bT,Qn,eZ];exact kg _ _ _ _
abbrev Lk(U:TU):=Nat->Nat->(T:U.Ty)->Y (Z (U.den T))
def uf{U:TU}(b T:U.Ty)(xs:Z (U.den b)):Y (Z (U.den T)):=
 match U.PT b T with
 |isTrue h=>some (h▸xs)
 |isFalse _=>none
def jf{b T:U.Ty}{xs:Z (U.den b)}{d:Z (U.den T)}(h:uf b T xs=some d):∃e:b=T,d=e▸xs:=by
 unfold uf at h;split at h
 .grind
 .cases h
def aw.lk(S:aw U):Lk U:=λid ab T=>
 match Nat.beq (S.H id).ab ab with
 |true=>match(S.H id).c with
  | .row _ _ b xs=>uf b T xs
  |_=>none
 |false=>none
def lE:Lk U:=λ_ _ _=>none
def OW(k:IntKind):KV U->Y Int
 | .int b n=>if b=k then some n else none
 |_=>none
def CV:KV U->Y Bool
 | .bool b=>some b
 |_=>none
def OV:KV U->Y C
 | .str s=>some s
 |_=>none
def Kd(lk:Lk U)(T:U.Ty):KV U->Y (Z (U.den T))
 | .cu=>some []
 | .sl b xs=>uf b T xs
 | .own id ab=>lk id ab T
 |_=>none
inductive gH (lk:Lk U):KV U->PV->Prop where
 |int (k:IntKind) (n:Int):gH lk (.int k n) (.int k n)
 |bool (b:Bool):gH lk (.bool b) (.bool b)
 |str (s:ByteArray):gH lk (.str s) (.str s)
 |cu:gH lk .cu (.sl [])
 |sl (T:U.Ty) (xs:List (U.den T)):gH lk (.sl T xs) (.sl (xs.map (U.pv T)))
 |own (id ab:Nat) (T:U.Ty) (xs:List (U.den T)) (h:lk id ab T=some xs):gH lk (.own id ab) (.sl (xs.map (U.pv T)))
 |gm (A B:U.Ty) (xs:List (U.den A×U.den B)):gH lk (.gm A B xs) (.gm (xs.map λp=>cQ A p.1) (xs.map λp=>cQ B p.2))
 |jc (b:Bool):gH lk (.jc b) (.jc b)
 |fH (T:TypeId) (x:KV U):gH lk (.fH T x) (.fH T x.pv)
 |Ka (Ti Ts:TypeId) (b:Bool) (n:Int) (s:ByteArray):gH lk (.Ka Ti Ts b n s) (.fH (cond b Ts Ti) (cond b (.str s) (.int .i64 n)))
def Sv{lk:Lk U}{k:IntKind}{x:KV U}{n:Int}(h:OW k x=some n):gH lk x (.int k n):=by
 unfold OW at h;split at h
 .split at h
  .rename_i e;injection h with h;subst h e;exact .int _ _
  .cases h
 .cases h
def Sx{lk:Lk U}{x:KV U}{b:Bool}(h:CV x=some b):gH lk x (.bool b):=by
 unfold CV at h;split at h
 .cases h;exact .bool _
 .cases h
def Ss{lk:Lk U}{x:KV U}{s:C}(h:OV x=some s):gH lk x (.str s):=by
 unfold OV at h;split at h
 .cases h;exact .str _
 .cases h
def Su{lk:Lk U}{T:U.Ty}{x:KV U}{xs:Z (U.den T)}(h:Kd lk T x=some xs):gH lk x (.sl (xs.map (U.pv T))):=by
 unfold Kd at h;split at h
 .cases h;exact .cu
 .obtain⟨e,rfl⟩:=jf h;subst e;exact .sl _ _
 .exact .own _ _ _ _ h
 .cases h
def PV.ea:PV->Bool
 | .int ..| .bool _| .str _| .sl _| .gm ..| .jc _| .fH ..=>true
 |_=>false
inductive eC (lk:Lk U):List (KV U)->List PV->Prop where
 |nil:eC lk [] []
 |cons {x:KV U} {y:PV} {xs:List (KV U)} {ys:List PV} (h:gH lk x y) (t:eC lk xs ys):eC lk (x::xs) (y::ys)
structure TK (U:TU) where
 dD:(t:U.Ty)->U.den t->List (KV U)
 dec:(t:U.Ty)->Lk U->List (KV U)->Option (U.den t)
 Jd:Nat->Option U.Ty
 lK:∀t v,(dD t v).map KV.pv=U.pv t v
 iR:∀t lk cs v,dec t lk cs=some v->eC lk cs (U.pv t v)
 len:∀t v,(U.pv t v).length=U.size t
 ea:∀t v y,y∈U.pv t v->y.ea=true
 one:∀t,U.agg t=false->U.size t=1
 plain:∀t,U.plain t=true->∀v y,y∈U.pv t v->y.plain=true
 JF:U.Ty->Option (IntKind×IntKind)
 Hy:∀t k l,JF t=some (k,l)->U.agg t=true/\∀v,∃a b,dD t v=[.int k a,.int l b]
variable(K:TK U)
def tf(T:U.Ty)(v:U.den T):KV U:=
 match U.agg T with
 |true=> .agg (K.dD T v)
 |false=>(K.dD T v).headD .any
def yc(lk:Lk U)(T:U.Ty)(x:KV U):Y (U.den T):=
 match U.agg T with
 |true=>(match x with| .agg cs=>K.dec T lk cs|_=>none)
 |false=>K.dec T lk [x]
def wM(T:U.Ty)(v:U.den T):(tf K T v).pv=cQ T v:=by
 unfold tf cQ;split
 .simp[KV.pv,KV.bR,K.lK]
 .rename_i h;have d:=K.len T v;rw[K.one T h]at d;have b:=K.lK T v
  cases he:K.dD T v with
  |nil=>rw[he]at b;simp at b;rw[b]at d;simp at d
  |cons x l=>rw[he]at b;rw[<-b];rfl
def PV.bJ:PV->Bool
 | .int ..| .bool _| .str _| .fF| .cu| .any| .jc _| .aT _ []=>true
 |_=>false
def KV.Bx:PV->KV U
 | .int k n=> .int k n
 | .bool b=> .bool b
 | .str s=> .str s
 | .fF=> .fF
 | .cu=> .cu
 | .jc b=> .jc b
 | .aT f []=> .aT f []
 |_=> .any
def aQ.bJ:aQ->Bool
 | .tmp _=>true
 | .qP x=>x.bJ
def aQ.bP(S:aw U):aQ->KV U
 | .tmp t=>S.env t
 | .qP x=>KV.Bx x
def mT{S:aw U}{x:aQ}(h:x.bJ=true):x.val S.st=(x.bP S).pv:=by
 cases x with
 |tmp t=>rfl
 |qP x=>simp[aQ.bJ]at h;unfold PV.bJ at h;split at h<;>first|rfl|(cases h)
def KV.cells:KV U->Z (KV U)
 | .agg cs=>cs
 |x=>[x]
def KV.one:KV U->Bool
 | .int ..| .bool _| .dI| .str _| .fF| .cu| .aT ..| .fe ..| .ptr ..| .cp ..| .ref _| .sl ..| .own ..| .view ..| .gm ..| .jc _| .fH ..| .Ka ..=>true
 |_=>false
def KV.closed:KV U->Bool
 | .int ..| .bool _| .str _| .fF| .cu| .sl ..| .ref _| .gm ..| .jc _| .fH ..| .Ka ..| .aT _ []=>true
 |_=>false
def KV.aZ:KV U->Bool
 | .agg cs| .cg cs| .aT _ cs=>cs.all KV.closed
 |x=>x.closed
def Tr(x:KV U):x.pv.one=x.one:=by
 cases x with
 |_=>simp[KV.pv,PV.one,KV.one]
def N6(x:KV U):x.pv.closed=x.closed:=by
 cases x with
 |aT f cs=>cases cs<;>simp[KV.pv,KV.ye,PV.closed,KV.closed]
 |_=>simp[KV.pv,PV.closed,KV.closed]
theorem qz(x:KV U):x.pv.cells=x.cells.map KV.pv:=by
 cases x with
 |_=>simp[KV.pv,PV.cells,KV.cells,KV.bR]
theorem kl(l:Z (KV U)):(l.map KV.pv).all PV.closed=l.all KV.closed:=by
 induction l with
 |nil=>rfl
 |cons x l b=>simp only[Qj,QA,N6,b]
theorem oT(l:Z (KV U)):(l.map KV.pv).all PV.one=l.all KV.one:=by
 induction l with
 |nil=>rfl
 |cons x l b=>simp only[Qj,QA,Tr,b]
def MF(x:KV U):x.pv.aZ=x.aZ:=by
 cases x with
 |agg cs|cg cs|aT f cs=>simp only[KV.pv,PV.aZ,KV.aZ,KV.bR];exact kl cs
 |_=>simp[KV.pv,PV.aZ,KV.aZ,PV.closed,KV.closed]
end
end
section
section
variable{U:TU}
inductive b0 (U:TU) where
 |ty (T:U.Ty)
 |aT (f:FuncId) (cs:List (b0 U))
 |ref (a:b0 U)
 |agg (cs:List (b0 U))
inductive jm (U:TU) where
 |one (T:U.Ty)
 |many (Ts:List U.Ty)
 |fn (a:b0 U)
@[reducible] def Bs (U:TU):Z U.Ty->Type
 |[]=>Unit
 |T::l=>U.den T×Bs U l
mutual
@[reducible] def b0.den:b0 U->Type
 | .ty T=>U.den T
 | .aT _ cs=>cz cs
 | .ref a=>a.den
 | .agg cs=>cz cs
@[reducible] def cz:Z (b0 U)->Type
 |[]=>Unit
 |a::l=>a.den×cz l
end
@[reducible] def jm.den:jm U->Type
 | .one T=>U.den T
 | .many b=>Bs U b
 | .fn a=>a.den
def yO:(b:Z U.Ty)->Bs U b->Z PV
 |[],_=>[]
 |T::l,v=>cQ T v.1::yO l v.2
mutual
def iA:(a:b0 U)->a.den->PV
 | .ty T,v=>cQ T v
 | .aT f cs,v=> .aT f (ec cs v)
 | .ref a,v=> .ref (kI a v)
 | .agg cs,v=> .agg (ec cs v)
def kI:(a:b0 U)->a.den->Z PV
 | .ty T,v=>U.pv T v
 | .aT f cs,v=>[.aT f (ec cs v)]
 | .ref a,v=>[.ref (kI a v)]
 | .agg cs,v=>ec cs v
def ec:(A_s:Z (b0 U))->cz A_s->Z PV
 |[],_=>[]
 |a::l,v=>iA a v.1::ec l v.2
end
def nN:(r:jm U)->r.den->PV
 | .one T,v=>cQ T v
 | .many b,v=> .cg (yO b v)
 | .fn a,v=>iA a v
variable(K:TK U)
def Pp:(b:Z U.Ty)->Bs U b->Z (KV U)
 |[],_=>[]
 |T::l,v=>tf K T v.1::Pp l v.2
mutual
def Fk:(a:b0 U)->a.den->KV U
 | .ty T,v=>tf K T v
 | .aT f cs,v=> .aT f (pJ cs v)
 | .ref a,v=> .ref (Bl a v)
 | .agg cs,v=> .agg (pJ cs v)
def Bl:(a:b0 U)->a.den->Z (KV U)
 | .ty T,v=>K.dD T v
 | .aT f cs,v=>[.aT f (pJ cs v)]
 | .ref a,v=>[.ref (Bl a v)]
 | .agg cs,v=>pJ cs v
def pJ:(A_s:Z (b0 U))->cz A_s->Z (KV U)
 |[],_=>[]
 |a::l,v=>Fk a v.1::pJ l v.2
end
def Jh:(r:jm U)->r.den->KV U
 | .one T,v=>tf K T v
 | .many b,v=> .cg (Pp K b v)
 | .fn a,v=>Fk K a v
def Nu:∀(b:Z U.Ty) (v:Bs U b),(Pp K b v).map KV.pv=yO b v
 |[],_=>rfl
 |T::l,v=>by rw[Pp,yO,Qj,wM,Nu l v.2]
mutual
theorem LL:∀(a:b0 U) (v:a.den),(Fk K a v).pv=iA a v
 | .ty T,v=>by rw[Fk,iA];exact wM K T v
 | .aT f cs,v=>by rw[Fk,iA,KV.pv,KV.bR,uO cs v]
 | .ref a,v=>by rw[Fk,iA,KV.pv,KV.bR,Kn a v]
 | .agg cs,v=>by rw[Fk,iA,KV.pv,KV.bR,uO cs v]
theorem Kn:∀(a:b0 U) (v:a.den),(Bl K a v).map KV.pv=kI a v
 | .ty T,v=>by rw[Bl,kI];exact K.lK T v
 | .aT f cs,v=>by rw[Bl,kI,Qj,QC,KV.pv,KV.bR,uO cs v]
 | .ref a,v=>by rw[Bl,kI,Qj,QC,KV.pv,KV.bR,Kn a v]
 | .agg cs,v=>by rw[Bl,kI,uO cs v]
theorem uO:∀(A_s:Z (b0 U)) (v:cz A_s),(pJ K A_s v).map KV.pv=ec A_s v
 |[],_=>by rw[pJ,ec];rfl
 |a::l,v=>by rw[pJ,ec,Qj,LL a v.1,uO l v.2]
end
def FJ:∀(r:jm U) (v:r.den),(Jh K r v).pv=nN r v
 | .one T,v=>wM K T v
 | .many b,v=>by rw[Jh,nN,KV.pv,KV.bR,Nu]
 | .fn a,v=>LL K a v
def I3(lk:Lk U):(b:Z U.Ty)->Z (KV U)->Y (Bs U b)
 |[],xs=>match xs with|[]=>some ()|_=>none
 |T::l,xs=>match xs with
  |x::xs=>(match yc K lk T x with
   |some v=>(match I3 lk l xs with|some vs=>some (v,vs)|none=>none)
   |none=>none)
  |[]=>none
def KV.I0:KV U->Bool
 | .cu=>false
 |_=>true
def MA:Y Nat->Nat->Bool
 |none,_=>true
 |some i,id=> !Nat.beq i id
def uc:Z (KV U)->KV U
 |[x]=>x
 |_=> .any
def Bh(T:U.Ty)(cs:Z (KV U)):Y (U.den T):=
 match cs.all KV.I0 with
 |true=>K.dec T lE cs
 |false=>none
def Dk{α:Type}(f:FI)(x:KV U)(k:Z (KV U)->Y α):Y α:=
 match x with
 | .aT g b=>(match Nat.beq g f with|true=>k b|false=>none)
 |_=>none
def FZ{α:Type}(x:KV U)(k:Z (KV U)->Y α):Y α:=
 match x with
 | .agg cs=>k cs
 |_=>none
def IW{α:Type}(x:KV U)(k:Z (KV U)->Y α):Y α:=
 match x with
 | .ref cs=>k cs
 |_=>none
def IY(xs:Z (KV U)):Y Unit:=
 match xs with
 |[]=>some ()
 |_=>none
def FY{α β:Type}(xs:Z (KV U))(k:KV U->Y α)(m:Z (KV U)->Y β):Y (α×β):=
 match xs with
 |x::l=>(match k x with
  |some v=>(match m l with|some vs=>some (v,vs)|none=>none)
  |none=>none)
 |[]=>none
def IX{α:Type}(S:aw U)(ex:Y Nat)(x:KV U)(d b:Z (KV U)->Y α):Y α:=
 match x with
 | .ref cells=>d cells
 | .ptr id ab off=>(match Nat.beq off 0&&MA ex id with
  |true=>(match Nat.beq (S.H id).ab ab with
   |true=>(match(S.H id).c with
    | .box cells=>b cells
    |_=>none)
   |false=>none)
  |false=>none)
 |_=>none
def wi{α:Type}{f:FI}{x:KV U}{k:Z (KV U)->Y α}{r:α}(h:Dk f x k=some r):∃b,x= .aT f b/\k b=some r:=by
 unfold Dk at h;split at h
 .split at h
  .rename_i d;exact⟨_,by rw[Qf d],h⟩
  .cases h
 .cases h
def AL{α:Type}{x:KV U}{k:Z (KV U)->Y α}{r:α}(h:FZ x k=some r):∃cs,x= .agg cs/\k cs=some r:=by
 unfold FZ at h
 grind
def FV{α:Type}{x:KV U}{k:Z (KV U)->Y α}{r:α}(h:IW x k=some r):∃cs,x= .ref cs/\k cs=some r:=by
 unfold IW at h
 grind
def FX{xs:Z (KV U)}{r:Unit}(h:IY xs=some r):xs=[]:=by grind [IY]
def Ek{α β:Type}{xs:Z (KV U)}{k:KV U->Y α}{m:Z (KV U)->Y β}{r:α×β}(h:FY xs k m=some r):∃x l,xs=x::l/\k x=some r.1/\m l=some r.2:=by
 unfold FY at h
 grind
def FW{α:Type}{S:aw U}{ex:Y Nat}{x:KV U}{f e:Z (KV U)->Y α}{r:α}(h:IX S ex x f e=some r):
  (∃cs,x= .ref cs/\f cs=some r)\/∃id ab cells,x= .ptr id ab 0/\MA ex id=true/\(S.H id).ab=ab/\(S.H id).c= .box cells/\e cells=some r:=by
 unfold IX at h;split at h
 .exact .inl ⟨_,rfl,h⟩
 .split at h
  .rename_i b;rw[Qa]at b;split at h
   .rename_i d;split at h
    .rename_i g;exact .inr ⟨_,_,_,by rw[Qf b.1],b.2,Qf d,g,h⟩
    .cases h
   .cases h
  .cases h
 .cases h
mutual
def Du:(a:b0 U)->KV U->Y a.den
 | .ty T,x=>(match U.agg T with
  |true=>FZ x λcs=>Bh K T cs
  |false=>Bh K T [x])
 | .aT f cs,x=>Dk f x λb=>uK cs b
 | .ref a,x=>IW x λcells=>wF a cells
 | .agg cs,x=>FZ x λcells=>uK cs cells
def wF:(a:b0 U)->Z (KV U)->Y a.den
 | .ty T,cells=>Bh K T cells
 | .aT f cs,cells=>Dk f (uc cells) λb=>uK cs b
 | .ref a,cells=>IW (uc cells) λcells=>wF a cells
 | .agg cs,cells=>uK cs cells
def uK:(A_s:Z (b0 U))->Z (KV U)->Y (cz A_s)
 |[],xs=>IY xs
 |a::l,xs=>FY xs (λx=>Du a x) λxs=>uK l xs
end
mutual
def Fi(S:aw U)(ex:Y Nat):(a:b0 U)->KV U->Y a.den
 | .ty T,x=>yc K S.lk T x
 | .aT f cs,x=>Dk f x λb=>mw S ex cs b
 | .ref a,x=>IX S ex x (λcells=>wF K a cells) λcells=>Fh S ex a cells
 | .agg cs,x=>FZ x λcells=>mw S ex cs cells
def Fh(S:aw U)(ex:Y Nat):(a:b0 U)->Z (KV U)->Y a.den
 | .ty T,cells=>K.dec T S.lk cells
 | .aT f cs,cells=>Dk f (uc cells) λb=>mw S ex cs b
 | .ref a,cells=>IX S ex (uc cells) (λcells=>wF K a cells) λcells=>Fh S ex a cells
 | .agg cs,cells=>mw S ex cs cells
def mw(S:aw U)(ex:Y Nat):(A_s:Z (b0 U))->Z (KV U)->Y (cz A_s)
 |[],xs=>IY xs
 |a::l,xs=>FY xs (λx=>Fi S ex a x) λxs=>mw S ex l xs
end
mutual
def b0.depth:b0 U->Nat
 | .ty _=>2
 | .aT _ cs=>kj cs+1
 | .ref a=>a.depth+1
 | .agg cs=>kj cs+1
def kj:Z (b0 U)->Nat
 |[]=>2
 |a::l=>max a.depth (kj l)
end
def jm.plain:jm U->Bool
 | .one T=>U.plain T
 | .many b=>b.all U.plain
 | .fn _=>false
def b0.PG:b0 U->Bool
 | .ref _=>true
 |_=>false
def jm.ok:jm U->Bool
 | .fn (.aT _ cs)=>cs.all b0.PG
 | .fn _=>false
 |_=>true
def Sn{H:Nat->dg}{ex:Y Nat}:∀(n:Nat) {y:PV},y.ea=true->fz H ex n y=y
 |0,y,h|n+1,y,h=>by cases y<;>simp[PV.ea]at h<;>simp[fz,PV.closed]
def OU{H:Nat->dg}{ex:Y Nat}(n:Nat){l:Z PV}(h:∀y∈l,y.ea=true):l.map (fz H ex n)=l:=by
 induction l with
 |nil=>rfl
 |cons x l b=>rw[Qj,Sn n (h x t_),b λy d=>h y (by simp[d])]
def Lt{S:aw U}{id ab:Nat}{T:U.Ty}{xs:Z (U.den T)}(h:S.lk id ab T=some xs):(S.H id).ab=ab/\∃e k,(S.H id).c= .row e k T xs:=by
 unfold aw.lk at h;split at h
 .rename_i b;split at h
  .rename_i e k g f d;obtain⟨eq,rfl⟩:=jf h;subst eq;exact⟨Qf b,e,k,d⟩
  .cases h
 .cases h
variable{K}
variable{S:aw U}{ex:Y Nat}
def SH(d:∀id,ex=some id->∀e k T xs,(S.H id).c≠ .row e k T xs)(n:Nat){x:KV U}{y:PV}(h:gH S.lk x y)(K:TK U):fz S.st.H ex (n+1) x.pv=y:=by
 cases h with
 |int|bool|str|sl T xs|gm A B xs|jc|fH T x|Ka=>simp[KV.pv,fz,PV.closed]
 |cu=>simp[KV.pv,fz]
 |own id ab T xs h=>
  let⟨j,e,k,g⟩:=Lt h
  have b:¬(some id=ex\/(S.st.H id).ab≠ab):=by
   rintro(h1|h1)
   .exact d id h1.symm _ _ _ _ g
   .exact h1 j
  have f:(S.st.H id).c= .row e k (xs.map (U.pv T)):=by simp[aw.st,bu.pv,g,cj.pv]
  simp[KV.pv,fz];rw[Qg b,f];simp only[List.map_map];congr 1;refine QU λv _=> ?_
  exact OU n λy i=>K.ea T v y i
def Fj(b:∀id,ex=some id->∀e k T xs,(S.H id).c≠ .row e k T xs)(n:Nat){xs:Z (KV U)}{ys:Z PV}(h:eC S.lk xs ys)(K:TK U):(xs.map KV.pv).map (fz S.st.H ex (n+1))=ys:=by
 induction h with
 |nil=>rfl
 |cons h _ d=>rw[Qj,Qj,SH b n h K,d]
def Ew(b:∀id,ex=some id->∀e k T xs,(S.H id).c≠ .row e k T xs)(n:Nat){T:U.Ty}{x:KV U}{v:U.den T}(h:yc K S.lk T x=some v):fz S.st.H ex (n+2) x.pv=cQ T v:=by
 unfold yc at h;unfold cQ;split at h
 .rename_i d;split at h
  .rename_i cs;simp[KV.pv,KV.bR,fz,Fj b n (K.iR _ _ _ _ h) K]
  .cases h
 .rename_i d;have f:=Fj b (n+1) (K.iR _ _ _ _ h) K
  grind
theorem Kb(b:∀id,ex=some id->∀e k T xs,(S.H id).c≠ .row e k T xs)(n:Nat):∀(d:Z U.Ty) (xs:Z (KV U)) (v:Bs U d),I3 K S.lk d xs=some v->(xs.map KV.pv).map (fz S.st.H ex (n+2))=yO d v
 |[],[],_,_=>rfl
 |[],_::_,_,h|T::l,[],_,h=>by cases h
 |T::l,x::xs,v,h=>by
  rw[I3]at h;split at h
  .rename_i i g;split at h
   .rename_i vs f;injection h with h
    subst h;rw[Qj,Qj,yO,Ew b n g,Kb b n l xs vs f]
   .cases h
  .cases h
def Nv{xs:Z (KV U)}{ys:Z PV}(h:eC lE xs ys):xs.all KV.I0=true->xs.map KV.pv=ys:=by
 induction h with
 |nil=>intro _;rfl
 |cons e _ d=>
  intro b;rw[QA,Qa]at b;rw[Qj,d b.2];congr 1
  cases e with
  |cu=>cases b.1
  |own _ _ _ _ h=>cases h
  |_=>rfl
def Fg{T:U.Ty}{cs:Z (KV U)}{v:U.den T}(h:Bh K T cs=some v):cs.map KV.pv=U.pv T v:=by
 unfold Bh at h;split at h
 .rename_i b;exact Nv (K.iR _ _ _ _ h) b
 .cases h
def Gq{cs:Z (KV U)}{f:FI}{b:Z (KV U)}(h:uc cs= .aT f b):cs=[.aT f b]:=by
 unfold uc at h;split at h
 .rw[h]
 .cases h
def Ir{cs cells:Z (KV U)}(h:uc cs= .ref cells):cs=[.ref cells]:=by
 unfold uc at h;split at h
 .rw[h]
 .cases h
def NV{cs:Z (KV U)}{id ab b:Nat}(h:uc cs= .ptr id ab b):cs=[.ptr id ab b]:=by
 unfold uc at h;split at h
 .rw[h]
 .cases h
mutual
def OX:∀(a:b0 U) (x:KV U) (v:a.den),Du K a x=some v->x.pv=iA a v
 | .ty T,x,v,h=>by
  rw[Du]at h;rw[iA];split at h
  .rename_i d;obtain⟨cs,rfl,h⟩:=AL h;rw[KV.pv,KV.bR,Fg h,cQ,d]
  .rename_i d;have:=Fg h;rw[cQ,d,<-this];rfl
 | .aT f cs,x,v,h=>by rw[Du]at h;rw[iA];obtain⟨b,rfl,e⟩:=wi h;rw[KV.pv,KV.bR,uJ cs b v e]
 | .ref a,x,v,h=>by rw[Du]at h;rw[iA];obtain⟨cells,rfl,h⟩:=FV h;rw[KV.pv,KV.bR,Bi a cells v h]
 | .agg cs,x,v,h=>by rw[Du]at h;rw[iA];obtain⟨cells,rfl,h⟩:=AL h;rw[KV.pv,KV.bR,uJ cs cells v h]
def Bi:∀(a:b0 U) (cs:Z (KV U)) (v:a.den),wF K a cs=some v->cs.map KV.pv=kI a v
 | .ty T,cs,v,h=>by rw[wF]at h;rw[kI];exact Fg h
 | .aT f cs,cells,v,h=>by
  rw[wF]at h;rw[kI]
  let⟨d,e,h⟩:=wi h
  rw[Gq e,Qj,QC,KV.pv,KV.bR,uJ cs d v h]
 | .ref a,cells,v,h=>by
  rw[wF]at h;rw[kI]
  let⟨b,e,h⟩:=FV h
  rw[Ir e,Qj,QC,KV.pv,KV.bR,Bi a b v h]
 | .agg cs,cells,v,h=>by rw[wF]at h;rw[kI];exact uJ cs cells v h
def uJ:∀(A_s:Z (b0 U)) (xs:Z (KV U)) (v:cz A_s),uK K A_s xs=some v->xs.map KV.pv=ec A_s v
 |[],xs,v,h=>by rw[uK]at h;rw[ec,FX h];rfl
 |a::l,xs,v,h=>by rw[uK]at h;rw[ec];obtain⟨x,xs,rfl,h1,b⟩:=Ek h;rw[Qj,OX a x v.1 h1,uJ l xs v.2 b]
end
mutual
def LG(d:∀id,ex=some id->∀e k T xs,(S.H id).c≠ .row e k T xs):∀(a:b0 U) (n:Nat) (x:KV U) (v:a.den),a.depth<=n->Fi K S ex a x=some v->fz S.st.H ex n x.pv=iA a v
 | .ty T,n,x,v,i,h=>by rw[Fi]at h;rw[iA];rw[b0.depth]at i;obtain⟨m,rfl⟩:∃m,n=m+2:=⟨n - 2,O⟩;exact Ew d m h
 | .aT f cs,n,x,v,i,h=>by rw[Fi]at h;rw[iA];rw[b0.depth]at i;obtain⟨m,rfl⟩:∃m,n=m+1:=⟨n - 1,O⟩;obtain⟨b,rfl,p⟩:=wi h;rw[KV.pv,KV.bR,fz,iJ d cs m b v O p]
 | .ref a,n,x,v,i,h=>by
  rw[Fi]at h;rw[iA];rw[b0.depth]at i;obtain⟨m,rfl⟩:∃m,n=m+1:=⟨n - 1,O⟩;rcases FW h with⟨cells,rfl,h⟩|⟨id,ab,cells,rfl,g,j,q,h⟩
  .rw[KV.pv,KV.bR,Bi a cells v h];simp[fz,PV.closed]
  .have l:¬(some id=ex\/(S.st.H id).ab≠ab):=by
    rintro(h1|h1)
    .rw[<-h1]at g;simp[MA]at g
    .exact h1 j
   have o:(S.st.H id).c= .box (cells.map KV.pv):=by simp[aw.st,bu.pv,q,cj.pv]
   simp[KV.pv,fz];rw[Qg l,o];simp only[List.drop_zero];rw[LF d a m cells v O h]
 | .agg cs,n,x,v,i,h=>by rw[Fi]at h;rw[iA];rw[b0.depth]at i;obtain⟨m,rfl⟩:∃m,n=m+1:=⟨n - 1,O⟩;obtain⟨b,rfl,p⟩:=AL h;rw[KV.pv,KV.bR,fz,iJ d cs m b v O p]
def LF(d:∀id,ex=some id->∀e k T xs,(S.H id).c≠ .row e k T xs):∀(a:b0 U) (n:Nat) (cs:Z (KV U)) (v:a.den),a.depth<=n->Fh K S ex a cs=some v->(cs.map KV.pv).map (fz S.st.H ex n)=kI a v
 | .ty T,n,cs,v,i,h=>by rw[Fh]at h;rw[kI];rw[b0.depth]at i;obtain⟨m,rfl⟩:∃m,n=m+1:=⟨n - 1,O⟩;exact Fj d m (K.iR _ _ _ _ h) K
 | .aT f cs,n,cells,v,i,h=>by
  rw[Fh]at h;rw[kI];rw[b0.depth]at i;obtain⟨m,rfl⟩:∃m,n=m+1:=⟨n - 1,O⟩
  let⟨o,l,h⟩:=wi h
  rw[Gq l,Qj,QC,Qj,QC,KV.pv,KV.bR,fz,iJ d cs m o v O h]
 | .ref a,n,cells,v,i,h=>by
  rw[Fh]at h;rw[kI];rw[b0.depth]at i;obtain⟨m,rfl⟩:∃m,n=m+1:=⟨n - 1,O⟩;rcases FW h with⟨b,l,h⟩|⟨id,ab,b,l,g,j,r,h⟩
  .rw[Ir l,Qj,QC,KV.pv,KV.bR,Bi a b v h];simp[fz,PV.closed]
  .have p:¬(some id=ex\/(S.st.H id).ab≠ab):=by
    rintro(h1|h1)
    .rw[<-h1]at g;simp[MA]at g
    .exact h1 j
   have q:(S.st.H id).c= .box (b.map KV.pv):=by simp[aw.st,bu.pv,r,cj.pv]
   rw[NV l];simp[Qj,QC,KV.pv,fz];rw[Qg p,q];simp only[List.drop_zero];rw[LF d a m b v O h]
 | .agg cs,n,cells,v,i,h=>by rw[Fh]at h;rw[kI];rw[b0.depth]at i;exact iJ d cs n cells v O h
def iJ(b:∀id,ex=some id->∀e k T xs,(S.H id).c≠ .row e k T xs):∀(A_s:Z (b0 U)) (n:Nat) (xs:Z (KV U)) (v:cz A_s),kj A_s<=n->mw K S ex A_s xs=some v->(xs.map KV.pv).map (fz S.st.H ex n)=ec A_s v
 |[],n,xs,v,d,h=>by rw[mw]at h;rw[ec,FX h];rfl
 |a::l,n,xs,v,d,h=>by rw[mw]at h;rw[ec];rw[kj]at d;obtain⟨x,xs,rfl,h1,f⟩:=Ek h;rw[Qj,Qj,LG b a n x v.1 O h1,iJ b l n xs v.2 O f]
end
def oi{xs:Z (KV U)}{b:Z PV}(h:eC lE xs b):(xs.map KV.pv).map nz=b/\xs.all KV.closed=true:=by
 induction h with
 |nil=>exact⟨rfl,rfl⟩
 |cons h _ d=>
  let⟨h1,e⟩:=d
  simp[Qj,QA,h1,e,QV]
  cases h with
  |own _ _ _ _ h=>cases h
  |_=>simp[KV.pv,nz,KV.closed]
def aw.fI(S:aw U)(id ab:Nat):aw U:={env:=S.env,H:=dj S.H id ⟨ab,.dead⟩,N:=S.N}
def PR{H d:Nat->dg}{ex:Y Nat}(h:∀j,some j≠ex->d j=H j):∀(n:Nat) (y:PV),fz d ex n y=fz H ex n y
 |0,y=>by simp[fz]
 |n+1,y=>by
  have e:fz d ex n=fz H ex n:=funext (PR h n)
  cases y with
  |own id ab|ptr id ab off=>
   simp[fz,e]
   by_cases b:some id=ex
   .rw[Qc (.inl b),Qc (.inl b)]
   .rw[h id b]
  |agg cs|cg cs|aT f cs=>simp[fz,e]
  |_=>simp[fz]
def LB(S:aw U)(id ab n:Nat)(y:PV):fz (S.fI id ab).st.H (some id) n y=fz S.st.H (some id) n y:=by
 refine PR (λj b=> ?_) n y
 have:j≠id:=λe=>b (by rw[e])
 simp only[aw.fI,aw.st,bT,bq _ _ this]
def JT(S:aw U)(id ab:Nat):∀j,some id=some j->∀e k T xs,((S.fI id ab).H j).c≠ .row e k T xs:=by
 intro j b e k T xs;injection b with b
 subst b;simp only[aw.fI,bT,bf];intro h;cases h
inductive bQ (U:TU) where
 |rw(f:FuncId) (e k:Nat) (T:U.Ty) (A_s:List (b0 U)) (rs:jm U) (F:List (U.den T)->cz A_s->Option (rs.den×List (U.den T)))
 |cw (f:FuncId) (e k:Nat) (T:U.Ty) (A_s:List (b0 U)) (F:List (U.den T)->cz A_s->Option (List (U.den T)))
 |fw (f:FuncId) (A_s:List (b0 U)) (e k:Nat) (T:U.Ty) (F:cz A_s->Option (List (U.den T)))
 |fn (f:FuncId) (A_s:List (b0 U)) (rs:jm U) (F:cz A_s->Option rs.den)
 |rc (f:FuncId) (pos:Nat) (R:U.Ty) (A_s:List (b0 U)) (rs:jm U) (F:U.den R->cz A_s->Option (rs.den×U.den R))
 |nw (f:FuncId) (A_s:List (b0 U)) (R:U.Ty) (F:cz A_s->Option (U.den R))
 |ro (f:FuncId) (pos:Nat) (R:U.Ty) (A_s:List (b0 U)) (rs:jm U) (F:U.den R->cz A_s->Option (rs.den×U.den R))
 |bk (f k:Nat) (nE:Option Nat)
def bQ.Sound(P:Pr):bQ U->Prop
 | .rw f e k T A_s rs F=>Enters P f/\∀xs a r b,F xs a=some (r,b)->Nl P f e k (xs.map (U.pv T)) (ec A_s a) (nN rs r) (b.map (U.pv T))
 | .cw f e k T A_s F=>Enters P f/\∀xs a b,F xs a=some b->Fv P f e k (xs.map (U.pv T)) (ec A_s a) (b.map (U.pv T))
 | .fw f A_s e k T F=>Enters P f/\∀a b,F a=some b->KT P f (ec A_s a) e k (b.map (U.pv T))
 | .fn f A_s rs F=>Enters P f/\∀a r,F a=some r->RT P f false [] (ec A_s a) (nN rs r) []
 | .rc f pos R A_s rs F=>Enters P f/\∀s a r s',F s a=some (r,s')->DE P f pos true (U.pv R s) (ec A_s a) (nN rs r) (U.pv R s')
 | .ro f pos R A_s rs F=>Enters P f/\∀s a r s',F s a=some (r,s')->s'=s/\DE P f pos true (U.pv R s) (ec A_s a) (nN rs r) (U.pv R s')
 | .nw f A_s R F=>Enters P f/\∀a s,F a=some s->No P f (ec A_s a) (U.pv R s)
 | .bk f k d=>ep P f 19 (xw k d) []
def jI(P:Pr):Z (bQ U)->Prop
 |[]=>True
 |f::l=>f.Sound P/\jI P l
def Gt(f k:Nat)(e:Y Nat):Z (bQ U)->Bool
 |[]=>false
 | .bk h g d::Γ=>(Nat.beq f h&&Nat.beq k g&&(match e,d with|none,none=>true|some a,some b=>Nat.beq a b|_,_=>false))||Gt f k e Γ
 |_::Γ=>Gt f k e Γ
def Fb{P:Pr}{f k:Nat}{d:Y Nat}:∀{Γ:Z (bQ U)},jI P Γ->Gt f k d Γ=true->ep P f 19 (xw k d) []
 |[],_,h=>by cases h
 | .bk m l nE'::Γ,b,h=>by
  simp only[Gt,Qw,Qa]at h;rcases h with⟨⟨i,g⟩,e⟩|h
  .have i:=Qf i;have g:=Qf g;subst i g
   have j:d=nE':=by cases d<;>cases nE'<;>simp only at e<;>first|rfl|(cases e)|(rw[Qf e])
   subst j;exact b.1
  .exact Fb b.2 h
 | .ro ..::Γ,b,h| .rw ..::Γ,b,h| .cw ..::Γ,b,h| .fw ..::Γ,b,h| .fn ..::Γ,b,h| .rc ..::Γ,b,h| .nw ..::Γ,b,h=>Fb (Γ:=Γ) b.2 h
def CI{y:PV}(h:y.ea=true):y.closed=true:=by cases y<;>first|rfl|cases h
open Classical in
 def oK(recv:Bool)(pos:Nat)(fresh ro:Bool)(cs b:Z PV)(r:PV)(cs':Z PV):Model:=
 {recv:=recv,pos:=pos,fresh:=fresh,m:=λc a=>if c=cs/\a=b then some (r,cs')else none,rk:= .no,ro:=ro,rm:=λ_ _=>none}
open Classical in
 def wh(rk:RK)(es:Z (Z PV))(b:Z PV)(r:PV)(d:Z (Z PV)):Model:=
 {recv:=false,pos:=0,fresh:=false,m:=λ_ _=>none,rk:=rk,ro:=false,rm:=λc a=>if c=es/\a=b then some (r,d)else none}
 def pC(f:FI)(m:Model):gW:=λg=>if g=f then some m else none
def nP{P:Pr}{f:FI}{m:Model}(h:Of P f m):fQ P (pC f m):=by
 intro g b d
 grind [pC]
def nQ(f:FI)(m:Model):pC f m f=some m:=Qc rfl
def aw.om(S:aw U)(id ab:Nat):Y (Z (KV U)):=
 match Nat.beq (S.H id).ab ab with
 |true=>match(S.H id).c with
  | .box cs=>some cs
  |_=>none
 |false=>none
def uM{id ab:Nat}{cs:Z (KV U)}(h:S.om id ab=some cs):(S.H id).ab=ab/\(S.H id).c= .box cs:=by
 unfold aw.om at h;split at h
 .rename_i b;split at h
  .rename_i d;cases h;exact⟨Qf b,d⟩
  .cases h
 .cases h
structure Pj (U:TU) where
 e:Nat
 k:Nat
 T:U.Ty
 xs:List (U.den T)
def aw.row?(S:aw U)(id ab:Nat):Y (Pj U):=
 match Nat.beq (S.H id).ab ab with
 |true=>match(S.H id).c with
  | .row e k T xs=>some ⟨e,k,T,xs⟩
  |_=>none
 |false=>none
theorem yd{id ab:Nat}{r:Pj U}(h:S.row? id ab=some r):(S.H id).ab=ab/\(S.H id).c= .row r.e r.k r.T r.xs:=by
 unfold aw.row? at h;split at h
 .rename_i b;split at h
  .rename_i d;cases h;exact⟨Qf b,d⟩
  .cases h
 .cases h
def jw{id ab:Nat}{r:Pj U}(h:S.row? id ab=some r):(S.st.H id).ab=ab/\(S.st.H id).c= .row r.e r.k (r.xs.map (U.pv r.T)):=by grind [yd,aw.st,bu.pv,cj.pv]
structure US (U:TU) where
 e:Nat
 k:Nat
 es:List (List (KV U))
def aw.Jn(S:aw U)(id ab:Nat):Y (US U):=
 match Nat.beq (S.H id).ab ab with
 |true=>match(S.H id).c with
  | .raw e k es=>some ⟨e,k,es⟩
  |_=>none
 |false=>none
def Jm{id ab:Nat}{r:US U}(h:S.Jn id ab=some r):(S.st.H id).ab=ab/\(S.st.H id).c= .row r.e r.k (r.es.map λc=>c.map KV.pv):=by
 unfold aw.Jn at h;split at h
 .rename_i b;split at h
  .rename_i d;injection h with h
   subst h;exact⟨Qf b,by simp[aw.st,bu.pv,d,cj.pv]⟩
  .cases h
 .cases h
def IV{α:Type}(S:aw U)(e k:Nat)(T:U.Ty)(b:Z (KV U))(j:Nat->Nat->Z (U.den T)->Z (KV U)->Y α):Y α:=
 match b with
 | .own id ab::rest=>(match S.row? id ab with
  |some r=>(match Nat.beq r.e e&&Nat.beq r.k k with
   |true=>(match uf r.T T r.xs with|some xs=>j id ab xs rest|none=>none)
   |false=>none)
  |none=>none)
 |_=>none
def FU{α:Type}{e k:Nat}{T:U.Ty}{f:Z (KV U)}{j:Nat->Nat->Z (U.den T)->Z (KV U)->Y α}{r:α}(h:IV S e k T f j=some r):
  ∃id ab xs b,f= .own id ab::b/\(S.H id).ab=ab/\(S.H id).c= .row e k T xs/\j id ab xs b=some r:=by
 unfold IV at h;split at h
 .rename_i id ab b;split at h
  .rename_i o p
   let⟨h1,i⟩:=yd p
   split at h
   .rename_i d;rw[Qa]at d;split at h
    .rename_i xs g;obtain⟨l,rfl⟩:=jf g
     let⟨q,rk,s,m⟩:=o
     simp only at l i d;subst l;exact⟨id,ab,_,b,rfl,h1,by rw[i,Qf d.1,Qf d.2],h⟩
    .cases h
   .cases h
  .cases h
 .cases h
def tq(K:TK U)(T:U.Ty)(xs:Z (U.den T)):ur (xs.map (U.pv T))=true:=by
 refine Qe.2 λu d=> ?_
 obtain⟨x,_,rfl⟩:=Qq.1 d;exact Qe.2 λy b=>CI (K.ea T x y b)
def EJ(K:TK U){T:U.Ty}(e:U.plain T=true)(xs:Z (U.den T)):Cf (xs.map (U.pv T))=true:=by
 refine Qe.2 λu d=> ?_
 obtain⟨x,_,rfl⟩:=Qq.1 d;exact Qe.2 λy b=>K.plain T e x y b
variable(K)
def fx{ρ:Type}(nid:Nat)(S:aw U)(f:FI)(b:Z (KV U))(k:KV U->Y (Nat×bu U)->Y ρ):Z (bQ U)->Y ρ
 |[]=>none
 | .bk _ _ _::Γ=>fx nid S f b k Γ
 | .rw g e h T A_s rs F::Γ=>match Nat.beq f g with
  |true=>IV S e h T b λid ab xs d=>(match mw K (S.fI id ab) (some id) A_s d with
   |some a=>(match(rs.plain||d.all KV.aZ)&&(U.plain T||d.all KV.aZ)&&(rs.ok&&Nat.ble (kj A_s) 9)with
    |true=>(F xs a).bind λp=>k (Jh K rs p.1) (some (id,⟨ab,.row e h T p.2⟩))
    |false=>none)
   |none=>fx nid S f b k Γ)
  |false=>fx nid S f b k Γ
 | .cw g e h T A_s F::Γ=>match Nat.beq f g with
  |true=>IV S e h T b λid ab xs d=>(match mw K (S.fI id ab) (some id) A_s d with
   |some a=>(match(U.plain T||d.all KV.aZ)&&Nat.ble (kj A_s) 9 with
    |true=>(F xs a).bind λi=>k (.own id (ab+1)) (some (id,⟨ab+1,.row e h T i⟩))
    |false=>none)
   |none=>fx nid S f b k Γ)
  |false=>fx nid S f b k Γ
 | .fw g A_s e h T F::Γ=>match Nat.beq f g with
  |true=>(match mw K S none A_s b with
   |some a=>(match(U.plain T||b.all KV.aZ)&&Nat.ble (kj A_s) 9 with
    |true=>(F a).bind λi=>k (.own nid ((S.H nid).ab+1)) (some (nid,⟨(S.H nid).ab+1,.row e h T i⟩))
    |false=>none)
   |none=>fx nid S f b k Γ)
  |false=>fx nid S f b k Γ
 | .fn g A_s rs F::Γ=>match Nat.beq f g with
  |true=>(match mw K S none A_s b with
   |some a=>(match(rs.plain||b.all KV.aZ)&&(rs.ok&&Nat.ble (kj A_s) 9)with
    |true=>(F a).bind λr=>k (Jh K rs r) none
    |false=>none)
   |none=>fx nid S f b k Γ)
  |false=>fx nid S f b k Γ
 | .rc g pos R A_s rs F::Γ=>match Nat.beq f g with
  |true=>(match b[pos]? with
   |some (.ptr id ab 0)=>(match S.om id ab with
    |some cs=>(match K.dec R lE cs with
     |some s=>(match mw K S (some id) A_s (cutAt pos b)with
      |some a=>(match((rs.plain&&U.plain R)||(cutAt pos b).all KV.aZ)&&(rs.ok&&Nat.ble (kj A_s) 9)with
       |true=>(F s a).bind λp=>k (Jh K rs p.1) (some (id,⟨ab,.box (K.dD R p.2)⟩))
       |false=>none)
      |none=>fx nid S f b k Γ)
     |none=>none)
    |none=>none)
   |_=>none)
  |false=>fx nid S f b k Γ
 | .ro g pos R A_s rs F::Γ=>match Nat.beq f g with
  |true=>(match b[pos]? with
   |some (.ptr id ab 0)=>(match S.om id ab with
    |some cs=>(match Bh K R cs with
     |some s=>(match mw K S (some id) A_s (cutAt pos b)with
      |some a=>(match((rs.plain&&U.plain R)||(cutAt pos b).all KV.aZ)&&(rs.ok&&Nat.ble (kj A_s) 9)with
       |true=>(F s a).bind λp=>k (Jh K rs p.1) none
       |false=>none)
      |none=>fx nid S f b k Γ)
     |none=>none)
    |none=>none)
   |_=>none)
  |false=>fx nid S f b k Γ
 | .nw g A_s R F::Γ=>match Nat.beq f g with
  |true=>(match mw K S none A_s b with
   |some a=>(match(U.plain R||b.all KV.aZ)&&Nat.ble (kj A_s) 9 with
    |true=>(F a).bind λs=>k (.ptr nid ((S.H nid).ab+1) 0) (some (nid,⟨(S.H nid).ab+1,.box (K.dD R s)⟩))
    |false=>none)
   |none=>fx nid S f b k Γ)
  |false=>fx nid S f b k Γ
variable{K}
def oE{T:U.Ty}(K:TK U)(v:U.den T)(e:U.agg T=false):∃y,cQ T v=y/\y∈U.pv T v:=by
 have b:=K.len T v;rw[K.one T e]at b
 cases d:U.pv T v with
 |nil=>rw[d]at b;cases b
 |cons y l=>exact⟨y,by rw[cQ,e,d];rfl,Qx⟩
def qK{T:U.Ty}(v:U.den T)(b:U.agg T=true):cQ T v= .agg (U.pv T v):=by rw[cQ,b]
def Ju{y:PV}(h:y.plain=true):y.kv=true:=by cases y<;>first|exact h|cases h
def dY{y:PV}(h:y.ea=true):y.closed=true:=by cases y<;>first|rfl|cases h
def JW{y:PV}(h:y.ea=true):y.aZ=true:=by cases y<;>first|rfl|cases h
def Ef(K:TK U){T:U.Ty}(b:U.plain T=true)(v:U.den T):(cQ T v).kv=true:=by
 cases d:U.agg T with
 |true=>rw[qK v d];exact Qe.2 λy e=>K.plain T b v y e
 |false=>let⟨y,h1,f⟩:=oE K v d;rw[h1];exact Ju (K.plain T b v y f)
def vg{T:U.Ty}(K:TK U)(v:U.den T):(cQ T v).aZ=true:=by
 cases b:U.agg T with
 |true=>rw[qK v b];exact Qe.2 λy d=>dY (K.ea T v y d)
 |false=>let⟨y,h1,e⟩:=oE K v b;rw[h1];exact JW (K.ea T v y e)
def Fz(K:TK U):∀(b:Z U.Ty) (v:Bs U b),b.all U.plain=true->(yO b v).all PV.kv=true
 |[],v,_=>rfl
 |T::l,v,h=>by rw[QA,Qa]at h;rw[yO,QA,Ef K h.1 v.1,Fz K l v.2 h.2];rfl
def BY(K:TK U):∀(b:Z U.Ty) (v:Bs U b),(yO b v).all PV.aZ=true
 |[],v=>rfl
 |T::l,v=>by rw[yO,QA,vg K v.1,BY K l v.2];rfl
def NH{y:PV}(h:y.kv=true):y.nO=true:=by cases y<;>first|exact h|cases h
def Bv{T:U.Ty}(K:TK U)(v:U.den T)(cs:Z PV):cQ T v≠ .cg cs:=by
 intro h
 cases b:U.agg T with
 |true=>rw[qK v b]at h;cases h
 |false=>let⟨y,h1,e⟩:=oE K v b;have d:=K.ea T v y e;rw[<-h1,h]at d;cases d
def tW(K:TK U):∀(r:jm U) (v:r.den),r.plain=true->(nN r v).nO=true
 | .one T,v,h=>NH (Ef K h v)
 | .many b,v,h=>Fz K b v h
 | .fn _,_,h=>by cases h
def IF:∀(A_s:Z (b0 U)) (v:cz A_s),A_s.all b0.PG=true->(ec A_s v).all PV.closed=true
 |[],_,_=>by rw[ec];rfl
 |a::l,v,h=>by
  rw[QA,Qa]at h;rw[ec,QA,IF l v.2 h.2,QV]
  cases a with
  |ref a=>rw[iA];rfl
  |ty T|aT f cs|agg cs=>cases h.1
def rE(K:TK U):∀(r:jm U) (v:r.den),r.ok=true->(nN r v).oP=true
 | .fn (.aT f cs),v,h=>by show(iA (.aT f cs) v).oP=true;rw[iA];exact IF cs v h
 | .fn (.ty _),v,h| .fn (.ref _),v,h| .fn (.agg _),v,h=>by cases h
 | .one T,v,_=>by show(cQ T v).oP=true;have d:=vg K v;have b:=Bv K v;generalize cQ T v=y at d b;cases y<;>first|exact d|exact absurd rfl (b _)
 | .many e,v,_=>BY K e v
def gR(l:Z (KV U)):(l.map KV.pv).all PV.aZ=l.all KV.aZ:=by
 induction l with
 |nil=>rfl
 |cons x l b=>simp only[Qj,QA,MF,b]
theorem cW{P:Pr}{ρ:Type}{nid:Nat}{f:FI}{o:Z (KV U)}{k:KV U->Y (Nat×bu U)->Y ρ}{r:ρ}:∀{Γ:Z (bQ U)},jI P Γ->fx K nid S f o k Γ=some r->
  ∃Γ' x wr,fQ P Γ'/\ig Γ' nid S.st f (o.map KV.pv)=some (x.pv,wr.map eZ)/\k x wr=some r
 |[],_,h=>by cases h
 | .bk _ _ _::Γ,j,h=>cW (Γ:=Γ) j.2 h
 | .rw g e kk T A_s rs F::Γ,j,h=>by
  simp only[fx]at h;split at h
  .rename_i t;have t:=Qf t;subst t;obtain⟨id,ab,xs,rest,rfl,A,hc,h'⟩:=FU h;split at h'
   .rename_i a ha;split at h'
    .rename_i b;simp only[Qd]at h';obtain⟨⟨v,I⟩,hv,hk⟩:=h';rw[Qa,Qa,Qa]at b;obtain⟨⟨p,d⟩,B,m⟩:=b;have u:=iJ (ex:=some id) (JT S id ab) A_s 9 rest a (Qk m) ha
     have hfz':(rest.map KV.pv).map (fz S.st.H (some id) 9)=ec A_s a:=by rw[<-u];exact QU λy _=>(LB S id ab 9 y).symm
     obtain⟨z,l⟩:=j.1;refine⟨pC f (wh (.Ob e kk) (xs.map (U.pv T)) (ec A_s a) (nN rs v) (I.map (U.pv T))),Jh K rs v,some (id,⟨ab,.row e kk T I⟩),nP ⟨z,(λ_ cs G r' cs' i=>by cases i),(λq=>by cases q),λes G r' es' i=> ?_,(λq=>by cases q)⟩,?_,hk⟩
     .simp only[wh]at i;split at i
      .rename_i he;injection i with i
       injection i with h1 J
       subst h1 J;obtain⟨rfl,rfl⟩:=he;exact l xs a v I hv
      .cases i
     .have M:(S.st.H id).ab=ab:=A;have hc1:(S.st.H id).c= .row e kk (xs.map (U.pv T)):=by simp[aw.st,bu.pv,hc,cj.pv]
      simp only[Qj,KV.pv,ig,nQ,wh,tL,M,hc1,Qp,tq K T xs,qar,hfz',FJ,Qn,eZ,bu.pv,cj.pv];rw[Qc];rw[gR,rE K rs v B,tq K T I];simp only[Qw]at p d;rcases p with p|p
      .rw[tW K rs v p];rcases d with d|d
       .rw[EJ K d I];rfl
       .rw[d];simp
      .rw[p];simp
    .cases h'
   .exact cW j.2 h'
  .exact cW j.2 h
 | .cw g e kk T A_s F::Γ,j,h=>by
  simp only[fx]at h;split at h
  .rename_i t;have t:=Qf t;subst t;obtain⟨id,ab,xs,rest,rfl,A,hc,h'⟩:=FU h;split at h'
   .rename_i a ha;split at h'
    .rename_i b;simp only[Qd]at h';obtain⟨I,hv,hk⟩:=h';rw[Qa]at b;obtain⟨d,m⟩:=b;have u:=iJ (ex:=some id) (JT S id ab) A_s 9 rest a (Qk m) ha
     have hfz':(rest.map KV.pv).map (fz S.st.H (some id) 9)=ec A_s a:=by rw[<-u];exact QU λy _=>(LB S id ab 9 y).symm
     obtain⟨z,l⟩:=j.1;refine⟨pC f (wh (.GD e kk) (xs.map (U.pv T)) (ec A_s a) .any (I.map (U.pv T))),.own id (ab+1),some (id,⟨ab+1,.row e kk T I⟩),nP ⟨z,(λ_ cs G r' cs' i=>by cases i),(λq=>by cases q),λes G r' es' i=> ?_,(λq=>by cases q)⟩,?_,hk⟩
     .simp only[wh]at i;split at i
      .rename_i he;injection i with i
       injection i with h1 J
       subst h1 J;obtain⟨rfl,rfl⟩:=he;exact l xs a I hv
      .cases i
     .have M:(S.st.H id).ab=ab:=A;have hc1:(S.st.H id).c= .row e kk (xs.map (U.pv T)):=by simp[aw.st,bu.pv,hc,cj.pv]
      simp only[Qj,KV.pv,ig,nQ,wh,tK,M,hc1,Qp,tq K T xs,qar,hfz',Qn,eZ,bu.pv,cj.pv];rw[Qc];rw[gR,tq K T I];simp only[Qw]at d;rcases d with d|d
      .rw[EJ K d I];rfl
      .rw[d];simp
    .cases h'
   .exact cW j.2 h'
  .exact cW j.2 h
 | .fw g A_s e kk T F::Γ,j,h=>by
  simp only[fx]at h;split at h
  .rename_i t;have t:=Qf t;subst t;split at h
   .rename_i a ha;split at h
    .rename_i b;simp only[Qd]at h;obtain⟨I,hv,hk⟩:=h;rw[Qa]at b;obtain⟨d,m⟩:=b;have u:=iJ (ex:=none) (λid h=>by cases h) A_s 9 o a (Qk m) ha
     obtain⟨z,l⟩:=j.1;refine⟨pC f (wh (.TM e kk) [] (ec A_s a) .any (I.map (U.pv T))),.own nid ((S.H nid).ab+1),some (nid,⟨(S.H nid).ab+1,.row e kk T I⟩),nP ⟨z,(λ_ cs G r' cs' i=>by cases i),(λq=>by cases q),λG r' es' i=> ?_,(λq=>by cases q)⟩,?_,hk⟩
     .simp only[wh]at i;split at i
      .rename_i he;injection i with i
       injection i with h1 J
       subst h1 J;obtain⟨_,rfl⟩:=he;exact l a I hv
      .cases i
     .simp only[ig,nQ,wh,Ag,u,qar,Qp,Qn,eZ,bu.pv,cj.pv,KV.pv];rw[Qc]
      .rfl
      rw[gR,tq K T I];simp only[Qw]at d;rcases d with d|d
      .rw[EJ K d I];rfl
      .rw[d];simp
    .cases h
   .exact cW j.2 h
  .exact cW j.2 h
 | .fn g A_s rs F::Γ,j,h=>by
  simp only[fx]at h;split at h
  .rename_i t;have t:=Qf t;subst t;split at h
   .rename_i a ha;split at h
    .rename_i b;simp only[Qd]at h;obtain⟨v,hv,hk⟩:=h;rw[Qa,Qa]at b;obtain⟨b,B,m⟩:=b;have u:=iJ (ex:=none) (λid h=>by cases h) A_s 9 o a (Qk m) ha
     obtain⟨z,l⟩:=j.1;refine⟨pC f (oK false 0 false false [] (ec A_s a) (nN rs v) []),_,none,nP ⟨z,λ_ cs G r' cs' i=> ?_,(λq=>by cases q),trivial,(λq=>by cases q)⟩,?_,hk⟩
     .simp only[oK]at i;split at i
      .rename_i he;injection i with i
       injection i with h1 J
       subst h1 J;obtain⟨rfl,rfl⟩:=he;exact l a v hv
      .cases i
     .simp only[ig,nQ,oK,QR,QE,u,qar,Qp,FJ,Q5];rw[Qc];rw[gR,rE K rs v B];simp only[Qw]at b;rcases b with b|b
      .rw[tW K rs v b];rfl
      .rw[b];simp
    .cases h
   .obtain⟨Γ',x,wr,h1,J,h3⟩:=cW j.2 h;exact⟨Γ',x,wr,h1,J,h3⟩
  .exact cW j.2 h
 | .rc g pos R A_s rs F::Γ,j,h=>by
  simp only[fx]at h;split at h
  .rename_i t;have t:=Qf t;subst t;split at h
   .rename_i id ab D;have D:o[pos]?=some (.ptr id ab 0):=D;generalize N:cutAt pos o=rest at h;split at h
    .rename_i cs hbox;split at h
     .rename_i s hs;split at h
      .rename_i a ha;split at h
       .rename_i b;simp only[Qd]at h;obtain⟨⟨v,s'⟩,hv,hk⟩:=h;obtain⟨A,hc⟩:=uM hbox;rw[Qa,Qa]at b;obtain⟨b,B,m⟩:=b;have u:=iJ (ex:=some id) (λid' h=>by injection h with h;subst h;intro e k T xs q;rw[hc]at q;cases q) A_s 9 rest a (Qk m) ha
        obtain⟨hnz,hclo⟩:=oi (K.iR _ _ _ _ hs);obtain⟨z,l⟩:=j.1;refine⟨pC f (oK true pos false false (U.pv R s) (ec A_s a) (nN rs v) (U.pv R s')),_,_,nP ⟨z,λ_ cs G r' cs' i=> ?_,(λq=>by cases q),trivial,(λq=>by cases q)⟩,?_,hk⟩
        .simp only[oK]at i;split at i
         .rename_i he;injection i with i
          injection i with h1 J
          subst h1 J;obtain⟨rfl,rfl⟩:=he;exact l s a v s' hv
         .cases i
        .have M:(S.st.H id).ab=ab:=A;have hc1:(S.st.H id).c= .box (cs.map KV.pv):=by simp[aw.st,bu.pv,hc,cj.pv]
         have V:(o.map KV.pv)[pos]?=some (.ptr id ab 0):=by rw[Qr,D];rfl
         have H:cutAt pos (o.map KV.pv)=rest.map KV.pv:=by rw[<-N];simp[cutAt]
         simp only[ig,nQ,oK,Bool.false_and,QR,QE,Qp,V,H,M,hc1,kl,hclo,hnz,u,qar,FJ,Qn,eZ,bu.pv,cj.pv,K.lK];rw[Qc];have hgs:(U.pv R s').all PV.closed=true:=Qe.2 λy hy=>dY (K.ea R s' y hy)
         rw[gR,rE K rs v B,hgs];simp only[Qw,Qa]at b;rcases b with⟨p,d⟩|b
         .rw[tW K rs v p,Qe.2 λy hy=>K.plain R d s' y hy];rfl
         .rw[b];simp
       .cases h
      .exact cW j.2 h
     .cases h
    .cases h
   .cases h
  .exact cW j.2 h
 | .ro g pos R A_s rs F::Γ,j,h=>by
  simp only[fx]at h;split at h
  .rename_i t;have t:=Qf t;subst t;split at h
   .rename_i id ab D;have D:o[pos]?=some (.ptr id ab 0):=D;generalize N:cutAt pos o=rest at h;split at h
    .rename_i cs hbox;split at h
     .rename_i s hs;split at h
      .rename_i a ha;split at h
       .rename_i b;simp only[Qd]at h;obtain⟨⟨v,s'⟩,hv,hk⟩:=h;obtain⟨A,hc⟩:=uM hbox;rw[Qa,Qa]at b;obtain⟨b,B,m⟩:=b;have u:=iJ (ex:=some id) (λid' h=>by injection h with h;subst h;intro e k T xs q;rw[hc]at q;cases q) A_s 9 rest a (Qk m) ha
        obtain⟨hnn,hs⟩:cs.all KV.I0=true/\K.dec R lE cs=some s:=by
         unfold Bh at hs;split at hs
         .rename_i hn;exact⟨hn,hs⟩
         .cases hs
        obtain⟨hnz,hclo⟩:=oi (K.iR _ _ _ _ hs)
        have hnnp:(cs.map KV.pv).all PV.JA=true:=by rw[Qe];intro y hy;obtain⟨x,hx,rfl⟩:=Qq.1 hy;have:=Qe.1 hnn x hx;cases x<;>first|rfl|cases this
        obtain⟨z,l⟩:=j.1;refine⟨pC f (oK true pos false true (U.pv R s) (ec A_s a) (nN rs v) (U.pv R s')),_,none,nP ⟨z,λ_ cs G r' cs' i=> ?_,(λq=>by cases q),trivial,λ_ cs G r' cs' i=> ?_⟩,?_,hk⟩
        .simp only[oK]at i;split at i
         .rename_i he;injection i with i
          injection i with h1 J
          subst h1 J;obtain⟨rfl,rfl⟩:=he;exact(l s a v s' hv).2
         .cases i
        .simp only[oK]at i;split at i
         .rename_i he;injection i with i
          injection i with h1 J
          subst h1 J;rw[(l s a v s' hv).1,he.1]
         .cases i
        .have M:(S.st.H id).ab=ab:=A;have hc1:(S.st.H id).c= .box (cs.map KV.pv):=by simp[aw.st,bu.pv,hc,cj.pv]
         have V:(o.map KV.pv)[pos]?=some (.ptr id ab 0):=by rw[Qr,D];rfl
         have H:cutAt pos (o.map KV.pv)=rest.map KV.pv:=by rw[<-N];simp[cutAt]
         simp only[ig,nQ,oK,QR,QE,Qp,V,H,M,hc1,kl,hclo,hnz,u,qar,FJ,Q5,hnnp,Bool.and_self];rw[Qc];have hgs:(U.pv R s').all PV.closed=true:=Qe.2 λy hy=>dY (K.ea R s' y hy)
         rw[gR,rE K rs v B,hgs];simp only[Qw,Qa]at b;rcases b with⟨p,d⟩|b
         .rw[tW K rs v p,Qe.2 λy hy=>K.plain R d s' y hy];rfl
         .rw[b];simp
       .cases h
      .exact cW j.2 h
     .cases h
    .cases h
   .cases h
  .exact cW j.2 h
 | .nw g A_s R F::Γ,j,h=>by
  simp[fx]at h;split at h
  .rename_i t;have t:=Qf t;subst t;split at h
   .rename_i a ha;split at h
    .rename_i b;simp[Qd]at h
     let⟨s,hs,hk⟩:=h
     rw[Qa]at b
     let⟨b,m⟩:=b
     have u:=iJ (ex:=none) (λid h=>by cases h) A_s 9 o a (Qk m) ha
     let⟨z,l⟩:=j.1
     refine⟨pC f (oK false 0 true false [] (ec A_s a) .any (U.pv R s)),_,_,nP ⟨z,(λq=>by cases q),λ_ G r' cs' i=> ?_,trivial,(λq=>by cases q)⟩,?_,hk⟩
     .simp only[oK]at i;split at i
      .rename_i he;injection i with i
       injection i with h1 J
       subst h1 J;obtain⟨_,rfl⟩:=he;exact l a s hs
      .cases i
     .simp only[ig,nQ,oK,Qp,u,qar,Qn,eZ,bu.pv,cj.pv,K.lK];have hgs:(U.pv R s).all PV.closed=true:=Qe.2 λy hy=>dY (K.ea R s y hy)
      rw[Qc]
      .rfl
      rw[gR,hgs];simp only[Qw]at b;rcases b with b|b
      .rw[Qe.2 λy hy=>K.plain R b s y hy];rfl
      .rw[b];simp
    .cases h
   .exact cW j.2 h
  .exact cW j.2 h
end
end
section
def idx{α:Type}(xs:Z α)(n:Int):Y α:=if 0<=n then xs[n.toNat]? else none
def bn(b n:Nat):Bool:=decide (n*b<=140737488355328)&&decide (n<=maxLen)
def wo{b n:Nat}(h:bn b n=true):n*b<=140737488355328/\n<=maxLen:=by simpa[bn]using h
def E8{α:Type}{xs:Z α}{n:Int}{v:α}(h:idx xs n=some v):0<=n/\n.toNat<xs.length/\xs[n.toNat]?=some v:=by grind [idx]
section
variable{U:TU}
def Cm:Y Nat->Z (KV U)->Y (KV U)
 |none,cs=>(match cs with|x::_=>some x|[]=>none)
 |some n,cs=>(match Nat.ble n cs.length with|true=>some (.agg (cs.take n))|false=>none)
def zz(cs:Z (KV U))(b:Nat)(xs:Z (KV U)):Z (KV U):=cs.take b++xs++cs.drop (b+xs.length)
def I2(S:aw U):Z (KV U)->Z (Nat×Nat×aQ)->Y (Z (KV U))
 |cs,[]=>some cs
 |cs,(off,n,x)::rest=>
  match Nat.beq (x.bP S).cells.length n&&Nat.ble (off+n) cs.length&&(x.bP S).cells.all KV.one with
  |true=>I2 S (zz cs off (x.bP S).cells) rest
  |false=>none
def CO(S:aw U)(k:Nat):Z (Z (KV U))->Z (Nat×aQ)->Y (Z (Z (KV U)))
 |es,[]=>some es
 |es,(i,x)::rest=>
  match Nat.beq (x.bP S).cells.length k&&Nat.blt i es.length&&(x.bP S).cells.all KV.one with
  |true=>CO S k (es.set i (x.bP S).cells) rest
  |false=>none
def I4(K:TK U)(T:U.Ty):Z (Z (KV U))->Y (Z (U.den T))
 |[]=>some []
 |e::es=>match K.dec T lE e with
  |some v=>(match I4 K T es with|some vs=>some (v::vs)|none=>none)
  |none=>none
def O2{ρ:Type}(op:BinOp)(x y:KV U)(k:KV U->Y ρ):Y ρ:=
 match x,y with
 | .int d a,.int e b=>
  match op with
  | .shl=>if b<0 then none else k (.int d (d.wrap (a*2 ^ (min b.toNat d.bits))))
  | .shr=>if b<0 then none else k (.int d (a.fdiv (2 ^ (min b.toNat d.bits))))
  |_=>if d=e then(match op with
   | .add=>k (.int d (d.wrap (a+b)))
   | .sub=>k (.int d (d.wrap (a - b)))
   | .mul=>k (.int d (d.wrap (a*b)))
   | .quo=>if b=0 then none else k (.int d (d.wrap (a.tdiv b)))
   | .rem=>if b=0 then none else k (.int d (a.tmod b))
   | .and=>k (.int d (d.wrap ((BitVec.ofInt d.bits a&&&BitVec.ofInt d.bits b).toNat)))
   | .or=>k (.int d (d.wrap ((BitVec.ofInt d.bits a|||BitVec.ofInt d.bits b).toNat)))
   | .xor=>k (.int d (d.wrap ((BitVec.ofInt d.bits a^^^BitVec.ofInt d.bits b).toNat)))
   | .andNot=>k (.int d (d.wrap ((BitVec.ofInt d.bits a&&& ~~~ BitVec.ofInt d.bits b).toNat)))
   | .eql=>k (.bool (decide (a=b)))
   | .neq=>k (.bool (!decide (a=b)))
   | .lss=>k (.bool (decide (a<b)))
   | .leq=>k (.bool (decide (a<=b)))
   | .gtr=>k (.bool (decide (b<a)))
   | .geq=>k (.bool (decide (b<=a)))
   |_=>none)else none
 | .str a,.str b=>
  match op with
  | .eql=>k (.bool (decide (a=b)))
  | .neq=>k (.bool (!decide (a=b)))
  | .lss=>k (.bool (mj a b))
  | .leq=>k (.bool (mj a b||decide (a=b)))
  | .gtr=>k (.bool (!(mj a b||decide (a=b))))
  | .geq=>k (.bool (!mj a b))
  |_=>none
 |_,_=>none
def Dt:Z LK->Z (KV U)->Z (KV U)->Y Bool
 |[],cs,d=>(match cs,d with|[],[]=>some true|_,_=>none)
 |q::ks,cs,d=>(match q,cs,d with
  | .i,.int k a::cs,.int l b::d=>if k=l then(match Dt ks cs d with|some r=>some (decide (a=b)&&r)|none=>none)else none
  | .s,.str a::cs,.str b::d| .b,.bool a::cs,.bool b::d=>(match Dt ks cs d with|some r=>some (decide (a=b)&&r)|none=>none)
  |_,_,_=>none)
theorem Bd:∀{ks:Z LK} {cs e:Z (KV U)} {b:Bool},Dt ks cs e=some b->ic ks (cs.map KV.pv) (e.map KV.pv)=some b
 |[],cs,e,b,h=>by
  simp[Dt]at h;split at h
  .cases h;rfl
  .cases h
 |q::ks,cs,e,b,h=>by
  simp[Dt]at h;split at h
  .split at h
   .rename_i f;split at h
    .rename_i r d;injection h with h
     subst h;simp[Qj,KV.pv,ic,Qc f,Bd d,Qn]
    .cases h
   .cases h
  .split at h
   .rename_i r d;injection h with h
    subst h;simp[Qj,KV.pv,ic,Bd d,Qn]
   .cases h
  .split at h
   .rename_i r d;injection h with h
    subst h;simp[Qj,KV.pv,ic,Bd d,Qn]
   .cases h
  .cases h
def aw.TT(S:aw U)(T:U.Ty)(x:KV U):Y (Z (U.den T)):=Kd S.lk T x
def aw.OL(S:aw U):KV U->Y Nat
 | .cu=>some 0
 | .sl _ xs=>some xs.length
 | .own id ab=>(match S.row? id ab with
  |some r=>some r.xs.length
  |none=>(match S.Jn id ab with|some r=>some r.es.length|none=>none))
 | .view id ab b lo n=>(match S.row? id ab with
  |some r=>(match Nat.beq r.k b with|true=>some ((r.xs.drop lo).take n).length|false=>none)
  |none=>none)
 |_=>none
def zn(S:aw U):Y aQ->Int->Y Int
 |none,d=>some d
 |some x,_=>(match x.bP S with| .int _ n=>some n|_=>none)
def eQ(l h:Int)(n:Nat):Bool:=decide (0<=l)&&decide (l<=h)&&decide (h<=n)
def bV.cy:bV->Z aQ
 | .jR x| .box x| .C0 x| .load _ x| .si _ x| .not x| .conv _ x| .len _ x| .tZ x| .CP _ x| .rZ _ x
 | .clear _ _ x
 | .Iu _ _ x=>[x]
 | .pick c x y=>[c,x,y]
 | .alloc _=>[]
 | .store _ p x=>[p,x]
 | .build _ ps=>ps.map (·.2.2)
 | .GL _ _ _ _ ps=>ps.map (·.2)
 | .mq _ x i=>[x,i]
 | .bin _ x y| .oe _ x y| .CQ _ _ x y| .Gy _ x y| .rN _ x y| .C4 _ _ _ _ x y
 =>[x,y]
 | .call _ xs=>xs
 | .lp f xs=>f::xs
 | .bA _ _ _ _ s x=>[s,x]
 | .Il _ xs| .Im _ xs| .lf _ xs=>xs
 | .F1 _ _ _ _ l c=>[l,c]
 | .B2 _ x lo hi=>x::(lo.toList++hi.toList)
def bV.bJ(op:bV):Bool:=op.cy.all aQ.bJ
variable(K:TK U)
def Af(T:U.Ty)(b:Nat):Nat->Z (KV U)->Y (Z (U.den T))
 |0,_=>some []
 |n+1,cs=>(match K.dec T lE (cs.take b)with
  |some v=>(match Af T b n (cs.drop b)with|some vs=>some (v::vs)|none=>none)
  |none=>none)
def Nh(n:Y Nat)(d:Bool)(b:Nat):Bool:=
 match n with
 |none=> !d&&Nat.beq b 1
 |some m=>d&&Nat.beq m b
def Et{T:U.Ty}{d:Nat}:∀{n:Nat} {cs:Z (KV U)} {vs:Z (U.den T)},Af K T d n cs=some vs->vs.length=n/\∀(i:Nat) (v:U.den T),vs[i]?=some v->K.dec T lE ((cs.drop (i*d)).take d)=some v
 |0,cs,vs,h=>by
  rw[Af]at h;injection h with h
  subst h;exact⟨rfl,λi v b=>by simp at b⟩
 |n+1,cs,vs,h=>by
  rw[Af]at h;split at h
  .rename_i l k;split at h
   .rename_i e j;injection h with h
    subst h
    let⟨g,f⟩:=Et j
    refine⟨by rw[QW,g],λi v b=> ?_⟩
    cases i with
    |zero=>simp[List.getElem?_cons_zero,Qb]at b;subst b;simpa using k
    |succ i=>
     have:=f i v (by simpa using b)
     rw[List.drop_drop]at this
     rwa [Nat.succ_mul,qaq]
   .cases h
  .cases h
def MN{ρ:Type}(z:Bool)(id ab e b:Nat)(T:U.Ty)(xs:Z (U.den T))(k:KV U->Y (Nat×bu U)->Y ρ):Y ρ:=
 match z with
 |false=>k (.own id ab) (some (id,⟨ab,.row e b T xs⟩))
 |true=>k (.sl T xs) (some (id,⟨ab,.dead⟩))
def GK{α:Type}(f:α->Y UInt8):Z α->Y (Z UInt8)
 |[]=>some []
 |x::l=>(match f x,GK f l with
  |some b,some d=>some (b::d)
  |_,_=>none)
def MI:Z (KV U)->Y UInt8
 |[.int .u8 n]=>byteOf n
 |_=>none
def OQ:PV->Bool
 | .int .i64 (.ofNat 0)=>true
 |_=>false
def OP:PV->Bool
 | .str s=>Nat.beq s.size 0
 |_=>false
def OD{ρ:Type}(q:PQ)(xs:Z (KV U))(k:KV U->Y ρ):Y ρ:=
 match q,xs with
 | .B4,[.str a,.str b]=>(B4 a b).bind λv=>k (.str v)
 | .ja true false,[.str s,.int _ l]=>(ja s l s.size).bind λv=>k (.str v)
 | .ja false true,[.str s,.int _ h]=>(ja s 0 h).bind λv=>k (.str v)
 | .ja true true,[.str s,.int _ l,.int _ h]=>(ja s l h).bind λv=>k (.str v)
 | .PX,[.sl T xs]=>(GK (λv=>MI (K.dD T v)) xs).bind λl=>k (.str ⟨l.toArray⟩)
 | .NP T,[.int d n]=>k (.fH T (.int d n))
 | .NP T,[.str s]=>k (.fH T (.str s))
 | .Lg T z,[.Ka f e b n s]=>(match Nat.beq T f&&OQ z,Nat.beq T e&&OP z,Nat.beq f e with
  |true,_,false=>k (.cg [.int .i64 (cond b 0 n),.bool (!b)])
  |false,true,false=>k (.cg [.str (cond b s ⟨#[]⟩),.bool b])
  |_,_,_=>none)
 | .CG neg,[.jc b]=>k (.bool (xor neg b))
 | .CG neg,[.fH ..]=>k (.bool neg)
 | .neg,[.int d n]=>k (.int d (d.wrap (0 - n)))
 | .PC,[]=>k .any
 |_,_=>none
def dO{ρ:Type}(Γ:Z (bQ U))(nid:Nat)(S:aw U)(op:bV)(k:KV U->Y (Nat×bu U)->Y ρ):Y ρ:=
 match op with
 | .jR x=>k (x.bP S) none
 | .pick c x y=>(match c.bP S with
  | .bool b=>(match b with|true=>k (x.bP S) none|false=>k (y.bP S) none)
  |_=>none)
 | .box x=>(match(x.bP S).cells.all KV.one with
  |true=>k (.ptr nid ((S.H nid).ab+1) 0) (some (nid,⟨(S.H nid).ab+1,.box (x.bP S).cells⟩))
  |false=>none)
 | .C0 x=>(match(x.bP S).cells.all KV.one&&(x.bP S).cells.all KV.closed with
  |true=>k (.ref (x.bP S).cells) none
  |false=>none)
 | .alloc z=>(match z.all PV.bJ with
  |true=>k (.ptr nid ((S.H nid).ab+1) 0) (some (nid,⟨(S.H nid).ab+1,.box (z.map KV.Bx)⟩))
  |false=>none)
 | .load n p=>(match p.bP S with
  | .ptr id ab off=>(match S.om id ab with
   |some cs=>(match Cm n (cs.drop off)with|some x=>k x none|none=>none)
   |none=>none)
  | .cp id ab g i off=>(match S.row? id ab with
   |some r=>(match Nat.beq g r.k with
    |true=>(r.xs[i]?).bind λv=>(match Cm n ((K.dD r.T v).drop off)with|some x=>k x none|none=>none)
    |false=>none)
   |none=>(match S.Jn id ab with
    |some r=>(match Nat.beq g r.k with
     |true=>(match r.es[i]? with
      |some c=>(match Cm n (c.drop off)with|some x=>k x none|none=>none)
      |none=>none)
     |false=>none)
    |none=>none))
  | .ref cs=>(match Cm n cs with|some x=>k x none|none=>none)
  |_=>none)
 | .store n p x=>(match Nat.beq (x.bP S).cells.length n&&(x.bP S).cells.all KV.one with
  |true=>(match p.bP S with
   | .ptr id ab off=>(match S.om id ab with
    |some cs=>(match Nat.ble (off+n) cs.length with
     |true=>k .undef (some (id,⟨ab,.box (zz cs off (x.bP S).cells)⟩))
     |false=>none)
    |none=>none)
   | .cp id ab g i off=>(match S.row? id ab with
    |some r=>(match Nat.beq g r.k&&Nat.beq (U.size r.T) r.k&&Nat.ble (off+n) (U.size r.T)with
     |true=>(r.xs[i]?).bind λv=>(match K.dec r.T lE (zz (K.dD r.T v) off (x.bP S).cells)with
      |some v'=>k .undef (some (id,⟨ab,.row r.e r.k r.T (r.xs.set i v')⟩))
      |none=>none)
     |false=>none)
    |none=>none)
   |_=>none)
  |false=>none)
 | .build z ps=>(match z.all PV.bJ with
  |true=>(match I2 S (z.map KV.Bx) ps with|some cs=>k (.agg cs) none|none=>none)
  |false=>none)
 | .GL m e g z ps=>(match K.Jd e with
  |some T=>(match Nat.beq (U.size T) g&&z.all (λu=>u.all PV.bJ)with
   |true=>(match CO S g (z.map λu=>u.map KV.Bx) ps with
    |some es=>(match I4 K T es with
     |some vs=>(match m with
      |false=>k (.sl T vs) none
      |true=>k (.own nid ((S.H nid).ab+1)) (some (nid,⟨(S.H nid).ab+1,.row e g T vs⟩)))
     |none=>none)
    |none=>none)
   |false=>none)
  |none=>(match m&&z.all (λu=>u.all PV.bJ)with
   |true=>(match CO S g (z.map λu=>u.map KV.Bx) ps with
    |some es=>(match es.all (λc=>c.all KV.I0)with
     |true=>k (.own nid ((S.H nid).ab+1)) (some (nid,⟨(S.H nid).ab+1,.raw e g es⟩))
     |false=>none)
    |none=>none)
   |false=>none))
 | .si off p=>(match p.bP S with
  | .ptr id ab o=>(match S.om id ab with|some _=>k (.ptr id ab (o+off)) none|none=>none)
  | .cp id ab g i o=>(match S.row? id ab with|some r=>(r.xs[i]?).bind λ_=>k (.cp id ab g i (o+off)) none|none=>none)
  | .ref cs=>k (.ref (cs.drop off)) none
  |_=>none)
 | .mq g x i=>(match i.bP S with
  | .int _ n=>(match x.bP S with
   | .sl T xs=>(match Nat.beq (U.size T) g with
    |true=>(idx xs n).bind λv=>k (.ref (K.dD T v)) none
    |false=>none)
   | .own id ab=>(match S.row? id ab with
    |some r=>(match Nat.beq g r.k with
     |true=>(idx r.xs n).bind λ_=>k (.cp id ab g n.toNat 0) none
     |false=>none)
    |none=>(match S.Jn id ab with
     |some r=>(match n with
      | .ofNat j=>(match Nat.beq g r.k&&Nat.blt j r.es.length with
       |true=>k (.cp id ab g j 0) none
       |false=>none)
      |_=>none)
     |none=>none))
   | .view id ab A lo m=>(match S.row? id ab with
    |some r=>(match Nat.beq g r.k&&Nat.beq A g with
     |true=>(idx ((r.xs.drop lo).take m) n).bind λ_=>k (.cp id ab g (lo+n.toNat) 0) none
     |false=>none)
    |none=>none)
   |_=>none)
  |_=>none)
 | .bin op x y=>O2 op (x.bP S) (y.bP S) λv=>k v none
 | .oe neg x y=>(match x.bP S,y.bP S with
  | .agg [.int F a,.str s],.agg [.int D b,.str t]=>if F=D then k (.bool (xor neg (decide (a=b)&&decide (s=t)))) none else none
  |_,_=>none)
 | .CQ neg ks x y=>(match x.bP S,y.bP S with
  | .agg cs,.agg J=>(match Dt ks cs J with|some b=>k (.bool (xor neg b)) none|none=>none)
  |_,_=>none)
 | .Iu n off x=>(match x.bP S with
  | .agg cs=>(match Cm n (cs.drop off)with|some v=>k v none|none=>none)
  |_=>none)
 | .lf q xs=>OD K q (xs.map (·.bP S)) λv=>k v none
 | .Gy neg x y=>(match x.bP S,y.bP S with
  | .bool a,.bool b=>k (.bool (xor neg (decide (a=b)))) none
  |_,_=>none)
 | .not x=>(match x.bP S with| .bool b=>k (.bool !b) none|_=>none)
 | .conv F x=>(match x.bP S with| .int _ n=>k (.int F (F.wrap n)) none|_=>none)
 | .len true x=>(match x.bP S with| .str s=>k (.int .i64 s.size) none|_=>none)
 | .len false x=>(match S.OL (x.bP S)with|some n=>k (.int .i64 n) none|none=>none)
 | .call f xs=>fx K nid S f (xs.map (·.bP S)) k Γ
 | .lp I xs=>(match I.bP S with
  | .aT f B=>fx K nid S f (xs.map (·.bP S)++B) k Γ
  | .fe f first=>fx K nid S f (first++xs.map (·.bP S)) k Γ
  |_=>none)
 | .bA z e g bytes s x=>(match K.Jd e with
  |some T=>(match Nat.beq (U.size T) g with
   |true=>(match S.TT T (x.bP S)with
    |some news=>(match s.bP S with
     | .cu=>bif bn bytes news.length then MN z nid ((S.H nid).ab+1) e g T news k else none
     | .own id ab=>(match S.row? id ab with
      |some r=>(match Nat.beq r.e e&&Nat.beq r.k g with
       |true=>(match uf r.T T r.xs with
        |some xs=>bif bn bytes (xs.length+news.length)then MN z id (ab+1) e g T (xs++news) k else none
        |none=>none)
       |false=>none)
      |none=>none)
     |_=>none)
    |none=>none)
   |false=>none)
  |none=>none)
 | .tZ x=>(match x.bP S with
  | .ptr id ab off=>(match S.om id ab with|some _=>k (.ptr id ab off) none|none=>none)
  | .cp id ab g i o=>(match S.row? id ab with|some r=>(r.xs[i]?).bind λ_=>k (.cp id ab g i o) none|none=>none)
  | .ref cs=>k (.ref cs) none
  | .aT f cs=>k (.aT f cs) none
  |_=>none)
 | .CP i x=>(match x.bP S with
  | .cg cs=>(match cs[i]? with|some y=>k y none|none=>none)
  |_=>none)
 | .Il f B=>k (.aT f (B.map (·.bP S))) none
 | .Im f first=>k (.fe f (first.map (·.bP S))) none
 | .F1 e g bytes z l c=>(match K.Jd e with
  |some T=>(match Nat.beq (U.size T) g&&z.all PV.bJ with
   |true=>(match K.dec T lE (z.map KV.Bx)with
    |some d=>(match l.bP S,c.bP S with
     | .int _ n,.int _ m=>bif decide (n<=m)&&decide (0<=n)&&bn bytes m.toNat then k (.own nid ((S.H nid).ab+1)) (some (nid,⟨(S.H nid).ab+1,.row e g T (replicate n.toNat d)⟩))else none
     |_,_=>none)
    |none=>none)
   |false=>none)
  |none=>none)
 | .B2 g x lo hi=>(match x.bP S with
  | .sl T xs=>(match Nat.beq (U.size T) g with
   |true=>(match zn S lo 0,zn S hi xs.length with
    |some l,some h=>bif eQ l h xs.length then k (.sl T ((xs.take h.toNat).drop l.toNat)) none else none
    |_,_=>none)
   |false=>none)
  | .own id ab=>(match S.row? id ab with
   |some r=>(match Nat.beq g r.k with
    |true=>(match zn S lo 0,zn S hi r.xs.length with
     |some l,some h=>bif eQ l h r.xs.length then k (.view id ab g l.toNat (h.toNat - l.toNat)) none else none
     |_,_=>none)
    |false=>none)
   |none=>none)
  | .view id ab A G H=>(match S.row? id ab with
   |some r=>(match Nat.beq g r.k&&Nat.beq A g with
    |true=>(match zn S lo 0,zn S hi H with
     |some l,some h=>bif eQ l h H then k (.view id ab g (G+l.toNat) (h.toNat - l.toNat)) none else none
     |_,_=>none)
    |false=>none)
   |none=>none)
  |_=>none)
 | .C4 e n len g x i=>(match x.bP S,i.bP S with
  | .agg cs,.int _ j=>(match K.Jd e with
   |some T=>(match Nat.beq (U.size T) g&&Nh n (U.agg T) g with
    |true=>(match Af K T g len cs with
     |some vs=>(idx vs j).bind λv=>k (tf K T v) none
     |none=>none)
    |false=>none)
   |none=>none)
  |_,_=>none)
 | .clear g z x=>(match x.bP S with
  | .view id ab A lo n=>(match S.row? id ab with
   |some r=>(match Nat.beq g r.k&&Nat.beq A g&&Nat.beq (U.size r.T) g&&z.all PV.bJ&&Nat.beq z.length g&&(z.map (KV.Bx:PV->KV U)).all KV.one with
    |true=>(match K.dec r.T lE (z.map KV.Bx)with
     |some d=>k (.cg []) (some (id,⟨ab,.row r.e r.k r.T (r.xs.take lo++replicate n d++r.xs.drop (lo+n))⟩))
     |none=>none)
    |false=>none)
   |none=>none)
  |_=>none)
 | .rN mx x y=>(match x.bP S,y.bP S with
  | .int F a,.int D b=>if F=D then k (.int F (if mx then(if b>a then b else a)else(if b<a then b else a))) none else none
  |_,_=>none)
 | .rZ neg x=>(match x.bP S with
  | .cu=>k (.bool !neg) none
  | .sl _ xs=>bif xs.isEmpty then k .dI none else k (.bool neg) none
  |_=>none)
variable{K}
variable{S:aw U}
def sk{id ab:Nat}{cs:Z (KV U)}(h:S.om id ab=some cs):(S.st.H id).ab=ab/\(S.st.H id).c= .box (cs.map KV.pv):=by
 let⟨h1,b⟩:=uM h
 grind [aw.st,bu.pv,cj.pv]
theorem wT:∀{n:Y Nat} {cs:Z (KV U)} {x:KV U},Cm n cs=some x->nr n (cs.map KV.pv)=some x.pv
 |none,[],x,h=>by cases h
 |none,y::l,x,h=>by cases h;rfl
 |some n,cs,x,h=>by
  simp[Cm]at h;split at h
  .rename_i b;injection h with h
   subst h;rw[nr,Qc (by simpa using Qk b),KV.pv,KV.bR,List.map_take]
  .cases h
theorem B1(cs xs:Z (KV U))(b:Nat):(zz cs b xs).map KV.pv=eF (cs.map KV.pv) b (xs.map KV.pv):=by simp[zz,eF,List.map_append,List.map_take,List.map_drop]
def Tu(S:aw U){x:PV}(h:x.bJ=true):(KV.Bx x:KV U).pv=x:=(mT (S:=S) (x:= .qP x) h).symm
def tt{z:Z PV}(S:aw U)(h:z.all PV.bJ=true):(z.map (KV.Bx:PV->KV U)).map KV.pv=z:=by
 induction z with
 |nil=>rfl
 |cons x l b=>rw[QA,Qa]at h;rw[Qj,Qj,Tu S h.1,b h.2]
def J6:∀{ps:Z (Nat×Nat×aQ)} {cs cs':Z (KV U)},(∀p∈ps,p.2.2.bJ=true)->I2 S cs ps=some cs'->lJ S.st (cs.map KV.pv) ps=some (cs'.map KV.pv)
 |[],cs,cs',_,h=>by cases h;rfl
 |(off,n,x)::ps,cs,cs',e,h=>by
  simp[I2]at h;split at h
  .rename_i f;simp only[Qa]at f;obtain⟨⟨d,b⟩,i⟩:=f;have d:=Qf d;have b:=Qk b;rw[lJ,mT (e _ Qx),qz,oT,Qc ⟨by simpa using d,by simpa using b,i⟩,<-B1]
   exact J6 (λp g=>e p (Qz _ g)) h
  .cases h
def CN{g:Nat}:∀{ps:Z (Nat×aQ)} {es b:Z (Z (KV U))},(∀p∈ps,p.2.bJ=true)->CO S g es ps=some b->ob S.st g (es.map λe=>e.map KV.pv) ps=some (b.map λe=>e.map KV.pv)
 |[],es,b,_,h=>by cases h;rfl
 |(i,x)::ps,es,b,j,h=>by
  simp[CO]at h;split at h
  .rename_i k;simp only[Qa]at k;obtain⟨⟨f,d⟩,m⟩:=k;have f:=Qf f;have d:i<es.length:=Qk d;rw[ob,mT (j _ Qx),qz,oT,Qc ⟨by simpa using f,by simpa using d,m⟩,<-List.map_set]
   exact CN (λp l=>j p (Qz _ l)) h
  .cases h
def Ke{T:U.Ty}:∀{es:Z (Z (KV U))} {vs:Z (U.den T)},I4 K T es=some vs->xd (es.map λe=>e.map KV.pv)=vs.map (U.pv T)/\(es.map λe=>e.map KV.pv).all (λu=>u.all PV.closed)=true
 |[],vs,h=>by cases h;exact⟨rfl,rfl⟩
 |e::es,vs,h=>by
  rw[I4]at h;split at h
  .rename_i v f;split at h
   .rename_i d b;injection h with h
    subst h
    let⟨h1,j⟩:=Ke b
    let⟨i,g⟩:=oi (K.iR _ _ _ _ f)
    refine⟨?_,?_⟩
    .rw[Qj,Qj,<-h1,<-i];rfl
    .rw[Qj,QA,kl,g,j];rfl
   .cases h
  .cases h
def JV{y:PV}(h:y.ea=true):y.one=true:=by cases y<;>first|rfl|cases h
def Lr(T:U.Ty)(vs:Z (U.den T)){b:Nat}(f:U.size T=b)(K:TK U):(vs.map (U.pv T)).all (λu=>u.length==b&&u.all PV.one)=true:=by
 refine Qe.2 λu e=> ?_
 obtain⟨v,_,rfl⟩:=Qq.1 e;rw[K.len,f,Qe.2 λy d=>JV (K.ea T v y d)]
 simp
def TS{T:U.Ty}{x:KV U}{vs:Z (U.den T)}(h:S.TT T x=some vs):gM S.st x.pv=some (vs.map (U.pv T)):=by
 unfold aw.TT Kd at h;split at h
 .cases h;rfl
 .obtain⟨e,rfl⟩:=jf h;subst e;rfl
 .rename_i id ab
  let⟨f,e,k,g⟩:=Lt h
  have d:(S.st.H id).c= .row e k (vs.map (U.pv T)):=by simp[aw.st,bu.pv,g,cj.pv]
  have b:(S.st.H id).ab=ab:=f;rw[KV.pv,gM,Qc b,d]
 .cases h
def IE{T:U.Ty}:∀{xs:Z (U.den T)} {l:Z UInt8},GK (λv=>MI (K.dD T v)) xs=some l->bytesOf (xs.map (U.pv T))=some l
 |[],l,h=>h
 |x::xs,l,h=>by
  simp only[GK]at h;split at h
  .rename_i b g d e;injection h with h
   subst h;unfold MI at d;split at d
   .rename_i n f;have:=K.lK T x;rw[f]at this;simp only[Qj,QC,KV.pv]at this;simp only[Qj,<-this,bytesOf,d,IE e]
   .cases d
  .cases h
def Sa{z:PV}(h:OQ z=true):z= .int .i64 0:=by
 unfold OQ at h;split at h
 .rfl
 .cases h
def R9{z:PV}(h:OP z=true):z= .str ⟨#[]⟩:=by
 unfold OP at h;split at h
 .rename_i s;have h:=Qf h;congr 1;exact ByteArray.ext (qa1 h)
 .cases h
def R0{ρ:Type}{q:PQ}{xs:Z (KV U)}{k:KV U->Y ρ}{r:ρ}(h:OD K q xs k=some r):∃v,je q (xs.map KV.pv)=some v.pv/\k v=some r:=by
 unfold OD at h;split at h
 .simp only[Qd]at h;obtain⟨v,d,h⟩:=h;exact⟨_,by simp only[Qj,QC,KV.pv,je,d,Qn],h⟩
 .simp only[Qd]at h;obtain⟨v,d,h⟩:=h;exact⟨_,by simp only[Qj,QC,KV.pv,je,d,Qn],h⟩
 .simp only[Qd]at h;obtain⟨v,d,h⟩:=h;exact⟨_,by simp only[Qj,QC,KV.pv,je,d,Qn],h⟩
 .simp only[Qd]at h;obtain⟨v,d,h⟩:=h;exact⟨_,by simp only[Qj,QC,KV.pv,je,d,Qn],h⟩
 .simp only[Qd]at h;obtain⟨v,d,h⟩:=h;exact⟨_,by simp only[Qj,QC,KV.pv,je,IE d,Qn],h⟩
 .exact⟨_,by simp[KV.pv,je,PV.plain,PV.one],h⟩
 .exact⟨_,by simp[KV.pv,je,PV.plain,PV.one],h⟩
 .rename_i T z m l b n s;split at h
  .rename_i e f;rw[Qa]at e;have j:=Qf e.1;have i:=Sa e.2;have g:=qaA f;subst j i;refine⟨_,?_,h⟩;cases b<;>simp[KV.pv,KV.ye,je,Ne.symm g]
  .rename_i _ e f;rw[Qa]at e;have j:=Qf e.1;have i:=R9 e.2;have g:=qaA f;subst j i;refine⟨_,?_,h⟩;cases b<;>simp[KV.pv,KV.ye,je,g]
  .cases h
 .exact⟨_,rfl,h⟩
 .exact⟨_,rfl,h⟩
 .exact⟨_,rfl,h⟩
 .exact⟨_,rfl,h⟩
 .cases h
theorem R8{x:KV U}{n:Nat}(h:S.OL x=some n):∃es,gM S.st x.pv=some es/\es.length=n:=by
 unfold aw.OL at h;split at h
 .injection h with h;exact⟨[],rfl,h⟩
 .rename_i T xs;injection h with h;exact⟨xs.map (U.pv T),rfl,by simpa using h⟩
 .rename_i id ab;split at h
  .rename_i r d
   let⟨b,e⟩:=jw d
   injection h with h
   refine⟨r.xs.map (U.pv r.T),?_,by simpa using h⟩
   rw[KV.pv,gM,Qc b,e]
  .split at h
   .rename_i r d
    let⟨b,e⟩:=Jm d
    injection h with h
    refine⟨r.es.map λc=>c.map KV.pv,?_,by simpa using h⟩
    rw[KV.pv,gM,Qc b,e]
   .cases h
 .rename_i id ab g lo m;split at h
  .rename_i r d
   let⟨b,e⟩:=jw d
   split at h
   .rename_i f;injection h with h
    refine⟨((r.xs.drop lo).take m).map (U.pv r.T),?_,by rw[Qv];exact h⟩
    rw[KV.pv,gM,Qc b,e];simp only;rw[Qc (Qf f),List.map_take,List.map_drop]
   .cases h
  .cases h
 .cases h
def FT{l:Z aQ}{y:Y aQ}{d n:Int}(hi1:∀(y:aQ) (d n:Int),y∈l->zn S (some y) d=some n->∃b,y.val S.st= .int b n)(e:∀z,y=some z->z∈l)(h:zn S y d=some n):mW S.st y d=some n:=by
 cases y with
 |none=>exact h
 |some z=>grind [mW]
theorem AQ{xs:Z aQ}(h:∀x∈xs,x.bJ=true):xs.map (·.val S.st)=(xs.map (·.bP S)).map KV.pv:=by rw[List.map_map];exact QU λx b=>mT (h x b)
def SI{ρ:Type}{op:BinOp}{x y:KV U}{k:KV U->Y ρ}{r:ρ}(h:O2 op x y k=some r):∃v:KV U,Dw op x.pv y.pv=some v.pv/\k v=some r:=by
 unfold O2 at h;split at h
 .rename_i g a e b;cases op<;>simp only at h<;>simp only[KV.pv,Dw,C2]<;>
  first
  |(
    split at h
    .cases h
    .rename_i d;exact⟨_,by rw[Qg d];rfl,h⟩)
  |(
    split at h
    .rename_i d;rw[Qc d]
     first
     |exact⟨_,rfl,h⟩
     |(
       split at h
       .cases h
       .rename_i f;exact⟨_,by rw[Qg f];rfl,h⟩)
     |cases h
    .cases h)
 .rename_i a b;cases op<;>simp only at h<;>simp only[KV.pv,Dw,GM]<;>first|exact⟨_,rfl,h⟩|cases h
 .cases h
def Ko(K:TK U){ρ:Type}{z:Bool}{id ab e b:Nat}{T:U.Ty}{xs:Z (U.den T)}{k:KV U->Y (Nat×bu U)->Y ρ}{r:ρ}(h:MN z id ab e b T xs k=some r):
  ∃x wr,C3 z id ab e b (xs.map (U.pv T))=some (x.pv,wr.map eZ)/\k x wr=some r:=by
 cases z with
 |false=>exact⟨_,_,rfl,h⟩
 |true=>
  refine⟨_,_,?_,h⟩;simp only[C3];rw[Qc]
  .rfl
  .refine Qe.2 λu f=> ?_
   obtain⟨x,_,rfl⟩:=Qq.1 f;exact Qe.2 λy d=>dY (K.ea _ _ _ d)
def Lc{P:Pr}{ρ:Type}{Γ:Z (bQ U)}{nid:Nat}{op:bV}{k:KV U->Y (Nat×bu U)->Y ρ}{r:ρ}(hΓ:jI P Γ)(ho:op.bJ=true)(h:dO K Γ nid S op k=some r):
  ∃V x wr,fQ P V/\exec V nid S.st op=some (x.pv,wr.map eZ)/\k x wr=some r:=by
 have t:∀x∈op.cy,x.val S.st=(x.bP S).pv:=λx F=>mT (Qe.1 ho x F)
 have hoc:∀x∈op.cy,x.bJ=true:=λx F=>Qe.1 ho x F
 have pure:∀{x:KV U} {wr:Y (Nat×bu U)},exec (λ_=>none) nid S.st op=some (x.pv,wr.map eZ)->k x wr=some r->∃V x wr,fQ P V/\exec V nid S.st op=some (x.pv,wr.map eZ)/\k x wr=some r:=
  λ{x wr} g D=>⟨λ_=>none,x,wr,λf m hm=>(by cases hm),g,D⟩
 cases op with
 |jR x=>
  have g:=t x (by simp[bV.cy])
  exact pure (by rw[exec,g];rfl) h
 |pick c x y|rN mx x y=>grind [bV.cy,dO,exec,KV.pv]
 |box x=>
  have g:=t x (by simp[bV.cy])
  simp only[dO]at h;split at h
  .rename_i B;refine pure ?_ h;rw[exec,g,qz,oT,Qc B];rfl
  .cases h
 |C0 x=>
  have g:=t x (by simp[bV.cy])
  simp only[dO]at h;split at h
  .grind [exec,qz,oT,kl,KV.pv,KV.bR]
  .cases h
 |alloc z=>
  simp only[dO]at h;split at h
  .rename_i B;refine pure ?_ h;simp only[exec,Qn,eZ,bu.pv,cj.pv,tt S B];rfl
  .cases h
 |load n p=>
  have g:=t p (by simp[bV.cy])
  simp only[dO]at h;split at h
  .rename_i id ab off H;rw[H]at g;split at h
   .rename_i cs B;obtain⟨D,G⟩:=sk B;split at h
    .rename_i x F;refine pure ?_ h;have:=wT F;rw[List.map_drop]at this
     grind [exec,KV.pv]
    .cases h
   .cases h
  .rename_i id ab kk i off H;rw[H]at g;split at h
   .rename_i N B;obtain⟨D,G⟩:=jw B;split at h
    .rename_i A;simp only[Qd]at h;obtain⟨v,hv,h⟩:=h;split at h
     .rename_i x F;refine pure ?_ h;have:=wT F;rw[List.map_drop,K.lK]at this;rw[exec,g];simp only[KV.pv];rw[Qc D,G];simp only[Qf A,Qp,Qr,hv,Qn,this,Q5]
     .cases h
    .cases h
   .split at h
    .rename_i N B;obtain⟨D,G⟩:=Jm B;split at h
     .rename_i A;split at h
      .rename_i c hc;split at h
       .rename_i x F;refine pure ?_ h;have:=wT F;rw[List.map_drop]at this;rw[exec,g];simp only[KV.pv];rw[Qc D,G];simp only[Qf A,Qp,Qr,hc,Qn,this,Q5]
       .cases h
      .cases h
     .cases h
    .cases h
  .grind [exec,KV.pv,KV.bR,wT]
  .cases h
 |store n p x=>
  have g:=t p (by simp[bV.cy])
  have D:=t x (by simp[bV.cy])
  simp only[dO]at h;split at h
  .rename_i hc;rw[Qa]at hc;have R:=Qf hc.1
   have hc1:(x.val S.st).cells.length=n/\(x.val S.st).cells.all PV.one=true:=by grind [qz,oT]
   split at h
   .rename_i id ab off H;rw[H]at g;split at h
    .rename_i cs B;obtain⟨G,I⟩:=sk B;split at h
     .rename_i hle;refine pure ?_ h;rw[exec,Qc hc1,g];simp only[KV.pv];rw[Qc G,I];simp only[Qv];rw[Qc (Qk hle),D,qz]
      grind [eZ,bu.pv,cj.pv,B1]
     .cases h
    .cases h
   .rename_i id ab kk i off H;rw[H]at g;split at h
    .rename_i N B;obtain⟨G,I⟩:=jw B;split at h
     .rename_i A;simp only[Qa]at A;obtain⟨⟨hk1,hk2⟩,hk3⟩:=A;have hk1:=Qf hk1;have hk2:=Qf hk2;have hk3:=Qk hk3;simp only[Qd]at h;obtain⟨v,hv,h⟩:=h;split at h
      .rename_i v' hd;refine pure ?_ h;obtain⟨h5,_⟩:=oi (K.iR _ _ _ _ hd);rw[B1,K.lK]at h5
       have h6:eF (U.pv N.T v) off (((x.bP S).cells.map KV.pv).map nz)=U.pv N.T v':=by
        rw[<-h5]
        have hnz:(U.pv N.T v).map nz=U.pv N.T v:=by
         refine(QU λy M=> ?_).trans (List.map_id _)
         have:=K.ea _ _ _ M;cases y<;>first|rfl|cases this
        simp only[eF,List.map_append,List.map_take,List.map_drop,hnz,Qv]
       rw[exec,Qc hc1,g];simp only[KV.pv];rw[Qc G,I];simp only[hk1,Qp,Qr,hv,Qn,K.len];rw[Qc hk3,D,qz,h6];simp only[eZ,bu.pv,cj.pv,List.map_set]
      .cases h
     .cases h
    .cases h
   .cases h
  .cases h
 |build z ps=>
  simp only[dO]at h;split at h
  .rename_i hz;split at h
   .rename_i cs hf;refine pure ?_ h;have:=J6 (λp H=>hoc _ (by simp only[bV.cy,Qq];exact⟨p,H,rfl⟩)) hf
    rw[tt S hz]at this
    grind [exec,KV.pv,KV.bR]
   .cases h
  .cases h
 |GL m e kk z ps=>
  simp only[dO]at h;split at h
  .rename_i T hT;split at h
   .rename_i hz;rw[Qa]at hz;split at h
    .rename_i es hf;split at h
     .rename_i vs hd;have g:=CN (λp H=>hoc _ (by simp only[bV.cy,Qq];exact⟨p,H,rfl⟩)) hf
      have D:(z.map λu=>u.map (KV.Bx:PV->KV U)).map (λe=>e.map KV.pv)=z:=by
       rw[List.map_map];refine(QU λu hu=> ?_).trans (List.map_id _)
       exact tt S (Qe.1 hz.2 u hu)
      rw[D]at g;obtain⟨G,I⟩:=Ke hd;split at h
      .refine pure ?_ h
       grind [exec,KV.pv]
      .refine pure ?_ h;rw[exec,g];simp only[Bool.true_eq_false,false_and,QE,G,KV.pv,Qn,eZ,bu.pv,cj.pv];rfl
     .cases h
    .cases h
   .cases h
  .split at h
   .rename_i hz;rw[Qa]at hz;split at h
    .rename_i es hf;split at h
     .rename_i hnn;have g:=CN (λp H=>hoc _ (by simp only[bV.cy,Qq];exact⟨p,H,rfl⟩)) hf
      have D:(z.map λu=>u.map (KV.Bx:PV->KV U)).map (λe=>e.map KV.pv)=z:=by
       rw[List.map_map];refine(QU λu hu=> ?_).trans (List.map_id _)
       exact tt S (Qe.1 hz.2 u hu)
      rw[D]at g
      have G:xd (es.map λe=>e.map KV.pv)=es.map λe=>e.map KV.pv:=by
       unfold xd;rw[List.map_map];refine QU λc hc=> ?_
       simp only[Function.comp,List.map_map];refine QU λy M=> ?_
       have:=Qe.1 (Qe.1 hnn c hc) y M;cases y<;>first|rfl|cases this|simp[KV.pv,nz]
      have hm:m=true:=hz.1;subst hm;refine pure ?_ h;rw[exec,g];simp only[Bool.true_eq_false,false_and,QE,G,KV.pv,Qn,eZ,bu.pv,cj.pv];rfl
     .cases h
    .cases h
   .cases h
 |si off p=>
  have g:=t p (by simp[bV.cy])
  simp only[dO]at h;split at h
  .rename_i id ab o H;rw[H]at g;split at h
   .rename_i cs B;obtain⟨D,G⟩:=sk B
    grind [exec,KV.pv]
   .cases h
  .rename_i id ab kk i o H;rw[H]at g;split at h
   .rename_i N B;obtain⟨D,G⟩:=jw B
    grind [exec,KV.pv]
   .cases h
  .rename_i cs H;rw[H]at g;refine pure ?_ h;rw[exec,g];simp only[KV.pv,KV.bR,List.map_drop,Q5]
  .cases h
 |mq kk x i=>
  have g:=t x (by simp[bV.cy])
  have D:=t i (by simp[bV.cy])
  simp only[dO]at h;split at h
  .rename_i kd n hn;rw[hn]at D;split at h
   .rename_i T xs F;rw[F]at g;split at h
    .rename_i A;simp only[Qd]at h;obtain⟨v,hv,h⟩:=h;obtain⟨hi0,hi1,hi2⟩:=E8 hv;refine pure ?_ h;rw[exec,D];simp only[KV.pv];rw[g];simp only[KV.pv,Qv];rw[Qc ⟨hi0,O⟩];simp only[Qr,hi2,Qn,K.len,Qf A,Qp,KV.bR,K.lK,Q5]
    .cases h
   .rename_i id ab F;rw[F]at g;split at h
    .rename_i N B;obtain⟨G,I⟩:=jw B;split at h
     .rename_i A;simp only[Qd]at h;obtain⟨v,hv,h⟩:=h;obtain⟨hi0,hi1,hi2⟩:=E8 hv;refine pure ?_ h;rw[exec,D];simp only[KV.pv];rw[g];simp only[KV.pv];rw[Qc G,I];simp only[Qv];rw[Qc ⟨Qf A,hi0,O⟩];rfl
     .cases h
    .split at h
     .rename_i N B;obtain⟨G,I⟩:=Jm B;split at h
      .rename_i j;split at h
       .rename_i A;rw[Qa]at A;have hlt:j<N.es.length:=Qk A.2;refine pure ?_ h;rw[exec,D];simp only[KV.pv];rw[g];simp only[KV.pv];rw[Qc G,I];simp only[Qv];rw[Qc ⟨Qf A.1,Int.natCast_nonneg j,Int.ofNat_lt.2 hlt⟩];rfl
       .cases h
      .cases h
     .cases h
   .rename_i id ab kk' lo m F;rw[F]at g;split at h
    .rename_i N B;obtain⟨G,I⟩:=jw B;split at h
     .rename_i A;rw[Qa]at A;simp only[Qd]at h;obtain⟨v,hv,h⟩:=h;obtain⟨hi0,hi1,hi2⟩:=E8 hv;refine pure ?_ h;rw[exec,D];simp only[KV.pv];rw[g];simp only[KV.pv];rw[Qc G,I];simp only[Qv];simp only[List.length_take,List.length_drop]at hi1;rw[Qc ⟨Qf A.1,Qf A.2,hi0,O,O⟩];rfl
     .cases h
    .cases h
   .cases h
  .cases h
 |C4 e n len kk x i=>
  have g:=t x (by simp[bV.cy])
  have D:=t i (by simp[bV.cy])
  simp only[dO]at h;split at h
  .rename_i cs _ j F hi;rw[F]at g;rw[hi]at D;split at h
   .rename_i T hT;split at h
    .rename_i A;split at h
     .rename_i vs hvs;simp only[Qd]at h;obtain⟨v,hv,h⟩:=h;obtain⟨hlen,hget⟩:=Et K hvs
      have hv0:0<=j/\vs[j.toNat]?=some v:=by grind [idx]
      have hjl:j.toNat<vs.length:=(QI.1 hv0.2).1;obtain⟨hnz,_⟩:=oi (K.iR _ _ _ _ (hget _ _ hv0.2));rw[Qa]at A;have hkk:=Qf A.1;have hpl:=K.len T v
      have hcl:((cs.drop (j.toNat*kk)).take kk).length=kk:=by grind
      refine pure ?_ h;rw[exec,g,D];simp only[KV.pv,KV.bR];rw[Qc ⟨hv0.1,O⟩,wM]
      have hsplit:((cs.map KV.pv).drop (j.toNat*kk)).map nz=U.pv T v++(((cs.drop (j.toNat*kk)).drop kk).map KV.pv).map nz:=by rw[<-hnz,<-List.map_append,<-List.map_append,List.take_append_drop,List.map_drop,List.map_drop,List.map_drop]
      rw[hsplit]
      cases n with
      |none=>
       simp only[Nh,Qa,QQ]at A;have h1k:=Qf A.2.2;obtain⟨y,hy1,hy2⟩:=oE K v A.2.1
       cases H:U.pv T v with
       |nil=>rw[H]at hy2;cases hy2
       |cons y0 l=>grind [nr]
      |some m=>
       simp only[Nh,Qa]at A;have hm:=Qf A.2.2;subst hm;simp only[nr];rw[Qc (by rw[QY];omega),List.take_append_of_le_length O,List.take_of_length_le O,qK v A.2.1]
       rfl
     .cases h
    .cases h
   .cases h
  .cases h
 |clear kk z x=>
  have g:=t x (by simp[bV.cy])
  simp only[dO]at h;split at h
  .rename_i id ab kk' lo n F;rw[F]at g;split at h
   .rename_i N B;obtain⟨G,I⟩:=jw B;split at h
    .rename_i A;simp only[Qa]at A;obtain⟨⟨⟨⟨⟨k1,k2⟩,k3⟩,k4⟩,k5⟩,k6⟩:=A;split at h
     .rename_i d hd;refine pure ?_ h;have h7:=(oi (K.iR _ _ _ _ hd)).1;rw[tt S k4]at h7;have h8:z.all PV.one=true:=by rw[<-oT,tt S k4]at k6;exact k6
      have e1:=Qf k1;have e2:=Qf k2;have e5:=Qf k5;rw[exec,g];simp only[KV.pv];rw[Qc G,I];simp only;rw[Qc ⟨e1,e2,e5,h8⟩,h7];simp only[Qn,eZ,bu.pv,cj.pv,List.map_append,List.map_take,List.map_drop,List.map_replicate,KV.ye];rw[e1]
     .cases h
    .cases h
   .cases h
  .cases h
 |bin op x y=>
  have g:=t x (by simp[bV.cy])
  have D:=t y (by simp[bV.cy])
  simp only[dO]at h;obtain⟨v,G,I⟩:=SI h
  grind [exec]
 |oe neg x y=>grind [bV.cy,dO,exec,KV.pv,KV.ye]
 |lf q xs=>
  simp only[dO]at h;have F:xs.map (·.val S.st)=(xs.map (·.bP S)).map KV.pv:=by rw[List.map_map];exact QU λy M=>t y (by simpa[bV.cy]using M)
  obtain⟨v,hv,h⟩:=R0 h;refine pure ?_ h;rw[exec,F,hv];rfl
 |Iu n off x=>
  have g:=t x (by simp[bV.cy])
  simp only[dO]at h;split at h
  .rename_i cs H;rw[H]at g;split at h
   .rename_i v F;refine pure ?_ h;have:=wT F;rw[List.map_drop]at this
    grind [exec,KV.pv,KV.bR]
   .cases h
  .cases h
 |Gy neg x y=>
  have g:=t x (by simp[bV.cy])
  have D:=t y (by simp[bV.cy])
  simp only[dO]at h;split at h
  .rename_i F M;rw[F]at g;rw[M]at D;refine pure ?_ h;rw[exec,g,D];rfl
  .cases h
 |not x|conv kd x=>
  have g:=t x (by simp[bV.cy])
  simp only[dO]at h;split at h
  .rename_i F;rw[F]at g;exact pure (by rw[exec,g];rfl) h
  .cases h
 |len b x=>
  have g:=t x (by simp[bV.cy])
  cases b with
  |true=>
   simp only[dO]at h;split at h
   .rename_i F;rw[F]at g;exact pure (by rw[exec,g];rfl) h
   .cases h
  |false=>grind [dO,R8,exec,KV.pv]
 |call f xs=>simp only[dO]at h;obtain⟨V,x,wr,g,D,G⟩:=cW hΓ h;refine⟨V,x,wr,g,?_,G⟩;rw[exec,AQ (xs:=xs) hoc];exact D
 |lp fv xs=>
  have h0:=t fv (by simp[bV.cy])
  simp only[dO]at h;split at h
  .grind [cW,exec,KV.pv,AQ,bV.cy,KV.bR]
  .grind [cW,exec,KV.pv,AQ,bV.cy,KV.bR]
  .cases h
 |bA z e kk bytes s x=>
  have g:=t s (by simp[bV.cy])
  have D:=t x (by simp[bV.cy])
  simp only[dO]at h;split at h
  .rename_i T hT;split at h
   .rename_i A;have A:=Qf A;split at h
    .rename_i news hn;have G:=TS hn;split at h
     .rename_i hs;rw[hs]at g
      cases R:bn bytes news.length with
      |false=>rw[R]at h;cases h
      |true=>rw[R]at h;obtain⟨hl1,hl2⟩:=wo R;obtain⟨x0,wr0,g1,g2⟩:=Ko K h;refine pure ?_ g2;rw[exec,D,G];simp only[Lr T news A K,Qp,g,KV.pv,Qv];rw[Qc ⟨hl1,hl2⟩];exact g1
     .rename_i id ab hs;rw[hs]at g;split at h
      .rename_i N B;obtain⟨I,h5⟩:=jw B;split at h
       .rename_i he;rw[Qa]at he;have he1:=Qf he.1;have he2:=Qf he.2;split at h
        .rename_i xs hc
         have hpv:N.xs.map (U.pv N.T)=xs.map (U.pv T):=by obtain⟨eT,hxs⟩:=jf hc;obtain⟨re,rk,rT,rxs⟩:=N;simp only at eT hxs ⊢;subst eT;rw[hxs]
         cases R:bn bytes (xs.length+news.length)with
         |false=>rw[R]at h;cases h
         |true=>rw[R]at h;obtain⟨hl1,hl2⟩:=wo R;obtain⟨x0,wr0,g1,g2⟩:=Ko K h;refine pure ?_ g2;rw[exec,D,G];simp only[Lr T news A K,Qp,g,KV.pv];rw[Qc I,h5];simp only[hpv,Qv];rw[Qc ⟨he1.symm,he2.symm,hl1,hl2⟩];rw[List.map_append]at g1;exact g1
        .cases h
       .cases h
      .cases h
     .cases h
    .cases h
   .cases h
  .cases h
 |tZ x=>
  have g:=t x (by simp[bV.cy])
  simp only[dO]at h;split at h
  .rename_i id ab o H;rw[H]at g;split at h
   .rename_i cs B;obtain⟨D,G⟩:=sk B
    grind [exec,KV.pv]
   .cases h
  .rename_i id ab kk i o H;rw[H]at g;split at h
   .rename_i N B;obtain⟨D,G⟩:=jw B
    grind [exec,KV.pv]
   .cases h
  .rename_i cs H;rw[H]at g;exact pure (by rw[exec,g];rfl) h
  .rename_i cs H;rw[H]at g;exact pure (by rw[exec,g];rfl) h
  .cases h
 |CP i x=>
  have g:=t x (by simp[bV.cy])
  simp only[dO]at h;split at h
  .grind [exec,KV.pv,KV.bR]
  .cases h
 |Il f caps|Im f caps=>
  refine pure ?_ h;rw[exec,AQ (xs:=caps) hoc]
  grind [KV.pv,KV.bR]
 |CQ neg ks x y=>
  have g:=t x (by simp[bV.cy])
  have D:=t y (by simp[bV.cy])
  simp only[dO]at h
  grind [exec,KV.pv,KV.bR,Bd]
 |F1 e kk bytes z l c=>
  have g:=t l (by simp[bV.cy])
  have D:=t c (by simp[bV.cy])
  simp only[dO]at h;split at h
  .rename_i T hT;split at h
   .rename_i hz;rw[Qa]at hz;split at h
    .rename_i d hd;split at h
     .rename_i _ n _ m R hc;rw[R]at g;rw[hc]at D
      cases B:(decide (n<=m)&&decide (0<=n)&&bn bytes m.toNat)with
      |false=>rw[B]at h;cases h
      |true=>rw[B]at h;simp only[Qa,QB]at B;obtain⟨⟨G,I⟩,h5⟩:=B;obtain⟨h5,h6⟩:=wo h5;refine pure ?_ h;have h7:=(oi (K.iR _ _ _ _ hd)).1;rw[tt S hz.2]at h7;rw[exec,g,D];simp only[KV.pv];rw[Qc ⟨G,I,h5,h6⟩,h7];simp only[Qn,eZ,bu.pv,cj.pv,List.map_replicate];rfl
     .cases h
    .cases h
   .cases h
  .cases h
 |B2 kk x lo hi=>
  have g:=t x (by simp[bV.cy])
  have hi1:∀(y:aQ) (d n:Int),y∈(bV.B2 kk x lo hi).cy->zn S (some y) d=some n->∃kd,y.val S.st= .int kd n:=by
   intro y d n ho hn;have:=t y ho;simp only[zn]at hn;split at hn
   .rename_i kd _ M;rw[M]at this;injection hn with hn;subst hn;exact⟨kd,this⟩
   .cases hn
  simp only[dO]at h;split at h
  .rename_i T xs F;rw[F]at g;split at h
   .rename_i A;have A:=Qf A;split at h
    .rename_i l hh R J
     cases hs:eQ l hh xs.length with
     |false=>rw[hs]at h;cases h
     |true=>
      rw[hs]at h;refine pure ?_ h;simp only[eQ,Qa,QB]at hs;obtain⟨⟨I,h5⟩,h6⟩:=hs
      have h7:(xs.map (U.pv T)).all (λe=>e.length==kk)=true:=Qe.2 λu hu=>by obtain⟨v,_,rfl⟩:=Qq.1 hu;rw[K.len,A];simp
      unfold exec;simp only[g,KV.pv,Qv,h7,Qp]
      have fin:∀(l hh:Int),0<=l/\l<=hh/\hh<=(xs.length:Int)->(if 0<=l/\l<=hh/\hh<=(xs.length:Int)then some (PV.sl (((xs.map (U.pv T)).take hh.toNat).drop l.toNat),(none:Y (Nat×dg)))else none)=some (PV.sl (((xs.take hh.toNat).drop l.toNat).map (U.pv T)),Option.map eZ (none:Y (Nat×bu U))):=λl hh hc=>by rw[Qc hc];simp only[List.map_take,List.map_drop,Q5]
      cases lo with
      |none=>
       injection R with R
       subst R
       cases hi with
       |none=>injection J with J;subst J;exact fin _ _ ⟨I,h5,h6⟩
       |some y=>obtain⟨kd,M⟩:=hi1 y _ _ (by simp[bV.cy]) J;simp only[M];exact fin _ _ ⟨I,h5,h6⟩
      |some z=>
       obtain⟨kz,hz⟩:=hi1 z _ _ (by simp[bV.cy]) R
       cases hi with
       |none=>injection J with J;subst J;simp only[hz];exact fin _ _ ⟨I,h5,h6⟩
       |some y=>obtain⟨kd,M⟩:=hi1 y _ _ (by simp[bV.cy]) J;simp only[hz,M];exact fin _ _ ⟨I,h5,h6⟩
    .cases h
   .cases h
  .rename_i id ab F;rw[F]at g;split at h
   .rename_i N B;obtain⟨G,I⟩:=jw B;split at h
    .rename_i A;have A:=Qf A;split at h
     .rename_i l hh R J;have e1:=FT (hi1:=hi1) (y:=lo) (λy M=>by simp[bV.cy,M]) R
      have e2:=FT (hi1:=hi1) (y:=hi) (λy M=>by simp[bV.cy,M]) J
      cases hs:eQ l hh N.xs.length with
      |false=>rw[hs]at h;cases h
      |true=>rw[hs]at h;refine pure ?_ h;simp only[eQ,Qa,QB]at hs;unfold exec;simp only[g,KV.pv];rw[Qc G,I];simp only[Qv];rw[Qc A,e1,e2];simp only;rw[Qc ⟨hs.1.1,hs.1.2,hs.2⟩];rfl
     .cases h
    .cases h
   .cases h
  .rename_i id ab kk' lo0 n0 F;rw[F]at g;split at h
   .rename_i N B;obtain⟨G,I⟩:=jw B;split at h
    .rename_i A;rw[Qa]at A;split at h
     .rename_i l hh R J;have e1:=FT (hi1:=hi1) (y:=lo) (λy M=>by simp[bV.cy,M]) R
      have e2:=FT (hi1:=hi1) (y:=hi) (λy M=>by simp[bV.cy,M]) J
      cases hs:eQ l hh n0 with
      |false=>rw[hs]at h;cases h
      |true=>rw[hs]at h;refine pure ?_ h;simp only[eQ,Qa,QB]at hs;unfold exec;simp only[g,KV.pv];rw[Qc G,I];simp only;rw[Qc ⟨Qf A.1,Qf A.2⟩,e1,e2];simp only;rw[Qc ⟨hs.1.1,hs.1.2,hs.2⟩];rfl
     .cases h
    .cases h
   .cases h
  .cases h
 |rZ neg x=>
  have g:=t x (by simp[bV.cy])
  simp only[dO]at h;split at h
  .grind [exec,KV.pv]
  .rename_i T xs F;rw[F]at g
   cases xs with
   |nil=>exact pure (x:= .dI) (by unfold exec;simp only[g,KV.pv,gM,QC,Q5]) h
   |cons y l=>exact pure (x:= .bool neg) (by unfold exec;simp only[g,KV.pv,gM,Qj,Q5]) h
  .cases h
end
end
section
open Go.RowKit
section
variable{P:Pr}{E:En}{S:St}{a:Act}{w:Wo}{L:Nat->Va}
def Rel.WY(h:Rel E S a w L){id ab k n f k':Nat}{es:Z (Z PV)}{v:Va}(r:aJ w (aI E S L) (S.gh L) (.view id ab k 0 n) v)(i:(S.H id).ab=ab)(D:(S.H id).c= .row f k' es):
  Rel E {S with H:=bd S.H id ⟨ab+1,.row f k' (es.take n)⟩} a w (bd L id v)/\aJ w (aI E {S with H:=bd S.H id ⟨ab+1,.row f k' (es.take n)⟩} (bd L id v)) (St.gh {S with H:=bd S.H id ⟨ab+1,.row f k' (es.take n)⟩} (bd L id v)) (.own id (ab+1)) v:=by
 let⟨q,ad,c,t,o⟩:=r.te (show(S.gh L).V id=ab from i)
 have hle:=h.Df q D o
 let⟨a0,m0,c0,p,q1,q2,q3,q4⟩:=o
 have p:L id= .slice a0 m0 c0:=p;have e:(S.H id).c.live=true:=by rw[D];rfl
 let⟨vs,d,hk,R⟩:=h.gd q D
 have G:ad=a0:=by
  rcases q4 with q4|q4
  .exact absurd rfl q4.2.1
  .rw[q4];cases a0<;>simp[Addr.add]
 have B:c=c0:=O;subst G B;have m:bp v=bp (L id):=by rw[t,p];cases ad<;>rfl
 have l:(es.take n).length=n:=o_
 have j:w.ownsRow (dQ E v) f k' v (es.take n).length (vs.take (n*k')):=by
  rw[vn m,l];have s:vs.length=es.length*k':=d.1;have T:n*k'<=es.length*k':=QT _ O;refine⟨by rw[List.length_take,s];omega,?_⟩
  rcases d.2 with⟨I,h0⟩|⟨g,cap,J,I,F,hh,V,A,z,x⟩
  .grind
  .right;rw[p]at I;injection I with e1 e2 e3
   subst e1 e2 e3;refine⟨g,c,J,t,F,hh,O,A,z,?_⟩
   grind
 let⟨h1,hs,M⟩:=h.nM (w':=w) q ⟨ab+1,.row f k' (es.take n)⟩ v (.inr (by show(S.H id).ab<ab+1;omega)) rfl rfl rfl (Ql _) (λ_ _ _=>rfl)
  (λb _ hb=> .inl ⟨e,by rw[<-m];exact hb⟩)
  (λhs M=>⟨_,j,λu N=>hk u (qbc N),by rw[oa k' n es hk];exact(R.take _).mono hs M⟩)
 refine⟨h1,?_⟩;subst t;exact .own _ _ _ _ _ q (by simp[St.gh]) (λ_=>by simp[St.gh])
def Rel.Py(h:Rel E S a w L){id:Nat}{cs cs':Z PV}(d:id<S.N)(e:(S.H id).c= .box cs)(g:∀vs,aK w (aI E S L) (S.gh L) cs vs->aK w (aI E S L) (S.gh L) cs' vs):
  Rel E {S with H:=bd S.H id ⟨(S.H id).ab,.box cs'⟩} a w L:=by
 have:=(h.nM (w':=w) d ⟨(S.H id).ab,.box cs'⟩ (L id) (.inl ⟨rfl,rfl,by rw[e];rfl⟩) rfl rfl rfl (Ql _) (λ_ _ _=>rfl) (λb _ j=> .inl ⟨by rw[e];rfl,j⟩) (λhs i=>by
  let⟨b,f,T,h1,m,l,k⟩:=h.mO d e
  exact⟨b,f,T,h1,m,k,(g _ l).mono hs i⟩)).1
 rwa [Az]at this
def aK.set{M:Nat->Prop}{G:Gh}{cs:Z PV}{vs:Z Va}(h:aK w M G cs vs)(i:Nat)(y:PV)(e:∀v,vs[i]?=some v->aJ w M G y v):aK w M G (cs.set i y) vs:=by
 refine⟨by rw[qaZ];exact h.1,λj x v b d=> ?_⟩
 rw[List.getElem?_set]at b;split at b
 .grind
 .exact h.2 j x v b d
def Rel.RU(h:Rel E S a w L){S':St}(f:S'.H=S.H)(d:S'.N=S.N)(b:∀t,S'.env t=S.env t\/S'.env t= .any):Rel E S' a w L:=by
 let⟨env,H,N⟩:=S
 let⟨env',i,g⟩:=S'
 simp only at f d b;subst f d;refine⟨h.defers,h.size,λt=> ?_,h.obj,h.apart,h.fresh,h.fr,h.sP,h.gy,h.an⟩
 rcases b t with e|e
 .show aJ _ _ _ (env' t) _;rw[e];exact h.env t
 .show aJ _ _ _ (env' t) _;rw[e];exact .any _
end
section
variable{U:TU}
inductive Ps (U:TU) where
 |own (t e k:Nat) (T:U.Ty)
 |Ae (t:Nat)
 |rK (t off e k:Nat) (T:U.Ty)
 |tH (t off:Nat)
 |cut (t:Nat)
def Ps.run(S:aw U):Ps U->Y (aw U)
 | .own t e k T=>(match S.env t with
  | .cu=>some {env:=dj S.env t (.own S.N 1),H:=dj S.H S.N ⟨1,.row e k T []⟩,N:=S.N+1}
  |_=>none)
 | .Ae t=>(match S.env t with
  | .own id ab=>(match S.row? id ab with
   |some r=>some {env:=dj S.env t (.sl r.T r.xs),H:=dj S.H id ⟨ab,.dead⟩,N:=S.N}
   |none=>none)
  | .sl _ _=>some S
  |_=>none)
 | .rK t off e k T=>(match S.env t with
  | .ptr id ab _=>(match S.om id ab with
   |some cs=>(match cs[off]? with
    |some .cu=>some {env:=S.env,H:=dj (dj S.H S.N ⟨1,.row e k T []⟩) id ⟨ab,.box (cs.set off (.own S.N 1))⟩,N:=S.N+1}
    |_=>none)
   |none=>none)
  |_=>none)
 | .tH t off=>(match S.env t with
  | .ptr id ab _=>(match S.om id ab with
   |some cs=>(match cs[off]? with
    |some (.own i v)=>(match S.row? i v with
     |some r=>some {env:=S.env,H:=dj (dj S.H i ⟨v,.dead⟩) id ⟨ab,.box (cs.set off (.sl r.T r.xs))⟩,N:=S.N}
     |none=>none)
    |some (.sl _ _)=>some S
    |_=>none)
   |none=>none)
  |_=>none)
 | .cut t=>(match S.env t with
  | .view id ab _ lo n=>(match S.row? id ab with
   |some r=>(match Nat.beq lo 0 with
    |true=>some {env:=dj S.env t (.own id (ab+1)),H:=dj S.H id ⟨ab+1,.row r.e r.k r.T (r.xs.take n)⟩,N:=S.N}
    |false=>none)
   |none=>none)
  |_=>none)
def Ps.tmps:Ps U->Z Nat
 | .own t _ _ _| .Ae t| .cut t=>[t]
 | .rK _ _ _ _ _| .tH _ _=>[]
def Ps.AN(S:aw U):Ps U->Z Nat
 | .own _ _ _ _=>[S.N]
 | .Ae t=>(match S.env t with| .own id _=>[id]|_=>[])
 | .cut t=>(match S.env t with| .view id _ _ _ _=>[id]|_=>[])
 | .rK t _ _ _ _=>S.N::(match S.env t with| .ptr id _ _=>[id]|_=>[])
 | .tH t off=>(match S.env t with
  | .ptr id ab _=>id::(match S.om id ab with
   |some cs=>(match cs[off]? with|some (.own i _)=>[i]|_=>[])
   |none=>[])
  |_=>[])
def Ps.sound(K:TK U){S S':aw U}{p:Ps U}(d:p.run S=some S'){E:En}{a:Act}{w:Wo}{L:Nat->Va}(h:Rel E S.st a w L):∃L',Rel E S'.st a w L':=by
 cases p with
 |own t e k T=>
  simp[Ps.run]at d;split at d
  .rename_i F;injection d with d
   subst d;have h0:=h.room 1;have hf:(S.st.H S.N)=⟨0,.dead⟩:=h.fresh S.N (Ql _);have D:S.N<({S.st with N:=S.st.N+1}:St).N:=Q9 S.N
   have z:=h0.Tg D e k;refine⟨bd L S.N (.slice none 0 0),?_⟩
   have g:(aw.st {env:=dj S.env t (.own S.N 1),H:=dj S.H S.N ⟨1,.row e k T []⟩,N:=S.N+1}:St)={env:=bd S.st.env t (.own S.N 1),H:=bd S.st.H S.N ⟨(S.st.H S.N).ab+1,.row e k []⟩,N:=S.st.N+1}:=by
    rw[hf];unfold aw.st;congr 1
    .simp[bT];exact kg _ _ _ _
    .simp[bT];exact kg _ _ _ _
   rw[g];refine⟨z.defers,z.size,λj=> ?_,z.obj,z.apart,z.fresh,z.fr,z.sP,z.gy,z.an⟩
   show aJ w _ _ (bd S.st.env t _ j) _
   by_cases J:j=t
   .subst J;have l:=h.env j;have G:S.st.env j= .cu:=by simp[aw.st,F,KV.pv]
    rw[G]at l;rw[bf];have:=Tn (L:=L) (S:={S.st with N:=S.st.N+1}) D e k (w:=w) (M:=aI E {env:=S.st.env,H:=bd S.st.H S.N ⟨(S.st.H S.N).ab+1,.row e k []⟩,N:=S.st.N+1} (bd L S.N (.slice none 0 0))) l.ml
    have s:(S.st.H S.N).ab+1=1:=by rw[hf]
    simp[s]at this ⊢;exact this
   .rw[bq _ _ J];exact z.env j
  .cases d
 |Ae t=>
  simp[Ps.run]at d;split at d
  .rename_i id ab F;split at d
   .rename_i r I;injection d with d
    subst d
    let⟨s,R⟩:=jw I
    have l:=h.env t;have G:S.st.env t= .own id (S.st.H id).ab:=by rw[s];simp[aw.st,F,KV.pv]
    rw[G]at l
    let⟨f,h5⟩:=h.Ae l R (λu hu=>by
     obtain⟨x,_,rfl⟩:=Qq.1 hu
     exact Qe.2 λy hy=>dY (K.ea _ _ _ hy))
    rw[s]at f h5;refine⟨L,?_⟩
    have g:(aw.st {env:=dj S.env t (.sl r.T r.xs),H:=dj S.H id ⟨ab,.dead⟩,N:=S.N}:St)={env:=bd S.st.env t (.sl (r.xs.map (U.pv r.T))),H:=bd S.st.H id ⟨ab,.dead⟩,N:=S.st.N}:=by
     unfold aw.st;congr 1
     .simp[bT];exact kg _ _ _ _
     .simp[bT];exact kg _ _ _ _
    rw[g];refine⟨f.defers,f.size,λj=> ?_,f.obj,f.apart,f.fresh,f.fr,f.sP,f.gy,f.an⟩
    show aJ w _ _ (bd S.st.env t _ j) _
    by_cases J:j=t
    .subst J;rw[bf];exact h5
    .rw[bq _ _ J];exact f.env j
   .cases d
  .injection d with d
   subst d;exact⟨L,h⟩
  .cases d
 |cut t=>
  simp[Ps.run]at d;split at d
  .rename_i id ab k lo n F;split at d
   .rename_i r I;split at d
    .rename_i hlo;injection d with d
     subst d;have hlo:=Qf hlo;subst hlo
     let⟨s,R⟩:=jw I
     have l:=h.env t;have G:S.st.env t= .view id ab k 0 n:=by simp[aw.st,F,KV.pv]
     rw[G]at l
     let⟨f,h5⟩:=h.WY l s R
     refine⟨bd L id (a.tmps.getD t undef),?_⟩
     have g:(aw.st {env:=dj S.env t (.own id (ab+1)),H:=dj S.H id ⟨ab+1,.row r.e r.k r.T (r.xs.take n)⟩,N:=S.N}:St)={env:=bd S.st.env t (.own id (ab+1)),H:=bd S.st.H id ⟨ab+1,.row r.e r.k ((r.xs.map (U.pv r.T)).take n)⟩,N:=S.st.N}:=by
      unfold aw.st;congr 1
      .simp[bT];exact kg _ _ _ _
      .simp[bT];rw[<-List.map_take];exact kg _ _ _ _
     rw[g];refine⟨f.defers,f.size,λj=> ?_,f.obj,f.apart,f.fresh,f.fr,f.sP,f.gy,f.an⟩
     show aJ w _ _ (bd S.st.env t _ j) _
     by_cases J:j=t
     .subst J;rw[bf];exact h5
     .rw[bq _ _ J];exact f.env j
    .cases d
   .cases d
  .cases d
 |rK t off e k T=>
  simp[Ps.run]at d;split at d
  .rename_i id ab o F;split at d
   .rename_i cs hb;split at d
    .rename_i m;injection d with d
     subst d
     let⟨s,R⟩:=sk hb
     have G:S.st.env t= .ptr id ab o:=by simp[aw.st,F,KV.pv]
     have B:id<S.N:=by have l:=h.env t;rw[G]at l;exact(l.lC (show(S.st.gh L).V id=ab from s)).1
     have h0:=h.room 1;have hf:(S.st.H S.N)=⟨0,.dead⟩:=h.fresh S.N (Ql _);have D:S.N<({S.st with N:=S.st.N+1}:St).N:=Q9 S.N
     have z:=h0.Tg D e k;have A:id≠S.N:=qaj B
     have l:=z.Py (id:=id) (cs:=cs.map KV.pv) (cs':=(cs.map KV.pv).set off (.own S.N ((S.st.H S.N).ab+1))) (Nat.lt_succ_of_lt B) (by show(bd S.st.H S.N _ id).c=_;rw[bq _ _ A];exact R)
      (λvs I=>I.set _ _ λv hvv=>by
       have hn:(cs.map KV.pv)[off]?=some .cu:=by rw[Qr,m];rfl
       exact Tn (L:=L) (S:={S.st with N:=S.st.N+1}) D e k (I.2 off .cu v hn hvv).ml)
     refine⟨bd L S.N (.slice none 0 0),?_⟩
     have g:(aw.st {env:=S.env,H:=dj (dj S.H S.N ⟨1,.row e k T []⟩) id ⟨ab,.box (cs.set off (.own S.N 1))⟩,N:=S.N+1}:St)
       ={env:=S.st.env,H:=bd (bd S.st.H S.N ⟨(S.st.H S.N).ab+1,.row e k []⟩) id ⟨(bd S.st.H S.N ⟨(S.st.H S.N).ab+1,.row e k []⟩ id).ab,.box ((cs.map KV.pv).set off (.own S.N ((S.st.H S.N).ab+1)))⟩,N:=S.st.N+1}:=by
      rw[bq _ _ A,s,hf];unfold aw.st;congr 1;simp only[bT];rw[kg,kg];simp[bu.pv,cj.pv,List.map_set,KV.pv,QC]
     rw[g];exact l
    .cases d
   .cases d
  .cases d
 |tH t off=>
  simp[Ps.run]at d;split at d
  .rename_i id ab o F;split at d
   .rename_i cs hb;split at d
    .rename_i i v m;split at d
     .rename_i r I;injection d with d
      subst d
      let⟨s,R⟩:=sk hb
      let⟨V,hc2⟩:=jw I
      have G:S.st.env t= .ptr id ab o:=by simp[aw.st,F,KV.pv]
      have B:id<S.N:=by have l:=h.env t;rw[G]at l;exact(l.lC (show(S.st.gh L).V id=ab from s)).1
      have q:(cs.map KV.pv)[off]?=some (.own i v):=by rw[Qr,m];rfl
      have hili:i<S.N:=by
       let⟨b,cur,T,h5,h6,h7,h8⟩:=h.mO B R
       let⟨u,hu,hru⟩:=h7.get q
       exact(hru.iy (show(S.st.gh L).V i=v from V)).1
      have A:id≠i:=by grind
      let⟨f,h5⟩:=h.TH hili hc2 (λu hu=>by
       obtain⟨x,_,rfl⟩:=Qq.1 hu
       exact Qe.2 λy hy=>dY (K.ea _ _ _ hy))
      have h6:=f.Py (id:=id) (cs:=cs.map KV.pv) (cs':=(cs.map KV.pv).set off (.sl (r.xs.map (U.pv r.T)))) B (by show(bd S.st.H i _ id).c=_;rw[bq _ _ A];exact R)
       (λvs hrr=>hrr.set _ _ λu hu=>h5 u (by
        have:=hrr.2 off _ u q hu
        exact(this.iy (show(bd S.st.H i ⟨(S.st.H i).ab,.dead⟩ i).ab=v by rw[bf];exact V)).2))
      refine⟨L,?_⟩
      have g:(aw.st {env:=S.env,H:=dj (dj S.H i ⟨v,.dead⟩) id ⟨ab,.box (cs.set off (.sl r.T r.xs))⟩,N:=S.N}:St)
        ={env:=S.st.env,H:=bd (bd S.st.H i ⟨(S.st.H i).ab,.dead⟩) id ⟨(bd S.st.H i ⟨(S.st.H i).ab,.dead⟩ id).ab,.box ((cs.map KV.pv).set off (.sl (r.xs.map (U.pv r.T))))⟩,N:=S.st.N}:=by
       rw[bq _ _ A,s,V];unfold aw.st;congr 1;simp only[bT];rw[kg,kg];simp[bu.pv,cj.pv,List.map_set,KV.pv]
      rw[g];exact h6
     .cases d
    .injection d with d
     subst d;exact⟨L,h⟩
    .cases d
   .cases d
  .cases d
inductive RS (U:TU) where
 |nil
 |op (o:SG) (r:RS U)
 |ps (p:Ps U) (r:RS U)
 |np (t:Nat) (r:RS U)
 |ite (t:Nat) (want:Bool) (body:RS U) (d:Nat) (g:Option (Nat×Bool)) (x y:aQ) (r:RS U)
def RS.flat:RS U->Z SG
 | .nil=>[]
 | .op o r=>o::r.flat
 | .ps _ r| .np _ r=>r.flat
 | .ite t _ b d g x y r=>b.flat++⟨some d,g,.pick (.tmp t) x y⟩::r.flat
def RS.dB:RS U->Z Nat
 | .nil=>[]
 | .op o r=>(match o.d with|some t=>t::r.dB|none=>r.dB)
 | .ps p r=>p.tmps++r.dB
 | .np _ r=>r.dB
 | .ite _ _ b d _ _ _ r=>b.dB++d::r.dB
def qe:Z SG->Z Nat
 |[]=>[]
 |o::l=>(match o.d with|some t=>t::qe l|none=>qe l)
def RS.len:RS U->Nat
 | .nil=>0
 | .op _ r=>r.len+1
 | .ps _ r| .np _ r=>r.len
 | .ite _ _ b _ _ _ _ r=>b.len+(r.len+1)
def RS.mm:∀(r:RS U),r.flat.length=r.len
 | .nil=>rfl
 | .op _ r=>by simp[RS.flat,RS.len,r.mm]
 | .ps _ r| .np _ r=>r.mm
 | .ite _ _ b _ _ _ _ r=>by simp[RS.flat,RS.len,b.mm,r.mm]
def cZ(t:Nat):Z Nat->Bool
 |[]=>false
 |x::l=>(match Nat.beq t x with|true=>true|false=>cZ t l)
theorem cJ{t:Nat}:∀{l:Z Nat},cZ t l=true↔t∈l
 |[]=>by simp[cZ]
 |x::l=>by
  simp[cZ];split
  .rename_i h;simp[Qf h]
  .rename_i h;rw[cJ];simp[qaA h]
theorem kT{t:Nat}{l:Z Nat}(h:cZ t l=false):t∉l:=λb=>by rw[cJ.2 b]at h;cases h
def MK:Bool->Bool->Bool
 |true,b=>b
 |false,true=>false
 |false,false=>true
theorem HX(x y:Bool):MK x y=(x==y):=by cases x<;>cases y<;>rfl
abbrev WS:=Option (Nat×List Nat)
def okW:WS->Nat->Bool
 |none,_=>false
 |some (n,l),id=>Nat.ble n id||cZ id l
def AM(W:WS):Y (Nat×bu U)->Bool
 |none=>true
 |some (id,_)=>okW W id
def B3(t:Nat)(b:Bool):Z Nat->Z SG->Bool
 |_,[]=>true
 |u,o::l=>(match o.g with
  |some (f,e)=>(Nat.beq f t&&MK e b)||cZ f u
  |none=>false)&&(match o.d with
   |some d=> !Nat.beq d t&&B3 t b (d::u) l
   |none=>B3 t b u l)
variable(K:TK U)
def HQ{ρ:Type}(Γ:Z (bQ U))(W:WS)(nid:Nat)(S:aw U)(o:SG)(k:KV U->Y (Nat×bu U)->Y ρ):Y ρ:=
 match o.g with
 |none=>dO K Γ nid S o.op λx wr=>(match AM W wr with|true=>k x wr|false=>none)
 |some (t,want)=>match S.env t with
  | .bool b=>(match MK b want with
   |true=>dO K Γ nid S o.op λx wr=>(match AM W wr with|true=>k x wr|false=>none)
   |false=>k .undef none)
  | .undef=>k .undef none
  |_=>none
def Pu{ρ:Type}(Γ:Z (bQ U))(W:WS)(nid:Nat)(S:aw U)(o:SG)(k:aw U->Y ρ):Y ρ:=
 HQ K Γ W nid S o λx wr=>k (S.bA o.d x wr)
def Pn(S:aw U)(d:Z Nat):Y (Nat×Bool)->Bool
 |none=>true
 |some (t,want)=>(match S.env t with| .bool b=>MK b want&& !cZ t d|_=>false)
def aw.forget(S:aw U)(b:Z Nat):aw U:={env:=λt=>(match cZ t b with|true=> .any|false=>S.env t),H:=S.H,N:=S.N}
def MD:aQ->Y Bool
 | .qP (.bool b)=>some b
 |_=>none
def jv(Γ:Z (bQ U)):RS U->{ρ:Type}->(W:WS)->(nid:Nat)->(S:aw U)->(k:aw U->Y ρ)->Y ρ
 | .nil,_,_,_,S,k=>k S
 | .op o r,_,W,nid,S,k=>Pu K Γ W nid S o λS'=>jv Γ r W (nid+1) S' k
 | .ps p r,_,W,nid,S,k=>(match(p.AN S).all (okW W)with
  |true=>(match p.run S with|some S'=>jv Γ r W nid S' k|none=>none)
  |false=>none)
 | .np t r,_,W,nid,S,k=>(match S.env t with
  | .bool b=>bif b then jv Γ r W nid (S.bA (some t) (.bool true) none) k else jv Γ r W nid (S.bA (some t) (.bool false) none) k
  | .undef=>jv Γ r W nid S k
  |_=>none)
 | .ite t want body d g x y r,_,W,nid,S,k=>(match S.env t with
  | .bool b=>(match Pn S body.dB g&&(B3 t want [] body.flat&& !cZ t body.dB)with
   |true=>(match want with
    |true=>(match MD y with
     |some c=>(bif b then jv Γ body none nid (S.bA (some t) (.bool true) none) (λS1=>CV (x.bP S1))else some c).bind λv=>jv Γ r W (nid+(body.len+1)) ((S.forget body.dB).bA (some d) (.bool v) none) k
     |none=>none)
    |false=>(match MD x with
     |some c=>(bif b then some c else jv Γ body none nid (S.bA (some t) (.bool false) none) (λS1=>CV (y.bP S1))).bind λv=>jv Γ r W (nid+(body.len+1)) ((S.forget body.dB).bA (some d) (.bool v) none) k
     |none=>none))
   |false=>none)
  |_=>none)
structure me (D:List Nat) (W:WS) (S S':aw U):Prop where
 env:∀t,t∉D->S'.env t=S.env t
 H:∀id,okW W id=false->S'.H id=S.H id
 N:S.N<=S'.N
 Nn:W=none->S'.N=S.N
def me.refl(D:Z Nat)(W:WS)(S:aw U):me D W S S:=⟨λ_ _=>rfl,λ_ _=>rfl,Ql _,λ_=>rfl⟩
def me.trans{D j d:Z Nat}{W:WS}{S S' S'':aw U}(h:me D W S S')(f:me j W S' S'')(i:∀t,t∉d->t∉D/\t∉j):me d W S S'':=
 ⟨λt g=>(f.env t (i t g).2).trans (h.env t (i t g).1),λid b=>(f.H id b).trans (h.H id b),QS h.N f.N,λe=>(f.Nn e).trans (h.Nn e)⟩
def wI(S:aw U)(d:Y Nat)(x:KV U)(wr:Y (Nat×bu U)):(S.bA d x wr).N=S.N:=by rw[aw.xz]
def fc(S:aw U)(d:Y Nat)(x:KV U)(wr:Y (Nat×bu U)){t:Nat}(h:d≠some t):(S.bA d x wr).env t=S.env t:=by
 cases d with
 |none=>rw[aw.xz]
 |some d=>simp only[aw.xz,bT];exact bq _ _ (λe=>h (by rw[e]))
def Bm(S:aw U)(d:Y Nat)(x:KV U)(wr:Y (Nat×bu U)){i:Nat}(h:wr.map (·.1)≠some i):(S.bA d x wr).H i=S.H i:=by
 cases wr with
 |none=>rw[aw.xz]
 |some p=>simp only[aw.xz,bT];exact bq _ _ (λe=>h (by rw[e];rfl))
def H2(S:aw U)(W:WS)(d:Y Nat)(x:KV U)(wr:Y (Nat×bu U))(h:AM W wr=true):me d.toList W S (S.bA d x wr):=by
 refine⟨λt f=>fc _ _ _ _ (λe=>f (by simp[e])),λid b=>Bm _ _ _ _ (λe=> ?_),qap (wI _ _ _ _).symm,λ_=>wI _ _ _ _⟩
 cases wr with
 |none=>cases e
 |some p=>simp[Qn,Qb]at e;simp[AM]at h;rw[e,b]at h;cases h
variable{K}
variable{P:Pr}
def sj{ρ:Type}{Γ:Z (bQ U)}{W:WS}{nid:Nat}{S:aw U}{o:SG}{k:KV U->Y (Nat×bu U)->Y ρ}{r:ρ}(g:jI P Γ)(s:o.op.bJ=true)(h:HQ K Γ W nid S o k=some r):
  ∃d x wr,fQ P d/\og d nid S.st o=some (x.pv,wr.map eZ)/\AM W wr=true/\k x wr=some r:=by
 have run:∀(e:o.wanted S.st=some true),dO K Γ nid S o.op (λx wr=>(match AM W wr with|true=>k x wr|false=>none))=some r->
   ∃d x wr,fQ P d/\og d nid S.st o=some (x.pv,wr.map eZ)/\AM W wr=true/\k x wr=some r:=by
  intro e h
  let⟨d,x,wr,h1,v,p⟩:=Lc g s h
  split at p
  .rename_i i;refine⟨d,x,wr,h1,?_,i,p⟩;rw[og,e];exact v
  .cases p
 have skip:∀(e:o.wanted S.st=some false),k .undef none=some r->
   ∃d x wr,fQ P d/\og d nid S.st o=some (x.pv,wr.map eZ)/\AM W wr=true/\k x wr=some r:=by
  intro e h;refine⟨λ_=>none,.undef,none,λf m u=>(by cases u),?_,rfl,h⟩
  rw[og,e];rfl
 unfold HQ at h;split at h
 .grind [SG.wanted]
 .rename_i t q z;split at h
  .rename_i b l;have j:S.st.env t= .bool b:=by simp[aw.st,l,KV.pv]
   grind [SG.wanted,HX]
  .rename_i l;have j:S.st.env t= .undef:=by simp[aw.st,l,KV.pv]
   grind [SG.wanted]
  .cases h
def KZ{ρ:Type}{Γ:Z (bQ U)}{W:WS}{nid:Nat}{S:aw U}{o:SG}{k:aw U->Y ρ}{r:ρ}(d:jI P Γ)(e:o.op.bJ=true)(h:Pu K Γ W nid S o k=some r):
  ∃b x wr,fQ P b/\og b nid S.st o=some (x.pv,wr.map eZ)/\AM W wr=true/\k (S.bA o.d x wr)=some r:=sj d e h
def IZ:fQ P (λ_=>none):=λf m b=>by cases b
def AE{E:En}{hs:Z Nat}{ops:Array Oper}{t:Nat}{i:Bool}{Q:Exit->Act->Wo->Prop}{R:Z Oper}:∀(q:Z Oper) (A:Z SG) (u:Z Nat) (S:St) (a:Act) (w:Wo) (L:Nat->Va),
  q.mapM (mN P hs ops)=some A->Rel E S a w L->0<S.N->(∀o∈q,∀t,o.dst=some t->E.can t)->B3 t i u A=true->S.env t= .bool (!i)->(∀x∈u,S.env x= .undef)->
  (∀S' a' w' k,(∀x,x∉qe A->S'.env x=S.env x)->S'.H=S.H->S'.N=S.N->Rel E S' a' w' k->wpListIn (WF E.rd) 0 P ops Q R a' w')->wpListIn (WF E.rd) 0 P ops Q (q++R) a w
 |[],A,u,S,a,w,L,hm,h,j,D,hs,B,hu,hk=>by simp at hm;subst hm;exact hk S a w L (λ_ _=>rfl) rfl rfl h
 |o::q,A,u,S,a,w,L,hm,h,j,D,hs,B,hu,hk=>by
  simp[QH,Qi,Qd,QO,Qb]at hm;obtain⟨g,hg,z,s,rfl⟩:=hm;simp[B3,Qa]at hs
  let⟨h1,v⟩:=hs
  have hw:g.wanted S=some false:=by
   split at h1
   .rename_i V l H;rw[Qw,Qa]at h1;rw[SG.wanted,H];rcases h1 with⟨N,T⟩|N
    .rw[Qf N];rw[HX]at T;simp[B];have:=eq_of_beq T;subst this;cases l<;>rfl
    .simp[hu V (cJ.1 N)]
   .cases h1
  have G:pz (λ_=>none) 0 S g=some (S.bA g.d .undef none):=by rw[pz,hw]
  rw[List.cons_append];refine qaK λK hK=> ?_
  refine qL IZ hg h j (D o t_) G (λa' w' k r=>hK _ _ ?_)
  split at v
  .rename_i d b;rw[Qa]at v;have J:d≠t:=λe=>by subst e;have:=v.1;simp at this
   refine AE q z (d::u) _ a' w' k s r j (λF p=>D F (by simp[p])) v.2 ?_ ?_ ?_
   .rw[b,St.fc _ _ _ (by simp[J])];exact B
   .intro x f;rw[b]
    by_cases m:x=d
    .subst m;exact bf _ _ _
    .rw[St.fc _ _ _ (by simpa using λe=>m e.symm)]
     exact hu x ((Qm.1 f).resolve_left m)
   .intro S' a' w' k I M j r;refine hk S' a' w' k (λx f=> ?_) M j r
    simp[qe,b,Qm,Q2]at f;rw[I x f.2,b,St.fc _ _ _ (by simpa using λe=>f.1 e.symm)]
  .rename_i b;refine AE q z u _ a' w' k s r j (λF p=>D F (by simp[p])) v ?_ ?_ ?_
   .rw[b];exact B
   .intro x f;rw[b];exact hu x f
   .intro S' a' w' k I M j r;refine hk S' a' w' k (λx f=> ?_) M j r
    simp[qe,b]at f;rw[I x f,b];rfl
def RS.bJ:RS U->Bool
 | .nil=>true
 | .op o r=>o.op.bJ&&r.bJ
 | .ps _ r| .np _ r=>r.bJ
 | .ite _ _ b _ _ x y r=>b.bJ&&(x.bJ&&y.bJ)&&r.bJ
def mu:∀(r:RS U) (t:Nat),t∈qe r.flat->t∈r.dB
 | .nil,t,h=>h
 | .op o r,t,h=>by
  simp[RS.flat,qe]at h;simp only[RS.dB];split at h
  .rcases Qm.1 h with h|h
   .exact Qm.2 (.inl h)
   .exact Qm.2 (.inr (mu r t h))
  .exact mu r t h
 | .ps p r,t,h=>Qu.2 (.inr (mu r t h))
 | .np _ r,t,h=>mu r t h
 | .ite t0 want b d g x y r,t,h=>by
  have bA:∀(f l2:Z SG),t∈qe (f++l2)->t∈qe f\/t∈qe l2:=by
   intro f l2
   induction f with
   |nil=>exact λh=> .inr h
   |cons o f i=>
    intro h;simp[List.cons_append,qe]at h ⊢
    cases j:o.d with
    |none=>rw[j]at h;exact i h
    |some e=>
     rw[j]at h;simp[Qm]at h ⊢;rcases h with h|h
     .exact .inl (.inl h)
     .rcases i h with h|h
      .exact .inl (.inr h)
      .exact .inr h
  simp[RS.flat]at h;simp[RS.dB,Qu,Qm];rcases bA _ _ h with h|h
  .exact .inl (mu b t h)
  .simp[qe,Qm]at h;rcases h with h|h
   .exact .inr (.inl h)
   .exact .inr (.inr (mu r t h))
def Sw{x:KV U}{b:Bool}(h:CV x=some b):x= .bool b:=by
 unfold CV at h
 grind
def xy{S:aw U}{t:Nat}{x:KV U}(h:S.env t=x):S.bA (some t) x none=S:=by
 rw[aw.xz]
 let⟨env,H,N⟩:=S
 grind [bT,Az]
def Ps.TJ{S S':aw U}{p:Ps U}(b:p.run S=some S'){W:WS}(f:(p.AN S).all (okW W)=true):me p.tmps W S S':=by
 have j:∀{id g:Nat},okW W id=true->okW W g=false->g≠id:=λz u e=>by subst e;rw[z]at u;cases u
 have s:∀{n:Nat},okW W n=true->W≠none:=λh e=>by rw[e]at h;cases h
 cases p with
 |own t e k T=>
  simp[Ps.run]at b;split at b
  .injection b with b
   subst b;simp[Ps.AN,QA,List.all_nil,QV]at f;exact⟨λx l=>by simp only[bT];exact bq _ _ (by simpa[Ps.tmps]using l),λid d=>by simp only[bT];exact bq _ _ (j f d),qan _,λe=>absurd e (s f)⟩
  .cases b
 |Ae t=>
  simp[Ps.run]at b;split at b
  .rename_i id ab m;split at b
   .injection b with b
    subst b;simp[Ps.AN,m,QA,List.all_nil,QV]at f;exact⟨λx l=>by simp only[bT];exact bq _ _ (by simpa[Ps.tmps]using l),λg d=>by simp only[bT];exact bq _ _ (j f d),Ql _,λ_=>rfl⟩
   .cases b
  .injection b with b
   subst b;exact me.refl _ _ _
  .cases b
 |cut t=>
  simp[Ps.run]at b;split at b
  .rename_i id ab k lo n m;split at b
   .split at b
    .injection b with b
     subst b;simp[Ps.AN,m,QA,List.all_nil,QV]at f;exact⟨λx l=>by simp only[bT];exact bq _ _ (by simpa[Ps.tmps]using l),λg d=>by simp only[bT];exact bq _ _ (j f d),Ql _,λ_=>rfl⟩
    .cases b
   .cases b
  .cases b
 |rK t off e k T=>
  simp[Ps.run]at b;split at b
  .rename_i id ab o m;split at b
   .rename_i cs r;split at b
    .injection b with b
     subst b;simp[Ps.AN,m,QA,List.all_nil,QV,Qa]at f;exact⟨λx l=>rfl,λg d=>by simp only[bT];rw[bq _ _ (j f.2 d),bq _ _ (j f.1 d)],qan _,λe=>absurd e (s f.1)⟩
    .cases b
   .cases b
  .cases b
 |tH t off=>
  simp[Ps.run]at b;split at b
  .rename_i id ab o m;split at b
   .rename_i cs r;split at b
    .rename_i i v q;split at b
     .injection b with b
      subst b;simp[Ps.AN,m,r,q,QA,List.all_nil,QV,Qa]at f;exact⟨λx l=>rfl,λg d=>by simp only[bT];rw[bq _ _ (j f.1 d),bq _ _ (j f.2 d)],Ql _,λ_=>rfl⟩
     .cases b
    .injection b with b
     subst b;exact me.refl _ _ _
    .cases b
   .cases b
  .cases b
def rP{α β:Type}{f:α->Y β}:∀{l:Z α} {d b:Z β},l.mapM f=some (d++b)->∃g e,l=g++e/\g.mapM f=some d/\e.mapM f=some b
 |l,[],b,h=>⟨[],l,rfl,rfl,h⟩
 |[],x::d,b,h=>by simp at h
 |y::l,x::d,b,h=>by simp only[QH,Qi,Qd,QO,Qb,List.cons_append,List.cons.injEq]at h;obtain⟨z,j,m,i,rfl,rfl⟩:=h;obtain⟨g,e,rfl,h1,k⟩:=rP i;exact⟨y::g,e,rfl,by simp[QH,j,h1],k⟩
def Ki{P:Pr}{hs:Z Nat}{ops:Array Oper}{o:Oper}{d:Y Nat}{s:bV}(h:mN P hs ops o=some ⟨d,none,s⟩):o.guard=none/\o.dst=d/\xv P hs o=some s:=by
 unfold mN at h
 grind
def Ee{o:Oper}{p:Nat->Y Bool}(h:o.guard=none):Region.wanted o p=true:=by simp[Region.wanted,h]
def N3{P:Pr}{a:Act}{w:Wo}{o:Oper}{f:FI}{args:Array Od}{e:Array TI}(b:o.op= .call {callee:= .value (.func f),args:=args,argTypes:=e})(d:Enters P f):
  (execOp a.eval o).run P w= .ok (.enter f (args.toList.map a.eval).toArray) w:=by
 have g:args.map a.eval=(args.toList.map a.eval).toArray:=by rw[<-qaG,QZ]
 simp[execOp,b,resolve,Act.eval,Deferred.ofValue,invoke,g,hY d]
def gZ{E:En}{Γ:Z (bQ U)}(s:jI P Γ){hs:Z Nat}{ops:Array Oper}{Q:Exit->Act->Wo->Prop}:∀(rs:RS U) {ρ:Type} (W:WS) (nid:Nat) (S:aw U) (k:aw U->Y ρ) (r:ρ) (B A:Z Oper) (a:Act) (w:Wo) (L:Nat->Va),
  rs.bJ=true->B.mapM (mN P hs ops)=some rs.flat->Rel E S.st a w L->nid+rs.len<=S.N->(∀o∈B,∀t,o.dst=some t->E.can t)->jv K Γ rs W nid S k=some r->
  (∀S' a' w' L',me rs.dB W S S'->Rel E S'.st a' w' L'->k S'=some r->wpListIn (WF E.rd) 0 P ops Q A a' w')->wpListIn (WF E.rd) 0 P ops Q (B++A) a w
 | .nil,ρ,W,nid,S,k,r,B,A,a,w,L,j,hm,h,hN,J,f,hk=>by
  have:B=[]:=by have:=mS hm;exact qah (by simpa[RS.flat]using this.symm)
  subst this;exact hk S a w L (me.refl _ _ _) h f
 | .op o rs,ρ,W,nid,S,k,r,B,A,a,w,L,j,hm,h,hN,J,f,hk=>by
  simp[RS.bJ,Qa]at j
  cases B with
  |nil=>simp[RS.flat]at hm
  |cons p B=>
  simp only[RS.flat,QH,Qi,Qd,QO,Qb,List.cons.injEq]at hm;obtain⟨g,hg,gs',hgs,rfl,rfl⟩:=hm;simp[RS.len]at hN
  let⟨Γ',x,wr,hΓ',he,hwr,hr'⟩:=KZ s j.1 f
  have hst:pz Γ' nid S.st g=some (S.bA g.d x wr).st:=by rw[Lh,he,wX];rfl
  rw[List.cons_append];refine qaK λK hK=> ?_
  refine qL hΓ' hg h (show nid<S.N by omega) (J p t_) hst (λa' w' L' M=>hK _ _ ?_)
  refine gZ s rs W (nid+1) _ k r B A a' w' L' j.2 hgs M (by first|(show _<=S.N;omega)|(rw[wI];omega)|(rw[wI,wI];omega)) (λo' G=>J o' (by simp[G])) hr' (λS' a' w' L' hf M H=>hk S' a' w' L' ?_ M H)
  refine(H2 S W g.d x wr hwr).trans hf λt V=> ?_
  simp[RS.dB]at V
  cases hdd:g.d with
  |none=>rw[hdd]at V;exact⟨t_,V⟩
  |some d=>rw[hdd]at V;simp[Qm,Q2]at V;exact⟨by simpa using λe=>V.1 e,V.2⟩
 | .ps p rs,ρ,W,nid,S,k,r,B,A,a,w,L,j,hm,h,hN,J,f,hk=>by
  simp[jv]at f;split at f
  .rename_i hW;split at f
   .rename_i S1 hp
    let⟨L1,h1⟩:=Ps.sound K hp h
    have hf:=Ps.TJ hp hW;refine gZ s rs W nid S1 k r B A a w L1 j hm h1 (QS hN hf.N) J f (λS' a' w' L' hf' M H=>hk S' a' w' L' (hf.trans hf' λt V=> ?_) M H)
    simp[RS.dB,Qu,Q2]at V;exact V
   .cases f
  .cases f
 | .np t rs,ρ,W,nid,S,k,r,B,A,a,w,L,j,hm,h,hN,J,f,hk=>by
  simp[jv]at f;split at f
  .rename_i b hb
   cases b with
   |true=>rw[qas,xy hb]at f;exact gZ s rs W nid S k r B A a w L j hm h hN J f hk
   |false=>rw[QN,xy hb]at f;exact gZ s rs W nid S k r B A a w L j hm h hN J f hk
  .exact gZ s rs W nid S k r B A a w L j hm h hN J f hk
  .cases f
 | .ite t want body d g x y rs,ρ,W,nid,S,k,r,B,A,a,w,L,j,hm,h,hN,J,f,hk=>by
  simp[RS.bJ,Qa]at j
  let⟨⟨hokb,hokx,hoky⟩,hokr⟩:=j
  simp[RS.flat]at hm;obtain⟨lb,lr,rfl,hmb,hmr⟩:=rP hm
  cases lr with
  |nil=>simp at hmr
  |cons p lr=>
  simp only[QH,Qi,Qd,QO,Qb,List.cons.injEq]at hmr;obtain⟨pg,hpg,gs',hgs,rfl,rfl⟩:=hmr;simp[RS.len]at hN;simp only[jv]at f;split at f
  .rename_i b hb;split at f
   .rename_i hchk;simp[Qa,QQ]at hchk
    let⟨i,hskip,htd⟩:=hchk
    have htd:=kT htd
    have fin:∀(v:Bool) (S1:St) (a1:Act) (w1:Wo) (L1:Nat->Va),(∀x,x∉body.dB->S1.env x=S.st.env x)->S1.H=S.st.H->S1.N=S.st.N->Rel E S1 a1 w1 L1->
      (if b then x else y).val S1= .bool v->jv K Γ rs W (nid+(body.len+1)) ((S.forget body.dB).bA (some d) (.bool v) none) k=some r->wpListIn (WF E.rd) 0 P ops Q (p::(lr++A)) a1 w1:=by
     intro v S1 a1 w1 L1 he hH hN1 h1 F hr1
     have hpw:(⟨some d,g,.pick (.tmp t) x y⟩:SG).wanted S1=some true:=by
      rw[SG.wanted]
      cases g with
      |none=>rfl
      |some q=>
       let⟨N,want'⟩:=q
       simp[Pn]at i;split at i
       .rename_i b' hb';simp[Qa,QQ]at i;have:S1.env N= .bool b':=by rw[he N (kT i.2)];simp[aw.st,hb',KV.pv]
        simp only[this];rw[HX]at i;rw[i.1]
       .cases i
     have hbt:S1.env t= .bool b:=by rw[he t htd];simp[aw.st,hb,KV.pv]
     have hst:pz (λ_=>none) nid S1 ⟨some d,g,.pick (.tmp t) x y⟩=some (S1.bA (some d) (.bool v) none):=by
      rw[pz,hpw];have hbt':(aQ.tmp t).val S1= .bool b:=hbt;simp only[exec,hbt']
      cases b with
      |true=>simp only[Qp]at F;simp only[F];rfl
      |false=>simp only[QR,QE]at F;simp only[F];rfl
     refine qaK λKK hKK=> ?_
     refine qL IZ hpg h1 (show nid<S1.N by rw[hN1];show nid<S.N;omega) (J p t_) hst (λa' w' L' M=>hKK _ _ ?_)
     have h2:Rel E ((S.forget body.dB).bA (some d) (.bool v) none).st a' w' L':=by
      refine M.RU (by rw[wX];exact hH.symm) (by rw[wX];exact hN1.symm) λN=> ?_
      rw[wX]
      by_cases R:N=d
      .subst R;left;rw[show(S1.bA (some N) (.bool v) none).env N= .bool v from bf _ _ _]
       exact bf _ _ _
      .rw[St.fc _ _ _ (by simpa using λe=>R e.symm),St.fc _ _ _ (by simpa using λe=>R e.symm)]
       cases T:cZ N body.dB with
       |true=>right;simp[aw.st,aw.forget,T,KV.pv]
       |false=>left;simp[aw.st,aw.forget,T];exact(he N (kT T)).symm
     refine gZ s rs W (nid+(body.len+1)) _ k r lr A a' w' L' hokr hgs h2 (by first|(show _<=S.N;omega)|(rw[wI];omega)|(rw[wI,wI];omega)) (λo' G=>J o' (by simp[G])) hr1 (λS' a' w' L' hf M H=>hk S' a' w' L' ?_ M H)
     refine me.trans (S':=(S.forget body.dB).bA (some d) (.bool v) none) (D:=body.dB++[d]) ⟨λN u=> ?_,λid _=>rfl,Ql _,λ_=>rfl⟩ hf λN u=> ?_
     .simp[Qu,qag,Q2]at u;rw[fc _ _ _ _ (by simpa using λe=>u.2 e.symm)]
      have:cZ N body.dB=false:=by
       cases T:cZ N body.dB with
       |true=>exact absurd (cJ.1 T) u.1
       |false=>rfl
      simp[aw.forget,this]
     .simp[RS.dB,Qu,Qm,Q2]at u;exact⟨by simp[u.1,u.2.1],u.2.2⟩
    have m:∀(z:aQ) (v:Bool),b=want->z.bJ=true->z=(if b then x else y)->jv K Γ body none nid (S.bA (some t) (.bool b) none) (λS1=>CV (z.bP S1))=some v->
      jv K Γ rs W (nid+(body.len+1)) ((S.forget body.dB).bA (some d) (.bool v) none) k=some r->wpListIn (WF E.rd) 0 P ops Q (lb++p::(lr++A)) a w:=by
     intro z v _ hz hzz vD hrr;rw[xy hb]at vD;refine gZ s body none nid S _ v lb _ a w L hokb hmb h O (λo' G=>J o' (by simp[G])) vD (λS' a' w' L' hf M H=> ?_)
     have hH:S'.H=S.H:=funext λid=>hf.H id rfl
     have hNN:S'.N=S.N:=hf.Nn rfl;refine fin v S'.st a' w' L' (λx' hx'=>by simp[aw.st,hf.env x' hx']) (by simp[aw.st,hH]) hNN M ?_ hrr
     rw[<-hzz,mT hz,Sw H];rfl
    have l:∀(c:Bool),b= !want->(if b then x else y)= .qP (.bool c)->jv K Γ rs W (nid+(body.len+1)) ((S.forget body.dB).bA (some d) (.bool c) none) k=some r->wpListIn (WF E.rd) 0 P ops Q (lb++p::(lr++A)) a w:=by
     intro c hbw I hrr;refine AE lb _ [] S.st a w L hmb h (show 0<S.N by omega) (λo' G=>J o' (by simp[G])) hskip ?_ t_ (λS' a' w' L' he hH hN' M=> ?_)
     .simp[aw.st,hb,KV.pv,hbw]
     .refine fin c S' a' w' L' (λx' hx'=>he x' λhmem=>hx' (mu _ _ hmem)) hH hN' M ?_ hrr
      rw[I];rfl
    rw[qaf,List.cons_append];split at f
    .split at f
     .rename_i c I
      have hy:y= .qP (.bool c):=by
       unfold MD at I;split at I
       .injection I with I;rw[I]
       .cases I
      rw[Qd]at f;obtain⟨v,F,f⟩:=f
      cases b with
      |true=>exact m x v rfl hokx t_ F f
      |false=>
       rw[QN]at F;injection F with F
       subst F;exact l c rfl (by simpa using hy) f
     .cases f
    .split at f
     .rename_i c I
      have hx:x= .qP (.bool c):=by
       unfold MD at I;split at I
       .injection I with I;rw[I]
       .cases I
      rw[Qd]at f;obtain⟨v,F,f⟩:=f
      cases b with
      |false=>exact m y v rfl hoky t_ F f
      |true=>
       rw[qas]at F;injection F with F
       subst F;exact l c rfl (by simpa using hx) f
     .cases f
   .cases f
  .cases f
end
end
section
open Go.RowKit
def PV.lg(p:Nat->Nat->Bool):PV->Bool
 | .own id v| .ptr id v _| .cp id v _ _ _| .view id v _ _ _=>p id v
 | .agg _| .cg _| .aT _ _| .fe _ _=>false
 |_=>true
def PV.jx(p:Nat->Nat->Bool):PV->Bool
 | .agg cs| .cg cs| .aT _ cs| .fe _ cs=>cs.all (PV.lg p)
 |x=>x.lg p
section
variable{w:Wo}
def aJ.lg{p:Nat->Nat->Bool}{M M':Nat->Prop}{G G':Gh}{x:PV}{v:Va}(o:x.lg p=true)(q:∀b,M' b->M b)(g:∀id v,p id v=true->id<G'.N/\((G'.V id=G.V id/\G'.L id=G.L id)\/G.V id<G'.V id\/v<G'.V id))(h:aJ w M G x v):aJ w M' G' x v:=by
 have hs:bN w w M M':=(bN.of λ_ r=>λm=>r (q _ m))
 cases h with
 |any=>exact .any _
 |undef=>exact .undef
 |int=>exact .int _ _
 |bool=>exact .bool _
 |dI=>exact .dI _
 |str=>exact .str _
 |fF=>exact .fF
 |cu=>exact .cu
 |aT|fe|agg|cg=>simp[PV.lg]at o
 |ptr id ab off a z l h=>let⟨h1,f⟩:=g id ab o;exact .ptr _ _ _ _ h1 O (λe=>by rcases f with f|f;rw[f.2];exact h O;omega)
 |ref cs ad vs s d h=>exact .ref cs ad vs s (λi u j=>⟨(d i u j).1,λm=>(d i u j).2 (q _ m)⟩) (λi p u g j=>(h i p u g j).mono hs (Gh.le.refl _))
 |sl es ad c k vs hk s d h D r=>exact .sl es ad c k vs hk s (λi u j=>⟨(d i u j).1,λm=>(d i u j).2 (q _ m)⟩) (λi p u g j=>(h i p u g j).mono hs (Gh.le.refl _)) D r
 |slnil=>exact .slnil
 |own id ab a n c z l h=>let⟨h1,f⟩:=g id ab o;exact .own _ _ _ _ _ h1 O (λe=>by rcases f with f|f;rw[f.2];exact h O;omega)
 |cp id ab k i off a z l h=>let⟨h1,f⟩:=g id ab o;exact .cp _ _ _ _ _ _ h1 O (λe=>by rcases f with f|f;rw[f.2];exact h O;omega)
 |view id ab k lo n a c z l h=>let⟨h1,f⟩:=g id ab o;exact .view _ _ _ _ _ _ _ h1 O (λe=>by rcases f with f|f;rw[f.2];exact h O;omega)
 |qm=>exact .qm
 |rM T v=>exact .rM T v
 |fH T x v g h=>exact .fH T x v g (h.plain g)
 |gm ks us b es H F A hk B g1 g2=>exact .gm ks us b es H F (λm=>A (q _ m)) hk B (λi p e g t=>(g1 i p e g t).mono hs (Gh.le.refl _)) (λi p e g t=>(g2 i p e g t).mono hs (Gh.le.refl _))
def aJ.jx{p:Nat->Nat->Bool}{M M':Nat->Prop}{G G':Gh}{x:PV}{v:Va}(e:x.jx p=true)(k:∀b,M' b->M b)(j:∀id v,p id v=true->id<G'.N/\((G'.V id=G.V id/\G'.L id=G.L id)\/G.V id<G'.V id\/v<G'.V id))(h:aJ w M G x v):aJ w M' G' x v:=by
 have go:∀{cs:Z PV} {vs:Z Va},cs.all (PV.lg p)=true->aK w M G cs vs->aK w M' G' cs vs:=λm h=>⟨h.1,λi y v g l=>(h.2 i y v g l).lg (Qe.1 m y (QD g)) k j⟩
 cases x with
 |agg cs=>obtain⟨vs,rfl,d⟩:=h.lL;have:=go (by simpa[PV.jx]using e) d;exact .agg _ _ this.1 this.2
 |cg cs=>obtain⟨vs,rfl,d⟩:=h.zy;have:=go (by simpa[PV.jx]using e) d;exact .cg _ _ this.1 this.2
 |aT f cs=>obtain⟨vs,rfl,d⟩:=h.oQ;have:=go (by simpa[PV.jx]using e) d;exact .aT _ _ _ this.1 this.2
 |fe f cs=>obtain⟨vs,rfl,d⟩:=h.HW;have:=go (by simpa[PV.jx]using e) d;exact .fe _ _ _ this.1 this.2
 |_=>exact h.lg (by simpa[PV.jx]using e) k j
end
section
variable{U:TU}
def KV.lg(p:Nat->Nat->Bool):KV U->Bool
 | .own id v| .ptr id v _| .cp id v _ _ _| .view id v _ _ _=>p id v
 | .agg _| .cg _| .aT _ _| .fe _ _=>false
 |_=>true
def KV.jx(p:Nat->Nat->Bool):KV U->Bool
 | .agg cs| .cg cs| .aT _ cs| .fe _ cs=>cs.all (KV.lg p)
 |x=>x.lg p
def Tt(p:Nat->Nat->Bool)(x:KV U):x.pv.lg p=x.lg p:=by cases x<;>simp[KV.pv,PV.lg,KV.lg]
def MQ(p:Nat->Nat->Bool)(l:Z (KV U)):(l.map KV.pv).all (PV.lg p)=l.all (KV.lg p):=by
 induction l with
 |nil=>rfl
 |cons x l b=>simp[Qj,QA,Tt,b]
def F0(p:Nat->Nat->Bool)(x:KV U):x.pv.jx p=x.jx p:=by
 cases x with
 |agg cs|cg cs|aT f cs|fe f cs=>simp only[KV.pv,PV.jx,KV.jx,KV.bR];exact MQ p cs
 |_=>simp[KV.pv,PV.jx,KV.jx,PV.lg,KV.lg]
def cj.jx(p:Nat->Nat->Bool):cj U->Bool
 | .dead=>true
 | .box cs=>cs.all (KV.jx p)
 | .row _ _ _ _=>true
 | .raw _ _ es=>es.all λc=>c.all (KV.jx p)
inductive It (U:TU) where
 |val (t:Nat) (T:U.Ty)
 |own (t id ab:Nat) (s:Bool) (e k:Nat) (T:U.Ty)
 |box (id ab:Nat) (T:U.Ty) (m:List (Nat×Nat×Nat))
 |bO (id ab:Nat) (s:Bool) (e k:Nat) (T:U.Ty)
@[reducible] def It.den:It U->Type
 | .val _ T=>U.den T
 | .own _ _ _ _ _ _ T=>Z (U.den T)
 | .box _ _ T _=>U.den T
 | .bO _ _ _ _ _ T=>Z (U.den T)
@[reducible] def mE:Z (It U)->Type
 |[]=>Unit
 |i::l=>i.den×mE l
def wW:Z (Nat×Nat×Nat)->Z (KV U)->Z (KV U)
 |[],cs=>cs
 |(off,_,_)::m,cs=>wW m (cs.set off .cu)
def w8:Z (Nat×Nat×Nat)->Z (KV U)->Z (KV U)
 |[],cs=>cs
 |(off,id,ab)::m,cs=>(w8 m cs).set off (.own id ab)
def Cj(S:aw U)(cs:Z (KV U)):Z (Nat×Nat×Nat)->Bool
 |[]=>true
 |(off,id,_)::m=>(match cs[off]? with|some (.own i v)=>Nat.beq i id&&Nat.beq v (S.H id).ab|_=>false)&&Cj S cs m
def FL(cs:Z (KV U)):∀(m:Z (Nat×Nat×Nat)),(w8 m cs).length=cs.length
 |[]=>rfl
 |(off,id,ab)::m=>by rw[w8,qaZ,FL cs m]
def AA:∀(m:Z (Nat×Nat×Nat)) (cs:Z (KV U)),(wW m cs).length=cs.length
 |[],_=>rfl
 |(off,id,ab)::m,cs=>by rw[wW,AA m,qaZ]
def FM(cs:Z (KV U)){i:Nat}{y:KV U}:∀(m:Z (Nat×Nat×Nat)),(w8 m cs)[i]?=some y->(∃id ab,(i,id,ab)∈m/\y= .own id ab)\/((∀q∈m,q.1≠i)/\cs[i]?=some y)
 |[],h=> .inr ⟨t_,h⟩
 |(off,id,ab)::m,h=>by
  rw[w8,List.getElem?_set]at h;split at h
  .rename_i e;subst e;split at h
   .injection h with h
    exact .inl ⟨id,ab,Qx,h.symm⟩
   .cases h
  .rename_i e;rcases FM cs m h with⟨a,b,h1,f⟩|⟨h1,f⟩
   .exact .inl ⟨a,b,Qz _ h1,f⟩
   .refine .inr ⟨λq d=> ?_,f⟩
    rcases Qm.1 d with rfl|d
    .exact e
    .exact h1 q d
def Fx{i:Nat}:∀(m:Z (Nat×Nat×Nat)) (cs:Z (KV U)),(∀q∈m,q.1≠i)->(wW m cs)[i]?=cs[i]?
 |[],_,_=>rfl
 |(off,id,ab)::m,cs,h=>by rw[wW,Fx m _ λq b=>h q (Qz _ b),List.getElem?_set,Qg (h _ Qx)]
def F3{S:aw U}{cs:Z (KV U)}{b id ab:Nat}:∀{m:Z (Nat×Nat×Nat)},Cj S cs m=true->(b,id,ab)∈m->cs[b]?=some (.own id (S.H id).ab)
 |[],_,h=>by cases h
 |(o,i,v)::m,hm,h=>by
  rw[Cj,Qa]at hm;rcases Qm.1 h with e|h
  .injection e with k f
   injection f with f j
   subst k f j;have d:=hm.1;split at d
   .rename_i l v' g;rw[Qa]at d;rw[g,Qf d.1,Qf d.2]
   .cases d
  .exact F3 hm.2 h
variable(K:TK U)
def Lu(S:aw U):(i:It U)->Y i.den
 | .val t T=>yc K lE T (S.env t)
 | .own t id ab s e k T=>(match S.env t with
  | .own b v=>(match Nat.beq b id with
   |true=>(match S.row? b v with
    |some r=>(match Nat.beq r.e e&&Nat.beq r.k k&&(bif s then Nat.beq v ab else Nat.blt 0 ab)with|true=>uf r.T T r.xs|false=>none)
    |none=>none)
   |false=>none)
  |_=>none)
 | .box id ab T m=>(match S.om id ab with
  |some cs=>(match Cj S cs m with|true=>K.dec T lE (wW m cs)|false=>none)
  |none=>none)
 | .bO id ab s e k T=>(match(S.H id).c with
  | .row f d g xs=>(match Nat.beq f e&&Nat.beq d k&&(bif s then Nat.beq (S.H id).ab ab else Nat.blt 0 ab)with|true=>uf g T xs|false=>none)
  |_=>none)
def pack(S:aw U):(l:Z (It U))->Y (mE l)
 |[]=>some ()
 |i::l=>(match Lu K S i with
  |some v=>(match pack S l with|some vs=>some (v,vs)|none=>none)
  |none=>none)
def yT(S:aw U):(i:It U)->i.den->aw U
 | .val t T,v=>{env:=dj S.env t (tf K T v),H:=S.H,N:=S.N}
 | .own t id ab s e k T,xs=>{env:=dj S.env t (.own id ab),H:=dj S.H id ⟨ab,.row e k T xs⟩,N:=S.N}
 | .box id ab T m,v=>{env:=S.env,H:=dj S.H id ⟨ab,.box (w8 m (K.dD T v))⟩,N:=S.N}
 | .bO id ab s e k T,xs=>{env:=S.env,H:=dj S.H id ⟨ab,.row e k T xs⟩,N:=S.N}
def oI(S:aw U):(l:Z (It U))->mE l->aw U
 |[],_=>S
 |i::l,v=>yT K (oI S l v.2) i v.1
structure JS (U:TU) where
 items:List (It U)
 cO:List Nat
def aw.base(S:aw U)(cO:Z Nat):aw U:=
 {env:=λt=>(match cZ t cO with|true=>S.env t|false=> .any),H:=λid=>(match Nat.blt id S.N with|true=>S.H id|false=>⟨0,.dead⟩),N:=S.N}
def unpack(S:aw U)(J:JS U)(v:mE J.items):aw U:=oI K (S.base J.cO) J.items v
def It.AD:It U->Y Nat
 | .val t _| .own t _ _ _ _ _ _=>some t
 | .box _ _ _ _| .bO _ _ _ _ _ _=>none
def It.id:It U->Y Nat
 | .val _ _=>none
 | .own _ id _ _ _ _ _| .box id _ _ _| .bO id _ _ _ _ _=>some id
def Xg(S:aw U):It U->Bool
 | .own _ id ab s _ _ _| .bO id ab s _ _ _=>s||Nat.blt (S.H id).ab ab
 |_=>true
def It.row:It U->Y Nat
 | .own _ id _ s _ _ _| .bO id _ s _ _ _=>(match s with|true=>none|false=>some id)
 |_=>none
def It.isRow(id ab:Nat):It U->Bool
 | .bO d b _ _ _ _| .own _ d b _ _ _ _=>Nat.beq d id&&Nat.beq b ab
 |_=>false
def Gs(id ab:Nat):Z (It U)->Bool
 |[]=>false
 |i::l=>i.isRow id ab||Gs id ab l
def It.Xe(l:Z (It U)):It U->Bool
 | .box _ _ _ m=>m.all λq=>Gs q.2.1 q.2.2 l
 |_=>true
def Gr{id ab:Nat}:∀{l:Z (It U)},Gs id ab l=true->(∃s e k T,(It.bO id ab s e k T)∈l)\/∃t s e k T,(It.own t id ab s e k T)∈l
 |[],h=>by cases h
 |i::l,h=>by
  rw[Gs,Qw]at h;rcases h with h|h
  .cases i with
   |bO d b s e k T=>simp only[It.isRow,Qa]at h;rw[Qf h.1,Qf h.2];exact .inl ⟨s,e,k,T,Qx⟩
   |own t d b s e k T=>simp only[It.isRow,Qa]at h;rw[Qf h.1,Qf h.2];exact .inr ⟨t,s,e,k,T,Qx⟩
   |_=>cases h
  .rcases Gr h with⟨s,e,k,T,h⟩|⟨t,s,e,k,T,h⟩
   .exact .inl ⟨s,e,k,T,Qz _ h⟩
   .exact .inr ⟨t,s,e,k,T,Qz _ h⟩
def dp:Z (It U)->Z Nat
 |[]=>[]
 |i::l=>(match i.id with|some id=>id::dp l|none=>dp l)
def rowsOf:Z (It U)->Z Nat
 |[]=>[]
 |i::l=>(match i.row with|some id=>id::rowsOf l|none=>rowsOf l)
def slotsOf:Z (It U)->Z Nat
 |[]=>[]
 |i::l=>(match i.AD with|some id=>id::slotsOf l|none=>slotsOf l)
def rL:Z Nat->Bool
 |[]=>true
 |x::l=> !cZ x l&&rL l
def sn:Nat->(Nat->Bool)->Bool
 |0,_=>true
 |n+1,p=>sn n p&&p n
def sm{p:Nat->Bool}:∀{n:Nat},sn n p=true->∀i,i<n->p i=true
 |0,_,i,hi=>absurd hi (qaP _)
 |n+1,h,i,hi=>by
  simp[sn,Qa]at h
  by_cases e:i=n
  .rw[e];exact h.2
  .exact sm h.1 i O
def oh(S:aw U)(J:JS U)(F:Z Nat)(W:WS):Bool:=
 let b:=dp J.items
 let d:=rowsOf J.items
 let p:=λid v=>Nat.blt id S.N&&(!cZ id d||Nat.ble v (S.H id).ab)
 rL b&&b.all (λid=>Nat.blt id S.N&&okW W id)&&(J.items.all (Xg S)&&J.items.all (It.Xe J.items))&&J.cO.all (λt=>(S.env t).jx p&& !cZ t (slotsOf J.items))&&sn S.N (λid=>cZ id b||(S.H id).c.jx p)
  &&F.all (λt=>cZ t J.cO)&&(match W with|some (n,_)=>Nat.ble n S.N|none=>false)
def rJ:(l:Z (It U))->mE l->Z (Sigma (It.den (U:=U)))
 |[],_=>[]
 |i::l,v=>⟨i,v.1⟩::rJ l v.2
variable{K}
def FQ{S:aw U}:∀{l:Z (It U)} {v:mE l},pack K S l=some v->∀p∈rJ l v,Lu K S p.1=some p.2
 |[],v,h,p,b=>by cases b
 |i::l,v,h,p,b=>by
  rw[pack]at h;split at h
  .rename_i f e;split at h
   .rename_i vs d;injection h with h
    subst h;rcases Qm.1 b with rfl|b
    .exact e
    .exact FQ d p b
   .cases h
  .cases h
def PE:(i:It U)->i.den->KV U
 | .val _ T,v=>tf K T v
 | .own _ id ab _ _ _ _,_=> .own id ab
 | .box _ _ _ _,_| .bO _ _ _ _ _ _,_=> .any
def yX:(i:It U)->i.den->bu U
 | .val _ _,_=>⟨0,.dead⟩
 | .own _ _ ab s e k T,xs=>⟨ab,.row e k T xs⟩
 | .box _ ab T m,v=>⟨ab,.box (w8 m (K.dD T v))⟩
 | .bO _ ab s e k T,xs=>⟨ab,.row e k T xs⟩
def OC(S:aw U)(i:It U)(v:i.den)(t:Nat):(i.AD=some t/\(yT K S i v).env t=PE (K:=K) i v)\/(i.AD≠some t/\(yT K S i v).env t=S.env t):=by
 cases i with
 |val b T|own b id ab s d k T=>
  by_cases e:b=t
  .subst e;left;exact⟨rfl,by simp only[yT,bT];exact bf _ _ _⟩
  .right;exact⟨by simpa[It.AD]using e,by simp only[yT,bT];exact bq _ _ (λh=>e h.symm)⟩
 |box id ab T m|bO id ab s e k T=>right;exact⟨by simp[It.AD],rfl⟩
def Js(S:aw U)(i:It U)(v:i.den)(id:Nat):(i.id=some id/\(yT K S i v).H id=yX (K:=K) i v)\/(i.id≠some id/\(yT K S i v).H id=S.H id):=by
 cases i with
 |val d T=>right;exact⟨by simp[It.id],rfl⟩
 |own d b ab s f k T|box b ab T m|bO b ab s f k T=>
  by_cases e:b=id
  .subst e;left;exact⟨rfl,by simp only[yT,bT];exact bf _ _ _⟩
  .right;exact⟨by simpa[It.id]using e,by simp only[yT,bT];exact bq _ _ (λh=>e h.symm)⟩
def Tk(S:aw U)(i:It U)(v:i.den):(yT K S i v).N=S.N:=by cases i<;>rfl
def zD(S:aw U):∀(l:Z (It U)) (v:mE l),(oI K S l v).N=S.N
 |[],_=>rfl
 |i::l,v=>by rw[oI,Tk,zD S l]
def mR{id:Nat}:∀{l:Z (It U)} {i:It U},i∈l->i.id=some id->id∈dp l
 |j::l,i,hi,h=>by
  simp[dp];rcases Qm.1 hi with rfl|hi
  .rw[h];exact Qx
  .have:=mR hi h;split
   .exact Qz _ this
   .exact this
def EK{id:Nat}:∀{l:Z (It U)} {i:It U},i∈l->i.row=some id->id∈rowsOf l
 |j::l,i,hi,h=>by
  simp[rowsOf];rcases Qm.1 hi with rfl|hi
  .rw[h];exact Qx
  .have:=EK hi h;split
   .exact Qz _ this
   .exact this
def yh{id:Nat}:∀{l:Z (It U)} {i:It U},i∈l->i.AD=some id->id∈slotsOf l
 |j::l,i,hi,h=>by
  simp[slotsOf];rcases Qm.1 hi with rfl|hi
  .rw[h];exact Qx
  .have:=yh hi h;split
   .exact Qz _ this
   .exact this
def eS:∀{l:Z (It U)} {v:mE l} {p:Sigma (It.den (U:=U))},p∈rJ l v->p.1∈l
 |i::l,v,p,b=>by
  rcases Qm.1 b with rfl|b
  .exact Qx
  .exact Qz _ (eS b)
def EL:∀{l:Z (It U)} {v:mE l} {i:It U},i∈l->∃d,(⟨i,d⟩:Sigma (It.den (U:=U)))∈rJ l v
 |j::l,v,i,hi=>by
  rcases Qm.1 hi with rfl|hi
  .exact⟨v.1,Qx⟩
  .let⟨d,b⟩:=EL (v:=v.2) hi
   exact⟨d,Qz _ b⟩
def uq(S:aw U):∀(l:Z (It U)) (v:mE l) (t:Nat),(∃p∈rJ l v,p.1.AD=some t/\(oI K S l v).env t=PE (K:=K) p.1 p.2)\/(t∉slotsOf l/\(oI K S l v).env t=S.env t)
 |[],v,t=> .inr ⟨by simp[slotsOf],rfl⟩
 |i::l,v,t=>by
  rcases OC (K:=K) (oI K S l v.2) i v.1 t with⟨h1,d⟩|⟨h1,d⟩
  .exact .inl ⟨⟨i,v.1⟩,Qx,h1,d⟩
  .rcases uq S l v.2 t with⟨p,g,b,f⟩|⟨b,f⟩
   .exact .inl ⟨p,Qz _ g,b,d.trans f⟩
   .refine .inr ⟨?_,d.trans f⟩;simp[slotsOf];split
    .rename_i s hs;simp[Qm,Q2];exact⟨λe=>h1 (by rw[hs,e]),b⟩
    .exact b
def zF(S:aw U):∀(l:Z (It U)) (v:mE l) (id:Nat),rL (dp l)=true->(∃p∈rJ l v,p.1.id=some id/\(oI K S l v).H id=yX (K:=K) p.1 p.2)\/(id∉dp l/\(oI K S l v).H id=S.H id)
 |[],v,t,_=> .inr ⟨by simp[dp],rfl⟩
 |i::l,v,id,b=>by
  have g:rL (dp l)=true:=by
   simp[dp]at b;split at b
   .simp[rL,Qa]at b;exact b.2
   .exact b
  rcases Js (K:=K) (oI K S l v.2) i v.1 id with⟨h1,f⟩|⟨h1,f⟩
  .exact .inl ⟨⟨i,v.1⟩,Qx,h1,f⟩
  .rcases zF S l v.2 id g with⟨p,j,d,h⟩|⟨d,h⟩
   .exact .inl ⟨p,Qz _ j,d,f.trans h⟩
   .refine .inr ⟨?_,f.trans h⟩;simp[dp];split
    .rename_i s hs;simp[Qm,Q2];exact⟨λe=>h1 (by rw[hs,e]),d⟩
    .exact d
def yf(S:aw U):∀(l:Z (It U)) (v:mE l),rL (dp l)=true->∀p∈rJ l v,∀id,p.1.id=some id->(oI K S l v).H id=yX (K:=K) p.1 p.2
 |[],v,_,p,e=>by cases e
 |i::l,v,b,p,e=>by
  intro id d
  have g:rL (dp l)=true:=by
   simp[dp]at b;split at b
   .simp[rL,Qa]at b;exact b.2
   .exact b
  rcases Qm.1 e with rfl|e
  .rcases Js (K:=K) (oI K S l v.2) i v.1 id with⟨h1,f⟩|⟨h1,f⟩
   .exact f
   .exact absurd d h1
  .rcases Js (K:=K) (oI K S l v.2) i v.1 id with⟨h1,f⟩|⟨h1,f⟩
   .exfalso;simp[dp,h1,rL,Qa,QQ]at b;exact kT b.1 (mR (eS e) d)
   .exact f.trans (yf S l v.2 g p e id d)
def GN(S:aw U)(cO:Z Nat):(S.base cO).N=S.N:=rfl
def Bk{S:aw U}{cO:Z Nat}{t:Nat}:(S.base cO).env t=if t∈cO then S.env t else .any:=by grind [aw.base,cJ,kT]
def GO{S:aw U}{cO:Z Nat}{id:Nat}:(S.base cO).H id=if id<S.N then S.H id else⟨0,.dead⟩:=by
 simp[aw.base];split
 .rename_i h;rw[Qc (show id<S.N from Qk h)]
 .rename_i h;rw[Qg];intro b;have:Nat.blt id S.N=true:=qak b;rw[this]at h;cases h
def eC.Px{w:Wo}{M:Nat->Prop}{G:Gh}{xs:Z (KV U)}{b:Z PV}(h:eC lE xs b):∀{vs:Z Va},aK w M G (xs.map KV.pv) vs->aK w M G b vs:=by
 induction h with
 |nil=>intro vs h;exact h
 |cons g _ e=>
  intro vs h;obtain⟨v,d,rfl,h1,i⟩:=aK.cons_inv h;refine aK.cons ?_ (e i)
  cases g with
  |cu=>rw[KV.pv]at h1;rw[h1.ml];exact .slnil
  |own _ _ _ _ f=>cases f
  |_=>simpa[KV.pv]using h1
def gH.Px{w:Wo}{M:Nat->Prop}{G:Gh}{x:KV U}{y:PV}(e:gH lE x y){v:Va}(b:aJ w M G x.pv v):aJ w M G y v:=by
 cases e with
 |cu=>rw[KV.pv]at b;rw[b.ml];exact .slnil
 |own _ _ _ _ d=>cases d
 |_=>simpa[KV.pv]using b
def eC.len{lk:Lk U}{xs:Z (KV U)}{b:Z PV}(h:eC lk xs b):xs.length=b.length:=by
 induction h with
 |nil=>rfl
 |cons _ _ d=>rw[QW,QW,d]
def eC.get{lk:Lk U}{xs:Z (KV U)}{e:Z PV}(h:eC lk xs e):∀{i:Nat} {x:KV U} {y:PV},xs[i]?=some x->e[i]?=some y->gH lk x y:=by
 induction h with
 |nil=>intro i x y h;simp at h
 |cons g _ f=>
  intro i x y d b
  cases i with
  |zero=>simp[List.getElem?_cons_zero,Qb]at d b;subst d b;exact g
  |succ i=>exact f (by simpa using d) (by simpa using b)
def Nr{w:Wo}{M:Nat->Prop}{G:Gh}{T:U.Ty}{x:KV U}{d:U.den T}{v:Va}(h:yc K lE T x=some d)(r:aJ w M G x.pv v):aJ w M G (cQ T d) v:=by
 unfold yc at h;unfold cQ;split at h
 .split at h
  .rename_i cs;rw[KV.pv,KV.bR]at r;obtain⟨vs,rfl,f⟩:=r.lL;have:=(K.iR _ _ _ _ h).Px f;exact .agg _ _ this.1 this.2
  .cases h
 .rename_i k;have i:=K.iR _ _ _ _ h;have j:aK w M G ([x].map KV.pv) [v]:= .cons r .nil;have b:=i.Px j;generalize U.pv T d=e at b
  let⟨g,b⟩:=b
  cases e with
  |nil=>simp at g
  |cons y l=>exact b 0 y v rfl rfl
def Rel.meet{S0 S1:aw U}{J:JS U}{F:Z Nat}{W:WS}(hchk:oh S0 J F W=true){v:mE J.items}(hp:pack K S1 J.items=some v)
  (hk:∀t∈J.cO,S1.env t=S0.env t) (hH:∀id,id<S0.N->id∉dp J.items->S1.H id=S0.H id) (hN:S0.N<=S1.N)
  {E:En} (hA:qg E S0.st) {a:Act} {w:Wo} {L:Nat->Va} (h:Rel E S1.st a w L):Rel E (unpack K S0 J v).st a w L:=by
 simp only[oh,Qa,Qe]at hchk;obtain⟨⟨⟨⟨⟨⟨hnd,hids⟩,hokv,hokm⟩,hkeep⟩,hobj⟩,hF⟩,hW⟩:=hchk;have hpk:=FQ hp;have M:(unpack K S0 J v).N=S0.N:=by rw[unpack,zD,GN]
 have hlt:∀id∈dp J.items,id<S0.N:=λid A=>Qk (hids id A).1
 have hHc:∀id,(∃p∈rJ J.items v,p.1.id=some id/\(unpack K S0 J v).H id=yX (K:=K) p.1 p.2)\/(id∉dp J.items/\(unpack K S0 J v).H id=if id<S0.N then S0.H id else⟨0,.dead⟩):=by
  intro id;rcases zF (K:=K) (S0.base J.cO) J.items v id hnd with h1|⟨h1,D⟩
  .exact .inl h1
  .exact .inr ⟨h1,D.trans GO⟩
 have N:∀t id ab s e k T (xs:Z (U.den T)),(⟨.own t id ab s e k T,xs⟩:Sigma (It.den (U:=U)))∈rJ J.items v->S1.env t= .own id (S1.H id).ab/\(S1.H id).c= .row e k T xs/\(bif s then(S1.H id).ab=ab else 0<ab):=by
  intro t id ab s e k T xs o;have:=hpk _ o;simp only[Lu]at this;split at this
  .rename_i B v' he;split at this
   .rename_i A;have A:=Qf A;subst A;split at this
    .rename_i r hr;obtain⟨h1,D⟩:=yd hr;split at this
     .rename_i H;rw[Qa,Qa]at H;obtain⟨re,rk,rT,rxs⟩:=r;obtain⟨eT,hxs⟩:=jf this;simp only at eT hxs D H;subst eT;refine⟨by rw[he,h1],by rw[D,hxs,Qf H.1.1,Qf H.1.2],?_⟩
      cases s with
      |true=>exact h1.symm▸Qf H.2
      |false=>exact Qk H.2
     .cases this
    .cases this
   .cases this
  .cases this
 have hbox:∀id ab T m (d:U.den T),(⟨.box id ab T m,d⟩:Sigma (It.den (U:=U)))∈rJ J.items v->(S1.H id).ab=ab/\∃cs,(S1.H id).c= .box cs/\Cj S1 cs m=true/\eC lE (wW m cs) (U.pv T d):=by
  intro id ab T m d o;have:=hpk _ o;simp only[Lu]at this;split at this
  .rename_i cs hcs;obtain⟨h1,D⟩:=uM hcs;split at this
   .rename_i hmk;exact⟨h1,cs,D,hmk,K.iR _ _ _ _ this⟩
   .cases this
  .cases this
 have I:∀id ab s e k T (xs:Z (U.den T)),(⟨.bO id ab s e k T,xs⟩:Sigma (It.den (U:=U)))∈rJ J.items v->(S1.H id).c= .row e k T xs/\(bif s then(S1.H id).ab=ab else 0<ab):=by
  intro id ab s e k T xs o;have:=hpk _ o;simp only[Lu]at this;split at this
  .rename_i e' k' T' ys hc;split at this
   .rename_i H;rw[Qa,Qa]at H;obtain⟨eT,hxs⟩:=jf this;subst eT;refine⟨by rw[hc,hxs,Qf H.1.1,Qf H.1.2],?_⟩
    cases s with
    |true=>exact Qf H.2
    |false=>exact Qk H.2
   .cases this
  .cases this
 have G:∀id,id<S0.N->((unpack K S0 J v).st.H id).c.live=true->(S1.st.H id).c.live=true:=by
  intro id A hl;rcases hHc id with⟨⟨i,d⟩,o,h1,D⟩|⟨h1,D⟩
  .cases i with
   |val t T=>cases h1
   |own t B ab s e k T=>simp only[It.id,Qb]at h1;subst h1;have:=(N _ _ _ _ _ _ _ _ o).2.1;simp only[aw.st,bu.pv,this,cj.pv];rfl
   |box B ab T m=>simp[It.id,Qb]at h1;subst h1;obtain⟨_,cs,h3,_,_⟩:=hbox _ _ _ _ _ o;simp only[aw.st,bu.pv,h3,cj.pv];rfl
   |bO B ab s e k T=>simp[It.id,Qb]at h1;subst h1;have:=(I _ _ _ _ _ _ _ o).1;simp only[aw.st,bu.pv,this,cj.pv];rfl
  .grind [aw.st]
 have hM:∀b,aI E (unpack K S0 J v).st L b->aI E S1.st L b:=by
  rintro b (⟨id,A,hl,hb⟩|hb)
  .have q:id<S0.N:=by simpa only[aw.st,M]using A
   exact .inl ⟨id,QF q hN,G id q hl,hb⟩
  .exact .inr hb
 have hpok:∀id u,(Nat.blt id S0.N&&(!cZ id (rowsOf J.items)||Nat.ble u (S0.H id).ab))=true->id<((unpack K S0 J v).st.gh L).N/\((((unpack K S0 J v).st.gh L).V id=(S1.st.gh L).V id/\((unpack K S0 J v).st.gh L).L id=(S1.st.gh L).L id)\/(S1.st.gh L).V id<((unpack K S0 J v).st.gh L).V id\/u<((unpack K S0 J v).st.gh L).V id):=by
  intro id u A;rw[Qa,Qw,QQ]at A;have hid1:id<S0.N:=Qk A.1;refine⟨by simpa only[St.gh,aw.st,M]using hid1,?_⟩
  suffices hs:((unpack K S0 J v).H id).ab=(S1.H id).ab\/(id∈rowsOf J.items/\(S0.H id).ab<((unpack K S0 J v).H id).ab)by
   simp only[St.gh,aw.st,bu.pv];rcases hs with hs|⟨hs1,hs2⟩
   .exact .inl ⟨hs,trivial⟩
   .refine .inr (.inr (Nat.lt_of_le_of_lt (Qk (A.2.resolve_left λe=>kT e hs1)) hs2))
  rcases hHc id with⟨⟨i,d⟩,o,h1,D⟩|⟨h1,D⟩
  .cases i with
   |val t T=>cases h1
   |own t B ab s e k T=>
    simp only[It.id,Qb]at h1;subst h1
    cases s with
    |true=>rw[D];exact .inl (N _ _ _ _ _ _ _ _ o).2.2.symm
    |false=>refine .inr ⟨EK (eS o) rfl,?_⟩;rw[D];exact Qk (hokv _ (eS o))
   |box B ab T m=>simp only[It.id,Qb]at h1;subst h1;rw[D];exact .inl (hbox _ _ _ _ _ o).1.symm
   |bO B ab s e k T=>
    simp only[It.id,Qb]at h1;subst h1
    cases s with
    |true=>rw[D];exact .inl (I _ _ _ _ _ _ _ o).2.symm
    |false=>refine .inr ⟨EK (eS o) rfl,?_⟩;rw[D];exact Qk (hokv _ (eS o))
  .rw[D,Qc hid1];exact .inl (QL bu.ab (hH id hid1 h1)).symm
 have hanc:∀id n u,E.gy id=some (n,u)->id<(unpack K S0 J v).st.N/\n<=((unpack K S0 J v).st.H id).ab/\(((unpack K S0 J v).st.H id).ab=n->L id=u):=by
  intro id n u hi
  let⟨q1,q2⟩:=hA id n u hi
  let⟨_,p2,p3⟩:=h.gy id n u hi
  have q1:id<S0.N:=q1;refine⟨by simpa only[aw.st,M]using q1,?_⟩
  have q2:n<=(S0.H id).ab:=q2;have p2:n<=(S1.H id).ab:=p2
  have row1:∀{ab:Nat} {s:Bool},(bif s then(S1.H id).ab=ab else 0<ab)->(s||Nat.blt (S0.H id).ab ab)=true->n<=ab/\(ab=n->L id=u):=by
   intro ab s g2 g3
   cases s with
   |true=>have g2:(S1.H id).ab=ab:=g2;exact⟨O,λe=>p3 (g2.trans e)⟩
   |false=>rw[qa7]at g3;have:=Qk g3;exact⟨O,λe=>O⟩
  rcases hHc id with⟨⟨i,d⟩,o,h1,D⟩|⟨h1,D⟩
  .have hj:=hokv _ (eS o)
   cases i with
   |val t T=>cases h1
   |own t B ab s e k T=>simp only[It.id,Qb]at h1;subst h1;simp only[aw.st,bu.pv,D,yX];exact row1 (N _ _ _ _ _ _ _ _ o).2.2 hj
   |box B ab T m=>
    simp only[It.id,Qb]at h1;subst h1
    let⟨g1,_⟩:=hbox _ _ _ _ _ o
    simp only[aw.st,bu.pv,D,yX];exact⟨O,λe=>p3 (g1.trans e)⟩
   |bO B ab s e k T=>simp only[It.id,Qb]at h1;subst h1;simp only[aw.st,bu.pv,D,yX];exact row1 (I _ _ _ _ _ _ _ o).2 hj
  .have e:(unpack K S0 J v).H id=S1.H id:=by rw[D,Qc q1];exact(hH id q1 h1).symm
   have e':(unpack K S0 J v).st.H id=S1.st.H id:=by simp only[aw.st,e]
   rw[e'];exact⟨p2,p3⟩
 refine⟨h.defers,h.size,λt=> ?_,λid A=> ?_,λi j b hi hj hli hlj hbi hbj=> ?_,λid A=> ?_,h.fr,λhb hlv V=> ?_,λid n u hi=>hanc id n u hi,h.an.1.trans (.of λb hn hm=>hn (hM b hm)),λid b A hl hb hr=>(have q:id<S0.N:=(by simpa only[aw.st,M]using A);h.an.2.1 id b (QF q hN) (G id q hl) hb hr),λb hH=>⟨(h.an.2.2 b hH).1,(h.an.2.2 b hH).2.1,λid A hl=>(have q:id<S0.N:=(by simpa only[aw.st,M]using A);(h.an.2.2 b hH).2.2 id (QF q hN) (G id q hl))⟩⟩
 .show aJ _ _ _ (((unpack K S0 J v).env t).pv) _;rcases uq (K:=K) (S0.base J.cO) J.items v t with⟨⟨i,d⟩,o,h1,D⟩|⟨_,D⟩
  .rw[show(unpack K S0 J v).env t=_ from D]
   cases i with
   |val t' T=>
    simp only[It.AD,Qb]at h1;subst h1;simp only[PE,wM];have h3:=hpk _ o;simp only[Lu]at h3;have h4:=Nr h3 (h.env t')
    have hg:(cQ T d).jx (λ_ _=>false)=true:=by
     have:=vg K d;have h5:=Bv K d
     cases hv:cQ T d with
     |agg cs=>
      simp only[PV.jx];refine Qe.2 λy hy=> ?_
      cases ha:U.agg T with
      |true=>
       rw[qK d ha]at hv;injection hv with hv
       rw[<-hv]at hy;have:=K.ea T d y hy;cases y<;>first|rfl|cases this
      |false=>obtain⟨y0,h6,h7⟩:=oE K d ha;have h8:=K.ea T d y0 h7;rw[<-h6,hv]at h8;cases h8
     |cg cs=>exact absurd hv (h5 cs)
     |aT f cs=>
      exfalso
      cases ha:U.agg T with
      |true=>rw[qK d ha]at hv;cases hv
      |false=>obtain⟨y,h6,h7⟩:=oE K d ha;have h8:=K.ea T d y h7;rw[<-h6,hv]at h8;cases h8
     |_=>rw[hv]at this;first|rfl|cases this
    exact h4.jx hg hM (λid _ A=>by cases A)
   |own t' id ab s e k T=>
    simp[It.AD,Qb]at h1;subst h1
    let⟨h3,h4,_⟩:=N _ _ _ _ _ _ _ _ o
    have h5:=h.env t';have h6:S1.st.env t'= .own id (S1.st.H id).ab:=by simp[aw.st,h3,KV.pv,bu.pv]
    rw[h6]at h5
    let⟨h7,h8⟩:=h5.iy (show(S1.st.gh L).V id=_ from rfl)
    have hidlt:=hlt id (mR (eS o) rfl);have h9:=yf (K:=K) (S0.base J.cO) J.items v hnd _ o id rfl;simp only[PE,KV.pv]
    have hsl:∃ad n c,a.tmps.getD t' undef= .slice ad n c:=by
     generalize a.tmps.getD t' undef=vv at h5
     cases h5 with
     |own _ _ ad n c _ _ _=>exact⟨ad,n,c,rfl⟩
    obtain⟨ad,n,c,hv⟩:=hsl;rw[hv]at h8 ⊢;refine .own _ _ _ _ _ (by simpa only[St.gh,aw.st,M]using hidlt) ?_ (λ_=>h8)
    simp only[St.gh,aw.st,bu.pv,show(unpack K S0 J v).H id=_ from h9,yX]
    exact Ql _
   |box id ab T m|bO id ab s e k T=>cases h1
  .rw[show(unpack K S0 J v).env t=_ from D,Bk]
   split
   .rename_i ht;have h3:=(hkeep t ht).1;rw[<-F0]at h3;refine aJ.jx h3 hM hpok ?_;have:=h.env t
    grind [aw.st]
   .exact .any _
 .have q:id<S0.N:=by simpa only[aw.st,M]using A
  show iD _ _ _ _ _ (((unpack K S0 J v).H id).c.pv);rcases hHc id with⟨⟨i,d⟩,o,h1,D⟩|⟨h1,D⟩
  .rw[D]
   cases i with
   |val t T=>cases h1
   |own t B ab s e k T=>
    simp[It.id,Qb]at h1;subst h1;have h3:=(N _ _ _ _ _ _ _ _ o).2.1;have h4:(S1.st.H B).c= .row e k (d.map (U.pv T)):=by simp[aw.st,bu.pv,h3,cj.pv]
    let⟨vs,h5,h6,h7⟩:=h.gd (QF q hN) h4
    refine⟨vs,h5,h6,aK.closed ?_ hM h7⟩;refine Qe.2 λy hy=> ?_
    let⟨u,hu,hyu⟩:=List.mem_flatten.1 hy
    obtain⟨x,_,rfl⟩:=Qq.1 hu;exact dY (K.ea T x y hyu)
   |box B ab T m=>
    simp only[It.id,Qb]at h1;subst h1
    let⟨_,cs,h3,hmk,hcs⟩:=hbox _ _ _ _ _ o
    have h4:(S1.st.H B).c= .box (cs.map KV.pv):=by simp[aw.st,bu.pv,h3,cj.pv]
    let⟨b,cur,T',h5,h6,h7,h8⟩:=h.mO (QF q hN) h4
    refine⟨b,cur,T',h5,h6,h8,?_,λi y u hy hu=> ?_⟩
    .have e1:=QL List.length (K.lK T d);rw[Qv]at e1;rw[Qv,FL,e1,<-hcs.len,AA,h7.1,Qv]
    .rw[Qr,Qh]at hy;obtain⟨z,hz,rfl⟩:=hy;rcases FM _ m hz with⟨R,rver,hmm,rfl⟩|⟨hnm,hz⟩
     .have hci:=F3 hmk hmm;have h9:=h7.2 i _ u (by rw[Qr,hci];rfl) hu
      rw[KV.pv]at h9
      let⟨h10,h11⟩:=h9.iy (show(S1.st.gh L).V R=_ from rfl)
      have hmi:(It.box B ab T m)∈J.items:=eS o
      obtain⟨hridlt,hrver⟩:R<S0.N/\((unpack K S0 J v).H R).ab=rver:=by
       rcases Gr (Qe.1 (hokm _ hmi) _ hmm)with⟨s2,e,k,T2,hrm⟩|⟨t2,s2,e,k,T2,hrm⟩
       .let⟨d2,hd2⟩:=EL (v:=v) hrm
        have h12:=yf (K:=K) (S0.base J.cO) J.items v hnd _ hd2 R rfl;exact⟨hlt R (mR hrm rfl),by rw[show(unpack K S0 J v).H R=_ from h12];rfl⟩
       .let⟨d2,hd2⟩:=EL (v:=v) hrm
        have h12:=yf (K:=K) (S0.base J.cO) J.items v hnd _ hd2 R rfl;exact⟨hlt R (mR hrm rfl),by rw[show(unpack K S0 J v).H R=_ from h12];rfl⟩
      have hsl:∃ad n c,u= .slice ad n c:=by
       cases h9 with
       |own _ _ ad n c _ _ _=>exact⟨ad,n,c,rfl⟩
      let⟨ad,n,c,hv⟩:=hsl
      rw[hv]at h11 ⊢;rw[KV.pv];refine .own _ _ _ _ _ (by simpa only[St.gh,aw.st,M]using hridlt) ?_ (λ_=>h11)
      simp only[St.gh,aw.st,bu.pv,hrver];exact Ql _
     .have hzp:(U.pv T d)[i]?=some z.pv:=by rw[<-K.lK,Qr,hz];rfl
      have hil:i<cs.length:=by have:=(QI.1 hzp).1;rw[<-hcs.len,AA]at this;exact this
      have hci:cs[i]?=some cs[i]:=Qt hil;have hck:=hcs.get (by rw[Fx m cs hnm];exact hci) hzp
      have h9:=h7.2 i _ u (by rw[Qr,hci];rfl) hu
      exact(hck.Px h9).closed (dY (K.ea T d _ (QD hzp))) hM
   |bO B ab s e k T=>
    simp[It.id,Qb]at h1;subst h1;have h3:=(I _ _ _ _ _ _ _ o).1;have h4:(S1.st.H B).c= .row e k (d.map (U.pv T)):=by simp[aw.st,bu.pv,h3,cj.pv]
    let⟨vs,h5,h6,h7⟩:=h.gd (QF q hN) h4
    refine⟨vs,h5,h6,aK.closed ?_ hM h7⟩;refine Qe.2 λy hy=> ?_
    let⟨u,hu,hyu⟩:=List.mem_flatten.1 hy
    obtain⟨x,_,rfl⟩:=Qq.1 hu;exact dY (K.ea T x y hyu)
  .rw[D,Qc q,<-hH id q h1];have ho:=h.obj id (QF q hN);have hc:=sm hobj id q;rw[Qw]at hc;have hc:=hc.resolve_left (λe=>h1 (cJ.1 e))
   rw[<-hH id q h1]at hc
   change iD _ _ _ _ _ ((S1.H id).c.pv)at ho
   cases hcc:(S1.H id).c with
   |dead=>trivial
   |box cs=>
    rw[hcc]at ho hc
    let⟨b,cur,T',h5,h6,h7,h8⟩:=ho
    refine⟨b,cur,T',h5,h6,h7,h8.1,λi y u hy hu=> ?_⟩
    simp[cj.jx,Qe]at hc;rw[Qr,Qh]at hy;obtain⟨z,hz,rfl⟩:=hy;refine aJ.jx (by rw[F0];exact hc z (QD hz)) hM hpok (h8.2 i z.pv u (by rw[Qr,hz];rfl) hu)
   |raw e k es=>
    rw[hcc]at ho hc
    let⟨vs,h5,h6,h7⟩:=ho
    refine⟨vs,h5,h6,h7.1,λi y u hy hu=> ?_⟩
    simp[cj.jx,Qe]at hc
    let⟨l,hl,hyl⟩:=List.mem_flatten.1 (QD hy)
    obtain⟨c,hcm,rfl⟩:=Qq.1 hl;obtain⟨z,hz,rfl⟩:=Qq.1 hyl;exact aJ.jx (by rw[F0];exact hc c hcm z hz) hM hpok (h7.2 i _ u hy hu)
   |row e k T xs=>
    rw[hcc]at ho
    let⟨vs,h5,h6,h7⟩:=ho
    refine⟨vs,h5,h6,aK.closed ?_ hM h7⟩;refine Qe.2 λy hy=> ?_
    let⟨u,hu,hyu⟩:=List.mem_flatten.1 hy
    obtain⟨x,_,rfl⟩:=Qq.1 hu;exact dY (K.ea T x y hyu)
 .have hi':i<S0.N:=by simpa only[aw.st,M]using hi
  have hj':j<S0.N:=by simpa only[aw.st,M]using hj
  exact h.apart i j b (QF hi' hN) (QF hj' hN) (G i hi' hli) (G j hj' hlj) hbi hbj
 .have q:S0.N<=id:=by simpa only[aw.st,M]using A
  rcases hHc id with⟨⟨i,d⟩,o,h1,D⟩|⟨h1,D⟩
  .have:=hlt id (mR (eS o) h1);omega
  .grind [aw.st,bu.pv,cj.pv]
 .by_cases h0:0<S0.N
  .refine h.sP hb (G 0 h0 hlv) ?_;simp[aw.st,bu.pv]at V ⊢;rcases hHc 0 with⟨⟨i,d⟩,o,h1,D⟩|⟨h1,D⟩
   .rw[D]at V
    cases i with
    |val t T=>cases h1
    |own t B ab s e k T=>
     simp[It.id,Qb]at h1;subst h1;have g:=(N _ _ _ _ _ _ _ _ o).2.2;simp only[yX]at V
     cases s with
     |true=>exact g.trans V
     |false=>exact absurd V (qbp g)
    |box B ab T m=>simp[It.id,Qb]at h1;subst h1;rw[(hbox _ _ _ _ _ o).1];exact V
    |bO B ab s e k T=>
     simp only[It.id,Qb]at h1;subst h1;have g:=(I _ _ _ _ _ _ _ o).2;simp only[yX]at V
     cases s with
     |true=>exact g.trans V
     |false=>exact absurd V (qbp g)
   .grind
  .rcases hHc 0 with⟨⟨i,d⟩,o,h1,D⟩|⟨h1,D⟩
   .exact absurd (hlt 0 (mR (eS o) h1)) h0
   .rw[Qg h0]at D;simp[aw.st,bu.pv,D,cj.pv]at hlv;cases hlv
end
section
variable{U:TU}
def L6(S:aw U):RV->Y (KV U)
 | .tmp t=>some (S.env t)
 | .cell t n=>(match S.env t with
  | .ptr id ab off=>(match S.om id ab with|some cs=>Cm n (cs.drop off)|none=>none)
  |_=>none)
def IT(S:aw U):Z RV->Y (Z (KV U))
 |[]=>some []
 |r::rs=>(match L6 S r with
  |some x=>(match IT S rs with|some xs=>some (x::xs)|none=>none)
  |none=>none)
def S6:Z (KV U)->KV U
 |[x]=>x
 |xs=> .cg xs
def o9(S:aw U)(rs:Z RV):Y (KV U):=
 match IT S rs with
 |some xs=>some (S6 xs)
 |none=>none
def Ov{S:aw U}{r:RV}{x:KV U}(h:L6 S r=some x):w7 S.st r=some x.pv:=by
 cases r with
 |tmp t=>cases h;rfl
 |cell t n=>
  simp[L6]at h;split at h
  .rename_i id ab off b;split at h
   .rename_i cs d
    let⟨h1,f⟩:=sk d
    have e:S.st.env t= .ptr id ab off:=by simp[aw.st,b,KV.pv]
    simp only[w7,e];rw[Qc h1,f];have:=wT h;rw[List.map_drop]at this;exact this
   .cases h
  .cases h
def Jk{S:aw U}:∀{rs:Z RV} {xs:Z (KV U)},IT S rs=some xs->qh S.st rs=some (xs.map KV.pv)
 |[],xs,h=>by injection h with h;subst h;rfl
 |r::rs,xs,h=>by
  simp only[IT]at h;split at h
  .rename_i x d;split at h
   .rename_i e b;injection h with h
    subst h;simp only[qh,Ov d,Jk b,Qj]
   .cases h
  .cases h
def wP{S:aw U}{rs:Z RV}{x:KV U}(h:o9 S rs=some x):nq S.st rs=some x.pv:=by
 unfold o9 at h;split at h
 .rename_i xs b;injection h with h
  subst h;have:=Jk b;unfold nq;rw[this]
  match xs with
  |[]|[x]=>rfl
  |x::y::l=>simp[Qj,S6,KV.pv,KV.bR]
 .cases h
end
section
variable{U:TU}{α β:Type}
def uG(n:Nat)(k:Nat->α):α:=match n with|0=>k 0|m+1=>k (Nat.succ m)
def yt(n:Nat)(k:Nat->α):uG n k=k n:=by cases n<;>rfl
def Dr:Z Nat->(Z Nat->α)->α
 |[],k=>k []
 |x::l,k=>uG x λx=>Dr l λl=>k (x::l)
def Gw:∀(l:Z Nat) (k:Z Nat->α),Dr l k=k l
 |[],_=>rfl
 |x::l,k=>by rw[Dr,yt,Gw l]
def J3(x:KV U)(k:KV U->α):α:=match x with
 | .ptr i v o=>uG i λi=>uG v λv=>k (.ptr i v o)
 | .own i v=>uG i λi=>uG v λv=>k (.own i v)
 | .any=>k .any
 | .undef=>k .undef
 | .int a b=>k (.int a b)
 | .bool b=>k (.bool b)
 | .dI=>k .dI
 | .str b=>k (.str b)
 | .fF=>k .fF
 | .cu=>k .cu
 | .aT f cs=>k (.aT f cs)
 | .fe f cs=>k (.fe f cs)
 | .agg cs=>k (.agg cs)
 | .cg cs=>k (.cg cs)
 | .ref cs=>k (.ref cs)
 | .sl T xs=>k (.sl T xs)
 | .cp a b c d e=>k (.cp a b c d e)
 | .view a b c d e=>k (.view a b c d e)
 | .gm A B xs=>k (.gm A B xs)
 |x=>k x
def NY(x:KV U)(k:KV U->α):J3 x k=k x:=by cases x<;>simp only[J3,yt]
def Dq:Z (KV U)->(Z (KV U)->α)->α
 |[],k=>k []
 |x::l,k=>J3 x λx=>Dq l λl=>k (x::l)
def Gv:∀(l:Z (KV U)) (k:Z (KV U)->α),Dq l k=k l
 |[],_=>rfl
 |x::l,k=>by rw[Dq,NY,Gv l]
def J4(o:bu U)(k:bu U->α):α:=match o with
 |⟨v,c⟩=>uG v λv=>match c with
  | .dead=>k ⟨v,.dead⟩
  | .box cs=>Dq cs λcs=>k ⟨v,.box cs⟩
  | .row e n T xs=>k ⟨v,.row e n T xs⟩
  | .raw e n es=>k ⟨v,.raw e n es⟩
def NZ(o:bu U)(k:bu U->α):J4 o k=k o:=by obtain⟨v,c⟩:=o;rw[J4,yt];cases c<;>first|rfl|exact Gv _ _
def nb(d:β):Z (Nat×β)->Nat->β
 |[],_=>d
 |p::l,n=>match Nat.beq n p.1 with|true=>p.2|false=>nb d l n
def MJ{a b:Nat}(h:a≠b):Nat.beq a b=false:=by
 cases e:Nat.beq a b with
 |false=>rfl
 |true=>exact absurd (Qf e) h
def ma(d:β)(p:Nat×β)(l:Z (Nat×β))(n:Nat):nb d (p::l) n=if n=p.1 then p.2 else nb d l n:=by
 rw[nb]
 by_cases h:n=p.1
 .rw[Qc h,h,qa8]
 .rw[Qg h,MJ h]
def N1:Z (Nat×β)->Z (Nat×β)
 |[]=>[]
 |p::l=>match Nat.beq (Nat.mod p.1 2) 0 with|true=>(Nat.div p.1 2,p.2)::N1 l|false=>N1 l
def NJ:Z (Nat×β)->Z (Nat×β)
 |[]=>[]
 |p::l=>match Nat.beq (Nat.mod p.1 2) 0 with|true=>NJ l|false=>(Nat.div p.1 2,p.2)::NJ l
def OF(n:Nat):Nat.beq (Nat.mod n 2) 0=decide (n % 2=0):=by
 show Nat.beq (n % 2) 0=_
 by_cases h:n % 2=0
 .rw[h];rfl
 .rw[MJ h,qae h]
def HZ(d:β){n:Nat}(b:n % 2=0):∀(l:Z (Nat×β)),nb d (N1 l) (n / 2)=nb d l n
 |[]=>rfl
 |p::l=>by
  rw[N1,OF,ma]
  by_cases h:p.1 % 2=0
  .rw[qad h];simp only;rw[ma,HZ d b l];show(if n / 2=p.1 / 2 then _ else _)=_
   by_cases e:n=p.1
   .rw[Qc e,Qc O]
   .rw[Qg e,Qg O]
  .rw[qae h,Qg O];exact HZ d b l
def HY(d:β){n:Nat}(b:n % 2≠0):∀(l:Z (Nat×β)),nb d (NJ l) (n / 2)=nb d l n
 |[]=>rfl
 |p::l=>by
  rw[NJ,OF,ma]
  by_cases h:p.1 % 2=0
  .rw[qad h,Qg O];exact HY d b l
  .rw[qae h];simp only;rw[ma,HY d b l];show(if n / 2=p.1 / 2 then _ else _)=_
   by_cases e:n=p.1
   .rw[Qc e,Qc O]
   .rw[Qg e,Qg O]
inductive BT (β:Type) where
 |S7 (l:List (Nat×β))
 |Tv (a b:BT β)
 def BT.get(d:β)(t:BT β):Nat->β:=
 BT.rec (motive:=λ_=>Nat->β) (λl n=>nb d l n) (λ_ _ f g n=>Bool.rec (g (Nat.div n 2)) (f (Nat.div n 2)) (Nat.beq (Nat.mod n 2) 0)) t
def BT.OT(d:β)(a b:BT β)(n:Nat):(BT.Tv a b).get d n=match Nat.beq (Nat.mod n 2) 0 with|true=>a.get d (Nat.div n 2)|false=>b.get d (Nat.div n 2):=by show(Bool.rec (b.get d (Nat.div n 2)) (a.get d (Nat.div n 2)) (Nat.beq (Nat.mod n 2) 0):β)=_;cases Nat.beq (Nat.mod n 2) 0<;>rfl
def BT.of:Nat->Z (Nat×β)->BT β
 |0,l=> .S7 l
 |m+1,l=>match l with
  |[]=> .S7 []
  |[p]=> .S7 [p]
  |p::q::l=> .Tv (BT.of m (N1 (p::q::l))) (BT.of m (NJ (p::q::l)))
def BT.Gu(d:β):∀(m:Nat) (l:Z (Nat×β)) (n:Nat),(BT.of m l).get d n=nb d l n
 |0,_,_|m+1,[],_|m+1,[p],_=>rfl
 |m+1,p::q::l,n=>by
  rw[BT.of,BT.OT,OF]
  by_cases h:n % 2=0
  .rw[qad h];exact(BT.Gu d m _ _).trans (HZ d h _)
  .rw[qae h];exact(BT.Gu d m _ _).trans (HY d h _)
def EC(f:Nat->bu U):Nat->Z (Nat×bu U)->(Z (Nat×bu U)->α)->α
 |0,l,k=>k l
 |n+1,l,k=>J4 (f n) λo=>match o.c with
  | .dead=>(match o.ab with|0=>EC f n l k|_+1=>EC f n ((n,o)::l) k)
  |_=>EC f n ((n,o)::l) k
def Hp(f:Nat->bu U):∀(n:Nat) (l:Z (Nat×bu U)) (k:Z (Nat×bu U)->α),(∀id,id<n->nb ⟨0,.dead⟩ l id=⟨0,.dead⟩)->
  ∃b,EC f n l k=k b/\∀id,nb ⟨0,.dead⟩ b id=if id<n then f id else nb ⟨0,.dead⟩ l id
 |0,l,k,_=>⟨l,rfl,λid=>by rw[Qg (qaP _)]⟩
 |n+1,l,k,h=>by
  have put:∃b,EC f n ((n,f n)::l) k=k b/\∀id,nb ⟨0,.dead⟩ b id=if id<n+1 then f id else nb ⟨0,.dead⟩ l id:=by
   obtain⟨b,h1,m⟩:=Hp f n ((n,f n)::l) k λid i=>by rw[ma,Qg (by show¬id=n;omega)];exact h id O
   refine⟨b,h1,λid=> ?_⟩
   rw[m,ma]
   by_cases e:id<n
   .rw[Qc e,Qc O]
   .rw[Qg e]
    by_cases d:id=n
    .rw[Qc (show id=(n,f n).1 from d),Qc O,d]
    .rw[Qg (show¬id=(n,f n).1 from d),Qg O]
  rw[EC,NZ];split
  .rename_i j;split
   .rename_i g;obtain⟨b,h1,m⟩:=Hp f n l k λid i=>h id O
    refine⟨b,h1,λid=> ?_⟩
    rw[m]
    by_cases e:id<n
    .rw[Qc e,Qc O]
    .rw[Qg e]
     by_cases d:id<n+1
     .have p:id=n:=O;rw[Qc d,h id d,p]
      cases o:f n with
      |mk v c=>rw[o]at j g;simp only at j g;rw[j,g]
     .rw[Qg d]
   .exact put
  .exact put
 def Ic(S:aw U)(k:aw U->α):α:=
 uG S.N λn=>EC S.H n [] λl=>k {env:=S.env,H:=λid=>(match Nat.blt id n with|true=>(BT.of 9 l).get ⟨0,.dead⟩ id|false=>S.H id),N:=n}
def Jl(S:aw U)(k:aw U->α):Ic S k=k S:=by
 rw[Ic,yt];obtain⟨l,h1,b⟩:=Hp S.H S.N [] (λl=>k {env:=S.env,H:=λid=>(match Nat.blt id S.N with|true=>(BT.of 9 l).get ⟨0,.dead⟩ id|false=>S.H id),N:=S.N}) (λ_ _=>rfl)
 rw[h1];congr 1;obtain⟨e,H,N⟩:=S;simp only[aw.mk.injEq,qaJ,Q8]
 funext id
 split
 .rename_i h;exact(BT.Gu _ _ _ _).trans ((b id).trans (Qc (Qk h)))
 .rfl
def B0(f:Nat->Bool):Nat->Z (Nat×Bool)->(Z (Nat×Bool)->α)->α
 |0,l,k=>k l
 |n+1,l,k=>match f n with|true=>B0 f n ((n,true)::l) k|false=>B0 f n l k
def BZ(f:Nat->Bool):∀(n:Nat) (l:Z (Nat×Bool)) (k:Z (Nat×Bool)->α),(∀id,id<n->nb false l id=false)->
  ∃d,B0 f n l k=k d/\∀id,nb false d id=if id<n then f id else nb false l id
 |0,l,k,_=>⟨l,rfl,λid=>by rw[Qg (qaP _)]⟩
 |n+1,l,k,h=>by
  rw[B0]
  cases j:f n with
  |true=>
   obtain⟨d,h1,i⟩:=BZ f n ((n,true)::l) k λid g=>by rw[ma,Qg (by show¬id=n;omega)];exact h id O
   refine⟨d,h1,λid=> ?_⟩
   rw[i,ma]
   by_cases e:id<n
   .rw[Qc e,Qc O]
   .rw[Qg e]
    by_cases b:id=n
    .rw[Qc (show id=(n,true).1 from b),Qc O,b,j]
    .rw[Qg (show¬id=(n,true).1 from b),Qg O]
  |false=>
   obtain⟨d,h1,i⟩:=BZ f n l k λid g=>h id O
   refine⟨d,h1,λid=> ?_⟩
   rw[i]
   by_cases e:id<n
   .rw[Qc e,Qc O]
   .rw[Qg e]
    by_cases b:id<n+1
    .rw[Qc b,h id b,show id=n by omega,j]
    .rw[Qg b]
 def Hq(f:Nat->Bool)(n:Nat)(k:(Nat->Bool)->α):α:=B0 f n [] λl=>k λid=>(BT.of 9 l).get false id
def Lm{f:Nat->Bool}{n:Nat}(h:∀i,f i=true->i<n)(k:(Nat->Bool)->α):Hq f n k=k f:=by
 rw[Hq];obtain⟨l,h1,e⟩:=BZ f n [] (λl=>k λid=>(BT.of 9 l).get false id) (λ_ _=>rfl)
 rw[h1];congr 1
 funext id
 rw[BT.Gu,e];split
 .rfl
 .rename_i b
  cases d:f id with
  |false=>rfl
  |true=>exact absurd (h id d) b
end
end
section
open Go.RowKit
def SC.By:SC->Bool
 | .seq x y| .cond _ x y=>x.By&&y.By
 | .block _ x| .loop x=>x.By
 | .zA ..=>false
 |_=>true
def xe{P:Pr}{nt:Nat}{hs:Z Nat}:∀(c:Code) (d:SC),ax P nt hs c=some d->d.By=true->ql c=true
 | .seq x y,d,h,b=>by
  simp[ax]at h;split at h
  .rename_i e f;injection h with h
   subst h;simp[SC.By,Qa]at b;simp[ql,xe x _ e b.1,xe y _ f b.2,QV]
  .cases h
 | .cond c x y,d,h,b=>by
  simp[ax]at h;split at h
  .rename_i _ e f;injection h with h
   subst h;simp[SC.By,Qa]at b;simp[ql,xe x _ e b.1,xe y _ f b.2,QV]
  .cases h
 | .block _ x,d,h,b=>by simp[ax,Qh]at h;obtain⟨i,e,rfl⟩:=h;exact xe x _ e b
 | .loop x,d,h,b=>by simp[ax,Qh]at h;obtain⟨i,e,rfl⟩:=h;exact xe x _ e b
 | .rangeFunc g ps x y,d,h,b=>by
  simp[ax]at h;split at h
  .split at h
   .cases h;cases b
   .cases h
  .cases h
 | .skip,_,_,_| .exit _,_,_,_| .ret,_,_,_| .region ..,_,_,_| .goto _,_,_,_| .scope _,_,_,_| .label _,_,_,_| .refuse _,_,_,_=>rfl
section
variable{P:Pr}{E:En}{S:St}{a:Act}{w:Wo}{L:Nat->Va}
def iD.env{E d:En}(m:d.w0=E.w0)(l:d.rb=E.rb)(p:d.rk=E.rk){M:Nat->Prop}{G:Gh}{v:Va}{c:ji}(h:iD E w M G v c):iD d w M G v c:=by
 cases c with
 |dead=>trivial
 |box cs=>
  let⟨b,i,T,j,g,f,o⟩:=h
  exact⟨b,i,T,j,g,by rw[m,l];exact f,o⟩
 |row e k es=>
  let⟨vs,j,g,f⟩:=h
  refine⟨vs,?_,g,f⟩
  grind [dQ]
def ji.shut:ji->Bool
 | .dead=>false
 | .box cs=>cs.all PV.closed
 | .row _ _ es=>es.flatten.all PV.closed
def ji.Nw{c:ji}(h:c.shut=true):c.live=true:=by cases c<;>first|rfl|cases h
def iD.put{w':Wo}{M M':Nat->Prop}{G G':Gh}{v:Va}{c:ji}(j:c.shut=true)(hs:bN w w' M M')(r:∀b,bp v=some b->w'.heap[b]?=w.heap[b]?)(h:iD E w M G v c):iD E w' M' G' v c:=by
 have p:∀{cs:Z PV} {vs:Z Va},cs.all PV.closed=true->aK w M G cs vs->aK w' M' G' cs vs:=λA s=>⟨s.1,λi y u o t=>((s.2 i y u o t).HT (Qe.1 A y (QD o))).mono hs (Gh.le.refl _)⟩
 cases c with
 |dead=>cases j
 |box cs=>obtain⟨b,d,T,rfl,f,z,m⟩:=h;exact⟨b,d,T,rfl,(r b rfl).trans f,z,p j m⟩
 |row e k es=>
  let⟨vs,q,hk,m⟩:=h
  refine⟨vs,⟨q.1,?_⟩,hk,p j m⟩;rcases q.2 with x|⟨g,cap,d,rfl,l,f,rest⟩
  .exact .inl x
  .exact .inr ⟨g,cap,d,rfl,l,(r g rfl).trans f,rest⟩
def St.fI(S:St)(D:Nat->Bool):St:={S with H:=λid=>if D id=true then⟨(S.H id).ab,.dead⟩else S.H id}
def St.shown(A S:St)(D:Nat->Bool):St:={A with H:=λid=>if D id=true then S.H id else A.H id}
def St.kill(S:St)(D:Nat->Bool)(V:Nat->Nat):St:={S with H:=λid=>if D id=true then⟨V id,.dead⟩else S.H id}
def Rel.PF(h:Rel E S a w L)(D:Nat->Bool)(V:Nat->Nat)(I:∀id,D id=true->(S.H id).ab<=V id/\(S.N<=id->V id=0)):Rel E (S.kill D V) a w L:=by
 have r:∀id,(D id=true/\(S.kill D V).H id=⟨V id,.dead⟩)\/(D id=false/\(S.kill D V).H id=S.H id):=by grind [St.kill]
 have f:∀id,((S.kill D V).H id).c.live=true->(S.H id).c.live=true/\(S.kill D V).H id=S.H id:=by
  intro id k;rcases r id with⟨_,e⟩|⟨_,e⟩
  .rw[e]at k;cases k
  .exact⟨by rw[<-e];exact k,e⟩
 have g:∀id,(S.H id).ab<=((S.kill D V).H id).ab:=λid=>by
  rcases r id with⟨F,e⟩|⟨_,e⟩
  .rw[e];exact(I id F).1
  .rw[e];exact Ql _
 have p:(S.gh L).le ((S.kill D V).gh L):=⟨Ql _,λid _=>(qaS (g id)).elim .inr λe=> .inl ⟨e,rfl⟩⟩
 have o:∀b,aI E (S.kill D V) L b->aI E S L b:=by
  rintro b (⟨id,s,R,N⟩|J)
  .exact .inl ⟨id,s,(f id R).1,N⟩
  .exact .inr J
 have m:bN w w (aI E S L) (aI E (S.kill D V) L):=bN.of λb z l=>z (o b l)
 refine⟨h.defers,h.size,λt=>(h.env t).mono m p,λid d=> ?_,λi j b hi M B A H G=>h.apart i j b hi M (f i B).1 (f j A).1 H G,λid d=> ?_,h.fr,λx k u=> ?_,λid n v hi=> ?_,h.an.1.trans (.of λb z l=>z (o b l)),λid b d k q x=>h.an.2.1 id b d (f id k).1 q x,λb q=>⟨(h.an.2.2 b q).1,(h.an.2.2 b q).2.1,λid d k=>(h.an.2.2 b q).2.2 id d (f id k).1⟩⟩
 .rcases r id with⟨_,e⟩|⟨_,e⟩
  .rw[e];trivial
  .rw[e];exact(h.obj id d).mono m p λ_ _ _=>rfl
 .rcases r id with⟨F,e⟩|⟨_,e⟩
  .rw[e,(I id F).2 d]
  .rw[e];exact h.fresh id d
 .have s:=f 0 k;exact h.sP x s.1 (by rw[<-s.2];exact u)
 .let⟨q1,q2,q3⟩:=h.gy id n v hi
  refine⟨q1,QS q2 (g id),λe'=> ?_⟩
  have T:=g id;exact q3 O
def St.raise(S:St)(d id b:Nat):St:={S with env:=bd S.env d (.ptr id ((S.H id).ab+1) b),H:=bd S.H id ⟨(S.H id).ab+1,(S.H id).c⟩}
def Rel.raise(h:Rel E S a w L){id d f:Nat}(o:id<S.N)(F:S.env d= .ptr id (S.H id).ab f):Rel E (S.raise d id f) a w L:=by
 have k:∀i,((S.raise d id f).H i).c=(S.H i).c:=λi=>by
  simp only[St.raise,bd];split
  .rename_i e;rw[e]
  .rfl
 have r:∀i,(S.H i).ab<=((S.raise d id f).H i).ab/\(((S.raise d id f).H i).ab=(S.H i).ab->(S.raise d id f).H i=S.H i):=λi=>by
  simp only[St.raise,bd];split
  .rename_i e;rw[e];exact⟨qan _,λe=>by simp only at e;omega⟩
  .exact⟨Ql _,λ_=>rfl⟩
 have p:(S.gh L).le ((S.raise d id f).gh L):=⟨Ql _,λi _=>(qaS (r i).1).elim .inr λe=> .inl ⟨e,rfl⟩⟩
 have g:aI E (S.raise d id f) L=aI E S L:=funext λb=>by simp only[aI,k];rfl
 have l:bN w w (aI E S L) (aI E S L):=bN.of λ_ h=>h
 refine⟨h.defers,h.size,λt=> ?_,λi hi=> ?_,λi j b hi D x u=>h.apart i j b hi D (by rw[<-k];exact x) (by rw[<-k];exact u),λi hi=> ?_,h.fr,λs m B=> ?_,λi n v hi=> ?_,by rw[g];exact h.an.1,λi b hi m q s=>h.an.2.1 i b hi (by rw[<-k];exact m) q s,λb q=>⟨(h.an.2.2 b q).1,(h.an.2.2 b q).2.1,λi hi m=>(h.an.2.2 b q).2.2 i hi (by rw[<-k];exact m)⟩⟩
 .rw[g]
  by_cases z:t=d
  .have A:=h.env d;rw[F]at A
   let⟨I,H⟩:=A.lC (show(S.gh L).V id=_ from rfl)
   rw[z,H];show aJ w _ _ (bd S.env d _ d) _;rw[bf];exact .ptr _ _ _ _ o (by simp[St.gh,St.raise,bf]) λ_=>rfl
  .show aJ w _ _ (bd S.env d _ t) _;rw[bq _ _ z];exact(h.env t).mono l p
 .rw[g,k];exact(h.obj i hi).mono l p λ_ _ _=>rfl
 .have:i≠id:=λe=>by rw[e]at hi;exact absurd o (qaR.2 hi)
  show bd S.H id _ i=_;rw[bq _ _ this];exact h.fresh i hi
 .have G:=r 0;exact h.sP s (by rw[<-k];exact m) O
 .let⟨q1,q2,q3⟩:=h.gy i n v hi
  have G:=r i;exact⟨q1,O,λe=>q3 O⟩
def N9{f:FI}{nt:Nat}{sc:SC}{rs:Z RV}(hf:ep P f nt sc rs)(hn:sc.By=true){xs:Z PV}{vs:Z Va}(h:Rel E S a w L)(hv:aK w (aI E S L) (S.gh L) xs vs)(hlen:xs.length<=nt)(hp:∀t,t<xs.length->t∉sc.jb)
  (D:Nat->Bool) (M:∀id,D id=true->id<S.N/\id≠0/\(S.H id).c.shut=true)
  {p:Nat->Nat->Bool} (hpn:∀id v,p id v=true->id<S.N) {Q:PV->St->Prop} (hV:VS P nt sc (λen A=>(en= .ret\/en= .normal)/\∃r,nq A rs=some r/\Q r A/\S.N<=A.N/\∀id,D id=true->(A.H id).c.live=false/\(A.H id).ab=(S.H id).ab) {S.fI D with env:=λt=>(xs[t]?).getD .undef}):
  Calls P f vs.toArray w λen w'=>∃v r A L',en= .returned v/\Q r A/\aJ w' (aI E (A.shown S D) L') ((A.shown S D).gh L') r v/\
   ∀env':Nat->PV,(∀t,env' t= .any\/(env' t=S.env t/\(S.env t).jx p=true))->Rel E {A.shown S D with env:=env'} a w' L':=by
 obtain⟨fn,hs,h1,rfl,h3,h4,_⟩:=hf
 cases G:fn.body with
 |none=>rw[G]at h3;cases h3
 |some c=>
 rw[G,QM]at h3;have hvl:vs.length=xs.length:=hv.1;have l:∀id,D id=true->(S.H id).c.live=true:=λid g=>ji.Nw (M id g).2.2
 let HB:Nat->Prop:=λb=>∃id,D id=true/\bp (L id)=some b
 have hHB:∀b,HB b->aI E S L b:=λb ⟨id,h5,H⟩=> .inl ⟨id,(M id h5).1,l id h5,H⟩
 let E':En:={E with nt:=fn.ntmps,rd:=none,nd:=true,kt:=λt=>vs[t]?,wk:=w,wm:=w,M0:=aI E S L,gy:=λid=>if id<S.N then some ((S.H id).ab,L id)else none,X:=λb=>E.X b\/HB b,H0:=λb=>E.H0 b\/HB b,hX:=⟨λb G=>E.hX.lt b ⟨G.1.resolve_right λh=>G.2 (.inr h),λh=>G.2 (.inl h)⟩,λb G=>E.hX.ng b ⟨G.1.resolve_right λh=>G.2 (.inr h),λh=>G.2 (.inl h)⟩,E.hX.gi⟩,Gn:=λhk b hr hx=>hx.elim (E.Gn hk b hr) λ⟨id,h5,H⟩=>(M id h5).2.1 (h.an.2.1 id b (M id h5).1 (l id h5) H hr)}
 have R:∀id,((S.fI D).H id).c.live=true->D id=false/\(S.H id).c.live=true:=by
  intro id q;simp[St.fI]at q;split at q
  .cases q
  .grind
 have hnD:∀id,D id=false->(S.fI D).H id=S.H id:=λid g=>by simp only[St.fI,g];rfl
 have hgh:(S.fI D).gh L=S.gh L:=by grind [St.gh,St.fI]
 have hmu:∀b,aI E' (S.fI D) L b↔aI E S L b:=by
  intro b;constructor
  .rintro(⟨id,h5,H,h7⟩|hx|hx)
   .exact .inl ⟨id,h5,(R id H).2,h7⟩
   .exact .inr hx
   .exact hHB b hx
  .rintro(⟨id,h5,H,h7⟩|hx)
   .cases hd:D id with
    |true=>exact .inr (.inr ⟨id,hd,h7⟩)
    |false=>exact .inl ⟨id,h5,by rw[hnD id hd];exact H,h7⟩
   .exact .inr (.inl hx)
 have hst0:bN w w (aI E S L) (aI E' (S.fI D) L):=bN.of λb hm N=>hm ((hmu b).1 N)
 have hrel:Rel E' {S.fI D with env:=λt=>(xs[t]?).getD .undef} {tmps:=vs.toArray++Array.replicate (fn.ntmps - vs.toArray.size) undef,defers:=[]} w L:=by
  have hget:∀t,(vs.toArray++Array.replicate (fn.ntmps - vs.toArray.size) undef).getD t undef=(vs[t]?).getD undef:=by
   intro t;rw[Qy,qaz]
   grind
  refine⟨Marks.nil rfl,⟨by simp[E',hvl];omega,λt v ht=>by rw[hget];show(vs[t]?).getD undef=v;rw[show vs[t]?=some v from ht];rfl⟩,λt=> ?_,λid g=> ?_,λi j b hi hj hli hlj=>h.apart i j b hi hj (R i hli).2 (R j hlj).2,λid g=> ?_,⟨h.fr.toFr,vE.refl _⟩,λhr q hv0=> ?_,λid n v hi=> ?_,Kept.of λb hm N=>hm ((hmu b).1 N),λid b g q G hr=>h.an.2.1 id b g (R id q).2 G hr,λb hH=> ?_⟩
  .show aJ w (aI E' (S.fI D) L) ((S.fI D).gh L) ((xs[t]?).getD .undef) _;rw[hget,hgh]
   cases hx:xs[t]? with
   |none=>
    have:vs[t]?=none:=by grind
    rw[this];exact .undef
   |some x=>
    let⟨v,hv1,hr⟩:=hv.get hx
    rw[hv1];exact hr.mono hst0 (Gh.le.refl _)
  .show iD E' w (aI E' (S.fI D) L) ((S.fI D).gh L) (L id) ((S.fI D).H id).c;rw[hgh]
   cases hd:D id with
   |true=>simp[St.fI,hd,Qp];trivial
   |false=>
    rw[hnD id hd]
    cases q:(S.H id).c.live with
    |false=>cases hcc:(S.H id).c with
     |dead=>trivial
     |box cs|row e k es=>rw[hcc]at q;cases q
    |true=>exact((h.obj id g).mono hst0 (Gh.le.refl _) λ_ _ _=>rfl).env rfl rfl rfl
  .show(S.fI D).H id=_
   cases hd:D id with
   |true=>exact absurd (M id hd).1 (qaR.2 (show S.N<=id from g))
   |false=>rw[hnD id hd];exact h.fresh id g
  .have h5:=R 0 q;refine h.sP hr h5.2 ?_;rw[<-hnD 0 h5.1];exact hv0
  .have e:((S.fI D).H id).ab=(S.H id).ab:=by
    cases hd:D id with
    |true=>simp[St.fI,hd]
    |false=>rw[hnD id hd]
   show id<S.N/\n<=((S.fI D).H id).ab/\(((S.fI D).H id).ab=n->L id=v);rw[e];simp only[E']at hi;split at hi
   .rename_i hc;injection hi with hi
    injection hi with e1 e2
    subst e1 e2;exact⟨hc,Ql _,λ_=>rfl⟩
   .cases hi
  .rcases hH with hH|⟨id,h5,H⟩
   .let⟨q1,⟨o,_,q3,q4⟩,q5⟩:=h.an.2.2 b hH
    exact⟨q1,⟨o,q4,q3,q4⟩,λid g q=>q5 id g (R id q).2⟩
   .let⟨o,e2,e3⟩:=(h.obj id (M id h5).1).cells (l id h5) H
    refine⟨zH h (hHB b ⟨id,h5,H⟩),⟨o,e2,Lx e3,e2⟩,λj hj q I=> ?_⟩
    have h7:=R j q;have:=h.apart j id b hj (M id h5).1 h7.2 (l id h5) I H;rw[this,h5]at h7;cases h7.1
 have hcs:=kZ c sc h3
 have h0:=hV c hs h3 E' rfl ⟨λt ht=>by
  show vs[t]?=none;refine qaO ?_;rw[hcs]at ht;rcases qao t xs.length with hlt|hge
  .exact absurd ht (hp t hlt)
  .omega,.inr (xe c sc h3 hn)⟩ _ w L hrel
 refine wG.1 (callsIn_of_wp_marks (F:=WF none) (n:=0) h1 G trivial (Q6 h0 ?_));rintro e a' w' ⟨A,L',m,he,r,hres,hq,hAN,T⟩;have hd:a'.defers=[]:=m.defers.none rfl
 let⟨v,hv1,hrep⟩:=tY m h4 hres
 let L2:Nat->Va:=λid=>if D id=true then L id else L' id
 have B:∀id,D id=true->L2 id=L id:=λid g=>Qc g
 have u:∀id,D id=false->L2 id=L' id:=λid g=>Qg (by rw[g];simp)
 have hA1:∀id,D id=true->(A.shown S D).H id=S.H id:=λid g=>Qc g
 have s:∀id,D id=false->(A.shown S D).H id=A.H id:=λid g=>Qg (by rw[g];simp)
 have V:∀id,id<S.N->(S.H id).ab<=(A.H id).ab/\((A.H id).ab=(S.H id).ab->L' id=L id):=λid g=>(m.gy id _ _ (Qc g)).2
 have hle:(A.gh L').le ((A.shown S D).gh L2):=by
  refine⟨Ql _,λid _=> .inl ?_⟩
  simp only[St.gh]
  cases d:D id with
  |true=>rw[hA1 id d,B id d];exact⟨(T id d).2,(V id (M id d).1).2 (T id d).2⟩
  |false=>rw[s id d,u id d];exact⟨rfl,rfl⟩
 have hmu2:∀b,aI E (A.shown S D) L2 b↔aI E' A L' b:=by
  intro b;constructor
  .rintro(⟨id,h5,H,h7⟩|hx)
   .cases d:D id with
    |true=>rw[B id d]at h7;exact .inr (.inr ⟨id,d,h7⟩)
    |false=>rw[s id d]at H;rw[u id d]at h7;exact .inl ⟨id,h5,H,h7⟩
   .exact .inr (.inl hx)
  .rintro(⟨id,h5,H,h7⟩|hx|⟨id,h5,H⟩)
   .cases d:D id with
    |true=>rw[(T id d).1]at H;cases H
    |false=>exact .inl ⟨id,h5,by rw[s id d];exact H,by rw[u id d];exact h7⟩
   .exact .inr hx
   .exact .inl ⟨id,QF (M id h5).1 hAN,by rw[hA1 id h5];exact l id h5,by rw[B id h5];exact H⟩
 have hst2:bN w' w' (aI E' A L') (aI E (A.shown S D) L2):=bN.of λb hm N=>hm ((hmu2 b).1 N)
 have hst1:bN w w' (aI E S L) (aI E (A.shown S D) L2):=m.an.1.stays.trans hst2
 have fin:LeavesInM (WF none) 0 P fn a'.tmps (λen w'=>∃v r A L',en= .returned v/\Q r A/\aJ w' (aI E (A.shown S D) L') ((A.shown S D).gh L') r v/\
   ∀env':Nat->PV,(∀t,env' t= .any\/(env' t=S.env t/\(S.env t).jx p=true))->Rel E {A.shown S D with env:=env'} a w' L') a'.defers .returning w':=by
  rw[hd];refine⟨v,hv1,v,r,A,L2,rfl,hq,hrep.mono hst2 hle,λenv' he'=> ?_⟩
  refine⟨(h.defers.Tp m.fr.ko),h.size,λt=> ?_,λid g=> ?_,λi j b hi hj hli hlj hbi I=> ?_,λid g=> ?_,⟨m.fr.toFr,h.fr.ko.trans m.fr.ko⟩,λhr q hv0=> ?_,λid n v hi=> ?_,(h.an.1.trans m.an.1).trans (.of λb hm N=>hm ((hmu2 b).1 N)),λid b g q G hr=> ?_,λb hH=> ?_⟩
  .show aJ w' (aI E (A.shown S D) L2) ((A.shown S D).gh L2) (env' t) _;rcases he' t with e1|⟨e1,e2⟩
   .rw[e1];exact .any _
   .rw[e1];refine((h.env t).jx (M':=aI E S L) (G':=(A.shown S D).gh L2) e2 (λ_ G=>G) (λid _ g=> ?_)).mono hst1 (Gh.le.refl _)
    have k0:=hpn id _ g;refine⟨QF k0 hAN,?_⟩;simp only[St.gh]
    cases d:D id with
    |true=>rw[hA1 id d,B id d];exact .inl ⟨rfl,rfl⟩
    |false=>
     let⟨k2,k3⟩:=V id k0
     rw[s id d,u id d];rcases qao (S.H id).ab (A.H id).ab with k4|k4
     .exact .inr (.inl k4)
     .exact .inl ⟨O,k3 O⟩
  .show iD E w' (aI E (A.shown S D) L2) ((A.shown S D).gh L2) (L2 id) ((A.shown S D).H id).c
   cases d:D id with
   |true=>
    rw[B id d,hA1 id d];refine(h.obj id (M id d).1).put (M id d).2.2 hst1 λb G=> ?_
    let⟨_,⟨o,k1,_,k3⟩,_⟩:=m.an.2.2 b (.inr ⟨id,d,G⟩)
    exact k3.trans k1.symm
   |false=>
    rw[u id d,s id d]
    cases q:(A.H id).c.live with
    |false=>cases hcc:(A.H id).c with
     |dead=>trivial
     |box cs|row e k es=>rw[hcc]at q;cases q
    |true=>exact((m.obj id g).mono hst2 hle λ_ _ _=>rfl).env rfl rfl rfl
  .have key:∀i j,i<A.N->j<A.N->D i=true->D j=false->(A.H j).c.live=true->bp (L i)=some b->bp (L' j)=some b->i=j:=λi j _ hj J _ q h5 H=>absurd H ((m.an.2.2 b (.inr ⟨i,J,h5⟩)).2.2 j hj q)
   cases J:D i with
   |true=>
    rw[B i J]at hbi
    cases z:D j with
    |true=>rw[B j z]at I;exact h.apart i j b (M i J).1 (M j z).1 (l i J) (l j z) hbi I
    |false=>rw[u j z]at I;rw[s j z]at hlj;exact key i j hi hj J z hlj hbi I
   |false=>
    rw[u i J]at hbi;rw[s i J]at hli
    cases z:D j with
    |true=>rw[B j z]at I;exact(key j i hj hi z J hli I hbi).symm
    |false=>rw[u j z]at I;rw[s j z]at hlj;exact m.apart i j b hi hj hli hlj hbi I
  .have hid':A.N<=id:=g
   cases d:D id with
   |true=>have:=(M id d).1;omega
   |false=>show(A.shown S D).H id=_;rw[s id d];exact m.fresh id hid'
  .have h0D:D 0=false:=by
    cases d:D 0 with
    |true=>exact absurd rfl (M 0 d).2.1
    |false=>rfl
   rw[s 0 h0D]at q hv0;rw[u 0 h0D];exact m.sP hr q hv0
  .let⟨q1,q2,q3⟩:=h.gy id n v hi
   refine⟨QF q1 hAN,?_⟩;show n<=((A.shown S D).H id).ab/\(((A.shown S D).H id).ab=n->L2 id=v)
   cases d:D id with
   |true=>rw[hA1 id d,B id d];exact⟨q2,q3⟩
   |false=>
    rw[s id d,u id d]
    let⟨k1,k2⟩:=V id q1
    exact⟨O,λe=>(k2 O).trans (q3 O)⟩
  .cases d:D id with
   |true=>rw[B id d]at G;exact h.an.2.1 id b (M id d).1 (l id d) G hr
   |false=>rw[u id d]at G;rw[s id d]at q;exact m.an.2.1 id b g q G hr
  .let⟨q1,⟨o,q2,q3,q4⟩,q5⟩:=h.an.2.2 b hH
   let⟨_,⟨o',k1,_,k3⟩,k4⟩:=m.an.2.2 b (.inl hH)
   have k1:w.heap[b]?=some o':=k1;rw[q4]at k1;injection k1 with k1
   refine⟨q1,⟨o,q2,q3,by rw[k1];exact k3⟩,λid g q hbb=> ?_⟩
   cases d:D id with
   |true=>rw[B id d]at hbb;exact q5 id (M id d).1 (l id d) hbb
   |false=>rw[u id d]at hbb;rw[s id d]at q;exact k4 id g q hbb
 rcases he with rfl|rfl<;>exact fin
end
end
end Go.TQ
end
