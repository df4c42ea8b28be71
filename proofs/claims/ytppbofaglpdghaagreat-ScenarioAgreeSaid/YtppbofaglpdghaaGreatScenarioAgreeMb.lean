/-
  Texts made small by a program (see NOTES). Conditions: those that each theorem names.
-/
import Derived.Test.YtppbofaglpdghaaGreatScenarioAgreeMa
import Derived.RangeFuncRecord
set_option linter.unusedVariables false
set_option linter.defProp false
set_option linter.unusedSimpArgs false
set_option linter.unusedSectionVars false
set_option maxHeartbeats 2000000
open Int (toNat)
open Sum (inl inr)
open List (replicate)
noncomputable section
namespace Go.TQ
section
open Go.RowKit
def ax(P:Pr)(nt:Nat)(hs:Z Nat):Code->Y SC
 | .skip=>some .skip
 | .region _ ops false=>
  match ops.toList.mapM (lB P hs ops)with
  |some gs=>if ops.toList.all (λo=>match o.dst with|some t=>decide (t<nt)|none=>true)then some (.jq gs)else none
  |none=>none
 | .region _ ops true=>
  match ops.toList.mapM (lB P hs ops)with
  |some gs=>
   if ops.toList.all (λo=>match o.dst with|some t=>decide (t<nt)|none=>true)&&P.follows .mixedOrders then
    match GQ ops.toList gs with
    |some un=>some (.jr un gs)
    |none=>none
   else none
  |none=>none
 | .seq x y=>
  match ax P nt hs x,ax P nt hs y with
  |some e,some d=>some (.seq e d)
  |_,_=>none
 | .cond c x y=>
  match aL c,ax P nt hs x,ax P nt hs y with
  |some h,some e,some d=>some (.cond h e d)
  |_,_,_=>none
 | .block id c=>(ax P nt hs c).map (.block id)
 | .loop c=>(ax P nt hs c).map .loop
 | .exit id=>some (.exit id)
 | .ret=>some .ret
 | .rangeFunc g ps x y=>
  match aL g,ax P nt hs x,ax P nt hs y with
  |some f,some e,some d=>if n9 x&&n9 y&&ps.toList.all (λt=>decide (t<nt))then some (.rM f ps.toList e d)else none
  |_,_,_=>none
 |_=>none
section
variable{P:Pr}{S:St}{Γ:gL}{nt:Nat}{Q:Exit->St->Prop}
def VS(P:Pr)(nt:Nat)(d:SC)(Q:Exit->St->Prop)(S:St):Prop:=∀c hs,ax P nt hs c=some d->V P nt c Q S
def VS.mono{d:SC}{Q':Exit->St->Prop}(h:VS P nt d Q S)(f:∀e S,Q e S->Q' e S):VS P nt d Q' S:=λc hs g=>(h c hs g).mono f
theorem C1{ops:Array Oper}(h:ops.toList.all (λo=>match o.dst with|some t=>decide (t<nt)|none=>true)=true):∀o∈ops.toList,∀t,o.dst=some t->t<nt:=by grind
def NI{c:Code}{hs:Z Nat}{un:Z (Nat×Nat)}{e:Z SG}(h:ax P nt hs c=some (.jr un e)):∃id ops,c= .region id ops true/\ops.toList.mapM (lB P hs ops)=some e/\(∀o∈ops.toList,∀t,o.dst=some t->t<nt)/\P.follows .mixedOrders=true/\GQ ops.toList e=some un:=by
 cases c with
 |region id ops d=>
  cases d with
  |false=>simp[ax]at h;split at h<;>(try split at h)<;>cases h
  |true=>grind [ax,C1]
 |seq x y|cond c x y=>simp[ax]at h;split at h<;>cases h
 |block id c|loop c=>simp only[ax,Qi]at h;obtain⟨_,_,h⟩:=h;cases h
 |rangeFunc g ps x y=>simp[ax]at h;(try split at h)<;>(try split at h)<;>cases h
 |_=>simp[ax]at h<;>cases h
def OW{c:Code}{hs:Z Nat}{e:Z SG}(h:ax P nt hs c=some (.jq e)):∃id ops,c= .region id ops false/\ops.toList.mapM (lB P hs ops)=some e/\∀o∈ops.toList,∀t,o.dst=some t->t<nt:=by
 cases c with
 |region id ops d=>
  cases d with
  |true=>simp[ax]at h;(try split at h)<;>(try split at h)<;>(try split at h)<;>cases h
  |false=>grind [ax,C1]
 |seq x y|cond c x y=>simp[ax]at h;split at h<;>cases h
 |block id c|loop c=>simp only[ax,Qi]at h;obtain⟨_,_,h⟩:=h;cases h
 |rangeFunc g ps x y=>simp[ax]at h;(try split at h)<;>(try split at h)<;>cases h
 |_=>simp[ax]at h<;>cases h
def RU(h:Q .normal S):VS P nt .skip Q S:=by
 intro c hs e
 cases c with
 |skip=>exact Ue h
 |region id ops d=>cases d<;>simp[ax]at e<;>(try split at e)<;>(try split at e)<;>(try split at e)<;>cases e
 |seq x y=>simp only[ax]at e;split at e<;>cases e
 |cond c x y=>simp[ax]at e;split at e<;>cases e
 |block id c|loop c=>simp only[ax,Qi]at e;obtain⟨_,_,e⟩:=e;cases e
 |rangeFunc g ps x y=>simp[ax]at e;(try split at e)<;>(try split at e)<;>cases e
 |_=>simp[ax]at e<;>cases e
def R1{id:Nat}(h:Q (.exit id) S):VS P nt (.exit id) Q S:=by
 intro c hs e
 cases c with
 |exit j=>simp[ax,Qb,SC.exit.injEq]at e;subst e;exact Uf h
 |region id ops d=>cases d<;>simp[ax]at e<;>(try split at e)<;>(try split at e)<;>(try split at e)<;>cases e
 |seq x y|cond c x y=>simp[ax]at e;split at e<;>cases e
 |block id c|loop c=>simp only[ax,Qi]at e;obtain⟨_,_,e⟩:=e;cases e
 |rangeFunc g ps x y=>simp[ax]at e;(try split at e)<;>(try split at e)<;>cases e
 |_=>simp[ax]at e<;>cases e
def Uj(h:Q .ret S):VS P nt .ret Q S:=by
 intro c hs e
 cases c with
 |ret=>exact Vc h
 |region id ops d=>cases d<;>simp[ax]at e<;>(try split at e)<;>(try split at e)<;>(try split at e)<;>cases e
 |seq x y|cond c x y=>simp[ax]at e;split at e<;>cases e
 |block id c|loop c=>simp only[ax,Qi]at e;obtain⟨_,_,e⟩:=e;cases e
 |rangeFunc g ps x y=>simp[ax]at e;(try split at e)<;>(try split at e)<;>cases e
 |_=>simp[ax]at e<;>cases e
def Ui{x y:SC}(h:VS P nt x (Cb (VS P nt y Q) Q) S):VS P nt (.seq x y) Q S:=by
 intro c hs f
 cases c with
 |seq p q=>
  simp[ax]at f;split at f
  .rename_i o m k j;injection f with f
   injection f with h1 l
   subst h1 l;refine Vb ((h p hs k).mono ?_);intro e S' i;cases e<;>first|exact i q hs j|exact i
  .cases f
 |region id ops d=>cases d<;>simp[ax]at f<;>(try split at f)<;>(try split at f)<;>(try split at f)<;>cases f
 |cond c x y=>simp[ax]at f;split at f<;>cases f
 |block id c|loop c=>simp only[ax,Qi]at f;obtain⟨_,_,f⟩:=f;cases f
 |rangeFunc g ps x y=>simp[ax]at f;(try split at f)<;>(try split at f)<;>cases f
 |_=>simp[ax]at f<;>cases f
def R2{c:aM}{x y:SC}{b:Bool}(k:c.val S= .bool b)(h:VS P nt (if b then x else y) Q S):VS P nt (.cond c x y) Q S:=by
 intro o hs e
 cases o with
 |cond c0 p q=>
  simp[ax]at e;split at e
  .rename_i u t r f j i;injection e with e
   injection e with h1 m l
   subst h1 m l;refine Ug f k ?_;cases b
   .exact h q hs i
   .exact h p hs j
  .cases e
 |region id ops d=>cases d<;>simp[ax]at e<;>(try split at e)<;>(try split at e)<;>(try split at e)<;>cases e
 |seq x y=>simp[ax]at e;split at e<;>cases e
 |block id c|loop c=>simp only[ax,Qi]at e;obtain⟨_,_,e⟩:=e;cases e
 |rangeFunc g ps x y=>simp[ax]at e;(try split at e)<;>(try split at e)<;>cases e
 |_=>simp[ax]at e<;>cases e
def O7{c:aM}{x y:SC}(r:c.val S= .dP)(v:VS P nt x Q S)(t:VS P nt y Q S):VS P nt (.cond c x y) Q S:=by
 intro D hs e
 cases D with
 |cond c0 p q=>
  simp[ax]at e;split at e
  .rename_i H G F i m l;injection e with e
   injection e with B A z
   subst B A z;intro E k j a w L h;have f:=h.dK i;rw[r]at f;generalize o:a.eval c0=u at f
   cases f with
   |dP b=>
    refine qaO o ?_;cases b
    .exact t q hs l E k j.PR a w L h
    .exact v p hs m E k j.PS a w L h
  .cases e
 |region id ops d=>cases d<;>simp[ax]at e<;>(try split at e)<;>(try split at e)<;>(try split at e)<;>cases e
 |seq x y=>simp only[ax]at e;split at e<;>cases e
 |block id c|loop c=>simp only[ax,Qi]at e;obtain⟨_,_,e⟩:=e;cases e
 |rangeFunc g ps x y=>simp[ax]at e;(try split at e)<;>(try split at e)<;>cases e
 |_=>simp[ax]at e<;>cases e
def O8{id:Nat}{x:SC}(h:VS P nt x (Ap id Q) S):VS P nt (.block id x) Q S:=by
 intro c hs e
 cases c with
 |block j p=>
  simp only[ax,Qi]at e;obtain⟨k,f,e⟩:=e;injection e with h1 i
  subst h1 i;exact RT (h p hs f)
 |region id ops d=>cases d<;>simp[ax]at e<;>(try split at e)<;>(try split at e)<;>(try split at e)<;>cases e
 |seq x y|cond c x y=>simp[ax]at e;split at e<;>cases e
 |loop c=>simp only[ax,Qi]at e;obtain⟨_,_,e⟩:=e;cases e
 |rangeFunc g ps x y=>simp[ax]at e;(try split at e)<;>(try split at e)<;>cases e
 |_=>simp[ax]at e<;>cases e
def Ul{Γs:Nat->gL}(j:∀i,fe P (Γs i)){un:Z (Nat×Nat)}{f:Z SG}{S':St}(k:Hg Γs S.N un f {S with N:=S.N+f.length}=some S')(h:Q .normal S'):VS P nt (.jr un f) Q S:=by
 intro c hs e
 cases c with
 |region id ops d=>
  cases d with
  |false=>simp[ax]at e;(try split at e)<;>(try split at e)<;>(try split at e)<;>cases e
  |true=>grind [ax,Ve,C1]
 |seq x y|cond c x y=>simp[ax]at e;split at e<;>cases e
 |block id c|loop c=>simp only[ax,Qi]at e;obtain⟨_,_,e⟩:=e;cases e
 |rangeFunc g ps x y=>simp[ax]at e;(try split at e)<;>(try split at e)<;>cases e
 |_=>simp[ax]at e<;>cases e
def ev(P:Pr)(nt:Nat)(Γ:gL):SC->(Exit->St->Prop)->St->Prop
 | .skip,Q,S=>Q .normal S
 | .jq gs,Q,S=>match qn Γ S.N gs {S with N:=S.N+gs.length}with|some S'=>Q .normal S'|none=>False
 | .jr un gs,Q,S=>match Hg (λ_=>Γ) S.N un gs {S with N:=S.N+gs.length}with|some S'=>Q .normal S'|none=>False
 | .seq x y,Q,S=>ev P nt Γ x (Cb (ev P nt Γ y Q) Q) S
 | .cond c x y,Q,S=>match c.val S with| .bool b=>(b=true->ev P nt Γ x Q S)/\(b=false->ev P nt Γ y Q S)| .dP=>ev P nt Γ x Q S/\ev P nt Γ y Q S|_=>False
 | .block id c,Q,S=>ev P nt Γ c (Ap id Q) S
 | .loop c,Q,S=>VS P nt (.loop c) Q S
 | .rM g ps x y,Q,S=>VS P nt (.rM g ps x y) Q S
 | .exit id,Q,S=>Q (.exit id) S
 | .ret,Q,S=>Q .ret S
inductive RV where
 |tmp (t:Nat)
 |cell (t:Nat) (n:Option Nat)
def gN(P:Pr):Z ResultVar->Y (Z RV)
 |[]=>some []
 | .tmp t::rs=>(gN P rs).map (.tmp t::·)
 | .cell t ty::rs=>match nq P ty,gN P rs with
  |some n,some d=>some (.cell t n::d)
  |_,_=>none
def xe(S:St):RV->Y PV
 | .tmp t=>some (S.env t)
 | .cell t n=>match S.env t with
  | .ptr id ab off=>if(S.H id).ab=ab then(match(S.H id).c with| .box cs=>nH n (cs.drop off)|_=>none)else none
  |_=>none
def qo(S:St):Z RV->Y (Z PV)
 |[]=>some []
 |r::rs=>match xe S r,qo S rs with
  |some x,some xs=>some (x::xs)
  |_,_=>none
def nF(S:St)(rs:Z RV):Y PV:=
 match qo S rs with
 |some [x]=>some x
 |some xs=>some (.bP xs)
 |none=>none
def cv(pos:Nat)(recv:Bool)(cs d:Z PV):St:=
 {env:=λt=>((gP pos (if recv then[.ptr 0 0 0]else[]) d)[t]?).getD .undef,H:=λid=>if recv=true/\id=0 then⟨0,.box cs⟩else⟨0,.dead⟩,N:=if recv then 1 else 0}
abbrev Xv:=cv 0
theorem JE{α:Type}(p:Nat)(x l:Z α):(gP p x l).length=x.length+l.length:=by grind [gP]
def ue(rs:Z RV)(recv:Bool)(R:PV->Z PV->Prop)(S:St):Prop:=
 match nF S rs with
 |some x=>match recv with
  |true=>match S.H 0 with
   |⟨0,.box cs'⟩=>cs'.all PV.closed=true/\R (fz S.H (some 0) 9 x) cs'
   |_=>False
  |false=>R (fz S.H none 9 x) []
 |none=>False
def N1(rs:Z RV)(recv:Bool)(R:PV->Z PV->Prop):Exit->St->Prop
 | .ret,S| .normal,S=>ue rs recv R S
 |_,_=>False
def Ky{E:En}{a:Act}{w:Wo}{L:Nat->Va}(h:Rel E S a w L){rv:ResultVar}{r:RV}{x:PV}(g:gN P [rv]=some [r])(d:xe S r=some x):
  ∃v,(match rv with| .tmp t=>pure (a.tmps.getD t undef)| .cell ad t=>do loadVar t (<-asAddr (a.tmps.getD ad undef)):Sem Va).run P w= .ok v w/\aJ w (aH E S L) (S.gh L) x v:=by
 cases rv with
 |tmp t=>simp[gN,Qn,Qb,List.cons.injEq,qaa]at g;subst g;simp[xe,Qb]at d;subst d;exact⟨_,rfl,h.env t⟩
 |cell t ty=>
  simp[gN]at g;split at g
  .rename_i n p D A;injection g with g
   injection g with h1 I
   subst h1 I;simp[xe]at d;split at d
   .rename_i id ab k e;split at d
    .rename_i f;split at d
     .rename_i cs m;have r:=h.env t;rw[e]at r
      let⟨G,_⟩:=r.lL (show(S.gh L).V id=ab from f)
      let⟨b,q,H⟩:=h.nY r f m
      let⟨M,J,T,j,F,B,_⟩:=h.mT G m
      rw[H]at j;simp[Value.pointer.injEq,Qb,qaL]at j;obtain⟨rfl,_⟩:=j
      let⟨v,l,o⟩:=Du (P:=P) (ad:=⟨b,k,none⟩) D (B.drop k) (λi u z=>by rw[add_mid];exact kS F (et z)) d
      exact⟨v,by simp[q,asAddr,l],o⟩
     .cases d
    .cases d
   .cases d
  .cases g
def Cj{E:En}{a:Act}{w:Wo}{L:Nat->Va}(h:Rel E S a w L):∀(d:Z ResultVar) (rs:Z RV) (xs:Z PV),gN P d=some rs->qo S rs=some xs->
  ∃vs,(d.mapM λ| .tmp t=>pure (a.tmps.getD t undef)| .cell ad t=>do loadVar t (<-asAddr (a.tmps.getD ad undef)):Sem (Z Va)).run P w= .ok vs w/\aK w (aH E S L) (S.gh L) xs vs
 |[],rs,xs,e,f=>by simp[gN,Qb]at e;subst e;simp[qo,Qb]at f;subst f;exact⟨[],t_,.nil⟩
 |rv::d,rs,xs,e,f=>by
  have m:∃r rs',rs=r::rs'/\gN P [rv]=some [r]/\gN P d=some rs':=by
   cases rv with
   |tmp t=>simp[gN,Qi]at e;obtain⟨rs',h1,rfl⟩:=e;exact⟨_,rs',rfl,rfl,h1⟩
   |cell t ty=>
    simp[gN]at e;split at e
    .rename_i n rs' q g;injection e with e
     subst e;exact⟨_,rs',rfl,by simp[gN,q],g⟩
    .cases e
  obtain⟨r,rs',rfl,h1,u⟩:=m;simp[qo]at f;split at f
  .rename_i x i k j;injection f with f
   subst f
   let⟨v,o,p⟩:=Ky h h1 k
   let⟨vs,l,g⟩:=Cj h d rs' i u j
   refine⟨v::vs,?_,.cons p g⟩;simp only[QE,Qu]
   erw [o]
   simp only[QI]
   erw [l]
   rfl
  .cases f
def uf{E:En}{a:Act}{w:Wo}{L:Nat->Va}(h:Rel E S a w L){fn:Func}{rs:Z RV}{x:PV}(l:gN P fn.results.toList=some rs)(d:nF S rs=some x):
  ∃v,(results fn a.tmps).run P w= .ok v w/\aJ w (aH E S L) (S.gh L) x v:=by
 unfold nF at d
 cases j:qo S rs with
 |none=>rw[j]at d;cases d
 |some xs=>
  rw[j]at d
  let⟨vs,i,e⟩:=Cj h _ _ _ l j
  have f:(results fn a.tmps).run P w= .ok (if h:vs.toArray.size=1 then vs.toArray[0]else .tuple vs.toArray) w:=by
   unfold results;rw[qbu];simp only[Qu,map_eq_pure_bind]
   erw [i]
   rfl
  refine⟨_,f,?_⟩
  match xs,vs,e,d with
  |[],vs,e,d=>
   injection d with d
   subst d;have:=e.lO;subst this;exact .bP _ _ e.1 e.2
  |[y],vs,e,d=>
   injection d with d
   subst d;obtain⟨v,g,rfl,h1,k⟩:=e.cons_inv;have:=k.lO;subst this;exact h1
  |y::z::m,vs,e,d=>
   injection d with d
   subst d;obtain⟨v,g,rfl,h1,k⟩:=e.cons_inv;obtain⟨u,us,rfl,p,o⟩:=k.cons_inv;rw[dif_neg t_];exact .bP _ _ e.1 e.2
def wX{w w':Wo}(h:w.heap=#[]):s8 w w':=⟨by rw[h];exact Q9 _,λk o d _=>by rw[h]at d;simp at d⟩
def Rel.shut{E:En}{S:St}{a:Act}{w:Wo}{L:Nat->Va}(h:Rel E S a w L)(A:E.wk.heap=#[]){d:Deferred}{M:Z Deferred}(z:a.defers=d::M):
  ∃D w',d.target= .collected D/\(Instr.takeDeferred D).run P w= .ok [] w'/\Rel E S {a with defers:=M} w' L:=by
 have r:=h.defers.nodup;rw[z,List.nodup_cons]at r
 let⟨D,l,J,q⟩:=h.defers.at_ d (by rw[z];exact Qy)
 have f:∀k,k≠D->(w.putObj D (.deferred none)).heap[k]?=w.heap[k]?:=λk R=>World.putObj_heap_other R
 have j:∀(p:Addr) (v:Va),w.cell? p=some v->p.block≠D:=by intro p v m e;unfold World.cell? at m;rw[e,q]at m;simp at m
 have hs:bO w (w.putObj D (.deferred none)) (aH E S L) (aH E S L):=⟨λp v m G=>⟨(World.cell?_of_block (f _ (j p v m))).trans m,G⟩,λb es ck i G=>⟨(f b (λe=>by rw[e,q]at i;cases i)).trans i,G⟩⟩
 have F:∀id b,id<S.N->(S.H id).c.live=true->br (L id)=some b->b≠D:=by
  intro id b g u i e
  let⟨o,x,I⟩:=(h.obj id g).cells u i
  rw[e,q]at x;injection x with x
  rw[<-x]at I;cases I
 refine⟨D,w.putObj D (.deferred none),by rw[l],run_takeDeferred q,⟨λe=>(by have:=h.defers.none e;rw[z]at this;cases this),r.2,λd' H=> ?_⟩,h.size,λt=>(h.env t).mono hs (Gh.le.refl _),λid g=> ?_,h.apart,h.fresh,
  ⟨⟨h.fr.os,h.fr.tape,h.fr.output,by rw[World.putObj_size];exact h.fr.size,λb i N=>by rw[f b O];exact h.fr.block b i N,h.fr.drawn⟩,wX A⟩,h.sV,h.gn,h.an.1.trans ⟨λb o l J B=>⟨(f b (λe=>by rw[e,q]at l;injection l with l;rw[<-l]at J;cases J)).trans l,B⟩⟩,h.an.2.1,λb V=>(let⟨q1,⟨o,q2,q4,q5⟩,q6⟩:=h.an.2.2 b V;⟨q1,⟨o,q2,q4,(f b (λe=>by rw[e,q]at q5;injection q5 with q5;rw[<-q5]at q4;cases q4)).trans q5⟩,q6⟩)⟩
 .let⟨D',x,I,h6⟩:=h.defers.at_ d' (by rw[z];exact QC _ H)
  grind
 .cases u:(S.H id).c.live with
  |false=>
   cases T:(S.H id).c with
   |dead=>trivial
   |box cs|row e k es=>rw[T]at u;cases u
  |true=>exact(h.obj id g).mono hs (Gh.le.refl _) (λb i _=>f b (F id b g u i))
def Ev{E:En}{S:St}{L:Nat->Va}(f:E.wk.heap=#[]){fn:Func}{R:Ending->Wo->Prop}{tmps:Array Va}(i:∀w',Rel E S {tmps:=tmps,defers:=[]} w' L->∃v,(results fn tmps).run P w'= .ok v w'/\R (.returned v) w'):
  ∀(g:Z Deferred) (w:Wo),Rel E S {tmps:=tmps,defers:=g} w L->LeavesInM (WF none) 0 P fn tmps R g .returning w
 |[],w,h=>i w h
 |d::g,w,h=>by
  let⟨D,w',h1,k,j⟩:=Rel.shut (P:=P) h f rfl
  exact⟨(λe=>by cases e),.inl ⟨D,w',h1,k,Ev f i g w' j⟩⟩
def yI{f:FI}{fn:Func}{c:Code}{E:En}{S0:St}{Q:Exit->St->Prop}{d:Array Va}{w:Wo}{L:Nat->Va}{R:Ending->Wo->Prop}(u:P.funcs[f]?=some fn)(x:fn.body=some c)(h:V P fn.ntmps c Q S0)
  (z:E.nt=fn.ntmps) (j:E.rd=none/\E.nd=false/\∀id,E.gn id=none) (p:∀t,E.kt t=none) (o:E.wk.heap=#[]) (i:Rel E S0 {tmps:=d++Array.replicate (fn.ntmps - d.size) undef,defers:=[]} w L)
  (k:∀(e:Exit) (S':St) (l:Nat->Va) (a':Act) (w':Wo),Rel E S' a' w' l->Q e S'->(e= .ret\/e= .normal)/\∃v,(results fn a'.tmps).run P w'= .ok v w'/\R (.returned v) w'):Calls P f d w R:=by
 have r:=h E z ⟨λt _=>p t,.inl j⟩ _ w L i
 rw[j.1]at r;refine wO.1 (callsIn_of_wp_marks (F:=WF none) (n:=0) u x trivial (Q2 r ?_));rintro e a' w' ⟨S',l,h1,q⟩
 have A:LeavesInM (WF none) 0 P fn a'.tmps R a'.defers .returning w':=
  Ev o (λm g=>(k e S' l _ m g q).2) a'.defers w' h1
 rcases(k e S' l a' w' h1 q).1 with rfl|rfl<;>exact A
theorem NG{f:FI}{fn:Func}{c:Code}{sc:SC}{rs:Z RV}{pos:Nat}{recv:Bool}{cs d cs':Z PV}{r:PV}(hf:P.funcs[f]?=some fn)(m:fn.body=some c){hs:Z Nat}(hc:ax P fn.ntmps hs c=some sc)(hrs:gN P fn.results.toList=some rs)
  (hlen:(if recv then 1 else 0)+d.length<=fn.ntmps) (h:VS P fn.ntmps sc (N1 rs recv λr' o=>r'=r/\(recv=true->o=cs')) (cv pos recv cs d)):DH P f pos recv cs d r cs':=by
 intro w X hX rb T rvs vs G A
 have hrb0:∀b,(if recv then some rb else none)=some b->b<w.heap.size/\¬gb b:=by grind
 let E:En:={w0:=w,rb:=if recv then some rb else none,nt:=fn.ntmps,X:=X,H0:=λ_=>False,hX:=⟨λb m=>hX.lt b m.1,λb m=>hX.ng b m.1,hX.gi⟩,Fi:=recv,rv:= .pointer (some ⟨rb,0,none⟩),rk:=false,vK:=hrb0,Gy:=λh=>(by cases h),rd:=none,nd:=false,kt:=λ_=>none,wk:={w with heap:=#[]},wm:=w,M0:=λ_=>True}
 let L:Nat->Va:=λ_=> .pointer (some ⟨rb,0,none⟩)
 have hvl:vs.length=d.length:=A.1
 have hm:∀b,aH E (cv pos recv cs d) L b->Mc recv rb X b:=by
  rintro b (⟨id,k,V,m⟩|m)
  .simp[cv]at k V
   cases recv with
   |false=>simp at k
   |true=>simp[L,br,Qb]at m;exact .inl ⟨rfl,m.symm⟩
  .exact .inr m
 have hm':∀b,Mc recv rb X b->aH E (cv pos recv cs d) L b:=by
  rintro b (⟨p,N⟩|m)
  .subst N;exact .inl ⟨0,by simp[cv,p],by simp[cv,p,jl.live],rfl⟩
  .exact .inr m
 have hst:bO w w (Mc recv rb X) (aH E (cv pos recv cs d) L):=(bO.of λ_ hn=>λz=>hn (hm _ z))
 have hrel:Rel E (cv pos recv cs d) {tmps:=(gP pos (qh recv rb) vs).toArray++Array.replicate (fn.ntmps - (gP pos (qh recv rb) vs).toArray.size) undef,defers:=[]} w L:=by
  refine⟨Marks.nil rfl,⟨?_,λt v hv=>by cases hv⟩,λt=> ?_,λid k=> ?_,λi j b hi hj _ _ _ _=> ?_,λid k=> ?_,⟨Fr.refl _ _,wX rfl⟩,λ_ _ _=>rfl,λ_ _ _ h=>(by cases h),Kept.top _ _ _,λid b k _ _ _=>(by cases recv<;>simp[cv]at k<;>omega),λb m=>m.elim⟩
  .grind [qh,JE]
  .have hget:(((gP pos (qh recv rb) vs).toArray++Array.replicate (fn.ntmps - (gP pos (qh recv rb) vs).toArray.size) undef).getD t undef)=((gP pos (qh recv rb) vs)[t]?).getD undef:=by
    rw[Qq,qaw]
    grind
   simp only;rw[hget]
   have F:aK w (aH E (cv pos recv cs d) L) ((cv pos recv cs d).gh L) (gP pos (if recv then[.ptr 0 0 0]else[]) d) (gP pos (qh recv rb) vs):=by
    have ha:=A.mono hst (cr.le ((cv pos recv cs d).gh L));refine((ha.take pos).append ?_).append (ha.drop pos)
    cases recv with
    |false=>exact .nil
    |true=>simp[qh,Qp];exact .cons (.ptr _ _ _ _ (by simp[St.gh,cv]) (Q9 _) (λ_=>by simp[St.gh,L,br])) .nil
   show aJ w _ _ (((gP pos (if recv then[.ptr 0 0 0]else[]) d:Z PV)[t]?).getD .undef) _
   cases hx:(gP pos (if recv then[.ptr 0 0 0]else[]) d:Z PV)[t]? with
   |none=>
    have:(gP pos (qh recv rb) vs)[t]?=none:=by rw[List.getElem?_eq_none_iff]at hx ⊢;rw[F.1];exact hx
    rw[this];exact .undef
   |some x=>
    let⟨v,hv,hr⟩:=F.get hx
    rw[hv];exact hr
  .cases recv with
   |false=>simp[cv]at k
   |true=>
    simp[cv]at k;subst k
    let⟨p,N,_⟩:=G rfl
    have e:((cv pos true cs d).H 0).c= .box cs:=by simp[cv]
    rw[e];exact⟨rb,rvs.toArray,T,rfl,p,.inl (by simp[E]),by simpa using N.mono hst (cr.le ((cv pos true cs d).gh L))⟩
  .grind [cv]
  .grind [cv]
 have fin:∀(S':St) (R:Nat->Va) (a':Act) (w':Wo),Rel E S' a' w' R->ue rs recv (λr' o=>r'=r/\(recv=true->o=cs')) S'->
   ∃v,(results fn a'.tmps).run P w'= .ok v w'/\Ls recv rb X w r cs' (.returned v) w':=by
  intro S' R a' w' z g;unfold ue at g;split at g
  .rename_i x hx
   let⟨v,hv,D⟩:=uf z hrs hx
   refine⟨v,hv,?_⟩
   cases recv with
   |false=>
    simp[QQ,false_implies,qaa]at g;subst g;refine⟨v,[],rfl,?_,(λu=>by cases u),z.fr.toFr⟩
    refine z.fz (λb m=> ?_) (λid b k V _ m u=> ?_) 9 D
    .rcases m with⟨m,_⟩|m
     .cases m
     .exact .inr m
    .rcases u with⟨u,_⟩|u
     .cases u
     .rcases((z.obj id k).pO V m).2 with p|p
      .simp[E]at p
      .have:=hX.lt b u;simp[E]at p;omega
   |true=>
    simp only at g;split at g
    .rename_i o hH;obtain⟨hcl,rfl,H⟩:=g;have H:=H trivial;subst H
     have I:0<S'.N:=by
      rcases Nat.eq_zero_or_pos S'.N with h0|h0
      .have:=z.fresh 0 O;rw[hH]at this;cases this
      .exact h0
     have J:R 0= .pointer (some ⟨rb,0,none⟩):=z.sV rfl (by rw[hH];rfl) (by rw[hH])
     let⟨b,cur,T',M,hh,hr,_⟩:=z.mT I (show(S'.H 0).c= .box o by rw[hH])
     rw[J]at M;simp[Value.pointer.injEq,Qb,qaL]at M;obtain⟨rfl,_⟩:=M
     have B:∀q,Mc true rb X q->aH E S' R q:=by
      rintro q (⟨_,rfl⟩|u)
      .exact .inl ⟨0,I,by rw[hH];rfl,by rw[J];rfl⟩
      .exact .inr u
     refine⟨v,cur.toList,rfl,?_,λ_=>⟨?_,hr.closed hcl B⟩,z.fr.toFr⟩
     .refine z.fz B (λid b k V hne m u=> ?_) 9 D
      have hnb:b≠rb:=λe=>hne (by rw[z.apart id 0 b k I V (by rw[hH];rfl) m (by rw[J,e];rfl)])
      rcases u with⟨_,u⟩|u
      .exact hnb u
      .rcases((z.obj id k).pO V m).2 with p|p
       .simp[E,Qp,Qb]at p;exact hnb p.symm
       .have:=hX.lt b u;simp[E]at p;omega
     .exact⟨T',by simpa using hh⟩
    .exact g.elim
  .exact g.elim
 exact yI hf m (h c hs hc) rfl ⟨rfl,rfl,λ_=>rfl⟩ (λ_=>rfl) rfl hrel λe S' R a' w' p N=>by
  cases e with
  |normal=>exact⟨.inr rfl,fin S' R a' w' p N⟩
  |ret=>exact⟨.inl rfl,fin S' R a' w' p N⟩
  |exit i|goto l|panic c|outgrown=>exact N.elim
def Jv(rs:Z RV)(R:Z PV->Prop):Exit->St->Prop
 | .ret,S=>match nF S rs with
  |some (.ptr id ab 0)=>if(S.H id).ab=ab then(match(S.H id).c with| .box cs=>cs.all PV.closed=true/\R cs|_=>False)else False
  |_=>False
 |_,_=>False
theorem RJ{f:FI}{fn:Func}{c:Code}{V:SC}{rs:Z RV}{d cs:Z PV}(hf:P.funcs[f]?=some fn)(m:fn.body=some c){hs:Z Nat}(hc:ax P fn.ntmps hs c=some V)(J:gN P fn.results.toList=some rs)
  (hlen:d.length<=fn.ntmps) (h:VS P fn.ntmps V (Jv rs λcs'=>cs'=cs) (cv 0 false [] d)):MW P f d cs:=by
 intro w X hX vs o
 let E:En:={w0:=w,rb:=none,nt:=fn.ntmps,X:=X,H0:=λ_=>False,hX:=⟨λb m=>hX.lt b m.1,λb m=>hX.ng b m.1,hX.gi⟩,Fi:=false,rv:=undef,rk:=false,vK:=λb m=>(by cases m),Gy:=λh=>(by cases h),rd:=none,nd:=false,kt:=λ_=>none,wk:={w with heap:=#[]},wm:=w,M0:=λ_=>True}
 let L:Nat->Va:=λ_=> .pointer none
 have I:bO w w X (aH E (cv 0 false [] d) L):=(bO.of λ_ hn u=>hn (by
  rcases u with⟨id,g,_⟩|u
  .simp[cv]at g
  .exact u))
 have hvl:vs.length=d.length:=o.1
 have D:Rel E (cv 0 false [] d) {tmps:=vs.toArray++Array.replicate (fn.ntmps - vs.toArray.size) undef,defers:=[]} w L:=by
  refine⟨Marks.nil rfl,⟨?_,λt v B=>by cases B⟩,λt=> ?_,λid g=> ?_,λi j b hi hj _ _ _ _=> ?_,λid g=> ?_,⟨Fr.refl _ _,wX rfl⟩,λm _ _=>(by cases m),λ_ _ _ h=>(by cases h),Kept.top _ _ _,λid b g _ _ _=>(by simp[cv]at g),λb m=>m.elim⟩
  .simp[E];omega
  .have F:((vs.toArray++Array.replicate (fn.ntmps - vs.toArray.size) undef).getD t undef)=(vs[t]?).getD undef:=by
    rw[Qq,qaw]
    grind
   simp only;rw[F];have ha:=o.mono I (cr.le ((cv 0 false [] d).gh L));show aJ w _ _ ((([]++d:Z PV)[t]?).getD .undef) _;rw[List.nil_append]
   cases G:d[t]? with
   |none=>
    have:vs[t]?=none:=by grind
    rw[this];exact .undef
   |some x=>
    let⟨v,B,M⟩:=ha.get G
    rw[B];exact M
  .simp[cv]at g
  .simp[cv]at hi
  .simp[cv]
 refine yI hf m (h c hs hc) rfl ⟨rfl,rfl,λ_=>rfl⟩ (λ_=>rfl) rfl D λe S' L' a' w' u k=> ?_
 cases e with
 |ret=>
  simp only[Jv]at k;split at k
  .rename_i id ab G;split at k
   .rename_i p;split at k
    .rename_i cs' z;obtain⟨N,rfl⟩:=k
     let⟨v,B,r⟩:=uf u J G
     let⟨hN,_⟩:=r.lL (show(S'.gh L').V id=ab from p)
     let⟨b,H,hL⟩:=u.nY r p z
     let⟨b',R,T,A,hh,M,hE⟩:=u.mT hN z
     rw[hL]at A;simp only[Value.pointer.injEq,Qb,qaL]at A;obtain⟨rfl,_⟩:=A;refine⟨.inl rfl,v,B,b,R.toList,T,by rw[H],?_,by simpa using hh,?_,u.fr.toFr⟩
     .grind
     .refine M.closed N ?_;rintro q (k|rfl)
      .exact .inr k
      .exact .inl ⟨id,hN,by rw[z];rfl,by rw[hL];rfl⟩
    .exact k.elim
   .exact k.elim
  .exact k.elim
 |normal|exit i|goto l|panic c|outgrown=>exact k.elim
def nr(e k:Nat)(es:Z (Z PV))(d:Z PV):St:=
 {env:=λt=>((.own 0 0::d)[t]?).getD .undef,H:=λid=>if id=0 then⟨0,.row e k es⟩else⟨0,.dead⟩,N:=1}
def zb(rs:Z RV)(e k:Nat)(R:Z (Z PV)->Prop):Exit->St->Prop
 | .ret,S| .normal,S=>match nF S rs with
  |some (.own id ab)=>(S.H id).ab=ab/\(match(S.H id).c with
   | .row g f d=>g=e/\f=k/\ux d=true/\R d
   |_=>False)
  |_=>False
 |_,_=>False
def M7{fn:Func}{e k:Nat}{es:Z (Z PV)}{d:Z PV}{w:Wo}{X:Nat->Prop}(hX:mU w X){v:Va}{vs:Z Va}(B:∀b,br v=some b->¬X b/\¬gb b)(r:sB w (Mv v X) e k v es)(o:aK w (Mv v X) cr d vs)(H:1+d.length<=fn.ntmps):
  ∃E:En,E.w0=w/\E.rb=br v/\E.nt=fn.ntmps/\E.X=X/\E.Fi=true/\E.rv=v/\(E.rd=none/\E.nd=false/\∀id,E.gn id=none)/\(∀t,E.kt t=none)/\E.wk.heap=#[]/\
   Rel E (nr e k es d) {tmps:=(v::vs).toArray++Array.replicate (fn.ntmps - (v::vs).toArray.size) undef,defers:=[]} w (λ_=>v):=by
 let⟨us,m,hk,N⟩:=r
 have F:∀b,br v=some b->b<w.heap.size:=by
  intro b f;rcases m.2 with⟨rfl,_⟩|⟨g,cap,p,rfl,_,hh,_⟩
  .cases f
  .grind [br]
 let E:En:={w0:=w,rb:=br v,nt:=fn.ntmps,X:=X,H0:=λ_=>False,hX:=⟨λb f=>hX.lt b f.1,λb f=>hX.ng b f.1,hX.gi⟩,Fi:=true,rv:=v,rk:=true,vK:=λb f=>⟨F b f,(B b f).2⟩,Gy:=λ_ b f=>(B b f).1,rd:=none,nd:=false,kt:=λ_=>none,wk:={w with heap:=#[]},wm:=w,M0:=λ_=>True}
 have T:∀b,aH E (nr e k es d) (λ_=>v) b↔Mv v X b:=by
  intro b;constructor
  .rintro(⟨id,l,hl,f⟩|f)
   .exact .inl f
   .exact .inr f
  .rintro(f|f)
   .exact .inl ⟨0,by simp[nr],by simp[nr,jl.live],f⟩
   .exact .inr f
 have q:bO w w (Mv v X) (aH E (nr e k es d) (λ_=>v)):=(bO.of λ_ R=>λh'=>R ((T _).1 h'))
 obtain⟨ad,n0,c0,D⟩:∃ad n c,v= .slice ad n c:=by
  rcases m.2 with⟨h1,_⟩|⟨g,cap,p,h1,_⟩
  .exact⟨_,_,_,h1⟩
  .exact⟨_,_,_,h1⟩
 have J:vs.length=d.length:=o.1;refine⟨E,rfl,rfl,rfl,rfl,rfl,rfl,⟨rfl,rfl,λ_=>rfl⟩,λ_=>rfl,rfl,⟨Marks.nil rfl,⟨?_,λt v M=>by cases M⟩,λt=> ?_,λid l=> ?_,λi j b hi V _ _ _ _=> ?_,λid l=> ?_,⟨Fr.refl _ _,wX rfl⟩,λ_ _ _=>rfl,λ_ _ _ h=>(by cases h),Kept.top _ _ _,λid b l _ _ _=>(by simp[nr]at l;omega),λb f=>f.elim⟩⟩
 .simp[E];omega
 .have z:(((v::vs).toArray++Array.replicate (fn.ntmps - (v::vs).toArray.size) undef).getD t undef)=((v::vs)[t]?).getD undef:=by
   rw[Qq,qaw]
   grind
  simp only;rw[z]
  have A:aK w (aH E (nr e k es d) (λ_=>v)) ((nr e k es d).gh (λ_=>v)) (.own 0 0::d) (v::vs):=by refine .cons ?_ (o.mono q (cr.le _));rw[D];exact .own _ _ _ _ _ (by simp[St.gh,nr]) (Q9 _) (λ_=>rfl)
  show aJ w _ _ (((.own 0 0::d:Z PV)[t]?).getD .undef) _
  cases I:((.own 0 0::d:Z PV))[t]? with
  |none=>
   have:(v::vs)[t]?=none:=by grind
   rw[this];exact .undef
  |some x=>
   let⟨u,hu,G⟩:=A.get I
   rw[hu];exact G
 .have:id=0:=by simp[nr]at l;exact l
  subst this;have he:((nr e k es d).H 0).c= .row e k es:=by simp[nr]
  rw[he];refine⟨us,⟨m.1,?_⟩,hk,N.mono q (cr.le _)⟩;rcases m.2 with h1|⟨g,cap,p,h1,_,h3⟩
  .exact .inl h1
  .refine .inr ⟨g,cap,p,h1,?_,h3⟩
   grind [br,dW]
 .simp[nr]at hi V;omega
 .simp[nr]at l ⊢;omega
def KW{E:En}{S':St}{z:Nat->Va}{a':Act}{w':Wo}{X:Nat->Prop}(v:E.X=X)(x:Rel E S' a' w' z){fn:Func}{rs:Z RV}(o:gN P fn.results.toList=some rs){e k:Nat}{l:Z (Z PV)}(d:zb rs e k (λj=>j=l) .ret S'):
  ∃u,(results fn a'.tmps).run P w'= .ok u w'/\sB w' (Mv u X) e k u l/\∀b,br u=some b->E.rb=some b\/E.w0.heap.size<=b:=by
 simp[zb]at d;split at d
 .rename_i id ab B
  let⟨g,d⟩:=d
  split at d
  .rename_i I H G A;obtain⟨rfl,rfl,r,rfl⟩:=d
   let⟨u,hu,h⟩:=uf x o B
   let⟨t,m⟩:=h.iA (show(S'.gh z).V id=ab from g)
   have m:u=z id:=m;subst m;have f:(S'.H id).c.live=true:=by rw[A];rfl
   let⟨us,i,hk,D⟩:=x.fZ t A
   refine⟨_,hu,⟨us,xm i,hk,D.closed (zg r) ?_⟩,λb F=>((x.obj id t).pO f F).2⟩
   rintro q (p|p)
   .exact .inl ⟨id,t,f,p⟩
   .exact .inr (by rw[v];exact p)
  .exact d.elim
 .exact d.elim
theorem RM{f:FI}{fn:Func}{c:Code}{F:SC}{rs:Z RV}{e k:Nat}{es es':Z (Z PV)}{g:Z PV}(I:P.funcs[f]?=some fn)(M:fn.body=some c){hs:Z Nat}(J:ax P fn.ntmps hs c=some F)(A:gN P fn.results.toList=some rs)
  (r:1+g.length<=fn.ntmps) (h:VS P fn.ntmps F (zb rs e k λd=>d=es') (nr e k es g)):FD P f e k es g es':=by
 intro w X hX v vs B o m
 let⟨E,e1,H,e3,e4,e5,e6,V,T,R,q⟩:=M7 (fn:=fn) hX B o m r
 subst e1;refine yI I M (h c hs J) e3 V T R q λN S' L' a' w' G D=> ?_
 have t:zb rs e k (λd=>d=es') .ret S'->∃u,(results fn a'.tmps).run P w'= .ok u w'/\∃x,Ending.returned u= .returned x/\sB w' (Mv x X) e k x es'/\(∀b,br x=some b->br v=some b\/E.w0.heap.size<=b)/\Fr (br v) E.w0 w':=by
  intro p
  let⟨u,hu,j,z⟩:=KW e4 G A p
  refine⟨u,hu,u,rfl,j,?_,by rw[<-H];exact G.fr.toFr⟩
  rw[<-H];exact z
 cases N with
 |normal=>exact⟨.inr rfl,t D⟩
 |ret=>exact⟨.inl rfl,t D⟩
 |exit i|goto l|panic c|outgrown=>exact D.elim
theorem RL{f:FI}{fn:Func}{c:Code}{M:SC}{rs:Z RV}{e k:Nat}{es':Z (Z PV)}{d:Z PV}(hf:P.funcs[f]?=some fn)(m:fn.body=some c){hs:Z Nat}(hc:ax P fn.ntmps hs c=some M)(H:gN P fn.results.toList=some rs)
  (N:d.length<=fn.ntmps) (h:VS P fn.ntmps M (zb rs e k λp=>p=es') (cv 0 false [] d)):Kr P f d e k es':=by
 intro w X hX vs o
 let E:En:={w0:=w,rb:=none,nt:=fn.ntmps,X:=X,H0:=λ_=>False,hX:=⟨λb m=>hX.lt b m.1,λb m=>hX.ng b m.1,hX.gi⟩,Fi:=false,rv:=undef,rk:=false,vK:=λb m=>(by cases m),Gy:=λh=>(by cases h),rd:=none,nd:=false,kt:=λ_=>none,wk:={w with heap:=#[]},wm:=w,M0:=λ_=>True}
 let L:Nat->Va:=λ_=> .pointer none
 have G:bO w w X (aH E (cv 0 false [] d) L):=(bO.of λ_ hn J=>hn (by
  rcases J with⟨id,g,_⟩|J
  .simp[cv]at g
  .exact J))
 have V:vs.length=d.length:=o.1
 have z:Rel E (cv 0 false [] d) {tmps:=vs.toArray++Array.replicate (fn.ntmps - vs.toArray.size) undef,defers:=[]} w L:=by
  refine⟨Marks.nil rfl,⟨?_,λt v F=>by cases F⟩,λt=> ?_,λid g=> ?_,λi j b hi hj _ _ _ _=> ?_,λid g=> ?_,⟨Fr.refl _ _,wX rfl⟩,λm _ _=>(by cases m),λ_ _ _ h=>(by cases h),Kept.top _ _ _,λid b g _ _ _=>(by simp[cv]at g),λb m=>m.elim⟩
  .simp[E];omega
  .have A:((vs.toArray++Array.replicate (fn.ntmps - vs.toArray.size) undef).getD t undef)=(vs[t]?).getD undef:=by
    rw[Qq,qaw]
    grind
   simp only;rw[A];have ha:=o.mono G (cr.le ((cv 0 false [] d).gh L));show aJ w _ _ ((([]++d:Z PV)[t]?).getD .undef) _;rw[List.nil_append]
   cases T:d[t]? with
   |none=>
    have:vs[t]?=none:=by grind
    rw[this];exact .undef
   |some x=>
    let⟨v,F,hr⟩:=ha.get T
    rw[F];exact hr
  .simp[cv]at g
  .simp[cv]at hi
  .simp[cv]
 refine yI hf m (h c hs hc) rfl ⟨rfl,rfl,λ_=>rfl⟩ (λ_=>rfl) rfl z λen S' L' a' w' R I=> ?_
 have B:zb rs e k (λp=>p=es') .ret S'->∃u,(results fn a'.tmps).run P w'= .ok u w'/\∃D,Ending.returned u= .returned D/\sB w' (Mv D X) e k D es'/\(∀b,br D=some b->w.heap.size<=b)/\Fr none w w':=by
  intro r
  let⟨u,hu,q,hub⟩:=KW (E:=E) rfl R H r
  refine⟨u,hu,u,rfl,q,λb hbb=> ?_,R.fr.toFr⟩
  grind
 cases en with
 |normal=>exact⟨.inr rfl,B I⟩
 |ret=>exact⟨.inl rfl,B I⟩
 |exit i|goto l|panic c|outgrown=>exact I.elim
def dL(P:Pr)(f:FI)(nt:Nat)(d:SC)(rs:Z RV):Prop:=
 ∃fn hs,P.funcs[f]?=some fn/\fn.ntmps=nt/\(fn.body.bind (ax P nt hs))=some d/\gN P fn.results.toList=some rs/\(fn.name== "runtime.NumGoroutine")=false
def dL.enters{f:FI}{e:SC}{rs:Z RV}(h:dL P f nt e rs):Enters P f:=by
 let⟨fn,hs,h1,_,d,_,i⟩:=h
 refine⟨fn,h1,?_,i⟩
 cases g:fn.body with
 |none=>rw[g]at d;cases d
 |some c=>rfl
def dL.GP{f:FI}{g:SC}{rs:Z RV}(h:dL P f nt g rs){pos:Nat}{recv:Bool}{cs d cs':Z PV}{r:PV}(i:(if recv then 1 else 0)+d.length<=nt)
  (m:VS P nt g (N1 rs recv λk e=>k=r/\(recv=true->e=cs')) (cv pos recv cs d)):DH P f pos recv cs d r cs':=by
 obtain⟨fn,hs,h1,rfl,j,o,_⟩:=h
 cases l:fn.body with
 |none=>rw[l]at j;cases j
 |some c=>grind [NG]
def dL.Xk{f:FI}{e:SC}{rs:Z RV}(h:dL P f nt e rs){d cs:Z PV}(g:d.length<=nt)
  (k:VS P nt e (Jv rs λcs'=>cs'=cs) (cv 0 false [] d)):MW P f d cs:=by
 obtain⟨fn,hs,h1,rfl,i,l,_⟩:=h
 cases j:fn.body with
 |none=>rw[j]at i;cases i
 |some c=>grind [RJ]
def dL.Xm{f:FI}{i:SC}{rs:Z RV}(h:dL P f nt i rs){e k:Nat}{es es':Z (Z PV)}{d:Z PV}(j:1+d.length<=nt)
  (o:VS P nt i (zb rs e k λg=>g=es') (nr e k es d)):FD P f e k es d es':=by
 obtain⟨fn,hs,h1,rfl,l,p,_⟩:=h
 cases m:fn.body with
 |none=>rw[m]at l;cases l
 |some c=>grind [RM]
def dL.Xl{f:FI}{i:SC}{rs:Z RV}(h:dL P f nt i rs){e k:Nat}{es':Z (Z PV)}{d:Z PV}(j:d.length<=nt)
  (o:VS P nt i (zb rs e k λg=>g=es') (cv 0 false [] d)):Kr P f d e k es':=by
 obtain⟨fn,hs,h1,rfl,l,p,_⟩:=h
 cases m:fn.body with
 |none=>rw[m]at l;cases l
 |some c=>grind [RL]
def tab:Z (FI×Model)->gL
 |[],_=>none
 |(g,m)::l,f=>if f=g then some m else tab l f
end
end
section
open Go.RowKit
section
variable{P:Pr}{nt:Nat}{hs:Z Nat}
def js{c:Code}{x y:SC}(h:ax P nt hs c=some (.seq x y)):∃p q,c= .seq p q/\ax P nt hs p=some x/\ax P nt hs q=some y:=by
 cases c with
 |seq p q=>
  simp[ax]at h;split at h
  .rename_i k j f e;injection h with h
   injection h with h1 i
   subst h1 i;exact⟨p,q,rfl,f,e⟩
  .cases h
 |region id ops d=>cases d<;>simp[ax]at h<;>(try split at h)<;>(try split at h)<;>(try split at h)<;>cases h
 |cond c x y=>simp[ax]at h;split at h<;>cases h
 |block id c|loop c=>simp only[ax,Qi]at h;obtain⟨_,_,h⟩:=h;cases h
 |rangeFunc g ps x y=>simp[ax]at h;split at h<;>(try split at h)<;>cases h
 |_=>simp only[ax]at h<;>cases h
def wN{c:Code}{o:aM}{x y:SC}(h:ax P nt hs c=some (.cond o x y)):∃e p q,c= .cond e p q/\aL e=some o/\ax P nt hs p=some x/\ax P nt hs q=some y:=by
 cases c with
 |cond e p q=>
  simp[ax]at h;split at h
  .rename_i t r m j i f;injection h with h
   injection h with h1 l k
   subst h1 l k;exact⟨e,p,q,rfl,j,i,f⟩
  .cases h
 |region id ops d=>cases d<;>simp[ax]at h<;>(try split at h)<;>(try split at h)<;>(try split at h)<;>cases h
 |seq x y=>simp[ax]at h;split at h<;>cases h
 |block id c|loop c=>simp only[ax,Qi]at h;obtain⟨_,_,h⟩:=h;cases h
 |rangeFunc g ps x y=>simp[ax]at h;split at h<;>(try split at h)<;>cases h
 |_=>simp[ax]at h<;>cases h
def um{c:Code}{id:Nat}{x:SC}(h:ax P nt hs c=some (.block id x)):∃p,c= .block id p/\ax P nt hs p=some x:=by
 cases c with
 |block j p=>
  simp only[ax,Qi]at h;obtain⟨i,e,h⟩:=h;injection h with h1 f
  subst h1 f;exact⟨p,rfl,e⟩
 |region id ops d=>cases d<;>simp[ax]at h<;>(try split at h)<;>(try split at h)<;>(try split at h)<;>cases h
 |seq x y|cond c x y=>simp[ax]at h;split at h<;>cases h
 |loop c=>simp only[ax,Qi]at h;obtain⟨_,_,h⟩:=h;cases h
 |rangeFunc g ps x y=>simp[ax]at h;split at h<;>(try split at h)<;>cases h
 |_=>simp[ax]at h<;>cases h
def GR{c:Code}{x:SC}(h:ax P nt hs c=some (.loop x)):∃p,c= .loop p/\ax P nt hs p=some x:=by
 cases c with
 |loop p=>
  simp only[ax,Qi]at h;obtain⟨f,e,h⟩:=h;injection h with h1
  subst h1;exact⟨p,rfl,e⟩
 |region id ops d=>cases d<;>simp[ax]at h<;>(try split at h)<;>(try split at h)<;>(try split at h)<;>cases h
 |seq x y=>simp[ax]at h;split at h<;>cases h
 |cond c x y=>simp only[ax]at h;split at h<;>cases h
 |block id c=>simp only[ax,Qi]at h;obtain⟨_,_,h⟩:=h;cases h
 |rangeFunc g ps x y=>simp[ax]at h;split at h<;>(try split at h)<;>cases h
 |_=>simp[ax]at h<;>cases h
def yH{c:Code}{f:Z SG}(h:ax P nt hs c=some (.jq f)):∃id ops,c= .region id ops false/\ops.toList.mapM (lB P hs ops)=some f/\∀o∈ops.toList,∀t,o.dst=some t->t<nt:=by
 cases c with
 |region id ops d=>
  cases d with
  |true=>simp[ax]at h;(try split at h)<;>(try split at h)<;>(try split at h)<;>cases h
  |false=>
   simp only[ax]at h;split at h
   .rename_i j e;split at h
    .rename_i i;injection h with h
     injection h with h
     subst h;exact⟨id,ops,rfl,e,C1 i⟩
    .cases h
   .cases h
 |seq x y|cond c x y=>simp[ax]at h;split at h<;>cases h
 |block id c|loop c=>simp only[ax,Qi]at h;obtain⟨_,_,h⟩:=h;cases h
 |rangeFunc g ps x y=>simp[ax]at h;split at h<;>(try split at h)<;>cases h
 |_=>simp only[ax]at h<;>cases h
def GS{c:Code}{id:Nat}(h:ax P nt hs c=some (.exit id)):c= .exit id:=by
 cases c with
 |exit j=>simp[ax,Qb,SC.exit.injEq]at h;rw[h]
 |region id ops d=>cases d<;>simp[ax]at h<;>(try split at h)<;>(try split at h)<;>(try split at h)<;>cases h
 |seq x y=>simp[ax]at h;split at h<;>cases h
 |cond c x y=>simp only[ax]at h;split at h<;>cases h
 |block id c|loop c=>simp only[ax,Qi]at h;obtain⟨_,_,h⟩:=h;cases h
 |rangeFunc g ps x y=>simp[ax]at h;split at h<;>(try split at h)<;>cases h
 |_=>simp[ax]at h<;>cases h
def wM{c:Code}(h:ax P nt hs c=some .skip):c= .skip:=by
 cases c with
 |skip=>rfl
 |region id ops d=>cases d<;>simp[ax]at h<;>(try split at h)<;>(try split at h)<;>(try split at h)<;>cases h
 |seq x y|cond c x y=>simp[ax]at h;split at h<;>cases h
 |block id c|loop c=>simp only[ax,Qi]at h;obtain⟨_,_,h⟩:=h;cases h
 |rangeFunc g ps x y=>simp[ax]at h;split at h<;>(try split at h)<;>cases h
 |_=>simp[ax]at h<;>cases h
def IC{c:Code}(h:ax P nt hs c=some .ret):c= .ret:=by
 cases c with
 |ret=>rfl
 |region id ops d=>cases d<;>simp[ax]at h<;>(try split at h)<;>(try split at h)<;>(try split at h)<;>cases h
 |seq x y|cond c x y=>simp[ax]at h;split at h<;>cases h
 |block id c|loop c=>simp only[ax,Qi]at h;obtain⟨_,_,h⟩:=h;cases h
 |rangeFunc g ps x y=>simp[ax]at h;split at h<;>(try split at h)<;>cases h
 |_=>simp[ax]at h<;>cases h
def da{α β:Type}{f:α->Y β}{l:Z α}{y:β}{ys:Z β}(h:l.mapM f=some (y::ys)):∃x xs,l=x::xs/\f x=some y/\xs.mapM f=some ys:=by
 cases l with
 |nil=>simp at h
 |cons x xs=>simp only[QE,Qh,Qd,QN,Qb,List.cons.injEq]at h;obtain⟨z,e,g,d,rfl,rfl⟩:=h;exact⟨x,xs,rfl,e,d⟩
def rZ{α β:Type}{f:α->Y β}{l:Z α}(h:l.mapM f=some []):l=[]:=by
 cases l with
 |nil=>rfl
 |cons x xs=>simp only[QE,Qh,Qd,QN,Qb]at h;obtain⟨z,g,e,d,h⟩:=h;cases h
def C4{o:Oper}{i:aM}{xs:Z aM}(h:uQ P hs o=some (.jS i xs)):∃(g:Od) (args:Array Od) (j:Array TI),o.op= .call {callee:= .value g,args:=args,argTypes:=j}/\aL g=some i/\args.toList.mapM aL=some xs:=by
 unfold uQ at h;split at h
 case h_22 l args m e=>
  simp[Qh,Qd]at h
  let⟨p,d,h⟩:=h
  split at h
  .cases h
  .simp[Qd,Qb,bV.jS.injEq]at h;obtain⟨k,f,rfl,rfl⟩:=h;exact⟨_,_,_,e,f,d⟩
 all_goals (repeat' (first|(cases h;done)|split at h|(simp only[Qh,Qd]at h;obtain⟨_,_,h⟩:=h)|(obtain⟨_,_,h⟩:=h)))
def gT{x:Od}{t:Nat}(h:aL x=some (.tmp t)):x= .tmp t:=by
 cases x with
 |tmp u=>simp[aL,Qb,aM.tmp.injEq]at h;rw[h]
 |const v=>simp only[aL,Qi]at h;obtain⟨_,_,h⟩:=h;cases h
 |global g|func f=>simp[aL]at h
end
def xH(k:Nat)(d:Y Nat):SC:=
 .seq (.jq [⟨some 4,none,.load none (.tmp 1)⟩,⟨some 5,none,.len false (.tmp 4)⟩,⟨some 6,none,.bin .sub (.tmp 5) (.ik (.int .i64 1))⟩,⟨some 3,none,.dU (.tmp 6)⟩])
  (.block 0 (.loop (.seq (.seq (.jq [⟨some 7,none,.dU (.tmp 3)⟩,⟨some 8,none,.bin .geq (.tmp 7) (.ik (.int .i64 0))⟩]) (.cond (.tmp 8) .skip (.exit 0)))
   (.seq (.block 1 (.seq (.jq [⟨some 11,none,.dU (.tmp 0)⟩,⟨some 12,none,.dU (.tmp 3)⟩,⟨some 13,none,.load none (.tmp 1)⟩,⟨some 14,none,.dU (.tmp 3)⟩,⟨some 15,none,.mE k (.tmp 13) (.tmp 14)⟩,
    ⟨some 16,none,.load d (.tmp 15)⟩,⟨some 17,none,.jS (.tmp 11) [.tmp 12,.tmp 16]⟩,⟨some 18,none,.not (.tmp 17)⟩]) (.cond (.tmp 18) .ret .skip)))
    (.jq [⟨some 9,none,.dU (.tmp 3)⟩,⟨some 10,none,.bin .sub (.tmp 9) (.ik (.int .i64 1))⟩,⟨some 3,none,.dU (.tmp 10)⟩])))))
section
variable{P:Pr}
def Ii:gL:=λ_=>none
def xp:fe P Ii:=λ_ _ h=>by cases h
def EL{Γ:gL}(e:fe P Γ){E:En}{hs:Z Nat}{ops:Array Oper}{u:Z Oper}:∀(l:Z Oper) (f:Z SG) (nid:Nat) (S S':St) (a:Act) (w:Wo) (L:Nat->Va),l.mapM (lB P hs ops)=some f->Rel E S a w L->nid+l.length<=S.N->
  (∀o∈l,∀t,o.dst=some t->E.can t)->qn Γ nid f S=some S'->∀{Q:Exit->Act->Wo->Prop},(∀a' w' r,Rel E S' a' w' r->wpListIn (WF E.rd) 0 P ops Q u a' w')->wpListIn (WF E.rd) 0 P ops Q (l++u) a w
 |[],f,nid,S,S',a,w,L,hm,h,p,k,d,Q,m=>by simp at hm;subst hm;simp[qn,Qb]at d;subst d;exact m a w L h
 |o::l,f,nid,S,S',a,w,L,hm,h,p,k,d,Q,m=>by
  simp[QE,Qh,Qd,QN,Qb]at hm;obtain⟨g,x,q,j,rfl⟩:=hm;simp[qn]at d;split at d
  .rename_i S1 hs;rw[List.cons_append];refine qaN λK z=> ?_
   refine qO e x h (by simp at p;omega) (k o t_) hs (λa' w' r A=>z _ _ ?_)
   exact EL e l q (nid+1) S1 S' a' w' r j A (by rw[Pm hs];simp at p;omega) (λv i=>k v (by simp[i])) d m
  .cases d
def EB(nt:Nat)(W:Wo)(X:Nat->Prop)(hX:mU W X)(kt:Nat->Y Va):En:=
 {w0:=W,rb:=none,nt:=nt,X:=X,H0:=λ_=>False,hX:=⟨λb d=>hX.lt b d.1,λb d=>hX.ng b d.1,hX.gi⟩,Fi:=false,rv:=undef,rk:=false,vK:=λb d=>(by cases d),Gy:=λh=>(by cases h),rd:=none,nd:=true,kt:=kt,wk:={W with heap:=#[]},wm:=W,M0:=λ_=>True}
def SB(env:Nat->PV):St:={env:=env,H:=λ_=>⟨0,.dead⟩,N:=8}
def yo{nt:Nat}{W:Wo}{X:Nat->Prop}(hX:mU W X){kt:Nat->Y Va}{env:Nat->PV}{a:Act}{L:Nat->Va}(k:a.defers=[])(hs:a.tmps.size=nt)(f:∀t v,kt t=some v->a.tmps.getD t undef=v)
  (g:∀t,aJ W X cr (env t) (a.tmps.getD t undef)):Rel (EB nt W X hX kt) (SB env) a W L:=by
 have m:∀b,aH (EB nt W X hX kt) (SB env) L b->X b:=by
  rintro b (⟨id,_,d,_⟩|h)
  .cases d
  .exact h
 exact⟨Marks.nil k,⟨hs,f⟩,λt=>(g t).mono (bO.of λ_ e=>λh=>e (m _ h)) (cr.le _),λ_ _=>trivial,λi j b _ _ hi=>(by cases hi),λ_ _=>rfl,⟨Fr.refl _ _,wX rfl⟩,λh=>(by cases h),λ_ _ _ h=>(by cases h),Kept.top _ _ _,(λ_ _ _ d=>by cases d),λb l=>l.elim⟩
structure BF (y c:Value) (i:Int) (a:Act):Prop where
 defers:a.defers=[]
 size:a.tmps.size=19
 y:a.tmps.getD 0 undef=y
 c:a.tmps.getD 1 undef=c
 i:a.tmps.getD 3 undef= .int .i64 i
def uy(y c:Va)(t:Nat):Y Va:=if t=0 then some y else if t=1 then some c else none
def lg{nt:Nat}{W W':Wo}{X:Nat->Prop}{hX:mU W X}{kt:Nat->Y Va}{S:St}{a:Act}{L:Nat->Va}(h:Rel (EB nt W X hX kt) S a W' L):Fr none W W':=h.fr.toFr
def tT{hs:Z Nat}{ops:Array Oper}{p:Nat->Prop}:∀{l:Z Oper} {i:Z SG},l.mapM (lB P hs ops)=some i->(∀g∈i,∀t,g.d=some t->p t)->∀o∈l,∀t,o.dst=some t->p t
 |[],_,_,_=>t_
 |x::l,i,h,k=>by
  simp[QE,Qh,Qd,QN,Qb]at h;obtain⟨g,f,m,e,rfl⟩:=h;intro o d t j;rcases Qk.1 d with rfl|d
  .exact k g Qy t (by rw[(Am f).2.1];exact j)
  .exact tT e (λg f=>k g (QC _ f)) o d t j
def xG(es:Z (Z PV))(x:Nat->PV)(t:Nat):PV:=if t=1 then .ref [.sl es]else x t
variable{hs:Z Nat}{es:Z (Z PV)}{y c:Va}{W:Wo}{X:Nat->Prop}{hX:mU W X}{a:Act}
def BF.env{i:Int}(h:BF y c i a)(d:aJ W X cr (.ref [.sl es]) c)(t:Nat):aJ W X cr (xG es (λt=>if t=3 then .int .i64 i else .any) t) (a.tmps.getD t undef):=by
 unfold xG;split
 .rename_i e;rw[e,h.c];exact d
 .simp only;split
  .rename_i e;rw[e,h.i];exact .int _ _
  .exact .any _
def BF.kt{i:Int}(h:BF y c i a)(t:Nat)(v:Va)(d:uy y c t=some v):a.tmps.getD t undef=v:=by
 unfold uy at d;split at d
 .rename_i e;injection d with d;rw[e,h.y,d]
 .split at d
  .rename_i e;injection d with d;rw[e,h.c,d]
  .cases d
def BF.rel{i:Int}(h:BF y c i a)(d:aJ W X cr (.ref [.sl es]) c)(L:Nat->Va):Rel (EB 19 W X hX (uy y c)) (SB (xG es λt=>if t=3 then .int .i64 i else .any)) a W L:=
 yo hX h.defers h.size h.kt (h.env d)
def LG{c0:Code}{d:Z SG}(f:ax P 19 hs c0=some (.jq d)){env:Nat->PV}{S':St}(k:d.length<=8)(q:∀g∈d,∀t,g.d=some t->t≠0/\t≠1){L:Nat->Va}(h:Rel (EB 19 W X hX (uy y c)) (SB env) a W L)
  (m:qn Ii 0 d (SB env)=some S') {Q:Exit->Act->Wo->Prop} (r:∀a' l u,Rel (EB 19 W X hX (uy y c)) S' a' l u->Q .normal a' l):c0.wpIn (WF none) 0 P Q a W:=by
 obtain⟨id,ops,rfl,hm,e⟩:=yH f;refine qaQ ?_;have v:=lj hm;refine rK (E:=EB 19 W X hX (uy y c)) xp ops.toList d 0 (SB env) S' a W L hm h (by simp only[SB];omega) (λo j t i=>⟨e o j t i,?_⟩) m r
 have:=tT (p:=λt=>t≠0/\t≠1) hm q o j t i
 show uy y c t=none;unfold uy;rw[Qf this.1,Qf this.2]
def BF.of{S':St}{d:Wo}{e:Nat->Va}{i:Int}{a':Act}(h:Rel (EB 19 W X hX (uy y c)) S' a' d e)(hi:S'.env 3= .int .i64 i):BF y c i a':=by refine⟨h.defers.none rfl,h.size.1,h.size.2 0 y rfl,h.size.2 1 c rfl,?_⟩;have:=h.env 3;rw[hi]at this;exact this.c4
def Sd(f:aJ W X cr (.ref [.sl es]) c):es.length<=maxLen:=by
 cases f with
 |ref _ ad vs e d h=>
  cases vs with
  |nil=>simp at e
  |cons v vs=>
   have g:=h 0 (.sl es) v t_ t_
   cases g with
   |sl _ _ _ _ _ _ _ _ _ i hm=>omega
   |slnil=>simp
def wrap_small{n:Int}(h: -1<=n)(d:n<=9223372036854775807):IntKind.i64.wrap n=n:=by rw[qbv];omega
def uM(d:Y Nat)(e:Z PV):PV:=(nH d e).getD .any
structure Dj (k:Nat) (nE:Option Nat) (es:List (List PV)):Prop where
 len:∀e∈es,e.length=k
 ld:∀e∈es,nH nE e=some (uM nE e)
 cl:∀e∈es,(uM nE e).aZ=true
def Kl(P:Pr)(l:Nat)(i:Nat)(v:Va)(W:Wo)(R:Ending->Wo->Prop):Prop:=
 ∃(fn:FI) (tmps:Array Va) (d e:Code),(Instr.yield l #[.int .i64 i,v]).run P W= .ok (.round l fn tmps d e) W/\RoundIn (WF none) 0 P l fn tmps d e W R
def N5{k:Nat}{H:Y Nat}{l:Nat}{m:Nat}(hin:Dj k H es)(hX:mU W X)(hc:aJ W X cr (.ref [.sl es]) c){J0 J1:Wo->Prop}(hJ0:∀f,Fr none W f->J0 f)
  (hJ:∀f i,J1 f->Fr none f i->J1 i) {Jx:Wo->Prop} (hJx:∀f i,Jx f->Fr none f i->Jx i) (hG1:∀f,J1 f->GI f) (hGx:∀f,Jx f->GI f)
  (hr:∀(f:Wo) (e:Z PV) (v:Va),J0 f->es[m]?=some e->aJ f X cr (uM H e) v->Kl P l m v f λen i=>(en= .returned (.bool true)/\J1 i)\/(en= .returned (.bool false)/\Jx i))
  {c0:Code} (hcc:ax P 19 hs c0=some (.jq [⟨some 11,none,.dU (.tmp 0)⟩,⟨some 12,none,.dU (.tmp 3)⟩,⟨some 13,none,.load none (.tmp 1)⟩,⟨some 14,none,.dU (.tmp 3)⟩,⟨some 15,none,.mE k (.tmp 13) (.tmp 14)⟩,
    ⟨some 16,none,.load H (.tmp 15)⟩,⟨some 17,none,.jS (.tmp 11) [.tmp 12,.tmp 16]⟩,⟨some 18,none,.not (.tmp 17)⟩]))
  (hm:m<es.length) (hB:BF (.func (.yield l) #[] #[]) c m a) {Q:Exit->Act->Wo->Prop}
  (hQ:∀a' f b,BF (.func (.yield l) #[] #[]) c m a'->a'.tmps.getD 18 undef= .bool (!b)->(b=true->J1 f)->(b=false->Jx f)->Q .normal a' f):c0.wpIn (WF none) 0 P Q a W:=by
 obtain⟨id,ops,rfl,hmm,hlt⟩:=yH hcc;refine qaQ ?_
 let⟨B,l1,e1,g11,hm1⟩:=da hmm
 obtain⟨o12,l2,rfl,g12,hm2⟩:=da hm1;obtain⟨o13,l3,rfl,g13,hm3⟩:=da hm2;obtain⟨o14,l4,rfl,g14,hm4⟩:=da hm3;obtain⟨o15,l5,rfl,g15,hm5⟩:=da hm4;obtain⟨o16,l6,rfl,g16,hm6⟩:=da hm5;obtain⟨o17,l7,rfl,g17,hm7⟩:=da hm6;obtain⟨o18,l8,rfl,g18,hm8⟩:=da hm7;have:=rZ hm8;subst this;rw[e1]at hlt ⊢
 have plain:∀{o:Oper} {d:Y Nat} {s:bV},lB P hs ops o=some ⟨d,none,s⟩->o.guard=none/\o.dst=d/\uQ P hs o=some s:=by
  intro o d s hg
  let⟨q1,q2,q3⟩:=Am hg
  rcases q3 with⟨q3,_⟩|⟨_,_,_,_,_,_,_,q⟩
  .exact⟨q3,q2.symm,q1⟩
  .cases q
 let⟨u1,u2,u3⟩:=plain g11
 have hmv:(B.op= .move (.tmp 0)\/B.op= .assign (.tmp 0)):=by
  unfold uQ at u3;split at u3
  case h_1 x V=>simp only[Qh,Qd,Qb,bV.dU.injEq]at u3;obtain⟨z,hz,rfl⟩:=u3;rw[gT hz]at V;exact .inl V
  case h_2 x V=>simp only[Qh,Qd,Qb,bV.dU.injEq]at u3;obtain⟨z,hz,rfl⟩:=u3;rw[gT hz]at V;exact .inr V
  all_goals (exfalso)
  all_goals (repeat' (first|(cases u3;done)|split at u3|(simp only[Qh,Qd]at u3;obtain⟨_,_,u3⟩:=u3)|(obtain⟨_,_,u3⟩:=u3)))
 refine qbc u1 λK hK=> ?_
 have hev:a.eval (.tmp 0)= .func (.yield l) #[] #[]:=hB.y
 have step1:∀{Q':Exit->Act->Wo->Prop},K (a.put (some 11) (.func (.yield l) #[] #[])) W->B.wpIn (WF none) 0 P a W K Q':=by
  intro Q' hk;unfold Oper.wpIn;rw[qaA _ _ _ (mZ u3)]
  have D:(execOp a.eval B).run P W= .ok (.value (.func (.yield l) #[] #[])) W:=by rcases hmv with V|V<;>simp[execOp,V,hev]
  rw[D];refine⟨λ_ _=>trivial,?_⟩
  show K (a.put B.dst _) W;rw[u2];exact hk
 refine step1 (hK _ _ ?_);have hsz:(a.put (some 11) (.func (.yield l) #[] #[])).tmps.size=19:=by simp[Act.put,hB.size]
 have hne:∀t,t≠11->(a.put (some 11) (.func (.yield l) #[] #[])).tmps.getD t undef=a.tmps.getD t undef:=λt j=>xk j
 have h11:(a.put (some 11) (.func (.yield l) #[] #[])).tmps.getD 11 undef= .func (.yield l) #[] #[]:=by simp[Act.put,Qq,qal (show 11<a.tmps.size by rw[hB.size];omega)]
 have hrel:Rel (EB 19 W X hX (λt=>if t=11 then some (.func (.yield l) #[] #[])else uy (.func (.yield l) #[] #[]) c t)) (SB (xG es λt=>if t=3 then .int .i64 m else .any)) (a.put (some 11) (.func (.yield l) #[] #[])) W (λ_=>undef):=by
  refine yo hX hB.defers hsz (λt v I=> ?_) (λt=> ?_)
  .by_cases u:t=11
   .rw[Qc u]at I;injection I with I;rw[u,h11,I]
   .rw[Qf u]at I;rw[hne t u];exact hB.kt t v I
  .by_cases u:t=11
   .have:xG es (λt=>if t=3 then .int .i64 m else .any) t= .any:=by rw[u];rfl
    rw[this];exact .any _
   .rw[hne t u];exact hB.env hc t
 have helt:es[m]?=some es[m]:=Qv hm;have hek:=hin.len _ (qar hm);have hld:=hin.ld _ (qar hm);have s12:nC Ii 0 (SB (xG es λt=>if t=3 then .int .i64 m else .any)) ⟨some 12,none,.dU (.tmp 3)⟩=some ((SB (xG es λt=>if t=3 then .int .i64 m else .any)).bm (some 12) (.int .i64 m) none):=rfl
 generalize A:(SB (xG es λt=>if t=3 then .int .i64 m else .any)).bm (some 12) (.int .i64 m) none=S1 at s12
 have s13:nC Ii 1 S1 ⟨some 13,none,.load none (.tmp 1)⟩=some (S1.bm (some 13) (.sl es) none):=by subst A;rfl
 generalize F:S1.bm (some 13) (.sl es) none=S2 at s13;have s14:nC Ii 2 S2 ⟨some 14,none,.dU (.tmp 3)⟩=some (S2.bm (some 14) (.int .i64 m) none):=by subst F A;rfl
 generalize R:S2.bm (some 14) (.int .i64 m) none=S3 at s14;have e13:S3.env 13= .sl es:=by subst R F A;rfl
 have e14:S3.env 14= .int .i64 m:=by subst R F A;rfl
 have s15:nC Ii 3 S3 ⟨some 15,none,.mE k (.tmp 13) (.tmp 14)⟩=some (S3.bm (some 15) (.ref es[m]) none):=by simp only[nC,SG.wanted,exec,aM.val,e13,e14];rw[Qc ⟨O,O⟩];simp[Int.toNat_natCast,helt,hek,Qp,Qn]
 generalize hS4:S3.bm (some 15) (.ref es[m]) none=S4 at s15;have e15:S4.env 15= .ref es[m]:=by subst hS4;rfl
 have s16:nC Ii 4 S4 ⟨some 16,none,.load H (.tmp 15)⟩=some (S4.bm (some 16) (uM H es[m]) none):=by simp[nC,SG.wanted,exec,aM.val,e15,hld,Qn]
 generalize hS5:S4.bm (some 16) (uM H es[m]) none=S5 at s16;have f12:S5.env 12= .int .i64 m:=by subst hS5 hS4 R F A;rfl
 have f16:S5.env 16=uM H es[m]:=by subst hS5;rfl
 have f3:S5.env 3= .int .i64 m:=by subst hS5 hS4 R F A;rfl
 have D:qn Ii 0 [⟨some 12,none,.dU (.tmp 3)⟩,⟨some 13,none,.load none (.tmp 1)⟩,⟨some 14,none,.dU (.tmp 3)⟩,⟨some 15,none,.mE k (.tmp 13) (.tmp 14)⟩,⟨some 16,none,.load H (.tmp 15)⟩] (SB (xG es λt=>if t=3 then .int .i64 m else .any))=some S5:=by simp[qn,s12,s13,s14,s15,s16]
 have hmap:[o12,o13,o14,o15,o16].mapM (lB P hs ops)=some [⟨some 12,none,.dU (.tmp 3)⟩,⟨some 13,none,.load none (.tmp 1)⟩,⟨some 14,none,.dU (.tmp 3)⟩,⟨some 15,none,.mE k (.tmp 13) (.tmp 14)⟩,⟨some 16,none,.load H (.tmp 15)⟩]:=by simp[QE,List.mapM_nil,g12,g13,g14,g15,g16,Qh,QK,QN]
 show wpListIn (WF none) 0 P ops Q ([o12,o13,o14,o15,o16]++[o17,o18]) _ W;refine EL (E:=EB 19 W X hX _) xp _ _ 0 _ S5 _ W _ hmap hrel (by simp[SB]) (λo ho t j=>⟨hlt o (by simp[Qk]at ho ⊢;right;rcases ho with h|h|h|h|h|h<;>simp_all) t j,?_⟩) D (λa5 W5 L5 T=> ?_)
 .have:=tT (p:=λt=>t≠0/\t≠1/\t≠11) hmap (by intro g hg t j;simp[Qk,qac,qag]at hg;rcases hg with rfl|rfl|rfl|rfl|rfl<;>(injection j with j;omega)) o ho t j
  show(if t=11 then _ else uy _ _ t)=none
  rw[Qf this.2.2];unfold uy;rw[Qf this.1,Qf this.2.1]
 have hfr5:Fr none W W5:=lg T;have v11:a5.tmps.getD 11 undef= .func (.yield l) #[] #[]:=T.size.2 11 _ rfl;have v12:a5.tmps.getD 12 undef= .int .i64 m:=by have:=T.env 12;rw[f12]at this;exact this.c4
 have r16:aJ W5 X cr (uM H es[m]) (a5.tmps.getD 16 undef):=by have:=T.env 16;rw[f16]at this;exact this.aZ (hin.cl _ (qar hm)) (λb hb=> .inr hb)
 have G:BF (.func (.yield l) #[] #[]) c m a5:=⟨T.defers.none rfl,T.size.1,T.size.2 0 _ rfl,T.size.2 1 _ rfl,by have:=T.env 3;rw[f3]at this;exact this.c4⟩
 let⟨fn,tmps,assign,body,hy,M⟩:=hr W5 _ _ (hJ0 W5 hfr5) helt r16
 let⟨w1,w2,w3⟩:=plain g17
 let⟨gv,args,ts,hop,hgv,hargs⟩:=C4 w3
 have hgv:=gT hgv;subst hgv
 let⟨x12,xs,ex,hx12,hxs⟩:=da hargs
 obtain⟨x16,xs',rfl,hx16,hxs'⟩:=da hxs;have:=rZ hxs';subst this;rw[gT hx12,gT hx16]at ex;have N:args=#[.tmp 12,.tmp 16]:=by rw[<-QX (xs:=args),ex]
 refine qbc w1 λK hK=> ?_
 unfold Oper.wpIn;rw[qaA _ _ _ (mZ w3)]
 have J:(execOp a5.eval o17).run P W5= .ok (.round l fn tmps assign body) W5:=by
  have q1:a5.eval (.tmp 11)= .func (.yield l) #[] #[]:=v11;simp[execOp,hop,resolve,q1,Deferred.ofValue,Qu,QP,QI,invoke,N];have q4:a5.tmps[12]?.getD undef= .int .i64 m:=by rw[<-Qq];exact v12
  simpa[Act.eval,q4]using hy
 rw[J];refine⟨λ_ _=>trivial,(λh=>by cases h),M.mono ?_⟩
 rintro en W6 hen
 have fin:∀b:Bool,en= .returned (.bool b)->(b=true->J1 W6)->(b=false->Jx W6)->K (a5.put o17.dst (.bool b)) W6:=by
  rintro b rfl hj1 hjx;refine hK _ _ ?_;rw[w2];have hsz6:(a5.put (some 17) (.bool b)).tmps.size=19:=by simp[Act.put,G.size]
  have hne6:∀t,t≠17->(a5.put (some 17) (.bool b)).tmps.getD t undef=a5.tmps.getD t undef:=λt j=>xk j
  have h17:(a5.put (some 17) (.bool b)).tmps.getD 17 undef= .bool b:=by simp[Act.put,Qq,qal (show 17<a5.tmps.size by rw[G.size];omega)]
  have hgi:GI W6:=by
   cases b with
   |true=>exact hG1 _ (hj1 rfl)
   |false=>exact hGx _ (hjx rfl)
  have hrel6:Rel (EB 19 W6 (λ_=>False) (.nil hgi) (uy (.func (.yield l) #[] #[]) c)) (SB λt=>if t=17 then .bool b else if t=3 then .int .i64 m else .any) (a5.put (some 17) (.bool b)) W6 (λ_=>undef):=by
   refine yo _ G.defers hsz6 (λt v I=> ?_) (λt=> ?_)
   .by_cases u:t=17
    .subst u;cases I
    .rw[hne6 t u];exact G.kt t v I
   .split
    .rename_i u;rw[u,h17];exact .bool _
    .rename_i u;rw[hne6 t u];split
     .rename_i h3;rw[h3,G.i];exact .int _ _
     .exact .any _
  have r:[o18].mapM (lB P hs ops)=some [⟨some 18,none,.not (.tmp 17)⟩]:=by simp[QE,List.mapM_nil,g18,Qh,QK,QN]
  refine rK (E:=EB 19 W6 (λ_=>False) (.nil hgi) _) xp _ _ 0 _ ((SB λt=>if t=17 then .bool b else if t=3 then .int .i64 m else .any).bm (some 18) (.bool !b) none) _ W6 _ r hrel6 (by simp[SB]) (λo ho t j=>⟨hlt o (by simp[Qk]at ho ⊢;simp_all) t j,?_⟩) rfl (λa7 W7 L7 h7=> ?_)
  .have:=tT (p:=λt=>t≠0/\t≠1) r (by intro g hg t j;simp[Qk,qac,qag]at hg;subst hg;injection j with j;omega) o ho t j
   show uy _ _ t=none;unfold uy;rw[Qf this.1,Qf this.2]
  .have hfr7:=lg h7;refine hQ a7 W7 b (BF.of h7 rfl) ?_ (λhb=>hJ _ _ (hj1 hb) hfr7) (λhb=>hJx _ _ (hjx hb) hfr7)
   have:=h7.env 18;have e18:((SB λt=>if t=17 then .bool b else if t=3 then .int .i64 m else .any).bm (some 18) (.bool !b) none).env 18= .bool !b:=rfl
   rw[e18]at this;exact this.fp
 rcases hen with⟨rfl,hj⟩|⟨rfl,hj⟩
 .exact fin true rfl (λ_=>hj) (λh=>by cases h)
 .exact fin false rfl (λh=>by cases h) (λ_=>hj)
def ML{f:FI}{k:Nat}{V:Y Nat}(hf:dL P f 19 (xH k V) [])(hin:Dj k V es){l:Nat}(J:Nat->(Nat->Prop)->Wo->Prop)(Jx:Wo->Prop)
  (p:∀i X W,J i X W->mU W X/\aJ W X cr (.ref [.sl es]) c) (T:∀i X d h,J i X d->Fr none d h->J i X h) (hJx:∀d h,Jx d->Fr none d h->Jx h) (hGx:∀d,Jx d->GI d)
  (hr:∀(m:Nat) (X:Nat->Prop) (d:Wo) (e:Z PV) (v:Va),J (m+1) X d->es[m]?=some e->aJ d X cr (uM V e) v->Kl P l m v d λen h=>(en= .returned (.bool true)/\∃X,J m X h)\/(en= .returned (.bool false)/\Jx h))
  (W:Wo) (h0:J es.length X W):CallsIn (WF none) 0 P f #[.func (.yield l) #[] #[],c] W λen d=>(∃v,en= .returned v)/\((∃X,J 0 X d)\/Jx d):=by
 let⟨fn,hs,h1,h2,H,A,_⟩:=hf
 cases R:fn.body with
 |none=>rw[R]at H;cases H
 |some c0=>
 rw[R]at H;have H:ax P 19 hs c0=some (xH k V):=H
 have I:fn.results.toList=[]:=by
  cases hq:fn.results.toList with
  |nil=>rfl
  |cons r rs=>rw[hq]at A;cases r<;>simp[gN]at A<;>first|(split at A<;>cases A)|(simp[Qi]at A;let⟨_,_,A⟩:=A;cases A)
 have j:∀(tm:Array Va) (W:Wo),(results fn tm).run P W= .ok (.tuple #[]) W:=by intro tm W;unfold results;rw[qbu,I];simp
 refine callsIn_of_wp (F:=WF none) (n:=0) h1 R trivial ?_;obtain⟨cA,cB,rfl,hA,hB⟩:=js H;obtain⟨cL,rfl,hL⟩:=um hB;obtain⟨cR,rfl,hR⟩:=GR hL;obtain⟨cR1,cR2,rfl,hR1,hR2⟩:=js hR;obtain⟨cT,cC,rfl,hT,hC⟩:=js hR1;obtain⟨oc,cS,cX,rfl,hoc,hcS,hcX⟩:=wN hC;have:=wM hcS;subst this;have:=GS hcX;subst this;have:=gT hoc;subst this;obtain⟨cM,cN,rfl,hM,hN⟩:=js hR2;obtain⟨cM2,rfl,hM2⟩:=um hM;obtain⟨cG,cH,rfl,hG,hH⟩:=js hM2;obtain⟨od,cV,cK,rfl,hod,hcV,hcK⟩:=wN hH;have:=IC hcV;subst this;have:=wM hcK;subst this;have:=gT hod;subst this;have M:=Sd (p _ _ _ h0).2;simp[maxLen]at M
 have o:∀t,(#[Value.func (.yield l) #[] #[],c]++Array.replicate (fn.ntmps - (#[Value.func (.yield l) #[] #[],c]:Array Va).size) undef).getD t undef=if t=0 then .func (.yield l) #[] #[]else if t=1 then c else undef:=by
  intro t;rw[h2,Qq,qaw]
  match t with
  |0|1=>rfl
  |t+2=>simp only[List.size_toArray,QV,List.length_nil];rw[Qf O,Qf O,Qf O,qbb];split<;>rfl
 refine Q8 ?_
 have B:Rel (EB 19 W X (p _ _ _ h0).1 (uy (.func (.yield l) #[] #[]) c)) (SB (xG es λ_=> .any)) {tmps:=#[Value.func (.yield l) #[] #[],c]++Array.replicate (fn.ntmps - (#[Value.func (.yield l) #[] #[],c]:Array Va).size) undef,defers:=[]} W (λ_=>undef):=by
  refine yo _ rfl (by simp[h2]) (λt v G=> ?_) (λt=> ?_)
  .simp only;rw[o t];unfold uy at G;split at G
   .rename_i e;rw[Qc e];injection G
   .rename_i e;rw[Qf e];split at G
    .rename_i e';rw[Qc e'];injection G
    .cases G
  .simp only;rw[o t];unfold xG;split
   .rename_i e;subst e;exact(p _ _ _ h0).2
   .exact .any _
 have dA:∀g∈[(⟨some 4,none,.load none (.tmp 1)⟩:SG),⟨some 5,none,.len false (.tmp 4)⟩,⟨some 6,none,.bin .sub (.tmp 5) (.ik (.int .i64 1))⟩,⟨some 3,none,.dU (.tmp 6)⟩],∀t,g.d=some t->t≠0/\t≠1:=by intro g z t x;simp[Qk,qac,qag]at z;rcases z with rfl|rfl|rfl|rfl<;>(injection x with x;omega)
 refine LG hA t_ dA B rfl λa1 W1 L1 r1=> ?_
 have hJ1:J es.length X W1:=T _ _ _ _ h0 (lg r1)
 have b1:BF (.func (.yield l) #[] #[]) c ((es.length:Int) - 1) a1:=by refine BF.of r1 ?_;show PV.int .i64 (IntKind.i64.wrap ((es.length:Int) - 1))=_;rw[wrap_small O O]
 refine qaZ ?_;refine qbw (λn a W=>n<=es.length/\BF (.func (.yield l) #[] #[]) c ((n:Int) - 1) a/\∃X,J n X W) es.length ⟨Ql _,b1,X,hJ1⟩ ?_
 rintro n a W ⟨hn,R,X,hj⟩;refine Q8 (Q8 ?_)
 have dT:∀g∈[(⟨some 7,none,.dU (.tmp 3)⟩:SG),⟨some 8,none,.bin .geq (.tmp 7) (.ik (.int .i64 0))⟩],∀t,g.d=some t->t≠0/\t≠1:=by intro g z t x;simp[Qk,qac,qag]at z;rcases z with rfl|rfl<;>(injection x with x;omega)
 refine LG hT t_ dT (R.rel (hX:=(p _ _ _ hj).1) (p _ _ _ hj).2 (λ_=>undef)) rfl λa2 W2 L2 r2=> ?_
 have u:J n X W2:=T _ _ _ _ hj (lg r2);have b2:BF (.func (.yield l) #[] #[]) c ((n:Int) - 1) a2:=BF.of r2 rfl
 have t8:a2.eval (.tmp 8)= .bool (decide (0<=(n:Int) - 1)):=by have:=r2.env 8;exact(show aJ _ _ _ (.bool (decide ((0:Int)<=(n:Int) - 1))) _ from this).fp
 refine qaO t8 ?_
 cases n with
 |zero=>
  rw[qai O];refine qaX ?_;simp[Exit.then,Exit.inBlock,Qp]
  exact⟨b2.defers,_,j _ _,⟨_,rfl⟩,.inl ⟨X,u⟩⟩
 |succ m=>
  rw[qah O];refine qaW ?_;have e1:((m+1:Nat):Int) - 1=(m:Int):=O;rw[e1]at b2;refine Q8 (qaZ (Q8 ?_));refine N5 (J0:=J (m+1) X) (J1:=λW=>∃X,J m X W) (Jx:=Jx) hin (p _ _ _ u).1 (p _ _ _ u).2 (λd hW'=>T _ _ _ _ u hW') (λ_ _ ⟨X',q1⟩ q2=>⟨X',T _ _ _ _ q1 q2⟩) hJx (λd ⟨X',q⟩=>(p _ _ _ q).1.gi) hGx (λd e v q1 q2 q3=>hr m X d e v q1 q2 q3) hG O b2 λa3 W3 b N t18 hj3 hx3=> ?_
  refine qaO (t:= !b) t18 ?_
  cases b with
  |false=>refine qaY ?_;exact⟨N.defers,_,j _ _,⟨_,rfl⟩,.inr (hx3 rfl)⟩
  |true=>
   refine qaW ?_
   have dN:∀g∈[(⟨some 9,none,.dU (.tmp 3)⟩:SG),⟨some 10,none,.bin .sub (.tmp 9) (.ik (.int .i64 1))⟩,⟨some 3,none,.dU (.tmp 10)⟩],∀t,g.d=some t->t≠0/\t≠1:=by intro g z t x;simp[Qk,qac,qag]at z;rcases z with rfl|rfl|rfl<;>(injection x with x;omega)
   let⟨X',D⟩:=hj3 rfl
   refine LG hN t_ dN (N.rel (hX:=(p _ _ _ D).1) (p _ _ _ D).2 (λ_=>undef)) rfl λa4 W4 L4 r4=> ?_
   refine⟨m,Q7 m,O,BF.of r4 ?_,X',T _ _ _ _ D (lg r4)⟩;show PV.int .i64 (IntKind.i64.wrap ((m:Int) - 1))=_;rw[wrap_small O O]
end
end
section
open Go.RowKit
section
variable{P:Pr}{E:En}{S:St}{a:Act}{w:Wo}{L:Nat->Va}
def Rel.qP(h:Rel E S a w L){w':Wo}{a':Act}{env':Nat->PV}(rd:Y Nat)(nd:Bool)(kt:Nat->Y Va)(wk:Wo)
  (l:∀(b:Nat) (o:Obj),w.heap[b]?=some o->Bg o=true->w'.heap[b]?=some o) (F:∀t,aJ w (aH E S L) (S.gh L) (env' t) (a'.tmps.getD t undef))
  (B:Marks {E with rd:=rd,nd:=nd,kt:=kt,wk:=wk} a' w') (hs:a'.tmps.size=E.nt/\∀t v,kt t=some v->a'.tmps.getD t undef=v) (D:We {E with rd:=rd,nd:=nd,kt:=kt,wk:=wk} w'):
  Rel {E with rd:=rd,nd:=nd,kt:=kt,wk:=wk} {S with env:=env'} a' w' L:=by
 have f:∀(p:Addr) (v:Va),w.cell? p=some v->w'.heap[p.block]?=w.heap[p.block]?:=by
  intro p v d;unfold World.cell? at d
  cases i:w.heap[p.block]? with
  |none=>rw[i]at d;simp at d
  |some o=>refine l _ o i ?_;rw[i]at d;cases o<;>first|rfl|(simp at d)
 have j:bO w w' (aH E S L) (aH E S L):=⟨λp v d r=>⟨(World.cell?_of_block (f p v d)).trans d,r⟩,λb _ _ z r=>⟨l b _ z rfl,r⟩⟩
 refine⟨B,hs,λt=>(F t).mono j (Gh.le.refl _),λid x=> ?_,h.apart,h.fresh,D,h.sV,h.gn,h.an.1.trans ⟨λb o m A q=>⟨l b o m A,q⟩⟩,h.an.2.1,λb G=>(let⟨q1,⟨o,q2,q3,q4⟩,q5⟩:=h.an.2.2 b G;⟨q1,⟨o,q2,q3,l b o q4 q3⟩,q5⟩)⟩
 have i:=h.obj id x
 cases u:(S.H id).c.live with
 |false=>
  cases g:(S.H id).c with
  |dead=>trivial
  |box cs|row e k es=>rw[g]at u;cases u
 |true=>
  have:=iE.mono (w':=w') j (Gh.le.refl _) (λb z _=>by
   let⟨o,m,A⟩:=i.cells u z
   rw[m]
   exact l b o m (La A)) i
  cases g:(S.H id).c with
  |dead=>trivial
  |box cs|row e k es=>rw[g]at this;exact this
def Fr.putObj{rb:Y Nat}{w0:Wo}(h:Fr rb w0 w){l:Nat}(f:w0.heap.size<=l)(o:Obj):Fr rb w0 (w.putObj l o):=
 ⟨h.os,h.tape,h.output,by rw[World.putObj_size];exact h.size,λb e d=>by rw[World.putObj_heap_other O];exact h.block b e d,h.drawn⟩
def St.jh(S:St)(D:Z Nat):St:={S with env:=λt=>if t∈D then .any else S.env t}
def Rel.drop(h:Rel E S a w L)(D:Z Nat):Rel E (S.jh D) a w L:=
 ⟨h.defers,h.size,λt=>by
  show aJ _ _ _ (if t∈D then .any else S.env t) _
  split
  .exact .any _
  .exact h.env t,h.obj,h.apart,h.fresh,h.fr,h.sV,h.gn,h.an⟩
def K3{x:Wo}(h:s8 x w){l:Nat}(g:x.heap.size<=l)(o:Obj):s8 x (w.putObj l o):=
 ⟨by rw[World.putObj_size];exact h.size,λk p d e=>by
  have f:k<x.heap.size:=(Qz.1 d).1;rw[World.putObj_heap_other O]
  exact h.same k p d e⟩
def qV{l:Nat}{o:Obj}(h:w.heap[l]?=some o)(g:Bg o=false)(d:Obj):∀(b:Nat) (q:Obj),w.heap[b]?=some q->Bg q=true->(w.putObj l d).heap[b]?=some q:=by
 intro b q e f
 have:b≠l:=by grind
 rw[World.putObj_heap_other this];exact e
def Gx:Exit->Y Code
 | .ret=>some .ret
 | .exit i=>some (.exit i)
 | .goto l=>some (.goto l)
 |_=>none
def Fv(I:St->Prop)(S:St):Prop:=∃S',(∀(E:En),(∀id,E.gn id=none)->∀(a:Act) (w:Wo) (L:Nat->Va),Rel E S a w L->∃d,Rel E S' a w d)/\I S'
def Fv.of{I:St->Prop}{S:St}(h:I S):Fv I S:=⟨S,λ_ _ _ _ L h=>⟨L,h⟩,h⟩
def LB(D:Z Nat)(I:St->Prop)(Q:Exit->St->Prop):Exit->St->Prop
 | .normal,T=>Fv I (T.jh D)
 | .ret,T=>Q .ret (T.jh D)
 | .exit i,T=>Q (.exit i) (T.jh D)
 | .goto l,T=>Q (.goto l) (T.jh D)
 |_,_=>False
def U4(d:Array Va)(e p1:Nat)(u v:Va):(#[e,p1].zip #[u,v]).foldl (λtmps x=>match x with|(t,a)=>tmps.setIfInBounds t a) d=(d.setIfInBounds e u).setIfInBounds p1 v:=by rw[<-qbo,Array.toList_zip];rfl
def Xf{d:Array Va}{e p1 t:Nat}{u v:Va}(g:e<d.size)(f:p1<d.size):((d.setIfInBounds e u).setIfInBounds p1 v).getD t undef=if t=p1 then v else if t=e then u else d.getD t undef:=by
 simp[Qq]
 grind
def Uh{nt:Nat}{tg p0 p1:Nat}{assign body:Code}{f:FI}{k:Nat}{nE:Y Nat}{es:Z (Z PV)}{Q:Exit->St->Prop}(hf:dL P f 19 (xH k nE) [])(hin:Dj k nE es)(hna:n9 assign=true)(hnb:n9 body=true)
  (hp0:p0<nt) (hp1:p1<nt) (_htg:tg∉eE (.rangeFunc (.tmp tg) #[p0,p1] assign body)) (I:Nat->St->Prop)
  (h0:Fv (I es.length) (S.jh (eE (.rangeFunc (.tmp tg) #[p0,p1] assign body)))) (hI:∀i T,I i T->T.env tg= .aQ f [.ref [.sl es]])
  (hround:∀m T e,I (m+1) T->es[m]?=some e->V P nt assign (Cb (V P nt body (LB (eE (.rangeFunc (.tmp tg) #[p0,p1] assign body)) (I m) Q)) (λ_ _=>False)) {T with env:=bd (bd T.env p0 (.int .i64 m)) p1 (uM nE e)})
  (hend:∀T,I 0 T->Q .normal T):V P nt (.rangeFunc (.tmp tg) #[p0,p1] assign body) Q S:=by
 intro E hE N a w L hrel;generalize hD:eE (.rangeFunc (.tmp tg) #[p0,p1] assign body)=D at*;have hk1:∀t∈D,E.kt t=none:=by rw[<-hD];exact N.1
 obtain⟨hrd,hnd,hz⟩:E.rd=none/\E.nd=false/\∀id,E.gn id=none:=by
  rcases N.2 with h|h
  .exact h
  .cases h
 have hDa:∀t∈eE assign,t∈D:=by rw[<-hD];intro t ht;simp only[eE,Qr];exact .inl (.inr ht)
 have hDb:∀t∈eE body,t∈D:=by rw[<-hD];intro t ht;simp only[eE,Qr];exact .inr ht
 have hD0:p0∈D:=by rw[<-hD];simp[eE]
 have hD1:p1∈D:=by rw[<-hD];simp[eE]
 have hclo:∀{i:Nat} {T:St} {w':Wo} {L':Nat->Va},I i T->Rel E T a w' L'->∃c,a.tmps.getD tg undef= .func (.func f) #[] #[c]/\aJ w' (aH E T L') cr (.ref [.sl es]) c:=by
  intro i T w' L' hi q;have:=q.env tg;rw[hI i T hi]at this
  let⟨vs,hv,hrv⟩:=this.oX
  obtain⟨c,vs',rfl,hc,hr'⟩:=hrv.cons_inv;have:=hr'.lO;subst this;exact⟨c,hv,hc.closed rfl (λb G=>G)⟩
 let⟨S0,hw0,h0⟩:=h0
 let⟨L,hrel0⟩:=hw0 E hz a w L (hrel.drop D)
 let⟨c,hgv,hc0⟩:=hclo h0 hrel0
 rw[hrd];refine wpIn_rangeFunc ?_;intro fn _;obtain⟨rec,g⟩:∃rec:LoopState->Y Code->Loop,rec=λst pe=>{state:=st,pending:=pe,fn,tmps:=a.tmps,params:=#[p0,p1],assign,body,defers:=w.heap.size}:=⟨_,rfl⟩
 obtain⟨W1,z⟩:∃W1,(w.alloc (.deferred (some []))).alloc (.loop (rec .ready none))=W1:=⟨_,rfl⟩
 have hL1:W1.heap[w.heap.size+1]?=some (.loop (rec .ready none)):=by rw[<-z];have:=World.alloc_heap_new (w.alloc (.deferred (some []))) (.loop (rec .ready none));rwa [World.size_alloc]at this
 have hK1:W1.heap[w.heap.size]?=some (.deferred (some [])):=by rw[<-z];exact(Below.heap_alloc _ _ _ t_).trans (World.alloc_heap_new w _)
 let J:Nat->(Nat->Prop)->Wo->Prop:=λi X W=>∃T L',X=aH E T L'/\I i T/\Rel E T a W L'/\W.heap[w.heap.size+1]?=some (.loop (rec .ready none))/\W.heap[w.heap.size]?=some (.deferred (some []))
 let Jx:Wo->Prop:=λW=>∃B j T L',Gx B=some j/\Q B T/\Rel E T a W L'/\W.heap[w.heap.size+1]?=some (.loop (rec .done (some j)))/\W.heap[w.heap.size]?=some (.deferred (some []))
 have grow:∀{T:St} {L':Nat->Va} {r x:Wo},Rel E T a r L'->Fr none r x->Rel E T a x L':=λh hf=>(h.grow hf.os hf.tape hf.output hf.size (λb G=>hf.block b G t_) hf.drawn).1
 have bY:∀{r x:Wo} {b:Nat} {o:Obj},Fr none r x->r.heap[b]?=some o->x.heap[b]?=some o:=λhf G=>by rw[hf.block _ (Qz.1 G).1 t_];exact G
 have hE0:E.w0.heap.size<=w.heap.size:=hrel.fr.size;have hEk:E.wk.heap.size<=w.heap.size:=hrel.fr.ko.size
 have hW1s:∀(b:Nat),b<w.heap.size->W1.heap[b]?=w.heap[b]?:=by intro b G;rw[<-z];exact(Below.heap_alloc _ _ _ o_).trans (Below.heap_alloc _ _ _ G)
 have hrel1:Rel E S0 a W1 L:=(hrel0.grow (w':=W1) (by rw[<-z];rfl) (by rw[<-z];rfl) (by rw[<-z];rfl) (by rw[<-z];simp;omega) hW1s (by rw[<-z];exact DL.of (Ql _))).1
 have old:∀d∈a.defers,∃Do,d={target:= .collected Do,args:=#[]}/\E.w0.heap.size<=Do/\Do<w.heap.size:=by
  intro d hd
  let⟨Do,q1,q2,q3⟩:=hrel.defers.at_ d hd
  grind
 have hrounds:∀(m:Nat) (X:Nat->Prop) (r:Wo) (e:Z PV) (v:Va),J (m+1) X r->es[m]?=some e->aJ r X cr (uM nE e) v->Kl P (w.heap.size+1) m v r λB x=>(B= .returned (.bool true)/\∃X,J m X x)\/(B= .returned (.bool false)/\Jx x):=by
  rintro m X r e v ⟨T,L',rfl,hi,q,M,N⟩ hem hrep;refine⟨fn,(a.tmps.setIfInBounds p0 (.int .i64 m)).setIfInBounds p1 v,assign,body,by rw[run_yield M (by rw[g];rfl)];simp only[g];rw[<-U4],?_⟩
  refine roundIn_of_wpIn (F:=WF none) trivial ?_
  let E1:En:={E with rd:=some (w.heap.size+1),nd:=true,kt:=λt=>if t∈D then none else some (a.tmps.getD t undef),wk:=r}
  have hget:∀t,((a.tmps.setIfInBounds p0 (.int .i64 m)).setIfInBounds p1 v).getD t undef=if t=p1 then v else if t=p0 then .int .i64 m else a.tmps.getD t undef:=by intro t;exact Xf (by rw[q.size.1,hE];exact hp0) (by rw[q.size.1,hE];exact hp1)
  have hrel2:Rel E1 {T with env:=bd (bd T.env p0 (.int .i64 m)) p1 (uM nE e)} {tmps:=(a.tmps.setIfInBounds p0 (.int .i64 m)).setIfInBounds p1 v,defers:=[]} r L':=by
   refine q.qP (some (w.heap.size+1)) true _ r (λ_ _ G _=>G) (λt=> ?_) (Marks.nil rfl) ⟨by simp[qbE];exact q.size.1,λt u hu=> ?_⟩ ⟨q.fr.toFr,s8.refl _⟩
   .simp only;rw[hget t];simp only[bd];split
    .exact hrep.mono (bO.of λ_ hn=>hn) (cr.le _)
    .split
     .exact .int _ _
     .exact q.env t
   .grind
  have hV:=hround m T e hi hem;have hw1:=hV E1 hE ⟨λt ht=>Qc (hDa t ht),.inr hna⟩ _ r L' hrel2
  refine Q2 hw1 ?_;rintro B a1 w1 ⟨S1,L1,H,hq1⟩
  cases B with
  |exit i|goto i|ret|panic ch|outgrown=>exact hq1.elim
  |normal=>
   have hl1:w1.heap[w.heap.size+1]?=some (.loop (rec .ready none)):=H.fr.ko.same _ _ M rfl;have hd1:a1.defers=[]:=H.defers.none rfl;refine⟨_,run_beginRound hl1 (by rw[g]),?_⟩
   generalize hw2:w1.putObj (w.heap.size+1) (.loop {rec .ready none with state:= .busy})=w2
   have hrec2:({rec .ready none with state:= .busy}:Loop)=rec .busy none:=by rw[g]
   rw[hrec2]at hw2;have hlt1:w.heap.size+1<w1.heap.size:=(Qz.1 hl1).1;have hl2:w2.heap[w.heap.size+1]?=some (.loop (rec .busy none)):=by rw[<-hw2];exact World.putObj_heap_same hlt1
   have hrel3:Rel {E with rd:=some (w.heap.size+1),nd:=true,kt:=λt=>if t∈D then none else some (a.tmps.getD t undef),wk:=w2} S1 a1 w2 L1:=by
    refine H.qP (some (w.heap.size+1)) true _ w2 (by rw[<-hw2];exact qV hl1 rfl _) (λt=>H.env t) (Marks.nil hd1) H.size ⟨?_,s8.refl _⟩
    rw[<-hw2];exact H.fr.toFr.putObj (by show E.w0.heap.size<=_;omega) _
   have hw3:=hq1 {E with rd:=some (w.heap.size+1),nd:=true,kt:=λt=>if t∈D then none else some (a.tmps.getD t undef),wk:=w2} hE ⟨λt ht=>Qc (hDb t ht),.inr hnb⟩ a1 w2 L1 hrel3
   refine Q2 hw3 ?_;rintro B a3 w3 ⟨S3,L3,hr3,hq3⟩;have hl3:w3.heap[w.heap.size+1]?=some (.loop (rec .busy none)):=hr3.fr.ko.same _ _ hl2 rfl;have hlt3:w.heap.size+1<w3.heap.size:=(Qz.1 hl3).1
   have stay:∀(b:Nat) (o:Obj),b≠w.heap.size+1->r.heap[b]?=some o->Nu o=false->∀A,(w3.putObj (w.heap.size+1) A).heap[b]?=some o:=by intro b o hne G ho A;rw[World.putObj_heap_other hne];refine hr3.fr.ko.same b o ?_ ho;rw[<-hw2,World.putObj_heap_other hne];exact H.fr.ko.same b o G ho
   have back:∀A,Rel E (S3.jh D) a (w3.putObj (w.heap.size+1) A) L3:=by
    intro A
    have:=hr3.qP (w':=w3.putObj (w.heap.size+1) A) (a':=a) (env':=(S3.jh D).env) E.rd E.nd E.kt E.wk (qV hl3 rfl _) (λt=>by
      show aJ _ _ _ (if t∈D then .any else S3.env t) _
      split
      .exact .any _
      .rename_i hnt;have h4:=hr3.size.2 t (a.tmps.getD t undef) (Qf hnt);rw[<-h4];exact hr3.env t) ⟨q.defers.none,q.defers.nodup,λd hd=>by
      let⟨Do,q1,q2,q3⟩:=q.defers.at_ d hd
      let⟨Do',q4,_,q6⟩:=old d hd
      have:Do=Do':=by rw[q1]at q4;injection q4 with q4;injection q4
      subst this
      exact⟨Do,q1,q2,stay Do _ O q3 rfl _⟩⟩ q.size ⟨hr3.fr.toFr.putObj (by show E.w0.heap.size<=_;omega) _,⟨by rw[World.putObj_size];show E.wk.heap.size<=_;omega,λb o G ho=>stay b o (by have hb':b<E.wk.heap.size:=(Qz.1 G).1;omega) (q.fr.ko.same b o G ho) ho _⟩⟩
    exact this
   have hk3:∀A,(w3.putObj (w.heap.size+1) A).heap[w.heap.size]?=some (.deferred (some [])):=λA=>stay _ _ O N rfl A
   have leave:∀j,Gx B=some j->Q B (S3.jh D)->∃v w',(Instr.endRound (w.heap.size+1) (some j)).run P w3= .ok v w'/\((Ending.returned v= .returned (.bool true)/\∃X,J m X w')\/(Ending.returned v= .returned (.bool false)/\Jx w')):=by intro j hj hq;refine⟨_,_,run_endRound (some j) hl3,.inr ⟨rfl,B,j,S3.jh D,L3,hj,hq,back _,?_,hk3 _⟩⟩;rw[World.putObj_heap_same hlt3,g];rfl
   cases B with
   |normal=>
    let⟨S5,hw5,hi5⟩:=hq3
    obtain⟨L5,hr5⟩:=hw5 E hz a _ L3 (back _);refine⟨_,_,run_endRound none hl3,.inl ⟨rfl,_,S5,L5,rfl,hi5,hr5,?_,hk3 _⟩⟩;rw[World.putObj_heap_same hlt3,g];rfl
   |ret|exit i|goto i=>exact leave _ rfl hq3
   |panic ch|outgrown=>exact hq3.elim
 have hcalls:=ML (P:=P) (c:=c) (l:=w.heap.size+1) hf hin J Jx
  (λi X W ⟨T,L',hX,hi,q,_,_⟩=>by
   subst hX
   let⟨c',h1,h2⟩:=hclo hi q
   rw[hgv]at h1;injection h1 with _ _ h1
   have:c'=c:=by have:=QJ (λa:Array Va=>a.toList) h1;simpa using this.symm
   subst this
   exact⟨q.I4 λb G=>G,h2⟩)
  (λi X r x ⟨T,L',hX,hi,q,M,N⟩ R=>⟨T,L',hX,hi,grow q R,bY R M,bY R N⟩)
  (λr x ⟨B,j,T,L',h1,h2,q,M,N⟩ R=>⟨B,j,T,L',h1,h2,grow q R,bY R M,bY R N⟩) (λr ⟨B,j,T,L',h1,h2,q,M,N⟩=>q.gi)
  hrounds W1 (X:=aH E S0 L) ⟨S0,L,rfl,h0,hrel1,hL1,hK1⟩
 refine⟨w.heap.size+1,[{target:= .collected w.heap.size,args:=#[]}],W1,{target:= .fn (.func f) #[c],args:=#[.func (.yield (w.heap.size+1)) #[] #[]]},W1,f,#[.func (.yield (w.heap.size+1)) #[] #[],c],W1,?_,?_,λ_ _=>trivial,?_,(λh=>by cases h),hcalls.mono ?_⟩
 .rw[<-z,g];exact run_enterLoop_outer _ _ _ _ _
 .have:a.eval (.tmp tg)= .func (.func f) #[] #[c]:=hgv
  have h2:(#[]++#[Operand.const (Value.func (Fn.yield (w.heap.size+1)) #[] #[])].map a.eval:Array Va)=#[.func (.yield (w.heap.size+1)) #[] #[]]:=by rw[Array.empty_append];simp[Act.eval]
  simp only[resolve,this,Deferred.ofValue];rw[h2];rfl
 .have hen:Enters P f:=hf.enters;simp[invoke];exact gr hen _
 .rintro B r ⟨⟨v,rfl⟩,hW'⟩
  have marks:∀{T:St} {L':Nat->Va} (A:Obj),Rel E T a r L'->r.heap[w.heap.size+1]?=some A->Bg A=false->r.heap[w.heap.size]?=some (.deferred (some []))->∀o'',Rel E T {a with defers:=[{target:= .collected w.heap.size,args:=#[]}]++a.defers} (r.putObj (w.heap.size+1) o'') L':=by
   intro T L' A q M ho N o'';refine q.qP (env':=T.env) E.rd E.nd E.kt E.wk (qV M ho _) (λt=>q.env t) ⟨(λe=>by rw[hnd]at e;cases e),?_,λd hd=> ?_⟩ q.size ⟨q.fr.toFr.putObj O _,K3 q.fr.ko O _⟩
   .rw[List.singleton_append,List.nodup_cons];refine⟨λhmem=> ?_,q.defers.nodup⟩
    grind
   .rcases Qr.1 hd with hd|hd
    .rw[qae.1 hd];exact⟨_,rfl,hE0,by rw[World.putObj_heap_other O];exact N⟩
    .let⟨Do,q1,q2,q3⟩:=q.defers.at_ d hd
     let⟨Do',q4,_,q6⟩:=old d hd
     have:Do=Do':=by rw[q1]at q4;injection q4 with q4;injection q4
     subst this;exact⟨Do,q1,q2,by rw[World.putObj_heap_other O];exact q3⟩
  rcases hW' with⟨X,T,L',_,hi,q,M,N⟩|⟨B,j,T,L',hj,hq,q,M,N⟩
  .have hend1:=run_endLoop (P:=P) M (by rw[g];intro e;cases e)
   exact⟨none,_,by rw[hend1,g],T,L',marks _ q M rfl N _,hend T hi⟩
  .have hend1:=run_endLoop (P:=P) M (by rw[g];intro e;cases e)
   obtain⟨p,A,hp,hrun⟩:∃p A,p=some j/\(Instr.endLoop (w.heap.size+1)).run P r= .ok p (r.putObj (w.heap.size+1) A):=⟨_,_,by rw[g],hend1⟩
   subst hp;have hfin:=marks _ q M rfl N A;refine⟨some j,_,hrun,?_⟩
   cases B with
   |ret=>cases hj;exact qaY ⟨T,L',hfin,hq⟩
   |exit i=>cases hj;exact qaX ⟨T,L',hfin,hq⟩
   |goto i=>cases hj;exact wpIn_goto ⟨T,L',hfin,hq⟩
   |normal|panic ch|outgrown=>cases hj
def SC.gq:SC->Z Nat
 | .jq gs| .jr _ gs=>gs.filterMap (·.d)
 | .seq x y| .cond _ x y=>x.gq++y.gq
 | .block _ x| .loop x=>x.gq
 | .rM _ ps x y=>ps++x.gq++y.gq
 |_=>[]
def HF{hs:Z Nat}{ops:Array Oper}:∀(l:Z Oper) (d:Z SG),l.mapM (lB P hs ops)=some d->l.filterMap (·.dst)=d.filterMap (·.d)
 |[],d,h=>by simp at h;subst h;rfl
 |o::l,d,h=>by simp[QE,Qh,Qd,QN,Qb]at h;obtain⟨g,i,f,e,rfl⟩:=h;simp[List.filterMap_cons,(Am i).2.1,HF l f e]
def jG{nt:Nat}{hs:Z Nat}:∀(c:Code) (d:SC),ax P nt hs c=some d->eE c=d.gq
 | .skip,d,h| .exit _,d,h| .ret,d,h=>by simp[ax]at h;cases h;rfl
 | .region _ ops false,d,h=>by
  simp[ax]at h;split at h
  .rename_i k f;split at h
   .cases h;exact HF _ _ f
   .cases h
  .cases h
 | .region _ ops true,d,h=>by
  simp[ax]at h;split at h
  .rename_i k f;split at h
   .split at h
    .cases h;exact HF _ _ f
    .cases h
   .cases h
  .cases h
 | .seq x y,d,h=>by
  simp[ax]at h;split at h
  .rename_i e i;cases h;simp[eE,SC.gq,jG x _ e,jG y _ i]
  .cases h
 | .cond c x y,d,h=>by
  simp[ax]at h;split at h
  .rename_i _ e i;cases h;simp[eE,SC.gq,jG x _ e,jG y _ i]
  .cases h
 | .block _ x,d,h=>by simp[ax,Qi]at h;obtain⟨j,e,rfl⟩:=h;simp[eE,SC.gq,jG x _ e]
 | .loop x,d,h=>by simp[ax,Qi]at h;obtain⟨j,e,rfl⟩:=h;simp[eE,SC.gq,jG x _ e]
 | .rangeFunc g ps x y,d,h=>by
  simp[ax]at h;split at h
  .rename_i _ e i;split at h
   .cases h;simp[eE,SC.gq,jG x _ e,jG y _ i]
   .cases h
  .cases h
 | .goto _,d,h| .scope _,d,h| .label _,d,h| .refuse _,d,h=>by simp only[ax]at h;cases h
def R3{nt:Nat}{tg r p1:Nat}{x y:SC}{f:FI}{k:Nat}{D:Y Nat}{es:Z (Z PV)}{Q:Exit->St->Prop}(hf:dL P f 19 (xH k D) [])(H:Dj k D es)
  (u:tg∉SC.gq (.rM (.tmp tg) [r,p1] x y)) (I:Nat->St->Prop)
  (N:Fv (I es.length) (S.jh (SC.gq (.rM (.tmp tg) [r,p1] x y)))) (hI:∀i T,I i T->T.env tg= .aQ f [.ref [.sl es]])
  (j:∀m T e,I (m+1) T->es[m]?=some e->VS P nt x (Cb (VS P nt y (LB (SC.gq (.rM (.tmp tg) [r,p1] x y)) (I m) Q)) (λ_ _=>False)) {T with env:=bd (bd T.env r (.int .i64 m)) p1 (uM D e)})
  (B:∀T,I 0 T->Q .normal T):VS P nt (.rM (.tmp tg) [r,p1] x y) Q S:=by
 intro c hs h;have p:=jG c _ h
 cases c with
 |rangeFunc g ps assign body=>
  simp only[ax]at h;split at h
  .rename_i g' x' y' l V R;split at h
   .rename_i o;injection h with h
    injection h with e1 e2 e3 e4
    subst e1 e3 e4;simp only[Qa]at o
    let⟨⟨G,F⟩,q⟩:=o
    have z:ps=#[r,p1]:=by grind
    subst z
    have J:g= .tmp tg:=by
     cases g with
     |tmp t=>simp only[aL]at l;injection l with l;injection l with l;rw[l]
     |const v=>simp only[aL,Qi]at l;obtain⟨_,_,l⟩:=l;cases l
     |global g|func f=>simp[aL]at l
    subst J;rw[<-p]at N j u;simp[QA,List.all_nil,QU,Qa,QB]at q;refine Uh hf H G F q.1 q.2 u I N hI (λm T e hi he=> ?_) B
    refine(j m T e hi he assign hs V).mono ?_;intro en A M
    cases en with
    |normal=>exact M body hs R
    |exit i|goto i|ret|panic ch|outgrown=>exact M
   .cases h
  .cases h
 |region id ops d=>cases d<;>simp[ax]at h<;>(try split at h)<;>(try split at h)<;>(try split at h)<;>cases h
 |seq x y|cond c x y=>simp[ax]at h;split at h<;>cases h
 |block id c|loop c=>simp only[ax,Qi]at h;obtain⟨_,_,h⟩:=h;cases h
 |_=>simp[ax]at h<;>cases h
def Ds(d:Nat)(c:Int):SC:=
 .seq (.jq [⟨some 2,none,.dU (.ik (.int .i64 0))⟩,⟨some 3,none,.dU (.ik (.bool true))⟩])
  (.block 0 (.loop (.seq (.seq (.jq [⟨some 4,none,.dU (.tmp 3)⟩]) (.cond (.tmp 4) .skip (.exit 0)))
   (.seq (.block 1 (.seq (.jq [⟨some 10,none,.dU (.tmp 0)⟩,⟨some 11,none,.dU (.tmp 2)⟩,⟨some 12,none,.jS (.tmp 10) [.tmp 11]⟩,⟨some 13,none,.not (.tmp 12)⟩]) (.cond (.tmp 13) .ret .skip)))
    (.jq [⟨some 6,none,.dU (.tmp 2)⟩,⟨some 7,none,.call d [.tmp 6,.ik (.int .i64 c)]⟩,⟨some 5,none,.dU (.tmp 7)⟩,⟨some 8,none,.sx 0 (.tmp 5)⟩,⟨some 9,none,.sx 1 (.tmp 5)⟩,⟨some 2,none,.dU (.tmp 8)⟩,⟨some 3,none,.dU (.tmp 9)⟩])))))
end
end
section
 def V9{α:Type}(dI:α->Z PV)(f:α->Prop)(d:α->PV):Model:=
 {recv:=false,pos:=0,fresh:=false,m:=λ_ e=>open Classical in if h:∃x,e=dI x/\f x then some (d (Classical.choose h),[])else none,rk:= .no,ro:=false,rm:=λ_ _=>none}
def Ns{α:Type}{dI:α->Z PV}{e:α->Prop}{d:α->PV}:(V9 dI e d).fresh=false:=rfl
def OE{α:Type}{dI:α->Z PV}{e:α->Prop}{d:α->PV}:(V9 dI e d).recv=false:=rfl
@[simp] def Vf {α:Type} (f:Nat->α) (i:Nat) (x:α) (j:Nat):bd f i x j=if j=i then x else f j:=rfl
@[simp] def Wh (g:FI) (m:Model) (l:Z (FI×Model)) (f:FI):tab ((g,m)::l) f=if f=g then some m else tab l f:=rfl
attribute [simp] ev qn nC SG.wanted exec St.bm aM.val Xv cv gP Cb N1 ue Ap nF qo xe fz nH lS ow PV.cells PV.one PV.closed eL DD C9 GX gA PV.nZ PV.plain PV.kJ PV.aZ PV.oW gQ
 Hg dS oy py Ak eK dD pw Ai OE Ns Jv PV.iN
section
variable(n:Nat)
@[simp] def Vp:PV.under n .any=true:=rfl
@[simp] def Up:PV.under n .undef=true:=rfl
@[simp] def Vm (k:IntKind) (i:Int):PV.under n (.int k i)=true:=rfl
@[simp] def Ux (b:Bool):PV.under n (.bool b)=true:=rfl
@[simp] def Uq:PV.under n .dP=true:=rfl
@[simp] def Vh (s:C):PV.under n (.str s)=true:=rfl
@[simp] def Uu:PV.under n .fD=true:=rfl
@[simp] def Ut:PV.under n .cz=true:=rfl
@[simp] def Vj (cs:Z PV):PV.under n (.ref cs)=true:=rfl
@[simp] def Wg (es:Z (Z PV)):PV.under n (.sl es)=true:=rfl
@[simp] def Vl (i v:Nat):PV.under n (.own i v)=decide (i<n):=rfl
@[simp] def Vk (i v o:Nat):PV.under n (.ptr i v o)=decide (i<n):=rfl
@[simp] def Uv (i v k j o:Nat):PV.under n (.ct i v k j o)=decide (i<n):=rfl
@[simp] def Us (i v k j o:Nat):PV.under n (.view i v k j o)=decide (i<n):=rfl
@[simp] def Vq (cs:Z PV):PV.under n (.agg cs)=cs.all (PV.iN n):=rfl
@[simp] def Vg (cs:Z PV):PV.under n (.bP cs)=cs.all (PV.iN n):=rfl
@[simp] def Vn (f:FI) (cs:Z PV):PV.under n (.aQ f cs)=cs.all (PV.iN n):=rfl
@[simp] def Uw:jl.under n .dead=true:=rfl
@[simp] def Vo (cs:Z PV):jl.under n (.box cs)=cs.all (PV.under n):=rfl
@[simp] def Vi (e k:Nat) (es:Z (Z PV)):jl.under n (.row e k es)=es.all λu=>u.all (PV.under n):=rfl
end
def i64_in{n:Int}(h: -9223372036854775808<=n)(d:n<=9223372036854775807):IntKind.i64.wrap n=n:=by rw[qbv];omega
end
section
open Go.RowKit
section
variable{P:Pr}{S:St}{nt:Nat}{Q:Exit->St->Prop}{E:En}{a:Act}{w:Wo}{L:Nat->Va}
def Rel.Sh(h:Rel E S a w L){id:Nat}(d:id<S.N)(e k:Nat):
  Rel E {S with H:=bd S.H id ⟨(S.H id).ab+1,.row e k []⟩} a w (bd L id (.slice none 0 0)):=
 (h.nW (w':=w) d ⟨(S.H id).ab+1,.row e k []⟩ (.slice none 0 0) (.inr (Q7 _)) rfl rfl rfl (Ql _) (λ_ _ _=>rfl)
  (λb _ g=>by simp[br]at g) (λ_ _=>⟨[],⟨t_,.inl ⟨rfl,rfl⟩⟩,t_,by exact⟨rfl,λi y v f=>by simp at f⟩⟩)).1
def SP{S:St}{id:Nat}(d:id<S.N)(e k:Nat){w:Wo}{M:Nat->Prop}{v:Va}(h:v= .slice none 0 0):
  aJ w M (St.gh {S with H:=bd S.H id ⟨(S.H id).ab+1,.row e k []⟩} (bd L id (.slice none 0 0))) (.own id ((S.H id).ab+1)) v:=by
 subst h;exact .own _ _ _ _ _ d (by simp[St.gh]) (λ_=>by simp[St.gh])
end
end
section
structure TU where
 Ty:Type
 PO:DecidableEq Ty
 den:Ty->Type
 pv:(t:Ty)->den t->List PV
 size:Ty->Nat
 agg:Ty->Bool
 plain:Ty->Bool
inductive KV (U:TU) where
 |any
 |undef
 |int (k:IntKind) (n:Int)
 |bool (b:Bool)
 |dP
 |str (s:ByteArray)
 |fD
 |cz
 |aQ (f:FuncId) (caps:List (KV U))
 |ff (f:FuncId) (first:List (KV U))
 |agg (cs:List (KV U))
 |bP (cs:List (KV U))
 |ptr (id ab off:Nat)
 |ref (cs:List (KV U))
 |sl (T:U.Ty) (xs:List (U.den T))
 |own (id ab:Nat)
 |ct (id ab k i off:Nat)
 |view (id ab k lo n:Nat)
 |gl (A B:U.Ty) (xs:List (U.den A×U.den B))
 |jd (b:Bool)
 |fF (T:TypeId) (x:KV U)
 |J3 (Ti Ts:TypeId) (b:Bool) (n:Int) (s:ByteArray)
def cY{U:TU}(T:U.Ty)(v:U.den T):PV:=
 match U.agg T with
 |true=> .agg (U.pv T v)
 |false=>(U.pv T v).headD .any
section
variable{U:TU}
mutual
def KV.pv:KV U->PV
 | .any=> .any
 | .undef=> .undef
 | .int k n=> .int k n
 | .bool b=> .bool b
 | .dP=> .dP
 | .str s=> .str s
 | .fD=> .fD
 | .cz=> .cz
 | .aQ f cs=> .aQ f (KV.yp cs)
 | .ff f cs=> .ff f (KV.yp cs)
 | .agg cs=> .agg (KV.yp cs)
 | .bP cs=> .bP (KV.yp cs)
 | .ptr id ab off=> .ptr id ab off
 | .ref cs=> .ref (KV.yp cs)
 | .sl T xs=> .sl (xs.map (U.pv T))
 | .own id ab=> .own id ab
 | .ct id ab k i off=> .ct id ab k i off
 | .view id ab k lo n=> .view id ab k lo n
 | .gl A B xs=> .gl (xs.map λp=>cY A p.1) (xs.map λp=>cY B p.2)
 | .jd b=> .jd b
 | .fF T x=> .fF T (KV.pv x)
 | .J3 e d b n s=> .fF (cond b d e) (cond b (.str s) (.int .i64 n))
def KV.yp:Z (KV U)->Z PV
 |[]=>[]
 |x::l=>KV.pv x::KV.yp l
end
theorem KV.bT:∀(l:Z (KV U)),KV.yp l=l.map KV.pv
 |[]=>by simp[KV.yp]
 |x::l=>by simp[KV.yp,KV.bT l]
inductive cp (U:TU) where
 |dead
 |box (cs:List (KV U))
 |row (e k:Nat) (T:U.Ty) (xs:List (U.den T))
 |raw (e k:Nat) (es:List (List (KV U)))
structure bx (U:TU) where
 ab:Nat
 c:cp U
structure aw (U:TU) where
 env:Nat->KV U
 H:Nat->bx U
 N:Nat
def cp.pv:cp U->jl
 | .dead=> .dead
 | .box cs=> .box (cs.map KV.pv)
 | .row e k T xs=> .row e k (xs.map (U.pv T))
 | .raw e k es=> .row e k (es.map λc=>c.map KV.pv)
def bx.pv(o:bx U):dq:=⟨o.ab,o.c.pv⟩
def aw.st(S:aw U):St:=⟨λt=>(S.env t).pv,λid=>(S.H id).pv,S.N⟩
def c8{α:Type}(f:Nat->α)(i:Nat)(x:α)(j:Nat):α:=
 match Nat.beq j i with
 |true=>x
 |false=>f j
theorem bU{α:Type}(f:Nat->α)(i:Nat)(x:α):c8 f i x=bd f i x:=by
 funext j
 unfold c8 bd;split
 .rename_i h;rw[Qc (Qg h)]
 .rename_i h;rw[Qf (qaE h)]
def aw.bm(S:aw U)(d:Y Nat)(x:KV U)(wr:Y (Nat×bx U)):aw U:=
 match d with
 |none=>(match wr with
  |none=>{env:=S.env,H:=S.H,N:=S.N}
  |some p=>{env:=S.env,H:=c8 S.H p.1 p.2,N:=S.N})
 |some d=>(match wr with
  |none=>{env:=c8 S.env d x,H:=S.H,N:=S.N}
  |some p=>{env:=c8 S.env d x,H:=c8 S.H p.1 p.2,N:=S.N})
def aw.xK(S:aw U)(d:Y Nat)(x:KV U)(wr:Y (Nat×bx U)):S.bm d x wr=
 {env:=match d with|some d=>c8 S.env d x|none=>S.env,H:=match wr with|some (id,o)=>c8 S.H id o|none=>S.H,N:=S.N}:=by cases d<;>cases wr<;>rfl
def eZ(p:Nat×bx U):Nat×dq:=(p.1,p.2.pv)
def kx{α β:Type}(g:α->β)(f:Nat->α)(i:Nat)(x:α):(λj=>g (bd f i x j))=bd (λj=>g (f j)) i (g x):=by
 funext j
 unfold bd;split<;>rfl
def xb(S:aw U)(d:Y Nat)(x:KV U)(wr:Y (Nat×bx U)):(S.bm d x wr).st=S.st.bm d x.pv (wr.map eZ):=by
 rw[aw.xK];unfold St.bm aw.st;congr 1
 .cases d with
  |none=>rfl
  |some d=>simp[bU];exact kx _ _ _ _
 .cases wr with
  |none=>rfl
  |some p=>let⟨i,o⟩:=p;simp[bU,Qn,eZ];exact kx _ _ _ _
abbrev Lk(U:TU):=Nat->Nat->(T:U.Ty)->Y (Z (U.den T))
def uo{U:TU}(d T:U.Ty)(xs:Z (U.den d)):Y (Z (U.den T)):=
 match U.PO d T with
 |isTrue h=>some (h▸xs)
 |isFalse _=>none
def ji{d T:U.Ty}{xs:Z (U.den d)}{f:Z (U.den T)}(h:uo d T xs=some f):∃e:d=T,f=e▸xs:=by
 unfold uo at h;split at h
 .grind
 .cases h
def aw.lk(S:aw U):Lk U:=λid ab T=>
 match Nat.beq (S.H id).ab ab with
 |true=>match(S.H id).c with
  | .row _ _ d xs=>uo d T xs
  |_=>none
 |false=>none
def lN:Lk U:=λ_ _ _=>none
def OR(k:IntKind):KV U->Y Int
 | .int d n=>if d=k then some n else none
 |_=>none
def C3:KV U->Y Bool
 | .bool b=>some b
 |_=>none
def OQ:KV U->Y C
 | .str s=>some s
 |_=>none
def J6(lk:Lk U)(T:U.Ty):KV U->Y (Z (U.den T))
 | .cz=>some []
 | .sl d xs=>uo d T xs
 | .own id ab=>lk id ab T
 |_=>none
inductive gJ (lk:Lk U):KV U->PV->Prop where
 |int (k:IntKind) (n:Int):gJ lk (.int k n) (.int k n)
 |bool (b:Bool):gJ lk (.bool b) (.bool b)
 |str (s:ByteArray):gJ lk (.str s) (.str s)
 |cz:gJ lk .cz (.sl [])
 |sl (T:U.Ty) (xs:List (U.den T)):gJ lk (.sl T xs) (.sl (xs.map (U.pv T)))
 |own (id ab:Nat) (T:U.Ty) (xs:List (U.den T)) (h:lk id ab T=some xs):gJ lk (.own id ab) (.sl (xs.map (U.pv T)))
 |gl (A B:U.Ty) (xs:List (U.den A×U.den B)):gJ lk (.gl A B xs) (.gl (xs.map λp=>cY A p.1) (xs.map λp=>cY B p.2))
 |jd (b:Bool):gJ lk (.jd b) (.jd b)
 |fF (T:TypeId) (x:KV U):gJ lk (.fF T x) (.fF T x.pv)
 |J3 (Ti Ts:TypeId) (b:Bool) (n:Int) (s:ByteArray):gJ lk (.J3 Ti Ts b n s) (.fF (cond b Ts Ti) (cond b (.str s) (.int .i64 n)))
def RE{lk:Lk U}{k:IntKind}{x:KV U}{n:Int}(h:OR k x=some n):gJ lk x (.int k n):=by
 unfold OR at h;split at h
 .split at h
  .rename_i e;injection h with h;subst h e;exact .int _ _
  .cases h
 .cases h
def RG{lk:Lk U}{x:KV U}{b:Bool}(h:C3 x=some b):gJ lk x (.bool b):=by
 unfold C3 at h;split at h
 .cases h;exact .bool _
 .cases h
def RC{lk:Lk U}{x:KV U}{s:C}(h:OQ x=some s):gJ lk x (.str s):=by
 unfold OQ at h;split at h
 .cases h;exact .str _
 .cases h
def RD{lk:Lk U}{T:U.Ty}{x:KV U}{xs:Z (U.den T)}(h:J6 lk T x=some xs):gJ lk x (.sl (xs.map (U.pv T))):=by
 unfold J6 at h;split at h
 .cases h;exact .cz
 .obtain⟨e,rfl⟩:=ji h;subst e;exact .sl _ _
 .exact .own _ _ _ _ h
 .cases h
def PV.ep:PV->Bool
 | .int ..| .bool _| .str _| .sl _| .gl ..| .jd _| .fF ..=>true
 |_=>false
inductive eH (lk:Lk U):List (KV U)->List PV->Prop where
 |nil:eH lk [] []
 |cons {x:KV U} {y:PV} {xs:List (KV U)} {ys:List PV} (h:gJ lk x y) (t:eH lk xs ys):eH lk (x::xs) (y::ys)
structure TK (U:TU) where
 dI:(t:U.Ty)->U.den t->List (KV U)
 dec:(t:U.Ty)->Lk U->List (KV U)->Option (U.den t)
 I8:Nat->Option U.Ty
 lT:∀t v,(dI t v).map KV.pv=U.pv t v
 iP:∀t lk cs v,dec t lk cs=some v->eH lk cs (U.pv t v)
 len:∀t v,(U.pv t v).length=U.size t
 ep:∀t v y,y∈U.pv t v->y.ep=true
 one:∀t,U.agg t=false->U.size t=1
 plain:∀t,U.plain t=true->∀v y,y∈U.pv t v->y.plain=true
 Jy:U.Ty->Option (IntKind×IntKind)
 Hp:∀t k l,Jy t=some (k,l)->U.agg t=true/\∀v,∃a b,dI t v=[.int k a,.int l b]
variable(K:TK U)
def tu(T:U.Ty)(v:U.den T):KV U:=
 match U.agg T with
 |true=> .agg (K.dI T v)
 |false=>(K.dI T v).headD .any
def ym(lk:Lk U)(T:U.Ty)(x:KV U):Y (U.den T):=
 match U.agg T with
 |true=>(match x with| .agg cs=>K.dec T lk cs|_=>none)
 |false=>K.dec T lk [x]
def wT(T:U.Ty)(v:U.den T):(tu K T v).pv=cY T v:=by
 unfold tu cY;split
 .simp[KV.pv,KV.bT,K.lT]
 .rename_i h;have e:=K.len T v;rw[K.one T h]at e;have d:=K.lT T v
  cases he:K.dI T v with
  |nil=>rw[he]at d;simp at d;rw[d]at e;simp at e
  |cons x l=>rw[he]at d;rw[<-d];rfl
def PV.bJ:PV->Bool
 | .int ..| .bool _| .str _| .fD| .cz| .any| .jd _| .aQ _ []=>true
 |_=>false
def KV.BE:PV->KV U
 | .int k n=> .int k n
 | .bool b=> .bool b
 | .str s=> .str s
 | .fD=> .fD
 | .cz=> .cz
 | .jd b=> .jd b
 | .aQ f []=> .aQ f []
 |_=> .any
def aM.bJ:aM->Bool
 | .tmp _=>true
 | .ik x=>x.bJ
def aM.bR(S:aw U):aM->KV U
 | .tmp t=>S.env t
 | .ik x=>KV.BE x
def mY{S:aw U}{x:aM}(h:x.bJ=true):x.val S.st=(x.bR S).pv:=by
 cases x with
 |tmp t=>rfl
 |ik x=>simp[aM.bJ]at h;unfold PV.bJ at h;split at h<;>first|rfl|(cases h)
def KV.cells:KV U->Z (KV U)
 | .agg cs=>cs
 |x=>[x]
def KV.one:KV U->Bool
 | .int ..| .bool _| .dP| .str _| .fD| .cz| .aQ ..| .ff ..| .ptr ..| .ct ..| .ref _| .sl ..| .own ..| .view ..| .gl ..| .jd _| .fF ..| .J3 ..=>true
 |_=>false
def KV.closed:KV U->Bool
 | .int ..| .bool _| .str _| .fD| .cz| .sl ..| .ref _| .gl ..| .jd _| .fF ..| .J3 ..| .aQ _ []=>true
 |_=>false
def KV.aZ:KV U->Bool
 | .agg cs| .bP cs| .aQ _ cs=>cs.all KV.closed
 |x=>x.closed
def SS(x:KV U):x.pv.one=x.one:=by
 cases x with
 |_=>simp[KV.pv,PV.one,KV.one]
def NH(x:KV U):x.pv.closed=x.closed:=by
 cases x with
 |aQ f cs=>cases cs<;>simp[KV.pv,KV.yp,PV.closed,KV.closed]
 |_=>simp[KV.pv,PV.closed,KV.closed]
theorem qC(x:KV U):x.pv.cells=x.cells.map KV.pv:=by
 cases x with
 |_=>simp[KV.pv,PV.cells,KV.cells,KV.bT]
theorem kE(l:Z (KV U)):(l.map KV.pv).all PV.closed=l.all KV.closed:=by
 induction l with
 |nil=>rfl
 |cons x l d=>simp only[Qj,QA,NH,d]
theorem oZ(l:Z (KV U)):(l.map KV.pv).all PV.one=l.all KV.one:=by
 induction l with
 |nil=>rfl
 |cons x l d=>simp only[Qj,QA,SS,d]
def MH(x:KV U):x.pv.aZ=x.aZ:=by
 cases x with
 |agg cs|bP cs|aQ f cs=>simp only[KV.pv,PV.aZ,KV.aZ,KV.bT];exact kE cs
 |_=>simp[KV.pv,PV.aZ,KV.aZ,PV.closed,KV.closed]
end
end
section
section
variable{U:TU}
inductive cm (U:TU) where
 |ty (T:U.Ty)
 |aQ (f:FuncId) (cs:List (cm U))
 |ref (a:cm U)
 |agg (cs:List (cm U))
inductive jt (U:TU) where
 |one (T:U.Ty)
 |many (Ts:List U.Ty)
 |fn (a:cm U)
@[reducible] def Bz (U:TU):Z U.Ty->Type
 |[]=>Unit
 |T::l=>U.den T×Bz U l
mutual
@[reducible] def cm.den:cm U->Type
 | .ty T=>U.den T
 | .aQ _ cs=>cI cs
 | .ref a=>a.den
 | .agg cs=>cI cs
@[reducible] def cI:Z (cm U)->Type
 |[]=>Unit
 |a::l=>a.den×cI l
end
@[reducible] def jt.den:jt U->Type
 | .one T=>U.den T
 | .many d=>Bz U d
 | .fn a=>a.den
def yX:(d:Z U.Ty)->Bz U d->Z PV
 |[],_=>[]
 |T::l,v=>cY T v.1::yX l v.2
mutual
def iC:(a:cm U)->a.den->PV
 | .ty T,v=>cY T v
 | .aQ f cs,v=> .aQ f (er cs v)
 | .ref a,v=> .ref (kT a v)
 | .agg cs,v=> .agg (er cs v)
def kT:(a:cm U)->a.den->Z PV
 | .ty T,v=>U.pv T v
 | .aQ f cs,v=>[.aQ f (er cs v)]
 | .ref a,v=>[.ref (kT a v)]
 | .agg cs,v=>er cs v
def er:(A_s:Z (cm U))->cI A_s->Z PV
 |[],_=>[]
 |a::l,v=>iC a v.1::er l v.2
end
def nX:(r:jt U)->r.den->PV
 | .one T,v=>cY T v
 | .many d,v=> .bP (yX d v)
 | .fn a,v=>iC a v
variable(K:TK U)
def Pk:(d:Z U.Ty)->Bz U d->Z (KV U)
 |[],_=>[]
 |T::l,v=>tu K T v.1::Pk l v.2
mutual
def Ft:(a:cm U)->a.den->KV U
 | .ty T,v=>tu K T v
 | .aQ f cs,v=> .aQ f (pP cs v)
 | .ref a,v=> .ref (Bs a v)
 | .agg cs,v=> .agg (pP cs v)
def Bs:(a:cm U)->a.den->Z (KV U)
 | .ty T,v=>K.dI T v
 | .aQ f cs,v=>[.aQ f (pP cs v)]
 | .ref a,v=>[.ref (Bs a v)]
 | .agg cs,v=>pP cs v
def pP:(A_s:Z (cm U))->cI A_s->Z (KV U)
 |[],_=>[]
 |a::l,v=>Ft a v.1::pP l v.2
end
def Jb:(r:jt U)->r.den->KV U
 | .one T,v=>tu K T v
 | .many d,v=> .bP (Pk K d v)
 | .fn a,v=>Ft K a v
def M4:∀(d:Z U.Ty) (v:Bz U d),(Pk K d v).map KV.pv=yX d v
 |[],_=>rfl
 |T::l,v=>by rw[Pk,yX,Qj,wT,M4 l v.2]
mutual
theorem Lm:∀(a:cm U) (v:a.den),(Ft K a v).pv=iC a v
 | .ty T,v=>by rw[Ft,iC];exact wT K T v
 | .aQ f cs,v=>by rw[Ft,iC,KV.pv,KV.bT,uU cs v]
 | .ref a,v=>by rw[Ft,iC,KV.pv,KV.bT,Kg a v]
 | .agg cs,v=>by rw[Ft,iC,KV.pv,KV.bT,uU cs v]
theorem Kg:∀(a:cm U) (v:a.den),(Bs K a v).map KV.pv=kT a v
 | .ty T,v=>by rw[Bs,kT];exact K.lT T v
 | .aQ f cs,v=>by rw[Bs,kT,Qj,QD,KV.pv,KV.bT,uU cs v]
 | .ref a,v=>by rw[Bs,kT,Qj,QD,KV.pv,KV.bT,Kg a v]
 | .agg cs,v=>by rw[Bs,kT,uU cs v]
theorem uU:∀(A_s:Z (cm U)) (v:cI A_s),(pP K A_s v).map KV.pv=er A_s v
 |[],_=>by rw[pP,er];rfl
 |a::l,v=>by rw[pP,er,Qj,Lm a v.1,uU l v.2]
end
def FR:∀(r:jt U) (v:r.den),(Jb K r v).pv=nX r v
 | .one T,v=>wT K T v
 | .many d,v=>by rw[Jb,nX,KV.pv,KV.bT,M4]
 | .fn a,v=>Lm K a v
def I1(lk:Lk U):(d:Z U.Ty)->Z (KV U)->Y (Bz U d)
 |[],xs=>match xs with|[]=>some ()|_=>none
 |T::l,xs=>match xs with
  |x::xs=>(match ym K lk T x with
   |some v=>(match I1 lk l xs with|some vs=>some (v,vs)|none=>none)
   |none=>none)
  |[]=>none
def KV.IY:KV U->Bool
 | .cz=>false
 |_=>true
def MC:Y Nat->Nat->Bool
 |none,_=>true
 |some i,id=> !Nat.beq i id
def uj:Z (KV U)->KV U
 |[x]=>x
 |_=> .any
def Bo(T:U.Ty)(cs:Z (KV U)):Y (U.den T):=
 match cs.all KV.IY with
 |true=>K.dec T lN cs
 |false=>none
def Dt{α:Type}(f:FI)(x:KV U)(k:Z (KV U)->Y α):Y α:=
 match x with
 | .aQ g d=>(match Nat.beq g f with|true=>k d|false=>none)
 |_=>none
def F8{α:Type}(x:KV U)(k:Z (KV U)->Y α):Y α:=
 match x with
 | .agg cs=>k cs
 |_=>none
def IU{α:Type}(x:KV U)(k:Z (KV U)->Y α):Y α:=
 match x with
 | .ref cs=>k cs
 |_=>none
def IW(xs:Z (KV U)):Y Unit:=
 match xs with
 |[]=>some ()
 |_=>none
def F7{α β:Type}(xs:Z (KV U))(k:KV U->Y α)(m:Z (KV U)->Y β):Y (α×β):=
 match xs with
 |x::l=>(match k x with
  |some v=>(match m l with|some vs=>some (v,vs)|none=>none)
  |none=>none)
 |[]=>none
def IV{α:Type}(S:aw U)(ex:Y Nat)(x:KV U)(e d:Z (KV U)->Y α):Y α:=
 match x with
 | .ref cells=>e cells
 | .ptr id ab off=>(match Nat.beq off 0&&MC ex id with
  |true=>(match Nat.beq (S.H id).ab ab with
   |true=>(match(S.H id).c with
    | .box cells=>d cells
    |_=>none)
   |false=>none)
  |false=>none)
 |_=>none
def wx{α:Type}{f:FI}{x:KV U}{k:Z (KV U)->Y α}{r:α}(h:Dt f x k=some r):∃d,x= .aQ f d/\k d=some r:=by
 unfold Dt at h;split at h
 .split at h
  .rename_i e;exact⟨_,by rw[Qg e],h⟩
  .cases h
 .cases h
def AR{α:Type}{x:KV U}{k:Z (KV U)->Y α}{r:α}(h:F8 x k=some r):∃cs,x= .agg cs/\k cs=some r:=by
 unfold F8 at h
 grind
def F4{α:Type}{x:KV U}{k:Z (KV U)->Y α}{r:α}(h:IU x k=some r):∃cs,x= .ref cs/\k cs=some r:=by
 unfold IU at h
 grind
def F6{xs:Z (KV U)}{r:Unit}(h:IW xs=some r):xs=[]:=by grind [IW]
def Et{α β:Type}{xs:Z (KV U)}{k:KV U->Y α}{m:Z (KV U)->Y β}{r:α×β}(h:F7 xs k m=some r):∃x l,xs=x::l/\k x=some r.1/\m l=some r.2:=by
 unfold F7 at h
 grind
def F5{α:Type}{S:aw U}{ex:Y Nat}{x:KV U}{g f:Z (KV U)->Y α}{r:α}(h:IV S ex x g f=some r):
  (∃cs,x= .ref cs/\g cs=some r)\/∃id ab cells,x= .ptr id ab 0/\MC ex id=true/\(S.H id).ab=ab/\(S.H id).c= .box cells/\f cells=some r:=by
 unfold IV at h;split at h
 .exact .inl ⟨_,rfl,h⟩
 .split at h
  .rename_i d;rw[Qa]at d;split at h
   .rename_i e;split at h
    .rename_i i;exact .inr ⟨_,_,_,by rw[Qg d.1],d.2,Qg e,i,h⟩
    .cases h
   .cases h
  .cases h
 .cases h
mutual
def DC:(a:cm U)->KV U->Y a.den
 | .ty T,x=>(match U.agg T with
  |true=>F8 x λcs=>Bo K T cs
  |false=>Bo K T [x])
 | .aQ f cs,x=>Dt f x λd=>uP cs d
 | .ref a,x=>IU x λcells=>wL a cells
 | .agg cs,x=>F8 x λcells=>uP cs cells
def wL:(a:cm U)->Z (KV U)->Y a.den
 | .ty T,cells=>Bo K T cells
 | .aQ f cs,cells=>Dt f (uj cells) λd=>uP cs d
 | .ref a,cells=>IU (uj cells) λcells=>wL a cells
 | .agg cs,cells=>uP cs cells
def uP:(A_s:Z (cm U))->Z (KV U)->Y (cI A_s)
 |[],xs=>IW xs
 |a::l,xs=>F7 xs (λx=>DC a x) λxs=>uP l xs
end
mutual
def Fq(S:aw U)(ex:Y Nat):(a:cm U)->KV U->Y a.den
 | .ty T,x=>ym K S.lk T x
 | .aQ f cs,x=>Dt f x λd=>mH S ex cs d
 | .ref a,x=>IV S ex x (λcells=>wL K a cells) λcells=>Fp S ex a cells
 | .agg cs,x=>F8 x λcells=>mH S ex cs cells
def Fp(S:aw U)(ex:Y Nat):(a:cm U)->Z (KV U)->Y a.den
 | .ty T,cells=>K.dec T S.lk cells
 | .aQ f cs,cells=>Dt f (uj cells) λd=>mH S ex cs d
 | .ref a,cells=>IV S ex (uj cells) (λcells=>wL K a cells) λcells=>Fp S ex a cells
 | .agg cs,cells=>mH S ex cs cells
def mH(S:aw U)(ex:Y Nat):(A_s:Z (cm U))->Z (KV U)->Y (cI A_s)
 |[],xs=>IW xs
 |a::l,xs=>F7 xs (λx=>Fq S ex a x) λxs=>mH S ex l xs
end
mutual
def cm.depth:cm U->Nat
 | .ty _=>2
 | .aQ _ cs=>kD cs+1
 | .ref a=>a.depth+1
 | .agg cs=>kD cs+1
def kD:Z (cm U)->Nat
 |[]=>2
 |a::l=>max a.depth (kD l)
end
def jt.plain:jt U->Bool
 | .one T=>U.plain T
 | .many d=>d.all U.plain
 | .fn _=>false
def cm.PE:cm U->Bool
 | .ref _=>true
 |_=>false
def jt.ok:jt U->Bool
 | .fn (.aQ _ cs)=>cs.all cm.PE
 | .fn _=>false
 |_=>true
def Ry{H:Nat->dq}{ex:Y Nat}:∀(n:Nat) {y:PV},y.ep=true->fz H ex n y=y
 |0,y,h|n+1,y,h=>by cases y<;>simp[PV.ep]at h<;>simp[fz,PV.closed]
def OP{H:Nat->dq}{ex:Y Nat}(n:Nat){l:Z PV}(h:∀y∈l,y.ep=true):l.map (fz H ex n)=l:=by
 induction l with
 |nil=>rfl
 |cons x l d=>rw[Qj,Ry n (h x t_),d λy e=>h y (by simp[e])]
def K6{S:aw U}{id ab:Nat}{T:U.Ty}{xs:Z (U.den T)}(h:S.lk id ab T=some xs):(S.H id).ab=ab/\∃e k,(S.H id).c= .row e k T xs:=by
 unfold aw.lk at h;split at h
 .rename_i d;split at h
  .rename_i e k i g f;obtain⟨eq,rfl⟩:=ji h;subst eq;exact⟨Qg d,e,k,f⟩
  .cases h
 .cases h
variable{K}
variable{S:aw U}{ex:Y Nat}
def RO(f:∀id,ex=some id->∀e k T xs,(S.H id).c≠ .row e k T xs)(n:Nat){x:KV U}{y:PV}(h:gJ S.lk x y)(K:TK U):fz S.st.H ex (n+1) x.pv=y:=by
 cases h with
 |int|bool|str|sl T xs|gl A B xs|jd|fF T x|J3=>simp[KV.pv,fz,PV.closed]
 |cz=>simp[KV.pv,fz]
 |own id ab T xs h=>
  let⟨l,e,k,i⟩:=K6 h
  have d:¬(some id=ex\/(S.st.H id).ab≠ab):=by
   rintro(h1|h1)
   .exact f id h1.symm _ _ _ _ i
   .exact h1 l
  have g:(S.st.H id).c= .row e k (xs.map (U.pv T)):=by simp[aw.st,bx.pv,i,cp.pv]
  simp[KV.pv,fz];rw[Qf d,g];simp only[List.map_map];congr 1;refine QW λv _=> ?_
  exact OP n λy j=>K.ep T v y j
def Fs(d:∀id,ex=some id->∀e k T xs,(S.H id).c≠ .row e k T xs)(n:Nat){xs:Z (KV U)}{ys:Z PV}(h:eH S.lk xs ys)(K:TK U):(xs.map KV.pv).map (fz S.st.H ex (n+1))=ys:=by
 induction h with
 |nil=>rfl
 |cons h _ f=>rw[Qj,Qj,RO d n h K,f]
def EE(d:∀id,ex=some id->∀e k T xs,(S.H id).c≠ .row e k T xs)(n:Nat){T:U.Ty}{x:KV U}{v:U.den T}(h:ym K S.lk T x=some v):fz S.st.H ex (n+2) x.pv=cY T v:=by
 unfold ym at h;unfold cY;split at h
 .rename_i f;split at h
  .rename_i cs;simp[KV.pv,KV.bT,fz,Fs d n (K.iP _ _ _ _ h) K]
  .cases h
 .rename_i f;have g:=Fs d (n+1) (K.iP _ _ _ _ h) K
  grind
theorem J4(d:∀id,ex=some id->∀e k T xs,(S.H id).c≠ .row e k T xs)(n:Nat):∀(f:Z U.Ty) (xs:Z (KV U)) (v:Bz U f),I1 K S.lk f xs=some v->(xs.map KV.pv).map (fz S.st.H ex (n+2))=yX f v
 |[],[],_,_=>rfl
 |[],_::_,_,h|T::l,[],_,h=>by cases h
 |T::l,x::xs,v,h=>by
  rw[I1]at h;split at h
  .rename_i j i;split at h
   .rename_i vs g;injection h with h
    subst h;rw[Qj,Qj,yX,EE d n i,J4 d n l xs vs g]
   .cases h
  .cases h
def M5{xs:Z (KV U)}{ys:Z PV}(h:eH lN xs ys):xs.all KV.IY=true->xs.map KV.pv=ys:=by
 induction h with
 |nil=>intro _;rfl
 |cons f _ e=>
  intro d;rw[QA,Qa]at d;rw[Qj,e d.2];congr 1
  cases f with
  |cz=>cases d.1
  |own _ _ _ _ h=>cases h
  |_=>rfl
def Fo{T:U.Ty}{cs:Z (KV U)}{v:U.den T}(h:Bo K T cs=some v):cs.map KV.pv=U.pv T v:=by
 unfold Bo at h;split at h
 .rename_i d;exact M5 (K.iP _ _ _ _ h) d
 .cases h
def GA{cs:Z (KV U)}{f:FI}{d:Z (KV U)}(h:uj cs= .aQ f d):cs=[.aQ f d]:=by
 unfold uj at h;split at h
 .rw[h]
 .cases h
def Ir{cs cells:Z (KV U)}(h:uj cs= .ref cells):cs=[.ref cells]:=by
 unfold uj at h;split at h
 .rw[h]
 .cases h
def Nv{cs:Z (KV U)}{id ab d:Nat}(h:uj cs= .ptr id ab d):cs=[.ptr id ab d]:=by
 unfold uj at h;split at h
 .rw[h]
 .cases h
mutual
def OS:∀(a:cm U) (x:KV U) (v:a.den),DC K a x=some v->x.pv=iC a v
 | .ty T,x,v,h=>by
  rw[DC]at h;rw[iC];split at h
  .rename_i e;obtain⟨cs,rfl,h⟩:=AR h;rw[KV.pv,KV.bT,Fo h,cY,e]
  .rename_i e;have:=Fo h;rw[cY,e,<-this];rfl
 | .aQ f cs,x,v,h=>by rw[DC]at h;rw[iC];obtain⟨d,rfl,g⟩:=wx h;rw[KV.pv,KV.bT,uO cs d v g]
 | .ref a,x,v,h=>by rw[DC]at h;rw[iC];obtain⟨cells,rfl,h⟩:=F4 h;rw[KV.pv,KV.bT,Bp a cells v h]
 | .agg cs,x,v,h=>by rw[DC]at h;rw[iC];obtain⟨cells,rfl,h⟩:=AR h;rw[KV.pv,KV.bT,uO cs cells v h]
def Bp:∀(a:cm U) (cs:Z (KV U)) (v:a.den),wL K a cs=some v->cs.map KV.pv=kT a v
 | .ty T,cs,v,h=>by rw[wL]at h;rw[kT];exact Fo h
 | .aQ f cs,cells,v,h=>by
  rw[wL]at h;rw[kT]
  let⟨e,g,h⟩:=wx h
  rw[GA g,Qj,QD,KV.pv,KV.bT,uO cs e v h]
 | .ref a,cells,v,h=>by
  rw[wL]at h;rw[kT]
  let⟨d,g,h⟩:=F4 h
  rw[Ir g,Qj,QD,KV.pv,KV.bT,Bp a d v h]
 | .agg cs,cells,v,h=>by rw[wL]at h;rw[kT];exact uO cs cells v h
def uO:∀(A_s:Z (cm U)) (xs:Z (KV U)) (v:cI A_s),uP K A_s xs=some v->xs.map KV.pv=er A_s v
 |[],xs,v,h=>by rw[uP]at h;rw[er,F6 h];rfl
 |a::l,xs,v,h=>by rw[uP]at h;rw[er];obtain⟨x,xs,rfl,h1,d⟩:=Et h;rw[Qj,OS a x v.1 h1,uO l xs v.2 d]
end
mutual
def Lh(g:∀id,ex=some id->∀e k T xs,(S.H id).c≠ .row e k T xs):∀(a:cm U) (n:Nat) (x:KV U) (v:a.den),a.depth<=n->Fq K S ex a x=some v->fz S.st.H ex n x.pv=iC a v
 | .ty T,n,x,v,j,h=>by rw[Fq]at h;rw[iC];rw[cm.depth]at j;obtain⟨m,rfl⟩:∃m,n=m+2:=⟨n - 2,O⟩;exact EE g m h
 | .aQ f cs,n,x,v,j,h=>by rw[Fq]at h;rw[iC];rw[cm.depth]at j;obtain⟨m,rfl⟩:∃m,n=m+1:=⟨n - 1,O⟩;obtain⟨d,rfl,q⟩:=wx h;rw[KV.pv,KV.bT,fz,iK g cs m d v O q]
 | .ref a,n,x,v,j,h=>by
  rw[Fq]at h;rw[iC];rw[cm.depth]at j;obtain⟨m,rfl⟩:∃m,n=m+1:=⟨n - 1,O⟩;rcases F5 h with⟨cells,rfl,h⟩|⟨id,ab,cells,rfl,i,l,r,h⟩
  .rw[KV.pv,KV.bT,Bp a cells v h];simp[fz,PV.closed]
  .have o:¬(some id=ex\/(S.st.H id).ab≠ab):=by
    rintro(h1|h1)
    .rw[<-h1]at i;simp[MC]at i
    .exact h1 l
   have p:(S.st.H id).c= .box (cells.map KV.pv):=by simp[aw.st,bx.pv,r,cp.pv]
   simp[KV.pv,fz];rw[Qf o,p];simp only[List.drop_zero];rw[Lg g a m cells v O h]
 | .agg cs,n,x,v,j,h=>by rw[Fq]at h;rw[iC];rw[cm.depth]at j;obtain⟨m,rfl⟩:∃m,n=m+1:=⟨n - 1,O⟩;obtain⟨d,rfl,q⟩:=AR h;rw[KV.pv,KV.bT,fz,iK g cs m d v O q]
def Lg(g:∀id,ex=some id->∀e k T xs,(S.H id).c≠ .row e k T xs):∀(a:cm U) (n:Nat) (cs:Z (KV U)) (v:a.den),a.depth<=n->Fp K S ex a cs=some v->(cs.map KV.pv).map (fz S.st.H ex n)=kT a v
 | .ty T,n,cs,v,j,h=>by rw[Fp]at h;rw[kT];rw[cm.depth]at j;obtain⟨m,rfl⟩:∃m,n=m+1:=⟨n - 1,O⟩;exact Fs g m (K.iP _ _ _ _ h) K
 | .aQ f cs,n,cells,v,j,h=>by
  rw[Fp]at h;rw[kT];rw[cm.depth]at j;obtain⟨m,rfl⟩:∃m,n=m+1:=⟨n - 1,O⟩
  let⟨p,o,h⟩:=wx h
  rw[GA o,Qj,QD,Qj,QD,KV.pv,KV.bT,fz,iK g cs m p v O h]
 | .ref a,n,cells,v,j,h=>by
  rw[Fp]at h;rw[kT];rw[cm.depth]at j;obtain⟨m,rfl⟩:∃m,n=m+1:=⟨n - 1,O⟩;rcases F5 h with⟨d,o,h⟩|⟨id,ab,d,o,i,l,t,h⟩
  .rw[Ir o,Qj,QD,KV.pv,KV.bT,Bp a d v h];simp[fz,PV.closed]
  .have q:¬(some id=ex\/(S.st.H id).ab≠ab):=by
    rintro(h1|h1)
    .rw[<-h1]at i;simp[MC]at i
    .exact h1 l
   have r:(S.st.H id).c= .box (d.map KV.pv):=by simp[aw.st,bx.pv,t,cp.pv]
   rw[Nv o];simp[Qj,QD,KV.pv,fz];rw[Qf q,r];simp only[List.drop_zero];rw[Lg g a m d v O h]
 | .agg cs,n,cells,v,j,h=>by rw[Fp]at h;rw[kT];rw[cm.depth]at j;exact iK g cs n cells v O h
def iK(d:∀id,ex=some id->∀e k T xs,(S.H id).c≠ .row e k T xs):∀(A_s:Z (cm U)) (n:Nat) (xs:Z (KV U)) (v:cI A_s),kD A_s<=n->mH K S ex A_s xs=some v->(xs.map KV.pv).map (fz S.st.H ex n)=er A_s v
 |[],n,xs,v,f,h=>by rw[mH]at h;rw[er,F6 h];rfl
 |a::l,n,xs,v,f,h=>by rw[mH]at h;rw[er];rw[kD]at f;obtain⟨x,xs,rfl,h1,g⟩:=Et h;rw[Qj,Qj,Lh d a n x v.1 O h1,iK d l n xs v.2 O g]
end
def oz{xs:Z (KV U)}{d:Z PV}(h:eH lN xs d):(xs.map KV.pv).map nz=d/\xs.all KV.closed=true:=by
 induction h with
 |nil=>exact⟨rfl,rfl⟩
 |cons h _ e=>
  let⟨h1,f⟩:=e
  simp[Qj,QA,h1,f,QU]
  cases h with
  |own _ _ _ _ h=>cases h
  |_=>simp[KV.pv,nz,KV.closed]
def aw.fG(S:aw U)(id ab:Nat):aw U:={env:=S.env,H:=c8 S.H id ⟨ab,.dead⟩,N:=S.N}
def PM{H e:Nat->dq}{ex:Y Nat}(h:∀j,some j≠ex->e j=H j):∀(n:Nat) (y:PV),fz e ex n y=fz H ex n y
 |0,y=>by simp[fz]
 |n+1,y=>by
  have g:fz e ex n=fz H ex n:=funext (PM h n)
  cases y with
  |own id ab|ptr id ab off=>
   simp[fz,g]
   by_cases d:some id=ex
   .rw[Qc (.inl d),Qc (.inl d)]
   .rw[h id d]
  |agg cs|bP cs|aQ f cs=>simp[fz,g]
  |_=>simp[fz]
def Ld(S:aw U)(id ab n:Nat)(y:PV):fz (S.fG id ab).st.H (some id) n y=fz S.st.H (some id) n y:=by
 refine PM (λj d=> ?_) n y
 have:j≠id:=λe=>d (by rw[e])
 simp only[aw.fG,aw.st,bU,bo _ _ this]
def JL(S:aw U)(id ab:Nat):∀j,some id=some j->∀e k T xs,((S.fG id ab).H j).c≠ .row e k T xs:=by
 intro j d e k T xs;injection d with d
 subst d;simp only[aw.fG,bU,bf];intro h;cases h
inductive bS (U:TU) where
 |rw(f:FuncId) (e k:Nat) (T:U.Ty) (A_s:List (cm U)) (rs:jt U) (F:List (U.den T)->cI A_s->Option (rs.den×List (U.den T)))
 |cw (f:FuncId) (e k:Nat) (T:U.Ty) (A_s:List (cm U)) (F:List (U.den T)->cI A_s->Option (List (U.den T)))
 |fw (f:FuncId) (A_s:List (cm U)) (e k:Nat) (T:U.Ty) (F:cI A_s->Option (List (U.den T)))
 |fn (f:FuncId) (A_s:List (cm U)) (rs:jt U) (F:cI A_s->Option rs.den)
 |rc (f:FuncId) (pos:Nat) (R:U.Ty) (A_s:List (cm U)) (rs:jt U) (F:U.den R->cI A_s->Option (rs.den×U.den R))
 |nw (f:FuncId) (A_s:List (cm U)) (R:U.Ty) (F:cI A_s->Option (U.den R))
 |ro (f:FuncId) (pos:Nat) (R:U.Ty) (A_s:List (cm U)) (rs:jt U) (F:U.den R->cI A_s->Option (rs.den×U.den R))
 |bk (f k:Nat) (nE:Option Nat)
 |it (f fN:Nat) (c:Int) (F:Int->Option (Int×Bool×Unit))
def bS.Sound(P:Pr):bS U->Prop
 | .rw f e k T A_s rs F=>Enters P f/\∀xs a r d,F xs a=some (r,d)->MV P f e k (xs.map (U.pv T)) (er A_s a) (nX rs r) (d.map (U.pv T))
 | .cw f e k T A_s F=>Enters P f/\∀xs a d,F xs a=some d->FD P f e k (xs.map (U.pv T)) (er A_s a) (d.map (U.pv T))
 | .fw f A_s e k T F=>Enters P f/\∀a d,F a=some d->Kr P f (er A_s a) e k (d.map (U.pv T))
 | .fn f A_s rs F=>Enters P f/\∀a r,F a=some r->ED P f false [] (er A_s a) (nX rs r) []
 | .rc f pos R A_s rs F=>Enters P f/\∀s a r s',F s a=some (r,s')->DH P f pos true (U.pv R s) (er A_s a) (nX rs r) (U.pv R s')
 | .ro f pos R A_s rs F=>Enters P f/\∀s a r s',F s a=some (r,s')->s'=s/\DH P f pos true (U.pv R s) (er A_s a) (nX rs r) (U.pv R s')
 | .nw f A_s R F=>Enters P f/\∀a s,F a=some s->MW P f (er A_s a) (U.pv R s)
 | .bk f k h=>dL P f 19 (xH k h) []
 | .it f g c F=>dL P f 14 (Ds g c) []/\Enters P g/\∀s q,F s=some q->ED P g false [] [.int .i64 s,.int .i64 c] (.bP [.int .i64 q.1,.bool q.2.1]) []
def jo(P:Pr):Z (bS U)->Prop
 |[]=>True
 |f::l=>f.Sound P/\jo P l
def GD(f k:Nat)(e:Y Nat):Z (bS U)->Bool
 |[]=>false
 | .bk h g d::Γ=>(Nat.beq f h&&Nat.beq k g&&(match e,d with|none,none=>true|some a,some b=>Nat.beq a b|_,_=>false))||GD f k e Γ
 |_::Γ=>GD f k e Γ
def Fj{P:Pr}{f k:Nat}{e:Y Nat}:∀{Γ:Z (bS U)},jo P Γ->GD f k e Γ=true->dL P f 19 (xH k e) []
 |[],_,h=>by cases h
 | .bk o m nE'::Γ,d,h=>by
  simp only[GD,Qx,Qa]at h;rcases h with⟨⟨j,i⟩,g⟩|h
  .have j:=Qg j;have i:=Qg i;subst j i
   have l:e=nE':=by cases e<;>cases nE'<;>simp only at g<;>first|rfl|(cases g)|(rw[Qg g])
   subst l;exact d.1
  .exact Fj d.2 h
 | .ro ..::Γ,d,h| .rw ..::Γ,d,h| .cw ..::Γ,d,h| .fw ..::Γ,d,h| .fn ..::Γ,d,h| .rc ..::Γ,d,h| .nw ..::Γ,d,h| .it ..::Γ,d,h=>Fj (Γ:=Γ) d.2 h
def CT(f:Nat):Z (bS U)->Y (Int->Y (Int×Bool×Unit))
 |[]=>none
 | .it d _ _ F::Γ=>(match Nat.beq f d with|true=>some F|false=>CT f Γ)
 |_::Γ=>CT f Γ
def CS{P:Pr}{f:Nat}{F:Int->Y (Int×Bool×Unit)}:∀{Γ:Z (bS U)},jo P Γ->CT f Γ=some F->∃(e:Nat) (c:Int),dL P f 14 (Ds e c) []/\Enters P e/\∀s q,F s=some q->ED P e false [] [.int .i64 s,.int .i64 c] (.bP [.int .i64 q.1,.bool q.2.1]) []
 |[],_,h=>by cases h
 | .it i e c j::Γ,d,h=>by
  simp only[CT]at h;split at h
  .rename_i g;have g:=Qg g;injection h with h
   subst g h;exact⟨e,c,d.1⟩
  .exact CS d.2 h
 | .ro ..::Γ,d,h| .rw ..::Γ,d,h| .cw ..::Γ,d,h| .fw ..::Γ,d,h| .fn ..::Γ,d,h| .rc ..::Γ,d,h| .nw ..::Γ,d,h| .bk ..::Γ,d,h=>CS (Γ:=Γ) d.2 h
def CP{y:PV}(h:y.ep=true):y.closed=true:=by cases y<;>first|rfl|cases h
open Classical in
 def je(recv:Bool)(pos:Nat)(fresh ro:Bool)(cs d:Z PV)(r:PV)(cs':Z PV):Model:=
 {recv:=recv,pos:=pos,fresh:=fresh,m:=λc a=>if c=cs/\a=d then some (r,cs')else none,rk:= .no,ro:=ro,rm:=λ_ _=>none}
open Classical in
 def wv(rk:RK)(es:Z (Z PV))(d:Z PV)(r:PV)(e:Z (Z PV)):Model:=
 {recv:=false,pos:=0,fresh:=false,m:=λ_ _=>none,rk:=rk,ro:=false,rm:=λc a=>if c=es/\a=d then some (r,e)else none}
 def kK(f:FI)(m:Model):gL:=λg=>if g=f then some m else none
def ml{P:Pr}{f:FI}{m:Model}(h:NO P f m):fe P (kK f m):=by
 intro g d e
 grind [kK]
def mm(f:FI)(m:Model):kK f m f=some m:=Qc rfl
def aw.nn(S:aw U)(id ab:Nat):Y (Z (KV U)):=
 match Nat.beq (S.H id).ab ab with
 |true=>match(S.H id).c with
  | .box cs=>some cs
  |_=>none
 |false=>none
def uR{id ab:Nat}{cs:Z (KV U)}(h:S.nn id ab=some cs):(S.H id).ab=ab/\(S.H id).c= .box cs:=by
 unfold aw.nn at h;split at h
 .rename_i d;split at h
  .rename_i e;cases h;exact⟨Qg d,e⟩
  .cases h
 .cases h
structure Pd (U:TU) where
 e:Nat
 k:Nat
 T:U.Ty
 xs:List (U.den T)
def aw.row?(S:aw U)(id ab:Nat):Y (Pd U):=
 match Nat.beq (S.H id).ab ab with
 |true=>match(S.H id).c with
  | .row e k T xs=>some ⟨e,k,T,xs⟩
  |_=>none
 |false=>none
theorem yn{id ab:Nat}{r:Pd U}(h:S.row? id ab=some r):(S.H id).ab=ab/\(S.H id).c= .row r.e r.k r.T r.xs:=by
 unfold aw.row? at h;split at h
 .rename_i d;split at h
  .rename_i e;cases h;exact⟨Qg d,e⟩
  .cases h
 .cases h
def jC{id ab:Nat}{r:Pd U}(h:S.row? id ab=some r):(S.st.H id).ab=ab/\(S.st.H id).c= .row r.e r.k (r.xs.map (U.pv r.T)):=by grind [yn,aw.st,bx.pv,cp.pv]
structure Uo (U:TU) where
 e:Nat
 k:Nat
 es:List (List (KV U))
def aw.Ji(S:aw U)(id ab:Nat):Y (Uo U):=
 match Nat.beq (S.H id).ab ab with
 |true=>match(S.H id).c with
  | .raw e k es=>some ⟨e,k,es⟩
  |_=>none
 |false=>none
def Jh{id ab:Nat}{r:Uo U}(h:S.Ji id ab=some r):(S.st.H id).ab=ab/\(S.st.H id).c= .row r.e r.k (r.es.map λc=>c.map KV.pv):=by
 unfold aw.Ji at h;split at h
 .rename_i d;split at h
  .rename_i e;injection h with h
   subst h;exact⟨Qg d,by simp[aw.st,bx.pv,e,cp.pv]⟩
  .cases h
 .cases h
def IT{α:Type}(S:aw U)(e k:Nat)(T:U.Ty)(d:Z (KV U))(j:Nat->Nat->Z (U.den T)->Z (KV U)->Y α):Y α:=
 match d with
 | .own id ab::rest=>(match S.row? id ab with
  |some r=>(match Nat.beq r.e e&&Nat.beq r.k k with
   |true=>(match uo r.T T r.xs with|some xs=>j id ab xs rest|none=>none)
   |false=>none)
  |none=>none)
 |_=>none
def F3{α:Type}{e k:Nat}{T:U.Ty}{g:Z (KV U)}{j:Nat->Nat->Z (U.den T)->Z (KV U)->Y α}{r:α}(h:IT S e k T g j=some r):
  ∃id ab xs d,g= .own id ab::d/\(S.H id).ab=ab/\(S.H id).c= .row e k T xs/\j id ab xs d=some r:=by
 unfold IT at h;split at h
 .rename_i id ab d;split at h
  .rename_i p q
   let⟨h1,l⟩:=yn q
   split at h
   .rename_i f;rw[Qa]at f;split at h
    .rename_i xs i;obtain⟨m,rfl⟩:=ji i
     let⟨t,rk,u,o⟩:=p
     simp only at m l f;subst m;exact⟨id,ab,_,d,rfl,h1,by rw[l,Qg f.1,Qg f.2],h⟩
    .cases h
   .cases h
  .cases h
 .cases h
def tC(K:TK U)(T:U.Ty)(xs:Z (U.den T)):ux (xs.map (U.pv T))=true:=by
 refine Qe.2 λu e=> ?_
 obtain⟨x,_,rfl⟩:=Qs.1 e;exact Qe.2 λy d=>CP (K.ep T x y d)
def ER(K:TK U){T:U.Ty}(f:U.plain T=true)(xs:Z (U.den T)):Co (xs.map (U.pv T))=true:=by
 refine Qe.2 λu e=> ?_
 obtain⟨x,_,rfl⟩:=Qs.1 e;exact Qe.2 λy d=>K.plain T f x y d
variable(K)
def fq{ρ:Type}(nid:Nat)(S:aw U)(f:FI)(d:Z (KV U))(k:KV U->Y (Nat×bx U)->Y ρ):Z (bS U)->Y ρ
 |[]=>none
 | .bk _ _ _::Γ| .it ..::Γ=>fq nid S f d k Γ
 | .rw g e i T A_s rs F::Γ=>match Nat.beq f g with
  |true=>IT S e i T d λid ab xs h=>(match mH K (S.fG id ab) (some id) A_s h with
   |some a=>(match(rs.plain||h.all KV.aZ)&&(U.plain T||h.all KV.aZ)&&(rs.ok&&Nat.ble (kD A_s) 9)with
    |true=>(F xs a).bind λp=>k (Jb K rs p.1) (some (id,⟨ab,.row e i T p.2⟩))
    |false=>none)
   |none=>fq nid S f d k Γ)
  |false=>fq nid S f d k Γ
 | .cw g e i T A_s F::Γ=>match Nat.beq f g with
  |true=>IT S e i T d λid ab xs h=>(match mH K (S.fG id ab) (some id) A_s h with
   |some a=>(match(U.plain T||h.all KV.aZ)&&Nat.ble (kD A_s) 9 with
    |true=>(F xs a).bind λj=>k (.own id (ab+1)) (some (id,⟨ab+1,.row e i T j⟩))
    |false=>none)
   |none=>fq nid S f d k Γ)
  |false=>fq nid S f d k Γ
 | .fw g A_s e i T F::Γ=>match Nat.beq f g with
  |true=>(match mH K S none A_s d with
   |some a=>(match(U.plain T||d.all KV.aZ)&&Nat.ble (kD A_s) 9 with
    |true=>(F a).bind λj=>k (.own nid ((S.H nid).ab+1)) (some (nid,⟨(S.H nid).ab+1,.row e i T j⟩))
    |false=>none)
   |none=>fq nid S f d k Γ)
  |false=>fq nid S f d k Γ
 | .fn g A_s rs F::Γ=>match Nat.beq f g with
  |true=>(match mH K S none A_s d with
   |some a=>(match(rs.plain||d.all KV.aZ)&&(rs.ok&&Nat.ble (kD A_s) 9)with
    |true=>(F a).bind λr=>k (Jb K rs r) none
    |false=>none)
   |none=>fq nid S f d k Γ)
  |false=>fq nid S f d k Γ
 | .rc g pos R A_s rs F::Γ=>match Nat.beq f g with
  |true=>(match d[pos]? with
   |some (.ptr id ab 0)=>(match S.nn id ab with
    |some cs=>(match K.dec R lN cs with
     |some s=>(match mH K S (some id) A_s (cutAt pos d)with
      |some a=>(match((rs.plain&&U.plain R)||(cutAt pos d).all KV.aZ)&&(rs.ok&&Nat.ble (kD A_s) 9)with
       |true=>(F s a).bind λp=>k (Jb K rs p.1) (some (id,⟨ab,.box (K.dI R p.2)⟩))
       |false=>none)
      |none=>fq nid S f d k Γ)
     |none=>none)
    |none=>none)
   |_=>none)
  |false=>fq nid S f d k Γ
 | .ro g pos R A_s rs F::Γ=>match Nat.beq f g with
  |true=>(match d[pos]? with
   |some (.ptr id ab 0)=>(match S.nn id ab with
    |some cs=>(match Bo K R cs with
     |some s=>(match mH K S (some id) A_s (cutAt pos d)with
      |some a=>(match((rs.plain&&U.plain R)||(cutAt pos d).all KV.aZ)&&(rs.ok&&Nat.ble (kD A_s) 9)with
       |true=>(F s a).bind λp=>k (Jb K rs p.1) none
       |false=>none)
      |none=>fq nid S f d k Γ)
     |none=>none)
    |none=>none)
   |_=>none)
  |false=>fq nid S f d k Γ
 | .nw g A_s R F::Γ=>match Nat.beq f g with
  |true=>(match mH K S none A_s d with
   |some a=>(match(U.plain R||d.all KV.aZ)&&Nat.ble (kD A_s) 9 with
    |true=>(F a).bind λs=>k (.ptr nid ((S.H nid).ab+1) 0) (some (nid,⟨(S.H nid).ab+1,.box (K.dI R s)⟩))
    |false=>none)
   |none=>fq nid S f d k Γ)
  |false=>fq nid S f d k Γ
variable{K}
def oM{T:U.Ty}(K:TK U)(v:U.den T)(f:U.agg T=false):∃y,cY T v=y/\y∈U.pv T v:=by
 have d:=K.len T v;rw[K.one T f]at d
 cases e:U.pv T v with
 |nil=>rw[e]at d;cases d
 |cons y l=>exact⟨y,by rw[cY,f,e];rfl,Qy⟩
def qN{T:U.Ty}(v:U.den T)(d:U.agg T=true):cY T v= .agg (U.pv T v):=by rw[cY,d]
def Jp{y:PV}(h:y.plain=true):y.kJ=true:=by cases y<;>first|exact h|cases h
def ei{y:PV}(h:y.ep=true):y.closed=true:=by cases y<;>first|rfl|cases h
def JO{y:PV}(h:y.ep=true):y.aZ=true:=by cases y<;>first|rfl|cases h
def Ei(K:TK U){T:U.Ty}(d:U.plain T=true)(v:U.den T):(cY T v).kJ=true:=by
 cases e:U.agg T with
 |true=>rw[qN v e];exact Qe.2 λy f=>K.plain T d v y f
 |false=>let⟨y,h1,g⟩:=oM K v e;rw[h1];exact Jp (K.plain T d v y g)
def vl{T:U.Ty}(K:TK U)(v:U.den T):(cY T v).aZ=true:=by
 cases d:U.agg T with
 |true=>rw[qN v d];exact Qe.2 λy e=>ei (K.ep T v y e)
 |false=>let⟨y,h1,f⟩:=oM K v d;rw[h1];exact JO (K.ep T v y f)
def FH(K:TK U):∀(d:Z U.Ty) (v:Bz U d),d.all U.plain=true->(yX d v).all PV.kJ=true
 |[],v,_=>rfl
 |T::l,v,h=>by rw[QA,Qa]at h;rw[yX,QA,Ei K h.1 v.1,FH K l v.2 h.2];rfl
def B5(K:TK U):∀(d:Z U.Ty) (v:Bz U d),(yX d v).all PV.aZ=true
 |[],v=>rfl
 |T::l,v=>by rw[yX,QA,vl K v.1,B5 K l v.2];rfl
def Ng{y:PV}(h:y.kJ=true):y.nZ=true:=by cases y<;>first|exact h|cases h
def BC{T:U.Ty}(K:TK U)(v:U.den T)(cs:Z PV):cY T v≠ .bP cs:=by
 intro h
 cases d:U.agg T with
 |true=>rw[qN v d]at h;cases h
 |false=>let⟨y,h1,f⟩:=oM K v d;have e:=K.ep T v y f;rw[<-h1,h]at e;cases e
def ud(K:TK U):∀(r:jt U) (v:r.den),r.plain=true->(nX r v).nZ=true
 | .one T,v,h=>Ng (Ei K h v)
 | .many d,v,h=>FH K d v h
 | .fn _,_,h=>by cases h
def IE:∀(A_s:Z (cm U)) (v:cI A_s),A_s.all cm.PE=true->(er A_s v).all PV.closed=true
 |[],_,_=>by rw[er];rfl
 |a::l,v,h=>by
  rw[QA,Qa]at h;rw[er,QA,IE l v.2 h.2,QU]
  cases a with
  |ref a=>rw[iC];rfl
  |ty T|aQ f cs|agg cs=>cases h.1
def rL(K:TK U):∀(r:jt U) (v:r.den),r.ok=true->(nX r v).oW=true
 | .fn (.aQ f cs),v,h=>by show(iC (.aQ f cs) v).oW=true;rw[iC];exact IE cs v h
 | .fn (.ty _),v,h| .fn (.ref _),v,h| .fn (.agg _),v,h=>by cases h
 | .one T,v,_=>by show(cY T v).oW=true;have e:=vl K v;have d:=BC K v;generalize cY T v=y at e d;cases y<;>first|exact e|exact absurd rfl (d _)
 | .many g,v,_=>B5 K g v
def gU(l:Z (KV U)):(l.map KV.pv).all PV.aZ=l.all KV.aZ:=by
 induction l with
 |nil=>rfl
 |cons x l d=>simp only[Qj,QA,MH,d]
theorem c7{P:Pr}{ρ:Type}{nid:Nat}{f:FI}{p:Z (KV U)}{k:KV U->Y (Nat×bx U)->Y ρ}{r:ρ}:∀{Γ:Z (bS U)},jo P Γ->fq K nid S f p k Γ=some r->
  ∃Γ' x wr,fe P Γ'/\gA Γ' nid S.st f (p.map KV.pv)=some (x.pv,wr.map eZ)/\k x wr=some r
 |[],_,h=>by cases h
 | .bk _ _ _::Γ,j,h| .it ..::Γ,j,h=>c7 (Γ:=Γ) j.2 h
 | .rw g e kk T A_s rs F::Γ,j,h=>by
  simp only[fq]at h;split at h
  .rename_i u;have u:=Qg u;subst u;obtain⟨id,ab,xs,rest,rfl,B,hc,h'⟩:=F3 h;split at h'
   .rename_i a ha;split at h'
    .rename_i d;simp only[Qd]at h';obtain⟨⟨v,J⟩,hv,hk⟩:=h';rw[Qa,Qa,Qa]at d;obtain⟨⟨q,i⟩,D,o⟩:=d;have z:=iK (ex:=some id) (JL S id ab) A_s 9 rest a (Qm o) ha
     have hfz':(rest.map KV.pv).map (fz S.st.H (some id) 9)=er A_s a:=by rw[<-z];exact QW λy _=>(Ld S id ab 9 y).symm
     obtain⟨A,m⟩:=j.1;refine⟨kK f (wv (.NL e kk) (xs.map (U.pv T)) (er A_s a) (nX rs v) (J.map (U.pv T))),Jb K rs v,some (id,⟨ab,.row e kk T J⟩),ml ⟨A,(λ_ cs H r' cs' l=>by cases l),(λt=>by cases t),λes H r' es' l=> ?_,(λt=>by cases t)⟩,?_,hk⟩
     .simp only[wv]at l;split at l
      .rename_i he;injection l with l
       injection l with h1 M
       subst h1 M;obtain⟨rfl,rfl⟩:=he;exact m xs a v J hv
      .cases l
     .have N:(S.st.H id).ab=ab:=B;have hc1:(S.st.H id).c= .row e kk (xs.map (U.pv T)):=by simp[aw.st,bx.pv,hc,cp.pv]
      simp only[Qj,KV.pv,gA,mm,wv,tV,N,hc1,Qp,tC K T xs,qax,hfz',FR,Qn,eZ,bx.pv,cp.pv];rw[Qc];rw[gU,rL K rs v D,tC K T J];simp only[Qx]at q i;rcases q with q|q
      .rw[ud K rs v q];rcases i with i|i
       .rw[ER K i J];rfl
       .rw[i];simp
      .rw[q];simp
    .cases h'
   .exact c7 j.2 h'
  .exact c7 j.2 h
 | .cw g e kk T A_s F::Γ,j,h=>by
  simp only[fq]at h;split at h
  .rename_i u;have u:=Qg u;subst u;obtain⟨id,ab,xs,rest,rfl,B,hc,h'⟩:=F3 h;split at h'
   .rename_i a ha;split at h'
    .rename_i d;simp only[Qd]at h';obtain⟨J,hv,hk⟩:=h';rw[Qa]at d;obtain⟨i,o⟩:=d;have z:=iK (ex:=some id) (JL S id ab) A_s 9 rest a (Qm o) ha
     have hfz':(rest.map KV.pv).map (fz S.st.H (some id) 9)=er A_s a:=by rw[<-z];exact QW λy _=>(Ld S id ab 9 y).symm
     obtain⟨A,m⟩:=j.1;refine⟨kK f (wv (.GP e kk) (xs.map (U.pv T)) (er A_s a) .any (J.map (U.pv T))),.own id (ab+1),some (id,⟨ab+1,.row e kk T J⟩),ml ⟨A,(λ_ cs H r' cs' l=>by cases l),(λt=>by cases t),λes H r' es' l=> ?_,(λt=>by cases t)⟩,?_,hk⟩
     .simp only[wv]at l;split at l
      .rename_i he;injection l with l
       injection l with h1 M
       subst h1 M;obtain⟨rfl,rfl⟩:=he;exact m xs a J hv
      .cases l
     .have N:(S.st.H id).ab=ab:=B;have hc1:(S.st.H id).c= .row e kk (xs.map (U.pv T)):=by simp[aw.st,bx.pv,hc,cp.pv]
      simp only[Qj,KV.pv,gA,mm,wv,tU,N,hc1,Qp,tC K T xs,qax,hfz',Qn,eZ,bx.pv,cp.pv];rw[Qc];rw[gU,tC K T J];simp only[Qx]at i;rcases i with i|i
      .rw[ER K i J];rfl
      .rw[i];simp
    .cases h'
   .exact c7 j.2 h'
  .exact c7 j.2 h
 | .fw g A_s e kk T F::Γ,j,h=>by
  simp only[fq]at h;split at h
  .rename_i u;have u:=Qg u;subst u;split at h
   .rename_i a ha;split at h
    .rename_i d;simp only[Qd]at h;obtain⟨J,hv,hk⟩:=h;rw[Qa]at d;obtain⟨i,o⟩:=d;have z:=iK (ex:=none) (λid h=>by cases h) A_s 9 p a (Qm o) ha
     obtain⟨A,m⟩:=j.1;refine⟨kK f (wv (.Th e kk) [] (er A_s a) .any (J.map (U.pv T))),.own nid ((S.H nid).ab+1),some (nid,⟨(S.H nid).ab+1,.row e kk T J⟩),ml ⟨A,(λ_ cs H r' cs' l=>by cases l),(λt=>by cases t),λH r' es' l=> ?_,(λt=>by cases t)⟩,?_,hk⟩
     .simp only[wv]at l;split at l
      .rename_i he;injection l with l
       injection l with h1 M
       subst h1 M;obtain⟨_,rfl⟩:=he;exact m a J hv
      .cases l
     .simp only[gA,mm,wv,Ao,z,qax,Qp,Qn,eZ,bx.pv,cp.pv,KV.pv];rw[Qc]
      .rfl
      rw[gU,tC K T J];simp only[Qx]at i;rcases i with i|i
      .rw[ER K i J];rfl
      .rw[i];simp
    .cases h
   .exact c7 j.2 h
  .exact c7 j.2 h
 | .fn g A_s rs F::Γ,j,h=>by
  simp only[fq]at h;split at h
  .rename_i u;have u:=Qg u;subst u;split at h
   .rename_i a ha;split at h
    .rename_i d;simp only[Qd]at h;obtain⟨v,hv,hk⟩:=h;rw[Qa,Qa]at d;obtain⟨d,D,o⟩:=d;have z:=iK (ex:=none) (λid h=>by cases h) A_s 9 p a (Qm o) ha
     obtain⟨A,m⟩:=j.1;refine⟨kK f (je false 0 false false [] (er A_s a) (nX rs v) []),_,none,ml ⟨A,λ_ cs H r' cs' l=> ?_,(λt=>by cases t),trivial,(λt=>by cases t)⟩,?_,hk⟩
     .simp only[je]at l;split at l
      .rename_i he;injection l with l
       injection l with h1 M
       subst h1 M;obtain⟨rfl,rfl⟩:=he;exact m a v hv
      .cases l
     .simp only[gA,mm,je,QQ,QF,z,qax,Qp,FR,Q4];rw[Qc];rw[gU,rL K rs v D];simp only[Qx]at d;rcases d with d|d
      .rw[ud K rs v d];rfl
      .rw[d];simp
    .cases h
   .obtain⟨Γ',x,wr,h1,M,h3⟩:=c7 j.2 h;exact⟨Γ',x,wr,h1,M,h3⟩
  .exact c7 j.2 h
 | .rc g pos R A_s rs F::Γ,j,h=>by
  simp only[fq]at h;split at h
  .rename_i u;have u:=Qg u;subst u;split at h
   .rename_i id ab G;have G:p[pos]?=some (.ptr id ab 0):=G;generalize V:cutAt pos p=rest at h;split at h
    .rename_i cs hbox;split at h
     .rename_i s hs;split at h
      .rename_i a ha;split at h
       .rename_i d;simp only[Qd]at h;obtain⟨⟨v,s'⟩,hv,hk⟩:=h;obtain⟨B,hc⟩:=uR hbox;rw[Qa,Qa]at d;obtain⟨d,D,o⟩:=d;have z:=iK (ex:=some id) (λid' h=>by injection h with h;subst h;intro e k T xs t;rw[hc]at t;cases t) A_s 9 rest a (Qm o) ha
        obtain⟨hnz,hclo⟩:=oz (K.iP _ _ _ _ hs);obtain⟨A,m⟩:=j.1;refine⟨kK f (je true pos false false (U.pv R s) (er A_s a) (nX rs v) (U.pv R s')),_,_,ml ⟨A,λ_ cs H r' cs' l=> ?_,(λt=>by cases t),trivial,(λt=>by cases t)⟩,?_,hk⟩
        .simp only[je]at l;split at l
         .rename_i he;injection l with l
          injection l with h1 M
          subst h1 M;obtain⟨rfl,rfl⟩:=he;exact m s a v s' hv
         .cases l
        .have N:(S.st.H id).ab=ab:=B;have hc1:(S.st.H id).c= .box (cs.map KV.pv):=by simp[aw.st,bx.pv,hc,cp.pv]
         have hpos':(p.map KV.pv)[pos]?=some (.ptr id ab 0):=by rw[Qt,G];rfl
         have I:cutAt pos (p.map KV.pv)=rest.map KV.pv:=by rw[<-V];simp[cutAt]
         simp only[gA,mm,je,Bool.false_and,QQ,QF,Qp,hpos',I,N,hc1,kE,hclo,hnz,z,qax,FR,Qn,eZ,bx.pv,cp.pv,K.lT];rw[Qc];have hgs:(U.pv R s').all PV.closed=true:=Qe.2 λy hy=>ei (K.ep R s' y hy)
         rw[gU,rL K rs v D,hgs];simp only[Qx,Qa]at d;rcases d with⟨q,i⟩|d
         .rw[ud K rs v q,Qe.2 λy hy=>K.plain R i s' y hy];rfl
         .rw[d];simp
       .cases h
      .exact c7 j.2 h
     .cases h
    .cases h
   .cases h
  .exact c7 j.2 h
 | .ro g pos R A_s rs F::Γ,j,h=>by
  simp only[fq]at h;split at h
  .rename_i u;have u:=Qg u;subst u;split at h
   .rename_i id ab G;have G:p[pos]?=some (.ptr id ab 0):=G;generalize V:cutAt pos p=rest at h;split at h
    .rename_i cs hbox;split at h
     .rename_i s hs;split at h
      .rename_i a ha;split at h
       .rename_i d;simp only[Qd]at h;obtain⟨⟨v,s'⟩,hv,hk⟩:=h;obtain⟨B,hc⟩:=uR hbox;rw[Qa,Qa]at d;obtain⟨d,D,o⟩:=d;have z:=iK (ex:=some id) (λid' h=>by injection h with h;subst h;intro e k T xs t;rw[hc]at t;cases t) A_s 9 rest a (Qm o) ha
        obtain⟨hnn,hs⟩:cs.all KV.IY=true/\K.dec R lN cs=some s:=by
         unfold Bo at hs;split at hs
         .rename_i hn;exact⟨hn,hs⟩
         .cases hs
        obtain⟨hnz,hclo⟩:=oz (K.iP _ _ _ _ hs)
        have hnnp:(cs.map KV.pv).all PV.Jt=true:=by rw[Qe];intro y hy;obtain⟨x,hx,rfl⟩:=Qs.1 hy;have:=Qe.1 hnn x hx;cases x<;>first|rfl|cases this
        obtain⟨A,m⟩:=j.1;refine⟨kK f (je true pos false true (U.pv R s) (er A_s a) (nX rs v) (U.pv R s')),_,none,ml ⟨A,λ_ cs H r' cs' l=> ?_,(λt=>by cases t),trivial,λ_ cs H r' cs' l=> ?_⟩,?_,hk⟩
        .simp only[je]at l;split at l
         .rename_i he;injection l with l
          injection l with h1 M
          subst h1 M;obtain⟨rfl,rfl⟩:=he;exact(m s a v s' hv).2
         .cases l
        .simp only[je]at l;split at l
         .rename_i he;injection l with l
          injection l with h1 M
          subst h1 M;rw[(m s a v s' hv).1,he.1]
         .cases l
        .have N:(S.st.H id).ab=ab:=B;have hc1:(S.st.H id).c= .box (cs.map KV.pv):=by simp[aw.st,bx.pv,hc,cp.pv]
         have hpos':(p.map KV.pv)[pos]?=some (.ptr id ab 0):=by rw[Qt,G];rfl
         have I:cutAt pos (p.map KV.pv)=rest.map KV.pv:=by rw[<-V];simp[cutAt]
         simp only[gA,mm,je,QQ,QF,Qp,hpos',I,N,hc1,kE,hclo,hnz,z,qax,FR,Q4,hnnp,Bool.and_self];rw[Qc];have hgs:(U.pv R s').all PV.closed=true:=Qe.2 λy hy=>ei (K.ep R s' y hy)
         rw[gU,rL K rs v D,hgs];simp only[Qx,Qa]at d;rcases d with⟨q,i⟩|d
         .rw[ud K rs v q,Qe.2 λy hy=>K.plain R i s' y hy];rfl
         .rw[d];simp
       .cases h
      .exact c7 j.2 h
     .cases h
    .cases h
   .cases h
  .exact c7 j.2 h
 | .nw g A_s R F::Γ,j,h=>by
  simp[fq]at h;split at h
  .rename_i u;have u:=Qg u;subst u;split at h
   .rename_i a ha;split at h
    .rename_i d;simp[Qd]at h
     let⟨s,hs,hk⟩:=h
     rw[Qa]at d
     let⟨d,o⟩:=d
     have z:=iK (ex:=none) (λid h=>by cases h) A_s 9 p a (Qm o) ha
     let⟨A,m⟩:=j.1
     refine⟨kK f (je false 0 true false [] (er A_s a) .any (U.pv R s)),_,_,ml ⟨A,(λt=>by cases t),λ_ H r' cs' l=> ?_,trivial,(λt=>by cases t)⟩,?_,hk⟩
     .simp only[je]at l;split at l
      .rename_i he;injection l with l
       injection l with h1 M
       subst h1 M;obtain⟨_,rfl⟩:=he;exact m a s hs
      .cases l
     .simp only[gA,mm,je,Qp,z,qax,Qn,eZ,bx.pv,cp.pv,K.lT];have hgs:(U.pv R s).all PV.closed=true:=Qe.2 λy hy=>ei (K.ep R s y hy)
      rw[Qc]
      .rfl
      rw[gU,hgs];simp only[Qx]at d;rcases d with d|d
      .rw[Qe.2 λy hy=>K.plain R d s y hy];rfl
      .rw[d];simp
    .cases h
   .exact c7 j.2 h
  .exact c7 j.2 h
end
end
section
open Go.RowKit
section
variable{P:Pr}
def Kk(P:Pr)(l:Nat)(i:Int)(W:Wo)(R:Ending->Wo->Prop):Prop:=
 ∃(fn:FI) (tmps:Array Va) (d e:Code),(Instr.yield l #[.int .i64 i]).run P W= .ok (.round l fn tmps d e) W/\RoundIn (WF none) 0 P l fn tmps d e W R
structure BO (y:Value) (s:Int) (b:Bool) (a:Act):Prop where
 defers:a.defers=[]
 size:a.tmps.size=14
 y:a.tmps.getD 0 undef=y
 s:a.tmps.getD 2 undef= .int .i64 s
 b:a.tmps.getD 3 undef= .bool b
def uz(y:Va)(t:Nat):Y Va:=if t=0 then some y else none
def pz(s:Int)(b:Bool)(t:Nat):PV:=if t=2 then .int .i64 s else if t=3 then .bool b else .any
variable{hs:Z Nat}{y:Va}{W:Wo}{X:Nat->Prop}{hX:mU W X}{a:Act}{s:Int}{b:Bool}
def BO.H5(h:BO y s b a)(t:Nat):aJ W X cr (pz s b t) (a.tmps.getD t undef):=by
 unfold pz;split
 .rename_i e;rw[e,h.s];exact .int _ _
 .split
  .rename_i e;rw[e,h.b];exact .bool _
  .exact .any _
def BO.kt(h:BO y s b a)(t:Nat)(v:Va)(d:uz y t=some v):a.tmps.getD t undef=v:=by
 unfold uz at d;split at d
 .rename_i e;injection d with d;rw[e,h.y,d]
 .cases d
def BO.rel(h:BO y s b a)(L:Nat->Va):Rel (EB 14 W X hX (uz y)) (SB (pz s b)) a W L:=yo hX h.defers h.size h.kt h.H5
def BO.of{S':St}{f:Wo}{g:Nat->Va}{a':Act}(h:Rel (EB 14 W X hX (uz y)) S' a' f g)(e:S'.env 2= .int .i64 s)(d:S'.env 3= .bool b):BO y s b a':=by
 refine⟨h.defers.none rfl,h.size.1,h.size.2 0 y rfl,?_,?_⟩
 .have:=h.env 2;rw[e]at this;exact this.c4
 .have:=h.env 3;rw[d]at this;exact this.fp
def LF{Γ:gL}(e:fe P Γ){c0:Code}{d:Z SG}(i:ax P 14 hs c0=some (.jq d)){env:Nat->PV}{S':St}(l:d.length<=8)(r:∀g∈d,∀t,g.d=some t->t≠0){L:Nat->Va}(h:Rel (EB 14 W X hX (uz y)) (SB env) a W L)
  (q:qn Γ 0 d (SB env)=some S') {Q:Exit->Act->Wo->Prop} (u:∀a' m v,Rel (EB 14 W X hX (uz y)) S' a' m v->Q .normal a' m):c0.wpIn (WF none) 0 P Q a W:=by
 obtain⟨id,ops,rfl,hm,f⟩:=yH i;refine qaQ ?_;have x:=lj hm;refine rK (E:=EB 14 W X hX (uz y)) e ops.toList d 0 (SB env) S' a W L hm h (by simp only[SB];omega) (λo k t j=>⟨f o k t j,?_⟩) q u
 have:=tT (p:=λt=>t≠0) hm r o k t j
 show uz y t=none;unfold uz;rw[Qf this]
def N4{l:Nat}(hX:mU W X){J0 J1:Wo->Prop}(hJ0:∀e,Fr none W e->J0 e)
  (hJ:∀e f,J1 e->Fr none e f->J1 f) {Jx:Wo->Prop} (hJx:∀e f,Jx e->Fr none e f->Jx f) (hG1:∀e,J1 e->GI e) (hGx:∀e,Jx e->GI e)
  (hr:∀e:Wo,J0 e->Kk P l s e λen f=>(en= .returned (.bool true)/\J1 f)\/(en= .returned (.bool false)/\Jx f))
  {c0:Code} (hcc:ax P 14 hs c0=some (.jq [⟨some 10,none,.dU (.tmp 0)⟩,⟨some 11,none,.dU (.tmp 2)⟩,⟨some 12,none,.jS (.tmp 10) [.tmp 11]⟩,⟨some 13,none,.not (.tmp 12)⟩]))
  (hB:BO (.func (.yield l) #[] #[]) s b a) {Q:Exit->Act->Wo->Prop}
  (hQ:∀a' e c,BO (.func (.yield l) #[] #[]) s b a'->a'.tmps.getD 13 undef= .bool (!c)->(c=true->J1 e)->(c=false->Jx e)->Q .normal a' e):c0.wpIn (WF none) 0 P Q a W:=by
 obtain⟨id,ops,rfl,hmm,T⟩:=yH hcc;refine qaQ ?_;obtain⟨m,l1,e1,g10,hm1⟩:=da hmm;obtain⟨o11,l2,rfl,g11,hm2⟩:=da hm1;obtain⟨N,l3,rfl,g12,hm3⟩:=da hm2;obtain⟨o13,l4,rfl,g13,hm4⟩:=da hm3;have:=rZ hm4;subst this;rw[e1]at T ⊢
 have plain:∀{o:Oper} {d:Y Nat} {s:bV},lB P hs ops o=some ⟨d,none,s⟩->o.guard=none/\o.dst=d/\uQ P hs o=some s:=by
  intro o d s hg;obtain⟨q1,q2,q3⟩:=Am hg;rcases q3 with⟨q3,_⟩|⟨_,_,_,_,_,_,_,q⟩
  .exact⟨q3,q2.symm,q1⟩
  .cases q
 obtain⟨u1,u2,u3⟩:=plain g10
 have hmv:(m.op= .move (.tmp 0)\/m.op= .assign (.tmp 0)):=by
  unfold uQ at u3;split at u3
  case h_1 x F=>simp only[Qh,Qd,Qb,bV.dU.injEq]at u3;obtain⟨z,hz,rfl⟩:=u3;rw[gT hz]at F;exact .inl F
  case h_2 x F=>simp only[Qh,Qd,Qb,bV.dU.injEq]at u3;obtain⟨z,hz,rfl⟩:=u3;rw[gT hz]at F;exact .inr F
  all_goals (exfalso)
  all_goals (repeat' (first|(cases u3;done)|split at u3|(simp only[Qh,Qd]at u3;obtain⟨_,_,u3⟩:=u3)|(obtain⟨_,_,u3⟩:=u3)))
 refine qbc u1 λK hK=> ?_
 have hev:a.eval (.tmp 0)= .func (.yield l) #[] #[]:=hB.y
 have M:∀{Q':Exit->Act->Wo->Prop},K (a.put (some 10) (.func (.yield l) #[] #[])) W->m.wpIn (WF none) 0 P a W K Q':=by
  intro Q' hk;unfold Oper.wpIn;rw[qaA _ _ _ (mZ u3)]
  have hrun:(execOp a.eval m).run P W= .ok (.value (.func (.yield l) #[] #[])) W:=by rcases hmv with F|F<;>simp[execOp,F,hev]
  rw[hrun];refine⟨λ_ _=>trivial,?_⟩
  show K (a.put m.dst _) W;rw[u2];exact hk
 refine M (hK _ _ ?_);have hsz:(a.put (some 10) (.func (.yield l) #[] #[])).tmps.size=14:=by simp[Act.put,hB.size]
 have hne:∀t,t≠10->(a.put (some 10) (.func (.yield l) #[] #[])).tmps.getD t undef=a.tmps.getD t undef:=λt i=>xk i
 have h10:(a.put (some 10) (.func (.yield l) #[] #[])).tmps.getD 10 undef= .func (.yield l) #[] #[]:=by simp[Act.put,Qq,qal (show 10<a.tmps.size by rw[hB.size];omega)]
 have hrel:Rel (EB 14 W X hX (λt=>if t=10 then some (.func (.yield l) #[] #[])else uz (.func (.yield l) #[] #[]) t)) (SB (pz s b)) (a.put (some 10) (.func (.yield l) #[] #[])) W (λ_=>undef):=by
  refine yo hX hB.defers hsz (λt v u=> ?_) (λt=> ?_)
  .by_cases k:t=10
   .rw[Qc k]at u;injection u with u;rw[k,h10,u]
   .rw[Qf k]at u;rw[hne t k];exact hB.kt t v u
  .by_cases k:t=10
   .have:pz s b t= .any:=by rw[k];rfl
    rw[this];exact .any _
   .rw[hne t k];exact hB.H5 t
 have H:[o11].mapM (lB P hs ops)=some [⟨some 11,none,.dU (.tmp 2)⟩]:=by simp only[QE,List.mapM_nil,g11,Qh,QK,QN]
 show wpListIn (WF none) 0 P ops Q ([o11]++[N,o13]) _ W;refine EL (E:=EB 14 W X hX _) xp _ _ 0 _ ((SB (pz s b)).bm (some 11) (.int .i64 s) none) _ W _ H hrel (by simp[SB]) (λo ho t i=>⟨T o (by simp only[Qk]at ho ⊢;simp_all) t i,?_⟩) rfl (λa5 W5 L5 J=> ?_)
 .have:=tT (p:=λt=>t≠0/\t≠10) H (by intro g hg t i;simp only[Qk,qac,qag]at hg;subst hg;injection i with i;omega) o ho t i
  show(if t=10 then _ else uz _ t)=none
  rw[Qf this.2];unfold uz;rw[Qf this.1]
 have hfr5:Fr none W W5:=lg J;have v10:a5.tmps.getD 10 undef= .func (.yield l) #[] #[]:=J.size.2 10 _ rfl;have v11:a5.tmps.getD 11 undef= .int .i64 s:=by have:=J.env 11;exact(show aJ _ _ _ (.int .i64 s) _ from this).c4
 have r:BO (.func (.yield l) #[] #[]) s b a5:=⟨J.defers.none rfl,J.size.1,J.size.2 0 _ rfl,(show aJ _ _ _ (.int .i64 s) _ from J.env 2).c4,(show aJ _ _ _ (.bool b) _ from J.env 3).fp⟩
 obtain⟨fn,tmps,assign,body,hy,B⟩:=hr W5 (hJ0 W5 hfr5);obtain⟨w1,w2,w3⟩:=plain g12;obtain⟨gv,args,ts,hop,V,hargs⟩:=C4 w3;have V:=gT V;subst V;obtain⟨x11,xs,ex,hx11,hxs⟩:=da hargs;have:=rZ hxs;subst this;rw[gT hx11]at ex;have D:args=#[.tmp 11]:=by rw[<-QX (xs:=args),ex]
 refine qbc w1 λK hK=> ?_
 unfold Oper.wpIn;rw[qaA _ _ _ (mZ w3)]
 have A:(execOp a5.eval N).run P W5= .ok (.round l fn tmps assign body) W5:=by
  have q1:a5.eval (.tmp 10)= .func (.yield l) #[] #[]:=v10;simp only[execOp,hop,resolve,q1,Deferred.ofValue,Qu,QP,QI,invoke,D];have q4:a5.tmps[11]?.getD undef= .int .i64 s:=by rw[<-Qq];exact v11
  simpa[Act.eval,q4]using hy
 rw[A];refine⟨λ_ _=>trivial,(λh=>by cases h),B.mono ?_⟩
 rintro en W6 hen
 have fin:∀c:Bool,en= .returned (.bool c)->(c=true->J1 W6)->(c=false->Jx W6)->K (a5.put N.dst (.bool c)) W6:=by
  rintro c rfl hj1 hjx;refine hK _ _ ?_;rw[w2];have hsz6:(a5.put (some 12) (.bool c)).tmps.size=14:=by simp[Act.put,r.size]
  have G:∀t,t≠12->(a5.put (some 12) (.bool c)).tmps.getD t undef=a5.tmps.getD t undef:=λt i=>xk i
  have h12:(a5.put (some 12) (.bool c)).tmps.getD 12 undef= .bool c:=by simp[Act.put,Qq,qal (show 12<a5.tmps.size by rw[r.size];omega)]
  have hgi:GI W6:=by
   cases c with
   |true=>exact hG1 _ (hj1 rfl)
   |false=>exact hGx _ (hjx rfl)
  have R:Rel (EB 14 W6 (λ_=>False) (.nil hgi) (uz (.func (.yield l) #[] #[]))) (SB λt=>if t=12 then .bool c else pz s b t) (a5.put (some 12) (.bool c)) W6 (λ_=>undef):=by
   refine yo _ r.defers hsz6 (λt v u=> ?_) (λt=> ?_)
   .by_cases k:t=12
    .subst k;cases u
    .rw[G t k];exact r.kt t v u
   .split
    .rename_i k;rw[k,h12];exact .bool _
    .rename_i k;rw[G t k];exact r.H5 t
  have j:[o13].mapM (lB P hs ops)=some [⟨some 13,none,.not (.tmp 12)⟩]:=by simp only[QE,List.mapM_nil,g13,Qh,QK,QN]
  refine rK (E:=EB 14 W6 (λ_=>False) (.nil hgi) _) xp _ _ 0 _ ((SB λt=>if t=12 then .bool c else pz s b t).bm (some 13) (.bool !c) none) _ W6 _ j R (by simp[SB]) (λo ho t i=>⟨T o (by simp only[Qk]at ho ⊢;simp_all) t i,?_⟩) rfl (λa7 W7 L7 h7=> ?_)
  .have:=tT (p:=λt=>t≠0) j (by intro g hg t i;simp only[Qk,qac,qag]at hg;subst hg;injection i with i;omega) o ho t i
   show uz _ t=none;unfold uz;rw[Qf this]
  .have I:=lg h7;exact hQ a7 W7 c (BO.of h7 rfl rfl) (show aJ _ _ _ (.bool !c) _ from h7.env 13).fp (λhb=>hJ _ _ (hj1 hb) I) (λhb=>hJx _ _ (hjx hb) I)
 rcases hen with⟨rfl,hj⟩|⟨rfl,hj⟩
 .exact fin true rfl (λ_=>hj) (λh=>by cases h)
 .exact fin false rfl (λh=>by cases h) (λ_=>hj)
def NZ{d:FI}{c s:Int}{q:Int×Bool×Unit}(i:Enters P d)(g:ED P d false [] [.int .i64 s,.int .i64 c] (.bP [.int .i64 q.1,.bool q.2.1]) []):
  ∃(Γ:gL) (S':St),fe P Γ/\qn Γ 0 [⟨some 6,none,.dU (.tmp 2)⟩,⟨some 7,none,.call d [.tmp 6,.ik (.int .i64 c)]⟩,⟨some 5,none,.dU (.tmp 7)⟩,⟨some 8,none,.sx 0 (.tmp 5)⟩,⟨some 9,none,.sx 1 (.tmp 5)⟩,⟨some 2,none,.dU (.tmp 8)⟩,⟨some 3,none,.dU (.tmp 9)⟩] (SB (pz s b))=some S'/\S'.env 2= .int .i64 q.1/\S'.env 3= .bool q.2.1:=by
 have e:gA (kK d (je false 0 false false [] [.int .i64 s,.int .i64 c] (.bP [.int .i64 q.1,.bool q.2.1]) [])) 1 ((SB (pz s b)).bm (some 6) (.int .i64 s) none) d [.int .i64 s,.int .i64 c]=some (.bP [.int .i64 q.1,.bool q.2.1],none):=by simp only[gA,mm,je,QQ,QF];rw[Qc ⟨rfl,rfl⟩];rfl
 refine⟨kK d (je false 0 false false [] [.int .i64 s,.int .i64 c] (.bP [.int .i64 q.1,.bool q.2.1]) []),(((((((SB (pz s b)).bm (some 6) (.int .i64 s) none).bm (some 7) (.bP [.int .i64 q.1,.bool q.2.1]) none).bm (some 5) (.bP [.int .i64 q.1,.bool q.2.1]) none).bm (some 8) (.int .i64 q.1) none).bm (some 9) (.bool q.2.1) none).bm (some 2) (.int .i64 q.1) none).bm (some 3) (.bool q.2.1) none,ml ⟨i,λ_ cs o p cs' f=> ?_,(λh=>by cases h),trivial,(λh=>by cases h)⟩,?_,rfl,rfl⟩
 .simp only[je]at f;split at f
  .rename_i l;injection f with f
   injection f with h1 m
   subst h1 m;obtain⟨rfl,rfl⟩:=l;exact g
  .cases f
 .have k:nC (kK d (je false 0 false false [] [.int .i64 s,.int .i64 c] (.bP [.int .i64 q.1,.bool q.2.1]) [])) 0 (SB (pz s b)) ⟨some 6,none,.dU (.tmp 2)⟩=some ((SB (pz s b)).bm (some 6) (.int .i64 s) none):=rfl
  have j:nC (kK d (je false 0 false false [] [.int .i64 s,.int .i64 c] (.bP [.int .i64 q.1,.bool q.2.1]) [])) 1 ((SB (pz s b)).bm (some 6) (.int .i64 s) none) ⟨some 7,none,.call d [.tmp 6,.ik (.int .i64 c)]⟩=some (((SB (pz s b)).bm (some 6) (.int .i64 s) none).bm (some 7) (.bP [.int .i64 q.1,.bool q.2.1]) none):=by
   simp only[nC,SG.wanted,exec];rw[show[aM.tmp 6,aM.ik (.int .i64 c)].map (·.val ((SB (pz s b)).bm (some 6) (.int .i64 s) none))=[.int .i64 s,.int .i64 c]from rfl,e]
   rfl
  simp only[qn,k,j];rfl
def Ni{f R:FI}{c:Int}(hf:dL P f 14 (Ds R c) [])(hen:Enters P R){nx:Int->Y (Int×Bool×Unit)}(hn:∀s q,nx s=some q->ED P R false [] [.int .i64 s,.int .i64 c] (.bP [.int .i64 q.1,.bool q.2.1]) []){l:Nat}
  (J:Nat->Int->Bool->(Nat->Prop)->Wo->Prop) (Jx:Wo->Prop) (H:∀i s b X W,J i s b X W->mU W X) (N:∀i s b X d h,J i s b X d->Fr none d h->J i s b X h) (hJx:∀d h,Jx d->Fr none d h->Jx h) (hGx:∀d,Jx d->GI d)
  (h00:∀s X W,J 0 s true X W->False)
  (hr:∀(m:Nat) (s:Int) (X:Nat->Prop) (d:Wo),J (m+1) s true X d->Kk P l s d λV h=>(V= .returned (.bool true)/\∃q X,nx s=some q/\J m q.1 q.2.1 X h)\/(V= .returned (.bool false)/\Jx h))
  (n0:Nat) (W:Wo) (h0:J n0 0 true X W):CallsIn (WF none) 0 P f #[.func (.yield l) #[] #[]] W λV d=>(∃v,V= .returned v)/\((∃i s X,J i s false X d)\/Jx d):=by
 obtain⟨fn,hs,h1,h2,A,u,_⟩:=hf
 cases M:fn.body with
 |none=>rw[M]at A;cases A
 |some c0=>
 rw[M]at A;have A:ax P 14 hs c0=some (Ds R c):=A
 have D:fn.results.toList=[]:=by
  cases hq:fn.results.toList with
  |nil=>rfl
  |cons r rs=>rw[hq]at u;cases r<;>simp only[gN]at u<;>first|(split at u<;>cases u)|(simp only[Qi]at u;obtain⟨_,_,u⟩:=u;cases u)
 have j:∀(tm:Array Va) (W:Wo),(results fn tm).run P W= .ok (.tuple #[]) W:=by intro tm W;unfold results;rw[qbu,D];simp
 refine callsIn_of_wp (F:=WF none) (n:=0) h1 M trivial ?_;obtain⟨cA,cB,rfl,hA,hB⟩:=js A;obtain⟨cL,rfl,hL⟩:=um hB;obtain⟨cR,rfl,hR⟩:=GR hL;obtain⟨cR1,cR2,rfl,hR1,hR2⟩:=js hR;obtain⟨cT,cC,rfl,hT,hC⟩:=js hR1;obtain⟨oc,cS,cX,rfl,hoc,hcS,hcX⟩:=wN hC;have:=wM hcS;subst this;have:=GS hcX;subst this;have:=gT hoc;subst this;obtain⟨cM,cN,rfl,hM,hN⟩:=js hR2;obtain⟨cM2,rfl,hM2⟩:=um hM;obtain⟨cG,cH,rfl,hG,hH⟩:=js hM2;obtain⟨od,cV,cK,rfl,hod,hcV,hcK⟩:=wN hH;have:=IC hcV;subst this;have:=wM hcK;subst this;have:=gT hod;subst this
 have z:∀t,(#[Value.func (.yield l) #[] #[]]++Array.replicate (fn.ntmps - (#[Value.func (.yield l) #[] #[]]:Array Va).size) undef).getD t undef=if t=0 then .func (.yield l) #[] #[]else undef:=by
  intro t;rw[h2,Qq,qaw]
  match t with
  |0=>rfl
  |t+1=>simp only[List.size_toArray,QV,List.length_nil];rw[Qf O,Qf O,qbb];split<;>rfl
 refine Q8 ?_
 have x:Rel (EB 14 W X (H _ _ _ _ _ h0) (uz (.func (.yield l) #[] #[]))) (SB λ_=> .any) {tmps:=#[Value.func (.yield l) #[] #[]]++Array.replicate (fn.ntmps - (#[Value.func (.yield l) #[] #[]]:Array Va).size) undef,defers:=[]} W (λ_=>undef):=by
  refine yo _ rfl (by simp[h2]) (λt v T=> ?_) (λt=> .any _)
  simp only;rw[z t];unfold uz at T;split at T
  .rename_i e;rw[Qc e];injection T
  .cases T
 have dA:∀g∈[(⟨some 2,none,.dU (.ik (.int .i64 0))⟩:SG),⟨some 3,none,.dU (.ik (.bool true))⟩],∀t,g.d=some t->t≠0:=by intro g p t o;simp only[Qk,qac,qag]at p;rcases p with rfl|rfl<;>(injection o with o;omega)
 refine LF xp hA t_ dA x rfl λa1 W1 L1 r1=> ?_
 have hJ1:J n0 0 true X W1:=N _ _ _ _ _ _ h0 (lg r1);have b1:BO (.func (.yield l) #[] #[]) 0 true a1:=BO.of r1 rfl rfl;refine qaZ ?_;refine qbw (λn a W=>∃s b X,BO (.func (.yield l) #[] #[]) s b a/\J n s b X W) n0 ⟨0,true,X,b1,hJ1⟩ ?_
 rintro n a W ⟨s,b,X,M,hj⟩;refine Q8 (Q8 ?_)
 have dT:∀g∈[(⟨some 4,none,.dU (.tmp 3)⟩:SG)],∀t,g.d=some t->t≠0:=by
  intro g p t o;simp only[Qk,qac,qag]at p;subst p;injection o with o
  omega
 refine LF xp hT t_ dT (M.rel (hX:=H _ _ _ _ _ hj) (λ_=>undef)) rfl λa2 W2 L2 r2=> ?_
 have k:J n s b X W2:=N _ _ _ _ _ _ hj (lg r2);have b2:BO (.func (.yield l) #[] #[]) s b a2:=BO.of r2 rfl rfl;have t4:a2.eval (.tmp 4)= .bool b:=(show aJ _ _ _ (.bool b) _ from r2.env 4).fp
 refine qaO t4 ?_
 cases b with
 |false=>
  refine qaX ?_;simp only[Exit.then,Exit.inBlock,Qp]
  exact⟨b2.defers,_,j _ _,⟨_,rfl⟩,.inl ⟨n,s,X,k⟩⟩
 |true=>
  refine qaW ?_
  cases n with
  |zero=>exact(h00 _ _ _ k).elim
  |succ m=>
  refine Q8 (qaZ (Q8 ?_));refine N4 (J0:=J (m+1) s true X) (J1:=λW=>∃q X,nx s=some q/\J m q.1 q.2.1 X W) (Jx:=Jx) (H _ _ _ _ _ k) (λd hW'=>N _ _ _ _ _ _ k hW') (λ_ _ ⟨q,X',q0,q1⟩ q2=>⟨q,X',q0,N _ _ _ _ _ _ q1 q2⟩) hJx (λd ⟨_,X',_,q⟩=>(H _ _ _ _ _ q).gi) hGx (λd q1=>hr m s X d q1) hG b2 λa3 W3 c3 I t13 hj3 hx3=> ?_
  refine qaO (t:= !c3) t13 ?_
  cases c3 with
  |false=>refine qaY ?_;exact⟨I.defers,_,j _ _,⟨_,rfl⟩,.inr (hx3 rfl)⟩
  |true=>
   refine qaW ?_;obtain⟨q,X',hq,G⟩:=hj3 rfl;obtain⟨Γ,S',hΓ,B,e2,e3⟩:=NZ (b:=true) hen (hn s q hq)
   have dN:∀g∈[(⟨some 6,none,.dU (.tmp 2)⟩:SG),⟨some 7,none,.call R [.tmp 6,.ik (.int .i64 c)]⟩,⟨some 5,none,.dU (.tmp 7)⟩,⟨some 8,none,.sx 0 (.tmp 5)⟩,⟨some 9,none,.sx 1 (.tmp 5)⟩,⟨some 2,none,.dU (.tmp 8)⟩,⟨some 3,none,.dU (.tmp 9)⟩],∀t,g.d=some t->t≠0:=by intro g p t o;simp only[Qk,qac,qag]at p;rcases p with rfl|rfl|rfl|rfl|rfl|rfl|rfl<;>(injection o with o;omega)
   refine LF hΓ hN t_ dN (I.rel (hX:=H _ _ _ _ _ G) (λ_=>undef)) B λa4 W4 L4 r4=> ?_
   exact⟨m,Q7 m,q.1,q.2.1,X',BO.of r4 e2 e3,N _ _ _ _ _ _ G (lg r4)⟩
variable{S:St}
def U5(d:Array Va)(e:Nat)(u:Va):(#[e].zip #[u]).foldl (λtmps x=>match x with|(t,a)=>tmps.setIfInBounds t a) d=d.setIfInBounds e u:=by rw[<-qbo,Array.toList_zip];rfl
def Xg{f:Array Va}{d t:Nat}{u:Va}(g:d<f.size):(f.setIfInBounds d u).getD t undef=if t=d then u else f.getD t undef:=by
 simp only[Qq]
 by_cases q0:t=d
 .subst q0;rw[Qc rfl,qal g];rfl
 .rw[Qf q0,qaP (λe=>q0 e.symm)]
def Vd{nt:Nat}{p0:Nat}{assign body:Code}{f fN:FI}{c:Int}{Q:Exit->St->Prop}(hf:dL P f 14 (Ds fN c) [])(hen:Enters P fN){nx:Int->Y (Int×Bool×Unit)}(hn:∀s q,nx s=some q->ED P fN false [] [.int .i64 s,.int .i64 c] (.bP [.int .i64 q.1,.bool q.2.1]) [])
  (hna:n9 assign=true) (hnb:n9 body=true) (hp0:p0<nt) (I:Nat->Int->Bool->St->Prop) (n0:Nat)
  (h0:Fv (I n0 0 true) (S.jh (eE (.rangeFunc (.func f) #[p0] assign body)))) (h00:∀s T,I 0 s true T->False)
  (hround:∀m s T,I (m+1) s true T->V P nt assign (Cb (V P nt body (LB (eE (.rangeFunc (.func f) #[p0] assign body)) (λT=>∃q,nx s=some q/\I m q.1 q.2.1 T) Q)) (λ_ _=>False)) {T with env:=bd T.env p0 (.int .i64 s)})
  (hend:∀m s T,I m s false T->Q .normal T):V P nt (.rangeFunc (.func f) #[p0] assign body) Q S:=by
 intro E hE M a w L hrel;generalize hD:eE (.rangeFunc (.func f) #[p0] assign body)=D at*;have hk1:∀t∈D,E.kt t=none:=by rw[<-hD];exact M.1
 obtain⟨hrd,hnd,hz⟩:E.rd=none/\E.nd=false/\∀id,E.gn id=none:=by
  rcases M.2 with h|h
  .exact h
  .cases h
 have hDa:∀t∈eE assign,t∈D:=by rw[<-hD];intro t ht;simp only[eE,Qr];exact .inl (.inr ht)
 have hDb:∀t∈eE body,t∈D:=by rw[<-hD];intro t ht;simp only[eE,Qr];exact .inr ht
 have hD0:p0∈D:=by rw[<-hD];simp[eE]
 obtain⟨S0,hw0,h0⟩:=h0;obtain⟨L,hrel0⟩:=hw0 E hz a w L (hrel.drop D);rw[hrd];refine wpIn_rangeFunc ?_;intro fn _;obtain⟨rec,g⟩:∃rec:LoopState->Y Code->Loop,rec=λst pe=>{state:=st,pending:=pe,fn,tmps:=a.tmps,params:=#[p0],assign,body,defers:=w.heap.size}:=⟨_,rfl⟩
 obtain⟨W1,z⟩:∃W1,(w.alloc (.deferred (some []))).alloc (.loop (rec .ready none))=W1:=⟨_,rfl⟩
 have hL1:W1.heap[w.heap.size+1]?=some (.loop (rec .ready none)):=by rw[<-z];have:=World.alloc_heap_new (w.alloc (.deferred (some []))) (.loop (rec .ready none));rwa [World.size_alloc]at this
 have hK1:W1.heap[w.heap.size]?=some (.deferred (some [])):=by rw[<-z];exact(Below.heap_alloc _ _ _ t_).trans (World.alloc_heap_new w _)
 let J:Nat->Int->Bool->(Nat->Prop)->Wo->Prop:=λi s b X W=>∃T L',X=aH E T L'/\I i s b T/\Rel E T a W L'/\W.heap[w.heap.size+1]?=some (.loop (rec .ready none))/\W.heap[w.heap.size]?=some (.deferred (some []))
 let Jx:Wo->Prop:=λW=>∃B j T L',Gx B=some j/\Q B T/\Rel E T a W L'/\W.heap[w.heap.size+1]?=some (.loop (rec .done (some j)))/\W.heap[w.heap.size]?=some (.deferred (some []))
 have grow:∀{T:St} {L':Nat->Va} {r x:Wo},Rel E T a r L'->Fr none r x->Rel E T a x L':=λh hf=>(h.grow hf.os hf.tape hf.output hf.size (λb hb=>hf.block b hb t_) hf.drawn).1
 have bY:∀{r x:Wo} {b:Nat} {o:Obj},Fr none r x->r.heap[b]?=some o->x.heap[b]?=some o:=λhf hb=>by rw[hf.block _ (Qz.1 hb).1 t_];exact hb
 have hE0:E.w0.heap.size<=w.heap.size:=hrel.fr.size;have hEk:E.wk.heap.size<=w.heap.size:=hrel.fr.ko.size
 have hW1s:∀(b:Nat),b<w.heap.size->W1.heap[b]?=w.heap[b]?:=by intro b hb;rw[<-z];exact(Below.heap_alloc _ _ _ o_).trans (Below.heap_alloc _ _ _ hb)
 have hrel1:Rel E S0 a W1 L:=(hrel0.grow (w':=W1) (by rw[<-z];rfl) (by rw[<-z];rfl) (by rw[<-z];rfl) (by rw[<-z];simp;omega) hW1s (by rw[<-z];exact DL.of (Ql _))).1
 have old:∀d∈a.defers,∃Do,d={target:= .collected Do,args:=#[]}/\E.w0.heap.size<=Do/\Do<w.heap.size:=by
  intro d hd;obtain⟨Do,q1,q2,q3⟩:=hrel.defers.at_ d hd
  exact⟨Do,q1,q2,(Qz.1 q3).1⟩
 have hrounds:∀(m:Nat) (s:Int) (X:Nat->Prop) (r:Wo),J (m+1) s true X r->Kk P (w.heap.size+1) s r λB x=>(B= .returned (.bool true)/\∃q X,nx s=some q/\J m q.1 q.2.1 X x)\/(B= .returned (.bool false)/\Jx x):=by
  rintro m s X r ⟨T,L',rfl,hi,k,H,M⟩;refine⟨fn,a.tmps.setIfInBounds p0 (.int .i64 s),assign,body,by rw[run_yield H (by rw[g];rfl)];simp only[g];rw[<-U5],?_⟩
  refine roundIn_of_wpIn (F:=WF none) trivial ?_
  let E1:En:={E with rd:=some (w.heap.size+1),nd:=true,kt:=λt=>if t∈D then none else some (a.tmps.getD t undef),wk:=r}
  have hget:∀t,(a.tmps.setIfInBounds p0 (.int .i64 s)).getD t undef=if t=p0 then .int .i64 s else a.tmps.getD t undef:=by intro t;exact Xg (by rw[k.size.1,hE];exact hp0)
  have hrel2:Rel E1 {T with env:=bd T.env p0 (.int .i64 s)} {tmps:=a.tmps.setIfInBounds p0 (.int .i64 s),defers:=[]} r L':=by
   refine k.qP (some (w.heap.size+1)) true _ r (λ_ _ hb _=>hb) (λt=> ?_) (Marks.nil rfl) ⟨by simp only[qbE];exact k.size.1,λt u hu=> ?_⟩ ⟨k.fr.toFr,s8.refl _⟩
   .simp only;rw[hget t];simp only[bd];split
    .exact .int _ _
    .exact k.env t
   .simp only at hu ⊢;rw[hget t];split at hu
    .cases hu
    .rename_i hnt;injection hu with hu
     rw[Qf (λe:t=p0=>hnt (by rw[e];exact hD0)),hu]
  have hV:=hround m s T hi;have hw1:=hV E1 hE ⟨λt ht=>Qc (hDa t ht),.inr hna⟩ _ r L' hrel2
  refine Q2 hw1 ?_;rintro B a1 w1 ⟨S1,L1,G,hq1⟩
  cases B with
  |exit i|goto i|ret|panic ch|outgrown=>exact hq1.elim
  |normal=>
   have hl1:w1.heap[w.heap.size+1]?=some (.loop (rec .ready none)):=G.fr.ko.same _ _ H rfl;have hd1:a1.defers=[]:=G.defers.none rfl;refine⟨_,run_beginRound hl1 (by rw[g]),?_⟩
   generalize hw2:w1.putObj (w.heap.size+1) (.loop {rec .ready none with state:= .busy})=w2
   have hrec2:({rec .ready none with state:= .busy}:Loop)=rec .busy none:=by rw[g]
   rw[hrec2]at hw2;have hlt1:w.heap.size+1<w1.heap.size:=(Qz.1 hl1).1;have hl2:w2.heap[w.heap.size+1]?=some (.loop (rec .busy none)):=by rw[<-hw2];exact World.putObj_heap_same hlt1
   have hrel3:Rel {E with rd:=some (w.heap.size+1),nd:=true,kt:=λt=>if t∈D then none else some (a.tmps.getD t undef),wk:=w2} S1 a1 w2 L1:=by
    refine G.qP (some (w.heap.size+1)) true _ w2 (by rw[<-hw2];exact qV hl1 rfl _) (λt=>G.env t) (Marks.nil hd1) G.size ⟨?_,s8.refl _⟩
    rw[<-hw2];exact G.fr.toFr.putObj (by show E.w0.heap.size<=_;omega) _
   have hw3:=hq1 {E with rd:=some (w.heap.size+1),nd:=true,kt:=λt=>if t∈D then none else some (a.tmps.getD t undef),wk:=w2} hE ⟨λt ht=>Qc (hDb t ht),.inr hnb⟩ a1 w2 L1 hrel3
   refine Q2 hw3 ?_;rintro B a3 w3 ⟨S3,L3,hr3,hq3⟩;have hl3:w3.heap[w.heap.size+1]?=some (.loop (rec .busy none)):=hr3.fr.ko.same _ _ hl2 rfl;have hlt3:w.heap.size+1<w3.heap.size:=(Qz.1 hl3).1
   have stay:∀(b:Nat) (o:Obj),b≠w.heap.size+1->r.heap[b]?=some o->Nu o=false->∀A,(w3.putObj (w.heap.size+1) A).heap[b]?=some o:=by intro b o hne hb ho A;rw[World.putObj_heap_other hne];refine hr3.fr.ko.same b o ?_ ho;rw[<-hw2,World.putObj_heap_other hne];exact G.fr.ko.same b o hb ho
   have back:∀A,Rel E (S3.jh D) a (w3.putObj (w.heap.size+1) A) L3:=by
    intro A
    have:=hr3.qP (w':=w3.putObj (w.heap.size+1) A) (a':=a) (env':=(S3.jh D).env) E.rd E.nd E.kt E.wk (qV hl3 rfl _) (λt=>by
      show aJ _ _ _ (if t∈D then .any else S3.env t) _
      split
      .exact .any _
      .rename_i hnt;have h4:=hr3.size.2 t (a.tmps.getD t undef) (Qf hnt);rw[<-h4];exact hr3.env t) ⟨k.defers.none,k.defers.nodup,λd hd=>by
      obtain⟨Do,q1,q2,q3⟩:=k.defers.at_ d hd
      obtain⟨Do',q4,_,q6⟩:=old d hd;have:Do=Do':=by rw[q1]at q4;injection q4 with q4;injection q4
      subst this
      exact⟨Do,q1,q2,stay Do _ O q3 rfl _⟩⟩ k.size ⟨hr3.fr.toFr.putObj (by show E.w0.heap.size<=_;omega) _,⟨by rw[World.putObj_size];show E.wk.heap.size<=_;omega,λb o hb ho=>stay b o (by have hb':b<E.wk.heap.size:=(Qz.1 hb).1;omega) (k.fr.ko.same b o hb ho) ho _⟩⟩
    exact this
   have hk3:∀A,(w3.putObj (w.heap.size+1) A).heap[w.heap.size]?=some (.deferred (some [])):=λA=>stay _ _ O M rfl A
   have leave:∀j,Gx B=some j->Q B (S3.jh D)->∃v w',(Instr.endRound (w.heap.size+1) (some j)).run P w3= .ok v w'/\((Ending.returned v= .returned (.bool true)/\∃q X,nx s=some q/\J m q.1 q.2.1 X w')\/(Ending.returned v= .returned (.bool false)/\Jx w')):=by intro j hj hq;refine⟨_,_,run_endRound (some j) hl3,.inr ⟨rfl,B,j,S3.jh D,L3,hj,hq,back _,?_,hk3 _⟩⟩;rw[World.putObj_heap_same hlt3,g];rfl
   cases B with
   |normal=>obtain⟨S5,hw5,q5,hq5,hi5⟩:=hq3;obtain⟨L5,hr5⟩:=hw5 E hz a _ L3 (back _);refine⟨_,_,run_endRound none hl3,.inl ⟨rfl,q5,_,hq5,S5,L5,rfl,hi5,hr5,?_,hk3 _⟩⟩;rw[World.putObj_heap_same hlt3,g];rfl
   |ret|exit i|goto i=>exact leave _ rfl hq3
   |panic ch|outgrown=>exact hq3.elim
 have hcalls:=Ni (P:=P) (l:=w.heap.size+1) hf hen hn J Jx
  (λi s b X W ⟨T,L',hX,hi,k,_,_⟩=>by subst hX;exact k.I4 λb hb=>hb)
  (λi s b X r x ⟨T,L',hX,hi,k,H,M⟩ N=>⟨T,L',hX,hi,grow k N,bY N H,bY N M⟩)
  (λr x ⟨B,j,T,L',h1,h2,k,H,M⟩ N=>⟨B,j,T,L',h1,h2,grow k N,bY N H,bY N M⟩) (λr ⟨B,j,T,L',h1,h2,k,H,M⟩=>k.gi)
  (λs X W ⟨T,L',hX,hi,_⟩=>h00 s T hi) hrounds n0 W1 (X:=aH E S0 L) ⟨S0,L,rfl,h0,hrel1,hL1,hK1⟩
 refine⟨w.heap.size+1,[{target:= .collected w.heap.size,args:=#[]}],W1,{target:= .fn (.func f) #[],args:=#[.func (.yield (w.heap.size+1)) #[] #[]]},W1,f,#[.func (.yield (w.heap.size+1)) #[] #[]],W1,?_,?_,λ_ _=>trivial,?_,(λh=>by cases h),hcalls.mono ?_⟩
 .rw[<-z,g];exact run_enterLoop_outer _ _ _ _ _
 .have h2:(#[]++#[Operand.const (Value.func (Fn.yield (w.heap.size+1)) #[] #[])].map a.eval:Array Va)=#[.func (.yield (w.heap.size+1)) #[] #[]]:=by
   rw[Array.empty_append];simp[Act.eval]
  simp only[resolve,Act.eval,Deferred.ofValue];simp[Act.eval]at h2 ⊢
 .have hen:Enters P f:=hf.enters;simp only[invoke];exact gr hen _
 .rintro B r ⟨⟨v,rfl⟩,hW'⟩
  have marks:∀{T:St} {L':Nat->Va} (A:Obj),Rel E T a r L'->r.heap[w.heap.size+1]?=some A->Bg A=false->r.heap[w.heap.size]?=some (.deferred (some []))->∀o'',Rel E T {a with defers:=[{target:= .collected w.heap.size,args:=#[]}]++a.defers} (r.putObj (w.heap.size+1) o'') L':=by
   intro T L' A k H ho M o'';refine k.qP (env':=T.env) E.rd E.nd E.kt E.wk (qV H ho _) (λt=>k.env t) ⟨(λe=>by rw[hnd]at e;cases e),?_,λd hd=> ?_⟩ k.size ⟨k.fr.toFr.putObj O _,K3 k.fr.ko O _⟩
   .rw[List.singleton_append,List.nodup_cons];refine⟨λhmem=> ?_,k.defers.nodup⟩
    obtain⟨Do,q1,_,q3⟩:=old _ hmem;injection q1 with q1
    injection q1 with q1
    omega
   .rcases Qr.1 hd with hd|hd
    .rw[qae.1 hd];exact⟨_,rfl,hE0,by rw[World.putObj_heap_other O];exact M⟩
    .obtain⟨Do,q1,q2,q3⟩:=k.defers.at_ d hd
     obtain⟨Do',q4,_,q6⟩:=old d hd;have:Do=Do':=by rw[q1]at q4;injection q4 with q4;injection q4
     subst this;exact⟨Do,q1,q2,by rw[World.putObj_heap_other O];exact q3⟩
  rcases hW' with⟨m,s,X,T,L',_,hi,k,H,M⟩|⟨B,j,T,L',hj,hq,k,H,M⟩
  .have R:=run_endLoop (P:=P) H (by rw[g];intro e;cases e)
   exact⟨none,_,by rw[R,g],T,L',marks _ k H rfl M _,hend m s T hi⟩
  .have R:=run_endLoop (P:=P) H (by rw[g];intro e;cases e)
   obtain⟨p,A,hp,hrun⟩:∃p A,p=some j/\(Instr.endLoop (w.heap.size+1)).run P r= .ok p (r.putObj (w.heap.size+1) A):=⟨_,_,by rw[g],R⟩
   subst hp;have hfin:=marks _ k H rfl M A;refine⟨some j,_,hrun,?_⟩
   cases B with
   |ret=>injection hj with hj;subst hj;exact qaY ⟨T,L',hfin,hq⟩
   |exit i=>injection hj with hj;subst hj;exact qaX ⟨T,L',hfin,hq⟩
   |goto i=>injection hj with hj;subst hj;exact wpIn_goto ⟨T,L',hfin,hq⟩
   |normal|panic ch|outgrown=>cases hj
def Uk{nt:Nat}{o:Nat}{x y:SC}{f M:FI}{c:Int}{Q:Exit->St->Prop}(hf:dL P f 14 (Ds M c) [])(H:Enters P M){N:Int->Y (Int×Bool×Unit)}(hn:∀s q,N s=some q->ED P M false [] [.int .i64 s,.int .i64 c] (.bP [.int .i64 q.1,.bool q.2.1]) [])
  (I:Nat->Int->Bool->St->Prop) (R:Nat)
  (h0:Fv (I R 0 true) (S.jh (SC.gq (.rM (.ik (.aQ f [])) [o] x y)))) (J:∀s T,I 0 s true T->False)
  (j:∀m s T,I (m+1) s true T->VS P nt x (Cb (VS P nt y (LB (SC.gq (.rM (.ik (.aQ f [])) [o] x y)) (λT=>∃q,N s=some q/\I m q.1 q.2.1 T) Q)) (λ_ _=>False)) {T with env:=bd T.env o (.int .i64 s)})
  (u:∀m s T,I m s false T->Q .normal T):VS P nt (.rM (.ik (.aQ f [])) [o] x y) Q S:=by
 intro cd hs e;have l:=jG cd _ e
 cases cd with
 |rangeFunc g ps assign body=>
  simp only[ax]at e;split at e
  .rename_i g' x' y' h hx hy;split at e
   .rename_i k;injection e with e
    injection e with e1 e2 e3 e4
    subst e1 e3 e4;simp only[Qa]at k;obtain⟨⟨F,D⟩,r⟩:=k
    have p:ps=#[o]:=by have:=QJ List.toArray e2;simpa using this
    subst p
    have G:g= .func f:=by
     cases g with
     |tmp t=>simp only[aL]at h;injection h with h;cases h
     |const v=>simp only[aL,Qi]at h;obtain⟨z,B,h⟩:=h;injection h with h;subst h;cases v<;>simp only[qU]at B<;>(try split at B)<;>cases B
     |global g=>simp[aL]at h
     |func f=>simp only[aL]at h;injection h with h;injection h with h;injection h with h;rw[h]
    subst G;rw[<-l]at h0 j;simp only[QA,List.all_nil,QU,QB]at r;refine Vd hf H hn F D r I R h0 J (λm s T hi=> ?_) u
    refine(j m s T hi assign hs hx).mono ?_;intro en A V
    cases en with
    |normal=>exact V body hs hy
    |exit i|goto i|ret|panic ch|outgrown=>exact V
   .cases e
  .cases e
 |region id ops d=>cases d<;>simp only[ax]at e<;>(try split at e)<;>(try split at e)<;>(try split at e)<;>cases e
 |seq x y|cond c x y=>simp only[ax]at e;split at e<;>cases e
 |block id c|loop c=>simp only[ax,Qi]at e;obtain⟨_,_,e⟩:=e;cases e
 |_=>simp only[ax]at e<;>cases e
end
end
section
def idx{α:Type}(xs:Z α)(n:Int):Y α:=if 0<=n then xs[n.toNat]? else none
def bp(d n:Nat):Bool:=decide (n*d<=140737488355328)&&decide (n<=maxLen)
def wz{d n:Nat}(h:bp d n=true):n*d<=140737488355328/\n<=maxLen:=by simpa[bp]using h
def Fg{α:Type}{xs:Z α}{n:Int}{v:α}(h:idx xs n=some v):0<=n/\n.toNat<xs.length/\xs[n.toNat]?=some v:=by grind [idx]
section
variable{U:TU}
def Ct:Y Nat->Z (KV U)->Y (KV U)
 |none,cs=>(match cs with|x::_=>some x|[]=>none)
 |some n,cs=>(match Nat.ble n cs.length with|true=>some (.agg (cs.take n))|false=>none)
def zJ(cs:Z (KV U))(d:Nat)(xs:Z (KV U)):Z (KV U):=cs.take d++xs++cs.drop (d+xs.length)
def I0(S:aw U):Z (KV U)->Z (Nat×Nat×aM)->Y (Z (KV U))
 |cs,[]=>some cs
 |cs,(off,n,x)::rest=>
  match Nat.beq (x.bR S).cells.length n&&Nat.ble (off+n) cs.length&&(x.bR S).cells.all KV.one with
  |true=>I0 S (zJ cs off (x.bR S).cells) rest
  |false=>none
def CX(S:aw U)(k:Nat):Z (Z (KV U))->Z (Nat×aM)->Y (Z (Z (KV U)))
 |es,[]=>some es
 |es,(i,x)::rest=>
  match Nat.beq (x.bR S).cells.length k&&Nat.blt i es.length&&(x.bR S).cells.all KV.one with
  |true=>CX S k (es.set i (x.bR S).cells) rest
  |false=>none
def I2(K:TK U)(T:U.Ty):Z (Z (KV U))->Y (Z (U.den T))
 |[]=>some []
 |e::es=>match K.dec T lN e with
  |some v=>(match I2 K T es with|some vs=>some (v::vs)|none=>none)
  |none=>none
def OX{ρ:Type}(op:BinOp)(x y:KV U)(k:KV U->Y ρ):Y ρ:=
 match x,y with
 | .int d a,.int e b=>
  match op with
  | .shl=>if b<0 then none else k (.int d (d.wrap (a*2 ^ (min b.toNat d.bits))))
  | .shr=>if b<0 then none else k (.int d (a.fdiv (2 ^ (min b.toNat d.bits))))
  |_=>if d=e then(match op with
   | .add=>k (.int d (d.wrap (a+b)))
   | .sub=>k (.int d (d.wrap (a - b)))
   | .mul=>k (.int d (d.wrap (a*b)))
   | .quo=>if b=0 then none else k (.int d (d.wrap (a.tdiv b)))
   | .rem=>if b=0 then none else k (.int d (a.tmod b))
   | .and=>k (.int d (d.wrap ((BitVec.ofInt d.bits a&&&BitVec.ofInt d.bits b).toNat)))
   | .or=>k (.int d (d.wrap ((BitVec.ofInt d.bits a|||BitVec.ofInt d.bits b).toNat)))
   | .xor=>k (.int d (d.wrap ((BitVec.ofInt d.bits a^^^BitVec.ofInt d.bits b).toNat)))
   | .andNot=>k (.int d (d.wrap ((BitVec.ofInt d.bits a&&& ~~~ BitVec.ofInt d.bits b).toNat)))
   | .eql=>k (.bool (decide (a=b)))
   | .neq=>k (.bool (!decide (a=b)))
   | .lss=>k (.bool (decide (a<b)))
   | .leq=>k (.bool (decide (a<=b)))
   | .gtr=>k (.bool (decide (b<a)))
   | .geq=>k (.bool (decide (b<=a)))
   |_=>none)else none
 | .str a,.str b=>
  match op with
  | .eql=>k (.bool (decide (a=b)))
  | .neq=>k (.bool (!decide (a=b)))
  | .lss=>k (.bool (mz a b))
  | .leq=>k (.bool (mz a b||decide (a=b)))
  | .gtr=>k (.bool (!(mz a b||decide (a=b))))
  | .geq=>k (.bool (!mz a b))
  |_=>none
 |_,_=>none
def DB:Z LK->Z (KV U)->Z (KV U)->Y Bool
 |[],cs,d=>(match cs,d with|[],[]=>some true|_,_=>none)
 |q::ks,cs,d=>(match q,cs,d with
  | .i,.int k a::cs,.int l b::d=>if k=l then(match DB ks cs d with|some r=>some (decide (a=b)&&r)|none=>none)else none
  | .s,.str a::cs,.str b::d| .b,.bool a::cs,.bool b::d=>(match DB ks cs d with|some r=>some (decide (a=b)&&r)|none=>none)
  |_,_,_=>none)
theorem Bl:∀{ks:Z LK} {cs e:Z (KV U)} {b:Bool},DB ks cs e=some b->ij ks (cs.map KV.pv) (e.map KV.pv)=some b
 |[],cs,e,b,h=>by
  simp[DB]at h;split at h
  .cases h;rfl
  .cases h
 |q::ks,cs,e,b,h=>by
  simp[DB]at h;split at h
  .split at h
   .rename_i f;split at h
    .rename_i r d;injection h with h
     subst h;simp[Qj,KV.pv,ij,Qc f,Bl d,Qn]
    .cases h
   .cases h
  .split at h
   .rename_i r d;injection h with h
    subst h;simp[Qj,KV.pv,ij,Bl d,Qn]
   .cases h
  .split at h
   .rename_i r d;injection h with h
    subst h;simp[Qj,KV.pv,ij,Bl d,Qn]
   .cases h
  .cases h
def aw.Tp(S:aw U)(T:U.Ty)(x:KV U):Y (Z (U.den T)):=J6 S.lk T x
def aw.OF(S:aw U):KV U->Y Nat
 | .cz=>some 0
 | .sl _ xs=>some xs.length
 | .own id ab=>(match S.row? id ab with
  |some r=>some r.xs.length
  |none=>(match S.Ji id ab with|some r=>some r.es.length|none=>none))
 | .view id ab d lo n=>(match S.row? id ab with
  |some r=>(match Nat.beq r.k d with|true=>some ((r.xs.drop lo).take n).length|false=>none)
  |none=>none)
 |_=>none
def zz(S:aw U):Y aM->Int->Y Int
 |none,d=>some d
 |some x,_=>(match x.bR S with| .int _ n=>some n|_=>none)
def eR(l h:Int)(n:Nat):Bool:=decide (0<=l)&&decide (l<=h)&&decide (h<=n)
def bV.cy:bV->Z aM
 | .dU x| .box x| .C7 x| .load _ x| .sw _ x| .not x| .conv _ x| .len _ x| .ug x| .sx _ x| .so _ x
 | .clear _ _ x
 | .Iu _ _ x=>[x]
 | .pick c x y=>[c,x,y]
 | .alloc _=>[]
 | .store _ p x=>[p,x]
 | .build _ ps=>ps.map (·.2.2)
 | .GW _ _ _ _ ps=>ps.map (·.2)
 | .mE _ x i| .uq _ _ x i=>[x,i]
 | .bin _ x y| .ox _ x y| .CY _ _ x y| .GK _ x y| .rX _ x y| .Db _ _ _ _ x y
 =>[x,y]
 | .call _ xs=>xs
 | .jS f xs=>f::xs
 | .bm _ _ _ _ s x=>[s,x]
 | .Ik _ xs| .Il _ xs| .lz _ xs=>xs
 | .Ga _ _ _ _ l c=>[l,c]
 | .B9 _ x lo hi=>x::(lo.toList++hi.toList)
def bV.bJ(op:bV):Bool:=op.cy.all aM.bJ
variable(K:TK U)
def An(T:U.Ty)(d:Nat):Nat->Z (KV U)->Y (Z (U.den T))
 |0,_=>some []
 |n+1,cs=>(match K.dec T lN (cs.take d)with
  |some v=>(match An T d n (cs.drop d)with|some vs=>some (v::vs)|none=>none)
  |none=>none)
def MR(n:Y Nat)(e:Bool)(d:Nat):Bool:=
 match n with
 |none=> !e&&Nat.beq d 1
 |some m=>e&&Nat.beq m d
def EA{T:U.Ty}{e:Nat}:∀{n:Nat} {cs:Z (KV U)} {vs:Z (U.den T)},An K T e n cs=some vs->vs.length=n/\∀(i:Nat) (v:U.den T),vs[i]?=some v->K.dec T lN ((cs.drop (i*e)).take e)=some v
 |0,cs,vs,h=>by
  rw[An]at h;injection h with h
  subst h;exact⟨rfl,λi v d=>by simp at d⟩
 |n+1,cs,vs,h=>by
  rw[An]at h;split at h
  .rename_i m l;split at h
   .rename_i f k;injection h with h
    subst h
    let⟨j,g⟩:=EA k
    refine⟨by rw[QV,j],λi v d=> ?_⟩
    cases i with
    |zero=>simp[List.getElem?_cons_zero,Qb]at d;subst d;simpa using l
    |succ i=>
     have:=g i v (by simpa using d)
     rw[List.drop_drop]at this
     rwa [Nat.succ_mul,qav]
   .cases h
  .cases h
def MN{ρ:Type}(z:Bool)(id ab e d:Nat)(T:U.Ty)(xs:Z (U.den T))(k:KV U->Y (Nat×bx U)->Y ρ):Y ρ:=
 match z with
 |false=>k (.own id ab) (some (id,⟨ab,.row e d T xs⟩))
 |true=>k (.sl T xs) (some (id,⟨ab,.dead⟩))
def GV{α:Type}(f:α->Y UInt8):Z α->Y (Z UInt8)
 |[]=>some []
 |x::l=>(match f x,GV f l with
  |some b,some d=>some (b::d)
  |_,_=>none)
def MI:Z (KV U)->Y UInt8
 |[.int .u8 n]=>byteOf n
 |_=>none
def OL:PV->Bool
 | .int .i64 (.ofNat 0)=>true
 |_=>false
def OJ:PV->Bool
 | .str s=>Nat.beq s.size 0
 |_=>false
def Oy{ρ:Type}(q:PQ)(xs:Z (KV U))(k:KV U->Y ρ):Y ρ:=
 match q,xs with
 | .Cc,[.str a,.str b]=>(Cc a b).bind λv=>k (.str v)
 | .iY true false,[.str s,.int _ l]=>(iY s l s.size).bind λv=>k (.str v)
 | .iY false true,[.str s,.int _ h]=>(iY s 0 h).bind λv=>k (.str v)
 | .iY true true,[.str s,.int _ l,.int _ h]=>(iY s l h).bind λv=>k (.str v)
 | .PT,[.sl T xs]=>(GV (λv=>MI (K.dI T v)) xs).bind λl=>k (.str ⟨l.toArray⟩)
 | .Nr T,[.int d n]=>k (.fF T (.int d n))
 | .Nr T,[.str s]=>k (.fF T (.str s))
 | .KN T z,[.J3 f e b n s]=>(match Nat.beq T f&&OL z,Nat.beq T e&&OJ z,Nat.beq f e with
  |true,_,false=>k (.bP [.int .i64 (cond b 0 n),.bool (!b)])
  |false,true,false=>k (.bP [.str (cond b s ⟨#[]⟩),.bool b])
  |_,_,_=>none)
 | .CN neg,[.jd b]=>k (.bool (xor neg b))
 | .CN neg,[.fF ..]=>k (.bool neg)
 | .neg,[.int d n]=>k (.int d (d.wrap (0 - n)))
 | .PA,[]=>k .any
 |_,_=>none
def dR{ρ:Type}(Γ:Z (bS U))(nid:Nat)(S:aw U)(op:bV)(k:KV U->Y (Nat×bx U)->Y ρ):Y ρ:=
 match op with
 | .dU x=>k (x.bR S) none
 | .pick c x y=>(match c.bR S with
  | .bool b=>(match b with|true=>k (x.bR S) none|false=>k (y.bR S) none)
  |_=>none)
 | .box x=>(match(x.bR S).cells.all KV.one with
  |true=>k (.ptr nid ((S.H nid).ab+1) 0) (some (nid,⟨(S.H nid).ab+1,.box (x.bR S).cells⟩))
  |false=>none)
 | .C7 x=>(match(x.bR S).cells.all KV.one&&(x.bR S).cells.all KV.closed with
  |true=>k (.ref (x.bR S).cells) none
  |false=>none)
 | .alloc z=>(match z.all PV.bJ with
  |true=>k (.ptr nid ((S.H nid).ab+1) 0) (some (nid,⟨(S.H nid).ab+1,.box (z.map KV.BE)⟩))
  |false=>none)
 | .load n p=>(match p.bR S with
  | .ptr id ab off=>(match S.nn id ab with
   |some cs=>(match Ct n (cs.drop off)with|some x=>k x none|none=>none)
   |none=>none)
  | .ct id ab g i off=>(match S.row? id ab with
   |some r=>(match Nat.beq g r.k with
    |true=>(r.xs[i]?).bind λv=>(match Ct n ((K.dI r.T v).drop off)with|some x=>k x none|none=>none)
    |false=>none)
   |none=>(match S.Ji id ab with
    |some r=>(match Nat.beq g r.k with
     |true=>(match r.es[i]? with
      |some c=>(match Ct n (c.drop off)with|some x=>k x none|none=>none)
      |none=>none)
     |false=>none)
    |none=>none))
  | .ref cs=>(match Ct n cs with|some x=>k x none|none=>none)
  |_=>none)
 | .store n p x=>(match Nat.beq (x.bR S).cells.length n&&(x.bR S).cells.all KV.one with
  |true=>(match p.bR S with
   | .ptr id ab off=>(match S.nn id ab with
    |some cs=>(match Nat.ble (off+n) cs.length with
     |true=>k .undef (some (id,⟨ab,.box (zJ cs off (x.bR S).cells)⟩))
     |false=>none)
    |none=>none)
   | .ct id ab g i off=>(match S.row? id ab with
    |some r=>(match Nat.beq g r.k&&Nat.beq (U.size r.T) r.k&&Nat.ble (off+n) (U.size r.T)with
     |true=>(r.xs[i]?).bind λv=>(match K.dec r.T lN (zJ (K.dI r.T v) off (x.bR S).cells)with
      |some v'=>k .undef (some (id,⟨ab,.row r.e r.k r.T (r.xs.set i v')⟩))
      |none=>none)
     |false=>none)
    |none=>none)
   |_=>none)
  |false=>none)
 | .build z ps=>(match z.all PV.bJ with
  |true=>(match I0 S (z.map KV.BE) ps with|some cs=>k (.agg cs) none|none=>none)
  |false=>none)
 | .GW m e g z ps=>(match K.I8 e with
  |some T=>(match Nat.beq (U.size T) g&&z.all (λu=>u.all PV.bJ)with
   |true=>(match CX S g (z.map λu=>u.map KV.BE) ps with
    |some es=>(match I2 K T es with
     |some vs=>(match m with
      |false=>k (.sl T vs) none
      |true=>k (.own nid ((S.H nid).ab+1)) (some (nid,⟨(S.H nid).ab+1,.row e g T vs⟩)))
     |none=>none)
    |none=>none)
   |false=>none)
  |none=>(match m&&z.all (λu=>u.all PV.bJ)with
   |true=>(match CX S g (z.map λu=>u.map KV.BE) ps with
    |some es=>(match es.all (λc=>c.all KV.IY)with
     |true=>k (.own nid ((S.H nid).ab+1)) (some (nid,⟨(S.H nid).ab+1,.raw e g es⟩))
     |false=>none)
    |none=>none)
   |false=>none))
 | .sw off p=>(match p.bR S with
  | .ptr id ab o=>(match S.nn id ab with|some _=>k (.ptr id ab (o+off)) none|none=>none)
  | .ct id ab g i o=>(match S.row? id ab with|some r=>(r.xs[i]?).bind λ_=>k (.ct id ab g i (o+off)) none|none=>none)
  | .ref cs=>k (.ref (cs.drop off)) none
  |_=>none)
 | .mE g x i=>(match i.bR S with
  | .int _ n=>(match x.bR S with
   | .sl T xs=>(match Nat.beq (U.size T) g with
    |true=>(idx xs n).bind λv=>k (.ref (K.dI T v)) none
    |false=>none)
   | .own id ab=>(match S.row? id ab with
    |some r=>(match Nat.beq g r.k with
     |true=>(idx r.xs n).bind λ_=>k (.ct id ab g n.toNat 0) none
     |false=>none)
    |none=>(match S.Ji id ab with
     |some r=>(match n with
      | .ofNat j=>(match Nat.beq g r.k&&Nat.blt j r.es.length with
       |true=>k (.ct id ab g j 0) none
       |false=>none)
      |_=>none)
     |none=>none))
   | .view id ab A lo m=>(match S.row? id ab with
    |some r=>(match Nat.beq g r.k&&Nat.beq A g with
     |true=>(idx ((r.xs.drop lo).take m) n).bind λ_=>k (.ct id ab g (lo+n.toNat) 0) none
     |false=>none)
    |none=>none)
   |_=>none)
  |_=>none)
 | .bin op x y=>OX op (x.bR S) (y.bR S) λv=>k v none
 | .ox neg x y=>(match x.bR S,y.bR S with
  | .agg [.int F a,.str s],.agg [.int D b,.str t]=>if F=D then k (.bool (xor neg (decide (a=b)&&decide (s=t)))) none else none
  |_,_=>none)
 | .CY neg ks x y=>(match x.bR S,y.bR S with
  | .agg cs,.agg J=>(match DB ks cs J with|some b=>k (.bool (xor neg b)) none|none=>none)
  |_,_=>none)
 | .Iu n off x=>(match x.bR S with
  | .agg cs=>(match Ct n (cs.drop off)with|some v=>k v none|none=>none)
  |_=>none)
 | .lz q xs=>Oy K q (xs.map (·.bR S)) λv=>k v none
 | .GK neg x y=>(match x.bR S,y.bR S with
  | .bool a,.bool b=>k (.bool (xor neg (decide (a=b)))) none
  |_,_=>none)
 | .not x=>(match x.bR S with| .bool b=>k (.bool !b) none|_=>none)
 | .conv F x=>(match x.bR S with| .int _ n=>k (.int F (F.wrap n)) none|_=>none)
 | .len true x=>(match x.bR S with| .str s=>k (.int .i64 s.size) none|_=>none)
 | .len false x=>(match S.OF (x.bR S)with|some n=>k (.int .i64 n) none|none=>none)
 | .call f xs=>fq K nid S f (xs.map (·.bR S)) k Γ
 | .jS I xs=>(match I.bR S with
  | .aQ f B=>fq K nid S f (xs.map (·.bR S)++B) k Γ
  | .ff f first=>fq K nid S f (first++xs.map (·.bR S)) k Γ
  |_=>none)
 | .bm z e g bytes s x=>(match K.I8 e with
  |some T=>(match Nat.beq (U.size T) g with
   |true=>(match S.Tp T (x.bR S)with
    |some news=>(match s.bR S with
     | .cz=>bif bp bytes news.length then MN z nid ((S.H nid).ab+1) e g T news k else none
     | .own id ab=>(match S.row? id ab with
      |some r=>(match Nat.beq r.e e&&Nat.beq r.k g with
       |true=>(match uo r.T T r.xs with
        |some xs=>bif bp bytes (xs.length+news.length)then MN z id (ab+1) e g T (xs++news) k else none
        |none=>none)
       |false=>none)
      |none=>none)
     |_=>none)
    |none=>none)
   |false=>none)
  |none=>none)
 | .ug x=>(match x.bR S with
  | .ptr id ab off=>(match S.nn id ab with|some _=>k (.ptr id ab off) none|none=>none)
  | .ct id ab g i o=>(match S.row? id ab with|some r=>(r.xs[i]?).bind λ_=>k (.ct id ab g i o) none|none=>none)
  | .ref cs=>k (.ref cs) none
  | .aQ f cs=>k (.aQ f cs) none
  |_=>none)
 | .sx i x=>(match x.bR S with
  | .bP cs=>(match cs[i]? with|some y=>k y none|none=>none)
  |_=>none)
 | .Ik f B=>k (.aQ f (B.map (·.bR S))) none
 | .Il f first=>k (.ff f (first.map (·.bR S))) none
 | .Ga e g bytes z l c=>(match K.I8 e with
  |some T=>(match Nat.beq (U.size T) g&&z.all PV.bJ with
   |true=>(match K.dec T lN (z.map KV.BE)with
    |some d=>(match l.bR S,c.bR S with
     | .int _ n,.int _ m=>bif decide (n<=m)&&decide (0<=n)&&bp bytes m.toNat then k (.own nid ((S.H nid).ab+1)) (some (nid,⟨(S.H nid).ab+1,.row e g T (replicate n.toNat d)⟩))else none
     |_,_=>none)
    |none=>none)
   |false=>none)
  |none=>none)
 | .B9 g x lo hi=>(match x.bR S with
  | .sl T xs=>(match Nat.beq (U.size T) g with
   |true=>(match zz S lo 0,zz S hi xs.length with
    |some l,some h=>bif eR l h xs.length then k (.sl T ((xs.take h.toNat).drop l.toNat)) none else none
    |_,_=>none)
   |false=>none)
  | .own id ab=>(match S.row? id ab with
   |some r=>(match Nat.beq g r.k with
    |true=>(match zz S lo 0,zz S hi r.xs.length with
     |some l,some h=>bif eR l h r.xs.length then k (.view id ab g l.toNat (h.toNat - l.toNat)) none else none
     |_,_=>none)
    |false=>none)
   |none=>none)
  | .view id ab A G H=>(match S.row? id ab with
   |some r=>(match Nat.beq g r.k&&Nat.beq A g with
    |true=>(match zz S lo 0,zz S hi H with
     |some l,some h=>bif eR l h H then k (.view id ab g (G+l.toNat) (h.toNat - l.toNat)) none else none
     |_,_=>none)
    |false=>none)
   |none=>none)
  |_=>none)
 | .Db e n len g x i=>(match x.bR S,i.bR S with
  | .agg cs,.int _ j=>(match K.I8 e with
   |some T=>(match Nat.beq (U.size T) g&&MR n (U.agg T) g with
    |true=>(match An K T g len cs with
     |some vs=>(idx vs j).bind λv=>k (tu K T v) none
     |none=>none)
    |false=>none)
   |none=>none)
  |_,_=>none)
 | .clear g z x=>(match x.bR S with
  | .view id ab A lo n=>(match S.row? id ab with
   |some r=>(match Nat.beq g r.k&&Nat.beq A g&&Nat.beq (U.size r.T) g&&z.all PV.bJ&&Nat.beq z.length g&&(z.map (KV.BE:PV->KV U)).all KV.one with
    |true=>(match K.dec r.T lN (z.map KV.BE)with
     |some d=>k (.bP []) (some (id,⟨ab,.row r.e r.k r.T (r.xs.take lo++replicate n d++r.xs.drop (lo+n))⟩))
     |none=>none)
    |false=>none)
   |none=>none)
  |_=>none)
 | .rX mx x y=>(match x.bR S,y.bR S with
  | .int F a,.int D b=>if F=D then k (.int F (if mx then(if b>a then b else a)else(if b<a then b else a))) none else none
  |_,_=>none)
 | .so neg x=>(match x.bR S with
  | .cz=>k (.bool !neg) none
  | .sl _ xs=>bif xs.isEmpty then k .dP none else k (.bool neg) none
  |_=>none)
 | .uq g len x i=>(match i.bR S with
  | .int _ (.ofNat n)=>(match Nat.blt n len with
   |true=>(match x.bR S with
    | .ptr id ab o=>(match S.nn id ab with|some _=>k (.ptr id ab (o+n*g)) none|none=>none)
    | .ref cs=>k (.ref (cs.drop (n*g))) none
    |_=>none)
   |false=>none)
  |_=>none)
variable{K}
variable{S:aw U}
def pN{id ab:Nat}{cs:Z (KV U)}(h:S.nn id ab=some cs):(S.st.H id).ab=ab/\(S.st.H id).c= .box (cs.map KV.pv):=by
 let⟨h1,d⟩:=uR h
 grind [aw.st,bx.pv,cp.pv]
theorem w7:∀{n:Y Nat} {cs:Z (KV U)} {x:KV U},Ct n cs=some x->nH n (cs.map KV.pv)=some x.pv
 |none,[],x,h=>by cases h
 |none,y::l,x,h=>by cases h;rfl
 |some n,cs,x,h=>by
  simp[Ct]at h;split at h
  .rename_i d;injection h with h
   subst h;rw[nH,Qc (by simpa using Qm d),KV.pv,KV.bT,List.map_take]
  .cases h
theorem B8(cs xs:Z (KV U))(d:Nat):(zJ cs d xs).map KV.pv=eL (cs.map KV.pv) d (xs.map KV.pv):=by simp[zJ,eL,List.map_append,List.map_take,List.map_drop]
def SV(S:aw U){x:PV}(h:x.bJ=true):(KV.BE x:KV U).pv=x:=(mY (S:=S) (x:= .ik x) h).symm
def tD{z:Z PV}(S:aw U)(h:z.all PV.bJ=true):(z.map (KV.BE:PV->KV U)).map KV.pv=z:=by
 induction z with
 |nil=>rfl
 |cons x l d=>rw[QA,Qa]at h;rw[Qj,Qj,SV S h.1,d h.2]
def JX:∀{ps:Z (Nat×Nat×aM)} {cs cs':Z (KV U)},(∀p∈ps,p.2.2.bJ=true)->I0 S cs ps=some cs'->lS S.st (cs.map KV.pv) ps=some (cs'.map KV.pv)
 |[],cs,cs',_,h=>by cases h;rfl
 |(off,n,x)::ps,cs,cs',f,h=>by
  simp[I0]at h;split at h
  .rename_i g;simp only[Qa]at g;obtain⟨⟨e,d⟩,j⟩:=g;have e:=Qg e;have d:=Qm d;rw[lS,mY (f _ Qy),qC,oZ,Qc ⟨by simpa using e,by simpa using d,j⟩,<-B8]
   exact JX (λp i=>f p (QC _ i)) h
  .cases h
def CW{j:Nat}:∀{ps:Z (Nat×aM)} {es d:Z (Z (KV U))},(∀p∈ps,p.2.bJ=true)->CX S j es ps=some d->ow S.st j (es.map λe=>e.map KV.pv) ps=some (d.map λe=>e.map KV.pv)
 |[],es,d,_,h=>by cases h;rfl
 |(i,x)::ps,es,d,k,h=>by
  simp[CX]at h;split at h
  .rename_i l;simp only[Qa]at l;obtain⟨⟨g,f⟩,o⟩:=l;have g:=Qg g;have f:i<es.length:=Qm f;rw[ow,mY (k _ Qy),qC,oZ,Qc ⟨by simpa using g,by simpa using f,o⟩,<-List.map_set]
   exact CW (λp m=>k p (QC _ m)) h
  .cases h
def J7{T:U.Ty}:∀{es:Z (Z (KV U))} {vs:Z (U.den T)},I2 K T es=some vs->xo (es.map λe=>e.map KV.pv)=vs.map (U.pv T)/\(es.map λe=>e.map KV.pv).all (λu=>u.all PV.closed)=true
 |[],vs,h=>by cases h;exact⟨rfl,rfl⟩
 |e::es,vs,h=>by
  rw[I2]at h;split at h
  .rename_i v g;split at h
   .rename_i f d;injection h with h
    subst h
    let⟨h1,k⟩:=J7 d
    let⟨j,i⟩:=oz (K.iP _ _ _ _ g)
    refine⟨?_,?_⟩
    .rw[Qj,Qj,<-h1,<-j];rfl
    .rw[Qj,QA,kE,i,k];rfl
   .cases h
  .cases h
def JN{y:PV}(h:y.ep=true):y.one=true:=by cases y<;>first|rfl|cases h
def K4(T:U.Ty)(vs:Z (U.den T)){d:Nat}(g:U.size T=d)(K:TK U):(vs.map (U.pv T)).all (λu=>u.length==d&&u.all PV.one)=true:=by
 refine Qe.2 λu f=> ?_
 obtain⟨v,_,rfl⟩:=Qs.1 f;rw[K.len,g,Qe.2 λy e=>JN (K.ep T v y e)]
 simp
def Tn{T:U.Ty}{x:KV U}{vs:Z (U.den T)}(h:S.Tp T x=some vs):gQ S.st x.pv=some (vs.map (U.pv T)):=by
 unfold aw.Tp J6 at h;split at h
 .cases h;rfl
 .obtain⟨e,rfl⟩:=ji h;subst e;rfl
 .rename_i id ab
  let⟨g,e,k,i⟩:=K6 h
  have f:(S.st.H id).c= .row e k (vs.map (U.pv T)):=by simp[aw.st,bx.pv,i,cp.pv]
  have d:(S.st.H id).ab=ab:=g;rw[KV.pv,gQ,Qc d,f]
 .cases h
def ID{T:U.Ty}:∀{xs:Z (U.den T)} {l:Z UInt8},GV (λv=>MI (K.dI T v)) xs=some l->bytesOf (xs.map (U.pv T))=some l
 |[],l,h=>h
 |x::xs,l,h=>by
  simp only[GV]at h;split at h
  .rename_i b g d e;injection h with h
   subst h;unfold MI at d;split at d
   .rename_i n f;have:=K.lT T x;rw[f]at this;simp only[Qj,QD,KV.pv]at this;simp only[Qj,<-this,bytesOf,d,ID e]
   .cases d
  .cases h
def Rl{z:PV}(h:OL z=true):z= .int .i64 0:=by
 unfold OL at h;split at h
 .rfl
 .cases h
def Rk{z:PV}(h:OJ z=true):z= .str ⟨#[]⟩:=by
 unfold OJ at h;split at h
 .rename_i s;have h:=Qg h;congr 1;exact ByteArray.ext (qa7 h)
 .cases h
def Rb{ρ:Type}{q:PQ}{xs:Z (KV U)}{k:KV U->Y ρ}{r:ρ}(h:Oy K q xs k=some r):∃v,jg q (xs.map KV.pv)=some v.pv/\k v=some r:=by
 unfold Oy at h;split at h
 .simp only[Qd]at h;obtain⟨v,d,h⟩:=h;exact⟨_,by simp only[Qj,QD,KV.pv,jg,d,Qn],h⟩
 .simp only[Qd]at h;obtain⟨v,d,h⟩:=h;exact⟨_,by simp only[Qj,QD,KV.pv,jg,d,Qn],h⟩
 .simp only[Qd]at h;obtain⟨v,d,h⟩:=h;exact⟨_,by simp only[Qj,QD,KV.pv,jg,d,Qn],h⟩
 .simp only[Qd]at h;obtain⟨v,d,h⟩:=h;exact⟨_,by simp only[Qj,QD,KV.pv,jg,d,Qn],h⟩
 .simp only[Qd]at h;obtain⟨v,d,h⟩:=h;exact⟨_,by simp only[Qj,QD,KV.pv,jg,ID d,Qn],h⟩
 .exact⟨_,by simp[KV.pv,jg,PV.plain,PV.one],h⟩
 .exact⟨_,by simp[KV.pv,jg,PV.plain,PV.one],h⟩
 .rename_i T z m l b n s;split at h
  .rename_i e f;rw[Qa]at e;have j:=Qg e.1;have i:=Rl e.2;have g:=qaE f;subst j i;refine⟨_,?_,h⟩;cases b<;>simp[KV.pv,KV.yp,jg,Ne.symm g]
  .rename_i _ e f;rw[Qa]at e;have j:=Qg e.1;have i:=Rk e.2;have g:=qaE f;subst j i;refine⟨_,?_,h⟩;cases b<;>simp[KV.pv,KV.yp,jg,g]
  .cases h
 .exact⟨_,rfl,h⟩
 .exact⟨_,rfl,h⟩
 .exact⟨_,rfl,h⟩
 .exact⟨_,rfl,h⟩
 .cases h
theorem Rj{x:KV U}{n:Nat}(h:S.OF x=some n):∃es,gQ S.st x.pv=some es/\es.length=n:=by
 unfold aw.OF at h;split at h
 .injection h with h;exact⟨[],rfl,h⟩
 .rename_i T xs;injection h with h;exact⟨xs.map (U.pv T),rfl,by simpa using h⟩
 .rename_i id ab;split at h
  .rename_i r e
   let⟨d,f⟩:=jC e
   injection h with h
   refine⟨r.xs.map (U.pv r.T),?_,by simpa using h⟩
   rw[KV.pv,gQ,Qc d,f]
  .split at h
   .rename_i r e
    let⟨d,f⟩:=Jh e
    injection h with h
    refine⟨r.es.map λc=>c.map KV.pv,?_,by simpa using h⟩
    rw[KV.pv,gQ,Qc d,f]
   .cases h
 .rename_i id ab i lo m;split at h
  .rename_i r e
   let⟨d,f⟩:=jC e
   split at h
   .rename_i g;injection h with h
    refine⟨((r.xs.drop lo).take m).map (U.pv r.T),?_,by rw[Qw];exact h⟩
    rw[KV.pv,gQ,Qc d,f];simp only;rw[Qc (Qg g),List.map_take,List.map_drop]
   .cases h
  .cases h
 .cases h
def F2{l:Z aM}{y:Y aM}{d n:Int}(hi1:∀(y:aM) (d n:Int),y∈l->zz S (some y) d=some n->∃e,y.val S.st= .int e n)(f:∀z,y=some z->z∈l)(h:zz S y d=some n):nc S.st y d=some n:=by
 cases y with
 |none=>exact h
 |some z=>grind [nc]
theorem AX{xs:Z aM}(h:∀x∈xs,x.bJ=true):xs.map (·.val S.st)=(xs.map (·.bR S)).map KV.pv:=by rw[List.map_map];exact QW λx d=>mY (h x d)
def RP{ρ:Type}{op:BinOp}{x y:KV U}{k:KV U->Y ρ}{r:ρ}(h:OX op x y k=some r):∃v:KV U,DD op x.pv y.pv=some v.pv/\k v=some r:=by
 unfold OX at h;split at h
 .rename_i g a e b;cases op<;>simp only at h<;>simp only[KV.pv,DD,C9]<;>
  first
  |(
    split at h
    .cases h
    .rename_i d;exact⟨_,by rw[Qf d];rfl,h⟩)
  |(
    split at h
    .rename_i d;rw[Qc d]
     first
     |exact⟨_,rfl,h⟩
     |(
       split at h
       .cases h
       .rename_i f;exact⟨_,by rw[Qf f];rfl,h⟩)
     |cases h
    .cases h)
 .rename_i a b;cases op<;>simp only at h<;>simp only[KV.pv,DD,GX]<;>first|exact⟨_,rfl,h⟩|cases h
 .cases h
def Kh(K:TK U){ρ:Type}{z:Bool}{id ab e d:Nat}{T:U.Ty}{xs:Z (U.den T)}{k:KV U->Y (Nat×bx U)->Y ρ}{r:ρ}(h:MN z id ab e d T xs k=some r):
  ∃x wr,Da z id ab e d (xs.map (U.pv T))=some (x.pv,wr.map eZ)/\k x wr=some r:=by
 cases z with
 |false=>exact⟨_,_,rfl,h⟩
 |true=>
  refine⟨_,_,?_,h⟩;simp only[Da];rw[Qc]
  .rfl
  .refine Qe.2 λu g=> ?_
   obtain⟨x,_,rfl⟩:=Qs.1 g;exact Qe.2 λy f=>ei (K.ep _ _ _ f)
def KJ{P:Pr}{ρ:Type}{Γ:Z (bS U)}{nid:Nat}{op:bV}{k:KV U->Y (Nat×bx U)->Y ρ}{r:ρ}(hΓ:jo P Γ)(ho:op.bJ=true)(h:dR K Γ nid S op k=some r):
  ∃V x wr,fe P V/\exec V nid S.st op=some (x.pv,wr.map eZ)/\k x wr=some r:=by
 have t:∀x∈op.cy,x.val S.st=(x.bR S).pv:=λx F=>mY (Qe.1 ho x F)
 have hoc:∀x∈op.cy,x.bJ=true:=λx F=>Qe.1 ho x F
 have pure:∀{x:KV U} {wr:Y (Nat×bx U)},exec (λ_=>none) nid S.st op=some (x.pv,wr.map eZ)->k x wr=some r->∃V x wr,fe P V/\exec V nid S.st op=some (x.pv,wr.map eZ)/\k x wr=some r:=
  λ{x wr} g D=>⟨λ_=>none,x,wr,λf m hm=>(by cases hm),g,D⟩
 cases op with
 |dU x=>
  have g:=t x (by simp[bV.cy])
  exact pure (by rw[exec,g];rfl) h
 |pick c x y|rX mx x y=>grind [bV.cy,dR,exec,KV.pv]
 |box x=>
  have g:=t x (by simp[bV.cy])
  simp only[dR]at h;split at h
  .rename_i B;refine pure ?_ h;rw[exec,g,qC,oZ,Qc B];rfl
  .cases h
 |C7 x=>
  have g:=t x (by simp[bV.cy])
  simp only[dR]at h;split at h
  .grind [exec,qC,oZ,kE,KV.pv,KV.bT]
  .cases h
 |alloc z=>
  simp only[dR]at h;split at h
  .rename_i B;refine pure ?_ h;simp only[exec,Qn,eZ,bx.pv,cp.pv,tD S B];rfl
  .cases h
 |load n p=>
  have g:=t p (by simp[bV.cy])
  simp only[dR]at h;split at h
  .rename_i id ab off H;rw[H]at g;split at h
   .rename_i cs B;obtain⟨D,G⟩:=pN B;split at h
    .rename_i x F;refine pure ?_ h;have:=w7 F;rw[List.map_drop]at this
     grind [exec,KV.pv]
    .cases h
   .cases h
  .rename_i id ab kk i off H;rw[H]at g;split at h
   .rename_i N B;obtain⟨D,G⟩:=jC B;split at h
    .rename_i A;simp only[Qd]at h;obtain⟨v,hv,h⟩:=h;split at h
     .rename_i x F;refine pure ?_ h;have:=w7 F;rw[List.map_drop,K.lT]at this;rw[exec,g];simp only[KV.pv];rw[Qc D,G];simp only[Qg A,Qp,Qt,hv,Qn,this,Q4]
     .cases h
    .cases h
   .split at h
    .rename_i N B;obtain⟨D,G⟩:=Jh B;split at h
     .rename_i A;split at h
      .rename_i c hc;split at h
       .rename_i x F;refine pure ?_ h;have:=w7 F;rw[List.map_drop]at this;rw[exec,g];simp only[KV.pv];rw[Qc D,G];simp only[Qg A,Qp,Qt,hc,Qn,this,Q4]
       .cases h
      .cases h
     .cases h
    .cases h
  .grind [exec,KV.pv,KV.bT,w7]
  .cases h
 |store n p x=>
  have g:=t p (by simp[bV.cy])
  have D:=t x (by simp[bV.cy])
  simp only[dR]at h;split at h
  .rename_i hc;rw[Qa]at hc;have R:=Qg hc.1
   have hc1:(x.val S.st).cells.length=n/\(x.val S.st).cells.all PV.one=true:=by grind [qC,oZ]
   split at h
   .rename_i id ab off H;rw[H]at g;split at h
    .rename_i cs B;obtain⟨G,I⟩:=pN B;split at h
     .rename_i hle;refine pure ?_ h;rw[exec,Qc hc1,g];simp only[KV.pv];rw[Qc G,I];simp only[Qw];rw[Qc (Qm hle),D,qC]
      grind [eZ,bx.pv,cp.pv,B8]
     .cases h
    .cases h
   .rename_i id ab kk i off H;rw[H]at g;split at h
    .rename_i N B;obtain⟨G,I⟩:=jC B;split at h
     .rename_i A;simp only[Qa]at A;obtain⟨⟨hk1,hk2⟩,hk3⟩:=A;have hk1:=Qg hk1;have hk2:=Qg hk2;have hk3:=Qm hk3;simp only[Qd]at h;obtain⟨v,hv,h⟩:=h;split at h
      .rename_i v' hd;refine pure ?_ h;obtain⟨h5,_⟩:=oz (K.iP _ _ _ _ hd);rw[B8,K.lT]at h5
       have h6:eL (U.pv N.T v) off (((x.bR S).cells.map KV.pv).map nz)=U.pv N.T v':=by
        rw[<-h5]
        have hnz:(U.pv N.T v).map nz=U.pv N.T v:=by
         refine(QW λy M=> ?_).trans (List.map_id _)
         have:=K.ep _ _ _ M;cases y<;>first|rfl|cases this
        simp only[eL,List.map_append,List.map_take,List.map_drop,hnz,Qw]
       rw[exec,Qc hc1,g];simp only[KV.pv];rw[Qc G,I];simp only[hk1,Qp,Qt,hv,Qn,K.len];rw[Qc hk3,D,qC,h6];simp only[eZ,bx.pv,cp.pv,List.map_set]
      .cases h
     .cases h
    .cases h
   .cases h
  .cases h
 |build z ps=>
  simp only[dR]at h;split at h
  .rename_i hz;split at h
   .rename_i cs hf;refine pure ?_ h;have:=JX (λp H=>hoc _ (by simp only[bV.cy,Qs];exact⟨p,H,rfl⟩)) hf
    rw[tD S hz]at this
    grind [exec,KV.pv,KV.bT]
   .cases h
  .cases h
 |GW m e kk z ps=>
  simp only[dR]at h;split at h
  .rename_i T hT;split at h
   .rename_i hz;rw[Qa]at hz;split at h
    .rename_i es hf;split at h
     .rename_i vs hd;have g:=CW (λp H=>hoc _ (by simp only[bV.cy,Qs];exact⟨p,H,rfl⟩)) hf
      have D:(z.map λu=>u.map (KV.BE:PV->KV U)).map (λe=>e.map KV.pv)=z:=by
       rw[List.map_map];refine(QW λu hu=> ?_).trans (List.map_id _)
       exact tD S (Qe.1 hz.2 u hu)
      rw[D]at g;obtain⟨G,I⟩:=J7 hd;split at h
      .refine pure ?_ h
       grind [exec,KV.pv]
      .refine pure ?_ h;rw[exec,g];simp only[Bool.true_eq_false,false_and,QF,G,KV.pv,Qn,eZ,bx.pv,cp.pv];rfl
     .cases h
    .cases h
   .cases h
  .split at h
   .rename_i hz;rw[Qa]at hz;split at h
    .rename_i es hf;split at h
     .rename_i hnn;have g:=CW (λp H=>hoc _ (by simp only[bV.cy,Qs];exact⟨p,H,rfl⟩)) hf
      have D:(z.map λu=>u.map (KV.BE:PV->KV U)).map (λe=>e.map KV.pv)=z:=by
       rw[List.map_map];refine(QW λu hu=> ?_).trans (List.map_id _)
       exact tD S (Qe.1 hz.2 u hu)
      rw[D]at g
      have G:xo (es.map λe=>e.map KV.pv)=es.map λe=>e.map KV.pv:=by
       unfold xo;rw[List.map_map];refine QW λc hc=> ?_
       simp only[Function.comp,List.map_map];refine QW λy M=> ?_
       have:=Qe.1 (Qe.1 hnn c hc) y M;cases y<;>first|rfl|cases this|simp[KV.pv,nz]
      have hm:m=true:=hz.1;subst hm;refine pure ?_ h;rw[exec,g];simp only[Bool.true_eq_false,false_and,QF,G,KV.pv,Qn,eZ,bx.pv,cp.pv];rfl
     .cases h
    .cases h
   .cases h
 |sw off p=>
  have g:=t p (by simp[bV.cy])
  simp only[dR]at h;split at h
  .rename_i id ab o H;rw[H]at g;split at h
   .rename_i cs B;obtain⟨D,G⟩:=pN B
    grind [exec,KV.pv]
   .cases h
  .rename_i id ab kk i o H;rw[H]at g;split at h
   .rename_i N B;obtain⟨D,G⟩:=jC B
    grind [exec,KV.pv]
   .cases h
  .rename_i cs H;rw[H]at g;refine pure ?_ h;rw[exec,g];simp only[KV.pv,KV.bT,List.map_drop,Q4]
  .cases h
 |mE kk x i=>
  have g:=t x (by simp[bV.cy])
  have D:=t i (by simp[bV.cy])
  simp only[dR]at h;split at h
  .rename_i kd n hn;rw[hn]at D;split at h
   .rename_i T xs F;rw[F]at g;split at h
    .rename_i A;simp only[Qd]at h;obtain⟨v,hv,h⟩:=h;obtain⟨hi0,hi1,hi2⟩:=Fg hv;refine pure ?_ h;rw[exec,D];simp only[KV.pv];rw[g];simp only[KV.pv,Qw];rw[Qc ⟨hi0,O⟩];simp only[Qt,hi2,Qn,K.len,Qg A,Qp,KV.bT,K.lT,Q4]
    .cases h
   .rename_i id ab F;rw[F]at g;split at h
    .rename_i N B;obtain⟨G,I⟩:=jC B;split at h
     .rename_i A;simp only[Qd]at h;obtain⟨v,hv,h⟩:=h;obtain⟨hi0,hi1,hi2⟩:=Fg hv;refine pure ?_ h;rw[exec,D];simp only[KV.pv];rw[g];simp only[KV.pv];rw[Qc G,I];simp only[Qw];rw[Qc ⟨Qg A,hi0,O⟩];rfl
     .cases h
    .split at h
     .rename_i N B;obtain⟨G,I⟩:=Jh B;split at h
      .rename_i j;split at h
       .rename_i A;rw[Qa]at A;have hlt:j<N.es.length:=Qm A.2;refine pure ?_ h;rw[exec,D];simp only[KV.pv];rw[g];simp only[KV.pv];rw[Qc G,I];simp only[Qw];rw[Qc ⟨Qg A.1,Int.natCast_nonneg j,qbx.2 hlt⟩];rfl
       .cases h
      .cases h
     .cases h
   .rename_i id ab kk' lo m F;rw[F]at g;split at h
    .rename_i N B;obtain⟨G,I⟩:=jC B;split at h
     .rename_i A;rw[Qa]at A;simp only[Qd]at h;obtain⟨v,hv,h⟩:=h;obtain⟨hi0,hi1,hi2⟩:=Fg hv;refine pure ?_ h;rw[exec,D];simp only[KV.pv];rw[g];simp only[KV.pv];rw[Qc G,I];simp only[Qw];simp only[List.length_take,List.length_drop]at hi1;rw[Qc ⟨Qg A.1,Qg A.2,hi0,O,O⟩];rfl
     .cases h
    .cases h
   .cases h
  .cases h
 |Db e n len kk x i=>
  have g:=t x (by simp[bV.cy])
  have D:=t i (by simp[bV.cy])
  simp only[dR]at h;split at h
  .rename_i cs _ j F hi;rw[F]at g;rw[hi]at D;split at h
   .rename_i T hT;split at h
    .rename_i A;split at h
     .rename_i vs hvs;simp only[Qd]at h;obtain⟨v,hv,h⟩:=h;obtain⟨hlen,hget⟩:=EA K hvs
      have hv0:0<=j/\vs[j.toNat]?=some v:=by grind [idx]
      have hjl:j.toNat<vs.length:=(QL.1 hv0.2).1;obtain⟨hnz,_⟩:=oz (K.iP _ _ _ _ (hget _ _ hv0.2));rw[Qa]at A;have hkk:=Qg A.1;have hpl:=K.len T v
      have hcl:((cs.drop (j.toNat*kk)).take kk).length=kk:=by grind
      refine pure ?_ h;rw[exec,g,D];simp only[KV.pv,KV.bT];rw[Qc ⟨hv0.1,O⟩,wT]
      have hsplit:((cs.map KV.pv).drop (j.toNat*kk)).map nz=U.pv T v++(((cs.drop (j.toNat*kk)).drop kk).map KV.pv).map nz:=by rw[<-hnz,<-List.map_append,<-List.map_append,List.take_append_drop,List.map_drop,List.map_drop,List.map_drop]
      rw[hsplit]
      cases n with
      |none=>
       simp only[MR,Qa,QR]at A;have h1k:=Qg A.2.2;obtain⟨y,hy1,hy2⟩:=oM K v A.2.1
       cases H:U.pv T v with
       |nil=>rw[H]at hy2;cases hy2
       |cons y0 l=>grind [nH]
      |some m=>
       simp only[MR,Qa]at A;have hm:=Qg A.2.2;subst hm;simp only[nH];rw[Qc (by rw[QZ];omega),List.take_append_of_le_length O,List.take_of_length_le O,qN v A.2.1]
       rfl
     .cases h
    .cases h
   .cases h
  .cases h
 |clear kk z x=>
  have g:=t x (by simp[bV.cy])
  simp only[dR]at h;split at h
  .rename_i id ab kk' lo n F;rw[F]at g;split at h
   .rename_i N B;obtain⟨G,I⟩:=jC B;split at h
    .rename_i A;simp only[Qa]at A;obtain⟨⟨⟨⟨⟨k1,k2⟩,k3⟩,k4⟩,k5⟩,k6⟩:=A;split at h
     .rename_i d hd;refine pure ?_ h;have h7:=(oz (K.iP _ _ _ _ hd)).1;rw[tD S k4]at h7;have h8:z.all PV.one=true:=by rw[<-oZ,tD S k4]at k6;exact k6
      have e1:=Qg k1;have e2:=Qg k2;have e5:=Qg k5;rw[exec,g];simp only[KV.pv];rw[Qc G,I];simp only;rw[Qc ⟨e1,e2,e5,h8⟩,h7];simp only[Qn,eZ,bx.pv,cp.pv,List.map_append,List.map_take,List.map_drop,List.map_replicate,KV.yp];rw[e1]
     .cases h
    .cases h
   .cases h
  .cases h
 |uq kk len x i=>
  have g:=t x (by simp[bV.cy])
  have D:=t i (by simp[bV.cy])
  simp only[dR]at h;split at h
  .rename_i kd n hi;rw[hi]at D;split at h
   .rename_i B;have hlt:n<len:=by simpa using B
    have hc:(0:Int)<=Int.ofNat n/\Int.ofNat n<(len:Int):=⟨Int.natCast_nonneg n,qbx.2 hlt⟩;split at h
    .rename_i id ab o F;rw[F]at g;split at h
     .rename_i cs hbx;obtain⟨G,I⟩:=pN hbx
      grind [exec,KV.pv]
     .cases h
    .rename_i cs F;rw[F]at g;refine pure ?_ h;rw[exec,D];simp only[KV.pv];rw[Qc hc,g];simp only[KV.pv,KV.bT,List.map_drop,Q4];rfl
    .cases h
   .cases h
  .cases h
 |bin op x y=>
  have g:=t x (by simp[bV.cy])
  have D:=t y (by simp[bV.cy])
  simp only[dR]at h;obtain⟨v,G,I⟩:=RP h
  grind [exec]
 |ox neg x y=>grind [bV.cy,dR,exec,KV.pv,KV.yp]
 |lz q xs=>
  simp only[dR]at h;have F:xs.map (·.val S.st)=(xs.map (·.bR S)).map KV.pv:=by rw[List.map_map];exact QW λy M=>t y (by simpa[bV.cy]using M)
  obtain⟨v,hv,h⟩:=Rb h;refine pure ?_ h;rw[exec,F,hv];rfl
 |Iu n off x=>
  have g:=t x (by simp[bV.cy])
  simp only[dR]at h;split at h
  .rename_i cs H;rw[H]at g;split at h
   .rename_i v F;refine pure ?_ h;have:=w7 F;rw[List.map_drop]at this
    grind [exec,KV.pv,KV.bT]
   .cases h
  .cases h
 |GK neg x y=>
  have g:=t x (by simp[bV.cy])
  have D:=t y (by simp[bV.cy])
  simp only[dR]at h;split at h
  .rename_i F M;rw[F]at g;rw[M]at D;refine pure ?_ h;rw[exec,g,D];rfl
  .cases h
 |not x|conv kd x=>
  have g:=t x (by simp[bV.cy])
  simp only[dR]at h;split at h
  .rename_i F;rw[F]at g;exact pure (by rw[exec,g];rfl) h
  .cases h
 |len b x=>
  have g:=t x (by simp[bV.cy])
  cases b with
  |true=>
   simp only[dR]at h;split at h
   .rename_i F;rw[F]at g;exact pure (by rw[exec,g];rfl) h
   .cases h
  |false=>grind [dR,Rj,exec,KV.pv]
 |call f xs=>simp only[dR]at h;obtain⟨V,x,wr,g,D,G⟩:=c7 hΓ h;refine⟨V,x,wr,g,?_,G⟩;rw[exec,AX (xs:=xs) hoc];exact D
 |jS fv xs=>
  have h0:=t fv (by simp[bV.cy])
  simp only[dR]at h;split at h
  .grind [c7,exec,KV.pv,AX,bV.cy,KV.bT]
  .grind [c7,exec,KV.pv,AX,bV.cy,KV.bT]
  .cases h
 |bm z e kk bytes s x=>
  have g:=t s (by simp[bV.cy])
  have D:=t x (by simp[bV.cy])
  simp only[dR]at h;split at h
  .rename_i T hT;split at h
   .rename_i A;have A:=Qg A;split at h
    .rename_i news hn;have G:=Tn hn;split at h
     .rename_i hs;rw[hs]at g
      cases R:bp bytes news.length with
      |false=>rw[R]at h;cases h
      |true=>rw[R]at h;obtain⟨hl1,hl2⟩:=wz R;obtain⟨x0,wr0,g1,g2⟩:=Kh K h;refine pure ?_ g2;rw[exec,D,G];simp only[K4 T news A K,Qp,g,KV.pv,Qw];rw[Qc ⟨hl1,hl2⟩];exact g1
     .rename_i id ab hs;rw[hs]at g;split at h
      .rename_i N B;obtain⟨I,h5⟩:=jC B;split at h
       .rename_i he;rw[Qa]at he;have he1:=Qg he.1;have he2:=Qg he.2;split at h
        .rename_i xs hc
         have hpv:N.xs.map (U.pv N.T)=xs.map (U.pv T):=by obtain⟨eT,hxs⟩:=ji hc;obtain⟨re,rk,rT,rxs⟩:=N;simp only at eT hxs ⊢;subst eT;rw[hxs]
         cases R:bp bytes (xs.length+news.length)with
         |false=>rw[R]at h;cases h
         |true=>rw[R]at h;obtain⟨hl1,hl2⟩:=wz R;obtain⟨x0,wr0,g1,g2⟩:=Kh K h;refine pure ?_ g2;rw[exec,D,G];simp only[K4 T news A K,Qp,g,KV.pv];rw[Qc I,h5];simp only[hpv,Qw];rw[Qc ⟨he1.symm,he2.symm,hl1,hl2⟩];rw[List.map_append]at g1;exact g1
        .cases h
       .cases h
      .cases h
     .cases h
    .cases h
   .cases h
  .cases h
 |ug x=>
  have g:=t x (by simp[bV.cy])
  simp only[dR]at h;split at h
  .rename_i id ab o H;rw[H]at g;split at h
   .rename_i cs B;obtain⟨D,G⟩:=pN B
    grind [exec,KV.pv]
   .cases h
  .rename_i id ab kk i o H;rw[H]at g;split at h
   .rename_i N B;obtain⟨D,G⟩:=jC B
    grind [exec,KV.pv]
   .cases h
  .rename_i cs H;rw[H]at g;exact pure (by rw[exec,g];rfl) h
  .rename_i cs H;rw[H]at g;exact pure (by rw[exec,g];rfl) h
  .cases h
 |sx i x=>
  have g:=t x (by simp[bV.cy])
  simp only[dR]at h;split at h
  .grind [exec,KV.pv,KV.bT]
  .cases h
 |Ik f caps|Il f caps=>
  refine pure ?_ h;rw[exec,AX (xs:=caps) hoc]
  grind [KV.pv,KV.bT]
 |CY neg ks x y=>
  have g:=t x (by simp[bV.cy])
  have D:=t y (by simp[bV.cy])
  simp only[dR]at h
  grind [exec,KV.pv,KV.bT,Bl]
 |Ga e kk bytes z l c=>
  have g:=t l (by simp[bV.cy])
  have D:=t c (by simp[bV.cy])
  simp only[dR]at h;split at h
  .rename_i T hT;split at h
   .rename_i hz;rw[Qa]at hz;split at h
    .rename_i d hd;split at h
     .rename_i _ n _ m R hc;rw[R]at g;rw[hc]at D
      cases B:(decide (n<=m)&&decide (0<=n)&&bp bytes m.toNat)with
      |false=>rw[B]at h;cases h
      |true=>rw[B]at h;simp only[Qa,QB]at B;obtain⟨⟨G,I⟩,h5⟩:=B;obtain⟨h5,h6⟩:=wz h5;refine pure ?_ h;have h7:=(oz (K.iP _ _ _ _ hd)).1;rw[tD S hz.2]at h7;rw[exec,g,D];simp only[KV.pv];rw[Qc ⟨G,I,h5,h6⟩,h7];simp only[Qn,eZ,bx.pv,cp.pv,List.map_replicate];rfl
     .cases h
    .cases h
   .cases h
  .cases h
 |B9 kk x lo hi=>
  have g:=t x (by simp[bV.cy])
  have hi1:∀(y:aM) (d n:Int),y∈(bV.B9 kk x lo hi).cy->zz S (some y) d=some n->∃kd,y.val S.st= .int kd n:=by
   intro y d n ho hn;have:=t y ho;simp only[zz]at hn;split at hn
   .rename_i kd _ M;rw[M]at this;injection hn with hn;subst hn;exact⟨kd,this⟩
   .cases hn
  simp only[dR]at h;split at h
  .rename_i T xs F;rw[F]at g;split at h
   .rename_i A;have A:=Qg A;split at h
    .rename_i l hh R J
     cases hs:eR l hh xs.length with
     |false=>rw[hs]at h;cases h
     |true=>
      rw[hs]at h;refine pure ?_ h;simp only[eR,Qa,QB]at hs;obtain⟨⟨I,h5⟩,h6⟩:=hs
      have h7:(xs.map (U.pv T)).all (λe=>e.length==kk)=true:=Qe.2 λu hu=>by obtain⟨v,_,rfl⟩:=Qs.1 hu;rw[K.len,A];simp
      unfold exec;simp only[g,KV.pv,Qw,h7,Qp]
      have fin:∀(l hh:Int),0<=l/\l<=hh/\hh<=(xs.length:Int)->(if 0<=l/\l<=hh/\hh<=(xs.length:Int)then some (PV.sl (((xs.map (U.pv T)).take hh.toNat).drop l.toNat),(none:Y (Nat×dq)))else none)=some (PV.sl (((xs.take hh.toNat).drop l.toNat).map (U.pv T)),Option.map eZ (none:Y (Nat×bx U))):=λl hh hc=>by rw[Qc hc];simp only[List.map_take,List.map_drop,Q4]
      cases lo with
      |none=>
       injection R with R
       subst R
       cases hi with
       |none=>injection J with J;subst J;exact fin _ _ ⟨I,h5,h6⟩
       |some y=>obtain⟨kd,M⟩:=hi1 y _ _ (by simp[bV.cy]) J;simp only[M];exact fin _ _ ⟨I,h5,h6⟩
      |some z=>
       obtain⟨kz,hz⟩:=hi1 z _ _ (by simp[bV.cy]) R
       cases hi with
       |none=>injection J with J;subst J;simp only[hz];exact fin _ _ ⟨I,h5,h6⟩
       |some y=>obtain⟨kd,M⟩:=hi1 y _ _ (by simp[bV.cy]) J;simp only[hz,M];exact fin _ _ ⟨I,h5,h6⟩
    .cases h
   .cases h
  .rename_i id ab F;rw[F]at g;split at h
   .rename_i N B;obtain⟨G,I⟩:=jC B;split at h
    .rename_i A;have A:=Qg A;split at h
     .rename_i l hh R J;have e1:=F2 (hi1:=hi1) (y:=lo) (λy M=>by simp[bV.cy,M]) R
      have e2:=F2 (hi1:=hi1) (y:=hi) (λy M=>by simp[bV.cy,M]) J
      cases hs:eR l hh N.xs.length with
      |false=>rw[hs]at h;cases h
      |true=>rw[hs]at h;refine pure ?_ h;simp only[eR,Qa,QB]at hs;unfold exec;simp only[g,KV.pv];rw[Qc G,I];simp only[Qw];rw[Qc A,e1,e2];simp only;rw[Qc ⟨hs.1.1,hs.1.2,hs.2⟩];rfl
     .cases h
    .cases h
   .cases h
  .rename_i id ab kk' lo0 n0 F;rw[F]at g;split at h
   .rename_i N B;obtain⟨G,I⟩:=jC B;split at h
    .rename_i A;rw[Qa]at A;split at h
     .rename_i l hh R J;have e1:=F2 (hi1:=hi1) (y:=lo) (λy M=>by simp[bV.cy,M]) R
      have e2:=F2 (hi1:=hi1) (y:=hi) (λy M=>by simp[bV.cy,M]) J
      cases hs:eR l hh n0 with
      |false=>rw[hs]at h;cases h
      |true=>rw[hs]at h;refine pure ?_ h;simp only[eR,Qa,QB]at hs;unfold exec;simp only[g,KV.pv];rw[Qc G,I];simp only;rw[Qc ⟨Qg A.1,Qg A.2⟩,e1,e2];simp only;rw[Qc ⟨hs.1.1,hs.1.2,hs.2⟩];rfl
     .cases h
    .cases h
   .cases h
  .cases h
 |so neg x=>
  have g:=t x (by simp[bV.cy])
  simp only[dR]at h;split at h
  .grind [exec,KV.pv]
  .rename_i T xs F;rw[F]at g
   cases xs with
   |nil=>exact pure (x:= .dP) (by unfold exec;simp only[g,KV.pv,gQ,QD,Q4]) h
   |cons y l=>exact pure (x:= .bool neg) (by unfold exec;simp only[g,KV.pv,gQ,Qj,Q4]) h
  .cases h
end
end
section
open Go.RowKit
section
variable{P:Pr}{E:En}{S:St}{a:Act}{w:Wo}{L:Nat->Va}
def Rel.Xj(h:Rel E S a w L){id ab k n f k':Nat}{es:Z (Z PV)}{v:Va}(r:aJ w (aH E S L) (S.gh L) (.view id ab k 0 n) v)(i:(S.H id).ab=ab)(F:(S.H id).c= .row f k' es):
  Rel E {S with H:=bd S.H id ⟨ab+1,.row f k' (es.take n)⟩} a w (bd L id v)/\aJ w (aH E {S with H:=bd S.H id ⟨ab+1,.row f k' (es.take n)⟩} (bd L id v)) (St.gh {S with H:=bd S.H id ⟨ab+1,.row f k' (es.take n)⟩} (bd L id v)) (.own id (ab+1)) v:=by
 let⟨q,ad,c,x,o⟩:=r.tt (show(S.gh L).V id=ab from i)
 have hle:=h.Dm q F o
 let⟨a0,m0,c0,p,q1,q2,q3,q4⟩:=o
 have p:L id= .slice a0 m0 c0:=p;have e:(S.H id).c.live=true:=by rw[F];rfl
 let⟨vs,d,hk,T⟩:=h.fZ q F
 have I:ad=a0:=by
  rcases q4 with q4|q4
  .exact absurd rfl q4.2.1
  .rw[q4];cases a0<;>simp[Addr.add]
 have D:c=c0:=O;subst I D;have m:br v=br (L id):=by rw[x,p];cases ad<;>rfl
 have l:(es.take n).length=n:=o_
 have j:w.ownsRow (dW E v) f k' v (es.take n).length (vs.take (n*k')):=by
  rw[vr m,l];have t:vs.length=es.length*k':=d.1;have V:n*k'<=es.length*k':=QT _ O;refine⟨by rw[List.length_take,t];omega,?_⟩
  rcases d.2 with⟨J,h0⟩|⟨g,cap,M,J,G,hh,hnc,B,A,z⟩
  .grind
  .right;rw[p]at J;injection J with e1 e2 e3
   subst e1 e2 e3;refine⟨g,c,M,x,G,hh,O,B,A,?_⟩
   grind
 let⟨h1,hs,N⟩:=h.nW (w':=w) q ⟨ab+1,.row f k' (es.take n)⟩ v (.inr (by show(S.H id).ab<ab+1;omega)) rfl rfl rfl (Ql _) (λ_ _ _=>rfl)
  (λb _ hb=> .inl ⟨e,by rw[<-m];exact hb⟩)
  (λhs N=>⟨_,j,λu R=>hk u (qbi R),by rw[ou k' n es hk];exact(T.take _).mono hs N⟩)
 refine⟨h1,?_⟩;subst x;exact .own _ _ _ _ _ q (by simp[St.gh]) (λ_=>by simp[St.gh])
def Rel.Pq(h:Rel E S a w L){id:Nat}{cs cs':Z PV}(d:id<S.N)(e:(S.H id).c= .box cs)(g:∀vs,aK w (aH E S L) (S.gh L) cs vs->aK w (aH E S L) (S.gh L) cs' vs):
  Rel E {S with H:=bd S.H id ⟨(S.H id).ab,.box cs'⟩} a w L:=by
 have:=(h.nW (w':=w) d ⟨(S.H id).ab,.box cs'⟩ (L id) (.inl ⟨rfl,rfl,by rw[e];rfl⟩) rfl rfl rfl (Ql _) (λ_ _ _=>rfl) (λb _ j=> .inl ⟨by rw[e];rfl,j⟩) (λhs i=>by
  let⟨b,f,T,h1,m,l,k⟩:=h.mT d e
  exact⟨b,f,T,h1,m,k,(g _ l).mono hs i⟩)).1
 rwa [AD]at this
def aK.set{M:Nat->Prop}{G:Gh}{cs:Z PV}{vs:Z Va}(h:aK w M G cs vs)(i:Nat)(y:PV)(f:∀v,vs[i]?=some v->aJ w M G y v):aK w M G (cs.set i y) vs:=by
 refine⟨by rw[qa5];exact h.1,λj x v d e=> ?_⟩
 rw[List.getElem?_set]at d;split at d
 .grind
 .exact h.2 j x v d e
def Rel.P6(h:Rel E S a w L){S':St}(g:S'.H=S.H)(f:S'.N=S.N)(d:∀t,S'.env t=S.env t\/S'.env t= .any):Rel E S' a w L:=by
 let⟨env,H,N⟩:=S
 let⟨env',j,i⟩:=S'
 simp only at g f d;subst g f;refine⟨h.defers,h.size,λt=> ?_,h.obj,h.apart,h.fresh,h.fr,h.sV,h.gn,h.an⟩
 rcases d t with e|e
 .show aJ _ _ _ (env' t) _;rw[e];exact h.env t
 .show aJ _ _ _ (env' t) _;rw[e];exact .any _
end
section
variable{U:TU}
inductive Ps (U:TU) where
 |own (t e k:Nat) (T:U.Ty)
 |Al (t:Nat)
 |rS (t off e k:Nat) (T:U.Ty)
 |tP (t off:Nat)
 |cut (t:Nat)
def Ps.run(S:aw U):Ps U->Y (aw U)
 | .own t e k T=>(match S.env t with
  | .cz=>some {env:=c8 S.env t (.own S.N 1),H:=c8 S.H S.N ⟨1,.row e k T []⟩,N:=S.N+1}
  |_=>none)
 | .Al t=>(match S.env t with
  | .own id ab=>(match S.row? id ab with
   |some r=>some {env:=c8 S.env t (.sl r.T r.xs),H:=c8 S.H id ⟨ab,.dead⟩,N:=S.N}
   |none=>none)
  | .sl _ _=>some S
  |_=>none)
 | .rS t off e k T=>(match S.env t with
  | .ptr id ab _=>(match S.nn id ab with
   |some cs=>(match cs[off]? with
    |some .cz=>some {env:=S.env,H:=c8 (c8 S.H S.N ⟨1,.row e k T []⟩) id ⟨ab,.box (cs.set off (.own S.N 1))⟩,N:=S.N+1}
    |_=>none)
   |none=>none)
  |_=>none)
 | .tP t off=>(match S.env t with
  | .ptr id ab _=>(match S.nn id ab with
   |some cs=>(match cs[off]? with
    |some (.own i v)=>(match S.row? i v with
     |some r=>some {env:=S.env,H:=c8 (c8 S.H i ⟨v,.dead⟩) id ⟨ab,.box (cs.set off (.sl r.T r.xs))⟩,N:=S.N}
     |none=>none)
    |some (.sl _ _)=>some S
    |_=>none)
   |none=>none)
  |_=>none)
 | .cut t=>(match S.env t with
  | .view id ab _ lo n=>(match S.row? id ab with
   |some r=>(match Nat.beq lo 0 with
    |true=>some {env:=c8 S.env t (.own id (ab+1)),H:=c8 S.H id ⟨ab+1,.row r.e r.k r.T (r.xs.take n)⟩,N:=S.N}
    |false=>none)
   |none=>none)
  |_=>none)
def Ps.tmps:Ps U->Z Nat
 | .own t _ _ _| .Al t| .cut t=>[t]
 | .rS _ _ _ _ _| .tP _ _=>[]
def Ps.AT(S:aw U):Ps U->Z Nat
 | .own _ _ _ _=>[S.N]
 | .Al t=>(match S.env t with| .own id _=>[id]|_=>[])
 | .cut t=>(match S.env t with| .view id _ _ _ _=>[id]|_=>[])
 | .rS t _ _ _ _=>S.N::(match S.env t with| .ptr id _ _=>[id]|_=>[])
 | .tP t off=>(match S.env t with
  | .ptr id ab _=>id::(match S.nn id ab with
   |some cs=>(match cs[off]? with|some (.own i _)=>[i]|_=>[])
   |none=>[])
  |_=>[])
def Ps.sound(K:TK U){S S':aw U}{p:Ps U}(d:p.run S=some S'){E:En}{a:Act}{w:Wo}{L:Nat->Va}(h:Rel E S.st a w L):∃L',Rel E S'.st a w L':=by
 cases p with
 |own t e k T=>
  simp[Ps.run]at d;split at d
  .rename_i G;injection d with d
   subst d;have h0:=h.room 1;have hf:(S.st.H S.N)=⟨0,.dead⟩:=h.fresh S.N (Ql _);have F:S.N<({S.st with N:=S.st.N+1}:St).N:=Q7 S.N
   have A:=h0.Sh F e k;refine⟨bd L S.N (.slice none 0 0),?_⟩
   have g:(aw.st {env:=c8 S.env t (.own S.N 1),H:=c8 S.H S.N ⟨1,.row e k T []⟩,N:=S.N+1}:St)={env:=bd S.st.env t (.own S.N 1),H:=bd S.st.H S.N ⟨(S.st.H S.N).ab+1,.row e k []⟩,N:=S.st.N+1}:=by
    rw[hf];unfold aw.st;congr 1
    .simp[bU];exact kx _ _ _ _
    .simp[bU];exact kx _ _ _ _
   rw[g];refine⟨A.defers,A.size,λj=> ?_,A.obj,A.apart,A.fresh,A.fr,A.sV,A.gn,A.an⟩
   show aJ w _ _ (bd S.st.env t _ j) _
   by_cases R:j=t
   .subst R;have l:=h.env j;have I:S.st.env j= .cz:=by simp[aw.st,G,KV.pv]
    rw[I]at l;rw[bf];have:=SP (L:=L) (S:={S.st with N:=S.st.N+1}) F e k (w:=w) (M:=aH E {env:=S.st.env,H:=bd S.st.H S.N ⟨(S.st.H S.N).ab+1,.row e k []⟩,N:=S.st.N+1} (bd L S.N (.slice none 0 0))) l.mA
    have z:(S.st.H S.N).ab+1=1:=by rw[hf]
    simp[z]at this ⊢;exact this
   .rw[bo _ _ R];exact A.env j
  .cases d
 |Al t=>
  simp[Ps.run]at d;split at d
  .rename_i id ab G;split at d
   .rename_i r J;injection d with d
    subst d
    let⟨z,V⟩:=jC J
    have l:=h.env t;have I:S.st.env t= .own id (S.st.H id).ab:=by rw[z];simp[aw.st,G,KV.pv]
    rw[I]at l
    let⟨f,h5⟩:=h.Al l V (λu hu=>by
     obtain⟨x,_,rfl⟩:=Qs.1 hu
     exact Qe.2 λy hy=>ei (K.ep _ _ _ hy))
    rw[z]at f h5;refine⟨L,?_⟩
    have g:(aw.st {env:=c8 S.env t (.sl r.T r.xs),H:=c8 S.H id ⟨ab,.dead⟩,N:=S.N}:St)={env:=bd S.st.env t (.sl (r.xs.map (U.pv r.T))),H:=bd S.st.H id ⟨ab,.dead⟩,N:=S.st.N}:=by
     unfold aw.st;congr 1
     .simp[bU];exact kx _ _ _ _
     .simp[bU];exact kx _ _ _ _
    rw[g];refine⟨f.defers,f.size,λj=> ?_,f.obj,f.apart,f.fresh,f.fr,f.sV,f.gn,f.an⟩
    show aJ w _ _ (bd S.st.env t _ j) _
    by_cases R:j=t
    .subst R;rw[bf];exact h5
    .rw[bo _ _ R];exact f.env j
   .cases d
  .injection d with d
   subst d;exact⟨L,h⟩
  .cases d
 |cut t=>
  simp[Ps.run]at d;split at d
  .rename_i id ab k lo n G;split at d
   .rename_i r J;split at d
    .rename_i hlo;injection d with d
     subst d;have hlo:=Qg hlo;subst hlo
     let⟨z,V⟩:=jC J
     have l:=h.env t;have I:S.st.env t= .view id ab k 0 n:=by simp[aw.st,G,KV.pv]
     rw[I]at l
     let⟨f,h5⟩:=h.Xj l z V
     refine⟨bd L id (a.tmps.getD t undef),?_⟩
     have g:(aw.st {env:=c8 S.env t (.own id (ab+1)),H:=c8 S.H id ⟨ab+1,.row r.e r.k r.T (r.xs.take n)⟩,N:=S.N}:St)={env:=bd S.st.env t (.own id (ab+1)),H:=bd S.st.H id ⟨ab+1,.row r.e r.k ((r.xs.map (U.pv r.T)).take n)⟩,N:=S.st.N}:=by
      unfold aw.st;congr 1
      .simp[bU];exact kx _ _ _ _
      .simp[bU];rw[<-List.map_take];exact kx _ _ _ _
     rw[g];refine⟨f.defers,f.size,λj=> ?_,f.obj,f.apart,f.fresh,f.fr,f.sV,f.gn,f.an⟩
     show aJ w _ _ (bd S.st.env t _ j) _
     by_cases R:j=t
     .subst R;rw[bf];exact h5
     .rw[bo _ _ R];exact f.env j
    .cases d
   .cases d
  .cases d
 |rS t off e k T=>
  simp[Ps.run]at d;split at d
  .rename_i id ab o G;split at d
   .rename_i cs hb;split at d
    .rename_i m;injection d with d
     subst d
     let⟨z,V⟩:=pN hb
     have I:S.st.env t= .ptr id ab o:=by simp[aw.st,G,KV.pv]
     have D:id<S.N:=by have l:=h.env t;rw[I]at l;exact(l.lL (show(S.st.gh L).V id=ab from z)).1
     have h0:=h.room 1;have hf:(S.st.H S.N)=⟨0,.dead⟩:=h.fresh S.N (Ql _);have F:S.N<({S.st with N:=S.st.N+1}:St).N:=Q7 S.N
     have A:=h0.Sh F e k;have B:id≠S.N:=qan D
     have l:=A.Pq (id:=id) (cs:=cs.map KV.pv) (cs':=(cs.map KV.pv).set off (.own S.N ((S.st.H S.N).ab+1))) (Nat.lt_succ_of_lt D) (by show(bd S.st.H S.N _ id).c=_;rw[bo _ _ B];exact V)
      (λvs J=>J.set _ _ λv hvv=>by
       have hn:(cs.map KV.pv)[off]?=some .cz:=by rw[Qt,m];rfl
       exact SP (L:=L) (S:={S.st with N:=S.st.N+1}) F e k (J.2 off .cz v hn hvv).mA)
     refine⟨bd L S.N (.slice none 0 0),?_⟩
     have g:(aw.st {env:=S.env,H:=c8 (c8 S.H S.N ⟨1,.row e k T []⟩) id ⟨ab,.box (cs.set off (.own S.N 1))⟩,N:=S.N+1}:St)
       ={env:=S.st.env,H:=bd (bd S.st.H S.N ⟨(S.st.H S.N).ab+1,.row e k []⟩) id ⟨(bd S.st.H S.N ⟨(S.st.H S.N).ab+1,.row e k []⟩ id).ab,.box ((cs.map KV.pv).set off (.own S.N ((S.st.H S.N).ab+1)))⟩,N:=S.st.N+1}:=by
      rw[bo _ _ B,z,hf];unfold aw.st;congr 1;simp only[bU];rw[kx,kx];simp[bx.pv,cp.pv,List.map_set,KV.pv,QD]
     rw[g];exact l
    .cases d
   .cases d
  .cases d
 |tP t off=>
  simp[Ps.run]at d;split at d
  .rename_i id ab o G;split at d
   .rename_i cs hb;split at d
    .rename_i i v m;split at d
     .rename_i r J;injection d with d
      subst d
      let⟨z,V⟩:=pN hb
      let⟨hv2,hc2⟩:=jC J
      have I:S.st.env t= .ptr id ab o:=by simp[aw.st,G,KV.pv]
      have D:id<S.N:=by have l:=h.env t;rw[I]at l;exact(l.lL (show(S.st.gh L).V id=ab from z)).1
      have q:(cs.map KV.pv)[off]?=some (.own i v):=by rw[Qt,m];rfl
      have hili:i<S.N:=by
       let⟨b,cur,T,h5,h6,h7,h8⟩:=h.mT D V
       let⟨u,hu,hru⟩:=h7.get q
       exact(hru.iA (show(S.st.gh L).V i=v from hv2)).1
      have B:id≠i:=by grind
      let⟨f,h5⟩:=h.Te hili hc2 (λu hu=>by
       obtain⟨x,_,rfl⟩:=Qs.1 hu
       exact Qe.2 λy hy=>ei (K.ep _ _ _ hy))
      have h6:=f.Pq (id:=id) (cs:=cs.map KV.pv) (cs':=(cs.map KV.pv).set off (.sl (r.xs.map (U.pv r.T)))) D (by show(bd S.st.H i _ id).c=_;rw[bo _ _ B];exact V)
       (λvs hrr=>hrr.set _ _ λu hu=>h5 u (by
        have:=hrr.2 off _ u q hu
        exact(this.iA (show(bd S.st.H i ⟨(S.st.H i).ab,.dead⟩ i).ab=v by rw[bf];exact hv2)).2))
      refine⟨L,?_⟩
      have g:(aw.st {env:=S.env,H:=c8 (c8 S.H i ⟨v,.dead⟩) id ⟨ab,.box (cs.set off (.sl r.T r.xs))⟩,N:=S.N}:St)
        ={env:=S.st.env,H:=bd (bd S.st.H i ⟨(S.st.H i).ab,.dead⟩) id ⟨(bd S.st.H i ⟨(S.st.H i).ab,.dead⟩ id).ab,.box ((cs.map KV.pv).set off (.sl (r.xs.map (U.pv r.T))))⟩,N:=S.st.N}:=by
       rw[bo _ _ B,z,hv2];unfold aw.st;congr 1;simp only[bU];rw[kx,kx];simp[bx.pv,cp.pv,List.map_set,KV.pv]
      rw[g];exact h6
     .cases d
    .injection d with d
     subst d;exact⟨L,h⟩
    .cases d
   .cases d
  .cases d
inductive RS (U:TU) where
 |nil
 |op (o:SG) (r:RS U)
 |ps (p:Ps U) (r:RS U)
 |nD (t:Nat) (r:RS U)
 |ite (t:Nat) (want:Bool) (body:RS U) (d:Nat) (g:Option (Nat×Bool)) (x y:aM) (r:RS U)
def RS.flat:RS U->Z SG
 | .nil=>[]
 | .op o r=>o::r.flat
 | .ps _ r| .nD _ r=>r.flat
 | .ite t _ b d g x y r=>b.flat++⟨some d,g,.pick (.tmp t) x y⟩::r.flat
def RS.dG:RS U->Z Nat
 | .nil=>[]
 | .op o r=>(match o.d with|some t=>t::r.dG|none=>r.dG)
 | .ps p r=>p.tmps++r.dG
 | .nD _ r=>r.dG
 | .ite _ _ b d _ _ _ r=>b.dG++d::r.dG
def qk:Z SG->Z Nat
 |[]=>[]
 |o::l=>(match o.d with|some t=>t::qk l|none=>qk l)
def RS.len:RS U->Nat
 | .nil=>0
 | .op _ r=>r.len+1
 | .ps _ r| .nD _ r=>r.len
 | .ite _ _ b _ _ _ _ r=>b.len+(r.len+1)
def RS.mB:∀(r:RS U),r.flat.length=r.len
 | .nil=>rfl
 | .op _ r=>by simp[RS.flat,RS.len,r.mB]
 | .ps _ r| .nD _ r=>r.mB
 | .ite _ _ b _ _ _ _ r=>by simp[RS.flat,RS.len,b.mB,r.mB]
def cZ(t:Nat):Z Nat->Bool
 |[]=>false
 |x::l=>(match Nat.beq t x with|true=>true|false=>cZ t l)
theorem cJ{t:Nat}:∀{l:Z Nat},cZ t l=true↔t∈l
 |[]=>by simp[cZ]
 |x::l=>by
  simp[cZ];split
  .rename_i h;simp[Qg h]
  .rename_i h;rw[cJ];simp[qaE h]
theorem lh{t:Nat}{l:Z Nat}(h:cZ t l=false):t∉l:=λd=>by rw[cJ.2 d]at h;cases h
def MK:Bool->Bool->Bool
 |true,b=>b
 |false,true=>false
 |false,false=>true
theorem HP(x y:Bool):MK x y=(x==y):=by cases x<;>cases y<;>rfl
abbrev WS:=Option (Nat×List Nat)
def okW:WS->Nat->Bool
 |none,_=>false
 |some (n,l),id=>Nat.ble n id||cZ id l
def AS(W:WS):Y (Nat×bx U)->Bool
 |none=>true
 |some (id,_)=>okW W id
def Ca(t:Nat)(e:Bool):Z Nat->Z SG->Bool
 |_,[]=>true
 |u,o::l=>(match o.g with
  |some (g,f)=>(Nat.beq g t&&MK f e)||cZ g u
  |none=>false)&&(match o.d with
   |some d=> !Nat.beq d t&&Ca t e (d::u) l
   |none=>Ca t e u l)
variable(K:TK U)
def HI{ρ:Type}(Γ:Z (bS U))(W:WS)(nid:Nat)(S:aw U)(o:SG)(k:KV U->Y (Nat×bx U)->Y ρ):Y ρ:=
 match o.g with
 |none=>dR K Γ nid S o.op λx wr=>(match AS W wr with|true=>k x wr|false=>none)
 |some (t,want)=>match S.env t with
  | .bool b=>(match MK b want with
   |true=>dR K Γ nid S o.op λx wr=>(match AS W wr with|true=>k x wr|false=>none)
   |false=>k .undef none)
  | .undef=>k .undef none
  |_=>none
def Pn{ρ:Type}(Γ:Z (bS U))(W:WS)(nid:Nat)(S:aw U)(o:SG)(k:aw U->Y ρ):Y ρ:=
 HI K Γ W nid S o λx wr=>k (S.bm o.d x wr)
def Ph(S:aw U)(d:Z Nat):Y (Nat×Bool)->Bool
 |none=>true
 |some (t,want)=>(match S.env t with| .bool b=>MK b want&& !cZ t d|_=>false)
def aw.forget(S:aw U)(d:Z Nat):aw U:={env:=λt=>(match cZ t d with|true=> .any|false=>S.env t),H:=S.H,N:=S.N}
def MF:aM->Y Bool
 | .ik (.bool b)=>some b
 |_=>none
def jB(Γ:Z (bS U)):RS U->{ρ:Type}->(W:WS)->(nid:Nat)->(S:aw U)->(k:aw U->Y ρ)->Y ρ
 | .nil,_,_,_,S,k=>k S
 | .op o r,_,W,nid,S,k=>Pn K Γ W nid S o λS'=>jB Γ r W (nid+1) S' k
 | .ps p r,_,W,nid,S,k=>(match(p.AT S).all (okW W)with
  |true=>(match p.run S with|some S'=>jB Γ r W nid S' k|none=>none)
  |false=>none)
 | .nD t r,_,W,nid,S,k=>(match S.env t with
  | .bool b=>bif b then jB Γ r W nid (S.bm (some t) (.bool true) none) k else jB Γ r W nid (S.bm (some t) (.bool false) none) k
  | .undef=>jB Γ r W nid S k
  |_=>none)
 | .ite t want body d g x y r,_,W,nid,S,k=>(match S.env t with
  | .bool b=>(match Ph S body.dG g&&(Ca t want [] body.flat&& !cZ t body.dG)with
   |true=>(match want with
    |true=>(match MF y with
     |some c=>(bif b then jB Γ body none nid (S.bm (some t) (.bool true) none) (λS1=>C3 (x.bR S1))else some c).bind λv=>jB Γ r W (nid+(body.len+1)) ((S.forget body.dG).bm (some d) (.bool v) none) k
     |none=>none)
    |false=>(match MF x with
     |some c=>(bif b then some c else jB Γ body none nid (S.bm (some t) (.bool false) none) (λS1=>C3 (y.bR S1))).bind λv=>jB Γ r W (nid+(body.len+1)) ((S.forget body.dG).bm (some d) (.bool v) none) k
     |none=>none))
   |false=>none)
  |_=>none)
structure mq (D:List Nat) (W:WS) (S S':aw U):Prop where
 env:∀t,t∉D->S'.env t=S.env t
 H:∀id,okW W id=false->S'.H id=S.H id
 N:S.N<=S'.N
 Nn:W=none->S'.N=S.N
def mq.refl(D:Z Nat)(W:WS)(S:aw U):mq D W S S:=⟨λ_ _=>rfl,λ_ _=>rfl,Ql _,λ_=>rfl⟩
def mq.trans{D k f:Z Nat}{W:WS}{S S' S'':aw U}(h:mq D W S S')(g:mq k W S' S'')(j:∀t,t∉f->t∉D/\t∉k):mq f W S S'':=
 ⟨λt i=>(g.env t (j t i).2).trans (h.env t (j t i).1),λid d=>(g.H id d).trans (h.H id d),QS h.N g.N,λe=>(g.Nn e).trans (h.Nn e)⟩
def wQ(S:aw U)(d:Y Nat)(x:KV U)(wr:Y (Nat×bx U)):(S.bm d x wr).N=S.N:=by rw[aw.xK]
def fc(S:aw U)(d:Y Nat)(x:KV U)(wr:Y (Nat×bx U)){t:Nat}(h:d≠some t):(S.bm d x wr).env t=S.env t:=by
 cases d with
 |none=>rw[aw.xK]
 |some d=>simp only[aw.xK,bU];exact bo _ _ (λe=>h (by rw[e]))
def Bt(S:aw U)(d:Y Nat)(x:KV U)(wr:Y (Nat×bx U)){i:Nat}(h:wr.map (·.1)≠some i):(S.bm d x wr).H i=S.H i:=by
 cases wr with
 |none=>rw[aw.xK]
 |some p=>simp only[aw.xK,bU];exact bo _ _ (λe=>h (by rw[e];rfl))
def HS(S:aw U)(W:WS)(d:Y Nat)(x:KV U)(wr:Y (Nat×bx U))(h:AS W wr=true):mq d.toList W S (S.bm d x wr):=by
 refine⟨λt g=>fc _ _ _ _ (λe=>g (by simp[e])),λid f=>Bt _ _ _ _ (λe=> ?_),qau (wQ _ _ _ _).symm,λ_=>wQ _ _ _ _⟩
 cases wr with
 |none=>cases e
 |some p=>simp[Qn,Qb]at e;simp[AS]at h;rw[e,f]at h;cases h
variable{K}
variable{P:Pr}
def sy{ρ:Type}{Γ:Z (bS U)}{W:WS}{nid:Nat}{S:aw U}{o:SG}{k:KV U->Y (Nat×bx U)->Y ρ}{r:ρ}(g:jo P Γ)(u:o.op.bJ=true)(h:HI K Γ W nid S o k=some r):
  ∃d x wr,fe P d/\oy d nid S.st o=some (x.pv,wr.map eZ)/\AS W wr=true/\k x wr=some r:=by
 have run:∀(e:o.wanted S.st=some true),dR K Γ nid S o.op (λx wr=>(match AS W wr with|true=>k x wr|false=>none))=some r->
   ∃d x wr,fe P d/\oy d nid S.st o=some (x.pv,wr.map eZ)/\AS W wr=true/\k x wr=some r:=by
  intro e h
  let⟨d,x,wr,h1,z,p⟩:=KJ g u h
  split at p
  .rename_i i;refine⟨d,x,wr,h1,?_,i,p⟩;rw[oy,e];exact z
  .cases p
 have skip:∀(e:o.wanted S.st=some false),k .undef none=some r->
   ∃d x wr,fe P d/\oy d nid S.st o=some (x.pv,wr.map eZ)/\AS W wr=true/\k x wr=some r:=by
  intro e h;refine⟨λ_=>none,.undef,none,λf m v=>(by cases v),?_,rfl,h⟩
  rw[oy,e];rfl
 unfold HI at h;split at h
 .grind [SG.wanted]
 .rename_i t q A;split at h
  .rename_i b l;have j:S.st.env t= .bool b:=by simp[aw.st,l,KV.pv]
   grind [SG.wanted,HP]
  .rename_i l;have j:S.st.env t= .undef:=by simp[aw.st,l,KV.pv]
   grind [SG.wanted]
  .cases h
def Kw{ρ:Type}{Γ:Z (bS U)}{W:WS}{nid:Nat}{S:aw U}{o:SG}{k:aw U->Y ρ}{r:ρ}(e:jo P Γ)(f:o.op.bJ=true)(h:Pn K Γ W nid S o k=some r):
  ∃d x wr,fe P d/\oy d nid S.st o=some (x.pv,wr.map eZ)/\AS W wr=true/\k (S.bm o.d x wr)=some r:=sy e f h
def IX:fe P (λ_=>none):=λf m d=>by cases d
def AH{E:En}{hs:Z Nat}{ops:Array Oper}{t:Nat}{j:Bool}{Q:Exit->Act->Wo->Prop}{V:Z Oper}:∀(r:Z Oper) (D:Z SG) (u:Z Nat) (S:St) (a:Act) (w:Wo) (L:Nat->Va),
  r.mapM (lB P hs ops)=some D->Rel E S a w L->0<S.N->(∀o∈r,∀t,o.dst=some t->E.can t)->Ca t j u D=true->S.env t= .bool (!j)->(∀x∈u,S.env x= .undef)->
  (∀S' a' w' l,(∀x,x∉qk D->S'.env x=S.env x)->S'.H=S.H->S'.N=S.N->Rel E S' a' w' l->wpListIn (WF E.rd) 0 P ops Q V a' w')->wpListIn (WF E.rd) 0 P ops Q (r++V) a w
 |[],D,u,S,a,w,L,hm,h,k,G,hs,F,hu,hk=>by simp at hm;subst hm;exact hk S a w L (λ_ _=>rfl) rfl rfl h
 |o::r,D,u,S,a,w,L,hm,h,k,G,hs,F,hu,hk=>by
  simp[QE,Qh,Qd,QN,Qb]at hm;obtain⟨g,hg,B,z,rfl⟩:=hm;simp[Ca,Qa]at hs
  let⟨h1,A⟩:=hs
  have hw:g.wanted S=some false:=by
   split at h1
   .rename_i t' m J;rw[Qx,Qa]at h1;rw[SG.wanted,J];rcases h1 with⟨T,h4⟩|T
    .rw[Qg T];rw[HP]at h4;simp[F];have:=eq_of_beq h4;subst this;cases m<;>rfl
    .simp[hu t' (cJ.1 T)]
   .cases h1
  have I:nC (λ_=>none) 0 S g=some (S.bm g.d .undef none):=by rw[nC,hw]
  rw[List.cons_append];refine qaN λK hK=> ?_
  refine qO IX hg h k (G o t_) I (λa' w' l v=>hK _ _ ?_)
  split at A
  .rename_i d f;rw[Qa]at A;have N:d≠t:=λe=>by subst e;have:=A.1;simp at this
   refine AH r B (d::u) _ a' w' l z v k (λH q=>G H (by simp[q])) A.2 ?_ ?_ ?_
   .rw[f,St.fc _ _ _ (by simp[N])];exact F
   .intro x i;rw[f]
    by_cases p:x=d
    .subst p;exact bf _ _ _
    .rw[St.fc _ _ _ (by simpa using λe=>p e.symm)]
     exact hu x ((Qk.1 i).resolve_left p)
   .intro S' a' w' l M R k v;refine hk S' a' w' l (λx i=> ?_) R k v
    simp[qk,f,Qk,Q3]at i;rw[M x i.2,f,St.fc _ _ _ (by simpa using λe=>i.1 e.symm)]
  .rename_i f;refine AH r B u _ a' w' l z v k (λH q=>G H (by simp[q])) A ?_ ?_ ?_
   .rw[f];exact F
   .intro x i;rw[f];exact hu x i
   .intro S' a' w' l M R k v;refine hk S' a' w' l (λx i=> ?_) R k v
    simp[qk,f]at i;rw[M x i,f];rfl
def RS.bJ:RS U->Bool
 | .nil=>true
 | .op o r=>o.op.bJ&&r.bJ
 | .ps _ r| .nD _ r=>r.bJ
 | .ite _ _ b _ _ x y r=>b.bJ&&(x.bJ&&y.bJ)&&r.bJ
def mG:∀(r:RS U) (t:Nat),t∈qk r.flat->t∈r.dG
 | .nil,t,h=>h
 | .op o r,t,h=>by
  simp[RS.flat,qk]at h;simp only[RS.dG];split at h
  .rcases Qk.1 h with h|h
   .exact Qk.2 (.inl h)
   .exact Qk.2 (.inr (mG r t h))
  .exact mG r t h
 | .ps p r,t,h=>Qr.2 (.inr (mG r t h))
 | .nD _ r,t,h=>mG r t h
 | .ite t0 want b d g x y r,t,h=>by
  have bm:∀(f l2:Z SG),t∈qk (f++l2)->t∈qk f\/t∈qk l2:=by
   intro f l2
   induction f with
   |nil=>exact λh=> .inr h
   |cons o f i=>
    intro h;simp[List.cons_append,qk]at h ⊢
    cases j:o.d with
    |none=>rw[j]at h;exact i h
    |some e=>
     rw[j]at h;simp[Qk]at h ⊢;rcases h with h|h
     .exact .inl (.inl h)
     .rcases i h with h|h
      .exact .inl (.inr h)
      .exact .inr h
  simp[RS.flat]at h;simp[RS.dG,Qr,Qk];rcases bm _ _ h with h|h
  .exact .inl (mG b t h)
  .simp[qk,Qk]at h;rcases h with h|h
   .exact .inr (.inl h)
   .exact .inr (.inr (mG r t h))
def RF{x:KV U}{b:Bool}(h:C3 x=some b):x= .bool b:=by
 unfold C3 at h
 grind
def xJ{S:aw U}{t:Nat}{x:KV U}(h:S.env t=x):S.bm (some t) x none=S:=by
 rw[aw.xK]
 let⟨env,H,N⟩:=S
 grind [bU,AD]
def Ps.Tf{S S':aw U}{p:Ps U}(d:p.run S=some S'){W:WS}(g:(p.AT S).all (okW W)=true):mq p.tmps W S S':=by
 have l:∀{id j:Nat},okW W id=true->okW W j=false->j≠id:=λB A e=>by subst e;rw[B]at A;cases A
 have z:∀{n:Nat},okW W n=true->W≠none:=λh e=>by rw[e]at h;cases h
 cases p with
 |own t e k T=>
  simp[Ps.run]at d;split at d
  .injection d with d
   subst d;simp[Ps.AT,QA,List.all_nil,QU]at g;exact⟨λx m=>by simp only[bU];exact bo _ _ (by simpa[Ps.tmps]using m),λid f=>by simp only[bU];exact bo _ _ (l g f),qas _,λe=>absurd e (z g)⟩
  .cases d
 |Al t=>
  simp[Ps.run]at d;split at d
  .rename_i id ab q;split at d
   .injection d with d
    subst d;simp[Ps.AT,q,QA,List.all_nil,QU]at g;exact⟨λx m=>by simp only[bU];exact bo _ _ (by simpa[Ps.tmps]using m),λj f=>by simp only[bU];exact bo _ _ (l g f),Ql _,λ_=>rfl⟩
   .cases d
  .injection d with d
   subst d;exact mq.refl _ _ _
  .cases d
 |cut t=>
  simp[Ps.run]at d;split at d
  .rename_i id ab k lo n q;split at d
   .split at d
    .injection d with d
     subst d;simp[Ps.AT,q,QA,List.all_nil,QU]at g;exact⟨λx m=>by simp only[bU];exact bo _ _ (by simpa[Ps.tmps]using m),λj f=>by simp only[bU];exact bo _ _ (l g f),Ql _,λ_=>rfl⟩
    .cases d
   .cases d
  .cases d
 |rS t off e k T=>
  simp[Ps.run]at d;split at d
  .rename_i id ab o q;split at d
   .rename_i cs u;split at d
    .injection d with d
     subst d;simp[Ps.AT,q,QA,List.all_nil,QU,Qa]at g;exact⟨λx m=>rfl,λj f=>by simp only[bU];rw[bo _ _ (l g.2 f),bo _ _ (l g.1 f)],qas _,λe=>absurd e (z g.1)⟩
    .cases d
   .cases d
  .cases d
 |tP t off=>
  simp[Ps.run]at d;split at d
  .rename_i id ab o q;split at d
   .rename_i cs u;split at d
    .rename_i i v r;split at d
     .injection d with d
      subst d;simp[Ps.AT,q,u,r,QA,List.all_nil,QU,Qa]at g;exact⟨λx m=>rfl,λj f=>by simp only[bU];rw[bo _ _ (l g.1 f),bo _ _ (l g.2 f)],Ql _,λ_=>rfl⟩
     .cases d
    .injection d with d
     subst d;exact mq.refl _ _ _
    .cases d
   .cases d
  .cases d
def sb{α β:Type}{f:α->Y β}:∀{l:Z α} {e d:Z β},l.mapM f=some (e++d)->∃i g,l=i++g/\i.mapM f=some e/\g.mapM f=some d
 |l,[],d,h=>⟨[],l,rfl,rfl,h⟩
 |[],x::e,d,h=>by simp at h
 |y::l,x::e,d,h=>by simp only[QE,Qh,Qd,QN,Qb,List.cons_append,List.cons.injEq]at h;obtain⟨z,k,o,j,rfl,rfl⟩:=h;obtain⟨i,g,rfl,h1,m⟩:=sb j;exact⟨y::i,g,rfl,by simp[QE,k,h1],m⟩
def Kb{P:Pr}{hs:Z Nat}{ops:Array Oper}{o:Oper}{d:Y Nat}{s:bV}(h:lB P hs ops o=some ⟨d,none,s⟩):o.guard=none/\o.dst=d/\uQ P hs o=some s:=by
 unfold lB at h
 grind
def Eh{o:Oper}{p:Nat->Y Bool}(h:o.guard=none):Region.wanted o p=true:=by simp[Region.wanted,h]
def ND{P:Pr}{a:Act}{w:Wo}{o:Oper}{f:FI}{args:Array Od}{g:Array TI}(d:o.op= .call {callee:= .value (.func f),args:=args,argTypes:=g})(e:Enters P f):
  (execOp a.eval o).run P w= .ok (.enter f (args.toList.map a.eval).toArray) w:=by
 have h:args.map a.eval=(args.toList.map a.eval).toArray:=by rw[<-qaJ,QX]
 simp[execOp,d,resolve,Act.eval,Deferred.ofValue,invoke,h,gr e]
def hY{E:En}{Γ:Z (bS U)}(u:jo P Γ){hs:Z Nat}{ops:Array Oper}{Q:Exit->Act->Wo->Prop}:∀(rs:RS U) {ρ:Type} (W:WS) (nid:Nat) (S:aw U) (k:aw U->Y ρ) (r:ρ) (F B:Z Oper) (a:Act) (w:Wo) (L:Nat->Va),
  rs.bJ=true->F.mapM (lB P hs ops)=some rs.flat->Rel E S.st a w L->nid+rs.len<=S.N->(∀o∈F,∀t,o.dst=some t->E.can t)->jB K Γ rs W nid S k=some r->
  (∀S' a' w' L',mq rs.dG W S S'->Rel E S'.st a' w' L'->k S'=some r->wpListIn (WF E.rd) 0 P ops Q B a' w')->wpListIn (WF E.rd) 0 P ops Q (F++B) a w
 | .nil,ρ,W,nid,S,k,r,F,B,a,w,L,j,hm,h,hN,M,f,hk=>by
  have:F=[]:=by have:=lj hm;exact qak (by simpa[RS.flat]using this.symm)
  subst this;exact hk S a w L (mq.refl _ _ _) h f
 | .op o rs,ρ,W,nid,S,k,r,F,B,a,w,L,j,hm,h,hN,M,f,hk=>by
  simp[RS.bJ,Qa]at j
  cases F with
  |nil=>simp[RS.flat]at hm
  |cons p F=>
  simp only[RS.flat,QE,Qh,Qd,QN,Qb,List.cons.injEq]at hm;obtain⟨g,hg,gs',hgs,rfl,rfl⟩:=hm;simp[RS.len]at hN
  let⟨Γ',x,wr,hΓ',he,hwr,hr'⟩:=Kw u j.1 f
  have hst:nC Γ' nid S.st g=some (S.bm g.d x wr).st:=by rw[KO,he,xb];rfl
  rw[List.cons_append];refine qaN λK hK=> ?_
  refine qO hΓ' hg h (show nid<S.N by omega) (M p t_) hst (λa' w' L' N=>hK _ _ ?_)
  refine hY u rs W (nid+1) _ k r F B a' w' L' j.2 hgs N (by first|(show _<=S.N;omega)|(rw[wQ];omega)|(rw[wQ,wQ];omega)) (λo' H=>M o' (by simp[H])) hr' (λS' a' w' L' hf N I=>hk S' a' w' L' ?_ N I)
  refine(HS S W g.d x wr hwr).trans hf λt ht=> ?_
  simp[RS.dG]at ht
  cases hdd:g.d with
  |none=>rw[hdd]at ht;exact⟨t_,ht⟩
  |some d=>rw[hdd]at ht;simp[Qk,Q3]at ht;exact⟨by simpa using λe=>ht.1 e,ht.2⟩
 | .ps p rs,ρ,W,nid,S,k,r,F,B,a,w,L,j,hm,h,hN,M,f,hk=>by
  simp[jB]at f;split at f
  .rename_i hW;split at f
   .rename_i S1 hp
    let⟨L1,h1⟩:=Ps.sound K hp h
    have hf:=Ps.Tf hp hW;refine hY u rs W nid S1 k r F B a w L1 j hm h1 (QS hN hf.N) M f (λS' a' w' L' hf' N I=>hk S' a' w' L' (hf.trans hf' λt ht=> ?_) N I)
    simp[RS.dG,Qr,Q3]at ht;exact ht
   .cases f
  .cases f
 | .nD t rs,ρ,W,nid,S,k,r,F,B,a,w,L,j,hm,h,hN,M,f,hk=>by
  simp[jB]at f;split at f
  .rename_i b hb
   cases b with
   |true=>rw[qap,xJ hb]at f;exact hY u rs W nid S k r F B a w L j hm h hN M f hk
   |false=>rw[QO,xJ hb]at f;exact hY u rs W nid S k r F B a w L j hm h hN M f hk
  .exact hY u rs W nid S k r F B a w L j hm h hN M f hk
  .cases f
 | .ite t want body d g x y rs,ρ,W,nid,S,k,r,F,B,a,w,L,j,hm,h,hN,M,f,hk=>by
  simp[RS.bJ,Qa]at j
  let⟨⟨hokb,hokx,hoky⟩,hokr⟩:=j
  simp[RS.flat]at hm;obtain⟨lb,lr,rfl,hmb,hmr⟩:=sb hm
  cases lr with
  |nil=>simp at hmr
  |cons p lr=>
  simp only[QE,Qh,Qd,QN,Qb,List.cons.injEq]at hmr;obtain⟨pg,hpg,gs',hgs,rfl,rfl⟩:=hmr;simp[RS.len]at hN;simp only[jB]at f;split at f
  .rename_i b hb;split at f
   .rename_i hchk;simp[Qa,QR]at hchk
    let⟨i,hskip,htd⟩:=hchk
    have htd:=lh htd
    have fin:∀(v:Bool) (S1:St) (a1:Act) (w1:Wo) (L1:Nat->Va),(∀x,x∉body.dG->S1.env x=S.st.env x)->S1.H=S.st.H->S1.N=S.st.N->Rel E S1 a1 w1 L1->
      (if b then x else y).val S1= .bool v->jB K Γ rs W (nid+(body.len+1)) ((S.forget body.dG).bm (some d) (.bool v) none) k=some r->wpListIn (WF E.rd) 0 P ops Q (p::(lr++B)) a1 w1:=by
     intro v S1 a1 w1 L1 he hH hN1 h1 G hr1
     have hpw:(⟨some d,g,.pick (.tmp t) x y⟩:SG).wanted S1=some true:=by
      rw[SG.wanted]
      cases g with
      |none=>rfl
      |some q=>
       let⟨R,want'⟩:=q
       simp[Ph]at i;split at i
       .rename_i b' hb';simp[Qa,QR]at i;have:S1.env R= .bool b':=by rw[he R (lh i.2)];simp[aw.st,hb',KV.pv]
        simp only[this];rw[HP]at i;rw[i.1]
       .cases i
     have hbt:S1.env t= .bool b:=by rw[he t htd];simp[aw.st,hb,KV.pv]
     have hst:nC (λ_=>none) nid S1 ⟨some d,g,.pick (.tmp t) x y⟩=some (S1.bm (some d) (.bool v) none):=by
      rw[nC,hpw];have hbt':(aM.tmp t).val S1= .bool b:=hbt;simp only[exec,hbt']
      cases b with
      |true=>simp only[Qp]at G;simp only[G];rfl
      |false=>simp only[QQ,QF]at G;simp only[G];rfl
     refine qaN λKK hKK=> ?_
     refine qO IX hpg h1 (show nid<S1.N by rw[hN1];show nid<S.N;omega) (M p t_) hst (λa' w' L' N=>hKK _ _ ?_)
     have h2:Rel E ((S.forget body.dG).bm (some d) (.bool v) none).st a' w' L':=by
      refine N.P6 (by rw[xb];exact hH.symm) (by rw[xb];exact hN1.symm) λR=> ?_
      rw[xb]
      by_cases T:R=d
      .subst T;left;rw[show(S1.bm (some R) (.bool v) none).env R= .bool v from bf _ _ _]
       exact bf _ _ _
      .rw[St.fc _ _ _ (by simpa using λe=>T e.symm),St.fc _ _ _ (by simpa using λe=>T e.symm)]
       cases V:cZ R body.dG with
       |true=>right;simp[aw.st,aw.forget,V,KV.pv]
       |false=>left;simp[aw.st,aw.forget,V];exact(he R (lh V)).symm
     refine hY u rs W (nid+(body.len+1)) _ k r lr B a' w' L' hokr hgs h2 (by first|(show _<=S.N;omega)|(rw[wQ];omega)|(rw[wQ,wQ];omega)) (λo' H=>M o' (by simp[H])) hr1 (λS' a' w' L' hf N I=>hk S' a' w' L' ?_ N I)
     refine mq.trans (S':=(S.forget body.dG).bm (some d) (.bool v) none) (D:=body.dG++[d]) ⟨λR A=> ?_,λid _=>rfl,Ql _,λ_=>rfl⟩ hf λR A=> ?_
     .simp[Qr,qae,Q3]at A;rw[fc _ _ _ _ (by simpa using λe=>A.2 e.symm)]
      have:cZ R body.dG=false:=by
       cases V:cZ R body.dG with
       |true=>exact absurd (cJ.1 V) A.1
       |false=>rfl
      simp[aw.forget,this]
     .simp[RS.dG,Qr,Qk,Q3]at A;exact⟨by simp[A.1,A.2.1],A.2.2⟩
    have m:∀(z:aM) (v:Bool),b=want->z.bJ=true->z=(if b then x else y)->jB K Γ body none nid (S.bm (some t) (.bool b) none) (λS1=>C3 (z.bR S1))=some v->
      jB K Γ rs W (nid+(body.len+1)) ((S.forget body.dG).bm (some d) (.bool v) none) k=some r->wpListIn (WF E.rd) 0 P ops Q (lb++p::(lr++B)) a w:=by
     intro z v _ hz hzz vK hrr;rw[xJ hb]at vK;refine hY u body none nid S _ v lb _ a w L hokb hmb h O (λo' H=>M o' (by simp[H])) vK (λS' a' w' L' hf N I=> ?_)
     have hH:S'.H=S.H:=funext λid=>hf.H id rfl
     have hNN:S'.N=S.N:=hf.Nn rfl;refine fin v S'.st a' w' L' (λx' hx'=>by simp[aw.st,hf.env x' hx']) (by simp[aw.st,hH]) hNN N ?_ hrr
     rw[<-hzz,mY hz,RF I];rfl
    have l:∀(c:Bool),b= !want->(if b then x else y)= .ik (.bool c)->jB K Γ rs W (nid+(body.len+1)) ((S.forget body.dG).bm (some d) (.bool c) none) k=some r->wpListIn (WF E.rd) 0 P ops Q (lb++p::(lr++B)) a w:=by
     intro c hbw J hrr;refine AH lb _ [] S.st a w L hmb h (show 0<S.N by omega) (λo' H=>M o' (by simp[H])) hskip ?_ t_ (λS' a' w' L' he hH hN' N=> ?_)
     .simp[aw.st,hb,KV.pv,hbw]
     .refine fin c S' a' w' L' (λx' hx'=>he x' λhmem=>hx' (mG _ _ hmem)) hH hN' N ?_ hrr
      rw[J];rfl
    rw[qaj,List.cons_append];split at f
    .split at f
     .rename_i c J
      have hy:y= .ik (.bool c):=by
       unfold MF at J;split at J
       .injection J with J;rw[J]
       .cases J
      rw[Qd]at f;obtain⟨v,G,f⟩:=f
      cases b with
      |true=>exact m x v rfl hokx t_ G f
      |false=>
       rw[QO]at G;injection G with G
       subst G;exact l c rfl (by simpa using hy) f
     .cases f
    .split at f
     .rename_i c J
      have hx:x= .ik (.bool c):=by
       unfold MF at J;split at J
       .injection J with J;rw[J]
       .cases J
      rw[Qd]at f;obtain⟨v,G,f⟩:=f
      cases b with
      |false=>exact m y v rfl hoky t_ G f
      |true=>
       rw[qap]at G;injection G with G
       subst G;exact l c rfl (by simpa using hx) f
     .cases f
   .cases f
  .cases f
end
end
end Go.TQ
end
