/-
  Texts made small by a program (see NOTES). Conditions: those that each theorem names.
-/
import Derived.Test.YtofedieniojipaaGreatParticipantSaysMa
import Derived.RangeFuncRecord
set_option linter.unusedVariables false
set_option linter.defProp false
set_option linter.unusedSimpArgs false
set_option linter.unusedSectionVars false
set_option maxHeartbeats 2000000
open Int (toNat)
open Sum (inl inr)
open List (replicate)
noncomputable section
namespace Go.TQ
section
open Go.RowKit
def aX(P:Program)(nt:Nat)(hs:List Nat):Code->Option SC
 | .skip=>some .skip
 | .region _ ops false=>
  match ops.toList.mapM (wF P hs ops)with
  |some gs=>if ops.toList.all (λo=>match o.dst with|some t=>decide (t<nt)|none=>true)then some (.tZ gs)else none
  |none=>none
 | .region _ ops true=>
  match ops.toList.mapM (wF P hs ops)with
  |some gs=>
   if ops.toList.all (λo=>match o.dst with|some t=>decide (t<nt)|none=>true)&&P.follows .mixedOrders then
    match aau ops.toList gs with
    |some un=>some (.rV un gs)
    |none=>none
   else none
  |none=>none
 | .seq x y=>
  match aX P nt hs x,aX P nt hs y with
  |some x',some y'=>some (.seq x' y')
  |_,_=>none
 | .cond c x y=>
  match bH c,aX P nt hs x,aX P nt hs y with
  |some c',some x',some y'=>some (.cond c' x' y')
  |_,_,_=>none
 | .block id c=>(aX P nt hs c).map (.block id)
 | .loop c=>(aX P nt hs c).map .loop
 | .exit id=>some (.exit id)
 | .ret=>some .ret
 | .rangeFunc g ps x y=>
  match bH g,aX P nt hs x,aX P nt hs y with
  |some g',some x',some y'=>if yP x&&yP y&&ps.toList.all (λt=>decide (t<nt))then some (.GC g' ps.toList x' y')else none
  |_,_,_=>none
 |_=>none
section
variable {P : Program} {S : St} {Γ : qv} {nt : Nat} {Q : Exit -> St -> Prop}
def VS(P:Program)(nt:Nat)(sc:SC)(Q:Exit->St->Prop)(S:St):Prop:=∀c hs,aX P nt hs c=some sc->V P nt c Q S
def VS.mono{sc:SC}{Q':Exit->St->Prop}(h:VS P nt sc Q S)(hq:∀e S,Q e S->Q' e S):VS P nt sc Q' S:=λc hs hc=>(h c hs hc).mono hq
def Rc{ops:Array Oper}(h:ops.toList.all (λo=>match o.dst with|some t=>decide (t<nt)|none=>true)=true):∀o∈ops.toList,∀t,o.dst=some t->t<nt:=by intro o ho t ht;have:=QH.1 h o ho;rw[ht]at this;simpa using this
def ag5(h:Q .normal S):VS P nt .skip Q S:=by
 intro c hs hc
 cases c with
 |skip=>exact aiE h
 |region id ops d=>cases d<;>simp only[aX]at hc<;>(try split at hc)<;>(try split at hc)<;>(try split at hc)<;>cases hc
 |seq x y|cond c x y=>simp only[aX]at hc;split at hc<;>cases hc
 |block id c|loop c=>simp only[aX,Qb]at hc;obtain⟨_,_,hc⟩:=hc;cases hc
 |rangeFunc g ps x y=>simp only[aX]at hc;(try split at hc)<;>(try split at hc)<;>cases hc
 |_=>simp only[aX]at hc<;>cases hc
def ag9{id:Nat}(h:Q (.exit id) S):VS P nt (.exit id) Q S:=by
 intro c hs hc
 cases c with
 |exit j=>simp only[aX,Qf,SC.exit.injEq]at hc;subst hc;exact aiF h
 |region id ops d=>cases d<;>simp only[aX]at hc<;>(try split at hc)<;>(try split at hc)<;>(try split at hc)<;>cases hc
 |seq x y|cond c x y=>simp only[aX]at hc;split at hc<;>cases hc
 |block id c|loop c=>simp only[aX,Qb]at hc;obtain⟨_,_,hc⟩:=hc;cases hc
 |rangeFunc g ps x y=>simp only[aX]at hc;(try split at hc)<;>(try split at hc)<;>cases hc
 |_=>simp only[aX]at hc<;>cases hc
def aiI(h:Q .ret S):VS P nt .ret Q S:=by
 intro c hs hc
 cases c with
 |ret=>exact ajN h
 |region id ops d=>cases d<;>simp only[aX]at hc<;>(try split at hc)<;>(try split at hc)<;>(try split at hc)<;>cases hc
 |seq x y|cond c x y=>simp only[aX]at hc;split at hc<;>cases hc
 |block id c|loop c=>simp only[aX,Qb]at hc;obtain⟨_,_,hc⟩:=hc;cases hc
 |rangeFunc g ps x y=>simp only[aX]at hc;(try split at hc)<;>(try split at hc)<;>cases hc
 |_=>simp only[aX]at hc<;>cases hc
def acJ{x y:SC}(h:VS P nt x (RP (VS P nt y Q) Q) S):VS P nt (.seq x y) Q S:=by
 intro c hs hc
 cases c with
 |seq p q=>
  simp only[aX]at hc;split at hc
  ·rename_i x' y' hx hy;injection hc with hc
   injection hc with h1 h2
   subst h1 h2;refine ajM ((h p hs hx).mono ?_);intro e S' hq;cases e<;>first|exact hq q hs hy|exact hq
  ·cases hc
 |region id ops d=>cases d<;>simp only[aX]at hc<;>(try split at hc)<;>(try split at hc)<;>(try split at hc)<;>cases hc
 |cond c x y=>simp only[aX]at hc;split at hc<;>cases hc
 |block id c|loop c=>simp only[aX,Qb]at hc;obtain⟨_,_,hc⟩:=hc;cases hc
 |rangeFunc g ps x y=>simp only[aX]at hc;(try split at hc)<;>(try split at hc)<;>cases hc
 |_=>simp only[aX]at hc<;>cases hc
def aha{c:bB}{x y:SC}{b:Bool}(hb:c.val S= .bool b)(h:VS P nt (if b then x else y) Q S):VS P nt (.cond c x y) Q S:=by
 intro cc hs hc
 cases cc with
 |cond c0 p q=>
  simp only[aX]at hc;split at hc
  ·rename_i c' x' y' hc' hx hy;injection hc with hc
   injection hc with h1 h2 h3
   subst h1 h2 h3;refine aiG hc' hb ?_;cases b
   ·exact h q hs hy
   ·exact h p hs hx
  ·cases hc
 |region id ops d=>cases d<;>simp only[aX]at hc<;>(try split at hc)<;>(try split at hc)<;>(try split at hc)<;>cases hc
 |seq x y=>simp only[aX]at hc;split at hc<;>cases hc
 |block id c|loop c=>simp only[aX,Qb]at hc;obtain⟨_,_,hc⟩:=hc;cases hc
 |rangeFunc g ps x y=>simp only[aX]at hc;(try split at hc)<;>(try split at hc)<;>cases hc
 |_=>simp only[aX]at hc<;>cases hc
def aeo{c:bB}{x y:SC}(hb:c.val S= .gL)(h1:VS P nt x Q S)(h2:VS P nt y Q S):VS P nt (.cond c x y) Q S:=by
 intro cc hs hc
 cases cc with
 |cond c0 p q=>
  simp only[aX]at hc;split at hc
  ·rename_i c' x' y' hc' hx hy;injection hc with hc
   injection hc with e1 e2 e3
   subst e1 e2 e3;intro E hE hk a w L hr;have hv:=hr.jL hc';rw[hb]at hv;generalize hu:a.eval c0=u at hv
   cases hv with
   |gL b=>
    refine wpIn_cond hu ?_;cases b
    ·exact h2 q hs hy E hE hk.afb a w L hr
    ·exact h1 p hs hx E hE hk.afc a w L hr
  ·cases hc
 |region id ops d=>cases d<;>simp only[aX]at hc<;>(try split at hc)<;>(try split at hc)<;>(try split at hc)<;>cases hc
 |seq x y=>simp only[aX]at hc;split at hc<;>cases hc
 |block id c|loop c=>simp only[aX,Qb]at hc;obtain⟨_,_,hc⟩:=hc;cases hc
 |rangeFunc g ps x y=>simp only[aX]at hc;(try split at hc)<;>(try split at hc)<;>cases hc
 |_=>simp only[aX]at hc<;>cases hc
def aep{id:Nat}{x:SC}(h:VS P nt x (Ha id Q) S):VS P nt (.block id x) Q S:=by
 intro c hs hc
 cases c with
 |block j p=>
  simp only[aX,Qb]at hc;obtain⟨x',hx,hc⟩:=hc;injection hc with h1 h2
  subst h1 h2;exact ag4 (h p hs hx)
 |region id ops d=>cases d<;>simp only[aX]at hc<;>(try split at hc)<;>(try split at hc)<;>(try split at hc)<;>cases hc
 |seq x y|cond c x y=>simp only[aX]at hc;split at hc<;>cases hc
 |loop c=>simp only[aX,Qb]at hc;obtain⟨_,_,hc⟩:=hc;cases hc
 |rangeFunc g ps x y=>simp only[aX]at hc;(try split at hc)<;>(try split at hc)<;>cases hc
 |_=>simp only[aX]at hc<;>cases hc
def aiJ{Γs:Nat->qv}(hΓ:∀i,pD P (Γs i)){un:List (Nat×Nat)}{gs:List SG}{S':St}(hr:RX Γs S.N un gs {S with N:=S.N+gs.length}=some S')(h:Q .normal S'):VS P nt (.rV un gs) Q S:=by
 intro c hs hc
 cases c with
 |region id ops d=>
  cases d with
  |false=>simp only[aX]at hc;(try split at hc)<;>(try split at hc)<;>(try split at hc)<;>cases hc
  |true=>
   simp only[aX]at hc;split at hc
   ·rename_i gs' hgs;split at hc
    ·rename_i hd;split at hc
     ·rename_i un' hun;injection hc with hc
      injection hc with h1 h2
      subst h1 h2;rw[Qm]at hd;exact ajO hΓ hd.2 hgs (Rc hd.1) hun hr h
     ·cases hc
    ·cases hc
   ·cases hc
 |seq x y|cond c x y=>simp only[aX]at hc;split at hc<;>cases hc
 |block id c|loop c=>simp only[aX,Qb]at hc;obtain⟨_,_,hc⟩:=hc;cases hc
 |rangeFunc g ps x y=>simp only[aX]at hc;(try split at hc)<;>(try split at hc)<;>cases hc
 |_=>simp only[aX]at hc<;>cases hc
def ev(P:Program)(nt:Nat)(Γ:qv):SC->(Exit->St->Prop)->St->Prop
 | .skip,Q,S=>Q .normal S
 | .tZ gs,Q,S=>match CW Γ S.N gs {S with N:=S.N+gs.length}with|some S'=>Q .normal S'|none=>False
 | .rV un gs,Q,S=>match RX (λ_=>Γ) S.N un gs {S with N:=S.N+gs.length}with|some S'=>Q .normal S'|none=>False
 | .seq x y,Q,S=>ev P nt Γ x (RP (ev P nt Γ y Q) Q) S
 | .cond c x y,Q,S=>match c.val S with| .bool b=>(b=true->ev P nt Γ x Q S)/\(b=false->ev P nt Γ y Q S)| .gL=>ev P nt Γ x Q S/\ev P nt Γ y Q S|_=>False
 | .block id c,Q,S=>ev P nt Γ c (Ha id Q) S
 | .loop c,Q,S=>VS P nt (.loop c) Q S
 | .GC g ps x y,Q,S=>VS P nt (.GC g ps x y) Q S
 | .exit id,Q,S=>Q (.exit id) S
 | .ret,Q,S=>Q .ret S
inductive RV where
 |tmp (t:Nat)
 |cell (t:Nat) (n:Option Nat)
def mO(P:Program):List ResultVar->Option (List RV)
 |[]=>some []
 | .tmp t::rs=>(mO P rs).map (.tmp t::·)
 | .cell t ty::rs=>match vk P ty,mO P rs with
  |some n,some rs'=>some (.cell t n::rs')
  |_,_=>none
def Eb(S:St):RV->Option PV
 | .tmp t=>some (S.env t)
 | .cell t n=>match S.env t with
  | .ptr id av off=>if(S.H id).av=av then(match(S.H id).c with| .box cs=>vB n (cs.drop off)|_=>none)else none
  |_=>none
def yN(S:St):List RV->Option (List PV)
 |[]=>some []
 |r::rs=>match Eb S r,yN S rs with
  |some x,some xs=>some (x::xs)
  |_,_=>none
def vy(S:St)(rs:List RV):Option PV:=
 match yN S rs with
 |some [x]=>some x
 |some xs=>some (.eN xs)
 |none=>none
def dM(pos:Nat)(recv:Bool)(cs args:List PV):St:=
 {env:=λt=>((jF pos (if recv then[.ptr 0 0 0]else[]) args)[t]?).getD .undef,H:=λid=>if recv=true/\id=0 then⟨0,.box cs⟩else⟨0,.dead⟩,N:=if recv then 1 else 0}
abbrev St0:=dM 0
def Wj{α:Type}(p:Nat)(x l:List α):(jF p x l).length=x.length+l.length:=by simp only[jF,QB,List.length_take,List.length_drop];omega
def B0(rs:List RV)(recv:Bool)(R:PV->List PV->Prop)(S:St):Prop:=
 match vy S rs with
 |some x=>match recv with
  |true=>match S.H 0 with
   |⟨0,.box cs'⟩=>cs'.all PV.closed=true/\R (fz S.H (some 0) 9 x) cs'
   |_=>False
  |false=>R (fz S.H none 9 x) []
 |none=>False
def ac2(rs:List RV)(recv:Bool)(R:PV->List PV->Prop):Exit->St->Prop
 | .ret,S| .normal,S=>B0 rs recv R S
 |_,_=>False
def XK{E:En}{a:Act}{w:World}{L:Nat->Value}(h:Rel E S a w L){rv:ResultVar}{r:RV}{x:PV}(hc:mO P [rv]=some [r])(hx:Eb S r=some x):
  ∃v,(match rv with| .tmp t=>pure (a.tmps.getD t undef)| .cell ad t=>do loadVar t (<-asAddr (a.tmps.getD ad undef)):Sem Value).run P w= .ok v w/\bp w (bl E S L) (S.gh L) x v:=by
 cases rv with
 |tmp t=>simp only[mO,Qe,Qf,List.cons.injEq,and_true]at hc;subst hc;simp only[Eb,Qf]at hx;subst hx;exact⟨_,rfl,h.env t⟩
 |cell t ty=>
  simp only[mO]at hc;split at hc
  ·rename_i n rs' hn hrs;injection hc with hc
   injection hc with h1 h2
   subst h1 h2;simp only[Eb]at hx;split at hx
   ·rename_i id av off e;split at hx
    ·rename_i hver;split at hx
     ·rename_i cs hcc;have r:=h.env t;rw[e]at r;obtain⟨hN,_⟩:=r.pP (show(S.gh L).V id=av from hver)
      obtain⟨b,hv,hL⟩:=h.yO r hver hcc;obtain⟨b',cur,T,hL',hh,hr,_⟩:=h.rY hN hcc;rw[hL]at hL';simp only[Value.pointer.injEq,Qf,Addr.mk.injEq]at hL';obtain⟨rfl,_⟩:=hL';obtain⟨v,hrun,hx'⟩:=Ls (P:=P) (ad:=⟨b,off,none⟩) hn (hr.drop off) (λi u hu=>by rw[add_mid];exact rX hh (gX hu)) hx
      exact⟨v,by simp[hv,asAddr,hrun],hx'⟩
     ·cases hx
    ·cases hx
   ·cases hx
  ·cases hc
def JI{E:En}{a:Act}{w:World}{L:Nat->Value}(h:Rel E S a w L):∀(rvs:List ResultVar) (rs:List RV) (xs:List PV),mO P rvs=some rs->yN S rs=some xs->
  ∃vs,(rvs.mapM λ| .tmp t=>pure (a.tmps.getD t undef)| .cell ad t=>do loadVar t (<-asAddr (a.tmps.getD ad undef)):Sem (List Value)).run P w= .ok vs w/\bo w (bl E S L) (S.gh L) xs vs
 |[],rs,xs,hc,hx=>by simp only[mO,Qf]at hc;subst hc;simp only[yN,Qf]at hx;subst hx;exact⟨[],by simp,.nil⟩
 |rv::rvs,rs,xs,hc,hx=>by
  have hsp:∃r rs',rs=r::rs'/\mO P [rv]=some [r]/\mO P rvs=some rs':=by
   cases rv with
   |tmp t=>simp only[mO,Qb]at hc;obtain⟨rs',h1,rfl⟩:=hc;exact⟨_,rs',rfl,rfl,h1⟩
   |cell t ty=>
    simp only[mO]at hc;split at hc
    ·rename_i n rs' hn hrs;injection hc with hc
     subst hc;exact⟨_,rs',rfl,by simp[mO,hn],hrs⟩
    ·cases hc
  obtain⟨r,rs',rfl,h1,h2⟩:=hsp;simp only[yN]at hx;split at hx
  ·rename_i x xs' hx1 hx2;injection hx with hx
   subst hx;obtain⟨v,hv,hr⟩:=XK h h1 hx1;obtain⟨vs,hvs,hrs⟩:=JI h rvs rs' xs' h2 hx2;refine⟨v::vs,?_,.cons hr hrs⟩;simp only[Qq75,Sem.run_bind]
   erw [hv]
   simp only[Result.andThen_ok]
   erw [hvs]
   rfl
  ·cases hx
def B1{E:En}{a:Act}{w:World}{L:Nat->Value}(h:Rel E S a w L){fn:Func}{rs:List RV}{x:PV}(hc:mO P fn.results.toList=some rs)(hx:vy S rs=some x):
  ∃v,(results fn a.tmps).run P w= .ok v w/\bp w (bl E S L) (S.gh L) x v:=by
 unfold vy at hx
 cases hl:yN S rs with
 |none=>rw[hl]at hx;cases hx
 |some xs=>
  rw[hl]at hx;obtain⟨vs,hvs,hr⟩:=JI h _ _ _ hc hl
  have hrun:(results fn a.tmps).run P w= .ok (if h:vs.toArray.size=1 then vs.toArray[0]else .tuple vs.toArray) w:=by
   unfold results;rw[Array.mapM_eq_mapM_toList];simp only[Sem.run_bind,map_eq_pure_bind]
   erw [hvs]
   rfl
  refine⟨_,hrun,?_⟩
  match xs,vs,hr,hx with
  |[],vs,hr,hx=>
   injection hx with hx
   subst hx;have:=hr.te;subst this;exact .eN _ _ hr.1 hr.2
  |[y],vs,hr,hx=>
   injection hx with hx
   subst hx;obtain⟨v,vs',rfl,h1,h2⟩:=hr.cons_inv;have:=h2.te;subst this;exact h1
  |y::z::ys,vs,hr,hx=>
   injection hx with hx
   subst hx;obtain⟨v,vs',rfl,h1,h2⟩:=hr.cons_inv;obtain⟨u,us,rfl,h3,h4⟩:=h2.cons_inv;rw[dif_neg (by simp)]
   exact .eN _ _ hr.1 hr.2
def DW{w w':World}(h:w.heap=#[]):Di w w':=⟨by rw[h];exact QS _,λk o hk _=>by rw[h]at hk;simp at hk⟩
def Rel.shut{E:En}{S:St}{a:Act}{w:World}{L:Nat->Value}(h:Rel E S a w L)(hwk:E.wk.heap=#[]){d:Deferred}{ds:List Deferred}(hd:a.defers=d::ds):
  ∃D w',d.target= .collected D/\(Instr.takeDeferred D).run P w= .ok [] w'/\Rel E S {a with defers:=ds} w' L:=by
 have hnd:=h.defers.nodup;rw[hd,List.nodup_cons]at hnd;obtain⟨D,h1,h2,h3⟩:=h.defers.at_ d (by rw[hd];exact Qx)
 have hoth:∀k,k≠D->(w.putObj D (.deferred none)).heap[k]?=w.heap[k]?:=λk hk=>World.putObj_heap_other hk
 have hcell:∀(p:Addr) (v:Value),w.cell? p=some v->p.block≠D:=by intro p v hp e;unfold World.cell? at hp;rw[e,h3]at hp;simp at hp
 have hs:cZ w (w.putObj D (.deferred none)) (bl E S L) (bl E S L):=⟨λp v hp hm=>⟨(World.cell?_of_block (hoth _ (hcell p v hp))).trans hp,hm⟩,λb es ck hb hm=>⟨(hoth b (λe=>by rw[e,h3]at hb;cases hb)).trans hb,hm⟩⟩
 have hne:∀id b,id<S.N->(S.H id).c.live=true->cd (L id)=some b->b≠D:=by
  intro id b hid hl hb e;obtain⟨o,h4,h5⟩:=(h.obj id hid).cells hl hb;rw[e,h3]at h4;injection h4 with h4
  rw[<-h4]at h5;cases h5
 refine⟨D,w.putObj D (.deferred none),by rw[h1],run_takeDeferred h3,⟨λe=>(by have:=h.defers.none e;rw[hd]at this;cases this),hnd.2,λd' hd'=> ?_⟩,h.size,λt=>(h.env t).mono hs (Gh.le.refl _),λid hid=> ?_,h.apart,h.fresh,
  ⟨⟨h.fr.os,h.fr.tape,h.fr.output,by rw[World.putObj_size];exact h.fr.size,λb hb hr=>by rw[hoth b (by omega)];exact h.fr.block b hb hr,h.fr.drawn⟩,DW hwk⟩,h.Bb,h.an.1.trans ⟨λb o h1 h2 hnm=>⟨(hoth b (λe=>by rw[e,h3]at h1;injection h1 with h1;rw[<-h1]at h2;cases h2)).trans h1,hnm⟩⟩,h.an.2.1,λb hH=>(let⟨q1,⟨o,q2,q4,q5⟩,q6⟩:=h.an.2.2 b hH;⟨q1,⟨o,q2,q4,(hoth b (λe=>by rw[e,h3]at q5;injection q5 with q5;rw[<-q5]at q4;cases q4)).trans q5⟩,q6⟩)⟩
 ·obtain⟨D',h4,h5,h6⟩:=h.defers.at_ d' (by rw[hd];exact Qy _ hd')
  have hDD:D'≠D:=by intro e;subst e;rw[<-h1]at h4;exact hnd.1 (h4▸hd')
  exact⟨D',h4,h5,by rw[hoth _ hDD];exact h6⟩
 ·cases hl:(S.H id).c.live with
  |false=>
   cases hc:(S.H id).c with
   |dead=>trivial
   |box cs|row e k es=>rw[hc]at hl;cases hl
  |true=>exact(h.obj id hid).mono hs (Gh.le.refl _) (λb hb _=>hoth b (hne id b hid hl hb))
def MK{E:En}{S:St}{L:Nat->Value}(hwk:E.wk.heap=#[]){fn:Func}{R:Ending->World->Prop}{tmps:Array Value}(hR:∀w',Rel E S {tmps:=tmps,defers:=[]} w' L->∃v,(results fn tmps).run P w'= .ok v w'/\R (.returned v) w'):
  ∀(ds:List Deferred) (w:World),Rel E S {tmps:=tmps,defers:=ds} w L->LeavesInM (WF none) 0 P fn tmps R ds .returning w
 |[],w,h=>hR w h
 |d::ds,w,h=>by obtain⟨D,w',h1,h2,h3⟩:=Rel.shut (P:=P) h hwk rfl;exact⟨(λe=>by cases e),.inl ⟨D,w',h1,h2,MK hwk hR ds w' h3⟩⟩
def FL{f:FuncId}{fn:Func}{c:Code}{E:En}{S0:St}{Q:Exit->St->Prop}{args:Array Value}{w:World}{L:Nat->Value}{R:Ending->World->Prop}(hf:P.funcs[f]?=some fn)(hb:fn.body=some c)(h:V P fn.ntmps c Q S0)
  (hE:E.nt=fn.ntmps) (hrd:E.rd=none/\E.nd=false) (hkt:∀t,E.kt t=none) (hwk:E.wk.heap=#[]) (hrel:Rel E S0 {tmps:=args++Array.replicate (fn.ntmps - args.size) undef,defers:=[]} w L)
  (fin:∀(e:Exit) (S':St) (L':Nat->Value) (a':Act) (w':World),Rel E S' a' w' L'->Q e S'->(e= .ret\/e= .normal)/\∃v,(results fn a'.tmps).run P w'= .ok v w'/\R (.returned v) w'):Calls P f args w R:=by
 have h0:=h E hE ⟨λt _=>hkt t,.inl hrd⟩ _ w L hrel
 rw[hrd.1]at h0;refine DK.1 (callsIn_of_wp_marks (F:=WF none) (n:=0) hf hb trivial (wpIn_mono h0 ?_));rintro e a' w' ⟨S',L',h1,h2⟩
 have h3:LeavesInM (WF none) 0 P fn a'.tmps R a'.defers .returning w':=
  MK hwk (λw'' hw''=>(fin e S' L' _ w'' hw'' h2).2) a'.defers w' h1
 rcases(fin e S' L' a' w' h1 h2).1 with rfl|rfl<;>exact h3
def acp{f:FuncId}{fn:Func}{c:Code}{sc:SC}{rs:List RV}{pos:Nat}{recv:Bool}{cs args cs':List PV}{r:PV}(hf:P.funcs[f]?=some fn)(hb:fn.body=some c){hs:List Nat}(hc:aX P fn.ntmps hs c=some sc)(hrs:mO P fn.results.toList=some rs)
  (hlen:(if recv then 1 else 0)+args.length<=fn.ntmps) (h:VS P fn.ntmps sc (ac2 rs recv λr' cs''=>r'=r/\(recv=true->cs''=cs')) (dM pos recv cs args)):LM P f pos recv cs args r cs':=by
 intro w X hX rb T rvs vs hrecv hargs
 have hrb0:∀b,(if recv then some rb else none)=some b->b<w.heap.size/\¬gb b:=by
  intro b hb
  cases recv with
  |false=>cases hb
  |true=>simp only[Qt,Qf]at hb;subst hb;exact⟨(Q9.1 (hrecv rfl).1).1,(hrecv rfl).2.2⟩
 let E:En:={w0:=w,rb:=if recv then some rb else none,nt:=fn.ntmps,X:=X,H0:=λ_=>False,hX:=⟨λb hb=>hX.lt b hb.1,λb hb=>hX.ng b hb.1,hX.gi⟩,NP:=recv,rv:= .pointer (some ⟨rb,0,none⟩),rk:=false,Df:=hrb0,PO:=λh=>(by cases h),rd:=none,nd:=false,kt:=λ_=>none,wk:={w with heap:=#[]},wm:=w,M0:=λ_=>True}
 let L:Nat->Value:=λ_=> .pointer (some ⟨rb,0,none⟩)
 have hvl:vs.length=args.length:=hargs.1
 have hm:∀b,bl E (dM pos recv cs args) L b->Mc recv rb X b:=by
  rintro b (⟨id,hid,hl,hb⟩|hb)
  ·simp only[dM]at hid hl
   cases recv with
   |false=>simp at hid
   |true=>simp only[L,cd,Qf]at hb;exact .inl ⟨rfl,hb.symm⟩
  ·exact .inr hb
 have hm':∀b,Mc recv rb X b->bl E (dM pos recv cs args) L b:=by
  rintro b (⟨h1,h2⟩|hb)
  ·subst h2;exact .inl ⟨0,by simp[dM,h1],by simp[dM,h1,xW.live],rfl⟩
  ·exact .inr hb
 have hst:cZ w w (Mc recv rb X) (bl E (dM pos recv cs args) L):=(cZ.of λ_ hn=>λh'=>hn (hm _ h'))
 have hrel:Rel E (dM pos recv cs args) {tmps:=(jF pos (vz recv rb) vs).toArray++Array.replicate (fn.ntmps - (jF pos (vz recv rb) vs).toArray.size) undef,defers:=[]} w L:=by
  refine⟨Marks.nil rfl,⟨?_,λt v hv=>by cases hv⟩,λt=> ?_,λid hid=> ?_,λi j b hi hj _ _ _ _=> ?_,λid hid=> ?_,⟨Fr.refl _ _,DW rfl⟩,λ_ _ _=>rfl,Kept.top _ _ _,λid b hid _ _ _=>(by cases recv<;>simp[dM]at hid<;>omega),λb hb=>hb.elim⟩
  ·cases recv<;>simp[vz,E,Wj]at hlen ⊢<;>omega
  ·have hget:(((jF pos (vz recv rb) vs).toArray++Array.replicate (fn.ntmps - (jF pos (vz recv rb) vs).toArray.size) undef).getD t undef)=((jF pos (vz recv rb) vs)[t]?).getD undef:=by
    rw[QN,Array.getElem?_append]
    by_cases ht:t<(jF pos (vz recv rb) vs).toArray.size
    ·rw[Qr ht];simp
    ·rw[Qs ht,Array.getElem?_replicate];have hn:(jF pos (vz recv rb) vs)[t]?=none:=Qq72 (by simpa using ht)
     rw[hn];split<;>rfl
   simp only;rw[hget]
   have hall:bo w (bl E (dM pos recv cs args) L) ((dM pos recv cs args).gh L) (jF pos (if recv then[.ptr 0 0 0]else[]) args) (jF pos (vz recv rb) vs):=by
    have ha:=hargs.mono hst (ed.le ((dM pos recv cs args).gh L));refine((ha.take pos).append ?_).append (ha.drop pos)
    cases recv with
    |false=>exact .nil
    |true=>simp only[vz,Qt];exact .cons (.ptr _ _ _ _ (by simp[St.gh,dM]) (QS _) (λ_=>by simp[St.gh,L,cd])) .nil
   show bp w _ _ (((jF pos (if recv then[.ptr 0 0 0]else[]) args:List PV)[t]?).getD .undef) _
   cases hx:(jF pos (if recv then[.ptr 0 0 0]else[]) args:List PV)[t]? with
   |none=>
    have:(jF pos (vz recv rb) vs)[t]?=none:=by rw[List.getElem?_eq_none_iff]at hx ⊢;rw[hall.1];exact hx
    rw[this];exact .undef
   |some x=>obtain⟨v,hv,hr⟩:=hall.get hx;rw[hv];exact hr
  ·cases recv with
   |false=>simp[dM]at hid
   |true=>
    simp[dM]at hid;subst hid;obtain⟨h1,h2,_⟩:=hrecv rfl;have e:((dM pos true cs args).H 0).c= .box cs:=by simp[dM]
    rw[e];exact⟨rb,rvs.toArray,T,rfl,h1,.inl (by simp[E]),by simpa using h2.mono hst (ed.le ((dM pos true cs args).gh L))⟩
  ·cases recv with
   |false=>simp[dM]at hi
   |true=>simp[dM]at hi hj;omega
  ·cases recv with
   |false=>simp[dM]
   |true=>simp[dM]at hid ⊢;omega
 have fin:∀(S':St) (L':Nat->Value) (a':Act) (w':World),Rel E S' a' w' L'->B0 rs recv (λr' cs''=>r'=r/\(recv=true->cs''=cs')) S'->
   ∃v,(results fn a'.tmps).run P w'= .ok v w'/\Zd recv rb X w r cs' (.returned v) w':=by
  intro S' L' a' w' h' hret;unfold B0 at hret;split at hret
  ·rename_i x hx;obtain⟨v,hv,hrep⟩:=B1 h' hrs hx;refine⟨v,hv,?_⟩
   cases recv with
   |false=>
    simp only[Qq,false_implies,and_true]at hret;subst hret;refine⟨v,[],rfl,?_,(λhq=>by cases hq),h'.fr.toFr⟩
    refine h'.fz (λb hb=> ?_) (λid b hid hl _ hb hq=> ?_) 9 hrep
    ·rcases hb with⟨hb,_⟩|hb
     ·cases hb
     ·exact .inr hb
    ·rcases hq with⟨hq,_⟩|hq
     ·cases hq
     ·rcases((h'.obj id hid).yr hl hb).2 with h1|h1
      ·simp[E]at h1
      ·have:=hX.lt b hq;simp only[E]at h1;omega
   |true=>
    simp only at hret;split at hret
    ·rename_i cs'' hH;obtain⟨hcl,rfl,hcs⟩:=hret;have hcs:=hcs trivial;subst hcs
     have hN0:0<S'.N:=by
      rcases Nat.eq_zero_or_pos S'.N with h0|h0
      ·have:=h'.fresh 0 (by omega)
       rw[hH]at this;cases this
      ·exact h0
     have hL0:L' 0= .pointer (some ⟨rb,0,none⟩):=h'.Bb rfl (by rw[hH];rfl) (by rw[hH])
     obtain⟨b,cur,T',hL',hh,hr,_⟩:=h'.rY hN0 (show(S'.H 0).c= .box cs'' by rw[hH])
     rw[hL0]at hL';simp only[Value.pointer.injEq,Qf,Addr.mk.injEq]at hL';obtain⟨rfl,_⟩:=hL'
     have hsub:∀q,Mc true rb X q->bl E S' L' q:=by
      rintro q (⟨_,rfl⟩|hq)
      ·exact .inl ⟨0,hN0,by rw[hH];rfl,by rw[hL0];rfl⟩
      ·exact .inr hq
     refine⟨v,cur.toList,rfl,?_,λ_=>⟨?_,hr.closed hcl hsub⟩,h'.fr.toFr⟩
     ·refine h'.fz hsub (λid b hid hl hne hb hq=> ?_) 9 hrep
      have hnb:b≠rb:=λe=>hne (by rw[h'.apart id 0 b hid hN0 hl (by rw[hH];rfl) hb (by rw[hL0,e];rfl)])
      rcases hq with⟨_,hq⟩|hq
      ·exact hnb hq
      ·rcases((h'.obj id hid).yr hl hb).2 with h1|h1
       ·simp only[E,Qt,Qf]at h1;exact hnb h1.symm
       ·have:=hX.lt b hq;simp only[E]at h1;omega
     ·exact⟨T',by simpa using hh⟩
    ·exact hret.elim
  ·exact hret.elim
 exact FL hf hb (h c hs hc) rfl ⟨rfl,rfl⟩ (λ_=>rfl) rfl hrel λe S' L' a' w' h1 h2=>by
  cases e with
  |normal=>exact⟨.inr rfl,fin S' L' a' w' h1 h2⟩
  |ret=>exact⟨.inl rfl,fin S' L' a' w' h1 h2⟩
  |exit i|goto l|panic c|outgrown=>exact h2.elim
def VP(rs:List RV)(R:List PV->Prop):Exit->St->Prop
 | .ret,S=>match vy S rs with
  |some (.ptr id av 0)=>if(S.H id).av=av then(match(S.H id).c with| .box cs=>cs.all PV.closed=true/\R cs|_=>False)else False
  |_=>False
 |_,_=>False
def agR{f:FuncId}{fn:Func}{c:Code}{sc:SC}{rs:List RV}{args cs:List PV}(hf:P.funcs[f]?=some fn)(hb:fn.body=some c){hs:List Nat}(hc:aX P fn.ntmps hs c=some sc)(hrs:mO P fn.results.toList=some rs)
  (hlen:args.length<=fn.ntmps) (h:VS P fn.ntmps sc (VP rs λcs'=>cs'=cs) (dM 0 false [] args)):aaS P f args cs:=by
 intro w X hX vs hargs
 let E:En:={w0:=w,rb:=none,nt:=fn.ntmps,X:=X,H0:=λ_=>False,hX:=⟨λb hb=>hX.lt b hb.1,λb hb=>hX.ng b hb.1,hX.gi⟩,NP:=false,rv:=undef,rk:=false,Df:=λb hb=>(by cases hb),PO:=λh=>(by cases h),rd:=none,nd:=false,kt:=λ_=>none,wk:={w with heap:=#[]},wm:=w,M0:=λ_=>True}
 let L:Nat->Value:=λ_=> .pointer none
 have hst:cZ w w X (bl E (dM 0 false [] args) L):=(cZ.of λ_ hn h'=>hn (by
  rcases h' with⟨id,hid,_⟩|h'
  ·simp[dM]at hid
  ·exact h'))
 have hvl:vs.length=args.length:=hargs.1
 have hrel:Rel E (dM 0 false [] args) {tmps:=vs.toArray++Array.replicate (fn.ntmps - vs.toArray.size) undef,defers:=[]} w L:=by
  refine⟨Marks.nil rfl,⟨?_,λt v hv=>by cases hv⟩,λt=> ?_,λid hid=> ?_,λi j b hi hj _ _ _ _=> ?_,λid hid=> ?_,⟨Fr.refl _ _,DW rfl⟩,λhb _ _=>(by cases hb),Kept.top _ _ _,λid b hid _ _ _=>(by simp[dM]at hid),λb hb=>hb.elim⟩
  ·simp[E];omega
  ·have hget:((vs.toArray++Array.replicate (fn.ntmps - vs.toArray.size) undef).getD t undef)=(vs[t]?).getD undef:=by
    rw[QN,Array.getElem?_append]
    by_cases ht:t<vs.toArray.size
    ·rw[Qr ht];simp
    ·rw[Qs ht,Array.getElem?_replicate];have hn:vs[t]?=none:=Qq72 (by simpa using ht)
     rw[hn];split<;>rfl
   simp only;rw[hget];have ha:=hargs.mono hst (ed.le ((dM 0 false [] args).gh L));show bp w _ _ ((([]++args:List PV)[t]?).getD .undef) _;rw[List.nil_append]
   cases hx:args[t]? with
   |none=>
    have:vs[t]?=none:=by rw[List.getElem?_eq_none_iff]at hx ⊢;omega
    rw[this];exact .undef
   |some x=>obtain⟨v,hv,hr⟩:=ha.get hx;rw[hv];exact hr
  ·simp[dM]at hid
  ·simp[dM]at hi
  ·simp[dM]
 refine FL hf hb (h c hs hc) rfl ⟨rfl,rfl⟩ (λ_=>rfl) rfl hrel λe S' L' a' w' h' hq=> ?_
 cases e with
 |ret=>
  simp only[VP]at hq;split at hq
  ·rename_i id av hx;split at hq
   ·rename_i hver;split at hq
    ·rename_i cs' hcc;obtain⟨hcl,rfl⟩:=hq;obtain⟨v,hv,hrep⟩:=B1 h' hrs hx;obtain⟨hN,_⟩:=hrep.pP (show(S'.gh L').V id=av from hver)
     obtain⟨b,hvb,hL⟩:=h'.yO hrep hver hcc;obtain⟨b',cur,T,hL',hh,hr,hE⟩:=h'.rY hN hcc;rw[hL]at hL';simp only[Value.pointer.injEq,Qf,Addr.mk.injEq]at hL';obtain⟨rfl,_⟩:=hL';refine⟨.inl rfl,v,hv,b,cur.toList,T,by rw[hvb],?_,by simpa using hh,?_,h'.fr.toFr⟩
     ·rcases hE with h1|h1
      ·simp[E]at h1
      ·exact h1
     ·refine hr.closed hcl ?_;rintro q (hq|rfl)
      ·exact .inr hq
      ·exact .inl ⟨id,hN,by rw[hcc];rfl,by rw[hL];rfl⟩
    ·exact hq.elim
   ·exact hq.elim
  ·exact hq.elim
 |normal|exit i|goto l|panic c|outgrown=>exact hq.elim
def vm(e k:Nat)(es:List (List PV))(args:List PV):St:=
 {env:=λt=>((.own 0 0::args)[t]?).getD .undef,H:=λid=>if id=0 then⟨0,.row e k es⟩else⟨0,.dead⟩,N:=1}
def FW(rs:List RV)(e k:Nat)(R:List (List PV)->Prop):Exit->St->Prop
 | .ret,S| .normal,S=>match vy S rs with
  |some (.own id av)=>(S.H id).av=av/\(match(S.H id).c with
   | .row e' k' es'=>e'=e/\k'=k/\Ct es'=true/\R es'
   |_=>False)
  |_=>False
 |_,_=>False
def aa6{fn:Func}{e k:Nat}{es:List (List PV)}{args:List PV}{w:World}{X:Nat->Prop}(hX:xG w X){v:Value}{vs:List Value}(hXn:∀b,cd v=some b->¬X b/\¬gb b)(hrow:AH w (Mv v X) e k v es)(hargs:bo w (Mv v X) ed args vs)(hlen:1+args.length<=fn.ntmps):
  ∃E:En,E.w0=w/\E.rb=cd v/\E.nt=fn.ntmps/\E.X=X/\E.NP=true/\E.rv=v/\(E.rd=none/\E.nd=false)/\(∀t,E.kt t=none)/\E.wk.heap=#[]/\
   Rel E (vm e k es args) {tmps:=(v::vs).toArray++Array.replicate (fn.ntmps - (v::vs).toArray.size) undef,defers:=[]} w (λ_=>v):=by
 obtain⟨us,hown,hk,hr⟩:=hrow
 have hsz:∀b,cd v=some b->b<w.heap.size:=by
  intro b hb;rcases hown.2 with⟨rfl,_⟩|⟨g,cap,cur,rfl,_,hh,_⟩
  ·cases hb
  ·simp only[cd,Qf]at hb;subst hb;exact(Q9.1 hh).1
 let E:En:={w0:=w,rb:=cd v,nt:=fn.ntmps,X:=X,H0:=λ_=>False,hX:=⟨λb hb=>hX.lt b hb.1,λb hb=>hX.ng b hb.1,hX.gi⟩,NP:=true,rv:=v,rk:=true,Df:=λb hb=>⟨hsz b hb,(hXn b hb).2⟩,PO:=λ_ b hb=>(hXn b hb).1,rd:=none,nd:=false,kt:=λ_=>none,wk:={w with heap:=#[]},wm:=w,M0:=λ_=>True}
 have hm:∀b,bl E (vm e k es args) (λ_=>v) b↔Mv v X b:=by
  intro b;constructor
  ·rintro(⟨id,hid,hl,hb⟩|hb)
   ·exact .inl hb
   ·exact .inr hb
  ·rintro(hb|hb)
   ·exact .inl ⟨0,by simp[vm],by simp[vm,xW.live],hb⟩
   ·exact .inr hb
 have hst:cZ w w (Mv v X) (bl E (vm e k es args) (λ_=>v)):=(cZ.of λ_ hn=>λh'=>hn ((hm _).1 h'))
 obtain⟨ad,n0,c0,hvs⟩:∃ad n c,v= .slice ad n c:=by
  rcases hown.2 with⟨h1,_⟩|⟨g,cap,cur,h1,_⟩
  ·exact⟨_,_,_,h1⟩
  ·exact⟨_,_,_,h1⟩
 have hvl:vs.length=args.length:=hargs.1;refine⟨E,rfl,rfl,rfl,rfl,rfl,rfl,⟨rfl,rfl⟩,λ_=>rfl,rfl,⟨Marks.nil rfl,⟨?_,λt v hv=>by cases hv⟩,λt=> ?_,λid hid=> ?_,λi j b hi hj _ _ _ _=> ?_,λid hid=> ?_,⟨Fr.refl _ _,DW rfl⟩,λ_ _ _=>rfl,Kept.top _ _ _,λid b hid _ _ _=>(by simp[vm]at hid;omega),λb hb=>hb.elim⟩⟩
 ·simp[E];omega
 ·have hget:(((v::vs).toArray++Array.replicate (fn.ntmps - (v::vs).toArray.size) undef).getD t undef)=((v::vs)[t]?).getD undef:=by
   rw[QN,Array.getElem?_append]
   by_cases ht:t<(v::vs).toArray.size
   ·rw[Qr ht];simp
   ·rw[Qs ht,Array.getElem?_replicate];have hn:(v::vs)[t]?=none:=Qq72 (by simpa using ht)
    rw[hn];split<;>rfl
  simp only;rw[hget]
  have hall:bo w (bl E (vm e k es args) (λ_=>v)) ((vm e k es args).gh (λ_=>v)) (.own 0 0::args) (v::vs):=by refine .cons ?_ (hargs.mono hst (ed.le _));rw[hvs];exact .own _ _ _ _ _ (by simp[St.gh,vm]) (QS _) (λ_=>rfl)
  show bp w _ _ (((.own 0 0::args:List PV)[t]?).getD .undef) _
  cases hx:((.own 0 0::args:List PV))[t]? with
  |none=>
   have:(v::vs)[t]?=none:=by rw[List.getElem?_eq_none_iff]at hx ⊢;rw[hall.1];exact hx
   rw[this];exact .undef
  |some x=>obtain⟨u,hu,hru⟩:=hall.get hx;rw[hu];exact hru
 ·have:id=0:=by simp[vm]at hid;exact hid
  subst this;have he:((vm e k es args).H 0).c= .row e k es:=by simp[vm]
  rw[he];refine⟨us,⟨hown.1,?_⟩,hk,hr.mono hst (ed.le _)⟩;rcases hown.2 with h1|⟨g,cap,cur,h1,_,h3⟩
  ·exact .inl h1
  ·refine .inr ⟨g,cap,cur,h1,?_,h3⟩;have hb:cd v=some g:=by rw[h1];rfl
   have:fN E v=0:=by unfold fN;rw[Qr ⟨rfl,by simp[E,hb],rfl⟩]
   rw[this];exact QS _
 ·simp[vm]at hi hj;omega
 ·simp[vm]at hid ⊢;omega
def Yl{E:En}{S':St}{L':Nat->Value}{a':Act}{w':World}{X:Nat->Prop}(hEX:E.X=X)(h':Rel E S' a' w' L'){fn:Func}{rs:List RV}(hrs:mO P fn.results.toList=some rs){e k:Nat}{es':List (List PV)}(hret:FW rs e k (λes''=>es''=es') .ret S'):
  ∃u,(results fn a'.tmps).run P w'= .ok u w'/\AH w' (Mv u X) e k u es'/\∀b,cd u=some b->E.rb=some b\/E.w0.heap.size<=b:=by
 simp only[FW]at hret;split at hret
 ·rename_i id av hx;obtain⟨hver,hret⟩:=hret;split at hret
  ·rename_i e0 k0 es0 hc;obtain⟨rfl,rfl,hok,rfl⟩:=hret;obtain⟨u,hu,hrep⟩:=B1 h' hrs hx;obtain⟨hN,hv⟩:=hrep.n4 (show(S'.gh L').V id=av from hver)
   have hv:u=L' id:=hv;subst hv;have hlive:(S'.H id).c.live=true:=by rw[hc];rfl
   obtain⟨us,hown,hk,hr⟩:=h'.lx hN hc;refine⟨_,hu,⟨us,Ej hown,hk,hr.closed (FZ hok) ?_⟩,λb hb=>((h'.obj id hN).yr hlive hb).2⟩
   rintro q (hq|hq)
   ·exact .inl ⟨id,hN,hlive,hq⟩
   ·exact .inr (by rw[hEX];exact hq)
  ·exact hret.elim
 ·exact hret.elim
def agT{f:FuncId}{fn:Func}{c:Code}{sc:SC}{rs:List RV}{e k:Nat}{es es':List (List PV)}{args:List PV}(hf:P.funcs[f]?=some fn)(hb:fn.body=some c){hs:List Nat}(hc:aX P fn.ntmps hs c=some sc)(hrs:mO P fn.results.toList=some rs)
  (hlen:1+args.length<=fn.ntmps) (h:VS P fn.ntmps sc (FW rs e k λes''=>es''=es') (vm e k es args)):Od P f e k es args es':=by
 intro w X hX v vs hXn hrow hargs;obtain⟨E,e1,e2,e3,e4,e5,e6,e7,e8,e9,hrel⟩:=aa6 (fn:=fn) hX hXn hrow hargs hlen;subst e1;refine FL hf hb (h c hs hc) e3 e7 e8 e9 hrel λen S' L' a' w' h1 h2=> ?_
 have fin:FW rs e k (λes''=>es''=es') .ret S'->∃u,(results fn a'.tmps).run P w'= .ok u w'/\∃u',Ending.returned u= .returned u'/\AH w' (Mv u' X) e k u' es'/\(∀b,cd u'=some b->cd v=some b\/E.w0.heap.size<=b)/\Fr (cd v) E.w0 w':=by
  intro hret;obtain⟨u,hu,hrow',hub⟩:=Yl e4 h1 hrs hret;refine⟨u,hu,u,rfl,hrow',?_,by rw[<-e2];exact h1.fr.toFr⟩
  rw[<-e2];exact hub
 cases en with
 |normal=>exact⟨.inr rfl,fin h2⟩
 |ret=>exact⟨.inl rfl,fin h2⟩
 |exit i|goto l|panic c|outgrown=>exact h2.elim
def agS{f:FuncId}{fn:Func}{c:Code}{sc:SC}{rs:List RV}{e k:Nat}{es':List (List PV)}{args:List PV}(hf:P.funcs[f]?=some fn)(hb:fn.body=some c){hs:List Nat}(hc:aX P fn.ntmps hs c=some sc)(hrs:mO P fn.results.toList=some rs)
  (hlen:args.length<=fn.ntmps) (h:VS P fn.ntmps sc (FW rs e k λes''=>es''=es') (dM 0 false [] args)):Xy P f args e k es':=by
 intro w X hX vs hargs
 let E:En:={w0:=w,rb:=none,nt:=fn.ntmps,X:=X,H0:=λ_=>False,hX:=⟨λb hb=>hX.lt b hb.1,λb hb=>hX.ng b hb.1,hX.gi⟩,NP:=false,rv:=undef,rk:=false,Df:=λb hb=>(by cases hb),PO:=λh=>(by cases h),rd:=none,nd:=false,kt:=λ_=>none,wk:={w with heap:=#[]},wm:=w,M0:=λ_=>True}
 let L:Nat->Value:=λ_=> .pointer none
 have hst:cZ w w X (bl E (dM 0 false [] args) L):=(cZ.of λ_ hn h'=>hn (by
  rcases h' with⟨id,hid,_⟩|h'
  ·simp[dM]at hid
  ·exact h'))
 have hvl:vs.length=args.length:=hargs.1
 have hrel:Rel E (dM 0 false [] args) {tmps:=vs.toArray++Array.replicate (fn.ntmps - vs.toArray.size) undef,defers:=[]} w L:=by
  refine⟨Marks.nil rfl,⟨?_,λt v hv=>by cases hv⟩,λt=> ?_,λid hid=> ?_,λi j b hi hj _ _ _ _=> ?_,λid hid=> ?_,⟨Fr.refl _ _,DW rfl⟩,λhb _ _=>(by cases hb),Kept.top _ _ _,λid b hid _ _ _=>(by simp[dM]at hid),λb hb=>hb.elim⟩
  ·simp[E];omega
  ·have hget:((vs.toArray++Array.replicate (fn.ntmps - vs.toArray.size) undef).getD t undef)=(vs[t]?).getD undef:=by
    rw[QN,Array.getElem?_append]
    by_cases ht:t<vs.toArray.size
    ·rw[Qr ht];simp
    ·rw[Qs ht,Array.getElem?_replicate];have hn:vs[t]?=none:=Qq72 (by simpa using ht)
     rw[hn];split<;>rfl
   simp only;rw[hget];have ha:=hargs.mono hst (ed.le ((dM 0 false [] args).gh L));show bp w _ _ ((([]++args:List PV)[t]?).getD .undef) _;rw[List.nil_append]
   cases hx:args[t]? with
   |none=>
    have:vs[t]?=none:=by rw[List.getElem?_eq_none_iff]at hx ⊢;omega
    rw[this];exact .undef
   |some x=>obtain⟨v,hv,hr⟩:=ha.get hx;rw[hv];exact hr
  ·simp[dM]at hid
  ·simp[dM]at hi
  ·simp[dM]
 refine FL hf hb (h c hs hc) rfl ⟨rfl,rfl⟩ (λ_=>rfl) rfl hrel λen S' L' a' w' h1 h2=> ?_
 have fin:FW rs e k (λes''=>es''=es') .ret S'->∃u,(results fn a'.tmps).run P w'= .ok u w'/\∃u',Ending.returned u= .returned u'/\AH w' (Mv u' X) e k u' es'/\(∀b,cd u'=some b->w.heap.size<=b)/\Fr none w w':=by
  intro hret;obtain⟨u,hu,hrow',hub⟩:=Yl (E:=E) rfl h1 hrs hret;refine⟨u,hu,u,rfl,hrow',λb hbb=> ?_,h1.fr.toFr⟩
  rcases hub b hbb with h3|h3
  ·cases h3
  ·exact h3
 cases en with
 |normal=>exact⟨.inr rfl,fin h2⟩
 |ret=>exact⟨.inl rfl,fin h2⟩
 |exit i|goto l|panic c|outgrown=>exact h2.elim
def iO(P:Program)(f:FuncId)(nt:Nat)(sc:SC)(rs:List RV):Prop:=
 ∃fn hs,P.funcs[f]?=some fn/\fn.ntmps=nt/\(fn.body.bind (aX P nt hs))=some sc/\mO P fn.results.toList=some rs/\(fn.name== "runtime.NumGoroutine")=false
def iO.enters{f:FuncId}{sc:SC}{rs:List RV}(h:iO P f nt sc rs):Enters P f:=by
 obtain⟨fn,hs,h1,_,h3,_,h5⟩:=h;refine⟨fn,h1,?_,h5⟩
 cases hb:fn.body with
 |none=>rw[hb]at h3;cases h3
 |some c=>rfl
def iO.Ri{f:FuncId}{sc:SC}{rs:List RV}(h:iO P f nt sc rs){pos:Nat}{recv:Bool}{cs args cs':List PV}{r:PV}(hlen:(if recv then 1 else 0)+args.length<=nt)
  (hv:VS P nt sc (ac2 rs recv λr' cs''=>r'=r/\(recv=true->cs''=cs')) (dM pos recv cs args)):LM P f pos recv cs args r cs':=by
 obtain⟨fn,hs,h1,rfl,h3,h4,_⟩:=h
 cases hb:fn.body with
 |none=>rw[hb]at h3;cases h3
 |some c=>rw[hb]at h3;exact acp h1 hb h3 h4 hlen hv
def iO.akJ{f:FuncId}{sc:SC}{rs:List RV}(h:iO P f nt sc rs){args cs:List PV}(hlen:args.length<=nt)
  (hv:VS P nt sc (VP rs λcs'=>cs'=cs) (dM 0 false [] args)):aaS P f args cs:=by
 obtain⟨fn,hs,h1,rfl,h3,h4,_⟩:=h
 cases hb:fn.body with
 |none=>rw[hb]at h3;cases h3
 |some c=>rw[hb]at h3;exact agR h1 hb h3 h4 hlen hv
def iO.akL{f:FuncId}{sc:SC}{rs:List RV}(h:iO P f nt sc rs){e k:Nat}{es es':List (List PV)}{args:List PV}(hlen:1+args.length<=nt)
  (hv:VS P nt sc (FW rs e k λes''=>es''=es') (vm e k es args)):Od P f e k es args es':=by
 obtain⟨fn,hs,h1,rfl,h3,h4,_⟩:=h
 cases hb:fn.body with
 |none=>rw[hb]at h3;cases h3
 |some c=>rw[hb]at h3;exact agT h1 hb h3 h4 hlen hv
def iO.akK{f:FuncId}{sc:SC}{rs:List RV}(h:iO P f nt sc rs){e k:Nat}{es':List (List PV)}{args:List PV}(hlen:args.length<=nt)
  (hv:VS P nt sc (FW rs e k λes''=>es''=es') (dM 0 false [] args)):Xy P f args e k es':=by
 obtain⟨fn,hs,h1,rfl,h3,h4,_⟩:=h
 cases hb:fn.body with
 |none=>rw[hb]at h3;cases h3
 |some c=>rw[hb]at h3;exact agS h1 hb h3 h4 hlen hv
def tab:List (FuncId×Model)->qv
 |[],_=>none
 |(g,m)::l,f=>if f=g then some m else tab l f
end
end
section
 def mkM{α:Type}(gn:α->List PV)(pre:α->Prop)(spec:α->PV):Model:=
 {recv:=false,pos:=0,fresh:=false,m:=λ_ args=>open Classical in if h:∃x,args=gn x/\pre x then some (spec (Classical.choose h),[])else none,rk:= .no,ro:=false,rm:=λ_ _=>none}
def abM{α:Type}{gn:α->List PV}{pre:α->Prop}{spec:α->PV}:(mkM gn pre spec).fresh=false:=rfl
def adE{α:Type}{gn:α->List PV}{pre:α->Prop}{spec:α->PV}:(mkM gn pre spec).recv=false:=rfl
@[simp] def ajV {α:Type} (f:Nat->α) (i:Nat) (x:α) (j:Nat):bU f i x j=if j=i then x else f j:=rfl
@[simp] def akr (g:FuncId) (m:Model) (l:List (FuncId×Model)) (f:FuncId):tab ((g,m)::l) f=if f=g then some m else tab l f:=rfl
@[simp] def akO (S:St) (ts:List Nat) (n t:Nat):(S.cut ts n).env t=if t∈ts then S.env t else .any:=rfl
@[simp] def ak1 (S:St) (ts:List Nat) (n id:Nat):(S.cut ts n).H id=if id<n then S.H id else⟨0,.dead⟩:=rfl
@[simp] def ak0 (S:St) (ts:List Nat) (n:Nat):(S.cut ts n).N=n:=rfl
attribute [simp] ev CW ya SG.wanted exec St.cz bB.val St0 dM jF RP ac2 B0 Ha ajs vy yN Eb fz vB tq wA PV.cells PV.one PV.closed iT LG KO Ro nJ PV.vV PV.plain PV.rI PV.bJ PV.xj kR
 RX qd CI Gf G3 iv gR zd EG adE abM VP PV.oU
section
variable (n : Nat)
@[simp] def aj6:PV.under n .any=true:=rfl
@[simp] def aiU:PV.under n .undef=true:=rfl
@[simp] def aj3 (k:IntKind) (i:Int):PV.under n (.int k i)=true:=rfl
@[simp] def ai4 (b:Bool):PV.under n (.bool b)=true:=rfl
@[simp] def aiV:PV.under n .gL=true:=rfl
@[simp] def ajY (s:ByteArray):PV.under n (.str s)=true:=rfl
@[simp] def ai1:PV.under n .lL=true:=rfl
@[simp] def ai0:PV.under n .eG=true:=rfl
@[simp] def aj0 (cs:List PV):PV.under n (.ref cs)=true:=rfl
@[simp] def akq (es:List (List PV)):PV.under n (.sl es)=true:=rfl
@[simp] def aj2 (i v:Nat):PV.under n (.own i v)=decide (i<n):=rfl
@[simp] def aj1 (i v o:Nat):PV.under n (.ptr i v o)=decide (i<n):=rfl
@[simp] def ai2 (i v k j o:Nat):PV.under n (.fh i v k j o)=decide (i<n):=rfl
@[simp] def aiZ (i v k j o:Nat):PV.under n (.view i v k j o)=decide (i<n):=rfl
@[simp] def aj7 (cs:List PV):PV.under n (.agg cs)=cs.all (PV.oU n):=rfl
@[simp] def ajX (cs:List PV):PV.under n (.eN cs)=cs.all (PV.oU n):=rfl
@[simp] def aj4 (f:FuncId) (cs:List PV):PV.under n (.bI f cs)=cs.all (PV.oU n):=rfl
@[simp] def ai3:xW.under n .dead=true:=rfl
@[simp] def aj5 (cs:List PV):xW.under n (.box cs)=cs.all (PV.under n):=rfl
@[simp] def ajZ (e k:Nat) (es:List (List PV)):xW.under n (.row e k es)=es.all λu=>u.all (PV.under n):=rfl
end
def LO:Nat->(Nat->Prop)->Prop
 |0,_=>True
 |n+1,p=>LO n p/\p n
def KR{p:Nat->Prop}:∀{n:Nat},LO n p↔∀i,i<n->p i
 |0=>by simp[LO]
 |n+1=>by
  rw[LO,KR];refine⟨λh i hi=> ?_,λh=>⟨λi hi=>h i (by omega),h n (by omega)⟩⟩
  by_cases e:i=n
  ·rw[e];exact h.2
  ·exact h.1 i (by omega)
def acn{S:St}{ts:List Nat}{n:Nat}:aaQ S ts n↔n<=S.N/\(∀t∈ts,(S.env t).under n=true)/\LO n λid=>(S.H id).c.under n=true:=
 ⟨λh=>⟨h.N,h.env,KR.2 h.H⟩,λh=>⟨h.1,h.2.1,KR.1 h.2.2⟩⟩
attribute [simp] acn LO
def i64_in{n:Int}(h: -9223372036854775808<=n)(h':n<=9223372036854775807):IntKind.i64.wrap n=n:=by rw[IntKind.wrap_i64];omega
end
section
structure TU where
 Ty:Type
 Y0:DecidableEq Ty
 den:Ty->Type
 pv:(t:Ty)->den t->List PV
 size:Ty->Nat
 agg:Ty->Bool
 plain:Ty->Bool
inductive KV (U:TU) where
 |any
 |undef
 |int (k:IntKind) (n:Int)
 |bool (b:Bool)
 |gL
 |str (s:ByteArray)
 |lL
 |eG
 |bI (f:FuncId) (caps:List (KV U))
 |jz (f:FuncId) (first:List (KV U))
 |agg (cs:List (KV U))
 |eN (cs:List (KV U))
 |ptr (id av off:Nat)
 |ref (cs:List (KV U))
 |sl (T:U.Ty) (xs:List (U.den T))
 |own (id av:Nat)
 |fh (id av k i off:Nat)
 |view (id av k lo n:Nat)
 |jQ (A B:U.Ty) (xs:List (U.den A×U.den B))
def fC{U:TU}(T:U.Ty)(v:U.den T):PV:=
 match U.agg T with
 |true=> .agg (U.pv T v)
 |false=>(U.pv T v).headD .any
section
variable {U : TU}
mutual
def KV.pv:KV U->PV
 | .any=> .any
 | .undef=> .undef
 | .int k n=> .int k n
 | .bool b=> .bool b
 | .gL=> .gL
 | .str s=> .str s
 | .lL=> .lL
 | .eG=> .eG
 | .bI f cs=> .bI f (KV.IP cs)
 | .jz f cs=> .jz f (KV.IP cs)
 | .agg cs=> .agg (KV.IP cs)
 | .eN cs=> .eN (KV.IP cs)
 | .ptr id av off=> .ptr id av off
 | .ref cs=> .ref (KV.IP cs)
 | .sl T xs=> .sl (xs.map (U.pv T))
 | .own id av=> .own id av
 | .fh id av k i off=> .fh id av k i off
 | .view id av k lo n=> .view id av k lo n
 | .jQ A B xs=> .jQ (xs.map λp=>fC A p.1) (xs.map λp=>fC B p.2)
def KV.IP:List (KV U)->List PV
 |[]=>[]
 |x::l=>KV.pv x::KV.IP l
end
def KV.c9:∀(l:List (KV U)),KV.IP l=l.map KV.pv
 |[]=>by simp[KV.IP]
 |x::l=>by simp[KV.IP,KV.c9 l]
inductive dY (U:TU) where
 |dead
 |box (cs:List (KV U))
 |row (e k:Nat) (T:U.Ty) (xs:List (U.den T))
 |raw (e k:Nat) (es:List (List (KV U)))
structure dv (U:TU) where
 av:Nat
 c:dY U
structure aW (U:TU) where
 env:Nat->KV U
 H:Nat->dv U
 N:Nat
def dY.pv:dY U->xW
 | .dead=> .dead
 | .box cs=> .box (cs.map KV.pv)
 | .row e k T xs=> .row e k (xs.map (U.pv T))
 | .raw e k es=> .row e k (es.map λc=>c.map KV.pv)
def dv.pv(o:dv U):gm:=⟨o.av,o.c.pv⟩
def aW.st(S:aW U):St:=⟨λt=>(S.env t).pv,λid=>(S.H id).pv,S.N⟩
def hY{α:Type}(f:Nat->α)(i:Nat)(x:α)(j:Nat):α:=
 match Nat.beq j i with
 |true=>x
 |false=>f j
def dO{α:Type}(f:Nat->α)(i:Nat)(x:α):hY f i x=bU f i x:=by
 funext j
 unfold hY bU;split
 ·rename_i h;rw[Qr (QF h)]
 ·rename_i h;rw[Qs (Nat.ne_of_beq_eq_false h)]
def aW.cz(S:aW U)(d:Option Nat)(x:KV U)(wr:Option (Nat×dv U)):aW U:=
 {env:=match d with|some d=>hY S.env d x|none=>S.env,H:=match wr with|some (id,o)=>hY S.H id o|none=>S.H,N:=S.N}
def kQ(p:Nat×dv U):Nat×gm:=(p.1,p.2.pv)
def pN{α β:Type}(g:α->β)(f:Nat->α)(i:Nat)(x:α):(λj=>g (bU f i x j))=bU (λj=>g (f j)) i (g x):=by
 funext j
 unfold bU;split<;>rfl
def Gy(S:aW U)(d:Option Nat)(x:KV U)(wr:Option (Nat×dv U)):(S.cz d x wr).st=S.st.cz d x.pv (wr.map kQ):=by
 unfold aW.cz St.cz aW.st;congr 1
 ·cases d with
  |none=>rfl
  |some d=>simp only[dO];exact pN _ _ _ _
 ·cases wr with
  |none=>rfl
  |some p=>obtain⟨i,o⟩:=p;simp only[dO,Qe,kQ];exact pN _ _ _ _
abbrev Lk(U:TU):=Nat->Nat->(T:U.Ty)->Option (List (U.den T))
def yG{U:TU}(T' T:U.Ty)(xs:List (U.den T')):Option (List (U.den T)):=
 match U.Y0 T' T with
 |isTrue h=>some (h▸xs)
 |isFalse _=>none
def nm{T' T:U.Ty}{xs:List (U.den T')}{ys:List (U.den T)}(h:yG T' T xs=some ys):∃e:T'=T,ys=e▸xs:=by
 unfold yG at h;split at h
 ·rename_i e _;injection h with h;exact⟨e,h.symm⟩
 ·cases h
def aW.lk(S:aW U):Lk U:=λid av T=>
 match Nat.beq (S.H id).av av with
 |true=>match(S.H id).c with
  | .row _ _ T' xs=>yG T' T xs
  |_=>none
 |false=>none
def td:Lk U:=λ_ _ _=>none
def adZ(k:IntKind):KV U->Option Int
 | .int k' n=>if k'=k then some n else none
 |_=>none
def KE:KV U->Option Bool
 | .bool b=>some b
 |_=>none
def adX:KV U->Option ByteArray
 | .str s=>some s
 |_=>none
def WO(lk:Lk U)(T:U.Ty):KV U->Option (List (U.den T))
 | .eG=>some []
 | .sl T' xs=>yG T' T xs
 | .own id av=>lk id av T
 |_=>none
def aay{U:TU}(A' B' A B:U.Ty)(xs:List (U.den A'×U.den B')):Option (List (U.den A×U.den B)):=
 match U.Y0 A' A with
 |isTrue h=>(match U.Y0 B' B with
  |isTrue h'=>some (h▸h'▸xs)
  |isFalse _=>none)
 |isFalse _=>none
def aax{A' B' A B:U.Ty}{xs:List (U.den A'×U.den B')}{ys:List (U.den A×U.den B)}(h:aay A' B' A B xs=some ys):∃(e:A'=A) (e':B'=B),ys=e▸e'▸xs:=by
 unfold aay at h;split at h
 ·rename_i e _;split at h
  ·rename_i e' _;injection h with h;exact⟨e,e',h.symm⟩
  ·cases h
 ·cases h
def adY(A B:U.Ty):KV U->Option (List (U.den A×U.den B))
 | .jQ A' B' xs=>aay A' B' A B xs
 |_=>none
inductive nW (lk:Lk U):KV U->PV->Prop where
 |int (k:IntKind) (n:Int):nW lk (.int k n) (.int k n)
 |bool (b:Bool):nW lk (.bool b) (.bool b)
 |str (s:ByteArray):nW lk (.str s) (.str s)
 |eG:nW lk .eG (.sl [])
 |sl (T:U.Ty) (xs:List (U.den T)):nW lk (.sl T xs) (.sl (xs.map (U.pv T)))
 |own (id av:Nat) (T:U.Ty) (xs:List (U.den T)) (h:lk id av T=some xs):nW lk (.own id av) (.sl (xs.map (U.pv T)))
 |jQ (A B:U.Ty) (xs:List (U.den A×U.den B)):nW lk (.jQ A B xs) (.jQ (xs.map λp=>fC A p.1) (xs.map λp=>fC B p.2))
def agJ{lk:Lk U}{A B:U.Ty}{x:KV U}{xs:List (U.den A×U.den B)}(h:adY A B x=some xs):nW lk x (.jQ (xs.map λp=>fC A p.1) (xs.map λp=>fC B p.2)):=by
 unfold adY at h;split at h
 ·obtain⟨e,e',rfl⟩:=aax h;subst e;subst e';exact .jQ _ _ _
 ·cases h
def agL{lk:Lk U}{k:IntKind}{x:KV U}{n:Int}(h:adZ k x=some n):nW lk x (.int k n):=by
 unfold adZ at h;split at h
 ·split at h
  ·rename_i e;injection h with h;subst h e;exact .int _ _
  ·cases h
 ·cases h
def agN{lk:Lk U}{x:KV U}{b:Bool}(h:KE x=some b):nW lk x (.bool b):=by
 unfold KE at h;split at h
 ·injection h with h;subst h;exact .bool _
 ·cases h
def agI{lk:Lk U}{x:KV U}{s:ByteArray}(h:adX x=some s):nW lk x (.str s):=by
 unfold adX at h;split at h
 ·injection h with h;subst h;exact .str _
 ·cases h
def agK{lk:Lk U}{T:U.Ty}{x:KV U}{xs:List (U.den T)}(h:WO lk T x=some xs):nW lk x (.sl (xs.map (U.pv T))):=by
 unfold WO at h;split at h
 ·injection h with h;subst h;exact .eG
 ·obtain⟨e,rfl⟩:=nm h;subst e;exact .sl _ _
 ·exact .own _ _ _ _ h
 ·cases h
def PV.ib:PV->Bool
 | .int ..| .bool _| .str _| .sl _| .jQ ..=>true
 |_=>false
inductive iI (lk:Lk U):List (KV U)->List PV->Prop where
 |nil:iI lk [] []
 |cons {x:KV U} {y:PV} {xs:List (KV U)} {ys:List PV} (h:nW lk x y) (t:iI lk xs ys):iI lk (x::xs) (y::ys)
structure TK (U:TU) where
 gn:(t:U.Ty)->U.den t->List (KV U)
 dec:(t:U.Ty)->Lk U->List (KV U)->Option (U.den t)
 U9:Nat->Option U.Ty
 uO:∀t v,(gn t v).map KV.pv=U.pv t v
 oZ:∀t lk cs v,dec t lk cs=some v->iI lk cs (U.pv t v)
 len:∀t v,(U.pv t v).length=U.size t
 ib:∀t v y,y∈U.pv t v->y.ib=true
 one:∀t,U.agg t=false->U.size t=1
 plain:∀t,U.plain t=true->∀v y,y∈U.pv t v->y.plain=true
 VW:U.Ty->Option (IntKind×IntKind)
 R8:∀t k l,VW t=some (k,l)->U.agg t=true/\∀v,∃a b,gn t v=[.int k a,.int l b]
variable (K : TK U)
def Bm(T:U.Ty)(v:U.den T):KV U:=
 match U.agg T with
 |true=> .agg (K.gn T v)
 |false=>(K.gn T v).headD .any
def Ff(lk:Lk U)(T:U.Ty)(x:KV U):Option (U.den T):=
 match U.agg T with
 |true=>(match x with| .agg cs=>K.dec T lk cs|_=>none)
 |false=>K.dec T lk [x]
def DR(T:U.Ty)(v:U.den T):(Bm K T v).pv=fC T v:=by
 unfold Bm fC;split
 ·simp only[KV.pv,KV.c9,K.uO]
 ·rename_i h;have h1:=K.len T v;rw[K.one T h]at h1;have h2:=K.uO T v
  cases he:K.gn T v with
  |nil=>rw[he]at h2;simp at h2;rw[h2]at h1;simp at h1
  |cons x l=>rw[he]at h2;rw[<-h2];rfl
def PV.dE:PV->Bool
 | .int ..| .bool _| .str _| .lL| .eG| .any| .bI _ []=>true
 |_=>false
def KV.IS:PV->KV U
 | .int k n=> .int k n
 | .bool b=> .bool b
 | .str s=> .str s
 | .lL=> .lL
 | .eG=> .eG
 | .bI f []=> .bI f []
 |_=> .any
def bB.dE:bB->Bool
 | .tmp _=>true
 | .zH x=>x.dE
def bB.dj(S:aW U):bB->KV U
 | .tmp t=>S.env t
 | .zH x=>KV.IS x
def vb{S:aW U}{x:bB}(h:x.dE=true):x.val S.st=(x.dj S).pv:=by
 cases x with
 |tmp t=>rfl
 |zH x=>simp only[bB.dE]at h;unfold PV.dE at h;split at h<;>first|rfl|(cases h)
def KV.cells:KV U->List (KV U)
 | .agg cs=>cs
 |x=>[x]
def KV.one:KV U->Bool
 | .int ..| .bool _| .gL| .str _| .lL| .eG| .bI ..| .jz ..| .ptr ..| .fh ..| .ref _| .sl ..| .own ..| .view ..| .jQ ..=>true
 |_=>false
def KV.closed:KV U->Bool
 | .int ..| .bool _| .str _| .lL| .eG| .sl ..| .ref _| .jQ ..| .bI _ []=>true
 |_=>false
def KV.bJ:KV U->Bool
 | .agg cs| .eN cs| .bI _ cs=>cs.all KV.closed
 |x=>x.closed
def ah5(x:KV U):x.pv.one=x.one:=by
 cases x with
 |_=>simp[KV.pv,PV.one,KV.one]
def acs(x:KV U):x.pv.closed=x.closed:=by
 cases x with
 |bI f cs=>cases cs<;>simp[KV.pv,KV.IP,PV.closed,KV.closed]
 |_=>simp[KV.pv,PV.closed,KV.closed]
def zh(x:KV U):x.pv.cells=x.cells.map KV.pv:=by
 cases x with
 |_=>simp[KV.pv,PV.cells,KV.cells,KV.c9]
def rp(l:List (KV U)):(l.map KV.pv).all PV.closed=l.all KV.closed:=by
 induction l with
 |nil=>rfl
 |cons x l ih=>simp only[QD,Qq70,acs,ih]
def xm(l:List (KV U)):(l.map KV.pv).all PV.one=l.all KV.one:=by
 induction l with
 |nil=>rfl
 |cons x l ih=>simp only[QD,Qq70,ah5,ih]
def aat(x:KV U):x.pv.bJ=x.bJ:=by
 cases x with
 |agg cs|eN cs|bI f cs=>simp only[KV.pv,PV.bJ,KV.bJ,KV.c9];exact rp cs
 |_=>simp[KV.pv,PV.bJ,KV.bJ,PV.closed,KV.closed]
end
end
section
open Go.RowKit
section
variable {P : Program} {nt : Nat} {hs : List Nat}
def CM{c:Code}{x y:SC}(h:aX P nt hs c=some (.seq x y)):∃p q,c= .seq p q/\aX P nt hs p=some x/\aX P nt hs q=some y:=by
 cases c with
 |seq p q=>
  simp only[aX]at h;split at h
  ·rename_i x' y' hx hy;injection h with h
   injection h with h1 h2
   subst h1 h2;exact⟨p,q,rfl,hx,hy⟩
  ·cases h
 |region id ops d=>cases d<;>simp only[aX]at h<;>(try split at h)<;>(try split at h)<;>(try split at h)<;>cases h
 |cond c x y=>simp only[aX]at h;split at h<;>cases h
 |block id c|loop c=>simp only[aX,Qb]at h;obtain⟨_,_,h⟩:=h;cases h
 |rangeFunc g ps x y=>simp only[aX]at h;split at h<;>(try split at h)<;>cases h
 |_=>simp only[aX]at h<;>cases h
def Rk{c:Code}{o:bB}{x y:SC}(h:aX P nt hs c=some (.cond o x y)):∃o' p q,c= .cond o' p q/\bH o'=some o/\aX P nt hs p=some x/\aX P nt hs q=some y:=by
 cases c with
 |cond o' p q=>
  simp only[aX]at h;split at h
  ·rename_i c' x' y' hc hx hy;injection h with h
   injection h with h1 h2 h3
   subst h1 h2 h3;exact⟨o',p,q,rfl,hc,hx,hy⟩
  ·cases h
 |region id ops d=>cases d<;>simp only[aX]at h<;>(try split at h)<;>(try split at h)<;>(try split at h)<;>cases h
 |seq x y=>simp only[aX]at h;split at h<;>cases h
 |block id c|loop c=>simp only[aX,Qb]at h;obtain⟨_,_,h⟩:=h;cases h
 |rangeFunc g ps x y=>simp only[aX]at h;split at h<;>(try split at h)<;>cases h
 |_=>simp only[aX]at h<;>cases h
def MW{c:Code}{id:Nat}{x:SC}(h:aX P nt hs c=some (.block id x)):∃p,c= .block id p/\aX P nt hs p=some x:=by
 cases c with
 |block j p=>
  simp only[aX,Qb]at h;obtain⟨x',hx,h⟩:=h;injection h with h1 h2
  subst h1 h2;exact⟨p,rfl,hx⟩
 |region id ops d=>cases d<;>simp only[aX]at h<;>(try split at h)<;>(try split at h)<;>(try split at h)<;>cases h
 |seq x y|cond c x y=>simp only[aX]at h;split at h<;>cases h
 |loop c=>simp only[aX,Qb]at h;obtain⟨_,_,h⟩:=h;cases h
 |rangeFunc g ps x y=>simp only[aX]at h;split at h<;>(try split at h)<;>cases h
 |_=>simp only[aX]at h<;>cases h
def aav{c:Code}{x:SC}(h:aX P nt hs c=some (.loop x)):∃p,c= .loop p/\aX P nt hs p=some x:=by
 cases c with
 |loop p=>
  simp only[aX,Qb]at h;obtain⟨x',hx,h⟩:=h;injection h with h1
  subst h1;exact⟨p,rfl,hx⟩
 |region id ops d=>cases d<;>simp only[aX]at h<;>(try split at h)<;>(try split at h)<;>(try split at h)<;>cases h
 |seq x y|cond c x y=>simp only[aX]at h;split at h<;>cases h
 |block id c=>simp only[aX,Qb]at h;obtain⟨_,_,h⟩:=h;cases h
 |rangeFunc g ps x y=>simp only[aX]at h;split at h<;>(try split at h)<;>cases h
 |_=>simp only[aX]at h<;>cases h
def Uf{c:Code}{gs:List SG}(h:aX P nt hs c=some (.tZ gs)):∃id ops,c= .region id ops false/\ops.toList.mapM (wF P hs ops)=some gs/\∀o∈ops.toList,∀t,o.dst=some t->t<nt:=by
 cases c with
 |region id ops d=>
  cases d with
  |true=>simp only[aX]at h;(try split at h)<;>(try split at h)<;>(try split at h)<;>cases h
  |false=>
   simp only[aX]at h;split at h
   ·rename_i gs' hgs;split at h
    ·rename_i hd;injection h with h
     injection h with h
     subst h;exact⟨id,ops,rfl,hgs,Rc hd⟩
    ·cases h
   ·cases h
 |seq x y|cond c x y=>simp only[aX]at h;split at h<;>cases h
 |block id c|loop c=>simp only[aX,Qb]at h;obtain⟨_,_,h⟩:=h;cases h
 |rangeFunc g ps x y=>simp only[aX]at h;split at h<;>(try split at h)<;>cases h
 |_=>simp only[aX]at h<;>cases h
def aaw{c:Code}{id:Nat}(h:aX P nt hs c=some (.exit id)):c= .exit id:=by
 cases c with
 |exit j=>simp only[aX,Qf,SC.exit.injEq]at h;rw[h]
 |region id ops d=>cases d<;>simp only[aX]at h<;>(try split at h)<;>(try split at h)<;>(try split at h)<;>cases h
 |seq x y|cond c x y=>simp only[aX]at h;split at h<;>cases h
 |block id c|loop c=>simp only[aX,Qb]at h;obtain⟨_,_,h⟩:=h;cases h
 |rangeFunc g ps x y=>simp only[aX]at h;split at h<;>(try split at h)<;>cases h
 |_=>simp only[aX]at h<;>cases h
def Rj{c:Code}(h:aX P nt hs c=some .skip):c= .skip:=by
 cases c with
 |skip=>rfl
 |region id ops d=>cases d<;>simp only[aX]at h<;>(try split at h)<;>(try split at h)<;>(try split at h)<;>cases h
 |seq x y|cond c x y=>simp only[aX]at h;split at h<;>cases h
 |block id c|loop c=>simp only[aX,Qb]at h;obtain⟨_,_,h⟩:=h;cases h
 |rangeFunc g ps x y=>simp only[aX]at h;split at h<;>(try split at h)<;>cases h
 |_=>simp only[aX]at h<;>cases h
def acv{c:Code}(h:aX P nt hs c=some .ret):c= .ret:=by
 cases c with
 |ret=>rfl
 |region id ops d=>cases d<;>simp only[aX]at h<;>(try split at h)<;>(try split at h)<;>(try split at h)<;>cases h
 |seq x y|cond c x y=>simp only[aX]at h;split at h<;>cases h
 |block id c|loop c=>simp only[aX,Qb]at h;obtain⟨_,_,h⟩:=h;cases h
 |rangeFunc g ps x y=>simp only[aX]at h;split at h<;>(try split at h)<;>cases h
 |_=>simp only[aX]at h<;>cases h
def jw{α β:Type}{f:α->Option β}{l:List α}{y:β}{ys:List β}(h:l.mapM f=some (y::ys)):∃x xs,l=x::xs/\f x=some y/\xs.mapM f=some ys:=by
 cases l with
 |nil=>simp at h
 |cons x xs=>simp only[Qq75,Qd,Qc,Option.pure_def,Qf,List.cons.injEq]at h;obtain⟨z,hz,zs,hzs,rfl,rfl⟩:=h;exact⟨x,xs,rfl,hz,hzs⟩
def J4{α β:Type}{f:α->Option β}{l:List α}(h:l.mapM f=some []):l=[]:=by
 cases l with
 |nil=>rfl
 |cons x xs=>simp only[Qq75,Qd,Qc,Option.pure_def,Qf]at h;obtain⟨z,hz,zs,hzs,h⟩:=h;cases h
def Ue{o:Oper}{fv:bB}{xs:List bB}(h:FH P hs o=some (.uw fv xs)):∃(g:Operand) (args:Array Operand) (ts:Array TypeId),o.op= .call {callee:= .value g,args:=args,argTypes:=ts}/\bH g=some fv/\args.toList.mapM bH=some xs:=by
 unfold FH at h;split at h
 case h_22 fop args ats hop=>
  simp only[Qd,Qc]at h;obtain⟨ys,hys,h⟩:=h;split at h
  ·cases h
  ·simp only[Qc,Qf,cu.uw.injEq]at h;obtain⟨fv',hfv,rfl,rfl⟩:=h;exact⟨_,_,_,hop,hfv,hys⟩
 all_goals (repeat' (first|(cases h;done)|split at h|(simp only[Qd,Qc]at h;obtain⟨_,_,h⟩:=h)|(obtain⟨_,_,h⟩:=h)))
def zf{x:Operand}{t:Nat}(h:bH x=some (.tmp t)):x= .tmp t:=by
 cases x with
 |tmp u=>simp only[bH,Qf,bB.tmp.injEq]at h;rw[h]
 |const v=>simp only[bH,Qb]at h;obtain⟨_,_,h⟩:=h;cases h
 |global g|func f=>simp[bH]at h
end
def ER(k:Nat)(nE:Option Nat):SC:=
 .seq (.tZ [⟨some 4,none,.load none (.tmp 1)⟩,⟨some 5,none,.len false (.tmp 4)⟩,⟨some 6,none,.bin .sub (.tmp 5) (.zH (.int .i64 1))⟩,⟨some 3,none,.qj (.tmp 6)⟩])
  (.block 0 (.loop (.seq (.seq (.tZ [⟨some 7,none,.qj (.tmp 3)⟩,⟨some 8,none,.bin .geq (.tmp 7) (.zH (.int .i64 0))⟩]) (.cond (.tmp 8) .skip (.exit 0)))
   (.seq (.block 1 (.seq (.tZ [⟨some 11,none,.qj (.tmp 0)⟩,⟨some 12,none,.qj (.tmp 3)⟩,⟨some 13,none,.load none (.tmp 1)⟩,⟨some 14,none,.qj (.tmp 3)⟩,⟨some 15,none,.uo k (.tmp 13) (.tmp 14)⟩,
    ⟨some 16,none,.load nE (.tmp 15)⟩,⟨some 17,none,.uw (.tmp 11) [.tmp 12,.tmp 16]⟩,⟨some 18,none,.not (.tmp 17)⟩]) (.cond (.tmp 18) .ret .skip)))
    (.tZ [⟨some 9,none,.qj (.tmp 3)⟩,⟨some 10,none,.bin .sub (.tmp 9) (.zH (.int .i64 1))⟩,⟨some 3,none,.qj (.tmp 10)⟩])))))
section
variable {P : Program}
def uK:qv:=λ_=>none
def VN:pD P uK:=λ_ _ h=>by cases h
def Vi{Γ:qv}(hΓ:pD P Γ){E:En}{hs:List Nat}{ops:Array Oper}{l2:List Oper}:∀(l:List Oper) (gs:List SG) (nid:Nat) (S S':St) (a:Act) (w:World) (L:Nat->Value),l.mapM (wF P hs ops)=some gs->Rel E S a w L->nid+l.length<=S.N->
  (∀o∈l,∀t,o.dst=some t->E.can t)->CW Γ nid gs S=some S'->∀{Q:Exit->Act->World->Prop},(∀a' w' L',Rel E S' a' w' L'->wpListIn (WF E.rd) 0 P ops Q l2 a' w')->wpListIn (WF E.rd) 0 P ops Q (l++l2) a w
 |[],gs,nid,S,S',a,w,L,hm,h,hN,hd,hr,Q,hQ=>by simp at hm;subst hm;simp only[CW,Qf]at hr;subst hr;exact hQ a w L h
 |o::l,gs,nid,S,S',a,w,L,hm,h,hN,hd,hr,Q,hQ=>by
  simp only[Qq75,Qd,Qc,Option.pure_def,Qf]at hm;obtain⟨g,hg,gs',hgs,rfl⟩:=hm;simp only[CW]at hr;split at hr
  ·rename_i S1 hs;rw[List.cons_append];refine wpListIn_step λK hK=> ?_
   refine zw hΓ hg h (by simp at hN;omega) (hd o (by simp)) hs (λa' w' L' h'=>hK _ _ ?_)
   exact Vi hΓ l gs' (nid+1) S1 S' a' w' L' hgs h' (by rw[aeF hs];simp at hN;omega) (λo' ho'=>hd o' (by simp[ho'])) hr hQ
  ·cases hr
def EB(nt:Nat)(W:World)(X:Nat->Prop)(hX:xG W X)(kt:Nat->Option Value):En:=
 {w0:=W,rb:=none,nt:=nt,X:=X,H0:=λ_=>False,hX:=⟨λb hb=>hX.lt b hb.1,λb hb=>hX.ng b hb.1,hX.gi⟩,NP:=false,rv:=undef,rk:=false,Df:=λb hb=>(by cases hb),PO:=λh=>(by cases h),rd:=none,nd:=true,kt:=kt,wk:={W with heap:=#[]},wm:=W,M0:=λ_=>True}
def SB(env:Nat->PV):St:={env:=env,H:=λ_=>⟨0,.dead⟩,N:=8}
def UM{nt:Nat}{W:World}{X:Nat->Prop}(hX:xG W X){kt:Nat->Option Value}{env:Nat->PV}{a:Act}{L:Nat->Value}(hd:a.defers=[])(hs:a.tmps.size=nt)(hk:∀t v,kt t=some v->a.tmps.getD t undef=v)
  (he:∀t,bp W X ed (env t) (a.tmps.getD t undef)):Rel (EB nt W X hX kt) (SB env) a W L:=by
 have hM:∀b,bl (EB nt W X hX kt) (SB env) L b->X b:=by
  rintro b (⟨id,_,hl,_⟩|h)
  ·cases hl
  ·exact h
 exact⟨Marks.nil hd,⟨hs,hk⟩,λt=>(he t).mono (cZ.of λ_ hn=>λh=>hn (hM _ h)) (ed.le _),λ_ _=>trivial,λi j b _ _ hi=>(by cases hi),λ_ _=>rfl,⟨Fr.refl _ _,DW rfl⟩,λh=>(by cases h),Kept.top _ _ _,(λ_ _ _ hl=>by cases hl),λb hb=>hb.elim⟩
structure BF (y c:Value) (i:Int) (a:Act):Prop where
 defers:a.defers=[]
 size:a.tmps.size=19
 y:a.tmps.getD 0 undef=y
 c:a.tmps.getD 1 undef=c
 i:a.tmps.getD 3 undef= .int .i64 i
def Cv(y c:Value)(t:Nat):Option Value:=if t=0 then some y else if t=1 then some c else none
def Ed{nt:Nat}{W W':World}{X:Nat->Prop}{hX:xG W X}{kt:Nat->Option Value}{S:St}{a:Act}{L:Nat->Value}(h:Rel (EB nt W X hX kt) S a W' L):Fr none W W':=h.fr.toFr
def LF{hs:List Nat}{ops:Array Oper}{p:Nat->Prop}:∀{l:List Oper} {gs:List SG},l.mapM (wF P hs ops)=some gs->(∀g∈gs,∀t,g.d=some t->p t)->∀o∈l,∀t,o.dst=some t->p t
 |[],_,_,_=>by simp
 |x::l,gs,h,hp=>by
  simp only[Qq75,Qd,Qc,Option.pure_def,Qf]at h;obtain⟨g,hg,gs',hgs,rfl⟩:=h;intro o ho t ht;rcases QA.1 ho with rfl|ho
  ·exact hp g Qx t (by rw[(KG hg).2.1];exact ht)
  ·exact LF hgs (λg hg=>hp g (Qy _ hg)) o ho t ht
def EJ(es:List (List PV))(x:Nat->PV)(t:Nat):PV:=if t=1 then .ref [.sl es]else x t
variable {hs : List Nat} {es : List (List PV)} {y c : Value} {W : World} {X : Nat -> Prop} {hX : xG W X} {a : Act}
def BF.env{i:Int}(h:BF y c i a)(hc:bp W X ed (.ref [.sl es]) c)(t:Nat):bp W X ed (EJ es (λt=>if t=3 then .int .i64 i else .any) t) (a.tmps.getD t undef):=by
 unfold EJ;split
 ·rename_i e;rw[e,h.c];exact hc
 ·simp only;split
  ·rename_i e;rw[e,h.i];exact .int _ _
  ·exact .any _
def BF.kt{i:Int}(h:BF y c i a)(t:Nat)(v:Value)(hv:Cv y c t=some v):a.tmps.getD t undef=v:=by
 unfold Cv at hv;split at hv
 ·rename_i e;injection hv with hv;rw[e,h.y,hv]
 ·split at hv
  ·rename_i e;injection hv with hv;rw[e,h.c,hv]
  ·cases hv
def BF.rel{i:Int}(h:BF y c i a)(hc:bp W X ed (.ref [.sl es]) c)(L:Nat->Value):Rel (EB 19 W X hX (Cv y c)) (SB (EJ es λt=>if t=3 then .int .i64 i else .any)) a W L:=
 UM hX h.defers h.size h.kt (h.env hc)
def Zy{c0:Code}{gs:List SG}(hcc:aX P 19 hs c0=some (.tZ gs)){env:Nat->PV}{S':St}(hlen:gs.length<=8)(hd:∀g∈gs,∀t,g.d=some t->t≠0/\t≠1){L:Nat->Value}(h:Rel (EB 19 W X hX (Cv y c)) (SB env) a W L)
  (hr:CW uK 0 gs (SB env)=some S') {Q:Exit->Act->World->Prop} (hQ:∀a' W' L',Rel (EB 19 W X hX (Cv y c)) S' a' W' L'->Q .normal a' W'):c0.wpIn (WF none) 0 P Q a W:=by
 obtain⟨id,ops,rfl,hm,hlt⟩:=Uf hcc;refine wpIn_region_list ?_;have hl:=yi hm;refine HF (E:=EB 19 W X hX (Cv y c)) VN ops.toList gs 0 (SB env) S' a W L hm h (by simp only[SB];omega) (λo ho t ht=>⟨hlt o ho t ht,?_⟩) hr hQ
 have:=LF (p:=λt=>t≠0/\t≠1) hm hd o ho t ht
 show Cv y c t=none;unfold Cv;rw[Qs this.1,Qs this.2]
def BF.of{S':St}{W':World}{L':Nat->Value}{i:Int}{a':Act}(h:Rel (EB 19 W X hX (Cv y c)) S' a' W' L')(hi:S'.env 3= .int .i64 i):BF y c i a':=by refine⟨h.defers.none rfl,h.size.1,h.size.2 0 y rfl,h.size.2 1 c rfl,?_⟩;have:=h.env 3;rw[hi]at this;exact this.jE
def ahu(hc:bp W X ed (.ref [.sl es]) c):es.length<=maxLen:=by
 cases hc with
 |ref _ ad vs hl hcell h=>
  cases vs with
  |nil=>simp at hl
  |cons v vs=>
   have h1:=h 0 (.sl es) v (by simp) (by simp)
   cases h1 with
   |sl _ _ _ _ _ _ _ _ _ hn hm=>omega
   |slnil=>simp
def wrap_small{n:Int}(h: -1<=n)(h':n<=9223372036854775807):IntKind.i64.wrap n=n:=by rw[IntKind.wrap_i64];omega
def CG(nE:Option Nat)(e:List PV):PV:=(vB nE e).getD .any
structure K0 (k:Nat) (nE:Option Nat) (es:List (List PV)):Prop where
 len:∀e∈es,e.length=k
 ld:∀e∈es,vB nE e=some (CG nE e)
 cl:∀e∈es,(CG nE e).bJ=true
def Xn(P:Program)(l:Nat)(i:Nat)(v:Value)(W:World)(R:Ending->World->Prop):Prop:=
 ∃(fn:FuncId) (tmps:Array Value) (assign body:Code),(Instr.yield l #[.int .i64 i,v]).run P W= .ok (.round l fn tmps assign body) W/\RoundIn (WF none) 0 P l fn tmps assign body W R
def ac5{k:Nat}{nE:Option Nat}{l:Nat}{m:Nat}(hin:K0 k nE es)(hX:xG W X)(hc:bp W X ed (.ref [.sl es]) c){J0 J1:World->Prop}(hJ0:∀W',Fr none W W'->J0 W')
  (hJ:∀W' W'',J1 W'->Fr none W' W''->J1 W'') {Jx:World->Prop} (hJx:∀W' W'',Jx W'->Fr none W' W''->Jx W'') (hG1:∀W',J1 W'->GI W') (hGx:∀W',Jx W'->GI W')
  (hr:∀(W':World) (e:List PV) (v:Value),J0 W'->es[m]?=some e->bp W' X ed (CG nE e) v->Xn P l m v W' λen W''=>(en= .returned (.bool true)/\J1 W'')\/(en= .returned (.bool false)/\Jx W''))
  {c0:Code} (hcc:aX P 19 hs c0=some (.tZ [⟨some 11,none,.qj (.tmp 0)⟩,⟨some 12,none,.qj (.tmp 3)⟩,⟨some 13,none,.load none (.tmp 1)⟩,⟨some 14,none,.qj (.tmp 3)⟩,⟨some 15,none,.uo k (.tmp 13) (.tmp 14)⟩,
    ⟨some 16,none,.load nE (.tmp 15)⟩,⟨some 17,none,.uw (.tmp 11) [.tmp 12,.tmp 16]⟩,⟨some 18,none,.not (.tmp 17)⟩]))
  (hm:m<es.length) (hB:BF (.func (.yield l) #[] #[]) c m a) {Q:Exit->Act->World->Prop}
  (hQ:∀a' W' b,BF (.func (.yield l) #[] #[]) c m a'->a'.tmps.getD 18 undef= .bool (!b)->(b=true->J1 W')->(b=false->Jx W')->Q .normal a' W'):c0.wpIn (WF none) 0 P Q a W:=by
 obtain⟨id,ops,rfl,hmm,hlt⟩:=Uf hcc;refine wpIn_region_list ?_;obtain⟨o11,l1,e1,g11,hm1⟩:=jw hmm;obtain⟨o12,l2,rfl,g12,hm2⟩:=jw hm1;obtain⟨o13,l3,rfl,g13,hm3⟩:=jw hm2;obtain⟨o14,l4,rfl,g14,hm4⟩:=jw hm3;obtain⟨o15,l5,rfl,g15,hm5⟩:=jw hm4;obtain⟨o16,l6,rfl,g16,hm6⟩:=jw hm5;obtain⟨o17,l7,rfl,g17,hm7⟩:=jw hm6;obtain⟨o18,l8,rfl,g18,hm8⟩:=jw hm7;have:=J4 hm8;subst this;rw[e1]at hlt ⊢
 have plain:∀{o:Oper} {d:Option Nat} {s:cu},wF P hs ops o=some ⟨d,none,s⟩->o.guard=none/\o.dst=d/\FH P hs o=some s:=by
  intro o d s hg;obtain⟨q1,q2,q3⟩:=KG hg;rcases q3 with⟨q3,_⟩|⟨_,_,_,_,_,_,_,q⟩
  ·exact⟨q3,q2.symm,q1⟩
  ·cases q
 obtain⟨u1,u2,u3⟩:=plain g11
 have hmv:(o11.op= .move (.tmp 0)\/o11.op= .assign (.tmp 0)):=by
  unfold FH at u3;split at u3
  case h_1 x hx=>simp only[Qd,Qc,Qf,cu.qj.injEq]at u3;obtain⟨z,hz,rfl⟩:=u3;rw[zf hz]at hx;exact .inl hx
  case h_2 x hx=>simp only[Qd,Qc,Qf,cu.qj.injEq]at u3;obtain⟨z,hz,rfl⟩:=u3;rw[zf hz]at hx;exact .inr hx
  all_goals (exfalso)
  all_goals (repeat' (first|(cases u3;done)|split at u3|(simp only[Qd,Qc]at u3;obtain⟨_,_,u3⟩:=u3)|(obtain⟨_,_,u3⟩:=u3)))
 refine wpListIn_plain u1 λK hK=> ?_
 have hev:a.eval (.tmp 0)= .func (.yield l) #[] #[]:=hB.y
 have step1:∀{Q':Exit->Act->World->Prop},K (a.put (some 11) (.func (.yield l) #[] #[])) W->o11.wpIn (WF none) 0 P a W K Q':=by
  intro Q' hk;unfold Oper.wpIn;rw[Oper.semAt_eq _ _ _ (Ce u3)]
  have hrun:(execOp a.eval o11).run P W= .ok (.value (.func (.yield l) #[] #[])) W:=by rcases hmv with hx|hx<;>simp[execOp,hx,hev]
  rw[hrun];refine⟨λ_ _=>trivial,?_⟩
  show K (a.put o11.dst _) W;rw[u2];exact hk
 refine step1 (hK _ _ ?_);have hsz:(a.put (some 11) (.func (.yield l) #[] #[])).tmps.size=19:=by simp[Act.put,hB.size]
 have hne:∀t,t≠11->(a.put (some 11) (.func (.yield l) #[] #[])).tmps.getD t undef=a.tmps.getD t undef:=λt ht=>Nj ht
 have h11:(a.put (some 11) (.func (.yield l) #[] #[])).tmps.getD 11 undef= .func (.yield l) #[] #[]:=by simp[Act.put,QN,Array.getElem?_setIfInBounds_self_of_lt (show 11<a.tmps.size by rw[hB.size];omega)]
 have hrel:Rel (EB 19 W X hX (λt=>if t=11 then some (.func (.yield l) #[] #[])else Cv (.func (.yield l) #[] #[]) c t)) (SB (EJ es λt=>if t=3 then .int .i64 m else .any)) (a.put (some 11) (.func (.yield l) #[] #[])) W (λ_=>undef):=by
  refine UM hX hB.defers hsz (λt v hv=> ?_) (λt=> ?_)
  ·by_cases h0:t=11
   ·rw[Qr h0]at hv;injection hv with hv;rw[h0,h11,hv]
   ·rw[Qs h0]at hv;rw[hne t h0];exact hB.kt t v hv
  ·by_cases h0:t=11
   ·have:EJ es (λt=>if t=3 then .int .i64 m else .any) t= .any:=by rw[h0];rfl
    rw[this];exact .any _
   ·rw[hne t h0];exact hB.env hc t
 have helt:es[m]?=some es[m]:=Qv hm;have hek:=hin.len _ (Q0 hm);have hld:=hin.ld _ (Q0 hm);have s12:ya uK 0 (SB (EJ es λt=>if t=3 then .int .i64 m else .any)) ⟨some 12,none,.qj (.tmp 3)⟩=some ((SB (EJ es λt=>if t=3 then .int .i64 m else .any)).cz (some 12) (.int .i64 m) none):=rfl
 generalize hS1:(SB (EJ es λt=>if t=3 then .int .i64 m else .any)).cz (some 12) (.int .i64 m) none=S1 at s12
 have s13:ya uK 1 S1 ⟨some 13,none,.load none (.tmp 1)⟩=some (S1.cz (some 13) (.sl es) none):=by subst hS1;rfl
 generalize hS2:S1.cz (some 13) (.sl es) none=S2 at s13;have s14:ya uK 2 S2 ⟨some 14,none,.qj (.tmp 3)⟩=some (S2.cz (some 14) (.int .i64 m) none):=by subst hS2 hS1;rfl
 generalize hS3:S2.cz (some 14) (.int .i64 m) none=S3 at s14;have e13:S3.env 13= .sl es:=by subst hS3 hS2 hS1;rfl
 have e14:S3.env 14= .int .i64 m:=by subst hS3 hS2 hS1;rfl
 have s15:ya uK 3 S3 ⟨some 15,none,.uo k (.tmp 13) (.tmp 14)⟩=some (S3.cz (some 15) (.ref es[m]) none):=by
  simp only[ya,SG.wanted,exec,bB.val,e13,e14];rw[Qr ⟨by omega,by omega⟩]
  simp only[QV,helt,hek,Qt,Qe]
 generalize hS4:S3.cz (some 15) (.ref es[m]) none=S4 at s15;have e15:S4.env 15= .ref es[m]:=by subst hS4;rfl
 have s16:ya uK 4 S4 ⟨some 16,none,.load nE (.tmp 15)⟩=some (S4.cz (some 16) (CG nE es[m]) none):=by simp only[ya,SG.wanted,exec,bB.val,e15,hld,Qe]
 generalize hS5:S4.cz (some 16) (CG nE es[m]) none=S5 at s16;have f12:S5.env 12= .int .i64 m:=by subst hS5 hS4 hS3 hS2 hS1;rfl
 have f16:S5.env 16=CG nE es[m]:=by subst hS5;rfl
 have f3:S5.env 3= .int .i64 m:=by subst hS5 hS4 hS3 hS2 hS1;rfl
 have hrun:CW uK 0 [⟨some 12,none,.qj (.tmp 3)⟩,⟨some 13,none,.load none (.tmp 1)⟩,⟨some 14,none,.qj (.tmp 3)⟩,⟨some 15,none,.uo k (.tmp 13) (.tmp 14)⟩,⟨some 16,none,.load nE (.tmp 15)⟩] (SB (EJ es λt=>if t=3 then .int .i64 m else .any))=some S5:=by simp only[CW,s12,s13,s14,s15,s16]
 have hmap:[o12,o13,o14,o15,o16].mapM (wF P hs ops)=some [⟨some 12,none,.qj (.tmp 3)⟩,⟨some 13,none,.load none (.tmp 1)⟩,⟨some 14,none,.qj (.tmp 3)⟩,⟨some 15,none,.uo k (.tmp 13) (.tmp 14)⟩,⟨some 16,none,.load nE (.tmp 15)⟩]:=by simp only[Qq75,List.mapM_nil,g12,g13,g14,g15,g16,Qd,Qa,Option.pure_def]
 show wpListIn (WF none) 0 P ops Q ([o12,o13,o14,o15,o16]++[o17,o18]) _ W;refine Vi (E:=EB 19 W X hX _) VN _ _ 0 _ S5 _ W _ hmap hrel (by simp[SB]) (λo ho t ht=>⟨hlt o (by simp only[QA]at ho ⊢;right;rcases ho with h|h|h|h|h|h<;>simp_all) t ht,?_⟩) hrun (λa5 W5 L5 h5=> ?_)
 ·have:=LF (p:=λt=>t≠0/\t≠1/\t≠11) hmap (by intro g hg t ht;simp only[QA,QR,or_false]at hg;rcases hg with rfl|rfl|rfl|rfl|rfl<;>(injection ht with ht;omega)) o ho t ht
  show(if t=11 then _ else Cv _ _ t)=none
  rw[Qs this.2.2];unfold Cv;rw[Qs this.1,Qs this.2.1]
 have hfr5:Fr none W W5:=Ed h5;have v11:a5.tmps.getD 11 undef= .func (.yield l) #[] #[]:=h5.size.2 11 _ rfl;have v12:a5.tmps.getD 12 undef= .int .i64 m:=by have:=h5.env 12;rw[f12]at this;exact this.jE
 have r16:bp W5 X ed (CG nE es[m]) (a5.tmps.getD 16 undef):=by have:=h5.env 16;rw[f16]at this;exact this.bJ (hin.cl _ (Q0 hm)) (λb hb=> .inr hb)
 have hB5:BF (.func (.yield l) #[] #[]) c m a5:=⟨h5.defers.none rfl,h5.size.1,h5.size.2 0 _ rfl,h5.size.2 1 _ rfl,by have:=h5.env 3;rw[f3]at this;exact this.jE⟩
 obtain⟨fn,tmps,assign,body,hy,hround⟩:=hr W5 _ _ (hJ0 W5 hfr5) helt r16;obtain⟨w1,w2,w3⟩:=plain g17;obtain⟨gv,args,ts,hop,hgv,hargs⟩:=Ue w3;have hgv:=zf hgv;subst hgv;obtain⟨x12,xs,ex,hx12,hxs⟩:=jw hargs;obtain⟨x16,xs',rfl,hx16,hxs'⟩:=jw hxs;have:=J4 hxs';subst this;rw[zf hx12,zf hx16]at ex;have hargs':args=#[.tmp 12,.tmp 16]:=by rw[<-Array.toArray_toList (xs:=args),ex]
 refine wpListIn_plain w1 λK hK=> ?_
 unfold Oper.wpIn;rw[Oper.semAt_eq _ _ _ (Ce w3)]
 have hrun17:(execOp a5.eval o17).run P W5= .ok (.round l fn tmps assign body) W5:=by
  have q1:a5.eval (.tmp 11)= .func (.yield l) #[] #[]:=v11;simp only[execOp,hop,resolve,q1,Deferred.ofValue,Sem.run_bind,Sem.run_pure,Result.andThen_ok,invoke,hargs'];have q4:a5.tmps[12]?.getD undef= .int .i64 m:=by rw[<-QN];exact v12
  simpa[Act.eval,q4]using hy
 rw[hrun17];refine⟨λ_ _=>trivial,(λh=>by cases h),hround.mono ?_⟩
 rintro en W6 hen
 have fin:∀b:Bool,en= .returned (.bool b)->(b=true->J1 W6)->(b=false->Jx W6)->K (a5.put o17.dst (.bool b)) W6:=by
  rintro b rfl hj1 hjx;refine hK _ _ ?_;rw[w2];have hsz6:(a5.put (some 17) (.bool b)).tmps.size=19:=by simp[Act.put,hB5.size]
  have hne6:∀t,t≠17->(a5.put (some 17) (.bool b)).tmps.getD t undef=a5.tmps.getD t undef:=λt ht=>Nj ht
  have h17:(a5.put (some 17) (.bool b)).tmps.getD 17 undef= .bool b:=by simp[Act.put,QN,Array.getElem?_setIfInBounds_self_of_lt (show 17<a5.tmps.size by rw[hB5.size];omega)]
  have hgi:GI W6:=by
   cases b with
   |true=>exact hG1 _ (hj1 rfl)
   |false=>exact hGx _ (hjx rfl)
  have hrel6:Rel (EB 19 W6 (λ_=>False) (.nil hgi) (Cv (.func (.yield l) #[] #[]) c)) (SB λt=>if t=17 then .bool b else if t=3 then .int .i64 m else .any) (a5.put (some 17) (.bool b)) W6 (λ_=>undef):=by
   refine UM _ hB5.defers hsz6 (λt v hv=> ?_) (λt=> ?_)
   ·by_cases h0:t=17
    ·subst h0;cases hv
    ·rw[hne6 t h0];exact hB5.kt t v hv
   ·split
    ·rename_i h0;rw[h0,h17];exact .bool _
    ·rename_i h0;rw[hne6 t h0];split
     ·rename_i h3;rw[h3,hB5.i];exact .int _ _
     ·exact .any _
  have hmap18:[o18].mapM (wF P hs ops)=some [⟨some 18,none,.not (.tmp 17)⟩]:=by simp only[Qq75,List.mapM_nil,g18,Qd,Qa,Option.pure_def]
  refine HF (E:=EB 19 W6 (λ_=>False) (.nil hgi) _) VN _ _ 0 _ ((SB λt=>if t=17 then .bool b else if t=3 then .int .i64 m else .any).cz (some 18) (.bool !b) none) _ W6 _ hmap18 hrel6 (by simp[SB]) (λo ho t ht=>⟨hlt o (by simp only[QA]at ho ⊢;simp_all) t ht,?_⟩) rfl (λa7 W7 L7 h7=> ?_)
  ·have:=LF (p:=λt=>t≠0/\t≠1) hmap18 (by intro g hg t ht;simp only[QA,QR,or_false]at hg;subst hg;injection ht with ht;omega) o ho t ht
   show Cv _ _ t=none;unfold Cv;rw[Qs this.1,Qs this.2]
  ·have hfr7:=Ed h7;refine hQ a7 W7 b (BF.of h7 rfl) ?_ (λhb=>hJ _ _ (hj1 hb) hfr7) (λhb=>hJx _ _ (hjx hb) hfr7)
   have:=h7.env 18;have e18:((SB λt=>if t=17 then .bool b else if t=3 then .int .i64 m else .any).cz (some 18) (.bool !b) none).env 18= .bool !b:=rfl
   rw[e18]at this;exact this.oJ
 rcases hen with⟨rfl,hj⟩|⟨rfl,hj⟩
 ·exact fin true rfl (λ_=>hj) (λh=>by cases h)
 ·exact fin false rfl (λh=>by cases h) (λ_=>hj)
def aaC{f:FuncId}{k:Nat}{nE:Option Nat}(hf:iO P f 19 (ER k nE) [])(hin:K0 k nE es){l:Nat}(J:Nat->(Nat->Prop)->World->Prop)(Jx:World->Prop)
  (hc:∀i X W,J i X W->xG W X/\bp W X ed (.ref [.sl es]) c) (hJ:∀i X W' W'',J i X W'->Fr none W' W''->J i X W'') (hJx:∀W' W'',Jx W'->Fr none W' W''->Jx W'') (hGx:∀W',Jx W'->GI W')
  (hr:∀(m:Nat) (X:Nat->Prop) (W':World) (e:List PV) (v:Value),J (m+1) X W'->es[m]?=some e->bp W' X ed (CG nE e) v->Xn P l m v W' λen W''=>(en= .returned (.bool true)/\∃X,J m X W'')\/(en= .returned (.bool false)/\Jx W''))
  (W:World) (h0:J es.length X W):CallsIn (WF none) 0 P f #[.func (.yield l) #[] #[],c] W λen W'=>(∃v,en= .returned v)/\((∃X,J 0 X W')\/Jx W'):=by
 obtain⟨fn,hs,h1,h2,h3,h4,_⟩:=hf
 cases hb:fn.body with
 |none=>rw[hb]at h3;cases h3
 |some c0=>
 rw[hb]at h3;have h3:aX P 19 hs c0=some (ER k nE):=h3
 have hres:fn.results.toList=[]:=by
  cases hq:fn.results.toList with
  |nil=>rfl
  |cons r rs=>rw[hq]at h4;cases r<;>simp only[mO]at h4<;>first|(split at h4<;>cases h4)|(simp only[Qb]at h4;obtain⟨_,_,h4⟩:=h4;cases h4)
 have hresr:∀(tm:Array Value) (W:World),(results fn tm).run P W= .ok (.tuple #[]) W:=by intro tm W;unfold results;rw[Array.mapM_eq_mapM_toList,hres];simp
 refine callsIn_of_wp (F:=WF none) (n:=0) h1 hb trivial ?_;obtain⟨cA,cB,rfl,hA,hB⟩:=CM h3;obtain⟨cL,rfl,hL⟩:=MW hB;obtain⟨cR,rfl,hR⟩:=aav hL;obtain⟨cR1,cR2,rfl,hR1,hR2⟩:=CM hR;obtain⟨cT,cC,rfl,hT,hC⟩:=CM hR1;obtain⟨oc,cS,cX,rfl,hoc,hcS,hcX⟩:=Rk hC;have:=Rj hcS;subst this;have:=aaw hcX;subst this;have:=zf hoc;subst this;obtain⟨cM,cN,rfl,hM,hN⟩:=CM hR2;obtain⟨cM2,rfl,hM2⟩:=MW hM;obtain⟨cG,cH,rfl,hG,hH⟩:=CM hM2;obtain⟨od,cV,cK,rfl,hod,hcV,hcK⟩:=Rk hH;have:=acv hcV;subst this;have:=Rj hcK;subst this;have:=zf hod;subst this;have hmax:=ahu (hc _ _ _ h0).2;simp only[maxLen]at hmax
 have hargs:∀t,(#[Value.func (.yield l) #[] #[],c]++Array.replicate (fn.ntmps - (#[Value.func (.yield l) #[] #[],c]:Array Value).size) undef).getD t undef=if t=0 then .func (.yield l) #[] #[]else if t=1 then c else undef:=by
  intro t;rw[h2,QN,Array.getElem?_append]
  match t with
  |0|1=>rfl
  |t+2=>
   simp only[List.size_toArray,QE,QZ];rw[Qs (by omega),Qs (by omega),Qs (by omega),Array.getElem?_replicate]
   split<;>rfl
 refine wpIn_seq ?_
 have hrel0:Rel (EB 19 W X (hc _ _ _ h0).1 (Cv (.func (.yield l) #[] #[]) c)) (SB (EJ es λ_=> .any)) {tmps:=#[Value.func (.yield l) #[] #[],c]++Array.replicate (fn.ntmps - (#[Value.func (.yield l) #[] #[],c]:Array Value).size) undef,defers:=[]} W (λ_=>undef):=by
  refine UM _ rfl (by simp[h2]) (λt v hv=> ?_) (λt=> ?_)
  ·simp only;rw[hargs t];unfold Cv at hv;split at hv
   ·rename_i e;rw[Qr e];injection hv
   ·rename_i e;rw[Qs e];split at hv
    ·rename_i e';rw[Qr e'];injection hv
    ·cases hv
  ·simp only;rw[hargs t];unfold EJ;split
   ·rename_i e;subst e;exact(hc _ _ _ h0).2
   ·exact .any _
 have dA:∀g∈[(⟨some 4,none,.load none (.tmp 1)⟩:SG),⟨some 5,none,.len false (.tmp 4)⟩,⟨some 6,none,.bin .sub (.tmp 5) (.zH (.int .i64 1))⟩,⟨some 3,none,.qj (.tmp 6)⟩],∀t,g.d=some t->t≠0/\t≠1:=by intro g hg t ht;simp only[QA,QR,or_false]at hg;rcases hg with rfl|rfl|rfl|rfl<;>(injection ht with ht;omega)
 refine Zy hA (by simp) dA hrel0 rfl λa1 W1 L1 r1=> ?_
 have hJ1:J es.length X W1:=hJ _ _ _ _ h0 (Ed r1)
 have b1:BF (.func (.yield l) #[] #[]) c ((es.length:Int) - 1) a1:=by refine BF.of r1 ?_;show PV.int .i64 (IntKind.i64.wrap ((es.length:Int) - 1))=_;rw[wrap_small (by omega) (by omega)]
 refine wpIn_block ?_;refine wpIn_loop_ghost (λn a W=>n<=es.length/\BF (.func (.yield l) #[] #[]) c ((n:Int) - 1) a/\∃X,J n X W) es.length ⟨QI _,b1,X,hJ1⟩ ?_
 rintro n a W ⟨hn,hb,X,hj⟩;refine wpIn_seq (wpIn_seq ?_)
 have dT:∀g∈[(⟨some 7,none,.qj (.tmp 3)⟩:SG),⟨some 8,none,.bin .geq (.tmp 7) (.zH (.int .i64 0))⟩],∀t,g.d=some t->t≠0/\t≠1:=by intro g hg t ht;simp only[QA,QR,or_false]at hg;rcases hg with rfl|rfl<;>(injection ht with ht;omega)
 refine Zy hT (by simp) dT (hb.rel (hX:=(hc _ _ _ hj).1) (hc _ _ _ hj).2 (λ_=>undef)) rfl λa2 W2 L2 r2=> ?_
 have hj2:J n X W2:=hJ _ _ _ _ hj (Ed r2);have b2:BF (.func (.yield l) #[] #[]) c ((n:Int) - 1) a2:=BF.of r2 rfl
 have t8:a2.eval (.tmp 8)= .bool (decide (0<=(n:Int) - 1)):=by have:=r2.env 8;exact(show bp _ _ _ (.bool (decide ((0:Int)<=(n:Int) - 1))) _ from this).oJ
 refine wpIn_cond t8 ?_
 cases n with
 |zero=>
  rw[Qh (by omega)]
  refine wpIn_exit ?_;simp only[Exit.then,Exit.inBlock,Qt]
  exact⟨b2.defers,_,hresr _ _,⟨_,rfl⟩,.inl ⟨X,hj2⟩⟩
 |succ m=>
  rw[Qg (by omega)]
  refine wpIn_skip ?_;have e1:((m+1:Nat):Int) - 1=(m:Int):=by omega
  rw[e1]at b2;refine wpIn_seq (wpIn_block (wpIn_seq ?_));refine ac5 (J0:=J (m+1) X) (J1:=λW=>∃X,J m X W) (Jx:=Jx) hin (hc _ _ _ hj2).1 (hc _ _ _ hj2).2 (λW' hW'=>hJ _ _ _ _ hj2 hW') (λ_ _ ⟨X',q1⟩ q2=>⟨X',hJ _ _ _ _ q1 q2⟩) hJx (λW' ⟨X',q⟩=>(hc _ _ _ q).1.gi) hGx (λW' e v q1 q2 q3=>hr m X W' e v q1 q2 q3) hG (by omega) b2 λa3 W3 b hb3 t18 hj3 hx3=> ?_
  refine wpIn_cond (t:= !b) t18 ?_
  cases b with
  |false=>refine wpIn_ret ?_;exact⟨hb3.defers,_,hresr _ _,⟨_,rfl⟩,.inr (hx3 rfl)⟩
  |true=>
   refine wpIn_skip ?_
   have dN:∀g∈[(⟨some 9,none,.qj (.tmp 3)⟩:SG),⟨some 10,none,.bin .sub (.tmp 9) (.zH (.int .i64 1))⟩,⟨some 3,none,.qj (.tmp 10)⟩],∀t,g.d=some t->t≠0/\t≠1:=by intro g hg t ht;simp only[QA,QR,or_false]at hg;rcases hg with rfl|rfl|rfl<;>(injection ht with ht;omega)
   obtain⟨X',hj4⟩:=hj3 rfl;refine Zy hN (by simp) dN (hb3.rel (hX:=(hc _ _ _ hj4).1) (hc _ _ _ hj4).2 (λ_=>undef)) rfl λa4 W4 L4 r4=> ?_
   refine⟨m,Nat.lt_succ_self m,by omega,BF.of r4 ?_,X',hJ _ _ _ _ hj4 (Ed r4)⟩
   show PV.int .i64 (IntKind.i64.wrap ((m:Int) - 1))=_;rw[wrap_small (by omega) (by omega)]
end
end
section
open Go.RowKit
section
variable {P : Program} {E : En} {S : St} {a : Act} {w : World} {L : Nat -> Value}
def Rel.Lf(h:Rel E S a w L){w':World}{a':Act}{env':Nat->PV}(rd:Option Nat)(nd:Bool)(kt:Nat->Option Value)(wk:World)
  (hc:∀(b:Nat) (o:Obj),w.heap[b]?=some o->Ko o=true->w'.heap[b]?=some o) (he:∀t,bp w (bl E S L) (S.gh L) (env' t) (a'.tmps.getD t undef))
  (hm:Marks {E with rd:=rd,nd:=nd,kt:=kt,wk:=wk} a' w') (hs:a'.tmps.size=E.nt/\∀t v,kt t=some v->a'.tmps.getD t undef=v) (hf:FrE {E with rd:=rd,nd:=nd,kt:=kt,wk:=wk} w'):
  Rel {E with rd:=rd,nd:=nd,kt:=kt,wk:=wk} {S with env:=env'} a' w' L:=by
 have hcell:∀(p:Addr) (v:Value),w.cell? p=some v->w'.heap[p.block]?=w.heap[p.block]?:=by
  intro p v hp;unfold World.cell? at hp
  cases ho:w.heap[p.block]? with
  |none=>rw[ho]at hp;simp at hp
  |some o=>refine hc _ o ho ?_;rw[ho]at hp;cases o<;>first|rfl|(simp at hp)
 have hst:cZ w w' (bl E S L) (bl E S L):=⟨λp v hp hn=>⟨(World.cell?_of_block (hcell p v hp)).trans hp,hn⟩,λb _ _ hb hn=>⟨hc b _ hb rfl,hn⟩⟩
 refine⟨hm,hs,λt=>(he t).mono hst (Gh.le.refl _),λid hid=> ?_,h.apart,h.fresh,hf,h.Bb,h.an.1.trans ⟨λb o h1 h2 hnm=>⟨hc b o h1 h2,hnm⟩⟩,h.an.2.1,λb hH=>(let⟨q1,⟨o,q2,q3,q4⟩,q5⟩:=h.an.2.2 b hH;⟨q1,⟨o,q2,q3,hc b o q4 q3⟩,q5⟩)⟩
 have ho:=h.obj id hid
 cases hl:(S.H id).c.live with
 |false=>
  cases hcc:(S.H id).c with
  |dead=>trivial
  |box cs|row e k es=>rw[hcc]at hl;cases hl
 |true=>
  have:=sd.mono (w':=w') hst (Gh.le.refl _) (λb hb _=>by
   obtain⟨o,h1,h2⟩:=ho.cells hl hb;rw[h1]
   exact hc b o h1 (agi h2)) ho
  cases hcc:(S.H id).c with
  |dead=>trivial
  |box cs|row e k es=>rw[hcc]at this;exact this
def Fr.putObj{rb:Option Nat}{w0:World}(h:Fr rb w0 w){l:Nat}(hl:w0.heap.size<=l)(o:Obj):Fr rb w0 (w.putObj l o):=
 ⟨h.os,h.tape,h.output,by rw[World.putObj_size];exact h.size,λb hb hr=>by rw[World.putObj_heap_other (by omega)];exact h.block b hb hr,h.drawn⟩
def St.xi(S:St)(D:List Nat):St:={S with env:=λt=>if t∈D then .any else S.env t}
def Rel.drop(h:Rel E S a w L)(D:List Nat):Rel E (S.xi D) a w L:=
 ⟨h.defers,h.size,λt=>by
  show bp _ _ _ (if t∈D then .any else S.env t) _
  split
  ·exact .any _
  ·exact h.env t,h.obj,h.apart,h.fresh,h.fr,h.Bb,h.an⟩
def af3{x:World}(h:Di x w){l:Nat}(hl:x.heap.size<=l)(o:Obj):Di x (w.putObj l o):=
 ⟨by rw[World.putObj_size];exact h.size,λk p hk hp=>by
  have hlt:k<x.heap.size:=(Q9.1 hk).1;rw[World.putObj_heap_other (by omega)]
  exact h.same k p hk hp⟩
def KM{l:Nat}{o:Obj}(hl:w.heap[l]?=some o)(ho:Ko o=false)(o':Obj):∀(b:Nat) (q:Obj),w.heap[b]?=some q->Ko q=true->(w.putObj l o').heap[b]?=some q:=by
 intro b q hb hq
 have:b≠l:=by
  intro e;subst e;rw[hl]at hb;injection hb with hb
  subst hb;rw[ho]at hq;cases hq
 rw[World.putObj_heap_other this];exact hb
def abV:Exit->Option Code
 | .ret=>some .ret
 | .exit i=>some (.exit i)
 | .goto l=>some (.goto l)
 |_=>none
def Xo(I:St->Prop)(S:St):Prop:=∃S',(∀(E:En) (a:Act) (w:World) (L:Nat->Value),Rel E S a w L->∃L',Rel E S' a w L')/\I S'
def Xo.of{I:St->Prop}{S:St}(h:I S):Xo I S:=⟨S,λ_ _ _ L h=>⟨L,h⟩,h⟩
def ahC(D:List Nat)(I:St->Prop)(Q:Exit->St->Prop):Exit->St->Prop
 | .normal,T=>Xo I (T.xi D)
 | .ret,T=>Q .ret (T.xi D)
 | .exit i,T=>Q (.exit i) (T.xi D)
 | .goto l,T=>Q (.goto l) (T.xi D)
 |_,_=>False
def ajF(ts:Array Value)(p0 p1:Nat)(u v:Value):(#[p0,p1].zip #[u,v]).foldl (λtmps x=>match x with|(t,a)=>tmps.setIfInBounds t a) ts=(ts.setIfInBounds p0 u).setIfInBounds p1 v:=by rw[<-Array.foldl_toList,Array.toList_zip];rfl
def akF{ts:Array Value}{p0 p1 t:Nat}{u v:Value}(h0:p0<ts.size)(h1:p1<ts.size):((ts.setIfInBounds p0 u).setIfInBounds p1 v).getD t undef=if t=p1 then v else if t=p0 then u else ts.getD t undef:=by
 simp only[QN]
 by_cases q1:t=p1
 ·subst q1;rw[Qr rfl,Array.getElem?_setIfInBounds_self_of_lt (by simpa using h1)]
  rfl
 ·rw[Qs q1,Array.getElem?_setIfInBounds_ne (λe=>q1 e.symm)]
  by_cases q0:t=p0
  ·subst q0;rw[Qr rfl,Array.getElem?_setIfInBounds_self_of_lt h0];rfl
  ·rw[Qs q0,Array.getElem?_setIfInBounds_ne (λe=>q0 e.symm)]
def aiH{nt:Nat}{tg p0 p1:Nat}{assign body:Code}{f:FuncId}{k:Nat}{nE:Option Nat}{es:List (List PV)}{Q:Exit->St->Prop}(hf:iO P f 19 (ER k nE) [])(hin:K0 k nE es)(hna:yP assign=true)(hnb:yP body=true)
  (hp0:p0<nt) (hp1:p1<nt) (_htg:tg∉mC (.rangeFunc (.tmp tg) #[p0,p1] assign body)) (I:Nat->St->Prop)
  (h0:Xo (I es.length) (S.xi (mC (.rangeFunc (.tmp tg) #[p0,p1] assign body)))) (hI:∀i T,I i T->T.env tg= .bI f [.ref [.sl es]])
  (hround:∀m T e,I (m+1) T->es[m]?=some e->V P nt assign (RP (V P nt body (ahC (mC (.rangeFunc (.tmp tg) #[p0,p1] assign body)) (I m) Q)) (λ_ _=>False)) {T with env:=bU (bU T.env p0 (.int .i64 m)) p1 (CG nE e)})
  (hend:∀T,I 0 T->Q .normal T):V P nt (.rangeFunc (.tmp tg) #[p0,p1] assign body) Q S:=by
 intro E hE hk a w L hrel;generalize hD:mC (.rangeFunc (.tmp tg) #[p0,p1] assign body)=D at*;have hk1:∀t∈D,E.kt t=none:=by rw[<-hD];exact hk.1
 obtain⟨hrd,hnd⟩:E.rd=none/\E.nd=false:=by
  rcases hk.2 with h|h
  ·exact h
  ·cases h
 have hDa:∀t∈mC assign,t∈D:=by rw[<-hD];intro t ht;simp only[mC,Qz];exact .inl (.inr ht)
 have hDb:∀t∈mC body,t∈D:=by rw[<-hD];intro t ht;simp only[mC,Qz];exact .inr ht
 have hD0:p0∈D:=by rw[<-hD];simp[mC]
 have hD1:p1∈D:=by rw[<-hD];simp[mC]
 have hclo:∀{i:Nat} {T:St} {w':World} {L':Nat->Value},I i T->Rel E T a w' L'->∃c,a.tmps.getD tg undef= .func (.func f) #[] #[c]/\bp w' (bl E T L') ed (.ref [.sl es]) c:=by intro i T w' L' hi hr;have:=hr.env tg;rw[hI i T hi]at this;obtain⟨vs,hv,hrv⟩:=this.xk;obtain⟨c,vs',rfl,hc,hr'⟩:=hrv.cons_inv;have:=hr'.te;subst this;exact⟨c,hv,hc.closed rfl (λb hb=>hb)⟩
 obtain⟨S0,hw0,h0⟩:=h0;obtain⟨L,hrel0⟩:=hw0 E a w L (hrel.drop D);obtain⟨c,hgv,hc0⟩:=hclo h0 hrel0;rw[hrd];refine wpIn_rangeFunc ?_;intro fn _;obtain⟨rec,hrec⟩:∃rec:LoopState->Option Code->Loop,rec=λst pe=>{state:=st,pending:=pe,fn,tmps:=a.tmps,params:=#[p0,p1],assign,body,defers:=w.heap.size}:=⟨_,rfl⟩
 obtain⟨W1,hW1⟩:∃W1,(w.alloc (.deferred (some []))).alloc (.loop (rec .ready none))=W1:=⟨_,rfl⟩
 have hL1:W1.heap[w.heap.size+1]?=some (.loop (rec .ready none)):=by rw[<-hW1];have:=World.alloc_heap_new (w.alloc (.deferred (some []))) (.loop (rec .ready none));rwa [World.size_alloc]at this
 have hK1:W1.heap[w.heap.size]?=some (.deferred (some [])):=by rw[<-hW1];exact(Below.heap_alloc _ _ _ (by simp)).trans (World.alloc_heap_new w _)
 let J:Nat->(Nat->Prop)->World->Prop:=λi X W=>∃T L',X=bl E T L'/\I i T/\Rel E T a W L'/\W.heap[w.heap.size+1]?=some (.loop (rec .ready none))/\W.heap[w.heap.size]?=some (.deferred (some []))
 let Jx:World->Prop:=λW=>∃en j T L',abV en=some j/\Q en T/\Rel E T a W L'/\W.heap[w.heap.size+1]?=some (.loop (rec .done (some j)))/\W.heap[w.heap.size]?=some (.deferred (some []))
 have grow:∀{T:St} {L':Nat->Value} {W' W'':World},Rel E T a W' L'->Fr none W' W''->Rel E T a W'' L':=λh hf=>(h.grow hf.os hf.tape hf.output hf.size (λb hb=>hf.block b hb (by simp)) hf.drawn).1
 have eO:∀{W' W'':World} {b:Nat} {o:Obj},Fr none W' W''->W'.heap[b]?=some o->W''.heap[b]?=some o:=λhf hb=>by rw[hf.block _ (Q9.1 hb).1 (by simp)];exact hb
 have hE0:E.w0.heap.size<=w.heap.size:=hrel.fr.size;have hEk:E.wk.heap.size<=w.heap.size:=hrel.fr.ko.size
 have hW1s:∀(b:Nat),b<w.heap.size->W1.heap[b]?=w.heap[b]?:=by intro b hb;rw[<-hW1];exact(Below.heap_alloc _ _ _ (by simp;omega)).trans (Below.heap_alloc _ _ _ hb)
 have hrel1:Rel E S0 a W1 L:=(hrel0.grow (w':=W1) (by rw[<-hW1];rfl) (by rw[<-hW1];rfl) (by rw[<-hW1];rfl) (by rw[<-hW1];simp;omega) hW1s (by rw[<-hW1];exact DL.of (QI _))).1
 have old:∀d∈a.defers,∃Do,d={target:= .collected Do,args:=#[]}/\E.w0.heap.size<=Do/\Do<w.heap.size:=by
  intro d hd;obtain⟨Do,q1,q2,q3⟩:=hrel.defers.at_ d hd
  exact⟨Do,q1,q2,(Q9.1 q3).1⟩
 have hrounds:∀(m:Nat) (X:Nat->Prop) (W':World) (e:List PV) (v:Value),J (m+1) X W'->es[m]?=some e->bp W' X ed (CG nE e) v->Xn P (w.heap.size+1) m v W' λen W''=>(en= .returned (.bool true)/\∃X,J m X W'')\/(en= .returned (.bool false)/\Jx W''):=by
  rintro m X W' e v ⟨T,L',rfl,hi,hr,hl,hk⟩ hem hrep;refine⟨fn,(a.tmps.setIfInBounds p0 (.int .i64 m)).setIfInBounds p1 v,assign,body,by rw[run_yield hl (by rw[hrec];rfl)];simp only[hrec];rw[<-ajF],?_⟩
  refine roundIn_of_wpIn (F:=WF none) trivial ?_
  let E1:En:={E with rd:=some (w.heap.size+1),nd:=true,kt:=λt=>if t∈D then none else some (a.tmps.getD t undef),wk:=W'}
  have hget:∀t,((a.tmps.setIfInBounds p0 (.int .i64 m)).setIfInBounds p1 v).getD t undef=if t=p1 then v else if t=p0 then .int .i64 m else a.tmps.getD t undef:=by intro t;exact akF (by rw[hr.size.1,hE];exact hp0) (by rw[hr.size.1,hE];exact hp1)
  have hrel2:Rel E1 {T with env:=bU (bU T.env p0 (.int .i64 m)) p1 (CG nE e)} {tmps:=(a.tmps.setIfInBounds p0 (.int .i64 m)).setIfInBounds p1 v,defers:=[]} W' L':=by
   refine hr.Lf (some (w.heap.size+1)) true _ W' (λ_ _ hb _=>hb) (λt=> ?_) (Marks.nil rfl) ⟨by simp only[Array.size_setIfInBounds];exact hr.size.1,λt u hu=> ?_⟩ ⟨hr.fr.toFr,Di.refl _⟩
   ·simp only;rw[hget t];simp only[bU];split
    ·exact hrep.mono (cZ.of λ_ hn=>hn) (ed.le _)
    ·split
     ·exact .int _ _
     ·exact hr.env t
   ·simp only at hu ⊢;rw[hget t];split at hu
    ·cases hu
    ·rename_i hnt;injection hu with hu
     rw[Qs (λe:t=p1=>hnt (by rw[e];exact hD1)),Qs (λe:t=p0=>hnt (by rw[e];exact hD0)),hu]
  have hV:=hround m T e hi hem;have hw1:=hV E1 hE ⟨λt ht=>Qr (hDa t ht),.inr hna⟩ _ W' L' hrel2
  refine wpIn_mono hw1 ?_;rintro en a1 w1 ⟨S1,L1,hr1,hq1⟩
  cases en with
  |exit i|goto i|ret|panic ch|outgrown=>exact hq1.elim
  |normal=>
   have hl1:w1.heap[w.heap.size+1]?=some (.loop (rec .ready none)):=hr1.fr.ko.same _ _ hl rfl;have hd1:a1.defers=[]:=hr1.defers.none rfl;refine⟨_,run_beginRound hl1 (by rw[hrec]),?_⟩
   generalize hw2:w1.putObj (w.heap.size+1) (.loop {rec .ready none with state:= .busy})=w2
   have hrec2:({rec .ready none with state:= .busy}:Loop)=rec .busy none:=by rw[hrec]
   rw[hrec2]at hw2;have hlt1:w.heap.size+1<w1.heap.size:=(Q9.1 hl1).1;have hl2:w2.heap[w.heap.size+1]?=some (.loop (rec .busy none)):=by rw[<-hw2];exact World.putObj_heap_same hlt1
   have hrel3:Rel {E with rd:=some (w.heap.size+1),nd:=true,kt:=λt=>if t∈D then none else some (a.tmps.getD t undef),wk:=w2} S1 a1 w2 L1:=by
    refine hr1.Lf (some (w.heap.size+1)) true _ w2 (by rw[<-hw2];exact KM hl1 rfl _) (λt=>hr1.env t) (Marks.nil hd1) hr1.size ⟨?_,Di.refl _⟩
    rw[<-hw2];exact hr1.fr.toFr.putObj (by show E.w0.heap.size<=_;omega) _
   have hw3:=hq1 {E with rd:=some (w.heap.size+1),nd:=true,kt:=λt=>if t∈D then none else some (a.tmps.getD t undef),wk:=w2} hE ⟨λt ht=>Qr (hDb t ht),.inr hnb⟩ a1 w2 L1 hrel3
   refine wpIn_mono hw3 ?_;rintro en a3 w3 ⟨S3,L3,hr3,hq3⟩;have hl3:w3.heap[w.heap.size+1]?=some (.loop (rec .busy none)):=hr3.fr.ko.same _ _ hl2 rfl;have hlt3:w.heap.size+1<w3.heap.size:=(Q9.1 hl3).1
   have stay:∀(b:Nat) (o:Obj),b≠w.heap.size+1->W'.heap[b]?=some o->isC o=false->∀o',(w3.putObj (w.heap.size+1) o').heap[b]?=some o:=by intro b o hne hb ho o';rw[World.putObj_heap_other hne];refine hr3.fr.ko.same b o ?_ ho;rw[<-hw2,World.putObj_heap_other hne];exact hr1.fr.ko.same b o hb ho
   have back:∀o',Rel E (S3.xi D) a (w3.putObj (w.heap.size+1) o') L3:=by
    intro o'
    have:=hr3.Lf (w':=w3.putObj (w.heap.size+1) o') (a':=a) (env':=(S3.xi D).env) E.rd E.nd E.kt E.wk (KM hl3 rfl _) (λt=>by
      show bp _ _ _ (if t∈D then .any else S3.env t) _
      split
      ·exact .any _
      ·rename_i hnt;have h4:=hr3.size.2 t (a.tmps.getD t undef) (Qs hnt);rw[<-h4];exact hr3.env t) ⟨hr.defers.none,hr.defers.nodup,λd hd=>by
      obtain⟨Do,q1,q2,q3⟩:=hr.defers.at_ d hd
      obtain⟨Do',q4,_,q6⟩:=old d hd;have:Do=Do':=by rw[q1]at q4;injection q4 with q4;injection q4
      subst this
      exact⟨Do,q1,q2,stay Do _ (by omega) q3 rfl _⟩⟩ hr.size ⟨hr3.fr.toFr.putObj (by show E.w0.heap.size<=_;omega) _,⟨by rw[World.putObj_size];show E.wk.heap.size<=_;omega,λb o hb ho=>stay b o (by have hb':b<E.wk.heap.size:=(Q9.1 hb).1;omega) (hr.fr.ko.same b o hb ho) ho _⟩⟩
    exact this
   have hk3:∀o',(w3.putObj (w.heap.size+1) o').heap[w.heap.size]?=some (.deferred (some [])):=λo'=>stay _ _ (by omega) hk rfl o'
   have leave:∀j,abV en=some j->Q en (S3.xi D)->∃v w',(Instr.endRound (w.heap.size+1) (some j)).run P w3= .ok v w'/\((Ending.returned v= .returned (.bool true)/\∃X,J m X w')\/(Ending.returned v= .returned (.bool false)/\Jx w')):=by intro j hj hq;refine⟨_,_,run_endRound (some j) hl3,.inr ⟨rfl,en,j,S3.xi D,L3,hj,hq,back _,?_,hk3 _⟩⟩;rw[World.putObj_heap_same hlt3,hrec];rfl
   cases en with
   |normal=>obtain⟨S5,hw5,hi5⟩:=hq3;obtain⟨L5,hr5⟩:=hw5 E a _ L3 (back _);refine⟨_,_,run_endRound none hl3,.inl ⟨rfl,_,S5,L5,rfl,hi5,hr5,?_,hk3 _⟩⟩;rw[World.putObj_heap_same hlt3,hrec];rfl
   |ret|exit i|goto i=>exact leave _ rfl hq3
   |panic ch|outgrown=>exact hq3.elim
 have hcalls:=aaC (P:=P) (c:=c) (l:=w.heap.size+1) hf hin J Jx
  (λi X W ⟨T,L',hX,hi,hr,_,_⟩=>by
   subst hX;obtain⟨c',h1,h2⟩:=hclo hi hr;rw[hgv]at h1;injection h1 with _ _ h1
   have:c'=c:=by have:=congrArg (λa:Array Value=>a.toList) h1;simpa using this.symm
   subst this
   exact⟨hr.Yf λb hb=>hb,h2⟩)
  (λi X W' W'' ⟨T,L',hX,hi,hr,hl,hk⟩ hfr=>⟨T,L',hX,hi,grow hr hfr,eO hfr hl,eO hfr hk⟩)
  (λW' W'' ⟨en,j,T,L',h1,h2,hr,hl,hk⟩ hfr=>⟨en,j,T,L',h1,h2,grow hr hfr,eO hfr hl,eO hfr hk⟩) (λW' ⟨en,j,T,L',h1,h2,hr,hl,hk⟩=>hr.gi)
  hrounds W1 (X:=bl E S0 L) ⟨S0,L,rfl,h0,hrel1,hL1,hK1⟩
 refine⟨w.heap.size+1,[{target:= .collected w.heap.size,args:=#[]}],W1,{target:= .fn (.func f) #[c],args:=#[.func (.yield (w.heap.size+1)) #[] #[]]},W1,f,#[.func (.yield (w.heap.size+1)) #[] #[],c],W1,?_,?_,λ_ _=>trivial,?_,(λh=>by cases h),hcalls.mono ?_⟩
 ·rw[<-hW1,hrec];exact run_enterLoop_outer _ _ _ _ _
 ·have:a.eval (.tmp tg)= .func (.func f) #[] #[c]:=hgv
  have h2:(#[]++#[Operand.const (Value.func (Fn.yield (w.heap.size+1)) #[] #[])].map a.eval:Array Value)=#[.func (.yield (w.heap.size+1)) #[] #[]]:=by rw[Array.empty_append];simp[Act.eval]
  simp only[resolve,this,Deferred.ofValue];rw[h2];rfl
 ·have hen:Enters P f:=hf.enters;simp only[invoke];exact nB hen _
 ·rintro en W' ⟨⟨v,rfl⟩,hW'⟩
  have marks:∀{T:St} {L':Nat->Value} (o':Obj),Rel E T a W' L'->W'.heap[w.heap.size+1]?=some o'->Ko o'=false->W'.heap[w.heap.size]?=some (.deferred (some []))->∀o'',Rel E T {a with defers:=[{target:= .collected w.heap.size,args:=#[]}]++a.defers} (W'.putObj (w.heap.size+1) o'') L':=by
   intro T L' o' hr hl ho hk o'';refine hr.Lf (env':=T.env) E.rd E.nd E.kt E.wk (KM hl ho _) (λt=>hr.env t) ⟨(λe=>by rw[hnd]at e;cases e),?_,λd hd=> ?_⟩ hr.size ⟨hr.fr.toFr.putObj (by omega) _,af3 hr.fr.ko (by omega) _⟩
   ·rw[List.singleton_append,List.nodup_cons];refine⟨λhmem=> ?_,hr.defers.nodup⟩
    obtain⟨Do,q1,_,q3⟩:=old _ hmem;injection q1 with q1
    injection q1 with q1
    omega
   ·rcases Qz.1 hd with hd|hd
    ·rw[Q5.1 hd];exact⟨_,rfl,hE0,by rw[World.putObj_heap_other (by omega)];exact hk⟩
    ·obtain⟨Do,q1,q2,q3⟩:=hr.defers.at_ d hd
     obtain⟨Do',q4,_,q6⟩:=old d hd;have:Do=Do':=by rw[q1]at q4;injection q4 with q4;injection q4
     subst this;exact⟨Do,q1,q2,by rw[World.putObj_heap_other (by omega)];exact q3⟩
  rcases hW' with⟨X,T,L',_,hi,hr,hl,hk⟩|⟨en,j,T,L',hj,hq,hr,hl,hk⟩
  ·have hend1:=run_endLoop (P:=P) hl (by rw[hrec];intro e;cases e)
   exact⟨none,_,by rw[hend1,hrec],T,L',marks _ hr hl rfl hk _,hend T hi⟩
  ·have hend1:=run_endLoop (P:=P) hl (by rw[hrec];intro e;cases e)
   obtain⟨p,o',hp,hrun⟩:∃p o',p=some j/\(Instr.endLoop (w.heap.size+1)).run P W'= .ok p (W'.putObj (w.heap.size+1) o'):=⟨_,_,by rw[hrec],hend1⟩
   subst hp;have hfin:=marks _ hr hl rfl hk o';refine⟨some j,_,hrun,?_⟩
   cases en with
   |ret=>injection hj with hj;subst hj;exact wpIn_ret ⟨T,L',hfin,hq⟩
   |exit i=>injection hj with hj;subst hj;exact wpIn_exit ⟨T,L',hfin,hq⟩
   |goto i=>injection hj with hj;subst hj;exact wpIn_goto ⟨T,L',hfin,hq⟩
   |normal|panic ch|outgrown=>cases hj
def SC.s8:SC->List Nat
 | .tZ gs| .rV _ gs=>gs.filterMap (·.d)
 | .seq x y| .cond _ x y=>x.s8++y.s8
 | .block _ x| .loop x=>x.s8
 | .GC _ ps x y=>ps++x.s8++y.s8
 |_=>[]
def SK{hs:List Nat}{ops:Array Oper}:∀(l:List Oper) (gs:List SG),l.mapM (wF P hs ops)=some gs->l.filterMap (·.dst)=gs.filterMap (·.d)
 |[],gs,h=>by simp at h;subst h;rfl
 |o::l,gs,h=>by simp only[Qq75,Qd,Qc,Option.pure_def,Qf]at h;obtain⟨g,hg,gs',hgs,rfl⟩:=h;simp only[List.filterMap_cons,(KG hg).2.1,SK l gs' hgs]
def sE{nt:Nat}{hs:List Nat}:∀(c:Code) (sc:SC),aX P nt hs c=some sc->mC c=sc.s8
 | .skip,sc,h| .exit _,sc,h| .ret,sc,h=>by simp only[aX]at h;injection h with h;subst h;rfl
 | .region _ ops false,sc,h=>by
  simp only[aX]at h;split at h
  ·rename_i gs hgs;split at h
   ·injection h with h;subst h;exact SK _ _ hgs
   ·cases h
  ·cases h
 | .region _ ops true,sc,h=>by
  simp only[aX]at h;split at h
  ·rename_i gs hgs;split at h
   ·split at h
    ·injection h with h;subst h;exact SK _ _ hgs
    ·cases h
   ·cases h
  ·cases h
 | .seq x y,sc,h=>by
  simp only[aX]at h;split at h
  ·rename_i hx hy;injection h with h;subst h;simp only[mC,SC.s8,sE x _ hx,sE y _ hy]
  ·cases h
 | .cond c x y,sc,h=>by
  simp only[aX]at h;split at h
  ·rename_i _ hx hy;injection h with h;subst h;simp only[mC,SC.s8,sE x _ hx,sE y _ hy]
  ·cases h
 | .block _ x,sc,h=>by simp only[aX,Qb]at h;obtain⟨x',hx,rfl⟩:=h;simp only[mC,SC.s8,sE x _ hx]
 | .loop x,sc,h=>by simp only[aX,Qb]at h;obtain⟨x',hx,rfl⟩:=h;simp only[mC,SC.s8,sE x _ hx]
 | .rangeFunc g ps x y,sc,h=>by
  simp only[aX]at h;split at h
  ·rename_i _ hx hy;split at h
   ·injection h with h;subst h;simp only[mC,SC.s8,sE x _ hx,sE y _ hy]
   ·cases h
  ·cases h
 | .goto _,sc,h| .scope _,sc,h| .label _,sc,h| .refuse _,sc,h=>by simp only[aX]at h;cases h
def ahb{nt:Nat}{tg p0 p1:Nat}{x y:SC}{f:FuncId}{k:Nat}{nE:Option Nat}{es:List (List PV)}{Q:Exit->St->Prop}(hf:iO P f 19 (ER k nE) [])(hin:K0 k nE es)
  (htg:tg∉SC.s8 (.GC (.tmp tg) [p0,p1] x y)) (I:Nat->St->Prop)
  (h0:Xo (I es.length) (S.xi (SC.s8 (.GC (.tmp tg) [p0,p1] x y)))) (hI:∀i T,I i T->T.env tg= .bI f [.ref [.sl es]])
  (hround:∀m T e,I (m+1) T->es[m]?=some e->VS P nt x (RP (VS P nt y (ahC (SC.s8 (.GC (.tmp tg) [p0,p1] x y)) (I m) Q)) (λ_ _=>False)) {T with env:=bU (bU T.env p0 (.int .i64 m)) p1 (CG nE e)})
  (hend:∀T,I 0 T->Q .normal T):VS P nt (.GC (.tmp tg) [p0,p1] x y) Q S:=by
 intro c hs hc;have hsets:=sE c _ hc
 cases c with
 |rangeFunc g ps assign body=>
  simp only[aX]at hc;split at hc
  ·rename_i g' x' y' hg hx hy;split at hc
   ·rename_i hcond;injection hc with hc
    injection hc with e1 e2 e3 e4
    subst e1 e3 e4;simp only[Qm]at hcond;obtain⟨⟨hn1,hn2⟩,hps⟩:=hcond
    have hps2:ps=#[p0,p1]:=by have:=congrArg List.toArray e2;simpa using this
    subst hps2
    have hg2:g= .tmp tg:=by
     cases g with
     |tmp t=>simp only[bH]at hg;injection hg with hg;injection hg with hg;rw[hg]
     |const v=>simp only[bH,Qb]at hg;obtain⟨_,_,hg⟩:=hg;cases hg
     |global g|func f=>simp[bH]at hg
    subst hg2;rw[<-hsets]at h0 hround htg;simp only[Qq70,List.all_nil,Bool.and_true,Qm,Qi]at hps;refine aiH hf hin hn1 hn2 hps.1 hps.2 htg I h0 hI (λm T e hi he=> ?_) hend
    refine(hround m T e hi he assign hs hx).mono ?_;intro en A hq
    cases en with
    |normal=>exact hq body hs hy
    |exit i|goto i|ret|panic ch|outgrown=>exact hq
   ·cases hc
  ·cases hc
 |region id ops d=>cases d<;>simp only[aX]at hc<;>(try split at hc)<;>(try split at hc)<;>(try split at hc)<;>cases hc
 |seq x y|cond c x y=>simp only[aX]at hc;split at hc<;>cases hc
 |block id c|loop c=>simp only[aX,Qb]at hc;obtain⟨_,_,hc⟩:=hc;cases hc
 |_=>simp only[aX]at hc<;>cases hc
end
end
section
section
variable {U : TU}
inductive dz (U:TU) where
 |ty (T:U.Ty)
 |bI (f:FuncId) (cs:List (dz U))
 |ref (a:dz U)
 |agg (cs:List (dz U))
inductive qy (U:TU) where
 |one (T:U.Ty)
 |many (Ts:List U.Ty)
 |fn (a:dz U)
@[reducible] def IG (U:TU):List U.Ty->Type
 |[]=>Unit
 |T::l=>U.den T×IG U l
mutual
@[reducible] def dz.den:dz U->Type
 | .ty T=>U.den T
 | .bI _ cs=>eK cs
 | .ref a=>a.den
 | .agg cs=>eK cs
@[reducible] def eK:List (dz U)->Type
 |[]=>Unit
 |a::l=>a.den×eK l
end
@[reducible] def qy.den:qy U->Type
 | .one T=>U.den T
 | .many Ts=>IG U Ts
 | .fn a=>a.den
def FT:(Ts:List U.Ty)->IG U Ts->List PV
 |[],_=>[]
 |T::l,v=>fC T v.1::FT l v.2
mutual
def oe:(a:dz U)->a.den->PV
 | .ty T,v=>fC T v
 | .bI f cs,v=> .bI f (gU cs v)
 | .ref a,v=> .ref (rZ a v)
 | .agg cs,v=> .agg (gU cs v)
def rZ:(a:dz U)->a.den->List PV
 | .ty T,v=>U.pv T v
 | .bI f cs,v=>[.bI f (gU cs v)]
 | .ref a,v=>[.ref (rZ a v)]
 | .agg cs,v=>gU cs v
def gU:(A_s:List (dz U))->eK A_s->List PV
 |[],_=>[]
 |a::l,v=>oe a v.1::gU l v.2
end
def vT:(r:qy U)->r.den->PV
 | .one T,v=>fC T v
 | .many Ts,v=> .eN (FT Ts v)
 | .fn a,v=>oe a v
variable (K : TK U)
def tsK:(Ts:List U.Ty)->IG U Ts->List (KV U)
 |[],_=>[]
 |T::l,v=>Bm K T v.1::tsK l v.2
mutual
def Ob:(a:dz U)->a.den->KV U
 | .ty T,v=>Bm K T v
 | .bI f cs,v=> .bI f (wM cs v)
 | .ref a,v=> .ref (IC a v)
 | .agg cs,v=> .agg (wM cs v)
def IC:(a:dz U)->a.den->List (KV U)
 | .ty T,v=>K.gn T v
 | .bI f cs,v=>[.bI f (wM cs v)]
 | .ref a,v=>[.ref (IC a v)]
 | .agg cs,v=>wM cs v
def wM:(A_s:List (dz U))->eK A_s->List (KV U)
 |[],_=>[]
 |a::l,v=>Ob a v.1::wM l v.2
end
def Vj:(r:qy U)->r.den->KV U
 | .one T,v=>Bm K T v
 | .many Ts,v=> .eN (tsK K Ts v)
 | .fn a,v=>Ob K a v
def aa4:∀(Ts:List U.Ty) (v:IG U Ts),(tsK K Ts v).map KV.pv=FT Ts v
 |[],_=>rfl
 |T::l,v=>by rw[tsK,FT,QD,DR,aa4 l v.2]
mutual
def Y9:∀(a:dz U) (v:a.den),(Ob K a v).pv=oe a v
 | .ty T,v=>by rw[Ob,oe];exact DR K T v
 | .bI f cs,v=>by rw[Ob,oe,KV.pv,KV.c9,CO cs v]
 | .ref a,v=>by rw[Ob,oe,KV.pv,KV.c9,Xh a v]
 | .agg cs,v=>by rw[Ob,oe,KV.pv,KV.c9,CO cs v]
def Xh:∀(a:dz U) (v:a.den),(IC K a v).map KV.pv=rZ a v
 | .ty T,v=>by rw[IC,rZ];exact K.uO T v
 | .bI f cs,v=>by rw[IC,rZ,QD,QO,KV.pv,KV.c9,CO cs v]
 | .ref a,v=>by rw[IC,rZ,QD,QO,KV.pv,KV.c9,Xh a v]
 | .agg cs,v=>by rw[IC,rZ,CO cs v]
def CO:∀(A_s:List (dz U)) (v:eK A_s),(wM K A_s v).map KV.pv=gU A_s v
 |[],_=>by rw[wM,gU];rfl
 |a::l,v=>by rw[wM,gU,QD,Y9 a v.1,CO l v.2]
end
def OD:∀(r:qy U) (v:r.den),(Vj K r v).pv=vT r v
 | .one T,v=>DR K T v
 | .many Ts,v=>by rw[Vj,vT,KV.pv,KV.c9,aa4]
 | .fn a,v=>Y9 K a v
def U0(lk:Lk U):(Ts:List U.Ty)->List (KV U)->Option (IG U Ts)
 |[],xs=>match xs with|[]=>some ()|_=>none
 |T::l,xs=>match xs with
  |x::xs=>(match Ff K lk T x with
   |some v=>(match U0 lk l xs with|some vs=>some (v,vs)|none=>none)
   |none=>none)
  |[]=>none
def KV.UT:KV U->Bool
 | .eG=>false
 |_=>true
def aai:Option Nat->Nat->Bool
 |none,_=>true
 |some i,id=> !Nat.beq i id
def B9:List (KV U)->KV U
 |[x]=>x
 |_=> .any
def Iu(T:U.Ty)(cs:List (KV U)):Option (U.den T):=
 match cs.all KV.UT with
 |true=>K.dec T td cs
 |false=>none
def Lo{α:Type}(f:FuncId)(x:KV U)(k:List (KV U)->Option α):Option α:=
 match x with
 | .bI g caps=>(match Nat.beq g f with|true=>k caps|false=>none)
 |_=>none
def O5{α:Type}(x:KV U)(k:List (KV U)->Option α):Option α:=
 match x with
 | .agg cs=>k cs
 |_=>none
def UQ{α:Type}(x:KV U)(k:List (KV U)->Option α):Option α:=
 match x with
 | .ref cs=>k cs
 |_=>none
def US(xs:List (KV U)):Option Unit:=
 match xs with
 |[]=>some ()
 |_=>none
def O4{α β:Type}(xs:List (KV U))(k:KV U->Option α)(m:List (KV U)->Option β):Option (α×β):=
 match xs with
 |x::l=>(match k x with
  |some v=>(match m l with|some vs=>some (v,vs)|none=>none)
  |none=>none)
 |[]=>none
def UR{α:Type}(S:aW U)(ex:Option Nat)(x:KV U)(k0 k1:List (KV U)->Option α):Option α:=
 match x with
 | .ref cells=>k0 cells
 | .ptr id av off=>(match Nat.beq off 0&&aai ex id with
  |true=>(match Nat.beq (S.H id).av av with
   |true=>(match(S.H id).c with
    | .box cells=>k1 cells
    |_=>none)
   |false=>none)
  |false=>none)
 |_=>none
def Dw{α:Type}{f:FuncId}{x:KV U}{k:List (KV U)->Option α}{r:α}(h:Lo f x k=some r):∃caps,x= .bI f caps/\k caps=some r:=by
 unfold Lo at h;split at h
 ·split at h
  ·rename_i hg;exact⟨_,by rw[QF hg],h⟩
  ·cases h
 ·cases h
def HP{α:Type}{x:KV U}{k:List (KV U)->Option α}{r:α}(h:O5 x k=some r):∃cs,x= .agg cs/\k cs=some r:=by
 unfold O5 at h;split at h
 ·exact⟨_,rfl,h⟩
 ·cases h
def O1{α:Type}{x:KV U}{k:List (KV U)->Option α}{r:α}(h:UQ x k=some r):∃cs,x= .ref cs/\k cs=some r:=by
 unfold UQ at h;split at h
 ·exact⟨_,rfl,h⟩
 ·cases h
def O3{xs:List (KV U)}{r:Unit}(h:US xs=some r):xs=[]:=by
 unfold US at h;split at h
 ·rfl
 ·cases h
def ME{α β:Type}{xs:List (KV U)}{k:KV U->Option α}{m:List (KV U)->Option β}{r:α×β}(h:O4 xs k m=some r):∃x l,xs=x::l/\k x=some r.1/\m l=some r.2:=by
 unfold O4 at h;split at h
 ·split at h
  ·rename_i h1;split at h
   ·rename_i h2;injection h with h
    subst h;exact⟨_,_,rfl,h1,h2⟩
   ·cases h
  ·cases h
 ·cases h
def O2{α:Type}{S:aW U}{ex:Option Nat}{x:KV U}{k0 k1:List (KV U)->Option α}{r:α}(h:UR S ex x k0 k1=some r):
  (∃cs,x= .ref cs/\k0 cs=some r)\/∃id av cells,x= .ptr id av 0/\aai ex id=true/\(S.H id).av=av/\(S.H id).c= .box cells/\k1 cells=some r:=by
 unfold UR at h;split at h
 ·exact .inl ⟨_,rfl,h⟩
 ·split at h
  ·rename_i hoff;rw[Qm]at hoff;split at h
   ·rename_i hver;split at h
    ·rename_i hc;exact .inr ⟨_,_,_,by rw[QF hoff.1],hoff.2,QF hver,hc,h⟩
    ·cases h
   ·cases h
  ·cases h
 ·cases h
mutual
def LD:(a:dz U)->KV U->Option a.den
 | .ty T,x=>(match U.agg T with
  |true=>O5 x λcs=>Iu K T cs
  |false=>Iu K T [x])
 | .bI f cs,x=>Lo f x λcaps=>CL cs caps
 | .ref a,x=>UQ x λcells=>DI a cells
 | .agg cs,x=>O5 x λcells=>CL cs cells
def DI:(a:dz U)->List (KV U)->Option a.den
 | .ty T,cells=>Iu K T cells
 | .bI f cs,cells=>Lo f (B9 cells) λcaps=>CL cs caps
 | .ref a,cells=>UQ (B9 cells) λcells=>DI a cells
 | .agg cs,cells=>CL cs cells
def CL:(A_s:List (dz U))->List (KV U)->Option (eK A_s)
 |[],xs=>US xs
 |a::l,xs=>O4 xs (λx=>LD a x) λxs=>CL l xs
end
mutual
def N2(S:aW U)(ex:Option Nat):(a:dz U)->KV U->Option a.den
 | .ty T,x=>Ff K S.lk T x
 | .bI f cs,x=>Lo f x λcaps=>uv S ex cs caps
 | .ref a,x=>UR S ex x (λcells=>DI K a cells) λcells=>N1 S ex a cells
 | .agg cs,x=>O5 x λcells=>uv S ex cs cells
def N1(S:aW U)(ex:Option Nat):(a:dz U)->List (KV U)->Option a.den
 | .ty T,cells=>K.dec T S.lk cells
 | .bI f cs,cells=>Lo f (B9 cells) λcaps=>uv S ex cs caps
 | .ref a,cells=>UR S ex (B9 cells) (λcells=>DI K a cells) λcells=>N1 S ex a cells
 | .agg cs,cells=>uv S ex cs cells
def uv(S:aW U)(ex:Option Nat):(A_s:List (dz U))->List (KV U)->Option (eK A_s)
 |[],xs=>US xs
 |a::l,xs=>O4 xs (λx=>N2 S ex a x) λxs=>uv S ex l xs
end
mutual
def dz.depth:dz U->Nat
 | .ty _=>2
 | .bI _ cs=>rn cs+1
 | .ref a=>a.depth+1
 | .agg cs=>rn cs+1
def rn:List (dz U)->Nat
 |[]=>2
 |a::l=>max a.depth (rn l)
end
def qy.plain:qy U->Bool
 | .one T=>U.plain T
 | .many Ts=>Ts.all U.plain
 | .fn _=>false
def dz.aeW:dz U->Bool
 | .ref _=>true
 |_=>false
def qy.ok:qy U->Bool
 | .fn (.bI _ cs)=>cs.all dz.aeW
 | .fn _=>false
 |_=>true
def agy{H:Nat->gm}{ex:Option Nat}:∀(n:Nat) {y:PV},y.ib=true->fz H ex n y=y
 |0,y,h|n+1,y,h=>by cases y<;>simp[PV.ib]at h<;>simp[fz,PV.closed]
def adN{H:Nat->gm}{ex:Option Nat}(n:Nat){l:List PV}(h:∀y∈l,y.ib=true):l.map (fz H ex n)=l:=by
 induction l with
 |nil=>rfl
 |cons x l ih=>rw[QD,agy n (h x (by simp)),ih λy hy=>h y (by simp[hy])]
def YM{S:aW U}{id av:Nat}{T:U.Ty}{xs:List (U.den T)}(h:S.lk id av T=some xs):(S.H id).av=av/\∃e k,(S.H id).c= .row e k T xs:=by
 unfold aW.lk at h;split at h
 ·rename_i hv;split at h
  ·rename_i e k T' ys hc;obtain⟨eq,rfl⟩:=nm h;subst eq;exact⟨QF hv,e,k,hc⟩
  ·cases h
 ·cases h
variable {K}
variable {S : aW U} {ex : Option Nat}
def agU(hex:∀id,ex=some id->∀e k T xs,(S.H id).c≠ .row e k T xs)(n:Nat){x:KV U}{y:PV}(h:nW S.lk x y)(K:TK U):fz S.st.H ex (n+1) x.pv=y:=by
 cases h with
 |int|bool|str|sl T xs|jQ A B xs=>simp[KV.pv,fz,PV.closed]
 |eG=>simp[KV.pv,fz]
 |own id av T xs h=>
  obtain⟨hv,e,k,hc⟩:=YM h
  have hne:¬(some id=ex\/(S.st.H id).av≠av):=by
   rintro(h1|h1)
   ·exact hex id h1.symm _ _ _ _ hc
   ·exact h1 hv
  have hcp:(S.st.H id).c= .row e k (xs.map (U.pv T)):=by simp[aW.st,dv.pv,hc,dY.pv]
  simp only[KV.pv,fz];rw[Qs hne,hcp];simp only[List.map_map];congr 1;refine Qq71 λv _=> ?_
  exact adN n λy hy=>K.ib T v y hy
def N8(hex:∀id,ex=some id->∀e k T xs,(S.H id).c≠ .row e k T xs)(n:Nat){xs:List (KV U)}{ys:List PV}(h:iI S.lk xs ys)(K:TK U):(xs.map KV.pv).map (fz S.st.H ex (n+1))=ys:=by
 induction h with
 |nil=>rfl
 |cons h _ ih=>rw[QD,QD,agU hex n h K,ih]
def M6(hex:∀id,ex=some id->∀e k T xs,(S.H id).c≠ .row e k T xs)(n:Nat){T:U.Ty}{x:KV U}{v:U.den T}(h:Ff K S.lk T x=some v):fz S.st.H ex (n+2) x.pv=fC T v:=by
 unfold Ff at h;unfold fC;split at h
 ·rename_i ha;split at h
  ·rename_i cs;simp only[KV.pv,KV.c9,fz,N8 hex n (K.oZ _ _ _ _ h) K]
  ·cases h
 ·rename_i ha;have h1:=N8 hex (n+1) (K.oZ _ _ _ _ h) K;simp only[QD,QO]at h1;simp only[<-h1,List.headD_cons]
def WN(hex:∀id,ex=some id->∀e k T xs,(S.H id).c≠ .row e k T xs)(n:Nat):∀(Ts:List U.Ty) (xs:List (KV U)) (v:IG U Ts),U0 K S.lk Ts xs=some v->(xs.map KV.pv).map (fz S.st.H ex (n+2))=FT Ts v
 |[],[],_,_=>rfl
 |[],_::_,_,h|T::l,[],_,h=>by cases h
 |T::l,x::xs,v,h=>by
  rw[U0]at h;split at h
  ·rename_i v1 h1;split at h
   ·rename_i vs h2;injection h with h
    subst h;rw[QD,QD,FT,M6 hex n h1,WN hex n l xs vs h2]
   ·cases h
  ·cases h
def aa5{xs:List (KV U)}{ys:List PV}(h:iI td xs ys):xs.all KV.UT=true->xs.map KV.pv=ys:=by
 induction h with
 |nil=>intro _;rfl
 |cons hc _ ih=>
  intro hn;rw[Qq70,Qm]at hn;rw[QD,ih hn.2];congr 1
  cases hc with
  |eG=>cases hn.1
  |own _ _ _ _ h=>cases h
  |_=>rfl
def NZ{T:U.Ty}{cs:List (KV U)}{v:U.den T}(h:Iu K T cs=some v):cs.map KV.pv=U.pv T v:=by
 unfold Iu at h;split at h
 ·rename_i hn;exact aa5 (K.oZ _ _ _ _ h) hn
 ·cases h
def PW{cs:List (KV U)}{f:FuncId}{caps:List (KV U)}(h:B9 cs= .bI f caps):cs=[.bI f caps]:=by
 unfold B9 at h;split at h
 ·rw[h]
 ·cases h
def TZ{cs cells:List (KV U)}(h:B9 cs= .ref cells):cs=[.ref cells]:=by
 unfold B9 at h;split at h
 ·rw[h]
 ·cases h
def ab0{cs:List (KV U)}{id av off:Nat}(h:B9 cs= .ptr id av off):cs=[.ptr id av off]:=by
 unfold B9 at h;split at h
 ·rw[h]
 ·cases h
mutual
def ad1:∀(a:dz U) (x:KV U) (v:a.den),LD K a x=some v->x.pv=oe a v
 | .ty T,x,v,h=>by
  rw[LD]at h;rw[oe];split at h
  ·rename_i ha;obtain⟨cs,rfl,h⟩:=HP h;rw[KV.pv,KV.c9,NZ h,fC,ha]
  ·rename_i ha;have:=NZ h;rw[fC,ha,<-this];rfl
 | .bI f cs,x,v,h=>by rw[LD]at h;rw[oe];obtain⟨caps,rfl,h'⟩:=Dw h;rw[KV.pv,KV.c9,CK cs caps v h']
 | .ref a,x,v,h=>by rw[LD]at h;rw[oe];obtain⟨cells,rfl,h⟩:=O1 h;rw[KV.pv,KV.c9,Iv a cells v h]
 | .agg cs,x,v,h=>by rw[LD]at h;rw[oe];obtain⟨cells,rfl,h⟩:=HP h;rw[KV.pv,KV.c9,CK cs cells v h]
def Iv:∀(a:dz U) (cs:List (KV U)) (v:a.den),DI K a cs=some v->cs.map KV.pv=rZ a v
 | .ty T,cs,v,h=>by rw[DI]at h;rw[rZ];exact NZ h
 | .bI f cs,cells,v,h=>by rw[DI]at h;rw[rZ];obtain⟨caps,hh,h⟩:=Dw h;rw[PW hh,QD,QO,KV.pv,KV.c9,CK cs caps v h]
 | .ref a,cells,v,h=>by rw[DI]at h;rw[rZ];obtain⟨cells',hh,h⟩:=O1 h;rw[TZ hh,QD,QO,KV.pv,KV.c9,Iv a cells' v h]
 | .agg cs,cells,v,h=>by rw[DI]at h;rw[rZ];exact CK cs cells v h
def CK:∀(A_s:List (dz U)) (xs:List (KV U)) (v:eK A_s),CL K A_s xs=some v->xs.map KV.pv=gU A_s v
 |[],xs,v,h=>by rw[CL]at h;rw[gU,O3 h];rfl
 |a::l,xs,v,h=>by rw[CL]at h;rw[gU];obtain⟨x,xs,rfl,h1,h2⟩:=ME h;rw[QD,ad1 a x v.1 h1,CK l xs v.2 h2]
end
mutual
def Y2(hex:∀id,ex=some id->∀e k T xs,(S.H id).c≠ .row e k T xs):∀(a:dz U) (n:Nat) (x:KV U) (v:a.den),a.depth<=n->N2 K S ex a x=some v->fz S.st.H ex n x.pv=oe a v
 | .ty T,n,x,v,hd,h=>by
  rw[N2]at h;rw[oe];rw[dz.depth]at hd;obtain⟨m,rfl⟩:∃m,n=m+2:=⟨n - 2,by omega⟩
  exact M6 hex m h
 | .bI f cs,n,x,v,hd,h=>by
  rw[N2]at h;rw[oe];rw[dz.depth]at hd;obtain⟨m,rfl⟩:∃m,n=m+1:=⟨n - 1,by omega⟩
  obtain⟨caps,rfl,h'⟩:=Dw h;rw[KV.pv,KV.c9,fz,oI hex cs m caps v (by omega) h']
 | .ref a,n,x,v,hd,h=>by
  rw[N2]at h;rw[oe];rw[dz.depth]at hd;obtain⟨m,rfl⟩:∃m,n=m+1:=⟨n - 1,by omega⟩
  rcases O2 h with⟨cells,rfl,h⟩|⟨id,av,cells,rfl,hex2,hver,hc,h⟩
  ·rw[KV.pv,KV.c9,Iv a cells v h];simp[fz,PV.closed]
  ·have hne:¬(some id=ex\/(S.st.H id).av≠av):=by
    rintro(h1|h1)
    ·rw[<-h1]at hex2;simp[aai]at hex2
    ·exact h1 hver
   have hcp:(S.st.H id).c= .box (cells.map KV.pv):=by simp[aW.st,dv.pv,hc,dY.pv]
   simp only[KV.pv,fz];rw[Qs hne,hcp];simp only[List.drop_zero];rw[Y1 hex a m cells v (by omega) h]
 | .agg cs,n,x,v,hd,h=>by
  rw[N2]at h;rw[oe];rw[dz.depth]at hd;obtain⟨m,rfl⟩:∃m,n=m+1:=⟨n - 1,by omega⟩
  obtain⟨caps,rfl,h'⟩:=HP h;rw[KV.pv,KV.c9,fz,oI hex cs m caps v (by omega) h']
def Y1(hex:∀id,ex=some id->∀e k T xs,(S.H id).c≠ .row e k T xs):∀(a:dz U) (n:Nat) (cs:List (KV U)) (v:a.den),a.depth<=n->N1 K S ex a cs=some v->(cs.map KV.pv).map (fz S.st.H ex n)=rZ a v
 | .ty T,n,cs,v,hd,h=>by
  rw[N1]at h;rw[rZ];rw[dz.depth]at hd;obtain⟨m,rfl⟩:∃m,n=m+1:=⟨n - 1,by omega⟩
  exact N8 hex m (K.oZ _ _ _ _ h) K
 | .bI f cs,n,cells,v,hd,h=>by
  rw[N1]at h;rw[rZ];rw[dz.depth]at hd;obtain⟨m,rfl⟩:∃m,n=m+1:=⟨n - 1,by omega⟩
  obtain⟨caps,hh,h⟩:=Dw h;rw[PW hh,QD,QO,QD,QO,KV.pv,KV.c9,fz,oI hex cs m caps v (by omega) h]
 | .ref a,n,cells,v,hd,h=>by
  rw[N1]at h;rw[rZ];rw[dz.depth]at hd;obtain⟨m,rfl⟩:∃m,n=m+1:=⟨n - 1,by omega⟩
  rcases O2 h with⟨cells',hh,h⟩|⟨id,av,cells',hh,hex2,hver,hc,h⟩
  ·rw[TZ hh,QD,QO,KV.pv,KV.c9,Iv a cells' v h];simp[fz,PV.closed]
  ·have hne:¬(some id=ex\/(S.st.H id).av≠av):=by
    rintro(h1|h1)
    ·rw[<-h1]at hex2;simp[aai]at hex2
    ·exact h1 hver
   have hcp:(S.st.H id).c= .box (cells'.map KV.pv):=by simp[aW.st,dv.pv,hc,dY.pv]
   rw[ab0 hh];simp only[QD,QO,KV.pv,fz];rw[Qs hne,hcp];simp only[List.drop_zero];rw[Y1 hex a m cells' v (by omega) h]
 | .agg cs,n,cells,v,hd,h=>by rw[N1]at h;rw[rZ];rw[dz.depth]at hd;exact oI hex cs n cells v (by omega) h
def oI(hex:∀id,ex=some id->∀e k T xs,(S.H id).c≠ .row e k T xs):∀(A_s:List (dz U)) (n:Nat) (xs:List (KV U)) (v:eK A_s),rn A_s<=n->uv K S ex A_s xs=some v->(xs.map KV.pv).map (fz S.st.H ex n)=gU A_s v
 |[],n,xs,v,hd,h=>by rw[uv]at h;rw[gU,O3 h];rfl
 |a::l,n,xs,v,hd,h=>by rw[uv]at h;rw[gU];rw[rn]at hd;obtain⟨x,xs,rfl,h1,h2⟩:=ME h;rw[QD,QD,Y2 hex a n x v.1 (by omega) h1,oI hex l n xs v.2 (by omega) h2]
end
def wK{xs:List (KV U)}{ys:List PV}(h:iI td xs ys):(xs.map KV.pv).map nz=ys/\xs.all KV.closed=true:=by
 induction h with
 |nil=>exact⟨rfl,rfl⟩
 |cons h _ ih=>
  obtain⟨h1,h2⟩:=ih;simp only[QD,Qq70,h1,h2,Bool.and_true]
  cases h with
  |own _ _ _ _ h=>cases h
  |_=>simp[KV.pv,nz,KV.closed]
def aW.nG(S:aW U)(id av:Nat):aW U:={env:=S.env,H:=hY S.H id ⟨av,.dead⟩,N:=S.N}
def ae7{H H':Nat->gm}{ex:Option Nat}(h:∀j,some j≠ex->H' j=H j):∀(n:Nat) (y:PV),fz H' ex n y=fz H ex n y
 |0,y=>by simp only[fz]
 |n+1,y=>by
  have hm:fz H' ex n=fz H ex n:=funext (ae7 h n)
  cases y with
  |own id av|ptr id av off=>
   simp only[fz,hm]
   by_cases h0:some id=ex
   ·rw[Qr (.inl h0),Qr (.inl h0)]
   ·rw[h id h0]
  |agg cs|eN cs|bI f cs=>simp only[fz,hm]
  |_=>simp only[fz]
def YO(S:aW U)(id av n:Nat)(y:PV):fz (S.nG id av).st.H (some id) n y=fz S.st.H (some id) n y:=by
 refine ae7 (λj hj=> ?_) n y
 have:j≠id:=λe=>hj (by rw[e])
 simp only[aW.nG,aW.st,dO,c7 _ _ this]
def Ws(S:aW U)(id av:Nat):∀j,some id=some j->∀e k T xs,((S.nG id av).H j).c≠ .row e k T xs:=by
 intro j hj e k T xs;injection hj with hj
 subst hj;simp only[aW.nG,dO,ct];intro h;cases h
inductive dU (U:TU) where
 |rw(f:FuncId) (e k:Nat) (T:U.Ty) (A_s:List (dz U)) (rs:qy U) (F:List (U.den T)->eK A_s->Option (rs.den×List (U.den T)))
 |cw (f:FuncId) (e k:Nat) (T:U.Ty) (A_s:List (dz U)) (F:List (U.den T)->eK A_s->Option (List (U.den T)))
 |fw (f:FuncId) (A_s:List (dz U)) (e k:Nat) (T:U.Ty) (F:eK A_s->Option (List (U.den T)))
 |fn (f:FuncId) (A_s:List (dz U)) (rs:qy U) (F:eK A_s->Option rs.den)
 |rc (f:FuncId) (pos:Nat) (R:U.Ty) (A_s:List (dz U)) (rs:qy U) (F:U.den R->eK A_s->Option (rs.den×U.den R))
 |nw (f:FuncId) (A_s:List (dz U)) (R:U.Ty) (F:eK A_s->Option (U.den R))
 |ro (f:FuncId) (pos:Nat) (R:U.Ty) (A_s:List (dz U)) (rs:qy U) (F:U.den R->eK A_s->Option (rs.den×U.den R))
 |bk (f k:Nat) (nE:Option Nat)
def dU.Sound(P:Program):dU U->Prop
 | .rw f e k T A_s rs F=>Enters P f/\∀xs a r ys,F xs a=some (r,ys)->aaR P f e k (xs.map (U.pv T)) (gU A_s a) (vT rs r) (ys.map (U.pv T))
 | .cw f e k T A_s F=>Enters P f/\∀xs a ys,F xs a=some ys->Od P f e k (xs.map (U.pv T)) (gU A_s a) (ys.map (U.pv T))
 | .fw f A_s e k T F=>Enters P f/\∀a ys,F a=some ys->Xy P f (gU A_s a) e k (ys.map (U.pv T))
 | .fn f A_s rs F=>Enters P f/\∀a r,F a=some r->Con P f false [] (gU A_s a) (vT rs r) []
 | .rc f pos R A_s rs F=>Enters P f/\∀s a r s',F s a=some (r,s')->LM P f pos true (U.pv R s) (gU A_s a) (vT rs r) (U.pv R s')
 | .ro f pos R A_s rs F=>Enters P f/\∀s a r s',F s a=some (r,s')->s'=s/\LM P f pos true (U.pv R s) (gU A_s a) (vT rs r) (U.pv R s')
 | .nw f A_s R F=>Enters P f/\∀a s,F a=some s->aaS P f (gU A_s a) (U.pv R s)
 | .bk f k nE=>iO P f 19 (ER k nE) []
def vq(P:Program):List (dU U)->Prop
 |[]=>True
 |f::l=>f.Sound P/\vq P l
def PZ(f k:Nat)(nE:Option Nat):List (dU U)->Bool
 |[]=>false
 | .bk f' k' nE'::Γ=>(Nat.beq f f'&&Nat.beq k k'&&(match nE,nE' with|none,none=>true|some a,some b=>Nat.beq a b|_,_=>false))||PZ f k nE Γ
 |_::Γ=>PZ f k nE Γ
def NQ{P:Program}{f k:Nat}{nE:Option Nat}:∀{Γ:List (dU U)},vq P Γ->PZ f k nE Γ=true->iO P f 19 (ER k nE) []
 |[],_,h=>by cases h
 | .bk f' k' nE'::Γ,hΓ,h=>by
  simp only[PZ,Qn,Qm]at h;rcases h with⟨⟨h1,h2⟩,h3⟩|h
  ·have h1:=QF h1;have h2:=QF h2;subst h1 h2
   have h4:nE=nE':=by cases nE<;>cases nE'<;>simp only at h3<;>first|rfl|(cases h3)|(rw[QF h3])
   subst h4;exact hΓ.1
  ·exact NQ hΓ.2 h
 | .ro ..::Γ,hΓ,h| .rw ..::Γ,hΓ,h| .cw ..::Γ,hΓ,h| .fw ..::Γ,hΓ,h| .fn ..::Γ,hΓ,h| .rc ..::Γ,hΓ,h| .nw ..::Γ,hΓ,h=>NQ (Γ:=Γ) hΓ.2 h
def Ww{y:PV}(h:y.ib=true):y.closed=true:=by cases y<;>first|rfl|cases h
open Classical in
 def xd(recv:Bool)(pos:Nat)(fresh ro:Bool)(cs args:List PV)(r:PV)(cs':List PV):Model:=
 {recv:=recv,pos:=pos,fresh:=fresh,m:=λc a=>if c=cs/\a=args then some (r,cs')else none,rk:= .no,ro:=ro,rm:=λ_ _=>none}
open Classical in
 def Du(rk:RK)(es:List (List PV))(args:List PV)(r:PV)(es':List (List PV)):Model:=
 {recv:=false,pos:=0,fresh:=false,m:=λ_ _=>none,rk:=rk,ro:=false,rm:=λc a=>if c=es/\a=args then some (r,es')else none}
 def yf(f:FuncId)(m:Model):qv:=λg=>if g=f then some m else none
def vX{P:Program}{f:FuncId}{m:Model}(h:acK P f m):pD P (yf f m):=by
 intro g m' hg;unfold yf at hg;split at hg
 ·rename_i e;subst e;injection hg with hg;subst hg;exact h
 ·cases hg
def vY(f:FuncId)(m:Model):yf f m f=some m:=Qr rfl
def aW.wL(S:aW U)(id av:Nat):Option (List (KV U)):=
 match Nat.beq (S.H id).av av with
 |true=>match(S.H id).c with
  | .box cs=>some cs
  |_=>none
 |false=>none
def CN{id av:Nat}{cs:List (KV U)}(h:S.wL id av=some cs):(S.H id).av=av/\(S.H id).c= .box cs:=by
 unfold aW.wL at h;split at h
 ·rename_i hv;split at h
  ·rename_i hc;injection h with h;subst h;exact⟨QF hv,hc⟩
  ·cases h
 ·cases h
structure aes (U:TU) where
 e:Nat
 k:Nat
 T:U.Ty
 xs:List (U.den T)
def aW.row?(S:aW U)(id av:Nat):Option (aes U):=
 match Nat.beq (S.H id).av av with
 |true=>match(S.H id).c with
  | .row e k T xs=>some ⟨e,k,T,xs⟩
  |_=>none
 |false=>none
def Fp{id av:Nat}{r:aes U}(h:S.row? id av=some r):(S.H id).av=av/\(S.H id).c= .row r.e r.k r.T r.xs:=by
 unfold aW.row? at h;split at h
 ·rename_i hv;split at h
  ·rename_i hc;injection h with h;subst h;exact⟨QF hv,hc⟩
  ·cases h
 ·cases h
def qe{id av:Nat}{r:aes U}(h:S.row? id av=some r):(S.st.H id).av=av/\(S.st.H id).c= .row r.e r.k (r.xs.map (U.pv r.T)):=by obtain⟨h1,h2⟩:=Fp h;exact⟨h1,by simp[aW.st,dv.pv,h2,dY.pv]⟩
structure aiM (U:TU) where
 e:Nat
 k:Nat
 es:List (List (KV U))
def aW.Vq(S:aW U)(id av:Nat):Option (aiM U):=
 match Nat.beq (S.H id).av av with
 |true=>match(S.H id).c with
  | .raw e k es=>some ⟨e,k,es⟩
  |_=>none
 |false=>none
def Vp{id av:Nat}{r:aiM U}(h:S.Vq id av=some r):(S.st.H id).av=av/\(S.st.H id).c= .row r.e r.k (r.es.map λc=>c.map KV.pv):=by
 unfold aW.Vq at h;split at h
 ·rename_i hv;split at h
  ·rename_i hc;injection h with h
   subst h;exact⟨QF hv,by simp[aW.st,dv.pv,hc,dY.pv]⟩
  ·cases h
 ·cases h
def UP{α:Type}(S:aW U)(e k:Nat)(T:U.Ty)(args:List (KV U))(j:Nat->Nat->List (U.den T)->List (KV U)->Option α):Option α:=
 match args with
 | .own id av::rest=>(match S.row? id av with
  |some r=>(match Nat.beq r.e e&&Nat.beq r.k k with
   |true=>(match yG r.T T r.xs with|some xs=>j id av xs rest|none=>none)
   |false=>none)
  |none=>none)
 |_=>none
def O0{α:Type}{e k:Nat}{T:U.Ty}{args:List (KV U)}{j:Nat->Nat->List (U.den T)->List (KV U)->Option α}{r:α}(h:UP S e k T args j=some r):
  ∃id av xs rest,args= .own id av::rest/\(S.H id).av=av/\(S.H id).c= .row e k T xs/\j id av xs rest=some r:=by
 unfold UP at h;split at h
 ·rename_i id av rest;split at h
  ·rename_i rr hr;obtain⟨h1,h2⟩:=Fp hr;split at h
   ·rename_i hek;rw[Qm]at hek;split at h
    ·rename_i xs hxs;obtain⟨eT,rfl⟩:=nm hxs;obtain⟨re,rk,rT,rxs⟩:=rr;simp only at eT h2 hek;subst eT;exact⟨id,av,_,rest,rfl,h1,by rw[h2,QF hek.1,QF hek.2],h⟩
    ·cases h
   ·cases h
  ·cases h
 ·cases h
def By(K:TK U)(T:U.Ty)(xs:List (U.den T)):Ct (xs.map (U.pv T))=true:=by
 refine QH.2 λu hu=> ?_
 obtain⟨x,_,rfl⟩:=QP.1 hu;exact QH.2 λy hy=>Ww (K.ib T x y hy)
def Nk(K:TK U){T:U.Ty}(hp:U.plain T=true)(xs:List (U.den T)):JQ (xs.map (U.pv T))=true:=by
 refine QH.2 λu hu=> ?_
 obtain⟨x,_,rfl⟩:=QP.1 hu;exact QH.2 λy hy=>K.plain T hp x y hy
variable (K)
def kl{ρ:Type}(nid:Nat)(S:aW U)(f:FuncId)(args:List (KV U))(k:KV U->Option (Nat×dv U)->Option ρ):List (dU U)->Option ρ
 |[]=>none
 | .bk _ _ _::Γ=>kl nid S f args k Γ
 | .rw g e kk T A_s rs F::Γ=>match Nat.beq f g with
  |true=>UP S e kk T args λid av xs rest=>(match uv K (S.nG id av) (some id) A_s rest with
   |some a=>(match(rs.plain||rest.all KV.bJ)&&(U.plain T||rest.all KV.bJ)&&(rs.ok&&Nat.ble (rn A_s) 9)with
    |true=>(F xs a).bind λp=>k (Vj K rs p.1) (some (id,⟨av,.row e kk T p.2⟩))
    |false=>none)
   |none=>kl nid S f args k Γ)
  |false=>kl nid S f args k Γ
 | .cw g e kk T A_s F::Γ=>match Nat.beq f g with
  |true=>UP S e kk T args λid av xs rest=>(match uv K (S.nG id av) (some id) A_s rest with
   |some a=>(match(U.plain T||rest.all KV.bJ)&&Nat.ble (rn A_s) 9 with
    |true=>(F xs a).bind λys=>k (.own id (av+1)) (some (id,⟨av+1,.row e kk T ys⟩))
    |false=>none)
   |none=>kl nid S f args k Γ)
  |false=>kl nid S f args k Γ
 | .fw g A_s e kk T F::Γ=>match Nat.beq f g with
  |true=>(match uv K S none A_s args with
   |some a=>(match(U.plain T||args.all KV.bJ)&&Nat.ble (rn A_s) 9 with
    |true=>(F a).bind λys=>k (.own nid ((S.H nid).av+1)) (some (nid,⟨(S.H nid).av+1,.row e kk T ys⟩))
    |false=>none)
   |none=>kl nid S f args k Γ)
  |false=>kl nid S f args k Γ
 | .fn g A_s rs F::Γ=>match Nat.beq f g with
  |true=>(match uv K S none A_s args with
   |some a=>(match(rs.plain||args.all KV.bJ)&&(rs.ok&&Nat.ble (rn A_s) 9)with
    |true=>(F a).bind λr=>k (Vj K rs r) none
    |false=>none)
   |none=>kl nid S f args k Γ)
  |false=>kl nid S f args k Γ
 | .rc g pos R A_s rs F::Γ=>match Nat.beq f g with
  |true=>(match args[pos]? with
   |some (.ptr id av 0)=>(match S.wL id av with
    |some cs=>(match K.dec R td cs with
     |some s=>(match uv K S (some id) A_s (cutAt pos args)with
      |some a=>(match((rs.plain&&U.plain R)||(cutAt pos args).all KV.bJ)&&(rs.ok&&Nat.ble (rn A_s) 9)with
       |true=>(F s a).bind λp=>k (Vj K rs p.1) (some (id,⟨av,.box (K.gn R p.2)⟩))
       |false=>none)
      |none=>kl nid S f args k Γ)
     |none=>none)
    |none=>none)
   |_=>none)
  |false=>kl nid S f args k Γ
 | .ro g pos R A_s rs F::Γ=>match Nat.beq f g with
  |true=>(match args[pos]? with
   |some (.ptr id av 0)=>(match S.wL id av with
    |some cs=>(match Iu K R cs with
     |some s=>(match uv K S (some id) A_s (cutAt pos args)with
      |some a=>(match((rs.plain&&U.plain R)||(cutAt pos args).all KV.bJ)&&(rs.ok&&Nat.ble (rn A_s) 9)with
       |true=>(F s a).bind λp=>k (Vj K rs p.1) none
       |false=>none)
      |none=>kl nid S f args k Γ)
     |none=>none)
    |none=>none)
   |_=>none)
  |false=>kl nid S f args k Γ
 | .nw g A_s R F::Γ=>match Nat.beq f g with
  |true=>(match uv K S none A_s args with
   |some a=>(match(U.plain R||args.all KV.bJ)&&Nat.ble (rn A_s) 9 with
    |true=>(F a).bind λs=>k (.ptr nid ((S.H nid).av+1) 0) (some (nid,⟨(S.H nid).av+1,.box (K.gn R s)⟩))
    |false=>none)
   |none=>kl nid S f args k Γ)
  |false=>kl nid S f args k Γ
variable {K}
def w6{T:U.Ty}(K:TK U)(v:U.den T)(ha:U.agg T=false):∃y,fC T v=y/\y∈U.pv T v:=by
 have h1:=K.len T v;rw[K.one T ha]at h1
 cases hq:U.pv T v with
 |nil=>rw[hq]at h1;cases h1
 |cons y l=>exact⟨y,by rw[fC,ha,hq];rfl,Qx⟩
def zu{T:U.Ty}(v:U.den T)(ha:U.agg T=true):fC T v= .agg (U.pv T v):=by rw[fC,ha]
def VC{y:PV}(h:y.plain=true):y.rI=true:=by cases y<;>first|exact h|cases h
def gM{y:PV}(h:y.ib=true):y.closed=true:=by cases y<;>first|rfl|cases h
def Wv{y:PV}(h:y.ib=true):y.bJ=true:=by cases y<;>first|rfl|cases h
def Mw(K:TK U){T:U.Ty}(hp:U.plain T=true)(v:U.den T):(fC T v).rI=true:=by
 cases ha:U.agg T with
 |true=>rw[zu v ha];exact QH.2 λy hy=>K.plain T hp v y hy
 |false=>obtain⟨y,h1,h2⟩:=w6 K v ha;rw[h1];exact VC (K.plain T hp v y h2)
def CT{T:U.Ty}(K:TK U)(v:U.den T):(fC T v).bJ=true:=by
 cases ha:U.agg T with
 |true=>rw[zu v ha];exact QH.2 λy hy=>gM (K.ib T v y hy)
 |false=>obtain⟨y,h1,h2⟩:=w6 K v ha;rw[h1];exact Wv (K.ib T v y h2)
def Og(K:TK U):∀(Ts:List U.Ty) (v:IG U Ts),Ts.all U.plain=true->(FT Ts v).all PV.rI=true
 |[],v,_=>rfl
 |T::l,v,h=>by rw[Qq70,Qm]at h;rw[FT,Qq70,Mw K h.1 v.1,Og K l v.2 h.2];rfl
def Ju(K:TK U):∀(Ts:List U.Ty) (v:IG U Ts),(FT Ts v).all PV.bJ=true
 |[],v=>rfl
 |T::l,v=>by rw[FT,Qq70,CT K v.1,Ju K l v.2];rfl
def abp{y:PV}(h:y.rI=true):y.vV=true:=by cases y<;>first|exact h|cases h
def IN{T:U.Ty}(K:TK U)(v:U.den T)(cs:List PV):fC T v≠ .eN cs:=by
 intro h
 cases ha:U.agg T with
 |true=>rw[zu v ha]at h;cases h
 |false=>obtain⟨y,h1,h2⟩:=w6 K v ha;have h3:=K.ib T v y h2;rw[<-h1,h]at h3;cases h3
def BZ(K:TK U):∀(r:qy U) (v:r.den),r.plain=true->(vT r v).vV=true
 | .one T,v,h=>abp (Mw K h v)
 | .many Ts,v,h=>Og K Ts v h
 | .fn _,_,h=>by cases h
def Uh:∀(A_s:List (dz U)) (v:eK A_s),A_s.all dz.aeW=true->(gU A_s v).all PV.closed=true
 |[],_,_=>by rw[gU];rfl
 |a::l,v,h=>by
  rw[Qq70,Qm]at h;rw[gU,Qq70,Uh l v.2 h.2,Bool.and_true]
  cases a with
  |ref a=>rw[oe];rfl
  |ty T|bI f cs|agg cs=>cases h.1
def zV(K:TK U):∀(r:qy U) (v:r.den),r.ok=true->(vT r v).xj=true
 | .fn (.bI f cs),v,h=>by show(oe (.bI f cs) v).xj=true;rw[oe];exact Uh cs v h
 | .fn (.ty _),v,h| .fn (.ref _),v,h| .fn (.agg _),v,h=>by cases h
 | .one T,v,_=>by show(fC T v).xj=true;have h1:=CT K v;have h2:=IN K v;generalize fC T v=y at h1 h2;cases y<;>first|exact h1|exact absurd rfl (h2 _)
 | .many Ts,v,_=>Ju K Ts v
def mP(l:List (KV U)):(l.map KV.pv).all PV.bJ=l.all KV.bJ:=by
 induction l with
 |nil=>rfl
 |cons x l ih=>simp only[QD,Qq70,aat,ih]
def eU{P:Program}{ρ:Type}{nid:Nat}{f:FuncId}{args:List (KV U)}{k:KV U->Option (Nat×dv U)->Option ρ}{r:ρ}:∀{Γ:List (dU U)},vq P Γ->kl K nid S f args k Γ=some r->
  ∃Γ' x wr,pD P Γ'/\nJ Γ' nid S.st f (args.map KV.pv)=some (x.pv,wr.map kQ)/\k x wr=some r
 |[],_,h=>by cases h
 | .bk _ _ _::Γ,hΓ,h=>eU (Γ:=Γ) hΓ.2 h
 | .rw g e kk T A_s rs F::Γ,hΓ,h=>by
  simp only[kl]at h;split at h
  ·rename_i hg;have hg:=QF hg;subst hg;obtain⟨id,av,xs,rest,rfl,hver,hc,h'⟩:=O0 h;split at h'
   ·rename_i a ha;split at h'
    ·rename_i hcl;simp only[Qc]at h';obtain⟨⟨v,ys⟩,hv,hk⟩:=h';rw[Qm,Qm,Qm]at hcl;obtain⟨⟨hcl1,hcl2⟩,hrok,hdep⟩:=hcl;have hfz:=oI (ex:=some id) (Ws S id av) A_s 9 rest a (QG hdep) ha
     have hfz':(rest.map KV.pv).map (fz S.st.H (some id) 9)=gU A_s a:=by rw[<-hfz];exact Qq71 λy _=>(YO S id av 9 y).symm
     obtain⟨hen,hcon⟩:=hΓ.1;refine⟨yf f (Du (.bor e kk) (xs.map (U.pv T)) (gU A_s a) (vT rs v) (ys.map (U.pv T))),Vj K rs v,some (id,⟨av,.row e kk T ys⟩),vX ⟨hen,(λ_ cs as' r' cs' hm=>by cases hm),(λhq=>by cases hq),λes as' r' es' hm=> ?_,(λhq=>by cases hq)⟩,?_,hk⟩
     ·simp only[Du]at hm;split at hm
      ·rename_i he;injection hm with hm
       injection hm with h1 h2
       subst h1 h2;obtain⟨rfl,rfl⟩:=he;exact hcon xs a v ys hv
      ·cases hm
     ·have hv1:(S.st.H id).av=av:=hver;have hc1:(S.st.H id).c= .row e kk (xs.map (U.pv T)):=by simp[aW.st,dv.pv,hc,dY.pv]
      simp only[QD,KV.pv,nJ,vY,Du,BQ,hv1,hc1,Qt,By K T xs,and_self,hfz',OD,Qe,kQ,dv.pv,dY.pv];rw[Qr];rw[mP,zV K rs v hrok,By K T ys];simp only[Qn]at hcl1 hcl2;rcases hcl1 with hcl1|hcl1
      ·rw[BZ K rs v hcl1];rcases hcl2 with hcl2|hcl2
       ·rw[Nk K hcl2 ys];rfl
       ·rw[hcl2];simp
      ·rw[hcl1];simp
    ·cases h'
   ·exact eU hΓ.2 h'
  ·exact eU hΓ.2 h
 | .cw g e kk T A_s F::Γ,hΓ,h=>by
  simp only[kl]at h;split at h
  ·rename_i hg;have hg:=QF hg;subst hg;obtain⟨id,av,xs,rest,rfl,hver,hc,h'⟩:=O0 h;split at h'
   ·rename_i a ha;split at h'
    ·rename_i hcl;simp only[Qc]at h';obtain⟨ys,hv,hk⟩:=h';rw[Qm]at hcl;obtain⟨hcl2,hdep⟩:=hcl;have hfz:=oI (ex:=some id) (Ws S id av) A_s 9 rest a (QG hdep) ha
     have hfz':(rest.map KV.pv).map (fz S.st.H (some id) 9)=gU A_s a:=by rw[<-hfz];exact Qq71 λy _=>(YO S id av 9 y).symm
     obtain⟨hen,hcon⟩:=hΓ.1;refine⟨yf f (Du (.Ri e kk) (xs.map (U.pv T)) (gU A_s a) .any (ys.map (U.pv T))),.own id (av+1),some (id,⟨av+1,.row e kk T ys⟩),vX ⟨hen,(λ_ cs as' r' cs' hm=>by cases hm),(λhq=>by cases hq),λes as' r' es' hm=> ?_,(λhq=>by cases hq)⟩,?_,hk⟩
     ·simp only[Du]at hm;split at hm
      ·rename_i he;injection hm with hm
       injection hm with h1 h2
       subst h1 h2;obtain⟨rfl,rfl⟩:=he;exact hcon xs a ys hv
      ·cases hm
     ·have hv1:(S.st.H id).av=av:=hver;have hc1:(S.st.H id).c= .row e kk (xs.map (U.pv T)):=by simp[aW.st,dv.pv,hc,dY.pv]
      simp only[QD,KV.pv,nJ,vY,Du,BP,hv1,hc1,Qt,By K T xs,and_self,hfz',Qe,kQ,dv.pv,dY.pv];rw[Qr];rw[mP,By K T ys];simp only[Qn]at hcl2;rcases hcl2 with hcl2|hcl2
      ·rw[Nk K hcl2 ys];rfl
      ·rw[hcl2];simp
    ·cases h'
   ·exact eU hΓ.2 h'
  ·exact eU hΓ.2 h
 | .fw g A_s e kk T F::Γ,hΓ,h=>by
  simp only[kl]at h;split at h
  ·rename_i hg;have hg:=QF hg;subst hg;split at h
   ·rename_i a ha;split at h
    ·rename_i hcl;simp only[Qc]at h;obtain⟨ys,hv,hk⟩:=h;rw[Qm]at hcl;obtain⟨hcl2,hdep⟩:=hcl;have hfz:=oI (ex:=none) (λid h=>by cases h) A_s 9 args a (QG hdep) ha
     obtain⟨hen,hcon⟩:=hΓ.1;refine⟨yf f (Du (.fre e kk) [] (gU A_s a) .any (ys.map (U.pv T))),.own nid ((S.H nid).av+1),some (nid,⟨(S.H nid).av+1,.row e kk T ys⟩),vX ⟨hen,(λ_ cs as' r' cs' hm=>by cases hm),(λhq=>by cases hq),λas' r' es' hm=> ?_,(λhq=>by cases hq)⟩,?_,hk⟩
     ·simp only[Du]at hm;split at hm
      ·rename_i he;injection hm with hm
       injection hm with h1 h2
       subst h1 h2;obtain⟨_,rfl⟩:=he;exact hcon a ys hv
      ·cases hm
     ·simp only[nJ,vY,Du,G9,hfz,and_self,Qt,Qe,kQ,dv.pv,dY.pv,KV.pv];rw[Qr]
      ·rfl
      rw[mP,By K T ys];simp only[Qn]at hcl2;rcases hcl2 with hcl2|hcl2
      ·rw[Nk K hcl2 ys];rfl
      ·rw[hcl2];simp
    ·cases h
   ·exact eU hΓ.2 h
  ·exact eU hΓ.2 h
 | .fn g A_s rs F::Γ,hΓ,h=>by
  simp only[kl]at h;split at h
  ·rename_i hg;have hg:=QF hg;subst hg;split at h
   ·rename_i a ha;split at h
    ·rename_i hcl;simp only[Qc]at h;obtain⟨v,hv,hk⟩:=h;rw[Qm,Qm]at hcl;obtain⟨hcl,hrok,hdep⟩:=hcl;have hfz:=oI (ex:=none) (λid h=>by cases h) A_s 9 args a (QG hdep) ha
     obtain⟨hen,hcon⟩:=hΓ.1;refine⟨yf f (xd false 0 false false [] (gU A_s a) (vT rs v) []),_,none,vX ⟨hen,λ_ cs as' r' cs' hm=> ?_,(λhq=>by cases hq),trivial,(λhq=>by cases hq)⟩,?_,hk⟩
     ·simp only[xd]at hm;split at hm
      ·rename_i he;injection hm with hm
       injection hm with h1 h2
       subst h1 h2;obtain⟨rfl,rfl⟩:=he;exact hcon a v hv
      ·cases hm
     ·simp only[nJ,vY,xd,Qq,Qu,hfz,and_self,Qt,OD,Qq65];rw[Qr];rw[mP,zV K rs v hrok];simp only[Qn]at hcl;rcases hcl with hcl|hcl
      ·rw[BZ K rs v hcl];rfl
      ·rw[hcl];simp
    ·cases h
   ·obtain⟨Γ',x,wr,h1,h2,h3⟩:=eU hΓ.2 h;exact⟨Γ',x,wr,h1,h2,h3⟩
  ·exact eU hΓ.2 h
 | .rc g pos R A_s rs F::Γ,hΓ,h=>by
  simp only[kl]at h;split at h
  ·rename_i hg;have hg:=QF hg;subst hg;split at h
   ·rename_i id av hpos;have hpos:args[pos]?=some (.ptr id av 0):=hpos;generalize hrest:cutAt pos args=rest at h;split at h
    ·rename_i cs hbox;split at h
     ·rename_i s hs;split at h
      ·rename_i a ha;split at h
       ·rename_i hcl;simp only[Qc]at h;obtain⟨⟨v,s'⟩,hv,hk⟩:=h;obtain⟨hver,hc⟩:=CN hbox;rw[Qm,Qm]at hcl;obtain⟨hcl,hrok,hdep⟩:=hcl;have hfz:=oI (ex:=some id) (λid' h=>by injection h with h;subst h;intro e k T xs hq;rw[hc]at hq;cases hq) A_s 9 rest a (QG hdep) ha
        obtain⟨hnz,hclo⟩:=wK (K.oZ _ _ _ _ hs);obtain⟨hen,hcon⟩:=hΓ.1;refine⟨yf f (xd true pos false false (U.pv R s) (gU A_s a) (vT rs v) (U.pv R s')),_,_,vX ⟨hen,λ_ cs as' r' cs' hm=> ?_,(λhq=>by cases hq),trivial,(λhq=>by cases hq)⟩,?_,hk⟩
        ·simp only[xd]at hm;split at hm
         ·rename_i he;injection hm with hm
          injection hm with h1 h2
          subst h1 h2;obtain⟨rfl,rfl⟩:=he;exact hcon s a v s' hv
         ·cases hm
        ·have hv1:(S.st.H id).av=av:=hver;have hc1:(S.st.H id).c= .box (cs.map KV.pv):=by simp[aW.st,dv.pv,hc,dY.pv]
         have hpos':(args.map KV.pv)[pos]?=some (.ptr id av 0):=by rw[QT,hpos];rfl
         have hrest':cutAt pos (args.map KV.pv)=rest.map KV.pv:=by rw[<-hrest];simp[cutAt]
         simp only[nJ,vY,xd,Bool.false_and,Qq,Qu,Qt,hpos',hrest',hv1,hc1,rp,hclo,hnz,hfz,and_self,OD,Qe,kQ,dv.pv,dY.pv,K.uO];rw[Qr];have hgs:(U.pv R s').all PV.closed=true:=QH.2 λy hy=>gM (K.ib R s' y hy)
         rw[mP,zV K rs v hrok,hgs];simp only[Qn,Qm]at hcl;rcases hcl with⟨hcl1,hcl2⟩|hcl
         ·rw[BZ K rs v hcl1,QH.2 λy hy=>K.plain R hcl2 s' y hy];rfl
         ·rw[hcl];simp
       ·cases h
      ·exact eU hΓ.2 h
     ·cases h
    ·cases h
   ·cases h
  ·exact eU hΓ.2 h
 | .ro g pos R A_s rs F::Γ,hΓ,h=>by
  simp only[kl]at h;split at h
  ·rename_i hg;have hg:=QF hg;subst hg;split at h
   ·rename_i id av hpos;have hpos:args[pos]?=some (.ptr id av 0):=hpos;generalize hrest:cutAt pos args=rest at h;split at h
    ·rename_i cs hbox;split at h
     ·rename_i s hs;split at h
      ·rename_i a ha;split at h
       ·rename_i hcl;simp only[Qc]at h;obtain⟨⟨v,s'⟩,hv,hk⟩:=h;obtain⟨hver,hc⟩:=CN hbox;rw[Qm,Qm]at hcl;obtain⟨hcl,hrok,hdep⟩:=hcl;have hfz:=oI (ex:=some id) (λid' h=>by injection h with h;subst h;intro e k T xs hq;rw[hc]at hq;cases hq) A_s 9 rest a (QG hdep) ha
        obtain⟨hnn,hs⟩:cs.all KV.UT=true/\K.dec R td cs=some s:=by
         unfold Iu at hs;split at hs
         ·rename_i hn;exact⟨hn,hs⟩
         ·cases hs
        obtain⟨hnz,hclo⟩:=wK (K.oZ _ _ _ _ hs)
        have hnnp:(cs.map KV.pv).all PV.VO=true:=by rw[QH];intro y hy;obtain⟨x,hx,rfl⟩:=QP.1 hy;have:=QH.1 hnn x hx;cases x<;>first|rfl|cases this
        obtain⟨hen,hcon⟩:=hΓ.1;refine⟨yf f (xd true pos false true (U.pv R s) (gU A_s a) (vT rs v) (U.pv R s')),_,none,vX ⟨hen,λ_ cs as' r' cs' hm=> ?_,(λhq=>by cases hq),trivial,λ_ cs as' r' cs' hm=> ?_⟩,?_,hk⟩
        ·simp only[xd]at hm;split at hm
         ·rename_i he;injection hm with hm
          injection hm with h1 h2
          subst h1 h2;obtain⟨rfl,rfl⟩:=he;exact(hcon s a v s' hv).2
         ·cases hm
        ·simp only[xd]at hm;split at hm
         ·rename_i he;injection hm with hm
          injection hm with h1 h2
          subst h1 h2;rw[(hcon s a v s' hv).1,he.1]
         ·cases hm
        ·have hv1:(S.st.H id).av=av:=hver;have hc1:(S.st.H id).c= .box (cs.map KV.pv):=by simp[aW.st,dv.pv,hc,dY.pv]
         have hpos':(args.map KV.pv)[pos]?=some (.ptr id av 0):=by rw[QT,hpos];rfl
         have hrest':cutAt pos (args.map KV.pv)=rest.map KV.pv:=by rw[<-hrest];simp[cutAt]
         simp only[nJ,vY,xd,Qq,Qu,Qt,hpos',hrest',hv1,hc1,rp,hclo,hnz,hfz,and_self,OD,Qq65,hnnp,Bool.and_self];rw[Qr];have hgs:(U.pv R s').all PV.closed=true:=QH.2 λy hy=>gM (K.ib R s' y hy)
         rw[mP,zV K rs v hrok,hgs];simp only[Qn,Qm]at hcl;rcases hcl with⟨hcl1,hcl2⟩|hcl
         ·rw[BZ K rs v hcl1,QH.2 λy hy=>K.plain R hcl2 s' y hy];rfl
         ·rw[hcl];simp
       ·cases h
      ·exact eU hΓ.2 h
     ·cases h
    ·cases h
   ·cases h
  ·exact eU hΓ.2 h
 | .nw g A_s R F::Γ,hΓ,h=>by
  simp only[kl]at h;split at h
  ·rename_i hg;have hg:=QF hg;subst hg;split at h
   ·rename_i a ha;split at h
    ·rename_i hcl;simp only[Qc]at h;obtain⟨s,hs,hk⟩:=h;rw[Qm]at hcl;obtain⟨hcl,hdep⟩:=hcl;have hfz:=oI (ex:=none) (λid h=>by cases h) A_s 9 args a (QG hdep) ha
     obtain⟨hen,hcon⟩:=hΓ.1;refine⟨yf f (xd false 0 true false [] (gU A_s a) .any (U.pv R s)),_,_,vX ⟨hen,(λhq=>by cases hq),λ_ as' r' cs' hm=> ?_,trivial,(λhq=>by cases hq)⟩,?_,hk⟩
     ·simp only[xd]at hm;split at hm
      ·rename_i he;injection hm with hm
       injection hm with h1 h2
       subst h1 h2;obtain⟨_,rfl⟩:=he;exact hcon a s hs
      ·cases hm
     ·simp only[nJ,vY,xd,Qt,hfz,and_self,Qe,kQ,dv.pv,dY.pv,K.uO];have hgs:(U.pv R s).all PV.closed=true:=QH.2 λy hy=>gM (K.ib R s y hy)
      rw[Qr]
      ·rfl
      rw[mP,hgs];simp only[Qn]at hcl;rcases hcl with hcl|hcl
      ·rw[QH.2 λy hy=>K.plain R hcl s y hy];rfl
      ·rw[hcl];simp
    ·cases h
   ·exact eU hΓ.2 h
  ·exact eU hΓ.2 h
end
end
section
def idx{α:Type}(xs:List α)(n:Int):Option α:=if 0<=n then xs[n.toNat]? else none
def bg(bytes n:Nat):Bool:=decide (n*bytes<=140737488355328)&&decide (n<=maxLen)
def DB{bytes n:Nat}(h:bg bytes n=true):n*bytes<=140737488355328/\n<=maxLen:=by simpa[bg]using h
def NN{α:Type}{xs:List α}{n:Int}{v:α}(h:idx xs n=some v):0<=n/\n.toNat<xs.length/\xs[n.toNat]?=some v:=by
 unfold idx at h;split at h
 ·rename_i h0;exact⟨h0,(Qw.1 h).1,h⟩
 ·cases h
section
variable {U : TU}
def J8:Option Nat->List (KV U)->Option (KV U)
 |none,cs=>(match cs with|x::_=>some x|[]=>none)
 |some n,cs=>(match Nat.ble n cs.length with|true=>some (.agg (cs.take n))|false=>none)
def Gz(cs:List (KV U))(off:Nat)(xs:List (KV U)):List (KV U):=cs.take off++xs++cs.drop (off+xs.length)
def UY(S:aW U):List (KV U)->List (Nat×Nat×bB)->Option (List (KV U))
 |cs,[]=>some cs
 |cs,(off,n,x)::rest=>
  match Nat.beq (x.dj S).cells.length n&&Nat.ble (off+n) cs.length&&(x.dj S).cells.all KV.one with
  |true=>UY S (Gz cs off (x.dj S).cells) rest
  |false=>none
def KA(S:aW U)(k:Nat):List (List (KV U))->List (Nat×bB)->Option (List (List (KV U)))
 |es,[]=>some es
 |es,(i,x)::rest=>
  match Nat.beq (x.dj S).cells.length k&&Nat.blt i es.length&&(x.dj S).cells.all KV.one with
  |true=>KA S k (es.set i (x.dj S).cells) rest
  |false=>none
def U1(K:TK U)(T:U.Ty):List (List (KV U))->Option (List (U.den T))
 |[]=>some []
 |e::es=>match K.dec T td e with
  |some v=>(match U1 K T es with|some vs=>some (v::vs)|none=>none)
  |none=>none
def aee{ρ:Type}(op:BinOp)(x y:KV U)(k:KV U->Option ρ):Option ρ:=
 match x,y with
 | .int kd a,.int kd' b=>
  match op with
  | .shl=>if b<0 then none else k (.int kd (kd.wrap (a*2 ^ (min b.toNat kd.bits))))
  | .shr=>if b<0 then none else k (.int kd (a.fdiv (2 ^ (min b.toNat kd.bits))))
  |_=>if kd=kd' then(match op with
   | .add=>k (.int kd (kd.wrap (a+b)))
   | .sub=>k (.int kd (kd.wrap (a - b)))
   | .mul=>k (.int kd (kd.wrap (a*b)))
   | .quo=>if b=0 then none else k (.int kd (kd.wrap (a.tdiv b)))
   | .rem=>if b=0 then none else k (.int kd (a.tmod b))
   | .and=>k (.int kd (kd.wrap ((BitVec.ofInt kd.bits a&&&BitVec.ofInt kd.bits b).toNat)))
   | .or=>k (.int kd (kd.wrap ((BitVec.ofInt kd.bits a|||BitVec.ofInt kd.bits b).toNat)))
   | .xor=>k (.int kd (kd.wrap ((BitVec.ofInt kd.bits a^^^BitVec.ofInt kd.bits b).toNat)))
   | .andNot=>k (.int kd (kd.wrap ((BitVec.ofInt kd.bits a&&& ~~~ BitVec.ofInt kd.bits b).toNat)))
   | .eql=>k (.bool (decide (a=b)))
   | .neq=>k (.bool (!decide (a=b)))
   | .lss=>k (.bool (decide (a<b)))
   | .leq=>k (.bool (decide (a<=b)))
   | .gtr=>k (.bool (decide (b<a)))
   | .geq=>k (.bool (decide (b<=a)))
   |_=>none)else none
 | .str a,.str b=>
  match op with
  | .eql=>k (.bool (decide (a=b)))
  | .neq=>k (.bool (!decide (a=b)))
  | .lss=>k (.bool (lI a b))
  | .leq=>k (.bool (lI a b||decide (a=b)))
  | .gtr=>k (.bool (!(lI a b||decide (a=b))))
  | .geq=>k (.bool (!lI a b))
  |_=>none
 |_,_=>none
def LB:List LK->List (KV U)->List (KV U)->Option Bool
 |[],cs,ds=>(match cs,ds with|[],[]=>some true|_,_=>none)
 |q::ks,cs,ds=>(match q,cs,ds with
  | .i,.int k a::cs,.int l b::ds=>if k=l then(match LB ks cs ds with|some r=>some (decide (a=b)&&r)|none=>none)else none
  | .s,.str a::cs,.str b::ds| .b,.bool a::cs,.bool b::ds=>(match LB ks cs ds with|some r=>some (decide (a=b)&&r)|none=>none)
  |_,_,_=>none)
def Io:∀{ks:List LK} {cs ds:List (KV U)} {b:Bool},LB ks cs ds=some b->nH ks (cs.map KV.pv) (ds.map KV.pv)=some b
 |[],cs,ds,b,h=>by
  simp only[LB]at h;split at h
  ·injection h with h;subst h;rfl
  ·cases h
 |q::ks,cs,ds,b,h=>by
  simp only[LB]at h;split at h
  ·split at h
   ·rename_i hk;split at h
    ·rename_i r hr;injection h with h
     subst h;simp only[QD,KV.pv,nH,Qr hk,Io hr,Qe]
    ·cases h
   ·cases h
  ·split at h
   ·rename_i r hr;injection h with h
    subst h;simp only[QD,KV.pv,nH,Io hr,Qe]
   ·cases h
  ·split at h
   ·rename_i r hr;injection h with h
    subst h;simp only[QD,KV.pv,nH,Io hr,Qe]
   ·cases h
  ·cases h
def aW.els(S:aW U)(T:U.Ty)(x:KV U):Option (List (U.den T)):=WO S.lk T x
def aW.elv(S:aW U)(T:U.Ty)(x:KV U):Option (List (U.den T)):=
 match x with
 | .view id av kk lo n=>(match S.row? id av with
  |some r=>(match Nat.beq r.k kk with
   |true=>(match yG r.T T r.xs with|some xs=>some ((xs.drop lo).take n)|none=>none)
   |false=>none)
  |none=>none)
 |x=>S.els T x
def aW.adI(S:aW U):KV U->Option Nat
 | .eG=>some 0
 | .sl _ xs=>some xs.length
 | .own id av=>(match S.row? id av with
  |some r=>some r.xs.length
  |none=>(match S.Vq id av with|some r=>some r.es.length|none=>none))
 | .view id av kk lo n=>(match S.row? id av with
  |some r=>(match Nat.beq r.k kk with|true=>some ((r.xs.drop lo).take n).length|false=>none)
  |none=>none)
 |_=>none
def Ge(S:aW U):Option bB->Int->Option Int
 |none,d=>some d
 |some x,_=>(match x.dj S with| .int _ n=>some n|_=>none)
def cF(l h:Int)(n:Nat):Bool:=decide (0<=l)&&decide (l<=h)&&decide (h<=n)
def cu.dS:cu->List bB
 | .qj x| .box x| .Gn x| .load _ x| .Cb _ x| .not x| .conv _ x| .len _ x| .B4 x| .Gj _ x| .As _ x
 | .clear _ _ x
 | .MP _ _ x=>[x]
 | .pick c x y=>[c,x,y]
 | .alloc _=>[]
 | .store _ p x=>[p,x]
 | .build _ ps=>ps.map (·.2.2)
 | .Rl _ _ _ _ ps=>ps.map (·.2)
 | .uo _ x i=>[x,i]
 | .bin _ x y| .mu _ x y| .G4 _ _ x y| .KB _ x y| .we _ x y| .Gr _ _ _ _ x y
 =>[x,y]
 | .call _ xs=>xs
 | .uw f xs=>f::xs
 | .cz _ _ _ _ s x=>[s,x]
 | .MH _ xs| .MI _ xs=>xs
 | .Pb _ _ _ _ l c=>[l,c]
 | .Jw _ x lo hi=>x::(lo.toList++hi.toList)
def cu.dE(op:cu):Bool:=op.dS.all bB.dE
variable (K : TK U)
def G7(T:U.Ty)(kk:Nat):Nat->List (KV U)->Option (List (U.den T))
 |0,_=>some []
 |n+1,cs=>(match K.dec T td (cs.take kk)with
  |some v=>(match G7 T kk n (cs.drop kk)with|some vs=>some (v::vs)|none=>none)
  |none=>none)
def aaK(n:Option Nat)(ag:Bool)(kk:Nat):Bool:=
 match n with
 |none=> !ag&&Nat.beq kk 1
 |some m=>ag&&Nat.beq m kk
def MV{T:U.Ty}{kk:Nat}:∀{n:Nat} {cs:List (KV U)} {vs:List (U.den T)},G7 K T kk n cs=some vs->vs.length=n/\∀(i:Nat) (v:U.den T),vs[i]?=some v->K.dec T td ((cs.drop (i*kk)).take kk)=some v
 |0,cs,vs,h=>by
  rw[G7]at h;injection h with h
  subst h;exact⟨rfl,λi v hv=>by simp at hv⟩
 |n+1,cs,vs,h=>by
  rw[G7]at h;split at h
  ·rename_i v0 h0;split at h
   ·rename_i vs0 h1;injection h with h
    subst h;obtain⟨h2,h3⟩:=MV h1;refine⟨by rw[QE,h2],λi v hv=> ?_⟩
    cases i with
    |zero=>simp only[List.getElem?_cons_zero,Qf]at hv;subst hv;simpa using h0
    |succ i=>
     have:=h3 i v (by simpa using hv)
     rw[List.drop_drop]at this
     rwa [Nat.succ_mul,Nat.add_comm]
   ·cases h
  ·cases h
def aaF{ρ:Type}(z:Bool)(id av e kk:Nat)(T:U.Ty)(xs:List (U.den T))(k:KV U->Option (Nat×dv U)->Option ρ):Option ρ:=
 match z with
 |false=>k (.own id av) (some (id,⟨av,.row e kk T xs⟩))
 |true=>k (.sl T xs) (some (id,⟨av,.dead⟩))
def gC{ρ:Type}(Γ:List (dU U))(nid:Nat)(S:aW U)(op:cu)(k:KV U->Option (Nat×dv U)->Option ρ):Option ρ:=
 match op with
 | .qj x=>k (x.dj S) none
 | .pick c x y=>(match c.dj S with
  | .bool b=>(match b with|true=>k (x.dj S) none|false=>k (y.dj S) none)
  |_=>none)
 | .box x=>(match(x.dj S).cells.all KV.one with
  |true=>k (.ptr nid ((S.H nid).av+1) 0) (some (nid,⟨(S.H nid).av+1,.box (x.dj S).cells⟩))
  |false=>none)
 | .Gn x=>(match(x.dj S).cells.all KV.one&&(x.dj S).cells.all KV.closed with
  |true=>k (.ref (x.dj S).cells) none
  |false=>none)
 | .alloc z=>(match z.all PV.dE with
  |true=>k (.ptr nid ((S.H nid).av+1) 0) (some (nid,⟨(S.H nid).av+1,.box (z.map KV.IS)⟩))
  |false=>none)
 | .load n p=>(match p.dj S with
  | .ptr id av off=>(match S.wL id av with
   |some cs=>(match J8 n (cs.drop off)with|some x=>k x none|none=>none)
   |none=>none)
  | .fh id av kk i off=>(match S.row? id av with
   |some r=>(match Nat.beq kk r.k with
    |true=>(r.xs[i]?).bind λv=>(match J8 n ((K.gn r.T v).drop off)with|some x=>k x none|none=>none)
    |false=>none)
   |none=>(match S.Vq id av with
    |some r=>(match Nat.beq kk r.k with
     |true=>(match r.es[i]? with
      |some c=>(match J8 n (c.drop off)with|some x=>k x none|none=>none)
      |none=>none)
     |false=>none)
    |none=>none))
  | .ref cs=>(match J8 n cs with|some x=>k x none|none=>none)
  |_=>none)
 | .store n p x=>(match Nat.beq (x.dj S).cells.length n&&(x.dj S).cells.all KV.one with
  |true=>(match p.dj S with
   | .ptr id av off=>(match S.wL id av with
    |some cs=>(match Nat.ble (off+n) cs.length with
     |true=>k .undef (some (id,⟨av,.box (Gz cs off (x.dj S).cells)⟩))
     |false=>none)
    |none=>none)
   | .fh id av kk i off=>(match S.row? id av with
    |some r=>(match Nat.beq kk r.k&&Nat.beq (U.size r.T) r.k&&Nat.ble (off+n) (U.size r.T)with
     |true=>(r.xs[i]?).bind λv=>(match K.dec r.T td (Gz (K.gn r.T v) off (x.dj S).cells)with
      |some v'=>k .undef (some (id,⟨av,.row r.e r.k r.T (r.xs.set i v')⟩))
      |none=>none)
     |false=>none)
    |none=>none)
   |_=>none)
  |false=>none)
 | .build z ps=>(match z.all PV.dE with
  |true=>(match UY S (z.map KV.IS) ps with|some cs=>k (.agg cs) none|none=>none)
  |false=>none)
 | .Rl m e kk z ps=>(match K.U9 e with
  |some T=>(match Nat.beq (U.size T) kk&&z.all (λu=>u.all PV.dE)with
   |true=>(match KA S kk (z.map λu=>u.map KV.IS) ps with
    |some es=>(match U1 K T es with
     |some vs=>(match m with
      |false=>k (.sl T vs) none
      |true=>k (.own nid ((S.H nid).av+1)) (some (nid,⟨(S.H nid).av+1,.row e kk T vs⟩)))
     |none=>none)
    |none=>none)
   |false=>none)
  |none=>(match m&&z.all (λu=>u.all PV.dE)with
   |true=>(match KA S kk (z.map λu=>u.map KV.IS) ps with
    |some es=>(match es.all (λc=>c.all KV.UT)with
     |true=>k (.own nid ((S.H nid).av+1)) (some (nid,⟨(S.H nid).av+1,.raw e kk es⟩))
     |false=>none)
    |none=>none)
   |false=>none))
 | .Cb off p=>(match p.dj S with
  | .ptr id av o=>(match S.wL id av with|some _=>k (.ptr id av (o+off)) none|none=>none)
  | .fh id av kk i o=>(match S.row? id av with|some r=>(r.xs[i]?).bind λ_=>k (.fh id av kk i (o+off)) none|none=>none)
  | .ref cs=>k (.ref (cs.drop off)) none
  |_=>none)
 | .uo kk x i=>(match i.dj S with
  | .int _ n=>(match x.dj S with
   | .sl T xs=>(match Nat.beq (U.size T) kk with
    |true=>(idx xs n).bind λv=>k (.ref (K.gn T v)) none
    |false=>none)
   | .own id av=>(match S.row? id av with
    |some r=>(match Nat.beq kk r.k with
     |true=>(idx r.xs n).bind λ_=>k (.fh id av kk n.toNat 0) none
     |false=>none)
    |none=>(match S.Vq id av with
     |some r=>(match n with
      | .ofNat j=>(match Nat.beq kk r.k&&Nat.blt j r.es.length with
       |true=>k (.fh id av kk j 0) none
       |false=>none)
      |_=>none)
     |none=>none))
   | .view id av kk' lo m=>(match S.row? id av with
    |some r=>(match Nat.beq kk r.k&&Nat.beq kk' kk with
     |true=>(idx ((r.xs.drop lo).take m) n).bind λ_=>k (.fh id av kk (lo+n.toNat) 0) none
     |false=>none)
    |none=>none)
   |_=>none)
  |_=>none)
 | .bin op x y=>aee op (x.dj S) (y.dj S) λv=>k v none
 | .mu neg x y=>(match x.dj S,y.dj S with
  | .agg [.int kd a,.str s],.agg [.int kd' b,.str t]=>if kd=kd' then k (.bool (xor neg (decide (a=b)&&decide (s=t)))) none else none
  |_,_=>none)
 | .G4 neg ks x y=>(match x.dj S,y.dj S with
  | .agg cs,.agg ds=>(match LB ks cs ds with|some b=>k (.bool (xor neg b)) none|none=>none)
  |_,_=>none)
 | .MP n off x=>(match x.dj S with
  | .agg cs=>(match J8 n (cs.drop off)with|some v=>k v none|none=>none)
  |_=>none)
 | .KB neg x y=>(match x.dj S,y.dj S with
  | .bool a,.bool b=>k (.bool (xor neg (decide (a=b)))) none
  |_,_=>none)
 | .not x=>(match x.dj S with| .bool b=>k (.bool !b) none|_=>none)
 | .conv kd x=>(match x.dj S with| .int _ n=>k (.int kd (kd.wrap n)) none|_=>none)
 | .len true x=>(match x.dj S with| .str s=>k (.int .i64 s.size) none|_=>none)
 | .len false x=>(match S.adI (x.dj S)with|some n=>k (.int .i64 n) none|none=>none)
 | .call f xs=>kl K nid S f (xs.map (·.dj S)) k Γ
 | .uw fv xs=>(match fv.dj S with
  | .bI f caps=>kl K nid S f (xs.map (·.dj S)++caps) k Γ
  | .jz f first=>kl K nid S f (first++xs.map (·.dj S)) k Γ
  |_=>none)
 | .cz z e kk bytes s x=>(match K.U9 e with
  |some T=>(match Nat.beq (U.size T) kk with
   |true=>(match S.els T (x.dj S)with
    |some news=>(match s.dj S with
     | .eG=>bif bg bytes news.length then aaF z nid ((S.H nid).av+1) e kk T news k else none
     | .own id av=>(match S.row? id av with
      |some r=>(match Nat.beq r.e e&&Nat.beq r.k kk with
       |true=>(match yG r.T T r.xs with
        |some xs=>bif bg bytes (xs.length+news.length)then aaF z id (av+1) e kk T (xs++news) k else none
        |none=>none)
       |false=>none)
      |none=>none)
     |_=>none)
    |none=>none)
   |false=>none)
  |none=>none)
 | .B4 x=>(match x.dj S with
  | .ptr id av off=>(match S.wL id av with|some _=>k (.ptr id av off) none|none=>none)
  | .ref cs=>k (.ref cs) none
  | .bI f cs=>k (.bI f cs) none
  |_=>none)
 | .Gj i x=>(match x.dj S with
  | .eN cs=>(match cs[i]? with|some y=>k y none|none=>none)
  |_=>none)
 | .MH f caps=>k (.bI f (caps.map (·.dj S))) none
 | .MI f first=>k (.jz f (first.map (·.dj S))) none
 | .Pb e kk bytes z l c=>(match K.U9 e with
  |some T=>(match Nat.beq (U.size T) kk&&z.all PV.dE with
   |true=>(match K.dec T td (z.map KV.IS)with
    |some d=>(match l.dj S,c.dj S with
     | .int _ n,.int _ m=>bif decide (n<=m)&&decide (0<=n)&&bg bytes m.toNat then k (.own nid ((S.H nid).av+1)) (some (nid,⟨(S.H nid).av+1,.row e kk T (replicate n.toNat d)⟩))else none
     |_,_=>none)
    |none=>none)
   |false=>none)
  |none=>none)
 | .Jw kk x lo hi=>(match x.dj S with
  | .sl T xs=>(match Nat.beq (U.size T) kk with
   |true=>(match Ge S lo 0,Ge S hi xs.length with
    |some l,some h=>bif cF l h xs.length then k (.sl T ((xs.take h.toNat).drop l.toNat)) none else none
    |_,_=>none)
   |false=>none)
  | .own id av=>(match S.row? id av with
   |some r=>(match Nat.beq kk r.k with
    |true=>(match Ge S lo 0,Ge S hi r.xs.length with
     |some l,some h=>bif cF l h r.xs.length then k (.view id av kk l.toNat (h.toNat - l.toNat)) none else none
     |_,_=>none)
    |false=>none)
   |none=>none)
  | .view id av kk' lo0 n0=>(match S.row? id av with
   |some r=>(match Nat.beq kk r.k&&Nat.beq kk' kk with
    |true=>(match Ge S lo 0,Ge S hi n0 with
     |some l,some h=>bif cF l h n0 then k (.view id av kk (lo0+l.toNat) (h.toNat - l.toNat)) none else none
     |_,_=>none)
    |false=>none)
   |none=>none)
  |_=>none)
 | .Gr e n len kk x i=>(match x.dj S,i.dj S with
  | .agg cs,.int _ j=>(match K.U9 e with
   |some T=>(match Nat.beq (U.size T) kk&&aaK n (U.agg T) kk with
    |true=>(match G7 K T kk len cs with
     |some vs=>(idx vs j).bind λv=>k (Bm K T v) none
     |none=>none)
    |false=>none)
   |none=>none)
  |_,_=>none)
 | .clear kk z x=>(match x.dj S with
  | .view id av kk' lo n=>(match S.row? id av with
   |some r=>(match Nat.beq kk r.k&&Nat.beq kk' kk&&Nat.beq (U.size r.T) kk&&z.all PV.dE&&Nat.beq z.length kk&&(z.map (KV.IS:PV->KV U)).all KV.one with
    |true=>(match K.dec r.T td (z.map KV.IS)with
     |some d=>k (.eN []) (some (id,⟨av,.row r.e r.k r.T (r.xs.take lo++replicate n d++r.xs.drop (lo+n))⟩))
     |none=>none)
    |false=>none)
   |none=>none)
  |_=>none)
 | .we mx x y=>(match x.dj S,y.dj S with
  | .int kd a,.int kd' b=>if kd=kd' then k (.int kd (if mx then(if b>a then b else a)else(if b<a then b else a))) none else none
  |_,_=>none)
 | .As neg x=>(match x.dj S with
  | .eG=>k (.bool !neg) none
  | .sl _ xs=>bif xs.isEmpty then k .gL none else k (.bool neg) none
  |_=>none)
variable {K}
variable {S : aW U}
def AF{id av:Nat}{cs:List (KV U)}(h:S.wL id av=some cs):(S.st.H id).av=av/\(S.st.H id).c= .box (cs.map KV.pv):=by obtain⟨h1,h2⟩:=CN h;exact⟨h1,by simp[aW.st,dv.pv,h2,dY.pv]⟩
def D0:∀{n:Option Nat} {cs:List (KV U)} {x:KV U},J8 n cs=some x->vB n (cs.map KV.pv)=some x.pv
 |none,[],x,h=>by cases h
 |none,y::l,x,h=>by injection h with h;subst h;rfl
 |some n,cs,x,h=>by
  simp only[J8]at h;split at h
  ·rename_i hn;injection h with h
   subst h;rw[vB,Qr (by simpa using QG hn),KV.pv,KV.c9,List.map_take]
  ·cases h
def Jv(cs xs:List (KV U))(off:Nat):(Gz cs off xs).map KV.pv=iT (cs.map KV.pv) off (xs.map KV.pv):=by simp[Gz,iT,List.map_append,List.map_take,List.map_drop]
def ah7(S:aW U){x:PV}(h:x.dE=true):(KV.IS x:KV U).pv=x:=(vb (S:=S) (x:= .zH x) h).symm
def Bz{z:List PV}(S:aW U)(h:z.all PV.dE=true):(z.map (KV.IS:PV->KV U)).map KV.pv=z:=by
 induction z with
 |nil=>rfl
 |cons x l ih=>rw[Qq70,Qm]at h;rw[QD,QD,ah7 S h.1,ih h.2]
def WD:∀{ps:List (Nat×Nat×bB)} {cs cs':List (KV U)},(∀p∈ps,p.2.2.dE=true)->UY S cs ps=some cs'->tq S.st (cs.map KV.pv) ps=some (cs'.map KV.pv)
 |[],cs,cs',_,h=>by injection h with h;subst h;rfl
 |(off,n,x)::ps,cs,cs',ho,h=>by
  simp only[UY]at h;split at h
  ·rename_i hc;simp only[Qm]at hc;obtain⟨⟨h1,h2⟩,h3⟩:=hc;have h1:=QF h1;have h2:=QG h2;rw[tq,vb (ho _ Qx),zh,xm,Qr ⟨by simpa using h1,by simpa using h2,h3⟩,<-Jv]
   exact WD (λp hp=>ho p (Qy _ hp)) h
  ·cases h
def Kz{kk:Nat}:∀{ps:List (Nat×bB)} {es es':List (List (KV U))},(∀p∈ps,p.2.dE=true)->KA S kk es ps=some es'->wA S.st kk (es.map λe=>e.map KV.pv) ps=some (es'.map λe=>e.map KV.pv)
 |[],es,es',_,h=>by injection h with h;subst h;rfl
 |(i,x)::ps,es,es',ho,h=>by
  simp only[KA]at h;split at h
  ·rename_i hc;simp only[Qm]at hc;obtain⟨⟨h1,h2⟩,h3⟩:=hc;have h1:=QF h1;have h2:i<es.length:=QG h2;rw[wA,vb (ho _ Qx),zh,xm,Qr ⟨by simpa using h1,by simpa using h2,h3⟩,<-List.map_set]
   exact Kz (λp hp=>ho p (Qy _ hp)) h
  ·cases h
def WQ{T:U.Ty}:∀{es:List (List (KV U))} {vs:List (U.den T)},U1 K T es=some vs->Ek (es.map λe=>e.map KV.pv)=vs.map (U.pv T)/\(es.map λe=>e.map KV.pv).all (λu=>u.all PV.closed)=true
 |[],vs,h=>by injection h with h;subst h;exact⟨rfl,rfl⟩
 |e::es,vs,h=>by
  rw[U1]at h;split at h
  ·rename_i v hv;split at h
   ·rename_i vs' hvs;injection h with h
    subst h;obtain⟨h1,h2⟩:=WQ hvs;obtain⟨h3,h4⟩:=wK (K.oZ _ _ _ _ hv);refine⟨?_,?_⟩
    ·rw[QD,QD,<-h1,<-h3];rfl
    ·rw[QD,Qq70,rp,h4,h2];rfl
   ·cases h
  ·cases h
def Wu{y:PV}(h:y.ib=true):y.one=true:=by cases y<;>first|rfl|cases h
def YG(T:U.Ty)(vs:List (U.den T)){kk:Nat}(hk:U.size T=kk)(K:TK U):(vs.map (U.pv T)).all (λu=>u.length==kk&&u.all PV.one)=true:=by
 refine QH.2 λu hu=> ?_
 obtain⟨v,_,rfl⟩:=QP.1 hu;rw[K.len,hk,QH.2 λy hy=>Wu (K.ib T v y hy)]
 simp
def acf{T:U.Ty}{x:KV U}{vs:List (U.den T)}(h:S.els T x=some vs):kR S.st x.pv=some (vs.map (U.pv T)):=by
 unfold aW.els WO at h;split at h
 ·injection h with h;subst h;rfl
 ·obtain⟨e,rfl⟩:=nm h;subst e;rfl
 ·rename_i id av;obtain⟨hv,e,k,hc⟩:=YM h;have hc1:(S.st.H id).c= .row e k (vs.map (U.pv T)):=by simp[aW.st,dv.pv,hc,dY.pv]
  have hv1:(S.st.H id).av=av:=hv;rw[KV.pv,kR,Qr hv1,hc1]
 ·cases h
def aeb{T' T:U.Ty}{xs:List (U.den T')}{ys:List (U.den T)}(h:yG T' T xs=some ys):xs.map (U.pv T')=ys.map (U.pv T):=by obtain⟨e,rfl⟩:=nm h;subst e;rfl
def akY{T:U.Ty}{x:KV U}{vs:List (U.den T)}(h:S.elv T x=some vs):kR S.st x.pv=some (vs.map (U.pv T)):=by
 unfold aW.elv at h;split at h
 ·rename_i id av kk lo n;split at h
  ·rename_i r hr;obtain⟨h4,h5⟩:=qe hr;split at h
   ·rename_i hk;split at h
    ·rename_i xs hc;injection h with h
     subst h;simp only[KV.pv,kR];rw[Qr h4,h5];simp only;rw[Qr (QF hk),aeb hc,<-List.map_drop,<-List.map_take]
    ·cases h
   ·cases h
  ·cases h
 ·exact acf h
def agd{x:KV U}{n:Nat}(h:S.adI x=some n):∃es,kR S.st x.pv=some es/\es.length=n:=by
 unfold aW.adI at h;split at h
 ·injection h with h;exact⟨[],rfl,h⟩
 ·rename_i T xs;injection h with h;exact⟨xs.map (U.pv T),rfl,by simpa using h⟩
 ·rename_i id av;split at h
  ·rename_i r hr;obtain⟨hv,hc⟩:=qe hr;injection h with h
   refine⟨r.xs.map (U.pv r.T),?_,by simpa using h⟩
   rw[KV.pv,kR,Qr hv,hc]
  ·split at h
   ·rename_i r hr;obtain⟨hv,hc⟩:=Vp hr;injection h with h
    refine⟨r.es.map λc=>c.map KV.pv,?_,by simpa using h⟩
    rw[KV.pv,kR,Qr hv,hc]
   ·cases h
 ·rename_i id av kk lo m;split at h
  ·rename_i r hr;obtain⟨hv,hc⟩:=qe hr;split at h
   ·rename_i hk;injection h with h
    refine⟨((r.xs.drop lo).take m).map (U.pv r.T),?_,by rw[QC];exact h⟩
    rw[KV.pv,kR,Qr hv,hc];simp only;rw[Qr (QF hk),List.map_take,List.map_drop]
   ·cases h
  ·cases h
 ·cases h
def OZ{l:List bB}{y:Option bB}{d n:Int}(hi1:∀(y:bB) (d n:Int),y∈l->Ge S (some y) d=some n->∃kd,y.val S.st= .int kd n)(hy:∀z,y=some z->z∈l)(h:Ge S y d=some n):vg S.st y d=some n:=by
 cases y with
 |none=>exact h
 |some z=>obtain⟨kd,hz⟩:=hi1 z d n (hy z rfl) h;simp only[vg,hz]
def H3{xs:List bB}(h:∀x∈xs,x.dE=true):xs.map (·.val S.st)=(xs.map (·.dj S)).map KV.pv:=by rw[List.map_map];exact Qq71 λx hx=>vb (h x hx)
def agY{ρ:Type}{op:BinOp}{x y:KV U}{k:KV U->Option ρ}{r:ρ}(h:aee op x y k=some r):∃v:KV U,LG op x.pv y.pv=some v.pv/\k v=some r:=by
 unfold aee at h;split at h
 ·rename_i kd a kd' b;cases op<;>simp only at h<;>simp only[KV.pv,LG,KO]<;>
  first
  |(
    split at h
    ·cases h
    ·rename_i h1;exact⟨_,by rw[Qs h1];rfl,h⟩)
  |(
    split at h
    ·rename_i h1;rw[Qr h1]
     first
     |exact⟨_,rfl,h⟩
     |(
       split at h
       ·cases h
       ·rename_i h2;exact⟨_,by rw[Qs h2];rfl,h⟩)
     |cases h
    ·cases h)
 ·rename_i a b;cases op<;>simp only at h<;>simp only[KV.pv,LG,Ro]<;>first|exact⟨_,rfl,h⟩|cases h
 ·cases h
def Xi(K:TK U){ρ:Type}{z:Bool}{id av e kk:Nat}{T:U.Ty}{xs:List (U.den T)}{k:KV U->Option (Nat×dv U)->Option ρ}{r:ρ}(h:aaF z id av e kk T xs k=some r):
  ∃x wr,KP z id av e kk (xs.map (U.pv T))=some (x.pv,wr.map kQ)/\k x wr=some r:=by
 cases z with
 |false=>exact⟨_,_,rfl,h⟩
 |true=>
  refine⟨_,_,?_,h⟩;simp only[KP];rw[Qr]
  ·rfl
  ·refine QH.2 λu hu=> ?_
   obtain⟨x,_,rfl⟩:=QP.1 hu;exact QH.2 λy hy=>gM (K.ib _ _ _ hy)
def X3{P:Program}{ρ:Type}{Γ:List (dU U)}{nid:Nat}{op:cu}{k:KV U->Option (Nat×dv U)->Option ρ}{r:ρ}(hΓ:vq P Γ)(ho:op.dE=true)(h:gC K Γ nid S op k=some r):
  ∃Γ' x wr,pD P Γ'/\exec Γ' nid S.st op=some (x.pv,wr.map kQ)/\k x wr=some r:=by
 have hov:∀x∈op.dS,x.val S.st=(x.dj S).pv:=λx hx=>vb (QH.1 ho x hx)
 have hoc:∀x∈op.dS,x.dE=true:=λx hx=>QH.1 ho x hx
 have pure:∀{x:KV U} {wr:Option (Nat×dv U)},exec (λ_=>none) nid S.st op=some (x.pv,wr.map kQ)->k x wr=some r->∃Γ' x wr,pD P Γ'/\exec Γ' nid S.st op=some (x.pv,wr.map kQ)/\k x wr=some r:=
  λ{x wr} h1 h2=>⟨λ_=>none,x,wr,λf m hm=>(by cases hm),h1,h2⟩
 cases op with
 |qj x=>
  have h1:=hov x (by simp[cu.dS])
  exact pure (by rw[exec,h1];rfl) h
 |pick c x y=>
  have h1:=hov c (by simp[cu.dS])
  have h2:=hov x (by simp[cu.dS])
  have h3:=hov y (by simp[cu.dS])
  simp only[gC]at h;split at h
  ·rename_i b hb;rw[hb]at h1;split at h
   ·exact pure (by rw[exec,h1];simp only[KV.pv];rw[h2];rfl) h
   ·exact pure (by rw[exec,h1];simp only[KV.pv];rw[h3];rfl) h
  ·cases h
 |box x=>
  have h1:=hov x (by simp[cu.dS])
  simp only[gC]at h;split at h
  ·rename_i hb;refine pure ?_ h;rw[exec,h1,zh,xm,Qr hb];rfl
  ·cases h
 |Gn x=>
  have h1:=hov x (by simp[cu.dS])
  simp only[gC]at h;split at h
  ·rename_i hb;refine pure ?_ h;rw[exec,h1,zh,xm,rp,Qr hb];simp only[KV.pv,KV.c9,Qq65]
  ·cases h
 |alloc z=>
  simp only[gC]at h;split at h
  ·rename_i hb;refine pure ?_ h;simp only[exec,Qe,kQ,dv.pv,dY.pv,Bz S hb];rfl
  ·cases h
 |load n p=>
  have h1:=hov p (by simp[cu.dS])
  simp only[gC]at h;split at h
  ·rename_i id av off hp;rw[hp]at h1;split at h
   ·rename_i cs hb;obtain⟨h2,h3⟩:=AF hb;split at h
    ·rename_i x hx;refine pure ?_ h;have:=D0 hx;rw[List.map_drop]at this;rw[exec,h1];simp only[KV.pv];rw[Qr h2,h3];simp only[this,Qe,Qq65]
    ·cases h
   ·cases h
  ·rename_i id av kk i off hp;rw[hp]at h1;split at h
   ·rename_i rr hb;obtain⟨h2,h3⟩:=qe hb;split at h
    ·rename_i hk;simp only[Qc]at h;obtain⟨v,hv,h⟩:=h;split at h
     ·rename_i x hx;refine pure ?_ h;have:=D0 hx;rw[List.map_drop,K.uO]at this;rw[exec,h1];simp only[KV.pv];rw[Qr h2,h3];simp only[QF hk,Qt,QT,hv,Qe,this,Qq65]
     ·cases h
    ·cases h
   ·split at h
    ·rename_i rr hb;obtain⟨h2,h3⟩:=Vp hb;split at h
     ·rename_i hk;split at h
      ·rename_i c hc;split at h
       ·rename_i x hx;refine pure ?_ h;have:=D0 hx;rw[List.map_drop]at this;rw[exec,h1];simp only[KV.pv];rw[Qr h2,h3];simp only[QF hk,Qt,QT,hc,Qe,this,Qq65]
       ·cases h
      ·cases h
     ·cases h
    ·cases h
  ·rename_i cs hp;rw[hp]at h1;split at h
   ·rename_i x hx;refine pure ?_ h;rw[exec,h1];simp only[KV.pv,KV.c9,D0 hx,Qe,Qq65]
   ·cases h
  ·cases h
 |store n p x=>
  have h1:=hov p (by simp[cu.dS])
  have h2:=hov x (by simp[cu.dS])
  simp only[gC]at h;split at h
  ·rename_i hc;rw[Qm]at hc;have hl:=QF hc.1
   have hc1:(x.val S.st).cells.length=n/\(x.val S.st).cells.all PV.one=true:=by rw[h2,zh,xm];exact⟨by simpa using hl,hc.2⟩
   split at h
   ·rename_i id av off hp;rw[hp]at h1;split at h
    ·rename_i cs hb;obtain⟨h3,h4⟩:=AF hb;split at h
     ·rename_i hle;refine pure ?_ h;rw[exec,Qr hc1,h1];simp only[KV.pv];rw[Qr h3,h4];simp only[QC];rw[Qr (QG hle),h2,zh];simp only[Qe,kQ,dv.pv,dY.pv,Jv]
     ·cases h
    ·cases h
   ·rename_i id av kk i off hp;rw[hp]at h1;split at h
    ·rename_i rr hb;obtain⟨h3,h4⟩:=qe hb;split at h
     ·rename_i hk;simp only[Qm]at hk;obtain⟨⟨hk1,hk2⟩,hk3⟩:=hk;have hk1:=QF hk1;have hk2:=QF hk2;have hk3:=QG hk3;simp only[Qc]at h;obtain⟨v,hv,h⟩:=h;split at h
      ·rename_i v' hd;refine pure ?_ h;obtain⟨h5,_⟩:=wK (K.oZ _ _ _ _ hd);rw[Jv,K.uO]at h5
       have h6:iT (U.pv rr.T v) off (((x.dj S).cells.map KV.pv).map nz)=U.pv rr.T v':=by
        rw[<-h5]
        have hnz:(U.pv rr.T v).map nz=U.pv rr.T v:=by
         refine(Qq71 λy hy=> ?_).trans (List.map_id _)
         have:=K.ib _ _ _ hy;cases y<;>first|rfl|cases this
        simp only[iT,List.map_append,List.map_take,List.map_drop,hnz,QC]
       rw[exec,Qr hc1,h1];simp only[KV.pv];rw[Qr h3,h4];simp only[hk1,Qt,QT,hv,Qe,K.len];rw[Qr hk3,h2,zh,h6];simp only[kQ,dv.pv,dY.pv,List.map_set]
      ·cases h
     ·cases h
    ·cases h
   ·cases h
  ·cases h
 |build z ps=>
  simp only[gC]at h;split at h
  ·rename_i hz;split at h
   ·rename_i cs hf;refine pure ?_ h;have:=WD (λp hp=>hoc _ (by simp only[cu.dS,QP];exact⟨p,hp,rfl⟩)) hf
    rw[Bz S hz]at this;rw[exec,this];simp only[Qe,Qq65,KV.pv,KV.c9]
   ·cases h
  ·cases h
 |Rl m e kk z ps=>
  simp only[gC]at h;split at h
  ·rename_i T hT;split at h
   ·rename_i hz;rw[Qm]at hz;split at h
    ·rename_i es hf;split at h
     ·rename_i vs hd;have h1:=Kz (λp hp=>hoc _ (by simp only[cu.dS,QP];exact⟨p,hp,rfl⟩)) hf
      have h2:(z.map λu=>u.map (KV.IS:PV->KV U)).map (λe=>e.map KV.pv)=z:=by
       rw[List.map_map];refine(Qq71 λu hu=> ?_).trans (List.map_id _)
       exact Bz S (QH.1 hz.2 u hu)
      rw[h2]at h1;obtain⟨h3,h4⟩:=WQ hd;split at h
      ·refine pure ?_ h;rw[exec,h1];simp only[h4,and_self,Qt,h3,KV.pv,Qq65]
      ·refine pure ?_ h;rw[exec,h1];simp only[Bool.true_eq_false,false_and,Qu,h3,KV.pv,Qe,kQ,dv.pv,dY.pv];rfl
     ·cases h
    ·cases h
   ·cases h
  ·split at h
   ·rename_i hz;rw[Qm]at hz;split at h
    ·rename_i es hf;split at h
     ·rename_i hnn;have h1:=Kz (λp hp=>hoc _ (by simp only[cu.dS,QP];exact⟨p,hp,rfl⟩)) hf
      have h2:(z.map λu=>u.map (KV.IS:PV->KV U)).map (λe=>e.map KV.pv)=z:=by
       rw[List.map_map];refine(Qq71 λu hu=> ?_).trans (List.map_id _)
       exact Bz S (QH.1 hz.2 u hu)
      rw[h2]at h1
      have h3:Ek (es.map λe=>e.map KV.pv)=es.map λe=>e.map KV.pv:=by
       unfold Ek;rw[List.map_map];refine Qq71 λc hc=> ?_
       simp only[Function.comp,List.map_map];refine Qq71 λy hy=> ?_
       have:=QH.1 (QH.1 hnn c hc) y hy;cases y<;>first|rfl|cases this|simp[KV.pv,nz]
      have hm:m=true:=hz.1;subst hm;refine pure ?_ h;rw[exec,h1];simp only[Bool.true_eq_false,false_and,Qu,h3,KV.pv,Qe,kQ,dv.pv,dY.pv];rfl
     ·cases h
    ·cases h
   ·cases h
 |Cb off p=>
  have h1:=hov p (by simp[cu.dS])
  simp only[gC]at h;split at h
  ·rename_i id av o hp;rw[hp]at h1;split at h
   ·rename_i cs hb;obtain⟨h2,h3⟩:=AF hb;refine pure ?_ h;rw[exec,h1];simp only[KV.pv];rw[Qr h2,h3];rfl
   ·cases h
  ·rename_i id av kk i o hp;rw[hp]at h1;split at h
   ·rename_i rr hb;obtain⟨h2,h3⟩:=qe hb;simp only[Qc]at h;obtain⟨v,hv,h⟩:=h;refine pure ?_ h;have hi:=(Qw.1 hv).1;rw[exec,h1];simp only[KV.pv];rw[Qr h2,h3];simp only[QC,hi,Qt,Qq65]
   ·cases h
  ·rename_i cs hp;rw[hp]at h1;refine pure ?_ h;rw[exec,h1];simp only[KV.pv,KV.c9,List.map_drop,Qq65]
  ·cases h
 |uo kk x i=>
  have h1:=hov x (by simp[cu.dS])
  have h2:=hov i (by simp[cu.dS])
  simp only[gC]at h;split at h
  ·rename_i kd n hn;rw[hn]at h2;split at h
   ·rename_i T xs hx;rw[hx]at h1;split at h
    ·rename_i hk;simp only[Qc]at h;obtain⟨v,hv,h⟩:=h;obtain⟨hi0,hi1,hi2⟩:=NN hv;refine pure ?_ h;rw[exec,h2];simp only[KV.pv];rw[h1];simp only[KV.pv,QC];rw[Qr ⟨hi0,by omega⟩]
     simp only[QT,hi2,Qe,K.len,QF hk,Qt,KV.c9,K.uO,Qq65]
    ·cases h
   ·rename_i id av hx;rw[hx]at h1;split at h
    ·rename_i rr hb;obtain⟨h3,h4⟩:=qe hb;split at h
     ·rename_i hk;simp only[Qc]at h;obtain⟨v,hv,h⟩:=h;obtain⟨hi0,hi1,hi2⟩:=NN hv;refine pure ?_ h;rw[exec,h2];simp only[KV.pv];rw[h1];simp only[KV.pv];rw[Qr h3,h4];simp only[QC];rw[Qr ⟨QF hk,hi0,by omega⟩]
      rfl
     ·cases h
    ·split at h
     ·rename_i rr hb;obtain⟨h3,h4⟩:=Vp hb;split at h
      ·rename_i j;split at h
       ·rename_i hk;rw[Qm]at hk;have hlt:j<rr.es.length:=QG hk.2;refine pure ?_ h;rw[exec,h2];simp only[KV.pv];rw[h1];simp only[KV.pv];rw[Qr h3,h4];simp only[QC];rw[Qr ⟨QF hk.1,Int.natCast_nonneg j,Int.ofNat_lt.2 hlt⟩];rfl
       ·cases h
      ·cases h
     ·cases h
   ·rename_i id av kk' lo m hx;rw[hx]at h1;split at h
    ·rename_i rr hb;obtain⟨h3,h4⟩:=qe hb;split at h
     ·rename_i hk;rw[Qm]at hk;simp only[Qc]at h;obtain⟨v,hv,h⟩:=h;obtain⟨hi0,hi1,hi2⟩:=NN hv;refine pure ?_ h;rw[exec,h2];simp only[KV.pv];rw[h1];simp only[KV.pv];rw[Qr h3,h4];simp only[QC];simp only[List.length_take,List.length_drop]at hi1;rw[Qr ⟨QF hk.1,QF hk.2,hi0,by omega,by omega⟩]
      rfl
     ·cases h
    ·cases h
   ·cases h
  ·cases h
 |Gr e n len kk x i=>
  have h1:=hov x (by simp[cu.dS])
  have h2:=hov i (by simp[cu.dS])
  simp only[gC]at h;split at h
  ·rename_i cs _ j hx hi;rw[hx]at h1;rw[hi]at h2;split at h
   ·rename_i T hT;split at h
    ·rename_i hk;split at h
     ·rename_i vs hvs;simp only[Qc]at h;obtain⟨v,hv,h⟩:=h;obtain⟨hlen,hget⟩:=MV K hvs
      have hv0:0<=j/\vs[j.toNat]?=some v:=by
       unfold idx at hv;split at hv
       ·rename_i h0;exact⟨h0,hv⟩
       ·cases hv
      have hjl:j.toNat<vs.length:=(Qw.1 hv0.2).1;obtain⟨hnz,_⟩:=wK (K.oZ _ _ _ _ (hget _ _ hv0.2));rw[Qm]at hk;have hkk:=QF hk.1;have hpl:=K.len T v
      have hcl:((cs.drop (j.toNat*kk)).take kk).length=kk:=by have:=congrArg List.length hnz;simp only[QC]at this;omega
      refine pure ?_ h;rw[exec,h1,h2];simp only[KV.pv,KV.c9];rw[Qr ⟨hv0.1,by omega⟩,DR]
      have hsplit:((cs.map KV.pv).drop (j.toNat*kk)).map nz=U.pv T v++(((cs.drop (j.toNat*kk)).drop kk).map KV.pv).map nz:=by rw[<-hnz,<-List.map_append,<-List.map_append,List.take_append_drop,List.map_drop,List.map_drop,List.map_drop]
      rw[hsplit]
      cases n with
      |none=>
       simp only[aaK,Qm,Bool.not_eq_true']at hk;have h1k:=QF hk.2.2;obtain⟨y,hy1,hy2⟩:=w6 K v hk.2.1
       cases hp:U.pv T v with
       |nil=>rw[hp]at hy2;cases hy2
       |cons y0 l=>
        have hl0:l=[]:=by rw[hp,QE]at hpl;exact Qq67 (by omega)
        rw[hp,hl0,Q5]at hy2;rw[hl0];simp only[List.singleton_append,vB,Qe,Qq65];rw[hy1,hy2]
      |some m=>
       simp only[aaK,Qm]at hk;have hm:=QF hk.2.2;subst hm;simp only[vB];rw[Qr (by rw[QB];omega),List.take_append_of_le_length (by omega),List.take_of_length_le (by omega),zu v hk.2.1]
       rfl
     ·cases h
    ·cases h
   ·cases h
  ·cases h
 |clear kk z x=>
  have h1:=hov x (by simp[cu.dS])
  simp only[gC]at h;split at h
  ·rename_i id av kk' lo n hx;rw[hx]at h1;split at h
   ·rename_i rr hb;obtain⟨h3,h4⟩:=qe hb;split at h
    ·rename_i hk;simp only[Qm]at hk;obtain⟨⟨⟨⟨⟨k1,k2⟩,k3⟩,k4⟩,k5⟩,k6⟩:=hk;split at h
     ·rename_i d hd;refine pure ?_ h;have h7:=(wK (K.oZ _ _ _ _ hd)).1;rw[Bz S k4]at h7;have h8:z.all PV.one=true:=by rw[<-xm,Bz S k4]at k6;exact k6
      have e1:=QF k1;have e2:=QF k2;have e5:=QF k5;rw[exec,h1];simp only[KV.pv];rw[Qr h3,h4];simp only;rw[Qr ⟨e1,e2,e5,h8⟩,h7];simp only[Qe,kQ,dv.pv,dY.pv,List.map_append,List.map_take,List.map_drop,List.map_replicate,KV.IP];rw[e1]
     ·cases h
    ·cases h
   ·cases h
  ·cases h
 |bin op x y=>
  have h1:=hov x (by simp[cu.dS])
  have h2:=hov y (by simp[cu.dS])
  simp only[gC]at h;obtain⟨v,h3,h4⟩:=agY h;refine pure ?_ h4;rw[exec,h1,h2,h3];rfl
 |mu neg x y=>
  have h1:=hov x (by simp[cu.dS])
  have h2:=hov y (by simp[cu.dS])
  simp only[gC]at h;split at h
  ·rename_i hx hy;rw[hx]at h1;rw[hy]at h2;split at h
   ·rename_i hk;refine pure ?_ h;rw[exec,h1,h2];simp only[KV.pv,KV.IP,hk,Qt,Qq65]
   ·cases h
  ·cases h
 |MP n off x=>
  have h1:=hov x (by simp[cu.dS])
  simp only[gC]at h;split at h
  ·rename_i cs hp;rw[hp]at h1;split at h
   ·rename_i v hx;refine pure ?_ h;have:=D0 hx;rw[List.map_drop]at this;rw[exec,h1];simp only[KV.pv,KV.c9,this,Qe,Qq65]
   ·cases h
  ·cases h
 |KB neg x y=>
  have h1:=hov x (by simp[cu.dS])
  have h2:=hov y (by simp[cu.dS])
  simp only[gC]at h;split at h
  ·rename_i hx hy;rw[hx]at h1;rw[hy]at h2;refine pure ?_ h;rw[exec,h1,h2];rfl
  ·cases h
 |not x|conv kd x=>
  have h1:=hov x (by simp[cu.dS])
  simp only[gC]at h;split at h
  ·rename_i hx;rw[hx]at h1;exact pure (by rw[exec,h1];rfl) h
  ·cases h
 |len b x=>
  have h1:=hov x (by simp[cu.dS])
  cases b with
  |true=>
   simp only[gC]at h;split at h
   ·rename_i hx;rw[hx]at h1;exact pure (by rw[exec,h1];rfl) h
   ·cases h
  |false=>
   simp only[gC]at h;split at h
   ·rename_i n hx;obtain⟨es,h2,h3⟩:=agd hx;exact pure (by rw[exec,h1,h2];simp only[Qe,Qq65,KV.pv,h3]) h
   ·cases h
 |call f xs=>simp only[gC]at h;obtain⟨Γ',x,wr,h1,h2,h3⟩:=eU hΓ h;refine⟨Γ',x,wr,h1,?_,h3⟩;rw[exec,H3 (xs:=xs) hoc];exact h2
 |uw fv xs=>
  have h0:=hov fv (by simp[cu.dS])
  simp only[gC]at h;split at h
  ·rename_i f caps hf;rw[hf]at h0;obtain⟨Γ',x,wr,h1,h2,h3⟩:=eU hΓ h;refine⟨Γ',x,wr,h1,?_,h3⟩;rw[exec,h0];simp only[KV.pv];rw[H3 (λx hx=>hoc x (by simp[cu.dS,hx])),KV.c9,<-List.map_append]
   exact h2
  ·rename_i f caps hf;rw[hf]at h0;obtain⟨Γ',x,wr,h1,h2,h3⟩:=eU hΓ h;refine⟨Γ',x,wr,h1,?_,h3⟩;rw[exec,h0];simp only[KV.pv];rw[H3 (λx hx=>hoc x (by simp[cu.dS,hx])),KV.c9,<-List.map_append]
   exact h2
  ·cases h
 |cz z e kk bytes s x=>
  have h1:=hov s (by simp[cu.dS])
  have h2:=hov x (by simp[cu.dS])
  simp only[gC]at h;split at h
  ·rename_i T hT;split at h
   ·rename_i hk;have hk:=QF hk;split at h
    ·rename_i news hn;have h3:=acf hn;split at h
     ·rename_i hs;rw[hs]at h1
      cases hl:bg bytes news.length with
      |false=>rw[hl]at h;cases h
      |true=>rw[hl]at h;obtain⟨hl1,hl2⟩:=DB hl;obtain⟨x0,wr0,g1,g2⟩:=Xi K h;refine pure ?_ g2;rw[exec,h2,h3];simp only[YG T news hk K,Qt,h1,KV.pv,QC];rw[Qr ⟨hl1,hl2⟩];exact g1
     ·rename_i id av hs;rw[hs]at h1;split at h
      ·rename_i rr hb;obtain⟨h4,h5⟩:=qe hb;split at h
       ·rename_i he;rw[Qm]at he;have he1:=QF he.1;have he2:=QF he.2;split at h
        ·rename_i xs hc
         have hpv:rr.xs.map (U.pv rr.T)=xs.map (U.pv T):=by obtain⟨eT,hxs⟩:=nm hc;obtain⟨re,rk,rT,rxs⟩:=rr;simp only at eT hxs ⊢;subst eT;rw[hxs]
         cases hl:bg bytes (xs.length+news.length)with
         |false=>rw[hl]at h;cases h
         |true=>rw[hl]at h;obtain⟨hl1,hl2⟩:=DB hl;obtain⟨x0,wr0,g1,g2⟩:=Xi K h;refine pure ?_ g2;rw[exec,h2,h3];simp only[YG T news hk K,Qt,h1,KV.pv];rw[Qr h4,h5];simp only[hpv,QC];rw[Qr ⟨he1.symm,he2.symm,hl1,hl2⟩];rw[List.map_append]at g1;exact g1
        ·cases h
       ·cases h
      ·cases h
     ·cases h
    ·cases h
   ·cases h
  ·cases h
 |B4 x=>
  have h1:=hov x (by simp[cu.dS])
  simp only[gC]at h;split at h
  ·rename_i id av o hp;rw[hp]at h1;split at h
   ·rename_i cs hb;obtain⟨h2,h3⟩:=AF hb;refine pure ?_ h;rw[exec,h1];simp only[KV.pv];rw[Qr h2,h3];rfl
   ·cases h
  ·rename_i cs hp;rw[hp]at h1;exact pure (by rw[exec,h1];rfl) h
  ·rename_i cs hp;rw[hp]at h1;exact pure (by rw[exec,h1];rfl) h
  ·cases h
 |Gj i x=>
  have h1:=hov x (by simp[cu.dS])
  simp only[gC]at h;split at h
  ·rename_i cs hx;rw[hx]at h1;split at h
   ·rename_i y hy;refine pure ?_ h;rw[exec,h1];simp only[KV.pv,KV.c9,QT,hy,Qe,Qq65]
   ·cases h
  ·cases h
 |MH f caps|MI f caps=>refine pure ?_ h;rw[exec,H3 (xs:=caps) hoc];simp only[KV.pv,KV.c9,Qq65]
 |G4 neg ks x y=>
  have h1:=hov x (by simp[cu.dS])
  have h2:=hov y (by simp[cu.dS])
  simp only[gC]at h;split at h
  ·rename_i cs ds hx hy;rw[hx]at h1;rw[hy]at h2;split at h
   ·rename_i b hb;refine pure ?_ h;rw[exec,h1,h2];simp only[KV.pv,KV.c9,Io hb,Qe,Qq65]
   ·cases h
  ·cases h
 |Pb e kk bytes z l c=>
  have h1:=hov l (by simp[cu.dS])
  have h2:=hov c (by simp[cu.dS])
  simp only[gC]at h;split at h
  ·rename_i T hT;split at h
   ·rename_i hz;rw[Qm]at hz;split at h
    ·rename_i d hd;split at h
     ·rename_i _ n _ m hl hc;rw[hl]at h1;rw[hc]at h2
      cases hb:(decide (n<=m)&&decide (0<=n)&&bg bytes m.toNat)with
      |false=>rw[hb]at h;cases h
      |true=>rw[hb]at h;simp only[Qm,Qi]at hb;obtain⟨⟨h3,h4⟩,h5⟩:=hb;obtain⟨h5,h6⟩:=DB h5;refine pure ?_ h;have h7:=(wK (K.oZ _ _ _ _ hd)).1;rw[Bz S hz.2]at h7;rw[exec,h1,h2];simp only[KV.pv];rw[Qr ⟨h3,h4,h5,h6⟩,h7];simp only[Qe,kQ,dv.pv,dY.pv,List.map_replicate];rfl
     ·cases h
    ·cases h
   ·cases h
  ·cases h
 |Jw kk x lo hi=>
  have h1:=hov x (by simp[cu.dS])
  have hi1:∀(y:bB) (d n:Int),y∈(cu.Jw kk x lo hi).dS->Ge S (some y) d=some n->∃kd,y.val S.st= .int kd n:=by
   intro y d n ho hn;have:=hov y ho;simp only[Ge]at hn;split at hn
   ·rename_i kd _ hy;rw[hy]at this;injection hn with hn;subst hn;exact⟨kd,this⟩
   ·cases hn
  simp only[gC]at h;split at h
  ·rename_i T xs hx;rw[hx]at h1;split at h
   ·rename_i hk;have hk:=QF hk;split at h
    ·rename_i l hh hl hhi
     cases hs:cF l hh xs.length with
     |false=>rw[hs]at h;cases h
     |true=>
      rw[hs]at h;refine pure ?_ h;simp only[cF,Qm,Qi]at hs;obtain⟨⟨h4,h5⟩,h6⟩:=hs
      have h7:(xs.map (U.pv T)).all (λe=>e.length==kk)=true:=QH.2 λu hu=>by obtain⟨v,_,rfl⟩:=QP.1 hu;rw[K.len,hk];simp
      unfold exec;simp only[h1,KV.pv,QC,h7,Qt]
      have fin:∀(l hh:Int),0<=l/\l<=hh/\hh<=(xs.length:Int)->(if 0<=l/\l<=hh/\hh<=(xs.length:Int)then some (PV.sl (((xs.map (U.pv T)).take hh.toNat).drop l.toNat),(none:Option (Nat×gm)))else none)=some (PV.sl (((xs.take hh.toNat).drop l.toNat).map (U.pv T)),Option.map kQ (none:Option (Nat×dv U))):=λl hh hc=>by rw[Qr hc];simp only[List.map_take,List.map_drop,Qq65]
      cases lo with
      |none=>
       injection hl with hl
       subst hl
       cases hi with
       |none=>injection hhi with hhi;subst hhi;exact fin _ _ ⟨h4,h5,h6⟩
       |some y=>obtain⟨kd,hy⟩:=hi1 y _ _ (by simp[cu.dS]) hhi;simp only[hy];exact fin _ _ ⟨h4,h5,h6⟩
      |some z=>
       obtain⟨kz,hz⟩:=hi1 z _ _ (by simp[cu.dS]) hl
       cases hi with
       |none=>injection hhi with hhi;subst hhi;simp only[hz];exact fin _ _ ⟨h4,h5,h6⟩
       |some y=>obtain⟨kd,hy⟩:=hi1 y _ _ (by simp[cu.dS]) hhi;simp only[hz,hy];exact fin _ _ ⟨h4,h5,h6⟩
    ·cases h
   ·cases h
  ·rename_i id av hx;rw[hx]at h1;split at h
   ·rename_i rr hb;obtain⟨h3,h4⟩:=qe hb;split at h
    ·rename_i hk;have hk:=QF hk;split at h
     ·rename_i l hh hl hhi;have e1:=OZ (hi1:=hi1) (y:=lo) (λy hy=>by simp[cu.dS,hy]) hl
      have e2:=OZ (hi1:=hi1) (y:=hi) (λy hy=>by simp[cu.dS,hy]) hhi
      cases hs:cF l hh rr.xs.length with
      |false=>rw[hs]at h;cases h
      |true=>rw[hs]at h;refine pure ?_ h;simp only[cF,Qm,Qi]at hs;unfold exec;simp only[h1,KV.pv];rw[Qr h3,h4];simp only[QC];rw[Qr hk,e1,e2];simp only;rw[Qr ⟨hs.1.1,hs.1.2,hs.2⟩];rfl
     ·cases h
    ·cases h
   ·cases h
  ·rename_i id av kk' lo0 n0 hx;rw[hx]at h1;split at h
   ·rename_i rr hb;obtain⟨h3,h4⟩:=qe hb;split at h
    ·rename_i hk;rw[Qm]at hk;split at h
     ·rename_i l hh hl hhi;have e1:=OZ (hi1:=hi1) (y:=lo) (λy hy=>by simp[cu.dS,hy]) hl
      have e2:=OZ (hi1:=hi1) (y:=hi) (λy hy=>by simp[cu.dS,hy]) hhi
      cases hs:cF l hh n0 with
      |false=>rw[hs]at h;cases h
      |true=>rw[hs]at h;refine pure ?_ h;simp only[cF,Qm,Qi]at hs;unfold exec;simp only[h1,KV.pv];rw[Qr h3,h4];simp only;rw[Qr ⟨QF hk.1,QF hk.2⟩,e1,e2];simp only;rw[Qr ⟨hs.1.1,hs.1.2,hs.2⟩];rfl
     ·cases h
    ·cases h
   ·cases h
  ·cases h
 |we mx x y=>
  have h1:=hov x (by simp[cu.dS])
  have h2:=hov y (by simp[cu.dS])
  simp only[gC]at h;split at h
  ·rename_i hx hy;rw[hx]at h1;rw[hy]at h2;split at h
   ·rename_i hk;refine pure ?_ h;rw[exec,h1,h2];simp only[KV.pv,hk,Qt,Qq65]
   ·cases h
  ·cases h
 |As neg x=>
  have h1:=hov x (by simp[cu.dS])
  simp only[gC]at h;split at h
  ·rename_i hx;rw[hx]at h1;exact pure (by unfold exec;simp only[h1,KV.pv,Qq65]) h
  ·rename_i T xs hx;rw[hx]at h1
   cases xs with
   |nil=>exact pure (x:= .gL) (by unfold exec;simp only[h1,KV.pv,kR,QO,Qq65]) h
   |cons y l=>exact pure (x:= .bool neg) (by unfold exec;simp only[h1,KV.pv,kR,QD,Qq65]) h
  ·cases h
end
end
section
open Go.RowKit
section
variable {P : Program} {S : St} {nt : Nat} {Q : Exit -> St -> Prop} {E : En} {a : Act} {w : World} {L : Nat -> Value}
def Rel.ahB(h:Rel E S a w L){id:Nat}(hid:id<S.N)(e k:Nat):
  Rel E {S with H:=bU S.H id ⟨(S.H id).av+1,.row e k []⟩} a w (bU L id (.slice none 0 0)):=
 (h.vR (w':=w) hid ⟨(S.H id).av+1,.row e k []⟩ (.slice none 0 0) (.inr (Nat.lt_succ_self _)) rfl rfl rfl (QI _) (λ_ _ _=>rfl)
  (λb _ hb=>by simp[cd]at hb) (λ_ _=>⟨[],⟨by simp,.inl ⟨rfl,rfl⟩⟩,by simp,by exact⟨rfl,λi y v hy=>by simp at hy⟩⟩)).1
def ah2{S:St}{id:Nat}(hid:id<S.N)(e k:Nat){w:World}{M:Nat->Prop}{v:Value}(h:v= .slice none 0 0):
  bp w M (St.gh {S with H:=bU S.H id ⟨(S.H id).av+1,.row e k []⟩} (bU L id (.slice none 0 0))) (.own id ((S.H id).av+1)) v:=by
 subst h;exact .own _ _ _ _ _ hid (by simp[St.gh]) (λ_=>by simp[St.gh])
end
end
section
open Go.RowKit
section
variable {P : Program} {E : En} {S : St} {a : Act} {w : World} {L : Nat -> Value}
def Rel.akI(h:Rel E S a w L){id av k n e0 k':Nat}{es:List (List PV)}{v:Value}(r:bp w (bl E S L) (S.gh L) (.view id av k 0 n) v)(hver:(S.H id).av=av)(hc:(S.H id).c= .row e0 k' es):
  Rel E {S with H:=bU S.H id ⟨av+1,.row e0 k' (es.take n)⟩} a w (bU L id v)/\bp w (bl E {S with H:=bU S.H id ⟨av+1,.row e0 k' (es.take n)⟩} (bU L id v)) (St.gh {S with H:=bU S.H id ⟨av+1,.row e0 k' (es.take n)⟩} (bU L id v)) (.own id (av+1)) v:=by
 obtain⟨hN,ad,c,hv,hat⟩:=r.Bl (show(S.gh L).V id=av from hver)
 have hle:=h.K5 hN hc hat;obtain⟨a0,m0,c0,hl,q1,q2,q3,q4⟩:=hat;have hl:L id= .slice a0 m0 c0:=hl;have hlive:(S.H id).c.live=true:=by rw[hc];rfl
 obtain⟨vs,hown,hk,hr⟩:=h.lx hN hc
 have had:ad=a0:=by
  rcases q4 with q4|q4
  ·exact absurd rfl q4.2.1
  ·rw[q4];cases a0<;>simp[Addr.add]
 have hc0:c=c0:=by omega
 subst had hc0;have hbv:cd v=cd (L id):=by rw[hv,hl];cases ad<;>rfl
 have hlen:(es.take n).length=n:=by simp;omega
 have hnew:w.ownsRow (fN E v) e0 k' v (es.take n).length (vs.take (n*k')):=by
  rw[CX hbv,hlen];have hvl:vs.length=es.length*k':=hown.1;have hnk:n*k'<=es.length*k':=Qq63 _ (by omega)
  refine⟨by rw[List.length_take,hvl];omega,?_⟩
  rcases hown.2 with⟨hL,h0⟩|⟨g,cap,cur,hL,hb1,hh,hnc,hcm,hcs,htake⟩
  ·left;rw[hl]at hL;injection hL with e1 e2 e3
   subst e1 e2 e3;have hn0:n=0:=by omega
   subst hn0;exact⟨hv,rfl⟩
  ·right;rw[hl]at hL;injection hL with e1 e2 e3
   subst e1 e2 e3;refine⟨g,c,cur,hv,hb1,hh,by omega,hcm,hcs,?_⟩
   rw[<-htake,List.take_take,Nat.min_eq_left hnk]
 obtain⟨h1,hs,hg⟩:=h.vR (w':=w) hN ⟨av+1,.row e0 k' (es.take n)⟩ v (.inr (by show(S.H id).av<av+1;omega)) rfl rfl rfl (QI _) (λ_ _ _=>rfl)
  (λb _ hb=> .inl ⟨hlive,by rw[<-hbv];exact hb⟩)
  (λhs hg=>⟨_,hnew,λu hu=>hk u (Q1 hu),by rw[wy k' n es hk];exact(hr.take _).mono hs hg⟩)
 refine⟨h1,?_⟩;subst hv;exact .own _ _ _ _ _ hN (by simp[St.gh]) (λ_=>by simp[St.gh])
def Rel.aeK(h:Rel E S a w L){id:Nat}{cs cs':List PV}(hid:id<S.N)(hc:(S.H id).c= .box cs)(hr:∀vs,bo w (bl E S L) (S.gh L) cs vs->bo w (bl E S L) (S.gh L) cs' vs):
  Rel E {S with H:=bU S.H id ⟨(S.H id).av,.box cs'⟩} a w L:=by
 have:=(h.vR (w':=w) hid ⟨(S.H id).av,.box cs'⟩ (L id) (.inl ⟨rfl,rfl,by rw[hc];rfl⟩) rfl rfl rfl (QI _) (λ_ _ _=>rfl) (λb _ hb=> .inl ⟨by rw[hc];rfl,hb⟩) (λhs hg=>by
  obtain⟨b,cur,T,h1,h2,h3,h4⟩:=h.rY hid hc
  exact⟨b,cur,T,h1,h2,h4,(hr _ h3).mono hs hg⟩)).1
 rwa [Hq]at this
def bo.set{M:Nat->Prop}{G:Gh}{cs:List PV}{vs:List Value}(h:bo w M G cs vs)(i:Nat)(y:PV)(hy:∀v,vs[i]?=some v->bp w M G y v):bo w M G (cs.set i y) vs:=by
 refine⟨by rw[QY];exact h.1,λj x v hx hv=> ?_⟩
 rw[List.getElem?_set]at hx;split at hx
 ·rename_i hij;subst hij;split at hx
  ·injection hx with hx;subst hx;exact hy v hv
  ·cases hx
 ·exact h.2 j x v hx hv
def Rel.afh(h:Rel E S a w L){S':St}(hH:S'.H=S.H)(hN:S'.N=S.N)(he:∀t,S'.env t=S.env t\/S'.env t= .any):Rel E S' a w L:=by
 obtain⟨env,H,N⟩:=S;obtain⟨env',H',N'⟩:=S';simp only at hH hN he;subst hH hN;refine⟨h.defers,h.size,λt=> ?_,h.obj,h.apart,h.fresh,h.fr,h.Bb,h.an⟩
 rcases he t with e|e
 ·show bp _ _ _ (env' t) _;rw[e];exact h.env t
 ·show bp _ _ _ (env' t) _;rw[e];exact .any _
end
section
variable {U : TU}
inductive Ps (U:TU) where
 |own (t e k:Nat) (T:U.Ty)
 |Dh (t:Nat)
 |Bv (t off e k:Nat) (T:U.Ty)
 |Kv (t off:Nat)
 |cut (t:Nat)
def Ps.run(S:aW U):Ps U->Option (aW U)
 | .own t e k T=>(match S.env t with
  | .eG=>some {env:=hY S.env t (.own S.N 1),H:=hY S.H S.N ⟨1,.row e k T []⟩,N:=S.N+1}
  |_=>none)
 | .Dh t=>(match S.env t with
  | .own id av=>(match S.row? id av with
   |some r=>some {env:=hY S.env t (.sl r.T r.xs),H:=hY S.H id ⟨av,.dead⟩,N:=S.N}
   |none=>none)
  |_=>none)
 | .Bv t off e k T=>(match S.env t with
  | .ptr id av _=>(match S.wL id av with
   |some cs=>(match cs[off]? with
    |some .eG=>some {env:=S.env,H:=hY (hY S.H S.N ⟨1,.row e k T []⟩) id ⟨av,.box (cs.set off (.own S.N 1))⟩,N:=S.N+1}
    |_=>none)
   |none=>none)
  |_=>none)
 | .Kv t off=>(match S.env t with
  | .ptr id av _=>(match S.wL id av with
   |some cs=>(match cs[off]? with
    |some (.own i v)=>(match S.row? i v with
     |some r=>some {env:=S.env,H:=hY (hY S.H i ⟨v,.dead⟩) id ⟨av,.box (cs.set off (.sl r.T r.xs))⟩,N:=S.N}
     |none=>none)
    |_=>none)
   |none=>none)
  |_=>none)
 | .cut t=>(match S.env t with
  | .view id av _ lo n=>(match S.row? id av with
   |some r=>(match Nat.beq lo 0 with
    |true=>some {env:=hY S.env t (.own id (av+1)),H:=hY S.H id ⟨av+1,.row r.e r.k r.T (r.xs.take n)⟩,N:=S.N}
    |false=>none)
   |none=>none)
  |_=>none)
def Ps.tmps:Ps U->List Nat
 | .own t _ _ _| .Dh t| .cut t=>[t]
 | .Bv _ _ _ _ _| .Kv _ _=>[]
def Ps.HS(S:aW U):Ps U->List Nat
 | .own _ _ _ _=>[S.N]
 | .Dh t=>(match S.env t with| .own id _=>[id]|_=>[])
 | .cut t=>(match S.env t with| .view id _ _ _ _=>[id]|_=>[])
 | .Bv t _ _ _ _=>S.N::(match S.env t with| .ptr id _ _=>[id]|_=>[])
 | .Kv t off=>(match S.env t with
  | .ptr id av _=>id::(match S.wL id av with
   |some cs=>(match cs[off]? with|some (.own i _)=>[i]|_=>[])
   |none=>[])
  |_=>[])
def Ps.sound(K:TK U){S S':aW U}{p:Ps U}(hp:p.run S=some S'){E:En}{a:Act}{w:World}{L:Nat->Value}(h:Rel E S.st a w L):∃L',Rel E S'.st a w L':=by
 cases p with
 |own t e k T=>
  simp only[Ps.run]at hp;split at hp
  ·rename_i ht;injection hp with hp
   subst hp;have h0:=h.room 1;have hf:(S.st.H S.N)=⟨0,.dead⟩:=h.fresh S.N (QI _);have hid:S.N<({S.st with N:=S.st.N+1}:St).N:=Nat.lt_succ_self S.N
   have h1:=h0.ahB hid e k;refine⟨bU L S.N (.slice none 0 0),?_⟩
   have heq:(aW.st {env:=hY S.env t (.own S.N 1),H:=hY S.H S.N ⟨1,.row e k T []⟩,N:=S.N+1}:St)={env:=bU S.st.env t (.own S.N 1),H:=bU S.st.H S.N ⟨(S.st.H S.N).av+1,.row e k []⟩,N:=S.st.N+1}:=by
    rw[hf];unfold aW.st;congr 1
    ·simp only[dO];exact pN _ _ _ _
    ·simp only[dO];exact pN _ _ _ _
   rw[heq];refine⟨h1.defers,h1.size,λj=> ?_,h1.obj,h1.apart,h1.fresh,h1.fr,h1.Bb,h1.an⟩
   show bp w _ _ (bU S.st.env t _ j) _
   by_cases hj:j=t
   ·subst hj;have h2:=h.env j;have h3:S.st.env j= .eG:=by simp only[aW.st,ht,KV.pv]
    rw[h3]at h2;rw[ct];have:=ah2 (L:=L) (S:={S.st with N:=S.st.N+1}) hid e k (w:=w) (M:=bl E {env:=S.st.env,H:=bU S.st.H S.N ⟨(S.st.H S.N).av+1,.row e k []⟩,N:=S.st.N+1} (bU L S.N (.slice none 0 0))) h2.ud
    have hv:(S.st.H S.N).av+1=1:=by rw[hf]
    simp only[hv]at this ⊢;exact this
   ·rw[c7 _ _ hj];exact h1.env j
  ·cases hp
 |Dh t=>
  simp only[Ps.run]at hp;split at hp
  ·rename_i id av ht;split at hp
   ·rename_i r hr;injection hp with hp
    subst hp;obtain⟨hv,hc⟩:=qe hr;have h2:=h.env t;have h3:S.st.env t= .own id (S.st.H id).av:=by rw[hv];simp only[aW.st,ht,KV.pv]
    rw[h3]at h2
    obtain⟨h4,h5⟩:=h.Dh h2 hc (λu hu=>by
     obtain⟨x,_,rfl⟩:=QP.1 hu
     exact QH.2 λy hy=>gM (K.ib _ _ _ hy))
    rw[hv]at h4 h5;refine⟨L,?_⟩
    have heq:(aW.st {env:=hY S.env t (.sl r.T r.xs),H:=hY S.H id ⟨av,.dead⟩,N:=S.N}:St)={env:=bU S.st.env t (.sl (r.xs.map (U.pv r.T))),H:=bU S.st.H id ⟨av,.dead⟩,N:=S.st.N}:=by
     unfold aW.st;congr 1
     ·simp only[dO];exact pN _ _ _ _
     ·simp only[dO];exact pN _ _ _ _
    rw[heq];refine⟨h4.defers,h4.size,λj=> ?_,h4.obj,h4.apart,h4.fresh,h4.fr,h4.Bb,h4.an⟩
    show bp w _ _ (bU S.st.env t _ j) _
    by_cases hj:j=t
    ·subst hj;rw[ct];exact h5
    ·rw[c7 _ _ hj];exact h4.env j
   ·cases hp
  ·cases hp
 |cut t=>
  simp only[Ps.run]at hp;split at hp
  ·rename_i id av k lo n ht;split at hp
   ·rename_i r hr;split at hp
    ·rename_i hlo;injection hp with hp
     subst hp;have hlo:=QF hlo;subst hlo;obtain⟨hv,hc⟩:=qe hr;have h2:=h.env t;have h3:S.st.env t= .view id av k 0 n:=by simp only[aW.st,ht,KV.pv]
     rw[h3]at h2;obtain⟨h4,h5⟩:=h.akI h2 hv hc;refine⟨bU L id (a.tmps.getD t undef),?_⟩
     have heq:(aW.st {env:=hY S.env t (.own id (av+1)),H:=hY S.H id ⟨av+1,.row r.e r.k r.T (r.xs.take n)⟩,N:=S.N}:St)={env:=bU S.st.env t (.own id (av+1)),H:=bU S.st.H id ⟨av+1,.row r.e r.k ((r.xs.map (U.pv r.T)).take n)⟩,N:=S.st.N}:=by
      unfold aW.st;congr 1
      ·simp only[dO];exact pN _ _ _ _
      ·simp only[dO];rw[<-List.map_take];exact pN _ _ _ _
     rw[heq];refine⟨h4.defers,h4.size,λj=> ?_,h4.obj,h4.apart,h4.fresh,h4.fr,h4.Bb,h4.an⟩
     show bp w _ _ (bU S.st.env t _ j) _
     by_cases hj:j=t
     ·subst hj;rw[ct];exact h5
     ·rw[c7 _ _ hj];exact h4.env j
    ·cases hp
   ·cases hp
  ·cases hp
 |Bv t off e k T=>
  simp only[Ps.run]at hp;split at hp
  ·rename_i id av o ht;split at hp
   ·rename_i cs hb;split at hp
    ·rename_i hcell;injection hp with hp
     subst hp;obtain⟨hv,hc⟩:=AF hb;have h3:S.st.env t= .ptr id av o:=by simp only[aW.st,ht,KV.pv]
     have hlt:id<S.N:=by have h2:=h.env t;rw[h3]at h2;exact(h2.pP (show(S.st.gh L).V id=av from hv)).1
     have h0:=h.room 1;have hf:(S.st.H S.N)=⟨0,.dead⟩:=h.fresh S.N (QI _);have hid:S.N<({S.st with N:=S.st.N+1}:St).N:=Nat.lt_succ_self S.N
     have h1:=h0.ahB hid e k;have hne:id≠S.N:=Nat.ne_of_lt hlt
     have h2:=h1.aeK (id:=id) (cs:=cs.map KV.pv) (cs':=(cs.map KV.pv).set off (.own S.N ((S.st.H S.N).av+1))) (Nat.lt_succ_of_lt hlt) (by show(bU S.st.H S.N _ id).c=_;rw[c7 _ _ hne];exact hc)
      (λvs hr=>hr.set _ _ λv hvv=>by
       have hn:(cs.map KV.pv)[off]?=some .eG:=by rw[QT,hcell];rfl
       exact ah2 (L:=L) (S:={S.st with N:=S.st.N+1}) hid e k (hr.2 off .eG v hn hvv).ud)
     refine⟨bU L S.N (.slice none 0 0),?_⟩
     have heq:(aW.st {env:=S.env,H:=hY (hY S.H S.N ⟨1,.row e k T []⟩) id ⟨av,.box (cs.set off (.own S.N 1))⟩,N:=S.N+1}:St)
       ={env:=S.st.env,H:=bU (bU S.st.H S.N ⟨(S.st.H S.N).av+1,.row e k []⟩) id ⟨(bU S.st.H S.N ⟨(S.st.H S.N).av+1,.row e k []⟩ id).av,.box ((cs.map KV.pv).set off (.own S.N ((S.st.H S.N).av+1)))⟩,N:=S.st.N+1}:=by
      rw[c7 _ _ hne,hv,hf];unfold aW.st;congr 1;simp only[dO];rw[pN,pN];simp only[dv.pv,dY.pv,List.map_set,KV.pv,QO]
     rw[heq];exact h2
    ·cases hp
   ·cases hp
  ·cases hp
 |Kv t off=>
  simp only[Ps.run]at hp;split at hp
  ·rename_i id av o ht;split at hp
   ·rename_i cs hb;split at hp
    ·rename_i i v hcell;split at hp
     ·rename_i r hr;injection hp with hp
      subst hp;obtain⟨hv,hc⟩:=AF hb;obtain⟨hv2,hc2⟩:=qe hr;have h3:S.st.env t= .ptr id av o:=by simp only[aW.st,ht,KV.pv]
      have hlt:id<S.N:=by have h2:=h.env t;rw[h3]at h2;exact(h2.pP (show(S.st.gh L).V id=av from hv)).1
      have hcell':(cs.map KV.pv)[off]?=some (.own i v):=by rw[QT,hcell];rfl
      have hili:i<S.N:=by obtain⟨b,cur,T,h5,h6,h7,h8⟩:=h.rY hlt hc;obtain⟨u,hu,hru⟩:=h7.get hcell';exact(hru.n4 (show(S.st.gh L).V i=v from hv2)).1
      have hne:id≠i:=by intro e;subst e;rw[hc]at hc2;cases hc2
      obtain⟨h4,h5⟩:=h.aip hili hc2 (λu hu=>by
       obtain⟨x,_,rfl⟩:=QP.1 hu
       exact QH.2 λy hy=>gM (K.ib _ _ _ hy))
      have h6:=h4.aeK (id:=id) (cs:=cs.map KV.pv) (cs':=(cs.map KV.pv).set off (.sl (r.xs.map (U.pv r.T)))) hlt (by show(bU S.st.H i _ id).c=_;rw[c7 _ _ hne];exact hc)
       (λvs hrr=>hrr.set _ _ λu hu=>h5 u (by
        have:=hrr.2 off _ u hcell' hu
        exact(this.n4 (show(bU S.st.H i ⟨(S.st.H i).av,.dead⟩ i).av=v by rw[ct];exact hv2)).2))
      refine⟨L,?_⟩
      have heq:(aW.st {env:=S.env,H:=hY (hY S.H i ⟨v,.dead⟩) id ⟨av,.box (cs.set off (.sl r.T r.xs))⟩,N:=S.N}:St)
        ={env:=S.st.env,H:=bU (bU S.st.H i ⟨(S.st.H i).av,.dead⟩) id ⟨(bU S.st.H i ⟨(S.st.H i).av,.dead⟩ id).av,.box ((cs.map KV.pv).set off (.sl (r.xs.map (U.pv r.T))))⟩,N:=S.st.N}:=by
       rw[c7 _ _ hne,hv,hv2];unfold aW.st;congr 1;simp only[dO];rw[pN,pN];simp only[dv.pv,dY.pv,List.map_set,KV.pv]
      rw[heq];exact h6
     ·cases hp
    ·cases hp
   ·cases hp
  ·cases hp
inductive RS (U:TU) where
 |nil
 |op (o:SG) (r:RS U)
 |ps (p:Ps U) (r:RS U)
 |C6 (t:Nat) (r:RS U)
 |ite (t:Nat) (want:Bool) (body:RS U) (d:Nat) (g:Option (Nat×Bool)) (x y:bB) (r:RS U)
def RS.flat:RS U->List SG
 | .nil=>[]
 | .op o r=>o::r.flat
 | .ps _ r| .C6 _ r=>r.flat
 | .ite t _ b d g x y r=>b.flat++⟨some d,g,.pick (.tmp t) x y⟩::r.flat
def RS.iw:RS U->List Nat
 | .nil=>[]
 | .op o r=>(match o.d with|some t=>t::r.iw|none=>r.iw)
 | .ps p r=>p.tmps++r.iw
 | .C6 _ r=>r.iw
 | .ite _ _ b d _ _ _ r=>b.iw++d::r.iw
def yE:List SG->List Nat
 |[]=>[]
 |o::l=>(match o.d with|some t=>t::yE l|none=>yE l)
def RS.len:RS U->Nat
 | .nil=>0
 | .op _ r=>r.len+1
 | .ps _ r| .C6 _ r=>r.len
 | .ite _ _ b _ _ _ _ r=>b.len+(r.len+1)
def RS.Et:∀(r:RS U),r.flat.length=r.len
 | .nil=>rfl
 | .op _ r=>by simp[RS.flat,RS.len,r.Et]
 | .ps _ r| .C6 _ r=>r.Et
 | .ite _ _ b _ _ _ _ r=>by simp[RS.flat,RS.len,b.Et,r.Et]
def iL(t:Nat):List Nat->Bool
 |[]=>false
 |x::l=>(match Nat.beq t x with|true=>true|false=>iL t l)
def eA{t:Nat}:∀{l:List Nat},iL t l=true↔t∈l
 |[]=>by simp[iL]
 |x::l=>by
  simp only[iL];split
  ·rename_i h;simp[QF h]
  ·rename_i h;rw[eA];simp[Nat.ne_of_beq_eq_false h]
def sB{t:Nat}{l:List Nat}(h:iL t l=false):t∉l:=λhm=>by rw[eA.2 hm]at h;cases h
def aaA:Bool->Bool->Bool
 |true,b=>b
 |false,true=>false
 |false,false=>true
def LH(x y:Bool):aaA x y=(x==y):=by cases x<;>cases y<;>rfl
abbrev WS:=Option (Nat×List Nat)
def okW:WS->Nat->Bool
 |none,_=>false
 |some (n,l),id=>Nat.ble n id||iL id l
def HQ(W:WS):Option (Nat×dv U)->Bool
 |none=>true
 |some (id,_)=>okW W id
def Jy(t:Nat)(want:Bool):List Nat->List SG->Bool
 |_,[]=>true
 |u,o::l=>(match o.g with
  |some (t',want')=>(Nat.beq t' t&&aaA want' want)||iL t' u
  |none=>false)&&(match o.d with
   |some d=> !Nat.beq d t&&Jy t want (d::u) l
   |none=>Jy t want u l)
variable (K : TK U)
def aao{ρ:Type}(Γ:List (dU U))(W:WS)(nid:Nat)(S:aW U)(o:SG)(k:KV U->Option (Nat×dv U)->Option ρ):Option ρ:=
 match o.g with
 |none=>gC K Γ nid S o.op λx wr=>(match HQ W wr with|true=>k x wr|false=>none)
 |some (t,want)=>match S.env t with
  | .bool b=>(match aaA b want with
   |true=>gC K Γ nid S o.op λx wr=>(match HQ W wr with|true=>k x wr|false=>none)
   |false=>k .undef none)
  | .undef=>k .undef none
  |_=>none
def aeG{ρ:Type}(Γ:List (dU U))(W:WS)(nid:Nat)(S:aW U)(o:SG)(k:aW U->Option ρ):Option ρ:=
 aao K Γ W nid S o λx wr=>k (S.cz o.d x wr)
def aeB(S:aW U)(ds:List Nat):Option (Nat×Bool)->Bool
 |none=>true
 |some (t,want)=>(match S.env t with| .bool b=>aaA b want&& !iL t ds|_=>false)
def aW.forget(S:aW U)(ds:List Nat):aW U:={env:=λt=>(match iL t ds with|true=> .any|false=>S.env t),H:=S.H,N:=S.N}
def aar:bB->Option Bool
 | .zH (.bool b)=>some b
 |_=>none
def ji(Γ:List (dU U)):RS U->{ρ:Type}->(W:WS)->(nid:Nat)->(S:aW U)->(k:aW U->Option ρ)->Option ρ
 | .nil,_,_,_,S,k=>k S
 | .op o r,_,W,nid,S,k=>aeG K Γ W nid S o λS'=>ji Γ r W (nid+1) S' k
 | .ps p r,_,W,nid,S,k=>(match(p.HS S).all (okW W)with
  |true=>(match p.run S with|some S'=>ji Γ r W nid S' k|none=>none)
  |false=>none)
 | .C6 t r,_,W,nid,S,k=>(match S.env t with
  | .bool b=>bif b then ji Γ r W nid (S.cz (some t) (.bool true) none) k else ji Γ r W nid (S.cz (some t) (.bool false) none) k
  | .undef=>ji Γ r W nid S k
  |_=>none)
 | .ite t want body d g x y r,_,W,nid,S,k=>(match S.env t with
  | .bool b=>(match aeB S body.iw g&&(Jy t want [] body.flat&& !iL t body.iw)with
   |true=>(match want with
    |true=>(match aar y with
     |some c=>(bif b then ji Γ body none nid (S.cz (some t) (.bool true) none) (λS1=>KE (x.dj S1))else some c).bind λv=>ji Γ r W (nid+(body.len+1)) ((S.forget body.iw).cz (some d) (.bool v) none) k
     |none=>none)
    |false=>(match aar x with
     |some c=>(bif b then some c else ji Γ body none nid (S.cz (some t) (.bool false) none) (λS1=>KE (y.dj S1))).bind λv=>ji Γ r W (nid+(body.len+1)) ((S.forget body.iw).cz (some d) (.bool v) none) k
     |none=>none))
   |false=>none)
  |_=>none)
structure Dj (D:List Nat) (W:WS) (S S':aW U):Prop where
 env:∀t,t∉D->S'.env t=S.env t
 H:∀id,okW W id=false->S'.H id=S.H id
 N:S.N<=S'.N
 Nn:W=none->S'.N=S.N
def Dj.refl(D:List Nat)(W:WS)(S:aW U):Dj D W S S:=⟨λ_ _=>rfl,λ_ _=>rfl,QI _,λ_=>rfl⟩
def Dj.trans{D D' D'':List Nat}{W:WS}{S S' S'':aW U}(h:Dj D W S S')(h':Dj D' W S' S'')(hd:∀t,t∉D''->t∉D/\t∉D'):Dj D'' W S S'':=
 ⟨λt ht=>(h'.env t (hd t ht).2).trans (h.env t (hd t ht).1),λid hid=>(h'.H id hid).trans (h.H id hid),QK h.N h'.N,λe=>(h'.Nn e).trans (h.Nn e)⟩
def lV(S:aW U)(d:Option Nat)(x:KV U)(wr:Option (Nat×dv U)){t:Nat}(h:d≠some t):(S.cz d x wr).env t=S.env t:=by
 cases d with
 |none=>rfl
 |some d=>simp only[aW.cz,dO];exact c7 _ _ (λe=>h (by rw[e]))
def ID(S:aW U)(d:Option Nat)(x:KV U)(wr:Option (Nat×dv U)){i:Nat}(h:wr.map (·.1)≠some i):(S.cz d x wr).H i=S.H i:=by
 cases wr with
 |none=>rfl
 |some p=>simp only[aW.cz,dO];exact c7 _ _ (λe=>h (by rw[e];rfl))
def Za(S:aW U)(W:WS)(d:Option Nat)(x:KV U)(wr:Option (Nat×dv U))(h:HQ W wr=true):Dj d.toList W S (S.cz d x wr):=by
 refine⟨λt ht=>lV _ _ _ _ (λe=>ht (by simp[e])),λid hid=>ID _ _ _ _ (λe=> ?_),QI _,λ_=>rfl⟩
 cases wr with
 |none=>cases e
 |some p=>simp only[Qe,Qf]at e;simp only[HQ]at h;rw[e,hid]at h;cases h
variable {K}
variable {P : Program}
def Rb{ρ:Type}{Γ:List (dU U)}{W:WS}{nid:Nat}{S:aW U}{o:SG}{k:KV U->Option (Nat×dv U)->Option ρ}{r:ρ}(hΓ:vq P Γ)(ho:o.op.dE=true)(h:aao K Γ W nid S o k=some r):
  ∃Γ' x wr,pD P Γ'/\CI Γ' nid S.st o=some (x.pv,wr.map kQ)/\HQ W wr=true/\k x wr=some r:=by
 have run:∀(hw:o.wanted S.st=some true),gC K Γ nid S o.op (λx wr=>(match HQ W wr with|true=>k x wr|false=>none))=some r->
   ∃Γ' x wr,pD P Γ'/\CI Γ' nid S.st o=some (x.pv,wr.map kQ)/\HQ W wr=true/\k x wr=some r:=by
  intro hw h;obtain⟨Γ',x,wr,h1,h2,h3⟩:=X3 hΓ ho h;split at h3
  ·rename_i hok;refine⟨Γ',x,wr,h1,?_,hok,h3⟩;rw[CI,hw];exact h2
  ·cases h3
 have skip:∀(hw:o.wanted S.st=some false),k .undef none=some r->
   ∃Γ' x wr,pD P Γ'/\CI Γ' nid S.st o=some (x.pv,wr.map kQ)/\HQ W wr=true/\k x wr=some r:=by
  intro hw h;refine⟨λ_=>none,.undef,none,λf m hm=>(by cases hm),?_,rfl,h⟩
  rw[CI,hw];rfl
 unfold aao at h;split at h
 ·rename_i hg;exact run (by rw[SG.wanted,hg]) h
 ·rename_i t want hg;split at h
  ·rename_i b hb;have hb':S.st.env t= .bool b:=by simp only[aW.st,hb,KV.pv]
   split at h
   ·rename_i hbw;exact run (by simp only[SG.wanted,hg,hb'];rw[LH]at hbw;rw[hbw]) h
   ·rename_i hbw;refine skip ?_ h;simp only[SG.wanted,hg,hb'];rw[LH]at hbw;rw[hbw]
  ·rename_i hb;have hb':S.st.env t= .undef:=by simp only[aW.st,hb,KV.pv]
   exact skip (by simp only[SG.wanted,hg,hb']) h
  ·cases h
def XE{ρ:Type}{Γ:List (dU U)}{W:WS}{nid:Nat}{S:aW U}{o:SG}{k:aW U->Option ρ}{r:ρ}(hΓ:vq P Γ)(ho:o.op.dE=true)(h:aeG K Γ W nid S o k=some r):
  ∃Γ' x wr,pD P Γ'/\CI Γ' nid S.st o=some (x.pv,wr.map kQ)/\HQ W wr=true/\k (S.cz o.d x wr)=some r:=Rb hΓ ho h
def ZY:pD P (λ_=>none):=λf m hm=>by cases hm
def Hv{E:En}{hs:List Nat}{ops:Array Oper}{t:Nat}{want:Bool}{Q:Exit->Act->World->Prop}{l2:List Oper}:∀(l1:List Oper) (gs:List SG) (u:List Nat) (S:St) (a:Act) (w:World) (L:Nat->Value),
  l1.mapM (wF P hs ops)=some gs->Rel E S a w L->0<S.N->(∀o∈l1,∀t,o.dst=some t->E.can t)->Jy t want u gs=true->S.env t= .bool (!want)->(∀x∈u,S.env x= .undef)->
  (∀S' a' w' L',(∀x,x∉yE gs->S'.env x=S.env x)->S'.H=S.H->S'.N=S.N->Rel E S' a' w' L'->wpListIn (WF E.rd) 0 P ops Q l2 a' w')->wpListIn (WF E.rd) 0 P ops Q (l1++l2) a w
 |[],gs,u,S,a,w,L,hm,h,hN,hd,hs,ht,hu,hk=>by simp at hm;subst hm;exact hk S a w L (λ_ _=>rfl) rfl rfl h
 |o::l1,gs,u,S,a,w,L,hm,h,hN,hd,hs,ht,hu,hk=>by
  simp only[Qq75,Qd,Qc,Option.pure_def,Qf]at hm;obtain⟨g,hg,gs',hgs,rfl⟩:=hm;simp only[Jy,Qm]at hs;obtain⟨h1,h2⟩:=hs
  have hw:g.wanted S=some false:=by
   split at h1
   ·rename_i t' want' hgg;rw[Qn,Qm]at h1;rw[SG.wanted,hgg];rcases h1 with⟨h3,h4⟩|h3
    ·rw[QF h3];rw[LH]at h4;simp only[ht];have:=eq_of_beq h4;subst this;cases want'<;>rfl
    ·simp only[hu t' (eA.1 h3)]
   ·cases h1
  have hst:ya (λ_=>none) 0 S g=some (S.cz g.d .undef none):=by rw[ya,hw]
  rw[List.cons_append];refine wpListIn_step λK hK=> ?_
  refine zw ZY hg h hN (hd o (by simp)) hst (λa' w' L' h'=>hK _ _ ?_)
  split at h2
  ·rename_i d hdd;rw[Qm]at h2;have hdt:d≠t:=λe=>by subst e;have:=h2.1;simp at this
   refine Hv l1 gs' (d::u) _ a' w' L' hgs h' hN (λo' ho'=>hd o' (by simp[ho'])) h2.2 ?_ ?_ ?_
   ·rw[hdd,St.lV _ _ _ (by simp[hdt])];exact ht
   ·intro x hx;rw[hdd]
    by_cases hxd:x=d
    ·subst hxd;exact ct _ _ _
    ·rw[St.lV _ _ _ (by simpa using λe=>hxd e.symm)]
     exact hu x ((QA.1 hx).resolve_left hxd)
   ·intro S' a' w' L' he hH hN h';refine hk S' a' w' L' (λx hx=> ?_) hH hN h'
    simp only[yE,hdd,QA,not_or]at hx;rw[he x hx.2,hdd,St.lV _ _ _ (by simpa using λe=>hx.1 e.symm)]
  ·rename_i hdd;refine Hv l1 gs' u _ a' w' L' hgs h' hN (λo' ho'=>hd o' (by simp[ho'])) h2 ?_ ?_ ?_
   ·rw[hdd];exact ht
   ·intro x hx;rw[hdd];exact hu x hx
   ·intro S' a' w' L' he hH hN h';refine hk S' a' w' L' (λx hx=> ?_) hH hN h'
    simp only[yE,hdd]at hx;rw[he x hx,hdd];rfl
def RS.dE:RS U->Bool
 | .nil=>true
 | .op o r=>o.op.dE&&r.dE
 | .ps _ r| .C6 _ r=>r.dE
 | .ite _ _ b _ _ x y r=>b.dE&&(x.dE&&y.dE)&&r.dE
def ur:∀(r:RS U) (t:Nat),t∈yE r.flat->t∈r.iw
 | .nil,t,h=>h
 | .op o r,t,h=>by
  simp only[RS.flat,yE]at h;simp only[RS.iw];split at h
  ·rcases QA.1 h with h|h
   ·exact QA.2 (.inl h)
   ·exact QA.2 (.inr (ur r t h))
  ·exact ur r t h
 | .ps p r,t,h=>Qz.2 (.inr (ur r t h))
 | .C6 _ r,t,h=>ur r t h
 | .ite t0 want b d g x y r,t,h=>by
  have cz:∀(l1 l2:List SG),t∈yE (l1++l2)->t∈yE l1\/t∈yE l2:=by
   intro l1 l2
   induction l1 with
   |nil=>exact λh=> .inr h
   |cons o l1 ih=>
    intro h;simp only[List.cons_append,yE]at h ⊢
    cases hd:o.d with
    |none=>rw[hd]at h;exact ih h
    |some e=>
     rw[hd]at h;simp only[QA]at h ⊢;rcases h with h|h
     ·exact .inl (.inl h)
     ·rcases ih h with h|h
      ·exact .inl (.inr h)
      ·exact .inr h
  simp only[RS.flat]at h;simp only[RS.iw,Qz,QA];rcases cz _ _ h with h|h
  ·exact .inl (ur b t h)
  ·simp only[yE,QA]at h;rcases h with h|h
   ·exact .inr (.inl h)
   ·exact .inr (.inr (ur r t h))
def agM{x:KV U}{b:Bool}(h:KE x=some b):x= .bool b:=by
 unfold KE at h;split at h
 ·injection h with h;rw[h]
 ·cases h
def ET{S:aW U}{t:Nat}{x:KV U}(h:S.env t=x):S.cz (some t) x none=S:=by unfold aW.cz;obtain⟨env,H,N⟩:=S;simp only at h ⊢;congr 1;rw[dO,<-h];exact Hq _ _
def Ps.frm{S S':aW U}{p:Ps U}(hp:p.run S=some S'){W:WS}(hW:(p.HS S).all (okW W)=true):Dj p.tmps W S S':=by
 have ne:∀{id id':Nat},okW W id=true->okW W id'=false->id'≠id:=λh1 h2 e=>by subst e;rw[h1]at h2;cases h2
 have hN:∀{n:Nat},okW W n=true->W≠none:=λh e=>by rw[e]at h;cases h
 cases p with
 |own t e k T=>
  simp only[Ps.run]at hp;split at hp
  ·injection hp with hp
   subst hp;simp only[Ps.HS,Qq70,List.all_nil,Bool.and_true]at hW;exact⟨λx hx=>by simp only[dO];exact c7 _ _ (by simpa[Ps.tmps]using hx),λid hid=>by simp only[dO];exact c7 _ _ (ne hW hid),Nat.le_succ _,λe=>absurd e (hN hW)⟩
  ·cases hp
 |Dh t=>
  simp only[Ps.run]at hp;split at hp
  ·rename_i id av ht;split at hp
   ·injection hp with hp
    subst hp;simp only[Ps.HS,ht,Qq70,List.all_nil,Bool.and_true]at hW;exact⟨λx hx=>by simp only[dO];exact c7 _ _ (by simpa[Ps.tmps]using hx),λid' hid=>by simp only[dO];exact c7 _ _ (ne hW hid),QI _,λ_=>rfl⟩
   ·cases hp
  ·cases hp
 |cut t=>
  simp only[Ps.run]at hp;split at hp
  ·rename_i id av k lo n ht;split at hp
   ·split at hp
    ·injection hp with hp
     subst hp;simp only[Ps.HS,ht,Qq70,List.all_nil,Bool.and_true]at hW;exact⟨λx hx=>by simp only[dO];exact c7 _ _ (by simpa[Ps.tmps]using hx),λid' hid=>by simp only[dO];exact c7 _ _ (ne hW hid),QI _,λ_=>rfl⟩
    ·cases hp
   ·cases hp
  ·cases hp
 |Bv t off e k T=>
  simp only[Ps.run]at hp;split at hp
  ·rename_i id av o ht;split at hp
   ·rename_i cs hb;split at hp
    ·injection hp with hp
     subst hp;simp only[Ps.HS,ht,Qq70,List.all_nil,Bool.and_true,Qm]at hW;exact⟨λx hx=>rfl,λid' hid=>by simp only[dO];rw[c7 _ _ (ne hW.2 hid),c7 _ _ (ne hW.1 hid)],Nat.le_succ _,λe=>absurd e (hN hW.1)⟩
    ·cases hp
   ·cases hp
  ·cases hp
 |Kv t off=>
  simp only[Ps.run]at hp;split at hp
  ·rename_i id av o ht;split at hp
   ·rename_i cs hb;split at hp
    ·rename_i i v hcell;split at hp
     ·injection hp with hp
      subst hp;simp only[Ps.HS,ht,hb,hcell,Qq70,List.all_nil,Bool.and_true,Qm]at hW;exact⟨λx hx=>rfl,λid' hid=>by simp only[dO];rw[c7 _ _ (ne hW.1 hid),c7 _ _ (ne hW.2 hid)],QI _,λ_=>rfl⟩
     ·cases hp
    ·cases hp
   ·cases hp
  ·cases hp
def Af{α β:Type}{f:α->Option β}:∀{l:List α} {r1 r2:List β},l.mapM f=some (r1++r2)->∃l1 l2,l=l1++l2/\l1.mapM f=some r1/\l2.mapM f=some r2
 |l,[],r2,h=>⟨[],l,rfl,rfl,h⟩
 |[],x::r1,r2,h=>by simp at h
 |y::l,x::r1,r2,h=>by simp only[Qq75,Qd,Qc,Option.pure_def,Qf,List.cons_append,List.cons.injEq]at h;obtain⟨z,hz,ys,hys,rfl,rfl⟩:=h;obtain⟨l1,l2,rfl,h1,h2⟩:=Af hys;exact⟨y::l1,l2,rfl,by simp[Qq75,hz,h1],h2⟩
def akN(S:aW U)(i:Nat)(o:dv U):({S with H:=hY S.H i o}:aW U).st={S.st with H:=bU S.st.H i o.pv}:=by unfold aW.st;congr 1;simp only[dO];exact pN _ _ _ _
def ad4{P:Program}{hs:List Nat}{ops:Array Oper}{o:Oper}{d:Option Nat}{s:cu}(h:wF P hs ops o=some ⟨d,none,s⟩):o.guard=none/\o.dst=d/\FH P hs o=some s:=by
 unfold wF at h;split at h
 ·cases h
 ·rename_i s' hs';split at h
  ·rename_i hg;injection h with h
   injection h with h1 h2 h3
   exact⟨hg,h1,by rw[hs',h3]⟩
  ·repeat' split at h
   all_goals first|cases h|(simp only[Qf,SG.mk.injEq,reduceCtorEq,false_and,and_false]at h)|(simp at h)
def XC{o:Oper}{p:Nat->Option Bool}(h:o.guard=none):Region.wanted o p=true:=by simp[Region.wanted,h]
def ace{P:Program}{a:Act}{w:World}{o:Oper}{f:FuncId}{args:Array Operand}{ats:Array TypeId}(hop:o.op= .call {callee:= .value (.func f),args:=args,argTypes:=ats})(hen:Enters P f):
  (execOp a.eval o).run P w= .ok (.enter f (args.toList.map a.eval).toArray) w:=by
 have ha:args.map a.eval=(args.toList.map a.eval).toArray:=by rw[<-Array.toList_map,Array.toArray_toList]
 simp[execOp,hop,resolve,Act.eval,Deferred.ofValue,invoke,ha,nB hen]
def nf{E:En}{Γ:List (dU U)}(hΓ:vq P Γ){hs:List Nat}{ops:Array Oper}{Q:Exit->Act->World->Prop}:∀(rs:RS U) {ρ:Type} (W:WS) (nid:Nat) (S:aW U) (k:aW U->Option ρ) (r:ρ) (l1 l2:List Oper) (a:Act) (w:World) (L:Nat->Value),
  rs.dE=true->l1.mapM (wF P hs ops)=some rs.flat->Rel E S.st a w L->nid+rs.len<=S.N->(∀o∈l1,∀t,o.dst=some t->E.can t)->ji K Γ rs W nid S k=some r->
  (∀S' a' w' L',Dj rs.iw W S S'->Rel E S'.st a' w' L'->k S'=some r->wpListIn (WF E.rd) 0 P ops Q l2 a' w')->wpListIn (WF E.rd) 0 P ops Q (l1++l2) a w
 | .nil,ρ,W,nid,S,k,r,l1,l2,a,w,L,hok,hm,h,hN,hd,hr,hk=>by
  have:l1=[]:=by have:=yi hm;exact Qq67 (by simpa[RS.flat]using this.symm)
  subst this;exact hk S a w L (Dj.refl _ _ _) h hr
 | .op o rs,ρ,W,nid,S,k,r,l1,l2,a,w,L,hok,hm,h,hN,hd,hr,hk=>by
  simp only[RS.dE,Qm]at hok
  cases l1 with
  |nil=>simp[RS.flat]at hm
  |cons p l1=>
  simp only[RS.flat,Qq75,Qd,Qc,Option.pure_def,Qf,List.cons.injEq]at hm;obtain⟨g,hg,gs',hgs,rfl,rfl⟩:=hm;simp only[RS.len]at hN;obtain⟨Γ',x,wr,hΓ',he,hwr,hr'⟩:=XE hΓ hok.1 hr;have hst:ya Γ' nid S.st g=some (S.cz g.d x wr).st:=by rw[Yi,he,Gy];rfl
  rw[List.cons_append];refine wpListIn_step λK hK=> ?_
  refine zw hΓ' hg h (show nid<S.N by omega) (hd p (by simp)) hst (λa' w' L' h'=>hK _ _ ?_)
  refine nf hΓ rs W (nid+1) _ k r l1 l2 a' w' L' hok.2 hgs h' (by show _<=S.N;omega) (λo' ho'=>hd o' (by simp[ho'])) hr' (λS' a' w' L' hf h' hk'=>hk S' a' w' L' ?_ h' hk')
  refine(Za S W g.d x wr hwr).trans hf λt ht=> ?_
  simp only[RS.iw]at ht
  cases hdd:g.d with
  |none=>rw[hdd]at ht;exact⟨by simp,ht⟩
  |some d=>rw[hdd]at ht;simp only[QA,not_or]at ht;exact⟨by simpa using λe=>ht.1 e,ht.2⟩
 | .ps p rs,ρ,W,nid,S,k,r,l1,l2,a,w,L,hok,hm,h,hN,hd,hr,hk=>by
  simp only[ji]at hr;split at hr
  ·rename_i hW;split at hr
   ·rename_i S1 hp;obtain⟨L1,h1⟩:=Ps.sound K hp h;have hf:=Ps.frm hp hW;refine nf hΓ rs W nid S1 k r l1 l2 a w L1 hok hm h1 (QK hN hf.N) hd hr (λS' a' w' L' hf' h' hk'=>hk S' a' w' L' (hf.trans hf' λt ht=> ?_) h' hk')
    simp only[RS.iw,Qz,not_or]at ht;exact ht
   ·cases hr
  ·cases hr
 | .C6 t rs,ρ,W,nid,S,k,r,l1,l2,a,w,L,hok,hm,h,hN,hd,hr,hk=>by
  simp only[ji]at hr;split at hr
  ·rename_i b hb
   cases b with
   |true=>rw[Qk,ET hb]at hr;exact nf hΓ rs W nid S k r l1 l2 a w L hok hm h hN hd hr hk
   |false=>rw[Ql,ET hb]at hr;exact nf hΓ rs W nid S k r l1 l2 a w L hok hm h hN hd hr hk
  ·exact nf hΓ rs W nid S k r l1 l2 a w L hok hm h hN hd hr hk
  ·cases hr
 | .ite t want body d g x y rs,ρ,W,nid,S,k,r,l1,l2,a,w,L,hok,hm,h,hN,hd,hr,hk=>by
  simp only[RS.dE,Qm]at hok;obtain⟨⟨hokb,hokx,hoky⟩,hokr⟩:=hok;simp only[RS.flat]at hm;obtain⟨lb,lr,rfl,hmb,hmr⟩:=Af hm
  cases lr with
  |nil=>simp at hmr
  |cons p lr=>
  simp only[Qq75,Qd,Qc,Option.pure_def,Qf,List.cons.injEq]at hmr;obtain⟨pg,hpg,gs',hgs,rfl,rfl⟩:=hmr;simp only[RS.len]at hN;simp only[ji]at hr;split at hr
  ·rename_i b hb;split at hr
   ·rename_i hchk;simp only[Qm,Bool.not_eq_true']at hchk;obtain⟨hwant,hskip,htd⟩:=hchk;have htd:=sB htd
    have fin:∀(v:Bool) (S1:St) (a1:Act) (w1:World) (L1:Nat->Value),(∀x,x∉body.iw->S1.env x=S.st.env x)->S1.H=S.st.H->S1.N=S.st.N->Rel E S1 a1 w1 L1->
      (if b then x else y).val S1= .bool v->ji K Γ rs W (nid+(body.len+1)) ((S.forget body.iw).cz (some d) (.bool v) none) k=some r->wpListIn (WF E.rd) 0 P ops Q (p::(lr++l2)) a1 w1:=by
     intro v S1 a1 w1 L1 he hH hN1 h1 hv hr1
     have hpw:(⟨some d,g,.pick (.tmp t) x y⟩:SG).wanted S1=some true:=by
      rw[SG.wanted]
      cases g with
      |none=>rfl
      |some q=>
       obtain⟨t',want'⟩:=q;simp only[aeB]at hwant;split at hwant
       ·rename_i b' hb';simp only[Qm,Bool.not_eq_true']at hwant;have:S1.env t'= .bool b':=by rw[he t' (sB hwant.2)];simp only[aW.st,hb',KV.pv]
        simp only[this];rw[LH]at hwant;rw[hwant.1]
       ·cases hwant
     have hbt:S1.env t= .bool b:=by rw[he t htd];simp only[aW.st,hb,KV.pv]
     have hst:ya (λ_=>none) nid S1 ⟨some d,g,.pick (.tmp t) x y⟩=some (S1.cz (some d) (.bool v) none):=by
      rw[ya,hpw];have hbt':(bB.tmp t).val S1= .bool b:=hbt;simp only[exec,hbt']
      cases b with
      |true=>simp only[Qt]at hv;simp only[hv];rfl
      |false=>simp only[Qq,Qu]at hv;simp only[hv];rfl
     refine wpListIn_step λKK hKK=> ?_
     refine zw ZY hpg h1 (show nid<S1.N by rw[hN1];show nid<S.N;omega) (hd p (by simp)) hst (λa' w' L' h'=>hKK _ _ ?_)
     have h2:Rel E ((S.forget body.iw).cz (some d) (.bool v) none).st a' w' L':=by
      refine h'.afh (by rw[Gy];exact hH.symm) (by rw[Gy];exact hN1.symm) λt'=> ?_
      rw[Gy]
      by_cases htd':t'=d
      ·subst htd';left;rw[show(S1.cz (some t') (.bool v) none).env t'= .bool v from ct _ _ _]
       exact ct _ _ _
      ·rw[St.lV _ _ _ (by simpa using λe=>htd' e.symm),St.lV _ _ _ (by simpa using λe=>htd' e.symm)]
       cases hmm:iL t' body.iw with
       |true=>right;simp only[aW.st,aW.forget,hmm,KV.pv]
       |false=>left;simp only[aW.st,aW.forget,hmm];exact(he t' (sB hmm)).symm
     refine nf hΓ rs W (nid+(body.len+1)) _ k r lr l2 a' w' L' hokr hgs h2 (by show _<=S.N;omega) (λo' ho'=>hd o' (by simp[ho'])) hr1 (λS' a' w' L' hf h' hk'=>hk S' a' w' L' ?_ h' hk')
     refine Dj.trans (S':=(S.forget body.iw).cz (some d) (.bool v) none) (D:=body.iw++[d]) ⟨λt' ht'=> ?_,λid _=>rfl,QI _,λ_=>rfl⟩ hf λt' ht'=> ?_
     ·simp only[Qz,Q5,not_or]at ht';rw[lV _ _ _ _ (by simpa using λe=>ht'.2 e.symm)]
      have:iL t' body.iw=false:=by
       cases hmm:iL t' body.iw with
       |true=>exact absurd (eA.1 hmm) ht'.1
       |false=>rfl
      simp only[aW.forget,this]
     ·simp only[RS.iw,Qz,QA,not_or]at ht';exact⟨by simp[ht'.1,ht'.2.1],ht'.2.2⟩
    have body_run:∀(z:bB) (v:Bool),b=want->z.dE=true->z=(if b then x else y)->ji K Γ body none nid (S.cz (some t) (.bool b) none) (λS1=>KE (z.dj S1))=some v->
      ji K Γ rs W (nid+(body.len+1)) ((S.forget body.iw).cz (some d) (.bool v) none) k=some r->wpListIn (WF E.rd) 0 P ops Q (lb++p::(lr++l2)) a w:=by
     intro z v _ hz hzz Df hrr;rw[ET hb]at Df;refine nf hΓ body none nid S _ v lb _ a w L hokb hmb h (by omega) (λo' ho'=>hd o' (by simp[ho'])) Df (λS' a' w' L' hf h' hk'=> ?_)
     have hH:S'.H=S.H:=funext λid=>hf.H id rfl
     have hNN:S'.N=S.N:=hf.Nn rfl;refine fin v S'.st a' w' L' (λx' hx'=>by simp only[aW.st,hf.env x' hx']) (by simp only[aW.st,hH]) hNN h' ?_ hrr
     rw[<-hzz,vb hz,agM hk'];rfl
    have body_skip:∀(c:Bool),b= !want->(if b then x else y)= .zH (.bool c)->ji K Γ rs W (nid+(body.len+1)) ((S.forget body.iw).cz (some d) (.bool c) none) k=some r->wpListIn (WF E.rd) 0 P ops Q (lb++p::(lr++l2)) a w:=by
     intro c hbw hc hrr;refine Hv lb _ [] S.st a w L hmb h (show 0<S.N by omega) (λo' ho'=>hd o' (by simp[ho'])) hskip ?_ (by simp) (λS' a' w' L' he hH hN' h'=> ?_)
     ·simp only[aW.st,hb,KV.pv,hbw]
     ·refine fin c S' a' w' L' (λx' hx'=>he x' λhmem=>hx' (ur _ _ hmem)) hH hN' h' ?_ hrr
      rw[hc];rfl
    rw[QL,List.cons_append];split at hr
    ·split at hr
     ·rename_i c hc
      have hy:y= .zH (.bool c):=by
       unfold aar at hc;split at hc
       ·injection hc with hc;rw[hc]
       ·cases hc
      rw[Qc]at hr;obtain⟨v,hv,hr⟩:=hr
      cases b with
      |true=>exact body_run x v rfl hokx (by simp) hv hr
      |false=>
       rw[Ql]at hv;injection hv with hv
       subst hv;exact body_skip c rfl (by simpa using hy) hr
     ·cases hr
    ·split at hr
     ·rename_i c hc
      have hx:x= .zH (.bool c):=by
       unfold aar at hc;split at hc
       ·injection hc with hc;rw[hc]
       ·cases hc
      rw[Qc]at hr;obtain⟨v,hv,hr⟩:=hr
      cases b with
      |false=>exact body_run y v rfl hoky (by simp) hv hr
      |true=>
       rw[Qk]at hv;injection hv with hv
       subst hv;exact body_skip c rfl (by simpa using hx) hr
     ·cases hr
   ·cases hr
  ·cases hr
end
end
section
open Go.RowKit
def PV.wa(p:Nat->Bool):PV->Bool
 | .own id _| .ptr id _ _| .fh id _ _ _ _| .view id _ _ _ _=>p id
 | .agg _| .eN _| .bI _ _| .jz _ _=>false
 |_=>true
def PV.qf(p:Nat->Bool):PV->Bool
 | .agg cs| .eN cs| .bI _ cs| .jz _ cs=>cs.all (PV.wa p)
 |x=>x.wa p
section
variable {w : World}
def bp.wa{p:Nat->Bool}{M M':Nat->Prop}{G G':Gh}{x:PV}{v:Value}(hx:x.wa p=true)(hM:∀b,M' b->M b)(hp:∀id,p id=true->id<G'.N/\G'.V id=G.V id/\G'.L id=G.L id)(h:bp w M G x v):bp w M' G' x v:=by
 have hs:cZ w w M M':=(cZ.of λ_ hm=>λh'=>hm (hM _ h'))
 cases h with
 |any=>exact .any _
 |undef=>exact .undef
 |int=>exact .int _ _
 |bool=>exact .bool _
 |gL=>exact .gL _
 |str=>exact .str _
 |lL=>exact .lL
 |eG=>exact .eG
 |bI|jz|agg|eN=>simp[PV.wa]at hx
 |ptr id av off a hN hVe h=>obtain⟨h1,h2,h3⟩:=hp id hx;exact .ptr _ _ _ _ h1 (by rw[h2];exact hVe) (λe=>by rw[h3];exact h (by rw[e,h2]))
 |ref cs ad vs hl hcell h=>exact .ref cs ad vs hl (λi u hu=>⟨(hcell i u hu).1,λh'=>(hcell i u hu).2 (hM _ h')⟩) (λi p u hp hu=>(h i p u hp hu).mono hs (Gh.le.refl _))
 |sl es ad c k vs hk hl hcell h hn hm=>exact .sl es ad c k vs hk hl (λi u hu=>⟨(hcell i u hu).1,λh'=>(hcell i u hu).2 (hM _ h')⟩) (λi p u hp hu=>(h i p u hp hu).mono hs (Gh.le.refl _)) hn hm
 |slnil=>exact .slnil
 |own id av a n c hN hVe h=>obtain⟨h1,h2,h3⟩:=hp id hx;exact .own _ _ _ _ _ h1 (by rw[h2];exact hVe) (λe=>by rw[h3];exact h (by rw[e,h2]))
 |fh id av k i off a hN hVe h=>obtain⟨h1,h2,h3⟩:=hp id hx;exact .fh _ _ _ _ _ _ h1 (by rw[h2];exact hVe) (λe=>by rw[h3];exact h (by rw[e,h2]))
 |view id av k lo n a c hN hVe h=>obtain⟨h1,h2,h3⟩:=hp id hx;exact .view _ _ _ _ _ _ _ h1 (by rw[h2];exact hVe) (λe=>by rw[h3];exact h (by rw[e,h2]))
 |jQ ks us b es ck hb hMb hk hv g1 g2=>exact .jQ ks us b es ck hb (λh'=>hMb (hM _ h')) hk hv (λi p e hp he=>(g1 i p e hp he).mono hs (Gh.le.refl _)) (λi p e hp he=>(g2 i p e hp he).mono hs (Gh.le.refl _))
def bp.qf{p:Nat->Bool}{M M':Nat->Prop}{G G':Gh}{x:PV}{v:Value}(hx:x.qf p=true)(hM:∀b,M' b->M b)(hp:∀id,p id=true->id<G'.N/\G'.V id=G.V id/\G'.L id=G.L id)(h:bp w M G x v):bp w M' G' x v:=by
 have go:∀{cs:List PV} {vs:List Value},cs.all (PV.wa p)=true->bo w M G cs vs->bo w M' G' cs vs:=λhc h=>⟨h.1,λi y v hy hv=>(h.2 i y v hy hv).wa (QH.1 hc y (Q8 hy)) hM hp⟩
 cases x with
 |agg cs=>obtain⟨vs,rfl,hr⟩:=h.tu;have:=go (by simpa[PV.qf]using hx) hr;exact .agg _ _ this.1 this.2
 |eN cs=>obtain⟨vs,rfl,hr⟩:=h.Gv;have:=go (by simpa[PV.qf]using hx) hr;exact .eN _ _ this.1 this.2
 |bI f cs=>obtain⟨vs,rfl,hr⟩:=h.xk;have:=go (by simpa[PV.qf]using hx) hr;exact .bI _ _ _ this.1 this.2
 |jz f cs=>obtain⟨vs,rfl,hr⟩:=h.SY;have:=go (by simpa[PV.qf]using hx) hr;exact .jz _ _ _ this.1 this.2
 |_=>exact h.wa (by simpa[PV.qf]using hx) hM hp
end
section
variable {U : TU}
def KV.wa(p:Nat->Bool):KV U->Bool
 | .own id _| .ptr id _ _| .fh id _ _ _ _| .view id _ _ _ _=>p id
 | .agg _| .eN _| .bI _ _| .jz _ _=>false
 |_=>true
def KV.qf(p:Nat->Bool):KV U->Bool
 | .agg cs| .eN cs| .bI _ cs| .jz _ cs=>cs.all (KV.wa p)
 |x=>x.wa p
def ah6(p:Nat->Bool)(x:KV U):x.pv.wa p=x.wa p:=by cases x<;>simp[KV.pv,PV.wa,KV.wa]
def aaH(p:Nat->Bool)(l:List (KV U)):(l.map KV.pv).all (PV.wa p)=l.all (KV.wa p):=by
 induction l with
 |nil=>rfl
 |cons x l ih=>simp only[QD,Qq70,ah6,ih]
def O6(p:Nat->Bool)(x:KV U):x.pv.qf p=x.qf p:=by
 cases x with
 |agg cs|eN cs|bI f cs|jz f cs=>simp only[KV.pv,PV.qf,KV.qf,KV.c9];exact aaH p cs
 |_=>simp[KV.pv,PV.qf,KV.qf,PV.wa,KV.wa]
def dY.qf(p:Nat->Bool):dY U->Bool
 | .dead=>true
 | .box cs=>cs.all (KV.qf p)
 | .row _ _ _ _=>true
 | .raw _ _ es=>es.all λc=>c.all (KV.qf p)
inductive It (U:TU) where
 |val (t:Nat) (T:U.Ty)
 |own (t id av e k:Nat) (T:U.Ty)
 |box (id av:Nat) (T:U.Ty) (m:List (Nat×Nat×Nat))
 |eL (id av e k:Nat) (T:U.Ty)
@[reducible] def It.den:It U->Type
 | .val _ T=>U.den T
 | .own _ _ _ _ _ T=>List (U.den T)
 | .box _ _ T _=>U.den T
 | .eL _ _ _ _ T=>List (U.den T)
@[reducible] def uz:List (It U)->Type
 |[]=>Unit
 |i::l=>i.den×uz l
def D6:List (Nat×Nat×Nat)->List (KV U)->List (KV U)
 |[],cs=>cs
 |(off,_,_)::m,cs=>D6 m (cs.set off .eG)
def Ec:List (Nat×Nat×Nat)->List (KV U)->List (KV U)
 |[],cs=>cs
 |(off,id,av)::m,cs=>(Ec m cs).set off (.own id av)
def J3(S:aW U)(cs:List (KV U)):List (Nat×Nat×Nat)->Bool
 |[]=>true
 |(off,id,_)::m=>(match cs[off]? with|some (.own i v)=>Nat.beq i id&&Nat.beq v (S.H id).av|_=>false)&&J3 S cs m
def OF(cs:List (KV U)):∀(m:List (Nat×Nat×Nat)),(Ec m cs).length=cs.length
 |[]=>rfl
 |(off,id,av)::m=>by rw[Ec,QY,OF cs m]
def Hr:∀(m:List (Nat×Nat×Nat)) (cs:List (KV U)),(D6 m cs).length=cs.length
 |[],_=>rfl
 |(off,id,av)::m,cs=>by rw[D6,Hr m,QY]
def OG(cs:List (KV U)){i:Nat}{y:KV U}:∀(m:List (Nat×Nat×Nat)),(Ec m cs)[i]?=some y->(∃id av,(i,id,av)∈m/\y= .own id av)\/((∀q∈m,q.1≠i)/\cs[i]?=some y)
 |[],h=> .inr ⟨by simp,h⟩
 |(off,id,av)::m,h=>by
  rw[Ec,List.getElem?_set]at h;split at h
  ·rename_i e;subst e;split at h
   ·injection h with h
    exact .inl ⟨id,av,Qx,h.symm⟩
   ·cases h
  ·rename_i e;rcases OG cs m h with⟨a,b,h1,h2⟩|⟨h1,h2⟩
   ·exact .inl ⟨a,b,Qy _ h1,h2⟩
   ·refine .inr ⟨λq hq=> ?_,h2⟩
    rcases QA.1 hq with rfl|hq
    ·exact e
    ·exact h1 q hq
def Of{i:Nat}:∀(m:List (Nat×Nat×Nat)) (cs:List (KV U)),(∀q∈m,q.1≠i)->(D6 m cs)[i]?=cs[i]?
 |[],_,_=>rfl
 |(off,id,av)::m,cs,h=>by rw[D6,Of m _ λq hq=>h q (Qy _ hq),List.getElem?_set,Qs (h _ Qx)]
def Pd{S:aW U}{cs:List (KV U)}{off id av:Nat}:∀{m:List (Nat×Nat×Nat)},J3 S cs m=true->(off,id,av)∈m->cs[off]?=some (.own id (S.H id).av)
 |[],_,h=>by cases h
 |(o,i,v)::m,hm,h=>by
  rw[J3,Qm]at hm;rcases QA.1 h with e|h
  ·injection e with e1 e2
   injection e2 with e2 e3
   subst e1 e2 e3;have h1:=hm.1;split at h1
   ·rename_i i' v' hc;rw[Qm]at h1;rw[hc,QF h1.1,QF h1.2]
   ·cases h1
  ·exact Pd hm.2 h
variable (K : TK U)
def YN(S:aW U):(i:It U)->Option i.den
 | .val t T=>Ff K td T (S.env t)
 | .own t id av e k T=>(match S.env t with
  | .own id' v=>(match Nat.beq id' id with
   |true=>(match S.row? id' v with
    |some r=>(match Nat.beq r.e e&&Nat.beq r.k k&&(Nat.blt 0 av||Nat.beq v 0)with|true=>yG r.T T r.xs|false=>none)
    |none=>none)
   |false=>none)
  |_=>none)
 | .box id av T m=>(match S.wL id av with
  |some cs=>(match J3 S cs m with|true=>K.dec T td (D6 m cs)|false=>none)
  |none=>none)
 | .eL id av e k T=>(match(S.H id).c with
  | .row e' k' T' xs=>(match Nat.beq e' e&&Nat.beq k' k&&(Nat.blt 0 av||Nat.beq (S.H id).av 0)with|true=>yG T' T xs|false=>none)
  |_=>none)
def pack(S:aW U):(l:List (It U))->Option (uz l)
 |[]=>some ()
 |i::l=>(match YN K S i with
  |some v=>(match pack S l with|some vs=>some (v,vs)|none=>none)
  |none=>none)
def FX(S:aW U):(i:It U)->i.den->aW U
 | .val t T,v=>{env:=hY S.env t (Bm K T v),H:=S.H,N:=S.N}
 | .own t id av e k T,xs=>{env:=hY S.env t (.own id av),H:=hY S.H id ⟨av,.row e k T xs⟩,N:=S.N}
 | .box id av T m,v=>{env:=S.env,H:=hY S.H id ⟨av,.box (Ec m (K.gn T v))⟩,N:=S.N}
 | .eL id av e k T,xs=>{env:=S.env,H:=hY S.H id ⟨av,.row e k T xs⟩,N:=S.N}
def w9(S:aW U):(l:List (It U))->uz l->aW U
 |[],_=>S
 |i::l,v=>FX K (w9 S l v.2) i v.1
structure JS (U:TU) where
 items:List (It U)
 eO:List Nat
def aW.base(S:aW U)(eO:List Nat):aW U:=
 {env:=λt=>(match iL t eO with|true=>S.env t|false=> .any),H:=λid=>(match Nat.blt id S.N with|true=>S.H id|false=>⟨0,.dead⟩),N:=S.N}
def unpack(S:aW U)(J:JS U)(v:uz J.items):aW U:=w9 K (S.base J.eO) J.items v
def It.aK:It U->Option Nat
 | .val t _| .own t _ _ _ _ _=>some t
 | .box _ _ _ _| .eL _ _ _ _ _=>none
def It.id:It U->Option Nat
 | .val _ _=>none
 | .own _ id _ _ _ _| .box id _ _ _| .eL id _ _ _ _=>some id
def It.okv:It U->Bool
 | .own _ _ _ _ _ _| .eL _ _ _ _ _=>true
 |_=>true
def It.row:It U->Option Nat
 | .own _ id av _ _ _| .eL id av _ _ _=>(match av with|0=>none|_+1=>some id)
 |_=>none
def It.isRow(id av:Nat):It U->Bool
 | .eL id' ver' _ _ _| .own _ id' ver' _ _ _=>Nat.beq id' id&&Nat.beq ver' av
 |_=>false
def PY(id av:Nat):List (It U)->Bool
 |[]=>false
 |i::l=>i.isRow id av||PY id av l
def It.okm(l:List (It U)):It U->Bool
 | .box _ _ _ m=>m.all λq=>PY q.2.1 q.2.2 l
 |_=>true
def PX{id av:Nat}:∀{l:List (It U)},PY id av l=true->(∃e k T,(It.eL id av e k T)∈l)\/∃t e k T,(It.own t id av e k T)∈l
 |[],h=>by cases h
 |i::l,h=>by
  rw[PY,Qn]at h;rcases h with h|h
  ·cases i with
   |eL id' ver' e k T=>simp only[It.isRow,Qm]at h;rw[QF h.1,QF h.2];exact .inl ⟨e,k,T,Qx⟩
   |own t id' ver' e k T=>simp only[It.isRow,Qm]at h;rw[QF h.1,QF h.2];exact .inr ⟨t,e,k,T,Qx⟩
   |_=>cases h
  ·rcases PX h with⟨e,k,T,h⟩|⟨t,e,k,T,h⟩
   ·exact .inl ⟨e,k,T,Qy _ h⟩
   ·exact .inr ⟨t,e,k,T,Qy _ h⟩
def fK:List (It U)->List Nat
 |[]=>[]
 |i::l=>(match i.id with|some id=>id::fK l|none=>fK l)
def rowsOf:List (It U)->List Nat
 |[]=>[]
 |i::l=>(match i.row with|some id=>id::rowsOf l|none=>rowsOf l)
def slotsOf:List (It U)->List Nat
 |[]=>[]
 |i::l=>(match i.aK with|some id=>id::slotsOf l|none=>slotsOf l)
def Ad:List Nat->Bool
 |[]=>true
 |x::l=> !iL x l&&Ad l
def He:Nat->(Nat->Bool)->Bool
 |0,_=>true
 |n+1,p=>He n p&&p n
def DN{p:Nat->Bool}:∀{n:Nat},He n p=true->∀i,i<n->p i=true
 |0,_,i,hi=>absurd hi (Nat.not_lt_zero _)
 |n+1,h,i,hi=>by
  simp only[He,Qm]at h
  by_cases e:i=n
  ·rw[e];exact h.2
  ·exact DN h.1 i (by omega)
def wJ(S:aW U)(J:JS U)(F:List Nat)(W:WS):Bool:=
 let ids:=fK J.items
 let rows:=rowsOf J.items
 let p:=λid=>Nat.blt id S.N&& !iL id rows
 Ad ids&&ids.all (λid=>Nat.blt id S.N&&okW W id)&&(J.items.all It.okv&&J.items.all (It.okm J.items))&&J.eO.all (λt=>(S.env t).qf p&& !iL t (slotsOf J.items))&&He S.N (λid=>iL id ids||(S.H id).c.qf p)
  &&F.all (λt=>iL t J.eO)&&(match W with|some (n,_)=>Nat.ble n S.N|none=>false)
def Ac:(l:List (It U))->uz l->List (Sigma (It.den (U:=U)))
 |[],_=>[]
 |i::l,v=>⟨i,v.1⟩::Ac l v.2
variable {K}
def OU{S:aW U}:∀{l:List (It U)} {v:uz l},pack K S l=some v->∀p∈Ac l v,YN K S p.1=some p.2
 |[],v,h,p,hp=>by cases hp
 |i::l,v,h,p,hp=>by
  rw[pack]at h;split at h
  ·rename_i v1 h1;split at h
   ·rename_i vs h2;injection h with h
    subst h;rcases QA.1 hp with rfl|hp
    ·exact h1
    ·exact OU h2 p hp
   ·cases h
  ·cases h
def kvI:(i:It U)->i.den->KV U
 | .val _ T,v=>Bm K T v
 | .own _ id av _ _ _,_=> .own id av
 | .box _ _ _ _,_| .eL _ _ _ _ _,_=> .any
def VJ:(i:It U)->i.den->dv U
 | .val _ _,_=>⟨0,.dead⟩
 | .own _ _ av e k T,xs=>⟨av,.row e k T xs⟩
 | .box _ av T m,v=>⟨av,.box (Ec m (K.gn T v))⟩
 | .eL _ av e k T,xs=>⟨av,.row e k T xs⟩
def adn(S:aW U)(i:It U)(v:i.den)(t:Nat):(i.aK=some t/\(FX K S i v).env t=kvI (K:=K) i v)\/(i.aK≠some t/\(FX K S i v).env t=S.env t):=by
 cases i with
 |val t' T|own t' id av ee k T=>
  by_cases e:t'=t
  ·subst e;left;exact⟨rfl,by simp only[FX,dO];exact ct _ _ _⟩
  ·right;exact⟨by simpa[It.aK]using e,by simp only[FX,dO];exact c7 _ _ (λh=>e h.symm)⟩
 |box id av T m|eL id av e k T=>right;exact⟨by simp[It.aK],rfl⟩
def VB(S:aW U)(i:It U)(v:i.den)(id:Nat):(i.id=some id/\(FX K S i v).H id=VJ (K:=K) i v)\/(i.id≠some id/\(FX K S i v).H id=S.H id):=by
 cases i with
 |val t' T=>right;exact⟨by simp[It.id],rfl⟩
 |own t' id' av ee k T|box id' av T m|eL id' av ee k T=>
  by_cases e:id'=id
  ·subst e;left;exact⟨rfl,by simp only[FX,dO];exact ct _ _ _⟩
  ·right;exact⟨by simpa[It.id]using e,by simp only[FX,dO];exact c7 _ _ (λh=>e h.symm)⟩
def ahN(S:aW U)(i:It U)(v:i.den):(FX K S i v).N=S.N:=by cases i<;>rfl
def GF(S:aW U):∀(l:List (It U)) (v:uz l),(w9 K S l v).N=S.N
 |[],_=>rfl
 |i::l,v=>by rw[w9,ahN,GF S l]
def u9{id:Nat}:∀{l:List (It U)} {i:It U},i∈l->i.id=some id->id∈fK l
 |j::l,i,hi,h=>by
  simp only[fK];rcases QA.1 hi with rfl|hi
  ·rw[h];exact Qx
  ·have:=u9 hi h;split
   ·exact Qy _ this
   ·exact this
def Nr{id:Nat}:∀{l:List (It U)} {i:It U},i∈l->i.row=some id->id∈rowsOf l
 |j::l,i,hi,h=>by
  simp only[rowsOf];rcases QA.1 hi with rfl|hi
  ·rw[h];exact Qx
  ·have:=Nr hi h;split
   ·exact Qy _ this
   ·exact this
def Fu{id:Nat}:∀{l:List (It U)} {i:It U},i∈l->i.aK=some id->id∈slotsOf l
 |j::l,i,hi,h=>by
  simp only[slotsOf];rcases QA.1 hi with rfl|hi
  ·rw[h];exact Qx
  ·have:=Fu hi h;split
   ·exact Qy _ this
   ·exact this
def lR:∀{l:List (It U)} {v:uz l} {p:Sigma (It.den (U:=U))},p∈Ac l v->p.1∈l
 |i::l,v,p,hp=>by
  rcases QA.1 hp with rfl|hp
  ·exact Qx
  ·exact Qy _ (lR hp)
def Ns:∀{l:List (It U)} {v:uz l} {i:It U},i∈l->∃d,(⟨i,d⟩:Sigma (It.den (U:=U)))∈Ac l v
 |j::l,v,i,hi=>by
  rcases QA.1 hi with rfl|hi
  ·exact⟨v.1,Qx⟩
  ·obtain⟨d,hd⟩:=Ns (v:=v.2) hi;exact⟨d,Qy _ hd⟩
def Cp(S:aW U):∀(l:List (It U)) (v:uz l) (t:Nat),(∃p∈Ac l v,p.1.aK=some t/\(w9 K S l v).env t=kvI (K:=K) p.1 p.2)\/(t∉slotsOf l/\(w9 K S l v).env t=S.env t)
 |[],v,t=> .inr ⟨by simp[slotsOf],rfl⟩
 |i::l,v,t=>by
  rcases adn (K:=K) (w9 K S l v.2) i v.1 t with⟨h1,h2⟩|⟨h1,h2⟩
  ·exact .inl ⟨⟨i,v.1⟩,Qx,h1,h2⟩
  ·rcases Cp S l v.2 t with⟨p,hp,h3,h4⟩|⟨h3,h4⟩
   ·exact .inl ⟨p,Qy _ hp,h3,h2.trans h4⟩
   ·refine .inr ⟨?_,h2.trans h4⟩;simp only[slotsOf];split
    ·rename_i s hs;simp only[QA,not_or];exact⟨λe=>h1 (by rw[hs,e]),h3⟩
    ·exact h3
def GG(S:aW U):∀(l:List (It U)) (v:uz l) (id:Nat),Ad (fK l)=true->(∃p∈Ac l v,p.1.id=some id/\(w9 K S l v).H id=VJ (K:=K) p.1 p.2)\/(id∉fK l/\(w9 K S l v).H id=S.H id)
 |[],v,t,_=> .inr ⟨by simp[fK],rfl⟩
 |i::l,v,id,hn=>by
  have hn':Ad (fK l)=true:=by
   simp only[fK]at hn;split at hn
   ·simp only[Ad,Qm]at hn;exact hn.2
   ·exact hn
  rcases VB (K:=K) (w9 K S l v.2) i v.1 id with⟨h1,h2⟩|⟨h1,h2⟩
  ·exact .inl ⟨⟨i,v.1⟩,Qx,h1,h2⟩
  ·rcases GG S l v.2 id hn' with⟨p,hp,h3,h4⟩|⟨h3,h4⟩
   ·exact .inl ⟨p,Qy _ hp,h3,h2.trans h4⟩
   ·refine .inr ⟨?_,h2.trans h4⟩;simp only[fK];split
    ·rename_i s hs;simp only[QA,not_or];exact⟨λe=>h1 (by rw[hs,e]),h3⟩
    ·exact h3
def Fs(S:aW U):∀(l:List (It U)) (v:uz l),Ad (fK l)=true->∀p∈Ac l v,∀id,p.1.id=some id->(w9 K S l v).H id=VJ (K:=K) p.1 p.2
 |[],v,_,p,hp=>by cases hp
 |i::l,v,hn,p,hp=>by
  intro id hid
  have hn':Ad (fK l)=true:=by
   simp only[fK]at hn;split at hn
   ·simp only[Ad,Qm]at hn;exact hn.2
   ·exact hn
  rcases QA.1 hp with rfl|hp
  ·rcases VB (K:=K) (w9 K S l v.2) i v.1 id with⟨h1,h2⟩|⟨h1,h2⟩
   ·exact h2
   ·exact absurd hid h1
  ·rcases VB (K:=K) (w9 K S l v.2) i v.1 id with⟨h1,h2⟩|⟨h1,h2⟩
   ·exfalso;simp only[fK,h1,Ad,Qm,Bool.not_eq_true']at hn;exact sB hn.1 (u9 (lR hp) hid)
   ·exact h2.trans (Fs S l v.2 hn' p hp id hid)
def Rp(S:aW U)(eO:List Nat):(S.base eO).N=S.N:=rfl
def IB{S:aW U}{eO:List Nat}{t:Nat}:(S.base eO).env t=if t∈eO then S.env t else .any:=by
 simp only[aW.base];split
 ·rename_i h;rw[Qr (eA.1 h)]
 ·rename_i h;rw[Qs (sB h)]
def Rq{S:aW U}{eO:List Nat}{id:Nat}:(S.base eO).H id=if id<S.N then S.H id else⟨0,.dead⟩:=by
 simp only[aW.base];split
 ·rename_i h;rw[Qr (show id<S.N from QG h)]
 ·rename_i h;rw[Qs];intro hlt;have:Nat.blt id S.N=true:=Nat.ble_eq_true_of_le hlt;rw[this]at h;cases h
def iI.rep{w:World}{M:Nat->Prop}{G:Gh}{xs:List (KV U)}{ys:List PV}(h:iI td xs ys):∀{vs:List Value},bo w M G (xs.map KV.pv) vs->bo w M G ys vs:=by
 induction h with
 |nil=>intro vs h;exact h
 |cons hc _ ih=>
  intro vs h;obtain⟨v,vs',rfl,h1,h2⟩:=bo.cons_inv h;refine bo.cons ?_ (ih h2)
  cases hc with
  |eG=>rw[KV.pv]at h1;rw[h1.ud];exact .slnil
  |own _ _ _ _ hn=>cases hn
  |_=>simpa[KV.pv]using h1
def nW.rep{w:World}{M:Nat->Prop}{G:Gh}{x:KV U}{y:PV}(hc:nW td x y){v:Value}(h1:bp w M G x.pv v):bp w M G y v:=by
 cases hc with
 |eG=>rw[KV.pv]at h1;rw[h1.ud];exact .slnil
 |own _ _ _ _ hn=>cases hn
 |_=>simpa[KV.pv]using h1
def iI.len{lk:Lk U}{xs:List (KV U)}{ys:List PV}(h:iI lk xs ys):xs.length=ys.length:=by
 induction h with
 |nil=>rfl
 |cons _ _ ih=>rw[QE,QE,ih]
def iI.get{lk:Lk U}{xs:List (KV U)}{ys:List PV}(h:iI lk xs ys):∀{i:Nat} {x:KV U} {y:PV},xs[i]?=some x->ys[i]?=some y->nW lk x y:=by
 induction h with
 |nil=>intro i x y h;simp at h
 |cons hc _ ih=>
  intro i x y hx hy
  cases i with
  |zero=>simp only[List.getElem?_cons_zero,Qf]at hx hy;subst hx hy;exact hc
  |succ i=>exact ih (by simpa using hx) (by simpa using hy)
def aa0{w:World}{M:Nat->Prop}{G:Gh}{T:U.Ty}{x:KV U}{d:U.den T}{v:Value}(h:Ff K td T x=some d)(r:bp w M G x.pv v):bp w M G (fC T d) v:=by
 unfold Ff at h;unfold fC;split at h
 ·split at h
  ·rename_i cs;rw[KV.pv,KV.c9]at r;obtain⟨vs,rfl,hr⟩:=r.tu;have:=(K.oZ _ _ _ _ h).rep hr;exact .agg _ _ this.1 this.2
  ·cases h
 ·rename_i ha;have hc:=K.oZ _ _ _ _ h;have h1:bo w M G ([x].map KV.pv) [v]:= .cons r .nil;have h2:=hc.rep h1;generalize U.pv T d=ys at h2;obtain⟨hl,h2⟩:=h2
  cases ys with
  |nil=>simp at hl
  |cons y l=>exact h2 0 y v rfl rfl
def Rel.meet{S0 S1:aW U}{J:JS U}{F:List Nat}{W:WS}(hchk:wJ S0 J F W=true){v:uz J.items}(hp:pack K S1 J.items=some v)
  (hk:∀t∈J.eO,S1.env t=S0.env t) (hH:∀id,id<S0.N->id∉fK J.items->S1.H id=S0.H id) (hN:S0.N<=S1.N)
  {E:En} {a:Act} {w:World} {L:Nat->Value} (h:Rel E S1.st a w L):Rel E (unpack K S0 J v).st a w L:=by
 simp only[wJ,Qm,QH]at hchk;obtain⟨⟨⟨⟨⟨⟨hnd,hids⟩,hokv,hokm⟩,hkeep⟩,hobj⟩,hF⟩,hW⟩:=hchk;have hpk:=OU hp;have hN':(unpack K S0 J v).N=S0.N:=by rw[unpack,GF,Rp]
 have hlt:∀id∈fK J.items,id<S0.N:=λid hid=>QG (hids id hid).1
 have hHc:∀id,(∃p∈Ac J.items v,p.1.id=some id/\(unpack K S0 J v).H id=VJ (K:=K) p.1 p.2)\/(id∉fK J.items/\(unpack K S0 J v).H id=if id<S0.N then S0.H id else⟨0,.dead⟩):=by
  intro id;rcases GG (K:=K) (S0.base J.eO) J.items v id hnd with h1|⟨h1,h2⟩
  ·exact .inl h1
  ·exact .inr ⟨h1,h2.trans Rq⟩
 have hrow:∀t id av e k T (xs:List (U.den T)),(⟨.own t id av e k T,xs⟩:Sigma (It.den (U:=U)))∈Ac J.items v->S1.env t= .own id (S1.H id).av/\(S1.H id).c= .row e k T xs/\(av=0->(S1.H id).av=0):=by
  intro t id av e k T xs hmem;have:=hpk _ hmem;simp only[YN]at this;split at this
  ·rename_i id' v' he;split at this
   ·rename_i hid;have hid:=QF hid;subst hid;split at this
    ·rename_i r hr;obtain⟨h1,h2⟩:=Fp hr;split at this
     ·rename_i hek;rw[Qm,Qm,Qn]at hek;obtain⟨re,rk,rT,rxs⟩:=r;obtain⟨eT,hxs⟩:=nm this;simp only at eT hxs h2 hek;subst eT;refine⟨by rw[he,h1],by rw[h2,hxs,QF hek.1.1,QF hek.1.2],λhz=> ?_⟩
      rcases hek.2 with h9|h9
      ·rw[hz]at h9;cases h9
      ·rw[h1];exact QF h9
     ·cases this
    ·cases this
   ·cases this
  ·cases this
 have hbox:∀id av T m (d:U.den T),(⟨.box id av T m,d⟩:Sigma (It.den (U:=U)))∈Ac J.items v->(S1.H id).av=av/\∃cs,(S1.H id).c= .box cs/\J3 S1 cs m=true/\iI td (D6 m cs) (U.pv T d):=by
  intro id av T m d hmem;have:=hpk _ hmem;simp only[YN]at this;split at this
  ·rename_i cs hcs;obtain⟨h1,h2⟩:=CN hcs;split at this
   ·rename_i hmk;exact⟨h1,cs,h2,hmk,K.oZ _ _ _ _ this⟩
   ·cases this
  ·cases this
 have hrowb:∀id av e k T (xs:List (U.den T)),(⟨.eL id av e k T,xs⟩:Sigma (It.den (U:=U)))∈Ac J.items v->(S1.H id).c= .row e k T xs/\(av=0->(S1.H id).av=0):=by
  intro id av e k T xs hmem;have:=hpk _ hmem;simp only[YN]at this;split at this
  ·rename_i e' k' T' ys hc;split at this
   ·rename_i hek;rw[Qm,Qm,Qn]at hek;obtain⟨eT,hxs⟩:=nm this;subst eT;refine⟨by rw[hc,hxs,QF hek.1.1,QF hek.1.2],λhz=> ?_⟩
    rcases hek.2 with h9|h9
    ·rw[hz]at h9;cases h9
    ·exact QF h9
   ·cases this
  ·cases this
 have hlive:∀id,id<S0.N->((unpack K S0 J v).st.H id).c.live=true->(S1.st.H id).c.live=true:=by
  intro id hid hl;rcases hHc id with⟨⟨i,d⟩,hmem,h1,h2⟩|⟨h1,h2⟩
  ·cases i with
   |val t T=>cases h1
   |own t id' av e k T=>simp only[It.id,Qf]at h1;subst h1;have:=(hrow _ _ _ _ _ _ _ hmem).2.1;simp only[aW.st,dv.pv,this,dY.pv];rfl
   |box id' av T m=>simp only[It.id,Qf]at h1;subst h1;obtain⟨_,cs,h3,_,_⟩:=hbox _ _ _ _ _ hmem;simp only[aW.st,dv.pv,h3,dY.pv];rfl
   |eL id' av e k T=>simp only[It.id,Qf]at h1;subst h1;have:=(hrowb _ _ _ _ _ _ hmem).1;simp only[aW.st,dv.pv,this,dY.pv];rfl
  ·rw[Qr hid]at h2;simp only[aW.st]at hl ⊢;rw[h2,<-hH id hid h1]at hl;exact hl
 have hM:∀b,bl E (unpack K S0 J v).st L b->bl E S1.st L b:=by
  rintro b (⟨id,hid,hl,hb⟩|hb)
  ·have hid':id<S0.N:=by simpa only[aW.st,hN']using hid
   exact .inl ⟨id,QJ hid' hN,hlive id hid' hl,hb⟩
  ·exact .inr hb
 have hpok:∀id,(Nat.blt id S0.N&& !iL id (rowsOf J.items))=true->id<((unpack K S0 J v).st.gh L).N/\((unpack K S0 J v).st.gh L).V id=(S1.st.gh L).V id/\((unpack K S0 J v).st.gh L).L id=(S1.st.gh L).L id:=by
  intro id hid;simp only[Qm,Bool.not_eq_true']at hid;have hid1:id<S0.N:=QG hid.1;refine⟨by simpa only[St.gh,aW.st,hN']using hid1,?_,rfl⟩
  simp only[St.gh,aW.st,dv.pv];rcases hHc id with⟨⟨i,d⟩,hmem,h1,h2⟩|⟨h1,h2⟩
  ·cases i with
   |val t T=>cases h1
   |own t id' av e k T=>
    simp only[It.id,Qf]at h1;subst h1
    cases av with
    |zero=>rw[h2];exact((hrow _ _ _ _ _ _ _ hmem).2.2 rfl).symm
    |succ n=>exact absurd (Nr (lR hmem) rfl) (sB hid.2)
   |box id' av T m=>simp only[It.id,Qf]at h1;subst h1;rw[h2];exact(hbox _ _ _ _ _ hmem).1.symm
   |eL id' av e k T=>
    simp only[It.id,Qf]at h1;subst h1
    cases av with
    |zero=>rw[h2];exact((hrowb _ _ _ _ _ _ hmem).2 rfl).symm
    |succ n=>exact absurd (Nr (lR hmem) rfl) (sB hid.2)
  ·rw[Qr hid1]at h2;rw[h2,hH id hid1 h1]
 refine⟨h.defers,h.size,λt=> ?_,λid hid=> ?_,λi j b hi hj hli hlj hbi hbj=> ?_,λid hid=> ?_,h.fr,λhb hlv hvr=> ?_,h.an.1.trans (.of λb hn hm=>hn (hM b hm)),λid b hid hl hb hr=>(have hid':id<S0.N:=(by simpa only[aW.st,hN']using hid);h.an.2.1 id b (QJ hid' hN) (hlive id hid' hl) hb hr),λb hH=>⟨(h.an.2.2 b hH).1,(h.an.2.2 b hH).2.1,λid hid hl=>(have hid':id<S0.N:=(by simpa only[aW.st,hN']using hid);(h.an.2.2 b hH).2.2 id (QJ hid' hN) (hlive id hid' hl))⟩⟩
 ·show bp _ _ _ (((unpack K S0 J v).env t).pv) _;rcases Cp (K:=K) (S0.base J.eO) J.items v t with⟨⟨i,d⟩,hmem,h1,h2⟩|⟨_,h2⟩
  ·rw[show(unpack K S0 J v).env t=_ from h2]
   cases i with
   |val t' T=>
    simp only[It.aK,Qf]at h1;subst h1;simp only[kvI,DR];have h3:=hpk _ hmem;simp only[YN]at h3;have h4:=aa0 h3 (h.env t')
    have hg:(fC T d).qf (λ_=>false)=true:=by
     have:=CT K d;have h5:=IN K d
     cases hv:fC T d with
     |agg cs=>
      simp only[PV.qf];refine QH.2 λy hy=> ?_
      cases ha:U.agg T with
      |true=>
       rw[zu d ha]at hv;injection hv with hv
       rw[<-hv]at hy;have:=K.ib T d y hy;cases y<;>first|rfl|cases this
      |false=>obtain⟨y0,h6,h7⟩:=w6 K d ha;have h8:=K.ib T d y0 h7;rw[<-h6,hv]at h8;cases h8
     |eN cs=>exact absurd hv (h5 cs)
     |bI f cs=>
      exfalso
      cases ha:U.agg T with
      |true=>rw[zu d ha]at hv;cases hv
      |false=>obtain⟨y,h6,h7⟩:=w6 K d ha;have h8:=K.ib T d y h7;rw[<-h6,hv]at h8;cases h8
     |_=>rw[hv]at this;first|rfl|cases this
    exact h4.qf hg hM (λid hid=>by cases hid)
   |own t' id av e k T=>
    simp only[It.aK,Qf]at h1;subst h1;obtain⟨h3,h4,_⟩:=hrow _ _ _ _ _ _ _ hmem;have h5:=h.env t';have h6:S1.st.env t'= .own id (S1.st.H id).av:=by simp only[aW.st,h3,KV.pv,dv.pv]
    rw[h6]at h5;obtain⟨h7,h8⟩:=h5.n4 (show(S1.st.gh L).V id=_ from rfl)
    have hidlt:=hlt id (u9 (lR hmem) rfl);have h9:=Fs (K:=K) (S0.base J.eO) J.items v hnd _ hmem id rfl;simp only[kvI,KV.pv]
    have hsl:∃ad n c,a.tmps.getD t' undef= .slice ad n c:=by
     generalize a.tmps.getD t' undef=vv at h5
     cases h5 with
     |own _ _ ad n c _ _ _=>exact⟨ad,n,c,rfl⟩
    obtain⟨ad,n,c,hv⟩:=hsl;rw[hv]at h8 ⊢;refine .own _ _ _ _ _ (by simpa only[St.gh,aW.st,hN']using hidlt) ?_ (λ_=>h8)
    simp only[St.gh,aW.st,dv.pv,show(unpack K S0 J v).H id=_ from h9,VJ]
    exact QI _
   |box id av T m|eL id av e k T=>cases h1
  ·rw[show(unpack K S0 J v).env t=_ from h2,IB]
   split
   ·rename_i ht;have h3:=(hkeep t ht).1;rw[<-O6]at h3;refine bp.qf h3 hM hpok ?_;have:=h.env t;simp only[aW.st,hk t ht]at this;exact this
   ·exact .any _
 ·have hid':id<S0.N:=by simpa only[aW.st,hN']using hid
  show sd _ _ _ _ _ (((unpack K S0 J v).H id).c.pv);rcases hHc id with⟨⟨i,d⟩,hmem,h1,h2⟩|⟨h1,h2⟩
  ·rw[h2]
   cases i with
   |val t T=>cases h1
   |own t id' av e k T=>
    simp only[It.id,Qf]at h1;subst h1;have h3:=(hrow _ _ _ _ _ _ _ hmem).2.1;have h4:(S1.st.H id').c= .row e k (d.map (U.pv T)):=by simp only[aW.st,dv.pv,h3,dY.pv]
    obtain⟨vs,h5,h6,h7⟩:=h.lx (QJ hid' hN) h4;refine⟨vs,h5,h6,bo.closed ?_ hM h7⟩;refine QH.2 λy hy=> ?_
    obtain⟨u,hu,hyu⟩:=List.mem_flatten.1 hy;obtain⟨x,_,rfl⟩:=QP.1 hu;exact gM (K.ib T x y hyu)
   |box id' av T m=>
    simp only[It.id,Qf]at h1;subst h1;obtain⟨_,cs,h3,hmk,hcs⟩:=hbox _ _ _ _ _ hmem;have h4:(S1.st.H id').c= .box (cs.map KV.pv):=by simp only[aW.st,dv.pv,h3,dY.pv]
    obtain⟨b,cur,T',h5,h6,h7,h8⟩:=h.rY (QJ hid' hN) h4;refine⟨b,cur,T',h5,h6,h8,?_,λi y u hy hu=> ?_⟩
    ·have e1:=congrArg List.length (K.uO T d);rw[QC]at e1;rw[QC,OF,e1,<-hcs.len,Hr,h7.1,QC]
    ·rw[QT,Qb]at hy;obtain⟨z,hz,rfl⟩:=hy;rcases OG _ m hz with⟨rid,rver,hmm,rfl⟩|⟨hnm,hz⟩
     ·have hci:=Pd hmk hmm;have h9:=h7.2 i _ u (by rw[QT,hci];rfl) hu
      rw[KV.pv]at h9;obtain⟨h10,h11⟩:=h9.n4 (show(S1.st.gh L).V rid=_ from rfl)
      have hmi:(It.box id' av T m)∈J.items:=lR hmem
      obtain⟨hridlt,hrver⟩:rid<S0.N/\((unpack K S0 J v).H rid).av=rver:=by
       rcases PX (QH.1 (hokm _ hmi) _ hmm)with⟨e,k,T2,hrm⟩|⟨t2,e,k,T2,hrm⟩
       ·obtain⟨d2,hd2⟩:=Ns (v:=v) hrm;have h12:=Fs (K:=K) (S0.base J.eO) J.items v hnd _ hd2 rid rfl;exact⟨hlt rid (u9 hrm rfl),by rw[show(unpack K S0 J v).H rid=_ from h12];rfl⟩
       ·obtain⟨d2,hd2⟩:=Ns (v:=v) hrm;have h12:=Fs (K:=K) (S0.base J.eO) J.items v hnd _ hd2 rid rfl;exact⟨hlt rid (u9 hrm rfl),by rw[show(unpack K S0 J v).H rid=_ from h12];rfl⟩
      have hsl:∃ad n c,u= .slice ad n c:=by
       cases h9 with
       |own _ _ ad n c _ _ _=>exact⟨ad,n,c,rfl⟩
      obtain⟨ad,n,c,hv⟩:=hsl;rw[hv]at h11 ⊢;rw[KV.pv];refine .own _ _ _ _ _ (by simpa only[St.gh,aW.st,hN']using hridlt) ?_ (λ_=>h11)
      simp only[St.gh,aW.st,dv.pv,hrver];exact QI _
     ·have hzp:(U.pv T d)[i]?=some z.pv:=by rw[<-K.uO,QT,hz];rfl
      have hil:i<cs.length:=by have:=(Qw.1 hzp).1;rw[<-hcs.len,Hr]at this;exact this
      have hci:cs[i]?=some cs[i]:=Qv hil;have hck:=hcs.get (by rw[Of m cs hnm];exact hci) hzp
      have h9:=h7.2 i _ u (by rw[QT,hci];rfl) hu
      exact(hck.rep h9).closed (gM (K.ib T d _ (Q8 hzp))) hM
   |eL id' av e k T=>
    simp only[It.id,Qf]at h1;subst h1;have h3:=(hrowb _ _ _ _ _ _ hmem).1;have h4:(S1.st.H id').c= .row e k (d.map (U.pv T)):=by simp only[aW.st,dv.pv,h3,dY.pv]
    obtain⟨vs,h5,h6,h7⟩:=h.lx (QJ hid' hN) h4;refine⟨vs,h5,h6,bo.closed ?_ hM h7⟩;refine QH.2 λy hy=> ?_
    obtain⟨u,hu,hyu⟩:=List.mem_flatten.1 hy;obtain⟨x,_,rfl⟩:=QP.1 hu;exact gM (K.ib T x y hyu)
  ·rw[h2,Qr hid',<-hH id hid' h1];have ho:=h.obj id (QJ hid' hN);have hc:=DN hobj id hid';rw[Qn]at hc;have hc:=hc.resolve_left (λe=>h1 (eA.1 e))
   rw[<-hH id hid' h1]at hc
   change sd _ _ _ _ _ ((S1.H id).c.pv)at ho
   cases hcc:(S1.H id).c with
   |dead=>trivial
   |box cs=>
    rw[hcc]at ho hc;obtain⟨b,cur,T',h5,h6,h7,h8⟩:=ho;refine⟨b,cur,T',h5,h6,h7,h8.1,λi y u hy hu=> ?_⟩
    simp only[dY.qf,QH]at hc;rw[QT,Qb]at hy;obtain⟨z,hz,rfl⟩:=hy;refine bp.qf (by rw[O6];exact hc z (Q8 hz)) hM hpok (h8.2 i z.pv u (by rw[QT,hz];rfl) hu)
   |raw e k es=>
    rw[hcc]at ho hc;obtain⟨vs,h5,h6,h7⟩:=ho;refine⟨vs,h5,h6,h7.1,λi y u hy hu=> ?_⟩
    simp only[dY.qf,QH]at hc;obtain⟨l,hl,hyl⟩:=List.mem_flatten.1 (Q8 hy);obtain⟨c,hcm,rfl⟩:=QP.1 hl;obtain⟨z,hz,rfl⟩:=QP.1 hyl;exact bp.qf (by rw[O6];exact hc c hcm z hz) hM hpok (h7.2 i _ u hy hu)
   |row e k T xs=>
    rw[hcc]at ho;obtain⟨vs,h5,h6,h7⟩:=ho;refine⟨vs,h5,h6,bo.closed ?_ hM h7⟩;refine QH.2 λy hy=> ?_
    obtain⟨u,hu,hyu⟩:=List.mem_flatten.1 hy;obtain⟨x,_,rfl⟩:=QP.1 hu;exact gM (K.ib T x y hyu)
 ·have hi':i<S0.N:=by simpa only[aW.st,hN']using hi
  have hj':j<S0.N:=by simpa only[aW.st,hN']using hj
  exact h.apart i j b (QJ hi' hN) (QJ hj' hN) (hlive i hi' hli) (hlive j hj' hlj) hbi hbj
 ·have hid':S0.N<=id:=by simpa only[aW.st,hN']using hid
  rcases hHc id with⟨⟨i,d⟩,hmem,h1,h2⟩|⟨h1,h2⟩
  ·have:=hlt id (u9 (lR hmem) h1);omega
  ·rw[Qs (by omega)]at h2
   simp only[aW.st,h2,dv.pv,dY.pv]
 ·by_cases h0:0<S0.N
  ·refine h.Bb hb (hlive 0 h0 hlv) ?_;simp only[aW.st,dv.pv]at hvr ⊢;rcases hHc 0 with⟨⟨i,d⟩,hmem,h1,h2⟩|⟨h1,h2⟩
   ·rw[h2]at hvr
    cases i with
    |val t T=>cases h1
    |own t id' av e k T=>simp only[It.id,Qf]at h1;subst h1;exact(hrow _ _ _ _ _ _ _ hmem).2.2 hvr
    |box id' av T m=>simp only[It.id,Qf]at h1;subst h1;rw[(hbox _ _ _ _ _ hmem).1];exact hvr
    |eL id' av e k T=>simp only[It.id,Qf]at h1;subst h1;exact(hrowb _ _ _ _ _ _ hmem).2 hvr
   ·rw[Qr h0]at h2;rw[hH 0 h0 h1,<-h2];exact hvr
  ·rcases hHc 0 with⟨⟨i,d⟩,hmem,h1,h2⟩|⟨h1,h2⟩
   ·exact absurd (hlt 0 (u9 (lR hmem) h1)) h0
   ·rw[Qs h0]at h2;simp only[aW.st,dv.pv,h2,dY.pv]at hlv;cases hlv
end
section
variable {U : TU}
def Zw(S:aW U):RV->Option (KV U)
 | .tmp t=>some (S.env t)
 | .cell t n=>(match S.env t with
  | .ptr id av off=>(match S.wL id av with|some cs=>J8 n (cs.drop off)|none=>none)
  |_=>none)
def UL(S:aW U):List RV->Option (List (KV U))
 |[]=>some []
 |r::rs=>(match Zw S r with
  |some x=>(match UL S rs with|some xs=>some (x::xs)|none=>none)
  |none=>none)
def ahn:List (KV U)->KV U
 |[x]=>x
 |xs=> .eN xs
def zW(S:aW U)(rs:List RV):Option (KV U):=
 match UL S rs with
 |some xs=>some (ahn xs)
 |none=>none
def ac3{S:aW U}{r:RV}{x:KV U}(h:Zw S r=some x):Eb S.st r=some x.pv:=by
 cases r with
 |tmp t=>injection h with h;subst h;rfl
 |cell t n=>
  simp only[Zw]at h;split at h
  ·rename_i id av off ht;split at h
   ·rename_i cs hb;obtain⟨h1,h2⟩:=AF hb;have h3:S.st.env t= .ptr id av off:=by simp only[aW.st,ht,KV.pv]
    simp only[Eb,h3];rw[Qr h1,h2];have:=D0 h;rw[List.map_drop]at this;exact this
   ·cases h
  ·cases h
def Vl{S:aW U}:∀{rs:List RV} {xs:List (KV U)},UL S rs=some xs->yN S.st rs=some (xs.map KV.pv)
 |[],xs,h=>by injection h with h;subst h;rfl
 |r::rs,xs,h=>by
  simp only[UL]at h;split at h
  ·rename_i x hx;split at h
   ·rename_i ys hys;injection h with h
    subst h;simp only[yN,ac3 hx,Vl hys,QD]
   ·cases h
  ·cases h
def DS{S:aW U}{rs:List RV}{x:KV U}(h:zW S rs=some x):vy S.st rs=some x.pv:=by
 unfold zW at h;split at h
 ·rename_i xs hxs;injection h with h
  subst h;have:=Vl hxs;unfold vy;rw[this]
  match xs with
  |[]|[x]=>rfl
  |x::y::l=>simp only[QD,ahn,KV.pv,KV.c9]
 ·cases h
end
end
section
open Go.RowKit
def SC.MG:SC->Bool
 | .seq x y| .cond _ x y=>x.MG&&y.MG
 | .block _ x| .loop x=>x.MG
 | .GC ..=>false
 |_=>true
def Eo{P:Program}{nt:Nat}{hs:List Nat}:∀(c:Code) (sc:SC),aX P nt hs c=some sc->sc.MG=true->yP c=true
 | .seq x y,sc,h,hn=>by
  simp only[aX]at h;split at h
  ·rename_i hx hy;injection h with h
   subst h;simp only[SC.MG,Qm]at hn;simp only[yP,Eo x _ hx hn.1,Eo y _ hy hn.2,Bool.and_true]
  ·cases h
 | .cond c x y,sc,h,hn=>by
  simp only[aX]at h;split at h
  ·rename_i _ hx hy;injection h with h
   subst h;simp only[SC.MG,Qm]at hn;simp only[yP,Eo x _ hx hn.1,Eo y _ hy hn.2,Bool.and_true]
  ·cases h
 | .block _ x,sc,h,hn=>by simp only[aX,Qb]at h;obtain⟨x',hx,rfl⟩:=h;exact Eo x _ hx hn
 | .loop x,sc,h,hn=>by simp only[aX,Qb]at h;obtain⟨x',hx,rfl⟩:=h;exact Eo x _ hx hn
 | .rangeFunc g ps x y,sc,h,hn=>by
  simp only[aX]at h;split at h
  ·split at h
   ·injection h with h;subst h;cases hn
   ·cases h
  ·cases h
 | .skip,_,_,_| .exit _,_,_,_| .ret,_,_,_| .region ..,_,_,_| .goto _,_,_,_| .scope _,_,_,_| .label _,_,_,_| .refuse _,_,_,_=>rfl
section
variable {P : Program} {E : En} {S : St} {a : Act} {w : World} {L : Nat -> Value}
def sd.env{E E':En}(h0:E'.w0=E.w0)(h1:E'.rb=E.rb)(h2:E'.rk=E.rk){M:Nat->Prop}{G:Gh}{v:Value}{c:xW}(h:sd E w M G v c):sd E' w M G v c:=by
 cases c with
 |dead=>trivial
 |box cs=>obtain⟨b,cur,T,e1,e2,e3,e4⟩:=h;exact⟨b,cur,T,e1,e2,by rw[h0,h1];exact e3,e4⟩
 |row e k es=>
  obtain⟨vs,e1,e2,e3⟩:=h;refine⟨vs,?_,e2,e3⟩;have:fN E' v=fN E v:=by unfold fN;rw[h0,h1,h2]
  rw[this];exact e1
def St.nG(S:St)(D:Nat->Bool):St:={S with H:=λid=>if D id=true then⟨(S.H id).av,.dead⟩else S.H id}
def St.shown(A S:St)(D:Nat->Bool):St:={A with H:=λid=>if D id=true then⟨(A.H id).av+1,(S.H id).c⟩else A.H id}
def St.kill(S:St)(D:Nat->Bool):St:={S with H:=λid=>if D id=true then⟨(S.H id).av,.dead⟩else S.H id}
def Rel.ajt(h:Rel E S a w L)(D:Nat->Bool):Rel E (S.kill D) a w L:=by
 have hH:∀id,(D id=true/\(S.kill D).H id=⟨(S.H id).av,.dead⟩)\/(D id=false/\(S.kill D).H id=S.H id):=by
  intro id;simp only[St.kill];cases D id
  ·exact .inr ⟨rfl,rfl⟩
  ·exact .inl ⟨rfl,rfl⟩
 have hlv:∀id,((S.kill D).H id).c.live=true->(S.H id).c.live=true/\(S.kill D).H id=S.H id:=by
  intro id hl;rcases hH id with⟨_,e⟩|⟨_,e⟩
  ·rw[e]at hl;cases hl
  ·exact⟨by rw[<-e];exact hl,e⟩
 have hgh:(S.kill D).gh L=S.gh L:=by
  simp only[St.gh,St.kill];congr 1
  funext id
  split<;>rfl
 have hmu:∀b,bl E (S.kill D) L b->bl E S L b:=by
  rintro b (⟨id,h5,h6,h7⟩|hx)
  ·exact .inl ⟨id,h5,(hlv id h6).1,h7⟩
  ·exact .inr hx
 have hst:cZ w w (bl E S L) (bl E (S.kill D) L):=cZ.of λb hm hm'=>hm (hmu b hm')
 refine⟨h.defers,h.size,λt=> ?_,λid hid=> ?_,λi j b hi hj hli hlj hbi hbj=>h.apart i j b hi hj (hlv i hli).1 (hlv j hlj).1 hbi hbj,λid hid=> ?_,h.fr,λhr hl hv0=> ?_,h.an.1.trans (.of λb hm hm'=>hm (hmu b hm')),λid b hid hl hb hr=>h.an.2.1 id b hid (hlv id hl).1 hb hr,λb hb=>⟨(h.an.2.2 b hb).1,(h.an.2.2 b hb).2.1,λid hid hl=>(h.an.2.2 b hb).2.2 id hid (hlv id hl).1⟩⟩
 ·show bp w _ _ (S.env t) _;rw[hgh];exact(h.env t).mono hst (Gh.le.refl _)
 ·rw[hgh];rcases hH id with⟨_,e⟩|⟨_,e⟩
  ·rw[e];trivial
  ·rw[e];exact(h.obj id hid).mono hst (Gh.le.refl _) λ_ _ _=>rfl
 ·rcases hH id with⟨_,e⟩|⟨_,e⟩
  ·rw[e,h.fresh id hid]
  ·rw[e];exact h.fresh id hid
 ·have h5:=hlv 0 hl;exact h.Bb hr h5.1 (by rw[<-h5.2];exact hv0)
def acx{f:FuncId}{nt:Nat}{sc:SC}{rs:List RV}(hf:iO P f nt sc rs)(hn:sc.MG=true){xs:List PV}{vs:List Value}(h:Rel E S a w L)(hv:bo w (bl E S L) (S.gh L) xs vs)(hlen:xs.length<=nt)(hp:∀t,t<xs.length->t∉sc.s8)
  (D:Nat->Bool) (hD:∀id,D id=true->id<S.N/\id≠0/\∃cs,(S.H id).c= .box cs/\cs.all PV.closed=true)
  {Q:PV->St->Prop} (hV:VS P nt sc (λen A=>(en= .ret\/en= .normal)/\∃r,vy A rs=some r/\Q r A/\S.N<=A.N/\∀id,D id=true->(A.H id).c.live=false) {S.nG D with env:=λt=>(xs[t]?).getD .undef}):
  Calls P f vs.toArray w λen w'=>∃v r A L',en= .returned v/\Q r A/\bp w' (bl E (A.shown S D) L') ((A.shown S D).gh L') r v/\
   ∀env':Nat->PV,(∀t,env' t= .any\/(env' t=S.env t/\(S.env t).qf (λ_=>false)=true)\/(∃i,vs[i]?=some (a.tmps.getD t undef)/\env' t=A.env i)\/∃id off,D id=true/\S.env t= .ptr id (S.H id).av off/\env' t= .ptr id ((A.H id).av+1) off)->Rel E {A.shown S D with env:=env'} a w' L':=by
 obtain⟨fn,hs,h1,rfl,h3,h4,_⟩:=hf
 cases hb:fn.body with
 |none=>rw[hb]at h3;cases h3
 |some c=>
 rw[hb,Qa]at h3;have hvl:vs.length=xs.length:=hv.1;have hlive:∀id,D id=true->(S.H id).c.live=true:=λid hid=>by obtain⟨_,_,cs,e,_⟩:=hD id hid;rw[e];rfl
 let HB:Nat->Prop:=λb=>∃id,D id=true/\cd (L id)=some b
 have hHB:∀b,HB b->bl E S L b:=λb ⟨id,h5,h6⟩=> .inl ⟨id,(hD id h5).1,hlive id h5,h6⟩
 let E':En:={E with nt:=fn.ntmps,rd:=none,nd:=true,kt:=λt=>vs[t]?,wk:=w,wm:=w,M0:=bl E S L,X:=λb=>E.X b\/HB b,H0:=λb=>E.H0 b\/HB b,hX:=⟨λb hb=>E.hX.lt b ⟨hb.1.resolve_right λh=>hb.2 (.inr h),λh=>hb.2 (.inl h)⟩,λb hb=>E.hX.ng b ⟨hb.1.resolve_right λh=>hb.2 (.inr h),λh=>hb.2 (.inl h)⟩,E.hX.gi⟩,PO:=λhk b hr hx=>hx.elim (E.PO hk b hr) λ⟨id,h5,h6⟩=>(hD id h5).2.1 (h.an.2.1 id b (hD id h5).1 (hlive id h5) h6 hr)}
 have hdl:∀id,((S.nG D).H id).c.live=true->D id=false/\(S.H id).c.live=true:=by
  intro id hl;simp only[St.nG]at hl;split at hl
  ·cases hl
  ·rename_i hd;exact⟨by simpa using hd,hl⟩
 have hnD:∀id,D id=false->(S.nG D).H id=S.H id:=λid hid=>by simp only[St.nG,hid];rfl
 have hgh:(S.nG D).gh L=S.gh L:=by
  simp only[St.gh,St.nG];congr 1
  funext id
  split<;>rfl
 have hmu:∀b,bl E' (S.nG D) L b↔bl E S L b:=by
  intro b;constructor
  ·rintro(⟨id,h5,h6,h7⟩|hx|hx)
   ·exact .inl ⟨id,h5,(hdl id h6).2,h7⟩
   ·exact .inr hx
   ·exact hHB b hx
  ·rintro(⟨id,h5,h6,h7⟩|hx)
   ·cases hd:D id with
    |true=>exact .inr (.inr ⟨id,hd,h7⟩)
    |false=>exact .inl ⟨id,h5,by rw[hnD id hd];exact h6,h7⟩
   ·exact .inr (.inl hx)
 have hst0:cZ w w (bl E S L) (bl E' (S.nG D) L):=cZ.of λb hm hm'=>hm ((hmu b).1 hm')
 have hrel:Rel E' {S.nG D with env:=λt=>(xs[t]?).getD .undef} {tmps:=vs.toArray++Array.replicate (fn.ntmps - vs.toArray.size) undef,defers:=[]} w L:=by
  have hget:∀t,(vs.toArray++Array.replicate (fn.ntmps - vs.toArray.size) undef).getD t undef=(vs[t]?).getD undef:=by
   intro t;rw[QN,Array.getElem?_append]
   by_cases ht:t<vs.toArray.size
   ·rw[Qr ht];simp
   ·rw[Qs ht,Array.getElem?_replicate];have hq:vs[t]?=none:=Qq72 (by simpa using ht)
    rw[hq];split<;>rfl
  refine⟨Marks.nil rfl,⟨by simp[E',hvl];omega,λt v ht=>by rw[hget];show(vs[t]?).getD undef=v;rw[show vs[t]?=some v from ht];rfl⟩,λt=> ?_,λid hid=> ?_,λi j b hi hj hli hlj=>h.apart i j b hi hj (hdl i hli).2 (hdl j hlj).2,λid hid=> ?_,⟨h.fr.toFr,Di.refl _⟩,λhr hl hv0=> ?_,Kept.of λb hm hm'=>hm ((hmu b).1 hm'),λid b hid hl hb hr=>h.an.2.1 id b hid (hdl id hl).2 hb hr,λb hH=> ?_⟩
  ·show bp w (bl E' (S.nG D) L) ((S.nG D).gh L) ((xs[t]?).getD .undef) _;rw[hget,hgh]
   cases hx:xs[t]? with
   |none=>
    have:vs[t]?=none:=by rw[List.getElem?_eq_none_iff]at hx ⊢;omega
    rw[this];exact .undef
   |some x=>obtain⟨v,hv1,hr⟩:=hv.get hx;rw[hv1];exact hr.mono hst0 (Gh.le.refl _)
  ·show sd E' w (bl E' (S.nG D) L) ((S.nG D).gh L) (L id) ((S.nG D).H id).c;rw[hgh]
   cases hd:D id with
   |true=>simp only[St.nG,hd,Qt];trivial
   |false=>
    rw[hnD id hd]
    cases hl:(S.H id).c.live with
    |false=>cases hcc:(S.H id).c with
     |dead=>trivial
     |box cs|row e k es=>rw[hcc]at hl;cases hl
    |true=>exact((h.obj id hid).mono hst0 (Gh.le.refl _) λ_ _ _=>rfl).env rfl rfl rfl
  ·show(S.nG D).H id=_
   cases hd:D id with
   |true=>exact absurd (hD id hd).1 (Nat.not_lt.2 (show S.N<=id from hid))
   |false=>rw[hnD id hd];exact h.fresh id hid
  ·have h5:=hdl 0 hl;refine h.Bb hr h5.2 ?_;rw[<-hnD 0 h5.1];exact hv0
  ·rcases hH with hH|⟨id,h5,h6⟩
   ·obtain⟨q1,⟨o,_,q3,q4⟩,q5⟩:=h.an.2.2 b hH;exact⟨q1,⟨o,q4,q3,q4⟩,λid hid hl=>q5 id hid (hdl id hl).2⟩
   ·obtain⟨_,_,cs,e,_⟩:=hD id h5;obtain⟨b',cur,T,e1,e2,_,_⟩:=h.rY (hD id h5).1 e;rw[e1]at h6;injection h6 with h6
    simp only at h6;subst h6;refine⟨GK h (hHB b' ⟨id,h5,by rw[e1];rfl⟩),⟨_,e2,rfl,e2⟩,λj hj hl hbj=> ?_⟩
    have h7:=hdl j hl;have:=h.apart j id b' hj (hD id h5).1 h7.2 (hlive id h5) hbj (by rw[e1];rfl)
    rw[this,h5]at h7;cases h7.1
 have hcs:=sE c sc h3
 have h0:=hV c hs h3 E' rfl ⟨λt ht=>by
  show vs[t]?=none;refine Qq72 ?_;rw[hcs]at ht;rcases Nat.lt_or_ge t xs.length with hlt|hge
  ·exact absurd ht (hp t hlt)
  ·omega,.inr (Eo c sc h3 hn)⟩ _ w L hrel
 refine DK.1 (callsIn_of_wp_marks (F:=WF none) (n:=0) h1 hb trivial (wpIn_mono h0 ?_));rintro e a' w' ⟨A,L',hr1,he,r,hres,hq,hAN,hdead⟩;have hd:a'.defers=[]:=hr1.defers.none rfl;obtain⟨v,hv1,hrep⟩:=B1 hr1 h4 hres
 let L2:Nat->Value:=λid=>if D id=true then L id else L' id
 have hL1:∀id,D id=true->L2 id=L id:=λid hid=>Qr hid
 have hL2:∀id,D id=false->L2 id=L' id:=λid hid=>Qs (by rw[hid];simp)
 have hA1:∀id,D id=true->(A.shown S D).H id=⟨(A.H id).av+1,(S.H id).c⟩:=λid hid=>Qr hid
 have hA2:∀id,D id=false->(A.shown S D).H id=A.H id:=λid hid=>Qs (by rw[hid];simp)
 have hle:(A.gh L').le ((A.shown S D).gh L2):=by
  refine⟨QI _,λid _=> ?_⟩
  cases hdd:D id with
  |true=>exact .inr (by simp only[St.gh,hA1 id hdd];omega)
  |false=>exact .inl ⟨by simp only[St.gh,hA2 id hdd],by simp only[St.gh,hL2 id hdd]⟩
 have hmu2:∀b,bl E (A.shown S D) L2 b↔bl E' A L' b:=by
  intro b;constructor
  ·rintro(⟨id,h5,h6,h7⟩|hx)
   ·cases hdd:D id with
    |true=>rw[hL1 id hdd]at h7;exact .inr (.inr ⟨id,hdd,h7⟩)
    |false=>rw[hA2 id hdd]at h6;rw[hL2 id hdd]at h7;exact .inl ⟨id,h5,h6,h7⟩
   ·exact .inr (.inl hx)
  ·rintro(⟨id,h5,h6,h7⟩|hx|⟨id,h5,h6⟩)
   ·cases hdd:D id with
    |true=>rw[hdead id hdd]at h6;cases h6
    |false=>exact .inl ⟨id,h5,by rw[hA2 id hdd];exact h6,by rw[hL2 id hdd];exact h7⟩
   ·exact .inr hx
   ·exact .inl ⟨id,QJ (hD id h5).1 hAN,by rw[hA1 id h5];exact hlive id h5,by rw[hL1 id h5];exact h6⟩
 have hst2:cZ w' w' (bl E' A L') (bl E (A.shown S D) L2):=cZ.of λb hm hm'=>hm ((hmu2 b).1 hm')
 have hst1:cZ w w' (bl E S L) (bl E (A.shown S D) L2):=hr1.an.1.stays.trans hst2
 have fin:LeavesInM (WF none) 0 P fn a'.tmps (λen w'=>∃v r A L',en= .returned v/\Q r A/\bp w' (bl E (A.shown S D) L') ((A.shown S D).gh L') r v/\
   ∀env':Nat->PV,(∀t,env' t= .any\/(env' t=S.env t/\(S.env t).qf (λ_=>false)=true)\/(∃i,vs[i]?=some (a.tmps.getD t undef)/\env' t=A.env i)\/∃id off,D id=true/\S.env t= .ptr id (S.H id).av off/\env' t= .ptr id ((A.H id).av+1) off)->Rel E {A.shown S D with env:=env'} a w' L') a'.defers .returning w':=by
  rw[hd];refine⟨v,hv1,v,r,A,L2,rfl,hq,hrep.mono hst2 hle,λenv' he'=> ?_⟩
  refine⟨(h.defers.oth hr1.fr.ko),h.size,λt=> ?_,λid hid=> ?_,λi j b hi hj hli hlj hbi hbj=> ?_,λid hid=> ?_,⟨hr1.fr.toFr,h.fr.ko.trans hr1.fr.ko⟩,λhr hl hv0=> ?_,(h.an.1.trans hr1.an.1).trans (.of λb hm hm'=>hm ((hmu2 b).1 hm')),λid b hid hl hb hr=> ?_,λb hH=> ?_⟩
  ·show bp w' (bl E (A.shown S D) L2) ((A.shown S D).gh L2) (env' t) _;rcases he' t with e1|⟨e1,e2⟩|⟨i,e1,e2⟩|⟨id,off,e1,e2,e3⟩
   ·rw[e1];exact .any _
   ·rw[e1];exact((h.env t).qf (M':=bl E S L) (G':=(A.shown S D).gh L2) e2 (λ_ hb=>hb) (λid hid=>by cases hid)).mono hst1 (Gh.le.refl _)
   ·rw[e2,<-hr1.size.2 i _ e1];exact(hr1.env i).mono hst2 hle
   ·rw[e3];have h5:=h.env t;rw[e2]at h5;obtain⟨h6,h7⟩:=h5.pP (show(S.gh L).V id=_ from rfl)
    rw[h7];refine .ptr _ _ _ _ (QJ (hD id e1).1 hAN) (by simp only[St.gh,hA1 id e1];exact QI _) λ_=> ?_
    show _=(cd (L2 id)).map _;rw[hL1 id e1];rfl
  ·show sd E w' (bl E (A.shown S D) L2) ((A.shown S D).gh L2) (L2 id) ((A.shown S D).H id).c
   cases hdd:D id with
   |true=>
    rw[hL1 id hdd,hA1 id hdd];obtain⟨g1,_,cs,e1,e2⟩:=hD id hdd;obtain⟨b,cur,T,q1,q2,q3,q4⟩:=h.rY g1 e1;rw[show(⟨(A.H id).av+1,(S.H id).c⟩:gm).c= .box cs from e1]
    obtain⟨_,⟨o,k1,_,k3⟩,_⟩:=hr1.an.2.2 b (.inr ⟨id,hdd,by rw[q1];rfl⟩)
    have k1:w.heap[b]?=some o:=k1;rw[q2]at k1;injection k1 with k1
    rw[<-k1]at k3;refine⟨b,cur,T,q1,k3,q4,q3.1,λi y u hy hu=> ?_⟩
    exact((q3.2 i y u hy hu).SU (G':=(A.shown S D).gh L2) (QH.1 e2 y (Q8 hy))).mono hst1 (Gh.le.refl _)
   |false=>
    rw[hL2 id hdd,hA2 id hdd]
    cases hl:(A.H id).c.live with
    |false=>cases hcc:(A.H id).c with
     |dead=>trivial
     |box cs|row e k es=>rw[hcc]at hl;cases hl
    |true=>exact((hr1.obj id hid).mono hst2 hle λ_ _ _=>rfl).env rfl rfl rfl
  ·have key:∀i j,i<A.N->j<A.N->D i=true->D j=false->(A.H j).c.live=true->cd (L i)=some b->cd (L' j)=some b->i=j:=λi j _ hj hdi _ hl h5 h6=>absurd h6 ((hr1.an.2.2 b (.inr ⟨i,hdi,h5⟩)).2.2 j hj hl)
   cases hdi:D i with
   |true=>
    rw[hL1 i hdi]at hbi
    cases hdj:D j with
    |true=>rw[hL1 j hdj]at hbj;exact h.apart i j b (hD i hdi).1 (hD j hdj).1 (hlive i hdi) (hlive j hdj) hbi hbj
    |false=>rw[hL2 j hdj]at hbj;rw[hA2 j hdj]at hlj;exact key i j hi hj hdi hdj hlj hbi hbj
   |false=>
    rw[hL2 i hdi]at hbi;rw[hA2 i hdi]at hli
    cases hdj:D j with
    |true=>rw[hL1 j hdj]at hbj;exact(key j i hj hi hdj hdi hli hbj hbi).symm
    |false=>rw[hL2 j hdj]at hbj;rw[hA2 j hdj]at hlj;exact hr1.apart i j b hi hj hli hlj hbi hbj
  ·have hid':A.N<=id:=hid
   cases hdd:D id with
   |true=>have:=(hD id hdd).1;omega
   |false=>show(A.shown S D).H id=_;rw[hA2 id hdd];exact hr1.fresh id hid'
  ·have h0D:D 0=false:=by
    cases hdd:D 0 with
    |true=>exact absurd rfl (hD 0 hdd).2.1
    |false=>rfl
   rw[hA2 0 h0D]at hl hv0;rw[hL2 0 h0D];exact hr1.Bb hr hl hv0
  ·cases hdd:D id with
   |true=>rw[hL1 id hdd]at hb;exact h.an.2.1 id b (hD id hdd).1 (hlive id hdd) hb hr
   |false=>rw[hL2 id hdd]at hb;rw[hA2 id hdd]at hl;exact hr1.an.2.1 id b hid hl hb hr
  ·obtain⟨q1,⟨o,q2,q3,q4⟩,q5⟩:=h.an.2.2 b hH;obtain⟨_,⟨o',k1,_,k3⟩,k4⟩:=hr1.an.2.2 b (.inl hH);have k1:w.heap[b]?=some o':=k1;rw[q4]at k1;injection k1 with k1
   refine⟨q1,⟨o,q2,q3,by rw[k1];exact k3⟩,λid hid hl hbb=> ?_⟩
   cases hdd:D id with
   |true=>rw[hL1 id hdd]at hbb;exact q5 id (hD id hdd).1 (hlive id hdd) hbb
   |false=>rw[hL2 id hdd]at hbb;rw[hA2 id hdd]at hl;exact k4 id hid hl hbb
 rcases he with rfl|rfl<;>exact fin
end
end
end Go.TQ
end
