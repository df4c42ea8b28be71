/-
  Texts made small by a program (see NOTES). Conditions: those that each theorem names.
-/
import Derived.Test.YtjbfdglebjnelaaGreatSlotSaysMa
import Derived.RangeFuncRecord
set_option linter.unusedVariables false
set_option linter.unusedSimpArgs false
set_option linter.unusedSectionVars false
set_option maxHeartbeats 2000000
noncomputable section
namespace Go.TQ
section
open Go.RowKit
def aP(P:Program)(nt:Nat)(hs:List Nat):Code->Option SC
 | .skip=>some .skip
 | .region _ ops false=>
  match ops.toList.mapM (xw P hs ops)with
  |some gs=>if ops.toList.all (fun o=>match o.dst with|some t=>decide (t<nt)|none=>true)then some (.ze gs)else none
  |none=>none
 | .region _ ops true=>
  match ops.toList.mapM (xw P hs ops)with
  |some gs=>
   if ops.toList.all (fun o=>match o.dst with|some t=>decide (t<nt)|none=>true)&&P.follows .mixedOrders then
    match YU ops.toList gs with
    |some un=>some (.vr un gs)
    |none=>none
   else none
  |none=>none
 | .seq x y=>
  match aP P nt hs x,aP P nt hs y with
  |some x',some y'=>some (.seq x' y')
  |_,_=>none
 | .cond c x y=>
  match bB c,aP P nt hs x,aP P nt hs y with
  |some c',some x',some y'=>some (.cond c' x' y')
  |_,_,_=>none
 | .block id c=>(aP P nt hs c).map (.block id)
 | .loop c=>(aP P nt hs c).map .loop
 | .exit id=>some (.exit id)
 | .ret=>some .ret
 | .rangeFunc g ps x y=>
  match bB g,aP P nt hs x,aP P nt hs y with
  |some g',some x',some y'=>if B9 x&&B9 y&&ps.toList.all (fun t=>decide (t<nt))then some (.Hv g' ps.toList x' y')else none
  |_,_,_=>none
 |_=>none
section
variable {P : Program} {S : St} {Γ : pM} {nt : Nat} {Q : Exit -> St -> Prop}
def VS(P:Program)(nt:Nat)(sc:SC)(Q:Exit->St->Prop)(S:St):Prop:=∀c hs,aP P nt hs c=some sc->V P nt c Q S
theorem VS.mono{sc:SC}{Q':Exit->St->Prop}(h:VS P nt sc Q S)(hq:∀e S,Q e S->Q' e S):VS P nt sc Q' S:=fun c hs hc=>(h c hs hc).mono hq
theorem Vc{ops:Array Oper}(h:ops.toList.all (fun o=>match o.dst with|some t=>decide (t<nt)|none=>true)=true):∀o∈ops.toList,∀t,o.dst=some t->t<nt:=by
 intro o ho t ht;have:=QH.1 h o ho;rw[ht]at this;simpa using this
theorem afi(h:Q .normal S):VS P nt .skip Q S:=by
 intro c hs hc
 cases c with
 |skip=>exact agM h
 |region id ops d=>cases d<;>simp only[aP]at hc<;>(try split at hc)<;>(try split at hc)<;>(try split at hc)<;>cases hc
 |seq x y=>simp only[aP]at hc;split at hc<;>cases hc
 |cond c x y=>simp only[aP]at hc;split at hc<;>cases hc
 |block id c=>simp only[aP,Qb]at hc;obtain⟨_,_,hc⟩:=hc;cases hc
 |loop c=>simp only[aP,Qb]at hc;obtain⟨_,_,hc⟩:=hc;cases hc
 |rangeFunc g ps x y=>simp only[aP]at hc;split at hc<;>(try split at hc)<;>cases hc
 |_=>simp only[aP]at hc<;>cases hc
theorem afl{id:Nat}(h:Q (.exit id) S):VS P nt (.exit id) Q S:=by
 intro c hs hc
 cases c with
 |exit j=>simp only[aP,Qf,SC.exit.injEq]at hc;subst hc;exact agN h
 |region id ops d=>cases d<;>simp only[aP]at hc<;>(try split at hc)<;>(try split at hc)<;>(try split at hc)<;>cases hc
 |seq x y=>simp only[aP]at hc;split at hc<;>cases hc
 |cond c x y=>simp only[aP]at hc;split at hc<;>cases hc
 |block id c=>simp only[aP,Qb]at hc;obtain⟨_,_,hc⟩:=hc;cases hc
 |loop c=>simp only[aP,Qb]at hc;obtain⟨_,_,hc⟩:=hc;cases hc
 |rangeFunc g ps x y=>simp only[aP]at hc;split at hc<;>(try split at hc)<;>cases hc
 |_=>simp only[aP]at hc<;>cases hc
theorem agQ(h:Q .ret S):VS P nt .ret Q S:=by
 intro c hs hc
 cases c with
 |ret=>exact ahZ h
 |region id ops d=>cases d<;>simp only[aP]at hc<;>(try split at hc)<;>(try split at hc)<;>(try split at hc)<;>cases hc
 |seq x y=>simp only[aP]at hc;split at hc<;>cases hc
 |cond c x y=>simp only[aP]at hc;split at hc<;>cases hc
 |block id c=>simp only[aP,Qb]at hc;obtain⟨_,_,hc⟩:=hc;cases hc
 |loop c=>simp only[aP,Qb]at hc;obtain⟨_,_,hc⟩:=hc;cases hc
 |rangeFunc g ps x y=>simp only[aP]at hc;split at hc<;>(try split at hc)<;>cases hc
 |_=>simp only[aP]at hc<;>cases hc
theorem aa1{x y:SC}(h:VS P nt x (Pd (VS P nt y Q) Q) S):VS P nt (.seq x y) Q S:=by
 intro c hs hc
 cases c with
 |seq p q=>
  simp only[aP]at hc;split at hc
  ·rename_i x' y' hx hy;injection hc with hc
   injection hc with h1 h2
   subst h1 h2;refine ahY ((h p hs hx).mono ?_);intro e S' hq;cases e<;>first|exact hq q hs hy|exact hq
  ·cases hc
 |region id ops d=>cases d<;>simp only[aP]at hc<;>(try split at hc)<;>(try split at hc)<;>(try split at hc)<;>cases hc
 |cond c x y=>simp only[aP]at hc;split at hc<;>cases hc
 |block id c=>simp only[aP,Qb]at hc;obtain⟨_,_,hc⟩:=hc;cases hc
 |loop c=>simp only[aP,Qb]at hc;obtain⟨_,_,hc⟩:=hc;cases hc
 |rangeFunc g ps x y=>simp only[aP]at hc;split at hc<;>(try split at hc)<;>cases hc
 |_=>simp only[aP]at hc<;>cases hc
theorem afm{c:bq}{x y:SC}{b:Bool}(hb:c.val S= .bool b)(h:VS P nt (if b then x else y) Q S):VS P nt (.cond c x y) Q S:=by
 intro cc hs hc
 cases cc with
 |cond c0 p q=>
  simp only[aP]at hc;split at hc
  ·rename_i c' x' y' hc' hx hy;injection hc with hc
   injection hc with h1 h2 h3
   subst h1 h2 h3;refine agO hc' hb ?_;cases b
   ·exact h q hs hy
   ·exact h p hs hx
  ·cases hc
 |region id ops d=>cases d<;>simp only[aP]at hc<;>(try split at hc)<;>(try split at hc)<;>(try split at hc)<;>cases hc
 |seq x y=>simp only[aP]at hc;split at hc<;>cases hc
 |block id c=>simp only[aP,Qb]at hc;obtain⟨_,_,hc⟩:=hc;cases hc
 |loop c=>simp only[aP,Qb]at hc;obtain⟨_,_,hc⟩:=hc;cases hc
 |rangeFunc g ps x y=>simp only[aP]at hc;split at hc<;>(try split at hc)<;>cases hc
 |_=>simp only[aP]at hc<;>cases hc
theorem acD{c:bq}{x y:SC}(hb:c.val S= .gS)(h1:VS P nt x Q S)(h2:VS P nt y Q S):VS P nt (.cond c x y) Q S:=by
 intro cc hs hc
 cases cc with
 |cond c0 p q=>
  simp only[aP]at hc;split at hc
  ·rename_i c' x' y' hc' hx hy;injection hc with hc
   injection hc with e1 e2 e3
   subst e1 e2 e3;intro E hE hk a w L hr;have hv:=hr.iO hc';rw[hb]at hv;generalize hu:a.eval c0=u at hv
   cases hv with
   |gS b=>
    refine wpIn_cond hu ?_;cases b
    ·exact h2 q hs hy E hE hk.adm a w L hr
    ·exact h1 p hs hx E hE hk.adn a w L hr
  ·cases hc
 |region id ops d=>cases d<;>simp only[aP]at hc<;>(try split at hc)<;>(try split at hc)<;>(try split at hc)<;>cases hc
 |seq x y=>simp only[aP]at hc;split at hc<;>cases hc
 |block id c=>simp only[aP,Qb]at hc;obtain⟨_,_,hc⟩:=hc;cases hc
 |loop c=>simp only[aP,Qb]at hc;obtain⟨_,_,hc⟩:=hc;cases hc
 |rangeFunc g ps x y=>simp only[aP]at hc;split at hc<;>(try split at hc)<;>cases hc
 |_=>simp only[aP]at hc<;>cases hc
theorem acE{id:Nat}{x:SC}(h:VS P nt x (FX id Q) S):VS P nt (.block id x) Q S:=by
 intro c hs hc
 cases c with
 |block j p=>
  simp only[aP,Qb]at hc;obtain⟨x',hx,hc⟩:=hc;injection hc with h1 h2
  subst h1 h2;exact afh (h p hs hx)
 |region id ops d=>cases d<;>simp only[aP]at hc<;>(try split at hc)<;>(try split at hc)<;>(try split at hc)<;>cases hc
 |seq x y=>simp only[aP]at hc;split at hc<;>cases hc
 |cond c x y=>simp only[aP]at hc;split at hc<;>cases hc
 |loop c=>simp only[aP,Qb]at hc;obtain⟨_,_,hc⟩:=hc;cases hc
 |rangeFunc g ps x y=>simp only[aP]at hc;split at hc<;>(try split at hc)<;>cases hc
 |_=>simp only[aP]at hc<;>cases hc
theorem agR{Γs:Nat->pM}(hΓ:∀i,oP P (Γs i)){un:List (Nat×Nat)}{gs:List SG}{S':St}(hr:Pj Γs S.N un gs {S with N:=S.N+gs.length}=some S')(h:Q .normal S'):VS P nt (.vr un gs) Q S:=by
 intro c hs hc
 cases c with
 |region id ops d=>
  cases d with
  |false=>simp only[aP]at hc;(try split at hc)<;>(try split at hc)<;>(try split at hc)<;>cases hc
  |true=>
   simp only[aP]at hc;split at hc
   ·rename_i gs' hgs;split at hc
    ·rename_i hd;split at hc
     ·rename_i un' hun;injection hc with hc
      injection hc with h1 h2
      subst h1 h2;rw[Qm]at hd;exact ah0 hΓ hd.2 hgs (Vc hd.1) hun hr h
     ·cases hc
    ·cases hc
   ·cases hc
 |seq x y=>simp only[aP]at hc;split at hc<;>cases hc
 |cond c x y=>simp only[aP]at hc;split at hc<;>cases hc
 |block id c=>simp only[aP,Qb]at hc;obtain⟨_,_,hc⟩:=hc;cases hc
 |loop c=>simp only[aP,Qb]at hc;obtain⟨_,_,hc⟩:=hc;cases hc
 |rangeFunc g ps x y=>simp only[aP]at hc;split at hc<;>(try split at hc)<;>cases hc
 |_=>simp only[aP]at hc<;>cases hc
def ev(P:Program)(nt:Nat)(Γ:pM):SC->(Exit->St->Prop)->St->Prop
 | .skip,Q,S=>Q .normal S
 | .ze gs,Q,S=>match B5 Γ S.N gs {S with N:=S.N+gs.length}with|some S'=>Q .normal S'|none=>False
 | .vr un gs,Q,S=>match Pj (fun _=>Γ) S.N un gs {S with N:=S.N+gs.length}with|some S'=>Q .normal S'|none=>False
 | .seq x y,Q,S=>ev P nt Γ x (Pd (ev P nt Γ y Q) Q) S
 | .cond c x y,Q,S=>match c.val S with| .bool b=>(b=true->ev P nt Γ x Q S)/\(b=false->ev P nt Γ y Q S)| .gS=>ev P nt Γ x Q S/\ev P nt Γ y Q S|_=>False
 | .block id c,Q,S=>ev P nt Γ c (FX id Q) S
 | .loop c,Q,S=>VS P nt (.loop c) Q S
 | .Hv g ps x y,Q,S=>VS P nt (.Hv g ps x y) Q S
 | .exit id,Q,S=>Q (.exit id) S
 | .ret,Q,S=>Q .ret S
inductive RV where
 |tmp (t:Nat)
 |cell (t:Nat) (n:Option Nat)
def mM(P:Program):List ResultVar->Option (List RV)
 |[]=>some []
 | .tmp t::rs=>(mM P rs).map (.tmp t::·)
 | .cell t ty::rs=>match ur P ty,mM P rs with
  |some n,some rs'=>some (.cell t n::rs')
  |_,_=>none
def Db(S:St):RV->Option PV
 | .tmp t=>some (S.env t)
 | .cell t n=>match S.env t with
  | .ptr id av off=>if(S.H id).av=av then(match(S.H id).c with| .box cs=>uC n (cs.drop off)|_=>none)else none
  |_=>none
def yc(S:St):List RV->Option (List PV)
 |[]=>some []
 |r::rs=>match Db S r,yc S rs with
  |some x,some xs=>some (x::xs)
  |_,_=>none
def wb(S:St)(rs:List RV):Option PV:=
 match yc S rs with
 |some [x]=>some x
 |some xs=>some (.eo xs)
 |none=>none
def dX(pos:Nat)(recv:Bool)(cs args:List PV):St:=
 {env:=fun t=>((jF pos (if recv then[.ptr 0 0 0]else[]) args)[t]?).getD .undef,H:=fun id=>if recv=true/\id=0 then⟨0,.box cs⟩else⟨0,.dead⟩,N:=if recv then 1 else 0}
abbrev St0:=dX 0
theorem UN{α:Type}(p:Nat)(x l:List α):(jF p x l).length=x.length+l.length:=by
 simp only[jF,QB,List.length_take,List.length_drop];omega
def CA(rs:List RV)(recv:Bool)(R:PV->List PV->Prop)(S:St):Prop:=
 match wb S rs with
 |some x=>match recv with
  |true=>match S.H 0 with
   |⟨0,.box cs'⟩=>cs'.all PV.closed=true/\R (fz S.H (some 0) 9 x) cs'
   |_=>False
  |false=>R (fz S.H none 9 x) []
 |none=>False
def abk(rs:List RV)(recv:Bool)(R:PV->List PV->Prop):Exit->St->Prop
 | .ret,S=>CA rs recv R S
 | .normal,S=>CA rs recv R S
 |_,_=>False
theorem V7{E:En}{a:Act}{w:World}{L:Nat->Value}(h:Rel E S a w L){rv:ResultVar}{r:RV}{x:PV}(hc:mM P [rv]=some [r])(hx:Db S r=some x):
  ∃v,(match rv with| .tmp t=>pure (a.tmps.getD t undef)| .cell ad t=>do loadVar t (<-asAddr (a.tmps.getD ad undef)):Sem Value).run P w= .ok v w/\bm w (bu E S L) (S.gh L) x v:=by
 cases rv with
 |tmp t=>
  simp only[mM,Qe,Qf,List.cons.injEq,and_true]at hc;subst hc;simp only[Db,Qf]at hx;subst hx;exact⟨_,rfl,h.env t⟩
 |cell t ty=>
  simp only[mM]at hc;split at hc
  ·rename_i n rs' hn hrs;injection hc with hc
   injection hc with h1 h2
   subst h1 h2;simp only[Db]at hx;split at hx
   ·rename_i id av off e;split at hx
    ·rename_i hver;split at hx
     ·rename_i cs hcc;have r:=h.env t;rw[e]at r;obtain⟨hN,_⟩:=r.ud (show(S.gh L).V id=av from hver)
      obtain⟨b,hv,hL⟩:=h.uU r hver hcc;obtain⟨b',cur,T,hL',hh,hr,_⟩:=h.tQ hN hcc;rw[hL]at hL';simp only[Value.pointer.injEq,Qf,Addr.mk.injEq]at hL';obtain⟨rfl,_⟩:=hL';obtain⟨v,hrun,hx'⟩:=J4 (P:=P) (ad:=⟨b,off,none⟩) hn (hr.drop off) (fun i u hu=>by rw[add_mid];exact qW hh (ig hu)) hx
      exact⟨v,by simp[hv,asAddr,hrun],hx'⟩
     ·cases hx
    ·cases hx
   ·cases hx
  ·cases hc
theorem Ir{E:En}{a:Act}{w:World}{L:Nat->Value}(h:Rel E S a w L):∀(rvs:List ResultVar) (rs:List RV) (xs:List PV),mM P rvs=some rs->yc S rs=some xs->
  ∃vs,(rvs.mapM fun| .tmp t=>pure (a.tmps.getD t undef)| .cell ad t=>do loadVar t (<-asAddr (a.tmps.getD ad undef)):Sem (List Value)).run P w= .ok vs w/\bj w (bu E S L) (S.gh L) xs vs
 |[],rs,xs,hc,hx=>by
  simp only[mM,Qf]at hc;subst hc;simp only[yc,Qf]at hx;subst hx;exact⟨[],by simp,.nil⟩
 |rv::rvs,rs,xs,hc,hx=>by
  have hsp:∃r rs',rs=r::rs'/\mM P [rv]=some [r]/\mM P rvs=some rs':=by
   cases rv with
   |tmp t=>
    simp only[mM,Qb]at hc;obtain⟨rs',h1,rfl⟩:=hc;exact⟨_,rs',rfl,rfl,h1⟩
   |cell t ty=>
    simp only[mM]at hc;split at hc
    ·rename_i n rs' hn hrs;injection hc with hc
     subst hc;exact⟨_,rs',rfl,by simp[mM,hn],hrs⟩
    ·cases hc
  obtain⟨r,rs',rfl,h1,h2⟩:=hsp;simp only[yc]at hx;split at hx
  ·rename_i x xs' hx1 hx2;injection hx with hx
   subst hx;obtain⟨v,hv,hr⟩:=V7 h h1 hx1;obtain⟨vs,hvs,hrs⟩:=Ir h rvs rs' xs' h2 hx2;refine⟨v::vs,?_,.cons hr hrs⟩;simp only[Qq75,Sem.run_bind]
   erw [hv]
   simp only[Result.andThen_ok]
   erw [hvs]
   rfl
  ·cases hx
theorem EL{E:En}{a:Act}{w:World}{L:Nat->Value}(h:Rel E S a w L){fn:Func}{rs:List RV}{x:PV}(hc:mM P fn.results.toList=some rs)(hx:wb S rs=some x):
  ∃v,(results fn a.tmps).run P w= .ok v w/\bm w (bu E S L) (S.gh L) x v:=by
 unfold wb at hx
 cases hl:yc S rs with
 |none=>rw[hl]at hx;cases hx
 |some xs=>
  rw[hl]at hx;obtain⟨vs,hvs,hr⟩:=Ir h _ _ _ hc hl
  have hrun:(results fn a.tmps).run P w= .ok (if h:vs.toArray.size=1 then vs.toArray[0]else .tuple vs.toArray) w:=by
   unfold results;rw[Array.mapM_eq_mapM_toList];simp only[Sem.run_bind,map_eq_pure_bind]
   erw [hvs]
   rfl
  refine⟨_,hrun,?_⟩
  match xs,vs,hr,hx with
  |[],vs,hr,hx=>
   injection hx with hx
   subst hx;have:=hr.oZ;subst this;exact .eo _ _ hr.1 hr.2
  |[y],vs,hr,hx=>
   injection hx with hx
   subst hx;obtain⟨v,vs',rfl,h1,h2⟩:=hr.cons_inv;have:=h2.oZ;subst this;exact h1
  |y::z::ys,vs,hr,hx=>
   injection hx with hx
   subst hx;obtain⟨v,vs',rfl,h1,h2⟩:=hr.cons_inv;obtain⟨u,us,rfl,h3,h4⟩:=h2.cons_inv;rw[dif_neg (by simp)]
   exact .eo _ _ hr.1 hr.2
theorem CW{w w':World}(h:w.heap=#[]):DS w w':=⟨by rw[h];exact QS _,fun k o hk _=>by rw[h]at hk;simp at hk⟩
theorem Rel.shut{E:En}{S:St}{a:Act}{w:World}{L:Nat->Value}(h:Rel E S a w L)(hwk:E.wk.heap=#[]){d:Deferred}{ds:List Deferred}(hd:a.defers=d::ds):
  ∃D w',d.target= .collected D/\(Instr.takeDeferred D).run P w= .ok [] w'/\Rel E S {a with defers:=ds} w' L:=by
 have hnd:=h.defers.nodup;rw[hd,List.nodup_cons]at hnd;obtain⟨D,h1,h2,h3⟩:=h.defers.at_ d (by rw[hd];exact Qx)
 have hoth:∀k,k≠D->(w.putObj D (.deferred none)).heap[k]?=w.heap[k]?:=fun k hk=>World.putObj_heap_other hk
 have hcell:∀(p:Addr) (v:Value),w.cell? p=some v->p.block≠D:=by
  intro p v hp e;unfold World.cell? at hp;rw[e,h3]at hp;simp at hp
 have hs:dW w (w.putObj D (.deferred none)) (bu E S L) (bu E S L):=⟨fun p v hp hm=>⟨(World.cell?_of_block (hoth _ (hcell p v hp))).trans hp,hm⟩,fun b es ck hb hm=>⟨(hoth b (fun e=>by rw[e,h3]at hb;cases hb)).trans hb,hm⟩⟩
 have hne:∀id b,id<S.N->(S.H id).c.live=true->cp (L id)=some b->b≠D:=by
  intro id b hid hl hb e;obtain⟨o,h4,h5⟩:=(h.obj id hid).cells hl hb;rw[e,h3]at h4;injection h4 with h4
  rw[<-h4]at h5;cases h5
 refine⟨D,w.putObj D (.deferred none),by rw[h1],run_takeDeferred h3,⟨fun e=>(by have:=h.defers.none e;rw[hd]at this;cases this),hnd.2,fun d' hd'=> ?_⟩,h.size,fun t=>(h.env t).mono hs (Gh.le.refl _),fun id hid=> ?_,h.apart,h.fresh,
  ⟨⟨h.fr.os,h.fr.tape,h.fr.output,by rw[World.putObj_size];exact h.fr.size,fun b hb hr=>by rw[hoth b (by omega)];exact h.fr.block b hb hr,h.fr.drawn⟩,CW hwk⟩,h.De⟩
 ·obtain⟨D',h4,h5,h6⟩:=h.defers.at_ d' (by rw[hd];exact Qy _ hd')
  have hDD:D'≠D:=by
   intro e;subst e;rw[<-h1]at h4;exact hnd.1 (h4▸hd')
  exact⟨D',h4,h5,by rw[hoth _ hDD];exact h6⟩
 ·cases hl:(S.H id).c.live with
  |false=>
   cases hc:(S.H id).c with
   |dead=>trivial
   |box cs=>rw[hc]at hl;cases hl
   |row e k es=>rw[hc]at hl;cases hl
  |true=>exact(h.obj id hid).mono hs (Gh.le.refl _) (fun b hb _=>hoth b (hne id b hid hl hb))
theorem La{E:En}{S:St}{L:Nat->Value}(hwk:E.wk.heap=#[]){fn:Func}{R:Ending->World->Prop}{tmps:Array Value}(hR:∀w',Rel E S {tmps:=tmps,defers:=[]} w' L->∃v,(results fn tmps).run P w'= .ok v w'/\R (.returned v) w'):
  ∀(ds:List Deferred) (w:World),Rel E S {tmps:=tmps,defers:=ds} w L->LeavesInM (WF none) 0 P fn tmps R ds .returning w
 |[],w,h=>hR w h
 |d::ds,w,h=>by
  obtain⟨D,w',h1,h2,h3⟩:=Rel.shut (P:=P) h hwk rfl;exact⟨(fun e=>by cases e),.inl ⟨D,w',h1,h2,La hwk hR ds w' h3⟩⟩
theorem Ez{f:FuncId}{fn:Func}{c:Code}{E:En}{S0:St}{Q:Exit->St->Prop}{args:Array Value}{w:World}{L:Nat->Value}{R:Ending->World->Prop}(hf:P.funcs[f]?=some fn)(hb:fn.body=some c)(h:V P fn.ntmps c Q S0)
  (hE:E.nt=fn.ntmps) (hrd:E.rd=none/\E.nd=false) (hkt:∀t,E.kt t=none) (hwk:E.wk.heap=#[]) (hrel:Rel E S0 {tmps:=args++Array.replicate (fn.ntmps - args.size) undef,defers:=[]} w L)
  (fin:∀(e:Exit) (S':St) (L':Nat->Value) (a':Act) (w':World),Rel E S' a' w' L'->Q e S'->(e= .ret\/e= .normal)/\∃v,(results fn a'.tmps).run P w'= .ok v w'/\R (.returned v) w'):Calls P f args w R:=by
 have h0:=h E hE ⟨fun t _=>hkt t,.inl hrd⟩ _ w L hrel
 rw[hrd.1]at h0;refine OJ.1 (callsIn_of_wp_marks (F:=WF none) (n:=0) hf hb trivial (wpIn_mono h0 ?_));rintro e a' w' ⟨S',L',h1,h2⟩
 have h3:LeavesInM (WF none) 0 P fn a'.tmps R a'.defers .returning w':=
  La hwk (fun w'' hw''=>(fin e S' L' _ w'' hw'' h2).2) a'.defers w' h1
 rcases(fin e S' L' a' w' h1 h2).1 with rfl|rfl<;>exact h3
theorem aaH{f:FuncId}{fn:Func}{c:Code}{sc:SC}{rs:List RV}{pos:Nat}{recv:Bool}{cs args cs':List PV}{r:PV}(hf:P.funcs[f]?=some fn)(hb:fn.body=some c){hs:List Nat}(hc:aP P fn.ntmps hs c=some sc)(hrs:mM P fn.results.toList=some rs)
  (hlen:(if recv then 1 else 0)+args.length<=fn.ntmps) (h:VS P fn.ntmps sc (abk rs recv fun r' cs''=>r'=r/\(recv=true->cs''=cs')) (dX pos recv cs args)):Kk P f pos recv cs args r cs':=by
 intro w X hX rb T rvs vs hrecv hargs
 have hrb0:∀b,(if recv then some rb else none)=some b->b<w.heap.size:=by
  intro b hb
  cases recv with
  |false=>cases hb
  |true=>
   simp only[Qt,Qf]at hb;subst hb;exact(Q9.1 (hrecv rfl).1).1
 let E:En:={w0:=w,rb:=if recv then some rb else none,nt:=fn.ntmps,X:=X,hX:=hX,Ms:=recv,rv:= .pointer (some ⟨rb,0,none⟩),rk:=false,Oi:=hrb0,UT:=fun h=>(by cases h),rd:=none,nd:=false,kt:=fun _=>none,wk:={w with heap:=#[]}}
 let L:Nat->Value:=fun _=> .pointer (some ⟨rb,0,none⟩)
 have hvl:vs.length=args.length:=hargs.1
 have hm:∀b,bu E (dX pos recv cs args) L b->Mc recv rb X b:=by
  rintro b (⟨id,hid,hl,hb⟩|hb)
  ·simp only[dX]at hid hl
   cases recv with
   |false=>simp at hid
   |true=>
    simp only[L,cp,Qf]at hb;exact .inl ⟨rfl,hb.symm⟩
  ·exact .inr hb
 have hm':∀b,Mc recv rb X b->bu E (dX pos recv cs args) L b:=by
  rintro b (⟨h1,h2⟩|hb)
  ·subst h2;exact .inl ⟨0,by simp[dX,h1],by simp[dX,h1,yD.live],rfl⟩
  ·exact .inr hb
 have hst:dW w w (Mc recv rb X) (bu E (dX pos recv cs args) L):=(dW.of fun _ hn=>fun h'=>hn (hm _ h'))
 have hrel:Rel E (dX pos recv cs args) {tmps:=(jF pos (uB recv rb) vs).toArray++Array.replicate (fn.ntmps - (jF pos (uB recv rb) vs).toArray.size) undef,defers:=[]} w L:=by
  refine⟨Marks.nil rfl,⟨?_,fun t v hv=>by cases hv⟩,fun t=> ?_,fun id hid=> ?_,fun i j b hi hj _ _ _ _=> ?_,fun id hid=> ?_,⟨Fr.refl _ _,CW rfl⟩,fun _ _ _=>rfl⟩
  ·cases recv<;>simp[uB,E,UN]at hlen ⊢<;>omega
  ·have hget:(((jF pos (uB recv rb) vs).toArray++Array.replicate (fn.ntmps - (jF pos (uB recv rb) vs).toArray.size) undef).getD t undef)=((jF pos (uB recv rb) vs)[t]?).getD undef:=by
    rw[QN,Array.getElem?_append]
    by_cases ht:t<(jF pos (uB recv rb) vs).toArray.size
    ·rw[Qr ht];simp
    ·rw[Qs ht,Array.getElem?_replicate];have hn:(jF pos (uB recv rb) vs)[t]?=none:=Qq72 (by simpa using ht)
     rw[hn];split<;>rfl
   simp only;rw[hget]
   have hall:bj w (bu E (dX pos recv cs args) L) ((dX pos recv cs args).gh L) (jF pos (if recv then[.ptr 0 0 0]else[]) args) (jF pos (uB recv rb) vs):=by
    have ha:=hargs.mono hst (dw.le ((dX pos recv cs args).gh L));refine((ha.take pos).append ?_).append (ha.drop pos)
    cases recv with
    |false=>exact .nil
    |true=>
     simp only[uB,Qt];exact .cons (.ptr _ _ _ _ (by simp[St.gh,dX]) (QS _) (fun _=>by simp[St.gh,L,cp])) .nil
   show bm w _ _ (((jF pos (if recv then[.ptr 0 0 0]else[]) args:List PV)[t]?).getD .undef) _
   cases hx:(jF pos (if recv then[.ptr 0 0 0]else[]) args:List PV)[t]? with
   |none=>
    have:(jF pos (uB recv rb) vs)[t]?=none:=by
     rw[List.getElem?_eq_none_iff]at hx ⊢;rw[hall.1];exact hx
    rw[this];exact .undef
   |some x=>
    obtain⟨v,hv,hr⟩:=hall.get hx;rw[hv];exact hr
  ·cases recv with
   |false=>simp[dX]at hid
   |true=>
    simp[dX]at hid;subst hid;obtain⟨h1,h2⟩:=hrecv rfl;have e:((dX pos true cs args).H 0).c= .box cs:=by simp[dX]
    rw[e];exact⟨rb,rvs.toArray,T,rfl,h1,.inl (by simp[E]),by simpa using h2.mono hst (dw.le ((dX pos true cs args).gh L))⟩
  ·cases recv with
   |false=>simp[dX]at hi
   |true=>simp[dX]at hi hj;omega
  ·cases recv with
   |false=>simp[dX]
   |true=>simp[dX]at hid ⊢;omega
 have fin:∀(S':St) (L':Nat->Value) (a':Act) (w':World),Rel E S' a' w' L'->CA rs recv (fun r' cs''=>r'=r/\(recv=true->cs''=cs')) S'->
   ∃v,(results fn a'.tmps).run P w'= .ok v w'/\XJ recv rb X w r cs' (.returned v) w':=by
  intro S' L' a' w' h' hret;unfold CA at hret;split at hret
  ·rename_i x hx;obtain⟨v,hv,hrep⟩:=EL h' hrs hx;refine⟨v,hv,?_⟩
   cases recv with
   |false=>
    simp only[Qq,false_implies,and_true]at hret;subst hret;refine⟨v,[],rfl,?_,(fun hq=>by cases hq),h'.fr.toFr⟩
    refine h'.fz (fun b hb=> ?_) (fun id b hid hl _ hb hq=> ?_) 9 hrep
    ·rcases hb with⟨hb,_⟩|hb
     ·cases hb
     ·exact .inr hb
    ·rcases hq with⟨hq,_⟩|hq
     ·cases hq
     ·rcases((h'.obj id hid).zT hl hb).2 with h1|h1
      ·simp[E]at h1
      ·have:=hX b hq;simp only[E]at h1;omega
   |true=>
    simp only at hret;split at hret
    ·rename_i cs'' hH;obtain⟨hcl,rfl,hcs⟩:=hret;have hcs:=hcs trivial;subst hcs
     have hN0:0<S'.N:=by
      rcases Nat.eq_zero_or_pos S'.N with h0|h0
      ·have:=h'.fresh 0 (by omega)
       rw[hH]at this;cases this
      ·exact h0
     have hL0:L' 0= .pointer (some ⟨rb,0,none⟩):=h'.De rfl (by rw[hH];rfl) (by rw[hH])
     obtain⟨b,cur,T',hL',hh,hr,_⟩:=h'.tQ hN0 (show(S'.H 0).c= .box cs'' by rw[hH])
     rw[hL0]at hL';simp only[Value.pointer.injEq,Qf,Addr.mk.injEq]at hL';obtain⟨rfl,_⟩:=hL'
     have hsub:∀q,Mc true rb X q->bu E S' L' q:=by
      rintro q (⟨_,rfl⟩|hq)
      ·exact .inl ⟨0,hN0,by rw[hH];rfl,by rw[hL0];rfl⟩
      ·exact .inr hq
     refine⟨v,cur.toList,rfl,?_,fun _=>⟨?_,hr.closed hcl hsub⟩,h'.fr.toFr⟩
     ·refine h'.fz hsub (fun id b hid hl hne hb hq=> ?_) 9 hrep
      have hnb:b≠rb:=fun e=>hne (by rw[h'.apart id 0 b hid hN0 hl (by rw[hH];rfl) hb (by rw[hL0,e];rfl)])
      rcases hq with⟨_,hq⟩|hq
      ·exact hnb hq
      ·rcases((h'.obj id hid).zT hl hb).2 with h1|h1
       ·simp only[E,Qt,Qf]at h1;exact hnb h1.symm
       ·have:=hX b hq;simp only[E]at h1;omega
     ·exact⟨T',by simpa using hh⟩
    ·exact hret.elim
  ·exact hret.elim
 exact Ez hf hb (h c hs hc) rfl ⟨rfl,rfl⟩ (fun _=>rfl) rfl hrel fun e S' L' a' w' h1 h2=>by
  cases e with
  |normal=>exact⟨.inr rfl,fin S' L' a' w' h1 h2⟩
  |ret=>exact⟨.inl rfl,fin S' L' a' w' h1 h2⟩
  |exit i=>exact h2.elim
  |goto l=>exact h2.elim
  |panic c=>exact h2.elim
  |outgrown=>exact h2.elim
def Um(rs:List RV)(R:List PV->Prop):Exit->St->Prop
 | .ret,S=>match wb S rs with
  |some (.ptr id av 0)=>if(S.H id).av=av then(match(S.H id).c with| .box cs=>cs.all PV.closed=true/\R cs|_=>False)else False
  |_=>False
 |_,_=>False
theorem ae4{f:FuncId}{fn:Func}{c:Code}{sc:SC}{rs:List RV}{args cs:List PV}(hf:P.funcs[f]?=some fn)(hb:fn.body=some c){hs:List Nat}(hc:aP P fn.ntmps hs c=some sc)(hrs:mM P fn.results.toList=some rs)
  (hlen:args.length<=fn.ntmps) (h:VS P fn.ntmps sc (Um rs fun cs'=>cs'=cs) (dX 0 false [] args)):Zg P f args cs:=by
 intro w X hX vs hargs
 let E:En:={w0:=w,rb:=none,nt:=fn.ntmps,X:=X,hX:=hX,Ms:=false,rv:=undef,rk:=false,Oi:=fun b hb=>(by cases hb),UT:=fun h=>(by cases h),rd:=none,nd:=false,kt:=fun _=>none,wk:={w with heap:=#[]}}
 let L:Nat->Value:=fun _=> .pointer none
 have hst:dW w w X (bu E (dX 0 false [] args) L):=(dW.of fun _ hn h'=>hn (by
  rcases h' with⟨id,hid,_⟩|h'
  ·simp[dX]at hid
  ·exact h'))
 have hvl:vs.length=args.length:=hargs.1
 have hrel:Rel E (dX 0 false [] args) {tmps:=vs.toArray++Array.replicate (fn.ntmps - vs.toArray.size) undef,defers:=[]} w L:=by
  refine⟨Marks.nil rfl,⟨?_,fun t v hv=>by cases hv⟩,fun t=> ?_,fun id hid=> ?_,fun i j b hi hj _ _ _ _=> ?_,fun id hid=> ?_,⟨Fr.refl _ _,CW rfl⟩,fun hb _ _=>(by cases hb)⟩
  ·simp[E];omega
  ·have hget:((vs.toArray++Array.replicate (fn.ntmps - vs.toArray.size) undef).getD t undef)=(vs[t]?).getD undef:=by
    rw[QN,Array.getElem?_append]
    by_cases ht:t<vs.toArray.size
    ·rw[Qr ht];simp
    ·rw[Qs ht,Array.getElem?_replicate];have hn:vs[t]?=none:=Qq72 (by simpa using ht)
     rw[hn];split<;>rfl
   simp only;rw[hget];have ha:=hargs.mono hst (dw.le ((dX 0 false [] args).gh L));show bm w _ _ ((([]++args:List PV)[t]?).getD .undef) _;rw[List.nil_append]
   cases hx:args[t]? with
   |none=>
    have:vs[t]?=none:=by
     rw[List.getElem?_eq_none_iff]at hx ⊢;omega
    rw[this];exact .undef
   |some x=>
    obtain⟨v,hv,hr⟩:=ha.get hx;rw[hv];exact hr
  ·simp[dX]at hid
  ·simp[dX]at hi
  ·simp[dX]
 refine Ez hf hb (h c hs hc) rfl ⟨rfl,rfl⟩ (fun _=>rfl) rfl hrel fun e S' L' a' w' h' hq=> ?_
 cases e with
 |ret=>
  simp only[Um]at hq;split at hq
  ·rename_i id av hx;split at hq
   ·rename_i hver;split at hq
    ·rename_i cs' hcc;obtain⟨hcl,rfl⟩:=hq;obtain⟨v,hv,hrep⟩:=EL h' hrs hx;obtain⟨hN,_⟩:=hrep.ud (show(S'.gh L').V id=av from hver)
     obtain⟨b,hvb,hL⟩:=h'.uU hrep hver hcc;obtain⟨b',cur,T,hL',hh,hr,hE⟩:=h'.tQ hN hcc;rw[hL]at hL';simp only[Value.pointer.injEq,Qf,Addr.mk.injEq]at hL';obtain⟨rfl,_⟩:=hL';refine⟨.inl rfl,v,hv,b,cur.toList,T,by rw[hvb],?_,by simpa using hh,?_,h'.fr.toFr⟩
     ·rcases hE with h1|h1
      ·simp[E]at h1
      ·exact h1
     ·refine hr.closed hcl ?_;rintro q (hq|rfl)
      ·exact .inr hq
      ·exact .inl ⟨id,hN,by rw[hcc];rfl,by rw[hL];rfl⟩
    ·exact hq.elim
   ·exact hq.elim
  ·exact hq.elim
 |normal=>exact hq.elim
 |exit i=>exact hq.elim
 |goto l=>exact hq.elim
 |panic c=>exact hq.elim
 |outgrown=>exact hq.elim
def vF(e k:Nat)(es:List (List PV))(args:List PV):St:=
 {env:=fun t=>((.own 0 0::args)[t]?).getD .undef,H:=fun id=>if id=0 then⟨0,.row e k es⟩else⟨0,.dead⟩,N:=1}
def EK(rs:List RV)(e k:Nat)(R:List (List PV)->Prop):Exit->St->Prop
 | .ret,S| .normal,S=>match wb S rs with
  |some (.own id av)=>(S.H id).av=av/\(match(S.H id).c with
   | .row e' k' es'=>e'=e/\k'=k/\BA es'=true/\R es'
   |_=>False)
  |_=>False
 |_,_=>False
theorem Zx{fn:Func}{e k:Nat}{es:List (List PV)}{args:List PV}{w:World}{X:Nat->Prop}(hX:∀b,X b->b<w.heap.size){v:Value}{vs:List Value}(hXn:∀b,cp v=some b->¬X b)(hrow:zW w (Mv v X) e k v es)(hargs:bj w (Mv v X) dw args vs)(hlen:1+args.length<=fn.ntmps):
  ∃E:En,E.w0=w/\E.rb=cp v/\E.nt=fn.ntmps/\E.X=X/\E.Ms=true/\E.rv=v/\(E.rd=none/\E.nd=false)/\(∀t,E.kt t=none)/\E.wk.heap=#[]/\
   Rel E (vF e k es args) {tmps:=(v::vs).toArray++Array.replicate (fn.ntmps - (v::vs).toArray.size) undef,defers:=[]} w (fun _=>v):=by
 obtain⟨us,hown,hk,hr⟩:=hrow
 have hsz:∀b,cp v=some b->b<w.heap.size:=by
  intro b hb;rcases hown.2 with⟨rfl,_⟩|⟨g,cap,cur,rfl,_,hh,_⟩
  ·cases hb
  ·simp only[cp,Qf]at hb;subst hb;exact(Q9.1 hh).1
 let E:En:={w0:=w,rb:=cp v,nt:=fn.ntmps,X:=X,hX:=hX,Ms:=true,rv:=v,rk:=true,Oi:=hsz,UT:=fun _=>hXn,rd:=none,nd:=false,kt:=fun _=>none,wk:={w with heap:=#[]}}
 have hm:∀b,bu E (vF e k es args) (fun _=>v) b↔Mv v X b:=by
  intro b;constructor
  ·rintro(⟨id,hid,hl,hb⟩|hb)
   ·exact .inl hb
   ·exact .inr hb
  ·rintro(hb|hb)
   ·exact .inl ⟨0,by simp[vF],by simp[vF,yD.live],hb⟩
   ·exact .inr hb
 have hst:dW w w (Mv v X) (bu E (vF e k es args) (fun _=>v)):=(dW.of fun _ hn=>fun h'=>hn ((hm _).1 h'))
 obtain⟨ad,n0,c0,hvs⟩:∃ad n c,v= .slice ad n c:=by
  rcases hown.2 with⟨h1,_⟩|⟨g,cap,cur,h1,_⟩
  ·exact⟨_,_,_,h1⟩
  ·exact⟨_,_,_,h1⟩
 have hvl:vs.length=args.length:=hargs.1;refine⟨E,rfl,rfl,rfl,rfl,rfl,rfl,⟨rfl,rfl⟩,fun _=>rfl,rfl,⟨Marks.nil rfl,⟨?_,fun t v hv=>by cases hv⟩,fun t=> ?_,fun id hid=> ?_,fun i j b hi hj _ _ _ _=> ?_,fun id hid=> ?_,⟨Fr.refl _ _,CW rfl⟩,fun _ _ _=>rfl⟩⟩
 ·simp[E];omega
 ·have hget:(((v::vs).toArray++Array.replicate (fn.ntmps - (v::vs).toArray.size) undef).getD t undef)=((v::vs)[t]?).getD undef:=by
   rw[QN,Array.getElem?_append]
   by_cases ht:t<(v::vs).toArray.size
   ·rw[Qr ht];simp
   ·rw[Qs ht,Array.getElem?_replicate];have hn:(v::vs)[t]?=none:=Qq72 (by simpa using ht)
    rw[hn];split<;>rfl
  simp only;rw[hget]
  have hall:bj w (bu E (vF e k es args) (fun _=>v)) ((vF e k es args).gh (fun _=>v)) (.own 0 0::args) (v::vs):=by
   refine .cons ?_ (hargs.mono hst (dw.le _));rw[hvs];exact .own _ _ _ _ _ (by simp[St.gh,vF]) (QS _) (fun _=>rfl)
  show bm w _ _ (((.own 0 0::args:List PV)[t]?).getD .undef) _
  cases hx:((.own 0 0::args:List PV))[t]? with
  |none=>
   have:(v::vs)[t]?=none:=by
    rw[List.getElem?_eq_none_iff]at hx ⊢;rw[hall.1];exact hx
   rw[this];exact .undef
  |some x=>
   obtain⟨u,hu,hru⟩:=hall.get hx;rw[hu];exact hru
 ·have:id=0:=by simp[vF]at hid;exact hid
  subst this;have he:((vF e k es args).H 0).c= .row e k es:=by simp[vF]
  rw[he];refine⟨us,⟨hown.1,?_⟩,hk,hr.mono hst (dw.le _)⟩;rcases hown.2 with h1|⟨g,cap,cur,h1,_,h3⟩
  ·exact .inl h1
  ·refine .inr ⟨g,cap,cur,h1,?_,h3⟩;have hb:cp v=some g:=by rw[h1];rfl
   have:gH E v=0:=by
    unfold gH;rw[Qr ⟨rfl,by simp[E,hb],rfl⟩]
   rw[this];exact QS _
 ·simp[vF]at hi hj;omega
 ·simp[vF]at hid ⊢;omega
theorem WI{E:En}{S':St}{L':Nat->Value}{a':Act}{w':World}{X:Nat->Prop}(hEX:E.X=X)(h':Rel E S' a' w' L'){fn:Func}{rs:List RV}(hrs:mM P fn.results.toList=some rs){e k:Nat}{es':List (List PV)}(hret:EK rs e k (fun es''=>es''=es') .ret S'):
  ∃u,(results fn a'.tmps).run P w'= .ok u w'/\zW w' (Mv u X) e k u es'/\∀b,cp u=some b->E.rb=some b\/E.w0.heap.size<=b:=by
 simp only[EK]at hret;split at hret
 ·rename_i id av hx;obtain⟨hver,hret⟩:=hret;split at hret
  ·rename_i e0 k0 es0 hc;obtain⟨rfl,rfl,hok,rfl⟩:=hret;obtain⟨u,hu,hrep⟩:=EL h' hrs hx;obtain⟨hN,hv⟩:=hrep.nN (show(S'.gh L').V id=av from hver)
   have hv:u=L' id:=hv;subst hv;have hlive:(S'.H id).c.live=true:=by rw[hc];rfl
   obtain⟨us,hown,hk,hr⟩:=h'.k8 hN hc;refine⟨_,hu,⟨us,Dk hown,hk,hr.closed (EN hok) ?_⟩,fun b hb=>((h'.obj id hN).zT hlive hb).2⟩
   rintro q (hq|hq)
   ·exact .inl ⟨id,hN,hlive,hq⟩
   ·exact .inr (by rw[hEX];exact hq)
  ·exact hret.elim
 ·exact hret.elim
theorem ae6{f:FuncId}{fn:Func}{c:Code}{sc:SC}{rs:List RV}{e k:Nat}{es es':List (List PV)}{args:List PV}(hf:P.funcs[f]?=some fn)(hb:fn.body=some c){hs:List Nat}(hc:aP P fn.ntmps hs c=some sc)(hrs:mM P fn.results.toList=some rs)
  (hlen:1+args.length<=fn.ntmps) (h:VS P fn.ntmps sc (EK rs e k fun es''=>es''=es') (vF e k es args)):MN P f e k es args es':=by
 intro w X hX v vs hXn hrow hargs;obtain⟨E,e1,e2,e3,e4,e5,e6,e7,e8,e9,hrel⟩:=Zx (fn:=fn) hX hXn hrow hargs hlen;subst e1;refine Ez hf hb (h c hs hc) e3 e7 e8 e9 hrel fun en S' L' a' w' h1 h2=> ?_
 have fin:EK rs e k (fun es''=>es''=es') .ret S'->∃u,(results fn a'.tmps).run P w'= .ok u w'/\∃u',Ending.returned u= .returned u'/\zW w' (Mv u' X) e k u' es'/\(∀b,cp u'=some b->cp v=some b\/E.w0.heap.size<=b)/\Fr (cp v) E.w0 w':=by
  intro hret;obtain⟨u,hu,hrow',hub⟩:=WI e4 h1 hrs hret;refine⟨u,hu,u,rfl,hrow',?_,by rw[<-e2];exact h1.fr.toFr⟩
  rw[<-e2];exact hub
 cases en with
 |normal=>exact⟨.inr rfl,fin h2⟩
 |ret=>exact⟨.inl rfl,fin h2⟩
 |exit i=>exact h2.elim
 |goto l=>exact h2.elim
 |panic c=>exact h2.elim
 |outgrown=>exact h2.elim
theorem ae5{f:FuncId}{fn:Func}{c:Code}{sc:SC}{rs:List RV}{e k:Nat}{es':List (List PV)}{args:List PV}(hf:P.funcs[f]?=some fn)(hb:fn.body=some c){hs:List Nat}(hc:aP P fn.ntmps hs c=some sc)(hrs:mM P fn.results.toList=some rs)
  (hlen:args.length<=fn.ntmps) (h:VS P fn.ntmps sc (EK rs e k fun es''=>es''=es') (dX 0 false [] args)):VU P f args e k es':=by
 intro w X hX vs hargs
 let E:En:={w0:=w,rb:=none,nt:=fn.ntmps,X:=X,hX:=hX,Ms:=false,rv:=undef,rk:=false,Oi:=fun b hb=>(by cases hb),UT:=fun h=>(by cases h),rd:=none,nd:=false,kt:=fun _=>none,wk:={w with heap:=#[]}}
 let L:Nat->Value:=fun _=> .pointer none
 have hst:dW w w X (bu E (dX 0 false [] args) L):=(dW.of fun _ hn h'=>hn (by
  rcases h' with⟨id,hid,_⟩|h'
  ·simp[dX]at hid
  ·exact h'))
 have hvl:vs.length=args.length:=hargs.1
 have hrel:Rel E (dX 0 false [] args) {tmps:=vs.toArray++Array.replicate (fn.ntmps - vs.toArray.size) undef,defers:=[]} w L:=by
  refine⟨Marks.nil rfl,⟨?_,fun t v hv=>by cases hv⟩,fun t=> ?_,fun id hid=> ?_,fun i j b hi hj _ _ _ _=> ?_,fun id hid=> ?_,⟨Fr.refl _ _,CW rfl⟩,fun hb _ _=>(by cases hb)⟩
  ·simp[E];omega
  ·have hget:((vs.toArray++Array.replicate (fn.ntmps - vs.toArray.size) undef).getD t undef)=(vs[t]?).getD undef:=by
    rw[QN,Array.getElem?_append]
    by_cases ht:t<vs.toArray.size
    ·rw[Qr ht];simp
    ·rw[Qs ht,Array.getElem?_replicate];have hn:vs[t]?=none:=Qq72 (by simpa using ht)
     rw[hn];split<;>rfl
   simp only;rw[hget];have ha:=hargs.mono hst (dw.le ((dX 0 false [] args).gh L));show bm w _ _ ((([]++args:List PV)[t]?).getD .undef) _;rw[List.nil_append]
   cases hx:args[t]? with
   |none=>
    have:vs[t]?=none:=by
     rw[List.getElem?_eq_none_iff]at hx ⊢;omega
    rw[this];exact .undef
   |some x=>
    obtain⟨v,hv,hr⟩:=ha.get hx;rw[hv];exact hr
  ·simp[dX]at hid
  ·simp[dX]at hi
  ·simp[dX]
 refine Ez hf hb (h c hs hc) rfl ⟨rfl,rfl⟩ (fun _=>rfl) rfl hrel fun en S' L' a' w' h1 h2=> ?_
 have fin:EK rs e k (fun es''=>es''=es') .ret S'->∃u,(results fn a'.tmps).run P w'= .ok u w'/\∃u',Ending.returned u= .returned u'/\zW w' (Mv u' X) e k u' es'/\(∀b,cp u'=some b->w.heap.size<=b)/\Fr none w w':=by
  intro hret;obtain⟨u,hu,hrow',hub⟩:=WI (E:=E) rfl h1 hrs hret;refine⟨u,hu,u,rfl,hrow',fun b hbb=> ?_,h1.fr.toFr⟩
  rcases hub b hbb with h3|h3
  ·cases h3
  ·exact h3
 cases en with
 |normal=>exact⟨.inr rfl,fin h2⟩
 |ret=>exact⟨.inl rfl,fin h2⟩
 |exit i=>exact h2.elim
 |goto l=>exact h2.elim
 |panic c=>exact h2.elim
 |outgrown=>exact h2.elim
def kQ(P:Program)(f:FuncId)(nt:Nat)(sc:SC)(rs:List RV):Prop:=
 ∃fn hs,P.funcs[f]?=some fn/\fn.ntmps=nt/\(fn.body.bind (aP P nt hs))=some sc/\mM P fn.results.toList=some rs/\(fn.name== "runtime.NumGoroutine")=false
theorem kQ.enters{f:FuncId}{sc:SC}{rs:List RV}(h:kQ P f nt sc rs):Enters P f:=by
 obtain⟨fn,hs,h1,_,h3,_,h5⟩:=h;refine⟨fn,h1,?_,h5⟩
 cases hb:fn.body with
 |none=>rw[hb]at h3;cases h3
 |some c=>rfl
theorem kQ.Sk{f:FuncId}{sc:SC}{rs:List RV}(h:kQ P f nt sc rs){pos:Nat}{recv:Bool}{cs args cs':List PV}{r:PV}(hlen:(if recv then 1 else 0)+args.length<=nt)
  (hv:VS P nt sc (abk rs recv fun r' cs''=>r'=r/\(recv=true->cs''=cs')) (dX pos recv cs args)):Kk P f pos recv cs args r cs':=by
 obtain⟨fn,hs,h1,rfl,h3,h4,_⟩:=h
 cases hb:fn.body with
 |none=>rw[hb]at h3;cases h3
 |some c=>
  rw[hb]at h3;exact aaH h1 hb h3 h4 hlen hv
theorem kQ.aiS{f:FuncId}{sc:SC}{rs:List RV}(h:kQ P f nt sc rs){args cs:List PV}(hlen:args.length<=nt)
  (hv:VS P nt sc (Um rs fun cs'=>cs'=cs) (dX 0 false [] args)):Zg P f args cs:=by
 obtain⟨fn,hs,h1,rfl,h3,h4,_⟩:=h
 cases hb:fn.body with
 |none=>rw[hb]at h3;cases h3
 |some c=>
  rw[hb]at h3;exact ae4 h1 hb h3 h4 hlen hv
theorem kQ.aiU{f:FuncId}{sc:SC}{rs:List RV}(h:kQ P f nt sc rs){e k:Nat}{es es':List (List PV)}{args:List PV}(hlen:1+args.length<=nt)
  (hv:VS P nt sc (EK rs e k fun es''=>es''=es') (vF e k es args)):MN P f e k es args es':=by
 obtain⟨fn,hs,h1,rfl,h3,h4,_⟩:=h
 cases hb:fn.body with
 |none=>rw[hb]at h3;cases h3
 |some c=>
  rw[hb]at h3;exact ae6 h1 hb h3 h4 hlen hv
theorem kQ.aiT{f:FuncId}{sc:SC}{rs:List RV}(h:kQ P f nt sc rs){e k:Nat}{es':List (List PV)}{args:List PV}(hlen:args.length<=nt)
  (hv:VS P nt sc (EK rs e k fun es''=>es''=es') (dX 0 false [] args)):VU P f args e k es':=by
 obtain⟨fn,hs,h1,rfl,h3,h4,_⟩:=h
 cases hb:fn.body with
 |none=>rw[hb]at h3;cases h3
 |some c=>
  rw[hb]at h3;exact ae5 h1 hb h3 h4 hlen hv
def tab:List (FuncId×Model)->pM
 |[],_=>none
 |(g,m)::l,f=>if f=g then some m else tab l f
end
end
section
 def mkM{α:Type}(eu:α->List PV)(pre:α->Prop)(spec:α->PV):Model:=
 {recv:=false,pos:=0,fresh:=false,m:=fun _ args=>open Classical in if h:∃x,args=eu x/\pre x then some (spec (Classical.choose h),[])else none,rk:= .no,ro:=false,rm:=fun _ _=>none}
theorem aac{α:Type}{eu:α->List PV}{pre:α->Prop}{spec:α->PV}:(mkM eu pre spec).fresh=false:=rfl
theorem abW{α:Type}{eu:α->List PV}{pre:α->Prop}{spec:α->PV}:(mkM eu pre spec).recv=false:=rfl
@[simp] theorem ah7 {α:Type} (f:Nat->α) (i:Nat) (x:α) (j:Nat):bN f i x j=if j=i then x else f j:=rfl
@[simp] theorem aiD (g:FuncId) (m:Model) (l:List (FuncId×Model)) (f:FuncId):tab ((g,m)::l) f=if f=g then some m else tab l f:=rfl
@[simp] theorem aiW (S:St) (ts:List Nat) (n t:Nat):(S.cut ts n).env t=if t∈ts then S.env t else .any:=rfl
@[simp] theorem ai9 (S:St) (ts:List Nat) (n id:Nat):(S.cut ts n).H id=if id<n then S.H id else⟨0,.dead⟩:=rfl
@[simp] theorem ai8 (S:St) (ts:List Nat) (n:Nat):(S.cut ts n).N=n:=rfl
attribute [simp] ev B5 xf SG.wanted exec St.c6 bq.val St0 dX jF Pd abk CA FX ahz wb yc Db fz uC sx vp PV.cells PV.one PV.closed iW Kf Jv OP nu PV.uV PV.plain PV.qM PV.bE PV.wy lq
 Pj pz BT E2 FQ fX fo qo DB abW aac Um PV.lG
section
variable (n : Nat)
@[simp] theorem aij:PV.under n .any=true:=rfl
@[simp] theorem ag2:PV.under n .undef=true:=rfl
@[simp] theorem aif (k:IntKind) (i:Int):PV.under n (.int k i)=true:=rfl
@[simp] theorem ahc (b:Bool):PV.under n (.bool b)=true:=rfl
@[simp] theorem ag3:PV.under n .gS=true:=rfl
@[simp] theorem aia (s:ByteArray):PV.under n (.str s)=true:=rfl
@[simp] theorem ag9:PV.under n .lz=true:=rfl
@[simp] theorem ag8:PV.under n .et=true:=rfl
@[simp] theorem aic (cs:List PV):PV.under n (.ref cs)=true:=rfl
@[simp] theorem aiC (es:List (List PV)):PV.under n (.sl es)=true:=rfl
@[simp] theorem aie (i v:Nat):PV.under n (.own i v)=decide (i<n):=rfl
@[simp] theorem aid (i v o:Nat):PV.under n (.ptr i v o)=decide (i<n):=rfl
@[simp] theorem aha (i v k j o:Nat):PV.under n (.fg i v k j o)=decide (i<n):=rfl
@[simp] theorem ag7 (i v k j o:Nat):PV.under n (.view i v k j o)=decide (i<n):=rfl
@[simp] theorem aik (cs:List PV):PV.under n (.agg cs)=cs.all (PV.lG n):=rfl
@[simp] theorem ah9 (cs:List PV):PV.under n (.eo cs)=cs.all (PV.lG n):=rfl
@[simp] theorem aih (f:FuncId) (cs:List PV):PV.under n (.bG f cs)=cs.all (PV.lG n):=rfl
@[simp] theorem ahb:yD.under n .dead=true:=rfl
@[simp] theorem aii (cs:List PV):yD.under n (.box cs)=cs.all (PV.under n):=rfl
@[simp] theorem aib (e k:Nat) (es:List (List PV)):yD.under n (.row e k es)=es.all fun u=>u.all (PV.under n):=rfl
end
def Km:Nat->(Nat->Prop)->Prop
 |0,_=>True
 |n+1,p=>Km n p/\p n
theorem Jz{p:Nat->Prop}:∀{n:Nat},Km n p↔∀i,i<n->p i
 |0=>by simp[Km]
 |n+1=>by
  rw[Km,Jz];refine⟨fun h i hi=> ?_,fun h=>⟨fun i hi=>h i (by omega),h n (by omega)⟩⟩
  by_cases e:i=n
  ·rw[e];exact h.2
  ·exact h.1 i (by omega)
theorem aaE{S:St}{ts:List Nat}{n:Nat}:Ze S ts n↔n<=S.N/\(∀t∈ts,(S.env t).under n=true)/\Km n fun id=>(S.H id).c.under n=true:=
 ⟨fun h=>⟨h.N,h.env,Jz.2 h.H⟩,fun h=>⟨h.1,h.2.1,Jz.1 h.2.2⟩⟩
attribute [simp] aaE Km
theorem i64_in{n:Int}(h: -9223372036854775808<=n)(h':n<=9223372036854775807):IntKind.i64.wrap n=n:=by
 rw[IntKind.wrap_i64];omega
end
section
structure TU where
 Ty:Type
 Xs:DecidableEq Ty
 den:Ty->Type
 pv:(t:Ty)->den t->List PV
 size:Ty->Nat
 agg:Ty->Bool
 plain:Ty->Bool
inductive KV (U:TU) where
 |any
 |undef
 |int (k:IntKind) (n:Int)
 |bool (b:Bool)
 |gS
 |str (s:ByteArray)
 |lz
 |et
 |bG (f:FuncId) (caps:List (KV U))
 |jN (f:FuncId) (first:List (KV U))
 |agg (cs:List (KV U))
 |eo (cs:List (KV U))
 |ptr (id av off:Nat)
 |ref (cs:List (KV U))
 |sl (T:U.Ty) (xs:List (U.den T))
 |own (id av:Nat)
 |fg (id av k i off:Nat)
 |view (id av k lo n:Nat)
 |jc (A B:U.Ty) (xs:List (U.den A×U.den B))
def dx{U:TU}(T:U.Ty)(v:U.den T):PV:=
 match U.agg T with
 |true=> .agg (U.pv T v)
 |false=>(U.pv T v).headD .any
section
variable {U : TU}
mutual
def KV.pv:KV U->PV
 | .any=> .any
 | .undef=> .undef
 | .int k n=> .int k n
 | .bool b=> .bool b
 | .gS=> .gS
 | .str s=> .str s
 | .lz=> .lz
 | .et=> .et
 | .bG f cs=> .bG f (KV.Ee cs)
 | .jN f cs=> .jN f (KV.Ee cs)
 | .agg cs=> .agg (KV.Ee cs)
 | .eo cs=> .eo (KV.Ee cs)
 | .ptr id av off=> .ptr id av off
 | .ref cs=> .ref (KV.Ee cs)
 | .sl T xs=> .sl (xs.map (U.pv T))
 | .own id av=> .own id av
 | .fg id av k i off=> .fg id av k i off
 | .view id av k lo n=> .view id av k lo n
 | .jc A B xs=> .jc (xs.map fun p=>dx A p.1) (xs.map fun p=>dx B p.2)
def KV.Ee:List (KV U)->List PV
 |[]=>[]
 |x::l=>KV.pv x::KV.Ee l
end
theorem KV.cr:∀(l:List (KV U)),KV.Ee l=l.map KV.pv
 |[]=>by simp[KV.Ee]
 |x::l=>by simp[KV.Ee,KV.cr l]
inductive er (U:TU) where
 |dead
 |box (cs:List (KV U))
 |row (e k:Nat) (T:U.Ty) (xs:List (U.den T))
 |raw (e k:Nat) (es:List (List (KV U)))
structure dt (U:TU) where
 av:Nat
 c:er U
structure aZ (U:TU) where
 env:Nat->KV U
 H:Nat->dt U
 N:Nat
def er.pv:er U->yD
 | .dead=> .dead
 | .box cs=> .box (cs.map KV.pv)
 | .row e k T xs=> .row e k (xs.map (U.pv T))
 | .raw e k es=> .row e k (es.map fun c=>c.map KV.pv)
def dt.pv(o:dt U):gp:=⟨o.av,o.c.pv⟩
def aZ.st(S:aZ U):St:=⟨fun t=>(S.env t).pv,fun id=>(S.H id).pv,S.N⟩
def iC{α:Type}(f:Nat->α)(i:Nat)(x:α)(j:Nat):α:=
 match Nat.beq j i with
 |true=>x
 |false=>f j
theorem cW{α:Type}(f:Nat->α)(i:Nat)(x:α):iC f i x=bN f i x:=by
 funext j
 unfold iC bN;split
 ·rename_i h;rw[Qr (QF h)]
 ·rename_i h;rw[Qs (Nat.ne_of_beq_eq_false h)]
def aZ.c6(S:aZ U)(d:Option Nat)(x:KV U)(wr:Option (Nat×dt U)):aZ U:=
 {env:=match d with|some d=>iC S.env d x|none=>S.env,H:=match wr with|some (id,o)=>iC S.H id o|none=>S.H,N:=S.N}
def kK(p:Nat×dt U):Nat×gp:=(p.1,p.2.pv)
theorem qu{α β:Type}(g:α->β)(f:Nat->α)(i:Nat)(x:α):(fun j=>g (bN f i x j))=bN (fun j=>g (f j)) i (g x):=by
 funext j
 unfold bN;split<;>rfl
theorem Ia(S:aZ U)(d:Option Nat)(x:KV U)(wr:Option (Nat×dt U)):(S.c6 d x wr).st=S.st.c6 d x.pv (wr.map kK):=by
 unfold aZ.c6 St.c6 aZ.st;congr 1
 ·cases d with
  |none=>rfl
  |some d=>simp only[cW];exact qu _ _ _ _
 ·cases wr with
  |none=>rfl
  |some p=>obtain⟨i,o⟩:=p;simp only[cW,Qe,kK];exact qu _ _ _ _
abbrev Lk(U:TU):=Nat->Nat->(T:U.Ty)->Option (List (U.den T))
def Bq{U:TU}(T' T:U.Ty)(xs:List (U.den T')):Option (List (U.den T)):=
 match U.Xs T' T with
 |isTrue h=>some (h▸xs)
 |isFalse _=>none
theorem oN{T' T:U.Ty}{xs:List (U.den T')}{ys:List (U.den T)}(h:Bq T' T xs=some ys):∃e:T'=T,ys=e▸xs:=by
 unfold Bq at h;split at h
 ·rename_i e _;injection h with h;exact⟨e,h.symm⟩
 ·cases h
def aZ.lk(S:aZ U):Lk U:=fun id av T=>
 match Nat.beq (S.H id).av av with
 |true=>match(S.H id).c with
  | .row _ _ T' xs=>Bq T' T xs
  |_=>none
 |false=>none
def pC:Lk U:=fun _ _ _=>none
def acf(k:IntKind):KV U->Option Int
 | .int k' n=>if k'=k then some n else none
 |_=>none
def Jl:KV U->Option Bool
 | .bool b=>some b
 |_=>none
def acd:KV U->Option ByteArray
 | .str s=>some s
 |_=>none
def Vh(lk:Lk U)(T:U.Ty):KV U->Option (List (U.den T))
 | .et=>some []
 | .sl T' xs=>Bq T' T xs
 | .own id av=>lk id av T
 |_=>none
def YY{U:TU}(A' B' A B:U.Ty)(xs:List (U.den A'×U.den B')):Option (List (U.den A×U.den B)):=
 match U.Xs A' A with
 |isTrue h=>(match U.Xs B' B with
  |isTrue h'=>some (h▸h'▸xs)
  |isFalse _=>none)
 |isFalse _=>none
theorem YX{A' B' A B:U.Ty}{xs:List (U.den A'×U.den B')}{ys:List (U.den A×U.den B)}(h:YY A' B' A B xs=some ys):∃(e:A'=A) (e':B'=B),ys=e▸e'▸xs:=by
 unfold YY at h;split at h
 ·rename_i e _;split at h
  ·rename_i e' _;injection h with h;exact⟨e,e',h.symm⟩
  ·cases h
 ·cases h
def ace(A B:U.Ty):KV U->Option (List (U.den A×U.den B))
 | .jc A' B' xs=>YY A' B' A B xs
 |_=>none
inductive nK (lk:Lk U):KV U->PV->Prop where
 |int (k:IntKind) (n:Int):nK lk (.int k n) (.int k n)
 |bool (b:Bool):nK lk (.bool b) (.bool b)
 |str (s:ByteArray):nK lk (.str s) (.str s)
 |et:nK lk .et (.sl [])
 |sl (T:U.Ty) (xs:List (U.den T)):nK lk (.sl T xs) (.sl (xs.map (U.pv T)))
 |own (id av:Nat) (T:U.Ty) (xs:List (U.den T)) (h:lk id av T=some xs):nK lk (.own id av) (.sl (xs.map (U.pv T)))
 |jc (A B:U.Ty) (xs:List (U.den A×U.den B)):nK lk (.jc A B xs) (.jc (xs.map fun p=>dx A p.1) (xs.map fun p=>dx B p.2))
theorem aeX{lk:Lk U}{A B:U.Ty}{x:KV U}{xs:List (U.den A×U.den B)}(h:ace A B x=some xs):nK lk x (.jc (xs.map fun p=>dx A p.1) (xs.map fun p=>dx B p.2)):=by
 unfold ace at h;split at h
 ·obtain⟨e,e',rfl⟩:=YX h;subst e;subst e';exact .jc _ _ _
 ·cases h
theorem aeZ{lk:Lk U}{k:IntKind}{x:KV U}{n:Int}(h:acf k x=some n):nK lk x (.int k n):=by
 unfold acf at h;split at h
 ·split at h
  ·rename_i e;injection h with h;subst h e;exact .int _ _
  ·cases h
 ·cases h
theorem ae1{lk:Lk U}{x:KV U}{b:Bool}(h:Jl x=some b):nK lk x (.bool b):=by
 unfold Jl at h;split at h
 ·injection h with h;subst h;exact .bool _
 ·cases h
theorem aeW{lk:Lk U}{x:KV U}{s:ByteArray}(h:acd x=some s):nK lk x (.str s):=by
 unfold acd at h;split at h
 ·injection h with h;subst h;exact .str _
 ·cases h
theorem aeY{lk:Lk U}{T:U.Ty}{x:KV U}{xs:List (U.den T)}(h:Vh lk T x=some xs):nK lk x (.sl (xs.map (U.pv T))):=by
 unfold Vh at h;split at h
 ·injection h with h;subst h;exact .et
 ·obtain⟨e,rfl⟩:=oN h;subst e;exact .sl _ _
 ·exact .own _ _ _ _ h
 ·cases h
def PV.hU:PV->Bool
 | .int ..| .bool _| .str _| .sl _| .jc ..=>true
 |_=>false
inductive iM (lk:Lk U):List (KV U)->List PV->Prop where
 |nil:iM lk [] []
 |cons {x:KV U} {y:PV} {xs:List (KV U)} {ys:List PV} (h:nK lk x y) (t:iM lk xs ys):iM lk (x::xs) (y::ys)
structure TK (U:TU) where
 eu:(t:U.Ty)->U.den t->List (KV U)
 dec:(t:U.Ty)->Lk U->List (KV U)->Option (U.den t)
 TA:Nat->Option U.Ty
 sz:∀t v,(eu t v).map KV.pv=U.pv t v
 nr:∀t lk cs v,dec t lk cs=some v->iM lk cs (U.pv t v)
 len:∀t v,(U.pv t v).length=U.size t
 hU:∀t v y,y∈U.pv t v->y.hU=true
 one:∀t,U.agg t=false->U.size t=1
 plain:∀t,U.plain t=true->∀v y,y∈U.pv t v->y.plain=true
 Pt:U.Ty->Option (IntKind×IntKind)
 J7:∀t k l,Pt t=some (k,l)->U.agg t=true/\∀v,∃a b,eu t v=[.int k a,.int l b]
variable (K : TK U)
def xY(T:U.Ty)(v:U.den T):KV U:=
 match U.agg T with
 |true=> .agg (K.eu T v)
 |false=>(K.eu T v).headD .any
def yZ(lk:Lk U)(T:U.Ty)(x:KV U):Option (U.den T):=
 match U.agg T with
 |true=>(match x with| .agg cs=>K.dec T lk cs|_=>none)
 |false=>K.dec T lk [x]
theorem yG(T:U.Ty)(v:U.den T):(xY K T v).pv=dx T v:=by
 unfold xY dx;split
 ·simp only[KV.pv,KV.cr,K.sz]
 ·rename_i h;have h1:=K.len T v;rw[K.one T h]at h1;have h2:=K.sz T v
  cases he:K.eu T v with
  |nil=>rw[he]at h2;simp at h2;rw[h2]at h1;simp at h1
  |cons x l=>rw[he]at h2;rw[<-h2];rfl
def PV.dP:PV->Bool
 | .int ..| .bool _| .str _| .lz| .et| .any| .bG _ []=>true
 |_=>false
def KV.u0:PV->KV U
 | .int k n=> .int k n
 | .bool b=> .bool b
 | .str s=> .str s
 | .lz=> .lz
 | .et=> .et
 | .bG f []=> .bG f []
 |_=> .any
def bq.dP:bq->Bool
 | .tmp _=>true
 | .yO x=>x.dP
def bq.cY(S:aZ U):bq->KV U
 | .tmp t=>S.env t
 | .yO x=>KV.u0 x
theorem yL{S:aZ U}{x:bq}(h:x.dP=true):x.val S.st=(x.cY S).pv:=by
 cases x with
 |tmp t=>rfl
 |yO x=>
  simp only[bq.dP]at h;unfold PV.dP at h;split at h<;>first|rfl|(cases h)
def KV.cells:KV U->List (KV U)
 | .agg cs=>cs
 |x=>[x]
def KV.one:KV U->Bool
 | .int ..| .bool _| .gS| .str _| .lz| .et| .bG ..| .jN ..| .ptr ..| .fg ..| .ref _| .sl ..| .own ..| .view ..| .jc ..=>true
 |_=>false
def KV.closed:KV U->Bool
 | .int ..| .bool _| .str _| .lz| .et| .sl ..| .ref _| .jc ..=>true
 | .bG _ []=>true
 |_=>false
def KV.bE:KV U->Bool
 | .agg cs| .eo cs| .bG _ cs=>cs.all KV.closed
 |x=>x.closed
theorem agd(x:KV U):x.pv.one=x.one:=by cases x<;>simp[KV.pv,PV.one,KV.one]
theorem aaK(x:KV U):x.pv.closed=x.closed:=by
 cases x with
 |bG f cs=>cases cs<;>simp[KV.pv,KV.Ee,PV.closed,KV.closed]
 |_=>simp[KV.pv,PV.closed,KV.closed]
theorem yw(x:KV U):x.pv.cells=x.cells.map KV.pv:=by cases x<;>simp[KV.pv,PV.cells,KV.cells,KV.cr]
theorem oh(l:List (KV U)):(l.map KV.pv).all PV.closed=l.all KV.closed:=by
 induction l with
 |nil=>rfl
 |cons x l ih=>simp only[QD,Qq70,aaK,ih]
theorem wC(l:List (KV U)):(l.map KV.pv).all PV.one=l.all KV.one:=by
 induction l with
 |nil=>rfl
 |cons x l ih=>simp only[QD,Qq70,agd,ih]
theorem YT(x:KV U):x.pv.bE=x.bE:=by
 cases x with
 |agg cs=>simp only[KV.pv,PV.bE,KV.bE,KV.cr];exact oh cs
 |eo cs=>simp only[KV.pv,PV.bE,KV.bE,KV.cr];exact oh cs
 |bG f cs=>simp only[KV.pv,PV.bE,KV.bE,KV.cr];exact oh cs
 |_=>simp[KV.pv,PV.bE,KV.bE,PV.closed,KV.closed]
end
end
section
open Go.RowKit
section
variable {P : Program} {nt : Nat} {hs : List Nat}
theorem BX{c:Code}{x y:SC}(h:aP P nt hs c=some (.seq x y)):∃p q,c= .seq p q/\aP P nt hs p=some x/\aP P nt hs q=some y:=by
 cases c with
 |seq p q=>
  simp only[aP]at h;split at h
  ·rename_i x' y' hx hy;injection h with h
   injection h with h1 h2
   subst h1 h2;exact⟨p,q,rfl,hx,hy⟩
  ·cases h
 |region id ops d=>cases d<;>simp only[aP]at h<;>(try split at h)<;>(try split at h)<;>(try split at h)<;>cases h
 |cond c x y=>simp only[aP]at h;split at h<;>cases h
 |block id c=>simp only[aP,Qb]at h;obtain⟨_,_,h⟩:=h;cases h
 |loop c=>simp only[aP,Qb]at h;obtain⟨_,_,h⟩:=h;cases h
 |rangeFunc g ps x y=>simp only[aP]at h;split at h<;>(try split at h)<;>cases h
 |_=>simp only[aP]at h<;>cases h
theorem OI{c:Code}{o:bq}{x y:SC}(h:aP P nt hs c=some (.cond o x y)):∃o' p q,c= .cond o' p q/\bB o'=some o/\aP P nt hs p=some x/\aP P nt hs q=some y:=by
 cases c with
 |cond o' p q=>
  simp only[aP]at h;split at h
  ·rename_i c' x' y' hc hx hy;injection h with h
   injection h with h1 h2 h3
   subst h1 h2 h3;exact⟨o',p,q,rfl,hc,hx,hy⟩
  ·cases h
 |region id ops d=>cases d<;>simp only[aP]at h<;>(try split at h)<;>(try split at h)<;>(try split at h)<;>cases h
 |seq x y=>simp only[aP]at h;split at h<;>cases h
 |block id c=>simp only[aP,Qb]at h;obtain⟨_,_,h⟩:=h;cases h
 |loop c=>simp only[aP,Qb]at h;obtain⟨_,_,h⟩:=h;cases h
 |rangeFunc g ps x y=>simp only[aP]at h;split at h<;>(try split at h)<;>cases h
 |_=>simp only[aP]at h<;>cases h
theorem Ln{c:Code}{id:Nat}{x:SC}(h:aP P nt hs c=some (.block id x)):∃p,c= .block id p/\aP P nt hs p=some x:=by
 cases c with
 |block j p=>
  simp only[aP,Qb]at h;obtain⟨x',hx,h⟩:=h;injection h with h1 h2
  subst h1 h2;exact⟨p,rfl,hx⟩
 |region id ops d=>cases d<;>simp only[aP]at h<;>(try split at h)<;>(try split at h)<;>(try split at h)<;>cases h
 |seq x y=>simp only[aP]at h;split at h<;>cases h
 |cond c x y=>simp only[aP]at h;split at h<;>cases h
 |loop c=>simp only[aP,Qb]at h;obtain⟨_,_,h⟩:=h;cases h
 |rangeFunc g ps x y=>simp only[aP]at h;split at h<;>(try split at h)<;>cases h
 |_=>simp only[aP]at h<;>cases h
theorem YV{c:Code}{x:SC}(h:aP P nt hs c=some (.loop x)):∃p,c= .loop p/\aP P nt hs p=some x:=by
 cases c with
 |loop p=>
  simp only[aP,Qb]at h;obtain⟨x',hx,h⟩:=h;injection h with h1
  subst h1;exact⟨p,rfl,hx⟩
 |region id ops d=>cases d<;>simp only[aP]at h<;>(try split at h)<;>(try split at h)<;>(try split at h)<;>cases h
 |seq x y=>simp only[aP]at h;split at h<;>cases h
 |cond c x y=>simp only[aP]at h;split at h<;>cases h
 |block id c=>simp only[aP,Qb]at h;obtain⟨_,_,h⟩:=h;cases h
 |rangeFunc g ps x y=>simp only[aP]at h;split at h<;>(try split at h)<;>cases h
 |_=>simp only[aP]at h<;>cases h
theorem Sl{c:Code}{gs:List SG}(h:aP P nt hs c=some (.ze gs)):∃id ops,c= .region id ops false/\ops.toList.mapM (xw P hs ops)=some gs/\∀o∈ops.toList,∀t,o.dst=some t->t<nt:=by
 cases c with
 |region id ops d=>
  cases d with
  |true=>simp only[aP]at h;(try split at h)<;>(try split at h)<;>(try split at h)<;>cases h
  |false=>
   simp only[aP]at h;split at h
   ·rename_i gs' hgs;split at h
    ·rename_i hd;injection h with h
     injection h with h
     subst h;exact⟨id,ops,rfl,hgs,Vc hd⟩
    ·cases h
   ·cases h
 |seq x y=>simp only[aP]at h;split at h<;>cases h
 |cond c x y=>simp only[aP]at h;split at h<;>cases h
 |block id c=>simp only[aP,Qb]at h;obtain⟨_,_,h⟩:=h;cases h
 |loop c=>simp only[aP,Qb]at h;obtain⟨_,_,h⟩:=h;cases h
 |rangeFunc g ps x y=>simp only[aP]at h;split at h<;>(try split at h)<;>cases h
 |_=>simp only[aP]at h<;>cases h
theorem YW{c:Code}{id:Nat}(h:aP P nt hs c=some (.exit id)):c= .exit id:=by
 cases c with
 |exit j=>simp only[aP,Qf,SC.exit.injEq]at h;rw[h]
 |region id ops d=>cases d<;>simp only[aP]at h<;>(try split at h)<;>(try split at h)<;>(try split at h)<;>cases h
 |seq x y=>simp only[aP]at h;split at h<;>cases h
 |cond c x y=>simp only[aP]at h;split at h<;>cases h
 |block id c=>simp only[aP,Qb]at h;obtain⟨_,_,h⟩:=h;cases h
 |loop c=>simp only[aP,Qb]at h;obtain⟨_,_,h⟩:=h;cases h
 |rangeFunc g ps x y=>simp only[aP]at h;split at h<;>(try split at h)<;>cases h
 |_=>simp only[aP]at h<;>cases h
theorem OH{c:Code}(h:aP P nt hs c=some .skip):c= .skip:=by
 cases c with
 |skip=>rfl
 |region id ops d=>cases d<;>simp only[aP]at h<;>(try split at h)<;>(try split at h)<;>(try split at h)<;>cases h
 |seq x y=>simp only[aP]at h;split at h<;>cases h
 |cond c x y=>simp only[aP]at h;split at h<;>cases h
 |block id c=>simp only[aP,Qb]at h;obtain⟨_,_,h⟩:=h;cases h
 |loop c=>simp only[aP,Qb]at h;obtain⟨_,_,h⟩:=h;cases h
 |rangeFunc g ps x y=>simp only[aP]at h;split at h<;>(try split at h)<;>cases h
 |_=>simp only[aP]at h<;>cases h
theorem aaM{c:Code}(h:aP P nt hs c=some .ret):c= .ret:=by
 cases c with
 |ret=>rfl
 |region id ops d=>cases d<;>simp only[aP]at h<;>(try split at h)<;>(try split at h)<;>(try split at h)<;>cases h
 |seq x y=>simp only[aP]at h;split at h<;>cases h
 |cond c x y=>simp only[aP]at h;split at h<;>cases h
 |block id c=>simp only[aP,Qb]at h;obtain⟨_,_,h⟩:=h;cases h
 |loop c=>simp only[aP,Qb]at h;obtain⟨_,_,h⟩:=h;cases h
 |rangeFunc g ps x y=>simp only[aP]at h;split at h<;>(try split at h)<;>cases h
 |_=>simp only[aP]at h<;>cases h
theorem jA{α β:Type}{f:α->Option β}{l:List α}{y:β}{ys:List β}(h:l.mapM f=some (y::ys)):∃x xs,l=x::xs/\f x=some y/\xs.mapM f=some ys:=by
 cases l with
 |nil=>simp at h
 |cons x xs=>
  simp only[Qq75,Qd,Qc,Option.pure_def,Qf,List.cons.injEq]at h;obtain⟨z,hz,zs,hzs,rfl,rfl⟩:=h;exact⟨x,xs,rfl,hz,hzs⟩
theorem IP{α β:Type}{f:α->Option β}{l:List α}(h:l.mapM f=some []):l=[]:=by
 cases l with
 |nil=>rfl
 |cons x xs=>
  simp only[Qq75,Qd,Qc,Option.pure_def,Qf]at h;obtain⟨z,hz,zs,hzs,h⟩:=h;cases h
theorem aaG{o:Oper}{fv:bq}{xs:List bq}(h:Ll P hs o=some (.wA fv xs)):∃(g:Operand) (args:Array Operand) (ts:Array TypeId),o.op= .call {callee:= .value g,args:=args,argTypes:=ts}/\bB g=some fv/\args.toList.mapM bB=some xs:=by
 unfold Ll at h;split at h
 case h_22 fop args ats hop=>
  simp only[Qd,Qc]at h;obtain⟨ys,hys,h⟩:=h;split at h
  ·cases h
  ·simp only[Qc,Qf,bO.wA.injEq]at h;obtain⟨fv',hfv,rfl,rfl⟩:=h;exact⟨_,_,_,hop,hfv,hys⟩
 all_goals (repeat' (first|(cases h;done)|split at h|(simp only[Qd,Qc]at h;obtain⟨_,_,h⟩:=h)|(obtain⟨_,_,h⟩:=h)))
theorem yu{x:Operand}{t:Nat}(h:bB x=some (.tmp t)):x= .tmp t:=by
 cases x with
 |tmp u=>simp only[bB,Qf,bq.tmp.injEq]at h;rw[h]
 |const v=>simp only[bB,Qb]at h;obtain⟨_,_,h⟩:=h;cases h
 |global g=>simp[bB]at h
 |func f=>simp[bB]at h
end
def DI(k:Nat)(nE:Option Nat):SC:=
 .seq (.ze [⟨some 4,none,.load none (.tmp 1)⟩,⟨some 5,none,.len false (.tmp 4)⟩,⟨some 6,none,.bin .sub (.tmp 5) (.yO (.int .i64 1))⟩,⟨some 3,none,.pE (.tmp 6)⟩])
  (.block 0 (.loop (.seq (.seq (.ze [⟨some 7,none,.pE (.tmp 3)⟩,⟨some 8,none,.bin .geq (.tmp 7) (.yO (.int .i64 0))⟩]) (.cond (.tmp 8) .skip (.exit 0)))
   (.seq (.block 1 (.seq (.ze [⟨some 11,none,.pE (.tmp 0)⟩,⟨some 12,none,.pE (.tmp 3)⟩,⟨some 13,none,.load none (.tmp 1)⟩,⟨some 14,none,.pE (.tmp 3)⟩,⟨some 15,none,.tf k (.tmp 13) (.tmp 14)⟩,
    ⟨some 16,none,.load nE (.tmp 15)⟩,⟨some 17,none,.wA (.tmp 11) [.tmp 12,.tmp 16]⟩,⟨some 18,none,.not (.tmp 17)⟩]) (.cond (.tmp 18) .ret .skip)))
    (.ze [⟨some 9,none,.pE (.tmp 3)⟩,⟨some 10,none,.bin .sub (.tmp 9) (.yO (.int .i64 1))⟩,⟨some 3,none,.pE (.tmp 10)⟩])))))
section
variable {P : Program}
def tN:pM:=fun _=>none
theorem Uk:oP P tN:=fun _ _ h=>by cases h
theorem TM{Γ:pM}(hΓ:oP P Γ){E:En}{hs:List Nat}{ops:Array Oper}{l2:List Oper}:∀(l:List Oper) (gs:List SG) (nid:Nat) (S S':St) (a:Act) (w:World) (L:Nat->Value),l.mapM (xw P hs ops)=some gs->Rel E S a w L->nid+l.length<=S.N->
  (∀o∈l,∀t,o.dst=some t->E.can t)->B5 Γ nid gs S=some S'->∀{Q:Exit->Act->World->Prop},(∀a' w' L',Rel E S' a' w' L'->wpListIn (WF E.rd) 0 P ops Q l2 a' w')->wpListIn (WF E.rd) 0 P ops Q (l++l2) a w
 |[],gs,nid,S,S',a,w,L,hm,h,hN,hd,hr,Q,hQ=>by
  simp at hm;subst hm;simp only[B5,Qf]at hr;subst hr;exact hQ a w L h
 |o::l,gs,nid,S,S',a,w,L,hm,h,hN,hd,hr,Q,hQ=>by
  simp only[Qq75,Qd,Qc,Option.pure_def,Qf]at hm;obtain⟨g,hg,gs',hgs,rfl⟩:=hm;simp only[B5]at hr;split at hr
  ·rename_i S1 hs;rw[List.cons_append];refine wpListIn_step fun K hK=> ?_
   refine yI hΓ hg h (by simp at hN;omega) (hd o (by simp)) hs (fun a' w' L' h'=>hK _ _ ?_)
   exact TM hΓ l gs' (nid+1) S1 S' a' w' L' hgs h' (by rw[acT hs];simp at hN;omega) (fun o' ho'=>hd o' (by simp[ho'])) hr hQ
  ·cases hr
def EB(W:World)(X:Nat->Prop)(hX:∀b,X b->b<W.heap.size)(kt:Nat->Option Value):En:=
 {w0:=W,rb:=none,nt:=19,X:=X,hX:=hX,Ms:=false,rv:=undef,rk:=false,Oi:=fun b hb=>(by cases hb),UT:=fun h=>(by cases h),rd:=none,nd:=true,kt:=kt,wk:={W with heap:=#[]}}
def SB(env:Nat->PV):St:={env:=env,H:=fun _=>⟨0,.dead⟩,N:=8}
theorem S9{W:World}{X:Nat->Prop}(hX:∀b,X b->b<W.heap.size){kt:Nat->Option Value}{env:Nat->PV}{a:Act}{L:Nat->Value}(hd:a.defers=[])(hs:a.tmps.size=19)(hk:∀t v,kt t=some v->a.tmps.getD t undef=v)
  (he:∀t,bm W X dw (env t) (a.tmps.getD t undef)):Rel (EB W X hX kt) (SB env) a W L:=by
 have hM:∀b,bu (EB W X hX kt) (SB env) L b->X b:=by
  rintro b (⟨id,_,hl,_⟩|h)
  ·cases hl
  ·exact h
 exact⟨Marks.nil hd,⟨hs,hk⟩,fun t=>(he t).mono (dW.of fun _ hn=>fun h=>hn (hM _ h)) (dw.le _),fun _ _=>trivial,fun i j b _ _ hi=>(by cases hi),fun _ _=>rfl,⟨Fr.refl _ _,CW rfl⟩,fun h=>(by cases h)⟩
structure BF (y c:Value) (i:Int) (a:Act):Prop where
 defers:a.defers=[]
 size:a.tmps.size=19
 y:a.tmps.getD 0 undef=y
 c:a.tmps.getD 1 undef=c
 i:a.tmps.getD 3 undef= .int .i64 i
def BC(y c:Value)(t:Nat):Option Value:=if t=0 then some y else if t=1 then some c else none
theorem Dd{W W':World}{X:Nat->Prop}{hX:∀b,X b->b<W.heap.size}{kt:Nat->Option Value}{S:St}{a:Act}{L:Nat->Value}(h:Rel (EB W X hX kt) S a W' L):Fr none W W':=h.fr.toFr
theorem Ke{hs:List Nat}{ops:Array Oper}{p:Nat->Prop}:∀{l:List Oper} {gs:List SG},l.mapM (xw P hs ops)=some gs->(∀g∈gs,∀t,g.d=some t->p t)->∀o∈l,∀t,o.dst=some t->p t
 |[],_,_,_=>by simp
 |x::l,gs,h,hp=>by
  simp only[Qq75,Qd,Qc,Option.pure_def,Qf]at h;obtain⟨g,hg,gs',hgs,rfl⟩:=h;intro o ho t ht;rcases QA.1 ho with rfl|ho
  ·exact hp g Qx t (by rw[(Jo hg).2.1];exact ht)
  ·exact Ke hgs (fun g hg=>hp g (Qy _ hg)) o ho t ht
def DD(es:List (List PV))(x:Nat->PV)(t:Nat):PV:=if t=1 then .ref [.sl es]else x t
variable {hs : List Nat} {es : List (List PV)} {y c : Value} {W : World} {X : Nat -> Prop} {hX : ∀ b, X b -> b < W.heap.size} {a : Act}
theorem BF.env{i:Int}(h:BF y c i a)(hc:bm W X dw (.ref [.sl es]) c)(t:Nat):bm W X dw (DD es (fun t=>if t=3 then .int .i64 i else .any) t) (a.tmps.getD t undef):=by
 unfold DD;split
 ·rename_i e;rw[e,h.c];exact hc
 ·simp only;split
  ·rename_i e;rw[e,h.i];exact .int _ _
  ·exact .any _
theorem BF.kt{i:Int}(h:BF y c i a)(t:Nat)(v:Value)(hv:BC y c t=some v):a.tmps.getD t undef=v:=by
 unfold BC at hv;split at hv
 ·rename_i e;injection hv with hv;rw[e,h.y,hv]
 ·split at hv
  ·rename_i e;injection hv with hv;rw[e,h.c,hv]
  ·cases hv
theorem BF.rel{i:Int}(h:BF y c i a)(hc:bm W X dw (.ref [.sl es]) c)(L:Nat->Value):Rel (EB W X hX (BC y c)) (SB (DD es fun t=>if t=3 then .int .i64 i else .any)) a W L:=
 S9 hX h.defers h.size h.kt (h.env hc)
theorem X1{c0:Code}{gs:List SG}(hcc:aP P 19 hs c0=some (.ze gs)){env:Nat->PV}{S':St}(hlen:gs.length<=8)(hd:∀g∈gs,∀t,g.d=some t->t≠0/\t≠1){L:Nat->Value}(h:Rel (EB W X hX (BC y c)) (SB env) a W L)
  (hr:B5 tN 0 gs (SB env)=some S') {Q:Exit->Act->World->Prop} (hQ:∀a' W' L',Rel (EB W X hX (BC y c)) S' a' W' L'->Q .normal a' W'):c0.wpIn (WF none) 0 P Q a W:=by
 obtain⟨id,ops,rfl,hm,hlt⟩:=Sl hcc;refine wpIn_region_list ?_;have hl:=xm hm;refine Gs (E:=EB W X hX (BC y c)) Uk ops.toList gs 0 (SB env) S' a W L hm h (by simp only[SB];omega) (fun o ho t ht=>⟨hlt o ho t ht,?_⟩) hr hQ
 have:=Ke (p:=fun t=>t≠0/\t≠1) hm hd o ho t ht
 show BC y c t=none;unfold BC;rw[Qs this.1,Qs this.2]
theorem BF.of{S':St}{W':World}{L':Nat->Value}{i:Int}{a':Act}(h:Rel (EB W X hX (BC y c)) S' a' W' L')(hi:S'.env 3= .int .i64 i):BF y c i a':=by
 refine⟨h.defers.none rfl,h.size.1,h.size.2 0 y rfl,h.size.2 1 c rfl,?_⟩;have:=h.env 3;rw[hi]at this;exact this.fU
theorem afD(hc:bm W X dw (.ref [.sl es]) c):es.length<=maxLen:=by
 cases hc with
 |ref _ ad vs hl hcell h=>
  cases vs with
  |nil=>simp at hl
  |cons v vs=>
   have h1:=h 0 (.sl es) v (by simp) (by simp)
   cases h1 with
   |sl _ _ _ _ _ _ _ _ _ hn hm=>omega
   |slnil=>simp
theorem wrap_small{n:Int}(h: -1<=n)(h':n<=9223372036854775807):IntKind.i64.wrap n=n:=by
 rw[IntKind.wrap_i64];omega
def BQ(nE:Option Nat)(e:List PV):PV:=(uC nE e).getD .any
structure JE (k:Nat) (nE:Option Nat) (es:List (List PV)):Prop where
 len:∀e∈es,e.length=k
 ld:∀e∈es,uC nE e=some (BQ nE e)
 cl:∀e∈es,(BQ nE e).bE=true
def VG(P:Program)(l:Nat)(i:Nat)(v:Value)(W:World)(R:Ending->World->Prop):Prop:=
 ∃(fn:FuncId) (tmps:Array Value) (assign body:Code),(Instr.yield l #[.int .i64 i,v]).run P W= .ok (.round l fn tmps assign body) W/\RoundIn (WF none) 0 P l fn tmps assign body W R
theorem abm{k:Nat}{nE:Option Nat}{l:Nat}{m:Nat}(hin:JE k nE es)(hX:∀b,X b->b<W.heap.size)(hc:bm W X dw (.ref [.sl es]) c){J0 J1:World->Prop}(hJ0:∀W',Fr none W W'->J0 W')
  (hJ:∀W' W'',J1 W'->Fr none W' W''->J1 W'') {Jx:World->Prop} (hJx:∀W' W'',Jx W'->Fr none W' W''->Jx W'')
  (hr:∀(W':World) (e:List PV) (v:Value),J0 W'->es[m]?=some e->bm W' X dw (BQ nE e) v->VG P l m v W' fun en W''=>(en= .returned (.bool true)/\J1 W'')\/(en= .returned (.bool false)/\Jx W''))
  {c0:Code} (hcc:aP P 19 hs c0=some (.ze [⟨some 11,none,.pE (.tmp 0)⟩,⟨some 12,none,.pE (.tmp 3)⟩,⟨some 13,none,.load none (.tmp 1)⟩,⟨some 14,none,.pE (.tmp 3)⟩,⟨some 15,none,.tf k (.tmp 13) (.tmp 14)⟩,
    ⟨some 16,none,.load nE (.tmp 15)⟩,⟨some 17,none,.wA (.tmp 11) [.tmp 12,.tmp 16]⟩,⟨some 18,none,.not (.tmp 17)⟩]))
  (hm:m<es.length) (hB:BF (.func (.yield l) #[] #[]) c m a) {Q:Exit->Act->World->Prop}
  (hQ:∀a' W' b,BF (.func (.yield l) #[] #[]) c m a'->a'.tmps.getD 18 undef= .bool (!b)->(b=true->J1 W')->(b=false->Jx W')->Q .normal a' W'):c0.wpIn (WF none) 0 P Q a W:=by
 obtain⟨id,ops,rfl,hmm,hlt⟩:=Sl hcc;refine wpIn_region_list ?_;obtain⟨o11,l1,e1,g11,hm1⟩:=jA hmm;obtain⟨o12,l2,rfl,g12,hm2⟩:=jA hm1;obtain⟨o13,l3,rfl,g13,hm3⟩:=jA hm2;obtain⟨o14,l4,rfl,g14,hm4⟩:=jA hm3;obtain⟨o15,l5,rfl,g15,hm5⟩:=jA hm4;obtain⟨o16,l6,rfl,g16,hm6⟩:=jA hm5;obtain⟨o17,l7,rfl,g17,hm7⟩:=jA hm6;obtain⟨o18,l8,rfl,g18,hm8⟩:=jA hm7;have:=IP hm8;subst this;rw[e1]at hlt ⊢
 have plain:∀{o:Oper} {d:Option Nat} {s:bO},xw P hs ops o=some ⟨d,none,s⟩->o.guard=none/\o.dst=d/\Ll P hs o=some s:=by
  intro o d s hg;obtain⟨q1,q2,q3⟩:=Jo hg;rcases q3 with⟨q3,_⟩|⟨_,_,_,_,_,_,_,q⟩
  ·exact⟨q3,q2.symm,q1⟩
  ·cases q
 obtain⟨u1,u2,u3⟩:=plain g11
 have hmv:(o11.op= .move (.tmp 0)\/o11.op= .assign (.tmp 0)):=by
  unfold Ll at u3;split at u3
  case h_1 x hx=>simp only[Qd,Qc,Qf,bO.pE.injEq]at u3;obtain⟨z,hz,rfl⟩:=u3;rw[yu hz]at hx;exact .inl hx
  case h_2 x hx=>simp only[Qd,Qc,Qf,bO.pE.injEq]at u3;obtain⟨z,hz,rfl⟩:=u3;rw[yu hz]at hx;exact .inr hx
  all_goals (exfalso)
  all_goals (repeat' (first|(cases u3;done)|split at u3|(simp only[Qd,Qc]at u3;obtain⟨_,_,u3⟩:=u3)|(obtain⟨_,_,u3⟩:=u3)))
 refine wpListIn_plain u1 fun K hK=> ?_
 have hev:a.eval (.tmp 0)= .func (.yield l) #[] #[]:=hB.y
 have step1:∀{Q':Exit->Act->World->Prop},K (a.put (some 11) (.func (.yield l) #[] #[])) W->o11.wpIn (WF none) 0 P a W K Q':=by
  intro Q' hk;unfold Oper.wpIn;rw[Oper.semAt_eq _ _ _ (E9 u3)]
  have hrun:(execOp a.eval o11).run P W= .ok (.value (.func (.yield l) #[] #[])) W:=by
   rcases hmv with hx|hx<;>simp[execOp,hx,hev]
  rw[hrun];refine⟨fun _ _=>trivial,?_⟩
  show K (a.put o11.dst _) W;rw[u2];exact hk
 refine step1 (hK _ _ ?_);have hsz:(a.put (some 11) (.func (.yield l) #[] #[])).tmps.size=19:=by simp[Act.put,hB.size]
 have hne:∀t,t≠11->(a.put (some 11) (.func (.yield l) #[] #[])).tmps.getD t undef=a.tmps.getD t undef:=fun t ht=>LO ht
 have h11:(a.put (some 11) (.func (.yield l) #[] #[])).tmps.getD 11 undef= .func (.yield l) #[] #[]:=by
  simp[Act.put,QN,Array.getElem?_setIfInBounds_self_of_lt (show 11<a.tmps.size by rw[hB.size];omega)]
 have hrel:Rel (EB W X hX (fun t=>if t=11 then some (.func (.yield l) #[] #[])else BC (.func (.yield l) #[] #[]) c t)) (SB (DD es fun t=>if t=3 then .int .i64 m else .any)) (a.put (some 11) (.func (.yield l) #[] #[])) W (fun _=>undef):=by
  refine S9 hX hB.defers hsz (fun t v hv=> ?_) (fun t=> ?_)
  ·by_cases h0:t=11
   ·rw[Qr h0]at hv;injection hv with hv;rw[h0,h11,hv]
   ·rw[Qs h0]at hv;rw[hne t h0];exact hB.kt t v hv
  ·by_cases h0:t=11
   ·have:DD es (fun t=>if t=3 then .int .i64 m else .any) t= .any:=by rw[h0];rfl
    rw[this];exact .any _
   ·rw[hne t h0];exact hB.env hc t
 have helt:es[m]?=some es[m]:=Qv hm;have hek:=hin.len _ (Q0 hm);have hld:=hin.ld _ (Q0 hm);have s12:xf tN 0 (SB (DD es fun t=>if t=3 then .int .i64 m else .any)) ⟨some 12,none,.pE (.tmp 3)⟩=some ((SB (DD es fun t=>if t=3 then .int .i64 m else .any)).c6 (some 12) (.int .i64 m) none):=rfl
 generalize hS1:(SB (DD es fun t=>if t=3 then .int .i64 m else .any)).c6 (some 12) (.int .i64 m) none=S1 at s12
 have s13:xf tN 1 S1 ⟨some 13,none,.load none (.tmp 1)⟩=some (S1.c6 (some 13) (.sl es) none):=by subst hS1;rfl
 generalize hS2:S1.c6 (some 13) (.sl es) none=S2 at s13;have s14:xf tN 2 S2 ⟨some 14,none,.pE (.tmp 3)⟩=some (S2.c6 (some 14) (.int .i64 m) none):=by subst hS2 hS1;rfl
 generalize hS3:S2.c6 (some 14) (.int .i64 m) none=S3 at s14;have e13:S3.env 13= .sl es:=by subst hS3 hS2 hS1;rfl
 have e14:S3.env 14= .int .i64 m:=by subst hS3 hS2 hS1;rfl
 have s15:xf tN 3 S3 ⟨some 15,none,.tf k (.tmp 13) (.tmp 14)⟩=some (S3.c6 (some 15) (.ref es[m]) none):=by
  simp only[xf,SG.wanted,exec,bq.val,e13,e14];rw[Qr ⟨by omega,by omega⟩]
  simp only[QV,helt,hek,Qt,Qe]
 generalize hS4:S3.c6 (some 15) (.ref es[m]) none=S4 at s15;have e15:S4.env 15= .ref es[m]:=by subst hS4;rfl
 have s16:xf tN 4 S4 ⟨some 16,none,.load nE (.tmp 15)⟩=some (S4.c6 (some 16) (BQ nE es[m]) none):=by
  simp only[xf,SG.wanted,exec,bq.val,e15,hld,Qe]
 generalize hS5:S4.c6 (some 16) (BQ nE es[m]) none=S5 at s16;have f12:S5.env 12= .int .i64 m:=by subst hS5 hS4 hS3 hS2 hS1;rfl
 have f16:S5.env 16=BQ nE es[m]:=by subst hS5;rfl
 have f3:S5.env 3= .int .i64 m:=by subst hS5 hS4 hS3 hS2 hS1;rfl
 have hrun:B5 tN 0 [⟨some 12,none,.pE (.tmp 3)⟩,⟨some 13,none,.load none (.tmp 1)⟩,⟨some 14,none,.pE (.tmp 3)⟩,⟨some 15,none,.tf k (.tmp 13) (.tmp 14)⟩,⟨some 16,none,.load nE (.tmp 15)⟩] (SB (DD es fun t=>if t=3 then .int .i64 m else .any))=some S5:=by
  simp only[B5,s12,s13,s14,s15,s16]
 have hmap:[o12,o13,o14,o15,o16].mapM (xw P hs ops)=some [⟨some 12,none,.pE (.tmp 3)⟩,⟨some 13,none,.load none (.tmp 1)⟩,⟨some 14,none,.pE (.tmp 3)⟩,⟨some 15,none,.tf k (.tmp 13) (.tmp 14)⟩,⟨some 16,none,.load nE (.tmp 15)⟩]:=by
  simp only[Qq75,List.mapM_nil,g12,g13,g14,g15,g16,Qd,Qa,Option.pure_def]
 show wpListIn (WF none) 0 P ops Q ([o12,o13,o14,o15,o16]++[o17,o18]) _ W;refine TM (E:=EB W X hX _) Uk _ _ 0 _ S5 _ W _ hmap hrel (by simp[SB]) (fun o ho t ht=>⟨hlt o (by simp only[QA]at ho ⊢;right;rcases ho with h|h|h|h|h|h<;>simp_all) t ht,?_⟩) hrun (fun a5 W5 L5 h5=> ?_)
 ·have:=Ke (p:=fun t=>t≠0/\t≠1/\t≠11) hmap (by intro g hg t ht;simp only[QA,QR,or_false]at hg;rcases hg with rfl|rfl|rfl|rfl|rfl<;>(injection ht with ht;omega)) o ho t ht
  show(if t=11 then _ else BC _ _ t)=none
  rw[Qs this.2.2];unfold BC;rw[Qs this.1,Qs this.2.1]
 have hfr5:Fr none W W5:=Dd h5;have v11:a5.tmps.getD 11 undef= .func (.yield l) #[] #[]:=h5.size.2 11 _ rfl;have v12:a5.tmps.getD 12 undef= .int .i64 m:=by have:=h5.env 12;rw[f12]at this;exact this.fU
 have r16:bm W5 X dw (BQ nE es[m]) (a5.tmps.getD 16 undef):=by
  have:=h5.env 16;rw[f16]at this;exact this.bE (hin.cl _ (Q0 hm)) (fun b hb=> .inr hb)
 have hB5:BF (.func (.yield l) #[] #[]) c m a5:=⟨h5.defers.none rfl,h5.size.1,h5.size.2 0 _ rfl,h5.size.2 1 _ rfl,by have:=h5.env 3;rw[f3]at this;exact this.fU⟩
 obtain⟨fn,tmps,assign,body,hy,hround⟩:=hr W5 _ _ (hJ0 W5 hfr5) helt r16;obtain⟨w1,w2,w3⟩:=plain g17;obtain⟨gv,args,ts,hop,hgv,hargs⟩:=aaG w3;have hgv:=yu hgv;subst hgv;obtain⟨x12,xs,ex,hx12,hxs⟩:=jA hargs;obtain⟨x16,xs',rfl,hx16,hxs'⟩:=jA hxs;have:=IP hxs';subst this;rw[yu hx12,yu hx16]at ex;have hargs':args=#[.tmp 12,.tmp 16]:=by rw[<-Array.toArray_toList (xs:=args),ex]
 refine wpListIn_plain w1 fun K hK=> ?_
 unfold Oper.wpIn;rw[Oper.semAt_eq _ _ _ (E9 w3)]
 have hrun17:(execOp a5.eval o17).run P W5= .ok (.round l fn tmps assign body) W5:=by
  have q1:a5.eval (.tmp 11)= .func (.yield l) #[] #[]:=v11;simp only[execOp,hop,resolve,q1,Deferred.ofValue,Sem.run_bind,Sem.run_pure,Result.andThen_ok,invoke,hargs'];have q4:a5.tmps[12]?.getD undef= .int .i64 m:=by rw[<-QN];exact v12
  simpa[Act.eval,q4]using hy
 rw[hrun17];refine⟨fun _ _=>trivial,(fun h=>by cases h),hround.mono ?_⟩
 rintro en W6 hen
 have fin:∀b:Bool,en= .returned (.bool b)->(b=true->J1 W6)->(b=false->Jx W6)->K (a5.put o17.dst (.bool b)) W6:=by
  rintro b rfl hj1 hjx;refine hK _ _ ?_;rw[w2];have hsz6:(a5.put (some 17) (.bool b)).tmps.size=19:=by simp[Act.put,hB5.size]
  have hne6:∀t,t≠17->(a5.put (some 17) (.bool b)).tmps.getD t undef=a5.tmps.getD t undef:=fun t ht=>LO ht
  have h17:(a5.put (some 17) (.bool b)).tmps.getD 17 undef= .bool b:=by
   simp[Act.put,QN,Array.getElem?_setIfInBounds_self_of_lt (show 17<a5.tmps.size by rw[hB5.size];omega)]
  have hrel6:Rel (EB W6 (fun _=>False) (fun _ h=>h.elim) (BC (.func (.yield l) #[] #[]) c)) (SB fun t=>if t=17 then .bool b else if t=3 then .int .i64 m else .any) (a5.put (some 17) (.bool b)) W6 (fun _=>undef):=by
   refine S9 _ hB5.defers hsz6 (fun t v hv=> ?_) (fun t=> ?_)
   ·by_cases h0:t=17
    ·subst h0;cases hv
    ·rw[hne6 t h0];exact hB5.kt t v hv
   ·split
    ·rename_i h0;rw[h0,h17];exact .bool _
    ·rename_i h0;rw[hne6 t h0];split
     ·rename_i h3;rw[h3,hB5.i];exact .int _ _
     ·exact .any _
  have hmap18:[o18].mapM (xw P hs ops)=some [⟨some 18,none,.not (.tmp 17)⟩]:=by simp only[Qq75,List.mapM_nil,g18,Qd,Qa,Option.pure_def]
  refine Gs (E:=EB W6 (fun _=>False) (fun _ h=>h.elim) _) Uk _ _ 0 _ ((SB fun t=>if t=17 then .bool b else if t=3 then .int .i64 m else .any).c6 (some 18) (.bool !b) none) _ W6 _ hmap18 hrel6 (by simp[SB]) (fun o ho t ht=>⟨hlt o (by simp only[QA]at ho ⊢;simp_all) t ht,?_⟩) rfl (fun a7 W7 L7 h7=> ?_)
  ·have:=Ke (p:=fun t=>t≠0/\t≠1) hmap18 (by intro g hg t ht;simp only[QA,QR,or_false]at hg;subst hg;injection ht with ht;omega) o ho t ht
   show BC _ _ t=none;unfold BC;rw[Qs this.1,Qs this.2]
  ·have hfr7:=Dd h7;refine hQ a7 W7 b (BF.of h7 rfl) ?_ (fun hb=>hJ _ _ (hj1 hb) hfr7) (fun hb=>hJx _ _ (hjx hb) hfr7)
   have:=h7.env 18;have e18:((SB fun t=>if t=17 then .bool b else if t=3 then .int .i64 m else .any).c6 (some 18) (.bool !b) none).env 18= .bool !b:=rfl
   rw[e18]at this;exact this.og
 rcases hen with⟨rfl,hj⟩|⟨rfl,hj⟩
 ·exact fin true rfl (fun _=>hj) (fun h=>by cases h)
 ·exact fin false rfl (fun h=>by cases h) (fun _=>hj)
theorem Y3{f:FuncId}{k:Nat}{nE:Option Nat}(hf:kQ P f 19 (DI k nE) [])(hin:JE k nE es){l:Nat}(J:Nat->(Nat->Prop)->World->Prop)(Jx:World->Prop)
  (hc:∀i X W,J i X W->(∀b,X b->b<W.heap.size)/\bm W X dw (.ref [.sl es]) c) (hJ:∀i X W' W'',J i X W'->Fr none W' W''->J i X W'') (hJx:∀W' W'',Jx W'->Fr none W' W''->Jx W'')
  (hr:∀(m:Nat) (X:Nat->Prop) (W':World) (e:List PV) (v:Value),J (m+1) X W'->es[m]?=some e->bm W' X dw (BQ nE e) v->VG P l m v W' fun en W''=>(en= .returned (.bool true)/\∃X,J m X W'')\/(en= .returned (.bool false)/\Jx W''))
  (W:World) (h0:J es.length X W):CallsIn (WF none) 0 P f #[.func (.yield l) #[] #[],c] W fun en W'=>(∃v,en= .returned v)/\((∃X,J 0 X W')\/Jx W'):=by
 obtain⟨fn,hs,h1,h2,h3,h4,_⟩:=hf
 cases hb:fn.body with
 |none=>rw[hb]at h3;cases h3
 |some c0=>
 rw[hb]at h3;have h3:aP P 19 hs c0=some (DI k nE):=h3
 have hres:fn.results.toList=[]:=by
  cases hq:fn.results.toList with
  |nil=>rfl
  |cons r rs=>rw[hq]at h4;cases r<;>simp only[mM]at h4<;>first|(split at h4<;>cases h4)|(simp only[Qb]at h4;obtain⟨_,_,h4⟩:=h4;cases h4)
 have hresr:∀(tm:Array Value) (W:World),(results fn tm).run P W= .ok (.tuple #[]) W:=by
  intro tm W;unfold results;rw[Array.mapM_eq_mapM_toList,hres];simp
 refine callsIn_of_wp (F:=WF none) (n:=0) h1 hb trivial ?_;obtain⟨cA,cB,rfl,hA,hB⟩:=BX h3;obtain⟨cL,rfl,hL⟩:=Ln hB;obtain⟨cR,rfl,hR⟩:=YV hL;obtain⟨cR1,cR2,rfl,hR1,hR2⟩:=BX hR;obtain⟨cT,cC,rfl,hT,hC⟩:=BX hR1;obtain⟨oc,cS,cX,rfl,hoc,hcS,hcX⟩:=OI hC;have:=OH hcS;subst this;have:=YW hcX;subst this;have:=yu hoc;subst this;obtain⟨cM,cN,rfl,hM,hN⟩:=BX hR2;obtain⟨cM2,rfl,hM2⟩:=Ln hM;obtain⟨cG,cH,rfl,hG,hH⟩:=BX hM2;obtain⟨od,cV,cK,rfl,hod,hcV,hcK⟩:=OI hH;have:=aaM hcV;subst this;have:=OH hcK;subst this;have:=yu hod;subst this;have hmax:=afD (hc _ _ _ h0).2;simp only[maxLen]at hmax
 have hargs:∀t,(#[Value.func (.yield l) #[] #[],c]++Array.replicate (fn.ntmps - (#[Value.func (.yield l) #[] #[],c]:Array Value).size) undef).getD t undef=if t=0 then .func (.yield l) #[] #[]else if t=1 then c else undef:=by
  intro t;rw[h2,QN,Array.getElem?_append]
  match t with
  |0=>rfl
  |1=>rfl
  |t+2=>
   simp only[List.size_toArray,QE,QZ];rw[Qs (by omega),Qs (by omega),Qs (by omega),Array.getElem?_replicate]
   split<;>rfl
 refine wpIn_seq ?_
 have hrel0:Rel (EB W X (hc _ _ _ h0).1 (BC (.func (.yield l) #[] #[]) c)) (SB (DD es fun _=> .any)) {tmps:=#[Value.func (.yield l) #[] #[],c]++Array.replicate (fn.ntmps - (#[Value.func (.yield l) #[] #[],c]:Array Value).size) undef,defers:=[]} W (fun _=>undef):=by
  refine S9 _ rfl (by simp[h2]) (fun t v hv=> ?_) (fun t=> ?_)
  ·simp only;rw[hargs t];unfold BC at hv;split at hv
   ·rename_i e;rw[Qr e];injection hv
   ·rename_i e;rw[Qs e];split at hv
    ·rename_i e';rw[Qr e'];injection hv
    ·cases hv
  ·simp only;rw[hargs t];unfold DD;split
   ·rename_i e;subst e;exact(hc _ _ _ h0).2
   ·exact .any _
 have dA:∀g∈[(⟨some 4,none,.load none (.tmp 1)⟩:SG),⟨some 5,none,.len false (.tmp 4)⟩,⟨some 6,none,.bin .sub (.tmp 5) (.yO (.int .i64 1))⟩,⟨some 3,none,.pE (.tmp 6)⟩],∀t,g.d=some t->t≠0/\t≠1:=by
  intro g hg t ht;simp only[QA,QR,or_false]at hg;rcases hg with rfl|rfl|rfl|rfl<;>(injection ht with ht;omega)
 refine X1 hA (by simp) dA hrel0 rfl fun a1 W1 L1 r1=> ?_
 have hJ1:J es.length X W1:=hJ _ _ _ _ h0 (Dd r1)
 have b1:BF (.func (.yield l) #[] #[]) c ((es.length:Int) - 1) a1:=by
  refine BF.of r1 ?_;show PV.int .i64 (IntKind.i64.wrap ((es.length:Int) - 1))=_;rw[wrap_small (by omega) (by omega)]
 refine wpIn_block ?_;refine wpIn_loop_ghost (fun n a W=>n<=es.length/\BF (.func (.yield l) #[] #[]) c ((n:Int) - 1) a/\∃X,J n X W) es.length ⟨QI _,b1,X,hJ1⟩ ?_
 rintro n a W ⟨hn,hb,X,hj⟩;refine wpIn_seq (wpIn_seq ?_)
 have dT:∀g∈[(⟨some 7,none,.pE (.tmp 3)⟩:SG),⟨some 8,none,.bin .geq (.tmp 7) (.yO (.int .i64 0))⟩],∀t,g.d=some t->t≠0/\t≠1:=by
  intro g hg t ht;simp only[QA,QR,or_false]at hg;rcases hg with rfl|rfl<;>(injection ht with ht;omega)
 refine X1 hT (by simp) dT (hb.rel (hX:=(hc _ _ _ hj).1) (hc _ _ _ hj).2 (fun _=>undef)) rfl fun a2 W2 L2 r2=> ?_
 have hj2:J n X W2:=hJ _ _ _ _ hj (Dd r2);have b2:BF (.func (.yield l) #[] #[]) c ((n:Int) - 1) a2:=BF.of r2 rfl
 have t8:a2.eval (.tmp 8)= .bool (decide (0<=(n:Int) - 1)):=by
  have:=r2.env 8;exact(show bm _ _ _ (.bool (decide ((0:Int)<=(n:Int) - 1))) _ from this).og
 refine wpIn_cond t8 ?_
 cases n with
 |zero=>
  rw[Qh (by omega)]
  refine wpIn_exit ?_;simp only[Exit.then,Exit.inBlock,Qt]
  exact⟨b2.defers,_,hresr _ _,⟨_,rfl⟩,.inl ⟨X,hj2⟩⟩
 |succ m=>
  rw[Qg (by omega)]
  refine wpIn_skip ?_;have e1:((m+1:Nat):Int) - 1=(m:Int):=by omega
  rw[e1]at b2;refine wpIn_seq (wpIn_block (wpIn_seq ?_));refine abm (J0:=J (m+1) X) (J1:=fun W=>∃X,J m X W) (Jx:=Jx) hin (hc _ _ _ hj2).1 (hc _ _ _ hj2).2 (fun W' hW'=>hJ _ _ _ _ hj2 hW') (fun _ _ ⟨X',q1⟩ q2=>⟨X',hJ _ _ _ _ q1 q2⟩) hJx (fun W' e v q1 q2 q3=>hr m X W' e v q1 q2 q3) hG (by omega) b2 fun a3 W3 b hb3 t18 hj3 hx3=> ?_
  refine wpIn_cond (t:= !b) t18 ?_
  cases b with
  |false=>
   refine wpIn_ret ?_;exact⟨hb3.defers,_,hresr _ _,⟨_,rfl⟩,.inr (hx3 rfl)⟩
  |true=>
   refine wpIn_skip ?_
   have dN:∀g∈[(⟨some 9,none,.pE (.tmp 3)⟩:SG),⟨some 10,none,.bin .sub (.tmp 9) (.yO (.int .i64 1))⟩,⟨some 3,none,.pE (.tmp 10)⟩],∀t,g.d=some t->t≠0/\t≠1:=by
    intro g hg t ht;simp only[QA,QR,or_false]at hg;rcases hg with rfl|rfl|rfl<;>(injection ht with ht;omega)
   obtain⟨X',hj4⟩:=hj3 rfl;refine X1 hN (by simp) dN (hb3.rel (hX:=(hc _ _ _ hj4).1) (hc _ _ _ hj4).2 (fun _=>undef)) rfl fun a4 W4 L4 r4=> ?_
   refine⟨m,Nat.lt_succ_self m,by omega,BF.of r4 ?_,X',hJ _ _ _ _ hj4 (Dd r4)⟩
   show PV.int .i64 (IntKind.i64.wrap ((m:Int) - 1))=_;rw[wrap_small (by omega) (by omega)]
end
end
section
open Go.RowKit
section
variable {P : Program} {E : En} {S : St} {a : Act} {w : World} {L : Nat -> Value}
theorem Rel.JT(h:Rel E S a w L){w':World}{a':Act}{env':Nat->PV}(rd:Option Nat)(nd:Bool)(kt:Nat->Option Value)(wk:World)
  (hc:∀(b:Nat) (o:Obj),w.heap[b]?=some o->UL o=true->w'.heap[b]?=some o) (he:∀t,bm w (bu E S L) (S.gh L) (env' t) (a'.tmps.getD t undef))
  (hm:Marks {E with rd:=rd,nd:=nd,kt:=kt,wk:=wk} a' w') (hs:a'.tmps.size=E.nt/\∀t v,kt t=some v->a'.tmps.getD t undef=v) (hf:FrE {E with rd:=rd,nd:=nd,kt:=kt,wk:=wk} w'):
  Rel {E with rd:=rd,nd:=nd,kt:=kt,wk:=wk} {S with env:=env'} a' w' L:=by
 have hcell:∀(p:Addr) (v:Value),w.cell? p=some v->w'.heap[p.block]?=w.heap[p.block]?:=by
  intro p v hp;unfold World.cell? at hp
  cases ho:w.heap[p.block]? with
  |none=>rw[ho]at hp;simp at hp
  |some o=>
   refine hc _ o ho ?_;rw[ho]at hp;cases o<;>first|rfl|(simp at hp)
 have hst:dW w w' (bu E S L) (bu E S L):=⟨fun p v hp hn=>⟨(World.cell?_of_block (hcell p v hp)).trans hp,hn⟩,fun b _ _ hb hn=>⟨hc b _ hb rfl,hn⟩⟩
 refine⟨hm,hs,fun t=>(he t).mono hst (Gh.le.refl _),fun id hid=> ?_,h.apart,h.fresh,hf,h.De⟩
 have ho:=h.obj id hid
 cases hl:(S.H id).c.live with
 |false=>
  cases hcc:(S.H id).c with
  |dead=>trivial
  |box cs=>rw[hcc]at hl;cases hl
  |row e k es=>rw[hcc]at hl;cases hl
 |true=>
  have:=xR.mono (w':=w') hst (Gh.le.refl _) (fun b hb _=>by
   obtain⟨o,h1,h2⟩:=ho.cells hl hb;rw[h1]
   exact hc b o h1 (aex h2)) ho
  cases hcc:(S.H id).c with
  |dead=>trivial
  |box cs=>rw[hcc]at this;exact this
  |row e k es=>rw[hcc]at this;exact this
theorem Fr.putObj{rb:Option Nat}{w0:World}(h:Fr rb w0 w){l:Nat}(hl:w0.heap.size<=l)(o:Obj):Fr rb w0 (w.putObj l o):=
 ⟨h.os,h.tape,h.output,by rw[World.putObj_size];exact h.size,fun b hb hr=>by rw[World.putObj_heap_other (by omega)];exact h.block b hb hr,h.drawn⟩
def St.wv(S:St)(D:List Nat):St:={S with env:=fun t=>if t∈D then .any else S.env t}
theorem Rel.drop(h:Rel E S a w L)(D:List Nat):Rel E (S.wv D) a w L:=
 ⟨h.defers,h.size,fun t=>by
  show bm _ _ _ (if t∈D then .any else S.env t) _
  split
  ·exact .any _
  ·exact h.env t,h.obj,h.apart,h.fresh,h.fr,h.De⟩
theorem ael{x:World}(h:DS x w){l:Nat}(hl:x.heap.size<=l)(o:Obj):DS x (w.putObj l o):=
 ⟨by rw[World.putObj_size];exact h.size,fun k p hk hp=>by
  have hlt:k<x.heap.size:=(Q9.1 hk).1;rw[World.putObj_heap_other (by omega)]
  exact h.same k p hk hp⟩
theorem Jt{l:Nat}{o:Obj}(hl:w.heap[l]?=some o)(ho:UL o=false)(o':Obj):∀(b:Nat) (q:Obj),w.heap[b]?=some q->UL q=true->(w.putObj l o').heap[b]?=some q:=by
 intro b q hb hq
 have:b≠l:=by
  intro e;subst e;rw[hl]at hb;injection hb with hb
  subst hb;rw[ho]at hq;cases hq
 rw[World.putObj_heap_other this];exact hb
def aaj:Exit->Option Code
 | .ret=>some .ret
 | .exit i=>some (.exit i)
 | .goto l=>some (.goto l)
 |_=>none
def VH(I:St->Prop)(S:St):Prop:=∃S',(∀(E:En) (a:Act) (w:World) (L:Nat->Value),Rel E S a w L->∃L',Rel E S' a w L')/\I S'
theorem VH.of{I:St->Prop}{S:St}(h:I S):VH I S:=⟨S,fun _ _ _ L h=>⟨L,h⟩,h⟩
def afL(D:List Nat)(I:St->Prop)(Q:Exit->St->Prop):Exit->St->Prop
 | .normal,T=>VH I (T.wv D)
 | .ret,T=>Q .ret (T.wv D)
 | .exit i,T=>Q (.exit i) (T.wv D)
 | .goto l,T=>Q (.goto l) (T.wv D)
 |_,_=>False
theorem ahN(ts:Array Value)(p0 p1:Nat)(u v:Value):(#[p0,p1].zip #[u,v]).foldl (fun tmps x=>match x with|(t,a)=>tmps.setIfInBounds t a) ts=(ts.setIfInBounds p0 u).setIfInBounds p1 v:=by
 rw[<-Array.foldl_toList,Array.toList_zip];rfl
theorem aiO{ts:Array Value}{p0 p1 t:Nat}{u v:Value}(h0:p0<ts.size)(h1:p1<ts.size):((ts.setIfInBounds p0 u).setIfInBounds p1 v).getD t undef=if t=p1 then v else if t=p0 then u else ts.getD t undef:=by
 simp only[QN]
 by_cases q1:t=p1
 ·subst q1;rw[Qr rfl,Array.getElem?_setIfInBounds_self_of_lt (by simpa using h1)]
  rfl
 ·rw[Qs q1,Array.getElem?_setIfInBounds_ne (fun e=>q1 e.symm)]
  by_cases q0:t=p0
  ·subst q0;rw[Qr rfl,Array.getElem?_setIfInBounds_self_of_lt h0];rfl
  ·rw[Qs q0,Array.getElem?_setIfInBounds_ne (fun e=>q0 e.symm)]
theorem agP{nt:Nat}{tg p0 p1:Nat}{assign body:Code}{f:FuncId}{k:Nat}{nE:Option Nat}{es:List (List PV)}{Q:Exit->St->Prop}(hf:kQ P f 19 (DI k nE) [])(hin:JE k nE es)(hna:B9 assign=true)(hnb:B9 body=true)
  (hp0:p0<nt) (hp1:p1<nt) (_htg:tg∉mq (.rangeFunc (.tmp tg) #[p0,p1] assign body)) (I:Nat->St->Prop)
  (h0:VH (I es.length) (S.wv (mq (.rangeFunc (.tmp tg) #[p0,p1] assign body)))) (hI:∀i T,I i T->T.env tg= .bG f [.ref [.sl es]])
  (hround:∀m T e,I (m+1) T->es[m]?=some e->V P nt assign (Pd (V P nt body (afL (mq (.rangeFunc (.tmp tg) #[p0,p1] assign body)) (I m) Q)) (fun _ _=>False)) {T with env:=bN (bN T.env p0 (.int .i64 m)) p1 (BQ nE e)})
  (hend:∀T,I 0 T->Q .normal T):V P nt (.rangeFunc (.tmp tg) #[p0,p1] assign body) Q S:=by
 intro E hE hk a w L hrel;generalize hD:mq (.rangeFunc (.tmp tg) #[p0,p1] assign body)=D at*;have hk1:∀t∈D,E.kt t=none:=by rw[<-hD];exact hk.1
 obtain⟨hrd,hnd⟩:E.rd=none/\E.nd=false:=by
  rcases hk.2 with h|h
  ·exact h
  ·cases h
 have hDa:∀t∈mq assign,t∈D:=by rw[<-hD];intro t ht;simp only[mq,Qz];exact .inl (.inr ht)
 have hDb:∀t∈mq body,t∈D:=by rw[<-hD];intro t ht;simp only[mq,Qz];exact .inr ht
 have hD0:p0∈D:=by rw[<-hD];simp[mq]
 have hD1:p1∈D:=by rw[<-hD];simp[mq]
 have hclo:∀{i:Nat} {T:St} {w':World} {L':Nat->Value},I i T->Rel E T a w' L'->∃c,a.tmps.getD tg undef= .func (.func f) #[] #[c]/\bm w' (bu E T L') dw (.ref [.sl es]) c:=by
  intro i T w' L' hi hr;have:=hr.env tg;rw[hI i T hi]at this;obtain⟨vs,hv,hrv⟩:=this.yP;obtain⟨c,vs',rfl,hc,hr'⟩:=hrv.cons_inv;have:=hr'.oZ;subst this;exact⟨c,hv,hc.closed rfl (fun b hb=>hb)⟩
 obtain⟨S0,hw0,h0⟩:=h0;obtain⟨L,hrel0⟩:=hw0 E a w L (hrel.drop D);obtain⟨c,hgv,hc0⟩:=hclo h0 hrel0;rw[hrd];refine wpIn_rangeFunc ?_;intro fn _;obtain⟨rec,hrec⟩:∃rec:LoopState->Option Code->Loop,rec=fun st pe=>{state:=st,pending:=pe,fn,tmps:=a.tmps,params:=#[p0,p1],assign,body,defers:=w.heap.size}:=⟨_,rfl⟩
 obtain⟨W1,hW1⟩:∃W1,(w.alloc (.deferred (some []))).alloc (.loop (rec .ready none))=W1:=⟨_,rfl⟩
 have hL1:W1.heap[w.heap.size+1]?=some (.loop (rec .ready none)):=by
  rw[<-hW1];have:=World.alloc_heap_new (w.alloc (.deferred (some []))) (.loop (rec .ready none));rwa [World.size_alloc]at this
 have hK1:W1.heap[w.heap.size]?=some (.deferred (some [])):=by
  rw[<-hW1];exact(Below.heap_alloc _ _ _ (by simp)).trans (World.alloc_heap_new w _)
 let J:Nat->(Nat->Prop)->World->Prop:=fun i X W=>∃T L',X=bu E T L'/\I i T/\Rel E T a W L'/\W.heap[w.heap.size+1]?=some (.loop (rec .ready none))/\W.heap[w.heap.size]?=some (.deferred (some []))
 let Jx:World->Prop:=fun W=>∃en j T L',aaj en=some j/\Q en T/\Rel E T a W L'/\W.heap[w.heap.size+1]?=some (.loop (rec .done (some j)))/\W.heap[w.heap.size]?=some (.deferred (some []))
 have grow:∀{T:St} {L':Nat->Value} {W' W'':World},Rel E T a W' L'->Fr none W' W''->Rel E T a W'' L':=fun h hf=>(h.grow hf.os hf.tape hf.output hf.size (fun b hb=>hf.block b hb (by simp)) hf.drawn).1
 have fb:∀{W' W'':World} {b:Nat} {o:Obj},Fr none W' W''->W'.heap[b]?=some o->W''.heap[b]?=some o:=fun hf hb=>by rw[hf.block _ (Q9.1 hb).1 (by simp)];exact hb
 have hE0:E.w0.heap.size<=w.heap.size:=hrel.fr.size;have hEk:E.wk.heap.size<=w.heap.size:=hrel.fr.ko.size
 have hW1s:∀(b:Nat),b<w.heap.size->W1.heap[b]?=w.heap[b]?:=by
  intro b hb;rw[<-hW1];exact(Below.heap_alloc _ _ _ (by simp;omega)).trans (Below.heap_alloc _ _ _ hb)
 have hrel1:Rel E S0 a W1 L:=(hrel0.grow (w':=W1) (by rw[<-hW1];rfl) (by rw[<-hW1];rfl) (by rw[<-hW1];rfl) (by rw[<-hW1];simp;omega) hW1s (by rw[<-hW1];exact QI _)).1
 have old:∀d∈a.defers,∃Do,d={target:= .collected Do,args:=#[]}/\E.w0.heap.size<=Do/\Do<w.heap.size:=by
  intro d hd;obtain⟨Do,q1,q2,q3⟩:=hrel.defers.at_ d hd
  exact⟨Do,q1,q2,(Q9.1 q3).1⟩
 have hrounds:∀(m:Nat) (X:Nat->Prop) (W':World) (e:List PV) (v:Value),J (m+1) X W'->es[m]?=some e->bm W' X dw (BQ nE e) v->VG P (w.heap.size+1) m v W' fun en W''=>(en= .returned (.bool true)/\∃X,J m X W'')\/(en= .returned (.bool false)/\Jx W''):=by
  rintro m X W' e v ⟨T,L',rfl,hi,hr,hl,hk⟩ hem hrep;refine⟨fn,(a.tmps.setIfInBounds p0 (.int .i64 m)).setIfInBounds p1 v,assign,body,by rw[run_yield hl (by rw[hrec];rfl)];simp only[hrec];rw[<-ahN],?_⟩
  refine roundIn_of_wpIn (F:=WF none) trivial ?_
  let E1:En:={E with rd:=some (w.heap.size+1),nd:=true,kt:=fun t=>if t∈D then none else some (a.tmps.getD t undef),wk:=W'}
  have hget:∀t,((a.tmps.setIfInBounds p0 (.int .i64 m)).setIfInBounds p1 v).getD t undef=if t=p1 then v else if t=p0 then .int .i64 m else a.tmps.getD t undef:=by
   intro t;exact aiO (by rw[hr.size.1,hE];exact hp0) (by rw[hr.size.1,hE];exact hp1)
  have hrel2:Rel E1 {T with env:=bN (bN T.env p0 (.int .i64 m)) p1 (BQ nE e)} {tmps:=(a.tmps.setIfInBounds p0 (.int .i64 m)).setIfInBounds p1 v,defers:=[]} W' L':=by
   refine hr.JT (some (w.heap.size+1)) true _ W' (fun _ _ hb _=>hb) (fun t=> ?_) (Marks.nil rfl) ⟨by simp only[Array.size_setIfInBounds];exact hr.size.1,fun t u hu=> ?_⟩ ⟨hr.fr.toFr,DS.refl _⟩
   ·simp only;rw[hget t];simp only[bN];split
    ·exact hrep.mono (dW.of fun _ hn=>hn) (dw.le _)
    ·split
     ·exact .int _ _
     ·exact hr.env t
   ·simp only at hu ⊢;rw[hget t];split at hu
    ·cases hu
    ·rename_i hnt;injection hu with hu
     rw[Qs (fun e:t=p1=>hnt (by rw[e];exact hD1)),Qs (fun e:t=p0=>hnt (by rw[e];exact hD0)),hu]
  have hV:=hround m T e hi hem;have hw1:=hV E1 hE ⟨fun t ht=>Qr (hDa t ht),.inr hna⟩ _ W' L' hrel2
  refine wpIn_mono hw1 ?_;rintro en a1 w1 ⟨S1,L1,hr1,hq1⟩
  cases en with
  |exit i=>exact hq1.elim
  |goto i=>exact hq1.elim
  |ret=>exact hq1.elim
  |panic ch=>exact hq1.elim
  |outgrown=>exact hq1.elim
  |normal=>
   have hl1:w1.heap[w.heap.size+1]?=some (.loop (rec .ready none)):=hr1.fr.ko.same _ _ hl rfl;have hd1:a1.defers=[]:=hr1.defers.none rfl;refine⟨_,run_beginRound hl1 (by rw[hrec]),?_⟩
   generalize hw2:w1.putObj (w.heap.size+1) (.loop {rec .ready none with state:= .busy})=w2
   have hrec2:({rec .ready none with state:= .busy}:Loop)=rec .busy none:=by rw[hrec]
   rw[hrec2]at hw2;have hlt1:w.heap.size+1<w1.heap.size:=(Q9.1 hl1).1;have hl2:w2.heap[w.heap.size+1]?=some (.loop (rec .busy none)):=by rw[<-hw2];exact World.putObj_heap_same hlt1
   have hrel3:Rel {E with rd:=some (w.heap.size+1),nd:=true,kt:=fun t=>if t∈D then none else some (a.tmps.getD t undef),wk:=w2} S1 a1 w2 L1:=by
    refine hr1.JT (some (w.heap.size+1)) true _ w2 (by rw[<-hw2];exact Jt hl1 rfl _) (fun t=>hr1.env t) (Marks.nil hd1) hr1.size ⟨?_,DS.refl _⟩
    rw[<-hw2];exact hr1.fr.toFr.putObj (by show E.w0.heap.size<=_;omega) _
   have hw3:=hq1 {E with rd:=some (w.heap.size+1),nd:=true,kt:=fun t=>if t∈D then none else some (a.tmps.getD t undef),wk:=w2} hE ⟨fun t ht=>Qr (hDb t ht),.inr hnb⟩ a1 w2 L1 hrel3
   refine wpIn_mono hw3 ?_;rintro en a3 w3 ⟨S3,L3,hr3,hq3⟩;have hl3:w3.heap[w.heap.size+1]?=some (.loop (rec .busy none)):=hr3.fr.ko.same _ _ hl2 rfl;have hlt3:w.heap.size+1<w3.heap.size:=(Q9.1 hl3).1
   have stay:∀(b:Nat) (o:Obj),b≠w.heap.size+1->W'.heap[b]?=some o->isC o=false->∀o',(w3.putObj (w.heap.size+1) o').heap[b]?=some o:=by
    intro b o hne hb ho o';rw[World.putObj_heap_other hne];refine hr3.fr.ko.same b o ?_ ho;rw[<-hw2,World.putObj_heap_other hne];exact hr1.fr.ko.same b o hb ho
   have back:∀o',Rel E (S3.wv D) a (w3.putObj (w.heap.size+1) o') L3:=by
    intro o'
    have:=hr3.JT (w':=w3.putObj (w.heap.size+1) o') (a':=a) (env':=(S3.wv D).env) E.rd E.nd E.kt E.wk (Jt hl3 rfl _) (fun t=>by
      show bm _ _ _ (if t∈D then .any else S3.env t) _
      split
      ·exact .any _
      ·rename_i hnt;have h4:=hr3.size.2 t (a.tmps.getD t undef) (Qs hnt);rw[<-h4];exact hr3.env t) ⟨hr.defers.none,hr.defers.nodup,fun d hd=>by
      obtain⟨Do,q1,q2,q3⟩:=hr.defers.at_ d hd
      obtain⟨Do',q4,_,q6⟩:=old d hd;have:Do=Do':=by rw[q1]at q4;injection q4 with q4;injection q4
      subst this
      exact⟨Do,q1,q2,stay Do _ (by omega) q3 rfl _⟩⟩ hr.size ⟨hr3.fr.toFr.putObj (by show E.w0.heap.size<=_;omega) _,⟨by rw[World.putObj_size];show E.wk.heap.size<=_;omega,fun b o hb ho=>stay b o (by have hb':b<E.wk.heap.size:=(Q9.1 hb).1;omega) (hr.fr.ko.same b o hb ho) ho _⟩⟩
    exact this
   have hk3:∀o',(w3.putObj (w.heap.size+1) o').heap[w.heap.size]?=some (.deferred (some [])):=fun o'=>stay _ _ (by omega) hk rfl o'
   have leave:∀j,aaj en=some j->Q en (S3.wv D)->∃v w',(Instr.endRound (w.heap.size+1) (some j)).run P w3= .ok v w'/\((Ending.returned v= .returned (.bool true)/\∃X,J m X w')\/(Ending.returned v= .returned (.bool false)/\Jx w')):=by
    intro j hj hq;refine⟨_,_,run_endRound (some j) hl3,.inr ⟨rfl,en,j,S3.wv D,L3,hj,hq,back _,?_,hk3 _⟩⟩;rw[World.putObj_heap_same hlt3,hrec];rfl
   cases en with
   |normal=>
    obtain⟨S5,hw5,hi5⟩:=hq3;obtain⟨L5,hr5⟩:=hw5 E a _ L3 (back _);refine⟨_,_,run_endRound none hl3,.inl ⟨rfl,_,S5,L5,rfl,hi5,hr5,?_,hk3 _⟩⟩;rw[World.putObj_heap_same hlt3,hrec];rfl
   |ret=>exact leave _ rfl hq3
   |exit i=>exact leave _ rfl hq3
   |goto i=>exact leave _ rfl hq3
   |panic ch=>exact hq3.elim
   |outgrown=>exact hq3.elim
 have hcalls:=Y3 (P:=P) (c:=c) (l:=w.heap.size+1) hf hin J Jx
  (fun i X W ⟨T,L',hX,hi,hr,_,_⟩=>by
   subst hX;obtain⟨c',h1,h2⟩:=hclo hi hr;rw[hgv]at h1;injection h1 with _ _ h1
   have:c'=c:=by have:=congrArg (fun a:Array Value=>a.toList) h1;simpa using this.symm
   subst this
   exact⟨fun b hb=>C0 hr hb,h2⟩)
  (fun i X W' W'' ⟨T,L',hX,hi,hr,hl,hk⟩ hfr=>⟨T,L',hX,hi,grow hr hfr,fb hfr hl,fb hfr hk⟩)
  (fun W' W'' ⟨en,j,T,L',h1,h2,hr,hl,hk⟩ hfr=>⟨en,j,T,L',h1,h2,grow hr hfr,fb hfr hl,fb hfr hk⟩)
  hrounds W1 (X:=bu E S0 L) ⟨S0,L,rfl,h0,hrel1,hL1,hK1⟩
 refine⟨w.heap.size+1,[{target:= .collected w.heap.size,args:=#[]}],W1,{target:= .fn (.func f) #[c],args:=#[.func (.yield (w.heap.size+1)) #[] #[]]},W1,f,#[.func (.yield (w.heap.size+1)) #[] #[],c],W1,?_,?_,fun _ _=>trivial,?_,(fun h=>by cases h),hcalls.mono ?_⟩
 ·rw[<-hW1,hrec];exact run_enterLoop_outer _ _ _ _ _
 ·have:a.eval (.tmp tg)= .func (.func f) #[] #[c]:=hgv
  have h2:(#[]++#[Operand.const (Value.func (Fn.yield (w.heap.size+1)) #[] #[])].map a.eval:Array Value)=#[.func (.yield (w.heap.size+1)) #[] #[]]:=by
   rw[Array.empty_append];simp[Act.eval]
  simp only[resolve,this,Deferred.ofValue];rw[h2];rfl
 ·have hen:Enters P f:=hf.enters;simp only[invoke];exact sk hen _
 ·rintro en W' ⟨⟨v,rfl⟩,hW'⟩
  have marks:∀{T:St} {L':Nat->Value} (o':Obj),Rel E T a W' L'->W'.heap[w.heap.size+1]?=some o'->UL o'=false->W'.heap[w.heap.size]?=some (.deferred (some []))->∀o'',Rel E T {a with defers:=[{target:= .collected w.heap.size,args:=#[]}]++a.defers} (W'.putObj (w.heap.size+1) o'') L':=by
   intro T L' o' hr hl ho hk o'';refine hr.JT (env':=T.env) E.rd E.nd E.kt E.wk (Jt hl ho _) (fun t=>hr.env t) ⟨(fun e=>by rw[hnd]at e;cases e),?_,fun d hd=> ?_⟩ hr.size ⟨hr.fr.toFr.putObj (by omega) _,ael hr.fr.ko (by omega) _⟩
   ·rw[List.singleton_append,List.nodup_cons];refine⟨fun hmem=> ?_,hr.defers.nodup⟩
    obtain⟨Do,q1,_,q3⟩:=old _ hmem;injection q1 with q1
    injection q1 with q1
    omega
   ·rcases Qz.1 hd with hd|hd
    ·rw[Q5.1 hd];exact⟨_,rfl,hE0,by rw[World.putObj_heap_other (by omega)];exact hk⟩
    ·obtain⟨Do,q1,q2,q3⟩:=hr.defers.at_ d hd
     obtain⟨Do',q4,_,q6⟩:=old d hd;have:Do=Do':=by rw[q1]at q4;injection q4 with q4;injection q4
     subst this;exact⟨Do,q1,q2,by rw[World.putObj_heap_other (by omega)];exact q3⟩
  rcases hW' with⟨X,T,L',_,hi,hr,hl,hk⟩|⟨en,j,T,L',hj,hq,hr,hl,hk⟩
  ·have hend1:=run_endLoop (P:=P) hl (by rw[hrec];intro e;cases e)
   exact⟨none,_,by rw[hend1,hrec],T,L',marks _ hr hl rfl hk _,hend T hi⟩
  ·have hend1:=run_endLoop (P:=P) hl (by rw[hrec];intro e;cases e)
   obtain⟨p,o',hp,hrun⟩:∃p o',p=some j/\(Instr.endLoop (w.heap.size+1)).run P W'= .ok p (W'.putObj (w.heap.size+1) o'):=⟨_,_,by rw[hrec],hend1⟩
   subst hp;have hfin:=marks _ hr hl rfl hk o';refine⟨some j,_,hrun,?_⟩
   cases en with
   |ret=>injection hj with hj;subst hj;exact wpIn_ret ⟨T,L',hfin,hq⟩
   |exit i=>injection hj with hj;subst hj;exact wpIn_exit ⟨T,L',hfin,hq⟩
   |goto i=>injection hj with hj;subst hj;exact wpIn_goto ⟨T,L',hfin,hq⟩
   |normal=>cases hj
   |panic ch=>cases hj
   |outgrown=>cases hj
def SC.uR:SC->List Nat
 | .ze gs| .vr _ gs=>gs.filterMap (·.d)
 | .seq x y| .cond _ x y=>x.uR++y.uR
 | .block _ x| .loop x=>x.uR
 | .Hv _ ps x y=>ps++x.uR++y.uR
 |_=>[]
theorem PY{hs:List Nat}{ops:Array Oper}:∀(l:List Oper) (gs:List SG),l.mapM (xw P hs ops)=some gs->l.filterMap (·.dst)=gs.filterMap (·.d)
 |[],gs,h=>by
  simp at h;subst h;rfl
 |o::l,gs,h=>by
  simp only[Qq75,Qd,Qc,Option.pure_def,Qf]at h;obtain⟨g,hg,gs',hgs,rfl⟩:=h;simp only[List.filterMap_cons,(Jo hg).2.1,PY l gs' hgs]
theorem tn{nt:Nat}{hs:List Nat}:∀(c:Code) (sc:SC),aP P nt hs c=some sc->mq c=sc.uR
 | .skip,sc,h=>by simp only[aP]at h;injection h with h;subst h;rfl
 | .exit _,sc,h=>by simp only[aP]at h;injection h with h;subst h;rfl
 | .ret,sc,h=>by simp only[aP]at h;injection h with h;subst h;rfl
 | .region _ ops false,sc,h=>by
  simp only[aP]at h;split at h
  ·rename_i gs hgs;split at h
   ·injection h with h;subst h;exact PY _ _ hgs
   ·cases h
  ·cases h
 | .region _ ops true,sc,h=>by
  simp only[aP]at h;split at h
  ·rename_i gs hgs;split at h
   ·split at h
    ·injection h with h;subst h;exact PY _ _ hgs
    ·cases h
   ·cases h
  ·cases h
 | .seq x y,sc,h=>by
  simp only[aP]at h;split at h
  ·rename_i hx hy;injection h with h;subst h;simp only[mq,SC.uR,tn x _ hx,tn y _ hy]
  ·cases h
 | .cond c x y,sc,h=>by
  simp only[aP]at h;split at h
  ·rename_i _ hx hy;injection h with h;subst h;simp only[mq,SC.uR,tn x _ hx,tn y _ hy]
  ·cases h
 | .block _ x,sc,h=>by
  simp only[aP,Qb]at h;obtain⟨x',hx,rfl⟩:=h;simp only[mq,SC.uR,tn x _ hx]
 | .loop x,sc,h=>by
  simp only[aP,Qb]at h;obtain⟨x',hx,rfl⟩:=h;simp only[mq,SC.uR,tn x _ hx]
 | .rangeFunc g ps x y,sc,h=>by
  simp only[aP]at h;split at h
  ·rename_i _ hx hy;split at h
   ·injection h with h;subst h;simp only[mq,SC.uR,tn x _ hx,tn y _ hy]
   ·cases h
  ·cases h
 | .goto _,sc,h=>by simp only[aP]at h;cases h
 | .scope _,sc,h=>by simp only[aP]at h;cases h
 | .label _,sc,h=>by simp only[aP]at h;cases h
 | .refuse _,sc,h=>by simp only[aP]at h;cases h
theorem afn{nt:Nat}{tg p0 p1:Nat}{x y:SC}{f:FuncId}{k:Nat}{nE:Option Nat}{es:List (List PV)}{Q:Exit->St->Prop}(hf:kQ P f 19 (DI k nE) [])(hin:JE k nE es)
  (htg:tg∉SC.uR (.Hv (.tmp tg) [p0,p1] x y)) (I:Nat->St->Prop)
  (h0:VH (I es.length) (S.wv (SC.uR (.Hv (.tmp tg) [p0,p1] x y)))) (hI:∀i T,I i T->T.env tg= .bG f [.ref [.sl es]])
  (hround:∀m T e,I (m+1) T->es[m]?=some e->VS P nt x (Pd (VS P nt y (afL (SC.uR (.Hv (.tmp tg) [p0,p1] x y)) (I m) Q)) (fun _ _=>False)) {T with env:=bN (bN T.env p0 (.int .i64 m)) p1 (BQ nE e)})
  (hend:∀T,I 0 T->Q .normal T):VS P nt (.Hv (.tmp tg) [p0,p1] x y) Q S:=by
 intro c hs hc;have hsets:=tn c _ hc
 cases c with
 |rangeFunc g ps assign body=>
  simp only[aP]at hc;split at hc
  ·rename_i g' x' y' hg hx hy;split at hc
   ·rename_i hcond;injection hc with hc
    injection hc with e1 e2 e3 e4
    subst e1 e3 e4;simp only[Qm]at hcond;obtain⟨⟨hn1,hn2⟩,hps⟩:=hcond
    have hps2:ps=#[p0,p1]:=by
     have:=congrArg List.toArray e2;simpa using this
    subst hps2
    have hg2:g= .tmp tg:=by
     cases g with
     |tmp t=>simp only[bB]at hg;injection hg with hg;injection hg with hg;rw[hg]
     |const v=>simp only[bB,Qb]at hg;obtain⟨_,_,hg⟩:=hg;cases hg
     |global g=>simp[bB]at hg
     |func f=>simp[bB]at hg
    subst hg2;rw[<-hsets]at h0 hround htg;simp only[Qq70,List.all_nil,Bool.and_true,Qm,Qi]at hps;refine agP hf hin hn1 hn2 hps.1 hps.2 htg I h0 hI (fun m T e hi he=> ?_) hend
    refine(hround m T e hi he assign hs hx).mono ?_;intro en A hq
    cases en with
    |normal=>exact hq body hs hy
    |exit i=>exact hq
    |goto i=>exact hq
    |ret=>exact hq
    |panic ch=>exact hq
    |outgrown=>exact hq
   ·cases hc
  ·cases hc
 |region id ops d=>cases d<;>simp only[aP]at hc<;>(try split at hc)<;>(try split at hc)<;>(try split at hc)<;>cases hc
 |seq x y=>simp only[aP]at hc;split at hc<;>cases hc
 |cond c x y=>simp only[aP]at hc;split at hc<;>cases hc
 |block id c=>simp only[aP,Qb]at hc;obtain⟨_,_,hc⟩:=hc;cases hc
 |loop c=>simp only[aP,Qb]at hc;obtain⟨_,_,hc⟩:=hc;cases hc
 |_=>simp only[aP]at hc<;>cases hc
end
end
section
section
variable {U : TU}
inductive dF (U:TU) where
 |ty (T:U.Ty)
 |bG (f:FuncId) (cs:List (dF U))
 |ref (a:dF U)
 |agg (cs:List (dF U))
inductive q7 (U:TU) where
 |one (T:U.Ty)
 |many (Ts:List U.Ty)
 |fn (a:dF U)
@[reducible] def Ho (U:TU):List U.Ty->Type
 |[]=>Unit
 |T::l=>U.den T×Ho U l
mutual
@[reducible] def dF.den:dF U->Type
 | .ty T=>U.den T
 | .bG _ cs=>eM cs
 | .ref a=>a.den
 | .agg cs=>eM cs
@[reducible] def eM:List (dF U)->Type
 |[]=>Unit
 |a::l=>a.den×eM l
end
@[reducible] def q7.den:q7 U->Type
 | .one T=>U.den T
 | .many Ts=>Ho U Ts
 | .fn a=>a.den
def EH:(Ts:List U.Ty)->Ho U Ts->List PV
 |[],_=>[]
 |T::l,v=>dx T v.1::EH l v.2
mutual
def nR:(a:dF U)->a.den->PV
 | .ty T,v=>dx T v
 | .bG f cs,v=> .bG f (hZ cs v)
 | .ref a,v=> .ref (qY a v)
 | .agg cs,v=> .agg (hZ cs v)
def qY:(a:dF U)->a.den->List PV
 | .ty T,v=>U.pv T v
 | .bG f cs,v=>[.bG f (hZ cs v)]
 | .ref a,v=>[.ref (qY a v)]
 | .agg cs,v=>hZ cs v
def hZ:(A_s:List (dF U))->eM A_s->List PV
 |[],_=>[]
 |a::l,v=>nR a v.1::hZ l v.2
end
def wS:(r:q7 U)->r.den->PV
 | .one T,v=>dx T v
 | .many Ts,v=> .eo (EH Ts v)
 | .fn a,v=>nR a v
variable (K : TK U)
def tsK:(Ts:List U.Ty)->Ho U Ts->List (KV U)
 |[],_=>[]
 |T::l,v=>xY K T v.1::tsK l v.2
mutual
def ML:(a:dF U)->a.den->KV U
 | .ty T,v=>xY K T v
 | .bG f cs,v=> .bG f (xz cs v)
 | .ref a,v=> .ref (Hk a v)
 | .agg cs,v=> .agg (xz cs v)
def Hk:(a:dF U)->a.den->List (KV U)
 | .ty T,v=>K.eu T v
 | .bG f cs,v=>[.bG f (xz cs v)]
 | .ref a,v=>[.ref (Hk a v)]
 | .agg cs,v=>xz cs v
def xz:(A_s:List (dF U))->eM A_s->List (KV U)
 |[],_=>[]
 |a::l,v=>ML a v.1::xz l v.2
end
def TN:(r:q7 U)->r.den->KV U
 | .one T,v=>xY K T v
 | .many Ts,v=> .eo (tsK K Ts v)
 | .fn a,v=>ML K a v
theorem Zu:∀(Ts:List U.Ty) (v:Ho U Ts),(tsK K Ts v).map KV.pv=EH Ts v
 |[],_=>rfl
 |T::l,v=>by rw[tsK,EH,QD,yG,Zu l v.2]
mutual
theorem XD:∀(a:dF U) (v:a.den),(ML K a v).pv=nR a v
 | .ty T,v=>by rw[ML,nR];exact yG K T v
 | .bG f cs,v=>by rw[ML,nR,KV.pv,KV.cr,BZ cs v]
 | .ref a,v=>by rw[ML,nR,KV.pv,KV.cr,Vz a v]
 | .agg cs,v=>by rw[ML,nR,KV.pv,KV.cr,BZ cs v]
theorem Vz:∀(a:dF U) (v:a.den),(Hk K a v).map KV.pv=qY a v
 | .ty T,v=>by rw[Hk,qY];exact K.sz T v
 | .bG f cs,v=>by rw[Hk,qY,QD,QO,KV.pv,KV.cr,BZ cs v]
 | .ref a,v=>by rw[Hk,qY,QD,QO,KV.pv,KV.cr,Vz a v]
 | .agg cs,v=>by rw[Hk,qY,BZ cs v]
theorem BZ:∀(A_s:List (dF U)) (v:eM A_s),(xz K A_s v).map KV.pv=hZ A_s v
 |[],_=>by rw[xz,hZ];rfl
 |a::l,v=>by rw[xz,hZ,QD,XD a v.1,BZ l v.2]
end
theorem Nb:∀(r:q7 U) (v:r.den),(TN K r v).pv=wS r v
 | .one T,v=>yG K T v
 | .many Ts,v=>by rw[TN,wS,KV.pv,KV.cr,Zu]
 | .fn a,v=>XD K a v
def Tm(lk:Lk U):(Ts:List U.Ty)->List (KV U)->Option (Ho U Ts)
 |[],xs=>match xs with|[]=>some ()|_=>none
 |T::l,xs=>match xs with
  |x::xs=>(match yZ K lk T x with
   |some v=>(match Tm lk l xs with|some vs=>some (v,vs)|none=>none)
   |none=>none)
  |[]=>none
def KV.Th:KV U->Bool
 | .et=>false
 |_=>true
def YH:Option Nat->Nat->Bool
 |none,_=>true
 |some i,id=> !Nat.beq i id
def Bl:List (KV U)->KV U
 |[x]=>x
 |_=> .any
def Hb(T:U.Ty)(cs:List (KV U)):Option (U.den T):=
 match cs.all KV.Th with
 |true=>K.dec T pC cs
 |false=>none
def JZ{α:Type}(f:FuncId)(x:KV U)(k:List (KV U)->Option α):Option α:=
 match x with
 | .bG g caps=>(match Nat.beq g f with|true=>k caps|false=>none)
 |_=>none
def ND{α:Type}(x:KV U)(k:List (KV U)->Option α):Option α:=
 match x with
 | .agg cs=>k cs
 |_=>none
def Te{α:Type}(x:KV U)(k:List (KV U)->Option α):Option α:=
 match x with
 | .ref cs=>k cs
 |_=>none
def Tg(xs:List (KV U)):Option Unit:=
 match xs with
 |[]=>some ()
 |_=>none
def NC{α β:Type}(xs:List (KV U))(k:KV U->Option α)(m:List (KV U)->Option β):Option (α×β):=
 match xs with
 |x::l=>(match k x with
  |some v=>(match m l with|some vs=>some (v,vs)|none=>none)
  |none=>none)
 |[]=>none
def Tf{α:Type}(S:aZ U)(ex:Option Nat)(x:KV U)(k0 k1:List (KV U)->Option α):Option α:=
 match x with
 | .ref cells=>k0 cells
 | .ptr id av off=>(match Nat.beq off 0&&YH ex id with
  |true=>(match Nat.beq (S.H id).av av with
   |true=>(match(S.H id).c with
    | .box cells=>k1 cells
    |_=>none)
   |false=>none)
  |false=>none)
 |_=>none
theorem CD{α:Type}{f:FuncId}{x:KV U}{k:List (KV U)->Option α}{r:α}(h:JZ f x k=some r):∃caps,x= .bG f caps/\k caps=some r:=by
 unfold JZ at h;split at h
 ·split at h
  ·rename_i hg;exact⟨_,by rw[QF hg],h⟩
  ·cases h
 ·cases h
theorem GB{α:Type}{x:KV U}{k:List (KV U)->Option α}{r:α}(h:ND x k=some r):∃cs,x= .agg cs/\k cs=some r:=by
 unfold ND at h;split at h
 ·exact⟨_,rfl,h⟩
 ·cases h
theorem Nz{α:Type}{x:KV U}{k:List (KV U)->Option α}{r:α}(h:Te x k=some r):∃cs,x= .ref cs/\k cs=some r:=by
 unfold Te at h;split at h
 ·exact⟨_,rfl,h⟩
 ·cases h
theorem NB{xs:List (KV U)}{r:Unit}(h:Tg xs=some r):xs=[]:=by
 unfold Tg at h;split at h
 ·rfl
 ·cases h
theorem K5{α β:Type}{xs:List (KV U)}{k:KV U->Option α}{m:List (KV U)->Option β}{r:α×β}(h:NC xs k m=some r):∃x l,xs=x::l/\k x=some r.1/\m l=some r.2:=by
 unfold NC at h;split at h
 ·split at h
  ·rename_i h1;split at h
   ·rename_i h2;injection h with h
    subst h;exact⟨_,_,rfl,h1,h2⟩
   ·cases h
  ·cases h
 ·cases h
theorem NA{α:Type}{S:aZ U}{ex:Option Nat}{x:KV U}{k0 k1:List (KV U)->Option α}{r:α}(h:Tf S ex x k0 k1=some r):
  (∃cs,x= .ref cs/\k0 cs=some r)\/∃id av cells,x= .ptr id av 0/\YH ex id=true/\(S.H id).av=av/\(S.H id).c= .box cells/\k1 cells=some r:=by
 unfold Tf at h;split at h
 ·exact .inl ⟨_,rfl,h⟩
 ·split at h
  ·rename_i hoff;rw[Qm]at hoff;split at h
   ·rename_i hver;split at h
    ·rename_i hc;exact .inr ⟨_,_,_,by rw[QF hoff.1],hoff.2,QF hver,hc,h⟩
    ·cases h
   ·cases h
  ·cases h
 ·cases h
mutual
def Kd:(a:dF U)->KV U->Option a.den
 | .ty T,x=>(match U.agg T with
  |true=>ND x fun cs=>Hb K T cs
  |false=>Hb K T [x])
 | .bG f cs,x=>JZ f x fun caps=>BW cs caps
 | .ref a,x=>Te x fun cells=>CO a cells
 | .agg cs,x=>ND x fun cells=>BW cs cells
def CO:(a:dF U)->List (KV U)->Option a.den
 | .ty T,cells=>Hb K T cells
 | .bG f cs,cells=>JZ f (Bl cells) fun caps=>BW cs caps
 | .ref a,cells=>Te (Bl cells) fun cells=>CO a cells
 | .agg cs,cells=>BW cs cells
def BW:(A_s:List (dF U))->List (KV U)->Option (eM A_s)
 |[],xs=>Tg xs
 |a::l,xs=>NC xs (fun x=>Kd a x) fun xs=>BW l xs
end
mutual
def ME(S:aZ U)(ex:Option Nat):(a:dF U)->KV U->Option a.den
 | .ty T,x=>yZ K S.lk T x
 | .bG f cs,x=>JZ f x fun caps=>tl S ex cs caps
 | .ref a,x=>Tf S ex x (fun cells=>CO K a cells) fun cells=>MD S ex a cells
 | .agg cs,x=>ND x fun cells=>tl S ex cs cells
def MD(S:aZ U)(ex:Option Nat):(a:dF U)->List (KV U)->Option a.den
 | .ty T,cells=>K.dec T S.lk cells
 | .bG f cs,cells=>JZ f (Bl cells) fun caps=>tl S ex cs caps
 | .ref a,cells=>Tf S ex (Bl cells) (fun cells=>CO K a cells) fun cells=>MD S ex a cells
 | .agg cs,cells=>tl S ex cs cells
def tl(S:aZ U)(ex:Option Nat):(A_s:List (dF U))->List (KV U)->Option (eM A_s)
 |[],xs=>Tg xs
 |a::l,xs=>NC xs (fun x=>ME S ex a x) fun xs=>tl S ex l xs
end
mutual
def dF.depth:dF U->Nat
 | .ty _=>2
 | .bG _ cs=>qy cs+1
 | .ref a=>a.depth+1
 | .agg cs=>qy cs+1
def qy:List (dF U)->Nat
 |[]=>2
 |a::l=>max a.depth (qy l)
end
def q7.plain:q7 U->Bool
 | .one T=>U.plain T
 | .many Ts=>Ts.all U.plain
 | .fn _=>false
def dF.ac8:dF U->Bool
 | .ref _=>true
 |_=>false
def q7.ok:q7 U->Bool
 | .fn (.bG _ cs)=>cs.all dF.ac8
 | .fn _=>false
 |_=>true
theorem aeN{H:Nat->gp}{ex:Option Nat}:∀(n:Nat) {y:PV},y.hU=true->fz H ex n y=y
 |0,y,h=>by cases y<;>simp[PV.hU]at h<;>simp[fz,PV.closed]
 |n+1,y,h=>by cases y<;>simp[PV.hU]at h<;>simp[fz,PV.closed]
theorem ab3{H:Nat->gp}{ex:Option Nat}(n:Nat){l:List PV}(h:∀y∈l,y.hU=true):l.map (fz H ex n)=l:=by
 induction l with
 |nil=>rfl
 |cons x l ih=>rw[QD,aeN n (h x (by simp)),ih fun y hy=>h y (by simp[hy])]
theorem Xg{S:aZ U}{id av:Nat}{T:U.Ty}{xs:List (U.den T)}(h:S.lk id av T=some xs):(S.H id).av=av/\∃e k,(S.H id).c= .row e k T xs:=by
 unfold aZ.lk at h;split at h
 ·rename_i hv;split at h
  ·rename_i e k T' ys hc;obtain⟨eq,rfl⟩:=oN h;subst eq;exact⟨QF hv,e,k,hc⟩
  ·cases h
 ·cases h
variable {K}
variable {S : aZ U} {ex : Option Nat}
theorem ae7(hex:∀id,ex=some id->∀e k T xs,(S.H id).c≠ .row e k T xs)(n:Nat){x:KV U}{y:PV}(h:nK S.lk x y)(K:TK U):fz S.st.H ex (n+1) x.pv=y:=by
 cases h with
 |int=>simp[KV.pv,fz,PV.closed]
 |bool=>simp[KV.pv,fz,PV.closed]
 |str=>simp[KV.pv,fz,PV.closed]
 |et=>simp[KV.pv,fz]
 |sl T xs=>simp[KV.pv,fz,PV.closed]
 |jc A B xs=>simp[KV.pv,fz,PV.closed]
 |own id av T xs h=>
  obtain⟨hv,e,k,hc⟩:=Xg h
  have hne:¬(some id=ex\/(S.st.H id).av≠av):=by
   rintro(h1|h1)
   ·exact hex id h1.symm _ _ _ _ hc
   ·exact h1 hv
  have hcp:(S.st.H id).c= .row e k (xs.map (U.pv T)):=by simp[aZ.st,dt.pv,hc,er.pv]
  simp only[KV.pv,fz];rw[Qs hne,hcp];simp only[List.map_map];congr 1;refine Qq71 fun v _=> ?_
  exact ab3 n fun y hy=>K.hU T v y hy
theorem MI(hex:∀id,ex=some id->∀e k T xs,(S.H id).c≠ .row e k T xs)(n:Nat){xs:List (KV U)}{ys:List PV}(h:iM S.lk xs ys)(K:TK U):(xs.map KV.pv).map (fz S.st.H ex (n+1))=ys:=by
 induction h with
 |nil=>rfl
 |cons h _ ih=>rw[QD,QD,ae7 hex n h K,ih]
theorem Lx(hex:∀id,ex=some id->∀e k T xs,(S.H id).c≠ .row e k T xs)(n:Nat){T:U.Ty}{x:KV U}{v:U.den T}(h:yZ K S.lk T x=some v):fz S.st.H ex (n+2) x.pv=dx T v:=by
 unfold yZ at h;unfold dx;split at h
 ·rename_i ha;split at h
  ·rename_i cs;simp only[KV.pv,KV.cr,fz,MI hex n (K.nr _ _ _ _ h) K]
  ·cases h
 ·rename_i ha;have h1:=MI hex (n+1) (K.nr _ _ _ _ h) K;simp only[QD,QO]at h1;simp only[<-h1,List.headD_cons]
theorem Vg(hex:∀id,ex=some id->∀e k T xs,(S.H id).c≠ .row e k T xs)(n:Nat):∀(Ts:List U.Ty) (xs:List (KV U)) (v:Ho U Ts),Tm K S.lk Ts xs=some v->(xs.map KV.pv).map (fz S.st.H ex (n+2))=EH Ts v
 |[],[],_,_=>rfl
 |[],_::_,_,h=>by cases h
 |T::l,[],_,h=>by cases h
 |T::l,x::xs,v,h=>by
  rw[Tm]at h;split at h
  ·rename_i v1 h1;split at h
   ·rename_i vs h2;injection h with h
    subst h;rw[QD,QD,EH,Lx hex n h1,Vg hex n l xs vs h2]
   ·cases h
  ·cases h
theorem Zv{xs:List (KV U)}{ys:List PV}(h:iM pC xs ys):xs.all KV.Th=true->xs.map KV.pv=ys:=by
 induction h with
 |nil=>intro _;rfl
 |cons hc _ ih=>
  intro hn;rw[Qq70,Qm]at hn;rw[QD,ih hn.2];congr 1
  cases hc with
  |et=>cases hn.1
  |own _ _ _ _ h=>cases h
  |_=>rfl
theorem MB{T:U.Ty}{cs:List (KV U)}{v:U.den T}(h:Hb K T cs=some v):cs.map KV.pv=U.pv T v:=by
 unfold Hb at h;split at h
 ·rename_i hn;exact Zv (K.nr _ _ _ _ h) hn
 ·cases h
theorem On{cs:List (KV U)}{f:FuncId}{caps:List (KV U)}(h:Bl cs= .bG f caps):cs=[.bG f caps]:=by
 unfold Bl at h;split at h
 ·rw[h]
 ·cases h
theorem R6{cs cells:List (KV U)}(h:Bl cs= .ref cells):cs=[.ref cells]:=by
 unfold Bl at h;split at h
 ·rw[h]
 ·cases h
theorem aao{cs:List (KV U)}{id av off:Nat}(h:Bl cs= .ptr id av off):cs=[.ptr id av off]:=by
 unfold Bl at h;split at h
 ·rw[h]
 ·cases h
mutual
theorem acg:∀(a:dF U) (x:KV U) (v:a.den),Kd K a x=some v->x.pv=nR a v
 | .ty T,x,v,h=>by
  rw[Kd]at h;rw[nR];split at h
  ·rename_i ha;obtain⟨cs,rfl,h⟩:=GB h;rw[KV.pv,KV.cr,MB h,dx,ha]
  ·rename_i ha;have:=MB h;rw[dx,ha,<-this];rfl
 | .bG f cs,x,v,h=>by
  rw[Kd]at h;rw[nR];obtain⟨caps,rfl,h'⟩:=CD h;rw[KV.pv,KV.cr,BV cs caps v h']
 | .ref a,x,v,h=>by
  rw[Kd]at h;rw[nR];obtain⟨cells,rfl,h⟩:=Nz h;rw[KV.pv,KV.cr,Hc a cells v h]
 | .agg cs,x,v,h=>by
  rw[Kd]at h;rw[nR];obtain⟨cells,rfl,h⟩:=GB h;rw[KV.pv,KV.cr,BV cs cells v h]
theorem Hc:∀(a:dF U) (cs:List (KV U)) (v:a.den),CO K a cs=some v->cs.map KV.pv=qY a v
 | .ty T,cs,v,h=>by rw[CO]at h;rw[qY];exact MB h
 | .bG f cs,cells,v,h=>by
  rw[CO]at h;rw[qY];obtain⟨caps,hh,h⟩:=CD h;rw[On hh,QD,QO,KV.pv,KV.cr,BV cs caps v h]
 | .ref a,cells,v,h=>by
  rw[CO]at h;rw[qY];obtain⟨cells',hh,h⟩:=Nz h;rw[R6 hh,QD,QO,KV.pv,KV.cr,Hc a cells' v h]
 | .agg cs,cells,v,h=>by
  rw[CO]at h;rw[qY];exact BV cs cells v h
theorem BV:∀(A_s:List (dF U)) (xs:List (KV U)) (v:eM A_s),BW K A_s xs=some v->xs.map KV.pv=hZ A_s v
 |[],xs,v,h=>by
  rw[BW]at h;rw[hZ,NB h];rfl
 |a::l,xs,v,h=>by
  rw[BW]at h;rw[hZ];obtain⟨x,xs,rfl,h1,h2⟩:=K5 h;rw[QD,acg a x v.1 h1,BV l xs v.2 h2]
end
mutual
theorem Xv(hex:∀id,ex=some id->∀e k T xs,(S.H id).c≠ .row e k T xs):∀(a:dF U) (n:Nat) (x:KV U) (v:a.den),a.depth<=n->ME K S ex a x=some v->fz S.st.H ex n x.pv=nR a v
 | .ty T,n,x,v,hd,h=>by
  rw[ME]at h;rw[nR];rw[dF.depth]at hd;obtain⟨m,rfl⟩:∃m,n=m+2:=⟨n - 2,by omega⟩
  exact Lx hex m h
 | .bG f cs,n,x,v,hd,h=>by
  rw[ME]at h;rw[nR];rw[dF.depth]at hd;obtain⟨m,rfl⟩:∃m,n=m+1:=⟨n - 1,by omega⟩
  obtain⟨caps,rfl,h'⟩:=CD h;rw[KV.pv,KV.cr,fz,oe hex cs m caps v (by omega) h']
 | .ref a,n,x,v,hd,h=>by
  rw[ME]at h;rw[nR];rw[dF.depth]at hd;obtain⟨m,rfl⟩:∃m,n=m+1:=⟨n - 1,by omega⟩
  rcases NA h with⟨cells,rfl,h⟩|⟨id,av,cells,rfl,hex2,hver,hc,h⟩
  ·rw[KV.pv,KV.cr,Hc a cells v h];simp[fz,PV.closed]
  ·have hne:¬(some id=ex\/(S.st.H id).av≠av):=by
    rintro(h1|h1)
    ·rw[<-h1]at hex2;simp[YH]at hex2
    ·exact h1 hver
   have hcp:(S.st.H id).c= .box (cells.map KV.pv):=by simp[aZ.st,dt.pv,hc,er.pv]
   simp only[KV.pv,fz];rw[Qs hne,hcp];simp only[List.drop_zero];rw[Xu hex a m cells v (by omega) h]
 | .agg cs,n,x,v,hd,h=>by
  rw[ME]at h;rw[nR];rw[dF.depth]at hd;obtain⟨m,rfl⟩:∃m,n=m+1:=⟨n - 1,by omega⟩
  obtain⟨caps,rfl,h'⟩:=GB h;rw[KV.pv,KV.cr,fz,oe hex cs m caps v (by omega) h']
theorem Xu(hex:∀id,ex=some id->∀e k T xs,(S.H id).c≠ .row e k T xs):∀(a:dF U) (n:Nat) (cs:List (KV U)) (v:a.den),a.depth<=n->MD K S ex a cs=some v->(cs.map KV.pv).map (fz S.st.H ex n)=qY a v
 | .ty T,n,cs,v,hd,h=>by
  rw[MD]at h;rw[qY];rw[dF.depth]at hd;obtain⟨m,rfl⟩:∃m,n=m+1:=⟨n - 1,by omega⟩
  exact MI hex m (K.nr _ _ _ _ h) K
 | .bG f cs,n,cells,v,hd,h=>by
  rw[MD]at h;rw[qY];rw[dF.depth]at hd;obtain⟨m,rfl⟩:∃m,n=m+1:=⟨n - 1,by omega⟩
  obtain⟨caps,hh,h⟩:=CD h;rw[On hh,QD,QO,QD,QO,KV.pv,KV.cr,fz,oe hex cs m caps v (by omega) h]
 | .ref a,n,cells,v,hd,h=>by
  rw[MD]at h;rw[qY];rw[dF.depth]at hd;obtain⟨m,rfl⟩:∃m,n=m+1:=⟨n - 1,by omega⟩
  rcases NA h with⟨cells',hh,h⟩|⟨id,av,cells',hh,hex2,hver,hc,h⟩
  ·rw[R6 hh,QD,QO,KV.pv,KV.cr,Hc a cells' v h];simp[fz,PV.closed]
  ·have hne:¬(some id=ex\/(S.st.H id).av≠av):=by
    rintro(h1|h1)
    ·rw[<-h1]at hex2;simp[YH]at hex2
    ·exact h1 hver
   have hcp:(S.st.H id).c= .box (cells'.map KV.pv):=by simp[aZ.st,dt.pv,hc,er.pv]
   rw[aao hh];simp only[QD,QO,KV.pv,fz];rw[Qs hne,hcp];simp only[List.drop_zero];rw[Xu hex a m cells' v (by omega) h]
 | .agg cs,n,cells,v,hd,h=>by
  rw[MD]at h;rw[qY];rw[dF.depth]at hd;exact oe hex cs n cells v (by omega) h
theorem oe(hex:∀id,ex=some id->∀e k T xs,(S.H id).c≠ .row e k T xs):∀(A_s:List (dF U)) (n:Nat) (xs:List (KV U)) (v:eM A_s),qy A_s<=n->tl K S ex A_s xs=some v->(xs.map KV.pv).map (fz S.st.H ex n)=hZ A_s v
 |[],n,xs,v,hd,h=>by
  rw[tl]at h;rw[hZ,NB h];rfl
 |a::l,n,xs,v,hd,h=>by
  rw[tl]at h;rw[hZ];rw[qy]at hd;obtain⟨x,xs,rfl,h1,h2⟩:=K5 h;rw[QD,QD,Xv hex a n x v.1 (by omega) h1,oe hex l n xs v.2 (by omega) h2]
end
theorem vC{xs:List (KV U)}{ys:List PV}(h:iM pC xs ys):(xs.map KV.pv).map nz=ys/\xs.all KV.closed=true:=by
 induction h with
 |nil=>exact⟨rfl,rfl⟩
 |cons h _ ih=>
  obtain⟨h1,h2⟩:=ih;simp only[QD,Qq70,h1,h2,Bool.and_true]
  cases h with
  |own _ _ _ _ h=>cases h
  |_=>simp[KV.pv,nz,KV.closed]
def aZ.PW(S:aZ U)(id av:Nat):aZ U:={env:=S.env,H:=iC S.H id ⟨av,.dead⟩,N:=S.N}
theorem adk{H H':Nat->gp}{ex:Option Nat}(h:∀j,some j≠ex->H' j=H j):∀(n:Nat) (y:PV),fz H' ex n y=fz H ex n y
 |0,y=>by simp only[fz]
 |n+1,y=>by
  have hm:fz H' ex n=fz H ex n:=funext (adk h n)
  cases y with
  |own id av=>
   simp only[fz,hm]
   by_cases h0:some id=ex
   ·rw[Qr (.inl h0),Qr (.inl h0)]
   ·rw[h id h0]
  |ptr id av off=>
   simp only[fz,hm]
   by_cases h0:some id=ex
   ·rw[Qr (.inl h0),Qr (.inl h0)]
   ·rw[h id h0]
  |agg cs=>simp only[fz,hm]
  |eo cs=>simp only[fz,hm]
  |bG f cs=>simp only[fz,hm]
  |_=>simp only[fz]
theorem Xi(S:aZ U)(id av n:Nat)(y:PV):fz (S.PW id av).st.H (some id) n y=fz S.st.H (some id) n y:=by
 refine adk (fun j hj=> ?_) n y
 have:j≠id:=fun e=>hj (by rw[e])
 simp only[aZ.PW,aZ.st,cW,cP _ _ this]
theorem UU(S:aZ U)(id av:Nat):∀j,some id=some j->∀e k T xs,((S.PW id av).H j).c≠ .row e k T xs:=by
 intro j hj e k T xs;injection hj with hj
 subst hj;simp only[aZ.PW,cW,cq];intro h;cases h
inductive eB (U:TU) where
 |rw(f:FuncId) (e k:Nat) (T:U.Ty) (A_s:List (dF U)) (rs:q7 U) (F:List (U.den T)->eM A_s->Option (rs.den×List (U.den T)))
 |cw (f:FuncId) (e k:Nat) (T:U.Ty) (A_s:List (dF U)) (F:List (U.den T)->eM A_s->Option (List (U.den T)))
 |fw (f:FuncId) (A_s:List (dF U)) (e k:Nat) (T:U.Ty) (F:eM A_s->Option (List (U.den T)))
 |fn (f:FuncId) (A_s:List (dF U)) (rs:q7 U) (F:eM A_s->Option rs.den)
 |rc (f:FuncId) (pos:Nat) (R:U.Ty) (A_s:List (dF U)) (rs:q7 U) (F:U.den R->eM A_s->Option (rs.den×U.den R))
 |nw (f:FuncId) (A_s:List (dF U)) (R:U.Ty) (F:eM A_s->Option (U.den R))
 |ro (f:FuncId) (pos:Nat) (R:U.Ty) (A_s:List (dF U)) (rs:q7 U) (F:U.den R->eM A_s->Option (rs.den×U.den R))
 |bk (f k:Nat) (nE:Option Nat)
def eB.Sound(P:Program):eB U->Prop
 | .rw f e k T A_s rs F=>Enters P f/\∀xs a r ys,F xs a=some (r,ys)->Zf P f e k (xs.map (U.pv T)) (hZ A_s a) (wS rs r) (ys.map (U.pv T))
 | .cw f e k T A_s F=>Enters P f/\∀xs a ys,F xs a=some ys->MN P f e k (xs.map (U.pv T)) (hZ A_s a) (ys.map (U.pv T))
 | .fw f A_s e k T F=>Enters P f/\∀a ys,F a=some ys->VU P f (hZ A_s a) e k (ys.map (U.pv T))
 | .fn f A_s rs F=>Enters P f/\∀a r,F a=some r->Con P f false [] (hZ A_s a) (wS rs r) []
 | .rc f pos R A_s rs F=>Enters P f/\∀s a r s',F s a=some (r,s')->Kk P f pos true (U.pv R s) (hZ A_s a) (wS rs r) (U.pv R s')
 | .ro f pos R A_s rs F=>Enters P f/\∀s a r s',F s a=some (r,s')->s'=s/\Kk P f pos true (U.pv R s) (hZ A_s a) (wS rs r) (U.pv R s')
 | .nw f A_s R F=>Enters P f/\∀a s,F a=some s->Zg P f (hZ A_s a) (U.pv R s)
 | .bk f k nE=>kQ P f 19 (DI k nE) []
def xc(P:Program):List (eB U)->Prop
 |[]=>True
 |f::l=>f.Sound P/\xc P l
def Ot(f k:Nat)(nE:Option Nat):List (eB U)->Bool
 |[]=>false
 | .bk f' k' nE'::Γ=>(Nat.beq f f'&&Nat.beq k k'&&(match nE,nE' with|none,none=>true|some a,some b=>Nat.beq a b|_,_=>false))||Ot f k nE Γ
 |_::Γ=>Ot f k nE Γ
theorem Mt{P:Program}{f k:Nat}{nE:Option Nat}:∀{Γ:List (eB U)},xc P Γ->Ot f k nE Γ=true->kQ P f 19 (DI k nE) []
 |[],_,h=>by cases h
 | .bk f' k' nE'::Γ,hΓ,h=>by
  simp only[Ot,Qn,Qm]at h;rcases h with⟨⟨h1,h2⟩,h3⟩|h
  ·have h1:=QF h1;have h2:=QF h2;subst h1 h2
   have h4:nE=nE':=by
    cases nE<;>cases nE'<;>simp only at h3<;>first|rfl|(cases h3)|(rw[QF h3])
   subst h4;exact hΓ.1
  ·exact Mt hΓ.2 h
 | .ro ..::Γ,hΓ,h| .rw ..::Γ,hΓ,h| .cw ..::Γ,hΓ,h| .fw ..::Γ,hΓ,h| .fn ..::Γ,hΓ,h| .rc ..::Γ,hΓ,h| .nw ..::Γ,hΓ,h=>Mt (Γ:=Γ) hΓ.2 h
theorem UZ{y:PV}(h:y.hU=true):y.closed=true:=by
 cases y<;>first|rfl|cases h
open Classical in
 def wi(recv:Bool)(pos:Nat)(fresh ro:Bool)(cs args:List PV)(r:PV)(cs':List PV):Model:=
 {recv:=recv,pos:=pos,fresh:=fresh,m:=fun c a=>if c=cs/\a=args then some (r,cs')else none,rk:= .no,ro:=ro,rm:=fun _ _=>none}
open Classical in
 def CB(rk:RK)(es:List (List PV))(args:List PV)(r:PV)(es':List (List PV)):Model:=
 {recv:=false,pos:=0,fresh:=false,m:=fun _ _=>none,rk:=rk,ro:=false,rm:=fun c a=>if c=es/\a=args then some (r,es')else none}
 def xj(f:FuncId)(m:Model):pM:=fun g=>if g=f then some m else none
theorem uY{P:Program}{f:FuncId}{m:Model}(h:aa2 P f m):oP P (xj f m):=by
 intro g m' hg;unfold xj at hg;split at hg
 ·rename_i e;subst e;injection hg with hg;subst hg;exact h
 ·cases hg
theorem uZ(f:FuncId)(m:Model):xj f m f=some m:=Qr rfl
def aZ.uq(S:aZ U)(id av:Nat):Option (List (KV U)):=
 match Nat.beq (S.H id).av av with
 |true=>match(S.H id).c with
  | .box cs=>some cs
  |_=>none
 |false=>none
theorem BY{id av:Nat}{cs:List (KV U)}(h:S.uq id av=some cs):(S.H id).av=av/\(S.H id).c= .box cs:=by
 unfold aZ.uq at h;split at h
 ·rename_i hv;split at h
  ·rename_i hc;injection h with h;subst h;exact⟨QF hv,hc⟩
  ·cases h
 ·cases h
structure acH (U:TU) where
 e:Nat
 k:Nat
 T:U.Ty
 xs:List (U.den T)
def aZ.row?(S:aZ U)(id av:Nat):Option (acH U):=
 match Nat.beq (S.H id).av av with
 |true=>match(S.H id).c with
  | .row e k T xs=>some ⟨e,k,T,xs⟩
  |_=>none
 |false=>none
theorem Ed{id av:Nat}{r:acH U}(h:S.row? id av=some r):(S.H id).av=av/\(S.H id).c= .row r.e r.k r.T r.xs:=by
 unfold aZ.row? at h;split at h
 ·rename_i hv;split at h
  ·rename_i hc;injection h with h;subst h;exact⟨QF hv,hc⟩
  ·cases h
 ·cases h
theorem qK{id av:Nat}{r:acH U}(h:S.row? id av=some r):(S.st.H id).av=av/\(S.st.H id).c= .row r.e r.k (r.xs.map (U.pv r.T)):=by
 obtain⟨h1,h2⟩:=Ed h;exact⟨h1,by simp[aZ.st,dt.pv,h2,er.pv]⟩
structure agU (U:TU) where
 e:Nat
 k:Nat
 es:List (List (KV U))
def aZ.TX(S:aZ U)(id av:Nat):Option (agU U):=
 match Nat.beq (S.H id).av av with
 |true=>match(S.H id).c with
  | .raw e k es=>some ⟨e,k,es⟩
  |_=>none
 |false=>none
theorem TW{id av:Nat}{r:agU U}(h:S.TX id av=some r):(S.st.H id).av=av/\(S.st.H id).c= .row r.e r.k (r.es.map fun c=>c.map KV.pv):=by
 unfold aZ.TX at h;split at h
 ·rename_i hv;split at h
  ·rename_i hc;injection h with h
   subst h;exact⟨QF hv,by simp[aZ.st,dt.pv,hc,er.pv]⟩
  ·cases h
 ·cases h
def Td{α:Type}(S:aZ U)(e k:Nat)(T:U.Ty)(args:List (KV U))(j:Nat->Nat->List (U.den T)->List (KV U)->Option α):Option α:=
 match args with
 | .own id av::rest=>(match S.row? id av with
  |some r=>(match Nat.beq r.e e&&Nat.beq r.k k with
   |true=>(match Bq r.T T r.xs with|some xs=>j id av xs rest|none=>none)
   |false=>none)
  |none=>none)
 |_=>none
theorem Ny{α:Type}{e k:Nat}{T:U.Ty}{args:List (KV U)}{j:Nat->Nat->List (U.den T)->List (KV U)->Option α}{r:α}(h:Td S e k T args j=some r):
  ∃id av xs rest,args= .own id av::rest/\(S.H id).av=av/\(S.H id).c= .row e k T xs/\j id av xs rest=some r:=by
 unfold Td at h;split at h
 ·rename_i id av rest;split at h
  ·rename_i rr hr;obtain⟨h1,h2⟩:=Ed hr;split at h
   ·rename_i hek;rw[Qm]at hek;split at h
    ·rename_i xs hxs;obtain⟨eT,rfl⟩:=oN hxs;obtain⟨re,rk,rT,rxs⟩:=rr;simp only at eT h2 hek;subst eT;exact⟨id,av,_,rest,rfl,h1,by rw[h2,QF hek.1,QF hek.2],h⟩
    ·cases h
   ·cases h
  ·cases h
 ·cases h
theorem AE(K:TK U)(T:U.Ty)(xs:List (U.den T)):BA (xs.map (U.pv T))=true:=by
 refine QH.2 fun u hu=> ?_
 obtain⟨x,_,rfl⟩:=QP.1 hu;exact QH.2 fun y hy=>UZ (K.hU T x y hy)
theorem LP(K:TK U){T:U.Ty}(hp:U.plain T=true)(xs:List (U.den T)):IC (xs.map (U.pv T))=true:=by
 refine QH.2 fun u hu=> ?_
 obtain⟨x,_,rfl⟩:=QP.1 hu;exact QH.2 fun y hy=>K.plain T hp x y hy
variable (K)
def ke{ρ:Type}(nid:Nat)(S:aZ U)(f:FuncId)(args:List (KV U))(k:KV U->Option (Nat×dt U)->Option ρ):List (eB U)->Option ρ
 |[]=>none
 | .bk _ _ _::Γ=>ke nid S f args k Γ
 | .rw g e kk T A_s rs F::Γ=>match Nat.beq f g with
  |true=>Td S e kk T args fun id av xs rest=>(match tl K (S.PW id av) (some id) A_s rest with
   |some a=>(match(rs.plain||rest.all KV.bE)&&(U.plain T||rest.all KV.bE)&&(rs.ok&&Nat.ble (qy A_s) 9)with
    |true=>(F xs a).bind fun p=>k (TN K rs p.1) (some (id,⟨av,.row e kk T p.2⟩))
    |false=>none)
   |none=>ke nid S f args k Γ)
  |false=>ke nid S f args k Γ
 | .cw g e kk T A_s F::Γ=>match Nat.beq f g with
  |true=>Td S e kk T args fun id av xs rest=>(match tl K (S.PW id av) (some id) A_s rest with
   |some a=>(match(U.plain T||rest.all KV.bE)&&Nat.ble (qy A_s) 9 with
    |true=>(F xs a).bind fun ys=>k (.own id (av+1)) (some (id,⟨av+1,.row e kk T ys⟩))
    |false=>none)
   |none=>ke nid S f args k Γ)
  |false=>ke nid S f args k Γ
 | .fw g A_s e kk T F::Γ=>match Nat.beq f g with
  |true=>(match tl K S none A_s args with
   |some a=>(match(U.plain T||args.all KV.bE)&&Nat.ble (qy A_s) 9 with
    |true=>(F a).bind fun ys=>k (.own nid ((S.H nid).av+1)) (some (nid,⟨(S.H nid).av+1,.row e kk T ys⟩))
    |false=>none)
   |none=>ke nid S f args k Γ)
  |false=>ke nid S f args k Γ
 | .fn g A_s rs F::Γ=>match Nat.beq f g with
  |true=>(match tl K S none A_s args with
   |some a=>(match(rs.plain||args.all KV.bE)&&(rs.ok&&Nat.ble (qy A_s) 9)with
    |true=>(F a).bind fun r=>k (TN K rs r) none
    |false=>none)
   |none=>ke nid S f args k Γ)
  |false=>ke nid S f args k Γ
 | .rc g pos R A_s rs F::Γ=>match Nat.beq f g with
  |true=>(match args[pos]? with
   |some (.ptr id av 0)=>(match S.uq id av with
    |some cs=>(match K.dec R pC cs with
     |some s=>(match tl K S (some id) A_s (cutAt pos args)with
      |some a=>(match((rs.plain&&U.plain R)||(cutAt pos args).all KV.bE)&&(rs.ok&&Nat.ble (qy A_s) 9)with
       |true=>(F s a).bind fun p=>k (TN K rs p.1) (some (id,⟨av,.box (K.eu R p.2)⟩))
       |false=>none)
      |none=>ke nid S f args k Γ)
     |none=>none)
    |none=>none)
   |_=>none)
  |false=>ke nid S f args k Γ
 | .ro g pos R A_s rs F::Γ=>match Nat.beq f g with
  |true=>(match args[pos]? with
   |some (.ptr id av 0)=>(match S.uq id av with
    |some cs=>(match Hb K R cs with
     |some s=>(match tl K S (some id) A_s (cutAt pos args)with
      |some a=>(match((rs.plain&&U.plain R)||(cutAt pos args).all KV.bE)&&(rs.ok&&Nat.ble (qy A_s) 9)with
       |true=>(F s a).bind fun p=>k (TN K rs p.1) none
       |false=>none)
      |none=>ke nid S f args k Γ)
     |none=>none)
    |none=>none)
   |_=>none)
  |false=>ke nid S f args k Γ
 | .nw g A_s R F::Γ=>match Nat.beq f g with
  |true=>(match tl K S none A_s args with
   |some a=>(match(U.plain R||args.all KV.bE)&&Nat.ble (qy A_s) 9 with
    |true=>(F a).bind fun s=>k (.ptr nid ((S.H nid).av+1) 0) (some (nid,⟨(S.H nid).av+1,.box (K.eu R s)⟩))
    |false=>none)
   |none=>ke nid S f args k Γ)
  |false=>ke nid S f args k Γ
variable {K}
theorem vV{T:U.Ty}(K:TK U)(v:U.den T)(ha:U.agg T=false):∃y,dx T v=y/\y∈U.pv T v:=by
 have h1:=K.len T v;rw[K.one T ha]at h1
 cases hq:U.pv T v with
 |nil=>rw[hq]at h1;cases h1
 |cons y l=>exact⟨y,by rw[dx,ha,hq];rfl,Qx⟩
theorem yF{T:U.Ty}(v:U.den T)(ha:U.agg T=true):dx T v= .agg (U.pv T v):=by rw[dx,ha]
theorem T8{y:PV}(h:y.plain=true):y.qM=true:=by
 cases y<;>first|exact h|cases h
theorem gU{y:PV}(h:y.hU=true):y.closed=true:=by
 cases y<;>first|rfl|cases h
theorem UY{y:PV}(h:y.hU=true):y.bE=true:=by
 cases y<;>first|rfl|cases h
theorem KW(K:TK U){T:U.Ty}(hp:U.plain T=true)(v:U.den T):(dx T v).qM=true:=by
 cases ha:U.agg T with
 |true=>rw[yF v ha];exact QH.2 fun y hy=>K.plain T hp v y hy
 |false=>obtain⟨y,h1,h2⟩:=vV K v ha;rw[h1];exact T8 (K.plain T hp v y h2)
theorem B3{T:U.Ty}(K:TK U)(v:U.den T):(dx T v).bE=true:=by
 cases ha:U.agg T with
 |true=>rw[yF v ha];exact QH.2 fun y hy=>gU (K.hU T v y hy)
 |false=>obtain⟨y,h1,h2⟩:=vV K v ha;rw[h1];exact UY (K.hU T v y h2)
theorem MQ(K:TK U):∀(Ts:List U.Ty) (v:Ho U Ts),Ts.all U.plain=true->(EH Ts v).all PV.qM=true
 |[],v,_=>rfl
 |T::l,v,h=>by
  rw[Qq70,Qm]at h;rw[EH,Qq70,KW K h.1 v.1,MQ K l v.2 h.2];rfl
theorem H9(K:TK U):∀(Ts:List U.Ty) (v:Ho U Ts),(EH Ts v).all PV.bE=true
 |[],v=>rfl
 |T::l,v=>by rw[EH,Qq70,B3 K v.1,H9 K l v.2];rfl
theorem ZO{y:PV}(h:y.qM=true):y.uV=true:=by
 cases y<;>first|exact h|cases h
theorem Ht{T:U.Ty}(K:TK U)(v:U.den T)(cs:List PV):dx T v≠ .eo cs:=by
 intro h
 cases ha:U.agg T with
 |true=>rw[yF v ha]at h;cases h
 |false=>obtain⟨y,h1,h2⟩:=vV K v ha;have h3:=K.hU T v y h2;rw[<-h1,h]at h3;cases h3
theorem Bd(K:TK U):∀(r:q7 U) (v:r.den),r.plain=true->(wS r v).uV=true
 | .one T,v,h=>ZO (KW K h v)
 | .many Ts,v,h=>MQ K Ts v h
 | .fn _,_,h=>by cases h
theorem Sq:∀(A_s:List (dF U)) (v:eM A_s),A_s.all dF.ac8=true->(hZ A_s v).all PV.closed=true
 |[],_,_=>by rw[hZ];rfl
 |a::l,v,h=>by
  rw[Qq70,Qm]at h;rw[hZ,Qq70,Sq l v.2 h.2,Bool.and_true]
  cases a with
  |ref a=>rw[nR];rfl
  |ty T=>cases h.1
  |bG f cs=>cases h.1
  |agg cs=>cases h.1
theorem zd(K:TK U):∀(r:q7 U) (v:r.den),r.ok=true->(wS r v).wy=true
 | .fn (.bG f cs),v,h=>by
  show(nR (.bG f cs) v).wy=true;rw[nR];exact Sq cs v h
 | .fn (.ty _),v,h=>by cases h
 | .fn (.ref _),v,h=>by cases h
 | .fn (.agg _),v,h=>by cases h
 | .one T,v,_=>by
  show(dx T v).wy=true;have h1:=B3 K v;have h2:=Ht K v;generalize dx T v=y at h1 h2;cases y<;>first|exact h1|exact absurd rfl (h2 _)
 | .many Ts,v,_=>H9 K Ts v
theorem mO(l:List (KV U)):(l.map KV.pv).all PV.bE=l.all KV.bE:=by
 induction l with
 |nil=>rfl
 |cons x l ih=>simp only[QD,Qq70,YT,ih]
theorem eR{P:Program}{ρ:Type}{nid:Nat}{f:FuncId}{args:List (KV U)}{k:KV U->Option (Nat×dt U)->Option ρ}{r:ρ}:∀{Γ:List (eB U)},xc P Γ->ke K nid S f args k Γ=some r->
  ∃Γ' x wr,oP P Γ'/\nu Γ' nid S.st f (args.map KV.pv)=some (x.pv,wr.map kK)/\k x wr=some r
 |[],_,h=>by cases h
 | .bk _ _ _::Γ,hΓ,h=>eR (Γ:=Γ) hΓ.2 h
 | .rw g e kk T A_s rs F::Γ,hΓ,h=>by
  simp only[ke]at h;split at h
  ·rename_i hg;have hg:=QF hg;subst hg;obtain⟨id,av,xs,rest,rfl,hver,hc,h'⟩:=Ny h;split at h'
   ·rename_i a ha;split at h'
    ·rename_i hcl;simp only[Qc]at h';obtain⟨⟨v,ys⟩,hv,hk⟩:=h';rw[Qm,Qm,Qm]at hcl;obtain⟨⟨hcl1,hcl2⟩,hrok,hdep⟩:=hcl;have hfz:=oe (ex:=some id) (UU S id av) A_s 9 rest a (QG hdep) ha
     have hfz':(rest.map KV.pv).map (fz S.st.H (some id) 9)=hZ A_s a:=by
      rw[<-hfz];exact Qq71 fun y _=>(Xi S id av 9 y).symm
     obtain⟨hen,hcon⟩:=hΓ.1;refine⟨xj f (CB (.bor e kk) (xs.map (U.pv T)) (hZ A_s a) (wS rs v) (ys.map (U.pv T))),TN K rs v,some (id,⟨av,.row e kk T ys⟩),uY ⟨hen,(fun _ cs as' r' cs' hm=>by cases hm),(fun hq=>by cases hq),fun es as' r' es' hm=> ?_,(fun hq=>by cases hq)⟩,?_,hk⟩
     ·simp only[CB]at hm;split at hm
      ·rename_i he;injection hm with hm
       injection hm with h1 h2
       subst h1 h2;obtain⟨rfl,rfl⟩:=he;exact hcon xs a v ys hv
      ·cases hm
     ·have hv1:(S.st.H id).av=av:=hver;have hc1:(S.st.H id).c= .row e kk (xs.map (U.pv T)):=by simp[aZ.st,dt.pv,hc,er.pv]
      simp only[QD,KV.pv,nu,uZ,CB,AW,hv1,hc1,Qt,AE K T xs,and_self,hfz',Nb,Qe,kK,dt.pv,er.pv];rw[Qr];rw[mO,zd K rs v hrok,AE K T ys];simp only[Qn]at hcl1 hcl2;rcases hcl1 with hcl1|hcl1
      ·rw[Bd K rs v hcl1];rcases hcl2 with hcl2|hcl2
       ·rw[LP K hcl2 ys];rfl
       ·rw[hcl2];simp
      ·rw[hcl1];simp
    ·cases h'
   ·exact eR hΓ.2 h'
  ·exact eR hΓ.2 h
 | .cw g e kk T A_s F::Γ,hΓ,h=>by
  simp only[ke]at h;split at h
  ·rename_i hg;have hg:=QF hg;subst hg;obtain⟨id,av,xs,rest,rfl,hver,hc,h'⟩:=Ny h;split at h'
   ·rename_i a ha;split at h'
    ·rename_i hcl;simp only[Qc]at h';obtain⟨ys,hv,hk⟩:=h';rw[Qm]at hcl;obtain⟨hcl2,hdep⟩:=hcl;have hfz:=oe (ex:=some id) (UU S id av) A_s 9 rest a (QG hdep) ha
     have hfz':(rest.map KV.pv).map (fz S.st.H (some id) 9)=hZ A_s a:=by
      rw[<-hfz];exact Qq71 fun y _=>(Xi S id av 9 y).symm
     obtain⟨hen,hcon⟩:=hΓ.1;refine⟨xj f (CB (.Sk e kk) (xs.map (U.pv T)) (hZ A_s a) .any (ys.map (U.pv T))),.own id (av+1),some (id,⟨av+1,.row e kk T ys⟩),uY ⟨hen,(fun _ cs as' r' cs' hm=>by cases hm),(fun hq=>by cases hq),fun es as' r' es' hm=> ?_,(fun hq=>by cases hq)⟩,?_,hk⟩
     ·simp only[CB]at hm;split at hm
      ·rename_i he;injection hm with hm
       injection hm with h1 h2
       subst h1 h2;obtain⟨rfl,rfl⟩:=he;exact hcon xs a ys hv
      ·cases hm
     ·have hv1:(S.st.H id).av=av:=hver;have hc1:(S.st.H id).c= .row e kk (xs.map (U.pv T)):=by simp[aZ.st,dt.pv,hc,er.pv]
      simp only[QD,KV.pv,nu,uZ,CB,AV,hv1,hc1,Qt,AE K T xs,and_self,hfz',Qe,kK,dt.pv,er.pv];rw[Qr];rw[mO,AE K T ys];simp only[Qn]at hcl2;rcases hcl2 with hcl2|hcl2
      ·rw[LP K hcl2 ys];rfl
      ·rw[hcl2];simp
    ·cases h'
   ·exact eR hΓ.2 h'
  ·exact eR hΓ.2 h
 | .fw g A_s e kk T F::Γ,hΓ,h=>by
  simp only[ke]at h;split at h
  ·rename_i hg;have hg:=QF hg;subst hg;split at h
   ·rename_i a ha;split at h
    ·rename_i hcl;simp only[Qc]at h;obtain⟨ys,hv,hk⟩:=h;rw[Qm]at hcl;obtain⟨hcl2,hdep⟩:=hcl;have hfz:=oe (ex:=none) (fun id h=>by cases h) A_s 9 args a (QG hdep) ha
     obtain⟨hen,hcon⟩:=hΓ.1;refine⟨xj f (CB (.fre e kk) [] (hZ A_s a) .any (ys.map (U.pv T))),.own nid ((S.H nid).av+1),some (nid,⟨(S.H nid).av+1,.row e kk T ys⟩),uY ⟨hen,(fun _ cs as' r' cs' hm=>by cases hm),(fun hq=>by cases hq),fun as' r' es' hm=> ?_,(fun hq=>by cases hq)⟩,?_,hk⟩
     ·simp only[CB]at hm;split at hm
      ·rename_i he;injection hm with hm
       injection hm with h1 h2
       subst h1 h2;obtain⟨_,rfl⟩:=he;exact hcon a ys hv
      ·cases hm
     ·simp only[nu,uZ,CB,FW,hfz,and_self,Qt,Qe,kK,dt.pv,er.pv,KV.pv];rw[Qr]
      ·rfl
      rw[mO,AE K T ys];simp only[Qn]at hcl2;rcases hcl2 with hcl2|hcl2
      ·rw[LP K hcl2 ys];rfl
      ·rw[hcl2];simp
    ·cases h
   ·exact eR hΓ.2 h
  ·exact eR hΓ.2 h
 | .fn g A_s rs F::Γ,hΓ,h=>by
  simp only[ke]at h;split at h
  ·rename_i hg;have hg:=QF hg;subst hg;split at h
   ·rename_i a ha;split at h
    ·rename_i hcl;simp only[Qc]at h;obtain⟨v,hv,hk⟩:=h;rw[Qm,Qm]at hcl;obtain⟨hcl,hrok,hdep⟩:=hcl;have hfz:=oe (ex:=none) (fun id h=>by cases h) A_s 9 args a (QG hdep) ha
     obtain⟨hen,hcon⟩:=hΓ.1;refine⟨xj f (wi false 0 false false [] (hZ A_s a) (wS rs v) []),_,none,uY ⟨hen,fun _ cs as' r' cs' hm=> ?_,(fun hq=>by cases hq),trivial,(fun hq=>by cases hq)⟩,?_,hk⟩
     ·simp only[wi]at hm;split at hm
      ·rename_i he;injection hm with hm
       injection hm with h1 h2
       subst h1 h2;obtain⟨rfl,rfl⟩:=he;exact hcon a v hv
      ·cases hm
     ·simp only[nu,uZ,wi,Qq,Qu,hfz,and_self,Qt,Nb,Qq65];rw[Qr];rw[mO,zd K rs v hrok];simp only[Qn]at hcl;rcases hcl with hcl|hcl
      ·rw[Bd K rs v hcl];rfl
      ·rw[hcl];simp
    ·cases h
   ·obtain⟨Γ',x,wr,h1,h2,h3⟩:=eR hΓ.2 h;exact⟨Γ',x,wr,h1,h2,h3⟩
  ·exact eR hΓ.2 h
 | .rc g pos R A_s rs F::Γ,hΓ,h=>by
  simp only[ke]at h;split at h
  ·rename_i hg;have hg:=QF hg;subst hg;split at h
   ·rename_i id av hpos;have hpos:args[pos]?=some (.ptr id av 0):=hpos;generalize hrest:cutAt pos args=rest at h;split at h
    ·rename_i cs hbox;split at h
     ·rename_i s hs;split at h
      ·rename_i a ha;split at h
       ·rename_i hcl;simp only[Qc]at h;obtain⟨⟨v,s'⟩,hv,hk⟩:=h;obtain⟨hver,hc⟩:=BY hbox;rw[Qm,Qm]at hcl;obtain⟨hcl,hrok,hdep⟩:=hcl;have hfz:=oe (ex:=some id) (fun id' h=>by injection h with h;subst h;intro e k T xs hq;rw[hc]at hq;cases hq) A_s 9 rest a (QG hdep) ha
        obtain⟨hnz,hclo⟩:=vC (K.nr _ _ _ _ hs);obtain⟨hen,hcon⟩:=hΓ.1;refine⟨xj f (wi true pos false false (U.pv R s) (hZ A_s a) (wS rs v) (U.pv R s')),_,_,uY ⟨hen,fun _ cs as' r' cs' hm=> ?_,(fun hq=>by cases hq),trivial,(fun hq=>by cases hq)⟩,?_,hk⟩
        ·simp only[wi]at hm;split at hm
         ·rename_i he;injection hm with hm
          injection hm with h1 h2
          subst h1 h2;obtain⟨rfl,rfl⟩:=he;exact hcon s a v s' hv
         ·cases hm
        ·have hv1:(S.st.H id).av=av:=hver;have hc1:(S.st.H id).c= .box (cs.map KV.pv):=by simp[aZ.st,dt.pv,hc,er.pv]
         have hpos':(args.map KV.pv)[pos]?=some (.ptr id av 0):=by rw[QT,hpos];rfl
         have hrest':cutAt pos (args.map KV.pv)=rest.map KV.pv:=by rw[<-hrest];simp[cutAt]
         simp only[nu,uZ,wi,Bool.false_and,Qq,Qu,Qt,hpos',hrest',hv1,hc1,oh,hclo,hnz,hfz,and_self,Nb,Qe,kK,dt.pv,er.pv,K.sz];rw[Qr];have hgs:(U.pv R s').all PV.closed=true:=QH.2 fun y hy=>gU (K.hU R s' y hy)
         rw[mO,zd K rs v hrok,hgs];simp only[Qn,Qm]at hcl;rcases hcl with⟨hcl1,hcl2⟩|hcl
         ·rw[Bd K rs v hcl1,QH.2 fun y hy=>K.plain R hcl2 s' y hy];rfl
         ·rw[hcl];simp
       ·cases h
      ·exact eR hΓ.2 h
     ·cases h
    ·cases h
   ·cases h
  ·exact eR hΓ.2 h
 | .ro g pos R A_s rs F::Γ,hΓ,h=>by
  simp only[ke]at h;split at h
  ·rename_i hg;have hg:=QF hg;subst hg;split at h
   ·rename_i id av hpos;have hpos:args[pos]?=some (.ptr id av 0):=hpos;generalize hrest:cutAt pos args=rest at h;split at h
    ·rename_i cs hbox;split at h
     ·rename_i s hs;split at h
      ·rename_i a ha;split at h
       ·rename_i hcl;simp only[Qc]at h;obtain⟨⟨v,s'⟩,hv,hk⟩:=h;obtain⟨hver,hc⟩:=BY hbox;rw[Qm,Qm]at hcl;obtain⟨hcl,hrok,hdep⟩:=hcl;have hfz:=oe (ex:=some id) (fun id' h=>by injection h with h;subst h;intro e k T xs hq;rw[hc]at hq;cases hq) A_s 9 rest a (QG hdep) ha
        obtain⟨hnn,hs⟩:cs.all KV.Th=true/\K.dec R pC cs=some s:=by
         unfold Hb at hs;split at hs
         ·rename_i hn;exact⟨hn,hs⟩
         ·cases hs
        obtain⟨hnz,hclo⟩:=vC (K.nr _ _ _ _ hs)
        have hnnp:(cs.map KV.pv).all PV.Ul=true:=by
         rw[QH];intro y hy;obtain⟨x,hx,rfl⟩:=QP.1 hy;have:=QH.1 hnn x hx;cases x<;>first|rfl|cases this
        obtain⟨hen,hcon⟩:=hΓ.1;refine⟨xj f (wi true pos false true (U.pv R s) (hZ A_s a) (wS rs v) (U.pv R s')),_,none,uY ⟨hen,fun _ cs as' r' cs' hm=> ?_,(fun hq=>by cases hq),trivial,fun _ cs as' r' cs' hm=> ?_⟩,?_,hk⟩
        ·simp only[wi]at hm;split at hm
         ·rename_i he;injection hm with hm
          injection hm with h1 h2
          subst h1 h2;obtain⟨rfl,rfl⟩:=he;exact(hcon s a v s' hv).2
         ·cases hm
        ·simp only[wi]at hm;split at hm
         ·rename_i he;injection hm with hm
          injection hm with h1 h2
          subst h1 h2;rw[(hcon s a v s' hv).1,he.1]
         ·cases hm
        ·have hv1:(S.st.H id).av=av:=hver;have hc1:(S.st.H id).c= .box (cs.map KV.pv):=by simp[aZ.st,dt.pv,hc,er.pv]
         have hpos':(args.map KV.pv)[pos]?=some (.ptr id av 0):=by rw[QT,hpos];rfl
         have hrest':cutAt pos (args.map KV.pv)=rest.map KV.pv:=by rw[<-hrest];simp[cutAt]
         simp only[nu,uZ,wi,Qq,Qu,Qt,hpos',hrest',hv1,hc1,oh,hclo,hnz,hfz,and_self,Nb,Qq65,hnnp,Bool.and_self];rw[Qr];have hgs:(U.pv R s').all PV.closed=true:=QH.2 fun y hy=>gU (K.hU R s' y hy)
         rw[mO,zd K rs v hrok,hgs];simp only[Qn,Qm]at hcl;rcases hcl with⟨hcl1,hcl2⟩|hcl
         ·rw[Bd K rs v hcl1,QH.2 fun y hy=>K.plain R hcl2 s' y hy];rfl
         ·rw[hcl];simp
       ·cases h
      ·exact eR hΓ.2 h
     ·cases h
    ·cases h
   ·cases h
  ·exact eR hΓ.2 h
 | .nw g A_s R F::Γ,hΓ,h=>by
  simp only[ke]at h;split at h
  ·rename_i hg;have hg:=QF hg;subst hg;split at h
   ·rename_i a ha;split at h
    ·rename_i hcl;simp only[Qc]at h;obtain⟨s,hs,hk⟩:=h;rw[Qm]at hcl;obtain⟨hcl,hdep⟩:=hcl;have hfz:=oe (ex:=none) (fun id h=>by cases h) A_s 9 args a (QG hdep) ha
     obtain⟨hen,hcon⟩:=hΓ.1;refine⟨xj f (wi false 0 true false [] (hZ A_s a) .any (U.pv R s)),_,_,uY ⟨hen,(fun hq=>by cases hq),fun _ as' r' cs' hm=> ?_,trivial,(fun hq=>by cases hq)⟩,?_,hk⟩
     ·simp only[wi]at hm;split at hm
      ·rename_i he;injection hm with hm
       injection hm with h1 h2
       subst h1 h2;obtain⟨_,rfl⟩:=he;exact hcon a s hs
      ·cases hm
     ·simp only[nu,uZ,wi,Qt,hfz,and_self,Qe,kK,dt.pv,er.pv,K.sz];have hgs:(U.pv R s).all PV.closed=true:=QH.2 fun y hy=>gU (K.hU R s y hy)
      rw[Qr]
      ·rfl
      rw[mO,hgs];simp only[Qn]at hcl;rcases hcl with hcl|hcl
      ·rw[QH.2 fun y hy=>K.plain R hcl s y hy];rfl
      ·rw[hcl];simp
    ·cases h
   ·exact eR hΓ.2 h
  ·exact eR hΓ.2 h
end
end
section
def idx{α:Type}(xs:List α)(n:Int):Option α:=if 0<=n then xs[n.toNat]? else none
def bc(bytes n:Nat):Bool:=decide (n*bytes<=140737488355328)&&decide (n<=maxLen)
theorem CH{bytes n:Nat}(h:bc bytes n=true):n*bytes<=140737488355328/\n<=maxLen:=by
 simpa[bc]using h
theorem Mq{α:Type}{xs:List α}{n:Int}{v:α}(h:idx xs n=some v):0<=n/\n.toNat<xs.length/\xs[n.toNat]?=some v:=by
 unfold idx at h;split at h
 ·rename_i h0;exact⟨h0,(Qw.1 h).1,h⟩
 ·cases h
section
variable {U : TU}
def IU:Option Nat->List (KV U)->Option (KV U)
 |none,cs=>(match cs with|x::_=>some x|[]=>none)
 |some n,cs=>(match Nat.ble n cs.length with|true=>some (.agg (cs.take n))|false=>none)
def Fm(cs:List (KV U))(off:Nat)(xs:List (KV U)):List (KV U):=cs.take off++xs++cs.drop (off+xs.length)
def Tk(S:aZ U):List (KV U)->List (Nat×Nat×bq)->Option (List (KV U))
 |cs,[]=>some cs
 |cs,(off,n,x)::rest=>
  match Nat.beq (x.cY S).cells.length n&&Nat.ble (off+n) cs.length&&(x.cY S).cells.all KV.one with
  |true=>Tk S (Fm cs off (x.cY S).cells) rest
  |false=>none
def Jh(S:aZ U)(k:Nat):List (List (KV U))->List (Nat×bq)->Option (List (List (KV U)))
 |es,[]=>some es
 |es,(i,x)::rest=>
  match Nat.beq (x.cY S).cells.length k&&Nat.blt i es.length&&(x.cY S).cells.all KV.one with
  |true=>Jh S k (es.set i (x.cY S).cells) rest
  |false=>none
def Tn(K:TK U)(T:U.Ty):List (List (KV U))->Option (List (U.den T))
 |[]=>some []
 |e::es=>match K.dec T pC e with
  |some v=>(match Tn K T es with|some vs=>some (v::vs)|none=>none)
  |none=>none
def acv{ρ:Type}(op:BinOp)(x y:KV U)(k:KV U->Option ρ):Option ρ:=
 match x,y with
 | .int kd a,.int kd' b=>
  match op with
  | .shl=>if b<0 then none else k (.int kd (kd.wrap (a*2 ^ (min b.toNat kd.bits))))
  | .shr=>if b<0 then none else k (.int kd (a.fdiv (2 ^ (min b.toNat kd.bits))))
  |_=>if kd=kd' then(match op with
   | .add=>k (.int kd (kd.wrap (a+b)))
   | .sub=>k (.int kd (kd.wrap (a - b)))
   | .mul=>k (.int kd (kd.wrap (a*b)))
   | .quo=>if b=0 then none else k (.int kd (kd.wrap (a.tdiv b)))
   | .rem=>if b=0 then none else k (.int kd (a.tmod b))
   | .and=>k (.int kd (kd.wrap ((BitVec.ofInt kd.bits a&&&BitVec.ofInt kd.bits b).toNat)))
   | .or=>k (.int kd (kd.wrap ((BitVec.ofInt kd.bits a|||BitVec.ofInt kd.bits b).toNat)))
   | .xor=>k (.int kd (kd.wrap ((BitVec.ofInt kd.bits a^^^BitVec.ofInt kd.bits b).toNat)))
   | .andNot=>k (.int kd (kd.wrap ((BitVec.ofInt kd.bits a&&& ~~~ BitVec.ofInt kd.bits b).toNat)))
   | .eql=>k (.bool (decide (a=b)))
   | .neq=>k (.bool (!decide (a=b)))
   | .lss=>k (.bool (decide (a<b)))
   | .leq=>k (.bool (decide (a<=b)))
   | .gtr=>k (.bool (decide (b<a)))
   | .geq=>k (.bool (decide (b<=a)))
   |_=>none)else none
 | .str a,.str b=>
  match op with
  | .eql=>k (.bool (decide (a=b)))
  | .neq=>k (.bool (!decide (a=b)))
  | .lss=>k (.bool (kJ a b))
  | .leq=>k (.bool (kJ a b||decide (a=b)))
  | .gtr=>k (.bool (!(kJ a b||decide (a=b))))
  | .geq=>k (.bool (!kJ a b))
  |_=>none
 |_,_=>none
def G5:List LK->List (KV U)->List (KV U)->Option Bool
 |[],cs,ds=>(match cs,ds with|[],[]=>some true|_,_=>none)
 |q::ks,cs,ds=>(match q,cs,ds with
  | .i,.int k a::cs,.int l b::ds=>if k=l then(match G5 ks cs ds with|some r=>some (decide (a=b)&&r)|none=>none)else none
  | .s,.str a::cs,.str b::ds=>(match G5 ks cs ds with|some r=>some (decide (a=b)&&r)|none=>none)
  | .b,.bool a::cs,.bool b::ds=>(match G5 ks cs ds with|some r=>some (decide (a=b)&&r)|none=>none)
  |_,_,_=>none)
theorem G4:∀{ks:List LK} {cs ds:List (KV U)} {b:Bool},G5 ks cs ds=some b->mL ks (cs.map KV.pv) (ds.map KV.pv)=some b
 |[],cs,ds,b,h=>by
  simp only[G5]at h;split at h
  ·injection h with h;subst h;rfl
  ·cases h
 |q::ks,cs,ds,b,h=>by
  simp only[G5]at h;split at h
  ·split at h
   ·rename_i hk;split at h
    ·rename_i r hr;injection h with h
     subst h;simp only[QD,KV.pv,mL,Qr hk,G4 hr,Qe]
    ·cases h
   ·cases h
  ·split at h
   ·rename_i r hr;injection h with h
    subst h;simp only[QD,KV.pv,mL,G4 hr,Qe]
   ·cases h
  ·split at h
   ·rename_i r hr;injection h with h
    subst h;simp only[QD,KV.pv,mL,G4 hr,Qe]
   ·cases h
  ·cases h
def aZ.els(S:aZ U)(T:U.Ty)(x:KV U):Option (List (U.den T)):=Vh S.lk T x
def aZ.abZ(S:aZ U):KV U->Option Nat
 | .et=>some 0
 | .sl _ xs=>some xs.length
 | .own id av=>(match S.row? id av with
  |some r=>some r.xs.length
  |none=>(match S.TX id av with|some r=>some r.es.length|none=>none))
 | .view id av kk lo n=>(match S.row? id av with
  |some r=>(match Nat.beq r.k kk with|true=>some ((r.xs.drop lo).take n).length|false=>none)
  |none=>none)
 |_=>none
def E0(S:aZ U):Option bq->Int->Option Int
 |none,d=>some d
 |some x,_=>(match x.cY S with| .int _ n=>some n|_=>none)
def cJ(l h:Int)(n:Nat):Bool:=decide (0<=l)&&decide (l<=h)&&decide (h<=n)
def bO.dm:bO->List bq
 | .pE x| .box x| .Fb x| .load _ x| .Bn _ x| .not x| .conv _ x| .len _ x| .Bg x| .E5 _ x| .zI _ x| .clear _ _ x| .Lf _ _ x=>[x]
 | .pick c x y=>[c,x,y]
 | .alloc _=>[]
 | .store _ p x=>[p,x]
 | .build _ ps=>ps.map (·.2.2)
 | .OL _ _ _ _ ps=>ps.map (·.2)
 | .tf _ x i=>[x,i]
 | .Br _ _ x i=>[x,i]
 | .bin _ x y| .mh _ x y| .FR _ _ x y| .Ji _ x y| .u9 _ x y| .za x y| .Fe _ _ _ _ x y| .lookup _ _ x y=>[x,y]
 | .call _ xs=>xs
 | .wA f xs=>f::xs
 | .c6 _ _ _ _ s x=>[s,x]
 | .K7 _ xs=>xs
 | .K8 _ xs=>xs
 | .NH _ _ _ _ l c=>[l,c]
 | .Ic _ x lo hi=>x::(lo.toList++hi.toList)
def bO.dP(op:bO):Bool:=op.dm.all bq.dP
variable (K : TK U)
def FV(T:U.Ty)(kk:Nat):Nat->List (KV U)->Option (List (U.den T))
 |0,_=>some []
 |n+1,cs=>(match K.dec T pC (cs.take kk)with
  |some v=>(match FV T kk n (cs.drop kk)with|some vs=>some (v::vs)|none=>none)
  |none=>none)
def Y8(n:Option Nat)(ag:Bool)(kk:Nat):Bool:=
 match n with
 |none=> !ag&&Nat.beq kk 1
 |some m=>ag&&Nat.beq m kk
theorem Lm{T:U.Ty}{kk:Nat}:∀{n:Nat} {cs:List (KV U)} {vs:List (U.den T)},FV K T kk n cs=some vs->vs.length=n/\∀(i:Nat) (v:U.den T),vs[i]?=some v->K.dec T pC ((cs.drop (i*kk)).take kk)=some v
 |0,cs,vs,h=>by
  rw[FV]at h;injection h with h
  subst h;exact⟨rfl,fun i v hv=>by simp at hv⟩
 |n+1,cs,vs,h=>by
  rw[FV]at h;split at h
  ·rename_i v0 h0;split at h
   ·rename_i vs0 h1;injection h with h
    subst h;obtain⟨h2,h3⟩:=Lm h1;refine⟨by rw[QE,h2],fun i v hv=> ?_⟩
    cases i with
    |zero=>
     simp only[List.getElem?_cons_zero,Qf]at hv;subst hv;simpa using h0
    |succ i=>
     have:=h3 i v (by simpa using hv)
     rw[List.drop_drop]at this
     rwa [Nat.succ_mul,Nat.add_comm]
   ·cases h
  ·cases h
def GJ{α β:Type}(f:α->Bool)(xs:List (α×β))(d:β):β:=
 match xs with
 |[]=>d
 |p::xs=>bif f p.1 then p.2 else GJ f xs d
def GI{α β:Type}(f:α->Bool)(xs:List (α×β)):Bool:=xs.any fun p=>f p.1
def wU(a b:Int):List (KV U)->Bool
 |[.int _ a',.int _ b']=>decide (a=a')&&decide (b=b')
 |_=>false
theorem aa5{B:U.Ty}{z:PV}{d:U.den B}(hz:z.dP=true)(h:yZ K pC B (KV.u0 z)=some d):dx B d=nz z:=by
 unfold yZ at h;split at h
 ·split at h
  ·rename_i cs hx;exfalso;unfold KV.u0 at hx;split at hx<;>cases hx
  ·cases h
 ·rename_i hag;have h1:=K.nr B pC _ _ h;generalize hy:U.pv B d=ys at h1
  cases h1 with
  |cons hc ht=>
   cases ht;rename_i y
   have hv:dx B d=y:=by
    unfold dx;rw[hag,hy];rfl
   rw[hv];generalize hx:(KV.u0 z:KV U)=x at hc;unfold PV.dP at hz;split at hz
   ·simp only[KV.u0]at hx;subst hx;cases hc;rfl
   ·simp only[KV.u0]at hx;subst hx;cases hc;rfl
   ·simp only[KV.u0]at hx;subst hx;cases hc;rfl
   ·simp only[KV.u0]at hx;subst hx;cases hc
   ·simp only[KV.u0]at hx;subst hx;cases hc;rfl
   ·simp only[KV.u0]at hx;subst hx;cases hc
   ·simp only[KV.u0]at hx;subst hx;cases hc
   ·cases hz
theorem Un{A B:U.Ty}{k l:IntKind}{d:U.den B}(hA:U.agg A=true)(hk:∀v,∃a b,K.eu A v=[.int k a,.int l b])(a b:Int):∀(xs:List (U.den A×U.den B)),
  Ek k a l b (xs.map fun p=>dx A p.1) (xs.map fun p=>dx B p.2)=some (bif GI (fun v=>wU a b (K.eu A v)) xs then some (dx B (GJ (fun v=>wU a b (K.eu A v)) xs d))else none)/\(GI (fun v=>wU a b (K.eu A v)) xs=false->GJ (fun v=>wU a b (K.eu A v)) xs d=d)
 |[]=>⟨rfl,fun _=>rfl⟩
 |p::xs=>by
  obtain⟨a',b',h⟩:=hk p.1
  have hv:dx A p.1= .agg [.int k a',.int l b']:=by
   unfold dx;rw[hA,<-K.sz,h];rfl
  obtain⟨ih,ih2⟩:=Un hA hk a b xs;have hq:wU a b (K.eu A p.1)=(decide (a=a')&&decide (b=b')):=by rw[h];rfl
  simp only[QD,hv,Ek,and_self,Qt,GI,List.any_cons,GJ,hq]
  by_cases hab:a=a'/\b=b'
  ·obtain⟨rfl,rfl⟩:=hab;simp
  ·rw[Qs hab,ih]
   have hf:(decide (a=a')&&decide (b=b'))=false:=by
    rw[Bool.and_eq_false_iff,Qj,Qj]
    by_cases h:a=a'
    ·exact .inr fun h'=>hab ⟨h,h'⟩
    ·exact .inl h
   rw[hf];exact⟨rfl,ih2⟩
def Y4{ρ:Type}(z:Bool)(id av e kk:Nat)(T:U.Ty)(xs:List (U.den T))(k:KV U->Option (Nat×dt U)->Option ρ):Option ρ:=
 match z with
 |false=>k (.own id av) (some (id,⟨av,.row e kk T xs⟩))
 |true=>k (.sl T xs) (some (id,⟨av,.dead⟩))
def fK{ρ:Type}(Γ:List (eB U))(nid:Nat)(S:aZ U)(op:bO)(k:KV U->Option (Nat×dt U)->Option ρ):Option ρ:=
 match op with
 | .pE x=>k (x.cY S) none
 | .pick c x y=>(match c.cY S with
  | .bool b=>(match b with|true=>k (x.cY S) none|false=>k (y.cY S) none)
  |_=>none)
 | .box x=>(match(x.cY S).cells.all KV.one with
  |true=>k (.ptr nid ((S.H nid).av+1) 0) (some (nid,⟨(S.H nid).av+1,.box (x.cY S).cells⟩))
  |false=>none)
 | .Fb x=>(match(x.cY S).cells.all KV.one&&(x.cY S).cells.all KV.closed with
  |true=>k (.ref (x.cY S).cells) none
  |false=>none)
 | .alloc z=>(match z.all PV.dP with
  |true=>k (.ptr nid ((S.H nid).av+1) 0) (some (nid,⟨(S.H nid).av+1,.box (z.map KV.u0)⟩))
  |false=>none)
 | .load n p=>(match p.cY S with
  | .ptr id av off=>(match S.uq id av with
   |some cs=>(match IU n (cs.drop off)with|some x=>k x none|none=>none)
   |none=>none)
  | .fg id av kk i off=>(match S.row? id av with
   |some r=>(match Nat.beq kk r.k with
    |true=>(r.xs[i]?).bind fun v=>(match IU n ((K.eu r.T v).drop off)with|some x=>k x none|none=>none)
    |false=>none)
   |none=>(match S.TX id av with
    |some r=>(match Nat.beq kk r.k with
     |true=>(match r.es[i]? with
      |some c=>(match IU n (c.drop off)with|some x=>k x none|none=>none)
      |none=>none)
     |false=>none)
    |none=>none))
  | .ref cs=>(match IU n cs with|some x=>k x none|none=>none)
  |_=>none)
 | .store n p x=>(match Nat.beq (x.cY S).cells.length n&&(x.cY S).cells.all KV.one with
  |true=>(match p.cY S with
   | .ptr id av off=>(match S.uq id av with
    |some cs=>(match Nat.ble (off+n) cs.length with
     |true=>k .undef (some (id,⟨av,.box (Fm cs off (x.cY S).cells)⟩))
     |false=>none)
    |none=>none)
   | .fg id av kk i off=>(match S.row? id av with
    |some r=>(match Nat.beq kk r.k&&Nat.beq (U.size r.T) r.k&&Nat.ble (off+n) (U.size r.T)with
     |true=>(r.xs[i]?).bind fun v=>(match K.dec r.T pC (Fm (K.eu r.T v) off (x.cY S).cells)with
      |some v'=>k .undef (some (id,⟨av,.row r.e r.k r.T (r.xs.set i v')⟩))
      |none=>none)
     |false=>none)
    |none=>none)
   |_=>none)
  |false=>none)
 | .build z ps=>(match z.all PV.dP with
  |true=>(match Tk S (z.map KV.u0) ps with|some cs=>k (.agg cs) none|none=>none)
  |false=>none)
 | .OL m e kk z ps=>(match K.TA e with
  |some T=>(match Nat.beq (U.size T) kk&&z.all (fun u=>u.all PV.dP)with
   |true=>(match Jh S kk (z.map fun u=>u.map KV.u0) ps with
    |some es=>(match Tn K T es with
     |some vs=>(match m with
      |false=>k (.sl T vs) none
      |true=>k (.own nid ((S.H nid).av+1)) (some (nid,⟨(S.H nid).av+1,.row e kk T vs⟩)))
     |none=>none)
    |none=>none)
   |false=>none)
  |none=>(match m&&z.all (fun u=>u.all PV.dP)with
   |true=>(match Jh S kk (z.map fun u=>u.map KV.u0) ps with
    |some es=>(match es.all (fun c=>c.all KV.Th)with
     |true=>k (.own nid ((S.H nid).av+1)) (some (nid,⟨(S.H nid).av+1,.raw e kk es⟩))
     |false=>none)
    |none=>none)
   |false=>none))
 | .Bn off p=>(match p.cY S with
  | .ptr id av o=>(match S.uq id av with|some _=>k (.ptr id av (o+off)) none|none=>none)
  | .fg id av kk i o=>(match S.row? id av with|some r=>(r.xs[i]?).bind fun _=>k (.fg id av kk i (o+off)) none|none=>none)
  | .ref cs=>k (.ref (cs.drop off)) none
  |_=>none)
 | .tf kk x i=>(match i.cY S with
  | .int _ n=>(match x.cY S with
   | .sl T xs=>(match Nat.beq (U.size T) kk with
    |true=>(idx xs n).bind fun v=>k (.ref (K.eu T v)) none
    |false=>none)
   | .own id av=>(match S.row? id av with
    |some r=>(match Nat.beq kk r.k with
     |true=>(idx r.xs n).bind fun _=>k (.fg id av kk n.toNat 0) none
     |false=>none)
    |none=>(match S.TX id av with
     |some r=>(match n with
      | .ofNat j=>(match Nat.beq kk r.k&&Nat.blt j r.es.length with
       |true=>k (.fg id av kk j 0) none
       |false=>none)
      |_=>none)
     |none=>none))
   | .view id av kk' lo m=>(match S.row? id av with
    |some r=>(match Nat.beq kk r.k&&Nat.beq kk' kk with
     |true=>(idx ((r.xs.drop lo).take m) n).bind fun _=>k (.fg id av kk (lo+n.toNat) 0) none
     |false=>none)
    |none=>none)
   |_=>none)
  |_=>none)
 | .bin op x y=>acv op (x.cY S) (y.cY S) fun v=>k v none
 | .mh neg x y=>(match x.cY S,y.cY S with
  | .agg [.int kd a,.str s],.agg [.int kd' b,.str t]=>if kd=kd' then k (.bool (xor neg (decide (a=b)&&decide (s=t)))) none else none
  |_,_=>none)
 | .FR neg ks x y=>(match x.cY S,y.cY S with
  | .agg cs,.agg ds=>(match G5 ks cs ds with|some b=>k (.bool (xor neg b)) none|none=>none)
  |_,_=>none)
 | .Lf n off x=>(match x.cY S with
  | .agg cs=>(match IU n (cs.drop off)with|some v=>k v none|none=>none)
  |_=>none)
 | .lookup ok z x y=>(match x.cY S,y.cY S with
  | .jc A B xs,.agg [.int kd a,.int ld b]=>(match K.Pt A,z.dP,yZ K pC B (KV.u0 z)with
   |some (kd',ld'),true,some d=>if kd=kd'/\ld=ld' then(match ok with
    |false=>k (xY K B (GJ (fun v=>wU a b (K.eu A v)) xs d)) none
    |true=>k (.eo [xY K B (GJ (fun v=>wU a b (K.eu A v)) xs d),.bool (GI (fun v=>wU a b (K.eu A v)) xs)]) none)else none
   |_,_,_=>none)
  |_,_=>none)
 | .Ji neg x y=>(match x.cY S,y.cY S with
  | .bool a,.bool b=>k (.bool (xor neg (decide (a=b)))) none
  |_,_=>none)
 | .not x=>(match x.cY S with| .bool b=>k (.bool !b) none|_=>none)
 | .conv kd x=>(match x.cY S with| .int _ n=>k (.int kd (kd.wrap n)) none|_=>none)
 | .len true x=>(match x.cY S with| .str s=>k (.int .i64 s.size) none|_=>none)
 | .len false x=>(match S.abZ (x.cY S)with|some n=>k (.int .i64 n) none|none=>none)
 | .call f xs=>ke K nid S f (xs.map (·.cY S)) k Γ
 | .wA fv xs=>(match fv.cY S with
  | .bG f caps=>ke K nid S f (xs.map (·.cY S)++caps) k Γ
  | .jN f first=>ke K nid S f (first++xs.map (·.cY S)) k Γ
  |_=>none)
 | .c6 z e kk bytes s x=>(match K.TA e with
  |some T=>(match Nat.beq (U.size T) kk with
   |true=>(match S.els T (x.cY S)with
    |some news=>(match s.cY S with
     | .et=>bif bc bytes news.length then Y4 z nid ((S.H nid).av+1) e kk T news k else none
     | .own id av=>(match S.row? id av with
      |some r=>(match Nat.beq r.e e&&Nat.beq r.k kk with
       |true=>(match Bq r.T T r.xs with
        |some xs=>bif bc bytes (xs.length+news.length)then Y4 z id (av+1) e kk T (xs++news) k else none
        |none=>none)
       |false=>none)
      |none=>none)
     |_=>none)
    |none=>none)
   |false=>none)
  |none=>none)
 | .Bg x=>(match x.cY S with
  | .ptr id av off=>(match S.uq id av with|some _=>k (.ptr id av off) none|none=>none)
  | .ref cs=>k (.ref cs) none
  | .bG f cs=>k (.bG f cs) none
  |_=>none)
 | .E5 i x=>(match x.cY S with
  | .eo cs=>(match cs[i]? with|some y=>k y none|none=>none)
  |_=>none)
 | .K7 f caps=>k (.bG f (caps.map (·.cY S))) none
 | .K8 f first=>k (.jN f (first.map (·.cY S))) none
 | .NH e kk bytes z l c=>(match K.TA e with
  |some T=>(match Nat.beq (U.size T) kk&&z.all PV.dP with
   |true=>(match K.dec T pC (z.map KV.u0)with
    |some d=>(match l.cY S,c.cY S with
     | .int _ n,.int _ m=>bif decide (n=m)&&decide (0<=n)&&bc bytes n.toNat then k (.own nid ((S.H nid).av+1)) (some (nid,⟨(S.H nid).av+1,.row e kk T (List.replicate n.toNat d)⟩))else none
     |_,_=>none)
    |none=>none)
   |false=>none)
  |none=>none)
 | .Ic kk x lo hi=>(match x.cY S with
  | .sl T xs=>(match Nat.beq (U.size T) kk with
   |true=>(match E0 S lo 0,E0 S hi xs.length with
    |some l,some h=>bif cJ l h xs.length then k (.sl T ((xs.take h.toNat).drop l.toNat)) none else none
    |_,_=>none)
   |false=>none)
  | .own id av=>(match S.row? id av with
   |some r=>(match Nat.beq kk r.k with
    |true=>(match E0 S lo 0,E0 S hi r.xs.length with
     |some l,some h=>bif cJ l h r.xs.length then k (.view id av kk l.toNat (h.toNat - l.toNat)) none else none
     |_,_=>none)
    |false=>none)
   |none=>none)
  | .view id av kk' lo0 n0=>(match S.row? id av with
   |some r=>(match Nat.beq kk r.k&&Nat.beq kk' kk with
    |true=>(match E0 S lo 0,E0 S hi n0 with
     |some l,some h=>bif cJ l h n0 then k (.view id av kk (lo0+l.toNat) (h.toNat - l.toNat)) none else none
     |_,_=>none)
    |false=>none)
   |none=>none)
  |_=>none)
 | .za x i=>(match x.cY S,i.cY S with
  | .str s,.int _ n=>(za s n).bind fun b=>k (.int .u8 b) none
  |_,_=>none)
 | .Fe e n len kk x i=>(match x.cY S,i.cY S with
  | .agg cs,.int _ j=>(match K.TA e with
   |some T=>(match Nat.beq (U.size T) kk&&Y8 n (U.agg T) kk with
    |true=>(match FV K T kk len cs with
     |some vs=>(idx vs j).bind fun v=>k (xY K T v) none
     |none=>none)
    |false=>none)
   |none=>none)
  |_,_=>none)
 | .clear kk z x=>(match x.cY S with
  | .view id av kk' lo n=>(match S.row? id av with
   |some r=>(match Nat.beq kk r.k&&Nat.beq kk' kk&&Nat.beq (U.size r.T) kk&&z.all PV.dP&&Nat.beq z.length kk&&(z.map (KV.u0:PV->KV U)).all KV.one with
    |true=>(match K.dec r.T pC (z.map KV.u0)with
     |some d=>k (.eo []) (some (id,⟨av,.row r.e r.k r.T (r.xs.take lo++List.replicate n d++r.xs.drop (lo+n))⟩))
     |none=>none)
    |false=>none)
   |none=>none)
  |_=>none)
 | .u9 mx x y=>(match x.cY S,y.cY S with
  | .int kd a,.int kd' b=>if kd=kd' then k (.int kd (if mx then(if b>a then b else a)else(if b<a then b else a))) none else none
  |_,_=>none)
 | .zI neg x=>(match x.cY S with
  | .et=>k (.bool !neg) none
  | .sl _ xs=>bif xs.isEmpty then k .gS none else k (.bool neg) none
  |_=>none)
 | .Br kk len x i=>(match i.cY S with
  | .int _ (.ofNat n)=>(match Nat.blt n len with
   |true=>(match x.cY S with
    | .ptr id av o=>(match S.uq id av with|some _=>k (.ptr id av (o+n*kk)) none|none=>none)
    | .ref cs=>k (.ref (cs.drop (n*kk))) none
    |_=>none)
   |false=>none)
  |_=>none)
variable {K}
variable {S : aZ U}
theorem xx{id av:Nat}{cs:List (KV U)}(h:S.uq id av=some cs):(S.st.H id).av=av/\(S.st.H id).c= .box (cs.map KV.pv):=by
 obtain⟨h1,h2⟩:=BY h;exact⟨h1,by simp[aZ.st,dt.pv,h2,er.pv]⟩
theorem C1:∀{n:Option Nat} {cs:List (KV U)} {x:KV U},IU n cs=some x->uC n (cs.map KV.pv)=some x.pv
 |none,[],x,h=>by cases h
 |none,y::l,x,h=>by injection h with h;subst h;rfl
 |some n,cs,x,h=>by
  simp only[IU]at h;split at h
  ·rename_i hn;injection h with h
   subst h;rw[uC,Qr (by simpa using QG hn),KV.pv,KV.cr,List.map_take]
  ·cases h
theorem Ib(cs xs:List (KV U))(off:Nat):(Fm cs off xs).map KV.pv=iW (cs.map KV.pv) off (xs.map KV.pv):=by
 simp[Fm,iW,List.map_append,List.map_take,List.map_drop]
theorem agf(S:aZ U){x:PV}(h:x.dP=true):(KV.u0 x:KV U).pv=x:=(yL (S:=S) (x:= .yO x) h).symm
theorem AF{z:List PV}(S:aZ U)(h:z.all PV.dP=true):(z.map (KV.u0:PV->KV U)).map KV.pv=z:=by
 induction z with
 |nil=>rfl
 |cons x l ih=>
  rw[Qq70,Qm]at h;rw[QD,QD,agf S h.1,ih h.2]
theorem U6:∀{ps:List (Nat×Nat×bq)} {cs cs':List (KV U)},(∀p∈ps,p.2.2.dP=true)->Tk S cs ps=some cs'->sx S.st (cs.map KV.pv) ps=some (cs'.map KV.pv)
 |[],cs,cs',_,h=>by injection h with h;subst h;rfl
 |(off,n,x)::ps,cs,cs',ho,h=>by
  simp only[Tk]at h;split at h
  ·rename_i hc;simp only[Qm]at hc;obtain⟨⟨h1,h2⟩,h3⟩:=hc;have h1:=QF h1;have h2:=QG h2;rw[sx,yL (ho _ Qx),yw,wC,Qr ⟨by simpa using h1,by simpa using h2,h3⟩,<-Ib]
   exact U6 (fun p hp=>ho p (Qy _ hp)) h
  ·cases h
theorem Jg{kk:Nat}:∀{ps:List (Nat×bq)} {es es':List (List (KV U))},(∀p∈ps,p.2.dP=true)->Jh S kk es ps=some es'->vp S.st kk (es.map fun e=>e.map KV.pv) ps=some (es'.map fun e=>e.map KV.pv)
 |[],es,es',_,h=>by injection h with h;subst h;rfl
 |(i,x)::ps,es,es',ho,h=>by
  simp only[Jh]at h;split at h
  ·rename_i hc;simp only[Qm]at hc;obtain⟨⟨h1,h2⟩,h3⟩:=hc;have h1:=QF h1;have h2:i<es.length:=QG h2;rw[vp,yL (ho _ Qx),yw,wC,Qr ⟨by simpa using h1,by simpa using h2,h3⟩,<-List.map_set]
   exact Jg (fun p hp=>ho p (Qy _ hp)) h
  ·cases h
theorem Vi{T:U.Ty}:∀{es:List (List (KV U))} {vs:List (U.den T)},Tn K T es=some vs->Dl (es.map fun e=>e.map KV.pv)=vs.map (U.pv T)/\(es.map fun e=>e.map KV.pv).all (fun u=>u.all PV.closed)=true
 |[],vs,h=>by injection h with h;subst h;exact⟨rfl,rfl⟩
 |e::es,vs,h=>by
  rw[Tn]at h;split at h
  ·rename_i v hv;split at h
   ·rename_i vs' hvs;injection h with h
    subst h;obtain⟨h1,h2⟩:=Vi hvs;obtain⟨h3,h4⟩:=vC (K.nr _ _ _ _ hv);refine⟨?_,?_⟩
    ·rw[QD,QD,<-h1,<-h3];rfl
    ·rw[QD,Qq70,oh,h4,h2];rfl
   ·cases h
  ·cases h
theorem UX{y:PV}(h:y.hU=true):y.one=true:=by
 cases y<;>first|rfl|cases h
theorem Xd(T:U.Ty)(vs:List (U.den T)){kk:Nat}(hk:U.size T=kk)(K:TK U):(vs.map (U.pv T)).all (fun u=>u.length==kk&&u.all PV.one)=true:=by
 refine QH.2 fun u hu=> ?_
 obtain⟨v,_,rfl⟩:=QP.1 hu;rw[K.len,hk,QH.2 fun y hy=>UX (K.hU T v y hy)]
 simp
theorem agE{T:U.Ty}{x:KV U}{vs:List (U.den T)}(h:S.els T x=some vs):lq S.st x.pv=some (vs.map (U.pv T)):=by
 unfold aZ.els Vh at h;split at h
 ·injection h with h;subst h;rfl
 ·obtain⟨e,rfl⟩:=oN h;subst e;rfl
 ·rename_i id av;obtain⟨hv,e,k,hc⟩:=Xg h;have hc1:(S.st.H id).c= .row e k (vs.map (U.pv T)):=by simp[aZ.st,dt.pv,hc,er.pv]
  have hv1:(S.st.H id).av=av:=hv;rw[KV.pv,lq,Qr hv1,hc1]
 ·cases h
theorem aet{x:KV U}{n:Nat}(h:S.abZ x=some n):∃es,lq S.st x.pv=some es/\es.length=n:=by
 unfold aZ.abZ at h;split at h
 ·injection h with h;exact⟨[],rfl,h⟩
 ·rename_i T xs;injection h with h;exact⟨xs.map (U.pv T),rfl,by simpa using h⟩
 ·rename_i id av;split at h
  ·rename_i r hr;obtain⟨hv,hc⟩:=qK hr;injection h with h
   refine⟨r.xs.map (U.pv r.T),?_,by simpa using h⟩
   rw[KV.pv,lq,Qr hv,hc]
  ·split at h
   ·rename_i r hr;obtain⟨hv,hc⟩:=TW hr;injection h with h
    refine⟨r.es.map fun c=>c.map KV.pv,?_,by simpa using h⟩
    rw[KV.pv,lq,Qr hv,hc]
   ·cases h
 ·rename_i id av kk lo m;split at h
  ·rename_i r hr;obtain⟨hv,hc⟩:=qK hr;split at h
   ·rename_i hk;injection h with h
    refine⟨((r.xs.drop lo).take m).map (U.pv r.T),?_,by rw[QC];exact h⟩
    rw[KV.pv,lq,Qr hv,hc];simp only;rw[Qr (QF hk),List.map_take,List.map_drop]
   ·cases h
  ·cases h
 ·cases h
theorem Nx{l:List bq}{y:Option bq}{d n:Int}(hi1:∀(y:bq) (d n:Int),y∈l->E0 S (some y) d=some n->∃kd,y.val S.st= .int kd n)(hy:∀z,y=some z->z∈l)(h:E0 S y d=some n):uj S.st y d=some n:=by
 cases y with
 |none=>exact h
 |some z=>
  obtain⟨kd,hz⟩:=hi1 z d n (hy z rfl) h;simp only[uj,hz]
theorem Dp{xs:List bq}(h:∀x∈xs,x.dP=true):xs.map (·.val S.st)=(xs.map (·.cY S)).map KV.pv:=by
 rw[List.map_map];exact Qq71 fun x hx=>yL (h x hx)
theorem afb{ρ:Type}{op:BinOp}{x y:KV U}{k:KV U->Option ρ}{r:ρ}(h:acv op x y k=some r):∃v:KV U,Kf op x.pv y.pv=some v.pv/\k v=some r:=by
 unfold acv at h;split at h
 ·rename_i kd a kd' b;cases op<;>simp only at h<;>simp only[KV.pv,Kf,Jv]<;>
  first
  |(
    split at h
    ·cases h
    ·rename_i h1;exact⟨_,by rw[Qs h1];rfl,h⟩)
  |(
    split at h
    ·rename_i h1;rw[Qr h1]
     first
     |exact⟨_,rfl,h⟩
     |(
       split at h
       ·cases h
       ·rename_i h2;exact⟨_,by rw[Qs h2];rfl,h⟩)
     |cases h
    ·cases h)
 ·rename_i a b;cases op<;>simp only at h<;>simp only[KV.pv,Kf,OP]<;>first|exact⟨_,rfl,h⟩|cases h
 ·cases h
theorem VA(K:TK U){ρ:Type}{z:Bool}{id av e kk:Nat}{T:U.Ty}{xs:List (U.den T)}{k:KV U->Option (Nat×dt U)->Option ρ}{r:ρ}(h:Y4 z id av e kk T xs k=some r):
  ∃x wr,Jw z id av e kk (xs.map (U.pv T))=some (x.pv,wr.map kK)/\k x wr=some r:=by
 cases z with
 |false=>exact⟨_,_,rfl,h⟩
 |true=>
  refine⟨_,_,?_,h⟩;simp only[Jw];rw[Qr]
  ·rfl
  ·refine QH.2 fun u hu=> ?_
   obtain⟨x,_,rfl⟩:=QP.1 hu;exact QH.2 fun y hy=>gU (K.hU _ _ _ hy)
theorem Wq{P:Program}{ρ:Type}{Γ:List (eB U)}{nid:Nat}{op:bO}{k:KV U->Option (Nat×dt U)->Option ρ}{r:ρ}(hΓ:xc P Γ)(ho:op.dP=true)(h:fK K Γ nid S op k=some r):
  ∃Γ' x wr,oP P Γ'/\exec Γ' nid S.st op=some (x.pv,wr.map kK)/\k x wr=some r:=by
 have hov:∀x∈op.dm,x.val S.st=(x.cY S).pv:=fun x hx=>yL (QH.1 ho x hx)
 have hoc:∀x∈op.dm,x.dP=true:=fun x hx=>QH.1 ho x hx
 have pure:∀{x:KV U} {wr:Option (Nat×dt U)},exec (fun _=>none) nid S.st op=some (x.pv,wr.map kK)->k x wr=some r->∃Γ' x wr,oP P Γ'/\exec Γ' nid S.st op=some (x.pv,wr.map kK)/\k x wr=some r:=
  fun{x wr} h1 h2=>⟨fun _=>none,x,wr,fun f m hm=>(by cases hm),h1,h2⟩
 cases op with
 |pE x=>
  have h1:=hov x (by simp[bO.dm])
  exact pure (by rw[exec,h1];rfl) h
 |pick c x y=>
  have h1:=hov c (by simp[bO.dm])
  have h2:=hov x (by simp[bO.dm])
  have h3:=hov y (by simp[bO.dm])
  simp only[fK]at h;split at h
  ·rename_i b hb;rw[hb]at h1;split at h
   ·exact pure (by rw[exec,h1];simp only[KV.pv];rw[h2];rfl) h
   ·exact pure (by rw[exec,h1];simp only[KV.pv];rw[h3];rfl) h
  ·cases h
 |box x=>
  have h1:=hov x (by simp[bO.dm])
  simp only[fK]at h;split at h
  ·rename_i hb;refine pure ?_ h;rw[exec,h1,yw,wC,Qr hb];rfl
  ·cases h
 |Fb x=>
  have h1:=hov x (by simp[bO.dm])
  simp only[fK]at h;split at h
  ·rename_i hb;refine pure ?_ h;rw[exec,h1,yw,wC,oh,Qr hb];simp only[KV.pv,KV.cr,Qq65]
  ·cases h
 |alloc z=>
  simp only[fK]at h;split at h
  ·rename_i hb;refine pure ?_ h;simp only[exec,Qe,kK,dt.pv,er.pv,AF S hb];rfl
  ·cases h
 |load n p=>
  have h1:=hov p (by simp[bO.dm])
  simp only[fK]at h;split at h
  ·rename_i id av off hp;rw[hp]at h1;split at h
   ·rename_i cs hb;obtain⟨h2,h3⟩:=xx hb;split at h
    ·rename_i x hx;refine pure ?_ h;have:=C1 hx;rw[List.map_drop]at this;rw[exec,h1];simp only[KV.pv];rw[Qr h2,h3];simp only[this,Qe,Qq65]
    ·cases h
   ·cases h
  ·rename_i id av kk i off hp;rw[hp]at h1;split at h
   ·rename_i rr hb;obtain⟨h2,h3⟩:=qK hb;split at h
    ·rename_i hk;simp only[Qc]at h;obtain⟨v,hv,h⟩:=h;split at h
     ·rename_i x hx;refine pure ?_ h;have:=C1 hx;rw[List.map_drop,K.sz]at this;rw[exec,h1];simp only[KV.pv];rw[Qr h2,h3];simp only[QF hk,Qt,QT,hv,Qe,this,Qq65]
     ·cases h
    ·cases h
   ·split at h
    ·rename_i rr hb;obtain⟨h2,h3⟩:=TW hb;split at h
     ·rename_i hk;split at h
      ·rename_i c hc;split at h
       ·rename_i x hx;refine pure ?_ h;have:=C1 hx;rw[List.map_drop]at this;rw[exec,h1];simp only[KV.pv];rw[Qr h2,h3];simp only[QF hk,Qt,QT,hc,Qe,this,Qq65]
       ·cases h
      ·cases h
     ·cases h
    ·cases h
  ·rename_i cs hp;rw[hp]at h1;split at h
   ·rename_i x hx;refine pure ?_ h;rw[exec,h1];simp only[KV.pv,KV.cr,C1 hx,Qe,Qq65]
   ·cases h
  ·cases h
 |store n p x=>
  have h1:=hov p (by simp[bO.dm])
  have h2:=hov x (by simp[bO.dm])
  simp only[fK]at h;split at h
  ·rename_i hc;rw[Qm]at hc;have hl:=QF hc.1
   have hc1:(x.val S.st).cells.length=n/\(x.val S.st).cells.all PV.one=true:=by
    rw[h2,yw,wC];exact⟨by simpa using hl,hc.2⟩
   split at h
   ·rename_i id av off hp;rw[hp]at h1;split at h
    ·rename_i cs hb;obtain⟨h3,h4⟩:=xx hb;split at h
     ·rename_i hle;refine pure ?_ h;rw[exec,Qr hc1,h1];simp only[KV.pv];rw[Qr h3,h4];simp only[QC];rw[Qr (QG hle),h2,yw];simp only[Qe,kK,dt.pv,er.pv,Ib]
     ·cases h
    ·cases h
   ·rename_i id av kk i off hp;rw[hp]at h1;split at h
    ·rename_i rr hb;obtain⟨h3,h4⟩:=qK hb;split at h
     ·rename_i hk;simp only[Qm]at hk;obtain⟨⟨hk1,hk2⟩,hk3⟩:=hk;have hk1:=QF hk1;have hk2:=QF hk2;have hk3:=QG hk3;simp only[Qc]at h;obtain⟨v,hv,h⟩:=h;split at h
      ·rename_i v' hd;refine pure ?_ h;obtain⟨h5,_⟩:=vC (K.nr _ _ _ _ hd);rw[Ib,K.sz]at h5
       have h6:iW (U.pv rr.T v) off (((x.cY S).cells.map KV.pv).map nz)=U.pv rr.T v':=by
        rw[<-h5]
        have hnz:(U.pv rr.T v).map nz=U.pv rr.T v:=by
         refine(Qq71 fun y hy=> ?_).trans (List.map_id _)
         have:=K.hU _ _ _ hy;cases y<;>first|rfl|cases this
        simp only[iW,List.map_append,List.map_take,List.map_drop,hnz,QC]
       rw[exec,Qr hc1,h1];simp only[KV.pv];rw[Qr h3,h4];simp only[hk1,Qt,QT,hv,Qe,K.len];rw[Qr hk3,h2,yw,h6];simp only[kK,dt.pv,er.pv,List.map_set]
      ·cases h
     ·cases h
    ·cases h
   ·cases h
  ·cases h
 |build z ps=>
  simp only[fK]at h;split at h
  ·rename_i hz;split at h
   ·rename_i cs hf;refine pure ?_ h;have:=U6 (fun p hp=>hoc _ (by simp only[bO.dm,QP];exact⟨p,hp,rfl⟩)) hf
    rw[AF S hz]at this;rw[exec,this];simp only[Qe,Qq65,KV.pv,KV.cr]
   ·cases h
  ·cases h
 |OL m e kk z ps=>
  simp only[fK]at h;split at h
  ·rename_i T hT;split at h
   ·rename_i hz;rw[Qm]at hz;split at h
    ·rename_i es hf;split at h
     ·rename_i vs hd;have h1:=Jg (fun p hp=>hoc _ (by simp only[bO.dm,QP];exact⟨p,hp,rfl⟩)) hf
      have h2:(z.map fun u=>u.map (KV.u0:PV->KV U)).map (fun e=>e.map KV.pv)=z:=by
       rw[List.map_map];refine(Qq71 fun u hu=> ?_).trans (List.map_id _)
       exact AF S (QH.1 hz.2 u hu)
      rw[h2]at h1;obtain⟨h3,h4⟩:=Vi hd;split at h
      ·refine pure ?_ h;rw[exec,h1];simp only[h4,and_self,Qt,h3,KV.pv,Qq65]
      ·refine pure ?_ h;rw[exec,h1];simp only[Bool.true_eq_false,false_and,Qu,h3,KV.pv,Qe,kK,dt.pv,er.pv];rfl
     ·cases h
    ·cases h
   ·cases h
  ·split at h
   ·rename_i hz;rw[Qm]at hz;split at h
    ·rename_i es hf;split at h
     ·rename_i hnn;have h1:=Jg (fun p hp=>hoc _ (by simp only[bO.dm,QP];exact⟨p,hp,rfl⟩)) hf
      have h2:(z.map fun u=>u.map (KV.u0:PV->KV U)).map (fun e=>e.map KV.pv)=z:=by
       rw[List.map_map];refine(Qq71 fun u hu=> ?_).trans (List.map_id _)
       exact AF S (QH.1 hz.2 u hu)
      rw[h2]at h1
      have h3:Dl (es.map fun e=>e.map KV.pv)=es.map fun e=>e.map KV.pv:=by
       unfold Dl;rw[List.map_map];refine Qq71 fun c hc=> ?_
       simp only[Function.comp,List.map_map];refine Qq71 fun y hy=> ?_
       have:=QH.1 (QH.1 hnn c hc) y hy;cases y<;>first|rfl|cases this|simp[KV.pv,nz]
      have hm:m=true:=hz.1;subst hm;refine pure ?_ h;rw[exec,h1];simp only[Bool.true_eq_false,false_and,Qu,h3,KV.pv,Qe,kK,dt.pv,er.pv];rfl
     ·cases h
    ·cases h
   ·cases h
 |Bn off p=>
  have h1:=hov p (by simp[bO.dm])
  simp only[fK]at h;split at h
  ·rename_i id av o hp;rw[hp]at h1;split at h
   ·rename_i cs hb;obtain⟨h2,h3⟩:=xx hb;refine pure ?_ h;rw[exec,h1];simp only[KV.pv];rw[Qr h2,h3];rfl
   ·cases h
  ·rename_i id av kk i o hp;rw[hp]at h1;split at h
   ·rename_i rr hb;obtain⟨h2,h3⟩:=qK hb;simp only[Qc]at h;obtain⟨v,hv,h⟩:=h;refine pure ?_ h;have hi:=(Qw.1 hv).1;rw[exec,h1];simp only[KV.pv];rw[Qr h2,h3];simp only[QC,hi,Qt,Qq65]
   ·cases h
  ·rename_i cs hp;rw[hp]at h1;refine pure ?_ h;rw[exec,h1];simp only[KV.pv,KV.cr,List.map_drop,Qq65]
  ·cases h
 |tf kk x i=>
  have h1:=hov x (by simp[bO.dm])
  have h2:=hov i (by simp[bO.dm])
  simp only[fK]at h;split at h
  ·rename_i kd n hn;rw[hn]at h2;split at h
   ·rename_i T xs hx;rw[hx]at h1;split at h
    ·rename_i hk;simp only[Qc]at h;obtain⟨v,hv,h⟩:=h;obtain⟨hi0,hi1,hi2⟩:=Mq hv;refine pure ?_ h;rw[exec,h2];simp only[KV.pv];rw[h1];simp only[KV.pv,QC];rw[Qr ⟨hi0,by omega⟩]
     simp only[QT,hi2,Qe,K.len,QF hk,Qt,KV.cr,K.sz,Qq65]
    ·cases h
   ·rename_i id av hx;rw[hx]at h1;split at h
    ·rename_i rr hb;obtain⟨h3,h4⟩:=qK hb;split at h
     ·rename_i hk;simp only[Qc]at h;obtain⟨v,hv,h⟩:=h;obtain⟨hi0,hi1,hi2⟩:=Mq hv;refine pure ?_ h;rw[exec,h2];simp only[KV.pv];rw[h1];simp only[KV.pv];rw[Qr h3,h4];simp only[QC];rw[Qr ⟨QF hk,hi0,by omega⟩]
      rfl
     ·cases h
    ·split at h
     ·rename_i rr hb;obtain⟨h3,h4⟩:=TW hb;split at h
      ·rename_i j;split at h
       ·rename_i hk;rw[Qm]at hk;have hlt:j<rr.es.length:=QG hk.2;refine pure ?_ h;rw[exec,h2];simp only[KV.pv];rw[h1];simp only[KV.pv];rw[Qr h3,h4];simp only[QC];rw[Qr ⟨QF hk.1,Int.natCast_nonneg j,Int.ofNat_lt.2 hlt⟩];rfl
       ·cases h
      ·cases h
     ·cases h
   ·rename_i id av kk' lo m hx;rw[hx]at h1;split at h
    ·rename_i rr hb;obtain⟨h3,h4⟩:=qK hb;split at h
     ·rename_i hk;rw[Qm]at hk;simp only[Qc]at h;obtain⟨v,hv,h⟩:=h;obtain⟨hi0,hi1,hi2⟩:=Mq hv;refine pure ?_ h;rw[exec,h2];simp only[KV.pv];rw[h1];simp only[KV.pv];rw[Qr h3,h4];simp only[QC];simp only[List.length_take,List.length_drop]at hi1;rw[Qr ⟨QF hk.1,QF hk.2,hi0,by omega,by omega⟩]
      rfl
     ·cases h
    ·cases h
   ·cases h
  ·cases h
 |za x i=>
  have h1:=hov x (by simp[bO.dm])
  have h2:=hov i (by simp[bO.dm])
  simp only[fK]at h;split at h
  ·rename_i s _ n hx hi;rw[hx]at h1;rw[hi]at h2;simp only[Qc]at h;obtain⟨b,hb,h⟩:=h;refine pure ?_ h;rw[exec,h1,h2];simp only[KV.pv,hb,Qe,Qq65]
  ·cases h
 |Fe e n len kk x i=>
  have h1:=hov x (by simp[bO.dm])
  have h2:=hov i (by simp[bO.dm])
  simp only[fK]at h;split at h
  ·rename_i cs _ j hx hi;rw[hx]at h1;rw[hi]at h2;split at h
   ·rename_i T hT;split at h
    ·rename_i hk;split at h
     ·rename_i vs hvs;simp only[Qc]at h;obtain⟨v,hv,h⟩:=h;obtain⟨hlen,hget⟩:=Lm K hvs
      have hv0:0<=j/\vs[j.toNat]?=some v:=by
       unfold idx at hv;split at hv
       ·rename_i h0;exact⟨h0,hv⟩
       ·cases hv
      have hjl:j.toNat<vs.length:=(Qw.1 hv0.2).1;obtain⟨hnz,_⟩:=vC (K.nr _ _ _ _ (hget _ _ hv0.2));rw[Qm]at hk;have hkk:=QF hk.1;have hpl:=K.len T v
      have hcl:((cs.drop (j.toNat*kk)).take kk).length=kk:=by
       have:=congrArg List.length hnz;simp only[QC]at this;omega
      refine pure ?_ h;rw[exec,h1,h2];simp only[KV.pv,KV.cr];rw[Qr ⟨hv0.1,by omega⟩,yG]
      have hsplit:((cs.map KV.pv).drop (j.toNat*kk)).map nz=U.pv T v++(((cs.drop (j.toNat*kk)).drop kk).map KV.pv).map nz:=by
       rw[<-hnz,<-List.map_append,<-List.map_append,List.take_append_drop,List.map_drop,List.map_drop,List.map_drop]
      rw[hsplit]
      cases n with
      |none=>
       simp only[Y8,Qm,Bool.not_eq_true']at hk;have h1k:=QF hk.2.2;obtain⟨y,hy1,hy2⟩:=vV K v hk.2.1
       cases hp:U.pv T v with
       |nil=>rw[hp]at hy2;cases hy2
       |cons y0 l=>
        have hl0:l=[]:=by
         rw[hp,QE]at hpl;exact Qq67 (by omega)
        rw[hp,hl0,Q5]at hy2;rw[hl0];simp only[List.singleton_append,uC,Qe,Qq65];rw[hy1,hy2]
      |some m=>
       simp only[Y8,Qm]at hk;have hm:=QF hk.2.2;subst hm;simp only[uC];rw[Qr (by rw[QB];omega),List.take_append_of_le_length (by omega),List.take_of_length_le (by omega),yF v hk.2.1]
       rfl
     ·cases h
    ·cases h
   ·cases h
  ·cases h
 |clear kk z x=>
  have h1:=hov x (by simp[bO.dm])
  simp only[fK]at h;split at h
  ·rename_i id av kk' lo n hx;rw[hx]at h1;split at h
   ·rename_i rr hb;obtain⟨h3,h4⟩:=qK hb;split at h
    ·rename_i hk;simp only[Qm]at hk;obtain⟨⟨⟨⟨⟨k1,k2⟩,k3⟩,k4⟩,k5⟩,k6⟩:=hk;split at h
     ·rename_i d hd;refine pure ?_ h;have h7:=(vC (K.nr _ _ _ _ hd)).1;rw[AF S k4]at h7;have h8:z.all PV.one=true:=by rw[<-wC,AF S k4]at k6;exact k6
      have e1:=QF k1;have e2:=QF k2;have e5:=QF k5;rw[exec,h1];simp only[KV.pv];rw[Qr h3,h4];simp only;rw[Qr ⟨e1,e2,e5,h8⟩,h7];simp only[Qe,kK,dt.pv,er.pv,List.map_append,List.map_take,List.map_drop,List.map_replicate,KV.Ee];rw[e1]
     ·cases h
    ·cases h
   ·cases h
  ·cases h
 |Br kk len x i=>
  have h1:=hov x (by simp[bO.dm])
  have h2:=hov i (by simp[bO.dm])
  simp only[fK]at h;split at h
  ·rename_i kd n hi;rw[hi]at h2;split at h
   ·rename_i hb;have hlt:n<len:=by simpa using hb
    have hc:(0:Int)<=Int.ofNat n/\Int.ofNat n<(len:Int):=⟨Int.natCast_nonneg n,Int.ofNat_lt.2 hlt⟩;split at h
    ·rename_i id av o hx;rw[hx]at h1;split at h
     ·rename_i cs hbx;obtain⟨h3,h4⟩:=xx hbx;refine pure ?_ h;rw[exec,h2];simp only[KV.pv];rw[Qr hc,h1];simp only[KV.pv];rw[Qr h3,h4];rfl
     ·cases h
    ·rename_i cs hx;rw[hx]at h1;refine pure ?_ h;rw[exec,h2];simp only[KV.pv];rw[Qr hc,h1];simp only[KV.pv,KV.cr,List.map_drop,Qq65];rfl
    ·cases h
   ·cases h
  ·cases h
 |bin op x y=>
  have h1:=hov x (by simp[bO.dm])
  have h2:=hov y (by simp[bO.dm])
  simp only[fK]at h;obtain⟨v,h3,h4⟩:=afb h;refine pure ?_ h4;rw[exec,h1,h2,h3];rfl
 |mh neg x y=>
  have h1:=hov x (by simp[bO.dm])
  have h2:=hov y (by simp[bO.dm])
  simp only[fK]at h;split at h
  ·rename_i hx hy;rw[hx]at h1;rw[hy]at h2;split at h
   ·rename_i hk;refine pure ?_ h;rw[exec,h1,h2];simp only[KV.pv,KV.Ee,hk,Qt,Qq65]
   ·cases h
  ·cases h
 |Lf n off x=>
  have h1:=hov x (by simp[bO.dm])
  simp only[fK]at h;split at h
  ·rename_i cs hp;rw[hp]at h1;split at h
   ·rename_i v hx;refine pure ?_ h;have:=C1 hx;rw[List.map_drop]at this;rw[exec,h1];simp only[KV.pv,KV.cr,this,Qe,Qq65]
   ·cases h
  ·cases h
 |lookup ok z x y=>
  have h1:=hov x (by simp[bO.dm])
  have h2:=hov y (by simp[bO.dm])
  simp only[fK]at h;split at h
  ·rename_i A B xs kd a ld b hx hy;rw[hx]at h1;rw[hy]at h2;split at h
   ·rename_i kd' ld' d hkey hzo hzd;split at h
    ·rename_i hkl;obtain⟨rfl,rfl⟩:=hkl;obtain⟨hA,hk⟩:=K.J7 A kd ld hkey;obtain⟨hm,hm2⟩:=Un K (B:=B) (d:=d) hA hk a b xs;have hz:dx B d=nz z:=aa5 K hzo hzd
     have hr:(bif GI (fun v=>wU a b (K.eu A v)) xs then some (dx B (GJ (fun v=>wU a b (K.eu A v)) xs d))else none:Option PV).getD (nz z)=dx B (GJ (fun v=>wU a b (K.eu A v)) xs d):=by
      cases hh:GI (fun v=>wU a b (K.eu A v)) xs with
      |true=>rfl
      |false=>rw[hm2 hh,hz];rfl
     have hi:(bif GI (fun v=>wU a b (K.eu A v)) xs then some (dx B (GJ (fun v=>wU a b (K.eu A v)) xs d))else none:Option PV).isSome=GI (fun v=>wU a b (K.eu A v)) xs:=by
      cases hh:GI (fun v=>wU a b (K.eu A v)) xs<;>rfl
     cases ok with
     |false=>
      refine pure ?_ h;rw[exec,h1,h2];simp only[KV.pv,KV.Ee,hm,Qe,Qq,Qu,hr,yG,Qq65]
     |true=>
      refine pure ?_ h;rw[exec,h1,h2];simp only[KV.pv,KV.Ee,hm,Qe,Qt,hr,hi,yG,Qq65]
    ·cases h
   ·cases h
  ·cases h
 |Ji neg x y=>
  have h1:=hov x (by simp[bO.dm])
  have h2:=hov y (by simp[bO.dm])
  simp only[fK]at h;split at h
  ·rename_i hx hy;rw[hx]at h1;rw[hy]at h2;refine pure ?_ h;rw[exec,h1,h2];rfl
  ·cases h
 |not x=>
  have h1:=hov x (by simp[bO.dm])
  simp only[fK]at h;split at h
  ·rename_i hx;rw[hx]at h1;exact pure (by rw[exec,h1];rfl) h
  ·cases h
 |conv kd x=>
  have h1:=hov x (by simp[bO.dm])
  simp only[fK]at h;split at h
  ·rename_i hx;rw[hx]at h1;exact pure (by rw[exec,h1];rfl) h
  ·cases h
 |len b x=>
  have h1:=hov x (by simp[bO.dm])
  cases b with
  |true=>
   simp only[fK]at h;split at h
   ·rename_i hx;rw[hx]at h1;exact pure (by rw[exec,h1];rfl) h
   ·cases h
  |false=>
   simp only[fK]at h;split at h
   ·rename_i n hx;obtain⟨es,h2,h3⟩:=aet hx;exact pure (by rw[exec,h1,h2];simp only[Qe,Qq65,KV.pv,h3]) h
   ·cases h
 |call f xs=>
  simp only[fK]at h;obtain⟨Γ',x,wr,h1,h2,h3⟩:=eR hΓ h;refine⟨Γ',x,wr,h1,?_,h3⟩;rw[exec,Dp (xs:=xs) hoc];exact h2
 |wA fv xs=>
  have h0:=hov fv (by simp[bO.dm])
  simp only[fK]at h;split at h
  ·rename_i f caps hf;rw[hf]at h0;obtain⟨Γ',x,wr,h1,h2,h3⟩:=eR hΓ h;refine⟨Γ',x,wr,h1,?_,h3⟩;rw[exec,h0];simp only[KV.pv];rw[Dp (fun x hx=>hoc x (by simp[bO.dm,hx])),KV.cr,<-List.map_append]
   exact h2
  ·rename_i f caps hf;rw[hf]at h0;obtain⟨Γ',x,wr,h1,h2,h3⟩:=eR hΓ h;refine⟨Γ',x,wr,h1,?_,h3⟩;rw[exec,h0];simp only[KV.pv];rw[Dp (fun x hx=>hoc x (by simp[bO.dm,hx])),KV.cr,<-List.map_append]
   exact h2
  ·cases h
 |c6 z e kk bytes s x=>
  have h1:=hov s (by simp[bO.dm])
  have h2:=hov x (by simp[bO.dm])
  simp only[fK]at h;split at h
  ·rename_i T hT;split at h
   ·rename_i hk;have hk:=QF hk;split at h
    ·rename_i news hn;have h3:=agE hn;split at h
     ·rename_i hs;rw[hs]at h1
      cases hl:bc bytes news.length with
      |false=>rw[hl]at h;cases h
      |true=>
       rw[hl]at h;obtain⟨hl1,hl2⟩:=CH hl;obtain⟨x0,wr0,g1,g2⟩:=VA K h;refine pure ?_ g2;rw[exec,h2,h3];simp only[Xd T news hk K,Qt,h1,KV.pv,QC];rw[Qr ⟨hl1,hl2⟩];exact g1
     ·rename_i id av hs;rw[hs]at h1;split at h
      ·rename_i rr hb;obtain⟨h4,h5⟩:=qK hb;split at h
       ·rename_i he;rw[Qm]at he;have he1:=QF he.1;have he2:=QF he.2;split at h
        ·rename_i xs hc
         have hpv:rr.xs.map (U.pv rr.T)=xs.map (U.pv T):=by
          obtain⟨eT,hxs⟩:=oN hc;obtain⟨re,rk,rT,rxs⟩:=rr;simp only at eT hxs ⊢;subst eT;rw[hxs]
         cases hl:bc bytes (xs.length+news.length)with
         |false=>rw[hl]at h;cases h
         |true=>
          rw[hl]at h;obtain⟨hl1,hl2⟩:=CH hl;obtain⟨x0,wr0,g1,g2⟩:=VA K h;refine pure ?_ g2;rw[exec,h2,h3];simp only[Xd T news hk K,Qt,h1,KV.pv];rw[Qr h4,h5];simp only[hpv,QC];rw[Qr ⟨he1.symm,he2.symm,hl1,hl2⟩];rw[List.map_append]at g1;exact g1
        ·cases h
       ·cases h
      ·cases h
     ·cases h
    ·cases h
   ·cases h
  ·cases h
 |Bg x=>
  have h1:=hov x (by simp[bO.dm])
  simp only[fK]at h;split at h
  ·rename_i id av o hp;rw[hp]at h1;split at h
   ·rename_i cs hb;obtain⟨h2,h3⟩:=xx hb;refine pure ?_ h;rw[exec,h1];simp only[KV.pv];rw[Qr h2,h3];rfl
   ·cases h
  ·rename_i cs hp;rw[hp]at h1;exact pure (by rw[exec,h1];rfl) h
  ·rename_i cs hp;rw[hp]at h1;exact pure (by rw[exec,h1];rfl) h
  ·cases h
 |E5 i x=>
  have h1:=hov x (by simp[bO.dm])
  simp only[fK]at h;split at h
  ·rename_i cs hx;rw[hx]at h1;split at h
   ·rename_i y hy;refine pure ?_ h;rw[exec,h1];simp only[KV.pv,KV.cr,QT,hy,Qe,Qq65]
   ·cases h
  ·cases h
 |K7 f caps=>
  refine pure ?_ h;rw[exec,Dp (xs:=caps) hoc];simp only[KV.pv,KV.cr,Qq65]
 |K8 f caps=>
  refine pure ?_ h;rw[exec,Dp (xs:=caps) hoc];simp only[KV.pv,KV.cr,Qq65]
 |FR neg ks x y=>
  have h1:=hov x (by simp[bO.dm])
  have h2:=hov y (by simp[bO.dm])
  simp only[fK]at h;split at h
  ·rename_i cs ds hx hy;rw[hx]at h1;rw[hy]at h2;split at h
   ·rename_i b hb;refine pure ?_ h;rw[exec,h1,h2];simp only[KV.pv,KV.cr,G4 hb,Qe,Qq65]
   ·cases h
  ·cases h
 |NH e kk bytes z l c=>
  have h1:=hov l (by simp[bO.dm])
  have h2:=hov c (by simp[bO.dm])
  simp only[fK]at h;split at h
  ·rename_i T hT;split at h
   ·rename_i hz;rw[Qm]at hz;split at h
    ·rename_i d hd;split at h
     ·rename_i _ n _ m hl hc;rw[hl]at h1;rw[hc]at h2
      cases hb:(decide (n=m)&&decide (0<=n)&&bc bytes n.toNat)with
      |false=>rw[hb]at h;cases h
      |true=>
       rw[hb]at h;simp only[Qm,Qi]at hb;obtain⟨⟨h3,h4⟩,h5⟩:=hb;obtain⟨h5,h6⟩:=CH h5;refine pure ?_ h;have h7:=(vC (K.nr _ _ _ _ hd)).1;rw[AF S hz.2]at h7;rw[exec,h1,h2];simp only[KV.pv];rw[Qr ⟨h3,h4,h5,h6⟩,h7];simp only[Qe,kK,dt.pv,er.pv,List.map_replicate];rfl
     ·cases h
    ·cases h
   ·cases h
  ·cases h
 |Ic kk x lo hi=>
  have h1:=hov x (by simp[bO.dm])
  have hi1:∀(y:bq) (d n:Int),y∈(bO.Ic kk x lo hi).dm->E0 S (some y) d=some n->∃kd,y.val S.st= .int kd n:=by
   intro y d n ho hn;have:=hov y ho;simp only[E0]at hn;split at hn
   ·rename_i kd _ hy;rw[hy]at this;injection hn with hn;subst hn;exact⟨kd,this⟩
   ·cases hn
  simp only[fK]at h;split at h
  ·rename_i T xs hx;rw[hx]at h1;split at h
   ·rename_i hk;have hk:=QF hk;split at h
    ·rename_i l hh hl hhi
     cases hs:cJ l hh xs.length with
     |false=>rw[hs]at h;cases h
     |true=>
      rw[hs]at h;refine pure ?_ h;simp only[cJ,Qm,Qi]at hs;obtain⟨⟨h4,h5⟩,h6⟩:=hs
      have h7:(xs.map (U.pv T)).all (fun e=>e.length==kk)=true:=QH.2 fun u hu=>by
       obtain⟨v,_,rfl⟩:=QP.1 hu;rw[K.len,hk];simp
      unfold exec;simp only[h1,KV.pv,QC,h7,Qt]
      have fin:∀(l hh:Int),0<=l/\l<=hh/\hh<=(xs.length:Int)->(if 0<=l/\l<=hh/\hh<=(xs.length:Int)then some (PV.sl (((xs.map (U.pv T)).take hh.toNat).drop l.toNat),(none:Option (Nat×gp)))else none)=some (PV.sl (((xs.take hh.toNat).drop l.toNat).map (U.pv T)),Option.map kK (none:Option (Nat×dt U))):=fun l hh hc=>by
       rw[Qr hc];simp only[List.map_take,List.map_drop,Qq65]
      cases lo with
      |none=>
       injection hl with hl
       subst hl
       cases hi with
       |none=>injection hhi with hhi;subst hhi;exact fin _ _ ⟨h4,h5,h6⟩
       |some y=>obtain⟨kd,hy⟩:=hi1 y _ _ (by simp[bO.dm]) hhi;simp only[hy];exact fin _ _ ⟨h4,h5,h6⟩
      |some z=>
       obtain⟨kz,hz⟩:=hi1 z _ _ (by simp[bO.dm]) hl
       cases hi with
       |none=>injection hhi with hhi;subst hhi;simp only[hz];exact fin _ _ ⟨h4,h5,h6⟩
       |some y=>obtain⟨kd,hy⟩:=hi1 y _ _ (by simp[bO.dm]) hhi;simp only[hz,hy];exact fin _ _ ⟨h4,h5,h6⟩
    ·cases h
   ·cases h
  ·rename_i id av hx;rw[hx]at h1;split at h
   ·rename_i rr hb;obtain⟨h3,h4⟩:=qK hb;split at h
    ·rename_i hk;have hk:=QF hk;split at h
     ·rename_i l hh hl hhi;have e1:=Nx (hi1:=hi1) (y:=lo) (fun y hy=>by simp[bO.dm,hy]) hl
      have e2:=Nx (hi1:=hi1) (y:=hi) (fun y hy=>by simp[bO.dm,hy]) hhi
      cases hs:cJ l hh rr.xs.length with
      |false=>rw[hs]at h;cases h
      |true=>
       rw[hs]at h;refine pure ?_ h;simp only[cJ,Qm,Qi]at hs;unfold exec;simp only[h1,KV.pv];rw[Qr h3,h4];simp only[QC];rw[Qr hk,e1,e2];simp only;rw[Qr ⟨hs.1.1,hs.1.2,hs.2⟩];rfl
     ·cases h
    ·cases h
   ·cases h
  ·rename_i id av kk' lo0 n0 hx;rw[hx]at h1;split at h
   ·rename_i rr hb;obtain⟨h3,h4⟩:=qK hb;split at h
    ·rename_i hk;rw[Qm]at hk;split at h
     ·rename_i l hh hl hhi;have e1:=Nx (hi1:=hi1) (y:=lo) (fun y hy=>by simp[bO.dm,hy]) hl
      have e2:=Nx (hi1:=hi1) (y:=hi) (fun y hy=>by simp[bO.dm,hy]) hhi
      cases hs:cJ l hh n0 with
      |false=>rw[hs]at h;cases h
      |true=>
       rw[hs]at h;refine pure ?_ h;simp only[cJ,Qm,Qi]at hs;unfold exec;simp only[h1,KV.pv];rw[Qr h3,h4];simp only;rw[Qr ⟨QF hk.1,QF hk.2⟩,e1,e2];simp only;rw[Qr ⟨hs.1.1,hs.1.2,hs.2⟩];rfl
     ·cases h
    ·cases h
   ·cases h
  ·cases h
 |u9 mx x y=>
  have h1:=hov x (by simp[bO.dm])
  have h2:=hov y (by simp[bO.dm])
  simp only[fK]at h;split at h
  ·rename_i hx hy;rw[hx]at h1;rw[hy]at h2;split at h
   ·rename_i hk;refine pure ?_ h;rw[exec,h1,h2];simp only[KV.pv,hk,Qt,Qq65]
   ·cases h
  ·cases h
 |zI neg x=>
  have h1:=hov x (by simp[bO.dm])
  simp only[fK]at h;split at h
  ·rename_i hx;rw[hx]at h1;exact pure (by unfold exec;simp only[h1,KV.pv,Qq65]) h
  ·rename_i T xs hx;rw[hx]at h1
   cases xs with
   |nil=>exact pure (x:= .gS) (by unfold exec;simp only[h1,KV.pv,lq,QO,Qq65]) h
   |cons y l=>exact pure (x:= .bool neg) (by unfold exec;simp only[h1,KV.pv,lq,QD,Qq65]) h
  ·cases h
end
end
section
open Go.RowKit
section
variable {P : Program} {S : St} {nt : Nat} {Q : Exit -> St -> Prop} {E : En} {a : Act} {w : World} {L : Nat -> Value}
theorem Rel.afK(h:Rel E S a w L){id:Nat}(hid:id<S.N)(e k:Nat):
  Rel E {S with H:=bN S.H id ⟨(S.H id).av+1,.row e k []⟩} a w (bN L id (.slice none 0 0)):=
 (h.uQ (w':=w) hid ⟨(S.H id).av+1,.row e k []⟩ (.slice none 0 0) (.inr (Nat.lt_succ_self _)) rfl rfl rfl (QI _) (fun _ _ _=>rfl)
  (fun b _ hb=>by simp[cp]at hb) (fun _ _=>⟨[],⟨by simp,.inl ⟨rfl,rfl⟩⟩,by simp,by exact⟨rfl,fun i y v hy=>by simp at hy⟩⟩)).1
theorem agc{S:St}{id:Nat}(hid:id<S.N)(e k:Nat){w:World}{M:Nat->Prop}{v:Value}(h:v= .slice none 0 0):
  bm w M (St.gh {S with H:=bN S.H id ⟨(S.H id).av+1,.row e k []⟩} (bN L id (.slice none 0 0))) (.own id ((S.H id).av+1)) v:=by
 subst h;exact .own _ _ _ _ _ hid (by simp[St.gh]) (fun _=>by simp[St.gh])
end
end
section
open Go.RowKit
section
variable {P : Program} {E : En} {S : St} {a : Act} {w : World} {L : Nat -> Value}
theorem Rel.aiR(h:Rel E S a w L){id av k n e0 k':Nat}{es:List (List PV)}{v:Value}(r:bm w (bu E S L) (S.gh L) (.view id av k 0 n) v)(hver:(S.H id).av=av)(hc:(S.H id).c= .row e0 k' es):
  Rel E {S with H:=bN S.H id ⟨av+1,.row e0 k' (es.take n)⟩} a w (bN L id v)/\bm w (bu E {S with H:=bN S.H id ⟨av+1,.row e0 k' (es.take n)⟩} (bN L id v)) (St.gh {S with H:=bN S.H id ⟨av+1,.row e0 k' (es.take n)⟩} (bN L id v)) (.own id (av+1)) v:=by
 obtain⟨hN,ad,c,hv,hat⟩:=r.As (show(S.gh L).V id=av from hver)
 have hle:=h.JI hN hc hat;obtain⟨a0,m0,c0,hl,q1,q2,q3,q4⟩:=hat;have hl:L id= .slice a0 m0 c0:=hl;have hlive:(S.H id).c.live=true:=by rw[hc];rfl
 obtain⟨vs,hown,hk,hr⟩:=h.k8 hN hc
 have had:ad=a0:=by
  rcases q4 with q4|q4
  ·exact absurd rfl q4.2.1
  ·rw[q4];cases a0<;>simp[Addr.add]
 have hc0:c=c0:=by omega
 subst had hc0;have hbv:cp v=cp (L id):=by rw[hv,hl];cases ad<;>rfl
 have hlen:(es.take n).length=n:=by simp;omega
 have hnew:w.ownsRow (gH E v) e0 k' v (es.take n).length (vs.take (n*k')):=by
  rw[B6 hbv,hlen];have hvl:vs.length=es.length*k':=hown.1;have hnk:n*k'<=es.length*k':=Qq63 _ (by omega)
  refine⟨by rw[List.length_take,hvl];omega,?_⟩
  rcases hown.2 with⟨hL,h0⟩|⟨g,cap,cur,hL,hb1,hh,hnc,hcm,hcs,htake⟩
  ·left;rw[hl]at hL;injection hL with e1 e2 e3
   subst e1 e2 e3;have hn0:n=0:=by omega
   subst hn0;exact⟨hv,rfl⟩
  ·right;rw[hl]at hL;injection hL with e1 e2 e3
   subst e1 e2 e3;refine⟨g,c,cur,hv,hb1,hh,by omega,hcm,hcs,?_⟩
   rw[<-htake,List.take_take,Nat.min_eq_left hnk]
 obtain⟨h1,hs,hg⟩:=h.uQ (w':=w) hN ⟨av+1,.row e0 k' (es.take n)⟩ v (.inr (by show(S.H id).av<av+1;omega)) rfl rfl rfl (QI _) (fun _ _ _=>rfl)
  (fun b _ hb=> .inl ⟨hlive,by rw[<-hbv];exact hb⟩)
  (fun hs hg=>⟨_,hnew,fun u hu=>hk u (Q1 hu),by rw[vn k' n es hk];exact(hr.take _).mono hs hg⟩)
 refine⟨h1,?_⟩;subst hv;exact .own _ _ _ _ _ hN (by simp[St.gh]) (fun _=>by simp[St.gh])
theorem Rel.acX(h:Rel E S a w L){id:Nat}{cs cs':List PV}(hid:id<S.N)(hc:(S.H id).c= .box cs)(hr:∀vs,bj w (bu E S L) (S.gh L) cs vs->bj w (bu E S L) (S.gh L) cs' vs):
  Rel E {S with H:=bN S.H id ⟨(S.H id).av,.box cs'⟩} a w L:=by
 have:=(h.uQ (w':=w) hid ⟨(S.H id).av,.box cs'⟩ (L id) (.inl ⟨rfl,rfl,by rw[hc];rfl⟩) rfl rfl rfl (QI _) (fun _ _ _=>rfl) (fun b _ hb=> .inl ⟨by rw[hc];rfl,hb⟩) (fun hs hg=>by
  obtain⟨b,cur,T,h1,h2,h3,h4⟩:=h.tQ hid hc
  exact⟨b,cur,T,h1,h2,h4,(hr _ h3).mono hs hg⟩)).1
 rwa [Ga]at this
theorem bj.set{M:Nat->Prop}{G:Gh}{cs:List PV}{vs:List Value}(h:bj w M G cs vs)(i:Nat)(y:PV)(hy:∀v,vs[i]?=some v->bm w M G y v):bj w M G (cs.set i y) vs:=by
 refine⟨by rw[QY];exact h.1,fun j x v hx hv=> ?_⟩
 rw[List.getElem?_set]at hx;split at hx
 ·rename_i hij;subst hij;split at hx
  ·injection hx with hx;subst hx;exact hy v hv
  ·cases hx
 ·exact h.2 j x v hx hv
theorem Rel.adr(h:Rel E S a w L){S':St}(hH:S'.H=S.H)(hN:S'.N=S.N)(he:∀t,S'.env t=S.env t\/S'.env t= .any):Rel E S' a w L:=by
 obtain⟨env,H,N⟩:=S;obtain⟨env',H',N'⟩:=S';simp only at hH hN he;subst hH hN;refine⟨h.defers,h.size,fun t=> ?_,h.obj,h.apart,h.fresh,h.fr,h.De⟩
 rcases he t with e|e
 ·show bm _ _ _ (env' t) _;rw[e];exact h.env t
 ·show bm _ _ _ (env' t) _;rw[e];exact .any _
end
section
variable {U : TU}
inductive Ps (U:TU) where
 |own (t e k:Nat) (T:U.Ty)
 |Cq (t:Nat)
 |ye (t off e k:Nat) (T:U.Ty)
 |Jc (t off:Nat)
 |cut (t:Nat)
def Ps.run(S:aZ U):Ps U->Option (aZ U)
 | .own t e k T=>(match S.env t with
  | .et=>some {env:=iC S.env t (.own S.N 1),H:=iC S.H S.N ⟨1,.row e k T []⟩,N:=S.N+1}
  |_=>none)
 | .Cq t=>(match S.env t with
  | .own id av=>(match S.row? id av with
   |some r=>some {env:=iC S.env t (.sl r.T r.xs),H:=iC S.H id ⟨av,.dead⟩,N:=S.N}
   |none=>none)
  |_=>none)
 | .ye t off e k T=>(match S.env t with
  | .ptr id av _=>(match S.uq id av with
   |some cs=>(match cs[off]? with
    |some .et=>some {env:=S.env,H:=iC (iC S.H S.N ⟨1,.row e k T []⟩) id ⟨av,.box (cs.set off (.own S.N 1))⟩,N:=S.N+1}
    |_=>none)
   |none=>none)
  |_=>none)
 | .Jc t off=>(match S.env t with
  | .ptr id av _=>(match S.uq id av with
   |some cs=>(match cs[off]? with
    |some (.own i v)=>(match S.row? i v with
     |some r=>some {env:=S.env,H:=iC (iC S.H i ⟨v,.dead⟩) id ⟨av,.box (cs.set off (.sl r.T r.xs))⟩,N:=S.N}
     |none=>none)
    |_=>none)
   |none=>none)
  |_=>none)
 | .cut t=>(match S.env t with
  | .view id av _ lo n=>(match S.row? id av with
   |some r=>(match Nat.beq lo 0 with
    |true=>some {env:=iC S.env t (.own id (av+1)),H:=iC S.H id ⟨av+1,.row r.e r.k r.T (r.xs.take n)⟩,N:=S.N}
    |false=>none)
   |none=>none)
  |_=>none)
def Ps.tmps:Ps U->List Nat
 | .own t _ _ _| .Cq t| .cut t=>[t]
 | .ye _ _ _ _ _| .Jc _ _=>[]
def Ps.GF(S:aZ U):Ps U->List Nat
 | .own _ _ _ _=>[S.N]
 | .Cq t=>(match S.env t with| .own id _=>[id]|_=>[])
 | .cut t=>(match S.env t with| .view id _ _ _ _=>[id]|_=>[])
 | .ye t _ _ _ _=>S.N::(match S.env t with| .ptr id _ _=>[id]|_=>[])
 | .Jc t off=>(match S.env t with
  | .ptr id av _=>id::(match S.uq id av with
   |some cs=>(match cs[off]? with|some (.own i _)=>[i]|_=>[])
   |none=>[])
  |_=>[])
theorem Ps.sound(K:TK U){S S':aZ U}{p:Ps U}(hp:p.run S=some S'){E:En}{a:Act}{w:World}{L:Nat->Value}(h:Rel E S.st a w L):∃L',Rel E S'.st a w L':=by
 cases p with
 |own t e k T=>
  simp only[Ps.run]at hp;split at hp
  ·rename_i ht;injection hp with hp
   subst hp;have h0:=h.room 1;have hf:(S.st.H S.N)=⟨0,.dead⟩:=h.fresh S.N (QI _);have hid:S.N<({S.st with N:=S.st.N+1}:St).N:=Nat.lt_succ_self S.N
   have h1:=h0.afK hid e k;refine⟨bN L S.N (.slice none 0 0),?_⟩
   have heq:(aZ.st {env:=iC S.env t (.own S.N 1),H:=iC S.H S.N ⟨1,.row e k T []⟩,N:=S.N+1}:St)={env:=bN S.st.env t (.own S.N 1),H:=bN S.st.H S.N ⟨(S.st.H S.N).av+1,.row e k []⟩,N:=S.st.N+1}:=by
    rw[hf];unfold aZ.st;congr 1
    ·simp only[cW];exact qu _ _ _ _
    ·simp only[cW];exact qu _ _ _ _
   rw[heq];refine⟨h1.defers,h1.size,fun j=> ?_,h1.obj,h1.apart,h1.fresh,h1.fr,h1.De⟩
   show bm w _ _ (bN S.st.env t _ j) _
   by_cases hj:j=t
   ·subst hj;have h2:=h.env j;have h3:S.st.env j= .et:=by simp only[aZ.st,ht,KV.pv]
    rw[h3]at h2;rw[cq];have:=agc (L:=L) (S:={S.st with N:=S.st.N+1}) hid e k (w:=w) (M:=bu E {env:=S.st.env,H:=bN S.st.H S.N ⟨(S.st.H S.N).av+1,.row e k []⟩,N:=S.st.N+1} (bN L S.N (.slice none 0 0))) h2.rG
    have hv:(S.st.H S.N).av+1=1:=by rw[hf]
    simp only[hv]at this ⊢;exact this
   ·rw[cP _ _ hj];exact h1.env j
  ·cases hp
 |Cq t=>
  simp only[Ps.run]at hp;split at hp
  ·rename_i id av ht;split at hp
   ·rename_i r hr;injection hp with hp
    subst hp;obtain⟨hv,hc⟩:=qK hr;have h2:=h.env t;have h3:S.st.env t= .own id (S.st.H id).av:=by rw[hv];simp only[aZ.st,ht,KV.pv]
    rw[h3]at h2
    obtain⟨h4,h5⟩:=h.Cq h2 hc (fun u hu=>by
     obtain⟨x,_,rfl⟩:=QP.1 hu
     exact QH.2 fun y hy=>gU (K.hU _ _ _ hy))
    rw[hv]at h4 h5;refine⟨L,?_⟩
    have heq:(aZ.st {env:=iC S.env t (.sl r.T r.xs),H:=iC S.H id ⟨av,.dead⟩,N:=S.N}:St)={env:=bN S.st.env t (.sl (r.xs.map (U.pv r.T))),H:=bN S.st.H id ⟨av,.dead⟩,N:=S.st.N}:=by
     unfold aZ.st;congr 1
     ·simp only[cW];exact qu _ _ _ _
     ·simp only[cW];exact qu _ _ _ _
    rw[heq];refine⟨h4.defers,h4.size,fun j=> ?_,h4.obj,h4.apart,h4.fresh,h4.fr,h4.De⟩
    show bm w _ _ (bN S.st.env t _ j) _
    by_cases hj:j=t
    ·subst hj;rw[cq];exact h5
    ·rw[cP _ _ hj];exact h4.env j
   ·cases hp
  ·cases hp
 |cut t=>
  simp only[Ps.run]at hp;split at hp
  ·rename_i id av k lo n ht;split at hp
   ·rename_i r hr;split at hp
    ·rename_i hlo;injection hp with hp
     subst hp;have hlo:=QF hlo;subst hlo;obtain⟨hv,hc⟩:=qK hr;have h2:=h.env t;have h3:S.st.env t= .view id av k 0 n:=by simp only[aZ.st,ht,KV.pv]
     rw[h3]at h2;obtain⟨h4,h5⟩:=h.aiR h2 hv hc;refine⟨bN L id (a.tmps.getD t undef),?_⟩
     have heq:(aZ.st {env:=iC S.env t (.own id (av+1)),H:=iC S.H id ⟨av+1,.row r.e r.k r.T (r.xs.take n)⟩,N:=S.N}:St)={env:=bN S.st.env t (.own id (av+1)),H:=bN S.st.H id ⟨av+1,.row r.e r.k ((r.xs.map (U.pv r.T)).take n)⟩,N:=S.st.N}:=by
      unfold aZ.st;congr 1
      ·simp only[cW];exact qu _ _ _ _
      ·simp only[cW];rw[<-List.map_take];exact qu _ _ _ _
     rw[heq];refine⟨h4.defers,h4.size,fun j=> ?_,h4.obj,h4.apart,h4.fresh,h4.fr,h4.De⟩
     show bm w _ _ (bN S.st.env t _ j) _
     by_cases hj:j=t
     ·subst hj;rw[cq];exact h5
     ·rw[cP _ _ hj];exact h4.env j
    ·cases hp
   ·cases hp
  ·cases hp
 |ye t off e k T=>
  simp only[Ps.run]at hp;split at hp
  ·rename_i id av o ht;split at hp
   ·rename_i cs hb;split at hp
    ·rename_i hcell;injection hp with hp
     subst hp;obtain⟨hv,hc⟩:=xx hb;have h3:S.st.env t= .ptr id av o:=by simp only[aZ.st,ht,KV.pv]
     have hlt:id<S.N:=by
      have h2:=h.env t;rw[h3]at h2;exact(h2.ud (show(S.st.gh L).V id=av from hv)).1
     have h0:=h.room 1;have hf:(S.st.H S.N)=⟨0,.dead⟩:=h.fresh S.N (QI _);have hid:S.N<({S.st with N:=S.st.N+1}:St).N:=Nat.lt_succ_self S.N
     have h1:=h0.afK hid e k;have hne:id≠S.N:=Nat.ne_of_lt hlt
     have h2:=h1.acX (id:=id) (cs:=cs.map KV.pv) (cs':=(cs.map KV.pv).set off (.own S.N ((S.st.H S.N).av+1))) (Nat.lt_succ_of_lt hlt) (by show(bN S.st.H S.N _ id).c=_;rw[cP _ _ hne];exact hc)
      (fun vs hr=>hr.set _ _ fun v hvv=>by
       have hn:(cs.map KV.pv)[off]?=some .et:=by rw[QT,hcell];rfl
       exact agc (L:=L) (S:={S.st with N:=S.st.N+1}) hid e k (hr.2 off .et v hn hvv).rG)
     refine⟨bN L S.N (.slice none 0 0),?_⟩
     have heq:(aZ.st {env:=S.env,H:=iC (iC S.H S.N ⟨1,.row e k T []⟩) id ⟨av,.box (cs.set off (.own S.N 1))⟩,N:=S.N+1}:St)
       ={env:=S.st.env,H:=bN (bN S.st.H S.N ⟨(S.st.H S.N).av+1,.row e k []⟩) id ⟨(bN S.st.H S.N ⟨(S.st.H S.N).av+1,.row e k []⟩ id).av,.box ((cs.map KV.pv).set off (.own S.N ((S.st.H S.N).av+1)))⟩,N:=S.st.N+1}:=by
      rw[cP _ _ hne,hv,hf];unfold aZ.st;congr 1;simp only[cW];rw[qu,qu];simp only[dt.pv,er.pv,List.map_set,KV.pv,QO]
     rw[heq];exact h2
    ·cases hp
   ·cases hp
  ·cases hp
 |Jc t off=>
  simp only[Ps.run]at hp;split at hp
  ·rename_i id av o ht;split at hp
   ·rename_i cs hb;split at hp
    ·rename_i i v hcell;split at hp
     ·rename_i r hr;injection hp with hp
      subst hp;obtain⟨hv,hc⟩:=xx hb;obtain⟨hv2,hc2⟩:=qK hr;have h3:S.st.env t= .ptr id av o:=by simp only[aZ.st,ht,KV.pv]
      have hlt:id<S.N:=by
       have h2:=h.env t;rw[h3]at h2;exact(h2.ud (show(S.st.gh L).V id=av from hv)).1
      have hcell':(cs.map KV.pv)[off]?=some (.own i v):=by rw[QT,hcell];rfl
      have hili:i<S.N:=by
       obtain⟨b,cur,T,h5,h6,h7,h8⟩:=h.tQ hlt hc;obtain⟨u,hu,hru⟩:=h7.get hcell';exact(hru.nN (show(S.st.gh L).V i=v from hv2)).1
      have hne:id≠i:=by
       intro e;subst e;rw[hc]at hc2;cases hc2
      obtain⟨h4,h5⟩:=h.agw hili hc2 (fun u hu=>by
       obtain⟨x,_,rfl⟩:=QP.1 hu
       exact QH.2 fun y hy=>gU (K.hU _ _ _ hy))
      have h6:=h4.acX (id:=id) (cs:=cs.map KV.pv) (cs':=(cs.map KV.pv).set off (.sl (r.xs.map (U.pv r.T)))) hlt (by show(bN S.st.H i _ id).c=_;rw[cP _ _ hne];exact hc)
       (fun vs hrr=>hrr.set _ _ fun u hu=>h5 u (by
        have:=hrr.2 off _ u hcell' hu
        exact(this.nN (show(bN S.st.H i ⟨(S.st.H i).av,.dead⟩ i).av=v by rw[cq];exact hv2)).2))
      refine⟨L,?_⟩
      have heq:(aZ.st {env:=S.env,H:=iC (iC S.H i ⟨v,.dead⟩) id ⟨av,.box (cs.set off (.sl r.T r.xs))⟩,N:=S.N}:St)
        ={env:=S.st.env,H:=bN (bN S.st.H i ⟨(S.st.H i).av,.dead⟩) id ⟨(bN S.st.H i ⟨(S.st.H i).av,.dead⟩ id).av,.box ((cs.map KV.pv).set off (.sl (r.xs.map (U.pv r.T))))⟩,N:=S.st.N}:=by
       rw[cP _ _ hne,hv,hv2];unfold aZ.st;congr 1;simp only[cW];rw[qu,qu];simp only[dt.pv,er.pv,List.map_set,KV.pv]
      rw[heq];exact h6
     ·cases hp
    ·cases hp
   ·cases hp
  ·cases hp
inductive RS (U:TU) where
 |nil
 |op (o:SG) (r:RS U)
 |ps (p:Ps U) (r:RS U)
 |Ch (t:Nat) (r:RS U)
 |ite (t:Nat) (want:Bool) (body:RS U) (d:Nat) (g:Option (Nat×Bool)) (x y:bq) (r:RS U)
def RS.flat:RS U->List SG
 | .nil=>[]
 | .op o r=>o::r.flat
 | .ps _ r=>r.flat
 | .Ch _ r=>r.flat
 | .ite t _ b d g x y r=>b.flat++⟨some d,g,.pick (.tmp t) x y⟩::r.flat
def RS.ky:RS U->List Nat
 | .nil=>[]
 | .op o r=>(match o.d with|some t=>t::r.ky|none=>r.ky)
 | .ps p r=>p.tmps++r.ky
 | .Ch _ r=>r.ky
 | .ite _ _ b d _ _ _ r=>b.ky++d::r.ky
def xP:List SG->List Nat
 |[]=>[]
 |o::l=>(match o.d with|some t=>t::xP l|none=>xP l)
def RS.len:RS U->Nat
 | .nil=>0
 | .op _ r=>r.len+1
 | .ps _ r=>r.len
 | .Ch _ r=>r.len
 | .ite _ _ b _ _ _ _ r=>b.len+(r.len+1)
theorem RS.AK:∀(r:RS U),r.flat.length=r.len
 | .nil=>rfl
 | .op _ r=>by simp[RS.flat,RS.len,r.AK]
 | .ps _ r=>r.AK
 | .Ch _ r=>r.AK
 | .ite _ _ b _ _ _ _ r=>by simp[RS.flat,RS.len,b.AK,r.AK]
def iT(t:Nat):List Nat->Bool
 |[]=>false
 |x::l=>(match Nat.beq t x with|true=>true|false=>iT t l)
theorem eW{t:Nat}:∀{l:List Nat},iT t l=true↔t∈l
 |[]=>by simp[iT]
 |x::l=>by
  simp only[iT];split
  ·rename_i h;simp[QF h]
  ·rename_i h;rw[eW];simp[Nat.ne_of_beq_eq_false h]
theorem rH{t:Nat}{l:List Nat}(h:iT t l=false):t∉l:=fun hm=>by rw[eW.2 hm]at h;cases h
def Y1:Bool->Bool->Bool
 |true,b=>b
 |false,true=>false
 |false,false=>true
theorem Kg(x y:Bool):Y1 x y=(x==y):=by cases x<;>cases y<;>rfl
abbrev WS:=Option (Nat×List Nat)
def okW:WS->Nat->Bool
 |none,_=>false
 |some (n,l),id=>Nat.ble n id||iT id l
def GC(W:WS):Option (Nat×dt U)->Bool
 |none=>true
 |some (id,_)=>okW W id
def Ie(t:Nat)(want:Bool):List Nat->List SG->Bool
 |_,[]=>true
 |u,o::l=>(match o.g with
  |some (t',want')=>(Nat.beq t' t&&Y1 want' want)||iT t' u
  |none=>false)&&(match o.d with
   |some d=> !Nat.beq d t&&Ie t want (d::u) l
   |none=>Ie t want u l)
variable (K : TK U)
def YN{ρ:Type}(Γ:List (eB U))(W:WS)(nid:Nat)(S:aZ U)(o:SG)(k:KV U->Option (Nat×dt U)->Option ρ):Option ρ:=
 match o.g with
 |none=>fK K Γ nid S o.op fun x wr=>(match GC W wr with|true=>k x wr|false=>none)
 |some (t,want)=>match S.env t with
  | .bool b=>(match Y1 b want with
   |true=>fK K Γ nid S o.op fun x wr=>(match GC W wr with|true=>k x wr|false=>none)
   |false=>k .undef none)
  | .undef=>k .undef none
  |_=>none
def acU{ρ:Type}(Γ:List (eB U))(W:WS)(nid:Nat)(S:aZ U)(o:SG)(k:aZ U->Option ρ):Option ρ:=
 YN K Γ W nid S o fun x wr=>k (S.c6 o.d x wr)
def acQ(S:aZ U)(ds:List Nat):Option (Nat×Bool)->Bool
 |none=>true
 |some (t,want)=>(match S.env t with| .bool b=>Y1 b want&& !iT t ds|_=>false)
def aZ.forget(S:aZ U)(ds:List Nat):aZ U:={env:=fun t=>(match iT t ds with|true=> .any|false=>S.env t),H:=S.H,N:=S.N}
def YQ:bq->Option Bool
 | .yO (.bool b)=>some b
 |_=>none
def ly(Γ:List (eB U)):RS U->{ρ:Type}->(W:WS)->(nid:Nat)->(S:aZ U)->(k:aZ U->Option ρ)->Option ρ
 | .nil,_,_,_,S,k=>k S
 | .op o r,_,W,nid,S,k=>acU K Γ W nid S o fun S'=>ly Γ r W (nid+1) S' k
 | .ps p r,_,W,nid,S,k=>(match(p.GF S).all (okW W)with
  |true=>(match p.run S with|some S'=>ly Γ r W nid S' k|none=>none)
  |false=>none)
 | .Ch t r,_,W,nid,S,k=>(match S.env t with
  | .bool b=>bif b then ly Γ r W nid (S.c6 (some t) (.bool true) none) k else ly Γ r W nid (S.c6 (some t) (.bool false) none) k
  | .undef=>ly Γ r W nid S k
  |_=>none)
 | .ite t want body d g x y r,_,W,nid,S,k=>(match S.env t with
  | .bool b=>(match acQ S body.ky g&&(Ie t want [] body.flat&& !iT t body.ky)with
   |true=>(match want with
    |true=>(match YQ y with
     |some c=>(bif b then ly Γ body none nid (S.c6 (some t) (.bool true) none) (fun S1=>Jl (x.cY S1))else some c).bind fun v=>ly Γ r W (nid+(body.len+1)) ((S.forget body.ky).c6 (some d) (.bool v) none) k
     |none=>none)
    |false=>(match YQ x with
     |some c=>(bif b then some c else ly Γ body none nid (S.c6 (some t) (.bool false) none) (fun S1=>Jl (y.cY S1))).bind fun v=>ly Γ r W (nid+(body.len+1)) ((S.forget body.ky).c6 (some d) (.bool v) none) k
     |none=>none))
   |false=>none)
  |_=>none)
structure Cs (D:List Nat) (W:WS) (S S':aZ U):Prop where
 env:∀t,t∉D->S'.env t=S.env t
 H:∀id,okW W id=false->S'.H id=S.H id
 N:S.N<=S'.N
 Nn:W=none->S'.N=S.N
theorem Cs.refl(D:List Nat)(W:WS)(S:aZ U):Cs D W S S:=⟨fun _ _=>rfl,fun _ _=>rfl,QI _,fun _=>rfl⟩
theorem Cs.trans{D D' D'':List Nat}{W:WS}{S S' S'':aZ U}(h:Cs D W S S')(h':Cs D' W S' S'')(hd:∀t,t∉D''->t∉D/\t∉D'):Cs D'' W S S'':=
 ⟨fun t ht=>(h'.env t (hd t ht).2).trans (h.env t (hd t ht).1),fun id hid=>(h'.H id hid).trans (h.H id hid),QK h.N h'.N,fun e=>(h'.Nn e).trans (h.Nn e)⟩
theorem ng(S:aZ U)(d:Option Nat)(x:KV U)(wr:Option (Nat×dt U)){t:Nat}(h:d≠some t):(S.c6 d x wr).env t=S.env t:=by
 cases d with
 |none=>rfl
 |some d=>simp only[aZ.c6,cW];exact cP _ _ (fun e=>h (by rw[e]))
theorem Hl(S:aZ U)(d:Option Nat)(x:KV U)(wr:Option (Nat×dt U)){i:Nat}(h:wr.map (·.1)≠some i):(S.c6 d x wr).H i=S.H i:=by
 cases wr with
 |none=>rfl
 |some p=>simp only[aZ.c6,cW];exact cP _ _ (fun e=>h (by rw[e];rfl))
theorem XE(S:aZ U)(W:WS)(d:Option Nat)(x:KV U)(wr:Option (Nat×dt U))(h:GC W wr=true):Cs d.toList W S (S.c6 d x wr):=by
 refine⟨fun t ht=>ng _ _ _ _ (fun e=>ht (by simp[e])),fun id hid=>Hl _ _ _ _ (fun e=> ?_),QI _,fun _=>rfl⟩
 cases wr with
 |none=>cases e
 |some p=>simp only[Qe,Qf]at e;simp only[GC]at h;rw[e,hid]at h;cases h
variable {K}
variable {P : Program}
theorem OD{ρ:Type}{Γ:List (eB U)}{W:WS}{nid:Nat}{S:aZ U}{o:SG}{k:KV U->Option (Nat×dt U)->Option ρ}{r:ρ}(hΓ:xc P Γ)(ho:o.op.dP=true)(h:YN K Γ W nid S o k=some r):
  ∃Γ' x wr,oP P Γ'/\BT Γ' nid S.st o=some (x.pv,wr.map kK)/\GC W wr=true/\k x wr=some r:=by
 have run:∀(hw:o.wanted S.st=some true),fK K Γ nid S o.op (fun x wr=>(match GC W wr with|true=>k x wr|false=>none))=some r->
   ∃Γ' x wr,oP P Γ'/\BT Γ' nid S.st o=some (x.pv,wr.map kK)/\GC W wr=true/\k x wr=some r:=by
  intro hw h;obtain⟨Γ',x,wr,h1,h2,h3⟩:=Wq hΓ ho h;split at h3
  ·rename_i hok;refine⟨Γ',x,wr,h1,?_,hok,h3⟩;rw[BT,hw];exact h2
  ·cases h3
 have skip:∀(hw:o.wanted S.st=some false),k .undef none=some r->
   ∃Γ' x wr,oP P Γ'/\BT Γ' nid S.st o=some (x.pv,wr.map kK)/\GC W wr=true/\k x wr=some r:=by
  intro hw h;refine⟨fun _=>none,.undef,none,fun f m hm=>(by cases hm),?_,rfl,h⟩
  rw[BT,hw];rfl
 unfold YN at h;split at h
 ·rename_i hg;exact run (by rw[SG.wanted,hg]) h
 ·rename_i t want hg;split at h
  ·rename_i b hb;have hb':S.st.env t= .bool b:=by simp only[aZ.st,hb,KV.pv]
   split at h
   ·rename_i hbw;exact run (by simp only[SG.wanted,hg,hb'];rw[Kg]at hbw;rw[hbw]) h
   ·rename_i hbw;refine skip ?_ h;simp only[SG.wanted,hg,hb'];rw[Kg]at hbw;rw[hbw]
  ·rename_i hb;have hb':S.st.env t= .undef:=by simp only[aZ.st,hb,KV.pv]
   exact skip (by simp only[SG.wanted,hg,hb']) h
  ·cases h
theorem VZ{ρ:Type}{Γ:List (eB U)}{W:WS}{nid:Nat}{S:aZ U}{o:SG}{k:aZ U->Option ρ}{r:ρ}(hΓ:xc P Γ)(ho:o.op.dP=true)(h:acU K Γ W nid S o k=some r):
  ∃Γ' x wr,oP P Γ'/\BT Γ' nid S.st o=some (x.pv,wr.map kK)/\GC W wr=true/\k (S.c6 o.d x wr)=some r:=OD hΓ ho h
theorem Yq:oP P (fun _=>none):=fun f m hm=>by cases hm
theorem Gj{E:En}{hs:List Nat}{ops:Array Oper}{t:Nat}{want:Bool}{Q:Exit->Act->World->Prop}{l2:List Oper}:∀(l1:List Oper) (gs:List SG) (u:List Nat) (S:St) (a:Act) (w:World) (L:Nat->Value),
  l1.mapM (xw P hs ops)=some gs->Rel E S a w L->0<S.N->(∀o∈l1,∀t,o.dst=some t->E.can t)->Ie t want u gs=true->S.env t= .bool (!want)->(∀x∈u,S.env x= .undef)->
  (∀S' a' w' L',(∀x,x∉xP gs->S'.env x=S.env x)->S'.H=S.H->S'.N=S.N->Rel E S' a' w' L'->wpListIn (WF E.rd) 0 P ops Q l2 a' w')->wpListIn (WF E.rd) 0 P ops Q (l1++l2) a w
 |[],gs,u,S,a,w,L,hm,h,hN,hd,hs,ht,hu,hk=>by
  simp at hm;subst hm;exact hk S a w L (fun _ _=>rfl) rfl rfl h
 |o::l1,gs,u,S,a,w,L,hm,h,hN,hd,hs,ht,hu,hk=>by
  simp only[Qq75,Qd,Qc,Option.pure_def,Qf]at hm;obtain⟨g,hg,gs',hgs,rfl⟩:=hm;simp only[Ie,Qm]at hs;obtain⟨h1,h2⟩:=hs
  have hw:g.wanted S=some false:=by
   split at h1
   ·rename_i t' want' hgg;rw[Qn,Qm]at h1;rw[SG.wanted,hgg];rcases h1 with⟨h3,h4⟩|h3
    ·rw[QF h3];rw[Kg]at h4;simp only[ht];have:=eq_of_beq h4;subst this;cases want'<;>rfl
    ·simp only[hu t' (eW.1 h3)]
   ·cases h1
  have hst:xf (fun _=>none) 0 S g=some (S.c6 g.d .undef none):=by rw[xf,hw]
  rw[List.cons_append];refine wpListIn_step fun K hK=> ?_
  refine yI Yq hg h hN (hd o (by simp)) hst (fun a' w' L' h'=>hK _ _ ?_)
  split at h2
  ·rename_i d hdd;rw[Qm]at h2;have hdt:d≠t:=fun e=>by subst e;have:=h2.1;simp at this
   refine Gj l1 gs' (d::u) _ a' w' L' hgs h' hN (fun o' ho'=>hd o' (by simp[ho'])) h2.2 ?_ ?_ ?_
   ·rw[hdd,St.ng _ _ _ (by simp[hdt])];exact ht
   ·intro x hx;rw[hdd]
    by_cases hxd:x=d
    ·subst hxd;exact cq _ _ _
    ·rw[St.ng _ _ _ (by simpa using fun e=>hxd e.symm)]
     exact hu x ((QA.1 hx).resolve_left hxd)
   ·intro S' a' w' L' he hH hN h';refine hk S' a' w' L' (fun x hx=> ?_) hH hN h'
    simp only[xP,hdd,QA,not_or]at hx;rw[he x hx.2,hdd,St.ng _ _ _ (by simpa using fun e=>hx.1 e.symm)]
  ·rename_i hdd;refine Gj l1 gs' u _ a' w' L' hgs h' hN (fun o' ho'=>hd o' (by simp[ho'])) h2 ?_ ?_ ?_
   ·rw[hdd];exact ht
   ·intro x hx;rw[hdd];exact hu x hx
   ·intro S' a' w' L' he hH hN h';refine hk S' a' w' L' (fun x hx=> ?_) hH hN h'
    simp only[xP,hdd]at hx;rw[he x hx,hdd];rfl
def RS.dP:RS U->Bool
 | .nil=>true
 | .op o r=>o.op.dP&&r.dP
 | .ps _ r=>r.dP
 | .Ch _ r=>r.dP
 | .ite _ _ b _ _ x y r=>b.dP&&(x.dP&&y.dP)&&r.dP
theorem tj:∀(r:RS U) (t:Nat),t∈xP r.flat->t∈r.ky
 | .nil,t,h=>h
 | .op o r,t,h=>by
  simp only[RS.flat,xP]at h;simp only[RS.ky];split at h
  ·rcases QA.1 h with h|h
   ·exact QA.2 (.inl h)
   ·exact QA.2 (.inr (tj r t h))
  ·exact tj r t h
 | .ps p r,t,h=>Qz.2 (.inr (tj r t h))
 | .Ch _ r,t,h=>tj r t h
 | .ite t0 want b d g x y r,t,h=>by
  have c6:∀(l1 l2:List SG),t∈xP (l1++l2)->t∈xP l1\/t∈xP l2:=by
   intro l1 l2
   induction l1 with
   |nil=>exact fun h=> .inr h
   |cons o l1 ih=>
    intro h;simp only[List.cons_append,xP]at h ⊢
    cases hd:o.d with
    |none=>rw[hd]at h;exact ih h
    |some e=>
     rw[hd]at h;simp only[QA]at h ⊢;rcases h with h|h
     ·exact .inl (.inl h)
     ·rcases ih h with h|h
      ·exact .inl (.inr h)
      ·exact .inr h
  simp only[RS.flat]at h;simp only[RS.ky,Qz,QA];rcases c6 _ _ h with h|h
  ·exact .inl (tj b t h)
  ·simp only[xP,QA]at h;rcases h with h|h
   ·exact .inr (.inl h)
   ·exact .inr (.inr (tj r t h))
theorem ae0{x:KV U}{b:Bool}(h:Jl x=some b):x= .bool b:=by
 unfold Jl at h;split at h
 ·injection h with h;rw[h]
 ·cases h
theorem DK{S:aZ U}{t:Nat}{x:KV U}(h:S.env t=x):S.c6 (some t) x none=S:=by
 unfold aZ.c6;obtain⟨env,H,N⟩:=S;simp only at h ⊢;congr 1;rw[cW,<-h];exact Ga _ _
theorem Ps.frm{S S':aZ U}{p:Ps U}(hp:p.run S=some S'){W:WS}(hW:(p.GF S).all (okW W)=true):Cs p.tmps W S S':=by
 have ne:∀{id id':Nat},okW W id=true->okW W id'=false->id'≠id:=fun h1 h2 e=>by subst e;rw[h1]at h2;cases h2
 have hN:∀{n:Nat},okW W n=true->W≠none:=fun h e=>by rw[e]at h;cases h
 cases p with
 |own t e k T=>
  simp only[Ps.run]at hp;split at hp
  ·injection hp with hp
   subst hp;simp only[Ps.GF,Qq70,List.all_nil,Bool.and_true]at hW;exact⟨fun x hx=>by simp only[cW];exact cP _ _ (by simpa[Ps.tmps]using hx),fun id hid=>by simp only[cW];exact cP _ _ (ne hW hid),Nat.le_succ _,fun e=>absurd e (hN hW)⟩
  ·cases hp
 |Cq t=>
  simp only[Ps.run]at hp;split at hp
  ·rename_i id av ht;split at hp
   ·injection hp with hp
    subst hp;simp only[Ps.GF,ht,Qq70,List.all_nil,Bool.and_true]at hW;exact⟨fun x hx=>by simp only[cW];exact cP _ _ (by simpa[Ps.tmps]using hx),fun id' hid=>by simp only[cW];exact cP _ _ (ne hW hid),QI _,fun _=>rfl⟩
   ·cases hp
  ·cases hp
 |cut t=>
  simp only[Ps.run]at hp;split at hp
  ·rename_i id av k lo n ht;split at hp
   ·split at hp
    ·injection hp with hp
     subst hp;simp only[Ps.GF,ht,Qq70,List.all_nil,Bool.and_true]at hW;exact⟨fun x hx=>by simp only[cW];exact cP _ _ (by simpa[Ps.tmps]using hx),fun id' hid=>by simp only[cW];exact cP _ _ (ne hW hid),QI _,fun _=>rfl⟩
    ·cases hp
   ·cases hp
  ·cases hp
 |ye t off e k T=>
  simp only[Ps.run]at hp;split at hp
  ·rename_i id av o ht;split at hp
   ·rename_i cs hb;split at hp
    ·injection hp with hp
     subst hp;simp only[Ps.GF,ht,Qq70,List.all_nil,Bool.and_true,Qm]at hW;exact⟨fun x hx=>rfl,fun id' hid=>by simp only[cW];rw[cP _ _ (ne hW.2 hid),cP _ _ (ne hW.1 hid)],Nat.le_succ _,fun e=>absurd e (hN hW.1)⟩
    ·cases hp
   ·cases hp
  ·cases hp
 |Jc t off=>
  simp only[Ps.run]at hp;split at hp
  ·rename_i id av o ht;split at hp
   ·rename_i cs hb;split at hp
    ·rename_i i v hcell;split at hp
     ·injection hp with hp
      subst hp;simp only[Ps.GF,ht,hb,hcell,Qq70,List.all_nil,Bool.and_true,Qm]at hW;exact⟨fun x hx=>rfl,fun id' hid=>by simp only[cW];rw[cP _ _ (ne hW.1 hid),cP _ _ (ne hW.2 hid)],QI _,fun _=>rfl⟩
     ·cases hp
    ·cases hp
   ·cases hp
  ·cases hp
theorem Em{α β:Type}{f:α->Option β}:∀{l:List α} {r1 r2:List β},l.mapM f=some (r1++r2)->∃l1 l2,l=l1++l2/\l1.mapM f=some r1/\l2.mapM f=some r2
 |l,[],r2,h=>⟨[],l,rfl,rfl,h⟩
 |[],x::r1,r2,h=>by simp at h
 |y::l,x::r1,r2,h=>by
  simp only[Qq75,Qd,Qc,Option.pure_def,Qf,List.cons_append,List.cons.injEq]at h;obtain⟨z,hz,ys,hys,rfl,rfl⟩:=h;obtain⟨l1,l2,rfl,h1,h2⟩:=Em hys;exact⟨y::l1,l2,rfl,by simp[Qq75,hz,h1],h2⟩
theorem qJ{E:En}{Γ:List (eB U)}(hΓ:xc P Γ){hs:List Nat}{ops:Array Oper}{Q:Exit->Act->World->Prop}:∀(rs:RS U) {ρ:Type} (W:WS) (nid:Nat) (S:aZ U) (k:aZ U->Option ρ) (r:ρ) (l1 l2:List Oper) (a:Act) (w:World) (L:Nat->Value),
  rs.dP=true->l1.mapM (xw P hs ops)=some rs.flat->Rel E S.st a w L->nid+rs.len<=S.N->(∀o∈l1,∀t,o.dst=some t->E.can t)->ly K Γ rs W nid S k=some r->
  (∀S' a' w' L',Cs rs.ky W S S'->Rel E S'.st a' w' L'->k S'=some r->wpListIn (WF E.rd) 0 P ops Q l2 a' w')->wpListIn (WF E.rd) 0 P ops Q (l1++l2) a w
 | .nil,ρ,W,nid,S,k,r,l1,l2,a,w,L,hok,hm,h,hN,hd,hr,hk=>by
  have:l1=[]:=by
   have:=xm hm;exact Qq67 (by simpa[RS.flat]using this.symm)
  subst this;exact hk S a w L (Cs.refl _ _ _) h hr
 | .op o rs,ρ,W,nid,S,k,r,l1,l2,a,w,L,hok,hm,h,hN,hd,hr,hk=>by
  simp only[RS.dP,Qm]at hok
  cases l1 with
  |nil=>simp[RS.flat]at hm
  |cons p l1=>
  simp only[RS.flat,Qq75,Qd,Qc,Option.pure_def,Qf,List.cons.injEq]at hm;obtain⟨g,hg,gs',hgs,rfl,rfl⟩:=hm;simp only[RS.len]at hN;obtain⟨Γ',x,wr,hΓ',he,hwr,hr'⟩:=VZ hΓ hok.1 hr;have hst:xf Γ' nid S.st g=some (S.c6 g.d x wr).st:=by rw[WE,he,Ia];rfl
  rw[List.cons_append];refine wpListIn_step fun K hK=> ?_
  refine yI hΓ' hg h (show nid<S.N by omega) (hd p (by simp)) hst (fun a' w' L' h'=>hK _ _ ?_)
  refine qJ hΓ rs W (nid+1) _ k r l1 l2 a' w' L' hok.2 hgs h' (by show _<=S.N;omega) (fun o' ho'=>hd o' (by simp[ho'])) hr' (fun S' a' w' L' hf h' hk'=>hk S' a' w' L' ?_ h' hk')
  refine(XE S W g.d x wr hwr).trans hf fun t ht=> ?_
  simp only[RS.ky]at ht
  cases hdd:g.d with
  |none=>rw[hdd]at ht;exact⟨by simp,ht⟩
  |some d=>rw[hdd]at ht;simp only[QA,not_or]at ht;exact⟨by simpa using fun e=>ht.1 e,ht.2⟩
 | .ps p rs,ρ,W,nid,S,k,r,l1,l2,a,w,L,hok,hm,h,hN,hd,hr,hk=>by
  simp only[ly]at hr;split at hr
  ·rename_i hW;split at hr
   ·rename_i S1 hp;obtain⟨L1,h1⟩:=Ps.sound K hp h;have hf:=Ps.frm hp hW;refine qJ hΓ rs W nid S1 k r l1 l2 a w L1 hok hm h1 (QK hN hf.N) hd hr (fun S' a' w' L' hf' h' hk'=>hk S' a' w' L' (hf.trans hf' fun t ht=> ?_) h' hk')
    simp only[RS.ky,Qz,not_or]at ht;exact ht
   ·cases hr
  ·cases hr
 | .Ch t rs,ρ,W,nid,S,k,r,l1,l2,a,w,L,hok,hm,h,hN,hd,hr,hk=>by
  simp only[ly]at hr;split at hr
  ·rename_i b hb
   cases b with
   |true=>
    rw[Qk,DK hb]at hr;exact qJ hΓ rs W nid S k r l1 l2 a w L hok hm h hN hd hr hk
   |false=>
    rw[Ql,DK hb]at hr;exact qJ hΓ rs W nid S k r l1 l2 a w L hok hm h hN hd hr hk
  ·exact qJ hΓ rs W nid S k r l1 l2 a w L hok hm h hN hd hr hk
  ·cases hr
 | .ite t want body d g x y rs,ρ,W,nid,S,k,r,l1,l2,a,w,L,hok,hm,h,hN,hd,hr,hk=>by
  simp only[RS.dP,Qm]at hok;obtain⟨⟨hokb,hokx,hoky⟩,hokr⟩:=hok;simp only[RS.flat]at hm;obtain⟨lb,lr,rfl,hmb,hmr⟩:=Em hm
  cases lr with
  |nil=>simp at hmr
  |cons p lr=>
  simp only[Qq75,Qd,Qc,Option.pure_def,Qf,List.cons.injEq]at hmr;obtain⟨pg,hpg,gs',hgs,rfl,rfl⟩:=hmr;simp only[RS.len]at hN;simp only[ly]at hr;split at hr
  ·rename_i b hb;split at hr
   ·rename_i hchk;simp only[Qm,Bool.not_eq_true']at hchk;obtain⟨hwant,hskip,htd⟩:=hchk;have htd:=rH htd
    have fin:∀(v:Bool) (S1:St) (a1:Act) (w1:World) (L1:Nat->Value),(∀x,x∉body.ky->S1.env x=S.st.env x)->S1.H=S.st.H->S1.N=S.st.N->Rel E S1 a1 w1 L1->
      (if b then x else y).val S1= .bool v->ly K Γ rs W (nid+(body.len+1)) ((S.forget body.ky).c6 (some d) (.bool v) none) k=some r->wpListIn (WF E.rd) 0 P ops Q (p::(lr++l2)) a1 w1:=by
     intro v S1 a1 w1 L1 he hH hN1 h1 hv hr1
     have hpw:(⟨some d,g,.pick (.tmp t) x y⟩:SG).wanted S1=some true:=by
      rw[SG.wanted]
      cases g with
      |none=>rfl
      |some q=>
       obtain⟨t',want'⟩:=q;simp only[acQ]at hwant;split at hwant
       ·rename_i b' hb';simp only[Qm,Bool.not_eq_true']at hwant;have:S1.env t'= .bool b':=by rw[he t' (rH hwant.2)];simp only[aZ.st,hb',KV.pv]
        simp only[this];rw[Kg]at hwant;rw[hwant.1]
       ·cases hwant
     have hbt:S1.env t= .bool b:=by rw[he t htd];simp only[aZ.st,hb,KV.pv]
     have hst:xf (fun _=>none) nid S1 ⟨some d,g,.pick (.tmp t) x y⟩=some (S1.c6 (some d) (.bool v) none):=by
      rw[xf,hpw];have hbt':(bq.tmp t).val S1= .bool b:=hbt;simp only[exec,hbt']
      cases b with
      |true=>simp only[Qt]at hv;simp only[hv];rfl
      |false=>simp only[Qq,Qu]at hv;simp only[hv];rfl
     refine wpListIn_step fun KK hKK=> ?_
     refine yI Yq hpg h1 (show nid<S1.N by rw[hN1];show nid<S.N;omega) (hd p (by simp)) hst (fun a' w' L' h'=>hKK _ _ ?_)
     have h2:Rel E ((S.forget body.ky).c6 (some d) (.bool v) none).st a' w' L':=by
      refine h'.adr (by rw[Ia];exact hH.symm) (by rw[Ia];exact hN1.symm) fun t'=> ?_
      rw[Ia]
      by_cases htd':t'=d
      ·subst htd';left;rw[show(S1.c6 (some t') (.bool v) none).env t'= .bool v from cq _ _ _]
       exact cq _ _ _
      ·rw[St.ng _ _ _ (by simpa using fun e=>htd' e.symm),St.ng _ _ _ (by simpa using fun e=>htd' e.symm)]
       cases hmm:iT t' body.ky with
       |true=>right;simp only[aZ.st,aZ.forget,hmm,KV.pv]
       |false=>left;simp only[aZ.st,aZ.forget,hmm];exact(he t' (rH hmm)).symm
     refine qJ hΓ rs W (nid+(body.len+1)) _ k r lr l2 a' w' L' hokr hgs h2 (by show _<=S.N;omega) (fun o' ho'=>hd o' (by simp[ho'])) hr1 (fun S' a' w' L' hf h' hk'=>hk S' a' w' L' ?_ h' hk')
     refine Cs.trans (S':=(S.forget body.ky).c6 (some d) (.bool v) none) (D:=body.ky++[d]) ⟨fun t' ht'=> ?_,fun id _=>rfl,QI _,fun _=>rfl⟩ hf fun t' ht'=> ?_
     ·simp only[Qz,Q5,not_or]at ht';rw[ng _ _ _ _ (by simpa using fun e=>ht'.2 e.symm)]
      have:iT t' body.ky=false:=by
       cases hmm:iT t' body.ky with
       |true=>exact absurd (eW.1 hmm) ht'.1
       |false=>rfl
      simp only[aZ.forget,this]
     ·simp only[RS.ky,Qz,QA,not_or]at ht';exact⟨by simp[ht'.1,ht'.2.1],ht'.2.2⟩
    have body_run:∀(z:bq) (v:Bool),b=want->z.dP=true->z=(if b then x else y)->ly K Γ body none nid (S.c6 (some t) (.bool b) none) (fun S1=>Jl (z.cY S1))=some v->
      ly K Γ rs W (nid+(body.len+1)) ((S.forget body.ky).c6 (some d) (.bool v) none) k=some r->wpListIn (WF E.rd) 0 P ops Q (lb++p::(lr++l2)) a w:=by
     intro z v _ hz hzz Oi hrr;rw[DK hb]at Oi;refine qJ hΓ body none nid S _ v lb _ a w L hokb hmb h (by omega) (fun o' ho'=>hd o' (by simp[ho'])) Oi (fun S' a' w' L' hf h' hk'=> ?_)
     have hH:S'.H=S.H:=funext fun id=>hf.H id rfl
     have hNN:S'.N=S.N:=hf.Nn rfl;refine fin v S'.st a' w' L' (fun x' hx'=>by simp only[aZ.st,hf.env x' hx']) (by simp only[aZ.st,hH]) hNN h' ?_ hrr
     rw[<-hzz,yL hz,ae0 hk'];rfl
    have body_skip:∀(c:Bool),b= !want->(if b then x else y)= .yO (.bool c)->ly K Γ rs W (nid+(body.len+1)) ((S.forget body.ky).c6 (some d) (.bool c) none) k=some r->wpListIn (WF E.rd) 0 P ops Q (lb++p::(lr++l2)) a w:=by
     intro c hbw hc hrr;refine Gj lb _ [] S.st a w L hmb h (show 0<S.N by omega) (fun o' ho'=>hd o' (by simp[ho'])) hskip ?_ (by simp) (fun S' a' w' L' he hH hN' h'=> ?_)
     ·simp only[aZ.st,hb,KV.pv,hbw]
     ·refine fin c S' a' w' L' (fun x' hx'=>he x' fun hmem=>hx' (tj _ _ hmem)) hH hN' h' ?_ hrr
      rw[hc];rfl
    rw[QL,List.cons_append];split at hr
    ·split at hr
     ·rename_i c hc
      have hy:y= .yO (.bool c):=by
       unfold YQ at hc;split at hc
       ·injection hc with hc;rw[hc]
       ·cases hc
      rw[Qc]at hr;obtain⟨v,hv,hr⟩:=hr
      cases b with
      |true=>exact body_run x v rfl hokx (by simp) hv hr
      |false=>
       rw[Ql]at hv;injection hv with hv
       subst hv;exact body_skip c rfl (by simpa using hy) hr
     ·cases hr
    ·split at hr
     ·rename_i c hc
      have hx:x= .yO (.bool c):=by
       unfold YQ at hc;split at hc
       ·injection hc with hc;rw[hc]
       ·cases hc
      rw[Qc]at hr;obtain⟨v,hv,hr⟩:=hr
      cases b with
      |false=>exact body_run y v rfl hoky (by simp) hv hr
      |true=>
       rw[Qk]at hv;injection hv with hv
       subst hv;exact body_skip c rfl (by simpa using hx) hr
     ·cases hr
   ·cases hr
  ·cases hr
end
end
section
open Go.RowKit
def PV.wN(p:Nat->Bool):PV->Bool
 | .own id _| .ptr id _ _| .fg id _ _ _ _| .view id _ _ _ _=>p id
 | .agg _| .eo _| .bG _ _| .jN _ _=>false
 |_=>true
def PV.oy(p:Nat->Bool):PV->Bool
 | .agg cs| .eo cs| .bG _ cs| .jN _ cs=>cs.all (PV.wN p)
 |x=>x.wN p
section
variable {w : World}
theorem bm.wN{p:Nat->Bool}{M M':Nat->Prop}{G G':Gh}{x:PV}{v:Value}(hx:x.wN p=true)(hM:∀b,M' b->M b)(hp:∀id,p id=true->id<G'.N/\G'.V id=G.V id/\G'.L id=G.L id)(h:bm w M G x v):bm w M' G' x v:=by
 have hs:dW w w M M':=(dW.of fun _ hm=>fun h'=>hm (hM _ h'))
 cases h with
 |any=>exact .any _
 |undef=>exact .undef
 |int=>exact .int _ _
 |bool=>exact .bool _
 |gS=>exact .gS _
 |str=>exact .str _
 |lz=>exact .lz
 |et=>exact .et
 |bG=>simp[PV.wN]at hx
 |jN=>simp[PV.wN]at hx
 |agg=>simp[PV.wN]at hx
 |eo=>simp[PV.wN]at hx
 |ptr id av off a hN hVe h=>obtain⟨h1,h2,h3⟩:=hp id hx;exact .ptr _ _ _ _ h1 (by rw[h2];exact hVe) (fun e=>by rw[h3];exact h (by rw[e,h2]))
 |ref cs ad vs hl hcell h=>exact .ref cs ad vs hl (fun i u hu=>⟨(hcell i u hu).1,fun h'=>(hcell i u hu).2 (hM _ h')⟩) (fun i p u hp hu=>(h i p u hp hu).mono hs (Gh.le.refl _))
 |sl es ad c k vs hk hl hcell h hn hm=>exact .sl es ad c k vs hk hl (fun i u hu=>⟨(hcell i u hu).1,fun h'=>(hcell i u hu).2 (hM _ h')⟩) (fun i p u hp hu=>(h i p u hp hu).mono hs (Gh.le.refl _)) hn hm
 |slnil=>exact .slnil
 |own id av a n c hN hVe h=>obtain⟨h1,h2,h3⟩:=hp id hx;exact .own _ _ _ _ _ h1 (by rw[h2];exact hVe) (fun e=>by rw[h3];exact h (by rw[e,h2]))
 |fg id av k i off a hN hVe h=>obtain⟨h1,h2,h3⟩:=hp id hx;exact .fg _ _ _ _ _ _ h1 (by rw[h2];exact hVe) (fun e=>by rw[h3];exact h (by rw[e,h2]))
 |view id av k lo n a c hN hVe h=>obtain⟨h1,h2,h3⟩:=hp id hx;exact .view _ _ _ _ _ _ _ h1 (by rw[h2];exact hVe) (fun e=>by rw[h3];exact h (by rw[e,h2]))
 |jc ks us b es ck hb hMb hk hv g1 g2=>exact .jc ks us b es ck hb (fun h'=>hMb (hM _ h')) hk hv (fun i p e hp he=>(g1 i p e hp he).mono hs (Gh.le.refl _)) (fun i p e hp he=>(g2 i p e hp he).mono hs (Gh.le.refl _))
theorem bm.oy{p:Nat->Bool}{M M':Nat->Prop}{G G':Gh}{x:PV}{v:Value}(hx:x.oy p=true)(hM:∀b,M' b->M b)(hp:∀id,p id=true->id<G'.N/\G'.V id=G.V id/\G'.L id=G.L id)(h:bm w M G x v):bm w M' G' x v:=by
 have go:∀{cs:List PV} {vs:List Value},cs.all (PV.wN p)=true->bj w M G cs vs->bj w M' G' cs vs:=fun hc h=>⟨h.1,fun i y v hy hv=>(h.2 i y v hy hv).wN (QH.1 hc y (Q8 hy)) hM hp⟩
 cases x with
 |agg cs=>obtain⟨vs,rfl,hr⟩:=h.pd;have:=go (by simpa[PV.oy]using hx) hr;exact .agg _ _ this.1 this.2
 |eo cs=>obtain⟨vs,rfl,hr⟩:=h.Fi;have:=go (by simpa[PV.oy]using hx) hr;exact .eo _ _ this.1 this.2
 |bG f cs=>obtain⟨vs,rfl,hr⟩:=h.yP;have:=go (by simpa[PV.oy]using hx) hr;exact .bG _ _ _ this.1 this.2
 |jN f cs=>obtain⟨vs,rfl,hr⟩:=h.Rb;have:=go (by simpa[PV.oy]using hx) hr;exact .jN _ _ _ this.1 this.2
 |_=>exact h.wN (by simpa[PV.oy]using hx) hM hp
end
section
variable {U : TU}
def KV.wN(p:Nat->Bool):KV U->Bool
 | .own id _| .ptr id _ _| .fg id _ _ _ _| .view id _ _ _ _=>p id
 | .agg _| .eo _| .bG _ _| .jN _ _=>false
 |_=>true
def KV.oy(p:Nat->Bool):KV U->Bool
 | .agg cs| .eo cs| .bG _ cs| .jN _ cs=>cs.all (KV.wN p)
 |x=>x.wN p
theorem age(p:Nat->Bool)(x:KV U):x.pv.wN p=x.wN p:=by cases x<;>simp[KV.pv,PV.wN,KV.wN]
theorem CQ(p:Nat->Bool)(l:List (KV U)):(l.map KV.pv).all (PV.wN p)=l.all (KV.wN p):=by
 induction l with
 |nil=>rfl
 |cons x l ih=>simp only[QD,Qq70,age,ih]
theorem Ug(p:Nat->Bool)(x:KV U):x.pv.oy p=x.oy p:=by
 cases x with
 |agg cs=>simp only[KV.pv,PV.oy,KV.oy,KV.cr];exact CQ p cs
 |eo cs=>simp only[KV.pv,PV.oy,KV.oy,KV.cr];exact CQ p cs
 |bG f cs=>simp only[KV.pv,PV.oy,KV.oy,KV.cr];exact CQ p cs
 |jN f cs=>simp only[KV.pv,PV.oy,KV.oy,KV.cr];exact CQ p cs
 |_=>simp[KV.pv,PV.oy,KV.oy,PV.wN,KV.wN]
def er.oy(p:Nat->Bool):er U->Bool
 | .dead=>true
 | .box cs=>cs.all (KV.oy p)
 | .row _ _ _ _=>true
 | .raw _ _ es=>es.all fun c=>c.all (KV.oy p)
inductive It (U:TU) where
 |val (t:Nat) (T:U.Ty)
 |own (t id av e k:Nat) (T:U.Ty)
 |box (id av:Nat) (T:U.Ty) (m:List (Nat×Nat×Nat))
 |ec (id av e k:Nat) (T:U.Ty)
@[reducible] def It.den:It U->Type
 | .val _ T=>U.den T
 | .own _ _ _ _ _ T=>List (U.den T)
 | .box _ _ T _=>U.den T
 | .ec _ _ _ _ T=>List (U.den T)
@[reducible] def tx:List (It U)->Type
 |[]=>Unit
 |i::l=>i.den×tx l
def C8:List (Nat×Nat×Nat)->List (KV U)->List (KV U)
 |[],cs=>cs
 |(off,_,_)::m,cs=>C8 m (cs.set off .et)
def Dc:List (Nat×Nat×Nat)->List (KV U)->List (KV U)
 |[],cs=>cs
 |(off,id,av)::m,cs=>(Dc m cs).set off (.own id av)
def IN(S:aZ U)(cs:List (KV U)):List (Nat×Nat×Nat)->Bool
 |[]=>true
 |(off,id,_)::m=>(match cs[off]? with|some (.own i v)=>Nat.beq i id&&Nat.beq v (S.H id).av|_=>false)&&IN S cs m
theorem Nf(cs:List (KV U)):∀(m:List (Nat×Nat×Nat)),(Dc m cs).length=cs.length
 |[]=>rfl
 |(off,id,av)::m=>by rw[Dc,QY,Nf cs m]
theorem Gb:∀(m:List (Nat×Nat×Nat)) (cs:List (KV U)),(C8 m cs).length=cs.length
 |[],_=>rfl
 |(off,id,av)::m,cs=>by rw[C8,Gb m,QY]
theorem Ng(cs:List (KV U)){i:Nat}{y:KV U}:∀(m:List (Nat×Nat×Nat)),(Dc m cs)[i]?=some y->(∃id av,(i,id,av)∈m/\y= .own id av)\/((∀q∈m,q.1≠i)/\cs[i]?=some y)
 |[],h=> .inr ⟨by simp,h⟩
 |(off,id,av)::m,h=>by
  rw[Dc,List.getElem?_set]at h;split at h
  ·rename_i e;subst e;split at h
   ·injection h with h
    exact .inl ⟨id,av,Qx,h.symm⟩
   ·cases h
  ·rename_i e;rcases Ng cs m h with⟨a,b,h1,h2⟩|⟨h1,h2⟩
   ·exact .inl ⟨a,b,Qy _ h1,h2⟩
   ·refine .inr ⟨fun q hq=> ?_,h2⟩
    rcases QA.1 hq with rfl|hq
    ·exact e
    ·exact h1 q hq
theorem MP{i:Nat}:∀(m:List (Nat×Nat×Nat)) (cs:List (KV U)),(∀q∈m,q.1≠i)->(C8 m cs)[i]?=cs[i]?
 |[],_,_=>rfl
 |(off,id,av)::m,cs,h=>by
  rw[C8,MP m _ fun q hq=>h q (Qy _ hq),List.getElem?_set,Qs (h _ Qx)]
theorem NJ{S:aZ U}{cs:List (KV U)}{off id av:Nat}:∀{m:List (Nat×Nat×Nat)},IN S cs m=true->(off,id,av)∈m->cs[off]?=some (.own id (S.H id).av)
 |[],_,h=>by cases h
 |(o,i,v)::m,hm,h=>by
  rw[IN,Qm]at hm;rcases QA.1 h with e|h
  ·injection e with e1 e2
   injection e2 with e2 e3
   subst e1 e2 e3;have h1:=hm.1;split at h1
   ·rename_i i' v' hc;rw[Qm]at h1;rw[hc,QF h1.1,QF h1.2]
   ·cases h1
  ·exact NJ hm.2 h
variable (K : TK U)
def Xh(S:aZ U):(i:It U)->Option i.den
 | .val t T=>yZ K pC T (S.env t)
 | .own t id av e k T=>(match S.env t with
  | .own id' v=>(match Nat.beq id' id with
   |true=>(match S.row? id' v with
    |some r=>(match Nat.beq r.e e&&Nat.beq r.k k&&(Nat.blt 0 av||Nat.beq v 0)with|true=>Bq r.T T r.xs|false=>none)
    |none=>none)
   |false=>none)
  |_=>none)
 | .box id av T m=>(match S.uq id av with
  |some cs=>(match IN S cs m with|true=>K.dec T pC (C8 m cs)|false=>none)
  |none=>none)
 | .ec id av e k T=>(match(S.H id).c with
  | .row e' k' T' xs=>(match Nat.beq e' e&&Nat.beq k' k&&(Nat.blt 0 av||Nat.beq (S.H id).av 0)with|true=>Bq T' T xs|false=>none)
  |_=>none)
def pack(S:aZ U):(l:List (It U))->Option (tx l)
 |[]=>some ()
 |i::l=>(match Xh K S i with
  |some v=>(match pack S l with|some vs=>some (v,vs)|none=>none)
  |none=>none)
def wT(S:aZ U):(i:It U)->i.den->aZ U
 | .val t T,v=>{env:=iC S.env t (xY K T v),H:=S.H,N:=S.N}
 | .own t id av e k T,xs=>{env:=iC S.env t (.own id av),H:=iC S.H id ⟨av,.row e k T xs⟩,N:=S.N}
 | .box id av T m,v=>{env:=S.env,H:=iC S.H id ⟨av,.box (Dc m (K.eu T v))⟩,N:=S.N}
 | .ec id av e k T,xs=>{env:=S.env,H:=iC S.H id ⟨av,.row e k T xs⟩,N:=S.N}
def wc(S:aZ U):(l:List (It U))->tx l->aZ U
 |[],_=>S
 |i::l,v=>wT K (wc S l v.2) i v.1
structure JS (U:TU) where
 items:List (It U)
 fb:List Nat
def aZ.base(S:aZ U)(fb:List Nat):aZ U:=
 {env:=fun t=>(match iT t fb with|true=>S.env t|false=> .any),H:=fun id=>(match Nat.blt id S.N with|true=>S.H id|false=>⟨0,.dead⟩),N:=S.N}
def unpack(S:aZ U)(J:JS U)(v:tx J.items):aZ U:=wc K (S.base J.fb) J.items v
def It.aG:It U->Option Nat
 | .val t _| .own t _ _ _ _ _=>some t
 | .box _ _ _ _| .ec _ _ _ _ _=>none
def It.id:It U->Option Nat
 | .val _ _=>none
 | .own _ id _ _ _ _| .box id _ _ _| .ec id _ _ _ _=>some id
def It.okv:It U->Bool
 | .own _ _ _ _ _ _| .ec _ _ _ _ _=>true
 |_=>true
def It.row:It U->Option Nat
 | .own _ id av _ _ _| .ec id av _ _ _=>(match av with|0=>none|_+1=>some id)
 |_=>none
def It.isRow(id av:Nat):It U->Bool
 | .ec id' ver' _ _ _=>Nat.beq id' id&&Nat.beq ver' av
 |_=>false
def Oq(id av:Nat):List (It U)->Bool
 |[]=>false
 |i::l=>i.isRow id av||Oq id av l
def It.okm(l:List (It U)):It U->Bool
 | .box _ _ _ m=>m.all fun q=>Oq q.2.1 q.2.2 l
 |_=>true
theorem Oo{id av:Nat}:∀{l:List (It U)},Oq id av l=true->∃e k T,(It.ec id av e k T)∈l
 |[],h=>by cases h
 |i::l,h=>by
  rw[Oq,Qn]at h;rcases h with h|h
  ·cases i with
   |ec id' ver' e k T=>
    simp only[It.isRow,Qm]at h;rw[QF h.1,QF h.2];exact⟨e,k,T,Qx⟩
   |_=>cases h
  ·obtain⟨e,k,T,h⟩:=Oo h;exact⟨e,k,T,Qy _ h⟩
def fI:List (It U)->List Nat
 |[]=>[]
 |i::l=>(match i.id with|some id=>id::fI l|none=>fI l)
def rowsOf:List (It U)->List Nat
 |[]=>[]
 |i::l=>(match i.row with|some id=>id::rowsOf l|none=>rowsOf l)
def slotsOf:List (It U)->List Nat
 |[]=>[]
 |i::l=>(match i.aG with|some id=>id::slotsOf l|none=>slotsOf l)
def zo:List Nat->Bool
 |[]=>true
 |x::l=> !iT x l&&zo l
def OU:Nat->(Nat->Bool)->Bool
 |0,_=>true
 |n+1,p=>OU n p&&p n
theorem OT{p:Nat->Bool}:∀{n:Nat},OU n p=true->∀i,i<n->p i=true
 |0,_,i,hi=>absurd hi (Nat.not_lt_zero _)
 |n+1,h,i,hi=>by
  simp only[OU,Qm]at h
  by_cases e:i=n
  ·rw[e];exact h.2
  ·exact OT h.1 i (by omega)
def vB(S:aZ U)(J:JS U)(F:List Nat)(W:WS):Bool:=
 let ids:=fI J.items
 let rows:=rowsOf J.items
 let p:=fun id=>Nat.blt id S.N&& !iT id rows
 zo ids&&ids.all (fun id=>Nat.blt id S.N&&okW W id)&&(J.items.all It.okv&&J.items.all (It.okm J.items))&&J.fb.all (fun t=>(S.env t).oy p&& !iT t (slotsOf J.items))&&OU S.N (fun id=>iT id ids||(S.H id).c.oy p)
  &&F.all (fun t=>iT t J.fb)&&(match W with|some (n,_)=>Nat.ble n S.N|none=>false)
def zn:(l:List (It U))->tx l->List (Sigma (It.den (U:=U)))
 |[],_=>[]
 |i::l,v=>⟨i,v.1⟩::zn l v.2
variable {K}
theorem Nt{S:aZ U}:∀{l:List (It U)} {v:tx l},pack K S l=some v->∀p∈zn l v,Xh K S p.1=some p.2
 |[],v,h,p,hp=>by cases hp
 |i::l,v,h,p,hp=>by
  rw[pack]at h;split at h
  ·rename_i v1 h1;split at h
   ·rename_i vs h2;injection h with h
    subst h;rcases QA.1 hp with rfl|hp
    ·exact h1
    ·exact Nt h2 p hp
   ·cases h
  ·cases h
def kvI:(i:It U)->i.den->KV U
 | .val _ T,v=>xY K T v
 | .own _ id av _ _ _,_=> .own id av
 | .box _ _ _ _,_=> .any
 | .ec _ _ _ _ _,_=> .any
def Pq:(i:It U)->i.den->dt U
 | .val _ _,_=>⟨0,.dead⟩
 | .own _ _ av e k T,xs=>⟨av,.row e k T xs⟩
 | .box _ av T m,v=>⟨av,.box (Dc m (K.eu T v))⟩
 | .ec _ av e k T,xs=>⟨av,.row e k T xs⟩
theorem abG(S:aZ U)(i:It U)(v:i.den)(t:Nat):(i.aG=some t/\(wT K S i v).env t=kvI (K:=K) i v)\/(i.aG≠some t/\(wT K S i v).env t=S.env t):=by
 cases i with
 |val t' T=>
  by_cases e:t'=t
  ·subst e;left;exact⟨rfl,by simp only[wT,cW];exact cq _ _ _⟩
  ·right;exact⟨by simpa[It.aG]using e,by simp only[wT,cW];exact cP _ _ (fun h=>e h.symm)⟩
 |own t' id av ee k T=>
  by_cases e:t'=t
  ·subst e;left;exact⟨rfl,by simp only[wT,cW];exact cq _ _ _⟩
  ·right;exact⟨by simpa[It.aG]using e,by simp only[wT,cW];exact cP _ _ (fun h=>e h.symm)⟩
 |box id av T m=>right;exact⟨by simp[It.aG],rfl⟩
 |ec id av e k T=>right;exact⟨by simp[It.aG],rfl⟩
theorem T7(S:aZ U)(i:It U)(v:i.den)(id:Nat):(i.id=some id/\(wT K S i v).H id=Pq (K:=K) i v)\/(i.id≠some id/\(wT K S i v).H id=S.H id):=by
 cases i with
 |val t' T=>right;exact⟨by simp[It.id],rfl⟩
 |own t' id' av ee k T=>
  by_cases e:id'=id
  ·subst e;left;exact⟨rfl,by simp only[wT,cW];exact cq _ _ _⟩
  ·right;exact⟨by simpa[It.id]using e,by simp only[wT,cW];exact cP _ _ (fun h=>e h.symm)⟩
 |box id' av T m=>
  by_cases e:id'=id
  ·subst e;left;exact⟨rfl,by simp only[wT,cW];exact cq _ _ _⟩
  ·right;exact⟨by simpa[It.id]using e,by simp only[wT,cW];exact cP _ _ (fun h=>e h.symm)⟩
 |ec id' av ee k T=>
  by_cases e:id'=id
  ·subst e;left;exact⟨rfl,by simp only[wT,cW];exact cq _ _ _⟩
  ·right;exact⟨by simpa[It.id]using e,by simp only[wT,cW];exact cP _ _ (fun h=>e h.symm)⟩
theorem afW(S:aZ U)(i:It U)(v:i.den):(wT K S i v).N=S.N:=by cases i<;>rfl
theorem Fv(S:aZ U):∀(l:List (It U)) (v:tx l),(wc K S l v).N=S.N
 |[],_=>rfl
 |i::l,v=>by rw[wc,afW,Fv S l]
theorem wh{id:Nat}:∀{l:List (It U)} {i:It U},i∈l->i.id=some id->id∈fI l
 |j::l,i,hi,h=>by
  simp only[fI];rcases QA.1 hi with rfl|hi
  ·rw[h];exact Qx
  ·have:=wh hi h;split
   ·exact Qy _ this
   ·exact this
theorem LX{id:Nat}:∀{l:List (It U)} {i:It U},i∈l->i.row=some id->id∈rowsOf l
 |j::l,i,hi,h=>by
  simp only[rowsOf];rcases QA.1 hi with rfl|hi
  ·rw[h];exact Qx
  ·have:=LX hi h;split
   ·exact Qy _ this
   ·exact this
theorem El{id:Nat}:∀{l:List (It U)} {i:It U},i∈l->i.aG=some id->id∈slotsOf l
 |j::l,i,hi,h=>by
  simp only[slotsOf];rcases QA.1 hi with rfl|hi
  ·rw[h];exact Qx
  ·have:=El hi h;split
   ·exact Qy _ this
   ·exact this
theorem lI:∀{l:List (It U)} {v:tx l} {p:Sigma (It.den (U:=U))},p∈zn l v->p.1∈l
 |i::l,v,p,hp=>by
  rcases QA.1 hp with rfl|hp
  ·exact Qx
  ·exact Qy _ (lI hp)
theorem Uo:∀{l:List (It U)} {v:tx l} {i:It U},i∈l->∃d,(⟨i,d⟩:Sigma (It.den (U:=U)))∈zn l v
 |j::l,v,i,hi=>by
  rcases QA.1 hi with rfl|hi
  ·exact⟨v.1,Qx⟩
  ·obtain⟨d,hd⟩:=Uo (v:=v.2) hi;exact⟨d,Qy _ hd⟩
theorem By(S:aZ U):∀(l:List (It U)) (v:tx l) (t:Nat),(∃p∈zn l v,p.1.aG=some t/\(wc K S l v).env t=kvI (K:=K) p.1 p.2)\/(t∉slotsOf l/\(wc K S l v).env t=S.env t)
 |[],v,t=> .inr ⟨by simp[slotsOf],rfl⟩
 |i::l,v,t=>by
  rcases abG (K:=K) (wc K S l v.2) i v.1 t with⟨h1,h2⟩|⟨h1,h2⟩
  ·exact .inl ⟨⟨i,v.1⟩,Qx,h1,h2⟩
  ·rcases By S l v.2 t with⟨p,hp,h3,h4⟩|⟨h3,h4⟩
   ·exact .inl ⟨p,Qy _ hp,h3,h2.trans h4⟩
   ·refine .inr ⟨?_,h2.trans h4⟩;simp only[slotsOf];split
    ·rename_i s hs;simp only[QA,not_or];exact⟨fun e=>h1 (by rw[hs,e]),h3⟩
    ·exact h3
theorem Fw(S:aZ U):∀(l:List (It U)) (v:tx l) (id:Nat),zo (fI l)=true->(∃p∈zn l v,p.1.id=some id/\(wc K S l v).H id=Pq (K:=K) p.1 p.2)\/(id∉fI l/\(wc K S l v).H id=S.H id)
 |[],v,t,_=> .inr ⟨by simp[fI],rfl⟩
 |i::l,v,id,hn=>by
  have hn':zo (fI l)=true:=by
   simp only[fI]at hn;split at hn
   ·simp only[zo,Qm]at hn;exact hn.2
   ·exact hn
  rcases T7 (K:=K) (wc K S l v.2) i v.1 id with⟨h1,h2⟩|⟨h1,h2⟩
  ·exact .inl ⟨⟨i,v.1⟩,Qx,h1,h2⟩
  ·rcases Fw S l v.2 id hn' with⟨p,hp,h3,h4⟩|⟨h3,h4⟩
   ·exact .inl ⟨p,Qy _ hp,h3,h2.trans h4⟩
   ·refine .inr ⟨?_,h2.trans h4⟩;simp only[fI];split
    ·rename_i s hs;simp only[QA,not_or];exact⟨fun e=>h1 (by rw[hs,e]),h3⟩
    ·exact h3
theorem IA(S:aZ U):∀(l:List (It U)) (v:tx l),zo (fI l)=true->∀p∈zn l v,∀id,p.1.id=some id->(wc K S l v).H id=Pq (K:=K) p.1 p.2
 |[],v,_,p,hp=>by cases hp
 |i::l,v,hn,p,hp=>by
  intro id hid
  have hn':zo (fI l)=true:=by
   simp only[fI]at hn;split at hn
   ·simp only[zo,Qm]at hn;exact hn.2
   ·exact hn
  rcases QA.1 hp with rfl|hp
  ·rcases T7 (K:=K) (wc K S l v.2) i v.1 id with⟨h1,h2⟩|⟨h1,h2⟩
   ·exact h2
   ·exact absurd hid h1
  ·rcases T7 (K:=K) (wc K S l v.2) i v.1 id with⟨h1,h2⟩|⟨h1,h2⟩
   ·exfalso;simp only[fI,h1,zo,Qm,Bool.not_eq_true']at hn;exact rH hn.1 (wh (lI hp) hid)
   ·exact h2.trans (IA S l v.2 hn' p hp id hid)
theorem OQ(S:aZ U)(fb:List Nat):(S.base fb).N=S.N:=rfl
theorem Hj{S:aZ U}{fb:List Nat}{t:Nat}:(S.base fb).env t=if t∈fb then S.env t else .any:=by
 simp only[aZ.base];split
 ·rename_i h;rw[Qr (eW.1 h)]
 ·rename_i h;rw[Qs (rH h)]
theorem OR{S:aZ U}{fb:List Nat}{id:Nat}:(S.base fb).H id=if id<S.N then S.H id else⟨0,.dead⟩:=by
 simp only[aZ.base];split
 ·rename_i h;rw[Qr (show id<S.N from QG h)]
 ·rename_i h;rw[Qs];intro hlt;have:Nat.blt id S.N=true:=Nat.ble_eq_true_of_le hlt;rw[this]at h;cases h
theorem iM.rep{w:World}{M:Nat->Prop}{G:Gh}{xs:List (KV U)}{ys:List PV}(h:iM pC xs ys):∀{vs:List Value},bj w M G (xs.map KV.pv) vs->bj w M G ys vs:=by
 induction h with
 |nil=>intro vs h;exact h
 |cons hc _ ih=>
  intro vs h;obtain⟨v,vs',rfl,h1,h2⟩:=bj.cons_inv h;refine bj.cons ?_ (ih h2)
  cases hc with
  |et=>rw[KV.pv]at h1;rw[h1.rG];exact .slnil
  |own _ _ _ _ hn=>cases hn
  |_=>simpa[KV.pv]using h1
theorem nK.rep{w:World}{M:Nat->Prop}{G:Gh}{x:KV U}{y:PV}(hc:nK pC x y){v:Value}(h1:bm w M G x.pv v):bm w M G y v:=by
 cases hc with
 |et=>rw[KV.pv]at h1;rw[h1.rG];exact .slnil
 |own _ _ _ _ hn=>cases hn
 |_=>simpa[KV.pv]using h1
theorem iM.len{lk:Lk U}{xs:List (KV U)}{ys:List PV}(h:iM lk xs ys):xs.length=ys.length:=by
 induction h with
 |nil=>rfl
 |cons _ _ ih=>rw[QE,QE,ih]
theorem iM.get{lk:Lk U}{xs:List (KV U)}{ys:List PV}(h:iM lk xs ys):∀{i:Nat} {x:KV U} {y:PV},xs[i]?=some x->ys[i]?=some y->nK lk x y:=by
 induction h with
 |nil=>intro i x y h;simp at h
 |cons hc _ ih=>
  intro i x y hx hy
  cases i with
  |zero=>simp only[List.getElem?_cons_zero,Qf]at hx hy;subst hx hy;exact hc
  |succ i=>exact ih (by simpa using hx) (by simpa using hy)
theorem Zp{w:World}{M:Nat->Prop}{G:Gh}{T:U.Ty}{x:KV U}{d:U.den T}{v:Value}(h:yZ K pC T x=some d)(r:bm w M G x.pv v):bm w M G (dx T d) v:=by
 unfold yZ at h;unfold dx;split at h
 ·split at h
  ·rename_i cs;rw[KV.pv,KV.cr]at r;obtain⟨vs,rfl,hr⟩:=r.pd;have:=(K.nr _ _ _ _ h).rep hr;exact .agg _ _ this.1 this.2
  ·cases h
 ·rename_i ha;have hc:=K.nr _ _ _ _ h;have h1:bj w M G ([x].map KV.pv) [v]:= .cons r .nil;have h2:=hc.rep h1;generalize U.pv T d=ys at h2;obtain⟨hl,h2⟩:=h2
  cases ys with
  |nil=>simp at hl
  |cons y l=>exact h2 0 y v rfl rfl
theorem Rel.meet{S0 S1:aZ U}{J:JS U}{F:List Nat}{W:WS}(hchk:vB S0 J F W=true){v:tx J.items}(hp:pack K S1 J.items=some v)
  (hk:∀t∈J.fb,S1.env t=S0.env t) (hH:∀id,id<S0.N->id∉fI J.items->S1.H id=S0.H id) (hN:S0.N<=S1.N)
  {E:En} {a:Act} {w:World} {L:Nat->Value} (h:Rel E S1.st a w L):Rel E (unpack K S0 J v).st a w L:=by
 simp only[vB,Qm,QH]at hchk;obtain⟨⟨⟨⟨⟨⟨hnd,hids⟩,hokv,hokm⟩,hkeep⟩,hobj⟩,hF⟩,hW⟩:=hchk;have hpk:=Nt hp;have hN':(unpack K S0 J v).N=S0.N:=by rw[unpack,Fv,OQ]
 have hlt:∀id∈fI J.items,id<S0.N:=fun id hid=>QG (hids id hid).1
 have hHc:∀id,(∃p∈zn J.items v,p.1.id=some id/\(unpack K S0 J v).H id=Pq (K:=K) p.1 p.2)\/(id∉fI J.items/\(unpack K S0 J v).H id=if id<S0.N then S0.H id else⟨0,.dead⟩):=by
  intro id;rcases Fw (K:=K) (S0.base J.fb) J.items v id hnd with h1|⟨h1,h2⟩
  ·exact .inl h1
  ·exact .inr ⟨h1,h2.trans OR⟩
 have hrow:∀t id av e k T (xs:List (U.den T)),(⟨.own t id av e k T,xs⟩:Sigma (It.den (U:=U)))∈zn J.items v->S1.env t= .own id (S1.H id).av/\(S1.H id).c= .row e k T xs/\(av=0->(S1.H id).av=0):=by
  intro t id av e k T xs hmem;have:=hpk _ hmem;simp only[Xh]at this;split at this
  ·rename_i id' v' he;split at this
   ·rename_i hid;have hid:=QF hid;subst hid;split at this
    ·rename_i r hr;obtain⟨h1,h2⟩:=Ed hr;split at this
     ·rename_i hek;rw[Qm,Qm,Qn]at hek;obtain⟨re,rk,rT,rxs⟩:=r;obtain⟨eT,hxs⟩:=oN this;simp only at eT hxs h2 hek;subst eT;refine⟨by rw[he,h1],by rw[h2,hxs,QF hek.1.1,QF hek.1.2],fun hz=> ?_⟩
      rcases hek.2 with h9|h9
      ·rw[hz]at h9;cases h9
      ·rw[h1];exact QF h9
     ·cases this
    ·cases this
   ·cases this
  ·cases this
 have hbox:∀id av T m (d:U.den T),(⟨.box id av T m,d⟩:Sigma (It.den (U:=U)))∈zn J.items v->(S1.H id).av=av/\∃cs,(S1.H id).c= .box cs/\IN S1 cs m=true/\iM pC (C8 m cs) (U.pv T d):=by
  intro id av T m d hmem;have:=hpk _ hmem;simp only[Xh]at this;split at this
  ·rename_i cs hcs;obtain⟨h1,h2⟩:=BY hcs;split at this
   ·rename_i hmk;exact⟨h1,cs,h2,hmk,K.nr _ _ _ _ this⟩
   ·cases this
  ·cases this
 have hrowb:∀id av e k T (xs:List (U.den T)),(⟨.ec id av e k T,xs⟩:Sigma (It.den (U:=U)))∈zn J.items v->(S1.H id).c= .row e k T xs/\(av=0->(S1.H id).av=0):=by
  intro id av e k T xs hmem;have:=hpk _ hmem;simp only[Xh]at this;split at this
  ·rename_i e' k' T' ys hc;split at this
   ·rename_i hek;rw[Qm,Qm,Qn]at hek;obtain⟨eT,hxs⟩:=oN this;subst eT;refine⟨by rw[hc,hxs,QF hek.1.1,QF hek.1.2],fun hz=> ?_⟩
    rcases hek.2 with h9|h9
    ·rw[hz]at h9;cases h9
    ·exact QF h9
   ·cases this
  ·cases this
 have hlive:∀id,id<S0.N->((unpack K S0 J v).st.H id).c.live=true->(S1.st.H id).c.live=true:=by
  intro id hid hl;rcases hHc id with⟨⟨i,d⟩,hmem,h1,h2⟩|⟨h1,h2⟩
  ·cases i with
   |val t T=>cases h1
   |own t id' av e k T=>
    simp only[It.id,Qf]at h1;subst h1;have:=(hrow _ _ _ _ _ _ _ hmem).2.1;simp only[aZ.st,dt.pv,this,er.pv];rfl
   |box id' av T m=>
    simp only[It.id,Qf]at h1;subst h1;obtain⟨_,cs,h3,_,_⟩:=hbox _ _ _ _ _ hmem;simp only[aZ.st,dt.pv,h3,er.pv];rfl
   |ec id' av e k T=>
    simp only[It.id,Qf]at h1;subst h1;have:=(hrowb _ _ _ _ _ _ hmem).1;simp only[aZ.st,dt.pv,this,er.pv];rfl
  ·rw[Qr hid]at h2;simp only[aZ.st]at hl ⊢;rw[h2,<-hH id hid h1]at hl;exact hl
 have hM:∀b,bu E (unpack K S0 J v).st L b->bu E S1.st L b:=by
  rintro b (⟨id,hid,hl,hb⟩|hb)
  ·have hid':id<S0.N:=by simpa only[aZ.st,hN']using hid
   exact .inl ⟨id,QJ hid' hN,hlive id hid' hl,hb⟩
  ·exact .inr hb
 have hpok:∀id,(Nat.blt id S0.N&& !iT id (rowsOf J.items))=true->id<((unpack K S0 J v).st.gh L).N/\((unpack K S0 J v).st.gh L).V id=(S1.st.gh L).V id/\((unpack K S0 J v).st.gh L).L id=(S1.st.gh L).L id:=by
  intro id hid;simp only[Qm,Bool.not_eq_true']at hid;have hid1:id<S0.N:=QG hid.1;refine⟨by simpa only[St.gh,aZ.st,hN']using hid1,?_,rfl⟩
  simp only[St.gh,aZ.st,dt.pv];rcases hHc id with⟨⟨i,d⟩,hmem,h1,h2⟩|⟨h1,h2⟩
  ·cases i with
   |val t T=>cases h1
   |own t id' av e k T=>
    simp only[It.id,Qf]at h1;subst h1
    cases av with
    |zero=>
     rw[h2];exact((hrow _ _ _ _ _ _ _ hmem).2.2 rfl).symm
    |succ n=>exact absurd (LX (lI hmem) rfl) (rH hid.2)
   |box id' av T m=>
    simp only[It.id,Qf]at h1;subst h1;rw[h2];exact(hbox _ _ _ _ _ hmem).1.symm
   |ec id' av e k T=>
    simp only[It.id,Qf]at h1;subst h1
    cases av with
    |zero=>
     rw[h2];exact((hrowb _ _ _ _ _ _ hmem).2 rfl).symm
    |succ n=>exact absurd (LX (lI hmem) rfl) (rH hid.2)
  ·rw[Qr hid1]at h2;rw[h2,hH id hid1 h1]
 refine⟨h.defers,h.size,fun t=> ?_,fun id hid=> ?_,fun i j b hi hj hli hlj hbi hbj=> ?_,fun id hid=> ?_,h.fr,fun hb hlv hvr=> ?_⟩
 ·show bm _ _ _ (((unpack K S0 J v).env t).pv) _;rcases By (K:=K) (S0.base J.fb) J.items v t with⟨⟨i,d⟩,hmem,h1,h2⟩|⟨_,h2⟩
  ·rw[show(unpack K S0 J v).env t=_ from h2]
   cases i with
   |val t' T=>
    simp only[It.aG,Qf]at h1;subst h1;simp only[kvI,yG];have h3:=hpk _ hmem;simp only[Xh]at h3;have h4:=Zp h3 (h.env t')
    have hg:(dx T d).oy (fun _=>false)=true:=by
     have:=B3 K d;have h5:=Ht K d
     cases hv:dx T d with
     |agg cs=>
      simp only[PV.oy];refine QH.2 fun y hy=> ?_
      cases ha:U.agg T with
      |true=>
       rw[yF d ha]at hv;injection hv with hv
       rw[<-hv]at hy;have:=K.hU T d y hy;cases y<;>first|rfl|cases this
      |false=>obtain⟨y0,h6,h7⟩:=vV K d ha;have h8:=K.hU T d y0 h7;rw[<-h6,hv]at h8;cases h8
     |eo cs=>exact absurd hv (h5 cs)
     |bG f cs=>
      exfalso
      cases ha:U.agg T with
      |true=>rw[yF d ha]at hv;cases hv
      |false=>obtain⟨y,h6,h7⟩:=vV K d ha;have h8:=K.hU T d y h7;rw[<-h6,hv]at h8;cases h8
     |_=>rw[hv]at this;first|rfl|cases this
    exact h4.oy hg hM (fun id hid=>by cases hid)
   |own t' id av e k T=>
    simp only[It.aG,Qf]at h1;subst h1;obtain⟨h3,h4,_⟩:=hrow _ _ _ _ _ _ _ hmem;have h5:=h.env t';have h6:S1.st.env t'= .own id (S1.st.H id).av:=by simp only[aZ.st,h3,KV.pv,dt.pv]
    rw[h6]at h5;obtain⟨h7,h8⟩:=h5.nN (show(S1.st.gh L).V id=_ from rfl)
    have hidlt:=hlt id (wh (lI hmem) rfl);have h9:=IA (K:=K) (S0.base J.fb) J.items v hnd _ hmem id rfl;simp only[kvI,KV.pv]
    have hsl:∃ad n c,a.tmps.getD t' undef= .slice ad n c:=by
     generalize a.tmps.getD t' undef=vv at h5
     cases h5 with
     |own _ _ ad n c _ _ _=>exact⟨ad,n,c,rfl⟩
    obtain⟨ad,n,c,hv⟩:=hsl;rw[hv]at h8 ⊢;refine .own _ _ _ _ _ (by simpa only[St.gh,aZ.st,hN']using hidlt) ?_ (fun _=>h8)
    simp only[St.gh,aZ.st,dt.pv,show(unpack K S0 J v).H id=_ from h9,Pq]
    exact QI _
   |box id av T m=>cases h1
   |ec id av e k T=>cases h1
  ·rw[show(unpack K S0 J v).env t=_ from h2,Hj]
   split
   ·rename_i ht;have h3:=(hkeep t ht).1;rw[<-Ug]at h3;refine bm.oy h3 hM hpok ?_;have:=h.env t;simp only[aZ.st,hk t ht]at this;exact this
   ·exact .any _
 ·have hid':id<S0.N:=by simpa only[aZ.st,hN']using hid
  show xR _ _ _ _ _ (((unpack K S0 J v).H id).c.pv);rcases hHc id with⟨⟨i,d⟩,hmem,h1,h2⟩|⟨h1,h2⟩
  ·rw[h2]
   cases i with
   |val t T=>cases h1
   |own t id' av e k T=>
    simp only[It.id,Qf]at h1;subst h1;have h3:=(hrow _ _ _ _ _ _ _ hmem).2.1;have h4:(S1.st.H id').c= .row e k (d.map (U.pv T)):=by simp only[aZ.st,dt.pv,h3,er.pv]
    obtain⟨vs,h5,h6,h7⟩:=h.k8 (QJ hid' hN) h4;refine⟨vs,h5,h6,bj.closed ?_ hM h7⟩;refine QH.2 fun y hy=> ?_
    obtain⟨u,hu,hyu⟩:=List.mem_flatten.1 hy;obtain⟨x,_,rfl⟩:=QP.1 hu;exact gU (K.hU T x y hyu)
   |box id' av T m=>
    simp only[It.id,Qf]at h1;subst h1;obtain⟨_,cs,h3,hmk,hcs⟩:=hbox _ _ _ _ _ hmem;have h4:(S1.st.H id').c= .box (cs.map KV.pv):=by simp only[aZ.st,dt.pv,h3,er.pv]
    obtain⟨b,cur,T',h5,h6,h7,h8⟩:=h.tQ (QJ hid' hN) h4;refine⟨b,cur,T',h5,h6,h8,?_,fun i y u hy hu=> ?_⟩
    ·have e1:=congrArg List.length (K.sz T d);rw[QC]at e1;rw[QC,Nf,e1,<-hcs.len,Gb,h7.1,QC]
    ·rw[QT,Qb]at hy;obtain⟨z,hz,rfl⟩:=hy;rcases Ng _ m hz with⟨rid,rver,hmm,rfl⟩|⟨hnm,hz⟩
     ·have hci:=NJ hmk hmm;have h9:=h7.2 i _ u (by rw[QT,hci];rfl) hu
      rw[KV.pv]at h9;obtain⟨h10,h11⟩:=h9.nN (show(S1.st.gh L).V rid=_ from rfl)
      have hmi:(It.box id' av T m)∈J.items:=lI hmem;obtain⟨e,k,T2,hrm⟩:=Oo (QH.1 (hokm _ hmi) _ hmm);have hridlt:=hlt rid (wh hrm rfl)
      have hsl:∃ad n c,u= .slice ad n c:=by
       cases h9 with
       |own _ _ ad n c _ _ _=>exact⟨ad,n,c,rfl⟩
      obtain⟨ad,n,c,hv⟩:=hsl;rw[hv]at h11 ⊢;rw[KV.pv];refine .own _ _ _ _ _ (by simpa only[St.gh,aZ.st,hN']using hridlt) ?_ (fun _=>h11)
      obtain⟨d2,hd2⟩:=Uo (v:=v) hrm;have h12:=IA (K:=K) (S0.base J.fb) J.items v hnd _ hd2 rid rfl;simp only[St.gh,aZ.st,dt.pv,show(unpack K S0 J v).H rid=_ from h12,Pq]
      exact QI _
     ·have hzp:(U.pv T d)[i]?=some z.pv:=by rw[<-K.sz,QT,hz];rfl
      have hil:i<cs.length:=by
       have:=(Qw.1 hzp).1;rw[<-hcs.len,Gb]at this;exact this
      have hci:cs[i]?=some cs[i]:=Qv hil;have hck:=hcs.get (by rw[MP m cs hnm];exact hci) hzp
      have h9:=h7.2 i _ u (by rw[QT,hci];rfl) hu
      exact(hck.rep h9).closed (gU (K.hU T d _ (Q8 hzp))) hM
   |ec id' av e k T=>
    simp only[It.id,Qf]at h1;subst h1;have h3:=(hrowb _ _ _ _ _ _ hmem).1;have h4:(S1.st.H id').c= .row e k (d.map (U.pv T)):=by simp only[aZ.st,dt.pv,h3,er.pv]
    obtain⟨vs,h5,h6,h7⟩:=h.k8 (QJ hid' hN) h4;refine⟨vs,h5,h6,bj.closed ?_ hM h7⟩;refine QH.2 fun y hy=> ?_
    obtain⟨u,hu,hyu⟩:=List.mem_flatten.1 hy;obtain⟨x,_,rfl⟩:=QP.1 hu;exact gU (K.hU T x y hyu)
  ·rw[h2,Qr hid',<-hH id hid' h1];have ho:=h.obj id (QJ hid' hN);have hc:=OT hobj id hid';rw[Qn]at hc;have hc:=hc.resolve_left (fun e=>h1 (eW.1 e))
   rw[<-hH id hid' h1]at hc
   change xR _ _ _ _ _ ((S1.H id).c.pv)at ho
   cases hcc:(S1.H id).c with
   |dead=>trivial
   |box cs=>
    rw[hcc]at ho hc;obtain⟨b,cur,T',h5,h6,h7,h8⟩:=ho;refine⟨b,cur,T',h5,h6,h7,h8.1,fun i y u hy hu=> ?_⟩
    simp only[er.oy,QH]at hc;rw[QT,Qb]at hy;obtain⟨z,hz,rfl⟩:=hy;refine bm.oy (by rw[Ug];exact hc z (Q8 hz)) hM hpok (h8.2 i z.pv u (by rw[QT,hz];rfl) hu)
   |raw e k es=>
    rw[hcc]at ho hc;obtain⟨vs,h5,h6,h7⟩:=ho;refine⟨vs,h5,h6,h7.1,fun i y u hy hu=> ?_⟩
    simp only[er.oy,QH]at hc;obtain⟨l,hl,hyl⟩:=List.mem_flatten.1 (Q8 hy);obtain⟨c,hcm,rfl⟩:=QP.1 hl;obtain⟨z,hz,rfl⟩:=QP.1 hyl;exact bm.oy (by rw[Ug];exact hc c hcm z hz) hM hpok (h7.2 i _ u hy hu)
   |row e k T xs=>
    rw[hcc]at ho;obtain⟨vs,h5,h6,h7⟩:=ho;refine⟨vs,h5,h6,bj.closed ?_ hM h7⟩;refine QH.2 fun y hy=> ?_
    obtain⟨u,hu,hyu⟩:=List.mem_flatten.1 hy;obtain⟨x,_,rfl⟩:=QP.1 hu;exact gU (K.hU T x y hyu)
 ·have hi':i<S0.N:=by simpa only[aZ.st,hN']using hi
  have hj':j<S0.N:=by simpa only[aZ.st,hN']using hj
  exact h.apart i j b (QJ hi' hN) (QJ hj' hN) (hlive i hi' hli) (hlive j hj' hlj) hbi hbj
 ·have hid':S0.N<=id:=by simpa only[aZ.st,hN']using hid
  rcases hHc id with⟨⟨i,d⟩,hmem,h1,h2⟩|⟨h1,h2⟩
  ·have:=hlt id (wh (lI hmem) h1);omega
  ·rw[Qs (by omega)]at h2
   simp only[aZ.st,h2,dt.pv,er.pv]
 ·by_cases h0:0<S0.N
  ·refine h.De hb (hlive 0 h0 hlv) ?_;simp only[aZ.st,dt.pv]at hvr ⊢;rcases hHc 0 with⟨⟨i,d⟩,hmem,h1,h2⟩|⟨h1,h2⟩
   ·rw[h2]at hvr
    cases i with
    |val t T=>cases h1
    |own t id' av e k T=>
     simp only[It.id,Qf]at h1;subst h1;exact(hrow _ _ _ _ _ _ _ hmem).2.2 hvr
    |box id' av T m=>
     simp only[It.id,Qf]at h1;subst h1;rw[(hbox _ _ _ _ _ hmem).1];exact hvr
    |ec id' av e k T=>
     simp only[It.id,Qf]at h1;subst h1;exact(hrowb _ _ _ _ _ _ hmem).2 hvr
   ·rw[Qr h0]at h2;rw[hH 0 h0 h1,<-h2];exact hvr
  ·rcases hHc 0 with⟨⟨i,d⟩,hmem,h1,h2⟩|⟨h1,h2⟩
   ·exact absurd (hlt 0 (wh (lI hmem) h1)) h0
   ·rw[Qs h0]at h2;simp only[aZ.st,dt.pv,h2,er.pv]at hlv;cases hlv
end
end
end Go.TQ
end
