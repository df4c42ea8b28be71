/-
  Texts made small by a program (see NOTES). Conditions: those that each theorem names.
-/
import Derived.Test.YtjbfdglebjnelaaGreatSlotKeepsMa
import Derived.RangeFuncRecord
set_option linter.unusedVariables false
set_option linter.unusedSimpArgs false
set_option linter.unusedSectionVars false
set_option maxHeartbeats 2000000
noncomputable section
namespace Go.TQ
open Go.RowKit
def aK(P:Program)(nt:Nat)(hs:List Nat):Code->Option SC
 | .skip=>some .skip
 | .region _ ops false=>
  match ops.toList.mapM (uI P hs ops)with
  |some gs=>if ops.toList.all (fun o=>match o.dst with|some t=>decide (t<nt)|none=>true)then some (.uC gs)else none
  |none=>none
 | .region _ ops true=>
  match ops.toList.mapM (uI P hs ops)with
  |some gs=>
   if ops.toList.all (fun o=>match o.dst with|some t=>decide (t<nt)|none=>true)&&P.follows .mixedOrders then
    match aaf ops.toList gs with
    |some un=>some (.sC un gs)
    |none=>none
   else none
  |none=>none
 | .seq x y=>
  match aK P nt hs x,aK P nt hs y with
  |some x',some y'=>some (.seq x' y')
  |_,_=>none
 | .cond c x y=>
  match bw c,aK P nt hs x,aK P nt hs y with
  |some c',some x',some y'=>some (.cond c' x' y')
  |_,_,_=>none
 | .block id c=>(aK P nt hs c).map (.block id)
 | .loop c=>(aK P nt hs c).map .loop
 | .exit id=>some (.exit id)
 | .ret=>some .ret
 | .rangeFunc g ps x y=>
  match bw g,aK P nt hs x,aK P nt hs y with
  |some g',some x',some y'=>if Am x&&Am y&&ps.toList.all (fun t=>decide (t<nt))then some (.Ec g' ps.toList x' y')else none
  |_,_,_=>none
 |_=>none
section
variable {P : Program} {S : St} {Γ : nM} {nt : Nat} {Q : Exit -> St -> Prop}
def VS(P:Program)(nt:Nat)(sc:SC)(Q:Exit->St->Prop)(S:St):Prop:=∀c hs,aK P nt hs c=some sc->V P nt c Q S
theorem VS.mono{sc:SC}{Q':Exit->St->Prop}(h:VS P nt sc Q S)(hq:∀e S,Q e S->Q' e S):VS P nt sc Q' S:=fun c hs hc=>(h c hs hc).mono hq
theorem O5{ops:Array Oper}(h:ops.toList.all (fun o=>match o.dst with|some t=>decide (t<nt)|none=>true)=true):∀o∈ops.toList,∀t,o.dst=some t->t<nt:=by
 intro o ho t ht;have:=QH.1 h o ho;rw[ht]at this;simpa using this
theorem YY(h:Q .normal S):VS P nt .skip Q S:=by
 intro c hs hc
 cases c with
 |skip=>exact ahk h
 |region id ops d=>cases d<;>simp only[aK]at hc<;>(try split at hc)<;>(try split at hc)<;>(try split at hc)<;>cases hc
 |seq x y=>simp only[aK]at hc;split at hc<;>cases hc
 |cond c x y=>simp only[aK]at hc;split at hc<;>cases hc
 |block id c=>simp only[aK,Qb]at hc;obtain⟨_,_,hc⟩:=hc;cases hc
 |loop c=>simp only[aK,Qb]at hc;obtain⟨_,_,hc⟩:=hc;cases hc
 |rangeFunc g ps x y=>simp only[aK]at hc;split at hc<;>(try split at hc)<;>cases hc
 |_=>simp only[aK]at hc<;>cases hc
theorem YZ{id:Nat}(h:Q (.exit id) S):VS P nt (.exit id) Q S:=by
 intro c hs hc
 cases c with
 |exit j=>simp only[aK,Qf,SC.exit.injEq]at hc;subst hc;exact ahm h
 |region id ops d=>cases d<;>simp only[aK]at hc<;>(try split at hc)<;>(try split at hc)<;>(try split at hc)<;>cases hc
 |seq x y=>simp only[aK]at hc;split at hc<;>cases hc
 |cond c x y=>simp only[aK]at hc;split at hc<;>cases hc
 |block id c=>simp only[aK,Qb]at hc;obtain⟨_,_,hc⟩:=hc;cases hc
 |loop c=>simp only[aK,Qb]at hc;obtain⟨_,_,hc⟩:=hc;cases hc
 |rangeFunc g ps x y=>simp only[aK]at hc;split at hc<;>(try split at hc)<;>cases hc
 |_=>simp only[aK]at hc<;>cases hc
theorem acb(h:Q .ret S):VS P nt .ret Q S:=by
 intro c hs hc
 cases c with
 |ret=>exact aip h
 |region id ops d=>cases d<;>simp only[aK]at hc<;>(try split at hc)<;>(try split at hc)<;>(try split at hc)<;>cases hc
 |seq x y=>simp only[aK]at hc;split at hc<;>cases hc
 |cond c x y=>simp only[aK]at hc;split at hc<;>cases hc
 |block id c=>simp only[aK,Qb]at hc;obtain⟨_,_,hc⟩:=hc;cases hc
 |loop c=>simp only[aK,Qb]at hc;obtain⟨_,_,hc⟩:=hc;cases hc
 |rangeFunc g ps x y=>simp only[aK]at hc;split at hc<;>(try split at hc)<;>cases hc
 |_=>simp only[aK]at hc<;>cases hc
theorem Xb{x y:SC}(h:VS P nt x (PH (VS P nt y Q) Q) S):VS P nt (.seq x y) Q S:=by
 intro c hs hc
 cases c with
 |seq p q=>
  simp only[aK]at hc;split at hc
  ·rename_i x' y' hx hy;injection hc with hc
   injection hc with h1 h2
   subst h1 h2;refine aio ((h p hs hx).mono ?_);intro e S' hq;cases e<;>first|exact hq q hs hy|exact hq
  ·cases hc
 |region id ops d=>cases d<;>simp only[aK]at hc<;>(try split at hc)<;>(try split at hc)<;>(try split at hc)<;>cases hc
 |cond c x y=>simp only[aK]at hc;split at hc<;>cases hc
 |block id c=>simp only[aK,Qb]at hc;obtain⟨_,_,hc⟩:=hc;cases hc
 |loop c=>simp only[aK,Qb]at hc;obtain⟨_,_,hc⟩:=hc;cases hc
 |rangeFunc g ps x y=>simp only[aK]at hc;split at hc<;>(try split at hc)<;>cases hc
 |_=>simp only[aK]at hc<;>cases hc
theorem Y0{c:bm}{x y:SC}{b:Bool}(hb:c.val S= .bool b)(h:VS P nt (if b then x else y) Q S):VS P nt (.cond c x y) Q S:=by
 intro cc hs hc
 cases cc with
 |cond c0 p q=>
  simp only[aK]at hc;split at hc
  ·rename_i c' x' y' hc' hx hy;injection hc with hc
   injection hc with h1 h2 h3
   subst h1 h2 h3;refine ahn hc' hb ?_;cases b
   ·exact h q hs hy
   ·exact h p hs hx
  ·cases hc
 |region id ops d=>cases d<;>simp only[aK]at hc<;>(try split at hc)<;>(try split at hc)<;>(try split at hc)<;>cases hc
 |seq x y=>simp only[aK]at hc;split at hc<;>cases hc
 |block id c=>simp only[aK,Qb]at hc;obtain⟨_,_,hc⟩:=hc;cases hc
 |loop c=>simp only[aK,Qb]at hc;obtain⟨_,_,hc⟩:=hc;cases hc
 |rangeFunc g ps x y=>simp only[aK]at hc;split at hc<;>(try split at hc)<;>cases hc
 |_=>simp only[aK]at hc<;>cases hc
theorem Xd{c:bm}{x y:SC}(hb:c.val S= .fY)(h1:VS P nt x Q S)(h2:VS P nt y Q S):VS P nt (.cond c x y) Q S:=by
 intro cc hs hc
 cases cc with
 |cond c0 p q=>
  simp only[aK]at hc;split at hc
  ·rename_i c' x' y' hc' hx hy;injection hc with hc
   injection hc with e1 e2 e3
   subst e1 e2 e3;intro E hE hk a w L hr;have hv:=hr.gW hc';rw[hb]at hv;generalize hu:a.eval c0=u at hv
   cases hv with
   |fY b=>
    refine wpIn_cond hu ?_;cases b
    ·exact h2 q hs hy E hE hk.aej a w L hr
    ·exact h1 p hs hx E hE hk.aek a w L hr
  ·cases hc
 |region id ops d=>cases d<;>simp only[aK]at hc<;>(try split at hc)<;>(try split at hc)<;>(try split at hc)<;>cases hc
 |seq x y=>simp only[aK]at hc;split at hc<;>cases hc
 |block id c=>simp only[aK,Qb]at hc;obtain⟨_,_,hc⟩:=hc;cases hc
 |loop c=>simp only[aK,Qb]at hc;obtain⟨_,_,hc⟩:=hc;cases hc
 |rangeFunc g ps x y=>simp only[aK]at hc;split at hc<;>(try split at hc)<;>cases hc
 |_=>simp only[aK]at hc<;>cases hc
theorem Xe{id:Nat}{x:SC}(h:VS P nt x (EI id Q) S):VS P nt (.block id x) Q S:=by
 intro c hs hc
 cases c with
 |block j p=>
  simp only[aK,Qb]at hc;obtain⟨x',hx,hc⟩:=hc;injection hc with h1 h2
  subst h1 h2;exact af9 (h p hs hx)
 |region id ops d=>cases d<;>simp only[aK]at hc<;>(try split at hc)<;>(try split at hc)<;>(try split at hc)<;>cases hc
 |seq x y=>simp only[aK]at hc;split at hc<;>cases hc
 |cond c x y=>simp only[aK]at hc;split at hc<;>cases hc
 |loop c=>simp only[aK,Qb]at hc;obtain⟨_,_,hc⟩:=hc;cases hc
 |rangeFunc g ps x y=>simp only[aK]at hc;split at hc<;>(try split at hc)<;>cases hc
 |_=>simp only[aK]at hc<;>cases hc
theorem ajB{x:SC}(ts:List Nat)(n:Nat)(I:Nat->St->Prop)(m0:Nat)(hok:C7 S ts n)(h0:I m0 (S.cut ts n))
  (hr:∀m S,I m S->S.N=n->(∀id,n<=id->S.H id=⟨0,.dead⟩)->(∀id,id<n->(S.H id).c.under n=true)->VS P nt x (ZO ts n I m Q) S):VS P nt (.loop x) Q S:=by
 intro c hs hc
 cases c with
 |loop p=>
  simp only[aK,Qb]at hc;obtain⟨x',hx,hc⟩:=hc;injection hc with h1
  subst h1;exact ahl ts n I m0 hok h0 (fun m S hI hN hf hU=>hr m S hI hN hf hU p hs hx)
 |region id ops d=>cases d<;>simp only[aK]at hc<;>(try split at hc)<;>(try split at hc)<;>(try split at hc)<;>cases hc
 |seq x y=>simp only[aK]at hc;split at hc<;>cases hc
 |cond c x y=>simp only[aK]at hc;split at hc<;>cases hc
 |block id c=>simp only[aK,Qb]at hc;obtain⟨_,_,hc⟩:=hc;cases hc
 |rangeFunc g ps x y=>simp only[aK]at hc;split at hc<;>(try split at hc)<;>cases hc
 |_=>simp only[aK]at hc<;>cases hc
theorem ahp(hΓ:kD P Γ){gs:List SG}{S':St}(hr:xf Γ S.N gs {S with N:=S.N+gs.length}=some S')(h:Q .normal S'):VS P nt (.uC gs) Q S:=by
 intro c hs hc
 cases c with
 |region id ops d=>
  cases d with
  |true=>simp only[aK]at hc;(try split at hc)<;>(try split at hc)<;>(try split at hc)<;>cases hc
  |false=>
   simp only[aK]at hc;split at hc
   ·rename_i gs' hgs;split at hc
    ·rename_i hd;injection hc with hc
     injection hc with hc
     subst hc;exact aiq hΓ hgs (O5 hd) hr h
    ·cases hc
   ·cases hc
 |seq x y=>simp only[aK]at hc;split at hc<;>cases hc
 |cond c x y=>simp only[aK]at hc;split at hc<;>cases hc
 |block id c=>simp only[aK,Qb]at hc;obtain⟨_,_,hc⟩:=hc;cases hc
 |loop c=>simp only[aK,Qb]at hc;obtain⟨_,_,hc⟩:=hc;cases hc
 |rangeFunc g ps x y=>simp only[aK]at hc;split at hc<;>(try split at hc)<;>cases hc
 |_=>simp only[aK]at hc<;>cases hc
theorem acd{Γs:Nat->nM}(hΓ:∀i,kD P (Γs i)){un:List (Nat×Nat)}{gs:List SG}{S':St}(hr:Rj Γs S.N un gs {S with N:=S.N+gs.length}=some S')(h:Q .normal S'):VS P nt (.sC un gs) Q S:=by
 intro c hs hc
 cases c with
 |region id ops d=>
  cases d with
  |false=>simp only[aK]at hc;(try split at hc)<;>(try split at hc)<;>(try split at hc)<;>cases hc
  |true=>
   simp only[aK]at hc;split at hc
   ·rename_i gs' hgs;split at hc
    ·rename_i hd;split at hc
     ·rename_i un' hun;injection hc with hc
      injection hc with h1 h2
      subst h1 h2;rw[Qm]at hd;exact air hΓ hd.2 hgs (O5 hd.1) hun hr h
     ·cases hc
    ·cases hc
   ·cases hc
 |seq x y=>simp only[aK]at hc;split at hc<;>cases hc
 |cond c x y=>simp only[aK]at hc;split at hc<;>cases hc
 |block id c=>simp only[aK,Qb]at hc;obtain⟨_,_,hc⟩:=hc;cases hc
 |loop c=>simp only[aK,Qb]at hc;obtain⟨_,_,hc⟩:=hc;cases hc
 |rangeFunc g ps x y=>simp only[aK]at hc;split at hc<;>(try split at hc)<;>cases hc
 |_=>simp only[aK]at hc<;>cases hc
theorem ajI{sc:SC}(ts:List Nat)(n:Nat)(hok:C7 S ts n)(h:VS P nt sc Q (S.cut ts n)):VS P nt sc Q S:=fun c hs hc=>ais ts n hok (h c hs hc)
def ev(P:Program)(nt:Nat)(Γ:nM):SC->(Exit->St->Prop)->St->Prop
 | .skip,Q,S=>Q .normal S
 | .uC gs,Q,S=>match xf Γ S.N gs {S with N:=S.N+gs.length}with|some S'=>Q .normal S'|none=>False
 | .sC un gs,Q,S=>match Rj (fun _=>Γ) S.N un gs {S with N:=S.N+gs.length}with|some S'=>Q .normal S'|none=>False
 | .seq x y,Q,S=>ev P nt Γ x (PH (ev P nt Γ y Q) Q) S
 | .cond c x y,Q,S=>match c.val S with| .bool b=>(b=true->ev P nt Γ x Q S)/\(b=false->ev P nt Γ y Q S)| .fY=>ev P nt Γ x Q S/\ev P nt Γ y Q S|_=>False
 | .block id c,Q,S=>ev P nt Γ c (EI id Q) S
 | .loop c,Q,S=>VS P nt (.loop c) Q S
 | .Ec g ps x y,Q,S=>VS P nt (.Ec g ps x y) Q S
 | .exit id,Q,S=>Q (.exit id) S
 | .ret,Q,S=>Q .ret S
theorem wx(hΓ:kD P Γ):∀(sc:SC) (Q:Exit->St->Prop) (S:St),ev P nt Γ sc Q S->VS P nt sc Q S
 | .skip,Q,S,h=>YY h
 | .uC gs,Q,S,h=>by
  simp only[ev]at h;split at h
  ·rename_i S' hr;exact ahp hΓ hr h
  ·exact h.elim
 | .sC un gs,Q,S,h=>by
  simp only[ev]at h;split at h
  ·rename_i S' hr;exact acd (fun _=>hΓ) hr h
  ·exact h.elim
 | .seq x y,Q,S,h=>Xb ((wx hΓ x _ S h).mono fun e S' hq=>by cases e<;>first|exact wx hΓ y Q S' hq|exact hq)
 | .cond c x y,Q,S,h=>by
  simp only[ev]at h;split at h
  ·rename_i b hb;refine Y0 hb ?_;cases b
   ·exact wx hΓ y Q S (h.2 rfl)
   ·exact wx hΓ x Q S (h.1 rfl)
  ·rename_i hb;exact Xd hb (wx hΓ x Q S h.1) (wx hΓ y Q S h.2)
  ·exact h.elim
 | .block id c,Q,S,h=>Xe (wx hΓ c _ S h)
 | .loop c,Q,S,h=>h
 | .Ec g ps x y,Q,S,h=>h
 | .exit id,Q,S,h=>YZ h
 | .ret,Q,S,h=>acb h
inductive RV where
 |tmp (t:Nat)
 |cell (t:Nat) (n:Option Nat)
def oo(P:Program):List ResultVar->Option (List RV)
 |[]=>some []
 | .tmp t::rs=>(oo P rs).map (.tmp t::·)
 | .cell t ty::rs=>match so P ty,oo P rs with
  |some n,some rs'=>some (.cell t n::rs')
  |_,_=>none
def BA(S:St):RV->Option PV
 | .tmp t=>some (S.env t)
 | .cell t n=>match S.env t with
  | .ptr id ar off=>if(S.H id).ar=ar then(match(S.H id).c with| .box cs=>sy n (cs.drop off)|_=>none)else none
  |_=>none
def vZ(S:St):List RV->Option (List PV)
 |[]=>some []
 |r::rs=>match BA S r,vZ S rs with
  |some x,some xs=>some (x::xs)
  |_,_=>none
def sw(S:St)(rs:List RV):Option PV:=
 match vZ S rs with
 |some [x]=>some x
 |some xs=>some (.dP xs)
 |none=>none
def dJ(pos:Nat)(recv:Bool)(cs args:List PV):St:=
 {env:=fun t=>((ik pos (if recv then[.ptr 0 0 0]else[]) args)[t]?).getD .undef,H:=fun id=>if recv=true/\id=0 then⟨0,.box cs⟩else⟨0,.dead⟩,N:=if recv then 1 else 0}
abbrev St0:=dJ 0
theorem Wc{α:Type}(p:Nat)(x l:List α):(ik p x l).length=x.length+l.length:=by
 simp only[ik,QB,List.length_take,List.length_drop];omega
def AV(rs:List RV)(recv:Bool)(R:PV->List PV->Prop)(S:St):Prop:=
 match sw S rs with
 |some x=>match recv with
  |true=>match S.H 0 with
   |⟨0,.box cs'⟩=>cs'.all PV.closed=true/\R (fz S.H (some 0) 9 x) cs'
   |_=>False
  |false=>R (fz S.H none 9 x) []
 |none=>False
def acv(rs:List RV)(recv:Bool)(R:PV->List PV->Prop):Exit->St->Prop
 | .ret,S=>AV rs recv R S
 | .normal,S=>AV rs recv R S
 |_,_=>False
theorem XD{E:En}{a:Act}{w:World}{L:Nat->Value}(h:Rel E S a w L){rv:ResultVar}{r:RV}{x:PV}(hc:oo P [rv]=some [r])(hx:BA S r=some x):
  ∃v,(match rv with| .tmp t=>pure (a.tmps.getD t undef)| .cell ad t=>do loadVar t (<-asAddr (a.tmps.getD ad undef)):Sem Value).run P w= .ok v w/\bf w (bp E S L) (S.gh L) x v:=by
 cases rv with
 |tmp t=>
  simp only[oo,Qe,Qf,List.cons.injEq,and_true]at hc;subst hc;simp only[BA,Qf]at hx;subst hx;exact⟨_,rfl,h.env t⟩
 |cell t ty=>
  simp only[oo]at hc;split at hc
  ·rename_i n rs' hn hrs;injection hc with hc
   injection hc with h1 h2
   subst h1 h2;simp only[BA]at hx;split at hx
   ·rename_i id ar off e;split at hx
    ·rename_i hver;split at hx
     ·rename_i cs hcc;have r:=h.env t;rw[e]at r;obtain⟨hN,_⟩:=r.rZ (show(S.gh L).V id=ar from hver)
      obtain⟨b,hv,hL⟩:=h.sS r hver hcc;obtain⟨b',cur,T,hL',hh,hr,_⟩:=h.rN hN hcc;rw[hL]at hL';simp only[Value.pointer.injEq,Qf,Addr.mk.injEq]at hL';obtain⟨rfl,_⟩:=hL';obtain⟨v,hrun,hx'⟩:=Jn (P:=P) (ad:=⟨b,off,none⟩) hn (hr.drop off) (fun i u hu=>by rw[add_mid];exact oR hh (gy hu)) hx
      exact⟨v,by simp[hv,asAddr,hrun],hx'⟩
     ·cases hx
    ·cases hx
   ·cases hx
  ·cases hc
theorem HX{E:En}{a:Act}{w:World}{L:Nat->Value}(h:Rel E S a w L):∀(rvs:List ResultVar) (rs:List RV) (xs:List PV),oo P rvs=some rs->vZ S rs=some xs->
  ∃vs,(rvs.mapM fun| .tmp t=>pure (a.tmps.getD t undef)| .cell ad t=>do loadVar t (<-asAddr (a.tmps.getD ad undef)):Sem (List Value)).run P w= .ok vs w/\bg w (bp E S L) (S.gh L) xs vs
 |[],rs,xs,hc,hx=>by
  simp only[oo,Qf]at hc;subst hc;simp only[vZ,Qf]at hx;subst hx;exact⟨[],by simp,.nil⟩
 |rv::rvs,rs,xs,hc,hx=>by
  have hsp:∃r rs',rs=r::rs'/\oo P [rv]=some [r]/\oo P rvs=some rs':=by
   cases rv with
   |tmp t=>
    simp only[oo,Qb]at hc;obtain⟨rs',h1,rfl⟩:=hc;exact⟨_,rs',rfl,rfl,h1⟩
   |cell t ty=>
    simp only[oo]at hc;split at hc
    ·rename_i n rs' hn hrs;injection hc with hc
     subst hc;exact⟨_,rs',rfl,by simp[oo,hn],hrs⟩
    ·cases hc
  obtain⟨r,rs',rfl,h1,h2⟩:=hsp;simp only[vZ]at hx;split at hx
  ·rename_i x xs' hx1 hx2;injection hx with hx
   subst hx;obtain⟨v,hv,hr⟩:=XD h h1 hx1;obtain⟨vs,hvs,hrs⟩:=HX h rvs rs' xs' h2 hx2;refine⟨v::vs,?_,.cons hr hrs⟩;simp only[List.mapM_cons,Sem.run_bind]
   erw [hv]
   simp only[Result.andThen_ok]
   erw [hvs]
   rfl
  ·cases hx
theorem zn{E:En}{a:Act}{w:World}{L:Nat->Value}(h:Rel E S a w L){fn:Func}{rs:List RV}{x:PV}(hc:oo P fn.results.toList=some rs)(hx:sw S rs=some x):
  ∃v,(results fn a.tmps).run P w= .ok v w/\bf w (bp E S L) (S.gh L) x v:=by
 unfold sw at hx
 cases hl:vZ S rs with
 |none=>rw[hl]at hx;cases hx
 |some xs=>
  rw[hl]at hx;obtain⟨vs,hvs,hr⟩:=HX h _ _ _ hc hl
  have hrun:(results fn a.tmps).run P w= .ok (if h:vs.toArray.size=1 then vs.toArray[0]else .tuple vs.toArray) w:=by
   unfold results;rw[Array.mapM_eq_mapM_toList];simp only[Sem.run_bind,map_eq_pure_bind]
   erw [hvs]
   rfl
  refine⟨_,hrun,?_⟩
  match xs,vs,hr,hx with
  |[],vs,hr,hx=>
   injection hx with hx
   subst hx;have:=hr.nq;subst this;exact .dP _ _ hr.1 hr.2
  |[y],vs,hr,hx=>
   injection hx with hx
   subst hx;obtain⟨v,vs',rfl,h1,h2⟩:=hr.cons_inv;have:=h2.nq;subst this;exact h1
  |y::z::ys,vs,hr,hx=>
   injection hx with hx
   subst hx;obtain⟨v,vs',rfl,h1,h2⟩:=hr.cons_inv;obtain⟨u,us,rfl,h3,h4⟩:=h2.cons_inv;rw[dif_neg (by simp)]
   exact .dP _ _ hr.1 hr.2
theorem Bh{w w':World}(h:w.heap=#[]):AH w w':=⟨by rw[h];exact QS _,fun k o hk _=>by rw[h]at hk;simp at hk⟩
theorem Rel.shut{E:En}{S:St}{a:Act}{w:World}{L:Nat->Value}(h:Rel E S a w L)(hwk:E.wk.heap=#[]){d:Deferred}{ds:List Deferred}(hd:a.defers=d::ds):
  ∃D w',d.target= .collected D/\(Instr.takeDeferred D).run P w= .ok [] w'/\Rel E S {a with defers:=ds} w' L:=by
 have hnd:=h.defers.nodup;rw[hd,List.nodup_cons]at hnd;obtain⟨D,h1,h2,h3⟩:=h.defers.at_ d (by rw[hd];exact Qx)
 have hoth:∀k,k≠D->(w.putObj D (.deferred none)).heap[k]?=w.heap[k]?:=fun k hk=>World.putObj_heap_other hk
 have hcell:∀(p:Addr) (v:Value),w.cell? p=some v->p.block≠D:=by
  intro p v hp e;unfold World.cell? at hp;rw[e,h3]at hp;simp at hp
 have hs:dI w (w.putObj D (.deferred none)) (bp E S L) (bp E S L):=⟨fun p v hp hm=>⟨(World.cell?_of_block (hoth _ (hcell p v hp))).trans hp,hm⟩,fun b es ck hb hm=>⟨(hoth b (fun e=>by rw[e,h3]at hb;cases hb)).trans hb,hm⟩⟩
 have hne:∀id b,id<S.N->(S.H id).c.live=true->cm (L id)=some b->b≠D:=by
  intro id b hid hl hb e;obtain⟨o,h4,h5⟩:=(h.obj id hid).cells hl hb;rw[e,h3]at h4;injection h4 with h4
  rw[<-h4]at h5;cases h5
 refine⟨D,w.putObj D (.deferred none),by rw[h1],run_takeDeferred h3,⟨fun e=>(by have:=h.defers.none e;rw[hd]at this;cases this),hnd.2,fun d' hd'=> ?_⟩,h.size,fun t=>(h.env t).mono hs (Gh.le.refl _),fun id hid=> ?_,h.apart,h.fresh,
  ⟨⟨h.fr.os,h.fr.tape,h.fr.output,by rw[World.putObj_size];exact h.fr.size,fun b hb hr=>by rw[hoth b (by omega)];exact h.fr.block b hb hr,h.fr.drawn⟩,Bh hwk⟩,h.xi⟩
 ·obtain⟨D',h4,h5,h6⟩:=h.defers.at_ d' (by rw[hd];exact Qy _ hd')
  have hDD:D'≠D:=by
   intro e;subst e;rw[<-h1]at h4;exact hnd.1 (h4▸hd')
  exact⟨D',h4,h5,by rw[hoth _ hDD];exact h6⟩
 ·cases hl:(S.H id).c.live with
  |false=>
   cases hc:(S.H id).c with
   |dead=>trivial
   |box cs=>rw[hc]at hl;cases hl
   |row e k es=>rw[hc]at hl;cases hl
  |true=>exact(h.obj id hid).mono hs (Gh.le.refl _) (fun b hb _=>hoth b (hne id b hid hl hb))
theorem KX{E:En}{S:St}{L:Nat->Value}(hwk:E.wk.heap=#[]){fn:Func}{R:Ending->World->Prop}{tmps:Array Value}(hR:∀w',Rel E S {tmps:=tmps,defers:=[]} w' L->∃v,(results fn tmps).run P w'= .ok v w'/\R (.returned v) w'):
  ∀(ds:List Deferred) (w:World),Rel E S {tmps:=tmps,defers:=ds} w L->LeavesInM (WF none) 0 P fn tmps R ds .returning w
 |[],w,h=>hR w h
 |d::ds,w,h=>by
  obtain⟨D,w',h1,h2,h3⟩:=Rel.shut (P:=P) h hwk rfl;exact⟨(fun e=>by cases e),.inl ⟨D,w',h1,h2,KX hwk hR ds w' h3⟩⟩
theorem Ab{f:FuncId}{fn:Func}{c:Code}{E:En}{S0:St}{Q:Exit->St->Prop}{args:Array Value}{w:World}{L:Nat->Value}{R:Ending->World->Prop}(hf:P.funcs[f]?=some fn)(hb:fn.body=some c)(h:V P fn.ntmps c Q S0)
  (hE:E.nt=fn.ntmps) (hrd:E.rd=none/\E.nd=false) (hkt:∀t,E.kt t=none) (hwk:E.wk.heap=#[]) (hrel:Rel E S0 {tmps:=args++Array.replicate (fn.ntmps - args.size) undef,defers:=[]} w L)
  (fin:∀(e:Exit) (S':St) (L':Nat->Value) (a':Act) (w':World),Rel E S' a' w' L'->Q e S'->(e= .ret\/e= .normal)/\∃v,(results fn a'.tmps).run P w'= .ok v w'/\R (.returned v) w'):Calls P f args w R:=by
 have h0:=h E hE ⟨fun t _=>hkt t,.inl hrd⟩ _ w L hrel
 rw[hrd.1]at h0;refine Pc.1 (callsIn_of_wp_marks (F:=WF none) (n:=0) hf hb trivial (wpIn_mono h0 ?_));rintro e a' w' ⟨S',L',h1,h2⟩
 have h3:LeavesInM (WF none) 0 P fn a'.tmps R a'.defers .returning w':=
  KX hwk (fun w'' hw''=>(fin e S' L' _ w'' hw'' h2).2) a'.defers w' h1
 rcases(fin e S' L' a' w' h1 h2).1 with rfl|rfl<;>exact h3
theorem abQ{f:FuncId}{fn:Func}{c:Code}{sc:SC}{rs:List RV}{pos:Nat}{recv:Bool}{cs args cs':List PV}{r:PV}(hf:P.funcs[f]?=some fn)(hb:fn.body=some c){hs:List Nat}(hc:aK P fn.ntmps hs c=some sc)(hrs:oo P fn.results.toList=some rs)
  (hlen:(if recv then 1 else 0)+args.length<=fn.ntmps) (h:VS P fn.ntmps sc (acv rs recv fun r' cs''=>r'=r/\(recv=true->cs''=cs')) (dJ pos recv cs args)):JF P f pos recv cs args r cs':=by
 intro w X hX rb T rvs vs hrecv hargs
 have hrb0:∀b,(if recv then some rb else none)=some b->b<w.heap.size:=by
  intro b hb
  cases recv with
  |false=>cases hb
  |true=>
   simp only[Qt,Qf]at hb;subst hb;exact(Array.getElem?_eq_some_iff.1 (hrecv rfl).1).1
 let E:En:={w0:=w,rb:=if recv then some rb else none,nt:=fn.ntmps,X:=X,hX:=hX,ME:=recv,rv:= .pointer (some ⟨rb,0,none⟩),rk:=false,OO:=hrb0,Wf:=fun h=>(by cases h),rd:=none,nd:=false,kt:=fun _=>none,wk:={w with heap:=#[]}}
 let L:Nat->Value:=fun _=> .pointer (some ⟨rb,0,none⟩)
 have hvl:vs.length=args.length:=hargs.1
 have hm:∀b,bp E (dJ pos recv cs args) L b->Mc recv rb X b:=by
  rintro b (⟨id,hid,hl,hb⟩|hb)
  ·simp only[dJ]at hid hl
   cases recv with
   |false=>simp at hid
   |true=>
    simp only[L,cm,Qf]at hb;exact .inl ⟨rfl,hb.symm⟩
  ·exact .inr hb
 have hm':∀b,Mc recv rb X b->bp E (dJ pos recv cs args) L b:=by
  rintro b (⟨h1,h2⟩|hb)
  ·subst h2;exact .inl ⟨0,by simp[dJ,h1],by simp[dJ,h1,wJ.live],rfl⟩
  ·exact .inr hb
 have hst:dI w w (Mc recv rb X) (bp E (dJ pos recv cs args) L):=(dI.of fun _ hn=>fun h'=>hn (hm _ h'))
 have hrel:Rel E (dJ pos recv cs args) {tmps:=(ik pos (sx recv rb) vs).toArray++Array.replicate (fn.ntmps - (ik pos (sx recv rb) vs).toArray.size) undef,defers:=[]} w L:=by
  refine⟨Marks.nil rfl,⟨?_,fun t v hv=>by cases hv⟩,fun t=> ?_,fun id hid=> ?_,fun i j b hi hj _ _ _ _=> ?_,fun id hid=> ?_,⟨Fr.refl _ _,Bh rfl⟩,fun _ _ _=>rfl⟩
  ·cases recv<;>simp[sx,E,Wc]at hlen ⊢<;>omega
  ·have hget:(((ik pos (sx recv rb) vs).toArray++Array.replicate (fn.ntmps - (ik pos (sx recv rb) vs).toArray.size) undef).getD t undef)=((ik pos (sx recv rb) vs)[t]?).getD undef:=by
    rw[QN,Array.getElem?_append]
    by_cases ht:t<(ik pos (sx recv rb) vs).toArray.size
    ·rw[Qr ht];simp
    ·rw[Qs ht,Array.getElem?_replicate];have hn:(ik pos (sx recv rb) vs)[t]?=none:=List.getElem?_eq_none (by simpa using ht)
     rw[hn];split<;>rfl
   simp only;rw[hget]
   have hall:bg w (bp E (dJ pos recv cs args) L) ((dJ pos recv cs args).gh L) (ik pos (if recv then[.ptr 0 0 0]else[]) args) (ik pos (sx recv rb) vs):=by
    have ha:=hargs.mono hst (dg.le ((dJ pos recv cs args).gh L));refine((ha.take pos).append ?_).append (ha.drop pos)
    cases recv with
    |false=>exact .nil
    |true=>
     simp only[sx,Qt];exact .cons (.ptr _ _ _ _ (by simp[St.gh,dJ]) (QS _) (fun _=>by simp[St.gh,L,cm])) .nil
   show bf w _ _ (((ik pos (if recv then[.ptr 0 0 0]else[]) args:List PV)[t]?).getD .undef) _
   cases hx:(ik pos (if recv then[.ptr 0 0 0]else[]) args:List PV)[t]? with
   |none=>
    have:(ik pos (sx recv rb) vs)[t]?=none:=by
     rw[List.getElem?_eq_none_iff]at hx ⊢;rw[hall.1];exact hx
    rw[this];exact .undef
   |some x=>
    obtain⟨v,hv,hr⟩:=hall.get hx;rw[hv];exact hr
  ·cases recv with
   |false=>simp[dJ]at hid
   |true=>
    simp[dJ]at hid;subst hid;obtain⟨h1,h2⟩:=hrecv rfl;have e:((dJ pos true cs args).H 0).c= .box cs:=by simp[dJ]
    rw[e];exact⟨rb,rvs.toArray,T,rfl,h1,.inl (by simp[E]),by simpa using h2.mono hst (dg.le ((dJ pos true cs args).gh L))⟩
  ·cases recv with
   |false=>simp[dJ]at hi
   |true=>simp[dJ]at hi hj;omega
  ·cases recv with
   |false=>simp[dJ]
   |true=>simp[dJ]at hid ⊢;omega
 have fin:∀(S':St) (L':Nat->Value) (a':Act) (w':World),Rel E S' a' w' L'->AV rs recv (fun r' cs''=>r'=r/\(recv=true->cs''=cs')) S'->
   ∃v,(results fn a'.tmps).run P w'= .ok v w'/\Y2 recv rb X w r cs' (.returned v) w':=by
  intro S' L' a' w' h' hret;unfold AV at hret;split at hret
  ·rename_i x hx;obtain⟨v,hv,hrep⟩:=zn h' hrs hx;refine⟨v,hv,?_⟩
   cases recv with
   |false=>
    simp only[Qq,false_implies,and_true]at hret;subst hret;refine⟨v,[],rfl,?_,(fun hq=>by cases hq),h'.fr.toFr⟩
    refine h'.fz (fun b hb=> ?_) (fun id b hid hl _ hb hq=> ?_) 9 hrep
    ·rcases hb with⟨hb,_⟩|hb
     ·cases hb
     ·exact .inr hb
    ·rcases hq with⟨hq,_⟩|hq
     ·cases hq
     ·rcases((h'.obj id hid).vo hl hb).2 with h1|h1
      ·simp[E]at h1
      ·have:=hX b hq;simp only[E]at h1;omega
   |true=>
    simp only at hret;split at hret
    ·rename_i cs'' hH;obtain⟨hcl,rfl,hcs⟩:=hret;have hcs:=hcs trivial;subst hcs
     have hN0:0<S'.N:=by
      rcases Nat.eq_zero_or_pos S'.N with h0|h0
      ·have:=h'.fresh 0 (by omega)
       rw[hH]at this;cases this
      ·exact h0
     have hL0:L' 0= .pointer (some ⟨rb,0,none⟩):=h'.xi rfl (by rw[hH];rfl) (by rw[hH])
     obtain⟨b,cur,T',hL',hh,hr,_⟩:=h'.rN hN0 (show(S'.H 0).c= .box cs'' by rw[hH])
     rw[hL0]at hL';simp only[Value.pointer.injEq,Qf,Addr.mk.injEq]at hL';obtain⟨rfl,_⟩:=hL'
     have hsub:∀q,Mc true rb X q->bp E S' L' q:=by
      rintro q (⟨_,rfl⟩|hq)
      ·exact .inl ⟨0,hN0,by rw[hH];rfl,by rw[hL0];rfl⟩
      ·exact .inr hq
     refine⟨v,cur.toList,rfl,?_,fun _=>⟨?_,hr.closed hcl hsub⟩,h'.fr.toFr⟩
     ·refine h'.fz hsub (fun id b hid hl hne hb hq=> ?_) 9 hrep
      have hnb:b≠rb:=fun e=>hne (by rw[h'.apart id 0 b hid hN0 hl (by rw[hH];rfl) hb (by rw[hL0,e];rfl)])
      rcases hq with⟨_,hq⟩|hq
      ·exact hnb hq
      ·rcases((h'.obj id hid).vo hl hb).2 with h1|h1
       ·simp only[E,Qt,Qf]at h1;exact hnb h1.symm
       ·have:=hX b hq;simp only[E]at h1;omega
     ·exact⟨T',by simpa using hh⟩
    ·exact hret.elim
  ·exact hret.elim
 exact Ab hf hb (h c hs hc) rfl ⟨rfl,rfl⟩ (fun _=>rfl) rfl hrel fun e S' L' a' w' h1 h2=>by
  cases e with
  |normal=>exact⟨.inr rfl,fin S' L' a' w' h1 h2⟩
  |ret=>exact⟨.inl rfl,fin S' L' a' w' h1 h2⟩
  |exit i=>exact h2.elim
  |goto l=>exact h2.elim
  |panic c=>exact h2.elim
  |outgrown=>exact h2.elim
def VH(rs:List RV)(R:List PV->Prop):Exit->St->Prop
 | .ret,S=>match sw S rs with
  |some (.ptr id ar 0)=>if(S.H id).ar=ar then(match(S.H id).c with| .box cs=>cs.all PV.closed=true/\R cs|_=>False)else False
  |_=>False
 |_,_=>False
theorem afY{f:FuncId}{fn:Func}{c:Code}{sc:SC}{rs:List RV}{args cs:List PV}(hf:P.funcs[f]?=some fn)(hb:fn.body=some c){hs:List Nat}(hc:aK P fn.ntmps hs c=some sc)(hrs:oo P fn.results.toList=some rs)
  (hlen:args.length<=fn.ntmps) (h:VS P fn.ntmps sc (VH rs fun cs'=>cs'=cs) (dJ 0 false [] args)):Xo P f args cs:=by
 intro w X hX vs hargs
 let E:En:={w0:=w,rb:=none,nt:=fn.ntmps,X:=X,hX:=hX,ME:=false,rv:=undef,rk:=false,OO:=fun b hb=>(by cases hb),Wf:=fun h=>(by cases h),rd:=none,nd:=false,kt:=fun _=>none,wk:={w with heap:=#[]}}
 let L:Nat->Value:=fun _=> .pointer none
 have hst:dI w w X (bp E (dJ 0 false [] args) L):=(dI.of fun _ hn h'=>hn (by
  rcases h' with⟨id,hid,_⟩|h'
  ·simp[dJ]at hid
  ·exact h'))
 have hvl:vs.length=args.length:=hargs.1
 have hrel:Rel E (dJ 0 false [] args) {tmps:=vs.toArray++Array.replicate (fn.ntmps - vs.toArray.size) undef,defers:=[]} w L:=by
  refine⟨Marks.nil rfl,⟨?_,fun t v hv=>by cases hv⟩,fun t=> ?_,fun id hid=> ?_,fun i j b hi hj _ _ _ _=> ?_,fun id hid=> ?_,⟨Fr.refl _ _,Bh rfl⟩,fun hb _ _=>(by cases hb)⟩
  ·simp[E];omega
  ·have hget:((vs.toArray++Array.replicate (fn.ntmps - vs.toArray.size) undef).getD t undef)=(vs[t]?).getD undef:=by
    rw[QN,Array.getElem?_append]
    by_cases ht:t<vs.toArray.size
    ·rw[Qr ht];simp
    ·rw[Qs ht,Array.getElem?_replicate];have hn:vs[t]?=none:=List.getElem?_eq_none (by simpa using ht)
     rw[hn];split<;>rfl
   simp only;rw[hget];have ha:=hargs.mono hst (dg.le ((dJ 0 false [] args).gh L));show bf w _ _ ((([]++args:List PV)[t]?).getD .undef) _;rw[List.nil_append]
   cases hx:args[t]? with
   |none=>
    have:vs[t]?=none:=by
     rw[List.getElem?_eq_none_iff]at hx ⊢;omega
    rw[this];exact .undef
   |some x=>
    obtain⟨v,hv,hr⟩:=ha.get hx;rw[hv];exact hr
  ·simp[dJ]at hid
  ·simp[dJ]at hi
  ·simp[dJ]
 refine Ab hf hb (h c hs hc) rfl ⟨rfl,rfl⟩ (fun _=>rfl) rfl hrel fun e S' L' a' w' h' hq=> ?_
 cases e with
 |ret=>
  simp only[VH]at hq;split at hq
  ·rename_i id ar hx;split at hq
   ·rename_i hver;split at hq
    ·rename_i cs' hcc;obtain⟨hcl,rfl⟩:=hq;obtain⟨v,hv,hrep⟩:=zn h' hrs hx;obtain⟨hN,_⟩:=hrep.rZ (show(S'.gh L').V id=ar from hver)
     obtain⟨b,hvb,hL⟩:=h'.sS hrep hver hcc;obtain⟨b',cur,T,hL',hh,hr,hE⟩:=h'.rN hN hcc;rw[hL]at hL';simp only[Value.pointer.injEq,Qf,Addr.mk.injEq]at hL';obtain⟨rfl,_⟩:=hL';refine⟨.inl rfl,v,hv,b,cur.toList,T,by rw[hvb],?_,by simpa using hh,?_,h'.fr.toFr⟩
     ·rcases hE with h1|h1
      ·simp[E]at h1
      ·exact h1
     ·refine hr.closed hcl ?_;rintro q (hq|rfl)
      ·exact .inr hq
      ·exact .inl ⟨id,hN,by rw[hcc];rfl,by rw[hL];rfl⟩
    ·exact hq.elim
   ·exact hq.elim
  ·exact hq.elim
 |normal=>exact hq.elim
 |exit i=>exact hq.elim
 |goto l=>exact hq.elim
 |panic c=>exact hq.elim
 |outgrown=>exact hq.elim
def rj(e k:Nat)(es:List (List PV))(args:List PV):St:=
 {env:=fun t=>((.own 0 0::args)[t]?).getD .undef,H:=fun id=>if id=0 then⟨0,.row e k es⟩else⟨0,.dead⟩,N:=1}
def Rk(rs:List RV)(e k:Nat)(R:PV->List (List PV)->Prop):Exit->St->Prop
 | .ret,S| .normal,S=>match sw S rs with
  |some x=>match S.H 0 with
   |⟨0,.row e' k' es'⟩=>e'=e/\k'=k/\xt es'=true/\R (fz S.H (some 0) 9 x) es'
   |_=>False
  |none=>False
 |_,_=>False
def Dj(rs:List RV)(e k:Nat)(R:List (List PV)->Prop):Exit->St->Prop
 | .ret,S| .normal,S=>match sw S rs with
  |some (.own id ar)=>(S.H id).ar=ar/\(match(S.H id).c with
   | .row e' k' es'=>e'=e/\k'=k/\xt es'=true/\R es'
   |_=>False)
  |_=>False
 |_,_=>False
theorem Sp{fn:Func}{e k:Nat}{es:List (List PV)}{args:List PV}{w:World}{X:Nat->Prop}(hX:∀b,X b->b<w.heap.size){v:Value}{vs:List Value}(hXn:∀b,cm v=some b->¬X b)(hrow:vJ w (Mv v X) e k v es)(hargs:bg w (Mv v X) dg args vs)(hlen:1+args.length<=fn.ntmps):
  ∃E:En,E.w0=w/\E.rb=cm v/\E.nt=fn.ntmps/\E.X=X/\E.ME=true/\E.rv=v/\(E.rd=none/\E.nd=false)/\(∀t,E.kt t=none)/\E.wk.heap=#[]/\
   Rel E (rj e k es args) {tmps:=(v::vs).toArray++Array.replicate (fn.ntmps - (v::vs).toArray.size) undef,defers:=[]} w (fun _=>v):=by
 obtain⟨us,hown,hk,hr⟩:=hrow
 have hsz:∀b,cm v=some b->b<w.heap.size:=by
  intro b hb;rcases hown.2 with⟨rfl,_⟩|⟨g,cap,cur,rfl,_,hh,_⟩
  ·cases hb
  ·simp only[cm,Qf]at hb;subst hb;exact(Array.getElem?_eq_some_iff.1 hh).1
 let E:En:={w0:=w,rb:=cm v,nt:=fn.ntmps,X:=X,hX:=hX,ME:=true,rv:=v,rk:=true,OO:=hsz,Wf:=fun _=>hXn,rd:=none,nd:=false,kt:=fun _=>none,wk:={w with heap:=#[]}}
 have hm:∀b,bp E (rj e k es args) (fun _=>v) b↔Mv v X b:=by
  intro b;constructor
  ·rintro(⟨id,hid,hl,hb⟩|hb)
   ·exact .inl hb
   ·exact .inr hb
  ·rintro(hb|hb)
   ·exact .inl ⟨0,by simp[rj],by simp[rj,wJ.live],hb⟩
   ·exact .inr hb
 have hst:dI w w (Mv v X) (bp E (rj e k es args) (fun _=>v)):=(dI.of fun _ hn=>fun h'=>hn ((hm _).1 h'))
 obtain⟨ad,n0,c0,hvs⟩:∃ad n c,v= .slice ad n c:=by
  rcases hown.2 with⟨h1,_⟩|⟨g,cap,cur,h1,_⟩
  ·exact⟨_,_,_,h1⟩
  ·exact⟨_,_,_,h1⟩
 have hvl:vs.length=args.length:=hargs.1;refine⟨E,rfl,rfl,rfl,rfl,rfl,rfl,⟨rfl,rfl⟩,fun _=>rfl,rfl,⟨Marks.nil rfl,⟨?_,fun t v hv=>by cases hv⟩,fun t=> ?_,fun id hid=> ?_,fun i j b hi hj _ _ _ _=> ?_,fun id hid=> ?_,⟨Fr.refl _ _,Bh rfl⟩,fun _ _ _=>rfl⟩⟩
 ·simp[E];omega
 ·have hget:(((v::vs).toArray++Array.replicate (fn.ntmps - (v::vs).toArray.size) undef).getD t undef)=((v::vs)[t]?).getD undef:=by
   rw[QN,Array.getElem?_append]
   by_cases ht:t<(v::vs).toArray.size
   ·rw[Qr ht];simp
   ·rw[Qs ht,Array.getElem?_replicate];have hn:(v::vs)[t]?=none:=List.getElem?_eq_none (by simpa using ht)
    rw[hn];split<;>rfl
  simp only;rw[hget]
  have hall:bg w (bp E (rj e k es args) (fun _=>v)) ((rj e k es args).gh (fun _=>v)) (.own 0 0::args) (v::vs):=by
   refine .cons ?_ (hargs.mono hst (dg.le _));rw[hvs];exact .own _ _ _ _ _ (by simp[St.gh,rj]) (QS _) (fun _=>rfl)
  show bf w _ _ (((.own 0 0::args:List PV)[t]?).getD .undef) _
  cases hx:((.own 0 0::args:List PV))[t]? with
  |none=>
   have:(v::vs)[t]?=none:=by
    rw[List.getElem?_eq_none_iff]at hx ⊢;rw[hall.1];exact hx
   rw[this];exact .undef
  |some x=>
   obtain⟨u,hu,hru⟩:=hall.get hx;rw[hu];exact hru
 ·have:id=0:=by simp[rj]at hid;exact hid
  subst this;have he:((rj e k es args).H 0).c= .row e k es:=by simp[rj]
  rw[he];refine⟨us,⟨hown.1,?_⟩,hk,hr.mono hst (dg.le _)⟩;rcases hown.2 with h1|⟨g,cap,cur,h1,_,h3⟩
  ·exact .inl h1
  ·refine .inr ⟨g,cap,cur,h1,?_,h3⟩;have hb:cm v=some g:=by rw[h1];rfl
   have:fS E v=0:=by
    unfold fS;rw[Qr ⟨rfl,by simp[E,hb],rfl⟩]
   rw[this];exact QS _
 ·simp[rj]at hi hj;omega
 ·simp[rj]at hid ⊢;omega
theorem afX{f:FuncId}{fn:Func}{c:Code}{sc:SC}{rs:List RV}{e k:Nat}{es es':List (List PV)}{args:List PV}{r:PV}(hf:P.funcs[f]?=some fn)(hb:fn.body=some c){hs:List Nat}(hc:aK P fn.ntmps hs c=some sc)(hrs:oo P fn.results.toList=some rs)
  (hlen:1+args.length<=fn.ntmps) (h:VS P fn.ntmps sc (Rk rs e k fun r' es''=>r'=r/\es''=es') (rj e k es args)):R5 P f e k es args r es':=by
 intro w X hX v vs hXn hrow hargs;obtain⟨E,e1,e2,e3,e4,e5,e6,e7,e8,e9,hrel⟩:=Sp (fn:=fn) hX hXn hrow hargs hlen;subst e1
 have fin:∀(S':St) (L':Nat->Value) (a':Act) (w':World),Rel E S' a' w' L'->Rk rs e k (fun r' es''=>r'=r/\es''=es') .ret S'->
   ∃u,(results fn a'.tmps).run P w'= .ok u w'/\∃u',Ending.returned u= .returned u'/\bf w' (Mv v X) dg r u'/\vJ w' (Mv v X) e k v es'/\Fr (cm v) E.w0 w':=by
  intro S' L' a' w' h' hret;simp only[Rk]at hret;split at hret
  ·rename_i x hx;obtain⟨u,hu,hrep⟩:=zn h' hrs hx;split at hret
   ·rename_i e0 k0 es0 hH;obtain⟨rfl,rfl,hok,rfl,rfl⟩:=hret
    have hN0:0<S'.N:=by
     rcases Nat.eq_zero_or_pos S'.N with h0|h0
     ·have:=h'.fresh 0 (by omega)
      rw[hH]at this;cases this
     ·exact h0
    have hlive:(S'.H 0).c.live=true:=by rw[hH];rfl
    have hL0:L' 0=v:=(h'.xi e5 hlive (by rw[hH])).trans e6
    obtain⟨us,hown,hk,hr⟩:=h'.jw hN0 (show(S'.H 0).c=_ by rw[hH])
    rw[hL0]at hown
    have hsub:∀q,Mv v X q->bp E S' L' q:=by
     rintro q (hq|hq)
     ·exact .inl ⟨0,hN0,hlive,by rw[hL0];exact hq⟩
     ·exact .inr (by rw[e4];exact hq)
    refine⟨u,hu,u,rfl,?_,⟨us,xr hown,hk,hr.closed (zo hok) hsub⟩,by rw[<-e2];exact h'.fr.toFr⟩
    refine h'.fz hsub (fun id b hid hl hne hbb hq=> ?_) 9 hrep
    have hnb:cm v≠some b:=fun eb=>hne (by rw[h'.apart id 0 b hid hN0 hl hlive hbb (by rw[hL0];exact eb)])
    rcases hq with hq|hq
    ·exact hnb hq
    ·rcases((h'.obj id hid).vo hl hbb).2 with h1|h1
     ·rw[e2]at h1;exact hnb h1
     ·have:=hX b hq;omega
   ·exact hret.elim
  ·exact hret.elim
 exact Ab hf hb (h c hs hc) e3 e7 e8 e9 hrel fun en S' L' a' w' h1 h2=>by
  cases en with
  |normal=>exact⟨.inr rfl,fin S' L' a' w' h1 h2⟩
  |ret=>exact⟨.inl rfl,fin S' L' a' w' h1 h2⟩
  |exit i=>exact h2.elim
  |goto l=>exact h2.elim
  |panic c=>exact h2.elim
  |outgrown=>exact h2.elim
theorem Ya{E:En}{S':St}{L':Nat->Value}{a':Act}{w':World}{X:Nat->Prop}(hEX:E.X=X)(h':Rel E S' a' w' L'){fn:Func}{rs:List RV}(hrs:oo P fn.results.toList=some rs){e k:Nat}{es':List (List PV)}(hret:Dj rs e k (fun es''=>es''=es') .ret S'):
  ∃u,(results fn a'.tmps).run P w'= .ok u w'/\vJ w' (Mv u X) e k u es'/\∀b,cm u=some b->E.rb=some b\/E.w0.heap.size<=b:=by
 simp only[Dj]at hret;split at hret
 ·rename_i id ar hx;obtain⟨hver,hret⟩:=hret;split at hret
  ·rename_i e0 k0 es0 hc;obtain⟨rfl,rfl,hok,rfl⟩:=hret;obtain⟨u,hu,hrep⟩:=zn h' hrs hx;obtain⟨hN,hv⟩:=hrep.ma (show(S'.gh L').V id=ar from hver)
   have hv:u=L' id:=hv;subst hv;have hlive:(S'.H id).c.live=true:=by rw[hc];rfl
   obtain⟨us,hown,hk,hr⟩:=h'.jw hN hc;refine⟨_,hu,⟨us,xr hown,hk,hr.closed (zo hok) ?_⟩,fun b hb=>((h'.obj id hN).vo hlive hb).2⟩
   rintro q (hq|hq)
   ·exact .inl ⟨id,hN,hlive,hq⟩
   ·exact .inr (by rw[hEX];exact hq)
  ·exact hret.elim
 ·exact hret.elim
theorem af0{f:FuncId}{fn:Func}{c:Code}{sc:SC}{rs:List RV}{e k:Nat}{es es':List (List PV)}{args:List PV}(hf:P.funcs[f]?=some fn)(hb:fn.body=some c){hs:List Nat}(hc:aK P fn.ntmps hs c=some sc)(hrs:oo P fn.results.toList=some rs)
  (hlen:1+args.length<=fn.ntmps) (h:VS P fn.ntmps sc (Dj rs e k fun es''=>es''=es') (rj e k es args)):MW P f e k es args es':=by
 intro w X hX v vs hXn hrow hargs;obtain⟨E,e1,e2,e3,e4,e5,e6,e7,e8,e9,hrel⟩:=Sp (fn:=fn) hX hXn hrow hargs hlen;subst e1;refine Ab hf hb (h c hs hc) e3 e7 e8 e9 hrel fun en S' L' a' w' h1 h2=> ?_
 have fin:Dj rs e k (fun es''=>es''=es') .ret S'->∃u,(results fn a'.tmps).run P w'= .ok u w'/\∃u',Ending.returned u= .returned u'/\vJ w' (Mv u' X) e k u' es'/\(∀b,cm u'=some b->cm v=some b\/E.w0.heap.size<=b)/\Fr (cm v) E.w0 w':=by
  intro hret;obtain⟨u,hu,hrow',hub⟩:=Ya e4 h1 hrs hret;refine⟨u,hu,u,rfl,hrow',?_,by rw[<-e2];exact h1.fr.toFr⟩
  rw[<-e2];exact hub
 cases en with
 |normal=>exact⟨.inr rfl,fin h2⟩
 |ret=>exact⟨.inl rfl,fin h2⟩
 |exit i=>exact h2.elim
 |goto l=>exact h2.elim
 |panic c=>exact h2.elim
 |outgrown=>exact h2.elim
theorem afZ{f:FuncId}{fn:Func}{c:Code}{sc:SC}{rs:List RV}{e k:Nat}{es':List (List PV)}{args:List PV}(hf:P.funcs[f]?=some fn)(hb:fn.body=some c){hs:List Nat}(hc:aK P fn.ntmps hs c=some sc)(hrs:oo P fn.results.toList=some rs)
  (hlen:args.length<=fn.ntmps) (h:VS P fn.ntmps sc (Dj rs e k fun es''=>es''=es') (dJ 0 false [] args)):Xp P f args e k es':=by
 intro w X hX vs hargs
 let E:En:={w0:=w,rb:=none,nt:=fn.ntmps,X:=X,hX:=hX,ME:=false,rv:=undef,rk:=false,OO:=fun b hb=>(by cases hb),Wf:=fun h=>(by cases h),rd:=none,nd:=false,kt:=fun _=>none,wk:={w with heap:=#[]}}
 let L:Nat->Value:=fun _=> .pointer none
 have hst:dI w w X (bp E (dJ 0 false [] args) L):=(dI.of fun _ hn h'=>hn (by
  rcases h' with⟨id,hid,_⟩|h'
  ·simp[dJ]at hid
  ·exact h'))
 have hvl:vs.length=args.length:=hargs.1
 have hrel:Rel E (dJ 0 false [] args) {tmps:=vs.toArray++Array.replicate (fn.ntmps - vs.toArray.size) undef,defers:=[]} w L:=by
  refine⟨Marks.nil rfl,⟨?_,fun t v hv=>by cases hv⟩,fun t=> ?_,fun id hid=> ?_,fun i j b hi hj _ _ _ _=> ?_,fun id hid=> ?_,⟨Fr.refl _ _,Bh rfl⟩,fun hb _ _=>(by cases hb)⟩
  ·simp[E];omega
  ·have hget:((vs.toArray++Array.replicate (fn.ntmps - vs.toArray.size) undef).getD t undef)=(vs[t]?).getD undef:=by
    rw[QN,Array.getElem?_append]
    by_cases ht:t<vs.toArray.size
    ·rw[Qr ht];simp
    ·rw[Qs ht,Array.getElem?_replicate];have hn:vs[t]?=none:=List.getElem?_eq_none (by simpa using ht)
     rw[hn];split<;>rfl
   simp only;rw[hget];have ha:=hargs.mono hst (dg.le ((dJ 0 false [] args).gh L));show bf w _ _ ((([]++args:List PV)[t]?).getD .undef) _;rw[List.nil_append]
   cases hx:args[t]? with
   |none=>
    have:vs[t]?=none:=by
     rw[List.getElem?_eq_none_iff]at hx ⊢;omega
    rw[this];exact .undef
   |some x=>
    obtain⟨v,hv,hr⟩:=ha.get hx;rw[hv];exact hr
  ·simp[dJ]at hid
  ·simp[dJ]at hi
  ·simp[dJ]
 refine Ab hf hb (h c hs hc) rfl ⟨rfl,rfl⟩ (fun _=>rfl) rfl hrel fun en S' L' a' w' h1 h2=> ?_
 have fin:Dj rs e k (fun es''=>es''=es') .ret S'->∃u,(results fn a'.tmps).run P w'= .ok u w'/\∃u',Ending.returned u= .returned u'/\vJ w' (Mv u' X) e k u' es'/\(∀b,cm u'=some b->w.heap.size<=b)/\Fr none w w':=by
  intro hret;obtain⟨u,hu,hrow',hub⟩:=Ya (E:=E) rfl h1 hrs hret;refine⟨u,hu,u,rfl,hrow',fun b hbb=> ?_,h1.fr.toFr⟩
  rcases hub b hbb with h3|h3
  ·cases h3
  ·exact h3
 cases en with
 |normal=>exact⟨.inr rfl,fin h2⟩
 |ret=>exact⟨.inl rfl,fin h2⟩
 |exit i=>exact h2.elim
 |goto l=>exact h2.elim
 |panic c=>exact h2.elim
 |outgrown=>exact h2.elim
def ib(P:Program)(f:FuncId)(nt:Nat)(sc:SC)(rs:List RV):Prop:=
 ∃fn hs,P.funcs[f]?=some fn/\fn.ntmps=nt/\(fn.body.bind (aK P nt hs))=some sc/\oo P fn.results.toList=some rs/\(fn.name== "runtime.NumGoroutine")=false
theorem ib.enters{f:FuncId}{sc:SC}{rs:List RV}(h:ib P f nt sc rs):Enters P f:=by
 obtain⟨fn,hs,h1,_,h3,_,h5⟩:=h;refine⟨fn,h1,?_,h5⟩
 cases hb:fn.body with
 |none=>rw[hb]at h3;cases h3
 |some c=>rfl
theorem ib.Tk{f:FuncId}{sc:SC}{rs:List RV}(h:ib P f nt sc rs){pos:Nat}{recv:Bool}{cs args cs':List PV}{r:PV}(hlen:(if recv then 1 else 0)+args.length<=nt)
  (hv:VS P nt sc (acv rs recv fun r' cs''=>r'=r/\(recv=true->cs''=cs')) (dJ pos recv cs args)):JF P f pos recv cs args r cs':=by
 obtain⟨fn,hs,h1,rfl,h3,h4,_⟩:=h
 cases hb:fn.body with
 |none=>rw[hb]at h3;cases h3
 |some c=>
  rw[hb]at h3;exact abQ h1 hb h3 h4 hlen hv
theorem ib.aju{f:FuncId}{sc:SC}{rs:List RV}(h:ib P f nt sc rs){args cs:List PV}(hlen:args.length<=nt)
  (hv:VS P nt sc (VH rs fun cs'=>cs'=cs) (dJ 0 false [] args)):Xo P f args cs:=by
 obtain⟨fn,hs,h1,rfl,h3,h4,_⟩:=h
 cases hb:fn.body with
 |none=>rw[hb]at h3;cases h3
 |some c=>
  rw[hb]at h3;exact afY h1 hb h3 h4 hlen hv
theorem ib.ajt{f:FuncId}{sc:SC}{rs:List RV}(h:ib P f nt sc rs){e k:Nat}{es es':List (List PV)}{args:List PV}{r:PV}(hlen:1+args.length<=nt)
  (hv:VS P nt sc (Rk rs e k fun r' es''=>r'=r/\es''=es') (rj e k es args)):R5 P f e k es args r es':=by
 obtain⟨fn,hs,h1,rfl,h3,h4,_⟩:=h
 cases hb:fn.body with
 |none=>rw[hb]at h3;cases h3
 |some c=>
  rw[hb]at h3;exact afX h1 hb h3 h4 hlen hv
theorem ib.ajw{f:FuncId}{sc:SC}{rs:List RV}(h:ib P f nt sc rs){e k:Nat}{es es':List (List PV)}{args:List PV}(hlen:1+args.length<=nt)
  (hv:VS P nt sc (Dj rs e k fun es''=>es''=es') (rj e k es args)):MW P f e k es args es':=by
 obtain⟨fn,hs,h1,rfl,h3,h4,_⟩:=h
 cases hb:fn.body with
 |none=>rw[hb]at h3;cases h3
 |some c=>
  rw[hb]at h3;exact af0 h1 hb h3 h4 hlen hv
theorem ib.ajv{f:FuncId}{sc:SC}{rs:List RV}(h:ib P f nt sc rs){e k:Nat}{es':List (List PV)}{args:List PV}(hlen:args.length<=nt)
  (hv:VS P nt sc (Dj rs e k fun es''=>es''=es') (dJ 0 false [] args)):Xp P f args e k es':=by
 obtain⟨fn,hs,h1,rfl,h3,h4,_⟩:=h
 cases hb:fn.body with
 |none=>rw[hb]at h3;cases h3
 |some c=>
  rw[hb]at h3;exact afZ h1 hb h3 h4 hlen hv
def tab:List (FuncId×Model)->nM
 |[],_=>none
 |(g,m)::l,f=>if f=g then some m else tab l f
def ahy(P:Program):List (FuncId×Model)->Prop
 |[]=>True
 |(f,m)::l=>EN P f m/\ahy P l
theorem agm:∀{l:List (FuncId×Model)},ahy P l->kD P (tab l)
 |[],_,f,m,h=>by simp[tab]at h
 |(g,m')::l,hl,f,m,h=>by
  simp only[tab]at h;split at h
  ·rename_i e;subst e;injection h with h
   subst h;exact hl.1
  ·exact agm hl.2 f m h
end
end Go.TQ
end
noncomputable section
namespace Go.TQ
 def Ys{α:Type}(cr:α->List PV)(pre:α->Prop)(spec:α->PV):Model:=
 {recv:=false,pos:=0,fresh:=false,m:=fun _ args=>open Classical in if h:∃x,args=cr x/\pre x then some (spec (Classical.choose h),[])else none,rk:= .no,ro:=false,rm:=fun _ _=>none}
theorem ajN{α:Type}{cr:α->List PV}{pre:α->Prop}{spec:α->PV}(hi:∀x y,cr x=cr y->spec x=spec y)(cs:List PV)(x:α)(hp:pre x):(Ys cr pre spec).m cs (cr x)=some (spec x,[]):=by
 have h:∃y,cr x=cr y/\pre y:=⟨x,rfl,hp⟩;simp only[Ys];rw[dif_pos h];have:=(Classical.choose_spec h).1;rw[hi _ _ this.symm]
theorem aiT{P:Program}{f:FuncId}{α:Type}{cr:α->List PV}{pre:α->Prop}{spec:α->PV}(he:Enters P f)(h:∀x,pre x->Con P f false [] (cr x) (spec x) []):EN P f (Ys cr pre spec):=by
 refine⟨he,fun _ cs args r cs' hm=> ?_,(fun hq=>by cases hq),trivial,(fun hq=>by cases hq)⟩
 simp only[Ys]at hm;split at hm
 ·rename_i hx;injection hm with hm
  injection hm with h1 h2
  subst h1 h2;obtain⟨h3,h4⟩:=Classical.choose_spec hx;have:=h _ h4;rw[<-h3]at this;intro w X hX rb T rvs vs hr ha;exact this w X hX rb T rvs vs (fun hq=>by cases hq) ha
 ·cases hm
theorem abo{α:Type}{cr:α->List PV}{pre:α->Prop}{spec:α->PV}:(Ys cr pre spec).fresh=false:=rfl
theorem ac2{α:Type}{cr:α->List PV}{pre:α->Prop}{spec:α->PV}:(Ys cr pre spec).recv=false:=rfl
 def mkN{α:Type}(cr:α->List PV)(pre:α->Prop)(spec:α->List PV):Model:=
 {recv:=false,pos:=0,fresh:=true,m:=fun _ args=>open Classical in if h:∃x,args=cr x/\pre x then some (.any,spec (Classical.choose h))else none,rk:= .no,ro:=false,rm:=fun _ _=>none}
theorem ajM{α:Type}{cr:α->List PV}{pre:α->Prop}{spec:α->List PV}(hi:∀x y,cr x=cr y->spec x=spec y)(cs:List PV)(x:α)(hp:pre x):(mkN cr pre spec).m cs (cr x)=some (.any,spec x):=by
 have h:∃y,cr x=cr y/\pre y:=⟨x,rfl,hp⟩;simp only[mkN];rw[dif_pos h];have:=(Classical.choose_spec h).1;rw[hi _ _ this.symm]
theorem aiS{P:Program}{f:FuncId}{α:Type}{cr:α->List PV}{pre:α->Prop}{spec:α->List PV}(he:Enters P f)(h:∀x,pre x->Xo P f (cr x) (spec x)):EN P f (mkN cr pre spec):=by
 refine⟨he,(fun hq=>by cases hq),fun _ args r cs hm=> ?_,trivial,(fun hq=>by cases hq)⟩
 simp only[mkN]at hm;split at hm
 ·rename_i hx;injection hm with hm
  injection hm with h1 h2
  subst h1 h2;obtain⟨h3,h4⟩:=Classical.choose_spec hx;have:=h _ h4;rw[<-h3]at this;exact this
 ·cases hm
 def mkR{σ α:Type}(encS:σ->List PV)(cr:α->List PV)(pre:σ->α->Prop)(spec:σ->α->PV×σ):Model:=
 {recv:=true,pos:=0,fresh:=false,m:=fun cs args=>open Classical in if h:∃p:σ×α,cs=encS p.1/\args=cr p.2/\pre p.1 p.2 then some ((spec (Classical.choose h).1 (Classical.choose h).2).1,encS (spec (Classical.choose h).1 (Classical.choose h).2).2)else none,rk:= .no,ro:=false,rm:=fun _ _=>none}
theorem ajL{σ α:Type}{encS:σ->List PV}{cr:α->List PV}{pre:σ->α->Prop}{spec:σ->α->PV×σ}(hs:∀x y,encS x=encS y->x=y)(hi:∀x y,cr x=cr y->x=y)(s:σ)(x:α)(hp:pre s x):
  (mkR encS cr pre spec).m (encS s) (cr x)=some ((spec s x).1,encS (spec s x).2):=by
 have h:∃p:σ×α,encS s=encS p.1/\cr x=cr p.2/\pre p.1 p.2:=⟨(s,x),rfl,rfl,hp⟩;simp only[mkR];rw[dif_pos h];obtain⟨h1,h2,_⟩:=Classical.choose_spec h;rw[hs _ _ h1.symm,hi _ _ h2.symm]
theorem aiR{P:Program}{f:FuncId}{σ α:Type}{encS:σ->List PV}{cr:α->List PV}{pre:σ->α->Prop}{spec:σ->α->PV×σ}(he:Enters P f)(h:∀s x,pre s x->Con P f true (encS s) (cr x) (spec s x).1 (encS (spec s x).2)):EN P f (mkR encS cr pre spec):=by
 refine⟨he,fun _ cs args r cs' hm=> ?_,(fun hq=>by cases hq),trivial,(fun hq=>by cases hq)⟩
 simp only[mkR]at hm;split at hm
 ·rename_i hx;injection hm with hm
  injection hm with h1 h2
  subst h1 h2;obtain⟨h3,h4,h5⟩:=Classical.choose_spec hx;have:=h _ _ h5;rw[<-h3,<-h4]at this;exact this
 ·cases hm
@[simp] theorem aiz {α:Type} (f:Nat->α) (i:Nat) (x:α) (j:Nat):bF f i x j=if j=i then x else f j:=rfl
@[simp] theorem ai8 (g:FuncId) (m:Model) (l:List (FuncId×Model)) (f:FuncId):tab ((g,m)::l) f=if f=g then some m else tab l f:=rfl
@[simp] theorem ajy (S:St) (ts:List Nat) (n t:Nat):(S.cut ts n).env t=if t∈ts then S.env t else .any:=rfl
@[simp] theorem ajP (S:St) (ts:List Nat) (n id:Nat):(S.cut ts n).H id=if id<n then S.H id else⟨0,.dead⟩:=rfl
@[simp] theorem ajO (S:St) (ts:List Nat) (n:Nat):(S.cut ts n).N=n:=rfl
attribute [simp] ev xf uZ SG.wanted exec St.cI bm.val St0 dJ ik PH acv AV EI ZO sw vZ BA fz sy ql tl PV.cells PV.one PV.closed ij JA IV Pf lP PV.sV PV.plain PV.oI PV.bB PV.ui kc
 Rj nF z1 DB EA fq eM oi B0 ac2 abo VH PV.kr
section
variable (n : Nat)
@[simp] theorem aiK:PV.under n .any=true:=rfl
@[simp] theorem ahz:PV.under n .undef=true:=rfl
@[simp] theorem aiH (k:IntKind) (i:Int):PV.under n (.int k i)=true:=rfl
@[simp] theorem ahJ (b:Bool):PV.under n (.bool b)=true:=rfl
@[simp] theorem ahA:PV.under n .fY=true:=rfl
@[simp] theorem aiC (s:ByteArray):PV.under n (.str s)=true:=rfl
@[simp] theorem ahG:PV.under n .jM=true:=rfl
@[simp] theorem ahF:PV.under n .dF=true:=rfl
@[simp] theorem aiE (cs:List PV):PV.under n (.ref cs)=true:=rfl
@[simp] theorem ai7 (es:List (List PV)):PV.under n (.sl es)=true:=rfl
@[simp] theorem aiG (i v:Nat):PV.under n (.own i v)=decide (i<n):=rfl
@[simp] theorem aiF (i v o:Nat):PV.under n (.ptr i v o)=decide (i<n):=rfl
@[simp] theorem ahH (i v k j o:Nat):PV.under n (.eE i v k j o)=decide (i<n):=rfl
@[simp] theorem ahE (i v k j o:Nat):PV.under n (.view i v k j o)=decide (i<n):=rfl
@[simp] theorem aiL (cs:List PV):PV.under n (.agg cs)=cs.all (PV.kr n):=rfl
@[simp] theorem aiB (cs:List PV):PV.under n (.dP cs)=cs.all (PV.kr n):=rfl
@[simp] theorem aiI (f:FuncId) (cs:List PV):PV.under n (.bH f cs)=cs.all (PV.kr n):=rfl
@[simp] theorem ahI:wJ.under n .dead=true:=rfl
@[simp] theorem aiJ (cs:List PV):wJ.under n (.box cs)=cs.all (PV.under n):=rfl
@[simp] theorem aiD (e k:Nat) (es:List (List PV)):wJ.under n (.row e k es)=es.all fun u=>u.all (PV.under n):=rfl
end
def JH:Nat->(Nat->Prop)->Prop
 |0,_=>True
 |n+1,p=>JH n p/\p n
theorem IX{p:Nat->Prop}:∀{n:Nat},JH n p↔∀i,i<n->p i
 |0=>by simp[JH]
 |n+1=>by
  rw[JH,IX];refine⟨fun h i hi=> ?_,fun h=>⟨fun i hi=>h i (by omega),h n (by omega)⟩⟩
  by_cases e:i=n
  ·rw[e];exact h.2
  ·exact h.1 i (by omega)
theorem abN{S:St}{ts:List Nat}{n:Nat}:C7 S ts n↔n<=S.N/\(∀t∈ts,(S.env t).under n=true)/\JH n fun id=>(S.H id).c.under n=true:=
 ⟨fun h=>⟨h.N,h.env,IX.2 h.H⟩,fun h=>⟨h.1,h.2.1,IX.1 h.2.2⟩⟩
attribute [simp] abN JH
theorem i64_in{n:Int}(h: -9223372036854775808<=n)(h':n<=9223372036854775807):IntKind.i64.wrap n=n:=by
 rw[IntKind.wrap_i64];omega
end Go.TQ
end
noncomputable section
namespace Go.TQ
structure TU where
 Ty:Type
 YI:DecidableEq Ty
 den:Ty->Type
 pv:(t:Ty)->den t->List PV
 size:Ty->Nat
 agg:Ty->Bool
 plain:Ty->Bool
inductive KV (U:TU) where
 |any
 |undef
 |int (k:IntKind) (n:Int)
 |bool (b:Bool)
 |fY
 |str (s:ByteArray)
 |jM
 |dF
 |bH (f:FuncId) (caps:List (KV U))
 |iZ (f:FuncId) (first:List (KV U))
 |agg (cs:List (KV U))
 |dP (cs:List (KV U))
 |ptr (id ar off:Nat)
 |ref (cs:List (KV U))
 |sl (T:U.Ty) (xs:List (U.den T))
 |own (id ar:Nat)
 |eE (id ar k i off:Nat)
 |view (id ar k lo n:Nat)
 |iw (A B:U.Ty) (xs:List (U.den A×U.den B))
def dn{U:TU}(T:U.Ty)(v:U.den T):PV:=
 match U.agg T with
 |true=> .agg (U.pv T v)
 |false=>(U.pv T v).headD .any
section
variable {U : TU}
mutual
def KV.pv:KV U->PV
 | .any=> .any
 | .undef=> .undef
 | .int k n=> .int k n
 | .bool b=> .bool b
 | .fY=> .fY
 | .str s=> .str s
 | .jM=> .jM
 | .dF=> .dF
 | .bH f cs=> .bH f (KV.CK cs)
 | .iZ f cs=> .iZ f (KV.CK cs)
 | .agg cs=> .agg (KV.CK cs)
 | .dP cs=> .dP (KV.CK cs)
 | .ptr id ar off=> .ptr id ar off
 | .ref cs=> .ref (KV.CK cs)
 | .sl T xs=> .sl (xs.map (U.pv T))
 | .own id ar=> .own id ar
 | .eE id ar k i off=> .eE id ar k i off
 | .view id ar k lo n=> .view id ar k lo n
 | .iw A B xs=> .iw (xs.map fun p=>dn A p.1) (xs.map fun p=>dn B p.2)
def KV.CK:List (KV U)->List PV
 |[]=>[]
 |x::l=>KV.pv x::KV.CK l
end
theorem KV.ct:∀(l:List (KV U)),KV.CK l=l.map KV.pv
 |[]=>by simp[KV.CK]
 |x::l=>by simp[KV.CK,KV.ct l]
inductive dK (U:TU) where
 |dead
 |box (cs:List (KV U))
 |row (e k:Nat) (T:U.Ty) (xs:List (U.den T))
 |raw (e k:Nat) (es:List (List (KV U)))
structure c8 (U:TU) where
 ar:Nat
 c:dK U
structure aX (U:TU) where
 env:Nat->KV U
 H:Nat->c8 U
 N:Nat
def dK.pv:dK U->wJ
 | .dead=> .dead
 | .box cs=> .box (cs.map KV.pv)
 | .row e k T xs=> .row e k (xs.map (U.pv T))
 | .raw e k es=> .row e k (es.map fun c=>c.map KV.pv)
def c8.pv(o:c8 U):fG:=⟨o.ar,o.c.pv⟩
def aX.st(S:aX U):St:=⟨fun t=>(S.env t).pv,fun id=>(S.H id).pv,S.N⟩
def gI{α:Type}(f:Nat->α)(i:Nat)(x:α)(j:Nat):α:=
 match Nat.beq j i with
 |true=>x
 |false=>f j
theorem cz{α:Type}(f:Nat->α)(i:Nat)(x:α):gI f i x=bF f i x:=by
 funext j
 unfold gI bF;split
 ·rename_i h;rw[Qr (QF h)]
 ·rename_i h;rw[Qs (Nat.ne_of_beq_eq_false h)]
def aX.cI(S:aX U)(d:Option Nat)(x:KV U)(wr:Option (Nat×c8 U)):aX U:=
 {env:=match d with|some d=>gI S.env d x|none=>S.env,H:=match wr with|some (id,o)=>gI S.H id o|none=>S.H,N:=S.N}
def jJ(p:Nat×c8 U):Nat×fG:=(p.1,p.2.pv)
theorem oq{α β:Type}(g:α->β)(f:Nat->α)(i:Nat)(x:α):(fun j=>g (bF f i x j))=bF (fun j=>g (f j)) i (g x):=by
 funext j
 unfold bF;split<;>rfl
theorem Hf(S:aX U)(d:Option Nat)(x:KV U)(wr:Option (Nat×c8 U)):(S.cI d x wr).st=S.st.cI d x.pv (wr.map jJ):=by
 unfold aX.cI St.cI aX.st;congr 1
 ·cases d with
  |none=>rfl
  |some d=>simp only[cz];exact oq _ _ _ _
 ·cases wr with
  |none=>rfl
  |some p=>obtain⟨i,o⟩:=p;simp only[cz,Qe,jJ];exact oq _ _ _ _
abbrev Lk(U:TU):=Nat->Nat->(T:U.Ty)->Option (List (U.den T))
def zB{U:TU}(T' T:U.Ty)(xs:List (U.den T')):Option (List (U.den T)):=
 match U.YI T' T with
 |isTrue h=>some (h▸xs)
 |isFalse _=>none
theorem nh{T' T:U.Ty}{xs:List (U.den T')}{ys:List (U.den T)}(h:zB T' T xs=some ys):∃e:T'=T,ys=e▸xs:=by
 unfold zB at h;split at h
 ·rename_i e _;injection h with h;exact⟨e,h.symm⟩
 ·cases h
def aX.lk(S:aX U):Lk U:=fun id ar T=>
 match Nat.beq (S.H id).ar ar with
 |true=>match(S.H id).c with
  | .row _ _ T' xs=>zB T' T xs
  |_=>none
 |false=>none
def nH:Lk U:=fun _ _ _=>none
def adn(k:IntKind):KV U->Option Int
 | .int k' n=>if k'=k then some n else none
 |_=>none
def IK:KV U->Option Bool
 | .bool b=>some b
 |_=>none
def adl:KV U->Option ByteArray
 | .str s=>some s
 |_=>none
def Wx(lk:Lk U)(T:U.Ty):KV U->Option (List (U.den T))
 | .dF=>some []
 | .sl T' xs=>zB T' T xs
 | .own id ar=>lk id ar T
 |_=>none
def aaj{U:TU}(A' B' A B:U.Ty)(xs:List (U.den A'×U.den B')):Option (List (U.den A×U.den B)):=
 match U.YI A' A with
 |isTrue h=>(match U.YI B' B with
  |isTrue h'=>some (h▸h'▸xs)
  |isFalse _=>none)
 |isFalse _=>none
theorem aai{A' B' A B:U.Ty}{xs:List (U.den A'×U.den B')}{ys:List (U.den A×U.den B)}(h:aaj A' B' A B xs=some ys):∃(e:A'=A) (e':B'=B),ys=e▸e'▸xs:=by
 unfold aaj at h;split at h
 ·rename_i e _;split at h
  ·rename_i e' _;injection h with h;exact⟨e,e',h.symm⟩
  ·cases h
 ·cases h
def adm(A B:U.Ty):KV U->Option (List (U.den A×U.den B))
 | .iw A' B' xs=>aaj A' B' A B xs
 |_=>none
inductive lY (lk:Lk U):KV U->PV->Prop where
 |int (k:IntKind) (n:Int):lY lk (.int k n) (.int k n)
 |bool (b:Bool):lY lk (.bool b) (.bool b)
 |str (s:ByteArray):lY lk (.str s) (.str s)
 |dF:lY lk .dF (.sl [])
 |sl (T:U.Ty) (xs:List (U.den T)):lY lk (.sl T xs) (.sl (xs.map (U.pv T)))
 |own (id ar:Nat) (T:U.Ty) (xs:List (U.den T)) (h:lk id ar T=some xs):lY lk (.own id ar) (.sl (xs.map (U.pv T)))
 |iw (A B:U.Ty) (xs:List (U.den A×U.den B)):lY lk (.iw A B xs) (.iw (xs.map fun p=>dn A p.1) (xs.map fun p=>dn B p.2))
theorem afQ{lk:Lk U}{A B:U.Ty}{x:KV U}{xs:List (U.den A×U.den B)}(h:adm A B x=some xs):lY lk x (.iw (xs.map fun p=>dn A p.1) (xs.map fun p=>dn B p.2)):=by
 unfold adm at h;split at h
 ·obtain⟨e,e',rfl⟩:=aai h;subst e;subst e';exact .iw _ _ _
 ·cases h
theorem afS{lk:Lk U}{k:IntKind}{x:KV U}{n:Int}(h:adn k x=some n):lY lk x (.int k n):=by
 unfold adn at h;split at h
 ·split at h
  ·rename_i e;injection h with h;subst h e;exact .int _ _
  ·cases h
 ·cases h
theorem afU{lk:Lk U}{x:KV U}{b:Bool}(h:IK x=some b):lY lk x (.bool b):=by
 unfold IK at h;split at h
 ·injection h with h;subst h;exact .bool _
 ·cases h
theorem afP{lk:Lk U}{x:KV U}{s:ByteArray}(h:adl x=some s):lY lk x (.str s):=by
 unfold adl at h;split at h
 ·injection h with h;subst h;exact .str _
 ·cases h
theorem afR{lk:Lk U}{T:U.Ty}{x:KV U}{xs:List (U.den T)}(h:Wx lk T x=some xs):lY lk x (.sl (xs.map (U.pv T))):=by
 unfold Wx at h;split at h
 ·injection h with h;subst h;exact .dF
 ·obtain⟨e,rfl⟩:=nh h;subst e;exact .sl _ _
 ·exact .own _ _ _ _ h
 ·cases h
def PV.gn:PV->Bool
 | .int ..| .bool _| .str _| .sl _| .iw ..=>true
 |_=>false
inductive gU (lk:Lk U):List (KV U)->List PV->Prop where
 |nil:gU lk [] []
 |cons {x:KV U} {y:PV} {xs:List (KV U)} {ys:List PV} (h:lY lk x y) (t:gU lk xs ys):gU lk (x::xs) (y::ys)
structure TK (U:TU) where
 cr:(t:U.Ty)->U.den t->List (KV U)
 dec:(t:U.Ty)->Lk U->List (KV U)->Option (U.den t)
 UN:Nat->Option U.Ty
 qn:∀t v,(cr t v).map KV.pv=U.pv t v
 lO:∀t lk cs v,dec t lk cs=some v->gU lk cs (U.pv t v)
 len:∀t v,(U.pv t v).length=U.size t
 gn:∀t v y,y∈U.pv t v->y.gn=true
 one:∀t,U.agg t=false->U.size t=1
 plain:∀t,U.plain t=true->∀v y,y∈U.pv t v->y.plain=true
 Rq:U.Ty->Option (IntKind×IntKind)
 Jq:∀t k l,Rq t=some (k,l)->U.agg t=true/\∀v,∃a b,cr t v=[.int k a,.int l b]
variable (K : TK U)
def vT(T:U.Ty)(v:U.den T):KV U:=
 match U.agg T with
 |true=> .agg (K.cr T v)
 |false=>(K.cr T v).headD .any
def xc(lk:Lk U)(T:U.Ty)(x:KV U):Option (U.den T):=
 match U.agg T with
 |true=>(match x with| .agg cs=>K.dec T lk cs|_=>none)
 |false=>K.dec T lk [x]
theorem wM(T:U.Ty)(v:U.den T):(vT K T v).pv=dn T v:=by
 unfold vT dn;split
 ·simp only[KV.pv,KV.ct,K.qn]
 ·rename_i h;have h1:=K.len T v;rw[K.one T h]at h1;have h2:=K.qn T v
  cases he:K.cr T v with
  |nil=>rw[he]at h2;simp at h2;rw[h2]at h1;simp at h1
  |cons x l=>rw[he]at h2;rw[<-h2];rfl
def PV.dy:PV->Bool
 | .int ..| .bool _| .str _| .jM| .dF| .any| .bH _ []=>true
 |_=>false
def KV.s6:PV->KV U
 | .int k n=> .int k n
 | .bool b=> .bool b
 | .str s=> .str s
 | .jM=> .jM
 | .dF=> .dF
 | .bH f []=> .bH f []
 |_=> .any
def bm.dy:bm->Bool
 | .tmp _=>true
 | .wW x=>x.dy
def bm.cO(S:aX U):bm->KV U
 | .tmp t=>S.env t
 | .wW x=>KV.s6 x
theorem wS{S:aX U}{x:bm}(h:x.dy=true):x.val S.st=(x.cO S).pv:=by
 cases x with
 |tmp t=>rfl
 |wW x=>
  simp only[bm.dy]at h;unfold PV.dy at h;split at h<;>first|rfl|(cases h)
def KV.cells:KV U->List (KV U)
 | .agg cs=>cs
 |x=>[x]
def KV.one:KV U->Bool
 | .int ..| .bool _| .fY| .str _| .jM| .dF| .bH ..| .iZ ..| .ptr ..| .eE ..| .ref _| .sl ..| .own ..| .view ..| .iw ..=>true
 |_=>false
def KV.closed:KV U->Bool
 | .int ..| .bool _| .str _| .jM| .dF| .sl ..| .ref _| .iw ..=>true
 | .bH _ []=>true
 |_=>false
def KV.bB:KV U->Bool
 | .agg cs| .dP cs| .bH _ cs=>cs.all KV.closed
 |x=>x.closed
theorem agP(x:KV U):x.pv.one=x.one:=by cases x<;>simp[KV.pv,PV.one,KV.one]
theorem abU(x:KV U):x.pv.closed=x.closed:=by
 cases x with
 |bH f cs=>cases cs<;>simp[KV.pv,KV.CK,PV.closed,KV.closed]
 |_=>simp[KV.pv,PV.closed,KV.closed]
theorem wz(x:KV U):x.pv.cells=x.cells.map KV.pv:=by cases x<;>simp[KV.pv,PV.cells,KV.cells,KV.ct]
theorem mF(l:List (KV U)):(l.map KV.pv).all PV.closed=l.all KV.closed:=by
 induction l with
 |nil=>rfl
 |cons x l ih=>simp only[QD,List.all_cons,abU,ih]
theorem uo(l:List (KV U)):(l.map KV.pv).all PV.one=l.all KV.one:=by
 induction l with
 |nil=>rfl
 |cons x l ih=>simp only[QD,List.all_cons,agP,ih]
theorem aae(x:KV U):x.pv.bB=x.bB:=by
 cases x with
 |agg cs=>simp only[KV.pv,PV.bB,KV.bB,KV.ct];exact mF cs
 |dP cs=>simp only[KV.pv,PV.bB,KV.bB,KV.ct];exact mF cs
 |bH f cs=>simp only[KV.pv,PV.bB,KV.bB,KV.ct];exact mF cs
 |_=>simp[KV.pv,PV.bB,KV.bB,PV.closed,KV.closed]
end
end Go.TQ
end
noncomputable section
namespace Go.TQ
open Go.RowKit
section
variable {P : Program} {nt : Nat} {hs : List Nat}
theorem Aa{c:Code}{x y:SC}(h:aK P nt hs c=some (.seq x y)):∃p q,c= .seq p q/\aK P nt hs p=some x/\aK P nt hs q=some y:=by
 cases c with
 |seq p q=>
  simp only[aK]at h;split at h
  ·rename_i x' y' hx hy;injection h with h
   injection h with h1 h2
   subst h1 h2;exact⟨p,q,rfl,hx,hy⟩
  ·cases h
 |region id ops d=>cases d<;>simp only[aK]at h<;>(try split at h)<;>(try split at h)<;>(try split at h)<;>cases h
 |cond c x y=>simp only[aK]at h;split at h<;>cases h
 |block id c=>simp only[aK,Qb]at h;obtain⟨_,_,h⟩:=h;cases h
 |loop c=>simp only[aK,Qb]at h;obtain⟨_,_,h⟩:=h;cases h
 |rangeFunc g ps x y=>simp only[aK]at h;split at h<;>(try split at h)<;>cases h
 |_=>simp only[aK]at h<;>cases h
theorem Pb{c:Code}{o:bm}{x y:SC}(h:aK P nt hs c=some (.cond o x y)):∃o' p q,c= .cond o' p q/\bw o'=some o/\aK P nt hs p=some x/\aK P nt hs q=some y:=by
 cases c with
 |cond o' p q=>
  simp only[aK]at h;split at h
  ·rename_i c' x' y' hc hx hy;injection h with h
   injection h with h1 h2 h3
   subst h1 h2 h3;exact⟨o',p,q,rfl,hc,hx,hy⟩
  ·cases h
 |region id ops d=>cases d<;>simp only[aK]at h<;>(try split at h)<;>(try split at h)<;>(try split at h)<;>cases h
 |seq x y=>simp only[aK]at h;split at h<;>cases h
 |block id c=>simp only[aK,Qb]at h;obtain⟨_,_,h⟩:=h;cases h
 |loop c=>simp only[aK,Qb]at h;obtain⟨_,_,h⟩:=h;cases h
 |rangeFunc g ps x y=>simp only[aK]at h;split at h<;>(try split at h)<;>cases h
 |_=>simp only[aK]at h<;>cases h
theorem Lb{c:Code}{id:Nat}{x:SC}(h:aK P nt hs c=some (.block id x)):∃p,c= .block id p/\aK P nt hs p=some x:=by
 cases c with
 |block j p=>
  simp only[aK,Qb]at h;obtain⟨x',hx,h⟩:=h;injection h with h1 h2
  subst h1 h2;exact⟨p,rfl,hx⟩
 |region id ops d=>cases d<;>simp only[aK]at h<;>(try split at h)<;>(try split at h)<;>(try split at h)<;>cases h
 |seq x y=>simp only[aK]at h;split at h<;>cases h
 |cond c x y=>simp only[aK]at h;split at h<;>cases h
 |loop c=>simp only[aK,Qb]at h;obtain⟨_,_,h⟩:=h;cases h
 |rangeFunc g ps x y=>simp only[aK]at h;split at h<;>(try split at h)<;>cases h
 |_=>simp only[aK]at h<;>cases h
theorem aag{c:Code}{x:SC}(h:aK P nt hs c=some (.loop x)):∃p,c= .loop p/\aK P nt hs p=some x:=by
 cases c with
 |loop p=>
  simp only[aK,Qb]at h;obtain⟨x',hx,h⟩:=h;injection h with h1
  subst h1;exact⟨p,rfl,hx⟩
 |region id ops d=>cases d<;>simp only[aK]at h<;>(try split at h)<;>(try split at h)<;>(try split at h)<;>cases h
 |seq x y=>simp only[aK]at h;split at h<;>cases h
 |cond c x y=>simp only[aK]at h;split at h<;>cases h
 |block id c=>simp only[aK,Qb]at h;obtain⟨_,_,h⟩:=h;cases h
 |rangeFunc g ps x y=>simp only[aK]at h;split at h<;>(try split at h)<;>cases h
 |_=>simp only[aK]at h<;>cases h
theorem Tl{c:Code}{gs:List SG}(h:aK P nt hs c=some (.uC gs)):∃id ops,c= .region id ops false/\ops.toList.mapM (uI P hs ops)=some gs/\∀o∈ops.toList,∀t,o.dst=some t->t<nt:=by
 cases c with
 |region id ops d=>
  cases d with
  |true=>simp only[aK]at h;(try split at h)<;>(try split at h)<;>(try split at h)<;>cases h
  |false=>
   simp only[aK]at h;split at h
   ·rename_i gs' hgs;split at h
    ·rename_i hd;injection h with h
     injection h with h
     subst h;exact⟨id,ops,rfl,hgs,O5 hd⟩
    ·cases h
   ·cases h
 |seq x y=>simp only[aK]at h;split at h<;>cases h
 |cond c x y=>simp only[aK]at h;split at h<;>cases h
 |block id c=>simp only[aK,Qb]at h;obtain⟨_,_,h⟩:=h;cases h
 |loop c=>simp only[aK,Qb]at h;obtain⟨_,_,h⟩:=h;cases h
 |rangeFunc g ps x y=>simp only[aK]at h;split at h<;>(try split at h)<;>cases h
 |_=>simp only[aK]at h<;>cases h
theorem aah{c:Code}{id:Nat}(h:aK P nt hs c=some (.exit id)):c= .exit id:=by
 cases c with
 |exit j=>simp only[aK,Qf,SC.exit.injEq]at h;rw[h]
 |region id ops d=>cases d<;>simp only[aK]at h<;>(try split at h)<;>(try split at h)<;>(try split at h)<;>cases h
 |seq x y=>simp only[aK]at h;split at h<;>cases h
 |cond c x y=>simp only[aK]at h;split at h<;>cases h
 |block id c=>simp only[aK,Qb]at h;obtain⟨_,_,h⟩:=h;cases h
 |loop c=>simp only[aK,Qb]at h;obtain⟨_,_,h⟩:=h;cases h
 |rangeFunc g ps x y=>simp only[aK]at h;split at h<;>(try split at h)<;>cases h
 |_=>simp only[aK]at h<;>cases h
theorem O9{c:Code}(h:aK P nt hs c=some .skip):c= .skip:=by
 cases c with
 |skip=>rfl
 |region id ops d=>cases d<;>simp only[aK]at h<;>(try split at h)<;>(try split at h)<;>(try split at h)<;>cases h
 |seq x y=>simp only[aK]at h;split at h<;>cases h
 |cond c x y=>simp only[aK]at h;split at h<;>cases h
 |block id c=>simp only[aK,Qb]at h;obtain⟨_,_,h⟩:=h;cases h
 |loop c=>simp only[aK,Qb]at h;obtain⟨_,_,h⟩:=h;cases h
 |rangeFunc g ps x y=>simp only[aK]at h;split at h<;>(try split at h)<;>cases h
 |_=>simp only[aK]at h<;>cases h
theorem abW{c:Code}(h:aK P nt hs c=some .ret):c= .ret:=by
 cases c with
 |ret=>rfl
 |region id ops d=>cases d<;>simp only[aK]at h<;>(try split at h)<;>(try split at h)<;>(try split at h)<;>cases h
 |seq x y=>simp only[aK]at h;split at h<;>cases h
 |cond c x y=>simp only[aK]at h;split at h<;>cases h
 |block id c=>simp only[aK,Qb]at h;obtain⟨_,_,h⟩:=h;cases h
 |loop c=>simp only[aK,Qb]at h;obtain⟨_,_,h⟩:=h;cases h
 |rangeFunc g ps x y=>simp only[aK]at h;split at h<;>(try split at h)<;>cases h
 |_=>simp only[aK]at h<;>cases h
theorem iM{α β:Type}{f:α->Option β}{l:List α}{y:β}{ys:List β}(h:l.mapM f=some (y::ys)):∃x xs,l=x::xs/\f x=some y/\xs.mapM f=some ys:=by
 cases l with
 |nil=>simp at h
 |cons x xs=>
  simp only[List.mapM_cons,Qd,Qc,Option.pure_def,Qf,List.cons.injEq]at h;obtain⟨z,hz,zs,hzs,rfl,rfl⟩:=h;exact⟨x,xs,rfl,hz,hzs⟩
theorem Ic{α β:Type}{f:α->Option β}{l:List α}(h:l.mapM f=some []):l=[]:=by
 cases l with
 |nil=>rfl
 |cons x xs=>
  simp only[List.mapM_cons,Qd,Qc,Option.pure_def,Qf]at h;obtain⟨z,hz,zs,hzs,h⟩:=h;cases h
theorem abP{o:Oper}{fv:bm}{xs:List bm}(h:K8 P hs o=some (.uk fv xs)):∃(g:Operand) (args:Array Operand) (ts:Array TypeId),o.op= .call {callee:= .value g,args:=args,argTypes:=ts}/\bw g=some fv/\args.toList.mapM bw=some xs:=by
 unfold K8 at h;split at h
 case h_22 fop args ats hop=>
  simp only[Qd,Qc]at h;obtain⟨ys,hys,h⟩:=h;split at h
  ·cases h
  ·simp only[Qc,Qf,bN.uk.injEq]at h;obtain⟨fv',hfv,rfl,rfl⟩:=h;exact⟨_,_,_,hop,hfv,hys⟩
 all_goals (repeat' (first|(cases h;done)|split at h|(simp only[Qd,Qc]at h;obtain⟨_,_,h⟩:=h)|(obtain⟨_,_,h⟩:=h)))
theorem wy{x:Operand}{t:Nat}(h:bw x=some (.tmp t)):x= .tmp t:=by
 cases x with
 |tmp u=>simp only[bw,Qf,bm.tmp.injEq]at h;rw[h]
 |const v=>simp only[bw,Qb]at h;obtain⟨_,_,h⟩:=h;cases h
 |global g=>simp[bw]at h
 |func f=>simp[bw]at h
end
def B8(k:Nat)(nE:Option Nat):SC:=
 .seq (.uC [⟨some 4,none,.load none (.tmp 1)⟩,⟨some 5,none,.len false (.tmp 4)⟩,⟨some 6,none,.bin .sub (.tmp 5) (.wW (.int .i64 1))⟩,⟨some 3,none,.mM (.tmp 6)⟩])
  (.block 0 (.loop (.seq (.seq (.uC [⟨some 7,none,.mM (.tmp 3)⟩,⟨some 8,none,.bin .geq (.tmp 7) (.wW (.int .i64 0))⟩]) (.cond (.tmp 8) .skip (.exit 0)))
   (.seq (.block 1 (.seq (.uC [⟨some 11,none,.mM (.tmp 0)⟩,⟨some 12,none,.mM (.tmp 3)⟩,⟨some 13,none,.load none (.tmp 1)⟩,⟨some 14,none,.mM (.tmp 3)⟩,⟨some 15,none,.pM k (.tmp 13) (.tmp 14)⟩,
    ⟨some 16,none,.load nE (.tmp 15)⟩,⟨some 17,none,.uk (.tmp 11) [.tmp 12,.tmp 16]⟩,⟨some 18,none,.not (.tmp 17)⟩]) (.cond (.tmp 18) .ret .skip)))
    (.uC [⟨some 9,none,.mM (.tmp 3)⟩,⟨some 10,none,.bin .sub (.tmp 9) (.wW (.int .i64 1))⟩,⟨some 3,none,.mM (.tmp 10)⟩])))))
section
variable {P : Program}
def Gs:nM:=fun _=>none
theorem VF:kD P Gs:=fun _ _ h=>by cases h
theorem U9{Γ:nM}(hΓ:kD P Γ){E:En}{hs:List Nat}{ops:Array Oper}{l2:List Oper}:∀(l:List Oper) (gs:List SG) (nid:Nat) (S S':St) (a:Act) (w:World) (L:Nat->Value),l.mapM (uI P hs ops)=some gs->Rel E S a w L->nid+l.length<=S.N->
  (∀o∈l,∀t,o.dst=some t->E.can t)->xf Γ nid gs S=some S'->∀{Q:Exit->Act->World->Prop},(∀a' w' L',Rel E S' a' w' L'->wpListIn (WF E.rd) 0 P ops Q l2 a' w')->wpListIn (WF E.rd) 0 P ops Q (l++l2) a w
 |[],gs,nid,S,S',a,w,L,hm,h,hN,hd,hr,Q,hQ=>by
  simp at hm;subst hm;simp only[xf,Qf]at hr;subst hr;exact hQ a w L h
 |o::l,gs,nid,S,S',a,w,L,hm,h,hN,hd,hr,Q,hQ=>by
  simp only[List.mapM_cons,Qd,Qc,Option.pure_def,Qf]at hm;obtain⟨g,hg,gs',hgs,rfl⟩:=hm;simp only[xf]at hr;split at hr
  ·rename_i S1 hs;rw[List.cons_append];refine wpListIn_step fun K hK=> ?_
   refine wO hΓ hg h (by simp at hN;omega) (hd o (by simp)) hs (fun a' w' L' h'=>hK _ _ ?_)
   exact U9 hΓ l gs' (nid+1) S1 S' a' w' L' hgs h' (by rw[adU hs];simp at hN;omega) (fun o' ho'=>hd o' (by simp[ho'])) hr hQ
  ·cases hr
def EB(W:World)(X:Nat->Prop)(hX:∀b,X b->b<W.heap.size)(kt:Nat->Option Value):En:=
 {w0:=W,rb:=none,nt:=19,X:=X,hX:=hX,ME:=false,rv:=undef,rk:=false,OO:=fun b hb=>(by cases hb),Wf:=fun h=>(by cases h),rd:=none,nd:=true,kt:=kt,wk:={W with heap:=#[]}}
def SB(env:Nat->PV):St:={env:=env,H:=fun _=>⟨0,.dead⟩,N:=8}
theorem Ur{W:World}{X:Nat->Prop}(hX:∀b,X b->b<W.heap.size){kt:Nat->Option Value}{env:Nat->PV}{a:Act}{L:Nat->Value}(hd:a.defers=[])(hs:a.tmps.size=19)(hk:∀t v,kt t=some v->a.tmps.getD t undef=v)
  (he:∀t,bf W X dg (env t) (a.tmps.getD t undef)):Rel (EB W X hX kt) (SB env) a W L:=by
 have hM:∀b,bp (EB W X hX kt) (SB env) L b->X b:=by
  rintro b (⟨id,_,hl,_⟩|h)
  ·cases hl
  ·exact h
 exact⟨Marks.nil hd,⟨hs,hk⟩,fun t=>(he t).mono (dI.of fun _ hn=>fun h=>hn (hM _ h)) (dg.le _),fun _ _=>trivial,fun i j b _ _ hi=>(by cases hi),fun _ _=>rfl,⟨Fr.refl _ _,Bh rfl⟩,fun h=>(by cases h)⟩
structure BF (y c:Value) (i:Int) (a:Act):Prop where
 defers:a.defers=[]
 size:a.tmps.size=19
 y:a.tmps.getD 0 undef=y
 c:a.tmps.getD 1 undef=c
 i:a.tmps.getD 3 undef= .int .i64 i
def zP(y c:Value)(t:Nat):Option Value:=if t=0 then some y else if t=1 then some c else none
theorem BC{W W':World}{X:Nat->Prop}{hX:∀b,X b->b<W.heap.size}{kt:Nat->Option Value}{S:St}{a:Act}{L:Nat->Value}(h:Rel (EB W X hX kt) S a W' L):Fr none W W':=h.fr.toFr
theorem Jy{hs:List Nat}{ops:Array Oper}{p:Nat->Prop}:∀{l:List Oper} {gs:List SG},l.mapM (uI P hs ops)=some gs->(∀g∈gs,∀t,g.d=some t->p t)->∀o∈l,∀t,o.dst=some t->p t
 |[],_,_,_=>by simp
 |x::l,gs,h,hp=>by
  simp only[List.mapM_cons,Qd,Qc,Option.pure_def,Qf]at h;obtain⟨g,hg,gs',hgs,rfl⟩:=h;intro o ho t ht;rcases QA.1 ho with rfl|ho
  ·exact hp g Qx t (by rw[(IN hg).2.1];exact ht)
  ·exact Jy hgs (fun g hg=>hp g (Qy _ hg)) o ho t ht
def B1(es:List (List PV))(x:Nat->PV)(t:Nat):PV:=if t=1 then .ref [.sl es]else x t
variable {hs : List Nat} {es : List (List PV)} {y c : Value} {W : World} {X : Nat -> Prop} {hX : ∀ b, X b -> b < W.heap.size} {a : Act}
theorem BF.env{i:Int}(h:BF y c i a)(hc:bf W X dg (.ref [.sl es]) c)(t:Nat):bf W X dg (B1 es (fun t=>if t=3 then .int .i64 i else .any) t) (a.tmps.getD t undef):=by
 unfold B1;split
 ·rename_i e;rw[e,h.c];exact hc
 ·simp only;split
  ·rename_i e;rw[e,h.i];exact .int _ _
  ·exact .any _
theorem BF.kt{i:Int}(h:BF y c i a)(t:Nat)(v:Value)(hv:zP y c t=some v):a.tmps.getD t undef=v:=by
 unfold zP at hv;split at hv
 ·rename_i e;injection hv with hv;rw[e,h.y,hv]
 ·split at hv
  ·rename_i e;injection hv with hv;rw[e,h.c,hv]
  ·cases hv
theorem BF.rel{i:Int}(h:BF y c i a)(hc:bf W X dg (.ref [.sl es]) c)(L:Nat->Value):Rel (EB W X hX (zP y c)) (SB (B1 es fun t=>if t=3 then .int .i64 i else .any)) a W L:=
 Ur hX h.defers h.size h.kt (h.env hc)
theorem Zl{c0:Code}{gs:List SG}(hcc:aK P 19 hs c0=some (.uC gs)){env:Nat->PV}{S':St}(hlen:gs.length<=8)(hd:∀g∈gs,∀t,g.d=some t->t≠0/\t≠1){L:Nat->Value}(h:Rel (EB W X hX (zP y c)) (SB env) a W L)
  (hr:xf Gs 0 gs (SB env)=some S') {Q:Exit->Act->World->Prop} (hQ:∀a' W' L',Rel (EB W X hX (zP y c)) S' a' W' L'->Q .normal a' W'):c0.wpIn (WF none) 0 P Q a W:=by
 obtain⟨id,ops,rfl,hm,hlt⟩:=Tl hcc;refine wpIn_region_list ?_;have hl:=sb hm;refine AT (E:=EB W X hX (zP y c)) VF ops.toList gs 0 (SB env) S' a W L hm h (by simp only[SB];omega) (fun o ho t ht=>⟨hlt o ho t ht,?_⟩) hr hQ
 have:=Jy (p:=fun t=>t≠0/\t≠1) hm hd o ho t ht
 show zP y c t=none;unfold zP;rw[Qs this.1,Qs this.2]
theorem BF.of{S':St}{W':World}{L':Nat->Value}{i:Int}{a':Act}(h:Rel (EB W X hX (zP y c)) S' a' W' L')(hi:S'.env 3= .int .i64 i):BF y c i a':=by
 refine⟨h.defers.none rfl,h.size.1,h.size.2 0 y rfl,h.size.2 1 c rfl,?_⟩;have:=h.env 3;rw[hi]at this;exact this.fm
theorem agt(hc:bf W X dg (.ref [.sl es]) c):es.length<=maxLen:=by
 cases hc with
 |ref _ ad vs hl hcell h=>
  cases vs with
  |nil=>simp at hl
  |cons v vs=>
   have h1:=h 0 (.sl es) v (by simp) (by simp)
   cases h1 with
   |sl _ _ _ _ _ _ _ _ _ hn hm=>omega
   |slnil=>simp
theorem wrap_small{n:Int}(h: -1<=n)(h':n<=9223372036854775807):IntKind.i64.wrap n=n:=by
 rw[IntKind.wrap_i64];omega
def zY(nE:Option Nat)(e:List PV):PV:=(sy nE e).getD .any
structure I2 (k:Nat) (nE:Option Nat) (es:List (List PV)):Prop where
 len:∀e∈es,e.length=k
 ld:∀e∈es,sy nE e=some (zY nE e)
 cl:∀e∈es,(zY nE e).bB=true
def W8(P:Program)(l:Nat)(i:Nat)(v:Value)(W:World)(R:Ending->World->Prop):Prop:=
 ∃(fn:FuncId) (tmps:Array Value) (assign body:Code),(Instr.yield l #[.int .i64 i,v]).run P W= .ok (.round l fn tmps assign body) W/\RoundIn (WF none) 0 P l fn tmps assign body W R
theorem acx{k:Nat}{nE:Option Nat}{l:Nat}{m:Nat}(hin:I2 k nE es)(hX:∀b,X b->b<W.heap.size)(hc:bf W X dg (.ref [.sl es]) c){J0 J1:World->Prop}(hJ0:∀W',Fr none W W'->J0 W')
  (hJ:∀W' W'',J1 W'->Fr none W' W''->J1 W'') {Jx:World->Prop} (hJx:∀W' W'',Jx W'->Fr none W' W''->Jx W'')
  (hr:∀(W':World) (e:List PV) (v:Value),J0 W'->es[m]?=some e->bf W' X dg (zY nE e) v->W8 P l m v W' fun en W''=>(en= .returned (.bool true)/\J1 W'')\/(en= .returned (.bool false)/\Jx W''))
  {c0:Code} (hcc:aK P 19 hs c0=some (.uC [⟨some 11,none,.mM (.tmp 0)⟩,⟨some 12,none,.mM (.tmp 3)⟩,⟨some 13,none,.load none (.tmp 1)⟩,⟨some 14,none,.mM (.tmp 3)⟩,⟨some 15,none,.pM k (.tmp 13) (.tmp 14)⟩,
    ⟨some 16,none,.load nE (.tmp 15)⟩,⟨some 17,none,.uk (.tmp 11) [.tmp 12,.tmp 16]⟩,⟨some 18,none,.not (.tmp 17)⟩]))
  (hm:m<es.length) (hB:BF (.func (.yield l) #[] #[]) c m a) {Q:Exit->Act->World->Prop}
  (hQ:∀a' W' b,BF (.func (.yield l) #[] #[]) c m a'->a'.tmps.getD 18 undef= .bool (!b)->(b=true->J1 W')->(b=false->Jx W')->Q .normal a' W'):c0.wpIn (WF none) 0 P Q a W:=by
 obtain⟨id,ops,rfl,hmm,hlt⟩:=Tl hcc;refine wpIn_region_list ?_;obtain⟨o11,l1,e1,g11,hm1⟩:=iM hmm;obtain⟨o12,l2,rfl,g12,hm2⟩:=iM hm1;obtain⟨o13,l3,rfl,g13,hm3⟩:=iM hm2;obtain⟨o14,l4,rfl,g14,hm4⟩:=iM hm3;obtain⟨o15,l5,rfl,g15,hm5⟩:=iM hm4;obtain⟨o16,l6,rfl,g16,hm6⟩:=iM hm5;obtain⟨o17,l7,rfl,g17,hm7⟩:=iM hm6;obtain⟨o18,l8,rfl,g18,hm8⟩:=iM hm7;have:=Ic hm8;subst this;rw[e1]at hlt ⊢
 have plain:∀{o:Oper} {d:Option Nat} {s:bN},uI P hs ops o=some ⟨d,none,s⟩->o.guard=none/\o.dst=d/\K8 P hs o=some s:=by
  intro o d s hg;obtain⟨q1,q2,q3⟩:=IN hg;rcases q3 with⟨q3,_⟩|⟨_,_,_,_,_,_,_,q⟩
  ·exact⟨q3,q2.symm,q1⟩
  ·cases q
 obtain⟨u1,u2,u3⟩:=plain g11
 have hmv:(o11.op= .move (.tmp 0)\/o11.op= .assign (.tmp 0)):=by
  unfold K8 at u3;split at u3
  case h_1 x hx=>simp only[Qd,Qc,Qf,bN.mM.injEq]at u3;obtain⟨z,hz,rfl⟩:=u3;rw[wy hz]at hx;exact .inl hx
  case h_2 x hx=>simp only[Qd,Qc,Qf,bN.mM.injEq]at u3;obtain⟨z,hz,rfl⟩:=u3;rw[wy hz]at hx;exact .inr hx
  all_goals (exfalso)
  all_goals (repeat' (first|(cases u3;done)|split at u3|(simp only[Qd,Qc]at u3;obtain⟨_,_,u3⟩:=u3)|(obtain⟨_,_,u3⟩:=u3)))
 refine wpListIn_plain u1 fun K hK=> ?_
 have hev:a.eval (.tmp 0)= .func (.yield l) #[] #[]:=hB.y
 have step1:∀{Q':Exit->Act->World->Prop},K (a.put (some 11) (.func (.yield l) #[] #[])) W->o11.wpIn (WF none) 0 P a W K Q':=by
  intro Q' hk;unfold Oper.wpIn;rw[Oper.semAt_eq _ _ _ (DI u3)]
  have hrun:(execOp a.eval o11).run P W= .ok (.value (.func (.yield l) #[] #[])) W:=by
   rcases hmv with hx|hx<;>simp[execOp,hx,hev]
  rw[hrun];refine⟨fun _ _=>trivial,?_⟩
  show K (a.put o11.dst _) W;rw[u2];exact hk
 refine step1 (hK _ _ ?_);have hsz:(a.put (some 11) (.func (.yield l) #[] #[])).tmps.size=19:=by simp[Act.put,hB.size]
 have hne:∀t,t≠11->(a.put (some 11) (.func (.yield l) #[] #[])).tmps.getD t undef=a.tmps.getD t undef:=fun t ht=>L9 ht
 have h11:(a.put (some 11) (.func (.yield l) #[] #[])).tmps.getD 11 undef= .func (.yield l) #[] #[]:=by
  simp[Act.put,QN,Array.getElem?_setIfInBounds_self_of_lt (show 11<a.tmps.size by rw[hB.size];omega)]
 have hrel:Rel (EB W X hX (fun t=>if t=11 then some (.func (.yield l) #[] #[])else zP (.func (.yield l) #[] #[]) c t)) (SB (B1 es fun t=>if t=3 then .int .i64 m else .any)) (a.put (some 11) (.func (.yield l) #[] #[])) W (fun _=>undef):=by
  refine Ur hX hB.defers hsz (fun t v hv=> ?_) (fun t=> ?_)
  ·by_cases h0:t=11
   ·rw[Qr h0]at hv;injection hv with hv;rw[h0,h11,hv]
   ·rw[Qs h0]at hv;rw[hne t h0];exact hB.kt t v hv
  ·by_cases h0:t=11
   ·have:B1 es (fun t=>if t=3 then .int .i64 m else .any) t= .any:=by rw[h0];rfl
    rw[this];exact .any _
   ·rw[hne t h0];exact hB.env hc t
 have helt:es[m]?=some es[m]:=Qv hm;have hek:=hin.len _ (Q0 hm);have hld:=hin.ld _ (Q0 hm);have s12:uZ Gs 0 (SB (B1 es fun t=>if t=3 then .int .i64 m else .any)) ⟨some 12,none,.mM (.tmp 3)⟩=some ((SB (B1 es fun t=>if t=3 then .int .i64 m else .any)).cI (some 12) (.int .i64 m) none):=rfl
 generalize hS1:(SB (B1 es fun t=>if t=3 then .int .i64 m else .any)).cI (some 12) (.int .i64 m) none=S1 at s12
 have s13:uZ Gs 1 S1 ⟨some 13,none,.load none (.tmp 1)⟩=some (S1.cI (some 13) (.sl es) none):=by subst hS1;rfl
 generalize hS2:S1.cI (some 13) (.sl es) none=S2 at s13;have s14:uZ Gs 2 S2 ⟨some 14,none,.mM (.tmp 3)⟩=some (S2.cI (some 14) (.int .i64 m) none):=by subst hS2 hS1;rfl
 generalize hS3:S2.cI (some 14) (.int .i64 m) none=S3 at s14;have e13:S3.env 13= .sl es:=by subst hS3 hS2 hS1;rfl
 have e14:S3.env 14= .int .i64 m:=by subst hS3 hS2 hS1;rfl
 have s15:uZ Gs 3 S3 ⟨some 15,none,.pM k (.tmp 13) (.tmp 14)⟩=some (S3.cI (some 15) (.ref es[m]) none):=by
  simp only[uZ,SG.wanted,exec,bm.val,e13,e14];rw[Qr ⟨by omega,by omega⟩]
  simp only[QV,helt,hek,Qt,Qe]
 generalize hS4:S3.cI (some 15) (.ref es[m]) none=S4 at s15;have e15:S4.env 15= .ref es[m]:=by subst hS4;rfl
 have s16:uZ Gs 4 S4 ⟨some 16,none,.load nE (.tmp 15)⟩=some (S4.cI (some 16) (zY nE es[m]) none):=by
  simp only[uZ,SG.wanted,exec,bm.val,e15,hld,Qe]
 generalize hS5:S4.cI (some 16) (zY nE es[m]) none=S5 at s16;have f12:S5.env 12= .int .i64 m:=by subst hS5 hS4 hS3 hS2 hS1;rfl
 have f16:S5.env 16=zY nE es[m]:=by subst hS5;rfl
 have f3:S5.env 3= .int .i64 m:=by subst hS5 hS4 hS3 hS2 hS1;rfl
 have hrun:xf Gs 0 [⟨some 12,none,.mM (.tmp 3)⟩,⟨some 13,none,.load none (.tmp 1)⟩,⟨some 14,none,.mM (.tmp 3)⟩,⟨some 15,none,.pM k (.tmp 13) (.tmp 14)⟩,⟨some 16,none,.load nE (.tmp 15)⟩] (SB (B1 es fun t=>if t=3 then .int .i64 m else .any))=some S5:=by
  simp only[xf,s12,s13,s14,s15,s16]
 have hmap:[o12,o13,o14,o15,o16].mapM (uI P hs ops)=some [⟨some 12,none,.mM (.tmp 3)⟩,⟨some 13,none,.load none (.tmp 1)⟩,⟨some 14,none,.mM (.tmp 3)⟩,⟨some 15,none,.pM k (.tmp 13) (.tmp 14)⟩,⟨some 16,none,.load nE (.tmp 15)⟩]:=by
  simp only[List.mapM_cons,List.mapM_nil,g12,g13,g14,g15,g16,Qd,Qa,Option.pure_def]
 show wpListIn (WF none) 0 P ops Q ([o12,o13,o14,o15,o16]++[o17,o18]) _ W;refine U9 (E:=EB W X hX _) VF _ _ 0 _ S5 _ W _ hmap hrel (by simp[SB]) (fun o ho t ht=>⟨hlt o (by simp only[QA]at ho ⊢;right;rcases ho with h|h|h|h|h|h<;>simp_all) t ht,?_⟩) hrun (fun a5 W5 L5 h5=> ?_)
 ·have:=Jy (p:=fun t=>t≠0/\t≠1/\t≠11) hmap (by intro g hg t ht;simp only[QA,QR,or_false]at hg;rcases hg with rfl|rfl|rfl|rfl|rfl<;>(injection ht with ht;omega)) o ho t ht
  show(if t=11 then _ else zP _ _ t)=none
  rw[Qs this.2.2];unfold zP;rw[Qs this.1,Qs this.2.1]
 have hfr5:Fr none W W5:=BC h5;have v11:a5.tmps.getD 11 undef= .func (.yield l) #[] #[]:=h5.size.2 11 _ rfl;have v12:a5.tmps.getD 12 undef= .int .i64 m:=by have:=h5.env 12;rw[f12]at this;exact this.fm
 have r16:bf W5 X dg (zY nE es[m]) (a5.tmps.getD 16 undef):=by
  have:=h5.env 16;rw[f16]at this;exact this.bB (hin.cl _ (Q0 hm)) (fun b hb=> .inr hb)
 have hB5:BF (.func (.yield l) #[] #[]) c m a5:=⟨h5.defers.none rfl,h5.size.1,h5.size.2 0 _ rfl,h5.size.2 1 _ rfl,by have:=h5.env 3;rw[f3]at this;exact this.fm⟩
 obtain⟨fn,tmps,assign,body,hy,hround⟩:=hr W5 _ _ (hJ0 W5 hfr5) helt r16;obtain⟨w1,w2,w3⟩:=plain g17;obtain⟨gv,args,ts,hop,hgv,hargs⟩:=abP w3;have hgv:=wy hgv;subst hgv;obtain⟨x12,xs,ex,hx12,hxs⟩:=iM hargs;obtain⟨x16,xs',rfl,hx16,hxs'⟩:=iM hxs;have:=Ic hxs';subst this;rw[wy hx12,wy hx16]at ex;have hargs':args=#[.tmp 12,.tmp 16]:=by rw[<-Array.toArray_toList (xs:=args),ex]
 refine wpListIn_plain w1 fun K hK=> ?_
 unfold Oper.wpIn;rw[Oper.semAt_eq _ _ _ (DI w3)]
 have hrun17:(execOp a5.eval o17).run P W5= .ok (.round l fn tmps assign body) W5:=by
  have q1:a5.eval (.tmp 11)= .func (.yield l) #[] #[]:=v11;simp only[execOp,hop,resolve,q1,Deferred.ofValue,Sem.run_bind,Sem.run_pure,Result.andThen_ok,invoke,hargs'];have q4:a5.tmps[12]?.getD undef= .int .i64 m:=by rw[<-QN];exact v12
  simpa[Act.eval,q4]using hy
 rw[hrun17];refine⟨fun _ _=>trivial,(fun h=>by cases h),hround.mono ?_⟩
 rintro en W6 hen
 have fin:∀b:Bool,en= .returned (.bool b)->(b=true->J1 W6)->(b=false->Jx W6)->K (a5.put o17.dst (.bool b)) W6:=by
  rintro b rfl hj1 hjx;refine hK _ _ ?_;rw[w2];have hsz6:(a5.put (some 17) (.bool b)).tmps.size=19:=by simp[Act.put,hB5.size]
  have hne6:∀t,t≠17->(a5.put (some 17) (.bool b)).tmps.getD t undef=a5.tmps.getD t undef:=fun t ht=>L9 ht
  have h17:(a5.put (some 17) (.bool b)).tmps.getD 17 undef= .bool b:=by
   simp[Act.put,QN,Array.getElem?_setIfInBounds_self_of_lt (show 17<a5.tmps.size by rw[hB5.size];omega)]
  have hrel6:Rel (EB W6 (fun _=>False) (fun _ h=>h.elim) (zP (.func (.yield l) #[] #[]) c)) (SB fun t=>if t=17 then .bool b else if t=3 then .int .i64 m else .any) (a5.put (some 17) (.bool b)) W6 (fun _=>undef):=by
   refine Ur _ hB5.defers hsz6 (fun t v hv=> ?_) (fun t=> ?_)
   ·by_cases h0:t=17
    ·subst h0;cases hv
    ·rw[hne6 t h0];exact hB5.kt t v hv
   ·split
    ·rename_i h0;rw[h0,h17];exact .bool _
    ·rename_i h0;rw[hne6 t h0];split
     ·rename_i h3;rw[h3,hB5.i];exact .int _ _
     ·exact .any _
  have hmap18:[o18].mapM (uI P hs ops)=some [⟨some 18,none,.not (.tmp 17)⟩]:=by simp only[List.mapM_cons,List.mapM_nil,g18,Qd,Qa,Option.pure_def]
  refine AT (E:=EB W6 (fun _=>False) (fun _ h=>h.elim) _) VF _ _ 0 _ ((SB fun t=>if t=17 then .bool b else if t=3 then .int .i64 m else .any).cI (some 18) (.bool !b) none) _ W6 _ hmap18 hrel6 (by simp[SB]) (fun o ho t ht=>⟨hlt o (by simp only[QA]at ho ⊢;simp_all) t ht,?_⟩) rfl (fun a7 W7 L7 h7=> ?_)
  ·have:=Jy (p:=fun t=>t≠0/\t≠1) hmap18 (by intro g hg t ht;simp only[QA,QR,or_false]at hg;subst hg;injection ht with ht;omega) o ho t ht
   show zP _ _ t=none;unfold zP;rw[Qs this.1,Qs this.2]
  ·have hfr7:=BC h7;refine hQ a7 W7 b (BF.of h7 rfl) ?_ (fun hb=>hJ _ _ (hj1 hb) hfr7) (fun hb=>hJx _ _ (hjx hb) hfr7)
   have:=h7.env 18;have e18:((SB fun t=>if t=17 then .bool b else if t=3 then .int .i64 m else .any).cI (some 18) (.bool !b) none).env 18= .bool !b:=rfl
   rw[e18]at this;exact this.mE
 rcases hen with⟨rfl,hj⟩|⟨rfl,hj⟩
 ·exact fin true rfl (fun _=>hj) (fun h=>by cases h)
 ·exact fin false rfl (fun h=>by cases h) (fun _=>hj)
theorem aao{f:FuncId}{k:Nat}{nE:Option Nat}(hf:ib P f 19 (B8 k nE) [])(hin:I2 k nE es){l:Nat}(J:Nat->(Nat->Prop)->World->Prop)(Jx:World->Prop)
  (hc:∀i X W,J i X W->(∀b,X b->b<W.heap.size)/\bf W X dg (.ref [.sl es]) c) (hJ:∀i X W' W'',J i X W'->Fr none W' W''->J i X W'') (hJx:∀W' W'',Jx W'->Fr none W' W''->Jx W'')
  (hr:∀(m:Nat) (X:Nat->Prop) (W':World) (e:List PV) (v:Value),J (m+1) X W'->es[m]?=some e->bf W' X dg (zY nE e) v->W8 P l m v W' fun en W''=>(en= .returned (.bool true)/\∃X,J m X W'')\/(en= .returned (.bool false)/\Jx W''))
  (W:World) (h0:J es.length X W):CallsIn (WF none) 0 P f #[.func (.yield l) #[] #[],c] W fun en W'=>(∃v,en= .returned v)/\((∃X,J 0 X W')\/Jx W'):=by
 obtain⟨fn,hs,h1,h2,h3,h4,_⟩:=hf
 cases hb:fn.body with
 |none=>rw[hb]at h3;cases h3
 |some c0=>
 rw[hb]at h3;have h3:aK P 19 hs c0=some (B8 k nE):=h3
 have hres:fn.results.toList=[]:=by
  cases hq:fn.results.toList with
  |nil=>rfl
  |cons r rs=>rw[hq]at h4;cases r<;>simp only[oo]at h4<;>first|(split at h4<;>cases h4)|(simp only[Qb]at h4;obtain⟨_,_,h4⟩:=h4;cases h4)
 have hresr:∀(tm:Array Value) (W:World),(results fn tm).run P W= .ok (.tuple #[]) W:=by
  intro tm W;unfold results;rw[Array.mapM_eq_mapM_toList,hres];simp
 refine callsIn_of_wp (F:=WF none) (n:=0) h1 hb trivial ?_;obtain⟨cA,cB,rfl,hA,hB⟩:=Aa h3;obtain⟨cL,rfl,hL⟩:=Lb hB;obtain⟨cR,rfl,hR⟩:=aag hL;obtain⟨cR1,cR2,rfl,hR1,hR2⟩:=Aa hR;obtain⟨cT,cC,rfl,hT,hC⟩:=Aa hR1;obtain⟨oc,cS,cX,rfl,hoc,hcS,hcX⟩:=Pb hC;have:=O9 hcS;subst this;have:=aah hcX;subst this;have:=wy hoc;subst this;obtain⟨cM,cN,rfl,hM,hN⟩:=Aa hR2;obtain⟨cM2,rfl,hM2⟩:=Lb hM;obtain⟨cG,cH,rfl,hG,hH⟩:=Aa hM2;obtain⟨od,cV,cK,rfl,hod,hcV,hcK⟩:=Pb hH;have:=abW hcV;subst this;have:=O9 hcK;subst this;have:=wy hod;subst this;have hmax:=agt (hc _ _ _ h0).2;simp only[maxLen]at hmax
 have hargs:∀t,(#[Value.func (.yield l) #[] #[],c]++Array.replicate (fn.ntmps - (#[Value.func (.yield l) #[] #[],c]:Array Value).size) undef).getD t undef=if t=0 then .func (.yield l) #[] #[]else if t=1 then c else undef:=by
  intro t;rw[h2,QN,Array.getElem?_append]
  match t with
  |0=>rfl
  |1=>rfl
  |t+2=>
   simp only[List.size_toArray,QE,QZ];rw[Qs (by omega),Qs (by omega),Qs (by omega),Array.getElem?_replicate]
   split<;>rfl
 refine wpIn_seq ?_
 have hrel0:Rel (EB W X (hc _ _ _ h0).1 (zP (.func (.yield l) #[] #[]) c)) (SB (B1 es fun _=> .any)) {tmps:=#[Value.func (.yield l) #[] #[],c]++Array.replicate (fn.ntmps - (#[Value.func (.yield l) #[] #[],c]:Array Value).size) undef,defers:=[]} W (fun _=>undef):=by
  refine Ur _ rfl (by simp[h2]) (fun t v hv=> ?_) (fun t=> ?_)
  ·simp only;rw[hargs t];unfold zP at hv;split at hv
   ·rename_i e;rw[Qr e];injection hv
   ·rename_i e;rw[Qs e];split at hv
    ·rename_i e';rw[Qr e'];injection hv
    ·cases hv
  ·simp only;rw[hargs t];unfold B1;split
   ·rename_i e;subst e;exact(hc _ _ _ h0).2
   ·exact .any _
 have dA:∀g∈[(⟨some 4,none,.load none (.tmp 1)⟩:SG),⟨some 5,none,.len false (.tmp 4)⟩,⟨some 6,none,.bin .sub (.tmp 5) (.wW (.int .i64 1))⟩,⟨some 3,none,.mM (.tmp 6)⟩],∀t,g.d=some t->t≠0/\t≠1:=by
  intro g hg t ht;simp only[QA,QR,or_false]at hg;rcases hg with rfl|rfl|rfl|rfl<;>(injection ht with ht;omega)
 refine Zl hA (by simp) dA hrel0 rfl fun a1 W1 L1 r1=> ?_
 have hJ1:J es.length X W1:=hJ _ _ _ _ h0 (BC r1)
 have b1:BF (.func (.yield l) #[] #[]) c ((es.length:Int) - 1) a1:=by
  refine BF.of r1 ?_;show PV.int .i64 (IntKind.i64.wrap ((es.length:Int) - 1))=_;rw[wrap_small (by omega) (by omega)]
 refine wpIn_block ?_;refine wpIn_loop_ghost (fun n a W=>n<=es.length/\BF (.func (.yield l) #[] #[]) c ((n:Int) - 1) a/\∃X,J n X W) es.length ⟨QI _,b1,X,hJ1⟩ ?_
 rintro n a W ⟨hn,hb,X,hj⟩;refine wpIn_seq (wpIn_seq ?_)
 have dT:∀g∈[(⟨some 7,none,.mM (.tmp 3)⟩:SG),⟨some 8,none,.bin .geq (.tmp 7) (.wW (.int .i64 0))⟩],∀t,g.d=some t->t≠0/\t≠1:=by
  intro g hg t ht;simp only[QA,QR,or_false]at hg;rcases hg with rfl|rfl<;>(injection ht with ht;omega)
 refine Zl hT (by simp) dT (hb.rel (hX:=(hc _ _ _ hj).1) (hc _ _ _ hj).2 (fun _=>undef)) rfl fun a2 W2 L2 r2=> ?_
 have hj2:J n X W2:=hJ _ _ _ _ hj (BC r2);have b2:BF (.func (.yield l) #[] #[]) c ((n:Int) - 1) a2:=BF.of r2 rfl
 have t8:a2.eval (.tmp 8)= .bool (decide (0<=(n:Int) - 1)):=by
  have:=r2.env 8;exact(show bf _ _ _ (.bool (decide ((0:Int)<=(n:Int) - 1))) _ from this).mE
 refine wpIn_cond t8 ?_
 cases n with
 |zero=>
  rw[Qh (by omega)]
  refine wpIn_exit ?_;simp only[Exit.then,Exit.inBlock,Qt]
  exact⟨b2.defers,_,hresr _ _,⟨_,rfl⟩,.inl ⟨X,hj2⟩⟩
 |succ m=>
  rw[Qg (by omega)]
  refine wpIn_skip ?_;have e1:((m+1:Nat):Int) - 1=(m:Int):=by omega
  rw[e1]at b2;refine wpIn_seq (wpIn_block (wpIn_seq ?_));refine acx (J0:=J (m+1) X) (J1:=fun W=>∃X,J m X W) (Jx:=Jx) hin (hc _ _ _ hj2).1 (hc _ _ _ hj2).2 (fun W' hW'=>hJ _ _ _ _ hj2 hW') (fun _ _ ⟨X',q1⟩ q2=>⟨X',hJ _ _ _ _ q1 q2⟩) hJx (fun W' e v q1 q2 q3=>hr m X W' e v q1 q2 q3) hG (by omega) b2 fun a3 W3 b hb3 t18 hj3 hx3=> ?_
  refine wpIn_cond (t:= !b) t18 ?_
  cases b with
  |false=>
   refine wpIn_ret ?_;exact⟨hb3.defers,_,hresr _ _,⟨_,rfl⟩,.inr (hx3 rfl)⟩
  |true=>
   refine wpIn_skip ?_
   have dN:∀g∈[(⟨some 9,none,.mM (.tmp 3)⟩:SG),⟨some 10,none,.bin .sub (.tmp 9) (.wW (.int .i64 1))⟩,⟨some 3,none,.mM (.tmp 10)⟩],∀t,g.d=some t->t≠0/\t≠1:=by
    intro g hg t ht;simp only[QA,QR,or_false]at hg;rcases hg with rfl|rfl|rfl<;>(injection ht with ht;omega)
   obtain⟨X',hj4⟩:=hj3 rfl;refine Zl hN (by simp) dN (hb3.rel (hX:=(hc _ _ _ hj4).1) (hc _ _ _ hj4).2 (fun _=>undef)) rfl fun a4 W4 L4 r4=> ?_
   refine⟨m,Nat.lt_succ_self m,by omega,BF.of r4 ?_,X',hJ _ _ _ _ hj4 (BC r4)⟩
   show PV.int .i64 (IntKind.i64.wrap ((m:Int) - 1))=_;rw[wrap_small (by omega) (by omega)]
end
end Go.TQ
end
noncomputable section
namespace Go.TQ
open Go.RowKit
section
variable {P : Program} {E : En} {S : St} {a : Act} {w : World} {L : Nat -> Value}
theorem Rel.Jd(h:Rel E S a w L){w':World}{a':Act}{env':Nat->PV}(rd:Option Nat)(nd:Bool)(kt:Nat->Option Value)(wk:World)
  (hc:∀(b:Nat) (o:Obj),w.heap[b]?=some o->V9 o=true->w'.heap[b]?=some o) (he:∀t,bf w (bp E S L) (S.gh L) (env' t) (a'.tmps.getD t undef))
  (hm:Marks {E with rd:=rd,nd:=nd,kt:=kt,wk:=wk} a' w') (hs:a'.tmps.size=E.nt/\∀t v,kt t=some v->a'.tmps.getD t undef=v) (hf:FrE {E with rd:=rd,nd:=nd,kt:=kt,wk:=wk} w'):
  Rel {E with rd:=rd,nd:=nd,kt:=kt,wk:=wk} {S with env:=env'} a' w' L:=by
 have hcell:∀(p:Addr) (v:Value),w.cell? p=some v->w'.heap[p.block]?=w.heap[p.block]?:=by
  intro p v hp;unfold World.cell? at hp
  cases ho:w.heap[p.block]? with
  |none=>rw[ho]at hp;simp at hp
  |some o=>
   refine hc _ o ho ?_;rw[ho]at hp;cases o<;>first|rfl|(simp at hp)
 have hst:dI w w' (bp E S L) (bp E S L):=⟨fun p v hp hn=>⟨(World.cell?_of_block (hcell p v hp)).trans hp,hn⟩,fun b _ _ hb hn=>⟨hc b _ hb rfl,hn⟩⟩
 refine⟨hm,hs,fun t=>(he t).mono hst (Gh.le.refl _),fun id hid=> ?_,h.apart,h.fresh,hf,h.xi⟩
 have ho:=h.obj id hid
 cases hl:(S.H id).c.live with
 |false=>
  cases hcc:(S.H id).c with
  |dead=>trivial
  |box cs=>rw[hcc]at hl;cases hl
  |row e k es=>rw[hcc]at hl;cases hl
 |true=>
  have:=vK.mono (w':=w') hst (Gh.le.refl _) (fun b hb _=>by
   obtain⟨o,h1,h2⟩:=ho.cells hl hb;rw[h1]
   exact hc b o h1 (afp h2)) ho
  cases hcc:(S.H id).c with
  |dead=>trivial
  |box cs=>rw[hcc]at this;exact this
  |row e k es=>rw[hcc]at this;exact this
theorem Fr.putObj{rb:Option Nat}{w0:World}(h:Fr rb w0 w){l:Nat}(hl:w0.heap.size<=l)(o:Obj):Fr rb w0 (w.putObj l o):=
 ⟨h.os,h.tape,h.output,by rw[World.putObj_size];exact h.size,fun b hb hr=>by rw[World.putObj_heap_other (by omega)];exact h.block b hb hr,h.drawn⟩
def St.ug(S:St)(D:List Nat):St:={S with env:=fun t=>if t∈D then .any else S.env t}
theorem Rel.drop(h:Rel E S a w L)(D:List Nat):Rel E (S.ug D) a w L:=
 ⟨h.defers,h.size,fun t=>by
  show bf _ _ _ (if t∈D then .any else S.env t) _
  split
  ·exact .any _
  ·exact h.env t,h.obj,h.apart,h.fresh,h.fr,h.xi⟩
theorem ajo(r:Loop):isC (.loop r)=false:=rfl
theorem afc{x:World}(h:AH x w){l:Nat}(hl:x.heap.size<=l)(o:Obj):AH x (w.putObj l o):=
 ⟨by rw[World.putObj_size];exact h.size,fun k p hk hp=>by
  have hlt:k<x.heap.size:=(Array.getElem?_eq_some_iff.1 hk).1;rw[World.putObj_heap_other (by omega)]
  exact h.same k p hk hp⟩
theorem IT{l:Nat}{o:Obj}(hl:w.heap[l]?=some o)(ho:V9 o=false)(o':Obj):∀(b:Nat) (q:Obj),w.heap[b]?=some q->V9 q=true->(w.putObj l o').heap[b]?=some q:=by
 intro b q hb hq
 have:b≠l:=by
  intro e;subst e;rw[hl]at hb;injection hb with hb
  subst hb;rw[ho]at hq;cases hq
 rw[World.putObj_heap_other this];exact hb
def abv:Exit->Option Code
 | .ret=>some .ret
 | .exit i=>some (.exit i)
 | .goto l=>some (.goto l)
 |_=>none
def W9(I:St->Prop)(S:St):Prop:=∃S',(∀(E:En) (a:Act) (w:World) (L:Nat->Value),Rel E S a w L->∃L',Rel E S' a w L')/\I S'
theorem W9.of{I:St->Prop}{S:St}(h:I S):W9 I S:=⟨S,fun _ _ _ L h=>⟨L,h⟩,h⟩
def agy(D:List Nat)(I:St->Prop)(Q:Exit->St->Prop):Exit->St->Prop
 | .normal,T=>W9 I (T.ug D)
 | .ret,T=>Q .ret (T.ug D)
 | .exit i,T=>Q (.exit i) (T.ug D)
 | .goto l,T=>Q (.goto l) (T.ug D)
 |_,_=>False
theorem aie(ts:Array Value)(p0 p1:Nat)(u v:Value):(#[p0,p1].zip #[u,v]).foldl (fun tmps x=>match x with|(t,a)=>tmps.setIfInBounds t a) ts=(ts.setIfInBounds p0 u).setIfInBounds p1 v:=by
 rw[<-Array.foldl_toList,Array.toList_zip];rfl
theorem ajp{ts:Array Value}{p0 p1 t:Nat}{u v:Value}(h0:p0<ts.size)(h1:p1<ts.size):((ts.setIfInBounds p0 u).setIfInBounds p1 v).getD t undef=if t=p1 then v else if t=p0 then u else ts.getD t undef:=by
 simp only[QN]
 by_cases q1:t=p1
 ·subst q1;rw[Qr rfl,Array.getElem?_setIfInBounds_self_of_lt (by simpa using h1)]
  rfl
 ·rw[Qs q1,Array.getElem?_setIfInBounds_ne (fun e=>q1 e.symm)]
  by_cases q0:t=p0
  ·subst q0;rw[Qr rfl,Array.getElem?_setIfInBounds_self_of_lt h0];rfl
  ·rw[Qs q0,Array.getElem?_setIfInBounds_ne (fun e=>q0 e.symm)]
theorem aho{nt:Nat}{tg p0 p1:Nat}{assign body:Code}{f:FuncId}{k:Nat}{nE:Option Nat}{es:List (List PV)}{Q:Exit->St->Prop}(hf:ib P f 19 (B8 k nE) [])(hin:I2 k nE es)(hna:Am assign=true)(hnb:Am body=true)
  (hp0:p0<nt) (hp1:p1<nt) (_htg:tg∉kX (.rangeFunc (.tmp tg) #[p0,p1] assign body)) (I:Nat->St->Prop)
  (h0:W9 (I es.length) (S.ug (kX (.rangeFunc (.tmp tg) #[p0,p1] assign body)))) (hI:∀i T,I i T->T.env tg= .bH f [.ref [.sl es]])
  (hround:∀m T e,I (m+1) T->es[m]?=some e->V P nt assign (PH (V P nt body (agy (kX (.rangeFunc (.tmp tg) #[p0,p1] assign body)) (I m) Q)) (fun _ _=>False)) {T with env:=bF (bF T.env p0 (.int .i64 m)) p1 (zY nE e)})
  (hend:∀T,I 0 T->Q .normal T):V P nt (.rangeFunc (.tmp tg) #[p0,p1] assign body) Q S:=by
 intro E hE hk a w L hrel;generalize hD:kX (.rangeFunc (.tmp tg) #[p0,p1] assign body)=D at*;have hk1:∀t∈D,E.kt t=none:=by rw[<-hD];exact hk.1
 obtain⟨hrd,hnd⟩:E.rd=none/\E.nd=false:=by
  rcases hk.2 with h|h
  ·exact h
  ·cases h
 have hDa:∀t∈kX assign,t∈D:=by rw[<-hD];intro t ht;simp only[kX,Qz];exact .inl (.inr ht)
 have hDb:∀t∈kX body,t∈D:=by rw[<-hD];intro t ht;simp only[kX,Qz];exact .inr ht
 have hD0:p0∈D:=by rw[<-hD];simp[kX]
 have hD1:p1∈D:=by rw[<-hD];simp[kX]
 have hclo:∀{i:Nat} {T:St} {w':World} {L':Nat->Value},I i T->Rel E T a w' L'->∃c,a.tmps.getD tg undef= .func (.func f) #[] #[c]/\bf w' (bp E T L') dg (.ref [.sl es]) c:=by
  intro i T w' L' hi hr;have:=hr.env tg;rw[hI i T hi]at this;obtain⟨vs,hv,hrv⟩:=this.wX;obtain⟨c,vs',rfl,hc,hr'⟩:=hrv.cons_inv;have:=hr'.nq;subst this;exact⟨c,hv,hc.closed rfl (fun b hb=>hb)⟩
 obtain⟨S0,hw0,h0⟩:=h0;obtain⟨L,hrel0⟩:=hw0 E a w L (hrel.drop D);obtain⟨c,hgv,hc0⟩:=hclo h0 hrel0;rw[hrd];refine wpIn_rangeFunc ?_;intro fn _;obtain⟨rec,hrec⟩:∃rec:LoopState->Option Code->Loop,rec=fun st pe=>{state:=st,pending:=pe,fn,tmps:=a.tmps,params:=#[p0,p1],assign,body,defers:=w.heap.size}:=⟨_,rfl⟩
 obtain⟨W1,hW1⟩:∃W1,(w.alloc (.deferred (some []))).alloc (.loop (rec .ready none))=W1:=⟨_,rfl⟩
 have hL1:W1.heap[w.heap.size+1]?=some (.loop (rec .ready none)):=by
  rw[<-hW1];have:=World.alloc_heap_new (w.alloc (.deferred (some []))) (.loop (rec .ready none));rwa [World.size_alloc]at this
 have hK1:W1.heap[w.heap.size]?=some (.deferred (some [])):=by
  rw[<-hW1];exact(Below.heap_alloc _ _ _ (by simp)).trans (World.alloc_heap_new w _)
 let J:Nat->(Nat->Prop)->World->Prop:=fun i X W=>∃T L',X=bp E T L'/\I i T/\Rel E T a W L'/\W.heap[w.heap.size+1]?=some (.loop (rec .ready none))/\W.heap[w.heap.size]?=some (.deferred (some []))
 let Jx:World->Prop:=fun W=>∃en j T L',abv en=some j/\Q en T/\Rel E T a W L'/\W.heap[w.heap.size+1]?=some (.loop (rec .done (some j)))/\W.heap[w.heap.size]?=some (.deferred (some []))
 have grow:∀{T:St} {L':Nat->Value} {W' W'':World},Rel E T a W' L'->Fr none W' W''->Rel E T a W'' L':=fun h hf=>(h.grow hf.os hf.tape hf.output hf.size (fun b hb=>hf.block b hb (by simp)) hf.drawn).1
 have ew:∀{W' W'':World} {b:Nat} {o:Obj},Fr none W' W''->W'.heap[b]?=some o->W''.heap[b]?=some o:=fun hf hb=>by rw[hf.block _ (Array.getElem?_eq_some_iff.1 hb).1 (by simp)];exact hb
 have hE0:E.w0.heap.size<=w.heap.size:=hrel.fr.size;have hEk:E.wk.heap.size<=w.heap.size:=hrel.fr.ko.size
 have hW1s:∀(b:Nat),b<w.heap.size->W1.heap[b]?=w.heap[b]?:=by
  intro b hb;rw[<-hW1];exact(Below.heap_alloc _ _ _ (by simp;omega)).trans (Below.heap_alloc _ _ _ hb)
 have hrel1:Rel E S0 a W1 L:=(hrel0.grow (w':=W1) (by rw[<-hW1];rfl) (by rw[<-hW1];rfl) (by rw[<-hW1];rfl) (by rw[<-hW1];simp;omega) hW1s (by rw[<-hW1];exact QI _)).1
 have old:∀d∈a.defers,∃Do,d={target:= .collected Do,args:=#[]}/\E.w0.heap.size<=Do/\Do<w.heap.size:=by
  intro d hd;obtain⟨Do,q1,q2,q3⟩:=hrel.defers.at_ d hd
  exact⟨Do,q1,q2,(Array.getElem?_eq_some_iff.1 q3).1⟩
 have hrounds:∀(m:Nat) (X:Nat->Prop) (W':World) (e:List PV) (v:Value),J (m+1) X W'->es[m]?=some e->bf W' X dg (zY nE e) v->W8 P (w.heap.size+1) m v W' fun en W''=>(en= .returned (.bool true)/\∃X,J m X W'')\/(en= .returned (.bool false)/\Jx W''):=by
  rintro m X W' e v ⟨T,L',rfl,hi,hr,hl,hk⟩ hem hrep;refine⟨fn,(a.tmps.setIfInBounds p0 (.int .i64 m)).setIfInBounds p1 v,assign,body,by rw[run_yield hl (by rw[hrec];rfl)];simp only[hrec];rw[<-aie],?_⟩
  refine roundIn_of_wpIn (F:=WF none) trivial ?_
  let E1:En:={E with rd:=some (w.heap.size+1),nd:=true,kt:=fun t=>if t∈D then none else some (a.tmps.getD t undef),wk:=W'}
  have hget:∀t,((a.tmps.setIfInBounds p0 (.int .i64 m)).setIfInBounds p1 v).getD t undef=if t=p1 then v else if t=p0 then .int .i64 m else a.tmps.getD t undef:=by
   intro t;exact ajp (by rw[hr.size.1,hE];exact hp0) (by rw[hr.size.1,hE];exact hp1)
  have hrel2:Rel E1 {T with env:=bF (bF T.env p0 (.int .i64 m)) p1 (zY nE e)} {tmps:=(a.tmps.setIfInBounds p0 (.int .i64 m)).setIfInBounds p1 v,defers:=[]} W' L':=by
   refine hr.Jd (some (w.heap.size+1)) true _ W' (fun _ _ hb _=>hb) (fun t=> ?_) (Marks.nil rfl) ⟨by simp only[Array.size_setIfInBounds];exact hr.size.1,fun t u hu=> ?_⟩ ⟨hr.fr.toFr,AH.refl _⟩
   ·simp only;rw[hget t];simp only[bF];split
    ·exact hrep.mono (dI.of fun _ hn=>hn) (dg.le _)
    ·split
     ·exact .int _ _
     ·exact hr.env t
   ·simp only at hu ⊢;rw[hget t];split at hu
    ·cases hu
    ·rename_i hnt;injection hu with hu
     rw[Qs (fun e:t=p1=>hnt (by rw[e];exact hD1)),Qs (fun e:t=p0=>hnt (by rw[e];exact hD0)),hu]
  have hV:=hround m T e hi hem;have hw1:=hV E1 hE ⟨fun t ht=>Qr (hDa t ht),.inr hna⟩ _ W' L' hrel2
  refine wpIn_mono hw1 ?_;rintro en a1 w1 ⟨S1,L1,hr1,hq1⟩
  cases en with
  |exit i=>exact hq1.elim
  |goto i=>exact hq1.elim
  |ret=>exact hq1.elim
  |panic ch=>exact hq1.elim
  |outgrown=>exact hq1.elim
  |normal=>
   have hl1:w1.heap[w.heap.size+1]?=some (.loop (rec .ready none)):=hr1.fr.ko.same _ _ hl rfl;have hd1:a1.defers=[]:=hr1.defers.none rfl;refine⟨_,run_beginRound hl1 (by rw[hrec]),?_⟩
   generalize hw2:w1.putObj (w.heap.size+1) (.loop {rec .ready none with state:= .busy})=w2
   have hrec2:({rec .ready none with state:= .busy}:Loop)=rec .busy none:=by rw[hrec]
   rw[hrec2]at hw2;have hlt1:w.heap.size+1<w1.heap.size:=(Array.getElem?_eq_some_iff.1 hl1).1;have hl2:w2.heap[w.heap.size+1]?=some (.loop (rec .busy none)):=by rw[<-hw2];exact World.putObj_heap_same hlt1
   have hrel3:Rel {E with rd:=some (w.heap.size+1),nd:=true,kt:=fun t=>if t∈D then none else some (a.tmps.getD t undef),wk:=w2} S1 a1 w2 L1:=by
    refine hr1.Jd (some (w.heap.size+1)) true _ w2 (by rw[<-hw2];exact IT hl1 rfl _) (fun t=>hr1.env t) (Marks.nil hd1) hr1.size ⟨?_,AH.refl _⟩
    rw[<-hw2];exact hr1.fr.toFr.putObj (by show E.w0.heap.size<=_;omega) _
   have hw3:=hq1 {E with rd:=some (w.heap.size+1),nd:=true,kt:=fun t=>if t∈D then none else some (a.tmps.getD t undef),wk:=w2} hE ⟨fun t ht=>Qr (hDb t ht),.inr hnb⟩ a1 w2 L1 hrel3
   refine wpIn_mono hw3 ?_;rintro en a3 w3 ⟨S3,L3,hr3,hq3⟩;have hl3:w3.heap[w.heap.size+1]?=some (.loop (rec .busy none)):=hr3.fr.ko.same _ _ hl2 rfl;have hlt3:w.heap.size+1<w3.heap.size:=(Array.getElem?_eq_some_iff.1 hl3).1
   have stay:∀(b:Nat) (o:Obj),b≠w.heap.size+1->W'.heap[b]?=some o->isC o=false->∀o',(w3.putObj (w.heap.size+1) o').heap[b]?=some o:=by
    intro b o hne hb ho o';rw[World.putObj_heap_other hne];refine hr3.fr.ko.same b o ?_ ho;rw[<-hw2,World.putObj_heap_other hne];exact hr1.fr.ko.same b o hb ho
   have back:∀o',Rel E (S3.ug D) a (w3.putObj (w.heap.size+1) o') L3:=by
    intro o'
    have:=hr3.Jd (w':=w3.putObj (w.heap.size+1) o') (a':=a) (env':=(S3.ug D).env) E.rd E.nd E.kt E.wk (IT hl3 rfl _) (fun t=>by
      show bf _ _ _ (if t∈D then .any else S3.env t) _
      split
      ·exact .any _
      ·rename_i hnt;have h4:=hr3.size.2 t (a.tmps.getD t undef) (Qs hnt);rw[<-h4];exact hr3.env t) ⟨hr.defers.none,hr.defers.nodup,fun d hd=>by
      obtain⟨Do,q1,q2,q3⟩:=hr.defers.at_ d hd
      obtain⟨Do',q4,_,q6⟩:=old d hd;have:Do=Do':=by rw[q1]at q4;injection q4 with q4;injection q4
      subst this
      exact⟨Do,q1,q2,stay Do _ (by omega) q3 rfl _⟩⟩ hr.size ⟨hr3.fr.toFr.putObj (by show E.w0.heap.size<=_;omega) _,⟨by rw[World.putObj_size];show E.wk.heap.size<=_;omega,fun b o hb ho=>stay b o (by have hb':b<E.wk.heap.size:=(Array.getElem?_eq_some_iff.1 hb).1;omega) (hr.fr.ko.same b o hb ho) ho _⟩⟩
    exact this
   have hk3:∀o',(w3.putObj (w.heap.size+1) o').heap[w.heap.size]?=some (.deferred (some [])):=fun o'=>stay _ _ (by omega) hk rfl o'
   have leave:∀j,abv en=some j->Q en (S3.ug D)->∃v w',(Instr.endRound (w.heap.size+1) (some j)).run P w3= .ok v w'/\((Ending.returned v= .returned (.bool true)/\∃X,J m X w')\/(Ending.returned v= .returned (.bool false)/\Jx w')):=by
    intro j hj hq;refine⟨_,_,run_endRound (some j) hl3,.inr ⟨rfl,en,j,S3.ug D,L3,hj,hq,back _,?_,hk3 _⟩⟩;rw[World.putObj_heap_same hlt3,hrec];rfl
   cases en with
   |normal=>
    obtain⟨S5,hw5,hi5⟩:=hq3;obtain⟨L5,hr5⟩:=hw5 E a _ L3 (back _);refine⟨_,_,run_endRound none hl3,.inl ⟨rfl,_,S5,L5,rfl,hi5,hr5,?_,hk3 _⟩⟩;rw[World.putObj_heap_same hlt3,hrec];rfl
   |ret=>exact leave _ rfl hq3
   |exit i=>exact leave _ rfl hq3
   |goto i=>exact leave _ rfl hq3
   |panic ch=>exact hq3.elim
   |outgrown=>exact hq3.elim
 have hcalls:=aao (P:=P) (c:=c) (l:=w.heap.size+1) hf hin J Jx
  (fun i X W ⟨T,L',hX,hi,hr,_,_⟩=>by
   subst hX;obtain⟨c',h1,h2⟩:=hclo hi hr;rw[hgv]at h1;injection h1 with _ _ h1
   have:c'=c:=by have:=congrArg (fun a:Array Value=>a.toList) h1;simpa using this.symm
   subst this
   exact⟨fun b hb=>Bl hr hb,h2⟩)
  (fun i X W' W'' ⟨T,L',hX,hi,hr,hl,hk⟩ hfr=>⟨T,L',hX,hi,grow hr hfr,ew hfr hl,ew hfr hk⟩)
  (fun W' W'' ⟨en,j,T,L',h1,h2,hr,hl,hk⟩ hfr=>⟨en,j,T,L',h1,h2,grow hr hfr,ew hfr hl,ew hfr hk⟩)
  hrounds W1 (X:=bp E S0 L) ⟨S0,L,rfl,h0,hrel1,hL1,hK1⟩
 refine⟨w.heap.size+1,[{target:= .collected w.heap.size,args:=#[]}],W1,{target:= .fn (.func f) #[c],args:=#[.func (.yield (w.heap.size+1)) #[] #[]]},W1,f,#[.func (.yield (w.heap.size+1)) #[] #[],c],W1,?_,?_,fun _ _=>trivial,?_,(fun h=>by cases h),hcalls.mono ?_⟩
 ·rw[<-hW1,hrec];exact run_enterLoop_outer _ _ _ _ _
 ·have:a.eval (.tmp tg)= .func (.func f) #[] #[c]:=hgv
  have h2:(#[]++#[Operand.const (Value.func (Fn.yield (w.heap.size+1)) #[] #[])].map a.eval:Array Value)=#[.func (.yield (w.heap.size+1)) #[] #[]]:=by
   rw[Array.empty_append];simp[Act.eval]
  simp only[resolve,this,Deferred.ofValue];rw[h2];rfl
 ·have hen:Enters P f:=hf.enters;simp only[invoke];exact qa hen _
 ·rintro en W' ⟨⟨v,rfl⟩,hW'⟩
  have marks:∀{T:St} {L':Nat->Value} (o':Obj),Rel E T a W' L'->W'.heap[w.heap.size+1]?=some o'->V9 o'=false->W'.heap[w.heap.size]?=some (.deferred (some []))->∀o'',Rel E T {a with defers:=[{target:= .collected w.heap.size,args:=#[]}]++a.defers} (W'.putObj (w.heap.size+1) o'') L':=by
   intro T L' o' hr hl ho hk o'';refine hr.Jd (env':=T.env) E.rd E.nd E.kt E.wk (IT hl ho _) (fun t=>hr.env t) ⟨(fun e=>by rw[hnd]at e;cases e),?_,fun d hd=> ?_⟩ hr.size ⟨hr.fr.toFr.putObj (by omega) _,afc hr.fr.ko (by omega) _⟩
   ·rw[List.singleton_append,List.nodup_cons];refine⟨fun hmem=> ?_,hr.defers.nodup⟩
    obtain⟨Do,q1,_,q3⟩:=old _ hmem;injection q1 with q1
    injection q1 with q1
    omega
   ·rcases Qz.1 hd with hd|hd
    ·rw[List.mem_singleton.1 hd];exact⟨_,rfl,hE0,by rw[World.putObj_heap_other (by omega)];exact hk⟩
    ·obtain⟨Do,q1,q2,q3⟩:=hr.defers.at_ d hd
     obtain⟨Do',q4,_,q6⟩:=old d hd;have:Do=Do':=by rw[q1]at q4;injection q4 with q4;injection q4
     subst this;exact⟨Do,q1,q2,by rw[World.putObj_heap_other (by omega)];exact q3⟩
  rcases hW' with⟨X,T,L',_,hi,hr,hl,hk⟩|⟨en,j,T,L',hj,hq,hr,hl,hk⟩
  ·have hend1:=run_endLoop (P:=P) hl (by rw[hrec];intro e;cases e)
   exact⟨none,_,by rw[hend1,hrec],T,L',marks _ hr hl rfl hk _,hend T hi⟩
  ·have hend1:=run_endLoop (P:=P) hl (by rw[hrec];intro e;cases e)
   obtain⟨p,o',hp,hrun⟩:∃p o',p=some j/\(Instr.endLoop (w.heap.size+1)).run P W'= .ok p (W'.putObj (w.heap.size+1) o'):=⟨_,_,by rw[hrec],hend1⟩
   subst hp;have hfin:=marks _ hr hl rfl hk o';refine⟨some j,_,hrun,?_⟩
   cases en with
   |ret=>injection hj with hj;subst hj;exact wpIn_ret ⟨T,L',hfin,hq⟩
   |exit i=>injection hj with hj;subst hj;exact wpIn_exit ⟨T,L',hfin,hq⟩
   |goto i=>injection hj with hj;subst hj;exact wpIn_goto ⟨T,L',hfin,hq⟩
   |normal=>cases hj
   |panic ch=>cases hj
   |outgrown=>cases hj
def SC.sP:SC->List Nat
 | .uC gs| .sC _ gs=>gs.filterMap (·.d)
 | .seq x y| .cond _ x y=>x.sP++y.sP
 | .block _ x| .loop x=>x.sP
 | .Ec _ ps x y=>ps++x.sP++y.sP
 |_=>[]
theorem RQ{hs:List Nat}{ops:Array Oper}:∀(l:List Oper) (gs:List SG),l.mapM (uI P hs ops)=some gs->l.filterMap (·.dst)=gs.filterMap (·.d)
 |[],gs,h=>by
  simp at h;subst h;rfl
 |o::l,gs,h=>by
  simp only[List.mapM_cons,Qd,Qc,Option.pure_def,Qf]at h;obtain⟨g,hg,gs',hgs,rfl⟩:=h;simp only[List.filterMap_cons,(IN hg).2.1,RQ l gs' hgs]
theorem q9{nt:Nat}{hs:List Nat}:∀(c:Code) (sc:SC),aK P nt hs c=some sc->kX c=sc.sP
 | .skip,sc,h=>by simp only[aK]at h;injection h with h;subst h;rfl
 | .exit _,sc,h=>by simp only[aK]at h;injection h with h;subst h;rfl
 | .ret,sc,h=>by simp only[aK]at h;injection h with h;subst h;rfl
 | .region _ ops false,sc,h=>by
  simp only[aK]at h;split at h
  ·rename_i gs hgs;split at h
   ·injection h with h;subst h;exact RQ _ _ hgs
   ·cases h
  ·cases h
 | .region _ ops true,sc,h=>by
  simp only[aK]at h;split at h
  ·rename_i gs hgs;split at h
   ·split at h
    ·injection h with h;subst h;exact RQ _ _ hgs
    ·cases h
   ·cases h
  ·cases h
 | .seq x y,sc,h=>by
  simp only[aK]at h;split at h
  ·rename_i hx hy;injection h with h;subst h;simp only[kX,SC.sP,q9 x _ hx,q9 y _ hy]
  ·cases h
 | .cond c x y,sc,h=>by
  simp only[aK]at h;split at h
  ·rename_i _ hx hy;injection h with h;subst h;simp only[kX,SC.sP,q9 x _ hx,q9 y _ hy]
  ·cases h
 | .block _ x,sc,h=>by
  simp only[aK,Qb]at h;obtain⟨x',hx,rfl⟩:=h;simp only[kX,SC.sP,q9 x _ hx]
 | .loop x,sc,h=>by
  simp only[aK,Qb]at h;obtain⟨x',hx,rfl⟩:=h;simp only[kX,SC.sP,q9 x _ hx]
 | .rangeFunc g ps x y,sc,h=>by
  simp only[aK]at h;split at h
  ·rename_i _ hx hy;split at h
   ·injection h with h;subst h;simp only[kX,SC.sP,q9 x _ hx,q9 y _ hy]
   ·cases h
  ·cases h
 | .goto _,sc,h=>by simp only[aK]at h;cases h
 | .scope _,sc,h=>by simp only[aK]at h;cases h
 | .label _,sc,h=>by simp only[aK]at h;cases h
 | .refuse _,sc,h=>by simp only[aK]at h;cases h
theorem agc{nt:Nat}{tg p0 p1:Nat}{x y:SC}{f:FuncId}{k:Nat}{nE:Option Nat}{es:List (List PV)}{Q:Exit->St->Prop}(hf:ib P f 19 (B8 k nE) [])(hin:I2 k nE es)
  (htg:tg∉SC.sP (.Ec (.tmp tg) [p0,p1] x y)) (I:Nat->St->Prop)
  (h0:W9 (I es.length) (S.ug (SC.sP (.Ec (.tmp tg) [p0,p1] x y)))) (hI:∀i T,I i T->T.env tg= .bH f [.ref [.sl es]])
  (hround:∀m T e,I (m+1) T->es[m]?=some e->VS P nt x (PH (VS P nt y (agy (SC.sP (.Ec (.tmp tg) [p0,p1] x y)) (I m) Q)) (fun _ _=>False)) {T with env:=bF (bF T.env p0 (.int .i64 m)) p1 (zY nE e)})
  (hend:∀T,I 0 T->Q .normal T):VS P nt (.Ec (.tmp tg) [p0,p1] x y) Q S:=by
 intro c hs hc;have hsets:=q9 c _ hc
 cases c with
 |rangeFunc g ps assign body=>
  simp only[aK]at hc;split at hc
  ·rename_i g' x' y' hg hx hy;split at hc
   ·rename_i hcond;injection hc with hc
    injection hc with e1 e2 e3 e4
    subst e1 e3 e4;simp only[Qm]at hcond;obtain⟨⟨hn1,hn2⟩,hps⟩:=hcond
    have hps2:ps=#[p0,p1]:=by
     have:=congrArg List.toArray e2;simpa using this
    subst hps2
    have hg2:g= .tmp tg:=by
     cases g with
     |tmp t=>simp only[bw]at hg;injection hg with hg;injection hg with hg;rw[hg]
     |const v=>simp only[bw,Qb]at hg;obtain⟨_,_,hg⟩:=hg;cases hg
     |global g=>simp[bw]at hg
     |func f=>simp[bw]at hg
    subst hg2;rw[<-hsets]at h0 hround htg;simp only[List.all_cons,List.all_nil,Bool.and_true,Qm,Qi]at hps;refine aho hf hin hn1 hn2 hps.1 hps.2 htg I h0 hI (fun m T e hi he=> ?_) hend
    refine(hround m T e hi he assign hs hx).mono ?_;intro en A hq
    cases en with
    |normal=>exact hq body hs hy
    |exit i=>exact hq
    |goto i=>exact hq
    |ret=>exact hq
    |panic ch=>exact hq
    |outgrown=>exact hq
   ·cases hc
  ·cases hc
 |region id ops d=>cases d<;>simp only[aK]at hc<;>(try split at hc)<;>(try split at hc)<;>(try split at hc)<;>cases hc
 |seq x y=>simp only[aK]at hc;split at hc<;>cases hc
 |cond c x y=>simp only[aK]at hc;split at hc<;>cases hc
 |block id c=>simp only[aK,Qb]at hc;obtain⟨_,_,hc⟩:=hc;cases hc
 |loop c=>simp only[aK,Qb]at hc;obtain⟨_,_,hc⟩:=hc;cases hc
 |_=>simp only[aK]at hc<;>cases hc
end
end Go.TQ
end
noncomputable section
namespace Go.TQ
section
variable {U : TU}
inductive et (U:TU) where
 |ty (T:U.Ty)
 |bH (f:FuncId) (cs:List (et U))
 |ref (a:et U)
 |agg (cs:List (et U))
inductive pJ (U:TU) where
 |one (T:U.Ty)
 |many (Ts:List U.Ty)
 |fn (a:et U)
@[reducible] def Gi (U:TU):List U.Ty->Type
 |[]=>Unit
 |T::l=>U.den T×Gi U l
mutual
@[reducible] def et.den:et U->Type
 | .ty T=>U.den T
 | .bH _ cs=>dH cs
 | .ref a=>a.den
 | .agg cs=>dH cs
@[reducible] def dH:List (et U)->Type
 |[]=>Unit
 |a::l=>a.den×dH l
end
@[reducible] def pJ.den:pJ U->Type
 | .one T=>U.den T
 | .many Ts=>Gi U Ts
 | .fn a=>a.den
def Da:(Ts:List U.Ty)->Gi U Ts->List PV
 |[],_=>[]
 |T::l,v=>dn T v.1::Da l v.2
mutual
def mf:(a:et U)->a.den->PV
 | .ty T,v=>dn T v
 | .bH f cs,v=> .bH f (gr cs v)
 | .ref a,v=> .ref (oS a v)
 | .agg cs,v=> .agg (gr cs v)
def oS:(a:et U)->a.den->List PV
 | .ty T,v=>U.pv T v
 | .bH f cs,v=>[.bH f (gr cs v)]
 | .ref a,v=>[.ref (oS a v)]
 | .agg cs,v=>gr cs v
def gr:(A_s:List (et U))->dH A_s->List PV
 |[],_=>[]
 |a::l,v=>mf a v.1::gr l v.2
end
def sQ:(r:pJ U)->r.den->PV
 | .one T,v=>dn T v
 | .many Ts,v=> .dP (Da Ts v)
 | .fn a,v=>mf a v
variable (K : TK U)
def tsK:(Ts:List U.Ty)->Gi U Ts->List (KV U)
 |[],_=>[]
 |T::l,v=>vT K T v.1::tsK l v.2
mutual
def MV:(a:et U)->a.den->KV U
 | .ty T,v=>vT K T v
 | .bH f cs,v=> .bH f (uJ cs v)
 | .ref a,v=> .ref (Gb a v)
 | .agg cs,v=> .agg (uJ cs v)
def Gb:(a:et U)->a.den->List (KV U)
 | .ty T,v=>K.cr T v
 | .bH f cs,v=>[.bH f (uJ cs v)]
 | .ref a,v=>[.ref (Gb a v)]
 | .agg cs,v=>uJ cs v
def uJ:(A_s:List (et U))->dH A_s->List (KV U)
 |[],_=>[]
 |a::l,v=>MV a v.1::uJ l v.2
end
def Va:(r:pJ U)->r.den->KV U
 | .one T,v=>vT K T v
 | .many Ts,v=> .dP (tsK K Ts v)
 | .fn a,v=>MV K a v
theorem aaP:∀(Ts:List U.Ty) (v:Gi U Ts),(tsK K Ts v).map KV.pv=Da Ts v
 |[],_=>rfl
 |T::l,v=>by rw[tsK,Da,QD,wM,aaP l v.2]
mutual
theorem YS:∀(a:et U) (v:a.den),(MV K a v).pv=mf a v
 | .ty T,v=>by rw[MV,mf];exact wM K T v
 | .bH f cs,v=>by rw[MV,mf,KV.pv,KV.ct,Ad cs v]
 | .ref a,v=>by rw[MV,mf,KV.pv,KV.ct,WU a v]
 | .agg cs,v=>by rw[MV,mf,KV.pv,KV.ct,Ad cs v]
theorem WU:∀(a:et U) (v:a.den),(Gb K a v).map KV.pv=oS a v
 | .ty T,v=>by rw[Gb,oS];exact K.qn T v
 | .bH f cs,v=>by rw[Gb,oS,QD,QO,KV.pv,KV.ct,Ad cs v]
 | .ref a,v=>by rw[Gb,oS,QD,QO,KV.pv,KV.ct,WU a v]
 | .agg cs,v=>by rw[Gb,oS,Ad cs v]
theorem Ad:∀(A_s:List (et U)) (v:dH A_s),(uJ K A_s v).map KV.pv=gr A_s v
 |[],_=>by rw[uJ,gr];rfl
 |a::l,v=>by rw[uJ,gr,QD,YS a v.1,Ad l v.2]
end
theorem NR:∀(r:pJ U) (v:r.den),(Va K r v).pv=sQ r v
 | .one T,v=>wM K T v
 | .many Ts,v=>by rw[Va,sQ,KV.pv,KV.ct,aaP]
 | .fn a,v=>YS K a v
def UC(lk:Lk U):(Ts:List U.Ty)->List (KV U)->Option (Gi U Ts)
 |[],xs=>match xs with|[]=>some ()|_=>none
 |T::l,xs=>match xs with
  |x::xs=>(match xc K lk T x with
   |some v=>(match UC lk l xs with|some vs=>some (v,vs)|none=>none)
   |none=>none)
  |[]=>none
def KV.Ux:KV U->Bool
 | .dF=>false
 |_=>true
def Z2:Option Nat->Nat->Bool
 |none,_=>true
 |some i,id=> !Nat.beq i id
def zx:List (KV U)->KV U
 |[x]=>x
 |_=> .any
def F4(T:U.Ty)(cs:List (KV U)):Option (U.den T):=
 match cs.all KV.Ux with
 |true=>K.dec T nH cs
 |false=>none
def Jl{α:Type}(f:FuncId)(x:KV U)(k:List (KV U)->Option α):Option α:=
 match x with
 | .bH g caps=>(match Nat.beq g f with|true=>k caps|false=>none)
 |_=>none
def Oe{α:Type}(x:KV U)(k:List (KV U)->Option α):Option α:=
 match x with
 | .agg cs=>k cs
 |_=>none
def Uu{α:Type}(x:KV U)(k:List (KV U)->Option α):Option α:=
 match x with
 | .ref cs=>k cs
 |_=>none
def Uw(xs:List (KV U)):Option Unit:=
 match xs with
 |[]=>some ()
 |_=>none
def Od{α β:Type}(xs:List (KV U))(k:KV U->Option α)(m:List (KV U)->Option β):Option (α×β):=
 match xs with
 |x::l=>(match k x with
  |some v=>(match m l with|some vs=>some (v,vs)|none=>none)
  |none=>none)
 |[]=>none
def Uv{α:Type}(S:aX U)(ex:Option Nat)(x:KV U)(k0 k1:List (KV U)->Option α):Option α:=
 match x with
 | .ref cells=>k0 cells
 | .ptr id ar off=>(match Nat.beq off 0&&Z2 ex id with
  |true=>(match Nat.beq (S.H id).ar ar with
   |true=>(match(S.H id).c with
    | .box cells=>k1 cells
    |_=>none)
   |false=>none)
  |false=>none)
 |_=>none
theorem AY{α:Type}{f:FuncId}{x:KV U}{k:List (KV U)->Option α}{r:α}(h:Jl f x k=some r):∃caps,x= .bH f caps/\k caps=some r:=by
 unfold Jl at h;split at h
 ·split at h
  ·rename_i hg;exact⟨_,by rw[QF hg],h⟩
  ·cases h
 ·cases h
theorem Fx{α:Type}{x:KV U}{k:List (KV U)->Option α}{r:α}(h:Oe x k=some r):∃cs,x= .agg cs/\k cs=some r:=by
 unfold Oe at h;split at h
 ·exact⟨_,rfl,h⟩
 ·cases h
theorem Oa{α:Type}{x:KV U}{k:List (KV U)->Option α}{r:α}(h:Uu x k=some r):∃cs,x= .ref cs/\k cs=some r:=by
 unfold Uu at h;split at h
 ·exact⟨_,rfl,h⟩
 ·cases h
theorem Oc{xs:List (KV U)}{r:Unit}(h:Uw xs=some r):xs=[]:=by
 unfold Uw at h;split at h
 ·rfl
 ·cases h
theorem KQ{α β:Type}{xs:List (KV U)}{k:KV U->Option α}{m:List (KV U)->Option β}{r:α×β}(h:Od xs k m=some r):∃x l,xs=x::l/\k x=some r.1/\m l=some r.2:=by
 unfold Od at h;split at h
 ·split at h
  ·rename_i h1;split at h
   ·rename_i h2;injection h with h
    subst h;exact⟨_,_,rfl,h1,h2⟩
   ·cases h
  ·cases h
 ·cases h
theorem Ob{α:Type}{S:aX U}{ex:Option Nat}{x:KV U}{k0 k1:List (KV U)->Option α}{r:α}(h:Uv S ex x k0 k1=some r):
  (∃cs,x= .ref cs/\k0 cs=some r)\/∃id ar cells,x= .ptr id ar 0/\Z2 ex id=true/\(S.H id).ar=ar/\(S.H id).c= .box cells/\k1 cells=some r:=by
 unfold Uv at h;split at h
 ·exact .inl ⟨_,rfl,h⟩
 ·split at h
  ·rename_i hoff;rw[Qm]at hoff;split at h
   ·rename_i hver;split at h
    ·rename_i hc;exact .inr ⟨_,_,_,by rw[QF hoff.1],hoff.2,QF hver,hc,h⟩
    ·cases h
   ·cases h
  ·cases h
 ·cases h
mutual
def Jw:(a:et U)->KV U->Option a.den
 | .ty T,x=>(match U.agg T with
  |true=>Oe x fun cs=>F4 K T cs
  |false=>F4 K T [x])
 | .bH f cs,x=>Jl f x fun caps=>z8 cs caps
 | .ref a,x=>Uu x fun cells=>A8 a cells
 | .agg cs,x=>Oe x fun cells=>z8 cs cells
def A8:(a:et U)->List (KV U)->Option a.den
 | .ty T,cells=>F4 K T cells
 | .bH f cs,cells=>Jl f (zx cells) fun caps=>z8 cs caps
 | .ref a,cells=>Uu (zx cells) fun cells=>A8 a cells
 | .agg cs,cells=>z8 cs cells
def z8:(A_s:List (et U))->List (KV U)->Option (dH A_s)
 |[],xs=>Uw xs
 |a::l,xs=>Od xs (fun x=>Jw a x) fun xs=>z8 l xs
end
mutual
def MO(S:aX U)(ex:Option Nat):(a:et U)->KV U->Option a.den
 | .ty T,x=>xc K S.lk T x
 | .bH f cs,x=>Jl f x fun caps=>q8 S ex cs caps
 | .ref a,x=>Uv S ex x (fun cells=>A8 K a cells) fun cells=>MN S ex a cells
 | .agg cs,x=>Oe x fun cells=>q8 S ex cs cells
def MN(S:aX U)(ex:Option Nat):(a:et U)->List (KV U)->Option a.den
 | .ty T,cells=>K.dec T S.lk cells
 | .bH f cs,cells=>Jl f (zx cells) fun caps=>q8 S ex cs caps
 | .ref a,cells=>Uv S ex (zx cells) (fun cells=>A8 K a cells) fun cells=>MN S ex a cells
 | .agg cs,cells=>q8 S ex cs cells
def q8(S:aX U)(ex:Option Nat):(A_s:List (et U))->List (KV U)->Option (dH A_s)
 |[],xs=>Uw xs
 |a::l,xs=>Od xs (fun x=>MO S ex a x) fun xs=>q8 S ex l xs
end
mutual
def et.depth:et U->Nat
 | .ty _=>2
 | .bH _ cs=>ox cs+1
 | .ref a=>a.depth+1
 | .agg cs=>ox cs+1
def ox:List (et U)->Nat
 |[]=>2
 |a::l=>max a.depth (ox l)
end
def pJ.plain:pJ U->Bool
 | .one T=>U.plain T
 | .many Ts=>Ts.all U.plain
 | .fn _=>false
def et.ad8:et U->Bool
 | .ref _=>true
 |_=>false
def pJ.ok:pJ U->Bool
 | .fn (.bH _ cs)=>cs.all et.ad8
 | .fn _=>false
 |_=>true
theorem afG{H:Nat->fG}{ex:Option Nat}:∀(n:Nat) {y:PV},y.gn=true->fz H ex n y=y
 |0,y,h=>by cases y<;>simp[PV.gn]at h<;>simp[fz,PV.closed]
 |n+1,y,h=>by cases y<;>simp[PV.gn]at h<;>simp[fz,PV.closed]
theorem ac8{H:Nat->fG}{ex:Option Nat}(n:Nat){l:List PV}(h:∀y∈l,y.gn=true):l.map (fz H ex n)=l:=by
 induction l with
 |nil=>rfl
 |cons x l ih=>rw[QD,afG n (h x (by simp)),ih fun y hy=>h y (by simp[hy])]
theorem Yu{S:aX U}{id ar:Nat}{T:U.Ty}{xs:List (U.den T)}(h:S.lk id ar T=some xs):(S.H id).ar=ar/\∃e k,(S.H id).c= .row e k T xs:=by
 unfold aX.lk at h;split at h
 ·rename_i hv;split at h
  ·rename_i e k T' ys hc;obtain⟨eq,rfl⟩:=nh h;subst eq;exact⟨QF hv,e,k,hc⟩
  ·cases h
 ·cases h
variable {K}
variable {S : aX U} {ex : Option Nat}
theorem af1(hex:∀id,ex=some id->∀e k T xs,(S.H id).c≠ .row e k T xs)(n:Nat){x:KV U}{y:PV}(h:lY S.lk x y)(K:TK U):fz S.st.H ex (n+1) x.pv=y:=by
 cases h with
 |int=>simp[KV.pv,fz,PV.closed]
 |bool=>simp[KV.pv,fz,PV.closed]
 |str=>simp[KV.pv,fz,PV.closed]
 |dF=>simp[KV.pv,fz]
 |sl T xs=>simp[KV.pv,fz,PV.closed]
 |iw A B xs=>simp[KV.pv,fz,PV.closed]
 |own id ar T xs h=>
  obtain⟨hv,e,k,hc⟩:=Yu h
  have hne:¬(some id=ex\/(S.st.H id).ar≠ar):=by
   rintro(h1|h1)
   ·exact hex id h1.symm _ _ _ _ hc
   ·exact h1 hv
  have hcp:(S.st.H id).c= .row e k (xs.map (U.pv T)):=by simp[aX.st,c8.pv,hc,dK.pv]
  simp only[KV.pv,fz];rw[Qs hne,hcp];simp only[List.map_map];congr 1;refine List.map_congr_left fun v _=> ?_
  exact ac8 n fun y hy=>K.gn T v y hy
theorem MS(hex:∀id,ex=some id->∀e k T xs,(S.H id).c≠ .row e k T xs)(n:Nat){xs:List (KV U)}{ys:List PV}(h:gU S.lk xs ys)(K:TK U):(xs.map KV.pv).map (fz S.st.H ex (n+1))=ys:=by
 induction h with
 |nil=>rfl
 |cons h _ ih=>rw[QD,QD,af1 hex n h K,ih]
theorem Li(hex:∀id,ex=some id->∀e k T xs,(S.H id).c≠ .row e k T xs)(n:Nat){T:U.Ty}{x:KV U}{v:U.den T}(h:xc K S.lk T x=some v):fz S.st.H ex (n+2) x.pv=dn T v:=by
 unfold xc at h;unfold dn;split at h
 ·rename_i ha;split at h
  ·rename_i cs;simp only[KV.pv,KV.ct,fz,MS hex n (K.lO _ _ _ _ h) K]
  ·cases h
 ·rename_i ha;have h1:=MS hex (n+1) (K.lO _ _ _ _ h) K;simp only[QD,QO]at h1;simp only[<-h1,List.headD_cons]
theorem Ww(hex:∀id,ex=some id->∀e k T xs,(S.H id).c≠ .row e k T xs)(n:Nat):∀(Ts:List U.Ty) (xs:List (KV U)) (v:Gi U Ts),UC K S.lk Ts xs=some v->(xs.map KV.pv).map (fz S.st.H ex (n+2))=Da Ts v
 |[],[],_,_=>rfl
 |[],_::_,_,h=>by cases h
 |T::l,[],_,h=>by cases h
 |T::l,x::xs,v,h=>by
  rw[UC]at h;split at h
  ·rename_i v1 h1;split at h
   ·rename_i vs h2;injection h with h
    subst h;rw[QD,QD,Da,Li hex n h1,Ww hex n l xs vs h2]
   ·cases h
  ·cases h
theorem aaQ{xs:List (KV U)}{ys:List PV}(h:gU nH xs ys):xs.all KV.Ux=true->xs.map KV.pv=ys:=by
 induction h with
 |nil=>intro _;rfl
 |cons hc _ ih=>
  intro hn;rw[List.all_cons,Qm]at hn;rw[QD,ih hn.2];congr 1
  cases hc with
  |dF=>cases hn.1
  |own _ _ _ _ h=>cases h
  |_=>rfl
theorem MM{T:U.Ty}{cs:List (KV U)}{v:U.den T}(h:F4 K T cs=some v):cs.map KV.pv=U.pv T v:=by
 unfold F4 at h;split at h
 ·rename_i hn;exact aaQ (K.lO _ _ _ _ h) hn
 ·cases h
theorem OS{cs:List (KV U)}{f:FuncId}{caps:List (KV U)}(h:zx cs= .bH f caps):cs=[.bH f caps]:=by
 unfold zx at h;split at h
 ·rw[h]
 ·cases h
theorem SZ{cs cells:List (KV U)}(h:zx cs= .ref cells):cs=[.ref cells]:=by
 unfold zx at h;split at h
 ·rw[h]
 ·cases h
theorem abz{cs:List (KV U)}{id ar off:Nat}(h:zx cs= .ptr id ar off):cs=[.ptr id ar off]:=by
 unfold zx at h;split at h
 ·rw[h]
 ·cases h
mutual
theorem ado:∀(a:et U) (x:KV U) (v:a.den),Jw K a x=some v->x.pv=mf a v
 | .ty T,x,v,h=>by
  rw[Jw]at h;rw[mf];split at h
  ·rename_i ha;obtain⟨cs,rfl,h⟩:=Fx h;rw[KV.pv,KV.ct,MM h,dn,ha]
  ·rename_i ha;have:=MM h;rw[dn,ha,<-this];rfl
 | .bH f cs,x,v,h=>by
  rw[Jw]at h;rw[mf];obtain⟨caps,rfl,h'⟩:=AY h;rw[KV.pv,KV.ct,z7 cs caps v h']
 | .ref a,x,v,h=>by
  rw[Jw]at h;rw[mf];obtain⟨cells,rfl,h⟩:=Oa h;rw[KV.pv,KV.ct,F5 a cells v h]
 | .agg cs,x,v,h=>by
  rw[Jw]at h;rw[mf];obtain⟨cells,rfl,h⟩:=Fx h;rw[KV.pv,KV.ct,z7 cs cells v h]
theorem F5:∀(a:et U) (cs:List (KV U)) (v:a.den),A8 K a cs=some v->cs.map KV.pv=oS a v
 | .ty T,cs,v,h=>by rw[A8]at h;rw[oS];exact MM h
 | .bH f cs,cells,v,h=>by
  rw[A8]at h;rw[oS];obtain⟨caps,hh,h⟩:=AY h;rw[OS hh,QD,QO,KV.pv,KV.ct,z7 cs caps v h]
 | .ref a,cells,v,h=>by
  rw[A8]at h;rw[oS];obtain⟨cells',hh,h⟩:=Oa h;rw[SZ hh,QD,QO,KV.pv,KV.ct,F5 a cells' v h]
 | .agg cs,cells,v,h=>by
  rw[A8]at h;rw[oS];exact z7 cs cells v h
theorem z7:∀(A_s:List (et U)) (xs:List (KV U)) (v:dH A_s),z8 K A_s xs=some v->xs.map KV.pv=gr A_s v
 |[],xs,v,h=>by
  rw[z8]at h;rw[gr,Oc h];rfl
 |a::l,xs,v,h=>by
  rw[z8]at h;rw[gr];obtain⟨x,xs,rfl,h1,h2⟩:=KQ h;rw[QD,ado a x v.1 h1,z7 l xs v.2 h2]
end
mutual
theorem YK(hex:∀id,ex=some id->∀e k T xs,(S.H id).c≠ .row e k T xs):∀(a:et U) (n:Nat) (x:KV U) (v:a.den),a.depth<=n->MO K S ex a x=some v->fz S.st.H ex n x.pv=mf a v
 | .ty T,n,x,v,hd,h=>by
  rw[MO]at h;rw[mf];rw[et.depth]at hd;obtain⟨m,rfl⟩:∃m,n=m+2:=⟨n - 2,by omega⟩
  exact Li hex m h
 | .bH f cs,n,x,v,hd,h=>by
  rw[MO]at h;rw[mf];rw[et.depth]at hd;obtain⟨m,rfl⟩:∃m,n=m+1:=⟨n - 1,by omega⟩
  obtain⟨caps,rfl,h'⟩:=AY h;rw[KV.pv,KV.ct,fz,mD hex cs m caps v (by omega) h']
 | .ref a,n,x,v,hd,h=>by
  rw[MO]at h;rw[mf];rw[et.depth]at hd;obtain⟨m,rfl⟩:∃m,n=m+1:=⟨n - 1,by omega⟩
  rcases Ob h with⟨cells,rfl,h⟩|⟨id,ar,cells,rfl,hex2,hver,hc,h⟩
  ·rw[KV.pv,KV.ct,F5 a cells v h];simp[fz,PV.closed]
  ·have hne:¬(some id=ex\/(S.st.H id).ar≠ar):=by
    rintro(h1|h1)
    ·rw[<-h1]at hex2;simp[Z2]at hex2
    ·exact h1 hver
   have hcp:(S.st.H id).c= .box (cells.map KV.pv):=by simp[aX.st,c8.pv,hc,dK.pv]
   simp only[KV.pv,fz];rw[Qs hne,hcp];simp only[List.drop_zero];rw[YJ hex a m cells v (by omega) h]
 | .agg cs,n,x,v,hd,h=>by
  rw[MO]at h;rw[mf];rw[et.depth]at hd;obtain⟨m,rfl⟩:∃m,n=m+1:=⟨n - 1,by omega⟩
  obtain⟨caps,rfl,h'⟩:=Fx h;rw[KV.pv,KV.ct,fz,mD hex cs m caps v (by omega) h']
theorem YJ(hex:∀id,ex=some id->∀e k T xs,(S.H id).c≠ .row e k T xs):∀(a:et U) (n:Nat) (cs:List (KV U)) (v:a.den),a.depth<=n->MN K S ex a cs=some v->(cs.map KV.pv).map (fz S.st.H ex n)=oS a v
 | .ty T,n,cs,v,hd,h=>by
  rw[MN]at h;rw[oS];rw[et.depth]at hd;obtain⟨m,rfl⟩:∃m,n=m+1:=⟨n - 1,by omega⟩
  exact MS hex m (K.lO _ _ _ _ h) K
 | .bH f cs,n,cells,v,hd,h=>by
  rw[MN]at h;rw[oS];rw[et.depth]at hd;obtain⟨m,rfl⟩:∃m,n=m+1:=⟨n - 1,by omega⟩
  obtain⟨caps,hh,h⟩:=AY h;rw[OS hh,QD,QO,QD,QO,KV.pv,KV.ct,fz,mD hex cs m caps v (by omega) h]
 | .ref a,n,cells,v,hd,h=>by
  rw[MN]at h;rw[oS];rw[et.depth]at hd;obtain⟨m,rfl⟩:∃m,n=m+1:=⟨n - 1,by omega⟩
  rcases Ob h with⟨cells',hh,h⟩|⟨id,ar,cells',hh,hex2,hver,hc,h⟩
  ·rw[SZ hh,QD,QO,KV.pv,KV.ct,F5 a cells' v h];simp[fz,PV.closed]
  ·have hne:¬(some id=ex\/(S.st.H id).ar≠ar):=by
    rintro(h1|h1)
    ·rw[<-h1]at hex2;simp[Z2]at hex2
    ·exact h1 hver
   have hcp:(S.st.H id).c= .box (cells'.map KV.pv):=by simp[aX.st,c8.pv,hc,dK.pv]
   rw[abz hh];simp only[QD,QO,KV.pv,fz];rw[Qs hne,hcp];simp only[List.drop_zero];rw[YJ hex a m cells' v (by omega) h]
 | .agg cs,n,cells,v,hd,h=>by
  rw[MN]at h;rw[oS];rw[et.depth]at hd;exact mD hex cs n cells v (by omega) h
theorem mD(hex:∀id,ex=some id->∀e k T xs,(S.H id).c≠ .row e k T xs):∀(A_s:List (et U)) (n:Nat) (xs:List (KV U)) (v:dH A_s),ox A_s<=n->q8 K S ex A_s xs=some v->(xs.map KV.pv).map (fz S.st.H ex n)=gr A_s v
 |[],n,xs,v,hd,h=>by
  rw[q8]at h;rw[gr,Oc h];rfl
 |a::l,n,xs,v,hd,h=>by
  rw[q8]at h;rw[gr];rw[ox]at hd;obtain⟨x,xs,rfl,h1,h2⟩:=KQ h;rw[QD,QD,YK hex a n x v.1 (by omega) h1,mD hex l n xs v.2 (by omega) h2]
end
theorem tu{xs:List (KV U)}{ys:List PV}(h:gU nH xs ys):(xs.map KV.pv).map nz=ys/\xs.all KV.closed=true:=by
 induction h with
 |nil=>exact⟨rfl,rfl⟩
 |cons h _ ih=>
  obtain⟨h1,h2⟩:=ih;simp only[QD,List.all_cons,h1,h2,Bool.and_true]
  cases h with
  |own _ _ _ _ h=>cases h
  |_=>simp[KV.pv,nz,KV.closed]
def aX.DA(S:aX U)(id ar:Nat):aX U:={env:=S.env,H:=gI S.H id ⟨ar,.dead⟩,N:=S.N}
theorem aeg{H H':Nat->fG}{ex:Option Nat}(h:∀j,some j≠ex->H' j=H j):∀(n:Nat) (y:PV),fz H' ex n y=fz H ex n y
 |0,y=>by simp only[fz]
 |n+1,y=>by
  have hm:fz H' ex n=fz H ex n:=funext (aeg h n)
  cases y with
  |own id ar=>
   simp only[fz,hm]
   by_cases h0:some id=ex
   ·rw[Qr (.inl h0),Qr (.inl h0)]
   ·rw[h id h0]
  |ptr id ar off=>
   simp only[fz,hm]
   by_cases h0:some id=ex
   ·rw[Qr (.inl h0),Qr (.inl h0)]
   ·rw[h id h0]
  |agg cs=>simp only[fz,hm]
  |dP cs=>simp only[fz,hm]
  |bH f cs=>simp only[fz,hm]
  |_=>simp only[fz]
theorem RP(S:aX U)(id ar n:Nat)(y:PV):fz (S.DA id ar).st.H (some id) n y=fz S.st.H (some id) n y:=by
 refine aeg (fun j hj=> ?_) n y
 have:j≠id:=fun e=>hj (by rw[e])
 simp only[aX.DA,aX.st,cz,cq _ _ this]
theorem MD(S:aX U)(id ar:Nat):∀j,some id=some j->∀e k T xs,((S.DA id ar).H j).c≠ .row e k T xs:=by
 intro j hj e k T xs;injection hj with hj
 subst hj;simp only[aX.DA,cz,bP];intro h;cases h
inductive dw (U:TU) where
 |rw(f:FuncId) (e k:Nat) (T:U.Ty) (A_s:List (et U)) (rs:pJ U) (F:List (U.den T)->dH A_s->Option (rs.den×List (U.den T)))
 |cw (f:FuncId) (e k:Nat) (T:U.Ty) (A_s:List (et U)) (F:List (U.den T)->dH A_s->Option (List (U.den T)))
 |fw (f:FuncId) (A_s:List (et U)) (e k:Nat) (T:U.Ty) (F:dH A_s->Option (List (U.den T)))
 |fn (f:FuncId) (A_s:List (et U)) (rs:pJ U) (F:dH A_s->Option rs.den)
 |rc (f:FuncId) (pos:Nat) (R:U.Ty) (A_s:List (et U)) (rs:pJ U) (F:U.den R->dH A_s->Option (rs.den×U.den R))
 |nw (f:FuncId) (A_s:List (et U)) (R:U.Ty) (F:dH A_s->Option (U.den R))
 |ro (f:FuncId) (pos:Nat) (R:U.Ty) (A_s:List (et U)) (rs:pJ U) (F:U.den R->dH A_s->Option (rs.den×U.den R))
 |bk (f k:Nat) (nE:Option Nat)
def dw.Sound(P:Program):dw U->Prop
 | .rw f e k T A_s rs F=>Enters P f/\∀xs a r ys,F xs a=some (r,ys)->R5 P f e k (xs.map (U.pv T)) (gr A_s a) (sQ rs r) (ys.map (U.pv T))
 | .cw f e k T A_s F=>Enters P f/\∀xs a ys,F xs a=some ys->MW P f e k (xs.map (U.pv T)) (gr A_s a) (ys.map (U.pv T))
 | .fw f A_s e k T F=>Enters P f/\∀a ys,F a=some ys->Xp P f (gr A_s a) e k (ys.map (U.pv T))
 | .fn f A_s rs F=>Enters P f/\∀a r,F a=some r->Con P f false [] (gr A_s a) (sQ rs r) []
 | .rc f pos R A_s rs F=>Enters P f/\∀s a r s',F s a=some (r,s')->JF P f pos true (U.pv R s) (gr A_s a) (sQ rs r) (U.pv R s')
 | .ro f pos R A_s rs F=>Enters P f/\∀s a r s',F s a=some (r,s')->s'=s/\JF P f pos true (U.pv R s) (gr A_s a) (sQ rs r) (U.pv R s')
 | .nw f A_s R F=>Enters P f/\∀a s,F a=some s->Xo P f (gr A_s a) (U.pv R s)
 | .bk f k nE=>ib P f 19 (B8 k nE) []
def tM(P:Program):List (dw U)->Prop
 |[]=>True
 |f::l=>f.Sound P/\tM P l
def OV(f k:Nat)(nE:Option Nat):List (dw U)->Bool
 |[]=>false
 | .bk f' k' nE'::Γ=>(Nat.beq f f'&&Nat.beq k k'&&(match nE,nE' with|none,none=>true|some a,some b=>Nat.beq a b|_,_=>false))||OV f k nE Γ
 |_::Γ=>OV f k nE Γ
theorem MF{P:Program}{f k:Nat}{nE:Option Nat}:∀{Γ:List (dw U)},tM P Γ->OV f k nE Γ=true->ib P f 19 (B8 k nE) []
 |[],_,h=>by cases h
 | .bk f' k' nE'::Γ,hΓ,h=>by
  simp only[OV,Qn,Qm]at h;rcases h with⟨⟨h1,h2⟩,h3⟩|h
  ·have h1:=QF h1;have h2:=QF h2;subst h1 h2
   have h4:nE=nE':=by
    cases nE<;>cases nE'<;>simp only at h3<;>first|rfl|(cases h3)|(rw[QF h3])
   subst h4;exact hΓ.1
  ·exact MF hΓ.2 h
 | .ro ..::Γ,hΓ,h| .rw ..::Γ,hΓ,h| .cw ..::Γ,hΓ,h| .fw ..::Γ,hΓ,h| .fn ..::Γ,hΓ,h| .rc ..::Γ,hΓ,h| .nw ..::Γ,hΓ,h=>MF (Γ:=Γ) hΓ.2 h
theorem Wj{y:PV}(h:y.gn=true):y.closed=true:=by
 cases y<;>first|rfl|cases h
open Classical in
 def uc(recv:Bool)(pos:Nat)(fresh ro:Bool)(cs args:List PV)(r:PV)(cs':List PV):Model:=
 {recv:=recv,pos:=pos,fresh:=fresh,m:=fun c a=>if c=cs/\a=args then some (r,cs')else none,rk:= .no,ro:=ro,rm:=fun _ _=>none}
open Classical in
 def AW(rk:RK)(es:List (List PV))(args:List PV)(r:PV)(es':List (List PV)):Model:=
 {recv:=false,pos:=0,fresh:=false,m:=fun _ _=>none,rk:=rk,ro:=false,rm:=fun c a=>if c=es/\a=args then some (r,es')else none}
 def vb(f:FuncId)(m:Model):nM:=fun g=>if g=f then some m else none
theorem s4{P:Program}{f:FuncId}{m:Model}(h:EN P f m):kD P (vb f m):=by
 intro g m' hg;unfold vb at hg;split at hg
 ·rename_i e;subst e;injection hg with hg;subst hg;exact h
 ·cases hg
theorem s5(f:FuncId)(m:Model):vb f m f=some m:=Qr rfl
def aX.sn(S:aX U)(id ar:Nat):Option (List (KV U)):=
 match Nat.beq (S.H id).ar ar with
 |true=>match(S.H id).c with
  | .box cs=>some cs
  |_=>none
 |false=>none
theorem Ac{id ar:Nat}{cs:List (KV U)}(h:S.sn id ar=some cs):(S.H id).ar=ar/\(S.H id).c= .box cs:=by
 unfold aX.sn at h;split at h
 ·rename_i hv;split at h
  ·rename_i hc;injection h with h;subst h;exact⟨QF hv,hc⟩
  ·cases h
 ·cases h
structure adH (U:TU) where
 e:Nat
 k:Nat
 T:U.Ty
 xs:List (U.den T)
def aX.row?(S:aX U)(id ar:Nat):Option (adH U):=
 match Nat.beq (S.H id).ar ar with
 |true=>match(S.H id).c with
  | .row e k T xs=>some ⟨e,k,T,xs⟩
  |_=>none
 |false=>none
theorem CJ{id ar:Nat}{r:adH U}(h:S.row? id ar=some r):(S.H id).ar=ar/\(S.H id).c= .row r.e r.k r.T r.xs:=by
 unfold aX.row? at h;split at h
 ·rename_i hv;split at h
  ·rename_i hc;injection h with h;subst h;exact⟨QF hv,hc⟩
  ·cases h
 ·cases h
theorem oG{id ar:Nat}{r:adH U}(h:S.row? id ar=some r):(S.st.H id).ar=ar/\(S.st.H id).c= .row r.e r.k (r.xs.map (U.pv r.T)):=by
 obtain⟨h1,h2⟩:=CJ h;exact⟨h1,by simp[aX.st,c8.pv,h2,dK.pv]⟩
structure ahr (U:TU) where
 e:Nat
 k:Nat
 es:List (List (KV U))
def aX.Vi(S:aX U)(id ar:Nat):Option (ahr U):=
 match Nat.beq (S.H id).ar ar with
 |true=>match(S.H id).c with
  | .raw e k es=>some ⟨e,k,es⟩
  |_=>none
 |false=>none
theorem Vh{id ar:Nat}{r:ahr U}(h:S.Vi id ar=some r):(S.st.H id).ar=ar/\(S.st.H id).c= .row r.e r.k (r.es.map fun c=>c.map KV.pv):=by
 unfold aX.Vi at h;split at h
 ·rename_i hv;split at h
  ·rename_i hc;injection h with h
   subst h;exact⟨QF hv,by simp[aX.st,c8.pv,hc,dK.pv]⟩
  ·cases h
 ·cases h
def Ut{α:Type}(S:aX U)(e k:Nat)(T:U.Ty)(args:List (KV U))(j:Nat->Nat->List (U.den T)->List (KV U)->Option α):Option α:=
 match args with
 | .own id ar::rest=>(match S.row? id ar with
  |some r=>(match Nat.beq r.e e&&Nat.beq r.k k with
   |true=>(match zB r.T T r.xs with|some xs=>j id ar xs rest|none=>none)
   |false=>none)
  |none=>none)
 |_=>none
theorem N9{α:Type}{e k:Nat}{T:U.Ty}{args:List (KV U)}{j:Nat->Nat->List (U.den T)->List (KV U)->Option α}{r:α}(h:Ut S e k T args j=some r):
  ∃id ar xs rest,args= .own id ar::rest/\(S.H id).ar=ar/\(S.H id).c= .row e k T xs/\j id ar xs rest=some r:=by
 unfold Ut at h;split at h
 ·rename_i id ar rest;split at h
  ·rename_i rr hr;obtain⟨h1,h2⟩:=CJ hr;split at h
   ·rename_i hek;rw[Qm]at hek;split at h
    ·rename_i xs hxs;obtain⟨eT,rfl⟩:=nh hxs;obtain⟨re,rk,rT,rxs⟩:=rr;simp only at eT h2 hek;subst eT;exact⟨id,ar,_,rest,rfl,h1,by rw[h2,QF hek.1,QF hek.2],h⟩
    ·cases h
   ·cases h
  ·cases h
 ·cases h
theorem wb(K:TK U)(T:U.Ty)(xs:List (U.den T)):xt (xs.map (U.pv T))=true:=by
 refine QH.2 fun u hu=> ?_
 obtain⟨x,_,rfl⟩:=QP.1 hu;exact QH.2 fun y hy=>Wj (K.gn T x y hy)
theorem Ma(K:TK U){T:U.Ty}(hp:U.plain T=true)(xs:List (U.den T)):H5 (xs.map (U.pv T))=true:=by
 refine QH.2 fun u hu=> ?_
 obtain⟨x,_,rfl⟩:=QP.1 hu;exact QH.2 fun y hy=>K.plain T hp x y hy
variable (K)
def jn{ρ:Type}(nid:Nat)(S:aX U)(f:FuncId)(args:List (KV U))(k:KV U->Option (Nat×c8 U)->Option ρ):List (dw U)->Option ρ
 |[]=>none
 | .bk _ _ _::Γ=>jn nid S f args k Γ
 | .rw g e kk T A_s rs F::Γ=>match Nat.beq f g with
  |true=>Ut S e kk T args fun id ar xs rest=>(match q8 K (S.DA id ar) (some id) A_s rest with
   |some a=>(match(rs.plain||rest.all KV.bB)&&(U.plain T||rest.all KV.bB)&&(rs.ok&&Nat.ble (ox A_s) 9)with
    |true=>(F xs a).bind fun p=>k (Va K rs p.1) (some (id,⟨ar,.row e kk T p.2⟩))
    |false=>none)
   |none=>jn nid S f args k Γ)
  |false=>jn nid S f args k Γ
 | .cw g e kk T A_s F::Γ=>match Nat.beq f g with
  |true=>Ut S e kk T args fun id ar xs rest=>(match q8 K (S.DA id ar) (some id) A_s rest with
   |some a=>(match(U.plain T||rest.all KV.bB)&&Nat.ble (ox A_s) 9 with
    |true=>(F xs a).bind fun ys=>k (.own id (ar+1)) (some (id,⟨ar+1,.row e kk T ys⟩))
    |false=>none)
   |none=>jn nid S f args k Γ)
  |false=>jn nid S f args k Γ
 | .fw g A_s e kk T F::Γ=>match Nat.beq f g with
  |true=>(match q8 K S none A_s args with
   |some a=>(match(U.plain T||args.all KV.bB)&&Nat.ble (ox A_s) 9 with
    |true=>(F a).bind fun ys=>k (.own nid ((S.H nid).ar+1)) (some (nid,⟨(S.H nid).ar+1,.row e kk T ys⟩))
    |false=>none)
   |none=>jn nid S f args k Γ)
  |false=>jn nid S f args k Γ
 | .fn g A_s rs F::Γ=>match Nat.beq f g with
  |true=>(match q8 K S none A_s args with
   |some a=>(match(rs.plain||args.all KV.bB)&&(rs.ok&&Nat.ble (ox A_s) 9)with
    |true=>(F a).bind fun r=>k (Va K rs r) none
    |false=>none)
   |none=>jn nid S f args k Γ)
  |false=>jn nid S f args k Γ
 | .rc g pos R A_s rs F::Γ=>match Nat.beq f g with
  |true=>(match args[pos]? with
   |some (.ptr id ar 0)=>(match S.sn id ar with
    |some cs=>(match K.dec R nH cs with
     |some s=>(match q8 K S (some id) A_s (cutAt pos args)with
      |some a=>(match((rs.plain&&U.plain R)||(cutAt pos args).all KV.bB)&&(rs.ok&&Nat.ble (ox A_s) 9)with
       |true=>(F s a).bind fun p=>k (Va K rs p.1) (some (id,⟨ar,.box (K.cr R p.2)⟩))
       |false=>none)
      |none=>jn nid S f args k Γ)
     |none=>none)
    |none=>none)
   |_=>none)
  |false=>jn nid S f args k Γ
 | .ro g pos R A_s rs F::Γ=>match Nat.beq f g with
  |true=>(match args[pos]? with
   |some (.ptr id ar 0)=>(match S.sn id ar with
    |some cs=>(match F4 K R cs with
     |some s=>(match q8 K S (some id) A_s (cutAt pos args)with
      |some a=>(match((rs.plain&&U.plain R)||(cutAt pos args).all KV.bB)&&(rs.ok&&Nat.ble (ox A_s) 9)with
       |true=>(F s a).bind fun p=>k (Va K rs p.1) none
       |false=>none)
      |none=>jn nid S f args k Γ)
     |none=>none)
    |none=>none)
   |_=>none)
  |false=>jn nid S f args k Γ
 | .nw g A_s R F::Γ=>match Nat.beq f g with
  |true=>(match q8 K S none A_s args with
   |some a=>(match(U.plain R||args.all KV.bB)&&Nat.ble (ox A_s) 9 with
    |true=>(F a).bind fun s=>k (.ptr nid ((S.H nid).ar+1) 0) (some (nid,⟨(S.H nid).ar+1,.box (K.cr R s)⟩))
    |false=>none)
   |none=>jn nid S f args k Γ)
  |false=>jn nid S f args k Γ
variable {K}
theorem tP{T:U.Ty}(K:TK U)(v:U.den T)(ha:U.agg T=false):∃y,dn T v=y/\y∈U.pv T v:=by
 have h1:=K.len T v;rw[K.one T ha]at h1
 cases hq:U.pv T v with
 |nil=>rw[hq]at h1;cases h1
 |cons y l=>exact⟨y,by rw[dn,ha,hq];rfl,Qx⟩
theorem wL{T:U.Ty}(v:U.den T)(ha:U.agg T=true):dn T v= .agg (U.pv T v):=by rw[dn,ha]
theorem Vs{y:PV}(h:y.plain=true):y.oI=true:=by
 cases y<;>first|exact h|cases h
theorem gd{y:PV}(h:y.gn=true):y.closed=true:=by
 cases y<;>first|rfl|cases h
theorem Wi{y:PV}(h:y.gn=true):y.bB=true:=by
 cases y<;>first|rfl|cases h
theorem KJ(K:TK U){T:U.Ty}(hp:U.plain T=true)(v:U.den T):(dn T v).oI=true:=by
 cases ha:U.agg T with
 |true=>rw[wL v ha];exact QH.2 fun y hy=>K.plain T hp v y hy
 |false=>obtain⟨y,h1,h2⟩:=tP K v ha;rw[h1];exact Vs (K.plain T hp v y h2)
theorem Af{T:U.Ty}(K:TK U)(v:U.den T):(dn T v).bB=true:=by
 cases ha:U.agg T with
 |true=>rw[wL v ha];exact QH.2 fun y hy=>gd (K.gn T v y hy)
 |false=>obtain⟨y,h1,h2⟩:=tP K v ha;rw[h1];exact Wi (K.gn T v y h2)
theorem MZ(K:TK U):∀(Ts:List U.Ty) (v:Gi U Ts),Ts.all U.plain=true->(Da Ts v).all PV.oI=true
 |[],v,_=>rfl
 |T::l,v,h=>by
  rw[List.all_cons,Qm]at h;rw[Da,List.all_cons,KJ K h.1 v.1,MZ K l v.2 h.2];rfl
theorem He(K:TK U):∀(Ts:List U.Ty) (v:Gi U Ts),(Da Ts v).all PV.bB=true
 |[],v=>rfl
 |T::l,v=>by rw[Da,List.all_cons,Af K v.1,He K l v.2];rfl
theorem aa6{y:PV}(h:y.oI=true):y.sV=true:=by
 cases y<;>first|exact h|cases h
theorem Gm{T:U.Ty}(K:TK U)(v:U.den T)(cs:List PV):dn T v≠ .dP cs:=by
 intro h
 cases ha:U.agg T with
 |true=>rw[wL v ha]at h;cases h
 |false=>obtain⟨y,h1,h2⟩:=tP K v ha;have h3:=K.gn T v y h2;rw[<-h1,h]at h3;cases h3
theorem zm(K:TK U):∀(r:pJ U) (v:r.den),r.plain=true->(sQ r v).sV=true
 | .one T,v,h=>aa6 (KJ K h v)
 | .many Ts,v,h=>MZ K Ts v h
 | .fn _,_,h=>by cases h
theorem To:∀(A_s:List (et U)) (v:dH A_s),A_s.all et.ad8=true->(gr A_s v).all PV.closed=true
 |[],_,_=>by rw[gr];rfl
 |a::l,v,h=>by
  rw[List.all_cons,Qm]at h;rw[gr,List.all_cons,To l v.2 h.2,Bool.and_true]
  cases a with
  |ref a=>rw[mf];rfl
  |ty T=>cases h.1
  |bH f cs=>cases h.1
  |agg cs=>cases h.1
theorem xg(K:TK U):∀(r:pJ U) (v:r.den),r.ok=true->(sQ r v).ui=true
 | .fn (.bH f cs),v,h=>by
  show(mf (.bH f cs) v).ui=true;rw[mf];exact To cs v h
 | .fn (.ty _),v,h=>by cases h
 | .fn (.ref _),v,h=>by cases h
 | .fn (.agg _),v,h=>by cases h
 | .one T,v,_=>by
  show(dn T v).ui=true;have h1:=Af K v;have h2:=Gm K v;generalize dn T v=y at h1 h2;cases y<;>first|exact h1|exact absurd rfl (h2 _)
 | .many Ts,v,_=>He K Ts v
theorem lq(l:List (KV U)):(l.map KV.pv).all PV.bB=l.all KV.bB:=by
 induction l with
 |nil=>rfl
 |cons x l ih=>simp only[QD,List.all_cons,aae,ih]
theorem ec{P:Program}{ρ:Type}{nid:Nat}{f:FuncId}{args:List (KV U)}{k:KV U->Option (Nat×c8 U)->Option ρ}{r:ρ}:∀{Γ:List (dw U)},tM P Γ->jn K nid S f args k Γ=some r->
  ∃Γ' x wr,kD P Γ'/\lP Γ' nid S.st f (args.map KV.pv)=some (x.pv,wr.map jJ)/\k x wr=some r
 |[],_,h=>by cases h
 | .bk _ _ _::Γ,hΓ,h=>ec (Γ:=Γ) hΓ.2 h
 | .rw g e kk T A_s rs F::Γ,hΓ,h=>by
  simp only[jn]at h;split at h
  ·rename_i hg;have hg:=QF hg;subst hg;obtain⟨id,ar,xs,rest,rfl,hver,hc,h'⟩:=N9 h;split at h'
   ·rename_i a ha;split at h'
    ·rename_i hcl;simp only[Qc]at h';obtain⟨⟨v,ys⟩,hv,hk⟩:=h';rw[Qm,Qm,Qm]at hcl;obtain⟨⟨hcl1,hcl2⟩,hrok,hdep⟩:=hcl;have hfz:=mD (ex:=some id) (MD S id ar) A_s 9 rest a (QG hdep) ha
     have hfz':(rest.map KV.pv).map (fz S.st.H (some id) 9)=gr A_s a:=by
      rw[<-hfz];exact List.map_congr_left fun y _=>(RP S id ar 9 y).symm
     obtain⟨hen,hcon⟩:=hΓ.1;refine⟨vb f (AW (.bor e kk) (xs.map (U.pv T)) (gr A_s a) (sQ rs v) (ys.map (U.pv T))),Va K rs v,some (id,⟨ar,.row e kk T ys⟩),s4 ⟨hen,(fun _ cs as' r' cs' hm=>by cases hm),(fun hq=>by cases hq),fun es as' r' es' hm=> ?_,(fun hq=>by cases hq)⟩,?_,hk⟩
     ·simp only[AW]at hm;split at hm
      ·rename_i he;injection hm with hm
       injection hm with h1 h2
       subst h1 h2;obtain⟨rfl,rfl⟩:=he;exact hcon xs a v ys hv
      ·cases hm
     ·have hv1:(S.st.H id).ar=ar:=hver;have hc1:(S.st.H id).c= .row e kk (xs.map (U.pv T)):=by simp[aX.st,c8.pv,hc,dK.pv]
      simp only[QD,KV.pv,lP,s5,AW,y6,hv1,hc1,Qt,wb K T xs,and_self,hfz',NR,Qe,jJ,c8.pv,dK.pv];rw[Qr];rw[lq,xg K rs v hrok,wb K T ys];simp only[Qn]at hcl1 hcl2;rcases hcl1 with hcl1|hcl1
      ·rw[zm K rs v hcl1];rcases hcl2 with hcl2|hcl2
       ·rw[Ma K hcl2 ys];rfl
       ·rw[hcl2];simp
      ·rw[hcl1];simp
    ·cases h'
   ·exact ec hΓ.2 h'
  ·exact ec hΓ.2 h
 | .cw g e kk T A_s F::Γ,hΓ,h=>by
  simp only[jn]at h;split at h
  ·rename_i hg;have hg:=QF hg;subst hg;obtain⟨id,ar,xs,rest,rfl,hver,hc,h'⟩:=N9 h;split at h'
   ·rename_i a ha;split at h'
    ·rename_i hcl;simp only[Qc]at h';obtain⟨ys,hv,hk⟩:=h';rw[Qm]at hcl;obtain⟨hcl2,hdep⟩:=hcl;have hfz:=mD (ex:=some id) (MD S id ar) A_s 9 rest a (QG hdep) ha
     have hfz':(rest.map KV.pv).map (fz S.st.H (some id) 9)=gr A_s a:=by
      rw[<-hfz];exact List.map_congr_left fun y _=>(RP S id ar 9 y).symm
     obtain⟨hen,hcon⟩:=hΓ.1;refine⟨vb f (AW (.Tk e kk) (xs.map (U.pv T)) (gr A_s a) .any (ys.map (U.pv T))),.own id (ar+1),some (id,⟨ar+1,.row e kk T ys⟩),s4 ⟨hen,(fun _ cs as' r' cs' hm=>by cases hm),(fun hq=>by cases hq),fun es as' r' es' hm=> ?_,(fun hq=>by cases hq)⟩,?_,hk⟩
     ·simp only[AW]at hm;split at hm
      ·rename_i he;injection hm with hm
       injection hm with h1 h2
       subst h1 h2;obtain⟨rfl,rfl⟩:=he;exact hcon xs a ys hv
      ·cases hm
     ·have hv1:(S.st.H id).ar=ar:=hver;have hc1:(S.st.H id).c= .row e kk (xs.map (U.pv T)):=by simp[aX.st,c8.pv,hc,dK.pv]
      simp only[QD,KV.pv,lP,s5,AW,y5,hv1,hc1,Qt,wb K T xs,and_self,hfz',Qe,jJ,c8.pv,dK.pv];rw[Qr];rw[lq,wb K T ys];simp only[Qn]at hcl2;rcases hcl2 with hcl2|hcl2
      ·rw[Ma K hcl2 ys];rfl
      ·rw[hcl2];simp
    ·cases h'
   ·exact ec hΓ.2 h'
  ·exact ec hΓ.2 h
 | .fw g A_s e kk T F::Γ,hΓ,h=>by
  simp only[jn]at h;split at h
  ·rename_i hg;have hg:=QF hg;subst hg;split at h
   ·rename_i a ha;split at h
    ·rename_i hcl;simp only[Qc]at h;obtain⟨ys,hv,hk⟩:=h;rw[Qm]at hcl;obtain⟨hcl2,hdep⟩:=hcl;have hfz:=mD (ex:=none) (fun id h=>by cases h) A_s 9 args a (QG hdep) ha
     obtain⟨hen,hcon⟩:=hΓ.1;refine⟨vb f (AW (.fre e kk) [] (gr A_s a) .any (ys.map (U.pv T))),.own nid ((S.H nid).ar+1),some (nid,⟨(S.H nid).ar+1,.row e kk T ys⟩),s4 ⟨hen,(fun _ cs as' r' cs' hm=>by cases hm),(fun hq=>by cases hq),fun as' r' es' hm=> ?_,(fun hq=>by cases hq)⟩,?_,hk⟩
     ·simp only[AW]at hm;split at hm
      ·rename_i he;injection hm with hm
       injection hm with h1 h2
       subst h1 h2;obtain⟨_,rfl⟩:=he;exact hcon a ys hv
      ·cases hm
     ·simp only[lP,s5,AW,EH,hfz,and_self,Qt,Qe,jJ,c8.pv,dK.pv,KV.pv];rw[Qr]
      ·rfl
      rw[lq,wb K T ys];simp only[Qn]at hcl2;rcases hcl2 with hcl2|hcl2
      ·rw[Ma K hcl2 ys];rfl
      ·rw[hcl2];simp
    ·cases h
   ·exact ec hΓ.2 h
  ·exact ec hΓ.2 h
 | .fn g A_s rs F::Γ,hΓ,h=>by
  simp only[jn]at h;split at h
  ·rename_i hg;have hg:=QF hg;subst hg;split at h
   ·rename_i a ha;split at h
    ·rename_i hcl;simp only[Qc]at h;obtain⟨v,hv,hk⟩:=h;rw[Qm,Qm]at hcl;obtain⟨hcl,hrok,hdep⟩:=hcl;have hfz:=mD (ex:=none) (fun id h=>by cases h) A_s 9 args a (QG hdep) ha
     obtain⟨hen,hcon⟩:=hΓ.1;refine⟨vb f (uc false 0 false false [] (gr A_s a) (sQ rs v) []),_,none,s4 ⟨hen,fun _ cs as' r' cs' hm=> ?_,(fun hq=>by cases hq),trivial,(fun hq=>by cases hq)⟩,?_,hk⟩
     ·simp only[uc]at hm;split at hm
      ·rename_i he;injection hm with hm
       injection hm with h1 h2
       subst h1 h2;obtain⟨rfl,rfl⟩:=he;exact hcon a v hv
      ·cases hm
     ·simp only[lP,s5,uc,Qq,Qu,hfz,and_self,Qt,NR,Option.map_none];rw[Qr];rw[lq,xg K rs v hrok];simp only[Qn]at hcl;rcases hcl with hcl|hcl
      ·rw[zm K rs v hcl];rfl
      ·rw[hcl];simp
    ·cases h
   ·obtain⟨Γ',x,wr,h1,h2,h3⟩:=ec hΓ.2 h;exact⟨Γ',x,wr,h1,h2,h3⟩
  ·exact ec hΓ.2 h
 | .rc g pos R A_s rs F::Γ,hΓ,h=>by
  simp only[jn]at h;split at h
  ·rename_i hg;have hg:=QF hg;subst hg;split at h
   ·rename_i id ar hpos;have hpos:args[pos]?=some (.ptr id ar 0):=hpos;generalize hrest:cutAt pos args=rest at h;split at h
    ·rename_i cs hbox;split at h
     ·rename_i s hs;split at h
      ·rename_i a ha;split at h
       ·rename_i hcl;simp only[Qc]at h;obtain⟨⟨v,s'⟩,hv,hk⟩:=h;obtain⟨hver,hc⟩:=Ac hbox;rw[Qm,Qm]at hcl;obtain⟨hcl,hrok,hdep⟩:=hcl;have hfz:=mD (ex:=some id) (fun id' h=>by injection h with h;subst h;intro e k T xs hq;rw[hc]at hq;cases hq) A_s 9 rest a (QG hdep) ha
        obtain⟨hnz,hclo⟩:=tu (K.lO _ _ _ _ hs);obtain⟨hen,hcon⟩:=hΓ.1;refine⟨vb f (uc true pos false false (U.pv R s) (gr A_s a) (sQ rs v) (U.pv R s')),_,_,s4 ⟨hen,fun _ cs as' r' cs' hm=> ?_,(fun hq=>by cases hq),trivial,(fun hq=>by cases hq)⟩,?_,hk⟩
        ·simp only[uc]at hm;split at hm
         ·rename_i he;injection hm with hm
          injection hm with h1 h2
          subst h1 h2;obtain⟨rfl,rfl⟩:=he;exact hcon s a v s' hv
         ·cases hm
        ·have hv1:(S.st.H id).ar=ar:=hver;have hc1:(S.st.H id).c= .box (cs.map KV.pv):=by simp[aX.st,c8.pv,hc,dK.pv]
         have hpos':(args.map KV.pv)[pos]?=some (.ptr id ar 0):=by rw[QT,hpos];rfl
         have hrest':cutAt pos (args.map KV.pv)=rest.map KV.pv:=by rw[<-hrest];simp[cutAt]
         simp only[lP,s5,uc,Bool.false_and,Qq,Qu,Qt,hpos',hrest',hv1,hc1,mF,hclo,hnz,hfz,and_self,NR,Qe,jJ,c8.pv,dK.pv,K.qn];rw[Qr];have hgs:(U.pv R s').all PV.closed=true:=QH.2 fun y hy=>gd (K.gn R s' y hy)
         rw[lq,xg K rs v hrok,hgs];simp only[Qn,Qm]at hcl;rcases hcl with⟨hcl1,hcl2⟩|hcl
         ·rw[zm K rs v hcl1,QH.2 fun y hy=>K.plain R hcl2 s' y hy];rfl
         ·rw[hcl];simp
       ·cases h
      ·exact ec hΓ.2 h
     ·cases h
    ·cases h
   ·cases h
  ·exact ec hΓ.2 h
 | .ro g pos R A_s rs F::Γ,hΓ,h=>by
  simp only[jn]at h;split at h
  ·rename_i hg;have hg:=QF hg;subst hg;split at h
   ·rename_i id ar hpos;have hpos:args[pos]?=some (.ptr id ar 0):=hpos;generalize hrest:cutAt pos args=rest at h;split at h
    ·rename_i cs hbox;split at h
     ·rename_i s hs;split at h
      ·rename_i a ha;split at h
       ·rename_i hcl;simp only[Qc]at h;obtain⟨⟨v,s'⟩,hv,hk⟩:=h;obtain⟨hver,hc⟩:=Ac hbox;rw[Qm,Qm]at hcl;obtain⟨hcl,hrok,hdep⟩:=hcl;have hfz:=mD (ex:=some id) (fun id' h=>by injection h with h;subst h;intro e k T xs hq;rw[hc]at hq;cases hq) A_s 9 rest a (QG hdep) ha
        obtain⟨hnn,hs⟩:cs.all KV.Ux=true/\K.dec R nH cs=some s:=by
         unfold F4 at hs;split at hs
         ·rename_i hn;exact⟨hn,hs⟩
         ·cases hs
        obtain⟨hnz,hclo⟩:=tu (K.lO _ _ _ _ hs)
        have hnnp:(cs.map KV.pv).all PV.VG=true:=by
         rw[QH];intro y hy;obtain⟨x,hx,rfl⟩:=QP.1 hy;have:=QH.1 hnn x hx;cases x<;>first|rfl|cases this
        obtain⟨hen,hcon⟩:=hΓ.1;refine⟨vb f (uc true pos false true (U.pv R s) (gr A_s a) (sQ rs v) (U.pv R s')),_,none,s4 ⟨hen,fun _ cs as' r' cs' hm=> ?_,(fun hq=>by cases hq),trivial,fun _ cs as' r' cs' hm=> ?_⟩,?_,hk⟩
        ·simp only[uc]at hm;split at hm
         ·rename_i he;injection hm with hm
          injection hm with h1 h2
          subst h1 h2;obtain⟨rfl,rfl⟩:=he;exact(hcon s a v s' hv).2
         ·cases hm
        ·simp only[uc]at hm;split at hm
         ·rename_i he;injection hm with hm
          injection hm with h1 h2
          subst h1 h2;rw[(hcon s a v s' hv).1,he.1]
         ·cases hm
        ·have hv1:(S.st.H id).ar=ar:=hver;have hc1:(S.st.H id).c= .box (cs.map KV.pv):=by simp[aX.st,c8.pv,hc,dK.pv]
         have hpos':(args.map KV.pv)[pos]?=some (.ptr id ar 0):=by rw[QT,hpos];rfl
         have hrest':cutAt pos (args.map KV.pv)=rest.map KV.pv:=by rw[<-hrest];simp[cutAt]
         simp only[lP,s5,uc,Qq,Qu,Qt,hpos',hrest',hv1,hc1,mF,hclo,hnz,hfz,and_self,NR,Option.map_none,hnnp,Bool.and_self];rw[Qr];have hgs:(U.pv R s').all PV.closed=true:=QH.2 fun y hy=>gd (K.gn R s' y hy)
         rw[lq,xg K rs v hrok,hgs];simp only[Qn,Qm]at hcl;rcases hcl with⟨hcl1,hcl2⟩|hcl
         ·rw[zm K rs v hcl1,QH.2 fun y hy=>K.plain R hcl2 s' y hy];rfl
         ·rw[hcl];simp
       ·cases h
      ·exact ec hΓ.2 h
     ·cases h
    ·cases h
   ·cases h
  ·exact ec hΓ.2 h
 | .nw g A_s R F::Γ,hΓ,h=>by
  simp only[jn]at h;split at h
  ·rename_i hg;have hg:=QF hg;subst hg;split at h
   ·rename_i a ha;split at h
    ·rename_i hcl;simp only[Qc]at h;obtain⟨s,hs,hk⟩:=h;rw[Qm]at hcl;obtain⟨hcl,hdep⟩:=hcl;have hfz:=mD (ex:=none) (fun id h=>by cases h) A_s 9 args a (QG hdep) ha
     obtain⟨hen,hcon⟩:=hΓ.1;refine⟨vb f (uc false 0 true false [] (gr A_s a) .any (U.pv R s)),_,_,s4 ⟨hen,(fun hq=>by cases hq),fun _ as' r' cs' hm=> ?_,trivial,(fun hq=>by cases hq)⟩,?_,hk⟩
     ·simp only[uc]at hm;split at hm
      ·rename_i he;injection hm with hm
       injection hm with h1 h2
       subst h1 h2;obtain⟨_,rfl⟩:=he;exact hcon a s hs
      ·cases hm
     ·simp only[lP,s5,uc,Qt,hfz,and_self,Qe,jJ,c8.pv,dK.pv,K.qn];have hgs:(U.pv R s).all PV.closed=true:=QH.2 fun y hy=>gd (K.gn R s y hy)
      rw[Qr]
      ·rfl
      rw[lq,hgs];simp only[Qn]at hcl;rcases hcl with hcl|hcl
      ·rw[QH.2 fun y hy=>K.plain R hcl s y hy];rfl
      ·rw[hcl];simp
    ·cases h
   ·exact ec hΓ.2 h
  ·exact ec hΓ.2 h
end
end Go.TQ
end
noncomputable section
namespace Go.TQ
def idx{α:Type}(xs:List α)(n:Int):Option α:=if 0<=n then xs[n.toNat]? else none
def bc(bytes n:Nat):Bool:=decide (n*bytes<=140737488355328)&&decide (n<=maxLen)
theorem A2{bytes n:Nat}(h:bc bytes n=true):n*bytes<=140737488355328/\n<=maxLen:=by
 simpa[bc]using h
theorem MC{α:Type}{xs:List α}{n:Int}{v:α}(h:idx xs n=some v):0<=n/\n.toNat<xs.length/\xs[n.toNat]?=some v:=by
 unfold idx at h;split at h
 ·rename_i h0;exact⟨h0,(Qw.1 h).1,h⟩
 ·cases h
section
variable {U : TU}
def Ii:Option Nat->List (KV U)->Option (KV U)
 |none,cs=>(match cs with|x::_=>some x|[]=>none)
 |some n,cs=>(match Nat.ble n cs.length with|true=>some (.agg (cs.take n))|false=>none)
def DU(cs:List (KV U))(off:Nat)(xs:List (KV U)):List (KV U):=cs.take off++xs++cs.drop (off+xs.length)
def UA(S:aX U):List (KV U)->List (Nat×Nat×bm)->Option (List (KV U))
 |cs,[]=>some cs
 |cs,(off,n,x)::rest=>
  match Nat.beq (x.cO S).cells.length n&&Nat.ble (off+n) cs.length&&(x.cO S).cells.all KV.one with
  |true=>UA S (DU cs off (x.cO S).cells) rest
  |false=>none
def IG(S:aX U)(k:Nat):List (List (KV U))->List (Nat×bm)->Option (List (List (KV U)))
 |es,[]=>some es
 |es,(i,x)::rest=>
  match Nat.beq (x.cO S).cells.length k&&Nat.blt i es.length&&(x.cO S).cells.all KV.one with
  |true=>IG S k (es.set i (x.cO S).cells) rest
  |false=>none
def UD(K:TK U)(T:U.Ty):List (List (KV U))->Option (List (U.den T))
 |[]=>some []
 |e::es=>match K.dec T nH e with
  |some v=>(match UD K T es with|some vs=>some (v::vs)|none=>none)
  |none=>none
def adz{ρ:Type}(op:BinOp)(x y:KV U)(k:KV U->Option ρ):Option ρ:=
 match x,y with
 | .int kd a,.int kd' b=>
  match op with
  | .shl=>if b<0 then none else k (.int kd (kd.wrap (a*2 ^ (min b.toNat kd.bits))))
  | .shr=>if b<0 then none else k (.int kd (a.fdiv (2 ^ (min b.toNat kd.bits))))
  |_=>if kd=kd' then(match op with
   | .add=>k (.int kd (kd.wrap (a+b)))
   | .sub=>k (.int kd (kd.wrap (a - b)))
   | .mul=>k (.int kd (kd.wrap (a*b)))
   | .quo=>if b=0 then none else k (.int kd (kd.wrap (a.tdiv b)))
   | .rem=>if b=0 then none else k (.int kd (a.tmod b))
   | .and=>k (.int kd (kd.wrap ((BitVec.ofInt kd.bits a&&&BitVec.ofInt kd.bits b).toNat)))
   | .or=>k (.int kd (kd.wrap ((BitVec.ofInt kd.bits a|||BitVec.ofInt kd.bits b).toNat)))
   | .xor=>k (.int kd (kd.wrap ((BitVec.ofInt kd.bits a^^^BitVec.ofInt kd.bits b).toNat)))
   | .andNot=>k (.int kd (kd.wrap ((BitVec.ofInt kd.bits a&&& ~~~ BitVec.ofInt kd.bits b).toNat)))
   | .eql=>k (.bool (decide (a=b)))
   | .neq=>k (.bool (!decide (a=b)))
   | .lss=>k (.bool (decide (a<b)))
   | .leq=>k (.bool (decide (a<=b)))
   | .gtr=>k (.bool (decide (b<a)))
   | .geq=>k (.bool (decide (b<=a)))
   |_=>none)else none
 | .str a,.str b=>
  match op with
  | .eql=>k (.bool (decide (a=b)))
  | .neq=>k (.bool (!decide (a=b)))
  | .lss=>k (.bool (jI a b))
  | .leq=>k (.bool (jI a b||decide (a=b)))
  | .gtr=>k (.bool (!(jI a b||decide (a=b))))
  | .geq=>k (.bool (!jI a b))
  |_=>none
 |_,_=>none
def FY:List LK->List (KV U)->List (KV U)->Option Bool
 |[],cs,ds=>(match cs,ds with|[],[]=>some true|_,_=>none)
 |q::ks,cs,ds=>(match q,cs,ds with
  | .i,.int k a::cs,.int l b::ds=>if k=l then(match FY ks cs ds with|some r=>some (decide (a=b)&&r)|none=>none)else none
  | .s,.str a::cs,.str b::ds=>(match FY ks cs ds with|some r=>some (decide (a=b)&&r)|none=>none)
  | .b,.bool a::cs,.bool b::ds=>(match FY ks cs ds with|some r=>some (decide (a=b)&&r)|none=>none)
  |_,_,_=>none)
theorem FX:∀{ks:List LK} {cs ds:List (KV U)} {b:Bool},FY ks cs ds=some b->ln ks (cs.map KV.pv) (ds.map KV.pv)=some b
 |[],cs,ds,b,h=>by
  simp only[FY]at h;split at h
  ·injection h with h;subst h;rfl
  ·cases h
 |q::ks,cs,ds,b,h=>by
  simp only[FY]at h;split at h
  ·split at h
   ·rename_i hk;split at h
    ·rename_i r hr;injection h with h
     subst h;simp only[QD,KV.pv,ln,Qr hk,FX hr,Qe]
    ·cases h
   ·cases h
  ·split at h
   ·rename_i r hr;injection h with h
    subst h;simp only[QD,KV.pv,ln,FX hr,Qe]
   ·cases h
  ·split at h
   ·rename_i r hr;injection h with h
    subst h;simp only[QD,KV.pv,ln,FX hr,Qe]
   ·cases h
  ·cases h
def aX.els(S:aX U)(T:U.Ty)(x:KV U):Option (List (U.den T)):=Wx S.lk T x
def aX.ac4(S:aX U):KV U->Option Nat
 | .dF=>some 0
 | .sl _ xs=>some xs.length
 | .own id ar=>(match S.row? id ar with
  |some r=>some r.xs.length
  |none=>(match S.Vi id ar with|some r=>some r.es.length|none=>none))
 | .view id ar kk lo n=>(match S.row? id ar with
  |some r=>(match Nat.beq r.k kk with|true=>some ((r.xs.drop lo).take n).length|false=>none)
  |none=>none)
 |_=>none
def Dz(S:aX U):Option bm->Int->Option Int
 |none,d=>some d
 |some x,_=>(match x.cO S with| .int _ n=>some n|_=>none)
def cD(l h:Int)(n:Nat):Bool:=decide (0<=l)&&decide (l<=h)&&decide (h<=n)
def bN.db:bN->List bm
 | .mM x| .box x| .DK x| .load _ x| .xT _ x| .not x| .conv _ x| .len _ x| .zr x| .DE _ x| .xK _ x| .clear _ _ x| .K3 _ _ x=>[x]
 | .pick c x y=>[c,x,y]
 | .alloc _=>[]
 | .store _ p x=>[p,x]
 | .build _ ps=>ps.map (·.2.2)
 | .Pd _ _ _ _ ps=>ps.map (·.2)
 | .pM _ x i=>[x,i]
 | .zC _ _ x i=>[x,i]
 | .bin _ x y| .kQ _ x y| .EC _ _ x y| .IH _ x y| .s9 _ x y| .xd x y| .DM _ _ _ _ x y| .lookup _ _ x y=>[x,y]
 | .call _ xs=>xs
 | .uk f xs=>f::xs
 | .cI _ _ _ _ s x=>[s,x]
 | .KT _ xs=>xs
 | .KU _ xs=>xs
 | .Oh _ _ _ _ l c=>[l,c]
 | .Hh _ x lo hi=>x::(lo.toList++hi.toList)
def bN.dy(op:bN):Bool:=op.db.all bm.dy
variable (K : TK U)
def EG(T:U.Ty)(kk:Nat):Nat->List (KV U)->Option (List (U.den T))
 |0,_=>some []
 |n+1,cs=>(match K.dec T nH (cs.take kk)with
  |some v=>(match EG T kk n (cs.drop kk)with|some vs=>some (v::vs)|none=>none)
  |none=>none)
def aau(n:Option Nat)(ag:Bool)(kk:Nat):Bool:=
 match n with
 |none=> !ag&&Nat.beq kk 1
 |some m=>ag&&Nat.beq m kk
theorem La{T:U.Ty}{kk:Nat}:∀{n:Nat} {cs:List (KV U)} {vs:List (U.den T)},EG K T kk n cs=some vs->vs.length=n/\∀(i:Nat) (v:U.den T),vs[i]?=some v->K.dec T nH ((cs.drop (i*kk)).take kk)=some v
 |0,cs,vs,h=>by
  rw[EG]at h;injection h with h
  subst h;exact⟨rfl,fun i v hv=>by simp at hv⟩
 |n+1,cs,vs,h=>by
  rw[EG]at h;split at h
  ·rename_i v0 h0;split at h
   ·rename_i vs0 h1;injection h with h
    subst h;obtain⟨h2,h3⟩:=La h1;refine⟨by rw[QE,h2],fun i v hv=> ?_⟩
    cases i with
    |zero=>
     simp only[List.getElem?_cons_zero,Qf]at hv;subst hv;simpa using h0
    |succ i=>
     have:=h3 i v (by simpa using hv)
     rw[List.drop_drop]at this
     rwa [Nat.succ_mul,Nat.add_comm]
   ·cases h
  ·cases h
def FG{α β:Type}(f:α->Bool)(xs:List (α×β))(d:β):β:=
 match xs with
 |[]=>d
 |p::xs=>bif f p.1 then p.2 else FG f xs d
def FF{α β:Type}(f:α->Bool)(xs:List (α×β)):Bool:=xs.any fun p=>f p.1
def uO(a b:Int):List (KV U)->Bool
 |[.int _ a',.int _ b']=>decide (a=a')&&decide (b=b')
 |_=>false
theorem ach{B:U.Ty}{z:PV}{d:U.den B}(hz:z.dy=true)(h:xc K nH B (KV.s6 z)=some d):dn B d=nz z:=by
 unfold xc at h;split at h
 ·split at h
  ·rename_i cs hx;exfalso;unfold KV.s6 at hx;split at hx<;>cases hx
  ·cases h
 ·rename_i hag;have h1:=K.lO B nH _ _ h;generalize hy:U.pv B d=ys at h1
  cases h1 with
  |cons hc ht=>
   cases ht;rename_i y
   have hv:dn B d=y:=by
    unfold dn;rw[hag,hy];rfl
   rw[hv];generalize hx:(KV.s6 z:KV U)=x at hc;unfold PV.dy at hz;split at hz
   ·simp only[KV.s6]at hx;subst hx;cases hc;rfl
   ·simp only[KV.s6]at hx;subst hx;cases hc;rfl
   ·simp only[KV.s6]at hx;subst hx;cases hc;rfl
   ·simp only[KV.s6]at hx;subst hx;cases hc
   ·simp only[KV.s6]at hx;subst hx;cases hc;rfl
   ·simp only[KV.s6]at hx;subst hx;cases hc
   ·simp only[KV.s6]at hx;subst hx;cases hc
   ·cases hz
theorem VJ{A B:U.Ty}{k l:IntKind}{d:U.den B}(hA:U.agg A=true)(hk:∀v,∃a b,K.cr A v=[.int k a,.int l b])(a b:Int):∀(xs:List (U.den A×U.den B)),
  CP k a l b (xs.map fun p=>dn A p.1) (xs.map fun p=>dn B p.2)=some (bif FF (fun v=>uO a b (K.cr A v)) xs then some (dn B (FG (fun v=>uO a b (K.cr A v)) xs d))else none)/\(FF (fun v=>uO a b (K.cr A v)) xs=false->FG (fun v=>uO a b (K.cr A v)) xs d=d)
 |[]=>⟨rfl,fun _=>rfl⟩
 |p::xs=>by
  obtain⟨a',b',h⟩:=hk p.1
  have hv:dn A p.1= .agg [.int k a',.int l b']:=by
   unfold dn;rw[hA,<-K.qn,h];rfl
  obtain⟨ih,ih2⟩:=VJ hA hk a b xs;have hq:uO a b (K.cr A p.1)=(decide (a=a')&&decide (b=b')):=by rw[h];rfl
  simp only[QD,hv,CP,and_self,Qt,FF,List.any_cons,FG,hq]
  by_cases hab:a=a'/\b=b'
  ·obtain⟨rfl,rfl⟩:=hab;simp
  ·rw[Qs hab,ih]
   have hf:(decide (a=a')&&decide (b=b'))=false:=by
    rw[Bool.and_eq_false_iff,Qj,Qj]
    by_cases h:a=a'
    ·exact .inr fun h'=>hab ⟨h,h'⟩
    ·exact .inl h
   rw[hf];exact⟨rfl,ih2⟩
def aap{ρ:Type}(z:Bool)(id ar e kk:Nat)(T:U.Ty)(xs:List (U.den T))(k:KV U->Option (Nat×c8 U)->Option ρ):Option ρ:=
 match z with
 |false=>k (.own id ar) (some (id,⟨ar,.row e kk T xs⟩))
 |true=>k (.sl T xs) (some (id,⟨ar,.dead⟩))
def fc{ρ:Type}(Γ:List (dw U))(nid:Nat)(S:aX U)(op:bN)(k:KV U->Option (Nat×c8 U)->Option ρ):Option ρ:=
 match op with
 | .mM x=>k (x.cO S) none
 | .pick c x y=>(match c.cO S with
  | .bool b=>(match b with|true=>k (x.cO S) none|false=>k (y.cO S) none)
  |_=>none)
 | .box x=>(match(x.cO S).cells.all KV.one with
  |true=>k (.ptr nid ((S.H nid).ar+1) 0) (some (nid,⟨(S.H nid).ar+1,.box (x.cO S).cells⟩))
  |false=>none)
 | .DK x=>(match(x.cO S).cells.all KV.one&&(x.cO S).cells.all KV.closed with
  |true=>k (.ref (x.cO S).cells) none
  |false=>none)
 | .alloc z=>(match z.all PV.dy with
  |true=>k (.ptr nid ((S.H nid).ar+1) 0) (some (nid,⟨(S.H nid).ar+1,.box (z.map KV.s6)⟩))
  |false=>none)
 | .load n p=>(match p.cO S with
  | .ptr id ar off=>(match S.sn id ar with
   |some cs=>(match Ii n (cs.drop off)with|some x=>k x none|none=>none)
   |none=>none)
  | .eE id ar kk i off=>(match S.row? id ar with
   |some r=>(match Nat.beq kk r.k with
    |true=>(r.xs[i]?).bind fun v=>(match Ii n ((K.cr r.T v).drop off)with|some x=>k x none|none=>none)
    |false=>none)
   |none=>(match S.Vi id ar with
    |some r=>(match Nat.beq kk r.k with
     |true=>(match r.es[i]? with
      |some c=>(match Ii n (c.drop off)with|some x=>k x none|none=>none)
      |none=>none)
     |false=>none)
    |none=>none))
  | .ref cs=>(match Ii n cs with|some x=>k x none|none=>none)
  |_=>none)
 | .store n p x=>(match Nat.beq (x.cO S).cells.length n&&(x.cO S).cells.all KV.one with
  |true=>(match p.cO S with
   | .ptr id ar off=>(match S.sn id ar with
    |some cs=>(match Nat.ble (off+n) cs.length with
     |true=>k .undef (some (id,⟨ar,.box (DU cs off (x.cO S).cells)⟩))
     |false=>none)
    |none=>none)
   | .eE id ar kk i off=>(match S.row? id ar with
    |some r=>(match Nat.beq kk r.k&&Nat.beq (U.size r.T) r.k&&Nat.ble (off+n) (U.size r.T)with
     |true=>(r.xs[i]?).bind fun v=>(match K.dec r.T nH (DU (K.cr r.T v) off (x.cO S).cells)with
      |some v'=>k .undef (some (id,⟨ar,.row r.e r.k r.T (r.xs.set i v')⟩))
      |none=>none)
     |false=>none)
    |none=>none)
   |_=>none)
  |false=>none)
 | .build z ps=>(match z.all PV.dy with
  |true=>(match UA S (z.map KV.s6) ps with|some cs=>k (.agg cs) none|none=>none)
  |false=>none)
 | .Pd m e kk z ps=>(match K.UN e with
  |some T=>(match Nat.beq (U.size T) kk&&z.all (fun u=>u.all PV.dy)with
   |true=>(match IG S kk (z.map fun u=>u.map KV.s6) ps with
    |some es=>(match UD K T es with
     |some vs=>(match m with
      |false=>k (.sl T vs) none
      |true=>k (.own nid ((S.H nid).ar+1)) (some (nid,⟨(S.H nid).ar+1,.row e kk T vs⟩)))
     |none=>none)
    |none=>none)
   |false=>none)
  |none=>(match m&&z.all (fun u=>u.all PV.dy)with
   |true=>(match IG S kk (z.map fun u=>u.map KV.s6) ps with
    |some es=>(match es.all (fun c=>c.all KV.Ux)with
     |true=>k (.own nid ((S.H nid).ar+1)) (some (nid,⟨(S.H nid).ar+1,.raw e kk es⟩))
     |false=>none)
    |none=>none)
   |false=>none))
 | .xT off p=>(match p.cO S with
  | .ptr id ar o=>(match S.sn id ar with|some _=>k (.ptr id ar (o+off)) none|none=>none)
  | .eE id ar kk i o=>(match S.row? id ar with|some r=>(r.xs[i]?).bind fun _=>k (.eE id ar kk i (o+off)) none|none=>none)
  | .ref cs=>k (.ref (cs.drop off)) none
  |_=>none)
 | .pM kk x i=>(match i.cO S with
  | .int _ n=>(match x.cO S with
   | .sl T xs=>(match Nat.beq (U.size T) kk with
    |true=>(idx xs n).bind fun v=>k (.ref (K.cr T v)) none
    |false=>none)
   | .own id ar=>(match S.row? id ar with
    |some r=>(match Nat.beq kk r.k with
     |true=>(idx r.xs n).bind fun _=>k (.eE id ar kk n.toNat 0) none
     |false=>none)
    |none=>(match S.Vi id ar with
     |some r=>(match n with
      | .ofNat j=>(match Nat.beq kk r.k&&Nat.blt j r.es.length with
       |true=>k (.eE id ar kk j 0) none
       |false=>none)
      |_=>none)
     |none=>none))
   | .view id ar kk' lo m=>(match S.row? id ar with
    |some r=>(match Nat.beq kk r.k&&Nat.beq kk' kk with
     |true=>(idx ((r.xs.drop lo).take m) n).bind fun _=>k (.eE id ar kk (lo+n.toNat) 0) none
     |false=>none)
    |none=>none)
   |_=>none)
  |_=>none)
 | .bin op x y=>adz op (x.cO S) (y.cO S) fun v=>k v none
 | .kQ neg x y=>(match x.cO S,y.cO S with
  | .agg [.int kd a,.str s],.agg [.int kd' b,.str t]=>if kd=kd' then k (.bool (xor neg (decide (a=b)&&decide (s=t)))) none else none
  |_,_=>none)
 | .EC neg ks x y=>(match x.cO S,y.cO S with
  | .agg cs,.agg ds=>(match FY ks cs ds with|some b=>k (.bool (xor neg b)) none|none=>none)
  |_,_=>none)
 | .K3 n off x=>(match x.cO S with
  | .agg cs=>(match Ii n (cs.drop off)with|some v=>k v none|none=>none)
  |_=>none)
 | .lookup ok z x y=>(match x.cO S,y.cO S with
  | .iw A B xs,.agg [.int kd a,.int ld b]=>(match K.Rq A,z.dy,xc K nH B (KV.s6 z)with
   |some (kd',ld'),true,some d=>if kd=kd'/\ld=ld' then(match ok with
    |false=>k (vT K B (FG (fun v=>uO a b (K.cr A v)) xs d)) none
    |true=>k (.dP [vT K B (FG (fun v=>uO a b (K.cr A v)) xs d),.bool (FF (fun v=>uO a b (K.cr A v)) xs)]) none)else none
   |_,_,_=>none)
  |_,_=>none)
 | .IH neg x y=>(match x.cO S,y.cO S with
  | .bool a,.bool b=>k (.bool (xor neg (decide (a=b)))) none
  |_,_=>none)
 | .not x=>(match x.cO S with| .bool b=>k (.bool !b) none|_=>none)
 | .conv kd x=>(match x.cO S with| .int _ n=>k (.int kd (kd.wrap n)) none|_=>none)
 | .len true x=>(match x.cO S with| .str s=>k (.int .i64 s.size) none|_=>none)
 | .len false x=>(match S.ac4 (x.cO S)with|some n=>k (.int .i64 n) none|none=>none)
 | .call f xs=>jn K nid S f (xs.map (·.cO S)) k Γ
 | .uk fv xs=>(match fv.cO S with
  | .bH f caps=>jn K nid S f (xs.map (·.cO S)++caps) k Γ
  | .iZ f first=>jn K nid S f (first++xs.map (·.cO S)) k Γ
  |_=>none)
 | .cI z e kk bytes s x=>(match K.UN e with
  |some T=>(match Nat.beq (U.size T) kk with
   |true=>(match S.els T (x.cO S)with
    |some news=>(match s.cO S with
     | .dF=>bif bc bytes news.length then aap z nid ((S.H nid).ar+1) e kk T news k else none
     | .own id ar=>(match S.row? id ar with
      |some r=>(match Nat.beq r.e e&&Nat.beq r.k kk with
       |true=>(match zB r.T T r.xs with
        |some xs=>bif bc bytes (xs.length+news.length)then aap z id (ar+1) e kk T (xs++news) k else none
        |none=>none)
       |false=>none)
      |none=>none)
     |_=>none)
    |none=>none)
   |false=>none)
  |none=>none)
 | .zr x=>(match x.cO S with
  | .ptr id ar off=>(match S.sn id ar with|some _=>k (.ptr id ar off) none|none=>none)
  | .ref cs=>k (.ref cs) none
  | .bH f cs=>k (.bH f cs) none
  |_=>none)
 | .DE i x=>(match x.cO S with
  | .dP cs=>(match cs[i]? with|some y=>k y none|none=>none)
  |_=>none)
 | .KT f caps=>k (.bH f (caps.map (·.cO S))) none
 | .KU f first=>k (.iZ f (first.map (·.cO S))) none
 | .Oh e kk bytes z l c=>(match K.UN e with
  |some T=>(match Nat.beq (U.size T) kk&&z.all PV.dy with
   |true=>(match K.dec T nH (z.map KV.s6)with
    |some d=>(match l.cO S,c.cO S with
     | .int _ n,.int _ m=>bif decide (n=m)&&decide (0<=n)&&bc bytes n.toNat then k (.own nid ((S.H nid).ar+1)) (some (nid,⟨(S.H nid).ar+1,.row e kk T (List.replicate n.toNat d)⟩))else none
     |_,_=>none)
    |none=>none)
   |false=>none)
  |none=>none)
 | .Hh kk x lo hi=>(match x.cO S with
  | .sl T xs=>(match Nat.beq (U.size T) kk with
   |true=>(match Dz S lo 0,Dz S hi xs.length with
    |some l,some h=>bif cD l h xs.length then k (.sl T ((xs.take h.toNat).drop l.toNat)) none else none
    |_,_=>none)
   |false=>none)
  | .own id ar=>(match S.row? id ar with
   |some r=>(match Nat.beq kk r.k with
    |true=>(match Dz S lo 0,Dz S hi r.xs.length with
     |some l,some h=>bif cD l h r.xs.length then k (.view id ar kk l.toNat (h.toNat - l.toNat)) none else none
     |_,_=>none)
    |false=>none)
   |none=>none)
  | .view id ar kk' lo0 n0=>(match S.row? id ar with
   |some r=>(match Nat.beq kk r.k&&Nat.beq kk' kk with
    |true=>(match Dz S lo 0,Dz S hi n0 with
     |some l,some h=>bif cD l h n0 then k (.view id ar kk (lo0+l.toNat) (h.toNat - l.toNat)) none else none
     |_,_=>none)
    |false=>none)
   |none=>none)
  |_=>none)
 | .xd x i=>(match x.cO S,i.cO S with
  | .str s,.int _ n=>(xd s n).bind fun b=>k (.int .u8 b) none
  |_,_=>none)
 | .DM e n len kk x i=>(match x.cO S,i.cO S with
  | .agg cs,.int _ j=>(match K.UN e with
   |some T=>(match Nat.beq (U.size T) kk&&aau n (U.agg T) kk with
    |true=>(match EG K T kk len cs with
     |some vs=>(idx vs j).bind fun v=>k (vT K T v) none
     |none=>none)
    |false=>none)
   |none=>none)
  |_,_=>none)
 | .clear kk z x=>(match x.cO S with
  | .view id ar kk' lo n=>(match S.row? id ar with
   |some r=>(match Nat.beq kk r.k&&Nat.beq kk' kk&&Nat.beq (U.size r.T) kk&&z.all PV.dy&&Nat.beq z.length kk&&(z.map (KV.s6:PV->KV U)).all KV.one with
    |true=>(match K.dec r.T nH (z.map KV.s6)with
     |some d=>k (.dP []) (some (id,⟨ar,.row r.e r.k r.T (r.xs.take lo++List.replicate n d++r.xs.drop (lo+n))⟩))
     |none=>none)
    |false=>none)
   |none=>none)
  |_=>none)
 | .s9 mx x y=>(match x.cO S,y.cO S with
  | .int kd a,.int kd' b=>if kd=kd' then k (.int kd (if mx then(if b>a then b else a)else(if b<a then b else a))) none else none
  |_,_=>none)
 | .xK neg x=>(match x.cO S with
  | .dF=>k (.bool !neg) none
  | .sl _ xs=>bif xs.isEmpty then k .fY none else k (.bool neg) none
  |_=>none)
 | .zC kk len x i=>(match i.cO S with
  | .int _ (.ofNat n)=>(match Nat.blt n len with
   |true=>(match x.cO S with
    | .ptr id ar o=>(match S.sn id ar with|some _=>k (.ptr id ar (o+n*kk)) none|none=>none)
    | .ref cs=>k (.ref (cs.drop (n*kk))) none
    |_=>none)
   |false=>none)
  |_=>none)
variable {K}
variable {S : aX U}
theorem vn{id ar:Nat}{cs:List (KV U)}(h:S.sn id ar=some cs):(S.st.H id).ar=ar/\(S.st.H id).c= .box (cs.map KV.pv):=by
 obtain⟨h1,h2⟩:=Ac h;exact⟨h1,by simp[aX.st,c8.pv,h2,dK.pv]⟩
theorem Bm:∀{n:Option Nat} {cs:List (KV U)} {x:KV U},Ii n cs=some x->sy n (cs.map KV.pv)=some x.pv
 |none,[],x,h=>by cases h
 |none,y::l,x,h=>by injection h with h;subst h;rfl
 |some n,cs,x,h=>by
  simp only[Ii]at h;split at h
  ·rename_i hn;injection h with h
   subst h;rw[sy,Qr (by simpa using QG hn),KV.pv,KV.ct,List.map_take]
  ·cases h
theorem Hg(cs xs:List (KV U))(off:Nat):(DU cs off xs).map KV.pv=ij (cs.map KV.pv) off (xs.map KV.pv):=by
 simp[DU,ij,List.map_append,List.map_take,List.map_drop]
theorem agR(S:aX U){x:PV}(h:x.dy=true):(KV.s6 x:KV U).pv=x:=(wS (S:=S) (x:= .wW x) h).symm
theorem yP{z:List PV}(S:aX U)(h:z.all PV.dy=true):(z.map (KV.s6:PV->KV U)).map KV.pv=z:=by
 induction z with
 |nil=>rfl
 |cons x l ih=>
  rw[List.all_cons,Qm]at h;rw[QD,QD,agR S h.1,ih h.2]
theorem Wo:∀{ps:List (Nat×Nat×bm)} {cs cs':List (KV U)},(∀p∈ps,p.2.2.dy=true)->UA S cs ps=some cs'->ql S.st (cs.map KV.pv) ps=some (cs'.map KV.pv)
 |[],cs,cs',_,h=>by injection h with h;subst h;rfl
 |(off,n,x)::ps,cs,cs',ho,h=>by
  simp only[UA]at h;split at h
  ·rename_i hc;simp only[Qm]at hc;obtain⟨⟨h1,h2⟩,h3⟩:=hc;have h1:=QF h1;have h2:=QG h2;rw[ql,wS (ho _ Qx),wz,uo,Qr ⟨by simpa using h1,by simpa using h2,h3⟩,<-Hg]
   exact Wo (fun p hp=>ho p (Qy _ hp)) h
  ·cases h
theorem IF{kk:Nat}:∀{ps:List (Nat×bm)} {es es':List (List (KV U))},(∀p∈ps,p.2.dy=true)->IG S kk es ps=some es'->tl S.st kk (es.map fun e=>e.map KV.pv) ps=some (es'.map fun e=>e.map KV.pv)
 |[],es,es',_,h=>by injection h with h;subst h;rfl
 |(i,x)::ps,es,es',ho,h=>by
  simp only[IG]at h;split at h
  ·rename_i hc;simp only[Qm]at hc;obtain⟨⟨h1,h2⟩,h3⟩:=hc;have h1:=QF h1;have h2:i<es.length:=QG h2;rw[tl,wS (ho _ Qx),wz,uo,Qr ⟨by simpa using h1,by simpa using h2,h3⟩,<-List.map_set]
   exact IF (fun p hp=>ho p (Qy _ hp)) h
  ·cases h
theorem Wy{T:U.Ty}:∀{es:List (List (KV U))} {vs:List (U.den T)},UD K T es=some vs->BI (es.map fun e=>e.map KV.pv)=vs.map (U.pv T)/\(es.map fun e=>e.map KV.pv).all (fun u=>u.all PV.closed)=true
 |[],vs,h=>by injection h with h;subst h;exact⟨rfl,rfl⟩
 |e::es,vs,h=>by
  rw[UD]at h;split at h
  ·rename_i v hv;split at h
   ·rename_i vs' hvs;injection h with h
    subst h;obtain⟨h1,h2⟩:=Wy hvs;obtain⟨h3,h4⟩:=tu (K.lO _ _ _ _ hv);refine⟨?_,?_⟩
    ·rw[QD,QD,<-h1,<-h3];rfl
    ·rw[QD,List.all_cons,mF,h4,h2];rfl
   ·cases h
  ·cases h
theorem Wh{y:PV}(h:y.gn=true):y.one=true:=by
 cases y<;>first|rfl|cases h
theorem Yq(T:U.Ty)(vs:List (U.den T)){kk:Nat}(hk:U.size T=kk)(K:TK U):(vs.map (U.pv T)).all (fun u=>u.length==kk&&u.all PV.one)=true:=by
 refine QH.2 fun u hu=> ?_
 obtain⟨v,_,rfl⟩:=QP.1 hu;rw[K.len,hk,QH.2 fun y hy=>Wh (K.gn T v y hy)]
 simp
theorem ahc{T:U.Ty}{x:KV U}{vs:List (U.den T)}(h:S.els T x=some vs):kc S.st x.pv=some (vs.map (U.pv T)):=by
 unfold aX.els Wx at h;split at h
 ·injection h with h;subst h;rfl
 ·obtain⟨e,rfl⟩:=nh h;subst e;rfl
 ·rename_i id ar;obtain⟨hv,e,k,hc⟩:=Yu h;have hc1:(S.st.H id).c= .row e k (vs.map (U.pv T)):=by simp[aX.st,c8.pv,hc,dK.pv]
  have hv1:(S.st.H id).ar=ar:=hv;rw[KV.pv,kc,Qr hv1,hc1]
 ·cases h
theorem afl{x:KV U}{n:Nat}(h:S.ac4 x=some n):∃es,kc S.st x.pv=some es/\es.length=n:=by
 unfold aX.ac4 at h;split at h
 ·injection h with h;exact⟨[],rfl,h⟩
 ·rename_i T xs;injection h with h;exact⟨xs.map (U.pv T),rfl,by simpa using h⟩
 ·rename_i id ar;split at h
  ·rename_i r hr;obtain⟨hv,hc⟩:=oG hr;injection h with h
   refine⟨r.xs.map (U.pv r.T),?_,by simpa using h⟩
   rw[KV.pv,kc,Qr hv,hc]
  ·split at h
   ·rename_i r hr;obtain⟨hv,hc⟩:=Vh hr;injection h with h
    refine⟨r.es.map fun c=>c.map KV.pv,?_,by simpa using h⟩
    rw[KV.pv,kc,Qr hv,hc]
   ·cases h
 ·rename_i id ar kk lo m;split at h
  ·rename_i r hr;obtain⟨hv,hc⟩:=oG hr;split at h
   ·rename_i hk;injection h with h
    refine⟨((r.xs.drop lo).take m).map (U.pv r.T),?_,by rw[QC];exact h⟩
    rw[KV.pv,kc,Qr hv,hc];simp only;rw[Qr (QF hk),List.map_take,List.map_drop]
   ·cases h
  ·cases h
 ·cases h
theorem N8{l:List bm}{y:Option bm}{d n:Int}(hi1:∀(y:bm) (d n:Int),y∈l->Dz S (some y) d=some n->∃kd,y.val S.st= .int kd n)(hy:∀z,y=some z->z∈l)(h:Dz S y d=some n):sg S.st y d=some n:=by
 cases y with
 |none=>exact h
 |some z=>
  obtain⟨kd,hz⟩:=hi1 z d n (hy z rfl) h;simp only[sg,hz]
theorem BK{xs:List bm}(h:∀x∈xs,x.dy=true):xs.map (·.val S.st)=(xs.map (·.cO S)).map KV.pv:=by
 rw[List.map_map];exact List.map_congr_left fun x hx=>wS (h x hx)
theorem af5{ρ:Type}{op:BinOp}{x y:KV U}{k:KV U->Option ρ}{r:ρ}(h:adz op x y k=some r):∃v:KV U,JA op x.pv y.pv=some v.pv/\k v=some r:=by
 unfold adz at h;split at h
 ·rename_i kd a kd' b;cases op<;>simp only at h<;>simp only[KV.pv,JA,IV]<;>
  first
  |(
    split at h
    ·cases h
    ·rename_i h1;exact⟨_,by rw[Qs h1];rfl,h⟩)
  |(
    split at h
    ·rename_i h1;rw[Qr h1]
     first
     |exact⟨_,rfl,h⟩
     |(
       split at h
       ·cases h
       ·rename_i h2;exact⟨_,by rw[Qs h2];rfl,h⟩)
     |cases h
    ·cases h)
 ·rename_i a b;cases op<;>simp only at h<;>simp only[KV.pv,JA,Pf]<;>first|exact⟨_,rfl,h⟩|cases h
 ·cases h
theorem WW(K:TK U){ρ:Type}{z:Bool}{id ar e kk:Nat}{T:U.Ty}{xs:List (U.den T)}{k:KV U->Option (Nat×c8 U)->Option ρ}{r:ρ}(h:aap z id ar e kk T xs k=some r):
  ∃x wr,IW z id ar e kk (xs.map (U.pv T))=some (x.pv,wr.map jJ)/\k x wr=some r:=by
 cases z with
 |false=>exact⟨_,_,rfl,h⟩
 |true=>
  refine⟨_,_,?_,h⟩;simp only[IW];rw[Qr]
  ·rfl
  ·refine QH.2 fun u hu=> ?_
   obtain⟨x,_,rfl⟩:=QP.1 hu;exact QH.2 fun y hy=>gd (K.gn _ _ _ hy)
theorem XW{P:Program}{ρ:Type}{Γ:List (dw U)}{nid:Nat}{op:bN}{k:KV U->Option (Nat×c8 U)->Option ρ}{r:ρ}(hΓ:tM P Γ)(ho:op.dy=true)(h:fc K Γ nid S op k=some r):
  ∃Γ' x wr,kD P Γ'/\exec Γ' nid S.st op=some (x.pv,wr.map jJ)/\k x wr=some r:=by
 have hov:∀x∈op.db,x.val S.st=(x.cO S).pv:=fun x hx=>wS (QH.1 ho x hx)
 have hoc:∀x∈op.db,x.dy=true:=fun x hx=>QH.1 ho x hx
 have pure:∀{x:KV U} {wr:Option (Nat×c8 U)},exec (fun _=>none) nid S.st op=some (x.pv,wr.map jJ)->k x wr=some r->∃Γ' x wr,kD P Γ'/\exec Γ' nid S.st op=some (x.pv,wr.map jJ)/\k x wr=some r:=
  fun{x wr} h1 h2=>⟨fun _=>none,x,wr,fun f m hm=>(by cases hm),h1,h2⟩
 cases op with
 |mM x=>
  have h1:=hov x (by simp[bN.db])
  exact pure (by rw[exec,h1];rfl) h
 |pick c x y=>
  have h1:=hov c (by simp[bN.db])
  have h2:=hov x (by simp[bN.db])
  have h3:=hov y (by simp[bN.db])
  simp only[fc]at h;split at h
  ·rename_i b hb;rw[hb]at h1;split at h
   ·exact pure (by rw[exec,h1];simp only[KV.pv];rw[h2];rfl) h
   ·exact pure (by rw[exec,h1];simp only[KV.pv];rw[h3];rfl) h
  ·cases h
 |box x=>
  have h1:=hov x (by simp[bN.db])
  simp only[fc]at h;split at h
  ·rename_i hb;refine pure ?_ h;rw[exec,h1,wz,uo,Qr hb];rfl
  ·cases h
 |DK x=>
  have h1:=hov x (by simp[bN.db])
  simp only[fc]at h;split at h
  ·rename_i hb;refine pure ?_ h;rw[exec,h1,wz,uo,mF,Qr hb];simp only[KV.pv,KV.ct,Option.map_none]
  ·cases h
 |alloc z=>
  simp only[fc]at h;split at h
  ·rename_i hb;refine pure ?_ h;simp only[exec,Qe,jJ,c8.pv,dK.pv,yP S hb];rfl
  ·cases h
 |load n p=>
  have h1:=hov p (by simp[bN.db])
  simp only[fc]at h;split at h
  ·rename_i id ar off hp;rw[hp]at h1;split at h
   ·rename_i cs hb;obtain⟨h2,h3⟩:=vn hb;split at h
    ·rename_i x hx;refine pure ?_ h;have:=Bm hx;rw[List.map_drop]at this;rw[exec,h1];simp only[KV.pv];rw[Qr h2,h3];simp only[this,Qe,Option.map_none]
    ·cases h
   ·cases h
  ·rename_i id ar kk i off hp;rw[hp]at h1;split at h
   ·rename_i rr hb;obtain⟨h2,h3⟩:=oG hb;split at h
    ·rename_i hk;simp only[Qc]at h;obtain⟨v,hv,h⟩:=h;split at h
     ·rename_i x hx;refine pure ?_ h;have:=Bm hx;rw[List.map_drop,K.qn]at this;rw[exec,h1];simp only[KV.pv];rw[Qr h2,h3];simp only[QF hk,Qt,QT,hv,Qe,this,Option.map_none]
     ·cases h
    ·cases h
   ·split at h
    ·rename_i rr hb;obtain⟨h2,h3⟩:=Vh hb;split at h
     ·rename_i hk;split at h
      ·rename_i c hc;split at h
       ·rename_i x hx;refine pure ?_ h;have:=Bm hx;rw[List.map_drop]at this;rw[exec,h1];simp only[KV.pv];rw[Qr h2,h3];simp only[QF hk,Qt,QT,hc,Qe,this,Option.map_none]
       ·cases h
      ·cases h
     ·cases h
    ·cases h
  ·rename_i cs hp;rw[hp]at h1;split at h
   ·rename_i x hx;refine pure ?_ h;rw[exec,h1];simp only[KV.pv,KV.ct,Bm hx,Qe,Option.map_none]
   ·cases h
  ·cases h
 |store n p x=>
  have h1:=hov p (by simp[bN.db])
  have h2:=hov x (by simp[bN.db])
  simp only[fc]at h;split at h
  ·rename_i hc;rw[Qm]at hc;have hl:=QF hc.1
   have hc1:(x.val S.st).cells.length=n/\(x.val S.st).cells.all PV.one=true:=by
    rw[h2,wz,uo];exact⟨by simpa using hl,hc.2⟩
   split at h
   ·rename_i id ar off hp;rw[hp]at h1;split at h
    ·rename_i cs hb;obtain⟨h3,h4⟩:=vn hb;split at h
     ·rename_i hle;refine pure ?_ h;rw[exec,Qr hc1,h1];simp only[KV.pv];rw[Qr h3,h4];simp only[QC];rw[Qr (QG hle),h2,wz];simp only[Qe,jJ,c8.pv,dK.pv,Hg]
     ·cases h
    ·cases h
   ·rename_i id ar kk i off hp;rw[hp]at h1;split at h
    ·rename_i rr hb;obtain⟨h3,h4⟩:=oG hb;split at h
     ·rename_i hk;simp only[Qm]at hk;obtain⟨⟨hk1,hk2⟩,hk3⟩:=hk;have hk1:=QF hk1;have hk2:=QF hk2;have hk3:=QG hk3;simp only[Qc]at h;obtain⟨v,hv,h⟩:=h;split at h
      ·rename_i v' hd;refine pure ?_ h;obtain⟨h5,_⟩:=tu (K.lO _ _ _ _ hd);rw[Hg,K.qn]at h5
       have h6:ij (U.pv rr.T v) off (((x.cO S).cells.map KV.pv).map nz)=U.pv rr.T v':=by
        rw[<-h5]
        have hnz:(U.pv rr.T v).map nz=U.pv rr.T v:=by
         refine(List.map_congr_left fun y hy=> ?_).trans (List.map_id _)
         have:=K.gn _ _ _ hy;cases y<;>first|rfl|cases this
        simp only[ij,List.map_append,List.map_take,List.map_drop,hnz,QC]
       rw[exec,Qr hc1,h1];simp only[KV.pv];rw[Qr h3,h4];simp only[hk1,Qt,QT,hv,Qe,K.len];rw[Qr hk3,h2,wz,h6];simp only[jJ,c8.pv,dK.pv,List.map_set]
      ·cases h
     ·cases h
    ·cases h
   ·cases h
  ·cases h
 |build z ps=>
  simp only[fc]at h;split at h
  ·rename_i hz;split at h
   ·rename_i cs hf;refine pure ?_ h;have:=Wo (fun p hp=>hoc _ (by simp only[bN.db,QP];exact⟨p,hp,rfl⟩)) hf
    rw[yP S hz]at this;rw[exec,this];simp only[Qe,Option.map_none,KV.pv,KV.ct]
   ·cases h
  ·cases h
 |Pd m e kk z ps=>
  simp only[fc]at h;split at h
  ·rename_i T hT;split at h
   ·rename_i hz;rw[Qm]at hz;split at h
    ·rename_i es hf;split at h
     ·rename_i vs hd;have h1:=IF (fun p hp=>hoc _ (by simp only[bN.db,QP];exact⟨p,hp,rfl⟩)) hf
      have h2:(z.map fun u=>u.map (KV.s6:PV->KV U)).map (fun e=>e.map KV.pv)=z:=by
       rw[List.map_map];refine(List.map_congr_left fun u hu=> ?_).trans (List.map_id _)
       exact yP S (QH.1 hz.2 u hu)
      rw[h2]at h1;obtain⟨h3,h4⟩:=Wy hd;split at h
      ·refine pure ?_ h;rw[exec,h1];simp only[h4,and_self,Qt,h3,KV.pv,Option.map_none]
      ·refine pure ?_ h;rw[exec,h1];simp only[Bool.true_eq_false,false_and,Qu,h3,KV.pv,Qe,jJ,c8.pv,dK.pv];rfl
     ·cases h
    ·cases h
   ·cases h
  ·split at h
   ·rename_i hz;rw[Qm]at hz;split at h
    ·rename_i es hf;split at h
     ·rename_i hnn;have h1:=IF (fun p hp=>hoc _ (by simp only[bN.db,QP];exact⟨p,hp,rfl⟩)) hf
      have h2:(z.map fun u=>u.map (KV.s6:PV->KV U)).map (fun e=>e.map KV.pv)=z:=by
       rw[List.map_map];refine(List.map_congr_left fun u hu=> ?_).trans (List.map_id _)
       exact yP S (QH.1 hz.2 u hu)
      rw[h2]at h1
      have h3:BI (es.map fun e=>e.map KV.pv)=es.map fun e=>e.map KV.pv:=by
       unfold BI;rw[List.map_map];refine List.map_congr_left fun c hc=> ?_
       simp only[Function.comp,List.map_map];refine List.map_congr_left fun y hy=> ?_
       have:=QH.1 (QH.1 hnn c hc) y hy;cases y<;>first|rfl|cases this|simp[KV.pv,nz]
      have hm:m=true:=hz.1;subst hm;refine pure ?_ h;rw[exec,h1];simp only[Bool.true_eq_false,false_and,Qu,h3,KV.pv,Qe,jJ,c8.pv,dK.pv];rfl
     ·cases h
    ·cases h
   ·cases h
 |xT off p=>
  have h1:=hov p (by simp[bN.db])
  simp only[fc]at h;split at h
  ·rename_i id ar o hp;rw[hp]at h1;split at h
   ·rename_i cs hb;obtain⟨h2,h3⟩:=vn hb;refine pure ?_ h;rw[exec,h1];simp only[KV.pv];rw[Qr h2,h3];rfl
   ·cases h
  ·rename_i id ar kk i o hp;rw[hp]at h1;split at h
   ·rename_i rr hb;obtain⟨h2,h3⟩:=oG hb;simp only[Qc]at h;obtain⟨v,hv,h⟩:=h;refine pure ?_ h;have hi:=(Qw.1 hv).1;rw[exec,h1];simp only[KV.pv];rw[Qr h2,h3];simp only[QC,hi,Qt,Option.map_none]
   ·cases h
  ·rename_i cs hp;rw[hp]at h1;refine pure ?_ h;rw[exec,h1];simp only[KV.pv,KV.ct,List.map_drop,Option.map_none]
  ·cases h
 |pM kk x i=>
  have h1:=hov x (by simp[bN.db])
  have h2:=hov i (by simp[bN.db])
  simp only[fc]at h;split at h
  ·rename_i kd n hn;rw[hn]at h2;split at h
   ·rename_i T xs hx;rw[hx]at h1;split at h
    ·rename_i hk;simp only[Qc]at h;obtain⟨v,hv,h⟩:=h;obtain⟨hi0,hi1,hi2⟩:=MC hv;refine pure ?_ h;rw[exec,h2];simp only[KV.pv];rw[h1];simp only[KV.pv,QC];rw[Qr ⟨hi0,by omega⟩]
     simp only[QT,hi2,Qe,K.len,QF hk,Qt,KV.ct,K.qn,Option.map_none]
    ·cases h
   ·rename_i id ar hx;rw[hx]at h1;split at h
    ·rename_i rr hb;obtain⟨h3,h4⟩:=oG hb;split at h
     ·rename_i hk;simp only[Qc]at h;obtain⟨v,hv,h⟩:=h;obtain⟨hi0,hi1,hi2⟩:=MC hv;refine pure ?_ h;rw[exec,h2];simp only[KV.pv];rw[h1];simp only[KV.pv];rw[Qr h3,h4];simp only[QC];rw[Qr ⟨QF hk,hi0,by omega⟩]
      rfl
     ·cases h
    ·split at h
     ·rename_i rr hb;obtain⟨h3,h4⟩:=Vh hb;split at h
      ·rename_i j;split at h
       ·rename_i hk;rw[Qm]at hk;have hlt:j<rr.es.length:=QG hk.2;refine pure ?_ h;rw[exec,h2];simp only[KV.pv];rw[h1];simp only[KV.pv];rw[Qr h3,h4];simp only[QC];rw[Qr ⟨QF hk.1,Int.natCast_nonneg j,Int.ofNat_lt.2 hlt⟩];rfl
       ·cases h
      ·cases h
     ·cases h
   ·rename_i id ar kk' lo m hx;rw[hx]at h1;split at h
    ·rename_i rr hb;obtain⟨h3,h4⟩:=oG hb;split at h
     ·rename_i hk;rw[Qm]at hk;simp only[Qc]at h;obtain⟨v,hv,h⟩:=h;obtain⟨hi0,hi1,hi2⟩:=MC hv;refine pure ?_ h;rw[exec,h2];simp only[KV.pv];rw[h1];simp only[KV.pv];rw[Qr h3,h4];simp only[QC];simp only[List.length_take,List.length_drop]at hi1;rw[Qr ⟨QF hk.1,QF hk.2,hi0,by omega,by omega⟩]
      rfl
     ·cases h
    ·cases h
   ·cases h
  ·cases h
 |xd x i=>
  have h1:=hov x (by simp[bN.db])
  have h2:=hov i (by simp[bN.db])
  simp only[fc]at h;split at h
  ·rename_i s _ n hx hi;rw[hx]at h1;rw[hi]at h2;simp only[Qc]at h;obtain⟨b,hb,h⟩:=h;refine pure ?_ h;rw[exec,h1,h2];simp only[KV.pv,hb,Qe,Option.map_none]
  ·cases h
 |DM e n len kk x i=>
  have h1:=hov x (by simp[bN.db])
  have h2:=hov i (by simp[bN.db])
  simp only[fc]at h;split at h
  ·rename_i cs _ j hx hi;rw[hx]at h1;rw[hi]at h2;split at h
   ·rename_i T hT;split at h
    ·rename_i hk;split at h
     ·rename_i vs hvs;simp only[Qc]at h;obtain⟨v,hv,h⟩:=h;obtain⟨hlen,hget⟩:=La K hvs
      have hv0:0<=j/\vs[j.toNat]?=some v:=by
       unfold idx at hv;split at hv
       ·rename_i h0;exact⟨h0,hv⟩
       ·cases hv
      have hjl:j.toNat<vs.length:=(Qw.1 hv0.2).1;obtain⟨hnz,_⟩:=tu (K.lO _ _ _ _ (hget _ _ hv0.2));rw[Qm]at hk;have hkk:=QF hk.1;have hpl:=K.len T v
      have hcl:((cs.drop (j.toNat*kk)).take kk).length=kk:=by
       have:=congrArg List.length hnz;simp only[QC]at this;omega
      refine pure ?_ h;rw[exec,h1,h2];simp only[KV.pv,KV.ct];rw[Qr ⟨hv0.1,by omega⟩,wM]
      have hsplit:((cs.map KV.pv).drop (j.toNat*kk)).map nz=U.pv T v++(((cs.drop (j.toNat*kk)).drop kk).map KV.pv).map nz:=by
       rw[<-hnz,<-List.map_append,<-List.map_append,List.take_append_drop,List.map_drop,List.map_drop,List.map_drop]
      rw[hsplit]
      cases n with
      |none=>
       simp only[aau,Qm,Bool.not_eq_true']at hk;have h1k:=QF hk.2.2;obtain⟨y,hy1,hy2⟩:=tP K v hk.2.1
       cases hp:U.pv T v with
       |nil=>rw[hp]at hy2;cases hy2
       |cons y0 l=>
        have hl0:l=[]:=by
         rw[hp,QE]at hpl;exact List.eq_nil_of_length_eq_zero (by omega)
        rw[hp,hl0,List.mem_singleton]at hy2;rw[hl0];simp only[List.singleton_append,sy,Qe,Option.map_none];rw[hy1,hy2]
      |some m=>
       simp only[aau,Qm]at hk;have hm:=QF hk.2.2;subst hm;simp only[sy];rw[Qr (by rw[QB];omega),List.take_append_of_le_length (by omega),List.take_of_length_le (by omega),wL v hk.2.1]
       rfl
     ·cases h
    ·cases h
   ·cases h
  ·cases h
 |clear kk z x=>
  have h1:=hov x (by simp[bN.db])
  simp only[fc]at h;split at h
  ·rename_i id ar kk' lo n hx;rw[hx]at h1;split at h
   ·rename_i rr hb;obtain⟨h3,h4⟩:=oG hb;split at h
    ·rename_i hk;simp only[Qm]at hk;obtain⟨⟨⟨⟨⟨k1,k2⟩,k3⟩,k4⟩,k5⟩,k6⟩:=hk;split at h
     ·rename_i d hd;refine pure ?_ h;have h7:=(tu (K.lO _ _ _ _ hd)).1;rw[yP S k4]at h7;have h8:z.all PV.one=true:=by rw[<-uo,yP S k4]at k6;exact k6
      have e1:=QF k1;have e2:=QF k2;have e5:=QF k5;rw[exec,h1];simp only[KV.pv];rw[Qr h3,h4];simp only;rw[Qr ⟨e1,e2,e5,h8⟩,h7];simp only[Qe,jJ,c8.pv,dK.pv,List.map_append,List.map_take,List.map_drop,List.map_replicate,KV.CK];rw[e1]
     ·cases h
    ·cases h
   ·cases h
  ·cases h
 |zC kk len x i=>
  have h1:=hov x (by simp[bN.db])
  have h2:=hov i (by simp[bN.db])
  simp only[fc]at h;split at h
  ·rename_i kd n hi;rw[hi]at h2;split at h
   ·rename_i hb;have hlt:n<len:=by simpa using hb
    have hc:(0:Int)<=Int.ofNat n/\Int.ofNat n<(len:Int):=⟨Int.natCast_nonneg n,Int.ofNat_lt.2 hlt⟩;split at h
    ·rename_i id ar o hx;rw[hx]at h1;split at h
     ·rename_i cs hbx;obtain⟨h3,h4⟩:=vn hbx;refine pure ?_ h;rw[exec,h2];simp only[KV.pv];rw[Qr hc,h1];simp only[KV.pv];rw[Qr h3,h4];rfl
     ·cases h
    ·rename_i cs hx;rw[hx]at h1;refine pure ?_ h;rw[exec,h2];simp only[KV.pv];rw[Qr hc,h1];simp only[KV.pv,KV.ct,List.map_drop,Option.map_none];rfl
    ·cases h
   ·cases h
  ·cases h
 |bin op x y=>
  have h1:=hov x (by simp[bN.db])
  have h2:=hov y (by simp[bN.db])
  simp only[fc]at h;obtain⟨v,h3,h4⟩:=af5 h;refine pure ?_ h4;rw[exec,h1,h2,h3];rfl
 |kQ neg x y=>
  have h1:=hov x (by simp[bN.db])
  have h2:=hov y (by simp[bN.db])
  simp only[fc]at h;split at h
  ·rename_i hx hy;rw[hx]at h1;rw[hy]at h2;split at h
   ·rename_i hk;refine pure ?_ h;rw[exec,h1,h2];simp only[KV.pv,KV.CK,hk,Qt,Option.map_none]
   ·cases h
  ·cases h
 |K3 n off x=>
  have h1:=hov x (by simp[bN.db])
  simp only[fc]at h;split at h
  ·rename_i cs hp;rw[hp]at h1;split at h
   ·rename_i v hx;refine pure ?_ h;have:=Bm hx;rw[List.map_drop]at this;rw[exec,h1];simp only[KV.pv,KV.ct,this,Qe,Option.map_none]
   ·cases h
  ·cases h
 |lookup ok z x y=>
  have h1:=hov x (by simp[bN.db])
  have h2:=hov y (by simp[bN.db])
  simp only[fc]at h;split at h
  ·rename_i A B xs kd a ld b hx hy;rw[hx]at h1;rw[hy]at h2;split at h
   ·rename_i kd' ld' d hkey hzo hzd;split at h
    ·rename_i hkl;obtain⟨rfl,rfl⟩:=hkl;obtain⟨hA,hk⟩:=K.Jq A kd ld hkey;obtain⟨hm,hm2⟩:=VJ K (B:=B) (d:=d) hA hk a b xs;have hz:dn B d=nz z:=ach K hzo hzd
     have hr:(bif FF (fun v=>uO a b (K.cr A v)) xs then some (dn B (FG (fun v=>uO a b (K.cr A v)) xs d))else none:Option PV).getD (nz z)=dn B (FG (fun v=>uO a b (K.cr A v)) xs d):=by
      cases hh:FF (fun v=>uO a b (K.cr A v)) xs with
      |true=>rfl
      |false=>rw[hm2 hh,hz];rfl
     have hi:(bif FF (fun v=>uO a b (K.cr A v)) xs then some (dn B (FG (fun v=>uO a b (K.cr A v)) xs d))else none:Option PV).isSome=FF (fun v=>uO a b (K.cr A v)) xs:=by
      cases hh:FF (fun v=>uO a b (K.cr A v)) xs<;>rfl
     cases ok with
     |false=>
      refine pure ?_ h;rw[exec,h1,h2];simp only[KV.pv,KV.CK,hm,Qe,Qq,Qu,hr,wM,Option.map_none]
     |true=>
      refine pure ?_ h;rw[exec,h1,h2];simp only[KV.pv,KV.CK,hm,Qe,Qt,hr,hi,wM,Option.map_none]
    ·cases h
   ·cases h
  ·cases h
 |IH neg x y=>
  have h1:=hov x (by simp[bN.db])
  have h2:=hov y (by simp[bN.db])
  simp only[fc]at h;split at h
  ·rename_i hx hy;rw[hx]at h1;rw[hy]at h2;refine pure ?_ h;rw[exec,h1,h2];rfl
  ·cases h
 |not x=>
  have h1:=hov x (by simp[bN.db])
  simp only[fc]at h;split at h
  ·rename_i hx;rw[hx]at h1;exact pure (by rw[exec,h1];rfl) h
  ·cases h
 |conv kd x=>
  have h1:=hov x (by simp[bN.db])
  simp only[fc]at h;split at h
  ·rename_i hx;rw[hx]at h1;exact pure (by rw[exec,h1];rfl) h
  ·cases h
 |len b x=>
  have h1:=hov x (by simp[bN.db])
  cases b with
  |true=>
   simp only[fc]at h;split at h
   ·rename_i hx;rw[hx]at h1;exact pure (by rw[exec,h1];rfl) h
   ·cases h
  |false=>
   simp only[fc]at h;split at h
   ·rename_i n hx;obtain⟨es,h2,h3⟩:=afl hx;exact pure (by rw[exec,h1,h2];simp only[Qe,Option.map_none,KV.pv,h3]) h
   ·cases h
 |call f xs=>
  simp only[fc]at h;obtain⟨Γ',x,wr,h1,h2,h3⟩:=ec hΓ h;refine⟨Γ',x,wr,h1,?_,h3⟩;rw[exec,BK (xs:=xs) hoc];exact h2
 |uk fv xs=>
  have h0:=hov fv (by simp[bN.db])
  simp only[fc]at h;split at h
  ·rename_i f caps hf;rw[hf]at h0;obtain⟨Γ',x,wr,h1,h2,h3⟩:=ec hΓ h;refine⟨Γ',x,wr,h1,?_,h3⟩;rw[exec,h0];simp only[KV.pv];rw[BK (fun x hx=>hoc x (by simp[bN.db,hx])),KV.ct,<-List.map_append]
   exact h2
  ·rename_i f caps hf;rw[hf]at h0;obtain⟨Γ',x,wr,h1,h2,h3⟩:=ec hΓ h;refine⟨Γ',x,wr,h1,?_,h3⟩;rw[exec,h0];simp only[KV.pv];rw[BK (fun x hx=>hoc x (by simp[bN.db,hx])),KV.ct,<-List.map_append]
   exact h2
  ·cases h
 |cI z e kk bytes s x=>
  have h1:=hov s (by simp[bN.db])
  have h2:=hov x (by simp[bN.db])
  simp only[fc]at h;split at h
  ·rename_i T hT;split at h
   ·rename_i hk;have hk:=QF hk;split at h
    ·rename_i news hn;have h3:=ahc hn;split at h
     ·rename_i hs;rw[hs]at h1
      cases hl:bc bytes news.length with
      |false=>rw[hl]at h;cases h
      |true=>
       rw[hl]at h;obtain⟨hl1,hl2⟩:=A2 hl;obtain⟨x0,wr0,g1,g2⟩:=WW K h;refine pure ?_ g2;rw[exec,h2,h3];simp only[Yq T news hk K,Qt,h1,KV.pv,QC];rw[Qr ⟨hl1,hl2⟩];exact g1
     ·rename_i id ar hs;rw[hs]at h1;split at h
      ·rename_i rr hb;obtain⟨h4,h5⟩:=oG hb;split at h
       ·rename_i he;rw[Qm]at he;have he1:=QF he.1;have he2:=QF he.2;split at h
        ·rename_i xs hc
         have hpv:rr.xs.map (U.pv rr.T)=xs.map (U.pv T):=by
          obtain⟨eT,hxs⟩:=nh hc;obtain⟨re,rk,rT,rxs⟩:=rr;simp only at eT hxs ⊢;subst eT;rw[hxs]
         cases hl:bc bytes (xs.length+news.length)with
         |false=>rw[hl]at h;cases h
         |true=>
          rw[hl]at h;obtain⟨hl1,hl2⟩:=A2 hl;obtain⟨x0,wr0,g1,g2⟩:=WW K h;refine pure ?_ g2;rw[exec,h2,h3];simp only[Yq T news hk K,Qt,h1,KV.pv];rw[Qr h4,h5];simp only[hpv,QC];rw[Qr ⟨he1.symm,he2.symm,hl1,hl2⟩];rw[List.map_append]at g1;exact g1
        ·cases h
       ·cases h
      ·cases h
     ·cases h
    ·cases h
   ·cases h
  ·cases h
 |zr x=>
  have h1:=hov x (by simp[bN.db])
  simp only[fc]at h;split at h
  ·rename_i id ar o hp;rw[hp]at h1;split at h
   ·rename_i cs hb;obtain⟨h2,h3⟩:=vn hb;refine pure ?_ h;rw[exec,h1];simp only[KV.pv];rw[Qr h2,h3];rfl
   ·cases h
  ·rename_i cs hp;rw[hp]at h1;exact pure (by rw[exec,h1];rfl) h
  ·rename_i cs hp;rw[hp]at h1;exact pure (by rw[exec,h1];rfl) h
  ·cases h
 |DE i x=>
  have h1:=hov x (by simp[bN.db])
  simp only[fc]at h;split at h
  ·rename_i cs hx;rw[hx]at h1;split at h
   ·rename_i y hy;refine pure ?_ h;rw[exec,h1];simp only[KV.pv,KV.ct,QT,hy,Qe,Option.map_none]
   ·cases h
  ·cases h
 |KT f caps=>
  refine pure ?_ h;rw[exec,BK (xs:=caps) hoc];simp only[KV.pv,KV.ct,Option.map_none]
 |KU f caps=>
  refine pure ?_ h;rw[exec,BK (xs:=caps) hoc];simp only[KV.pv,KV.ct,Option.map_none]
 |EC neg ks x y=>
  have h1:=hov x (by simp[bN.db])
  have h2:=hov y (by simp[bN.db])
  simp only[fc]at h;split at h
  ·rename_i cs ds hx hy;rw[hx]at h1;rw[hy]at h2;split at h
   ·rename_i b hb;refine pure ?_ h;rw[exec,h1,h2];simp only[KV.pv,KV.ct,FX hb,Qe,Option.map_none]
   ·cases h
  ·cases h
 |Oh e kk bytes z l c=>
  have h1:=hov l (by simp[bN.db])
  have h2:=hov c (by simp[bN.db])
  simp only[fc]at h;split at h
  ·rename_i T hT;split at h
   ·rename_i hz;rw[Qm]at hz;split at h
    ·rename_i d hd;split at h
     ·rename_i _ n _ m hl hc;rw[hl]at h1;rw[hc]at h2
      cases hb:(decide (n=m)&&decide (0<=n)&&bc bytes n.toNat)with
      |false=>rw[hb]at h;cases h
      |true=>
       rw[hb]at h;simp only[Qm,Qi]at hb;obtain⟨⟨h3,h4⟩,h5⟩:=hb;obtain⟨h5,h6⟩:=A2 h5;refine pure ?_ h;have h7:=(tu (K.lO _ _ _ _ hd)).1;rw[yP S hz.2]at h7;rw[exec,h1,h2];simp only[KV.pv];rw[Qr ⟨h3,h4,h5,h6⟩,h7];simp only[Qe,jJ,c8.pv,dK.pv,List.map_replicate];rfl
     ·cases h
    ·cases h
   ·cases h
  ·cases h
 |Hh kk x lo hi=>
  have h1:=hov x (by simp[bN.db])
  have hi1:∀(y:bm) (d n:Int),y∈(bN.Hh kk x lo hi).db->Dz S (some y) d=some n->∃kd,y.val S.st= .int kd n:=by
   intro y d n ho hn;have:=hov y ho;simp only[Dz]at hn;split at hn
   ·rename_i kd _ hy;rw[hy]at this;injection hn with hn;subst hn;exact⟨kd,this⟩
   ·cases hn
  simp only[fc]at h;split at h
  ·rename_i T xs hx;rw[hx]at h1;split at h
   ·rename_i hk;have hk:=QF hk;split at h
    ·rename_i l hh hl hhi
     cases hs:cD l hh xs.length with
     |false=>rw[hs]at h;cases h
     |true=>
      rw[hs]at h;refine pure ?_ h;simp only[cD,Qm,Qi]at hs;obtain⟨⟨h4,h5⟩,h6⟩:=hs
      have h7:(xs.map (U.pv T)).all (fun e=>e.length==kk)=true:=QH.2 fun u hu=>by
       obtain⟨v,_,rfl⟩:=QP.1 hu;rw[K.len,hk];simp
      unfold exec;simp only[h1,KV.pv,QC,h7,Qt]
      have fin:∀(l hh:Int),0<=l/\l<=hh/\hh<=(xs.length:Int)->(if 0<=l/\l<=hh/\hh<=(xs.length:Int)then some (PV.sl (((xs.map (U.pv T)).take hh.toNat).drop l.toNat),(none:Option (Nat×fG)))else none)=some (PV.sl (((xs.take hh.toNat).drop l.toNat).map (U.pv T)),Option.map jJ (none:Option (Nat×c8 U))):=fun l hh hc=>by
       rw[Qr hc];simp only[List.map_take,List.map_drop,Option.map_none]
      cases lo with
      |none=>
       injection hl with hl
       subst hl
       cases hi with
       |none=>injection hhi with hhi;subst hhi;exact fin _ _ ⟨h4,h5,h6⟩
       |some y=>obtain⟨kd,hy⟩:=hi1 y _ _ (by simp[bN.db]) hhi;simp only[hy];exact fin _ _ ⟨h4,h5,h6⟩
      |some z=>
       obtain⟨kz,hz⟩:=hi1 z _ _ (by simp[bN.db]) hl
       cases hi with
       |none=>injection hhi with hhi;subst hhi;simp only[hz];exact fin _ _ ⟨h4,h5,h6⟩
       |some y=>obtain⟨kd,hy⟩:=hi1 y _ _ (by simp[bN.db]) hhi;simp only[hz,hy];exact fin _ _ ⟨h4,h5,h6⟩
    ·cases h
   ·cases h
  ·rename_i id ar hx;rw[hx]at h1;split at h
   ·rename_i rr hb;obtain⟨h3,h4⟩:=oG hb;split at h
    ·rename_i hk;have hk:=QF hk;split at h
     ·rename_i l hh hl hhi;have e1:=N8 (hi1:=hi1) (y:=lo) (fun y hy=>by simp[bN.db,hy]) hl
      have e2:=N8 (hi1:=hi1) (y:=hi) (fun y hy=>by simp[bN.db,hy]) hhi
      cases hs:cD l hh rr.xs.length with
      |false=>rw[hs]at h;cases h
      |true=>
       rw[hs]at h;refine pure ?_ h;simp only[cD,Qm,Qi]at hs;unfold exec;simp only[h1,KV.pv];rw[Qr h3,h4];simp only[QC];rw[Qr hk,e1,e2];simp only;rw[Qr ⟨hs.1.1,hs.1.2,hs.2⟩];rfl
     ·cases h
    ·cases h
   ·cases h
  ·rename_i id ar kk' lo0 n0 hx;rw[hx]at h1;split at h
   ·rename_i rr hb;obtain⟨h3,h4⟩:=oG hb;split at h
    ·rename_i hk;rw[Qm]at hk;split at h
     ·rename_i l hh hl hhi;have e1:=N8 (hi1:=hi1) (y:=lo) (fun y hy=>by simp[bN.db,hy]) hl
      have e2:=N8 (hi1:=hi1) (y:=hi) (fun y hy=>by simp[bN.db,hy]) hhi
      cases hs:cD l hh n0 with
      |false=>rw[hs]at h;cases h
      |true=>
       rw[hs]at h;refine pure ?_ h;simp only[cD,Qm,Qi]at hs;unfold exec;simp only[h1,KV.pv];rw[Qr h3,h4];simp only;rw[Qr ⟨QF hk.1,QF hk.2⟩,e1,e2];simp only;rw[Qr ⟨hs.1.1,hs.1.2,hs.2⟩];rfl
     ·cases h
    ·cases h
   ·cases h
  ·cases h
 |s9 mx x y=>
  have h1:=hov x (by simp[bN.db])
  have h2:=hov y (by simp[bN.db])
  simp only[fc]at h;split at h
  ·rename_i hx hy;rw[hx]at h1;rw[hy]at h2;split at h
   ·rename_i hk;refine pure ?_ h;rw[exec,h1,h2];simp only[KV.pv,hk,Qt,Option.map_none]
   ·cases h
  ·cases h
 |xK neg x=>
  have h1:=hov x (by simp[bN.db])
  simp only[fc]at h;split at h
  ·rename_i hx;rw[hx]at h1;exact pure (by unfold exec;simp only[h1,KV.pv,Option.map_none]) h
  ·rename_i T xs hx;rw[hx]at h1
   cases xs with
   |nil=>exact pure (x:= .fY) (by unfold exec;simp only[h1,KV.pv,kc,QO,Option.map_none]) h
   |cons y l=>exact pure (x:= .bool neg) (by unfold exec;simp only[h1,KV.pv,kc,QD,Option.map_none]) h
  ·cases h
end
end Go.TQ
end
noncomputable section
namespace Go.TQ
open Go.RowKit
section
variable {P : Program} {S : St} {nt : Nat} {Q : Exit -> St -> Prop} {E : En} {a : Act} {w : World} {L : Nat -> Value}
theorem Rel.Zi(h:Rel E S a w L){id:Nat}(hid:id<S.N)(e k:Nat):
  Rel E {S with H:=bF S.H id ⟨(S.H id).ar+1,.row e k []⟩} a w (bF L id (.slice none 0 0)):=
 (h.sO (w':=w) hid ⟨(S.H id).ar+1,.row e k []⟩ (.slice none 0 0) (.inr (Nat.lt_succ_self _)) rfl rfl rfl (QI _) (fun _ _ _=>rfl)
  (fun b _ hb=>by simp[cm]at hb) (fun _ _=>⟨[],⟨by simp,.inl ⟨rfl,rfl⟩⟩,by simp,by exact⟨rfl,fun i y v hy=>by simp at hy⟩⟩)).1
theorem ZI{S:St}{id:Nat}(hid:id<S.N)(e k:Nat){w:World}{M:Nat->Prop}{v:Value}(h:v= .slice none 0 0):
  bf w M (St.gh {S with H:=bF S.H id ⟨(S.H id).ar+1,.row e k []⟩} (bF L id (.slice none 0 0))) (.own id ((S.H id).ar+1)) v:=by
 subst h;exact .own _ _ _ _ _ hid (by simp[St.gh]) (fun _=>by simp[St.gh])
theorem ajz{sc:SC}(id t e k:Nat)(ht:S.env t= .dF)(hid:id<S.N)
  (h:VS P nt sc Q {S with env:=bF S.env t (.own id ((S.H id).ar+1)),H:=bF S.H id ⟨(S.H id).ar+1,.row e k []⟩}):VS P nt sc Q S:=by
 intro c hs hc E hE hk a w L hrel;have h1:=hrel.Zi hid e k;refine h c hs hc E hE hk a w (bF L id (.slice none 0 0)) ⟨h1.defers,h1.size,fun j=> ?_,h1.obj,h1.apart,h1.fresh,h1.fr,h1.xi⟩
 show bf w _ _ (bF S.env t _ j) _
 by_cases hj:j=t
 ·subst hj;have h2:=hrel.env j;rw[ht]at h2;rw[bP];exact ZI hid e k h2.mB
 ·rw[cq _ _ hj];exact h1.env j
theorem ajA{sc:SC}(id b j e k:Nat){cs:List PV}(hb:(S.H b).c= .box cs)(hj:cs[j]?=some .dF)(hne:b≠id)(hbN:b<S.N)(hid:id<S.N)
  (h:VS P nt sc Q {S with H:=bF (bF S.H id ⟨(S.H id).ar+1,.row e k []⟩) b ⟨(S.H b).ar,.box (cs.set j (.own id ((S.H id).ar+1)))⟩}):VS P nt sc Q S:=by
 intro c hs hc E hE hk a w L hrel;have h1:=hrel.Zi hid e k
 have hver:∀i,(bF (bF S.H id ⟨(S.H id).ar+1,.row e k []⟩) b ⟨(S.H b).ar,.box (cs.set j (.own id ((S.H id).ar+1)))⟩ i).ar=(bF S.H id ⟨(S.H id).ar+1,.row e k []⟩ i).ar:=by
  intro i
  by_cases hi:i=b
  ·subst hi;rw[bP,cq _ _ hne]
  ·rw[cq _ _ hi]
 have hlive:∀i,(bF (bF S.H id ⟨(S.H id).ar+1,.row e k []⟩) b ⟨(S.H b).ar,.box (cs.set j (.own id ((S.H id).ar+1)))⟩ i).c.live=(bF S.H id ⟨(S.H id).ar+1,.row e k []⟩ i).c.live:=by
  intro i
  by_cases hi:i=b
  ·subst hi;rw[bP,cq _ _ hne,hb];rfl
  ·rw[cq _ _ hi]
 have hgh:St.gh {S with H:=bF (bF S.H id ⟨(S.H id).ar+1,.row e k []⟩) b ⟨(S.H b).ar,.box (cs.set j (.own id ((S.H id).ar+1)))⟩} (bF L id (.slice none 0 0))=St.gh {S with H:=bF S.H id ⟨(S.H id).ar+1,.row e k []⟩} (bF L id (.slice none 0 0)):=by
  simp only[St.gh];congr 1
  funext i
  exact hver i
 have hmu:bp E {S with H:=bF (bF S.H id ⟨(S.H id).ar+1,.row e k []⟩) b ⟨(S.H b).ar,.box (cs.set j (.own id ((S.H id).ar+1)))⟩} (bF L id (.slice none 0 0))=bp E {S with H:=bF S.H id ⟨(S.H id).ar+1,.row e k []⟩} (bF L id (.slice none 0 0)):=by
  funext q
  simp only[bp,hlive]
 refine h c hs hc E hE hk a w (bF L id (.slice none 0 0)) ⟨h1.defers,h1.size,fun t=> ?_,fun i hi=> ?_,fun i i' q hi hi' hl hl'=> ?_,fun i hi=> ?_,h1.fr,fun hq hl hv=> ?_⟩
 ·rw[hgh,hmu];exact h1.env t
 ·rw[hgh,hmu]
  by_cases hib:i=b
  ·subst hib;have h2:=h1.obj i hi;simp only[bP,cq _ _ hne]at h2 ⊢;rw[hb]at h2;obtain⟨q,cur,T,e1,e2,e3,e4⟩:=h2;refine⟨q,cur,T,e1,e2,e3,by rw[QY];exact e4.1,fun n y v hy hv=> ?_⟩
   rw[List.getElem?_set]at hy;split at hy
   ·rename_i hjn;subst hjn;split at hy
    ·injection hy with hy
     subst hy;exact ZI hid e k (e4.2 j .dF v hj hv).mB
    ·cases hy
   ·exact e4.2 n y v hy hv
  ·have h2:=h1.obj i hi;simp only[cq _ _ hib]at h2 ⊢;exact h2
 ·exact h1.apart i i' q hi hi' ((hlive i).symm.trans hl) ((hlive i').symm.trans hl')
 ·have h2:=h1.fresh i hi;have hib:i≠b:=by intro e;subst e;exact absurd hbN (by simpa using hi)
  simp only at h2 ⊢;rw[cq _ _ hib];exact h2
 ·exact h1.xi hq ((hlive 0).symm.trans hl) ((hver 0).symm.trans hv)
end
end Go.TQ
end
noncomputable section
namespace Go.TQ
open Go.RowKit
section
variable {P : Program} {E : En} {S : St} {a : Act} {w : World} {L : Nat -> Value}
theorem Rel.ajs(h:Rel E S a w L){id ar k n e0 k':Nat}{es:List (List PV)}{v:Value}(r:bf w (bp E S L) (S.gh L) (.view id ar k 0 n) v)(hver:(S.H id).ar=ar)(hc:(S.H id).c= .row e0 k' es):
  Rel E {S with H:=bF S.H id ⟨ar+1,.row e0 k' (es.take n)⟩} a w (bF L id v)/\bf w (bp E {S with H:=bF S.H id ⟨ar+1,.row e0 k' (es.take n)⟩} (bF L id v)) (St.gh {S with H:=bF S.H id ⟨ar+1,.row e0 k' (es.take n)⟩} (bF L id v)) (.own id (ar+1)) v:=by
 obtain⟨hN,ad,c,hv,hat⟩:=r.yD (show(S.gh L).V id=ar from hver)
 have hle:=h.I5 hN hc hat;obtain⟨a0,m0,c0,hl,q1,q2,q3,q4⟩:=hat;have hl:L id= .slice a0 m0 c0:=hl;have hlive:(S.H id).c.live=true:=by rw[hc];rfl
 obtain⟨vs,hown,hk,hr⟩:=h.jw hN hc
 have had:ad=a0:=by
  rcases q4 with q4|q4
  ·exact absurd rfl q4.2.1
  ·rw[q4];cases a0<;>simp[Addr.add]
 have hc0:c=c0:=by omega
 subst had hc0;have hbv:cm v=cm (L id):=by rw[hv,hl];cases ad<;>rfl
 have hlen:(es.take n).length=n:=by simp;omega
 have hnew:w.ownsRow (fS E v) e0 k' v (es.take n).length (vs.take (n*k')):=by
  rw[Al hbv,hlen];have hvl:vs.length=es.length*k':=hown.1;have hnk:n*k'<=es.length*k':=Nat.mul_le_mul_right _ (by omega)
  refine⟨by rw[List.length_take,hvl];omega,?_⟩
  rcases hown.2 with⟨hL,h0⟩|⟨g,cap,cur,hL,hb1,hh,hnc,hcm,hcs,htake⟩
  ·left;rw[hl]at hL;injection hL with e1 e2 e3
   subst e1 e2 e3;have hn0:n=0:=by omega
   subst hn0;exact⟨hv,rfl⟩
  ·right;rw[hl]at hL;injection hL with e1 e2 e3
   subst e1 e2 e3;refine⟨g,c,cur,hv,hb1,hh,by omega,hcm,hcs,?_⟩
   rw[<-htake,List.take_take,Nat.min_eq_left hnk]
 obtain⟨h1,hs,hg⟩:=h.sO (w':=w) hN ⟨ar+1,.row e0 k' (es.take n)⟩ v (.inr (by show(S.H id).ar<ar+1;omega)) rfl rfl rfl (QI _) (fun _ _ _=>rfl)
  (fun b _ hb=> .inl ⟨hlive,by rw[<-hbv];exact hb⟩)
  (fun hs hg=>⟨_,hnew,fun u hu=>hk u (Q1 hu),by rw[tj k' n es hk];exact(hr.take _).mono hs hg⟩)
 refine⟨h1,?_⟩;subst hv;exact .own _ _ _ _ _ hN (by simp[St.gh]) (fun _=>by simp[St.gh])
theorem Rel.adZ(h:Rel E S a w L){id:Nat}{cs cs':List PV}(hid:id<S.N)(hc:(S.H id).c= .box cs)(hr:∀vs,bg w (bp E S L) (S.gh L) cs vs->bg w (bp E S L) (S.gh L) cs' vs):
  Rel E {S with H:=bF S.H id ⟨(S.H id).ar,.box cs'⟩} a w L:=by
 have:=(h.sO (w':=w) hid ⟨(S.H id).ar,.box cs'⟩ (L id) (.inl ⟨rfl,rfl,by rw[hc];rfl⟩) rfl rfl rfl (QI _) (fun _ _ _=>rfl) (fun b _ hb=> .inl ⟨by rw[hc];rfl,hb⟩) (fun hs hg=>by
  obtain⟨b,cur,T,h1,h2,h3,h4⟩:=h.rN hid hc
  exact⟨b,cur,T,h1,h2,h4,(hr _ h3).mono hs hg⟩)).1
 rwa [EW]at this
theorem bg.set{M:Nat->Prop}{G:Gh}{cs:List PV}{vs:List Value}(h:bg w M G cs vs)(i:Nat)(y:PV)(hy:∀v,vs[i]?=some v->bf w M G y v):bg w M G (cs.set i y) vs:=by
 refine⟨by rw[QY];exact h.1,fun j x v hx hv=> ?_⟩
 rw[List.getElem?_set]at hx;split at hx
 ·rename_i hij;subst hij;split at hx
  ·injection hx with hx;subst hx;exact hy v hv
  ·cases hx
 ·exact h.2 j x v hx hv
theorem Rel.aep(h:Rel E S a w L){S':St}(hH:S'.H=S.H)(hN:S'.N=S.N)(he:∀t,S'.env t=S.env t\/S'.env t= .any):Rel E S' a w L:=by
 obtain⟨env,H,N⟩:=S;obtain⟨env',H',N'⟩:=S';simp only at hH hN he;subst hH hN;refine⟨h.defers,h.size,fun t=> ?_,h.obj,h.apart,h.fresh,h.fr,h.xi⟩
 rcases he t with e|e
 ·show bf _ _ _ (env' t) _;rw[e];exact h.env t
 ·show bf _ _ _ (env' t) _;rw[e];exact .any _
end
section
variable {U : TU}
inductive Ps (U:TU) where
 |own (t e k:Nat) (T:U.Ty)
 |AG (t:Nat)
 |wa (t off e k:Nat) (T:U.Ty)
 |MH (t off:Nat)
 |cut (t:Nat)
def Ps.run(S:aX U):Ps U->Option (aX U)
 | .own t e k T=>(match S.env t with
  | .dF=>some {env:=gI S.env t (.own S.N 1),H:=gI S.H S.N ⟨1,.row e k T []⟩,N:=S.N+1}
  |_=>none)
 | .AG t=>(match S.env t with
  | .own id ar=>(match S.row? id ar with
   |some r=>some {env:=gI S.env t (.sl r.T r.xs),H:=gI S.H id ⟨ar,.dead⟩,N:=S.N}
   |none=>none)
  |_=>none)
 | .wa t off e k T=>(match S.env t with
  | .ptr id ar _=>(match S.sn id ar with
   |some cs=>(match cs[off]? with
    |some .dF=>some {env:=S.env,H:=gI (gI S.H S.N ⟨1,.row e k T []⟩) id ⟨ar,.box (cs.set off (.own S.N 1))⟩,N:=S.N+1}
    |_=>none)
   |none=>none)
  |_=>none)
 | .MH t off=>(match S.env t with
  | .ptr id ar _=>(match S.sn id ar with
   |some cs=>(match cs[off]? with
    |some (.own i v)=>(match S.row? i v with
     |some r=>some {env:=S.env,H:=gI (gI S.H i ⟨v,.dead⟩) id ⟨ar,.box (cs.set off (.sl r.T r.xs))⟩,N:=S.N}
     |none=>none)
    |_=>none)
   |none=>none)
  |_=>none)
 | .cut t=>(match S.env t with
  | .view id ar _ lo n=>(match S.row? id ar with
   |some r=>(match Nat.beq lo 0 with
    |true=>some {env:=gI S.env t (.own id (ar+1)),H:=gI S.H id ⟨ar+1,.row r.e r.k r.T (r.xs.take n)⟩,N:=S.N}
    |false=>none)
   |none=>none)
  |_=>none)
def Ps.tmps:Ps U->List Nat
 | .own t _ _ _| .AG t| .cut t=>[t]
 | .wa _ _ _ _ _| .MH _ _=>[]
def Ps.FA(S:aX U):Ps U->List Nat
 | .own _ _ _ _=>[S.N]
 | .AG t=>(match S.env t with| .own id _=>[id]|_=>[])
 | .cut t=>(match S.env t with| .view id _ _ _ _=>[id]|_=>[])
 | .wa t _ _ _ _=>S.N::(match S.env t with| .ptr id _ _=>[id]|_=>[])
 | .MH t off=>(match S.env t with
  | .ptr id ar _=>id::(match S.sn id ar with
   |some cs=>(match cs[off]? with|some (.own i _)=>[i]|_=>[])
   |none=>[])
  |_=>[])
theorem Ps.sound(K:TK U){S S':aX U}{p:Ps U}(hp:p.run S=some S'){E:En}{a:Act}{w:World}{L:Nat->Value}(h:Rel E S.st a w L):∃L',Rel E S'.st a w L':=by
 cases p with
 |own t e k T=>
  simp only[Ps.run]at hp;split at hp
  ·rename_i ht;injection hp with hp
   subst hp;have h0:=h.room 1;have hf:(S.st.H S.N)=⟨0,.dead⟩:=h.fresh S.N (QI _);have hid:S.N<({S.st with N:=S.st.N+1}:St).N:=Nat.lt_succ_self S.N
   have h1:=h0.Zi hid e k;refine⟨bF L S.N (.slice none 0 0),?_⟩
   have heq:(aX.st {env:=gI S.env t (.own S.N 1),H:=gI S.H S.N ⟨1,.row e k T []⟩,N:=S.N+1}:St)={env:=bF S.st.env t (.own S.N 1),H:=bF S.st.H S.N ⟨(S.st.H S.N).ar+1,.row e k []⟩,N:=S.st.N+1}:=by
    rw[hf];unfold aX.st;congr 1
    ·simp only[cz];exact oq _ _ _ _
    ·simp only[cz];exact oq _ _ _ _
   rw[heq];refine⟨h1.defers,h1.size,fun j=> ?_,h1.obj,h1.apart,h1.fresh,h1.fr,h1.xi⟩
   show bf w _ _ (bF S.st.env t _ j) _
   by_cases hj:j=t
   ·subst hj;have h2:=h.env j;have h3:S.st.env j= .dF:=by simp only[aX.st,ht,KV.pv]
    rw[h3]at h2;rw[bP];have:=ZI (L:=L) (S:={S.st with N:=S.st.N+1}) hid e k (w:=w) (M:=bp E {env:=S.st.env,H:=bF S.st.H S.N ⟨(S.st.H S.N).ar+1,.row e k []⟩,N:=S.st.N+1} (bF L S.N (.slice none 0 0))) h2.mB
    have hv:(S.st.H S.N).ar+1=1:=by rw[hf]
    simp only[hv]at this ⊢;exact this
   ·rw[cq _ _ hj];exact h1.env j
  ·cases hp
 |AG t=>
  simp only[Ps.run]at hp;split at hp
  ·rename_i id ar ht;split at hp
   ·rename_i r hr;injection hp with hp
    subst hp;obtain⟨hv,hc⟩:=oG hr;have h2:=h.env t;have h3:S.st.env t= .own id (S.st.H id).ar:=by rw[hv];simp only[aX.st,ht,KV.pv]
    rw[h3]at h2
    obtain⟨h4,h5⟩:=h.AG h2 hc (fun u hu=>by
     obtain⟨x,_,rfl⟩:=QP.1 hu
     exact QH.2 fun y hy=>gd (K.gn _ _ _ hy))
    rw[hv]at h4 h5;refine⟨L,?_⟩
    have heq:(aX.st {env:=gI S.env t (.sl r.T r.xs),H:=gI S.H id ⟨ar,.dead⟩,N:=S.N}:St)={env:=bF S.st.env t (.sl (r.xs.map (U.pv r.T))),H:=bF S.st.H id ⟨ar,.dead⟩,N:=S.st.N}:=by
     unfold aX.st;congr 1
     ·simp only[cz];exact oq _ _ _ _
     ·simp only[cz];exact oq _ _ _ _
    rw[heq];refine⟨h4.defers,h4.size,fun j=> ?_,h4.obj,h4.apart,h4.fresh,h4.fr,h4.xi⟩
    show bf w _ _ (bF S.st.env t _ j) _
    by_cases hj:j=t
    ·subst hj;rw[bP];exact h5
    ·rw[cq _ _ hj];exact h4.env j
   ·cases hp
  ·cases hp
 |cut t=>
  simp only[Ps.run]at hp;split at hp
  ·rename_i id ar k lo n ht;split at hp
   ·rename_i r hr;split at hp
    ·rename_i hlo;injection hp with hp
     subst hp;have hlo:=QF hlo;subst hlo;obtain⟨hv,hc⟩:=oG hr;have h2:=h.env t;have h3:S.st.env t= .view id ar k 0 n:=by simp only[aX.st,ht,KV.pv]
     rw[h3]at h2;obtain⟨h4,h5⟩:=h.ajs h2 hv hc;refine⟨bF L id (a.tmps.getD t undef),?_⟩
     have heq:(aX.st {env:=gI S.env t (.own id (ar+1)),H:=gI S.H id ⟨ar+1,.row r.e r.k r.T (r.xs.take n)⟩,N:=S.N}:St)={env:=bF S.st.env t (.own id (ar+1)),H:=bF S.st.H id ⟨ar+1,.row r.e r.k ((r.xs.map (U.pv r.T)).take n)⟩,N:=S.st.N}:=by
      unfold aX.st;congr 1
      ·simp only[cz];exact oq _ _ _ _
      ·simp only[cz];rw[<-List.map_take];exact oq _ _ _ _
     rw[heq];refine⟨h4.defers,h4.size,fun j=> ?_,h4.obj,h4.apart,h4.fresh,h4.fr,h4.xi⟩
     show bf w _ _ (bF S.st.env t _ j) _
     by_cases hj:j=t
     ·subst hj;rw[bP];exact h5
     ·rw[cq _ _ hj];exact h4.env j
    ·cases hp
   ·cases hp
  ·cases hp
 |wa t off e k T=>
  simp only[Ps.run]at hp;split at hp
  ·rename_i id ar o ht;split at hp
   ·rename_i cs hb;split at hp
    ·rename_i hcell;injection hp with hp
     subst hp;obtain⟨hv,hc⟩:=vn hb;have h3:S.st.env t= .ptr id ar o:=by simp only[aX.st,ht,KV.pv]
     have hlt:id<S.N:=by
      have h2:=h.env t;rw[h3]at h2;exact(h2.rZ (show(S.st.gh L).V id=ar from hv)).1
     have h0:=h.room 1;have hf:(S.st.H S.N)=⟨0,.dead⟩:=h.fresh S.N (QI _);have hid:S.N<({S.st with N:=S.st.N+1}:St).N:=Nat.lt_succ_self S.N
     have h1:=h0.Zi hid e k;have hne:id≠S.N:=Nat.ne_of_lt hlt
     have h2:=h1.adZ (id:=id) (cs:=cs.map KV.pv) (cs':=(cs.map KV.pv).set off (.own S.N ((S.st.H S.N).ar+1))) (Nat.lt_succ_of_lt hlt) (by show(bF S.st.H S.N _ id).c=_;rw[cq _ _ hne];exact hc)
      (fun vs hr=>hr.set _ _ fun v hvv=>by
       have hn:(cs.map KV.pv)[off]?=some .dF:=by rw[QT,hcell];rfl
       exact ZI (L:=L) (S:={S.st with N:=S.st.N+1}) hid e k (hr.2 off .dF v hn hvv).mB)
     refine⟨bF L S.N (.slice none 0 0),?_⟩
     have heq:(aX.st {env:=S.env,H:=gI (gI S.H S.N ⟨1,.row e k T []⟩) id ⟨ar,.box (cs.set off (.own S.N 1))⟩,N:=S.N+1}:St)
       ={env:=S.st.env,H:=bF (bF S.st.H S.N ⟨(S.st.H S.N).ar+1,.row e k []⟩) id ⟨(bF S.st.H S.N ⟨(S.st.H S.N).ar+1,.row e k []⟩ id).ar,.box ((cs.map KV.pv).set off (.own S.N ((S.st.H S.N).ar+1)))⟩,N:=S.st.N+1}:=by
      rw[cq _ _ hne,hv,hf];unfold aX.st;congr 1;simp only[cz];rw[oq,oq];simp only[c8.pv,dK.pv,List.map_set,KV.pv,QO]
     rw[heq];exact h2
    ·cases hp
   ·cases hp
  ·cases hp
 |MH t off=>
  simp only[Ps.run]at hp;split at hp
  ·rename_i id ar o ht;split at hp
   ·rename_i cs hb;split at hp
    ·rename_i i v hcell;split at hp
     ·rename_i r hr;injection hp with hp
      subst hp;obtain⟨hv,hc⟩:=vn hb;obtain⟨hv2,hc2⟩:=oG hr;have h3:S.st.env t= .ptr id ar o:=by simp only[aX.st,ht,KV.pv]
      have hlt:id<S.N:=by
       have h2:=h.env t;rw[h3]at h2;exact(h2.rZ (show(S.st.gh L).V id=ar from hv)).1
      have hcell':(cs.map KV.pv)[off]?=some (.own i v):=by rw[QT,hcell];rfl
      have hili:i<S.N:=by
       obtain⟨b,cur,T,h5,h6,h7,h8⟩:=h.rN hlt hc;obtain⟨u,hu,hru⟩:=h7.get hcell';exact(hru.ma (show(S.st.gh L).V i=v from hv2)).1
      have hne:id≠i:=by
       intro e;subst e;rw[hc]at hc2;cases hc2
      obtain⟨h4,h5⟩:=h.ag6 hili hc2 (fun u hu=>by
       obtain⟨x,_,rfl⟩:=QP.1 hu
       exact QH.2 fun y hy=>gd (K.gn _ _ _ hy))
      have h6:=h4.adZ (id:=id) (cs:=cs.map KV.pv) (cs':=(cs.map KV.pv).set off (.sl (r.xs.map (U.pv r.T)))) hlt (by show(bF S.st.H i _ id).c=_;rw[cq _ _ hne];exact hc)
       (fun vs hrr=>hrr.set _ _ fun u hu=>h5 u (by
        have:=hrr.2 off _ u hcell' hu
        exact(this.ma (show(bF S.st.H i ⟨(S.st.H i).ar,.dead⟩ i).ar=v by rw[bP];exact hv2)).2))
      refine⟨L,?_⟩
      have heq:(aX.st {env:=S.env,H:=gI (gI S.H i ⟨v,.dead⟩) id ⟨ar,.box (cs.set off (.sl r.T r.xs))⟩,N:=S.N}:St)
        ={env:=S.st.env,H:=bF (bF S.st.H i ⟨(S.st.H i).ar,.dead⟩) id ⟨(bF S.st.H i ⟨(S.st.H i).ar,.dead⟩ id).ar,.box ((cs.map KV.pv).set off (.sl (r.xs.map (U.pv r.T))))⟩,N:=S.st.N}:=by
       rw[cq _ _ hne,hv,hv2];unfold aX.st;congr 1;simp only[cz];rw[oq,oq];simp only[c8.pv,dK.pv,List.map_set,KV.pv]
      rw[heq];exact h6
     ·cases hp
    ·cases hp
   ·cases hp
  ·cases hp
inductive RS (U:TU) where
 |nil
 |op (o:SG) (r:RS U)
 |ps (p:Ps U) (r:RS U)
 |Ax (t:Nat) (r:RS U)
 |ite (t:Nat) (want:Bool) (body:RS U) (d:Nat) (g:Option (Nat×Bool)) (x y:bm) (r:RS U)
def RS.flat:RS U->List SG
 | .nil=>[]
 | .op o r=>o::r.flat
 | .ps _ r=>r.flat
 | .Ax _ r=>r.flat
 | .ite t _ b d g x y r=>b.flat++⟨some d,g,.pick (.tmp t) x y⟩::r.flat
def RS.jB:RS U->List Nat
 | .nil=>[]
 | .op o r=>(match o.d with|some t=>t::r.jB|none=>r.jB)
 | .ps p r=>p.tmps++r.jB
 | .Ax _ r=>r.jB
 | .ite _ _ b d _ _ _ r=>b.jB++d::r.jB
def vH:List SG->List Nat
 |[]=>[]
 |o::l=>(match o.d with|some t=>t::vH l|none=>vH l)
def RS.len:RS U->Nat
 | .nil=>0
 | .op _ r=>r.len+1
 | .ps _ r=>r.len
 | .Ax _ r=>r.len
 | .ite _ _ b _ _ _ _ r=>b.len+(r.len+1)
theorem RS.yT:∀(r:RS U),r.flat.length=r.len
 | .nil=>rfl
 | .op _ r=>by simp[RS.flat,RS.len,r.yT]
 | .ps _ r=>r.yT
 | .Ax _ r=>r.yT
 | .ite _ _ b _ _ _ _ r=>by simp[RS.flat,RS.len,b.yT,r.yT]
def hZ(t:Nat):List Nat->Bool
 |[]=>false
 |x::l=>(match Nat.beq t x with|true=>true|false=>hZ t l)
theorem eo{t:Nat}:∀{l:List Nat},hZ t l=true↔t∈l
 |[]=>by simp[hZ]
 |x::l=>by
  simp only[hZ];split
  ·rename_i h;simp[QF h]
  ·rename_i h;rw[eo];simp[Nat.ne_of_beq_eq_false h]
theorem pw{t:Nat}{l:List Nat}(h:hZ t l=false):t∉l:=fun hm=>by rw[eo.2 hm]at h;cases h
def aam:Bool->Bool->Bool
 |true,b=>b
 |false,true=>false
 |false,false=>true
theorem JB(x y:Bool):aam x y=(x==y):=by cases x<;>cases y<;>rfl
abbrev WS:=Option (Nat×List Nat)
def okW:WS->Nat->Bool
 |none,_=>false
 |some (n,l),id=>Nat.ble n id||hZ id l
def Fy(W:WS):Option (Nat×c8 U)->Bool
 |none=>true
 |some (id,_)=>okW W id
def Hi(t:Nat)(want:Bool):List Nat->List SG->Bool
 |_,[]=>true
 |u,o::l=>(match o.g with
  |some (t',want')=>(Nat.beq t' t&&aam want' want)||hZ t' u
  |none=>false)&&(match o.d with
   |some d=> !Nat.beq d t&&Hi t want (d::u) l
   |none=>Hi t want u l)
variable (K : TK U)
def Z8{ρ:Type}(Γ:List (dw U))(W:WS)(nid:Nat)(S:aX U)(o:SG)(k:KV U->Option (Nat×c8 U)->Option ρ):Option ρ:=
 match o.g with
 |none=>fc K Γ nid S o.op fun x wr=>(match Fy W wr with|true=>k x wr|false=>none)
 |some (t,want)=>match S.env t with
  | .bool b=>(match aam b want with
   |true=>fc K Γ nid S o.op fun x wr=>(match Fy W wr with|true=>k x wr|false=>none)
   |false=>k .undef none)
  | .undef=>k .undef none
  |_=>none
def adV{ρ:Type}(Γ:List (dw U))(W:WS)(nid:Nat)(S:aX U)(o:SG)(k:aX U->Option ρ):Option ρ:=
 Z8 K Γ W nid S o fun x wr=>k (S.cI o.d x wr)
def adR(S:aX U)(ds:List Nat):Option (Nat×Bool)->Bool
 |none=>true
 |some (t,want)=>(match S.env t with| .bool b=>aam b want&& !hZ t ds|_=>false)
def aX.forget(S:aX U)(ds:List Nat):aX U:={env:=fun t=>(match hZ t ds with|true=> .any|false=>S.env t),H:=S.H,N:=S.N}
def aab:bm->Option Bool
 | .wW (.bool b)=>some b
 |_=>none
def kg(Γ:List (dw U)):RS U->{ρ:Type}->(W:WS)->(nid:Nat)->(S:aX U)->(k:aX U->Option ρ)->Option ρ
 | .nil,_,_,_,S,k=>k S
 | .op o r,_,W,nid,S,k=>adV K Γ W nid S o fun S'=>kg Γ r W (nid+1) S' k
 | .ps p r,_,W,nid,S,k=>(match(p.FA S).all (okW W)with
  |true=>(match p.run S with|some S'=>kg Γ r W nid S' k|none=>none)
  |false=>none)
 | .Ax t r,_,W,nid,S,k=>(match S.env t with
  | .bool b=>bif b then kg Γ r W nid (S.cI (some t) (.bool true) none) k else kg Γ r W nid (S.cI (some t) (.bool false) none) k
  | .undef=>kg Γ r W nid S k
  |_=>none)
 | .ite t want body d g x y r,_,W,nid,S,k=>(match S.env t with
  | .bool b=>(match adR S body.jB g&&(Hi t want [] body.flat&& !hZ t body.jB)with
   |true=>(match want with
    |true=>(match aab y with
     |some c=>(bif b then kg Γ body none nid (S.cI (some t) (.bool true) none) (fun S1=>IK (x.cO S1))else some c).bind fun v=>kg Γ r W (nid+(body.len+1)) ((S.forget body.jB).cI (some d) (.bool v) none) k
     |none=>none)
    |false=>(match aab x with
     |some c=>(bif b then some c else kg Γ body none nid (S.cI (some t) (.bool false) none) (fun S1=>IK (y.cO S1))).bind fun v=>kg Γ r W (nid+(body.len+1)) ((S.forget body.jB).cI (some d) (.bool v) none) k
     |none=>none))
   |false=>none)
  |_=>none)
structure AJ (D:List Nat) (W:WS) (S S':aX U):Prop where
 env:∀t,t∉D->S'.env t=S.env t
 H:∀id,okW W id=false->S'.H id=S.H id
 N:S.N<=S'.N
 Nn:W=none->S'.N=S.N
theorem AJ.refl(D:List Nat)(W:WS)(S:aX U):AJ D W S S:=⟨fun _ _=>rfl,fun _ _=>rfl,QI _,fun _=>rfl⟩
theorem AJ.trans{D D' D'':List Nat}{W:WS}{S S' S'':aX U}(h:AJ D W S S')(h':AJ D' W S' S'')(hd:∀t,t∉D''->t∉D/\t∉D'):AJ D'' W S S'':=
 ⟨fun t ht=>(h'.env t (hd t ht).2).trans (h.env t (hd t ht).1),fun id hid=>(h'.H id hid).trans (h.H id hid),QK h.N h'.N,fun e=>(h'.Nn e).trans (h.Nn e)⟩
theorem lG(S:aX U)(d:Option Nat)(x:KV U)(wr:Option (Nat×c8 U)){t:Nat}(h:d≠some t):(S.cI d x wr).env t=S.env t:=by
 cases d with
 |none=>rfl
 |some d=>simp only[aX.cI,cz];exact cq _ _ (fun e=>h (by rw[e]))
theorem ail(S:aX U)(d:Nat)(x:KV U)(wr:Option (Nat×c8 U)):(S.cI (some d) x wr).env d=x:=by
 simp only[aX.cI,cz];exact bP _ _ _
theorem Gc(S:aX U)(d:Option Nat)(x:KV U)(wr:Option (Nat×c8 U)){i:Nat}(h:wr.map (·.1)≠some i):(S.cI d x wr).H i=S.H i:=by
 cases wr with
 |none=>rfl
 |some p=>simp only[aX.cI,cz];exact cq _ _ (fun e=>h (by rw[e];rfl))
theorem YT(S:aX U)(W:WS)(d:Option Nat)(x:KV U)(wr:Option (Nat×c8 U))(h:Fy W wr=true):AJ d.toList W S (S.cI d x wr):=by
 refine⟨fun t ht=>lG _ _ _ _ (fun e=>ht (by simp[e])),fun id hid=>Gc _ _ _ _ (fun e=> ?_),QI _,fun _=>rfl⟩
 cases wr with
 |none=>cases e
 |some p=>simp only[Qe,Qf]at e;simp only[Fy]at h;rw[e,hid]at h;cases h
variable {K}
variable {P : Program}
theorem O4{ρ:Type}{Γ:List (dw U)}{W:WS}{nid:Nat}{S:aX U}{o:SG}{k:KV U->Option (Nat×c8 U)->Option ρ}{r:ρ}(hΓ:tM P Γ)(ho:o.op.dy=true)(h:Z8 K Γ W nid S o k=some r):
  ∃Γ' x wr,kD P Γ'/\z1 Γ' nid S.st o=some (x.pv,wr.map jJ)/\Fy W wr=true/\k x wr=some r:=by
 have run:∀(hw:o.wanted S.st=some true),fc K Γ nid S o.op (fun x wr=>(match Fy W wr with|true=>k x wr|false=>none))=some r->
   ∃Γ' x wr,kD P Γ'/\z1 Γ' nid S.st o=some (x.pv,wr.map jJ)/\Fy W wr=true/\k x wr=some r:=by
  intro hw h;obtain⟨Γ',x,wr,h1,h2,h3⟩:=XW hΓ ho h;split at h3
  ·rename_i hok;refine⟨Γ',x,wr,h1,?_,hok,h3⟩;rw[z1,hw];exact h2
  ·cases h3
 have skip:∀(hw:o.wanted S.st=some false),k .undef none=some r->
   ∃Γ' x wr,kD P Γ'/\z1 Γ' nid S.st o=some (x.pv,wr.map jJ)/\Fy W wr=true/\k x wr=some r:=by
  intro hw h;refine⟨fun _=>none,.undef,none,fun f m hm=>(by cases hm),?_,rfl,h⟩
  rw[z1,hw];rfl
 unfold Z8 at h;split at h
 ·rename_i hg;exact run (by rw[SG.wanted,hg]) h
 ·rename_i t want hg;split at h
  ·rename_i b hb;have hb':S.st.env t= .bool b:=by simp only[aX.st,hb,KV.pv]
   split at h
   ·rename_i hbw;exact run (by simp only[SG.wanted,hg,hb'];rw[JB]at hbw;rw[hbw]) h
   ·rename_i hbw;refine skip ?_ h;simp only[SG.wanted,hg,hb'];rw[JB]at hbw;rw[hbw]
  ·rename_i hb;have hb':S.st.env t= .undef:=by simp only[aX.st,hb,KV.pv]
   exact skip (by simp only[SG.wanted,hg,hb']) h
  ·cases h
theorem Xt{ρ:Type}{Γ:List (dw U)}{W:WS}{nid:Nat}{S:aX U}{o:SG}{k:aX U->Option ρ}{r:ρ}(hΓ:tM P Γ)(ho:o.op.dy=true)(h:adV K Γ W nid S o k=some r):
  ∃Γ' x wr,kD P Γ'/\z1 Γ' nid S.st o=some (x.pv,wr.map jJ)/\Fy W wr=true/\k (S.cI o.d x wr)=some r:=O4 hΓ ho h
theorem ZL:kD P (fun _=>none):=fun f m hm=>by cases hm
theorem E3{E:En}{hs:List Nat}{ops:Array Oper}{t:Nat}{want:Bool}{Q:Exit->Act->World->Prop}{l2:List Oper}:∀(l1:List Oper) (gs:List SG) (u:List Nat) (S:St) (a:Act) (w:World) (L:Nat->Value),
  l1.mapM (uI P hs ops)=some gs->Rel E S a w L->0<S.N->(∀o∈l1,∀t,o.dst=some t->E.can t)->Hi t want u gs=true->S.env t= .bool (!want)->(∀x∈u,S.env x= .undef)->
  (∀S' a' w' L',(∀x,x∉vH gs->S'.env x=S.env x)->S'.H=S.H->S'.N=S.N->Rel E S' a' w' L'->wpListIn (WF E.rd) 0 P ops Q l2 a' w')->wpListIn (WF E.rd) 0 P ops Q (l1++l2) a w
 |[],gs,u,S,a,w,L,hm,h,hN,hd,hs,ht,hu,hk=>by
  simp at hm;subst hm;exact hk S a w L (fun _ _=>rfl) rfl rfl h
 |o::l1,gs,u,S,a,w,L,hm,h,hN,hd,hs,ht,hu,hk=>by
  simp only[List.mapM_cons,Qd,Qc,Option.pure_def,Qf]at hm;obtain⟨g,hg,gs',hgs,rfl⟩:=hm;simp only[Hi,Qm]at hs;obtain⟨h1,h2⟩:=hs
  have hw:g.wanted S=some false:=by
   split at h1
   ·rename_i t' want' hgg;rw[Qn,Qm]at h1;rw[SG.wanted,hgg];rcases h1 with⟨h3,h4⟩|h3
    ·rw[QF h3];rw[JB]at h4;simp only[ht];have:=eq_of_beq h4;subst this;cases want'<;>rfl
    ·simp only[hu t' (eo.1 h3)]
   ·cases h1
  have hst:uZ (fun _=>none) 0 S g=some (S.cI g.d .undef none):=by rw[uZ,hw]
  rw[List.cons_append];refine wpListIn_step fun K hK=> ?_
  refine wO ZL hg h hN (hd o (by simp)) hst (fun a' w' L' h'=>hK _ _ ?_)
  split at h2
  ·rename_i d hdd;rw[Qm]at h2;have hdt:d≠t:=fun e=>by subst e;have:=h2.1;simp at this
   refine E3 l1 gs' (d::u) _ a' w' L' hgs h' hN (fun o' ho'=>hd o' (by simp[ho'])) h2.2 ?_ ?_ ?_
   ·rw[hdd,St.lG _ _ _ (by simp[hdt])];exact ht
   ·intro x hx;rw[hdd]
    by_cases hxd:x=d
    ·subst hxd;exact bP _ _ _
    ·rw[St.lG _ _ _ (by simpa using fun e=>hxd e.symm)]
     exact hu x ((QA.1 hx).resolve_left hxd)
   ·intro S' a' w' L' he hH hN h';refine hk S' a' w' L' (fun x hx=> ?_) hH hN h'
    simp only[vH,hdd,QA,not_or]at hx;rw[he x hx.2,hdd,St.lG _ _ _ (by simpa using fun e=>hx.1 e.symm)]
  ·rename_i hdd;refine E3 l1 gs' u _ a' w' L' hgs h' hN (fun o' ho'=>hd o' (by simp[ho'])) h2 ?_ ?_ ?_
   ·rw[hdd];exact ht
   ·intro x hx;rw[hdd];exact hu x hx
   ·intro S' a' w' L' he hH hN h';refine hk S' a' w' L' (fun x hx=> ?_) hH hN h'
    simp only[vH,hdd]at hx;rw[he x hx,hdd];rfl
def RS.dy:RS U->Bool
 | .nil=>true
 | .op o r=>o.op.dy&&r.dy
 | .ps _ r=>r.dy
 | .Ax _ r=>r.dy
 | .ite _ _ b _ _ x y r=>b.dy&&(x.dy&&y.dy)&&r.dy
theorem q7:∀(r:RS U) (t:Nat),t∈vH r.flat->t∈r.jB
 | .nil,t,h=>h
 | .op o r,t,h=>by
  simp only[RS.flat,vH]at h;simp only[RS.jB];split at h
  ·rcases QA.1 h with h|h
   ·exact QA.2 (.inl h)
   ·exact QA.2 (.inr (q7 r t h))
  ·exact q7 r t h
 | .ps p r,t,h=>Qz.2 (.inr (q7 r t h))
 | .Ax _ r,t,h=>q7 r t h
 | .ite t0 want b d g x y r,t,h=>by
  have cI:∀(l1 l2:List SG),t∈vH (l1++l2)->t∈vH l1\/t∈vH l2:=by
   intro l1 l2
   induction l1 with
   |nil=>exact fun h=> .inr h
   |cons o l1 ih=>
    intro h;simp only[List.cons_append,vH]at h ⊢
    cases hd:o.d with
    |none=>rw[hd]at h;exact ih h
    |some e=>
     rw[hd]at h;simp only[QA]at h ⊢;rcases h with h|h
     ·exact .inl (.inl h)
     ·rcases ih h with h|h
      ·exact .inl (.inr h)
      ·exact .inr h
  simp only[RS.flat]at h;simp only[RS.jB,Qz,QA];rcases cI _ _ h with h|h
  ·exact .inl (q7 b t h)
  ·simp only[vH,QA]at h;rcases h with h|h
   ·exact .inr (.inl h)
   ·exact .inr (.inr (q7 r t h))
theorem afT{x:KV U}{b:Bool}(h:IK x=some b):x= .bool b:=by
 unfold IK at h;split at h
 ·injection h with h;rw[h]
 ·cases h
theorem Ca{S:aX U}{t:Nat}{x:KV U}(h:S.env t=x):S.cI (some t) x none=S:=by
 unfold aX.cI;obtain⟨env,H,N⟩:=S;simp only at h ⊢;congr 1;rw[cz,<-h];exact EW _ _
theorem Ps.frm{S S':aX U}{p:Ps U}(hp:p.run S=some S'){W:WS}(hW:(p.FA S).all (okW W)=true):AJ p.tmps W S S':=by
 have ne:∀{id id':Nat},okW W id=true->okW W id'=false->id'≠id:=fun h1 h2 e=>by subst e;rw[h1]at h2;cases h2
 have hN:∀{n:Nat},okW W n=true->W≠none:=fun h e=>by rw[e]at h;cases h
 cases p with
 |own t e k T=>
  simp only[Ps.run]at hp;split at hp
  ·injection hp with hp
   subst hp;simp only[Ps.FA,List.all_cons,List.all_nil,Bool.and_true]at hW;exact⟨fun x hx=>by simp only[cz];exact cq _ _ (by simpa[Ps.tmps]using hx),fun id hid=>by simp only[cz];exact cq _ _ (ne hW hid),Nat.le_succ _,fun e=>absurd e (hN hW)⟩
  ·cases hp
 |AG t=>
  simp only[Ps.run]at hp;split at hp
  ·rename_i id ar ht;split at hp
   ·injection hp with hp
    subst hp;simp only[Ps.FA,ht,List.all_cons,List.all_nil,Bool.and_true]at hW;exact⟨fun x hx=>by simp only[cz];exact cq _ _ (by simpa[Ps.tmps]using hx),fun id' hid=>by simp only[cz];exact cq _ _ (ne hW hid),QI _,fun _=>rfl⟩
   ·cases hp
  ·cases hp
 |cut t=>
  simp only[Ps.run]at hp;split at hp
  ·rename_i id ar k lo n ht;split at hp
   ·split at hp
    ·injection hp with hp
     subst hp;simp only[Ps.FA,ht,List.all_cons,List.all_nil,Bool.and_true]at hW;exact⟨fun x hx=>by simp only[cz];exact cq _ _ (by simpa[Ps.tmps]using hx),fun id' hid=>by simp only[cz];exact cq _ _ (ne hW hid),QI _,fun _=>rfl⟩
    ·cases hp
   ·cases hp
  ·cases hp
 |wa t off e k T=>
  simp only[Ps.run]at hp;split at hp
  ·rename_i id ar o ht;split at hp
   ·rename_i cs hb;split at hp
    ·injection hp with hp
     subst hp;simp only[Ps.FA,ht,List.all_cons,List.all_nil,Bool.and_true,Qm]at hW;exact⟨fun x hx=>rfl,fun id' hid=>by simp only[cz];rw[cq _ _ (ne hW.2 hid),cq _ _ (ne hW.1 hid)],Nat.le_succ _,fun e=>absurd e (hN hW.1)⟩
    ·cases hp
   ·cases hp
  ·cases hp
 |MH t off=>
  simp only[Ps.run]at hp;split at hp
  ·rename_i id ar o ht;split at hp
   ·rename_i cs hb;split at hp
    ·rename_i i v hcell;split at hp
     ·injection hp with hp
      subst hp;simp only[Ps.FA,ht,hb,hcell,List.all_cons,List.all_nil,Bool.and_true,Qm]at hW;exact⟨fun x hx=>rfl,fun id' hid=>by simp only[cz];rw[cq _ _ (ne hW.1 hid),cq _ _ (ne hW.2 hid)],QI _,fun _=>rfl⟩
     ·cases hp
    ·cases hp
   ·cases hp
  ·cases hp
theorem CR{α β:Type}{f:α->Option β}:∀{l:List α} {r1 r2:List β},l.mapM f=some (r1++r2)->∃l1 l2,l=l1++l2/\l1.mapM f=some r1/\l2.mapM f=some r2
 |l,[],r2,h=>⟨[],l,rfl,rfl,h⟩
 |[],x::r1,r2,h=>by simp at h
 |y::l,x::r1,r2,h=>by
  simp only[List.mapM_cons,Qd,Qc,Option.pure_def,Qf,List.cons_append,List.cons.injEq]at h;obtain⟨z,hz,ys,hys,rfl,rfl⟩:=h;obtain⟨l1,l2,rfl,h1,h2⟩:=CR hys;exact⟨y::l1,l2,rfl,by simp[List.mapM_cons,hz,h1],h2⟩
theorem oF{E:En}{Γ:List (dw U)}(hΓ:tM P Γ){hs:List Nat}{ops:Array Oper}{Q:Exit->Act->World->Prop}:∀(rs:RS U) {ρ:Type} (W:WS) (nid:Nat) (S:aX U) (k:aX U->Option ρ) (r:ρ) (l1 l2:List Oper) (a:Act) (w:World) (L:Nat->Value),
  rs.dy=true->l1.mapM (uI P hs ops)=some rs.flat->Rel E S.st a w L->nid+rs.len<=S.N->(∀o∈l1,∀t,o.dst=some t->E.can t)->kg K Γ rs W nid S k=some r->
  (∀S' a' w' L',AJ rs.jB W S S'->Rel E S'.st a' w' L'->k S'=some r->wpListIn (WF E.rd) 0 P ops Q l2 a' w')->wpListIn (WF E.rd) 0 P ops Q (l1++l2) a w
 | .nil,ρ,W,nid,S,k,r,l1,l2,a,w,L,hok,hm,h,hN,hd,hr,hk=>by
  have:l1=[]:=by
   have:=sb hm;exact List.eq_nil_of_length_eq_zero (by simpa[RS.flat]using this.symm)
  subst this;exact hk S a w L (AJ.refl _ _ _) h hr
 | .op o rs,ρ,W,nid,S,k,r,l1,l2,a,w,L,hok,hm,h,hN,hd,hr,hk=>by
  simp only[RS.dy,Qm]at hok
  cases l1 with
  |nil=>simp[RS.flat]at hm
  |cons p l1=>
  simp only[RS.flat,List.mapM_cons,Qd,Qc,Option.pure_def,Qf,List.cons.injEq]at hm;obtain⟨g,hg,gs',hgs,rfl,rfl⟩:=hm;simp only[RS.len]at hN;obtain⟨Γ',x,wr,hΓ',he,hwr,hr'⟩:=Xt hΓ hok.1 hr;have hst:uZ Γ' nid S.st g=some (S.cI g.d x wr).st:=by rw[X7,he,Hf];rfl
  rw[List.cons_append];refine wpListIn_step fun K hK=> ?_
  refine wO hΓ' hg h (show nid<S.N by omega) (hd p (by simp)) hst (fun a' w' L' h'=>hK _ _ ?_)
  refine oF hΓ rs W (nid+1) _ k r l1 l2 a' w' L' hok.2 hgs h' (by show _<=S.N;omega) (fun o' ho'=>hd o' (by simp[ho'])) hr' (fun S' a' w' L' hf h' hk'=>hk S' a' w' L' ?_ h' hk')
  refine(YT S W g.d x wr hwr).trans hf fun t ht=> ?_
  simp only[RS.jB]at ht
  cases hdd:g.d with
  |none=>rw[hdd]at ht;exact⟨by simp,ht⟩
  |some d=>rw[hdd]at ht;simp only[QA,not_or]at ht;exact⟨by simpa using fun e=>ht.1 e,ht.2⟩
 | .ps p rs,ρ,W,nid,S,k,r,l1,l2,a,w,L,hok,hm,h,hN,hd,hr,hk=>by
  simp only[kg]at hr;split at hr
  ·rename_i hW;split at hr
   ·rename_i S1 hp;obtain⟨L1,h1⟩:=Ps.sound K hp h;have hf:=Ps.frm hp hW;refine oF hΓ rs W nid S1 k r l1 l2 a w L1 hok hm h1 (QK hN hf.N) hd hr (fun S' a' w' L' hf' h' hk'=>hk S' a' w' L' (hf.trans hf' fun t ht=> ?_) h' hk')
    simp only[RS.jB,Qz,not_or]at ht;exact ht
   ·cases hr
  ·cases hr
 | .Ax t rs,ρ,W,nid,S,k,r,l1,l2,a,w,L,hok,hm,h,hN,hd,hr,hk=>by
  simp only[kg]at hr;split at hr
  ·rename_i b hb
   cases b with
   |true=>
    rw[Qk,Ca hb]at hr;exact oF hΓ rs W nid S k r l1 l2 a w L hok hm h hN hd hr hk
   |false=>
    rw[Ql,Ca hb]at hr;exact oF hΓ rs W nid S k r l1 l2 a w L hok hm h hN hd hr hk
  ·exact oF hΓ rs W nid S k r l1 l2 a w L hok hm h hN hd hr hk
  ·cases hr
 | .ite t want body d g x y rs,ρ,W,nid,S,k,r,l1,l2,a,w,L,hok,hm,h,hN,hd,hr,hk=>by
  simp only[RS.dy,Qm]at hok;obtain⟨⟨hokb,hokx,hoky⟩,hokr⟩:=hok;simp only[RS.flat]at hm;obtain⟨lb,lr,rfl,hmb,hmr⟩:=CR hm
  cases lr with
  |nil=>simp at hmr
  |cons p lr=>
  simp only[List.mapM_cons,Qd,Qc,Option.pure_def,Qf,List.cons.injEq]at hmr;obtain⟨pg,hpg,gs',hgs,rfl,rfl⟩:=hmr;simp only[RS.len]at hN;simp only[kg]at hr;split at hr
  ·rename_i b hb;split at hr
   ·rename_i hchk;simp only[Qm,Bool.not_eq_true']at hchk;obtain⟨hwant,hskip,htd⟩:=hchk;have htd:=pw htd
    have fin:∀(v:Bool) (S1:St) (a1:Act) (w1:World) (L1:Nat->Value),(∀x,x∉body.jB->S1.env x=S.st.env x)->S1.H=S.st.H->S1.N=S.st.N->Rel E S1 a1 w1 L1->
      (if b then x else y).val S1= .bool v->kg K Γ rs W (nid+(body.len+1)) ((S.forget body.jB).cI (some d) (.bool v) none) k=some r->wpListIn (WF E.rd) 0 P ops Q (p::(lr++l2)) a1 w1:=by
     intro v S1 a1 w1 L1 he hH hN1 h1 hv hr1
     have hpw:(⟨some d,g,.pick (.tmp t) x y⟩:SG).wanted S1=some true:=by
      rw[SG.wanted]
      cases g with
      |none=>rfl
      |some q=>
       obtain⟨t',want'⟩:=q;simp only[adR]at hwant;split at hwant
       ·rename_i b' hb';simp only[Qm,Bool.not_eq_true']at hwant;have:S1.env t'= .bool b':=by rw[he t' (pw hwant.2)];simp only[aX.st,hb',KV.pv]
        simp only[this];rw[JB]at hwant;rw[hwant.1]
       ·cases hwant
     have hbt:S1.env t= .bool b:=by rw[he t htd];simp only[aX.st,hb,KV.pv]
     have hst:uZ (fun _=>none) nid S1 ⟨some d,g,.pick (.tmp t) x y⟩=some (S1.cI (some d) (.bool v) none):=by
      rw[uZ,hpw];have hbt':(bm.tmp t).val S1= .bool b:=hbt;simp only[exec,hbt']
      cases b with
      |true=>simp only[Qt]at hv;simp only[hv];rfl
      |false=>simp only[Qq,Qu]at hv;simp only[hv];rfl
     refine wpListIn_step fun KK hKK=> ?_
     refine wO ZL hpg h1 (show nid<S1.N by rw[hN1];show nid<S.N;omega) (hd p (by simp)) hst (fun a' w' L' h'=>hKK _ _ ?_)
     have h2:Rel E ((S.forget body.jB).cI (some d) (.bool v) none).st a' w' L':=by
      refine h'.aep (by rw[Hf];exact hH.symm) (by rw[Hf];exact hN1.symm) fun t'=> ?_
      rw[Hf]
      by_cases htd':t'=d
      ·subst htd';left;rw[show(S1.cI (some t') (.bool v) none).env t'= .bool v from bP _ _ _]
       exact bP _ _ _
      ·rw[St.lG _ _ _ (by simpa using fun e=>htd' e.symm),St.lG _ _ _ (by simpa using fun e=>htd' e.symm)]
       cases hmm:hZ t' body.jB with
       |true=>right;simp only[aX.st,aX.forget,hmm,KV.pv]
       |false=>left;simp only[aX.st,aX.forget,hmm];exact(he t' (pw hmm)).symm
     refine oF hΓ rs W (nid+(body.len+1)) _ k r lr l2 a' w' L' hokr hgs h2 (by show _<=S.N;omega) (fun o' ho'=>hd o' (by simp[ho'])) hr1 (fun S' a' w' L' hf h' hk'=>hk S' a' w' L' ?_ h' hk')
     refine AJ.trans (S':=(S.forget body.jB).cI (some d) (.bool v) none) (D:=body.jB++[d]) ⟨fun t' ht'=> ?_,fun id _=>rfl,QI _,fun _=>rfl⟩ hf fun t' ht'=> ?_
     ·simp only[Qz,List.mem_singleton,not_or]at ht';rw[lG _ _ _ _ (by simpa using fun e=>ht'.2 e.symm)]
      have:hZ t' body.jB=false:=by
       cases hmm:hZ t' body.jB with
       |true=>exact absurd (eo.1 hmm) ht'.1
       |false=>rfl
      simp only[aX.forget,this]
     ·simp only[RS.jB,Qz,QA,not_or]at ht';exact⟨by simp[ht'.1,ht'.2.1],ht'.2.2⟩
    have body_run:∀(z:bm) (v:Bool),b=want->z.dy=true->z=(if b then x else y)->kg K Γ body none nid (S.cI (some t) (.bool b) none) (fun S1=>IK (z.cO S1))=some v->
      kg K Γ rs W (nid+(body.len+1)) ((S.forget body.jB).cI (some d) (.bool v) none) k=some r->wpListIn (WF E.rd) 0 P ops Q (lb++p::(lr++l2)) a w:=by
     intro z v _ hz hzz OO hrr;rw[Ca hb]at OO;refine oF hΓ body none nid S _ v lb _ a w L hokb hmb h (by omega) (fun o' ho'=>hd o' (by simp[ho'])) OO (fun S' a' w' L' hf h' hk'=> ?_)
     have hH:S'.H=S.H:=funext fun id=>hf.H id rfl
     have hNN:S'.N=S.N:=hf.Nn rfl;refine fin v S'.st a' w' L' (fun x' hx'=>by simp only[aX.st,hf.env x' hx']) (by simp only[aX.st,hH]) hNN h' ?_ hrr
     rw[<-hzz,wS hz,afT hk'];rfl
    have body_skip:∀(c:Bool),b= !want->(if b then x else y)= .wW (.bool c)->kg K Γ rs W (nid+(body.len+1)) ((S.forget body.jB).cI (some d) (.bool c) none) k=some r->wpListIn (WF E.rd) 0 P ops Q (lb++p::(lr++l2)) a w:=by
     intro c hbw hc hrr;refine E3 lb _ [] S.st a w L hmb h (show 0<S.N by omega) (fun o' ho'=>hd o' (by simp[ho'])) hskip ?_ (by simp) (fun S' a' w' L' he hH hN' h'=> ?_)
     ·simp only[aX.st,hb,KV.pv,hbw]
     ·refine fin c S' a' w' L' (fun x' hx'=>he x' fun hmem=>hx' (q7 _ _ hmem)) hH hN' h' ?_ hrr
      rw[hc];rfl
    rw[QL,List.cons_append];split at hr
    ·split at hr
     ·rename_i c hc
      have hy:y= .wW (.bool c):=by
       unfold aab at hc;split at hc
       ·injection hc with hc;rw[hc]
       ·cases hc
      rw[Qc]at hr;obtain⟨v,hv,hr⟩:=hr
      cases b with
      |true=>exact body_run x v rfl hokx (by simp) hv hr
      |false=>
       rw[Ql]at hv;injection hv with hv
       subst hv;exact body_skip c rfl (by simpa using hy) hr
     ·cases hr
    ·split at hr
     ·rename_i c hc
      have hx:x= .wW (.bool c):=by
       unfold aab at hc;split at hc
       ·injection hc with hc;rw[hc]
       ·cases hc
      rw[Qc]at hr;obtain⟨v,hv,hr⟩:=hr
      cases b with
      |false=>exact body_run y v rfl hoky (by simp) hv hr
      |true=>
       rw[Qk]at hv;injection hv with hv
       subst hv;exact body_skip c rfl (by simpa using hx) hr
     ·cases hr
   ·cases hr
  ·cases hr
end
end Go.TQ
end
noncomputable section
namespace Go.TQ
open Go.RowKit
def PV.uD(p:Nat->Bool):PV->Bool
 | .own id _| .ptr id _ _| .eE id _ _ _ _| .view id _ _ _ _=>p id
 | .agg _| .dP _| .bH _ _| .iZ _ _=>false
 |_=>true
def PV.mL(p:Nat->Bool):PV->Bool
 | .agg cs| .dP cs| .bH _ cs| .iZ _ cs=>cs.all (PV.uD p)
 |x=>x.uD p
section
variable {w : World}
theorem bf.uD{p:Nat->Bool}{M M':Nat->Prop}{G G':Gh}{x:PV}{v:Value}(hx:x.uD p=true)(hM:∀b,M' b->M b)(hp:∀id,p id=true->id<G'.N/\G'.V id=G.V id/\G'.L id=G.L id)(h:bf w M G x v):bf w M' G' x v:=by
 have hs:dI w w M M':=(dI.of fun _ hm=>fun h'=>hm (hM _ h'))
 cases h with
 |any=>exact .any _
 |undef=>exact .undef
 |int=>exact .int _ _
 |bool=>exact .bool _
 |fY=>exact .fY _
 |str=>exact .str _
 |jM=>exact .jM
 |dF=>exact .dF
 |bH=>simp[PV.uD]at hx
 |iZ=>simp[PV.uD]at hx
 |agg=>simp[PV.uD]at hx
 |dP=>simp[PV.uD]at hx
 |ptr id ar off a hN hVe h=>obtain⟨h1,h2,h3⟩:=hp id hx;exact .ptr _ _ _ _ h1 (by rw[h2];exact hVe) (fun e=>by rw[h3];exact h (by rw[e,h2]))
 |ref cs ad vs hl hcell h=>exact .ref cs ad vs hl (fun i u hu=>⟨(hcell i u hu).1,fun h'=>(hcell i u hu).2 (hM _ h')⟩) (fun i p u hp hu=>(h i p u hp hu).mono hs (Gh.le.refl _))
 |sl es ad c k vs hk hl hcell h hn hm=>exact .sl es ad c k vs hk hl (fun i u hu=>⟨(hcell i u hu).1,fun h'=>(hcell i u hu).2 (hM _ h')⟩) (fun i p u hp hu=>(h i p u hp hu).mono hs (Gh.le.refl _)) hn hm
 |slnil=>exact .slnil
 |own id ar a n c hN hVe h=>obtain⟨h1,h2,h3⟩:=hp id hx;exact .own _ _ _ _ _ h1 (by rw[h2];exact hVe) (fun e=>by rw[h3];exact h (by rw[e,h2]))
 |eE id ar k i off a hN hVe h=>obtain⟨h1,h2,h3⟩:=hp id hx;exact .eE _ _ _ _ _ _ h1 (by rw[h2];exact hVe) (fun e=>by rw[h3];exact h (by rw[e,h2]))
 |view id ar k lo n a c hN hVe h=>obtain⟨h1,h2,h3⟩:=hp id hx;exact .view _ _ _ _ _ _ _ h1 (by rw[h2];exact hVe) (fun e=>by rw[h3];exact h (by rw[e,h2]))
 |iw ks us b es ck hb hMb hk hv g1 g2=>exact .iw ks us b es ck hb (fun h'=>hMb (hM _ h')) hk hv (fun i p e hp he=>(g1 i p e hp he).mono hs (Gh.le.refl _)) (fun i p e hp he=>(g2 i p e hp he).mono hs (Gh.le.refl _))
theorem bf.mL{p:Nat->Bool}{M M':Nat->Prop}{G G':Gh}{x:PV}{v:Value}(hx:x.mL p=true)(hM:∀b,M' b->M b)(hp:∀id,p id=true->id<G'.N/\G'.V id=G.V id/\G'.L id=G.L id)(h:bf w M G x v):bf w M' G' x v:=by
 have go:∀{cs:List PV} {vs:List Value},cs.all (PV.uD p)=true->bg w M G cs vs->bg w M' G' cs vs:=fun hc h=>⟨h.1,fun i y v hy hv=>(h.2 i y v hy hv).uD (QH.1 hc y (List.mem_of_getElem? hy)) hM hp⟩
 cases x with
 |agg cs=>obtain⟨vs,rfl,hr⟩:=h.nu;have:=go (by simpa[PV.mL]using hx) hr;exact .agg _ _ this.1 this.2
 |dP cs=>obtain⟨vs,rfl,hr⟩:=h.DR;have:=go (by simpa[PV.mL]using hx) hr;exact .dP _ _ this.1 this.2
 |bH f cs=>obtain⟨vs,rfl,hr⟩:=h.wX;have:=go (by simpa[PV.mL]using hx) hr;exact .bH _ _ _ this.1 this.2
 |iZ f cs=>obtain⟨vs,rfl,hr⟩:=h.R1;have:=go (by simpa[PV.mL]using hx) hr;exact .iZ _ _ _ this.1 this.2
 |_=>exact h.uD (by simpa[PV.mL]using hx) hM hp
end
section
variable {U : TU}
def KV.uD(p:Nat->Bool):KV U->Bool
 | .own id _| .ptr id _ _| .eE id _ _ _ _| .view id _ _ _ _=>p id
 | .agg _| .dP _| .bH _ _| .iZ _ _=>false
 |_=>true
def KV.mL(p:Nat->Bool):KV U->Bool
 | .agg cs| .dP cs| .bH _ cs| .iZ _ cs=>cs.all (KV.uD p)
 |x=>x.uD p
theorem agQ(p:Nat->Bool)(x:KV U):x.pv.uD p=x.uD p:=by cases x<;>simp[KV.pv,PV.uD,KV.uD]
theorem Bc(p:Nat->Bool)(l:List (KV U)):(l.map KV.pv).all (PV.uD p)=l.all (KV.uD p):=by
 induction l with
 |nil=>rfl
 |cons x l ih=>simp only[QD,List.all_cons,agQ,ih]
theorem Vz(p:Nat->Bool)(x:KV U):x.pv.mL p=x.mL p:=by
 cases x with
 |agg cs=>simp only[KV.pv,PV.mL,KV.mL,KV.ct];exact Bc p cs
 |dP cs=>simp only[KV.pv,PV.mL,KV.mL,KV.ct];exact Bc p cs
 |bH f cs=>simp only[KV.pv,PV.mL,KV.mL,KV.ct];exact Bc p cs
 |iZ f cs=>simp only[KV.pv,PV.mL,KV.mL,KV.ct];exact Bc p cs
 |_=>simp[KV.pv,PV.mL,KV.mL,PV.uD,KV.uD]
def dK.mL(p:Nat->Bool):dK U->Bool
 | .dead=>true
 | .box cs=>cs.all (KV.mL p)
 | .row _ _ _ _=>true
 | .raw _ _ es=>es.all fun c=>c.all (KV.mL p)
inductive It (U:TU) where
 |val (t:Nat) (T:U.Ty)
 |own (t id ar e k:Nat) (T:U.Ty)
 |box (id ar:Nat) (T:U.Ty) (m:List (Nat×Nat×Nat))
 |dQ (id ar e k:Nat) (T:U.Ty)
@[reducible] def It.den:It U->Type
 | .val _ T=>U.den T
 | .own _ _ _ _ _ T=>List (U.den T)
 | .box _ _ T _=>U.den T
 | .dQ _ _ _ _ T=>List (U.den T)
@[reducible] def rn:List (It U)->Type
 |[]=>Unit
 |i::l=>i.den×rn l
def Br:List (Nat×Nat×Nat)->List (KV U)->List (KV U)
 |[],cs=>cs
 |(off,_,_)::m,cs=>Br m (cs.set off .dF)
def BB:List (Nat×Nat×Nat)->List (KV U)->List (KV U)
 |[],cs=>cs
 |(off,id,ar)::m,cs=>(BB m cs).set off (.own id ar)
def Ib(S:aX U)(cs:List (KV U)):List (Nat×Nat×Nat)->Bool
 |[]=>true
 |(off,id,_)::m=>(match cs[off]? with|some (.own i v)=>Nat.beq i id&&Nat.beq v (S.H id).ar|_=>false)&&Ib S cs m
theorem NW(cs:List (KV U)):∀(m:List (Nat×Nat×Nat)),(BB m cs).length=cs.length
 |[]=>rfl
 |(off,id,ar)::m=>by rw[BB,QY,NW cs m]
theorem EX:∀(m:List (Nat×Nat×Nat)) (cs:List (KV U)),(Br m cs).length=cs.length
 |[],_=>rfl
 |(off,id,ar)::m,cs=>by rw[Br,EX m,QY]
theorem NX(cs:List (KV U)){i:Nat}{y:KV U}:∀(m:List (Nat×Nat×Nat)),(BB m cs)[i]?=some y->(∃id ar,(i,id,ar)∈m/\y= .own id ar)\/((∀q∈m,q.1≠i)/\cs[i]?=some y)
 |[],h=> .inr ⟨by simp,h⟩
 |(off,id,ar)::m,h=>by
  rw[BB,List.getElem?_set]at h;split at h
  ·rename_i e;subst e;split at h
   ·injection h with h
    exact .inl ⟨id,ar,Qx,h.symm⟩
   ·cases h
  ·rename_i e;rcases NX cs m h with⟨a,b,h1,h2⟩|⟨h1,h2⟩
   ·exact .inl ⟨a,b,Qy _ h1,h2⟩
   ·refine .inr ⟨fun q hq=> ?_,h2⟩
    rcases QA.1 hq with rfl|hq
    ·exact e
    ·exact h1 q hq
theorem MY{i:Nat}:∀(m:List (Nat×Nat×Nat)) (cs:List (KV U)),(∀q∈m,q.1≠i)->(Br m cs)[i]?=cs[i]?
 |[],_,_=>rfl
 |(off,id,ar)::m,cs,h=>by
  rw[Br,MY m _ fun q hq=>h q (Qy _ hq),List.getElem?_set,Qs (h _ Qx)]
theorem Oj{S:aX U}{cs:List (KV U)}{off id ar:Nat}:∀{m:List (Nat×Nat×Nat)},Ib S cs m=true->(off,id,ar)∈m->cs[off]?=some (.own id (S.H id).ar)
 |[],_,h=>by cases h
 |(o,i,v)::m,hm,h=>by
  rw[Ib,Qm]at hm;rcases QA.1 h with e|h
  ·injection e with e1 e2
   injection e2 with e2 e3
   subst e1 e2 e3;have h1:=hm.1;split at h1
   ·rename_i i' v' hc;rw[Qm]at h1;rw[hc,QF h1.1,QF h1.2]
   ·cases h1
  ·exact Oj hm.2 h
variable (K : TK U)
def Yv(S:aX U):(i:It U)->Option i.den
 | .val t T=>xc K nH T (S.env t)
 | .own t id ar e k T=>(match S.env t with
  | .own id' v=>(match Nat.beq id' id with
   |true=>(match S.row? id' v with
    |some r=>(match Nat.beq r.e e&&Nat.beq r.k k&&(Nat.blt 0 ar||Nat.beq v 0)with|true=>zB r.T T r.xs|false=>none)
    |none=>none)
   |false=>none)
  |_=>none)
 | .box id ar T m=>(match S.sn id ar with
  |some cs=>(match Ib S cs m with|true=>K.dec T nH (Br m cs)|false=>none)
  |none=>none)
 | .dQ id ar e k T=>(match(S.H id).c with
  | .row e' k' T' xs=>(match Nat.beq e' e&&Nat.beq k' k&&(Nat.blt 0 ar||Nat.beq (S.H id).ar 0)with|true=>zB T' T xs|false=>none)
  |_=>none)
def pack(S:aX U):(l:List (It U))->Option (rn l)
 |[]=>some ()
 |i::l=>(match Yv K S i with
  |some v=>(match pack S l with|some vs=>some (v,vs)|none=>none)
  |none=>none)
def uN(S:aX U):(i:It U)->i.den->aX U
 | .val t T,v=>{env:=gI S.env t (vT K T v),H:=S.H,N:=S.N}
 | .own t id ar e k T,xs=>{env:=gI S.env t (.own id ar),H:=gI S.H id ⟨ar,.row e k T xs⟩,N:=S.N}
 | .box id ar T m,v=>{env:=S.env,H:=gI S.H id ⟨ar,.box (BB m (K.cr T v))⟩,N:=S.N}
 | .dQ id ar e k T,xs=>{env:=S.env,H:=gI S.H id ⟨ar,.row e k T xs⟩,N:=S.N}
def tZ(S:aX U):(l:List (It U))->rn l->aX U
 |[],_=>S
 |i::l,v=>uN K (tZ S l v.2) i v.1
structure JS (U:TU) where
 items:List (It U)
 ew:List Nat
def aX.base(S:aX U)(ew:List Nat):aX U:=
 {env:=fun t=>(match hZ t ew with|true=>S.env t|false=> .any),H:=fun id=>(match Nat.blt id S.N with|true=>S.H id|false=>⟨0,.dead⟩),N:=S.N}
def unpack(S:aX U)(J:JS U)(v:rn J.items):aX U:=tZ K (S.base J.ew) J.items v
def It.bq:It U->Option Nat
 | .val t _| .own t _ _ _ _ _=>some t
 | .box _ _ _ _| .dQ _ _ _ _ _=>none
def It.id:It U->Option Nat
 | .val _ _=>none
 | .own _ id _ _ _ _| .box id _ _ _| .dQ id _ _ _ _=>some id
def It.okv:It U->Bool
 | .own _ _ _ _ _ _| .dQ _ _ _ _ _=>true
 |_=>true
def It.row:It U->Option Nat
 | .own _ id ar _ _ _| .dQ id ar _ _ _=>(match ar with|0=>none|_+1=>some id)
 |_=>none
def It.isRow(id ar:Nat):It U->Bool
 | .dQ id' ver' _ _ _=>Nat.beq id' id&&Nat.beq ver' ar
 |_=>false
def OU(id ar:Nat):List (It U)->Bool
 |[]=>false
 |i::l=>i.isRow id ar||OU id ar l
def It.okm(l:List (It U)):It U->Bool
 | .box _ _ _ m=>m.all fun q=>OU q.2.1 q.2.2 l
 |_=>true
theorem OT{id ar:Nat}:∀{l:List (It U)},OU id ar l=true->∃e k T,(It.dQ id ar e k T)∈l
 |[],h=>by cases h
 |i::l,h=>by
  rw[OU,Qn]at h;rcases h with h|h
  ·cases i with
   |dQ id' ver' e k T=>
    simp only[It.isRow,Qm]at h;rw[QF h.1,QF h.2];exact⟨e,k,T,Qx⟩
   |_=>cases h
  ·obtain⟨e,k,T,h⟩:=OT h;exact⟨e,k,T,Qy _ h⟩
def eZ:List (It U)->List Nat
 |[]=>[]
 |i::l=>(match i.id with|some id=>id::eZ l|none=>eZ l)
def rowsOf:List (It U)->List Nat
 |[]=>[]
 |i::l=>(match i.row with|some id=>id::rowsOf l|none=>rowsOf l)
def slotsOf:List (It U)->List Nat
 |[]=>[]
 |i::l=>(match i.bq with|some id=>id::slotsOf l|none=>slotsOf l)
def xu:List Nat->Bool
 |[]=>true
 |x::l=> !hZ x l&&xu l
def Pn:Nat->(Nat->Bool)->Bool
 |0,_=>true
 |n+1,p=>Pn n p&&p n
theorem Pm{p:Nat->Bool}:∀{n:Nat},Pn n p=true->∀i,i<n->p i=true
 |0,_,i,hi=>absurd hi (Nat.not_lt_zero _)
 |n+1,h,i,hi=>by
  simp only[Pn,Qm]at h
  by_cases e:i=n
  ·rw[e];exact h.2
  ·exact Pm h.1 i (by omega)
def tt(S:aX U)(J:JS U)(F:List Nat)(W:WS):Bool:=
 let ids:=eZ J.items
 let rows:=rowsOf J.items
 let p:=fun id=>Nat.blt id S.N&& !hZ id rows
 xu ids&&ids.all (fun id=>Nat.blt id S.N&&okW W id)&&(J.items.all It.okv&&J.items.all (It.okm J.items))&&J.ew.all (fun t=>(S.env t).mL p&& !hZ t (slotsOf J.items))&&Pn S.N (fun id=>hZ id ids||(S.H id).c.mL p)
  &&F.all (fun t=>hZ t J.ew)&&(match W with|some (n,_)=>Nat.ble n S.N|none=>false)
def xq:(l:List (It U))->rn l->List (Sigma (It.den (U:=U)))
 |[],_=>[]
 |i::l,v=>⟨i,v.1⟩::xq l v.2
variable {K}
theorem N5{S:aX U}:∀{l:List (It U)} {v:rn l},pack K S l=some v->∀p∈xq l v,Yv K S p.1=some p.2
 |[],v,h,p,hp=>by cases hp
 |i::l,v,h,p,hp=>by
  rw[pack]at h;split at h
  ·rename_i v1 h1;split at h
   ·rename_i vs h2;injection h with h
    subst h;rcases QA.1 hp with rfl|hp
    ·exact h1
    ·exact N5 h2 p hp
   ·cases h
  ·cases h
def kvI:(i:It U)->i.den->KV U
 | .val _ T,v=>vT K T v
 | .own _ id ar _ _ _,_=> .own id ar
 | .box _ _ _ _,_=> .any
 | .dQ _ _ _ _ _,_=> .any
def Ro:(i:It U)->i.den->c8 U
 | .val _ _,_=>⟨0,.dead⟩
 | .own _ _ ar e k T,xs=>⟨ar,.row e k T xs⟩
 | .box _ ar T m,v=>⟨ar,.box (BB m (K.cr T v))⟩
 | .dQ _ ar e k T,xs=>⟨ar,.row e k T xs⟩
theorem acN(S:aX U)(i:It U)(v:i.den)(t:Nat):(i.bq=some t/\(uN K S i v).env t=kvI (K:=K) i v)\/(i.bq≠some t/\(uN K S i v).env t=S.env t):=by
 cases i with
 |val t' T=>
  by_cases e:t'=t
  ·subst e;left;exact⟨rfl,by simp only[uN,cz];exact bP _ _ _⟩
  ·right;exact⟨by simpa[It.bq]using e,by simp only[uN,cz];exact cq _ _ (fun h=>e h.symm)⟩
 |own t' id ar ee k T=>
  by_cases e:t'=t
  ·subst e;left;exact⟨rfl,by simp only[uN,cz];exact bP _ _ _⟩
  ·right;exact⟨by simpa[It.bq]using e,by simp only[uN,cz];exact cq _ _ (fun h=>e h.symm)⟩
 |box id ar T m=>right;exact⟨by simp[It.bq],rfl⟩
 |dQ id ar e k T=>right;exact⟨by simp[It.bq],rfl⟩
theorem Vr(S:aX U)(i:It U)(v:i.den)(id:Nat):(i.id=some id/\(uN K S i v).H id=Ro (K:=K) i v)\/(i.id≠some id/\(uN K S i v).H id=S.H id):=by
 cases i with
 |val t' T=>right;exact⟨by simp[It.id],rfl⟩
 |own t' id' ar ee k T=>
  by_cases e:id'=id
  ·subst e;left;exact⟨rfl,by simp only[uN,cz];exact bP _ _ _⟩
  ·right;exact⟨by simpa[It.id]using e,by simp only[uN,cz];exact cq _ _ (fun h=>e h.symm)⟩
 |box id' ar T m=>
  by_cases e:id'=id
  ·subst e;left;exact⟨rfl,by simp only[uN,cz];exact bP _ _ _⟩
  ·right;exact⟨by simpa[It.id]using e,by simp only[uN,cz];exact cq _ _ (fun h=>e h.symm)⟩
 |dQ id' ar ee k T=>
  by_cases e:id'=id
  ·subst e;left;exact⟨rfl,by simp only[uN,cz];exact bP _ _ _⟩
  ·right;exact⟨by simpa[It.id]using e,by simp only[uN,cz];exact cq _ _ (fun h=>e h.symm)⟩
theorem agI(S:aX U)(i:It U)(v:i.den):(uN K S i v).N=S.N:=by cases i<;>rfl
theorem Ef(S:aX U):∀(l:List (It U)) (v:rn l),(tZ K S l v).N=S.N
 |[],_=>rfl
 |i::l,v=>by rw[tZ,agI,Ef S l]
theorem ub{id:Nat}:∀{l:List (It U)} {i:It U},i∈l->i.id=some id->id∈eZ l
 |j::l,i,hi,h=>by
  simp only[eZ];rcases QA.1 hi with rfl|hi
  ·rw[h];exact Qx
  ·have:=ub hi h;split
   ·exact Qy _ this
   ·exact this
theorem Mh{id:Nat}:∀{l:List (It U)} {i:It U},i∈l->i.row=some id->id∈rowsOf l
 |j::l,i,hi,h=>by
  simp only[rowsOf];rcases QA.1 hi with rfl|hi
  ·rw[h];exact Qx
  ·have:=Mh hi h;split
   ·exact Qy _ this
   ·exact this
theorem CQ{id:Nat}:∀{l:List (It U)} {i:It U},i∈l->i.bq=some id->id∈slotsOf l
 |j::l,i,hi,h=>by
  simp only[slotsOf];rcases QA.1 hi with rfl|hi
  ·rw[h];exact Qx
  ·have:=CQ hi h;split
   ·exact Qy _ this
   ·exact this
theorem kv:∀{l:List (It U)} {v:rn l} {p:Sigma (It.den (U:=U))},p∈xq l v->p.1∈l
 |i::l,v,p,hp=>by
  rcases QA.1 hp with rfl|hp
  ·exact Qx
  ·exact Qy _ (kv hp)
theorem VK:∀{l:List (It U)} {v:rn l} {i:It U},i∈l->∃d,(⟨i,d⟩:Sigma (It.den (U:=U)))∈xq l v
 |j::l,v,i,hi=>by
  rcases QA.1 hi with rfl|hi
  ·exact⟨v.1,Qx⟩
  ·obtain⟨d,hd⟩:=VK (v:=v.2) hi;exact⟨d,Qy _ hd⟩
theorem zL(S:aX U):∀(l:List (It U)) (v:rn l) (t:Nat),(∃p∈xq l v,p.1.bq=some t/\(tZ K S l v).env t=kvI (K:=K) p.1 p.2)\/(t∉slotsOf l/\(tZ K S l v).env t=S.env t)
 |[],v,t=> .inr ⟨by simp[slotsOf],rfl⟩
 |i::l,v,t=>by
  rcases acN (K:=K) (tZ K S l v.2) i v.1 t with⟨h1,h2⟩|⟨h1,h2⟩
  ·exact .inl ⟨⟨i,v.1⟩,Qx,h1,h2⟩
  ·rcases zL S l v.2 t with⟨p,hp,h3,h4⟩|⟨h3,h4⟩
   ·exact .inl ⟨p,Qy _ hp,h3,h2.trans h4⟩
   ·refine .inr ⟨?_,h2.trans h4⟩;simp only[slotsOf];split
    ·rename_i s hs;simp only[QA,not_or];exact⟨fun e=>h1 (by rw[hs,e]),h3⟩
    ·exact h3
theorem Eg(S:aX U):∀(l:List (It U)) (v:rn l) (id:Nat),xu (eZ l)=true->(∃p∈xq l v,p.1.id=some id/\(tZ K S l v).H id=Ro (K:=K) p.1 p.2)\/(id∉eZ l/\(tZ K S l v).H id=S.H id)
 |[],v,t,_=> .inr ⟨by simp[eZ],rfl⟩
 |i::l,v,id,hn=>by
  have hn':xu (eZ l)=true:=by
   simp only[eZ]at hn;split at hn
   ·simp only[xu,Qm]at hn;exact hn.2
   ·exact hn
  rcases Vr (K:=K) (tZ K S l v.2) i v.1 id with⟨h1,h2⟩|⟨h1,h2⟩
  ·exact .inl ⟨⟨i,v.1⟩,Qx,h1,h2⟩
  ·rcases Eg S l v.2 id hn' with⟨p,hp,h3,h4⟩|⟨h3,h4⟩
   ·exact .inl ⟨p,Qy _ hp,h3,h2.trans h4⟩
   ·refine .inr ⟨?_,h2.trans h4⟩;simp only[eZ];split
    ·rename_i s hs;simp only[QA,not_or];exact⟨fun e=>h1 (by rw[hs,e]),h3⟩
    ·exact h3
theorem H3(S:aX U):∀(l:List (It U)) (v:rn l),xu (eZ l)=true->∀p∈xq l v,∀id,p.1.id=some id->(tZ K S l v).H id=Ro (K:=K) p.1 p.2
 |[],v,_,p,hp=>by cases hp
 |i::l,v,hn,p,hp=>by
  intro id hid
  have hn':xu (eZ l)=true:=by
   simp only[eZ]at hn;split at hn
   ·simp only[xu,Qm]at hn;exact hn.2
   ·exact hn
  rcases QA.1 hp with rfl|hp
  ·rcases Vr (K:=K) (tZ K S l v.2) i v.1 id with⟨h1,h2⟩|⟨h1,h2⟩
   ·exact h2
   ·exact absurd hid h1
  ·rcases Vr (K:=K) (tZ K S l v.2) i v.1 id with⟨h1,h2⟩|⟨h1,h2⟩
   ·exfalso;simp only[eZ,h1,xu,Qm,Bool.not_eq_true']at hn;exact pw hn.1 (ub (kv hp) hid)
   ·exact h2.trans (H3 S l v.2 hn' p hp id hid)
theorem Pg(S:aX U)(ew:List Nat):(S.base ew).N=S.N:=rfl
theorem Ga{S:aX U}{ew:List Nat}{t:Nat}:(S.base ew).env t=if t∈ew then S.env t else .any:=by
 simp only[aX.base];split
 ·rename_i h;rw[Qr (eo.1 h)]
 ·rename_i h;rw[Qs (pw h)]
theorem Ph{S:aX U}{ew:List Nat}{id:Nat}:(S.base ew).H id=if id<S.N then S.H id else⟨0,.dead⟩:=by
 simp only[aX.base];split
 ·rename_i h;rw[Qr (show id<S.N from QG h)]
 ·rename_i h;rw[Qs];intro hlt;have:Nat.blt id S.N=true:=Nat.ble_eq_true_of_le hlt;rw[this]at h;cases h
theorem gU.rep{w:World}{M:Nat->Prop}{G:Gh}{xs:List (KV U)}{ys:List PV}(h:gU nH xs ys):∀{vs:List Value},bg w M G (xs.map KV.pv) vs->bg w M G ys vs:=by
 induction h with
 |nil=>intro vs h;exact h
 |cons hc _ ih=>
  intro vs h;obtain⟨v,vs',rfl,h1,h2⟩:=bg.cons_inv h;refine bg.cons ?_ (ih h2)
  cases hc with
  |dF=>rw[KV.pv]at h1;rw[h1.mB];exact .slnil
  |own _ _ _ _ hn=>cases hn
  |_=>simpa[KV.pv]using h1
theorem lY.rep{w:World}{M:Nat->Prop}{G:Gh}{x:KV U}{y:PV}(hc:lY nH x y){v:Value}(h1:bf w M G x.pv v):bf w M G y v:=by
 cases hc with
 |dF=>rw[KV.pv]at h1;rw[h1.mB];exact .slnil
 |own _ _ _ _ hn=>cases hn
 |_=>simpa[KV.pv]using h1
theorem gU.len{lk:Lk U}{xs:List (KV U)}{ys:List PV}(h:gU lk xs ys):xs.length=ys.length:=by
 induction h with
 |nil=>rfl
 |cons _ _ ih=>rw[QE,QE,ih]
theorem gU.get{lk:Lk U}{xs:List (KV U)}{ys:List PV}(h:gU lk xs ys):∀{i:Nat} {x:KV U} {y:PV},xs[i]?=some x->ys[i]?=some y->lY lk x y:=by
 induction h with
 |nil=>intro i x y h;simp at h
 |cons hc _ ih=>
  intro i x y hx hy
  cases i with
  |zero=>simp only[List.getElem?_cons_zero,Qf]at hx hy;subst hx hy;exact hc
  |succ i=>exact ih (by simpa using hx) (by simpa using hy)
theorem aaK{w:World}{M:Nat->Prop}{G:Gh}{T:U.Ty}{x:KV U}{d:U.den T}{v:Value}(h:xc K nH T x=some d)(r:bf w M G x.pv v):bf w M G (dn T d) v:=by
 unfold xc at h;unfold dn;split at h
 ·split at h
  ·rename_i cs;rw[KV.pv,KV.ct]at r;obtain⟨vs,rfl,hr⟩:=r.nu;have:=(K.lO _ _ _ _ h).rep hr;exact .agg _ _ this.1 this.2
  ·cases h
 ·rename_i ha;have hc:=K.lO _ _ _ _ h;have h1:bg w M G ([x].map KV.pv) [v]:= .cons r .nil;have h2:=hc.rep h1;generalize U.pv T d=ys at h2;obtain⟨hl,h2⟩:=h2
  cases ys with
  |nil=>simp at hl
  |cons y l=>exact h2 0 y v rfl rfl
theorem Rel.meet{S0 S1:aX U}{J:JS U}{F:List Nat}{W:WS}(hchk:tt S0 J F W=true){v:rn J.items}(hp:pack K S1 J.items=some v)
  (hk:∀t∈J.ew,S1.env t=S0.env t) (hH:∀id,id<S0.N->id∉eZ J.items->S1.H id=S0.H id) (hN:S0.N<=S1.N)
  {E:En} {a:Act} {w:World} {L:Nat->Value} (h:Rel E S1.st a w L):Rel E (unpack K S0 J v).st a w L:=by
 simp only[tt,Qm,QH]at hchk;obtain⟨⟨⟨⟨⟨⟨hnd,hids⟩,hokv,hokm⟩,hkeep⟩,hobj⟩,hF⟩,hW⟩:=hchk;have hpk:=N5 hp;have hN':(unpack K S0 J v).N=S0.N:=by rw[unpack,Ef,Pg]
 have hlt:∀id∈eZ J.items,id<S0.N:=fun id hid=>QG (hids id hid).1
 have hHc:∀id,(∃p∈xq J.items v,p.1.id=some id/\(unpack K S0 J v).H id=Ro (K:=K) p.1 p.2)\/(id∉eZ J.items/\(unpack K S0 J v).H id=if id<S0.N then S0.H id else⟨0,.dead⟩):=by
  intro id;rcases Eg (K:=K) (S0.base J.ew) J.items v id hnd with h1|⟨h1,h2⟩
  ·exact .inl h1
  ·exact .inr ⟨h1,h2.trans Ph⟩
 have hrow:∀t id ar e k T (xs:List (U.den T)),(⟨.own t id ar e k T,xs⟩:Sigma (It.den (U:=U)))∈xq J.items v->S1.env t= .own id (S1.H id).ar/\(S1.H id).c= .row e k T xs/\(ar=0->(S1.H id).ar=0):=by
  intro t id ar e k T xs hmem;have:=hpk _ hmem;simp only[Yv]at this;split at this
  ·rename_i id' v' he;split at this
   ·rename_i hid;have hid:=QF hid;subst hid;split at this
    ·rename_i r hr;obtain⟨h1,h2⟩:=CJ hr;split at this
     ·rename_i hek;rw[Qm,Qm,Qn]at hek;obtain⟨re,rk,rT,rxs⟩:=r;obtain⟨eT,hxs⟩:=nh this;simp only at eT hxs h2 hek;subst eT;refine⟨by rw[he,h1],by rw[h2,hxs,QF hek.1.1,QF hek.1.2],fun hz=> ?_⟩
      rcases hek.2 with h9|h9
      ·rw[hz]at h9;cases h9
      ·rw[h1];exact QF h9
     ·cases this
    ·cases this
   ·cases this
  ·cases this
 have hbox:∀id ar T m (d:U.den T),(⟨.box id ar T m,d⟩:Sigma (It.den (U:=U)))∈xq J.items v->(S1.H id).ar=ar/\∃cs,(S1.H id).c= .box cs/\Ib S1 cs m=true/\gU nH (Br m cs) (U.pv T d):=by
  intro id ar T m d hmem;have:=hpk _ hmem;simp only[Yv]at this;split at this
  ·rename_i cs hcs;obtain⟨h1,h2⟩:=Ac hcs;split at this
   ·rename_i hmk;exact⟨h1,cs,h2,hmk,K.lO _ _ _ _ this⟩
   ·cases this
  ·cases this
 have hrowb:∀id ar e k T (xs:List (U.den T)),(⟨.dQ id ar e k T,xs⟩:Sigma (It.den (U:=U)))∈xq J.items v->(S1.H id).c= .row e k T xs/\(ar=0->(S1.H id).ar=0):=by
  intro id ar e k T xs hmem;have:=hpk _ hmem;simp only[Yv]at this;split at this
  ·rename_i e' k' T' ys hc;split at this
   ·rename_i hek;rw[Qm,Qm,Qn]at hek;obtain⟨eT,hxs⟩:=nh this;subst eT;refine⟨by rw[hc,hxs,QF hek.1.1,QF hek.1.2],fun hz=> ?_⟩
    rcases hek.2 with h9|h9
    ·rw[hz]at h9;cases h9
    ·exact QF h9
   ·cases this
  ·cases this
 have hlive:∀id,id<S0.N->((unpack K S0 J v).st.H id).c.live=true->(S1.st.H id).c.live=true:=by
  intro id hid hl;rcases hHc id with⟨⟨i,d⟩,hmem,h1,h2⟩|⟨h1,h2⟩
  ·cases i with
   |val t T=>cases h1
   |own t id' ar e k T=>
    simp only[It.id,Qf]at h1;subst h1;have:=(hrow _ _ _ _ _ _ _ hmem).2.1;simp only[aX.st,c8.pv,this,dK.pv];rfl
   |box id' ar T m=>
    simp only[It.id,Qf]at h1;subst h1;obtain⟨_,cs,h3,_,_⟩:=hbox _ _ _ _ _ hmem;simp only[aX.st,c8.pv,h3,dK.pv];rfl
   |dQ id' ar e k T=>
    simp only[It.id,Qf]at h1;subst h1;have:=(hrowb _ _ _ _ _ _ hmem).1;simp only[aX.st,c8.pv,this,dK.pv];rfl
  ·rw[Qr hid]at h2;simp only[aX.st]at hl ⊢;rw[h2,<-hH id hid h1]at hl;exact hl
 have hM:∀b,bp E (unpack K S0 J v).st L b->bp E S1.st L b:=by
  rintro b (⟨id,hid,hl,hb⟩|hb)
  ·have hid':id<S0.N:=by simpa only[aX.st,hN']using hid
   exact .inl ⟨id,QJ hid' hN,hlive id hid' hl,hb⟩
  ·exact .inr hb
 have hpok:∀id,(Nat.blt id S0.N&& !hZ id (rowsOf J.items))=true->id<((unpack K S0 J v).st.gh L).N/\((unpack K S0 J v).st.gh L).V id=(S1.st.gh L).V id/\((unpack K S0 J v).st.gh L).L id=(S1.st.gh L).L id:=by
  intro id hid;simp only[Qm,Bool.not_eq_true']at hid;have hid1:id<S0.N:=QG hid.1;refine⟨by simpa only[St.gh,aX.st,hN']using hid1,?_,rfl⟩
  simp only[St.gh,aX.st,c8.pv];rcases hHc id with⟨⟨i,d⟩,hmem,h1,h2⟩|⟨h1,h2⟩
  ·cases i with
   |val t T=>cases h1
   |own t id' ar e k T=>
    simp only[It.id,Qf]at h1;subst h1
    cases ar with
    |zero=>
     rw[h2];exact((hrow _ _ _ _ _ _ _ hmem).2.2 rfl).symm
    |succ n=>exact absurd (Mh (kv hmem) rfl) (pw hid.2)
   |box id' ar T m=>
    simp only[It.id,Qf]at h1;subst h1;rw[h2];exact(hbox _ _ _ _ _ hmem).1.symm
   |dQ id' ar e k T=>
    simp only[It.id,Qf]at h1;subst h1
    cases ar with
    |zero=>
     rw[h2];exact((hrowb _ _ _ _ _ _ hmem).2 rfl).symm
    |succ n=>exact absurd (Mh (kv hmem) rfl) (pw hid.2)
  ·rw[Qr hid1]at h2;rw[h2,hH id hid1 h1]
 refine⟨h.defers,h.size,fun t=> ?_,fun id hid=> ?_,fun i j b hi hj hli hlj hbi hbj=> ?_,fun id hid=> ?_,h.fr,fun hb hlv hvr=> ?_⟩
 ·show bf _ _ _ (((unpack K S0 J v).env t).pv) _;rcases zL (K:=K) (S0.base J.ew) J.items v t with⟨⟨i,d⟩,hmem,h1,h2⟩|⟨_,h2⟩
  ·rw[show(unpack K S0 J v).env t=_ from h2]
   cases i with
   |val t' T=>
    simp only[It.bq,Qf]at h1;subst h1;simp only[kvI,wM];have h3:=hpk _ hmem;simp only[Yv]at h3;have h4:=aaK h3 (h.env t')
    have hg:(dn T d).mL (fun _=>false)=true:=by
     have:=Af K d;have h5:=Gm K d
     cases hv:dn T d with
     |agg cs=>
      simp only[PV.mL];refine QH.2 fun y hy=> ?_
      cases ha:U.agg T with
      |true=>
       rw[wL d ha]at hv;injection hv with hv
       rw[<-hv]at hy;have:=K.gn T d y hy;cases y<;>first|rfl|cases this
      |false=>obtain⟨y0,h6,h7⟩:=tP K d ha;have h8:=K.gn T d y0 h7;rw[<-h6,hv]at h8;cases h8
     |dP cs=>exact absurd hv (h5 cs)
     |bH f cs=>
      exfalso
      cases ha:U.agg T with
      |true=>rw[wL d ha]at hv;cases hv
      |false=>obtain⟨y,h6,h7⟩:=tP K d ha;have h8:=K.gn T d y h7;rw[<-h6,hv]at h8;cases h8
     |_=>rw[hv]at this;first|rfl|cases this
    exact h4.mL hg hM (fun id hid=>by cases hid)
   |own t' id ar e k T=>
    simp only[It.bq,Qf]at h1;subst h1;obtain⟨h3,h4,_⟩:=hrow _ _ _ _ _ _ _ hmem;have h5:=h.env t';have h6:S1.st.env t'= .own id (S1.st.H id).ar:=by simp only[aX.st,h3,KV.pv,c8.pv]
    rw[h6]at h5;obtain⟨h7,h8⟩:=h5.ma (show(S1.st.gh L).V id=_ from rfl)
    have hidlt:=hlt id (ub (kv hmem) rfl);have h9:=H3 (K:=K) (S0.base J.ew) J.items v hnd _ hmem id rfl;simp only[kvI,KV.pv]
    have hsl:∃ad n c,a.tmps.getD t' undef= .slice ad n c:=by
     generalize a.tmps.getD t' undef=vv at h5
     cases h5 with
     |own _ _ ad n c _ _ _=>exact⟨ad,n,c,rfl⟩
    obtain⟨ad,n,c,hv⟩:=hsl;rw[hv]at h8 ⊢;refine .own _ _ _ _ _ (by simpa only[St.gh,aX.st,hN']using hidlt) ?_ (fun _=>h8)
    simp only[St.gh,aX.st,c8.pv,show(unpack K S0 J v).H id=_ from h9,Ro]
    exact QI _
   |box id ar T m=>cases h1
   |dQ id ar e k T=>cases h1
  ·rw[show(unpack K S0 J v).env t=_ from h2,Ga]
   split
   ·rename_i ht;have h3:=(hkeep t ht).1;rw[<-Vz]at h3;refine bf.mL h3 hM hpok ?_;have:=h.env t;simp only[aX.st,hk t ht]at this;exact this
   ·exact .any _
 ·have hid':id<S0.N:=by simpa only[aX.st,hN']using hid
  show vK _ _ _ _ _ (((unpack K S0 J v).H id).c.pv);rcases hHc id with⟨⟨i,d⟩,hmem,h1,h2⟩|⟨h1,h2⟩
  ·rw[h2]
   cases i with
   |val t T=>cases h1
   |own t id' ar e k T=>
    simp only[It.id,Qf]at h1;subst h1;have h3:=(hrow _ _ _ _ _ _ _ hmem).2.1;have h4:(S1.st.H id').c= .row e k (d.map (U.pv T)):=by simp only[aX.st,c8.pv,h3,dK.pv]
    obtain⟨vs,h5,h6,h7⟩:=h.jw (QJ hid' hN) h4;refine⟨vs,h5,h6,bg.closed ?_ hM h7⟩;refine QH.2 fun y hy=> ?_
    obtain⟨u,hu,hyu⟩:=List.mem_flatten.1 hy;obtain⟨x,_,rfl⟩:=QP.1 hu;exact gd (K.gn T x y hyu)
   |box id' ar T m=>
    simp only[It.id,Qf]at h1;subst h1;obtain⟨_,cs,h3,hmk,hcs⟩:=hbox _ _ _ _ _ hmem;have h4:(S1.st.H id').c= .box (cs.map KV.pv):=by simp only[aX.st,c8.pv,h3,dK.pv]
    obtain⟨b,cur,T',h5,h6,h7,h8⟩:=h.rN (QJ hid' hN) h4;refine⟨b,cur,T',h5,h6,h8,?_,fun i y u hy hu=> ?_⟩
    ·have e1:=congrArg List.length (K.qn T d);rw[QC]at e1;rw[QC,NW,e1,<-hcs.len,EX,h7.1,QC]
    ·rw[QT,Qb]at hy;obtain⟨z,hz,rfl⟩:=hy;rcases NX _ m hz with⟨rid,rver,hmm,rfl⟩|⟨hnm,hz⟩
     ·have hci:=Oj hmk hmm;have h9:=h7.2 i _ u (by rw[QT,hci];rfl) hu
      rw[KV.pv]at h9;obtain⟨h10,h11⟩:=h9.ma (show(S1.st.gh L).V rid=_ from rfl)
      have hmi:(It.box id' ar T m)∈J.items:=kv hmem;obtain⟨e,k,T2,hrm⟩:=OT (QH.1 (hokm _ hmi) _ hmm);have hridlt:=hlt rid (ub hrm rfl)
      have hsl:∃ad n c,u= .slice ad n c:=by
       cases h9 with
       |own _ _ ad n c _ _ _=>exact⟨ad,n,c,rfl⟩
      obtain⟨ad,n,c,hv⟩:=hsl;rw[hv]at h11 ⊢;rw[KV.pv];refine .own _ _ _ _ _ (by simpa only[St.gh,aX.st,hN']using hridlt) ?_ (fun _=>h11)
      obtain⟨d2,hd2⟩:=VK (v:=v) hrm;have h12:=H3 (K:=K) (S0.base J.ew) J.items v hnd _ hd2 rid rfl;simp only[St.gh,aX.st,c8.pv,show(unpack K S0 J v).H rid=_ from h12,Ro]
      exact QI _
     ·have hzp:(U.pv T d)[i]?=some z.pv:=by rw[<-K.qn,QT,hz];rfl
      have hil:i<cs.length:=by
       have:=(Qw.1 hzp).1;rw[<-hcs.len,EX]at this;exact this
      have hci:cs[i]?=some cs[i]:=Qv hil;have hck:=hcs.get (by rw[MY m cs hnm];exact hci) hzp
      have h9:=h7.2 i _ u (by rw[QT,hci];rfl) hu
      exact(hck.rep h9).closed (gd (K.gn T d _ (List.mem_of_getElem? hzp))) hM
   |dQ id' ar e k T=>
    simp only[It.id,Qf]at h1;subst h1;have h3:=(hrowb _ _ _ _ _ _ hmem).1;have h4:(S1.st.H id').c= .row e k (d.map (U.pv T)):=by simp only[aX.st,c8.pv,h3,dK.pv]
    obtain⟨vs,h5,h6,h7⟩:=h.jw (QJ hid' hN) h4;refine⟨vs,h5,h6,bg.closed ?_ hM h7⟩;refine QH.2 fun y hy=> ?_
    obtain⟨u,hu,hyu⟩:=List.mem_flatten.1 hy;obtain⟨x,_,rfl⟩:=QP.1 hu;exact gd (K.gn T x y hyu)
  ·rw[h2,Qr hid',<-hH id hid' h1];have ho:=h.obj id (QJ hid' hN);have hc:=Pm hobj id hid';rw[Qn]at hc;have hc:=hc.resolve_left (fun e=>h1 (eo.1 e))
   rw[<-hH id hid' h1]at hc
   change vK _ _ _ _ _ ((S1.H id).c.pv)at ho
   cases hcc:(S1.H id).c with
   |dead=>trivial
   |box cs=>
    rw[hcc]at ho hc;obtain⟨b,cur,T',h5,h6,h7,h8⟩:=ho;refine⟨b,cur,T',h5,h6,h7,h8.1,fun i y u hy hu=> ?_⟩
    simp only[dK.mL,QH]at hc;rw[QT,Qb]at hy;obtain⟨z,hz,rfl⟩:=hy;refine bf.mL (by rw[Vz];exact hc z (List.mem_of_getElem? hz)) hM hpok (h8.2 i z.pv u (by rw[QT,hz];rfl) hu)
   |raw e k es=>
    rw[hcc]at ho hc;obtain⟨vs,h5,h6,h7⟩:=ho;refine⟨vs,h5,h6,h7.1,fun i y u hy hu=> ?_⟩
    simp only[dK.mL,QH]at hc;obtain⟨l,hl,hyl⟩:=List.mem_flatten.1 (List.mem_of_getElem? hy);obtain⟨c,hcm,rfl⟩:=QP.1 hl;obtain⟨z,hz,rfl⟩:=QP.1 hyl;exact bf.mL (by rw[Vz];exact hc c hcm z hz) hM hpok (h7.2 i _ u hy hu)
   |row e k T xs=>
    rw[hcc]at ho;obtain⟨vs,h5,h6,h7⟩:=ho;refine⟨vs,h5,h6,bg.closed ?_ hM h7⟩;refine QH.2 fun y hy=> ?_
    obtain⟨u,hu,hyu⟩:=List.mem_flatten.1 hy;obtain⟨x,_,rfl⟩:=QP.1 hu;exact gd (K.gn T x y hyu)
 ·have hi':i<S0.N:=by simpa only[aX.st,hN']using hi
  have hj':j<S0.N:=by simpa only[aX.st,hN']using hj
  exact h.apart i j b (QJ hi' hN) (QJ hj' hN) (hlive i hi' hli) (hlive j hj' hlj) hbi hbj
 ·have hid':S0.N<=id:=by simpa only[aX.st,hN']using hid
  rcases hHc id with⟨⟨i,d⟩,hmem,h1,h2⟩|⟨h1,h2⟩
  ·have:=hlt id (ub (kv hmem) h1);omega
  ·rw[Qs (by omega)]at h2
   simp only[aX.st,h2,c8.pv,dK.pv]
 ·by_cases h0:0<S0.N
  ·refine h.xi hb (hlive 0 h0 hlv) ?_;simp only[aX.st,c8.pv]at hvr ⊢;rcases hHc 0 with⟨⟨i,d⟩,hmem,h1,h2⟩|⟨h1,h2⟩
   ·rw[h2]at hvr
    cases i with
    |val t T=>cases h1
    |own t id' ar e k T=>
     simp only[It.id,Qf]at h1;subst h1;exact(hrow _ _ _ _ _ _ _ hmem).2.2 hvr
    |box id' ar T m=>
     simp only[It.id,Qf]at h1;subst h1;rw[(hbox _ _ _ _ _ hmem).1];exact hvr
    |dQ id' ar e k T=>
     simp only[It.id,Qf]at h1;subst h1;exact(hrowb _ _ _ _ _ _ hmem).2 hvr
   ·rw[Qr h0]at h2;rw[hH 0 h0 h1,<-h2];exact hvr
  ·rcases hHc 0 with⟨⟨i,d⟩,hmem,h1,h2⟩|⟨h1,h2⟩
   ·exact absurd (hlt 0 (ub (kv hmem) h1)) h0
   ·rw[Qs h0]at h2;simp only[aX.st,c8.pv,h2,dK.pv]at hlv;cases hlv
end
end Go.TQ
end
