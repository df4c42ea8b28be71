/-
  Texts made small by a program (see NOTES). Conditions: those that each theorem names.
-/
import Derived.Test.YtkgenianmdfmdaaGreatMachineAgreeMa
import Derived.RangeFuncRecord
set_option linter.unusedVariables false
set_option linter.unusedSimpArgs false
set_option linter.unusedSectionVars false
set_option maxHeartbeats 2000000
noncomputable section
namespace Go.TQ
open Go.RowKit
def ay(P:Program)(nt:Nat)(hs:List Nat):Code->Option SC
 | .skip=>some .skip
 | .region _ ops false=>
  match ops.toList.mapM (pt P hs ops)with
  |some gs=>if ops.toList.all (fun o=>match o.dst with|some t=>decide (t<nt)|none=>true)then some (.pf gs)else none
  |none=>none
 | .region _ ops true=>
  match ops.toList.mapM (pt P hs ops)with
  |some gs=>
   if ops.toList.all (fun o=>match o.dst with|some t=>decide (t<nt)|none=>true)&&P.follows .mixedOrders then
    match Oq ops.toList gs with
    |some un=>some (.nT un gs)
    |none=>none
   else none
  |none=>none
 | .seq x y=>
  match ay P nt hs x,ay P nt hs y with
  |some x',some y'=>some (.seq x' y')
  |_,_=>none
 | .cond c x y=>
  match aT c,ay P nt hs x,ay P nt hs y with
  |some c',some x',some y'=>some (.cond c' x' y')
  |_,_,_=>none
 | .block id c=>(ay P nt hs c).map (.block id)
 | .loop c=>(ay P nt hs c).map .loop
 | .exit id=>some (.exit id)
 | .ret=>some .ret
 | .rangeFunc g ps x y=>
  match aT g,ay P nt hs x,ay P nt hs y with
  |some g',some x',some y'=>if uv x&&uv y&&ps.toList.all (fun t=>decide (t<nt))then some (.yk g' ps.toList x' y')else none
  |_,_,_=>none
 |_=>none
section
variable {P : Program} {S : St} {Γ : kL} {nt : Nat} {Q : Exit -> St -> Prop}
def VS(P:Program)(nt:Nat)(sc:SC)(Q:Exit->St->Prop)(S:St):Prop:=∀c hs,ay P nt hs c=some sc->V P nt c Q S
theorem VS.mono{sc:SC}{Q':Exit->St->Prop}(h:VS P nt sc Q S)(hq:∀e S,Q e S->Q' e S):VS P nt sc Q' S:=fun c hs hc=>(h c hs hc).mono hq
theorem GD{ops:Array Oper}(h:ops.toList.all (fun o=>match o.dst with|some t=>decide (t<nt)|none=>true)=true):∀o∈ops.toList,∀t,o.dst=some t->t<nt:=by
 intro o ho t ht;have:=QH.1 h o ho;rw[ht]at this;simpa using this
theorem Na(h:Q .normal S):VS P nt .skip Q S:=by
 intro c hs hc
 cases c with
 |skip=>exact VP h
 |region id ops d=>cases d<;>simp only[ay]at hc<;>(try split at hc)<;>(try split at hc)<;>(try split at hc)<;>cases hc
 |seq x y=>simp only[ay]at hc;split at hc<;>cases hc
 |cond c x y=>simp only[ay]at hc;split at hc<;>cases hc
 |block id c=>simp only[ay,Qb]at hc;obtain⟨_,_,hc⟩:=hc;cases hc
 |loop c=>simp only[ay,Qb]at hc;obtain⟨_,_,hc⟩:=hc;cases hc
 |rangeFunc g ps x y=>simp only[ay]at hc;split at hc<;>(try split at hc)<;>cases hc
 |_=>simp only[ay]at hc<;>cases hc
theorem Nb{id:Nat}(h:Q (.exit id) S):VS P nt (.exit id) Q S:=by
 intro c hs hc
 cases c with
 |exit j=>simp only[ay,Qf,SC.exit.injEq]at hc;subst hc;exact VR h
 |region id ops d=>cases d<;>simp only[ay]at hc<;>(try split at hc)<;>(try split at hc)<;>(try split at hc)<;>cases hc
 |seq x y=>simp only[ay]at hc;split at hc<;>cases hc
 |cond c x y=>simp only[ay]at hc;split at hc<;>cases hc
 |block id c=>simp only[ay,Qb]at hc;obtain⟨_,_,hc⟩:=hc;cases hc
 |loop c=>simp only[ay,Qb]at hc;obtain⟨_,_,hc⟩:=hc;cases hc
 |rangeFunc g ps x y=>simp only[ay]at hc;split at hc<;>(try split at hc)<;>cases hc
 |_=>simp only[ay]at hc<;>cases hc
theorem Rl(h:Q .ret S):VS P nt .ret Q S:=by
 intro c hs hc
 cases c with
 |ret=>exact WQ h
 |region id ops d=>cases d<;>simp only[ay]at hc<;>(try split at hc)<;>(try split at hc)<;>(try split at hc)<;>cases hc
 |seq x y=>simp only[ay]at hc;split at hc<;>cases hc
 |cond c x y=>simp only[ay]at hc;split at hc<;>cases hc
 |block id c=>simp only[ay,Qb]at hc;obtain⟨_,_,hc⟩:=hc;cases hc
 |loop c=>simp only[ay,Qb]at hc;obtain⟨_,_,hc⟩:=hc;cases hc
 |rangeFunc g ps x y=>simp only[ay]at hc;split at hc<;>(try split at hc)<;>cases hc
 |_=>simp only[ay]at hc<;>cases hc
theorem Lx{x y:SC}(h:VS P nt x (Hc (VS P nt y Q) Q) S):VS P nt (.seq x y) Q S:=by
 intro c hs hc
 cases c with
 |seq p q=>
  simp only[ay]at hc;split at hc
  ·rename_i x' y' hx hy;injection hc with hc
   injection hc with h1 h2
   subst h1 h2;refine WO ((h p hs hx).mono ?_);intro e S' hq;cases e<;>first|exact hq q hs hy|exact hq
  ·cases hc
 |region id ops d=>cases d<;>simp only[ay]at hc<;>(try split at hc)<;>(try split at hc)<;>(try split at hc)<;>cases hc
 |cond c x y=>simp only[ay]at hc;split at hc<;>cases hc
 |block id c=>simp only[ay,Qb]at hc;obtain⟨_,_,hc⟩:=hc;cases hc
 |loop c=>simp only[ay,Qb]at hc;obtain⟨_,_,hc⟩:=hc;cases hc
 |rangeFunc g ps x y=>simp only[ay]at hc;split at hc<;>(try split at hc)<;>cases hc
 |_=>simp only[ay]at hc<;>cases hc
theorem Nc{c:aP}{x y:SC}{b:Bool}(hb:c.val S= .bool b)(h:VS P nt (if b then x else y) Q S):VS P nt (.cond c x y) Q S:=by
 intro cc hs hc
 cases cc with
 |cond c0 p q=>
  simp only[ay]at hc;split at hc
  ·rename_i c' x' y' hc' hx hy;injection hc with hc
   injection hc with h1 h2 h3
   subst h1 h2 h3;refine VT hc' hb ?_;cases b
   ·exact h q hs hy
   ·exact h p hs hx
  ·cases hc
 |region id ops d=>cases d<;>simp only[ay]at hc<;>(try split at hc)<;>(try split at hc)<;>(try split at hc)<;>cases hc
 |seq x y=>simp only[ay]at hc;split at hc<;>cases hc
 |block id c=>simp only[ay,Qb]at hc;obtain⟨_,_,hc⟩:=hc;cases hc
 |loop c=>simp only[ay,Qb]at hc;obtain⟨_,_,hc⟩:=hc;cases hc
 |rangeFunc g ps x y=>simp only[ay]at hc;split at hc<;>(try split at hc)<;>cases hc
 |_=>simp only[ay]at hc<;>cases hc
theorem LA{c:aP}{x y:SC}(hb:c.val S= .eL)(h1:VS P nt x Q S)(h2:VS P nt y Q S):VS P nt (.cond c x y) Q S:=by
 intro cc hs hc
 cases cc with
 |cond c0 p q=>
  simp only[ay]at hc;split at hc
  ·rename_i c' x' y' hc' hx hy;injection hc with hc
   injection hc with e1 e2 e3
   subst e1 e2 e3;intro E hE hk a w L hr;have hv:=hr.fD hc';rw[hb]at hv;generalize hu:a.eval c0=u at hv
   cases hv with
   |eL b=>
    refine wpIn_cond hu ?_;cases b
    ·exact h2 q hs hy E hE hk.Tp a w L hr
    ·exact h1 p hs hx E hE hk.Tq a w L hr
  ·cases hc
 |region id ops d=>cases d<;>simp only[ay]at hc<;>(try split at hc)<;>(try split at hc)<;>(try split at hc)<;>cases hc
 |seq x y=>simp only[ay]at hc;split at hc<;>cases hc
 |block id c=>simp only[ay,Qb]at hc;obtain⟨_,_,hc⟩:=hc;cases hc
 |loop c=>simp only[ay,Qb]at hc;obtain⟨_,_,hc⟩:=hc;cases hc
 |rangeFunc g ps x y=>simp only[ay]at hc;split at hc<;>(try split at hc)<;>cases hc
 |_=>simp only[ay]at hc<;>cases hc
theorem LB{id:Nat}{x:SC}(h:VS P nt x (yK id Q) S):VS P nt (.block id x) Q S:=by
 intro c hs hc
 cases c with
 |block j p=>
  simp only[ay,Qb]at hc;obtain⟨x',hx,hc⟩:=hc;injection hc with h1 h2
  subst h1 h2;exact UX (h p hs hx)
 |region id ops d=>cases d<;>simp only[ay]at hc<;>(try split at hc)<;>(try split at hc)<;>(try split at hc)<;>cases hc
 |seq x y=>simp only[ay]at hc;split at hc<;>cases hc
 |cond c x y=>simp only[ay]at hc;split at hc<;>cases hc
 |loop c=>simp only[ay,Qb]at hc;obtain⟨_,_,hc⟩:=hc;cases hc
 |rangeFunc g ps x y=>simp only[ay]at hc;split at hc<;>(try split at hc)<;>cases hc
 |_=>simp only[ay]at hc<;>cases hc
theorem X3{x:SC}(ts:List Nat)(n:Nat)(I:Nat->St->Prop)(m0:Nat)(hok:xk S ts n)(h0:I m0 (S.cut ts n))
  (hr:∀m S,I m S->S.N=n->(∀id,n<=id->S.H id=⟨0,.dead⟩)->(∀id,id<n->(S.H id).c.under n=true)->VS P nt x (NQ ts n I m Q) S):VS P nt (.loop x) Q S:=by
 intro c hs hc
 cases c with
 |loop p=>
  simp only[ay,Qb]at hc;obtain⟨x',hx,hc⟩:=hc;injection hc with h1
  subst h1;exact VQ ts n I m0 hok h0 (fun m S hI hN hf hU=>hr m S hI hN hf hU p hs hx)
 |region id ops d=>cases d<;>simp only[ay]at hc<;>(try split at hc)<;>(try split at hc)<;>(try split at hc)<;>cases hc
 |seq x y=>simp only[ay]at hc;split at hc<;>cases hc
 |cond c x y=>simp only[ay]at hc;split at hc<;>cases hc
 |block id c=>simp only[ay,Qb]at hc;obtain⟨_,_,hc⟩:=hc;cases hc
 |rangeFunc g ps x y=>simp only[ay]at hc;split at hc<;>(try split at hc)<;>cases hc
 |_=>simp only[ay]at hc<;>cases hc
theorem VV(hΓ:iG P Γ){gs:List SG}{S':St}(hr:rQ Γ S.N gs {S with N:=S.N+gs.length}=some S')(h:Q .normal S'):VS P nt (.pf gs) Q S:=by
 intro c hs hc
 cases c with
 |region id ops d=>
  cases d with
  |true=>simp only[ay]at hc;(try split at hc)<;>(try split at hc)<;>(try split at hc)<;>cases hc
  |false=>
   simp only[ay]at hc;split at hc
   ·rename_i gs' hgs;split at hc
    ·rename_i hd;injection hc with hc
     injection hc with hc
     subst hc;exact WR hΓ hgs (GD hd) hr h
    ·cases hc
   ·cases hc
 |seq x y=>simp only[ay]at hc;split at hc<;>cases hc
 |cond c x y=>simp only[ay]at hc;split at hc<;>cases hc
 |block id c=>simp only[ay,Qb]at hc;obtain⟨_,_,hc⟩:=hc;cases hc
 |loop c=>simp only[ay,Qb]at hc;obtain⟨_,_,hc⟩:=hc;cases hc
 |rangeFunc g ps x y=>simp only[ay]at hc;split at hc<;>(try split at hc)<;>cases hc
 |_=>simp only[ay]at hc<;>cases hc
theorem Rm{Γs:Nat->kL}(hΓ:∀i,iG P (Γs i)){un:List (Nat×Nat)}{gs:List SG}{S':St}(hr:Hq Γs S.N un gs {S with N:=S.N+gs.length}=some S')(h:Q .normal S'):VS P nt (.nT un gs) Q S:=by
 intro c hs hc
 cases c with
 |region id ops d=>
  cases d with
  |false=>simp only[ay]at hc;(try split at hc)<;>(try split at hc)<;>(try split at hc)<;>cases hc
  |true=>
   simp only[ay]at hc;split at hc
   ·rename_i gs' hgs;split at hc
    ·rename_i hd;split at hc
     ·rename_i un' hun;injection hc with hc
      injection hc with h1 h2
      subst h1 h2;rw[Qm]at hd;exact WT hΓ hd.2 hgs (GD hd.1) hun hr h
     ·cases hc
    ·cases hc
   ·cases hc
 |seq x y=>simp only[ay]at hc;split at hc<;>cases hc
 |cond c x y=>simp only[ay]at hc;split at hc<;>cases hc
 |block id c=>simp only[ay,Qb]at hc;obtain⟨_,_,hc⟩:=hc;cases hc
 |loop c=>simp only[ay,Qb]at hc;obtain⟨_,_,hc⟩:=hc;cases hc
 |rangeFunc g ps x y=>simp only[ay]at hc;split at hc<;>(try split at hc)<;>cases hc
 |_=>simp only[ay]at hc<;>cases hc
theorem Yb{sc:SC}(ts:List Nat)(n:Nat)(hok:xk S ts n)(h:VS P nt sc Q (S.cut ts n)):VS P nt sc Q S:=fun c hs hc=>WU ts n hok (h c hs hc)
def ev(P:Program)(nt:Nat)(Γ:kL):SC->(Exit->St->Prop)->St->Prop
 | .skip,Q,S=>Q .normal S
 | .pf gs,Q,S=>match rQ Γ S.N gs {S with N:=S.N+gs.length}with|some S'=>Q .normal S'|none=>False
 | .nT un gs,Q,S=>match Hq (fun _=>Γ) S.N un gs {S with N:=S.N+gs.length}with|some S'=>Q .normal S'|none=>False
 | .seq x y,Q,S=>ev P nt Γ x (Hc (ev P nt Γ y Q) Q) S
 | .cond c x y,Q,S=>match c.val S with| .bool b=>(b=true->ev P nt Γ x Q S)/\(b=false->ev P nt Γ y Q S)| .eL=>ev P nt Γ x Q S/\ev P nt Γ y Q S|_=>False
 | .block id c,Q,S=>ev P nt Γ c (yK id Q) S
 | .loop c,Q,S=>VS P nt (.loop c) Q S
 | .yk g ps x y,Q,S=>VS P nt (.yk g ps x y) Q S
 | .exit id,Q,S=>Q (.exit id) S
 | .ret,Q,S=>Q .ret S
theorem qL(hΓ:iG P Γ):∀(sc:SC) (Q:Exit->St->Prop) (S:St),ev P nt Γ sc Q S->VS P nt sc Q S
 | .skip,Q,S,h=>Na h
 | .pf gs,Q,S,h=>by
  simp only[ev]at h;split at h
  ·rename_i S' hr;exact VV hΓ hr h
  ·exact h.elim
 | .nT un gs,Q,S,h=>by
  simp only[ev]at h;split at h
  ·rename_i S' hr;exact Rm (fun _=>hΓ) hr h
  ·exact h.elim
 | .seq x y,Q,S,h=>Lx ((qL hΓ x _ S h).mono fun e S' hq=>by cases e<;>first|exact qL hΓ y Q S' hq|exact hq)
 | .cond c x y,Q,S,h=>by
  simp only[ev]at h;split at h
  ·rename_i b hb;refine Nc hb ?_;cases b
   ·exact qL hΓ y Q S (h.2 rfl)
   ·exact qL hΓ x Q S (h.1 rfl)
  ·rename_i hb;exact LA hb (qL hΓ x Q S h.1) (qL hΓ y Q S h.2)
  ·exact h.elim
 | .block id c,Q,S,h=>LB (qL hΓ c _ S h)
 | .loop c,Q,S,h=>h
 | .yk g ps x y,Q,S,h=>h
 | .exit id,Q,S,h=>Nb h
 | .ret,Q,S,h=>Rl h
inductive RV where
 |tmp (t:Nat)
 |cell (t:Nat) (n:Option Nat)
def k7(P:Program):List ResultVar->Option (List RV)
 |[]=>some []
 | .tmp t::rs=>(k7 P rs).map (.tmp t::·)
 | .cell t ty::rs=>match nM P ty,k7 P rs with
  |some n,some rs'=>some (.cell t n::rs')
  |_,_=>none
def vJ(S:St):RV->Option PV
 | .tmp t=>some (S.env t)
 | .cell t n=>match S.env t with
  | .ptr id an off=>if(S.H id).an=an then(match(S.H id).c with| .box cs=>nS n (cs.drop off)|_=>none)else none
  |_=>none
def qA(S:St):List RV->Option (List PV)
 |[]=>some []
 |r::rs=>match vJ S r,qA S rs with
  |some x,some xs=>some (x::xs)
  |_,_=>none
def nQ(S:St)(rs:List RV):Option PV:=
 match qA S rs with
 |some [x]=>some x
 |some xs=>some (.c6 xs)
 |none=>none
def cY(pos:Nat)(recv:Bool)(cs args:List PV):St:=
 {env:=fun t=>((fM pos (if recv then[.ptr 0 0 0]else[]) args)[t]?).getD .undef,H:=fun id=>if recv=true/\id=0 then⟨0,.box cs⟩else⟨0,.dead⟩,N:=if recv then 1 else 0}
abbrev Yc:=cY 0
theorem KH{α:Type}(p:Nat)(x l:List α):(fM p x l).length=x.length+l.length:=by
 simp only[fM,QB,List.length_take,List.length_drop];omega
def uX(rs:List RV)(recv:Bool)(R:PV->List PV->Prop)(S:St):Prop:=
 match nQ S rs with
 |some x=>match recv with
  |true=>match S.H 0 with
   |⟨0,.box cs'⟩=>cs'.all PV.closed=true/\R (fz S.H (some 0) 9 x) cs'
   |_=>False
  |false=>R (fz S.H none 9 x) []
 |none=>False
def RC(rs:List RV)(recv:Bool)(R:PV->List PV->Prop):Exit->St->Prop
 | .ret,S=>uX rs recv R S
 | .normal,S=>uX rs recv R S
 |_,_=>False
theorem L6{E:En}{a:Act}{w:World}{L:Nat->Value}(h:Rel E S a w L){rv:ResultVar}{r:RV}{x:PV}(hc:k7 P [rv]=some [r])(hx:vJ S r=some x):
  ∃v,(match rv with| .tmp t=>pure (a.tmps.getD t undef)| .cell ad t=>do loadVar t (<-asAddr (a.tmps.getD ad undef)):Sem Value).run P w= .ok v w/\aL w (aQ E S L) (S.gh L) x v:=by
 cases rv with
 |tmp t=>
  simp only[k7,Qe,Qf,List.cons.injEq,and_true]at hc;subst hc;simp only[vJ,Qf]at hx;subst hx;exact⟨_,rfl,h.env t⟩
 |cell t ty=>
  simp only[k7]at hc;split at hc
  ·rename_i n rs' hn hrs;injection hc with hc
   injection hc with h1 h2
   subst h1 h2;simp only[vJ]at hx;split at hx
   ·rename_i id an off e;split at hx
    ·rename_i hver;split at hx
     ·rename_i cs hcc;have r:=h.env t;rw[e]at r;obtain⟨hN,_⟩:=r.nB (show(S.gh L).V id=an from hver)
      obtain⟨b,hv,hL⟩:=h.oe r hver hcc;obtain⟨b',cur,T,hL',hh,hr,_⟩:=h.nv hN hcc;rw[hL]at hL';simp only[Value.pointer.injEq,Qf,Addr.mk.injEq]at hL';obtain⟨rfl,_⟩:=hL';obtain⟨v,hrun,hx'⟩:=CI (P:=P) (ad:=⟨b,off,none⟩) hn (hr.drop off) (fun i u hu=>by rw[add_mid];exact lE hh (eY hu)) hx
      exact⟨v,by simp[hv,asAddr,hrun],hx'⟩
     ·cases hx
    ·cases hx
   ·cases hx
  ·cases hc
theorem Bw{E:En}{a:Act}{w:World}{L:Nat->Value}(h:Rel E S a w L):∀(rvs:List ResultVar) (rs:List RV) (xs:List PV),k7 P rvs=some rs->qA S rs=some xs->
  ∃vs,(rvs.mapM fun| .tmp t=>pure (a.tmps.getD t undef)| .cell ad t=>do loadVar t (<-asAddr (a.tmps.getD ad undef)):Sem (List Value)).run P w= .ok vs w/\aM w (aQ E S L) (S.gh L) xs vs
 |[],rs,xs,hc,hx=>by
  simp only[k7,Qf]at hc;subst hc;simp only[qA,Qf]at hx;subst hx;exact⟨[],by simp,.nil⟩
 |rv::rvs,rs,xs,hc,hx=>by
  have hsp:∃r rs',rs=r::rs'/\k7 P [rv]=some [r]/\k7 P rvs=some rs':=by
   cases rv with
   |tmp t=>
    simp only[k7,Qb]at hc;obtain⟨rs',h1,rfl⟩:=hc;exact⟨_,rs',rfl,rfl,h1⟩
   |cell t ty=>
    simp only[k7]at hc;split at hc
    ·rename_i n rs' hn hrs;injection hc with hc
     subst hc;exact⟨_,rs',rfl,by simp[k7,hn],hrs⟩
    ·cases hc
  obtain⟨r,rs',rfl,h1,h2⟩:=hsp;simp only[qA]at hx;split at hx
  ·rename_i x xs' hx1 hx2;injection hx with hx
   subst hx;obtain⟨v,hv,hr⟩:=L6 h h1 hx1;obtain⟨vs,hvs,hrs⟩:=Bw h rvs rs' xs' h2 hx2;refine⟨v::vs,?_,.cons hr hrs⟩;simp only[List.mapM_cons,Sem.run_bind]
   erw [hv]
   simp only[Result.andThen_ok]
   erw [hvs]
   rfl
  ·cases hx
theorem tC{E:En}{a:Act}{w:World}{L:Nat->Value}(h:Rel E S a w L){fn:Func}{rs:List RV}{x:PV}(hc:k7 P fn.results.toList=some rs)(hx:nQ S rs=some x):
  ∃v,(results fn a.tmps).run P w= .ok v w/\aL w (aQ E S L) (S.gh L) x v:=by
 unfold nQ at hx
 cases hl:qA S rs with
 |none=>rw[hl]at hx;cases hx
 |some xs=>
  rw[hl]at hx;obtain⟨vs,hvs,hr⟩:=Bw h _ _ _ hc hl
  have hrun:(results fn a.tmps).run P w= .ok (if h:vs.toArray.size=1 then vs.toArray[0]else .tuple vs.toArray) w:=by
   unfold results;rw[Array.mapM_eq_mapM_toList];simp only[Sem.run_bind,map_eq_pure_bind]
   erw [hvs]
   rfl
  refine⟨_,hrun,?_⟩
  match xs,vs,hr,hx with
  |[],vs,hr,hx=>
   injection hx with hx
   subst hx;have:=hr.kv;subst this;exact .c6 _ _ hr.1 hr.2
  |[y],vs,hr,hx=>
   injection hx with hx
   subst hx;obtain⟨v,vs',rfl,h1,h2⟩:=hr.cons_inv;have:=h2.kv;subst this;exact h1
  |y::z::ys,vs,hr,hx=>
   injection hx with hx
   subst hx;obtain⟨v,vs',rfl,h1,h2⟩:=hr.cons_inv;obtain⟨u,us,rfl,h3,h4⟩:=h2.cons_inv;rw[dif_neg (by simp)]
   exact .c6 _ _ hr.1 hr.2
theorem vj{w w':World}(h:w.heap=#[]):uJ w w':=⟨by rw[h];exact QS _,fun k o hk _=>by rw[h]at hk;simp at hk⟩
theorem Rel.shut{E:En}{S:St}{a:Act}{w:World}{L:Nat->Value}(h:Rel E S a w L)(hwk:E.wk.heap=#[]){d:Deferred}{ds:List Deferred}(hd:a.defers=d::ds):
  ∃D w',d.target= .collected D/\(Instr.takeDeferred D).run P w= .ok [] w'/\Rel E S {a with defers:=ds} w' L:=by
 have hnd:=h.defers.nodup;rw[hd,List.nodup_cons]at hnd;obtain⟨D,h1,h2,h3⟩:=h.defers.at_ d (by rw[hd];exact Qx)
 have hoth:∀k,k≠D->(w.putObj D (.deferred none)).heap[k]?=w.heap[k]?:=fun k hk=>World.putObj_heap_other hk
 have hcell:∀(p:Addr) (v:Value),w.cell? p=some v->p.block≠D:=by
  intro p v hp e;unfold World.cell? at hp;rw[e,h3]at hp;simp at hp
 have hs:cW w (w.putObj D (.deferred none)) (aQ E S L) (aQ E S L):=⟨fun p v hp hm=>⟨(World.cell?_of_block (hoth _ (hcell p v hp))).trans hp,hm⟩,fun b es ck hb hm=>⟨(hoth b (fun e=>by rw[e,h3]at hb;cases hb)).trans hb,hm⟩⟩
 have hne:∀id b,id<S.N->(S.H id).c.live=true->bC (L id)=some b->b≠D:=by
  intro id b hid hl hb e;obtain⟨o,h4,h5⟩:=(h.obj id hid).cells hl hb;rw[e,h3]at h4;injection h4 with h4
  rw[<-h4]at h5;cases h5
 refine⟨D,w.putObj D (.deferred none),by rw[h1],run_takeDeferred h3,⟨fun e=>(by have:=h.defers.none e;rw[hd]at this;cases this),hnd.2,fun d' hd'=> ?_⟩,h.size,fun t=>(h.env t).mono hs (Gh.le.refl _),fun id hid=> ?_,h.apart,h.fresh,
  ⟨⟨h.fr.os,h.fr.tape,h.fr.output,by rw[World.putObj_size];exact h.fr.size,fun b hb hr=>by rw[hoth b (by omega)];exact h.fr.block b hb hr,h.fr.drawn⟩,vj hwk⟩,h.rS⟩
 ·obtain⟨D',h4,h5,h6⟩:=h.defers.at_ d' (by rw[hd];exact Qy _ hd')
  have hDD:D'≠D:=by
   intro e;subst e;rw[<-h1]at h4;exact hnd.1 (h4▸hd')
  exact⟨D',h4,h5,by rw[hoth _ hDD];exact h6⟩
 ·cases hl:(S.H id).c.live with
  |false=>
   cases hc:(S.H id).c with
   |dead=>trivial
   |box cs=>rw[hc]at hl;cases hl
   |row e k es=>rw[hc]at hl;cases hl
  |true=>exact(h.obj id hid).mono hs (Gh.le.refl _) (fun b hb _=>hoth b (hne id b hid hl hb))
theorem DI{E:En}{S:St}{L:Nat->Value}(hwk:E.wk.heap=#[]){fn:Func}{R:Ending->World->Prop}{tmps:Array Value}(hR:∀w',Rel E S {tmps:=tmps,defers:=[]} w' L->∃v,(results fn tmps).run P w'= .ok v w'/\R (.returned v) w'):
  ∀(ds:List Deferred) (w:World),Rel E S {tmps:=tmps,defers:=ds} w L->LeavesInM (WF none) 0 P fn tmps R ds .returning w
 |[],w,h=>hR w h
 |d::ds,w,h=>by
  obtain⟨D,w',h1,h2,h3⟩:=Rel.shut (P:=P) h hwk rfl;exact⟨(fun e=>by cases e),.inl ⟨D,w',h1,h2,DI hwk hR ds w' h3⟩⟩
theorem uh{f:FuncId}{fn:Func}{c:Code}{E:En}{S0:St}{Q:Exit->St->Prop}{args:Array Value}{w:World}{L:Nat->Value}{R:Ending->World->Prop}(hf:P.funcs[f]?=some fn)(hb:fn.body=some c)(h:V P fn.ntmps c Q S0)
  (hE:E.nt=fn.ntmps) (hrd:E.rd=none/\E.nd=false) (hkt:∀t,E.kt t=none) (hwk:E.wk.heap=#[]) (hrel:Rel E S0 {tmps:=args++Array.replicate (fn.ntmps - args.size) undef,defers:=[]} w L)
  (fin:∀(e:Exit) (S':St) (L':Nat->Value) (a':Act) (w':World),Rel E S' a' w' L'->Q e S'->(e= .ret\/e= .normal)/\∃v,(results fn a'.tmps).run P w'= .ok v w'/\R (.returned v) w'):Calls P f args w R:=by
 have h0:=h E hE ⟨fun t _=>hkt t,.inl hrd⟩ _ w L hrel
 rw[hrd.1]at h0;refine GJ.1 (callsIn_of_wp_marks (F:=WF none) (n:=0) hf hb trivial (wpIn_mono h0 ?_));rintro e a' w' ⟨S',L',h1,h2⟩
 have h3:LeavesInM (WF none) 0 P fn a'.tmps R a'.defers .returning w':=
  DI hwk (fun w'' hw''=>(fin e S' L' _ w'' hw'' h2).2) a'.defers w' h1
 rcases(fin e S' L' a' w' h1 h2).1 with rfl|rfl<;>exact h3
theorem P6{f:FuncId}{fn:Func}{c:Code}{sc:SC}{rs:List RV}{pos:Nat}{recv:Bool}{cs args cs':List PV}{r:PV}(hf:P.funcs[f]?=some fn)(hb:fn.body=some c){hs:List Nat}(hc:ay P fn.ntmps hs c=some sc)(hrs:k7 P fn.results.toList=some rs)
  (hlen:(if recv then 1 else 0)+args.length<=fn.ntmps) (h:VS P fn.ntmps sc (RC rs recv fun r' cs''=>r'=r/\(recv=true->cs''=cs')) (cY pos recv cs args)):CV P f pos recv cs args r cs':=by
 intro w X hX rb T rvs vs hrecv hargs
 have hrb0:∀b,(if recv then some rb else none)=some b->b<w.heap.size:=by
  intro b hb
  cases recv with
  |false=>cases hb
  |true=>
   simp only[Qt,Qf]at hb;subst hb;exact(Array.getElem?_eq_some_iff.1 (hrecv rfl).1).1
 let E:En:={w0:=w,rb:=if recv then some rb else none,nt:=fn.ntmps,X:=X,hX:=hX,EO:=recv,rv:= .pointer (some ⟨rb,0,none⟩),rk:=false,Gn:=hrb0,KL:=fun h=>(by cases h),rd:=none,nd:=false,kt:=fun _=>none,wk:={w with heap:=#[]}}
 let L:Nat->Value:=fun _=> .pointer (some ⟨rb,0,none⟩)
 have hvl:vs.length=args.length:=hargs.1
 have hm:∀b,aQ E (cY pos recv cs args) L b->Mc recv rb X b:=by
  rintro b (⟨id,hid,hl,hb⟩|hb)
  ·simp only[cY]at hid hl
   cases recv with
   |false=>simp at hid
   |true=>
    simp only[L,bC,Qf]at hb;exact .inl ⟨rfl,hb.symm⟩
  ·exact .inr hb
 have hm':∀b,Mc recv rb X b->aQ E (cY pos recv cs args) L b:=by
  rintro b (⟨h1,h2⟩|hb)
  ·subst h2;exact .inl ⟨0,by simp[cY,h1],by simp[cY,h1,qX.live],rfl⟩
  ·exact .inr hb
 have hst:cW w w (Mc recv rb X) (aQ E (cY pos recv cs args) L):=(cW.of fun _ hn=>fun h'=>hn (hm _ h'))
 have hrel:Rel E (cY pos recv cs args) {tmps:=(fM pos (nR recv rb) vs).toArray++Array.replicate (fn.ntmps - (fM pos (nR recv rb) vs).toArray.size) undef,defers:=[]} w L:=by
  refine⟨Marks.nil rfl,⟨?_,fun t v hv=>by cases hv⟩,fun t=> ?_,fun id hid=> ?_,fun i j b hi hj _ _ _ _=> ?_,fun id hid=> ?_,⟨Fr.refl _ _,vj rfl⟩,fun _ _ _=>rfl⟩
  ·cases recv<;>simp[nR,E,KH]at hlen ⊢<;>omega
  ·have hget:(((fM pos (nR recv rb) vs).toArray++Array.replicate (fn.ntmps - (fM pos (nR recv rb) vs).toArray.size) undef).getD t undef)=((fM pos (nR recv rb) vs)[t]?).getD undef:=by
    rw[QN,Array.getElem?_append]
    by_cases ht:t<(fM pos (nR recv rb) vs).toArray.size
    ·rw[Qr ht];simp
    ·rw[Qs ht,Array.getElem?_replicate];have hn:(fM pos (nR recv rb) vs)[t]?=none:=List.getElem?_eq_none (by simpa using ht)
     rw[hn];split<;>rfl
   simp only;rw[hget]
   have hall:aM w (aQ E (cY pos recv cs args) L) ((cY pos recv cs args).gh L) (fM pos (if recv then[.ptr 0 0 0]else[]) args) (fM pos (nR recv rb) vs):=by
    have ha:=hargs.mono hst (cq.le ((cY pos recv cs args).gh L));refine((ha.take pos).append ?_).append (ha.drop pos)
    cases recv with
    |false=>exact .nil
    |true=>
     simp only[nR,Qt];exact .cons (.ptr _ _ _ _ (by simp[St.gh,cY]) (QS _) (fun _=>by simp[St.gh,L,bC])) .nil
   show aL w _ _ (((fM pos (if recv then[.ptr 0 0 0]else[]) args:List PV)[t]?).getD .undef) _
   cases hx:(fM pos (if recv then[.ptr 0 0 0]else[]) args:List PV)[t]? with
   |none=>
    have:(fM pos (nR recv rb) vs)[t]?=none:=by
     rw[List.getElem?_eq_none_iff]at hx ⊢;rw[hall.1];exact hx
    rw[this];exact .undef
   |some x=>
    obtain⟨v,hv,hr⟩:=hall.get hx;rw[hv];exact hr
  ·cases recv with
   |false=>simp[cY]at hid
   |true=>
    simp[cY]at hid;subst hid;obtain⟨h1,h2⟩:=hrecv rfl;have e:((cY pos true cs args).H 0).c= .box cs:=by simp[cY]
    rw[e];exact⟨rb,rvs.toArray,T,rfl,h1,.inl (by simp[E]),by simpa using h2.mono hst (cq.le ((cY pos true cs args).gh L))⟩
  ·cases recv with
   |false=>simp[cY]at hi
   |true=>simp[cY]at hi hj;omega
  ·cases recv with
   |false=>simp[cY]
   |true=>simp[cY]at hid ⊢;omega
 have fin:∀(S':St) (L':Nat->Value) (a':Act) (w':World),Rel E S' a' w' L'->uX rs recv (fun r' cs''=>r'=r/\(recv=true->cs''=cs')) S'->
   ∃v,(results fn a'.tmps).run P w'= .ok v w'/\Ng recv rb X w r cs' (.returned v) w':=by
  intro S' L' a' w' h' hret;unfold uX at hret;split at hret
  ·rename_i x hx;obtain⟨v,hv,hrep⟩:=tC h' hrs hx;refine⟨v,hv,?_⟩
   cases recv with
   |false=>
    simp only[Qq,false_implies,and_true]at hret;subst hret;refine⟨v,[],rfl,?_,(fun hq=>by cases hq),h'.fr.toFr⟩
    refine h'.fz (fun b hb=> ?_) (fun id b hid hl _ hb hq=> ?_) 9 hrep
    ·rcases hb with⟨hb,_⟩|hb
     ·cases hb
     ·exact .inr hb
    ·rcases hq with⟨hq,_⟩|hq
     ·cases hq
     ·rcases((h'.obj id hid).qg hl hb).2 with h1|h1
      ·simp[E]at h1
      ·have:=hX b hq;simp only[E]at h1;omega
   |true=>
    simp only at hret;split at hret
    ·rename_i cs'' hH;obtain⟨hcl,rfl,hcs⟩:=hret;have hcs:=hcs trivial;subst hcs
     have hN0:0<S'.N:=by
      rcases Nat.eq_zero_or_pos S'.N with h0|h0
      ·have:=h'.fresh 0 (by omega)
       rw[hH]at this;cases this
      ·exact h0
     have hL0:L' 0= .pointer (some ⟨rb,0,none⟩):=h'.rS rfl (by rw[hH];rfl) (by rw[hH])
     obtain⟨b,cur,T',hL',hh,hr,_⟩:=h'.nv hN0 (show(S'.H 0).c= .box cs'' by rw[hH])
     rw[hL0]at hL';simp only[Value.pointer.injEq,Qf,Addr.mk.injEq]at hL';obtain⟨rfl,_⟩:=hL'
     have hsub:∀q,Mc true rb X q->aQ E S' L' q:=by
      rintro q (⟨_,rfl⟩|hq)
      ·exact .inl ⟨0,hN0,by rw[hH];rfl,by rw[hL0];rfl⟩
      ·exact .inr hq
     refine⟨v,cur.toList,rfl,?_,fun _=>⟨?_,hr.closed hcl hsub⟩,h'.fr.toFr⟩
     ·refine h'.fz hsub (fun id b hid hl hne hb hq=> ?_) 9 hrep
      have hnb:b≠rb:=fun e=>hne (by rw[h'.apart id 0 b hid hN0 hl (by rw[hH];rfl) hb (by rw[hL0,e];rfl)])
      rcases hq with⟨_,hq⟩|hq
      ·exact hnb hq
      ·rcases((h'.obj id hid).qg hl hb).2 with h1|h1
       ·simp only[E,Qt,Qf]at h1;exact hnb h1.symm
       ·have:=hX b hq;simp only[E]at h1;omega
     ·exact⟨T',by simpa using hh⟩
    ·exact hret.elim
  ·exact hret.elim
 exact uh hf hb (h c hs hc) rfl ⟨rfl,rfl⟩ (fun _=>rfl) rfl hrel fun e S' L' a' w' h1 h2=>by
  cases e with
  |normal=>exact⟨.inr rfl,fin S' L' a' w' h1 h2⟩
  |ret=>exact⟨.inl rfl,fin S' L' a' w' h1 h2⟩
  |exit i=>exact h2.elim
  |goto l=>exact h2.elim
  |panic c=>exact h2.elim
  |outgrown=>exact h2.elim
def Kx(rs:List RV)(R:List PV->Prop):Exit->St->Prop
 | .ret,S=>match nQ S rs with
  |some (.ptr id an 0)=>if(S.H id).an=an then(match(S.H id).c with| .box cs=>cs.all PV.closed=true/\R cs|_=>False)else False
  |_=>False
 |_,_=>False
theorem UK{f:FuncId}{fn:Func}{c:Code}{sc:SC}{rs:List RV}{args cs:List PV}(hf:P.funcs[f]?=some fn)(hb:fn.body=some c){hs:List Nat}(hc:ay P fn.ntmps hs c=some sc)(hrs:k7 P fn.results.toList=some rs)
  (hlen:args.length<=fn.ntmps) (h:VS P fn.ntmps sc (Kx rs fun cs'=>cs'=cs) (cY 0 false [] args)):LN P f args cs:=by
 intro w X hX vs hargs
 let E:En:={w0:=w,rb:=none,nt:=fn.ntmps,X:=X,hX:=hX,EO:=false,rv:=undef,rk:=false,Gn:=fun b hb=>(by cases hb),KL:=fun h=>(by cases h),rd:=none,nd:=false,kt:=fun _=>none,wk:={w with heap:=#[]}}
 let L:Nat->Value:=fun _=> .pointer none
 have hst:cW w w X (aQ E (cY 0 false [] args) L):=(cW.of fun _ hn h'=>hn (by
  rcases h' with⟨id,hid,_⟩|h'
  ·simp[cY]at hid
  ·exact h'))
 have hvl:vs.length=args.length:=hargs.1
 have hrel:Rel E (cY 0 false [] args) {tmps:=vs.toArray++Array.replicate (fn.ntmps - vs.toArray.size) undef,defers:=[]} w L:=by
  refine⟨Marks.nil rfl,⟨?_,fun t v hv=>by cases hv⟩,fun t=> ?_,fun id hid=> ?_,fun i j b hi hj _ _ _ _=> ?_,fun id hid=> ?_,⟨Fr.refl _ _,vj rfl⟩,fun hb _ _=>(by cases hb)⟩
  ·simp[E];omega
  ·have hget:((vs.toArray++Array.replicate (fn.ntmps - vs.toArray.size) undef).getD t undef)=(vs[t]?).getD undef:=by
    rw[QN,Array.getElem?_append]
    by_cases ht:t<vs.toArray.size
    ·rw[Qr ht];simp
    ·rw[Qs ht,Array.getElem?_replicate];have hn:vs[t]?=none:=List.getElem?_eq_none (by simpa using ht)
     rw[hn];split<;>rfl
   simp only;rw[hget];have ha:=hargs.mono hst (cq.le ((cY 0 false [] args).gh L));show aL w _ _ ((([]++args:List PV)[t]?).getD .undef) _;rw[List.nil_append]
   cases hx:args[t]? with
   |none=>
    have:vs[t]?=none:=by
     rw[List.getElem?_eq_none_iff]at hx ⊢;omega
    rw[this];exact .undef
   |some x=>
    obtain⟨v,hv,hr⟩:=ha.get hx;rw[hv];exact hr
  ·simp[cY]at hid
  ·simp[cY]at hi
  ·simp[cY]
 refine uh hf hb (h c hs hc) rfl ⟨rfl,rfl⟩ (fun _=>rfl) rfl hrel fun e S' L' a' w' h' hq=> ?_
 cases e with
 |ret=>
  simp only[Kx]at hq;split at hq
  ·rename_i id an hx;split at hq
   ·rename_i hver;split at hq
    ·rename_i cs' hcc;obtain⟨hcl,rfl⟩:=hq;obtain⟨v,hv,hrep⟩:=tC h' hrs hx;obtain⟨hN,_⟩:=hrep.nB (show(S'.gh L').V id=an from hver)
     obtain⟨b,hvb,hL⟩:=h'.oe hrep hver hcc;obtain⟨b',cur,T,hL',hh,hr,hE⟩:=h'.nv hN hcc;rw[hL]at hL';simp only[Value.pointer.injEq,Qf,Addr.mk.injEq]at hL';obtain⟨rfl,_⟩:=hL';refine⟨.inl rfl,v,hv,b,cur.toList,T,by rw[hvb],?_,by simpa using hh,?_,h'.fr.toFr⟩
     ·rcases hE with h1|h1
      ·simp[E]at h1
      ·exact h1
     ·refine hr.closed hcl ?_;rintro q (hq|rfl)
      ·exact .inr hq
      ·exact .inl ⟨id,hN,by rw[hcc];rfl,by rw[hL];rfl⟩
    ·exact hq.elim
   ·exact hq.elim
  ·exact hq.elim
 |normal=>exact hq.elim
 |exit i=>exact hq.elim
 |goto l=>exact hq.elim
 |panic c=>exact hq.elim
 |outgrown=>exact hq.elim
def nb(e k:Nat)(es:List (List PV))(args:List PV):St:=
 {env:=fun t=>((.own 0 0::args)[t]?).getD .undef,H:=fun id=>if id=0 then⟨0,.row e k es⟩else⟨0,.dead⟩,N:=1}
def Hr(rs:List RV)(e k:Nat)(R:PV->List (List PV)->Prop):Exit->St->Prop
 | .ret,S| .normal,S=>match nQ S rs with
  |some x=>match S.H 0 with
   |⟨0,.row e' k' es'⟩=>e'=e/\k'=k/\se es'=true/\R (fz S.H (some 0) 9 x) es'
   |_=>False
  |none=>False
 |_,_=>False
def xv(rs:List RV)(e k:Nat)(R:List (List PV)->Prop):Exit->St->Prop
 | .ret,S| .normal,S=>match nQ S rs with
  |some (.own id an)=>(S.H id).an=an/\(match(S.H id).c with
   | .row e' k' es'=>e'=e/\k'=k/\se es'=true/\R es'
   |_=>False)
  |_=>False
 |_,_=>False
theorem Ij{fn:Func}{e k:Nat}{es:List (List PV)}{args:List PV}{w:World}{X:Nat->Prop}(hX:∀b,X b->b<w.heap.size){v:Value}{vs:List Value}(hXn:∀b,bC v=some b->¬X b)(hrow:qo w (Mv v X) e k v es)(hargs:aM w (Mv v X) cq args vs)(hlen:1+args.length<=fn.ntmps):
  ∃E:En,E.w0=w/\E.rb=bC v/\E.nt=fn.ntmps/\E.X=X/\E.EO=true/\E.rv=v/\(E.rd=none/\E.nd=false)/\(∀t,E.kt t=none)/\E.wk.heap=#[]/\
   Rel E (nb e k es args) {tmps:=(v::vs).toArray++Array.replicate (fn.ntmps - (v::vs).toArray.size) undef,defers:=[]} w (fun _=>v):=by
 obtain⟨us,hown,hk,hr⟩:=hrow
 have hsz:∀b,bC v=some b->b<w.heap.size:=by
  intro b hb;rcases hown.2 with⟨rfl,_⟩|⟨g,cap,cur,rfl,_,hh,_⟩
  ·cases hb
  ·simp only[bC,Qf]at hb;subst hb;exact(Array.getElem?_eq_some_iff.1 hh).1
 let E:En:={w0:=w,rb:=bC v,nt:=fn.ntmps,X:=X,hX:=hX,EO:=true,rv:=v,rk:=true,Gn:=hsz,KL:=fun _=>hXn,rd:=none,nd:=false,kt:=fun _=>none,wk:={w with heap:=#[]}}
 have hm:∀b,aQ E (nb e k es args) (fun _=>v) b↔Mv v X b:=by
  intro b;constructor
  ·rintro(⟨id,hid,hl,hb⟩|hb)
   ·exact .inl hb
   ·exact .inr hb
  ·rintro(hb|hb)
   ·exact .inl ⟨0,by simp[nb],by simp[nb,qX.live],hb⟩
   ·exact .inr hb
 have hst:cW w w (Mv v X) (aQ E (nb e k es args) (fun _=>v)):=(cW.of fun _ hn=>fun h'=>hn ((hm _).1 h'))
 obtain⟨ad,n0,c0,hvs⟩:∃ad n c,v= .slice ad n c:=by
  rcases hown.2 with⟨h1,_⟩|⟨g,cap,cur,h1,_⟩
  ·exact⟨_,_,_,h1⟩
  ·exact⟨_,_,_,h1⟩
 have hvl:vs.length=args.length:=hargs.1;refine⟨E,rfl,rfl,rfl,rfl,rfl,rfl,⟨rfl,rfl⟩,fun _=>rfl,rfl,⟨Marks.nil rfl,⟨?_,fun t v hv=>by cases hv⟩,fun t=> ?_,fun id hid=> ?_,fun i j b hi hj _ _ _ _=> ?_,fun id hid=> ?_,⟨Fr.refl _ _,vj rfl⟩,fun _ _ _=>rfl⟩⟩
 ·simp[E];omega
 ·have hget:(((v::vs).toArray++Array.replicate (fn.ntmps - (v::vs).toArray.size) undef).getD t undef)=((v::vs)[t]?).getD undef:=by
   rw[QN,Array.getElem?_append]
   by_cases ht:t<(v::vs).toArray.size
   ·rw[Qr ht];simp
   ·rw[Qs ht,Array.getElem?_replicate];have hn:(v::vs)[t]?=none:=List.getElem?_eq_none (by simpa using ht)
    rw[hn];split<;>rfl
  simp only;rw[hget]
  have hall:aM w (aQ E (nb e k es args) (fun _=>v)) ((nb e k es args).gh (fun _=>v)) (.own 0 0::args) (v::vs):=by
   refine .cons ?_ (hargs.mono hst (cq.le _));rw[hvs];exact .own _ _ _ _ _ (by simp[St.gh,nb]) (QS _) (fun _=>rfl)
  show aL w _ _ (((.own 0 0::args:List PV)[t]?).getD .undef) _
  cases hx:((.own 0 0::args:List PV))[t]? with
  |none=>
   have:(v::vs)[t]?=none:=by
    rw[List.getElem?_eq_none_iff]at hx ⊢;rw[hall.1];exact hx
   rw[this];exact .undef
  |some x=>
   obtain⟨u,hu,hru⟩:=hall.get hx;rw[hu];exact hru
 ·have:id=0:=by simp[nb]at hid;exact hid
  subst this;have he:((nb e k es args).H 0).c= .row e k es:=by simp[nb]
  rw[he];refine⟨us,⟨hown.1,?_⟩,hk,hr.mono hst (cq.le _)⟩;rcases hown.2 with h1|⟨g,cap,cur,h1,_,h3⟩
  ·exact .inl h1
  ·refine .inr ⟨g,cap,cur,h1,?_,h3⟩;have hb:bC v=some g:=by rw[h1];rfl
   have:eI E v=0:=by
    unfold eI;rw[Qr ⟨rfl,by simp[E,hb],rfl⟩]
   rw[this];exact QS _
 ·simp[nb]at hi hj;omega
 ·simp[nb]at hid ⊢;omega
theorem UJ{f:FuncId}{fn:Func}{c:Code}{sc:SC}{rs:List RV}{e k:Nat}{es es':List (List PV)}{args:List PV}{r:PV}(hf:P.funcs[f]?=some fn)(hb:fn.body=some c){hs:List Nat}(hc:ay P fn.ntmps hs c=some sc)(hrs:k7 P fn.results.toList=some rs)
  (hlen:1+args.length<=fn.ntmps) (h:VS P fn.ntmps sc (Hr rs e k fun r' es''=>r'=r/\es''=es') (nb e k es args)):H5 P f e k es args r es':=by
 intro w X hX v vs hXn hrow hargs;obtain⟨E,e1,e2,e3,e4,e5,e6,e7,e8,e9,hrel⟩:=Ij (fn:=fn) hX hXn hrow hargs hlen;subst e1
 have fin:∀(S':St) (L':Nat->Value) (a':Act) (w':World),Rel E S' a' w' L'->Hr rs e k (fun r' es''=>r'=r/\es''=es') .ret S'->
   ∃u,(results fn a'.tmps).run P w'= .ok u w'/\∃u',Ending.returned u= .returned u'/\aL w' (Mv v X) cq r u'/\qo w' (Mv v X) e k v es'/\Fr (bC v) E.w0 w':=by
  intro S' L' a' w' h' hret;simp only[Hr]at hret;split at hret
  ·rename_i x hx;obtain⟨u,hu,hrep⟩:=tC h' hrs hx;split at hret
   ·rename_i e0 k0 es0 hH;obtain⟨rfl,rfl,hok,rfl,rfl⟩:=hret
    have hN0:0<S'.N:=by
     rcases Nat.eq_zero_or_pos S'.N with h0|h0
     ·have:=h'.fresh 0 (by omega)
      rw[hH]at this;cases this
     ·exact h0
    have hlive:(S'.H 0).c.live=true:=by rw[hH];rfl
    have hL0:L' 0=v:=(h'.rS e5 hlive (by rw[hH])).trans e6
    obtain⟨us,hown,hk,hr⟩:=h'.gK hN0 (show(S'.H 0).c=_ by rw[hH])
    rw[hL0]at hown
    have hsub:∀q,Mv v X q->aQ E S' L' q:=by
     rintro q (hq|hq)
     ·exact .inl ⟨0,hN0,hlive,by rw[hL0];exact hq⟩
     ·exact .inr (by rw[e4];exact hq)
    refine⟨u,hu,u,rfl,?_,⟨us,sb hown,hk,hr.closed (tD hok) hsub⟩,by rw[<-e2];exact h'.fr.toFr⟩
    refine h'.fz hsub (fun id b hid hl hne hbb hq=> ?_) 9 hrep
    have hnb:bC v≠some b:=fun eb=>hne (by rw[h'.apart id 0 b hid hN0 hl hlive hbb (by rw[hL0];exact eb)])
    rcases hq with hq|hq
    ·exact hnb hq
    ·rcases((h'.obj id hid).qg hl hbb).2 with h1|h1
     ·rw[e2]at h1;exact hnb h1
     ·have:=hX b hq;omega
   ·exact hret.elim
  ·exact hret.elim
 exact uh hf hb (h c hs hc) e3 e7 e8 e9 hrel fun en S' L' a' w' h1 h2=>by
  cases en with
  |normal=>exact⟨.inr rfl,fin S' L' a' w' h1 h2⟩
  |ret=>exact⟨.inl rfl,fin S' L' a' w' h1 h2⟩
  |exit i=>exact h2.elim
  |goto l=>exact h2.elim
  |panic c=>exact h2.elim
  |outgrown=>exact h2.elim
theorem Mt{E:En}{S':St}{L':Nat->Value}{a':Act}{w':World}{X:Nat->Prop}(hEX:E.X=X)(h':Rel E S' a' w' L'){fn:Func}{rs:List RV}(hrs:k7 P fn.results.toList=some rs){e k:Nat}{es':List (List PV)}(hret:xv rs e k (fun es''=>es''=es') .ret S'):
  ∃u,(results fn a'.tmps).run P w'= .ok u w'/\qo w' (Mv u X) e k u es'/\∀b,bC u=some b->E.rb=some b\/E.w0.heap.size<=b:=by
 simp only[xv]at hret;split at hret
 ·rename_i id an hx;obtain⟨hver,hret⟩:=hret;split at hret
  ·rename_i e0 k0 es0 hc;obtain⟨rfl,rfl,hok,rfl⟩:=hret;obtain⟨u,hu,hrep⟩:=tC h' hrs hx;obtain⟨hN,hv⟩:=hrep.jA (show(S'.gh L').V id=an from hver)
   have hv:u=L' id:=hv;subst hv;have hlive:(S'.H id).c.live=true:=by rw[hc];rfl
   obtain⟨us,hown,hk,hr⟩:=h'.gK hN hc;refine⟨_,hu,⟨us,sb hown,hk,hr.closed (tD hok) ?_⟩,fun b hb=>((h'.obj id hN).qg hlive hb).2⟩
   rintro q (hq|hq)
   ·exact .inl ⟨id,hN,hlive,hq⟩
   ·exact .inr (by rw[hEX];exact hq)
  ·exact hret.elim
 ·exact hret.elim
theorem UM{f:FuncId}{fn:Func}{c:Code}{sc:SC}{rs:List RV}{e k:Nat}{es es':List (List PV)}{args:List PV}(hf:P.funcs[f]?=some fn)(hb:fn.body=some c){hs:List Nat}(hc:ay P fn.ntmps hs c=some sc)(hrs:k7 P fn.results.toList=some rs)
  (hlen:1+args.length<=fn.ntmps) (h:VS P fn.ntmps sc (xv rs e k fun es''=>es''=es') (nb e k es args)):Fa P f e k es args es':=by
 intro w X hX v vs hXn hrow hargs;obtain⟨E,e1,e2,e3,e4,e5,e6,e7,e8,e9,hrel⟩:=Ij (fn:=fn) hX hXn hrow hargs hlen;subst e1;refine uh hf hb (h c hs hc) e3 e7 e8 e9 hrel fun en S' L' a' w' h1 h2=> ?_
 have fin:xv rs e k (fun es''=>es''=es') .ret S'->∃u,(results fn a'.tmps).run P w'= .ok u w'/\∃u',Ending.returned u= .returned u'/\qo w' (Mv u' X) e k u' es'/\(∀b,bC u'=some b->bC v=some b\/E.w0.heap.size<=b)/\Fr (bC v) E.w0 w':=by
  intro hret;obtain⟨u,hu,hrow',hub⟩:=Mt e4 h1 hrs hret;refine⟨u,hu,u,rfl,hrow',?_,by rw[<-e2];exact h1.fr.toFr⟩
  rw[<-e2];exact hub
 cases en with
 |normal=>exact⟨.inr rfl,fin h2⟩
 |ret=>exact⟨.inl rfl,fin h2⟩
 |exit i=>exact h2.elim
 |goto l=>exact h2.elim
 |panic c=>exact h2.elim
 |outgrown=>exact h2.elim
theorem UL{f:FuncId}{fn:Func}{c:Code}{sc:SC}{rs:List RV}{e k:Nat}{es':List (List PV)}{args:List PV}(hf:P.funcs[f]?=some fn)(hb:fn.body=some c){hs:List Nat}(hc:ay P fn.ntmps hs c=some sc)(hrs:k7 P fn.results.toList=some rs)
  (hlen:args.length<=fn.ntmps) (h:VS P fn.ntmps sc (xv rs e k fun es''=>es''=es') (cY 0 false [] args)):LO P f args e k es':=by
 intro w X hX vs hargs
 let E:En:={w0:=w,rb:=none,nt:=fn.ntmps,X:=X,hX:=hX,EO:=false,rv:=undef,rk:=false,Gn:=fun b hb=>(by cases hb),KL:=fun h=>(by cases h),rd:=none,nd:=false,kt:=fun _=>none,wk:={w with heap:=#[]}}
 let L:Nat->Value:=fun _=> .pointer none
 have hst:cW w w X (aQ E (cY 0 false [] args) L):=(cW.of fun _ hn h'=>hn (by
  rcases h' with⟨id,hid,_⟩|h'
  ·simp[cY]at hid
  ·exact h'))
 have hvl:vs.length=args.length:=hargs.1
 have hrel:Rel E (cY 0 false [] args) {tmps:=vs.toArray++Array.replicate (fn.ntmps - vs.toArray.size) undef,defers:=[]} w L:=by
  refine⟨Marks.nil rfl,⟨?_,fun t v hv=>by cases hv⟩,fun t=> ?_,fun id hid=> ?_,fun i j b hi hj _ _ _ _=> ?_,fun id hid=> ?_,⟨Fr.refl _ _,vj rfl⟩,fun hb _ _=>(by cases hb)⟩
  ·simp[E];omega
  ·have hget:((vs.toArray++Array.replicate (fn.ntmps - vs.toArray.size) undef).getD t undef)=(vs[t]?).getD undef:=by
    rw[QN,Array.getElem?_append]
    by_cases ht:t<vs.toArray.size
    ·rw[Qr ht];simp
    ·rw[Qs ht,Array.getElem?_replicate];have hn:vs[t]?=none:=List.getElem?_eq_none (by simpa using ht)
     rw[hn];split<;>rfl
   simp only;rw[hget];have ha:=hargs.mono hst (cq.le ((cY 0 false [] args).gh L));show aL w _ _ ((([]++args:List PV)[t]?).getD .undef) _;rw[List.nil_append]
   cases hx:args[t]? with
   |none=>
    have:vs[t]?=none:=by
     rw[List.getElem?_eq_none_iff]at hx ⊢;omega
    rw[this];exact .undef
   |some x=>
    obtain⟨v,hv,hr⟩:=ha.get hx;rw[hv];exact hr
  ·simp[cY]at hid
  ·simp[cY]at hi
  ·simp[cY]
 refine uh hf hb (h c hs hc) rfl ⟨rfl,rfl⟩ (fun _=>rfl) rfl hrel fun en S' L' a' w' h1 h2=> ?_
 have fin:xv rs e k (fun es''=>es''=es') .ret S'->∃u,(results fn a'.tmps).run P w'= .ok u w'/\∃u',Ending.returned u= .returned u'/\qo w' (Mv u' X) e k u' es'/\(∀b,bC u'=some b->w.heap.size<=b)/\Fr none w w':=by
  intro hret;obtain⟨u,hu,hrow',hub⟩:=Mt (E:=E) rfl h1 hrs hret;refine⟨u,hu,u,rfl,hrow',fun b hbb=> ?_,h1.fr.toFr⟩
  rcases hub b hbb with h3|h3
  ·cases h3
  ·exact h3
 cases en with
 |normal=>exact⟨.inr rfl,fin h2⟩
 |ret=>exact⟨.inl rfl,fin h2⟩
 |exit i=>exact h2.elim
 |goto l=>exact h2.elim
 |panic c=>exact h2.elim
 |outgrown=>exact h2.elim
def fH(P:Program)(f:FuncId)(nt:Nat)(sc:SC)(rs:List RV):Prop:=
 ∃fn hs,P.funcs[f]?=some fn/\fn.ntmps=nt/\(fn.body.bind (ay P nt hs))=some sc/\k7 P fn.results.toList=some rs/\(fn.name== "runtime.NumGoroutine")=false
theorem fH.enters{f:FuncId}{sc:SC}{rs:List RV}(h:fH P f nt sc rs):Enters P f:=by
 obtain⟨fn,hs,h1,_,h3,_,h5⟩:=h;refine⟨fn,h1,?_,h5⟩
 cases hb:fn.body with
 |none=>rw[hb]at h3;cases h3
 |some c=>rfl
theorem fH.IX{f:FuncId}{sc:SC}{rs:List RV}(h:fH P f nt sc rs){pos:Nat}{recv:Bool}{cs args cs':List PV}{r:PV}(hlen:(if recv then 1 else 0)+args.length<=nt)
  (hv:VS P nt sc (RC rs recv fun r' cs''=>r'=r/\(recv=true->cs''=cs')) (cY pos recv cs args)):CV P f pos recv cs args r cs':=by
 obtain⟨fn,hs,h1,rfl,h3,h4,_⟩:=h
 cases hb:fn.body with
 |none=>rw[hb]at h3;cases h3
 |some c=>
  rw[hb]at h3;exact P6 h1 hb h3 h4 hlen hv
theorem fH.XW{f:FuncId}{sc:SC}{rs:List RV}(h:fH P f nt sc rs){args cs:List PV}(hlen:args.length<=nt)
  (hv:VS P nt sc (Kx rs fun cs'=>cs'=cs) (cY 0 false [] args)):LN P f args cs:=by
 obtain⟨fn,hs,h1,rfl,h3,h4,_⟩:=h
 cases hb:fn.body with
 |none=>rw[hb]at h3;cases h3
 |some c=>
  rw[hb]at h3;exact UK h1 hb h3 h4 hlen hv
theorem fH.XV{f:FuncId}{sc:SC}{rs:List RV}(h:fH P f nt sc rs){e k:Nat}{es es':List (List PV)}{args:List PV}{r:PV}(hlen:1+args.length<=nt)
  (hv:VS P nt sc (Hr rs e k fun r' es''=>r'=r/\es''=es') (nb e k es args)):H5 P f e k es args r es':=by
 obtain⟨fn,hs,h1,rfl,h3,h4,_⟩:=h
 cases hb:fn.body with
 |none=>rw[hb]at h3;cases h3
 |some c=>
  rw[hb]at h3;exact UJ h1 hb h3 h4 hlen hv
theorem fH.XY{f:FuncId}{sc:SC}{rs:List RV}(h:fH P f nt sc rs){e k:Nat}{es es':List (List PV)}{args:List PV}(hlen:1+args.length<=nt)
  (hv:VS P nt sc (xv rs e k fun es''=>es''=es') (nb e k es args)):Fa P f e k es args es':=by
 obtain⟨fn,hs,h1,rfl,h3,h4,_⟩:=h
 cases hb:fn.body with
 |none=>rw[hb]at h3;cases h3
 |some c=>
  rw[hb]at h3;exact UM h1 hb h3 h4 hlen hv
theorem fH.XX{f:FuncId}{sc:SC}{rs:List RV}(h:fH P f nt sc rs){e k:Nat}{es':List (List PV)}{args:List PV}(hlen:args.length<=nt)
  (hv:VS P nt sc (xv rs e k fun es''=>es''=es') (cY 0 false [] args)):LO P f args e k es':=by
 obtain⟨fn,hs,h1,rfl,h3,h4,_⟩:=h
 cases hb:fn.body with
 |none=>rw[hb]at h3;cases h3
 |some c=>
  rw[hb]at h3;exact UL h1 hb h3 h4 hlen hv
def tab:List (FuncId×Model)->kL
 |[],_=>none
 |(g,m)::l,f=>if f=g then some m else tab l f
def V1(P:Program):List (FuncId×Model)->Prop
 |[]=>True
 |(f,m)::l=>yO P f m/\V1 P l
theorem U6:∀{l:List (FuncId×Model)},V1 P l->iG P (tab l)
 |[],_,f,m,h=>by simp[tab]at h
 |(g,m')::l,hl,f,m,h=>by
  simp only[tab]at h;split at h
  ·rename_i e;subst e;injection h with h
   subst h;exact hl.1
  ·exact U6 hl.2 f m h
end
end Go.TQ
end
noncomputable section
namespace Go.TQ
 def MI{α:Type}(bI:α->List PV)(pre:α->Prop)(spec:α->PV):Model:=
 {recv:=false,pos:=0,fresh:=false,m:=fun _ args=>open Classical in if h:∃x,args=bI x/\pre x then some (spec (Classical.choose h),[])else none,rk:= .no,ro:=false,rm:=fun _ _=>none}
theorem Yh{α:Type}{bI:α->List PV}{pre:α->Prop}{spec:α->PV}(hi:∀x y,bI x=bI y->spec x=spec y)(cs:List PV)(x:α)(hp:pre x):(MI bI pre spec).m cs (bI x)=some (spec x,[]):=by
 have h:∃y,bI x=bI y/\pre y:=⟨x,rfl,hp⟩;simp only[MI];rw[dif_pos h];have:=(Classical.choose_spec h).1;rw[hi _ _ this.symm]
theorem Xt{P:Program}{f:FuncId}{α:Type}{bI:α->List PV}{pre:α->Prop}{spec:α->PV}(he:Enters P f)(h:∀x,pre x->Ro P f false [] (bI x) (spec x) []):yO P f (MI bI pre spec):=by
 refine⟨he,fun _ cs args r cs' hm=> ?_,(fun hq=>by cases hq),trivial,(fun hq=>by cases hq)⟩
 simp only[MI]at hm;split at hm
 ·rename_i hx;injection hm with hm
  injection hm with h1 h2
  subst h1 h2;obtain⟨h3,h4⟩:=Classical.choose_spec hx;have:=h _ h4;rw[<-h3]at this;intro w X hX rb T rvs vs hr ha;exact this w X hX rb T rvs vs (fun hq=>by cases hq) ha
 ·cases hm
theorem Pu{α:Type}{bI:α->List PV}{pre:α->Prop}{spec:α->PV}:(MI bI pre spec).fresh=false:=rfl
theorem RT{α:Type}{bI:α->List PV}{pre:α->Prop}{spec:α->PV}:(MI bI pre spec).recv=false:=rfl
 def Td{α:Type}(bI:α->List PV)(pre:α->Prop)(spec:α->List PV):Model:=
 {recv:=false,pos:=0,fresh:=true,m:=fun _ args=>open Classical in if h:∃x,args=bI x/\pre x then some (.any,spec (Classical.choose h))else none,rk:= .no,ro:=false,rm:=fun _ _=>none}
theorem Yg{α:Type}{bI:α->List PV}{pre:α->Prop}{spec:α->List PV}(hi:∀x y,bI x=bI y->spec x=spec y)(cs:List PV)(x:α)(hp:pre x):(Td bI pre spec).m cs (bI x)=some (.any,spec x):=by
 have h:∃y,bI x=bI y/\pre y:=⟨x,rfl,hp⟩;simp only[Td];rw[dif_pos h];have:=(Classical.choose_spec h).1;rw[hi _ _ this.symm]
theorem Xs{P:Program}{f:FuncId}{α:Type}{bI:α->List PV}{pre:α->Prop}{spec:α->List PV}(he:Enters P f)(h:∀x,pre x->LN P f (bI x) (spec x)):yO P f (Td bI pre spec):=by
 refine⟨he,(fun hq=>by cases hq),fun _ args r cs hm=> ?_,trivial,(fun hq=>by cases hq)⟩
 simp only[Td]at hm;split at hm
 ·rename_i hx;injection hm with hm
  injection hm with h1 h2
  subst h1 h2;obtain⟨h3,h4⟩:=Classical.choose_spec hx;have:=h _ h4;rw[<-h3]at this;exact this
 ·cases hm
 def Tc{σ α:Type}(encS:σ->List PV)(bI:α->List PV)(pre:σ->α->Prop)(spec:σ->α->PV×σ):Model:=
 {recv:=true,pos:=0,fresh:=false,m:=fun cs args=>open Classical in if h:∃p:σ×α,cs=encS p.1/\args=bI p.2/\pre p.1 p.2 then some ((spec (Classical.choose h).1 (Classical.choose h).2).1,encS (spec (Classical.choose h).1 (Classical.choose h).2).2)else none,rk:= .no,ro:=false,rm:=fun _ _=>none}
theorem Yf{σ α:Type}{encS:σ->List PV}{bI:α->List PV}{pre:σ->α->Prop}{spec:σ->α->PV×σ}(hs:∀x y,encS x=encS y->x=y)(hi:∀x y,bI x=bI y->x=y)(s:σ)(x:α)(hp:pre s x):
  (Tc encS bI pre spec).m (encS s) (bI x)=some ((spec s x).1,encS (spec s x).2):=by
 have h:∃p:σ×α,encS s=encS p.1/\bI x=bI p.2/\pre p.1 p.2:=⟨(s,x),rfl,rfl,hp⟩;simp only[Tc];rw[dif_pos h];obtain⟨h1,h2,_⟩:=Classical.choose_spec h;rw[hs _ _ h1.symm,hi _ _ h2.symm]
theorem Xr{P:Program}{f:FuncId}{σ α:Type}{encS:σ->List PV}{bI:α->List PV}{pre:σ->α->Prop}{spec:σ->α->PV×σ}(he:Enters P f)(h:∀s x,pre s x->Ro P f true (encS s) (bI x) (spec s x).1 (encS (spec s x).2)):yO P f (Tc encS bI pre spec):=by
 refine⟨he,fun _ cs args r cs' hm=> ?_,(fun hq=>by cases hq),trivial,(fun hq=>by cases hq)⟩
 simp only[Tc]at hm;split at hm
 ·rename_i hx;injection hm with hm
  injection hm with h1 h2
  subst h1 h2;obtain⟨h3,h4,h5⟩:=Classical.choose_spec hx;have:=h _ _ h5;rw[<-h3,<-h4]at this;exact this
 ·cases hm
@[simp] theorem W9 {α:Type} (f:Nat->α) (i:Nat) (x:α) (j:Nat):bd f i x j=if j=i then x else f j:=rfl
@[simp] theorem XI (g:FuncId) (m:Model) (l:List (FuncId×Model)) (f:FuncId):tab ((g,m)::l) f=if f=g then some m else tab l f:=rfl
@[simp] theorem X0 (S:St) (ts:List Nat) (n t:Nat):(S.cut ts n).env t=if t∈ts then S.env t else .any:=rfl
@[simp] theorem Yj (S:St) (ts:List Nat) (n id:Nat):(S.cut ts n).H id=if id<n then S.H id else⟨0,.dead⟩:=rfl
@[simp] theorem Yi (S:St) (ts:List Nat) (n:Nat):(S.cut ts n).N=n:=rfl
attribute [simp] ev rQ pU SG.wanted exec St.bN aP.val Yc cY fM Hc RC uX yK NQ nQ qA vJ fz nS mA oE PV.cells PV.one PV.closed fK CS Cf GM js PV.og PV.plain PV.lx PV.aX PV.o6 ix
 Hq kD uc xI yD dY dI kY wb RT Pu Kx PV.iB
section
variable (n : Nat)
@[simp] theorem Xk:PV.under n .any=true:=rfl
@[simp] theorem V2:PV.under n .undef=true:=rfl
@[simp] theorem Xh (k:IntKind) (i:Int):PV.under n (.int k i)=true:=rfl
@[simp] theorem Wc (b:Bool):PV.under n (.bool b)=true:=rfl
@[simp] theorem V3:PV.under n .eL=true:=rfl
@[simp] theorem Xc (s:ByteArray):PV.under n (.str s)=true:=rfl
@[simp] theorem V9:PV.under n .gX=true:=rfl
@[simp] theorem V8:PV.under n .cJ=true:=rfl
@[simp] theorem Xe (cs:List PV):PV.under n (.ref cs)=true:=rfl
@[simp] theorem XH (es:List (List PV)):PV.under n (.sl es)=true:=rfl
@[simp] theorem Xg (i v:Nat):PV.under n (.own i v)=decide (i<n):=rfl
@[simp] theorem Xf (i v o:Nat):PV.under n (.ptr i v o)=decide (i<n):=rfl
@[simp] theorem Wa (i v k j o:Nat):PV.under n (.dE i v k j o)=decide (i<n):=rfl
@[simp] theorem V7 (i v k j o:Nat):PV.under n (.view i v k j o)=decide (i<n):=rfl
@[simp] theorem Xl (cs:List PV):PV.under n (.agg cs)=cs.all (PV.iB n):=rfl
@[simp] theorem Xb (cs:List PV):PV.under n (.c6 cs)=cs.all (PV.iB n):=rfl
@[simp] theorem Xi (f:FuncId) (cs:List PV):PV.under n (.bg f cs)=cs.all (PV.iB n):=rfl
@[simp] theorem Wb:qX.under n .dead=true:=rfl
@[simp] theorem Xj (cs:List PV):qX.under n (.box cs)=cs.all (PV.under n):=rfl
@[simp] theorem Xd (e k:Nat) (es:List (List PV)):qX.under n (.row e k es)=es.all fun u=>u.all (PV.under n):=rfl
end
def CW:Nat->(Nat->Prop)->Prop
 |0,_=>True
 |n+1,p=>CW n p/\p n
theorem Ci{p:Nat->Prop}:∀{n:Nat},CW n p↔∀i,i<n->p i
 |0=>by simp[CW]
 |n+1=>by
  rw[CW,Ci];refine⟨fun h i hi=> ?_,fun h=>⟨fun i hi=>h i (by omega),h n (by omega)⟩⟩
  by_cases e:i=n
  ·rw[e];exact h.2
  ·exact h.1 i (by omega)
theorem PZ{S:St}{ts:List Nat}{n:Nat}:xk S ts n↔n<=S.N/\(∀t∈ts,(S.env t).under n=true)/\CW n fun id=>(S.H id).c.under n=true:=
 ⟨fun h=>⟨h.N,h.env,Ci.2 h.H⟩,fun h=>⟨h.1,h.2.1,Ci.1 h.2.2⟩⟩
attribute [simp] PZ CW
theorem i64_in{n:Int}(h: -9223372036854775808<=n)(h':n<=9223372036854775807):IntKind.i64.wrap n=n:=by
 rw[IntKind.wrap_i64];omega
end Go.TQ
end
noncomputable section
namespace Go.TQ
structure TU where
 Ty:Type
 MV:DecidableEq Ty
 den:Ty->Type
 pv:(t:Ty)->den t->List PV
 size:Ty->Nat
 agg:Ty->Bool
 plain:Ty->Bool
inductive KV (U:TU) where
 |any
 |undef
 |int (k:IntKind) (n:Int)
 |bool (b:Bool)
 |eL
 |str (s:ByteArray)
 |gX
 |cJ
 |bg (f:FuncId) (caps:List (KV U))
 |gk (f:FuncId) (first:List (KV U))
 |agg (cs:List (KV U))
 |c6 (cs:List (KV U))
 |ptr (id an off:Nat)
 |ref (cs:List (KV U))
 |sl (T:U.Ty) (xs:List (U.den T))
 |own (id an:Nat)
 |dE (id an k i off:Nat)
 |view (id an k lo n:Nat)
 |fS (A B:U.Ty) (xs:List (U.den A×U.den B))
def cv{U:TU}(T:U.Ty)(v:U.den T):PV:=
 match U.agg T with
 |true=> .agg (U.pv T v)
 |false=>(U.pv T v).headD .any
section
variable {U : TU}
mutual
def KV.pv:KV U->PV
 | .any=> .any
 | .undef=> .undef
 | .int k n=> .int k n
 | .bool b=> .bool b
 | .eL=> .eL
 | .str s=> .str s
 | .gX=> .gX
 | .cJ=> .cJ
 | .bg f cs=> .bg f (KV.w5 cs)
 | .gk f cs=> .gk f (KV.w5 cs)
 | .agg cs=> .agg (KV.w5 cs)
 | .c6 cs=> .c6 (KV.w5 cs)
 | .ptr id an off=> .ptr id an off
 | .ref cs=> .ref (KV.w5 cs)
 | .sl T xs=> .sl (xs.map (U.pv T))
 | .own id an=> .own id an
 | .dE id an k i off=> .dE id an k i off
 | .view id an k lo n=> .view id an k lo n
 | .fS A B xs=> .fS (xs.map fun p=>cv A p.1) (xs.map fun p=>cv B p.2)
def KV.w5:List (KV U)->List PV
 |[]=>[]
 |x::l=>KV.pv x::KV.w5 l
end
theorem KV.bJ:∀(l:List (KV U)),KV.w5 l=l.map KV.pv
 |[]=>by simp[KV.w5]
 |x::l=>by simp[KV.w5,KV.bJ l]
inductive cZ (U:TU) where
 |dead
 |box (cs:List (KV U))
 |row (e k:Nat) (T:U.Ty) (xs:List (U.den T))
 |raw (e k:Nat) (es:List (List (KV U)))
structure cm (U:TU) where
 an:Nat
 c:cZ U
structure aH (U:TU) where
 env:Nat->KV U
 H:Nat->cm U
 N:Nat
def cZ.pv:cZ U->qX
 | .dead=> .dead
 | .box cs=> .box (cs.map KV.pv)
 | .row e k T xs=> .row e k (xs.map (U.pv T))
 | .raw e k es=> .row e k (es.map fun c=>c.map KV.pv)
def cm.pv(o:cm U):ep:=⟨o.an,o.c.pv⟩
def aH.st(S:aH U):St:=⟨fun t=>(S.env t).pv,fun id=>(S.H id).pv,S.N⟩
def fm{α:Type}(f:Nat->α)(i:Nat)(x:α)(j:Nat):α:=
 match Nat.beq j i with
 |true=>x
 |false=>f j
theorem bM{α:Type}(f:Nat->α)(i:Nat)(x:α):fm f i x=bd f i x:=by
 funext j
 unfold fm bd;split
 ·rename_i h;rw[Qr (QF h)]
 ·rename_i h;rw[Qs (Nat.ne_of_beq_eq_false h)]
def aH.bN(S:aH U)(d:Option Nat)(x:KV U)(wr:Option (Nat×cm U)):aH U:=
 {env:=match d with|some d=>fm S.env d x|none=>S.env,H:=match wr with|some (id,o)=>fm S.H id o|none=>S.H,N:=S.N}
def gS(p:Nat×cm U):Nat×ep:=(p.1,p.2.pv)
theorem k8{α β:Type}(g:α->β)(f:Nat->α)(i:Nat)(x:α):(fun j=>g (bd f i x j))=bd (fun j=>g (f j)) i (g x):=by
 funext j
 unfold bd;split<;>rfl
theorem AW(S:aH U)(d:Option Nat)(x:KV U)(wr:Option (Nat×cm U)):(S.bN d x wr).st=S.st.bN d x.pv (wr.map gS):=by
 unfold aH.bN St.bN aH.st;congr 1
 ·cases d with
  |none=>rfl
  |some d=>simp only[bM];exact k8 _ _ _ _
 ·cases wr with
  |none=>rfl
  |some p=>obtain⟨i,o⟩:=p;simp only[bM,Qe,gS];exact k8 _ _ _ _
abbrev Lk(U:TU):=Nat->Nat->(T:U.Ty)->Option (List (U.den T))
def tJ{U:TU}(T' T:U.Ty)(xs:List (U.den T')):Option (List (U.den T)):=
 match U.MV T' T with
 |isTrue h=>some (h▸xs)
 |isFalse _=>none
theorem kf{T' T:U.Ty}{xs:List (U.den T')}{ys:List (U.den T)}(h:tJ T' T xs=some ys):∃e:T'=T,ys=e▸xs:=by
 unfold tJ at h;split at h
 ·rename_i e _;injection h with h;exact⟨e,h.symm⟩
 ·cases h
def aH.lk(S:aH U):Lk U:=fun id an T=>
 match Nat.beq (S.H id).an an with
 |true=>match(S.H id).c with
  | .row _ _ T' xs=>tJ T' T xs
  |_=>none
 |false=>none
def kG:Lk U:=fun _ _ _=>none
def Sg(k:IntKind):KV U->Option Int
 | .int k' n=>if k'=k then some n else none
 |_=>none
def B7:KV U->Option Bool
 | .bool b=>some b
 |_=>none
def Se:KV U->Option ByteArray
 | .str s=>some s
 |_=>none
def La(lk:Lk U)(T:U.Ty):KV U->Option (List (U.den T))
 | .cJ=>some []
 | .sl T' xs=>tJ T' T xs
 | .own id an=>lk id an T
 |_=>none
def Ow{U:TU}(A' B' A B:U.Ty)(xs:List (U.den A'×U.den B')):Option (List (U.den A×U.den B)):=
 match U.MV A' A with
 |isTrue h=>(match U.MV B' B with
  |isTrue h'=>some (h▸h'▸xs)
  |isFalse _=>none)
 |isFalse _=>none
theorem Ov{A' B' A B:U.Ty}{xs:List (U.den A'×U.den B')}{ys:List (U.den A×U.den B)}(h:Ow A' B' A B xs=some ys):∃(e:A'=A) (e':B'=B),ys=e▸e'▸xs:=by
 unfold Ow at h;split at h
 ·rename_i e _;split at h
  ·rename_i e' _;injection h with h;exact⟨e,e',h.symm⟩
  ·cases h
 ·cases h
def Sf(A B:U.Ty):KV U->Option (List (U.den A×U.den B))
 | .fS A' B' xs=>Ow A' B' A B xs
 |_=>none
inductive jz (lk:Lk U):KV U->PV->Prop where
 |int (k:IntKind) (n:Int):jz lk (.int k n) (.int k n)
 |bool (b:Bool):jz lk (.bool b) (.bool b)
 |str (s:ByteArray):jz lk (.str s) (.str s)
 |cJ:jz lk .cJ (.sl [])
 |sl (T:U.Ty) (xs:List (U.den T)):jz lk (.sl T xs) (.sl (xs.map (U.pv T)))
 |own (id an:Nat) (T:U.Ty) (xs:List (U.den T)) (h:lk id an T=some xs):jz lk (.own id an) (.sl (xs.map (U.pv T)))
 |fS (A B:U.Ty) (xs:List (U.den A×U.den B)):jz lk (.fS A B xs) (.fS (xs.map fun p=>cv A p.1) (xs.map fun p=>cv B p.2))
theorem UC{lk:Lk U}{A B:U.Ty}{x:KV U}{xs:List (U.den A×U.den B)}(h:Sf A B x=some xs):jz lk x (.fS (xs.map fun p=>cv A p.1) (xs.map fun p=>cv B p.2)):=by
 unfold Sf at h;split at h
 ·obtain⟨e,e',rfl⟩:=Ov h;subst e;subst e';exact .fS _ _ _
 ·cases h
theorem UE{lk:Lk U}{k:IntKind}{x:KV U}{n:Int}(h:Sg k x=some n):jz lk x (.int k n):=by
 unfold Sg at h;split at h
 ·split at h
  ·rename_i e;injection h with h;subst h e;exact .int _ _
  ·cases h
 ·cases h
theorem UG{lk:Lk U}{x:KV U}{b:Bool}(h:B7 x=some b):jz lk x (.bool b):=by
 unfold B7 at h;split at h
 ·injection h with h;subst h;exact .bool _
 ·cases h
theorem UB{lk:Lk U}{x:KV U}{s:ByteArray}(h:Se x=some s):jz lk x (.str s):=by
 unfold Se at h;split at h
 ·injection h with h;subst h;exact .str _
 ·cases h
theorem UD{lk:Lk U}{T:U.Ty}{x:KV U}{xs:List (U.den T)}(h:La lk T x=some xs):jz lk x (.sl (xs.map (U.pv T))):=by
 unfold La at h;split at h
 ·injection h with h;subst h;exact .cJ
 ·obtain⟨e,rfl⟩:=kf h;subst e;exact .sl _ _
 ·exact .own _ _ _ _ h
 ·cases h
def PV.eU:PV->Bool
 | .int ..| .bool _| .str _| .sl _| .fS ..=>true
 |_=>false
inductive fC (lk:Lk U):List (KV U)->List PV->Prop where
 |nil:fC lk [] []
 |cons {x:KV U} {y:PV} {xs:List (KV U)} {ys:List PV} (h:jz lk x y) (t:fC lk xs ys):fC lk (x::xs) (y::ys)
structure TK (U:TU) where
 bI:(t:U.Ty)->U.den t->List (KV U)
 dec:(t:U.Ty)->Lk U->List (KV U)->Option (U.den t)
 JQ:Nat->Option U.Ty
 mB:∀t v,(bI t v).map KV.pv=U.pv t v
 jr:∀t lk cs v,dec t lk cs=some v->fC lk cs (U.pv t v)
 len:∀t v,(U.pv t v).length=U.size t
 eU:∀t v y,y∈U.pv t v->y.eU=true
 one:∀t,U.agg t=false->U.size t=1
 plain:∀t,U.plain t=true->∀v y,y∈U.pv t v->y.plain=true
 Hz:U.Ty->Option (IntKind×IntKind)
 CL:∀t k l,Hz t=some (k,l)->U.agg t=true/\∀v,∃a b,bI t v=[.int k a,.int l b]
variable (K : TK U)
def qv(T:U.Ty)(v:U.den T):KV U:=
 match U.agg T with
 |true=> .agg (K.bI T v)
 |false=>(K.bI T v).headD .any
def rM(lk:Lk U)(T:U.Ty)(x:KV U):Option (U.den T):=
 match U.agg T with
 |true=>(match x with| .agg cs=>K.dec T lk cs|_=>none)
 |false=>K.dec T lk [x]
theorem q7(T:U.Ty)(v:U.den T):(qv K T v).pv=cv T v:=by
 unfold qv cv;split
 ·simp only[KV.pv,KV.bJ,K.mB]
 ·rename_i h;have h1:=K.len T v;rw[K.one T h]at h1;have h2:=K.mB T v
  cases he:K.bI T v with
  |nil=>rw[he]at h2;simp at h2;rw[h2]at h1;simp at h1
  |cons x l=>rw[he]at h2;rw[<-h2];rfl
def PV.cI:PV->Bool
 | .int ..| .bool _| .str _| .gX| .cJ| .any| .bg _ []=>true
 |_=>false
def KV.oo:PV->KV U
 | .int k n=> .int k n
 | .bool b=> .bool b
 | .str s=> .str s
 | .gX=> .gX
 | .cJ=> .cJ
 | .bg f []=> .bg f []
 |_=> .any
def aP.cI:aP->Bool
 | .tmp _=>true
 | .rA x=>x.cI
def aP.bO(S:aH U):aP->KV U
 | .tmp t=>S.env t
 | .rA x=>KV.oo x
theorem rn{S:aH U}{x:aP}(h:x.cI=true):x.val S.st=(x.bO S).pv:=by
 cases x with
 |tmp t=>rfl
 |rA x=>
  simp only[aP.cI]at h;unfold PV.cI at h;split at h<;>first|rfl|(cases h)
def KV.cells:KV U->List (KV U)
 | .agg cs=>cs
 |x=>[x]
def KV.one:KV U->Bool
 | .int ..| .bool _| .eL| .str _| .gX| .cJ| .bg ..| .gk ..| .ptr ..| .dE ..| .ref _| .sl ..| .own ..| .view ..| .fS ..=>true
 |_=>false
def KV.closed:KV U->Bool
 | .int ..| .bool _| .str _| .gX| .cJ| .sl ..| .ref _| .fS ..=>true
 | .bg _ []=>true
 |_=>false
def KV.aX:KV U->Bool
 | .agg cs| .c6 cs| .bg _ cs=>cs.all KV.closed
 |x=>x.closed
theorem Vm(x:KV U):x.pv.one=x.one:=by cases x<;>simp[KV.pv,PV.one,KV.one]
theorem P8(x:KV U):x.pv.closed=x.closed:=by
 cases x with
 |bg f cs=>cases cs<;>simp[KV.pv,KV.w5,PV.closed,KV.closed]
 |_=>simp[KV.pv,PV.closed,KV.closed]
theorem qO(x:KV U):x.pv.cells=x.cells.map KV.pv:=by cases x<;>simp[KV.pv,PV.cells,KV.cells,KV.bJ]
theorem jP(l:List (KV U)):(l.map KV.pv).all PV.closed=l.all KV.closed:=by
 induction l with
 |nil=>rfl
 |cons x l ih=>simp only[QD,List.all_cons,P8,ih]
theorem o9(l:List (KV U)):(l.map KV.pv).all PV.one=l.all KV.one:=by
 induction l with
 |nil=>rfl
 |cons x l ih=>simp only[QD,List.all_cons,Vm,ih]
theorem Oo(x:KV U):x.pv.aX=x.aX:=by
 cases x with
 |agg cs=>simp only[KV.pv,PV.aX,KV.aX,KV.bJ];exact jP cs
 |c6 cs=>simp only[KV.pv,PV.aX,KV.aX,KV.bJ];exact jP cs
 |bg f cs=>simp only[KV.pv,PV.aX,KV.aX,KV.bJ];exact jP cs
 |_=>simp[KV.pv,PV.aX,KV.aX,PV.closed,KV.closed]
end
end Go.TQ
end
noncomputable section
namespace Go.TQ
open Go.RowKit
section
variable {P : Program} {nt : Nat} {hs : List Nat}
theorem ug{c:Code}{x y:SC}(h:ay P nt hs c=some (.seq x y)):∃p q,c= .seq p q/\ay P nt hs p=some x/\ay P nt hs q=some y:=by
 cases c with
 |seq p q=>
  simp only[ay]at h;split at h
  ·rename_i x' y' hx hy;injection h with h
   injection h with h1 h2
   subst h1 h2;exact⟨p,q,rfl,hx,hy⟩
  ·cases h
 |region id ops d=>cases d<;>simp only[ay]at h<;>(try split at h)<;>(try split at h)<;>(try split at h)<;>cases h
 |cond c x y=>simp only[ay]at h;split at h<;>cases h
 |block id c=>simp only[ay,Qb]at h;obtain⟨_,_,h⟩:=h;cases h
 |loop c=>simp only[ay,Qb]at h;obtain⟨_,_,h⟩:=h;cases h
 |rangeFunc g ps x y=>simp only[ay]at h;split at h<;>(try split at h)<;>cases h
 |_=>simp only[ay]at h<;>cases h
theorem GI{c:Code}{o:aP}{x y:SC}(h:ay P nt hs c=some (.cond o x y)):∃o' p q,c= .cond o' p q/\aT o'=some o/\ay P nt hs p=some x/\ay P nt hs q=some y:=by
 cases c with
 |cond o' p q=>
  simp only[ay]at h;split at h
  ·rename_i c' x' y' hc hx hy;injection h with h
   injection h with h1 h2 h3
   subst h1 h2 h3;exact⟨o',p,q,rfl,hc,hx,hy⟩
  ·cases h
 |region id ops d=>cases d<;>simp only[ay]at h<;>(try split at h)<;>(try split at h)<;>(try split at h)<;>cases h
 |seq x y=>simp only[ay]at h;split at h<;>cases h
 |block id c=>simp only[ay,Qb]at h;obtain⟨_,_,h⟩:=h;cases h
 |loop c=>simp only[ay,Qb]at h;obtain⟨_,_,h⟩:=h;cases h
 |rangeFunc g ps x y=>simp only[ay]at h;split at h<;>(try split at h)<;>cases h
 |_=>simp only[ay]at h<;>cases h
theorem DR{c:Code}{id:Nat}{x:SC}(h:ay P nt hs c=some (.block id x)):∃p,c= .block id p/\ay P nt hs p=some x:=by
 cases c with
 |block j p=>
  simp only[ay,Qb]at h;obtain⟨x',hx,h⟩:=h;injection h with h1 h2
  subst h1 h2;exact⟨p,rfl,hx⟩
 |region id ops d=>cases d<;>simp only[ay]at h<;>(try split at h)<;>(try split at h)<;>(try split at h)<;>cases h
 |seq x y=>simp only[ay]at h;split at h<;>cases h
 |cond c x y=>simp only[ay]at h;split at h<;>cases h
 |loop c=>simp only[ay,Qb]at h;obtain⟨_,_,h⟩:=h;cases h
 |rangeFunc g ps x y=>simp only[ay]at h;split at h<;>(try split at h)<;>cases h
 |_=>simp only[ay]at h<;>cases h
theorem Ot{c:Code}{x:SC}(h:ay P nt hs c=some (.loop x)):∃p,c= .loop p/\ay P nt hs p=some x:=by
 cases c with
 |loop p=>
  simp only[ay,Qb]at h;obtain⟨x',hx,h⟩:=h;injection h with h1
  subst h1;exact⟨p,rfl,hx⟩
 |region id ops d=>cases d<;>simp only[ay]at h<;>(try split at h)<;>(try split at h)<;>(try split at h)<;>cases h
 |seq x y=>simp only[ay]at h;split at h<;>cases h
 |cond c x y=>simp only[ay]at h;split at h<;>cases h
 |block id c=>simp only[ay,Qb]at h;obtain⟨_,_,h⟩:=h;cases h
 |rangeFunc g ps x y=>simp only[ay]at h;split at h<;>(try split at h)<;>cases h
 |_=>simp only[ay]at h<;>cases h
theorem IZ{c:Code}{gs:List SG}(h:ay P nt hs c=some (.pf gs)):∃id ops,c= .region id ops false/\ops.toList.mapM (pt P hs ops)=some gs/\∀o∈ops.toList,∀t,o.dst=some t->t<nt:=by
 cases c with
 |region id ops d=>
  cases d with
  |true=>simp only[ay]at h;(try split at h)<;>(try split at h)<;>(try split at h)<;>cases h
  |false=>
   simp only[ay]at h;split at h
   ·rename_i gs' hgs;split at h
    ·rename_i hd;injection h with h
     injection h with h
     subst h;exact⟨id,ops,rfl,hgs,GD hd⟩
    ·cases h
   ·cases h
 |seq x y=>simp only[ay]at h;split at h<;>cases h
 |cond c x y=>simp only[ay]at h;split at h<;>cases h
 |block id c=>simp only[ay,Qb]at h;obtain⟨_,_,h⟩:=h;cases h
 |loop c=>simp only[ay,Qb]at h;obtain⟨_,_,h⟩:=h;cases h
 |rangeFunc g ps x y=>simp only[ay]at h;split at h<;>(try split at h)<;>cases h
 |_=>simp only[ay]at h<;>cases h
theorem Ou{c:Code}{id:Nat}(h:ay P nt hs c=some (.exit id)):c= .exit id:=by
 cases c with
 |exit j=>simp only[ay,Qf,SC.exit.injEq]at h;rw[h]
 |region id ops d=>cases d<;>simp only[ay]at h<;>(try split at h)<;>(try split at h)<;>(try split at h)<;>cases h
 |seq x y=>simp only[ay]at h;split at h<;>cases h
 |cond c x y=>simp only[ay]at h;split at h<;>cases h
 |block id c=>simp only[ay,Qb]at h;obtain⟨_,_,h⟩:=h;cases h
 |loop c=>simp only[ay,Qb]at h;obtain⟨_,_,h⟩:=h;cases h
 |rangeFunc g ps x y=>simp only[ay]at h;split at h<;>(try split at h)<;>cases h
 |_=>simp only[ay]at h<;>cases h
theorem GH{c:Code}(h:ay P nt hs c=some .skip):c= .skip:=by
 cases c with
 |skip=>rfl
 |region id ops d=>cases d<;>simp only[ay]at h<;>(try split at h)<;>(try split at h)<;>(try split at h)<;>cases h
 |seq x y=>simp only[ay]at h;split at h<;>cases h
 |cond c x y=>simp only[ay]at h;split at h<;>cases h
 |block id c=>simp only[ay,Qb]at h;obtain⟨_,_,h⟩:=h;cases h
 |loop c=>simp only[ay,Qb]at h;obtain⟨_,_,h⟩:=h;cases h
 |rangeFunc g ps x y=>simp only[ay]at h;split at h<;>(try split at h)<;>cases h
 |_=>simp only[ay]at h<;>cases h
theorem Q5{c:Code}(h:ay P nt hs c=some .ret):c= .ret:=by
 cases c with
 |ret=>rfl
 |region id ops d=>cases d<;>simp only[ay]at h<;>(try split at h)<;>(try split at h)<;>(try split at h)<;>cases h
 |seq x y=>simp only[ay]at h;split at h<;>cases h
 |cond c x y=>simp only[ay]at h;split at h<;>cases h
 |block id c=>simp only[ay,Qb]at h;obtain⟨_,_,h⟩:=h;cases h
 |loop c=>simp only[ay,Qb]at h;obtain⟨_,_,h⟩:=h;cases h
 |rangeFunc g ps x y=>simp only[ay]at h;split at h<;>(try split at h)<;>cases h
 |_=>simp only[ay]at h<;>cases h
theorem fZ{α β:Type}{f:α->Option β}{l:List α}{y:β}{ys:List β}(h:l.mapM f=some (y::ys)):∃x xs,l=x::xs/\f x=some y/\xs.mapM f=some ys:=by
 cases l with
 |nil=>simp at h
 |cons x xs=>
  simp only[List.mapM_cons,Qd,Qc,Option.pure_def,Qf,List.cons.injEq]at h;obtain⟨z,hz,zs,hzs,rfl,rfl⟩:=h;exact⟨x,xs,rfl,hz,hzs⟩
theorem BJ{α β:Type}{f:α->Option β}{l:List α}(h:l.mapM f=some []):l=[]:=by
 cases l with
 |nil=>rfl
 |cons x xs=>
  simp only[List.mapM_cons,Qd,Qc,Option.pure_def,Qf]at h;obtain⟨z,hz,zs,hzs,h⟩:=h;cases h
theorem P5{o:Oper}{fv:aP}{xs:List aP}(h:DO P hs o=some (.o8 fv xs)):∃(g:Operand) (args:Array Operand) (ts:Array TypeId),o.op= .call {callee:= .value g,args:=args,argTypes:=ts}/\aT g=some fv/\args.toList.mapM aT=some xs:=by
 unfold DO at h;split at h
 case h_22 fop args ats hop=>
  simp only[Qd,Qc]at h;obtain⟨ys,hys,h⟩:=h;split at h
  ·cases h
  ·simp only[Qc,Qf,bn.o8.injEq]at h;obtain⟨fv',hfv,rfl,rfl⟩:=h;exact⟨_,_,_,hop,hfv,hys⟩
 all_goals (repeat' (first|(cases h;done)|split at h|(simp only[Qd,Qc]at h;obtain⟨_,_,h⟩:=h)|(obtain⟨_,_,h⟩:=h)))
theorem qM{x:Operand}{t:Nat}(h:aT x=some (.tmp t)):x= .tmp t:=by
 cases x with
 |tmp u=>simp only[aT,Qf,aP.tmp.injEq]at h;rw[h]
 |const v=>simp only[aT,Qb]at h;obtain⟨_,_,h⟩:=h;cases h
 |global g=>simp[aT]at h
 |func f=>simp[aT]at h
end
def wx(k:Nat)(nE:Option Nat):SC:=
 .seq (.pf [⟨some 4,none,.load none (.tmp 1)⟩,⟨some 5,none,.len false (.tmp 4)⟩,⟨some 6,none,.bin .sub (.tmp 5) (.rA (.int .i64 1))⟩,⟨some 3,none,.jS (.tmp 6)⟩])
  (.block 0 (.loop (.seq (.seq (.pf [⟨some 7,none,.jS (.tmp 3)⟩,⟨some 8,none,.bin .geq (.tmp 7) (.rA (.int .i64 0))⟩]) (.cond (.tmp 8) .skip (.exit 0)))
   (.seq (.block 1 (.seq (.pf [⟨some 11,none,.jS (.tmp 0)⟩,⟨some 12,none,.jS (.tmp 3)⟩,⟨some 13,none,.load none (.tmp 1)⟩,⟨some 14,none,.jS (.tmp 3)⟩,⟨some 15,none,.mg k (.tmp 13) (.tmp 14)⟩,
    ⟨some 16,none,.load nE (.tmp 15)⟩,⟨some 17,none,.o8 (.tmp 11) [.tmp 12,.tmp 16]⟩,⟨some 18,none,.not (.tmp 17)⟩]) (.cond (.tmp 18) .ret .skip)))
    (.pf [⟨some 9,none,.jS (.tmp 3)⟩,⟨some 10,none,.bin .sub (.tmp 9) (.rA (.int .i64 1))⟩,⟨some 3,none,.jS (.tmp 10)⟩])))))
section
variable {P : Program}
def IB:kL:=fun _=>none
theorem Kv:iG P IB:=fun _ _ h=>by cases h
theorem J6{Γ:kL}(hΓ:iG P Γ){E:En}{hs:List Nat}{ops:Array Oper}{l2:List Oper}:∀(l:List Oper) (gs:List SG) (nid:Nat) (S S':St) (a:Act) (w:World) (L:Nat->Value),l.mapM (pt P hs ops)=some gs->Rel E S a w L->nid+l.length<=S.N->
  (∀o∈l,∀t,o.dst=some t->E.can t)->rQ Γ nid gs S=some S'->∀{Q:Exit->Act->World->Prop},(∀a' w' L',Rel E S' a' w' L'->wpListIn (WF E.rd) 0 P ops Q l2 a' w')->wpListIn (WF E.rd) 0 P ops Q (l++l2) a w
 |[],gs,nid,S,S',a,w,L,hm,h,hN,hd,hr,Q,hQ=>by
  simp at hm;subst hm;simp only[rQ,Qf]at hr;subst hr;exact hQ a w L h
 |o::l,gs,nid,S,S',a,w,L,hm,h,hN,hd,hr,Q,hQ=>by
  simp only[List.mapM_cons,Qd,Qc,Option.pure_def,Qf]at hm;obtain⟨g,hg,gs',hgs,rfl⟩:=hm;simp only[rQ]at hr;split at hr
  ·rename_i S1 hs;rw[List.cons_append];refine wpListIn_step fun K hK=> ?_
   refine q9 hΓ hg h (by simp at hN;omega) (hd o (by simp)) hs (fun a' w' L' h'=>hK _ _ ?_)
   exact J6 hΓ l gs' (nid+1) S1 S' a' w' L' hgs h' (by rw[SS hs];simp at hN;omega) (fun o' ho'=>hd o' (by simp[ho'])) hr hQ
  ·cases hr
def EB(W:World)(X:Nat->Prop)(hX:∀b,X b->b<W.heap.size)(kt:Nat->Option Value):En:=
 {w0:=W,rb:=none,nt:=19,X:=X,hX:=hX,EO:=false,rv:=undef,rk:=false,Gn:=fun b hb=>(by cases hb),KL:=fun h=>(by cases h),rd:=none,nd:=true,kt:=kt,wk:={W with heap:=#[]}}
def SB(env:Nat->PV):St:={env:=env,H:=fun _=>⟨0,.dead⟩,N:=8}
theorem Jw{W:World}{X:Nat->Prop}(hX:∀b,X b->b<W.heap.size){kt:Nat->Option Value}{env:Nat->PV}{a:Act}{L:Nat->Value}(hd:a.defers=[])(hs:a.tmps.size=19)(hk:∀t v,kt t=some v->a.tmps.getD t undef=v)
  (he:∀t,aL W X cq (env t) (a.tmps.getD t undef)):Rel (EB W X hX kt) (SB env) a W L:=by
 have hM:∀b,aQ (EB W X hX kt) (SB env) L b->X b:=by
  rintro b (⟨id,_,hl,_⟩|h)
  ·cases hl
  ·exact h
 exact⟨Marks.nil hd,⟨hs,hk⟩,fun t=>(he t).mono (cW.of fun _ hn=>fun h=>hn (hM _ h)) (cq.le _),fun _ _=>trivial,fun i j b _ _ hi=>(by cases hi),fun _ _=>rfl,⟨Fr.refl _ _,vj rfl⟩,fun h=>(by cases h)⟩
structure BF (y c:Value) (i:Int) (a:Act):Prop where
 defers:a.defers=[]
 size:a.tmps.size=19
 y:a.tmps.getD 0 undef=y
 c:a.tmps.getD 1 undef=c
 i:a.tmps.getD 3 undef= .int .i64 i
def tT(y c:Value)(t:Nat):Option Value:=if t=0 then some y else if t=1 then some c else none
theorem vL{W W':World}{X:Nat->Prop}{hX:∀b,X b->b<W.heap.size}{kt:Nat->Option Value}{S:St}{a:Act}{L:Nat->Value}(h:Rel (EB W X hX kt) S a W' L):Fr none W W':=h.fr.toFr
theorem CR{hs:List Nat}{ops:Array Oper}{p:Nat->Prop}:∀{l:List Oper} {gs:List SG},l.mapM (pt P hs ops)=some gs->(∀g∈gs,∀t,g.d=some t->p t)->∀o∈l,∀t,o.dst=some t->p t
 |[],_,_,_=>by simp
 |x::l,gs,h,hp=>by
  simp only[List.mapM_cons,Qd,Qc,Option.pure_def,Qf]at h;obtain⟨g,hg,gs',hgs,rfl⟩:=h;intro o ho t ht;rcases QA.1 ho with rfl|ho
  ·exact hp g Qx t (by rw[(Ca hg).2.1];exact ht)
  ·exact CR hgs (fun g hg=>hp g (Qy _ hg)) o ho t ht
def wi(es:List (List PV))(x:Nat->PV)(t:Nat):PV:=if t=1 then .ref [.sl es]else x t
variable {hs : List Nat} {es : List (List PV)} {y c : Value} {W : World} {X : Nat -> Prop} {hX : ∀ b, X b -> b < W.heap.size} {a : Act}
theorem BF.env{i:Int}(h:BF y c i a)(hc:aL W X cq (.ref [.sl es]) c)(t:Nat):aL W X cq (wi es (fun t=>if t=3 then .int .i64 i else .any) t) (a.tmps.getD t undef):=by
 unfold wi;split
 ·rename_i e;rw[e,h.c];exact hc
 ·simp only;split
  ·rename_i e;rw[e,h.i];exact .int _ _
  ·exact .any _
theorem BF.kt{i:Int}(h:BF y c i a)(t:Nat)(v:Value)(hv:tT y c t=some v):a.tmps.getD t undef=v:=by
 unfold tT at hv;split at hv
 ·rename_i e;injection hv with hv;rw[e,h.y,hv]
 ·split at hv
  ·rename_i e;injection hv with hv;rw[e,h.c,hv]
  ·cases hv
theorem BF.rel{i:Int}(h:BF y c i a)(hc:aL W X cq (.ref [.sl es]) c)(L:Nat->Value):Rel (EB W X hX (tT y c)) (SB (wi es fun t=>if t=3 then .int .i64 i else .any)) a W L:=
 Jw hX h.defers h.size h.kt (h.env hc)
theorem Nx{c0:Code}{gs:List SG}(hcc:ay P 19 hs c0=some (.pf gs)){env:Nat->PV}{S':St}(hlen:gs.length<=8)(hd:∀g∈gs,∀t,g.d=some t->t≠0/\t≠1){L:Nat->Value}(h:Rel (EB W X hX (tT y c)) (SB env) a W L)
  (hr:rQ IB 0 gs (SB env)=some S') {Q:Exit->Act->World->Prop} (hQ:∀a' W' L',Rel (EB W X hX (tT y c)) S' a' W' L'->Q .normal a' W'):c0.wpIn (WF none) 0 P Q a W:=by
 obtain⟨id,ops,rfl,hm,hlt⟩:=IZ hcc;refine wpIn_region_list ?_;have hl:=nC hm;refine uV (E:=EB W X hX (tT y c)) Kv ops.toList gs 0 (SB env) S' a W L hm h (by simp only[SB];omega) (fun o ho t ht=>⟨hlt o ho t ht,?_⟩) hr hQ
 have:=CR (p:=fun t=>t≠0/\t≠1) hm hd o ho t ht
 show tT y c t=none;unfold tT;rw[Qs this.1,Qs this.2]
theorem BF.of{S':St}{W':World}{L':Nat->Value}{i:Int}{a':Act}(h:Rel (EB W X hX (tT y c)) S' a' W' L')(hi:S'.env 3= .int .i64 i):BF y c i a':=by
 refine⟨h.defers.none rfl,h.size.1,h.size.2 0 y rfl,h.size.2 1 c rfl,?_⟩;have:=h.env 3;rw[hi]at this;exact this.dW
theorem Va(hc:aL W X cq (.ref [.sl es]) c):es.length<=maxLen:=by
 cases hc with
 |ref _ ad vs hl hcell h=>
  cases vs with
  |nil=>simp at hl
  |cons v vs=>
   have h1:=h 0 (.sl es) v (by simp) (by simp)
   cases h1 with
   |sl _ _ _ _ _ _ _ _ _ hn hm=>omega
   |slnil=>simp
theorem wrap_small{n:Int}(h: -1<=n)(h':n<=9223372036854775807):IntKind.i64.wrap n=n:=by
 rw[IntKind.wrap_i64];omega
def ua(nE:Option Nat)(e:List PV):PV:=(nS nE e).getD .any
structure Cp (k:Nat) (nE:Option Nat) (es:List (List PV)):Prop where
 len:∀e∈es,e.length=k
 ld:∀e∈es,nS nE e=some (ua nE e)
 cl:∀e∈es,(ua nE e).aX=true
def Lu(P:Program)(l:Nat)(i:Nat)(v:Value)(W:World)(R:Ending->World->Prop):Prop:=
 ∃(fn:FuncId) (tmps:Array Value) (assign body:Code),(Instr.yield l #[.int .i64 i,v]).run P W= .ok (.round l fn tmps assign body) W/\RoundIn (WF none) 0 P l fn tmps assign body W R
theorem RE{k:Nat}{nE:Option Nat}{l:Nat}{m:Nat}(hin:Cp k nE es)(hX:∀b,X b->b<W.heap.size)(hc:aL W X cq (.ref [.sl es]) c){J0 J1:World->Prop}(hJ0:∀W',Fr none W W'->J0 W')
  (hJ:∀W' W'',J1 W'->Fr none W' W''->J1 W'') {Jx:World->Prop} (hJx:∀W' W'',Jx W'->Fr none W' W''->Jx W'')
  (hr:∀(W':World) (e:List PV) (v:Value),J0 W'->es[m]?=some e->aL W' X cq (ua nE e) v->Lu P l m v W' fun en W''=>(en= .returned (.bool true)/\J1 W'')\/(en= .returned (.bool false)/\Jx W''))
  {c0:Code} (hcc:ay P 19 hs c0=some (.pf [⟨some 11,none,.jS (.tmp 0)⟩,⟨some 12,none,.jS (.tmp 3)⟩,⟨some 13,none,.load none (.tmp 1)⟩,⟨some 14,none,.jS (.tmp 3)⟩,⟨some 15,none,.mg k (.tmp 13) (.tmp 14)⟩,
    ⟨some 16,none,.load nE (.tmp 15)⟩,⟨some 17,none,.o8 (.tmp 11) [.tmp 12,.tmp 16]⟩,⟨some 18,none,.not (.tmp 17)⟩]))
  (hm:m<es.length) (hB:BF (.func (.yield l) #[] #[]) c m a) {Q:Exit->Act->World->Prop}
  (hQ:∀a' W' b,BF (.func (.yield l) #[] #[]) c m a'->a'.tmps.getD 18 undef= .bool (!b)->(b=true->J1 W')->(b=false->Jx W')->Q .normal a' W'):c0.wpIn (WF none) 0 P Q a W:=by
 obtain⟨id,ops,rfl,hmm,hlt⟩:=IZ hcc;refine wpIn_region_list ?_;obtain⟨o11,l1,e1,g11,hm1⟩:=fZ hmm;obtain⟨o12,l2,rfl,g12,hm2⟩:=fZ hm1;obtain⟨o13,l3,rfl,g13,hm3⟩:=fZ hm2;obtain⟨o14,l4,rfl,g14,hm4⟩:=fZ hm3;obtain⟨o15,l5,rfl,g15,hm5⟩:=fZ hm4;obtain⟨o16,l6,rfl,g16,hm6⟩:=fZ hm5;obtain⟨o17,l7,rfl,g17,hm7⟩:=fZ hm6;obtain⟨o18,l8,rfl,g18,hm8⟩:=fZ hm7;have:=BJ hm8;subst this;rw[e1]at hlt ⊢
 have plain:∀{o:Oper} {d:Option Nat} {s:bn},pt P hs ops o=some ⟨d,none,s⟩->o.guard=none/\o.dst=d/\DO P hs o=some s:=by
  intro o d s hg;obtain⟨q1,q2,q3⟩:=Ca hg;rcases q3 with⟨q3,_⟩|⟨_,_,_,_,_,_,_,q⟩
  ·exact⟨q3,q2.symm,q1⟩
  ·cases q
 obtain⟨u1,u2,u3⟩:=plain g11
 have hmv:(o11.op= .move (.tmp 0)\/o11.op= .assign (.tmp 0)):=by
  unfold DO at u3;split at u3
  case h_1 x hx=>simp only[Qd,Qc,Qf,bn.jS.injEq]at u3;obtain⟨z,hz,rfl⟩:=u3;rw[qM hz]at hx;exact .inl hx
  case h_2 x hx=>simp only[Qd,Qc,Qf,bn.jS.injEq]at u3;obtain⟨z,hz,rfl⟩:=u3;rw[qM hz]at hx;exact .inr hx
  all_goals (exfalso)
  all_goals (repeat' (first|(cases u3;done)|split at u3|(simp only[Qd,Qc]at u3;obtain⟨_,_,u3⟩:=u3)|(obtain⟨_,_,u3⟩:=u3)))
 refine wpListIn_plain u1 fun K hK=> ?_
 have hev:a.eval (.tmp 0)= .func (.yield l) #[] #[]:=hB.y
 have step1:∀{Q':Exit->Act->World->Prop},K (a.put (some 11) (.func (.yield l) #[] #[])) W->o11.wpIn (WF none) 0 P a W K Q':=by
  intro Q' hk;unfold Oper.wpIn;rw[Oper.semAt_eq _ _ _ (xO u3)]
  have hrun:(execOp a.eval o11).run P W= .ok (.value (.func (.yield l) #[] #[])) W:=by
   rcases hmv with hx|hx<;>simp[execOp,hx,hev]
  rw[hrun];refine⟨fun _ _=>trivial,?_⟩
  show K (a.put o11.dst _) W;rw[u2];exact hk
 refine step1 (hK _ _ ?_);have hsz:(a.put (some 11) (.func (.yield l) #[] #[])).tmps.size=19:=by simp[Act.put,hB.size]
 have hne:∀t,t≠11->(a.put (some 11) (.func (.yield l) #[] #[])).tmps.getD t undef=a.tmps.getD t undef:=fun t ht=>Eo ht
 have h11:(a.put (some 11) (.func (.yield l) #[] #[])).tmps.getD 11 undef= .func (.yield l) #[] #[]:=by
  simp[Act.put,QN,Array.getElem?_setIfInBounds_self_of_lt (show 11<a.tmps.size by rw[hB.size];omega)]
 have hrel:Rel (EB W X hX (fun t=>if t=11 then some (.func (.yield l) #[] #[])else tT (.func (.yield l) #[] #[]) c t)) (SB (wi es fun t=>if t=3 then .int .i64 m else .any)) (a.put (some 11) (.func (.yield l) #[] #[])) W (fun _=>undef):=by
  refine Jw hX hB.defers hsz (fun t v hv=> ?_) (fun t=> ?_)
  ·by_cases h0:t=11
   ·rw[Qr h0]at hv;injection hv with hv;rw[h0,h11,hv]
   ·rw[Qs h0]at hv;rw[hne t h0];exact hB.kt t v hv
  ·by_cases h0:t=11
   ·have:wi es (fun t=>if t=3 then .int .i64 m else .any) t= .any:=by rw[h0];rfl
    rw[this];exact .any _
   ·rw[hne t h0];exact hB.env hc t
 have helt:es[m]?=some es[m]:=Qv hm;have hek:=hin.len _ (Q0 hm);have hld:=hin.ld _ (Q0 hm);have s12:pU IB 0 (SB (wi es fun t=>if t=3 then .int .i64 m else .any)) ⟨some 12,none,.jS (.tmp 3)⟩=some ((SB (wi es fun t=>if t=3 then .int .i64 m else .any)).bN (some 12) (.int .i64 m) none):=rfl
 generalize hS1:(SB (wi es fun t=>if t=3 then .int .i64 m else .any)).bN (some 12) (.int .i64 m) none=S1 at s12
 have s13:pU IB 1 S1 ⟨some 13,none,.load none (.tmp 1)⟩=some (S1.bN (some 13) (.sl es) none):=by subst hS1;rfl
 generalize hS2:S1.bN (some 13) (.sl es) none=S2 at s13;have s14:pU IB 2 S2 ⟨some 14,none,.jS (.tmp 3)⟩=some (S2.bN (some 14) (.int .i64 m) none):=by subst hS2 hS1;rfl
 generalize hS3:S2.bN (some 14) (.int .i64 m) none=S3 at s14;have e13:S3.env 13= .sl es:=by subst hS3 hS2 hS1;rfl
 have e14:S3.env 14= .int .i64 m:=by subst hS3 hS2 hS1;rfl
 have s15:pU IB 3 S3 ⟨some 15,none,.mg k (.tmp 13) (.tmp 14)⟩=some (S3.bN (some 15) (.ref es[m]) none):=by
  simp only[pU,SG.wanted,exec,aP.val,e13,e14];rw[Qr ⟨by omega,by omega⟩]
  simp only[QV,helt,hek,Qt,Qe]
 generalize hS4:S3.bN (some 15) (.ref es[m]) none=S4 at s15;have e15:S4.env 15= .ref es[m]:=by subst hS4;rfl
 have s16:pU IB 4 S4 ⟨some 16,none,.load nE (.tmp 15)⟩=some (S4.bN (some 16) (ua nE es[m]) none):=by
  simp only[pU,SG.wanted,exec,aP.val,e15,hld,Qe]
 generalize hS5:S4.bN (some 16) (ua nE es[m]) none=S5 at s16;have f12:S5.env 12= .int .i64 m:=by subst hS5 hS4 hS3 hS2 hS1;rfl
 have f16:S5.env 16=ua nE es[m]:=by subst hS5;rfl
 have f3:S5.env 3= .int .i64 m:=by subst hS5 hS4 hS3 hS2 hS1;rfl
 have hrun:rQ IB 0 [⟨some 12,none,.jS (.tmp 3)⟩,⟨some 13,none,.load none (.tmp 1)⟩,⟨some 14,none,.jS (.tmp 3)⟩,⟨some 15,none,.mg k (.tmp 13) (.tmp 14)⟩,⟨some 16,none,.load nE (.tmp 15)⟩] (SB (wi es fun t=>if t=3 then .int .i64 m else .any))=some S5:=by
  simp only[rQ,s12,s13,s14,s15,s16]
 have hmap:[o12,o13,o14,o15,o16].mapM (pt P hs ops)=some [⟨some 12,none,.jS (.tmp 3)⟩,⟨some 13,none,.load none (.tmp 1)⟩,⟨some 14,none,.jS (.tmp 3)⟩,⟨some 15,none,.mg k (.tmp 13) (.tmp 14)⟩,⟨some 16,none,.load nE (.tmp 15)⟩]:=by
  simp only[List.mapM_cons,List.mapM_nil,g12,g13,g14,g15,g16,Qd,Qa,Option.pure_def]
 show wpListIn (WF none) 0 P ops Q ([o12,o13,o14,o15,o16]++[o17,o18]) _ W;refine J6 (E:=EB W X hX _) Kv _ _ 0 _ S5 _ W _ hmap hrel (by simp[SB]) (fun o ho t ht=>⟨hlt o (by simp only[QA]at ho ⊢;right;rcases ho with h|h|h|h|h|h<;>simp_all) t ht,?_⟩) hrun (fun a5 W5 L5 h5=> ?_)
 ·have:=CR (p:=fun t=>t≠0/\t≠1/\t≠11) hmap (by intro g hg t ht;simp only[QA,QR,or_false]at hg;rcases hg with rfl|rfl|rfl|rfl|rfl<;>(injection ht with ht;omega)) o ho t ht
  show(if t=11 then _ else tT _ _ t)=none
  rw[Qs this.2.2];unfold tT;rw[Qs this.1,Qs this.2.1]
 have hfr5:Fr none W W5:=vL h5;have v11:a5.tmps.getD 11 undef= .func (.yield l) #[] #[]:=h5.size.2 11 _ rfl;have v12:a5.tmps.getD 12 undef= .int .i64 m:=by have:=h5.env 12;rw[f12]at this;exact this.dW
 have r16:aL W5 X cq (ua nE es[m]) (a5.tmps.getD 16 undef):=by
  have:=h5.env 16;rw[f16]at this;exact this.aX (hin.cl _ (Q0 hm)) (fun b hb=> .inr hb)
 have hB5:BF (.func (.yield l) #[] #[]) c m a5:=⟨h5.defers.none rfl,h5.size.1,h5.size.2 0 _ rfl,h5.size.2 1 _ rfl,by have:=h5.env 3;rw[f3]at this;exact this.dW⟩
 obtain⟨fn,tmps,assign,body,hy,hround⟩:=hr W5 _ _ (hJ0 W5 hfr5) helt r16;obtain⟨w1,w2,w3⟩:=plain g17;obtain⟨gv,args,ts,hop,hgv,hargs⟩:=P5 w3;have hgv:=qM hgv;subst hgv;obtain⟨x12,xs,ex,hx12,hxs⟩:=fZ hargs;obtain⟨x16,xs',rfl,hx16,hxs'⟩:=fZ hxs;have:=BJ hxs';subst this;rw[qM hx12,qM hx16]at ex;have hargs':args=#[.tmp 12,.tmp 16]:=by rw[<-Array.toArray_toList (xs:=args),ex]
 refine wpListIn_plain w1 fun K hK=> ?_
 unfold Oper.wpIn;rw[Oper.semAt_eq _ _ _ (xO w3)]
 have hrun17:(execOp a5.eval o17).run P W5= .ok (.round l fn tmps assign body) W5:=by
  have q1:a5.eval (.tmp 11)= .func (.yield l) #[] #[]:=v11;simp only[execOp,hop,resolve,q1,Deferred.ofValue,Sem.run_bind,Sem.run_pure,Result.andThen_ok,invoke,hargs'];have q4:a5.tmps[12]?.getD undef= .int .i64 m:=by rw[<-QN];exact v12
  simpa[Act.eval,q4]using hy
 rw[hrun17];refine⟨fun _ _=>trivial,(fun h=>by cases h),hround.mono ?_⟩
 rintro en W6 hen
 have fin:∀b:Bool,en= .returned (.bool b)->(b=true->J1 W6)->(b=false->Jx W6)->K (a5.put o17.dst (.bool b)) W6:=by
  rintro b rfl hj1 hjx;refine hK _ _ ?_;rw[w2];have hsz6:(a5.put (some 17) (.bool b)).tmps.size=19:=by simp[Act.put,hB5.size]
  have hne6:∀t,t≠17->(a5.put (some 17) (.bool b)).tmps.getD t undef=a5.tmps.getD t undef:=fun t ht=>Eo ht
  have h17:(a5.put (some 17) (.bool b)).tmps.getD 17 undef= .bool b:=by
   simp[Act.put,QN,Array.getElem?_setIfInBounds_self_of_lt (show 17<a5.tmps.size by rw[hB5.size];omega)]
  have hrel6:Rel (EB W6 (fun _=>False) (fun _ h=>h.elim) (tT (.func (.yield l) #[] #[]) c)) (SB fun t=>if t=17 then .bool b else if t=3 then .int .i64 m else .any) (a5.put (some 17) (.bool b)) W6 (fun _=>undef):=by
   refine Jw _ hB5.defers hsz6 (fun t v hv=> ?_) (fun t=> ?_)
   ·by_cases h0:t=17
    ·subst h0;cases hv
    ·rw[hne6 t h0];exact hB5.kt t v hv
   ·split
    ·rename_i h0;rw[h0,h17];exact .bool _
    ·rename_i h0;rw[hne6 t h0];split
     ·rename_i h3;rw[h3,hB5.i];exact .int _ _
     ·exact .any _
  have hmap18:[o18].mapM (pt P hs ops)=some [⟨some 18,none,.not (.tmp 17)⟩]:=by simp only[List.mapM_cons,List.mapM_nil,g18,Qd,Qa,Option.pure_def]
  refine uV (E:=EB W6 (fun _=>False) (fun _ h=>h.elim) _) Kv _ _ 0 _ ((SB fun t=>if t=17 then .bool b else if t=3 then .int .i64 m else .any).bN (some 18) (.bool !b) none) _ W6 _ hmap18 hrel6 (by simp[SB]) (fun o ho t ht=>⟨hlt o (by simp only[QA]at ho ⊢;simp_all) t ht,?_⟩) rfl (fun a7 W7 L7 h7=> ?_)
  ·have:=CR (p:=fun t=>t≠0/\t≠1) hmap18 (by intro g hg t ht;simp only[QA,QR,or_false]at hg;subst hg;injection ht with ht;omega) o ho t ht
   show tT _ _ t=none;unfold tT;rw[Qs this.1,Qs this.2]
  ·have hfr7:=vL h7;refine hQ a7 W7 b (BF.of h7 rfl) ?_ (fun hb=>hJ _ _ (hj1 hb) hfr7) (fun hb=>hJx _ _ (hjx hb) hfr7)
   have:=h7.env 18;have e18:((SB fun t=>if t=17 then .bool b else if t=3 then .int .i64 m else .any).bN (some 18) (.bool !b) none).env 18= .bool !b:=rfl
   rw[e18]at this;exact this.jO
 rcases hen with⟨rfl,hj⟩|⟨rfl,hj⟩
 ·exact fin true rfl (fun _=>hj) (fun h=>by cases h)
 ·exact fin false rfl (fun h=>by cases h) (fun _=>hj)
theorem OA{f:FuncId}{k:Nat}{nE:Option Nat}(hf:fH P f 19 (wx k nE) [])(hin:Cp k nE es){l:Nat}(J:Nat->(Nat->Prop)->World->Prop)(Jx:World->Prop)
  (hc:∀i X W,J i X W->(∀b,X b->b<W.heap.size)/\aL W X cq (.ref [.sl es]) c) (hJ:∀i X W' W'',J i X W'->Fr none W' W''->J i X W'') (hJx:∀W' W'',Jx W'->Fr none W' W''->Jx W'')
  (hr:∀(m:Nat) (X:Nat->Prop) (W':World) (e:List PV) (v:Value),J (m+1) X W'->es[m]?=some e->aL W' X cq (ua nE e) v->Lu P l m v W' fun en W''=>(en= .returned (.bool true)/\∃X,J m X W'')\/(en= .returned (.bool false)/\Jx W''))
  (W:World) (h0:J es.length X W):CallsIn (WF none) 0 P f #[.func (.yield l) #[] #[],c] W fun en W'=>(∃v,en= .returned v)/\((∃X,J 0 X W')\/Jx W'):=by
 obtain⟨fn,hs,h1,h2,h3,h4,_⟩:=hf
 cases hb:fn.body with
 |none=>rw[hb]at h3;cases h3
 |some c0=>
 rw[hb]at h3;have h3:ay P 19 hs c0=some (wx k nE):=h3
 have hres:fn.results.toList=[]:=by
  cases hq:fn.results.toList with
  |nil=>rfl
  |cons r rs=>rw[hq]at h4;cases r<;>simp only[k7]at h4<;>first|(split at h4<;>cases h4)|(simp only[Qb]at h4;obtain⟨_,_,h4⟩:=h4;cases h4)
 have hresr:∀(tm:Array Value) (W:World),(results fn tm).run P W= .ok (.tuple #[]) W:=by
  intro tm W;unfold results;rw[Array.mapM_eq_mapM_toList,hres];simp
 refine callsIn_of_wp (F:=WF none) (n:=0) h1 hb trivial ?_;obtain⟨cA,cB,rfl,hA,hB⟩:=ug h3;obtain⟨cL,rfl,hL⟩:=DR hB;obtain⟨cR,rfl,hR⟩:=Ot hL;obtain⟨cR1,cR2,rfl,hR1,hR2⟩:=ug hR;obtain⟨cT,cC,rfl,hT,hC⟩:=ug hR1;obtain⟨oc,cS,cX,rfl,hoc,hcS,hcX⟩:=GI hC;have:=GH hcS;subst this;have:=Ou hcX;subst this;have:=qM hoc;subst this;obtain⟨cM,cN,rfl,hM,hN⟩:=ug hR2;obtain⟨cM2,rfl,hM2⟩:=DR hM;obtain⟨cG,cH,rfl,hG,hH⟩:=ug hM2;obtain⟨od,cV,cK,rfl,hod,hcV,hcK⟩:=GI hH;have:=Q5 hcV;subst this;have:=GH hcK;subst this;have:=qM hod;subst this;have hmax:=Va (hc _ _ _ h0).2;simp only[maxLen]at hmax
 have hargs:∀t,(#[Value.func (.yield l) #[] #[],c]++Array.replicate (fn.ntmps - (#[Value.func (.yield l) #[] #[],c]:Array Value).size) undef).getD t undef=if t=0 then .func (.yield l) #[] #[]else if t=1 then c else undef:=by
  intro t;rw[h2,QN,Array.getElem?_append]
  match t with
  |0=>rfl
  |1=>rfl
  |t+2=>
   simp only[List.size_toArray,QE,QZ];rw[Qs (by omega),Qs (by omega),Qs (by omega),Array.getElem?_replicate]
   split<;>rfl
 refine wpIn_seq ?_
 have hrel0:Rel (EB W X (hc _ _ _ h0).1 (tT (.func (.yield l) #[] #[]) c)) (SB (wi es fun _=> .any)) {tmps:=#[Value.func (.yield l) #[] #[],c]++Array.replicate (fn.ntmps - (#[Value.func (.yield l) #[] #[],c]:Array Value).size) undef,defers:=[]} W (fun _=>undef):=by
  refine Jw _ rfl (by simp[h2]) (fun t v hv=> ?_) (fun t=> ?_)
  ·simp only;rw[hargs t];unfold tT at hv;split at hv
   ·rename_i e;rw[Qr e];injection hv
   ·rename_i e;rw[Qs e];split at hv
    ·rename_i e';rw[Qr e'];injection hv
    ·cases hv
  ·simp only;rw[hargs t];unfold wi;split
   ·rename_i e;subst e;exact(hc _ _ _ h0).2
   ·exact .any _
 have dA:∀g∈[(⟨some 4,none,.load none (.tmp 1)⟩:SG),⟨some 5,none,.len false (.tmp 4)⟩,⟨some 6,none,.bin .sub (.tmp 5) (.rA (.int .i64 1))⟩,⟨some 3,none,.jS (.tmp 6)⟩],∀t,g.d=some t->t≠0/\t≠1:=by
  intro g hg t ht;simp only[QA,QR,or_false]at hg;rcases hg with rfl|rfl|rfl|rfl<;>(injection ht with ht;omega)
 refine Nx hA (by simp) dA hrel0 rfl fun a1 W1 L1 r1=> ?_
 have hJ1:J es.length X W1:=hJ _ _ _ _ h0 (vL r1)
 have b1:BF (.func (.yield l) #[] #[]) c ((es.length:Int) - 1) a1:=by
  refine BF.of r1 ?_;show PV.int .i64 (IntKind.i64.wrap ((es.length:Int) - 1))=_;rw[wrap_small (by omega) (by omega)]
 refine wpIn_block ?_;refine wpIn_loop_ghost (fun n a W=>n<=es.length/\BF (.func (.yield l) #[] #[]) c ((n:Int) - 1) a/\∃X,J n X W) es.length ⟨QI _,b1,X,hJ1⟩ ?_
 rintro n a W ⟨hn,hb,X,hj⟩;refine wpIn_seq (wpIn_seq ?_)
 have dT:∀g∈[(⟨some 7,none,.jS (.tmp 3)⟩:SG),⟨some 8,none,.bin .geq (.tmp 7) (.rA (.int .i64 0))⟩],∀t,g.d=some t->t≠0/\t≠1:=by
  intro g hg t ht;simp only[QA,QR,or_false]at hg;rcases hg with rfl|rfl<;>(injection ht with ht;omega)
 refine Nx hT (by simp) dT (hb.rel (hX:=(hc _ _ _ hj).1) (hc _ _ _ hj).2 (fun _=>undef)) rfl fun a2 W2 L2 r2=> ?_
 have hj2:J n X W2:=hJ _ _ _ _ hj (vL r2);have b2:BF (.func (.yield l) #[] #[]) c ((n:Int) - 1) a2:=BF.of r2 rfl
 have t8:a2.eval (.tmp 8)= .bool (decide (0<=(n:Int) - 1)):=by
  have:=r2.env 8;exact(show aL _ _ _ (.bool (decide ((0:Int)<=(n:Int) - 1))) _ from this).jO
 refine wpIn_cond t8 ?_
 cases n with
 |zero=>
  rw[Qh (by omega)]
  refine wpIn_exit ?_;simp only[Exit.then,Exit.inBlock,Qt]
  exact⟨b2.defers,_,hresr _ _,⟨_,rfl⟩,.inl ⟨X,hj2⟩⟩
 |succ m=>
  rw[Qg (by omega)]
  refine wpIn_skip ?_;have e1:((m+1:Nat):Int) - 1=(m:Int):=by omega
  rw[e1]at b2;refine wpIn_seq (wpIn_block (wpIn_seq ?_));refine RE (J0:=J (m+1) X) (J1:=fun W=>∃X,J m X W) (Jx:=Jx) hin (hc _ _ _ hj2).1 (hc _ _ _ hj2).2 (fun W' hW'=>hJ _ _ _ _ hj2 hW') (fun _ _ ⟨X',q1⟩ q2=>⟨X',hJ _ _ _ _ q1 q2⟩) hJx (fun W' e v q1 q2 q3=>hr m X W' e v q1 q2 q3) hG (by omega) b2 fun a3 W3 b hb3 t18 hj3 hx3=> ?_
  refine wpIn_cond (t:= !b) t18 ?_
  cases b with
  |false=>
   refine wpIn_ret ?_;exact⟨hb3.defers,_,hresr _ _,⟨_,rfl⟩,.inr (hx3 rfl)⟩
  |true=>
   refine wpIn_skip ?_
   have dN:∀g∈[(⟨some 9,none,.jS (.tmp 3)⟩:SG),⟨some 10,none,.bin .sub (.tmp 9) (.rA (.int .i64 1))⟩,⟨some 3,none,.jS (.tmp 10)⟩],∀t,g.d=some t->t≠0/\t≠1:=by
    intro g hg t ht;simp only[QA,QR,or_false]at hg;rcases hg with rfl|rfl|rfl<;>(injection ht with ht;omega)
   obtain⟨X',hj4⟩:=hj3 rfl;refine Nx hN (by simp) dN (hb3.rel (hX:=(hc _ _ _ hj4).1) (hc _ _ _ hj4).2 (fun _=>undef)) rfl fun a4 W4 L4 r4=> ?_
   refine⟨m,Nat.lt_succ_self m,by omega,BF.of r4 ?_,X',hJ _ _ _ _ hj4 (vL r4)⟩
   show PV.int .i64 (IntKind.i64.wrap ((m:Int) - 1))=_;rw[wrap_small (by omega) (by omega)]
end
end Go.TQ
end
noncomputable section
namespace Go.TQ
open Go.RowKit
section
variable {P : Program} {E : En} {S : St} {a : Act} {w : World} {L : Nat -> Value}
theorem Rel.Cy(h:Rel E S a w L){w':World}{a':Act}{env':Nat->PV}(rd:Option Nat)(nd:Bool)(kt:Nat->Option Value)(wk:World)
  (hc:∀(b:Nat) (o:Obj),w.heap[b]?=some o->KF o=true->w'.heap[b]?=some o) (he:∀t,aL w (aQ E S L) (S.gh L) (env' t) (a'.tmps.getD t undef))
  (hm:Marks {E with rd:=rd,nd:=nd,kt:=kt,wk:=wk} a' w') (hs:a'.tmps.size=E.nt/\∀t v,kt t=some v->a'.tmps.getD t undef=v) (hf:XB {E with rd:=rd,nd:=nd,kt:=kt,wk:=wk} w'):
  Rel {E with rd:=rd,nd:=nd,kt:=kt,wk:=wk} {S with env:=env'} a' w' L:=by
 have hcell:∀(p:Addr) (v:Value),w.cell? p=some v->w'.heap[p.block]?=w.heap[p.block]?:=by
  intro p v hp;unfold World.cell? at hp
  cases ho:w.heap[p.block]? with
  |none=>rw[ho]at hp;simp at hp
  |some o=>
   refine hc _ o ho ?_;rw[ho]at hp;cases o<;>first|rfl|(simp at hp)
 have hst:cW w w' (aQ E S L) (aQ E S L):=⟨fun p v hp hn=>⟨(World.cell?_of_block (hcell p v hp)).trans hp,hn⟩,fun b _ _ hb hn=>⟨hc b _ hb rfl,hn⟩⟩
 refine⟨hm,hs,fun t=>(he t).mono hst (Gh.le.refl _),fun id hid=> ?_,h.apart,h.fresh,hf,h.rS⟩
 have ho:=h.obj id hid
 cases hl:(S.H id).c.live with
 |false=>
  cases hcc:(S.H id).c with
  |dead=>trivial
  |box cs=>rw[hcc]at hl;cases hl
  |row e k es=>rw[hcc]at hl;cases hl
 |true=>
  have:=qp.mono (w':=w') hst (Gh.le.refl _) (fun b hb _=>by
   obtain⟨o,h1,h2⟩:=ho.cells hl hb;rw[h1]
   exact hc b o h1 (Ue h2)) ho
  cases hcc:(S.H id).c with
  |dead=>trivial
  |box cs=>rw[hcc]at this;exact this
  |row e k es=>rw[hcc]at this;exact this
theorem Fr.putObj{rb:Option Nat}{w0:World}(h:Fr rb w0 w){l:Nat}(hl:w0.heap.size<=l)(o:Obj):Fr rb w0 (w.putObj l o):=
 ⟨h.os,h.tape,h.output,by rw[World.putObj_size];exact h.size,fun b hb hr=>by rw[World.putObj_heap_other (by omega)];exact h.block b hb hr,h.drawn⟩
def St.o4(S:St)(D:List Nat):St:={S with env:=fun t=>if t∈D then .any else S.env t}
theorem Rel.drop(h:Rel E S a w L)(D:List Nat):Rel E (S.o4 D) a w L:=
 ⟨h.defers,h.size,fun t=>by
  show aL _ _ _ (if t∈D then .any else S.env t) _
  split
  ·exact .any _
  ·exact h.env t,h.obj,h.apart,h.fresh,h.fr,h.rS⟩
theorem XR(r:Loop):PF (.loop r)=false:=rfl
theorem T3{x:World}(h:uJ x w){l:Nat}(hl:x.heap.size<=l)(o:Obj):uJ x (w.putObj l o):=
 ⟨by rw[World.putObj_size];exact h.size,fun k p hk hp=>by
  have hlt:k<x.heap.size:=(Array.getElem?_eq_some_iff.1 hk).1;rw[World.putObj_heap_other (by omega)]
  exact h.same k p hk hp⟩
theorem Cd{l:Nat}{o:Obj}(hl:w.heap[l]?=some o)(ho:KF o=false)(o':Obj):∀(b:Nat) (q:Obj),w.heap[b]?=some q->KF q=true->(w.putObj l o').heap[b]?=some q:=by
 intro b q hb hq
 have:b≠l:=by
  intro e;subst e;rw[hl]at hb;injection hb with hb
  subst hb;rw[ho]at hq;cases hq
 rw[World.putObj_heap_other this];exact hb
def PD:Exit->Option Code
 | .ret=>some .ret
 | .exit i=>some (.exit i)
 | .goto l=>some (.goto l)
 |_=>none
def Lv(I:St->Prop)(S:St):Prop:=∃S',(∀(E:En) (a:Act) (w:World) (L:Nat->Value),Rel E S a w L->∃L',Rel E S' a w L')/\I S'
theorem Lv.of{I:St->Prop}{S:St}(h:I S):Lv I S:=⟨S,fun _ _ _ L h=>⟨L,h⟩,h⟩
def Vf(D:List Nat)(I:St->Prop)(Q:Exit->St->Prop):Exit->St->Prop
 | .normal,T=>Lv I (T.o4 D)
 | .ret,T=>Q .ret (T.o4 D)
 | .exit i,T=>Q (.exit i) (T.o4 D)
 | .goto l,T=>Q (.goto l) (T.o4 D)
 |_,_=>False
theorem WE(ts:Array Value)(p0 p1:Nat)(u v:Value):(#[p0,p1].zip #[u,v]).foldl (fun tmps x=>match x with|(t,a)=>tmps.setIfInBounds t a) ts=(ts.setIfInBounds p0 u).setIfInBounds p1 v:=by
 rw[<-Array.foldl_toList,Array.toList_zip];rfl
theorem XS{ts:Array Value}{p0 p1 t:Nat}{u v:Value}(h0:p0<ts.size)(h1:p1<ts.size):((ts.setIfInBounds p0 u).setIfInBounds p1 v).getD t undef=if t=p1 then v else if t=p0 then u else ts.getD t undef:=by
 simp only[QN]
 by_cases q1:t=p1
 ·subst q1;rw[Qr rfl,Array.getElem?_setIfInBounds_self_of_lt (by simpa using h1)]
  rfl
 ·rw[Qs q1,Array.getElem?_setIfInBounds_ne (fun e=>q1 e.symm)]
  by_cases q0:t=p0
  ·subst q0;rw[Qr rfl,Array.getElem?_setIfInBounds_self_of_lt h0];rfl
  ·rw[Qs q0,Array.getElem?_setIfInBounds_ne (fun e=>q0 e.symm)]
theorem VU{nt:Nat}{tg p0 p1:Nat}{assign body:Code}{f:FuncId}{k:Nat}{nE:Option Nat}{es:List (List PV)}{Q:Exit->St->Prop}(hf:fH P f 19 (wx k nE) [])(hin:Cp k nE es)(hna:uv assign=true)(hnb:uv body=true)
  (hp0:p0<nt) (hp1:p1<nt) (_htg:tg∉iT (.rangeFunc (.tmp tg) #[p0,p1] assign body)) (I:Nat->St->Prop)
  (h0:Lv (I es.length) (S.o4 (iT (.rangeFunc (.tmp tg) #[p0,p1] assign body)))) (hI:∀i T,I i T->T.env tg= .bg f [.ref [.sl es]])
  (hround:∀m T e,I (m+1) T->es[m]?=some e->V P nt assign (Hc (V P nt body (Vf (iT (.rangeFunc (.tmp tg) #[p0,p1] assign body)) (I m) Q)) (fun _ _=>False)) {T with env:=bd (bd T.env p0 (.int .i64 m)) p1 (ua nE e)})
  (hend:∀T,I 0 T->Q .normal T):V P nt (.rangeFunc (.tmp tg) #[p0,p1] assign body) Q S:=by
 intro E hE hk a w L hrel;generalize hD:iT (.rangeFunc (.tmp tg) #[p0,p1] assign body)=D at*;have hk1:∀t∈D,E.kt t=none:=by rw[<-hD];exact hk.1
 obtain⟨hrd,hnd⟩:E.rd=none/\E.nd=false:=by
  rcases hk.2 with h|h
  ·exact h
  ·cases h
 have hDa:∀t∈iT assign,t∈D:=by rw[<-hD];intro t ht;simp only[iT,Qz];exact .inl (.inr ht)
 have hDb:∀t∈iT body,t∈D:=by rw[<-hD];intro t ht;simp only[iT,Qz];exact .inr ht
 have hD0:p0∈D:=by rw[<-hD];simp[iT]
 have hD1:p1∈D:=by rw[<-hD];simp[iT]
 have hclo:∀{i:Nat} {T:St} {w':World} {L':Nat->Value},I i T->Rel E T a w' L'->∃c,a.tmps.getD tg undef= .func (.func f) #[] #[c]/\aL w' (aQ E T L') cq (.ref [.sl es]) c:=by
  intro i T w' L' hi hr;have:=hr.env tg;rw[hI i T hi]at this;obtain⟨vs,hv,hrv⟩:=this.rC;obtain⟨c,vs',rfl,hc,hr'⟩:=hrv.cons_inv;have:=hr'.kv;subst this;exact⟨c,hv,hc.closed rfl (fun b hb=>hb)⟩
 obtain⟨S0,hw0,h0⟩:=h0;obtain⟨L,hrel0⟩:=hw0 E a w L (hrel.drop D);obtain⟨c,hgv,hc0⟩:=hclo h0 hrel0;rw[hrd];refine wpIn_rangeFunc ?_;intro fn _;obtain⟨rec,hrec⟩:∃rec:LoopState->Option Code->Loop,rec=fun st pe=>{state:=st,pending:=pe,fn,tmps:=a.tmps,params:=#[p0,p1],assign,body,defers:=w.heap.size}:=⟨_,rfl⟩
 obtain⟨W1,hW1⟩:∃W1,(w.alloc (.deferred (some []))).alloc (.loop (rec .ready none))=W1:=⟨_,rfl⟩
 have hL1:W1.heap[w.heap.size+1]?=some (.loop (rec .ready none)):=by
  rw[<-hW1];have:=World.alloc_heap_new (w.alloc (.deferred (some []))) (.loop (rec .ready none));rwa [World.size_alloc]at this
 have hK1:W1.heap[w.heap.size]?=some (.deferred (some [])):=by
  rw[<-hW1];exact(Below.heap_alloc _ _ _ (by simp)).trans (World.alloc_heap_new w _)
 let J:Nat->(Nat->Prop)->World->Prop:=fun i X W=>∃T L',X=aQ E T L'/\I i T/\Rel E T a W L'/\W.heap[w.heap.size+1]?=some (.loop (rec .ready none))/\W.heap[w.heap.size]?=some (.deferred (some []))
 let Jx:World->Prop:=fun W=>∃en j T L',PD en=some j/\Q en T/\Rel E T a W L'/\W.heap[w.heap.size+1]?=some (.loop (rec .done (some j)))/\W.heap[w.heap.size]?=some (.deferred (some []))
 have grow:∀{T:St} {L':Nat->Value} {W' W'':World},Rel E T a W' L'->Fr none W' W''->Rel E T a W'' L':=fun h hf=>(h.grow hf.os hf.tape hf.output hf.size (fun b hb=>hf.block b hb (by simp)) hf.drawn).1
 have da:∀{W' W'':World} {b:Nat} {o:Obj},Fr none W' W''->W'.heap[b]?=some o->W''.heap[b]?=some o:=fun hf hb=>by rw[hf.block _ (Array.getElem?_eq_some_iff.1 hb).1 (by simp)];exact hb
 have hE0:E.w0.heap.size<=w.heap.size:=hrel.fr.size;have hEk:E.wk.heap.size<=w.heap.size:=hrel.fr.ko.size
 have hW1s:∀(b:Nat),b<w.heap.size->W1.heap[b]?=w.heap[b]?:=by
  intro b hb;rw[<-hW1];exact(Below.heap_alloc _ _ _ (by simp;omega)).trans (Below.heap_alloc _ _ _ hb)
 have hrel1:Rel E S0 a W1 L:=(hrel0.grow (w':=W1) (by rw[<-hW1];rfl) (by rw[<-hW1];rfl) (by rw[<-hW1];rfl) (by rw[<-hW1];simp;omega) hW1s (by rw[<-hW1];exact QI _)).1
 have old:∀d∈a.defers,∃Do,d={target:= .collected Do,args:=#[]}/\E.w0.heap.size<=Do/\Do<w.heap.size:=by
  intro d hd;obtain⟨Do,q1,q2,q3⟩:=hrel.defers.at_ d hd
  exact⟨Do,q1,q2,(Array.getElem?_eq_some_iff.1 q3).1⟩
 have hrounds:∀(m:Nat) (X:Nat->Prop) (W':World) (e:List PV) (v:Value),J (m+1) X W'->es[m]?=some e->aL W' X cq (ua nE e) v->Lu P (w.heap.size+1) m v W' fun en W''=>(en= .returned (.bool true)/\∃X,J m X W'')\/(en= .returned (.bool false)/\Jx W''):=by
  rintro m X W' e v ⟨T,L',rfl,hi,hr,hl,hk⟩ hem hrep;refine⟨fn,(a.tmps.setIfInBounds p0 (.int .i64 m)).setIfInBounds p1 v,assign,body,by rw[run_yield hl (by rw[hrec];rfl)];simp only[hrec];rw[<-WE],?_⟩
  refine roundIn_of_wpIn (F:=WF none) trivial ?_
  let E1:En:={E with rd:=some (w.heap.size+1),nd:=true,kt:=fun t=>if t∈D then none else some (a.tmps.getD t undef),wk:=W'}
  have hget:∀t,((a.tmps.setIfInBounds p0 (.int .i64 m)).setIfInBounds p1 v).getD t undef=if t=p1 then v else if t=p0 then .int .i64 m else a.tmps.getD t undef:=by
   intro t;exact XS (by rw[hr.size.1,hE];exact hp0) (by rw[hr.size.1,hE];exact hp1)
  have hrel2:Rel E1 {T with env:=bd (bd T.env p0 (.int .i64 m)) p1 (ua nE e)} {tmps:=(a.tmps.setIfInBounds p0 (.int .i64 m)).setIfInBounds p1 v,defers:=[]} W' L':=by
   refine hr.Cy (some (w.heap.size+1)) true _ W' (fun _ _ hb _=>hb) (fun t=> ?_) (Marks.nil rfl) ⟨by simp only[Array.size_setIfInBounds];exact hr.size.1,fun t u hu=> ?_⟩ ⟨hr.fr.toFr,uJ.refl _⟩
   ·simp only;rw[hget t];simp only[bd];split
    ·exact hrep.mono (cW.of fun _ hn=>hn) (cq.le _)
    ·split
     ·exact .int _ _
     ·exact hr.env t
   ·simp only at hu ⊢;rw[hget t];split at hu
    ·cases hu
    ·rename_i hnt;injection hu with hu
     rw[Qs (fun e:t=p1=>hnt (by rw[e];exact hD1)),Qs (fun e:t=p0=>hnt (by rw[e];exact hD0)),hu]
  have hV:=hround m T e hi hem;have hw1:=hV E1 hE ⟨fun t ht=>Qr (hDa t ht),.inr hna⟩ _ W' L' hrel2
  refine wpIn_mono hw1 ?_;rintro en a1 w1 ⟨S1,L1,hr1,hq1⟩
  cases en with
  |exit i=>exact hq1.elim
  |goto i=>exact hq1.elim
  |ret=>exact hq1.elim
  |panic ch=>exact hq1.elim
  |outgrown=>exact hq1.elim
  |normal=>
   have hl1:w1.heap[w.heap.size+1]?=some (.loop (rec .ready none)):=hr1.fr.ko.same _ _ hl rfl;have hd1:a1.defers=[]:=hr1.defers.none rfl;refine⟨_,run_beginRound hl1 (by rw[hrec]),?_⟩
   generalize hw2:w1.putObj (w.heap.size+1) (.loop {rec .ready none with state:= .busy})=w2
   have hrec2:({rec .ready none with state:= .busy}:Loop)=rec .busy none:=by rw[hrec]
   rw[hrec2]at hw2;have hlt1:w.heap.size+1<w1.heap.size:=(Array.getElem?_eq_some_iff.1 hl1).1;have hl2:w2.heap[w.heap.size+1]?=some (.loop (rec .busy none)):=by rw[<-hw2];exact World.putObj_heap_same hlt1
   have hrel3:Rel {E with rd:=some (w.heap.size+1),nd:=true,kt:=fun t=>if t∈D then none else some (a.tmps.getD t undef),wk:=w2} S1 a1 w2 L1:=by
    refine hr1.Cy (some (w.heap.size+1)) true _ w2 (by rw[<-hw2];exact Cd hl1 rfl _) (fun t=>hr1.env t) (Marks.nil hd1) hr1.size ⟨?_,uJ.refl _⟩
    rw[<-hw2];exact hr1.fr.toFr.putObj (by show E.w0.heap.size<=_;omega) _
   have hw3:=hq1 {E with rd:=some (w.heap.size+1),nd:=true,kt:=fun t=>if t∈D then none else some (a.tmps.getD t undef),wk:=w2} hE ⟨fun t ht=>Qr (hDb t ht),.inr hnb⟩ a1 w2 L1 hrel3
   refine wpIn_mono hw3 ?_;rintro en a3 w3 ⟨S3,L3,hr3,hq3⟩;have hl3:w3.heap[w.heap.size+1]?=some (.loop (rec .busy none)):=hr3.fr.ko.same _ _ hl2 rfl;have hlt3:w.heap.size+1<w3.heap.size:=(Array.getElem?_eq_some_iff.1 hl3).1
   have stay:∀(b:Nat) (o:Obj),b≠w.heap.size+1->W'.heap[b]?=some o->PF o=false->∀o',(w3.putObj (w.heap.size+1) o').heap[b]?=some o:=by
    intro b o hne hb ho o';rw[World.putObj_heap_other hne];refine hr3.fr.ko.same b o ?_ ho;rw[<-hw2,World.putObj_heap_other hne];exact hr1.fr.ko.same b o hb ho
   have back:∀o',Rel E (S3.o4 D) a (w3.putObj (w.heap.size+1) o') L3:=by
    intro o'
    have:=hr3.Cy (w':=w3.putObj (w.heap.size+1) o') (a':=a) (env':=(S3.o4 D).env) E.rd E.nd E.kt E.wk (Cd hl3 rfl _) (fun t=>by
      show aL _ _ _ (if t∈D then .any else S3.env t) _
      split
      ·exact .any _
      ·rename_i hnt;have h4:=hr3.size.2 t (a.tmps.getD t undef) (Qs hnt);rw[<-h4];exact hr3.env t) ⟨hr.defers.none,hr.defers.nodup,fun d hd=>by
      obtain⟨Do,q1,q2,q3⟩:=hr.defers.at_ d hd
      obtain⟨Do',q4,_,q6⟩:=old d hd;have:Do=Do':=by rw[q1]at q4;injection q4 with q4;injection q4
      subst this
      exact⟨Do,q1,q2,stay Do _ (by omega) q3 rfl _⟩⟩ hr.size ⟨hr3.fr.toFr.putObj (by show E.w0.heap.size<=_;omega) _,⟨by rw[World.putObj_size];show E.wk.heap.size<=_;omega,fun b o hb ho=>stay b o (by have hb':b<E.wk.heap.size:=(Array.getElem?_eq_some_iff.1 hb).1;omega) (hr.fr.ko.same b o hb ho) ho _⟩⟩
    exact this
   have hk3:∀o',(w3.putObj (w.heap.size+1) o').heap[w.heap.size]?=some (.deferred (some [])):=fun o'=>stay _ _ (by omega) hk rfl o'
   have leave:∀j,PD en=some j->Q en (S3.o4 D)->∃v w',(Instr.endRound (w.heap.size+1) (some j)).run P w3= .ok v w'/\((Ending.returned v= .returned (.bool true)/\∃X,J m X w')\/(Ending.returned v= .returned (.bool false)/\Jx w')):=by
    intro j hj hq;refine⟨_,_,run_endRound (some j) hl3,.inr ⟨rfl,en,j,S3.o4 D,L3,hj,hq,back _,?_,hk3 _⟩⟩;rw[World.putObj_heap_same hlt3,hrec];rfl
   cases en with
   |normal=>
    obtain⟨S5,hw5,hi5⟩:=hq3;obtain⟨L5,hr5⟩:=hw5 E a _ L3 (back _);refine⟨_,_,run_endRound none hl3,.inl ⟨rfl,_,S5,L5,rfl,hi5,hr5,?_,hk3 _⟩⟩;rw[World.putObj_heap_same hlt3,hrec];rfl
   |ret=>exact leave _ rfl hq3
   |exit i=>exact leave _ rfl hq3
   |goto i=>exact leave _ rfl hq3
   |panic ch=>exact hq3.elim
   |outgrown=>exact hq3.elim
 have hcalls:=OA (P:=P) (c:=c) (l:=w.heap.size+1) hf hin J Jx
  (fun i X W ⟨T,L',hX,hi,hr,_,_⟩=>by
   subst hX;obtain⟨c',h1,h2⟩:=hclo hi hr;rw[hgv]at h1;injection h1 with _ _ h1
   have:c'=c:=by have:=congrArg (fun a:Array Value=>a.toList) h1;simpa using this.symm
   subst this
   exact⟨fun b hb=>vm hr hb,h2⟩)
  (fun i X W' W'' ⟨T,L',hX,hi,hr,hl,hk⟩ hfr=>⟨T,L',hX,hi,grow hr hfr,da hfr hl,da hfr hk⟩)
  (fun W' W'' ⟨en,j,T,L',h1,h2,hr,hl,hk⟩ hfr=>⟨en,j,T,L',h1,h2,grow hr hfr,da hfr hl,da hfr hk⟩)
  hrounds W1 (X:=aQ E S0 L) ⟨S0,L,rfl,h0,hrel1,hL1,hK1⟩
 refine⟨w.heap.size+1,[{target:= .collected w.heap.size,args:=#[]}],W1,{target:= .fn (.func f) #[c],args:=#[.func (.yield (w.heap.size+1)) #[] #[]]},W1,f,#[.func (.yield (w.heap.size+1)) #[] #[],c],W1,?_,?_,fun _ _=>trivial,?_,(fun h=>by cases h),hcalls.mono ?_⟩
 ·rw[<-hW1,hrec];exact run_enterLoop_outer _ _ _ _ _
 ·have:a.eval (.tmp tg)= .func (.func f) #[] #[c]:=hgv
  have h2:(#[]++#[Operand.const (Value.func (Fn.yield (w.heap.size+1)) #[] #[])].map a.eval:Array Value)=#[.func (.yield (w.heap.size+1)) #[] #[]]:=by
   rw[Array.empty_append];simp[Act.eval]
  simp only[resolve,this,Deferred.ofValue];rw[h2];rfl
 ·have hen:Enters P f:=hf.enters;simp only[invoke];exact mq hen _
 ·rintro en W' ⟨⟨v,rfl⟩,hW'⟩
  have marks:∀{T:St} {L':Nat->Value} (o':Obj),Rel E T a W' L'->W'.heap[w.heap.size+1]?=some o'->KF o'=false->W'.heap[w.heap.size]?=some (.deferred (some []))->∀o'',Rel E T {a with defers:=[{target:= .collected w.heap.size,args:=#[]}]++a.defers} (W'.putObj (w.heap.size+1) o'') L':=by
   intro T L' o' hr hl ho hk o'';refine hr.Cy (env':=T.env) E.rd E.nd E.kt E.wk (Cd hl ho _) (fun t=>hr.env t) ⟨(fun e=>by rw[hnd]at e;cases e),?_,fun d hd=> ?_⟩ hr.size ⟨hr.fr.toFr.putObj (by omega) _,T3 hr.fr.ko (by omega) _⟩
   ·rw[List.singleton_append,List.nodup_cons];refine⟨fun hmem=> ?_,hr.defers.nodup⟩
    obtain⟨Do,q1,_,q3⟩:=old _ hmem;injection q1 with q1
    injection q1 with q1
    omega
   ·rcases Qz.1 hd with hd|hd
    ·rw[List.mem_singleton.1 hd];exact⟨_,rfl,hE0,by rw[World.putObj_heap_other (by omega)];exact hk⟩
    ·obtain⟨Do,q1,q2,q3⟩:=hr.defers.at_ d hd
     obtain⟨Do',q4,_,q6⟩:=old d hd;have:Do=Do':=by rw[q1]at q4;injection q4 with q4;injection q4
     subst this;exact⟨Do,q1,q2,by rw[World.putObj_heap_other (by omega)];exact q3⟩
  rcases hW' with⟨X,T,L',_,hi,hr,hl,hk⟩|⟨en,j,T,L',hj,hq,hr,hl,hk⟩
  ·have hend1:=run_endLoop (P:=P) hl (by rw[hrec];intro e;cases e)
   exact⟨none,_,by rw[hend1,hrec],T,L',marks _ hr hl rfl hk _,hend T hi⟩
  ·have hend1:=run_endLoop (P:=P) hl (by rw[hrec];intro e;cases e)
   obtain⟨p,o',hp,hrun⟩:∃p o',p=some j/\(Instr.endLoop (w.heap.size+1)).run P W'= .ok p (W'.putObj (w.heap.size+1) o'):=⟨_,_,by rw[hrec],hend1⟩
   subst hp;have hfin:=marks _ hr hl rfl hk o';refine⟨some j,_,hrun,?_⟩
   cases en with
   |ret=>injection hj with hj;subst hj;exact wpIn_ret ⟨T,L',hfin,hq⟩
   |exit i=>injection hj with hj;subst hj;exact wpIn_exit ⟨T,L',hfin,hq⟩
   |goto i=>injection hj with hj;subst hj;exact wpIn_goto ⟨T,L',hfin,hq⟩
   |normal=>cases hj
   |panic ch=>cases hj
   |outgrown=>cases hj
def SC.n5:SC->List Nat
 | .pf gs| .nT _ gs=>gs.filterMap (·.d)
 | .seq x y| .cond _ x y=>x.n5++y.n5
 | .block _ x| .loop x=>x.n5
 | .yk _ ps x y=>ps++x.n5++y.n5
 |_=>[]
theorem HM{hs:List Nat}{ops:Array Oper}:∀(l:List Oper) (gs:List SG),l.mapM (pt P hs ops)=some gs->l.filterMap (·.dst)=gs.filterMap (·.d)
 |[],gs,h=>by
  simp at h;subst h;rfl
 |o::l,gs,h=>by
  simp only[List.mapM_cons,Qd,Qc,Option.pure_def,Qf]at h;obtain⟨g,hg,gs',hgs,rfl⟩:=h;simp only[List.filterMap_cons,(Ca hg).2.1,HM l gs' hgs]
theorem mY{nt:Nat}{hs:List Nat}:∀(c:Code) (sc:SC),ay P nt hs c=some sc->iT c=sc.n5
 | .skip,sc,h=>by simp only[ay]at h;injection h with h;subst h;rfl
 | .exit _,sc,h=>by simp only[ay]at h;injection h with h;subst h;rfl
 | .ret,sc,h=>by simp only[ay]at h;injection h with h;subst h;rfl
 | .region _ ops false,sc,h=>by
  simp only[ay]at h;split at h
  ·rename_i gs hgs;split at h
   ·injection h with h;subst h;exact HM _ _ hgs
   ·cases h
  ·cases h
 | .region _ ops true,sc,h=>by
  simp only[ay]at h;split at h
  ·rename_i gs hgs;split at h
   ·split at h
    ·injection h with h;subst h;exact HM _ _ hgs
    ·cases h
   ·cases h
  ·cases h
 | .seq x y,sc,h=>by
  simp only[ay]at h;split at h
  ·rename_i hx hy;injection h with h;subst h;simp only[iT,SC.n5,mY x _ hx,mY y _ hy]
  ·cases h
 | .cond c x y,sc,h=>by
  simp only[ay]at h;split at h
  ·rename_i _ hx hy;injection h with h;subst h;simp only[iT,SC.n5,mY x _ hx,mY y _ hy]
  ·cases h
 | .block _ x,sc,h=>by
  simp only[ay,Qb]at h;obtain⟨x',hx,rfl⟩:=h;simp only[iT,SC.n5,mY x _ hx]
 | .loop x,sc,h=>by
  simp only[ay,Qb]at h;obtain⟨x',hx,rfl⟩:=h;simp only[iT,SC.n5,mY x _ hx]
 | .rangeFunc g ps x y,sc,h=>by
  simp only[ay]at h;split at h
  ·rename_i _ hx hy;split at h
   ·injection h with h;subst h;simp only[iT,SC.n5,mY x _ hx,mY y _ hy]
   ·cases h
  ·cases h
 | .goto _,sc,h=>by simp only[ay]at h;cases h
 | .scope _,sc,h=>by simp only[ay]at h;cases h
 | .label _,sc,h=>by simp only[ay]at h;cases h
 | .refuse _,sc,h=>by simp only[ay]at h;cases h
theorem U0{nt:Nat}{tg p0 p1:Nat}{x y:SC}{f:FuncId}{k:Nat}{nE:Option Nat}{es:List (List PV)}{Q:Exit->St->Prop}(hf:fH P f 19 (wx k nE) [])(hin:Cp k nE es)
  (htg:tg∉SC.n5 (.yk (.tmp tg) [p0,p1] x y)) (I:Nat->St->Prop)
  (h0:Lv (I es.length) (S.o4 (SC.n5 (.yk (.tmp tg) [p0,p1] x y)))) (hI:∀i T,I i T->T.env tg= .bg f [.ref [.sl es]])
  (hround:∀m T e,I (m+1) T->es[m]?=some e->VS P nt x (Hc (VS P nt y (Vf (SC.n5 (.yk (.tmp tg) [p0,p1] x y)) (I m) Q)) (fun _ _=>False)) {T with env:=bd (bd T.env p0 (.int .i64 m)) p1 (ua nE e)})
  (hend:∀T,I 0 T->Q .normal T):VS P nt (.yk (.tmp tg) [p0,p1] x y) Q S:=by
 intro c hs hc;have hsets:=mY c _ hc
 cases c with
 |rangeFunc g ps assign body=>
  simp only[ay]at hc;split at hc
  ·rename_i g' x' y' hg hx hy;split at hc
   ·rename_i hcond;injection hc with hc
    injection hc with e1 e2 e3 e4
    subst e1 e3 e4;simp only[Qm]at hcond;obtain⟨⟨hn1,hn2⟩,hps⟩:=hcond
    have hps2:ps=#[p0,p1]:=by
     have:=congrArg List.toArray e2;simpa using this
    subst hps2
    have hg2:g= .tmp tg:=by
     cases g with
     |tmp t=>simp only[aT]at hg;injection hg with hg;injection hg with hg;rw[hg]
     |const v=>simp only[aT,Qb]at hg;obtain⟨_,_,hg⟩:=hg;cases hg
     |global g=>simp[aT]at hg
     |func f=>simp[aT]at hg
    subst hg2;rw[<-hsets]at h0 hround htg;simp only[List.all_cons,List.all_nil,Bool.and_true,Qm,Qi]at hps;refine VU hf hin hn1 hn2 hps.1 hps.2 htg I h0 hI (fun m T e hi he=> ?_) hend
    refine(hround m T e hi he assign hs hx).mono ?_;intro en A hq
    cases en with
    |normal=>exact hq body hs hy
    |exit i=>exact hq
    |goto i=>exact hq
    |ret=>exact hq
    |panic ch=>exact hq
    |outgrown=>exact hq
   ·cases hc
  ·cases hc
 |region id ops d=>cases d<;>simp only[ay]at hc<;>(try split at hc)<;>(try split at hc)<;>(try split at hc)<;>cases hc
 |seq x y=>simp only[ay]at hc;split at hc<;>cases hc
 |cond c x y=>simp only[ay]at hc;split at hc<;>cases hc
 |block id c=>simp only[ay,Qb]at hc;obtain⟨_,_,hc⟩:=hc;cases hc
 |loop c=>simp only[ay,Qb]at hc;obtain⟨_,_,hc⟩:=hc;cases hc
 |_=>simp only[ay]at hc<;>cases hc
end
end Go.TQ
end
noncomputable section
namespace Go.TQ
section
variable {U : TU}
inductive dv (U:TU) where
 |ty (T:U.Ty)
 |bg (f:FuncId) (cs:List (dv U))
 |ref (a:dv U)
 |agg (cs:List (dv U))
inductive me (U:TU) where
 |one (T:U.Ty)
 |many (Ts:List U.Ty)
 |fn (a:dv U)
@[reducible] def Ag (U:TU):List U.Ty->Type
 |[]=>Unit
 |T::l=>U.den T×Ag U l
mutual
@[reducible] def dv.den:dv U->Type
 | .ty T=>U.den T
 | .bg _ cs=>cU cs
 | .ref a=>a.den
 | .agg cs=>cU cs
@[reducible] def cU:List (dv U)->Type
 |[]=>Unit
 |a::l=>a.den×cU l
end
@[reducible] def me.den:me U->Type
 | .one T=>U.den T
 | .many Ts=>Ag U Ts
 | .fn a=>a.den
def xm:(Ts:List U.Ty)->Ag U Ts->List PV
 |[],_=>[]
 |T::l,v=>cv T v.1::xm l v.2
mutual
def jD:(a:dv U)->a.den->PV
 | .ty T,v=>cv T v
 | .bg f cs,v=> .bg f (eW cs v)
 | .ref a,v=> .ref (lG a v)
 | .agg cs,v=> .agg (eW cs v)
def lG:(a:dv U)->a.den->List PV
 | .ty T,v=>U.pv T v
 | .bg f cs,v=>[.bg f (eW cs v)]
 | .ref a,v=>[.ref (lG a v)]
 | .agg cs,v=>eW cs v
def eW:(A_s:List (dv U))->cU A_s->List PV
 |[],_=>[]
 |a::l,v=>jD a v.1::eW l v.2
end
def oa:(r:me U)->r.den->PV
 | .one T,v=>cv T v
 | .many Ts,v=> .c6 (xm Ts v)
 | .fn a,v=>jD a v
variable (K : TK U)
def SQ:(Ts:List U.Ty)->Ag U Ts->List (KV U)
 |[],_=>[]
 |T::l,v=>qv K T v.1::SQ l v.2
mutual
def E7:(a:dv U)->a.den->KV U
 | .ty T,v=>qv K T v
 | .bg f cs,v=> .bg f (pw cs v)
 | .ref a,v=> .ref (Ac a v)
 | .agg cs,v=> .agg (pw cs v)
def Ac:(a:dv U)->a.den->List (KV U)
 | .ty T,v=>K.bI T v
 | .bg f cs,v=>[.bg f (pw cs v)]
 | .ref a,v=>[.ref (Ac a v)]
 | .agg cs,v=>pw cs v
def pw:(A_s:List (dv U))->cU A_s->List (KV U)
 |[],_=>[]
 |a::l,v=>E7 a v.1::pw l v.2
end
def J7:(r:me U)->r.den->KV U
 | .one T,v=>qv K T v
 | .many Ts,v=> .c6 (SQ K Ts v)
 | .fn a,v=>E7 K a v
theorem OY:∀(Ts:List U.Ty) (v:Ag U Ts),(SQ K Ts v).map KV.pv=xm Ts v
 |[],_=>rfl
 |T::l,v=>by rw[SQ,xm,QD,q7,OY l v.2]
mutual
theorem M5:∀(a:dv U) (v:a.den),(E7 K a v).pv=jD a v
 | .ty T,v=>by rw[E7,jD];exact q7 K T v
 | .bg f cs,v=>by rw[E7,jD,KV.pv,KV.bJ,uj cs v]
 | .ref a,v=>by rw[E7,jD,KV.pv,KV.bJ,Lp a v]
 | .agg cs,v=>by rw[E7,jD,KV.pv,KV.bJ,uj cs v]
theorem Lp:∀(a:dv U) (v:a.den),(Ac K a v).map KV.pv=lG a v
 | .ty T,v=>by rw[Ac,lG];exact K.mB T v
 | .bg f cs,v=>by rw[Ac,lG,QD,QO,KV.pv,KV.bJ,uj cs v]
 | .ref a,v=>by rw[Ac,lG,QD,QO,KV.pv,KV.bJ,Lp a v]
 | .agg cs,v=>by rw[Ac,lG,uj cs v]
theorem uj:∀(A_s:List (dv U)) (v:cU A_s),(pw K A_s v).map KV.pv=eW A_s v
 |[],_=>by rw[pw,eW];rfl
 |a::l,v=>by rw[pw,eW,QD,M5 a v.1,uj l v.2]
end
theorem FI:∀(r:me U) (v:r.den),(J7 K r v).pv=oa r v
 | .one T,v=>q7 K T v
 | .many Ts,v=>by rw[J7,oa,KV.pv,KV.bJ,OY]
 | .fn a,v=>M5 K a v
def JH(lk:Lk U):(Ts:List U.Ty)->List (KV U)->Option (Ag U Ts)
 |[],xs=>match xs with|[]=>some ()|_=>none
 |T::l,xs=>match xs with
  |x::xs=>(match rM K lk T x with
   |some v=>(match JH lk l xs with|some vs=>some (v,vs)|none=>none)
   |none=>none)
  |[]=>none
def KV.JD:KV U->Bool
 | .cJ=>false
 |_=>true
def N8:Option Nat->Nat->Bool
 |none,_=>true
 |some i,id=> !Nat.beq i id
def tH:List (KV U)->KV U
 |[x]=>x
 |_=> .any
def zV(T:U.Ty)(cs:List (KV U)):Option (U.den T):=
 match cs.all KV.JD with
 |true=>K.dec T kG cs
 |false=>none
def CF{α:Type}(f:FuncId)(x:KV U)(k:List (KV U)->Option α):Option α:=
 match x with
 | .bg g caps=>(match Nat.beq g f with|true=>k caps|false=>none)
 |_=>none
def F2{α:Type}(x:KV U)(k:List (KV U)->Option α):Option α:=
 match x with
 | .agg cs=>k cs
 |_=>none
def JA{α:Type}(x:KV U)(k:List (KV U)->Option α):Option α:=
 match x with
 | .ref cs=>k cs
 |_=>none
def JC(xs:List (KV U)):Option Unit:=
 match xs with
 |[]=>some ()
 |_=>none
def F1{α β:Type}(xs:List (KV U))(k:KV U->Option α)(m:List (KV U)->Option β):Option (α×β):=
 match xs with
 |x::l=>(match k x with
  |some v=>(match m l with|some vs=>some (v,vs)|none=>none)
  |none=>none)
 |[]=>none
def JB{α:Type}(S:aH U)(ex:Option Nat)(x:KV U)(k0 k1:List (KV U)->Option α):Option α:=
 match x with
 | .ref cells=>k0 cells
 | .ptr id an off=>(match Nat.beq off 0&&N8 ex id with
  |true=>(match Nat.beq (S.H id).an an with
   |true=>(match(S.H id).c with
    | .box cells=>k1 cells
    |_=>none)
   |false=>none)
  |false=>none)
 |_=>none
theorem u0{α:Type}{f:FuncId}{x:KV U}{k:List (KV U)->Option α}{r:α}(h:CF f x k=some r):∃caps,x= .bg f caps/\k caps=some r:=by
 unfold CF at h;split at h
 ·split at h
  ·rename_i hg;exact⟨_,by rw[QF hg],h⟩
  ·cases h
 ·cases h
theorem zn{α:Type}{x:KV U}{k:List (KV U)->Option α}{r:α}(h:F2 x k=some r):∃cs,x= .agg cs/\k cs=some r:=by
 unfold F2 at h;split at h
 ·exact⟨_,rfl,h⟩
 ·cases h
theorem FY{α:Type}{x:KV U}{k:List (KV U)->Option α}{r:α}(h:JA x k=some r):∃cs,x= .ref cs/\k cs=some r:=by
 unfold JA at h;split at h
 ·exact⟨_,rfl,h⟩
 ·cases h
theorem F0{xs:List (KV U)}{r:Unit}(h:JC xs=some r):xs=[]:=by
 unfold JC at h;split at h
 ·rfl
 ·cases h
theorem DE{α β:Type}{xs:List (KV U)}{k:KV U->Option α}{m:List (KV U)->Option β}{r:α×β}(h:F1 xs k m=some r):∃x l,xs=x::l/\k x=some r.1/\m l=some r.2:=by
 unfold F1 at h;split at h
 ·split at h
  ·rename_i h1;split at h
   ·rename_i h2;injection h with h
    subst h;exact⟨_,_,rfl,h1,h2⟩
   ·cases h
  ·cases h
 ·cases h
theorem FZ{α:Type}{S:aH U}{ex:Option Nat}{x:KV U}{k0 k1:List (KV U)->Option α}{r:α}(h:JB S ex x k0 k1=some r):
  (∃cs,x= .ref cs/\k0 cs=some r)\/∃id an cells,x= .ptr id an 0/\N8 ex id=true/\(S.H id).an=an/\(S.H id).c= .box cells/\k1 cells=some r:=by
 unfold JB at h;split at h
 ·exact .inl ⟨_,rfl,h⟩
 ·split at h
  ·rename_i hoff;rw[Qm]at hoff;split at h
   ·rename_i hver;split at h
    ·rename_i hc;exact .inr ⟨_,_,_,by rw[QF hoff.1],hoff.2,QF hver,hc,h⟩
    ·cases h
   ·cases h
  ·cases h
 ·cases h
mutual
def CQ:(a:dv U)->KV U->Option a.den
 | .ty T,x=>(match U.agg T with
  |true=>F2 x fun cs=>zV K T cs
  |false=>zV K T [x])
 | .bg f cs,x=>CF f x fun caps=>uf cs caps
 | .ref a,x=>JA x fun cells=>ve a cells
 | .agg cs,x=>F2 x fun cells=>uf cs cells
def ve:(a:dv U)->List (KV U)->Option a.den
 | .ty T,cells=>zV K T cells
 | .bg f cs,cells=>CF f (tH cells) fun caps=>uf cs caps
 | .ref a,cells=>JA (tH cells) fun cells=>ve a cells
 | .agg cs,cells=>uf cs cells
def uf:(A_s:List (dv U))->List (KV U)->Option (cU A_s)
 |[],xs=>JC xs
 |a::l,xs=>F1 xs (fun x=>CQ a x) fun xs=>uf l xs
end
mutual
def EY(S:aH U)(ex:Option Nat):(a:dv U)->KV U->Option a.den
 | .ty T,x=>rM K S.lk T x
 | .bg f cs,x=>CF f x fun caps=>mX S ex cs caps
 | .ref a,x=>JB S ex x (fun cells=>ve K a cells) fun cells=>EX S ex a cells
 | .agg cs,x=>F2 x fun cells=>mX S ex cs cells
def EX(S:aH U)(ex:Option Nat):(a:dv U)->List (KV U)->Option a.den
 | .ty T,cells=>K.dec T S.lk cells
 | .bg f cs,cells=>CF f (tH cells) fun caps=>mX S ex cs caps
 | .ref a,cells=>JB S ex (tH cells) (fun cells=>ve K a cells) fun cells=>EX S ex a cells
 | .agg cs,cells=>mX S ex cs cells
def mX(S:aH U)(ex:Option Nat):(A_s:List (dv U))->List (KV U)->Option (cU A_s)
 |[],xs=>JC xs
 |a::l,xs=>F1 xs (fun x=>EY S ex a x) fun xs=>mX S ex l xs
end
mutual
def dv.depth:dv U->Nat
 | .ty _=>2
 | .bg _ cs=>lh cs+1
 | .ref a=>a.depth+1
 | .agg cs=>lh cs+1
def lh:List (dv U)->Nat
 |[]=>2
 |a::l=>max a.depth (lh l)
end
def me.plain:me U->Bool
 | .one T=>U.plain T
 | .many Ts=>Ts.all U.plain
 | .fn _=>false
def dv.Tg:dv U->Bool
 | .ref _=>true
 |_=>false
def me.ok:me U->Bool
 | .fn (.bg _ cs)=>cs.all dv.Tg
 | .fn _=>false
 |_=>true
theorem Ut{H:Nat->ep}{ex:Option Nat}:∀(n:Nat) {y:PV},y.eU=true->fz H ex n y=y
 |0,y,h=>by cases y<;>simp[PV.eU]at h<;>simp[fz,PV.closed]
 |n+1,y,h=>by cases y<;>simp[PV.eU]at h<;>simp[fz,PV.closed]
theorem R2{H:Nat->ep}{ex:Option Nat}(n:Nat){l:List PV}(h:∀y∈l,y.eU=true):l.map (fz H ex n)=l:=by
 induction l with
 |nil=>rfl
 |cons x l ih=>rw[QD,Ut n (h x (by simp)),ih fun y hy=>h y (by simp[hy])]
theorem MK{S:aH U}{id an:Nat}{T:U.Ty}{xs:List (U.den T)}(h:S.lk id an T=some xs):(S.H id).an=an/\∃e k,(S.H id).c= .row e k T xs:=by
 unfold aH.lk at h;split at h
 ·rename_i hv;split at h
  ·rename_i e k T' ys hc;obtain⟨eq,rfl⟩:=kf h;subst eq;exact⟨QF hv,e,k,hc⟩
  ·cases h
 ·cases h
variable {K}
variable {S : aH U} {ex : Option Nat}
theorem UO(hex:∀id,ex=some id->∀e k T xs,(S.H id).c≠ .row e k T xs)(n:Nat){x:KV U}{y:PV}(h:jz S.lk x y)(K:TK U):fz S.st.H ex (n+1) x.pv=y:=by
 cases h with
 |int=>simp[KV.pv,fz,PV.closed]
 |bool=>simp[KV.pv,fz,PV.closed]
 |str=>simp[KV.pv,fz,PV.closed]
 |cJ=>simp[KV.pv,fz]
 |sl T xs=>simp[KV.pv,fz,PV.closed]
 |fS A B xs=>simp[KV.pv,fz,PV.closed]
 |own id an T xs h=>
  obtain⟨hv,e,k,hc⟩:=MK h
  have hne:¬(some id=ex\/(S.st.H id).an≠an):=by
   rintro(h1|h1)
   ·exact hex id h1.symm _ _ _ _ hc
   ·exact h1 hv
  have hcp:(S.st.H id).c= .row e k (xs.map (U.pv T)):=by simp[aH.st,cm.pv,hc,cZ.pv]
  simp only[KV.pv,fz];rw[Qs hne,hcp];simp only[List.map_map];congr 1;refine List.map_congr_left fun v _=> ?_
  exact R2 n fun y hy=>K.eU T v y hy
theorem E4(hex:∀id,ex=some id->∀e k T xs,(S.H id).c≠ .row e k T xs)(n:Nat){xs:List (KV U)}{ys:List PV}(h:fC S.lk xs ys)(K:TK U):(xs.map KV.pv).map (fz S.st.H ex (n+1))=ys:=by
 induction h with
 |nil=>rfl
 |cons h _ ih=>rw[QD,QD,UO hex n h K,ih]
theorem D1(hex:∀id,ex=some id->∀e k T xs,(S.H id).c≠ .row e k T xs)(n:Nat){T:U.Ty}{x:KV U}{v:U.den T}(h:rM K S.lk T x=some v):fz S.st.H ex (n+2) x.pv=cv T v:=by
 unfold rM at h;unfold cv;split at h
 ·rename_i ha;split at h
  ·rename_i cs;simp only[KV.pv,KV.bJ,fz,E4 hex n (K.jr _ _ _ _ h) K]
  ·cases h
 ·rename_i ha;have h1:=E4 hex (n+1) (K.jr _ _ _ _ h) K;simp only[QD,QO]at h1;simp only[<-h1,List.headD_cons]
theorem K9(hex:∀id,ex=some id->∀e k T xs,(S.H id).c≠ .row e k T xs)(n:Nat):∀(Ts:List U.Ty) (xs:List (KV U)) (v:Ag U Ts),JH K S.lk Ts xs=some v->(xs.map KV.pv).map (fz S.st.H ex (n+2))=xm Ts v
 |[],[],_,_=>rfl
 |[],_::_,_,h=>by cases h
 |T::l,[],_,h=>by cases h
 |T::l,x::xs,v,h=>by
  rw[JH]at h;split at h
  ·rename_i v1 h1;split at h
   ·rename_i vs h2;injection h with h
    subst h;rw[QD,QD,xm,D1 hex n h1,K9 hex n l xs vs h2]
   ·cases h
  ·cases h
theorem O1{xs:List (KV U)}{ys:List PV}(h:fC kG xs ys):xs.all KV.JD=true->xs.map KV.pv=ys:=by
 induction h with
 |nil=>intro _;rfl
 |cons hc _ ih=>
  intro hn;rw[List.all_cons,Qm]at hn;rw[QD,ih hn.2];congr 1
  cases hc with
  |cJ=>cases hn.1
  |own _ _ _ _ h=>cases h
  |_=>rfl
theorem EW{T:U.Ty}{cs:List (KV U)}{v:U.den T}(h:zV K T cs=some v):cs.map KV.pv=U.pv T v:=by
 unfold zV at h;split at h
 ·rename_i hn;exact O1 (K.jr _ _ _ _ h) hn
 ·cases h
theorem Gr{cs:List (KV U)}{f:FuncId}{caps:List (KV U)}(h:tH cs= .bg f caps):cs=[.bg f caps]:=by
 unfold tH at h;split at h
 ·rw[h]
 ·cases h
theorem IG{cs cells:List (KV U)}(h:tH cs= .ref cells):cs=[.ref cells]:=by
 unfold tH at h;split at h
 ·rw[h]
 ·cases h
theorem PH{cs:List (KV U)}{id an off:Nat}(h:tH cs= .ptr id an off):cs=[.ptr id an off]:=by
 unfold tH at h;split at h
 ·rw[h]
 ·cases h
mutual
theorem Sh:∀(a:dv U) (x:KV U) (v:a.den),CQ K a x=some v->x.pv=jD a v
 | .ty T,x,v,h=>by
  rw[CQ]at h;rw[jD];split at h
  ·rename_i ha;obtain⟨cs,rfl,h⟩:=zn h;rw[KV.pv,KV.bJ,EW h,cv,ha]
  ·rename_i ha;have:=EW h;rw[cv,ha,<-this];rfl
 | .bg f cs,x,v,h=>by
  rw[CQ]at h;rw[jD];obtain⟨caps,rfl,h'⟩:=u0 h;rw[KV.pv,KV.bJ,ue cs caps v h']
 | .ref a,x,v,h=>by
  rw[CQ]at h;rw[jD];obtain⟨cells,rfl,h⟩:=FY h;rw[KV.pv,KV.bJ,zW a cells v h]
 | .agg cs,x,v,h=>by
  rw[CQ]at h;rw[jD];obtain⟨cells,rfl,h⟩:=zn h;rw[KV.pv,KV.bJ,ue cs cells v h]
theorem zW:∀(a:dv U) (cs:List (KV U)) (v:a.den),ve K a cs=some v->cs.map KV.pv=lG a v
 | .ty T,cs,v,h=>by rw[ve]at h;rw[lG];exact EW h
 | .bg f cs,cells,v,h=>by
  rw[ve]at h;rw[lG];obtain⟨caps,hh,h⟩:=u0 h;rw[Gr hh,QD,QO,KV.pv,KV.bJ,ue cs caps v h]
 | .ref a,cells,v,h=>by
  rw[ve]at h;rw[lG];obtain⟨cells',hh,h⟩:=FY h;rw[IG hh,QD,QO,KV.pv,KV.bJ,zW a cells' v h]
 | .agg cs,cells,v,h=>by
  rw[ve]at h;rw[lG];exact ue cs cells v h
theorem ue:∀(A_s:List (dv U)) (xs:List (KV U)) (v:cU A_s),uf K A_s xs=some v->xs.map KV.pv=eW A_s v
 |[],xs,v,h=>by
  rw[uf]at h;rw[eW,F0 h];rfl
 |a::l,xs,v,h=>by
  rw[uf]at h;rw[eW];obtain⟨x,xs,rfl,h1,h2⟩:=DE h;rw[QD,Sh a x v.1 h1,ue l xs v.2 h2]
end
mutual
theorem MX(hex:∀id,ex=some id->∀e k T xs,(S.H id).c≠ .row e k T xs):∀(a:dv U) (n:Nat) (x:KV U) (v:a.den),a.depth<=n->EY K S ex a x=some v->fz S.st.H ex n x.pv=jD a v
 | .ty T,n,x,v,hd,h=>by
  rw[EY]at h;rw[jD];rw[dv.depth]at hd;obtain⟨m,rfl⟩:∃m,n=m+2:=⟨n - 2,by omega⟩
  exact D1 hex m h
 | .bg f cs,n,x,v,hd,h=>by
  rw[EY]at h;rw[jD];rw[dv.depth]at hd;obtain⟨m,rfl⟩:∃m,n=m+1:=⟨n - 1,by omega⟩
  obtain⟨caps,rfl,h'⟩:=u0 h;rw[KV.pv,KV.bJ,fz,jN hex cs m caps v (by omega) h']
 | .ref a,n,x,v,hd,h=>by
  rw[EY]at h;rw[jD];rw[dv.depth]at hd;obtain⟨m,rfl⟩:∃m,n=m+1:=⟨n - 1,by omega⟩
  rcases FZ h with⟨cells,rfl,h⟩|⟨id,an,cells,rfl,hex2,hver,hc,h⟩
  ·rw[KV.pv,KV.bJ,zW a cells v h];simp[fz,PV.closed]
  ·have hne:¬(some id=ex\/(S.st.H id).an≠an):=by
    rintro(h1|h1)
    ·rw[<-h1]at hex2;simp[N8]at hex2
    ·exact h1 hver
   have hcp:(S.st.H id).c= .box (cells.map KV.pv):=by simp[aH.st,cm.pv,hc,cZ.pv]
   simp only[KV.pv,fz];rw[Qs hne,hcp];simp only[List.drop_zero];rw[MW hex a m cells v (by omega) h]
 | .agg cs,n,x,v,hd,h=>by
  rw[EY]at h;rw[jD];rw[dv.depth]at hd;obtain⟨m,rfl⟩:∃m,n=m+1:=⟨n - 1,by omega⟩
  obtain⟨caps,rfl,h'⟩:=zn h;rw[KV.pv,KV.bJ,fz,jN hex cs m caps v (by omega) h']
theorem MW(hex:∀id,ex=some id->∀e k T xs,(S.H id).c≠ .row e k T xs):∀(a:dv U) (n:Nat) (cs:List (KV U)) (v:a.den),a.depth<=n->EX K S ex a cs=some v->(cs.map KV.pv).map (fz S.st.H ex n)=lG a v
 | .ty T,n,cs,v,hd,h=>by
  rw[EX]at h;rw[lG];rw[dv.depth]at hd;obtain⟨m,rfl⟩:∃m,n=m+1:=⟨n - 1,by omega⟩
  exact E4 hex m (K.jr _ _ _ _ h) K
 | .bg f cs,n,cells,v,hd,h=>by
  rw[EX]at h;rw[lG];rw[dv.depth]at hd;obtain⟨m,rfl⟩:∃m,n=m+1:=⟨n - 1,by omega⟩
  obtain⟨caps,hh,h⟩:=u0 h;rw[Gr hh,QD,QO,QD,QO,KV.pv,KV.bJ,fz,jN hex cs m caps v (by omega) h]
 | .ref a,n,cells,v,hd,h=>by
  rw[EX]at h;rw[lG];rw[dv.depth]at hd;obtain⟨m,rfl⟩:∃m,n=m+1:=⟨n - 1,by omega⟩
  rcases FZ h with⟨cells',hh,h⟩|⟨id,an,cells',hh,hex2,hver,hc,h⟩
  ·rw[IG hh,QD,QO,KV.pv,KV.bJ,zW a cells' v h];simp[fz,PV.closed]
  ·have hne:¬(some id=ex\/(S.st.H id).an≠an):=by
    rintro(h1|h1)
    ·rw[<-h1]at hex2;simp[N8]at hex2
    ·exact h1 hver
   have hcp:(S.st.H id).c= .box (cells'.map KV.pv):=by simp[aH.st,cm.pv,hc,cZ.pv]
   rw[PH hh];simp only[QD,QO,KV.pv,fz];rw[Qs hne,hcp];simp only[List.drop_zero];rw[MW hex a m cells' v (by omega) h]
 | .agg cs,n,cells,v,hd,h=>by
  rw[EX]at h;rw[lG];rw[dv.depth]at hd;exact jN hex cs n cells v (by omega) h
theorem jN(hex:∀id,ex=some id->∀e k T xs,(S.H id).c≠ .row e k T xs):∀(A_s:List (dv U)) (n:Nat) (xs:List (KV U)) (v:cU A_s),lh A_s<=n->mX K S ex A_s xs=some v->(xs.map KV.pv).map (fz S.st.H ex n)=eW A_s v
 |[],n,xs,v,hd,h=>by
  rw[mX]at h;rw[eW,F0 h];rfl
 |a::l,n,xs,v,hd,h=>by
  rw[mX]at h;rw[eW];rw[lh]at hd;obtain⟨x,xs,rfl,h1,h2⟩:=DE h;rw[QD,QD,MX hex a n x v.1 (by omega) h1,jN hex l n xs v.2 (by omega) h2]
end
theorem oI{xs:List (KV U)}{ys:List PV}(h:fC kG xs ys):(xs.map KV.pv).map nz=ys/\xs.all KV.closed=true:=by
 induction h with
 |nil=>exact⟨rfl,rfl⟩
 |cons h _ ih=>
  obtain⟨h1,h2⟩:=ih;simp only[QD,List.all_cons,h1,h2,Bool.and_true]
  cases h with
  |own _ _ _ _ h=>cases h
  |_=>simp[KV.pv,nz,KV.closed]
def aH.xH(S:aH U)(id an:Nat):aH U:={env:=S.env,H:=fm S.H id ⟨an,.dead⟩,N:=S.N}
theorem To{H H':Nat->ep}{ex:Option Nat}(h:∀j,some j≠ex->H' j=H j):∀(n:Nat) (y:PV),fz H' ex n y=fz H ex n y
 |0,y=>by simp only[fz]
 |n+1,y=>by
  have hm:fz H' ex n=fz H ex n:=funext (To h n)
  cases y with
  |own id an=>
   simp only[fz,hm]
   by_cases h0:some id=ex
   ·rw[Qr (.inl h0),Qr (.inl h0)]
   ·rw[h id h0]
  |ptr id an off=>
   simp only[fz,hm]
   by_cases h0:some id=ex
   ·rw[Qr (.inl h0),Qr (.inl h0)]
   ·rw[h id h0]
  |agg cs=>simp only[fz,hm]
  |c6 cs=>simp only[fz,hm]
  |bg f cs=>simp only[fz,hm]
  |_=>simp only[fz]
theorem HL(S:aH U)(id an n:Nat)(y:PV):fz (S.xH id an).st.H (some id) n y=fz S.st.H (some id) n y:=by
 refine To (fun j hj=> ?_) n y
 have:j≠id:=fun e=>hj (by rw[e])
 simp only[aH.xH,aH.st,bM,bF _ _ this]
theorem EN(S:aH U)(id an:Nat):∀j,some id=some j->∀e k T xs,((S.xH id an).H j).c≠ .row e k T xs:=by
 intro j hj e k T xs;injection hj with hj
 subst hj;simp only[aH.xH,bM,bo];intro h;cases h
inductive cD (U:TU) where
 |rw(f:FuncId) (e k:Nat) (T:U.Ty) (A_s:List (dv U)) (rs:me U) (F:List (U.den T)->cU A_s->Option (rs.den×List (U.den T)))
 |cw (f:FuncId) (e k:Nat) (T:U.Ty) (A_s:List (dv U)) (F:List (U.den T)->cU A_s->Option (List (U.den T)))
 |fw (f:FuncId) (A_s:List (dv U)) (e k:Nat) (T:U.Ty) (F:cU A_s->Option (List (U.den T)))
 |fn (f:FuncId) (A_s:List (dv U)) (rs:me U) (F:cU A_s->Option rs.den)
 |rc (f:FuncId) (pos:Nat) (R:U.Ty) (A_s:List (dv U)) (rs:me U) (F:U.den R->cU A_s->Option (rs.den×U.den R))
 |nw (f:FuncId) (A_s:List (dv U)) (R:U.Ty) (F:cU A_s->Option (U.den R))
 |ro (f:FuncId) (pos:Nat) (R:U.Ty) (A_s:List (dv U)) (rs:me U) (F:U.den R->cU A_s->Option (rs.den×U.den R))
 |bk (f k:Nat) (nE:Option Nat)
def cD.Sound(P:Program):cD U->Prop
 | .rw f e k T A_s rs F=>Enters P f/\∀xs a r ys,F xs a=some (r,ys)->H5 P f e k (xs.map (U.pv T)) (eW A_s a) (oa rs r) (ys.map (U.pv T))
 | .cw f e k T A_s F=>Enters P f/\∀xs a ys,F xs a=some ys->Fa P f e k (xs.map (U.pv T)) (eW A_s a) (ys.map (U.pv T))
 | .fw f A_s e k T F=>Enters P f/\∀a ys,F a=some ys->LO P f (eW A_s a) e k (ys.map (U.pv T))
 | .fn f A_s rs F=>Enters P f/\∀a r,F a=some r->Ro P f false [] (eW A_s a) (oa rs r) []
 | .rc f pos R A_s rs F=>Enters P f/\∀s a r s',F s a=some (r,s')->CV P f pos true (U.pv R s) (eW A_s a) (oa rs r) (U.pv R s')
 | .ro f pos R A_s rs F=>Enters P f/\∀s a r s',F s a=some (r,s')->s'=s/\CV P f pos true (U.pv R s) (eW A_s a) (oa rs r) (U.pv R s')
 | .nw f A_s R F=>Enters P f/\∀a s,F a=some s->LN P f (eW A_s a) (U.pv R s)
 | .bk f k nE=>fH P f 19 (wx k nE) []
def oM(P:Program):List (cD U)->Prop
 |[]=>True
 |f::l=>f.Sound P/\oM P l
def Gu(f k:Nat)(nE:Option Nat):List (cD U)->Bool
 |[]=>false
 | .bk f' k' nE'::Γ=>(Nat.beq f f'&&Nat.beq k k'&&(match nE,nE' with|none,none=>true|some a,some b=>Nat.beq a b|_,_=>false))||Gu f k nE Γ
 |_::Γ=>Gu f k nE Γ
theorem EP{P:Program}{f k:Nat}{nE:Option Nat}:∀{Γ:List (cD U)},oM P Γ->Gu f k nE Γ=true->fH P f 19 (wx k nE) []
 |[],_,h=>by cases h
 | .bk f' k' nE'::Γ,hΓ,h=>by
  simp only[Gu,Qn,Qm]at h;rcases h with⟨⟨h1,h2⟩,h3⟩|h
  ·have h1:=QF h1;have h2:=QF h2;subst h1 h2
   have h4:nE=nE':=by
    cases nE<;>cases nE'<;>simp only at h3<;>first|rfl|(cases h3)|(rw[QF h3])
   subst h4;exact hΓ.1
  ·exact EP hΓ.2 h
 | .ro ..::Γ,hΓ,h| .rw ..::Γ,hΓ,h| .cw ..::Γ,hΓ,h| .fw ..::Γ,hΓ,h| .fn ..::Γ,hΓ,h| .rc ..::Γ,hΓ,h| .nw ..::Γ,hΓ,h=>EP (Γ:=Γ) hΓ.2 h
theorem KQ{y:PV}(h:y.eU=true):y.closed=true:=by
 cases y<;>first|rfl|cases h
open Classical in
 def oX(recv:Bool)(pos:Nat)(fresh ro:Bool)(cs args:List PV)(r:PV)(cs':List PV):Model:=
 {recv:=recv,pos:=pos,fresh:=fresh,m:=fun c a=>if c=cs/\a=args then some (r,cs')else none,rk:= .no,ro:=ro,rm:=fun _ _=>none}
open Classical in
 def uY(rk:RK)(es:List (List PV))(args:List PV)(r:PV)(es':List (List PV)):Model:=
 {recv:=false,pos:=0,fresh:=false,m:=fun _ _=>none,rk:=rk,ro:=false,rm:=fun c a=>if c=es/\a=args then some (r,es')else none}
 def p9(f:FuncId)(m:Model):kL:=fun g=>if g=f then some m else none
theorem oi{P:Program}{f:FuncId}{m:Model}(h:yO P f m):iG P (p9 f m):=by
 intro g m' hg;unfold p9 at hg;split at hg
 ·rename_i e;subst e;injection hg with hg;subst hg;exact h
 ·cases hg
theorem om(f:FuncId)(m:Model):p9 f m f=some m:=Qr rfl
def aH.nL(S:aH U)(id an:Nat):Option (List (KV U)):=
 match Nat.beq (S.H id).an an with
 |true=>match(S.H id).c with
  | .box cs=>some cs
  |_=>none
 |false=>none
theorem ui{id an:Nat}{cs:List (KV U)}(h:S.nL id an=some cs):(S.H id).an=an/\(S.H id).c= .box cs:=by
 unfold aH.nL at h;split at h
 ·rename_i hv;split at h
  ·rename_i hc;injection h with h;subst h;exact⟨QF hv,hc⟩
  ·cases h
 ·cases h
structure SH (U:TU) where
 e:Nat
 k:Nat
 T:U.Ty
 xs:List (U.den T)
def aH.row?(S:aH U)(id an:Nat):Option (SH U):=
 match Nat.beq (S.H id).an an with
 |true=>match(S.H id).c with
  | .row e k T xs=>some ⟨e,k,T,xs⟩
  |_=>none
 |false=>none
theorem w4{id an:Nat}{r:SH U}(h:S.row? id an=some r):(S.H id).an=an/\(S.H id).c= .row r.e r.k r.T r.xs:=by
 unfold aH.row? at h;split at h
 ·rename_i hv;split at h
  ·rename_i hc;injection h with h;subst h;exact⟨QF hv,hc⟩
  ·cases h
 ·cases h
theorem lq{id an:Nat}{r:SH U}(h:S.row? id an=some r):(S.st.H id).an=an/\(S.st.H id).c= .row r.e r.k (r.xs.map (U.pv r.T)):=by
 obtain⟨h1,h2⟩:=w4 h;exact⟨h1,by simp[aH.st,cm.pv,h2,cZ.pv]⟩
structure VY (U:TU) where
 e:Nat
 k:Nat
 es:List (List (KV U))
def aH.Kf(S:aH U)(id an:Nat):Option (VY U):=
 match Nat.beq (S.H id).an an with
 |true=>match(S.H id).c with
  | .raw e k es=>some ⟨e,k,es⟩
  |_=>none
 |false=>none
theorem Ke{id an:Nat}{r:VY U}(h:S.Kf id an=some r):(S.st.H id).an=an/\(S.st.H id).c= .row r.e r.k (r.es.map fun c=>c.map KV.pv):=by
 unfold aH.Kf at h;split at h
 ·rename_i hv;split at h
  ·rename_i hc;injection h with h
   subst h;exact⟨QF hv,by simp[aH.st,cm.pv,hc,cZ.pv]⟩
  ·cases h
 ·cases h
def Jz{α:Type}(S:aH U)(e k:Nat)(T:U.Ty)(args:List (KV U))(j:Nat->Nat->List (U.den T)->List (KV U)->Option α):Option α:=
 match args with
 | .own id an::rest=>(match S.row? id an with
  |some r=>(match Nat.beq r.e e&&Nat.beq r.k k with
   |true=>(match tJ r.T T r.xs with|some xs=>j id an xs rest|none=>none)
   |false=>none)
  |none=>none)
 |_=>none
theorem FX{α:Type}{e k:Nat}{T:U.Ty}{args:List (KV U)}{j:Nat->Nat->List (U.den T)->List (KV U)->Option α}{r:α}(h:Jz S e k T args j=some r):
  ∃id an xs rest,args= .own id an::rest/\(S.H id).an=an/\(S.H id).c= .row e k T xs/\j id an xs rest=some r:=by
 unfold Jz at h;split at h
 ·rename_i id an rest;split at h
  ·rename_i rr hr;obtain⟨h1,h2⟩:=w4 hr;split at h
   ·rename_i hek;rw[Qm]at hek;split at h
    ·rename_i xs hxs;obtain⟨eT,rfl⟩:=kf hxs;obtain⟨re,rk,rT,rxs⟩:=rr;simp only at eT h2 hek;subst eT;exact⟨id,an,_,rest,rfl,h1,by rw[h2,QF hek.1,QF hek.2],h⟩
    ·cases h
   ·cases h
  ·cases h
 ·cases h
theorem qC(K:TK U)(T:U.Ty)(xs:List (U.den T)):se (xs.map (U.pv T))=true:=by
 refine QH.2 fun u hu=> ?_
 obtain⟨x,_,rfl⟩:=QP.1 hu;exact QH.2 fun y hy=>KQ (K.eU T x y hy)
theorem Er(K:TK U){T:U.Ty}(hp:U.plain T=true)(xs:List (U.den T)):BA (xs.map (U.pv T))=true:=by
 refine QH.2 fun u hu=> ?_
 obtain⟨x,_,rfl⟩:=QP.1 hu;exact QH.2 fun y hy=>K.plain T hp x y hy
variable (K)
def gD{ρ:Type}(nid:Nat)(S:aH U)(f:FuncId)(args:List (KV U))(k:KV U->Option (Nat×cm U)->Option ρ):List (cD U)->Option ρ
 |[]=>none
 | .bk _ _ _::Γ=>gD nid S f args k Γ
 | .rw g e kk T A_s rs F::Γ=>match Nat.beq f g with
  |true=>Jz S e kk T args fun id an xs rest=>(match mX K (S.xH id an) (some id) A_s rest with
   |some a=>(match(rs.plain||rest.all KV.aX)&&(U.plain T||rest.all KV.aX)&&(rs.ok&&Nat.ble (lh A_s) 9)with
    |true=>(F xs a).bind fun p=>k (J7 K rs p.1) (some (id,⟨an,.row e kk T p.2⟩))
    |false=>none)
   |none=>gD nid S f args k Γ)
  |false=>gD nid S f args k Γ
 | .cw g e kk T A_s F::Γ=>match Nat.beq f g with
  |true=>Jz S e kk T args fun id an xs rest=>(match mX K (S.xH id an) (some id) A_s rest with
   |some a=>(match(U.plain T||rest.all KV.aX)&&Nat.ble (lh A_s) 9 with
    |true=>(F xs a).bind fun ys=>k (.own id (an+1)) (some (id,⟨an+1,.row e kk T ys⟩))
    |false=>none)
   |none=>gD nid S f args k Γ)
  |false=>gD nid S f args k Γ
 | .fw g A_s e kk T F::Γ=>match Nat.beq f g with
  |true=>(match mX K S none A_s args with
   |some a=>(match(U.plain T||args.all KV.aX)&&Nat.ble (lh A_s) 9 with
    |true=>(F a).bind fun ys=>k (.own nid ((S.H nid).an+1)) (some (nid,⟨(S.H nid).an+1,.row e kk T ys⟩))
    |false=>none)
   |none=>gD nid S f args k Γ)
  |false=>gD nid S f args k Γ
 | .fn g A_s rs F::Γ=>match Nat.beq f g with
  |true=>(match mX K S none A_s args with
   |some a=>(match(rs.plain||args.all KV.aX)&&(rs.ok&&Nat.ble (lh A_s) 9)with
    |true=>(F a).bind fun r=>k (J7 K rs r) none
    |false=>none)
   |none=>gD nid S f args k Γ)
  |false=>gD nid S f args k Γ
 | .rc g pos R A_s rs F::Γ=>match Nat.beq f g with
  |true=>(match args[pos]? with
   |some (.ptr id an 0)=>(match S.nL id an with
    |some cs=>(match K.dec R kG cs with
     |some s=>(match mX K S (some id) A_s (cutAt pos args)with
      |some a=>(match((rs.plain&&U.plain R)||(cutAt pos args).all KV.aX)&&(rs.ok&&Nat.ble (lh A_s) 9)with
       |true=>(F s a).bind fun p=>k (J7 K rs p.1) (some (id,⟨an,.box (K.bI R p.2)⟩))
       |false=>none)
      |none=>gD nid S f args k Γ)
     |none=>none)
    |none=>none)
   |_=>none)
  |false=>gD nid S f args k Γ
 | .ro g pos R A_s rs F::Γ=>match Nat.beq f g with
  |true=>(match args[pos]? with
   |some (.ptr id an 0)=>(match S.nL id an with
    |some cs=>(match zV K R cs with
     |some s=>(match mX K S (some id) A_s (cutAt pos args)with
      |some a=>(match((rs.plain&&U.plain R)||(cutAt pos args).all KV.aX)&&(rs.ok&&Nat.ble (lh A_s) 9)with
       |true=>(F s a).bind fun p=>k (J7 K rs p.1) none
       |false=>none)
      |none=>gD nid S f args k Γ)
     |none=>none)
    |none=>none)
   |_=>none)
  |false=>gD nid S f args k Γ
 | .nw g A_s R F::Γ=>match Nat.beq f g with
  |true=>(match mX K S none A_s args with
   |some a=>(match(U.plain R||args.all KV.aX)&&Nat.ble (lh A_s) 9 with
    |true=>(F a).bind fun s=>k (.ptr nid ((S.H nid).an+1) 0) (some (nid,⟨(S.H nid).an+1,.box (K.bI R s)⟩))
    |false=>none)
   |none=>gD nid S f args k Γ)
  |false=>gD nid S f args k Γ
variable {K}
theorem oP{T:U.Ty}(K:TK U)(v:U.den T)(ha:U.agg T=false):∃y,cv T v=y/\y∈U.pv T v:=by
 have h1:=K.len T v;rw[K.one T ha]at h1
 cases hq:U.pv T v with
 |nil=>rw[hq]at h1;cases h1
 |cons y l=>exact⟨y,by rw[cv,ha,hq];rfl,Qx⟩
theorem qZ{T:U.Ty}(v:U.den T)(ha:U.agg T=true):cv T v= .agg (U.pv T v):=by rw[cv,ha]
theorem Kj{y:PV}(h:y.plain=true):y.lx=true:=by
 cases y<;>first|exact h|cases h
theorem eM{y:PV}(h:y.eU=true):y.closed=true:=by
 cases y<;>first|rfl|cases h
theorem KP{y:PV}(h:y.eU=true):y.aX=true:=by
 cases y<;>first|rfl|cases h
theorem Dw(K:TK U){T:U.Ty}(hp:U.plain T=true)(v:U.den T):(cv T v).lx=true:=by
 cases ha:U.agg T with
 |true=>rw[qZ v ha];exact QH.2 fun y hy=>K.plain T hp v y hy
 |false=>obtain⟨y,h1,h2⟩:=oP K v ha;rw[h1];exact Kj (K.plain T hp v y h2)
theorem um{T:U.Ty}(K:TK U)(v:U.den T):(cv T v).aX=true:=by
 cases ha:U.agg T with
 |true=>rw[qZ v ha];exact QH.2 fun y hy=>eM (K.eU T v y hy)
 |false=>obtain⟨y,h1,h2⟩:=oP K v ha;rw[h1];exact KP (K.eU T v y h2)
theorem Ff(K:TK U):∀(Ts:List U.Ty) (v:Ag U Ts),Ts.all U.plain=true->(xm Ts v).all PV.lx=true
 |[],v,_=>rfl
 |T::l,v,h=>by
  rw[List.all_cons,Qm]at h;rw[xm,List.all_cons,Dw K h.1 v.1,Ff K l v.2 h.2];rfl
theorem AU(K:TK U):∀(Ts:List U.Ty) (v:Ag U Ts),(xm Ts v).all PV.aX=true
 |[],v=>rfl
 |T::l,v=>by rw[xm,List.all_cons,um K v.1,AU K l v.2];rfl
theorem O9{y:PV}(h:y.lx=true):y.og=true:=by
 cases y<;>first|exact h|cases h
theorem Al{T:U.Ty}(K:TK U)(v:U.den T)(cs:List PV):cv T v≠ .c6 cs:=by
 intro h
 cases ha:U.agg T with
 |true=>rw[qZ v ha]at h;cases h
 |false=>obtain⟨y,h1,h2⟩:=oP K v ha;have h3:=K.eU T v y h2;rw[<-h1,h]at h3;cases h3
theorem tB(K:TK U):∀(r:me U) (v:r.den),r.plain=true->(oa r v).og=true
 | .one T,v,h=>O9 (Dw K h v)
 | .many Ts,v,h=>Ff K Ts v h
 | .fn _,_,h=>by cases h
theorem I3:∀(A_s:List (dv U)) (v:cU A_s),A_s.all dv.Tg=true->(eW A_s v).all PV.closed=true
 |[],_,_=>by rw[eW];rfl
 |a::l,v,h=>by
  rw[List.all_cons,Qm]at h;rw[eW,List.all_cons,I3 l v.2 h.2,Bool.and_true]
  cases a with
  |ref a=>rw[jD];rfl
  |ty T=>cases h.1
  |bg f cs=>cases h.1
  |agg cs=>cases h.1
theorem rR(K:TK U):∀(r:me U) (v:r.den),r.ok=true->(oa r v).o6=true
 | .fn (.bg f cs),v,h=>by
  show(jD (.bg f cs) v).o6=true;rw[jD];exact I3 cs v h
 | .fn (.ty _),v,h=>by cases h
 | .fn (.ref _),v,h=>by cases h
 | .fn (.agg _),v,h=>by cases h
 | .one T,v,_=>by
  show(cv T v).o6=true;have h1:=um K v;have h2:=Al K v;generalize cv T v=y at h1 h2;cases y<;>first|exact h1|exact absurd rfl (h2 _)
 | .many Ts,v,_=>AU K Ts v
theorem ja(l:List (KV U)):(l.map KV.pv).all PV.aX=l.all KV.aX:=by
 induction l with
 |nil=>rfl
 |cons x l ih=>simp only[QD,List.all_cons,Oo,ih]
theorem dn{P:Program}{ρ:Type}{nid:Nat}{f:FuncId}{args:List (KV U)}{k:KV U->Option (Nat×cm U)->Option ρ}{r:ρ}:∀{Γ:List (cD U)},oM P Γ->gD K nid S f args k Γ=some r->
  ∃Γ' x wr,iG P Γ'/\js Γ' nid S.st f (args.map KV.pv)=some (x.pv,wr.map gS)/\k x wr=some r
 |[],_,h=>by cases h
 | .bk _ _ _::Γ,hΓ,h=>dn (Γ:=Γ) hΓ.2 h
 | .rw g e kk T A_s rs F::Γ,hΓ,h=>by
  simp only[gD]at h;split at h
  ·rename_i hg;have hg:=QF hg;subst hg;obtain⟨id,an,xs,rest,rfl,hver,hc,h'⟩:=FX h;split at h'
   ·rename_i a ha;split at h'
    ·rename_i hcl;simp only[Qc]at h';obtain⟨⟨v,ys⟩,hv,hk⟩:=h';rw[Qm,Qm,Qm]at hcl;obtain⟨⟨hcl1,hcl2⟩,hrok,hdep⟩:=hcl;have hfz:=jN (ex:=some id) (EN S id an) A_s 9 rest a (QG hdep) ha
     have hfz':(rest.map KV.pv).map (fz S.st.H (some id) 9)=eW A_s a:=by
      rw[<-hfz];exact List.map_congr_left fun y _=>(HL S id an 9 y).symm
     obtain⟨hen,hcon⟩:=hΓ.1;refine⟨p9 f (uY (.Q8 e kk) (xs.map (U.pv T)) (eW A_s a) (oa rs v) (ys.map (U.pv T))),J7 K rs v,some (id,⟨an,.row e kk T ys⟩),oi ⟨hen,(fun _ cs as' r' cs' hm=>by cases hm),(fun hq=>by cases hq),fun es as' r' es' hm=> ?_,(fun hq=>by cases hq)⟩,?_,hk⟩
     ·simp only[uY]at hm;split at hm
      ·rename_i he;injection hm with hm
       injection hm with h1 h2
       subst h1 h2;obtain⟨rfl,rfl⟩:=he;exact hcon xs a v ys hv
      ·cases hm
     ·have hv1:(S.st.H id).an=an:=hver;have hc1:(S.st.H id).c= .row e kk (xs.map (U.pv T)):=by simp[aH.st,cm.pv,hc,cZ.pv]
      simp only[QD,KV.pv,js,om,uY,tn,hv1,hc1,Qt,qC K T xs,and_self,hfz',FI,Qe,gS,cm.pv,cZ.pv];rw[Qr];rw[ja,rR K rs v hrok,qC K T ys];simp only[Qn]at hcl1 hcl2;rcases hcl1 with hcl1|hcl1
      ·rw[tB K rs v hcl1];rcases hcl2 with hcl2|hcl2
       ·rw[Er K hcl2 ys];rfl
       ·rw[hcl2];simp
      ·rw[hcl1];simp
    ·cases h'
   ·exact dn hΓ.2 h'
  ·exact dn hΓ.2 h
 | .cw g e kk T A_s F::Γ,hΓ,h=>by
  simp only[gD]at h;split at h
  ·rename_i hg;have hg:=QF hg;subst hg;obtain⟨id,an,xs,rest,rfl,hver,hc,h'⟩:=FX h;split at h'
   ·rename_i a ha;split at h'
    ·rename_i hcl;simp only[Qc]at h';obtain⟨ys,hv,hk⟩:=h';rw[Qm]at hcl;obtain⟨hcl2,hdep⟩:=hcl;have hfz:=jN (ex:=some id) (EN S id an) A_s 9 rest a (QG hdep) ha
     have hfz':(rest.map KV.pv).map (fz S.st.H (some id) 9)=eW A_s a:=by
      rw[<-hfz];exact List.map_congr_left fun y _=>(HL S id an 9 y).symm
     obtain⟨hen,hcon⟩:=hΓ.1;refine⟨p9 f (uY (.IX e kk) (xs.map (U.pv T)) (eW A_s a) .any (ys.map (U.pv T))),.own id (an+1),some (id,⟨an+1,.row e kk T ys⟩),oi ⟨hen,(fun _ cs as' r' cs' hm=>by cases hm),(fun hq=>by cases hq),fun es as' r' es' hm=> ?_,(fun hq=>by cases hq)⟩,?_,hk⟩
     ·simp only[uY]at hm;split at hm
      ·rename_i he;injection hm with hm
       injection hm with h1 h2
       subst h1 h2;obtain⟨rfl,rfl⟩:=he;exact hcon xs a ys hv
      ·cases hm
     ·have hv1:(S.st.H id).an=an:=hver;have hc1:(S.st.H id).c= .row e kk (xs.map (U.pv T)):=by simp[aH.st,cm.pv,hc,cZ.pv]
      simp only[QD,KV.pv,js,om,uY,tl,hv1,hc1,Qt,qC K T xs,and_self,hfz',Qe,gS,cm.pv,cZ.pv];rw[Qr];rw[ja,qC K T ys];simp only[Qn]at hcl2;rcases hcl2 with hcl2|hcl2
      ·rw[Er K hcl2 ys];rfl
      ·rw[hcl2];simp
    ·cases h'
   ·exact dn hΓ.2 h'
  ·exact dn hΓ.2 h
 | .fw g A_s e kk T F::Γ,hΓ,h=>by
  simp only[gD]at h;split at h
  ·rename_i hg;have hg:=QF hg;subst hg;split at h
   ·rename_i a ha;split at h
    ·rename_i hcl;simp only[Qc]at h;obtain⟨ys,hv,hk⟩:=h;rw[Qm]at hcl;obtain⟨hcl2,hdep⟩:=hcl;have hfz:=jN (ex:=none) (fun id h=>by cases h) A_s 9 args a (QG hdep) ha
     obtain⟨hen,hcon⟩:=hΓ.1;refine⟨p9 f (uY (.VF e kk) [] (eW A_s a) .any (ys.map (U.pv T))),.own nid ((S.H nid).an+1),some (nid,⟨(S.H nid).an+1,.row e kk T ys⟩),oi ⟨hen,(fun _ cs as' r' cs' hm=>by cases hm),(fun hq=>by cases hq),fun as' r' es' hm=> ?_,(fun hq=>by cases hq)⟩,?_,hk⟩
     ·simp only[uY]at hm;split at hm
      ·rename_i he;injection hm with hm
       injection hm with h1 h2
       subst h1 h2;obtain⟨_,rfl⟩:=he;exact hcon a ys hv
      ·cases hm
     ·simp only[js,om,uY,yJ,hfz,and_self,Qt,Qe,gS,cm.pv,cZ.pv,KV.pv];rw[Qr]
      ·rfl
      rw[ja,qC K T ys];simp only[Qn]at hcl2;rcases hcl2 with hcl2|hcl2
      ·rw[Er K hcl2 ys];rfl
      ·rw[hcl2];simp
    ·cases h
   ·exact dn hΓ.2 h
  ·exact dn hΓ.2 h
 | .fn g A_s rs F::Γ,hΓ,h=>by
  simp only[gD]at h;split at h
  ·rename_i hg;have hg:=QF hg;subst hg;split at h
   ·rename_i a ha;split at h
    ·rename_i hcl;simp only[Qc]at h;obtain⟨v,hv,hk⟩:=h;rw[Qm,Qm]at hcl;obtain⟨hcl,hrok,hdep⟩:=hcl;have hfz:=jN (ex:=none) (fun id h=>by cases h) A_s 9 args a (QG hdep) ha
     obtain⟨hen,hcon⟩:=hΓ.1;refine⟨p9 f (oX false 0 false false [] (eW A_s a) (oa rs v) []),_,none,oi ⟨hen,fun _ cs as' r' cs' hm=> ?_,(fun hq=>by cases hq),trivial,(fun hq=>by cases hq)⟩,?_,hk⟩
     ·simp only[oX]at hm;split at hm
      ·rename_i he;injection hm with hm
       injection hm with h1 h2
       subst h1 h2;obtain⟨rfl,rfl⟩:=he;exact hcon a v hv
      ·cases hm
     ·simp only[js,om,oX,Qq,Qu,hfz,and_self,Qt,FI,Option.map_none];rw[Qr];rw[ja,rR K rs v hrok];simp only[Qn]at hcl;rcases hcl with hcl|hcl
      ·rw[tB K rs v hcl];rfl
      ·rw[hcl];simp
    ·cases h
   ·obtain⟨Γ',x,wr,h1,h2,h3⟩:=dn hΓ.2 h;exact⟨Γ',x,wr,h1,h2,h3⟩
  ·exact dn hΓ.2 h
 | .rc g pos R A_s rs F::Γ,hΓ,h=>by
  simp only[gD]at h;split at h
  ·rename_i hg;have hg:=QF hg;subst hg;split at h
   ·rename_i id an hpos;have hpos:args[pos]?=some (.ptr id an 0):=hpos;generalize hrest:cutAt pos args=rest at h;split at h
    ·rename_i cs hbox;split at h
     ·rename_i s hs;split at h
      ·rename_i a ha;split at h
       ·rename_i hcl;simp only[Qc]at h;obtain⟨⟨v,s'⟩,hv,hk⟩:=h;obtain⟨hver,hc⟩:=ui hbox;rw[Qm,Qm]at hcl;obtain⟨hcl,hrok,hdep⟩:=hcl;have hfz:=jN (ex:=some id) (fun id' h=>by injection h with h;subst h;intro e k T xs hq;rw[hc]at hq;cases hq) A_s 9 rest a (QG hdep) ha
        obtain⟨hnz,hclo⟩:=oI (K.jr _ _ _ _ hs);obtain⟨hen,hcon⟩:=hΓ.1;refine⟨p9 f (oX true pos false false (U.pv R s) (eW A_s a) (oa rs v) (U.pv R s')),_,_,oi ⟨hen,fun _ cs as' r' cs' hm=> ?_,(fun hq=>by cases hq),trivial,(fun hq=>by cases hq)⟩,?_,hk⟩
        ·simp only[oX]at hm;split at hm
         ·rename_i he;injection hm with hm
          injection hm with h1 h2
          subst h1 h2;obtain⟨rfl,rfl⟩:=he;exact hcon s a v s' hv
         ·cases hm
        ·have hv1:(S.st.H id).an=an:=hver;have hc1:(S.st.H id).c= .box (cs.map KV.pv):=by simp[aH.st,cm.pv,hc,cZ.pv]
         have hpos':(args.map KV.pv)[pos]?=some (.ptr id an 0):=by rw[QT,hpos];rfl
         have hrest':cutAt pos (args.map KV.pv)=rest.map KV.pv:=by rw[<-hrest];simp[cutAt]
         simp only[js,om,oX,Bool.false_and,Qq,Qu,Qt,hpos',hrest',hv1,hc1,jP,hclo,hnz,hfz,and_self,FI,Qe,gS,cm.pv,cZ.pv,K.mB];rw[Qr];have hgs:(U.pv R s').all PV.closed=true:=QH.2 fun y hy=>eM (K.eU R s' y hy)
         rw[ja,rR K rs v hrok,hgs];simp only[Qn,Qm]at hcl;rcases hcl with⟨hcl1,hcl2⟩|hcl
         ·rw[tB K rs v hcl1,QH.2 fun y hy=>K.plain R hcl2 s' y hy];rfl
         ·rw[hcl];simp
       ·cases h
      ·exact dn hΓ.2 h
     ·cases h
    ·cases h
   ·cases h
  ·exact dn hΓ.2 h
 | .ro g pos R A_s rs F::Γ,hΓ,h=>by
  simp only[gD]at h;split at h
  ·rename_i hg;have hg:=QF hg;subst hg;split at h
   ·rename_i id an hpos;have hpos:args[pos]?=some (.ptr id an 0):=hpos;generalize hrest:cutAt pos args=rest at h;split at h
    ·rename_i cs hbox;split at h
     ·rename_i s hs;split at h
      ·rename_i a ha;split at h
       ·rename_i hcl;simp only[Qc]at h;obtain⟨⟨v,s'⟩,hv,hk⟩:=h;obtain⟨hver,hc⟩:=ui hbox;rw[Qm,Qm]at hcl;obtain⟨hcl,hrok,hdep⟩:=hcl;have hfz:=jN (ex:=some id) (fun id' h=>by injection h with h;subst h;intro e k T xs hq;rw[hc]at hq;cases hq) A_s 9 rest a (QG hdep) ha
        obtain⟨hnn,hs⟩:cs.all KV.JD=true/\K.dec R kG cs=some s:=by
         unfold zV at hs;split at hs
         ·rename_i hn;exact⟨hn,hs⟩
         ·cases hs
        obtain⟨hnz,hclo⟩:=oI (K.jr _ _ _ _ hs)
        have hnnp:(cs.map KV.pv).all PV.Kw=true:=by
         rw[QH];intro y hy;obtain⟨x,hx,rfl⟩:=QP.1 hy;have:=QH.1 hnn x hx;cases x<;>first|rfl|cases this
        obtain⟨hen,hcon⟩:=hΓ.1;refine⟨p9 f (oX true pos false true (U.pv R s) (eW A_s a) (oa rs v) (U.pv R s')),_,none,oi ⟨hen,fun _ cs as' r' cs' hm=> ?_,(fun hq=>by cases hq),trivial,fun _ cs as' r' cs' hm=> ?_⟩,?_,hk⟩
        ·simp only[oX]at hm;split at hm
         ·rename_i he;injection hm with hm
          injection hm with h1 h2
          subst h1 h2;obtain⟨rfl,rfl⟩:=he;exact(hcon s a v s' hv).2
         ·cases hm
        ·simp only[oX]at hm;split at hm
         ·rename_i he;injection hm with hm
          injection hm with h1 h2
          subst h1 h2;rw[(hcon s a v s' hv).1,he.1]
         ·cases hm
        ·have hv1:(S.st.H id).an=an:=hver;have hc1:(S.st.H id).c= .box (cs.map KV.pv):=by simp[aH.st,cm.pv,hc,cZ.pv]
         have hpos':(args.map KV.pv)[pos]?=some (.ptr id an 0):=by rw[QT,hpos];rfl
         have hrest':cutAt pos (args.map KV.pv)=rest.map KV.pv:=by rw[<-hrest];simp[cutAt]
         simp only[js,om,oX,Qq,Qu,Qt,hpos',hrest',hv1,hc1,jP,hclo,hnz,hfz,and_self,FI,Option.map_none,hnnp,Bool.and_self];rw[Qr];have hgs:(U.pv R s').all PV.closed=true:=QH.2 fun y hy=>eM (K.eU R s' y hy)
         rw[ja,rR K rs v hrok,hgs];simp only[Qn,Qm]at hcl;rcases hcl with⟨hcl1,hcl2⟩|hcl
         ·rw[tB K rs v hcl1,QH.2 fun y hy=>K.plain R hcl2 s' y hy];rfl
         ·rw[hcl];simp
       ·cases h
      ·exact dn hΓ.2 h
     ·cases h
    ·cases h
   ·cases h
  ·exact dn hΓ.2 h
 | .nw g A_s R F::Γ,hΓ,h=>by
  simp only[gD]at h;split at h
  ·rename_i hg;have hg:=QF hg;subst hg;split at h
   ·rename_i a ha;split at h
    ·rename_i hcl;simp only[Qc]at h;obtain⟨s,hs,hk⟩:=h;rw[Qm]at hcl;obtain⟨hcl,hdep⟩:=hcl;have hfz:=jN (ex:=none) (fun id h=>by cases h) A_s 9 args a (QG hdep) ha
     obtain⟨hen,hcon⟩:=hΓ.1;refine⟨p9 f (oX false 0 true false [] (eW A_s a) .any (U.pv R s)),_,_,oi ⟨hen,(fun hq=>by cases hq),fun _ as' r' cs' hm=> ?_,trivial,(fun hq=>by cases hq)⟩,?_,hk⟩
     ·simp only[oX]at hm;split at hm
      ·rename_i he;injection hm with hm
       injection hm with h1 h2
       subst h1 h2;obtain⟨_,rfl⟩:=he;exact hcon a s hs
      ·cases hm
     ·simp only[js,om,oX,Qt,hfz,and_self,Qe,gS,cm.pv,cZ.pv,K.mB];have hgs:(U.pv R s).all PV.closed=true:=QH.2 fun y hy=>eM (K.eU R s y hy)
      rw[Qr]
      ·rfl
      rw[ja,hgs];simp only[Qn]at hcl;rcases hcl with hcl|hcl
      ·rw[QH.2 fun y hy=>K.plain R hcl s y hy];rfl
      ·rw[hcl];simp
    ·cases h
   ·exact dn hΓ.2 h
  ·exact dn hΓ.2 h
end
end Go.TQ
end
noncomputable section
namespace Go.TQ
def idx{α:Type}(xs:List α)(n:Int):Option α:=if 0<=n then xs[n.toNat]? else none
def bW(bytes n:Nat):Bool:=decide (n*bytes<=140737488355328)&&decide (n<=maxLen)
theorem u6{bytes n:Nat}(h:bW bytes n=true):n*bytes<=140737488355328/\n<=maxLen:=by
 simpa[bW]using h
theorem EM{α:Type}{xs:List α}{n:Int}{v:α}(h:idx xs n=some v):0<=n/\n.toNat<xs.length/\xs[n.toNat]?=some v:=by
 unfold idx at h;split at h
 ·rename_i h0;exact⟨h0,(Qw.1 h).1,h⟩
 ·cases h
section
variable {U : TU}
def BM:Option Nat->List (KV U)->Option (KV U)
 |none,cs=>(match cs with|x::_=>some x|[]=>none)
 |some n,cs=>(match Nat.ble n cs.length with|true=>some (.agg (cs.take n))|false=>none)
def xW(cs:List (KV U))(off:Nat)(xs:List (KV U)):List (KV U):=cs.take off++xs++cs.drop (off+xs.length)
def JF(S:aH U):List (KV U)->List (Nat×Nat×aP)->Option (List (KV U))
 |cs,[]=>some cs
 |cs,(off,n,x)::rest=>
  match Nat.beq (x.bO S).cells.length n&&Nat.ble (off+n) cs.length&&(x.bO S).cells.all KV.one with
  |true=>JF S (xW cs off (x.bO S).cells) rest
  |false=>none
def B3(S:aH U)(k:Nat):List (List (KV U))->List (Nat×aP)->Option (List (List (KV U)))
 |es,[]=>some es
 |es,(i,x)::rest=>
  match Nat.beq (x.bO S).cells.length k&&Nat.blt i es.length&&(x.bO S).cells.all KV.one with
  |true=>B3 S k (es.set i (x.bO S).cells) rest
  |false=>none
def JI(K:TK U)(T:U.Ty):List (List (KV U))->Option (List (U.den T))
 |[]=>some []
 |e::es=>match K.dec T kG e with
  |some v=>(match JI K T es with|some vs=>some (v::vs)|none=>none)
  |none=>none
def Sr{ρ:Type}(op:BinOp)(x y:KV U)(k:KV U->Option ρ):Option ρ:=
 match x,y with
 | .int kd a,.int kd' b=>
  match op with
  | .shl=>if b<0 then none else k (.int kd (kd.wrap (a*2 ^ (min b.toNat kd.bits))))
  | .shr=>if b<0 then none else k (.int kd (a.fdiv (2 ^ (min b.toNat kd.bits))))
  |_=>if kd=kd' then(match op with
   | .add=>k (.int kd (kd.wrap (a+b)))
   | .sub=>k (.int kd (kd.wrap (a - b)))
   | .mul=>k (.int kd (kd.wrap (a*b)))
   | .quo=>if b=0 then none else k (.int kd (kd.wrap (a.tdiv b)))
   | .rem=>if b=0 then none else k (.int kd (a.tmod b))
   | .and=>k (.int kd (kd.wrap ((BitVec.ofInt kd.bits a&&&BitVec.ofInt kd.bits b).toNat)))
   | .or=>k (.int kd (kd.wrap ((BitVec.ofInt kd.bits a|||BitVec.ofInt kd.bits b).toNat)))
   | .xor=>k (.int kd (kd.wrap ((BitVec.ofInt kd.bits a^^^BitVec.ofInt kd.bits b).toNat)))
   | .andNot=>k (.int kd (kd.wrap ((BitVec.ofInt kd.bits a&&& ~~~ BitVec.ofInt kd.bits b).toNat)))
   | .eql=>k (.bool (decide (a=b)))
   | .neq=>k (.bool (!decide (a=b)))
   | .lss=>k (.bool (decide (a<b)))
   | .leq=>k (.bool (decide (a<=b)))
   | .gtr=>k (.bool (decide (b<a)))
   | .geq=>k (.bool (decide (b<=a)))
   |_=>none)else none
 | .str a,.str b=>
  match op with
  | .eql=>k (.bool (decide (a=b)))
  | .neq=>k (.bool (!decide (a=b)))
  | .lss=>k (.bool (iR a b))
  | .leq=>k (.bool (iR a b||decide (a=b)))
  | .gtr=>k (.bool (!(iR a b||decide (a=b))))
  | .geq=>k (.bool (!iR a b))
  |_=>none
 |_,_=>none
def zR:List LK->List (KV U)->List (KV U)->Option Bool
 |[],cs,ds=>(match cs,ds with|[],[]=>some true|_,_=>none)
 |q::ks,cs,ds=>(match q,cs,ds with
  | .i,.int k a::cs,.int l b::ds=>if k=l then(match zR ks cs ds with|some r=>some (decide (a=b)&&r)|none=>none)else none
  | .s,.str a::cs,.str b::ds=>(match zR ks cs ds with|some r=>some (decide (a=b)&&r)|none=>none)
  | .b,.bool a::cs,.bool b::ds=>(match zR ks cs ds with|some r=>some (decide (a=b)&&r)|none=>none)
  |_,_,_=>none)
theorem zQ:∀{ks:List LK} {cs ds:List (KV U)} {b:Bool},zR ks cs ds=some b->iZ ks (cs.map KV.pv) (ds.map KV.pv)=some b
 |[],cs,ds,b,h=>by
  simp only[zR]at h;split at h
  ·injection h with h;subst h;rfl
  ·cases h
 |q::ks,cs,ds,b,h=>by
  simp only[zR]at h;split at h
  ·split at h
   ·rename_i hk;split at h
    ·rename_i r hr;injection h with h
     subst h;simp only[QD,KV.pv,iZ,Qr hk,zQ hr,Qe]
    ·cases h
   ·cases h
  ·split at h
   ·rename_i r hr;injection h with h
    subst h;simp only[QD,KV.pv,iZ,zQ hr,Qe]
   ·cases h
  ·split at h
   ·rename_i r hr;injection h with h
    subst h;simp only[QD,KV.pv,iZ,zQ hr,Qe]
   ·cases h
  ·cases h
def aH.VI(S:aH U)(T:U.Ty)(x:KV U):Option (List (U.den T)):=La S.lk T x
def aH.RX(S:aH U):KV U->Option Nat
 | .cJ=>some 0
 | .sl _ xs=>some xs.length
 | .own id an=>(match S.row? id an with
  |some r=>some r.xs.length
  |none=>(match S.Kf id an with|some r=>some r.es.length|none=>none))
 | .view id an kk lo n=>(match S.row? id an with
  |some r=>(match Nat.beq r.k kk with|true=>some ((r.xs.drop lo).take n).length|false=>none)
  |none=>none)
 |_=>none
def xG(S:aH U):Option aP->Int->Option Int
 |none,d=>some d
 |some x,_=>(match x.bO S with| .int _ n=>some n|_=>none)
def dK(l h:Int)(n:Nat):Bool:=decide (0<=l)&&decide (l<=h)&&decide (h<=n)
def bn.cp:bn->List aP
 | .jS x| .box x| .xQ x| .load _ x| .sz _ x| .not x| .conv _ x| .len _ x| .tF x| .xL _ x| .sv _ x| .clear _ _ x| .DK _ _ x=>[x]
 | .pick c x y=>[c,x,y]
 | .alloc _=>[]
 | .store _ p x=>[p,x]
 | .build _ ps=>ps.map (·.2.2)
 | .GK _ _ _ _ ps=>ps.map (·.2)
 | .mg _ x i=>[x,i]
 | .tK _ _ x i=>[x,i]
 | .bin _ x y| .kV _ x y| .yF _ _ x y| .B4 _ x y| .ot _ x y| .rN x y| .xR _ _ _ _ x y| .lookup _ _ x y=>[x,y]
 | .call _ xs=>xs
 | .o8 f xs=>f::xs
 | .bN _ _ _ _ s x=>[s,x]
 | .DG _ xs=>xs
 | .DH _ xs=>xs
 | .F4 _ _ _ _ l c=>[l,c]
 | .AY _ x lo hi=>x::(lo.toList++hi.toList)
def bn.cI(op:bn):Bool:=op.cp.all aP.cI
variable (K : TK U)
def yI(T:U.Ty)(kk:Nat):Nat->List (KV U)->Option (List (U.den T))
 |0,_=>some []
 |n+1,cs=>(match K.dec T kG (cs.take kk)with
  |some v=>(match yI T kk n (cs.drop kk)with|some vs=>some (v::vs)|none=>none)
  |none=>none)
def OE(n:Option Nat)(ag:Bool)(kk:Nat):Bool:=
 match n with
 |none=> !ag&&Nat.beq kk 1
 |some m=>ag&&Nat.beq m kk
theorem DQ{T:U.Ty}{kk:Nat}:∀{n:Nat} {cs:List (KV U)} {vs:List (U.den T)},yI K T kk n cs=some vs->vs.length=n/\∀(i:Nat) (v:U.den T),vs[i]?=some v->K.dec T kG ((cs.drop (i*kk)).take kk)=some v
 |0,cs,vs,h=>by
  rw[yI]at h;injection h with h
  subst h;exact⟨rfl,fun i v hv=>by simp at hv⟩
 |n+1,cs,vs,h=>by
  rw[yI]at h;split at h
  ·rename_i v0 h0;split at h
   ·rename_i vs0 h1;injection h with h
    subst h;obtain⟨h2,h3⟩:=DQ h1;refine⟨by rw[QE,h2],fun i v hv=> ?_⟩
    cases i with
    |zero=>
     simp only[List.getElem?_cons_zero,Qf]at hv;subst hv;simpa using h0
    |succ i=>
     have:=h3 i v (by simpa using hv)
     rw[List.drop_drop]at this
     rwa [Nat.succ_mul,Nat.add_comm]
   ·cases h
  ·cases h
def zu{α β:Type}(f:α->Bool)(xs:List (α×β))(d:β):β:=
 match xs with
 |[]=>d
 |p::xs=>bif f p.1 then p.2 else zu f xs d
def zt{α β:Type}(f:α->Bool)(xs:List (α×β)):Bool:=xs.any fun p=>f p.1
def pE(a b:Int):List (KV U)->Bool
 |[.int _ a',.int _ b']=>decide (a=a')&&decide (b=b')
 |_=>false
theorem Rq{B:U.Ty}{z:PV}{d:U.den B}(hz:z.cI=true)(h:rM K kG B (KV.oo z)=some d):cv B d=nz z:=by
 unfold rM at h;split at h
 ·split at h
  ·rename_i cs hx;exfalso;unfold KV.oo at hx;split at hx<;>cases hx
  ·cases h
 ·rename_i hag;have h1:=K.jr B kG _ _ h;generalize hy:U.pv B d=ys at h1
  cases h1 with
  |cons hc ht=>
   cases ht;rename_i y
   have hv:cv B d=y:=by
    unfold cv;rw[hag,hy];rfl
   rw[hv];generalize hx:(KV.oo z:KV U)=x at hc;unfold PV.cI at hz;split at hz
   ·simp only[KV.oo]at hx;subst hx;cases hc;rfl
   ·simp only[KV.oo]at hx;subst hx;cases hc;rfl
   ·simp only[KV.oo]at hx;subst hx;cases hc;rfl
   ·simp only[KV.oo]at hx;subst hx;cases hc
   ·simp only[KV.oo]at hx;subst hx;cases hc;rfl
   ·simp only[KV.oo]at hx;subst hx;cases hc
   ·simp only[KV.oo]at hx;subst hx;cases hc
   ·cases hz
theorem Ky{A B:U.Ty}{k l:IntKind}{d:U.den B}(hA:U.agg A=true)(hk:∀v,∃a b,K.bI A v=[.int k a,.int l b])(a b:Int):∀(xs:List (U.den A×U.den B)),
  xa k a l b (xs.map fun p=>cv A p.1) (xs.map fun p=>cv B p.2)=some (bif zt (fun v=>pE a b (K.bI A v)) xs then some (cv B (zu (fun v=>pE a b (K.bI A v)) xs d))else none)/\(zt (fun v=>pE a b (K.bI A v)) xs=false->zu (fun v=>pE a b (K.bI A v)) xs d=d)
 |[]=>⟨rfl,fun _=>rfl⟩
 |p::xs=>by
  obtain⟨a',b',h⟩:=hk p.1
  have hv:cv A p.1= .agg [.int k a',.int l b']:=by
   unfold cv;rw[hA,<-K.mB,h];rfl
  obtain⟨ih,ih2⟩:=Ky hA hk a b xs;have hq:pE a b (K.bI A p.1)=(decide (a=a')&&decide (b=b')):=by rw[h];rfl
  simp only[QD,hv,xa,and_self,Qt,zt,List.any_cons,zu,hq]
  by_cases hab:a=a'/\b=b'
  ·obtain⟨rfl,rfl⟩:=hab;simp
  ·rw[Qs hab,ih]
   have hf:(decide (a=a')&&decide (b=b'))=false:=by
    rw[Bool.and_eq_false_iff,Qj,Qj]
    by_cases h:a=a'
    ·exact .inr fun h'=>hab ⟨h,h'⟩
    ·exact .inl h
   rw[hf];exact⟨rfl,ih2⟩
def appRK{ρ:Type}(z:Bool)(id an e kk:Nat)(T:U.Ty)(xs:List (U.den T))(k:KV U->Option (Nat×cm U)->Option ρ):Option ρ:=
 match z with
 |false=>k (.own id an) (some (id,⟨an,.row e kk T xs⟩))
 |true=>k (.sl T xs) (some (id,⟨an,.dead⟩))
def dP{ρ:Type}(Γ:List (cD U))(nid:Nat)(S:aH U)(op:bn)(k:KV U->Option (Nat×cm U)->Option ρ):Option ρ:=
 match op with
 | .jS x=>k (x.bO S) none
 | .pick c x y=>(match c.bO S with
  | .bool b=>(match b with|true=>k (x.bO S) none|false=>k (y.bO S) none)
  |_=>none)
 | .box x=>(match(x.bO S).cells.all KV.one with
  |true=>k (.ptr nid ((S.H nid).an+1) 0) (some (nid,⟨(S.H nid).an+1,.box (x.bO S).cells⟩))
  |false=>none)
 | .xQ x=>(match(x.bO S).cells.all KV.one&&(x.bO S).cells.all KV.closed with
  |true=>k (.ref (x.bO S).cells) none
  |false=>none)
 | .alloc z=>(match z.all PV.cI with
  |true=>k (.ptr nid ((S.H nid).an+1) 0) (some (nid,⟨(S.H nid).an+1,.box (z.map KV.oo)⟩))
  |false=>none)
 | .load n p=>(match p.bO S with
  | .ptr id an off=>(match S.nL id an with
   |some cs=>(match BM n (cs.drop off)with|some x=>k x none|none=>none)
   |none=>none)
  | .dE id an kk i off=>(match S.row? id an with
   |some r=>(match Nat.beq kk r.k with
    |true=>(r.xs[i]?).bind fun v=>(match BM n ((K.bI r.T v).drop off)with|some x=>k x none|none=>none)
    |false=>none)
   |none=>(match S.Kf id an with
    |some r=>(match Nat.beq kk r.k with
     |true=>(match r.es[i]? with
      |some c=>(match BM n (c.drop off)with|some x=>k x none|none=>none)
      |none=>none)
     |false=>none)
    |none=>none))
  | .ref cs=>(match BM n cs with|some x=>k x none|none=>none)
  |_=>none)
 | .store n p x=>(match Nat.beq (x.bO S).cells.length n&&(x.bO S).cells.all KV.one with
  |true=>(match p.bO S with
   | .ptr id an off=>(match S.nL id an with
    |some cs=>(match Nat.ble (off+n) cs.length with
     |true=>k .undef (some (id,⟨an,.box (xW cs off (x.bO S).cells)⟩))
     |false=>none)
    |none=>none)
   | .dE id an kk i off=>(match S.row? id an with
    |some r=>(match Nat.beq kk r.k&&Nat.beq (U.size r.T) r.k&&Nat.ble (off+n) (U.size r.T)with
     |true=>(r.xs[i]?).bind fun v=>(match K.dec r.T kG (xW (K.bI r.T v) off (x.bO S).cells)with
      |some v'=>k .undef (some (id,⟨an,.row r.e r.k r.T (r.xs.set i v')⟩))
      |none=>none)
     |false=>none)
    |none=>none)
   |_=>none)
  |false=>none)
 | .build z ps=>(match z.all PV.cI with
  |true=>(match JF S (z.map KV.oo) ps with|some cs=>k (.agg cs) none|none=>none)
  |false=>none)
 | .GK m e kk z ps=>(match K.JQ e with
  |some T=>(match Nat.beq (U.size T) kk&&z.all (fun u=>u.all PV.cI)with
   |true=>(match B3 S kk (z.map fun u=>u.map KV.oo) ps with
    |some es=>(match JI K T es with
     |some vs=>(match m with
      |false=>k (.sl T vs) none
      |true=>k (.own nid ((S.H nid).an+1)) (some (nid,⟨(S.H nid).an+1,.row e kk T vs⟩)))
     |none=>none)
    |none=>none)
   |false=>none)
  |none=>(match m&&z.all (fun u=>u.all PV.cI)with
   |true=>(match B3 S kk (z.map fun u=>u.map KV.oo) ps with
    |some es=>(match es.all (fun c=>c.all KV.JD)with
     |true=>k (.own nid ((S.H nid).an+1)) (some (nid,⟨(S.H nid).an+1,.raw e kk es⟩))
     |false=>none)
    |none=>none)
   |false=>none))
 | .sz off p=>(match p.bO S with
  | .ptr id an o=>(match S.nL id an with|some _=>k (.ptr id an (o+off)) none|none=>none)
  | .dE id an kk i o=>(match S.row? id an with|some r=>(r.xs[i]?).bind fun _=>k (.dE id an kk i (o+off)) none|none=>none)
  | .ref cs=>k (.ref (cs.drop off)) none
  |_=>none)
 | .mg kk x i=>(match i.bO S with
  | .int _ n=>(match x.bO S with
   | .sl T xs=>(match Nat.beq (U.size T) kk with
    |true=>(idx xs n).bind fun v=>k (.ref (K.bI T v)) none
    |false=>none)
   | .own id an=>(match S.row? id an with
    |some r=>(match Nat.beq kk r.k with
     |true=>(idx r.xs n).bind fun _=>k (.dE id an kk n.toNat 0) none
     |false=>none)
    |none=>(match S.Kf id an with
     |some r=>(match n with
      | .ofNat j=>(match Nat.beq kk r.k&&Nat.blt j r.es.length with
       |true=>k (.dE id an kk j 0) none
       |false=>none)
      |_=>none)
     |none=>none))
   | .view id an kk' lo m=>(match S.row? id an with
    |some r=>(match Nat.beq kk r.k&&Nat.beq kk' kk with
     |true=>(idx ((r.xs.drop lo).take m) n).bind fun _=>k (.dE id an kk (lo+n.toNat) 0) none
     |false=>none)
    |none=>none)
   |_=>none)
  |_=>none)
 | .bin op x y=>Sr op (x.bO S) (y.bO S) fun v=>k v none
 | .kV neg x y=>(match x.bO S,y.bO S with
  | .agg [.int kd a,.str s],.agg [.int kd' b,.str t]=>if kd=kd' then k (.bool (xor neg (decide (a=b)&&decide (s=t)))) none else none
  |_,_=>none)
 | .yF neg ks x y=>(match x.bO S,y.bO S with
  | .agg cs,.agg ds=>(match zR ks cs ds with|some b=>k (.bool (xor neg b)) none|none=>none)
  |_,_=>none)
 | .DK n off x=>(match x.bO S with
  | .agg cs=>(match BM n (cs.drop off)with|some v=>k v none|none=>none)
  |_=>none)
 | .lookup ok z x y=>(match x.bO S,y.bO S with
  | .fS A B xs,.agg [.int kd a,.int ld b]=>(match K.Hz A,z.cI,rM K kG B (KV.oo z)with
   |some (kd',ld'),true,some d=>if kd=kd'/\ld=ld' then(match ok with
    |false=>k (qv K B (zu (fun v=>pE a b (K.bI A v)) xs d)) none
    |true=>k (.c6 [qv K B (zu (fun v=>pE a b (K.bI A v)) xs d),.bool (zt (fun v=>pE a b (K.bI A v)) xs)]) none)else none
   |_,_,_=>none)
  |_,_=>none)
 | .B4 neg x y=>(match x.bO S,y.bO S with
  | .bool a,.bool b=>k (.bool (xor neg (decide (a=b)))) none
  |_,_=>none)
 | .not x=>(match x.bO S with| .bool b=>k (.bool !b) none|_=>none)
 | .conv kd x=>(match x.bO S with| .int _ n=>k (.int kd (kd.wrap n)) none|_=>none)
 | .len true x=>(match x.bO S with| .str s=>k (.int .i64 s.size) none|_=>none)
 | .len false x=>(match S.RX (x.bO S)with|some n=>k (.int .i64 n) none|none=>none)
 | .call f xs=>gD K nid S f (xs.map (·.bO S)) k Γ
 | .o8 fv xs=>(match fv.bO S with
  | .bg f caps=>gD K nid S f (xs.map (·.bO S)++caps) k Γ
  | .gk f first=>gD K nid S f (first++xs.map (·.bO S)) k Γ
  |_=>none)
 | .bN z e kk bytes s x=>(match K.JQ e with
  |some T=>(match Nat.beq (U.size T) kk with
   |true=>(match S.VI T (x.bO S)with
    |some news=>(match s.bO S with
     | .cJ=>bif bW bytes news.length then appRK z nid ((S.H nid).an+1) e kk T news k else none
     | .own id an=>(match S.row? id an with
      |some r=>(match Nat.beq r.e e&&Nat.beq r.k kk with
       |true=>(match tJ r.T T r.xs with
        |some xs=>bif bW bytes (xs.length+news.length)then appRK z id (an+1) e kk T (xs++news) k else none
        |none=>none)
       |false=>none)
      |none=>none)
     |_=>none)
    |none=>none)
   |false=>none)
  |none=>none)
 | .tF x=>(match x.bO S with
  | .ptr id an off=>(match S.nL id an with|some _=>k (.ptr id an off) none|none=>none)
  | .ref cs=>k (.ref cs) none
  | .bg f cs=>k (.bg f cs) none
  |_=>none)
 | .xL i x=>(match x.bO S with
  | .c6 cs=>(match cs[i]? with|some y=>k y none|none=>none)
  |_=>none)
 | .DG f caps=>k (.bg f (caps.map (·.bO S))) none
 | .DH f first=>k (.gk f (first.map (·.bO S))) none
 | .F4 e kk bytes z l c=>(match K.JQ e with
  |some T=>(match Nat.beq (U.size T) kk&&z.all PV.cI with
   |true=>(match K.dec T kG (z.map KV.oo)with
    |some d=>(match l.bO S,c.bO S with
     | .int _ n,.int _ m=>bif decide (n=m)&&decide (0<=n)&&bW bytes n.toNat then k (.own nid ((S.H nid).an+1)) (some (nid,⟨(S.H nid).an+1,.row e kk T (List.replicate n.toNat d)⟩))else none
     |_,_=>none)
    |none=>none)
   |false=>none)
  |none=>none)
 | .AY kk x lo hi=>(match x.bO S with
  | .sl T xs=>(match Nat.beq (U.size T) kk with
   |true=>(match xG S lo 0,xG S hi xs.length with
    |some l,some h=>bif dK l h xs.length then k (.sl T ((xs.take h.toNat).drop l.toNat)) none else none
    |_,_=>none)
   |false=>none)
  | .own id an=>(match S.row? id an with
   |some r=>(match Nat.beq kk r.k with
    |true=>(match xG S lo 0,xG S hi r.xs.length with
     |some l,some h=>bif dK l h r.xs.length then k (.view id an kk l.toNat (h.toNat - l.toNat)) none else none
     |_,_=>none)
    |false=>none)
   |none=>none)
  | .view id an kk' lo0 n0=>(match S.row? id an with
   |some r=>(match Nat.beq kk r.k&&Nat.beq kk' kk with
    |true=>(match xG S lo 0,xG S hi n0 with
     |some l,some h=>bif dK l h n0 then k (.view id an kk (lo0+l.toNat) (h.toNat - l.toNat)) none else none
     |_,_=>none)
    |false=>none)
   |none=>none)
  |_=>none)
 | .rN x i=>(match x.bO S,i.bO S with
  | .str s,.int _ n=>(rN s n).bind fun b=>k (.int .u8 b) none
  |_,_=>none)
 | .xR e n len kk x i=>(match x.bO S,i.bO S with
  | .agg cs,.int _ j=>(match K.JQ e with
   |some T=>(match Nat.beq (U.size T) kk&&OE n (U.agg T) kk with
    |true=>(match yI K T kk len cs with
     |some vs=>(idx vs j).bind fun v=>k (qv K T v) none
     |none=>none)
    |false=>none)
   |none=>none)
  |_,_=>none)
 | .clear kk z x=>(match x.bO S with
  | .view id an kk' lo n=>(match S.row? id an with
   |some r=>(match Nat.beq kk r.k&&Nat.beq kk' kk&&Nat.beq (U.size r.T) kk&&z.all PV.cI&&Nat.beq z.length kk&&(z.map (KV.oo:PV->KV U)).all KV.one with
    |true=>(match K.dec r.T kG (z.map KV.oo)with
     |some d=>k (.c6 []) (some (id,⟨an,.row r.e r.k r.T (r.xs.take lo++List.replicate n d++r.xs.drop (lo+n))⟩))
     |none=>none)
    |false=>none)
   |none=>none)
  |_=>none)
 | .ot mx x y=>(match x.bO S,y.bO S with
  | .int kd a,.int kd' b=>if kd=kd' then k (.int kd (if mx then(if b>a then b else a)else(if b<a then b else a))) none else none
  |_,_=>none)
 | .sv neg x=>(match x.bO S with
  | .cJ=>k (.bool !neg) none
  | .sl _ xs=>bif xs.isEmpty then k .eL none else k (.bool neg) none
  |_=>none)
 | .tK kk len x i=>(match i.bO S with
  | .int _ (.ofNat n)=>(match Nat.blt n len with
   |true=>(match x.bO S with
    | .ptr id an o=>(match S.nL id an with|some _=>k (.ptr id an (o+n*kk)) none|none=>none)
    | .ref cs=>k (.ref (cs.drop (n*kk))) none
    |_=>none)
   |false=>none)
  |_=>none)
variable {K}
variable {S : aH U}
theorem qf{id an:Nat}{cs:List (KV U)}(h:S.nL id an=some cs):(S.st.H id).an=an/\(S.st.H id).c= .box (cs.map KV.pv):=by
 obtain⟨h1,h2⟩:=ui h;exact⟨h1,by simp[aH.st,cm.pv,h2,cZ.pv]⟩
theorem vn:∀{n:Option Nat} {cs:List (KV U)} {x:KV U},BM n cs=some x->nS n (cs.map KV.pv)=some x.pv
 |none,[],x,h=>by cases h
 |none,y::l,x,h=>by injection h with h;subst h;rfl
 |some n,cs,x,h=>by
  simp only[BM]at h;split at h
  ·rename_i hn;injection h with h
   subst h;rw[nS,Qr (by simpa using QG hn),KV.pv,KV.bJ,List.map_take]
  ·cases h
theorem AX(cs xs:List (KV U))(off:Nat):(xW cs off xs).map KV.pv=fK (cs.map KV.pv) off (xs.map KV.pv):=by
 simp[xW,fK,List.map_append,List.map_take,List.map_drop]
theorem Vo(S:aH U){x:PV}(h:x.cI=true):(KV.oo x:KV U).pv=x:=(rn (S:=S) (x:= .rA x) h).symm
theorem s8{z:List PV}(S:aH U)(h:z.all PV.cI=true):(z.map (KV.oo:PV->KV U)).map KV.pv=z:=by
 induction z with
 |nil=>rfl
 |cons x l ih=>
  rw[List.all_cons,Qm]at h;rw[QD,QD,Vo S h.1,ih h.2]
theorem KY:∀{ps:List (Nat×Nat×aP)} {cs cs':List (KV U)},(∀p∈ps,p.2.2.cI=true)->JF S cs ps=some cs'->mA S.st (cs.map KV.pv) ps=some (cs'.map KV.pv)
 |[],cs,cs',_,h=>by injection h with h;subst h;rfl
 |(off,n,x)::ps,cs,cs',ho,h=>by
  simp only[JF]at h;split at h
  ·rename_i hc;simp only[Qm]at hc;obtain⟨⟨h1,h2⟩,h3⟩:=hc;have h1:=QF h1;have h2:=QG h2;rw[mA,rn (ho _ Qx),qO,o9,Qr ⟨by simpa using h1,by simpa using h2,h3⟩,<-AX]
   exact KY (fun p hp=>ho p (Qy _ hp)) h
  ·cases h
theorem B2{kk:Nat}:∀{ps:List (Nat×aP)} {es es':List (List (KV U))},(∀p∈ps,p.2.cI=true)->B3 S kk es ps=some es'->oE S.st kk (es.map fun e=>e.map KV.pv) ps=some (es'.map fun e=>e.map KV.pv)
 |[],es,es',_,h=>by injection h with h;subst h;rfl
 |(i,x)::ps,es,es',ho,h=>by
  simp only[B3]at h;split at h
  ·rename_i hc;simp only[Qm]at hc;obtain⟨⟨h1,h2⟩,h3⟩:=hc;have h1:=QF h1;have h2:i<es.length:=QG h2;rw[oE,rn (ho _ Qx),qO,o9,Qr ⟨by simpa using h1,by simpa using h2,h3⟩,<-List.map_set]
   exact B2 (fun p hp=>ho p (Qy _ hp)) h
  ·cases h
theorem Lb{T:U.Ty}:∀{es:List (List (KV U))} {vs:List (U.den T)},JI K T es=some vs->vP (es.map fun e=>e.map KV.pv)=vs.map (U.pv T)/\(es.map fun e=>e.map KV.pv).all (fun u=>u.all PV.closed)=true
 |[],vs,h=>by injection h with h;subst h;exact⟨rfl,rfl⟩
 |e::es,vs,h=>by
  rw[JI]at h;split at h
  ·rename_i v hv;split at h
   ·rename_i vs' hvs;injection h with h
    subst h;obtain⟨h1,h2⟩:=Lb hvs;obtain⟨h3,h4⟩:=oI (K.jr _ _ _ _ hv);refine⟨?_,?_⟩
    ·rw[QD,QD,<-h1,<-h3];rfl
    ·rw[QD,List.all_cons,jP,h4,h2];rfl
   ·cases h
  ·cases h
theorem KO{y:PV}(h:y.eU=true):y.one=true:=by
 cases y<;>first|rfl|cases h
theorem MG(T:U.Ty)(vs:List (U.den T)){kk:Nat}(hk:U.size T=kk)(K:TK U):(vs.map (U.pv T)).all (fun u=>u.length==kk&&u.all PV.one)=true:=by
 refine QH.2 fun u hu=> ?_
 obtain⟨v,_,rfl⟩:=QP.1 hu;rw[K.len,hk,QH.2 fun y hy=>KO (K.eU T v y hy)]
 simp
theorem VH{T:U.Ty}{x:KV U}{vs:List (U.den T)}(h:S.VI T x=some vs):ix S.st x.pv=some (vs.map (U.pv T)):=by
 unfold aH.VI La at h;split at h
 ·injection h with h;subst h;rfl
 ·obtain⟨e,rfl⟩:=kf h;subst e;rfl
 ·rename_i id an;obtain⟨hv,e,k,hc⟩:=MK h;have hc1:(S.st.H id).c= .row e k (vs.map (U.pv T)):=by simp[aH.st,cm.pv,hc,cZ.pv]
  have hv1:(S.st.H id).an=an:=hv;rw[KV.pv,ix,Qr hv1,hc1]
 ·cases h
theorem Ua{x:KV U}{n:Nat}(h:S.RX x=some n):∃es,ix S.st x.pv=some es/\es.length=n:=by
 unfold aH.RX at h;split at h
 ·injection h with h;exact⟨[],rfl,h⟩
 ·rename_i T xs;injection h with h;exact⟨xs.map (U.pv T),rfl,by simpa using h⟩
 ·rename_i id an;split at h
  ·rename_i r hr;obtain⟨hv,hc⟩:=lq hr;injection h with h
   refine⟨r.xs.map (U.pv r.T),?_,by simpa using h⟩
   rw[KV.pv,ix,Qr hv,hc]
  ·split at h
   ·rename_i r hr;obtain⟨hv,hc⟩:=Ke hr;injection h with h
    refine⟨r.es.map fun c=>c.map KV.pv,?_,by simpa using h⟩
    rw[KV.pv,ix,Qr hv,hc]
   ·cases h
 ·rename_i id an kk lo m;split at h
  ·rename_i r hr;obtain⟨hv,hc⟩:=lq hr;split at h
   ·rename_i hk;injection h with h
    refine⟨((r.xs.drop lo).take m).map (U.pv r.T),?_,by rw[QC];exact h⟩
    rw[KV.pv,ix,Qr hv,hc];simp only;rw[Qr (QF hk),List.map_take,List.map_drop]
   ·cases h
  ·cases h
 ·cases h
theorem FW{l:List aP}{y:Option aP}{d n:Int}(hi1:∀(y:aP) (d n:Int),y∈l->xG S (some y) d=some n->∃kd,y.val S.st= .int kd n)(hy:∀z,y=some z->z∈l)(h:xG S y d=some n):nJ S.st y d=some n:=by
 cases y with
 |none=>exact h
 |some z=>
  obtain⟨kd,hz⟩:=hi1 z d n (hy z rfl) h;simp only[nJ,hz]
theorem vS{xs:List aP}(h:∀x∈xs,x.cI=true):xs.map (·.val S.st)=(xs.map (·.bO S)).map KV.pv:=by
 rw[List.map_map];exact List.map_congr_left fun x hx=>rn (h x hx)
theorem UR{ρ:Type}{op:BinOp}{x y:KV U}{k:KV U->Option ρ}{r:ρ}(h:Sr op x y k=some r):∃v:KV U,CS op x.pv y.pv=some v.pv/\k v=some r:=by
 unfold Sr at h;split at h
 ·rename_i kd a kd' b;cases op<;>simp only at h<;>simp only[KV.pv,CS,Cf]<;>
  first
  |(
    split at h
    ·cases h
    ·rename_i h1;exact⟨_,by rw[Qs h1];rfl,h⟩)
  |(
    split at h
    ·rename_i h1;rw[Qr h1]
     first
     |exact⟨_,rfl,h⟩
     |(
       split at h
       ·cases h
       ·rename_i h2;exact⟨_,by rw[Qs h2];rfl,h⟩)
     |cases h
    ·cases h)
 ·rename_i a b;cases op<;>simp only at h<;>simp only[KV.pv,CS,GM]<;>first|exact⟨_,rfl,h⟩|cases h
 ·cases h
theorem appRK_ok(K:TK U){ρ:Type}{z:Bool}{id an e kk:Nat}{T:U.Ty}{xs:List (U.den T)}{k:KV U->Option (Nat×cm U)->Option ρ}{r:ρ}(h:appRK z id an e kk T xs k=some r):
  ∃x wr,appR z id an e kk (xs.map (U.pv T))=some (x.pv,wr.map gS)/\k x wr=some r:=by
 cases z with
 |false=>exact⟨_,_,rfl,h⟩
 |true=>
  refine⟨_,_,?_,h⟩;simp only[appR];rw[Qr]
  ·rfl
  ·refine QH.2 fun u hu=> ?_
   obtain⟨x,_,rfl⟩:=QP.1 hu;exact QH.2 fun y hy=>eM (K.eU _ _ _ hy)
theorem Mj{P:Program}{ρ:Type}{Γ:List (cD U)}{nid:Nat}{op:bn}{k:KV U->Option (Nat×cm U)->Option ρ}{r:ρ}(hΓ:oM P Γ)(ho:op.cI=true)(h:dP K Γ nid S op k=some r):
  ∃Γ' x wr,iG P Γ'/\exec Γ' nid S.st op=some (x.pv,wr.map gS)/\k x wr=some r:=by
 have hov:∀x∈op.cp,x.val S.st=(x.bO S).pv:=fun x hx=>rn (QH.1 ho x hx)
 have hoc:∀x∈op.cp,x.cI=true:=fun x hx=>QH.1 ho x hx
 have pure:∀{x:KV U} {wr:Option (Nat×cm U)},exec (fun _=>none) nid S.st op=some (x.pv,wr.map gS)->k x wr=some r->∃Γ' x wr,iG P Γ'/\exec Γ' nid S.st op=some (x.pv,wr.map gS)/\k x wr=some r:=
  fun{x wr} h1 h2=>⟨fun _=>none,x,wr,fun f m hm=>(by cases hm),h1,h2⟩
 cases op with
 |jS x=>
  have h1:=hov x (by simp[bn.cp])
  exact pure (by rw[exec,h1];rfl) h
 |pick c x y=>
  have h1:=hov c (by simp[bn.cp])
  have h2:=hov x (by simp[bn.cp])
  have h3:=hov y (by simp[bn.cp])
  simp only[dP]at h;split at h
  ·rename_i b hb;rw[hb]at h1;split at h
   ·exact pure (by rw[exec,h1];simp only[KV.pv];rw[h2];rfl) h
   ·exact pure (by rw[exec,h1];simp only[KV.pv];rw[h3];rfl) h
  ·cases h
 |box x=>
  have h1:=hov x (by simp[bn.cp])
  simp only[dP]at h;split at h
  ·rename_i hb;refine pure ?_ h;rw[exec,h1,qO,o9,Qr hb];rfl
  ·cases h
 |xQ x=>
  have h1:=hov x (by simp[bn.cp])
  simp only[dP]at h;split at h
  ·rename_i hb;refine pure ?_ h;rw[exec,h1,qO,o9,jP,Qr hb];simp only[KV.pv,KV.bJ,Option.map_none]
  ·cases h
 |alloc z=>
  simp only[dP]at h;split at h
  ·rename_i hb;refine pure ?_ h;simp only[exec,Qe,gS,cm.pv,cZ.pv,s8 S hb];rfl
  ·cases h
 |load n p=>
  have h1:=hov p (by simp[bn.cp])
  simp only[dP]at h;split at h
  ·rename_i id an off hp;rw[hp]at h1;split at h
   ·rename_i cs hb;obtain⟨h2,h3⟩:=qf hb;split at h
    ·rename_i x hx;refine pure ?_ h;have:=vn hx;rw[List.map_drop]at this;rw[exec,h1];simp only[KV.pv];rw[Qr h2,h3];simp only[this,Qe,Option.map_none]
    ·cases h
   ·cases h
  ·rename_i id an kk i off hp;rw[hp]at h1;split at h
   ·rename_i rr hb;obtain⟨h2,h3⟩:=lq hb;split at h
    ·rename_i hk;simp only[Qc]at h;obtain⟨v,hv,h⟩:=h;split at h
     ·rename_i x hx;refine pure ?_ h;have:=vn hx;rw[List.map_drop,K.mB]at this;rw[exec,h1];simp only[KV.pv];rw[Qr h2,h3];simp only[QF hk,Qt,QT,hv,Qe,this,Option.map_none]
     ·cases h
    ·cases h
   ·split at h
    ·rename_i rr hb;obtain⟨h2,h3⟩:=Ke hb;split at h
     ·rename_i hk;split at h
      ·rename_i c hc;split at h
       ·rename_i x hx;refine pure ?_ h;have:=vn hx;rw[List.map_drop]at this;rw[exec,h1];simp only[KV.pv];rw[Qr h2,h3];simp only[QF hk,Qt,QT,hc,Qe,this,Option.map_none]
       ·cases h
      ·cases h
     ·cases h
    ·cases h
  ·rename_i cs hp;rw[hp]at h1;split at h
   ·rename_i x hx;refine pure ?_ h;rw[exec,h1];simp only[KV.pv,KV.bJ,vn hx,Qe,Option.map_none]
   ·cases h
  ·cases h
 |store n p x=>
  have h1:=hov p (by simp[bn.cp])
  have h2:=hov x (by simp[bn.cp])
  simp only[dP]at h;split at h
  ·rename_i hc;rw[Qm]at hc;have hl:=QF hc.1
   have hc1:(x.val S.st).cells.length=n/\(x.val S.st).cells.all PV.one=true:=by
    rw[h2,qO,o9];exact⟨by simpa using hl,hc.2⟩
   split at h
   ·rename_i id an off hp;rw[hp]at h1;split at h
    ·rename_i cs hb;obtain⟨h3,h4⟩:=qf hb;split at h
     ·rename_i hle;refine pure ?_ h;rw[exec,Qr hc1,h1];simp only[KV.pv];rw[Qr h3,h4];simp only[QC];rw[Qr (QG hle),h2,qO];simp only[Qe,gS,cm.pv,cZ.pv,AX]
     ·cases h
    ·cases h
   ·rename_i id an kk i off hp;rw[hp]at h1;split at h
    ·rename_i rr hb;obtain⟨h3,h4⟩:=lq hb;split at h
     ·rename_i hk;simp only[Qm]at hk;obtain⟨⟨hk1,hk2⟩,hk3⟩:=hk;have hk1:=QF hk1;have hk2:=QF hk2;have hk3:=QG hk3;simp only[Qc]at h;obtain⟨v,hv,h⟩:=h;split at h
      ·rename_i v' hd;refine pure ?_ h;obtain⟨h5,_⟩:=oI (K.jr _ _ _ _ hd);rw[AX,K.mB]at h5
       have h6:fK (U.pv rr.T v) off (((x.bO S).cells.map KV.pv).map nz)=U.pv rr.T v':=by
        rw[<-h5]
        have hnz:(U.pv rr.T v).map nz=U.pv rr.T v:=by
         refine(List.map_congr_left fun y hy=> ?_).trans (List.map_id _)
         have:=K.eU _ _ _ hy;cases y<;>first|rfl|cases this
        simp only[fK,List.map_append,List.map_take,List.map_drop,hnz,QC]
       rw[exec,Qr hc1,h1];simp only[KV.pv];rw[Qr h3,h4];simp only[hk1,Qt,QT,hv,Qe,K.len];rw[Qr hk3,h2,qO,h6];simp only[gS,cm.pv,cZ.pv,List.map_set]
      ·cases h
     ·cases h
    ·cases h
   ·cases h
  ·cases h
 |build z ps=>
  simp only[dP]at h;split at h
  ·rename_i hz;split at h
   ·rename_i cs hf;refine pure ?_ h;have:=KY (fun p hp=>hoc _ (by simp only[bn.cp,QP];exact⟨p,hp,rfl⟩)) hf
    rw[s8 S hz]at this;rw[exec,this];simp only[Qe,Option.map_none,KV.pv,KV.bJ]
   ·cases h
  ·cases h
 |GK m e kk z ps=>
  simp only[dP]at h;split at h
  ·rename_i T hT;split at h
   ·rename_i hz;rw[Qm]at hz;split at h
    ·rename_i es hf;split at h
     ·rename_i vs hd;have h1:=B2 (fun p hp=>hoc _ (by simp only[bn.cp,QP];exact⟨p,hp,rfl⟩)) hf
      have h2:(z.map fun u=>u.map (KV.oo:PV->KV U)).map (fun e=>e.map KV.pv)=z:=by
       rw[List.map_map];refine(List.map_congr_left fun u hu=> ?_).trans (List.map_id _)
       exact s8 S (QH.1 hz.2 u hu)
      rw[h2]at h1;obtain⟨h3,h4⟩:=Lb hd;split at h
      ·refine pure ?_ h;rw[exec,h1];simp only[h4,and_self,Qt,h3,KV.pv,Option.map_none]
      ·refine pure ?_ h;rw[exec,h1];simp only[Bool.true_eq_false,false_and,Qu,h3,KV.pv,Qe,gS,cm.pv,cZ.pv];rfl
     ·cases h
    ·cases h
   ·cases h
  ·split at h
   ·rename_i hz;rw[Qm]at hz;split at h
    ·rename_i es hf;split at h
     ·rename_i hnn;have h1:=B2 (fun p hp=>hoc _ (by simp only[bn.cp,QP];exact⟨p,hp,rfl⟩)) hf
      have h2:(z.map fun u=>u.map (KV.oo:PV->KV U)).map (fun e=>e.map KV.pv)=z:=by
       rw[List.map_map];refine(List.map_congr_left fun u hu=> ?_).trans (List.map_id _)
       exact s8 S (QH.1 hz.2 u hu)
      rw[h2]at h1
      have h3:vP (es.map fun e=>e.map KV.pv)=es.map fun e=>e.map KV.pv:=by
       unfold vP;rw[List.map_map];refine List.map_congr_left fun c hc=> ?_
       simp only[Function.comp,List.map_map];refine List.map_congr_left fun y hy=> ?_
       have:=QH.1 (QH.1 hnn c hc) y hy;cases y<;>first|rfl|cases this|simp[KV.pv,nz]
      have hm:m=true:=hz.1;subst hm;refine pure ?_ h;rw[exec,h1];simp only[Bool.true_eq_false,false_and,Qu,h3,KV.pv,Qe,gS,cm.pv,cZ.pv];rfl
     ·cases h
    ·cases h
   ·cases h
 |sz off p=>
  have h1:=hov p (by simp[bn.cp])
  simp only[dP]at h;split at h
  ·rename_i id an o hp;rw[hp]at h1;split at h
   ·rename_i cs hb;obtain⟨h2,h3⟩:=qf hb;refine pure ?_ h;rw[exec,h1];simp only[KV.pv];rw[Qr h2,h3];rfl
   ·cases h
  ·rename_i id an kk i o hp;rw[hp]at h1;split at h
   ·rename_i rr hb;obtain⟨h2,h3⟩:=lq hb;simp only[Qc]at h;obtain⟨v,hv,h⟩:=h;refine pure ?_ h;have hi:=(Qw.1 hv).1;rw[exec,h1];simp only[KV.pv];rw[Qr h2,h3];simp only[QC,hi,Qt,Option.map_none]
   ·cases h
  ·rename_i cs hp;rw[hp]at h1;refine pure ?_ h;rw[exec,h1];simp only[KV.pv,KV.bJ,List.map_drop,Option.map_none]
  ·cases h
 |mg kk x i=>
  have h1:=hov x (by simp[bn.cp])
  have h2:=hov i (by simp[bn.cp])
  simp only[dP]at h;split at h
  ·rename_i kd n hn;rw[hn]at h2;split at h
   ·rename_i T xs hx;rw[hx]at h1;split at h
    ·rename_i hk;simp only[Qc]at h;obtain⟨v,hv,h⟩:=h;obtain⟨hi0,hi1,hi2⟩:=EM hv;refine pure ?_ h;rw[exec,h2];simp only[KV.pv];rw[h1];simp only[KV.pv,QC];rw[Qr ⟨hi0,by omega⟩]
     simp only[QT,hi2,Qe,K.len,QF hk,Qt,KV.bJ,K.mB,Option.map_none]
    ·cases h
   ·rename_i id an hx;rw[hx]at h1;split at h
    ·rename_i rr hb;obtain⟨h3,h4⟩:=lq hb;split at h
     ·rename_i hk;simp only[Qc]at h;obtain⟨v,hv,h⟩:=h;obtain⟨hi0,hi1,hi2⟩:=EM hv;refine pure ?_ h;rw[exec,h2];simp only[KV.pv];rw[h1];simp only[KV.pv];rw[Qr h3,h4];simp only[QC];rw[Qr ⟨QF hk,hi0,by omega⟩]
      rfl
     ·cases h
    ·split at h
     ·rename_i rr hb;obtain⟨h3,h4⟩:=Ke hb;split at h
      ·rename_i j;split at h
       ·rename_i hk;rw[Qm]at hk;have hlt:j<rr.es.length:=QG hk.2;refine pure ?_ h;rw[exec,h2];simp only[KV.pv];rw[h1];simp only[KV.pv];rw[Qr h3,h4];simp only[QC];rw[Qr ⟨QF hk.1,Int.natCast_nonneg j,Int.ofNat_lt.2 hlt⟩];rfl
       ·cases h
      ·cases h
     ·cases h
   ·rename_i id an kk' lo m hx;rw[hx]at h1;split at h
    ·rename_i rr hb;obtain⟨h3,h4⟩:=lq hb;split at h
     ·rename_i hk;rw[Qm]at hk;simp only[Qc]at h;obtain⟨v,hv,h⟩:=h;obtain⟨hi0,hi1,hi2⟩:=EM hv;refine pure ?_ h;rw[exec,h2];simp only[KV.pv];rw[h1];simp only[KV.pv];rw[Qr h3,h4];simp only[QC];simp only[List.length_take,List.length_drop]at hi1;rw[Qr ⟨QF hk.1,QF hk.2,hi0,by omega,by omega⟩]
      rfl
     ·cases h
    ·cases h
   ·cases h
  ·cases h
 |rN x i=>
  have h1:=hov x (by simp[bn.cp])
  have h2:=hov i (by simp[bn.cp])
  simp only[dP]at h;split at h
  ·rename_i s _ n hx hi;rw[hx]at h1;rw[hi]at h2;simp only[Qc]at h;obtain⟨b,hb,h⟩:=h;refine pure ?_ h;rw[exec,h1,h2];simp only[KV.pv,hb,Qe,Option.map_none]
  ·cases h
 |xR e n len kk x i=>
  have h1:=hov x (by simp[bn.cp])
  have h2:=hov i (by simp[bn.cp])
  simp only[dP]at h;split at h
  ·rename_i cs _ j hx hi;rw[hx]at h1;rw[hi]at h2;split at h
   ·rename_i T hT;split at h
    ·rename_i hk;split at h
     ·rename_i vs hvs;simp only[Qc]at h;obtain⟨v,hv,h⟩:=h;obtain⟨hlen,hget⟩:=DQ K hvs
      have hv0:0<=j/\vs[j.toNat]?=some v:=by
       unfold idx at hv;split at hv
       ·rename_i h0;exact⟨h0,hv⟩
       ·cases hv
      have hjl:j.toNat<vs.length:=(Qw.1 hv0.2).1;obtain⟨hnz,_⟩:=oI (K.jr _ _ _ _ (hget _ _ hv0.2));rw[Qm]at hk;have hkk:=QF hk.1;have hpl:=K.len T v
      have hcl:((cs.drop (j.toNat*kk)).take kk).length=kk:=by
       have:=congrArg List.length hnz;simp only[QC]at this;omega
      refine pure ?_ h;rw[exec,h1,h2];simp only[KV.pv,KV.bJ];rw[Qr ⟨hv0.1,by omega⟩,q7]
      have hsplit:((cs.map KV.pv).drop (j.toNat*kk)).map nz=U.pv T v++(((cs.drop (j.toNat*kk)).drop kk).map KV.pv).map nz:=by
       rw[<-hnz,<-List.map_append,<-List.map_append,List.take_append_drop,List.map_drop,List.map_drop,List.map_drop]
      rw[hsplit]
      cases n with
      |none=>
       simp only[OE,Qm,Bool.not_eq_true']at hk;have h1k:=QF hk.2.2;obtain⟨y,hy1,hy2⟩:=oP K v hk.2.1
       cases hp:U.pv T v with
       |nil=>rw[hp]at hy2;cases hy2
       |cons y0 l=>
        have hl0:l=[]:=by
         rw[hp,QE]at hpl;exact List.eq_nil_of_length_eq_zero (by omega)
        rw[hp,hl0,List.mem_singleton]at hy2;rw[hl0];simp only[List.singleton_append,nS,Qe,Option.map_none];rw[hy1,hy2]
      |some m=>
       simp only[OE,Qm]at hk;have hm:=QF hk.2.2;subst hm;simp only[nS];rw[Qr (by rw[QB];omega),List.take_append_of_le_length (by omega),List.take_of_length_le (by omega),qZ v hk.2.1]
       rfl
     ·cases h
    ·cases h
   ·cases h
  ·cases h
 |clear kk z x=>
  have h1:=hov x (by simp[bn.cp])
  simp only[dP]at h;split at h
  ·rename_i id an kk' lo n hx;rw[hx]at h1;split at h
   ·rename_i rr hb;obtain⟨h3,h4⟩:=lq hb;split at h
    ·rename_i hk;simp only[Qm]at hk;obtain⟨⟨⟨⟨⟨k1,k2⟩,k3⟩,k4⟩,k5⟩,k6⟩:=hk;split at h
     ·rename_i d hd;refine pure ?_ h;have h7:=(oI (K.jr _ _ _ _ hd)).1;rw[s8 S k4]at h7;have h8:z.all PV.one=true:=by rw[<-o9,s8 S k4]at k6;exact k6
      have e1:=QF k1;have e2:=QF k2;have e5:=QF k5;rw[exec,h1];simp only[KV.pv];rw[Qr h3,h4];simp only;rw[Qr ⟨e1,e2,e5,h8⟩,h7];simp only[Qe,gS,cm.pv,cZ.pv,List.map_append,List.map_take,List.map_drop,List.map_replicate,KV.w5];rw[e1]
     ·cases h
    ·cases h
   ·cases h
  ·cases h
 |tK kk len x i=>
  have h1:=hov x (by simp[bn.cp])
  have h2:=hov i (by simp[bn.cp])
  simp only[dP]at h;split at h
  ·rename_i kd n hi;rw[hi]at h2;split at h
   ·rename_i hb;have hlt:n<len:=by simpa using hb
    have hc:(0:Int)<=Int.ofNat n/\Int.ofNat n<(len:Int):=⟨Int.natCast_nonneg n,Int.ofNat_lt.2 hlt⟩;split at h
    ·rename_i id an o hx;rw[hx]at h1;split at h
     ·rename_i cs hbx;obtain⟨h3,h4⟩:=qf hbx;refine pure ?_ h;rw[exec,h2];simp only[KV.pv];rw[Qr hc,h1];simp only[KV.pv];rw[Qr h3,h4];rfl
     ·cases h
    ·rename_i cs hx;rw[hx]at h1;refine pure ?_ h;rw[exec,h2];simp only[KV.pv];rw[Qr hc,h1];simp only[KV.pv,KV.bJ,List.map_drop,Option.map_none];rfl
    ·cases h
   ·cases h
  ·cases h
 |bin op x y=>
  have h1:=hov x (by simp[bn.cp])
  have h2:=hov y (by simp[bn.cp])
  simp only[dP]at h;obtain⟨v,h3,h4⟩:=UR h;refine pure ?_ h4;rw[exec,h1,h2,h3];rfl
 |kV neg x y=>
  have h1:=hov x (by simp[bn.cp])
  have h2:=hov y (by simp[bn.cp])
  simp only[dP]at h;split at h
  ·rename_i hx hy;rw[hx]at h1;rw[hy]at h2;split at h
   ·rename_i hk;refine pure ?_ h;rw[exec,h1,h2];simp only[KV.pv,KV.w5,hk,Qt,Option.map_none]
   ·cases h
  ·cases h
 |DK n off x=>
  have h1:=hov x (by simp[bn.cp])
  simp only[dP]at h;split at h
  ·rename_i cs hp;rw[hp]at h1;split at h
   ·rename_i v hx;refine pure ?_ h;have:=vn hx;rw[List.map_drop]at this;rw[exec,h1];simp only[KV.pv,KV.bJ,this,Qe,Option.map_none]
   ·cases h
  ·cases h
 |lookup ok z x y=>
  have h1:=hov x (by simp[bn.cp])
  have h2:=hov y (by simp[bn.cp])
  simp only[dP]at h;split at h
  ·rename_i A B xs kd a ld b hx hy;rw[hx]at h1;rw[hy]at h2;split at h
   ·rename_i kd' ld' d hkey hzo hzd;split at h
    ·rename_i hkl;obtain⟨rfl,rfl⟩:=hkl;obtain⟨hA,hk⟩:=K.CL A kd ld hkey;obtain⟨hm,hm2⟩:=Ky K (B:=B) (d:=d) hA hk a b xs;have hz:cv B d=nz z:=Rq K hzo hzd
     have hr:(bif zt (fun v=>pE a b (K.bI A v)) xs then some (cv B (zu (fun v=>pE a b (K.bI A v)) xs d))else none:Option PV).getD (nz z)=cv B (zu (fun v=>pE a b (K.bI A v)) xs d):=by
      cases hh:zt (fun v=>pE a b (K.bI A v)) xs with
      |true=>rfl
      |false=>rw[hm2 hh,hz];rfl
     have hi:(bif zt (fun v=>pE a b (K.bI A v)) xs then some (cv B (zu (fun v=>pE a b (K.bI A v)) xs d))else none:Option PV).isSome=zt (fun v=>pE a b (K.bI A v)) xs:=by
      cases hh:zt (fun v=>pE a b (K.bI A v)) xs<;>rfl
     cases ok with
     |false=>
      refine pure ?_ h;rw[exec,h1,h2];simp only[KV.pv,KV.w5,hm,Qe,Qq,Qu,hr,q7,Option.map_none]
     |true=>
      refine pure ?_ h;rw[exec,h1,h2];simp only[KV.pv,KV.w5,hm,Qe,Qt,hr,hi,q7,Option.map_none]
    ·cases h
   ·cases h
  ·cases h
 |B4 neg x y=>
  have h1:=hov x (by simp[bn.cp])
  have h2:=hov y (by simp[bn.cp])
  simp only[dP]at h;split at h
  ·rename_i hx hy;rw[hx]at h1;rw[hy]at h2;refine pure ?_ h;rw[exec,h1,h2];rfl
  ·cases h
 |not x=>
  have h1:=hov x (by simp[bn.cp])
  simp only[dP]at h;split at h
  ·rename_i hx;rw[hx]at h1;exact pure (by rw[exec,h1];rfl) h
  ·cases h
 |conv kd x=>
  have h1:=hov x (by simp[bn.cp])
  simp only[dP]at h;split at h
  ·rename_i hx;rw[hx]at h1;exact pure (by rw[exec,h1];rfl) h
  ·cases h
 |len b x=>
  have h1:=hov x (by simp[bn.cp])
  cases b with
  |true=>
   simp only[dP]at h;split at h
   ·rename_i hx;rw[hx]at h1;exact pure (by rw[exec,h1];rfl) h
   ·cases h
  |false=>
   simp only[dP]at h;split at h
   ·rename_i n hx;obtain⟨es,h2,h3⟩:=Ua hx;exact pure (by rw[exec,h1,h2];simp only[Qe,Option.map_none,KV.pv,h3]) h
   ·cases h
 |call f xs=>
  simp only[dP]at h;obtain⟨Γ',x,wr,h1,h2,h3⟩:=dn hΓ h;refine⟨Γ',x,wr,h1,?_,h3⟩;rw[exec,vS (xs:=xs) hoc];exact h2
 |o8 fv xs=>
  have h0:=hov fv (by simp[bn.cp])
  simp only[dP]at h;split at h
  ·rename_i f caps hf;rw[hf]at h0;obtain⟨Γ',x,wr,h1,h2,h3⟩:=dn hΓ h;refine⟨Γ',x,wr,h1,?_,h3⟩;rw[exec,h0];simp only[KV.pv];rw[vS (fun x hx=>hoc x (by simp[bn.cp,hx])),KV.bJ,<-List.map_append]
   exact h2
  ·rename_i f caps hf;rw[hf]at h0;obtain⟨Γ',x,wr,h1,h2,h3⟩:=dn hΓ h;refine⟨Γ',x,wr,h1,?_,h3⟩;rw[exec,h0];simp only[KV.pv];rw[vS (fun x hx=>hoc x (by simp[bn.cp,hx])),KV.bJ,<-List.map_append]
   exact h2
  ·cases h
 |bN z e kk bytes s x=>
  have h1:=hov s (by simp[bn.cp])
  have h2:=hov x (by simp[bn.cp])
  simp only[dP]at h;split at h
  ·rename_i T hT;split at h
   ·rename_i hk;have hk:=QF hk;split at h
    ·rename_i news hn;have h3:=VH hn;split at h
     ·rename_i hs;rw[hs]at h1
      cases hl:bW bytes news.length with
      |false=>rw[hl]at h;cases h
      |true=>
       rw[hl]at h;obtain⟨hl1,hl2⟩:=u6 hl;obtain⟨x0,wr0,g1,g2⟩:=appRK_ok K h;refine pure ?_ g2;rw[exec,h2,h3];simp only[MG T news hk K,Qt,h1,KV.pv,QC];rw[Qr ⟨hl1,hl2⟩];exact g1
     ·rename_i id an hs;rw[hs]at h1;split at h
      ·rename_i rr hb;obtain⟨h4,h5⟩:=lq hb;split at h
       ·rename_i he;rw[Qm]at he;have he1:=QF he.1;have he2:=QF he.2;split at h
        ·rename_i xs hc
         have hpv:rr.xs.map (U.pv rr.T)=xs.map (U.pv T):=by
          obtain⟨eT,hxs⟩:=kf hc;obtain⟨re,rk,rT,rxs⟩:=rr;simp only at eT hxs ⊢;subst eT;rw[hxs]
         cases hl:bW bytes (xs.length+news.length)with
         |false=>rw[hl]at h;cases h
         |true=>
          rw[hl]at h;obtain⟨hl1,hl2⟩:=u6 hl;obtain⟨x0,wr0,g1,g2⟩:=appRK_ok K h;refine pure ?_ g2;rw[exec,h2,h3];simp only[MG T news hk K,Qt,h1,KV.pv];rw[Qr h4,h5];simp only[hpv,QC];rw[Qr ⟨he1.symm,he2.symm,hl1,hl2⟩];rw[List.map_append]at g1;exact g1
        ·cases h
       ·cases h
      ·cases h
     ·cases h
    ·cases h
   ·cases h
  ·cases h
 |tF x=>
  have h1:=hov x (by simp[bn.cp])
  simp only[dP]at h;split at h
  ·rename_i id an o hp;rw[hp]at h1;split at h
   ·rename_i cs hb;obtain⟨h2,h3⟩:=qf hb;refine pure ?_ h;rw[exec,h1];simp only[KV.pv];rw[Qr h2,h3];rfl
   ·cases h
  ·rename_i cs hp;rw[hp]at h1;exact pure (by rw[exec,h1];rfl) h
  ·rename_i cs hp;rw[hp]at h1;exact pure (by rw[exec,h1];rfl) h
  ·cases h
 |xL i x=>
  have h1:=hov x (by simp[bn.cp])
  simp only[dP]at h;split at h
  ·rename_i cs hx;rw[hx]at h1;split at h
   ·rename_i y hy;refine pure ?_ h;rw[exec,h1];simp only[KV.pv,KV.bJ,QT,hy,Qe,Option.map_none]
   ·cases h
  ·cases h
 |DG f caps=>
  refine pure ?_ h;rw[exec,vS (xs:=caps) hoc];simp only[KV.pv,KV.bJ,Option.map_none]
 |DH f caps=>
  refine pure ?_ h;rw[exec,vS (xs:=caps) hoc];simp only[KV.pv,KV.bJ,Option.map_none]
 |yF neg ks x y=>
  have h1:=hov x (by simp[bn.cp])
  have h2:=hov y (by simp[bn.cp])
  simp only[dP]at h;split at h
  ·rename_i cs ds hx hy;rw[hx]at h1;rw[hy]at h2;split at h
   ·rename_i b hb;refine pure ?_ h;rw[exec,h1,h2];simp only[KV.pv,KV.bJ,zQ hb,Qe,Option.map_none]
   ·cases h
  ·cases h
 |F4 e kk bytes z l c=>
  have h1:=hov l (by simp[bn.cp])
  have h2:=hov c (by simp[bn.cp])
  simp only[dP]at h;split at h
  ·rename_i T hT;split at h
   ·rename_i hz;rw[Qm]at hz;split at h
    ·rename_i d hd;split at h
     ·rename_i _ n _ m hl hc;rw[hl]at h1;rw[hc]at h2
      cases hb:(decide (n=m)&&decide (0<=n)&&bW bytes n.toNat)with
      |false=>rw[hb]at h;cases h
      |true=>
       rw[hb]at h;simp only[Qm,Qi]at hb;obtain⟨⟨h3,h4⟩,h5⟩:=hb;obtain⟨h5,h6⟩:=u6 h5;refine pure ?_ h;have h7:=(oI (K.jr _ _ _ _ hd)).1;rw[s8 S hz.2]at h7;rw[exec,h1,h2];simp only[KV.pv];rw[Qr ⟨h3,h4,h5,h6⟩,h7];simp only[Qe,gS,cm.pv,cZ.pv,List.map_replicate];rfl
     ·cases h
    ·cases h
   ·cases h
  ·cases h
 |AY kk x lo hi=>
  have h1:=hov x (by simp[bn.cp])
  have hi1:∀(y:aP) (d n:Int),y∈(bn.AY kk x lo hi).cp->xG S (some y) d=some n->∃kd,y.val S.st= .int kd n:=by
   intro y d n ho hn;have:=hov y ho;simp only[xG]at hn;split at hn
   ·rename_i kd _ hy;rw[hy]at this;injection hn with hn;subst hn;exact⟨kd,this⟩
   ·cases hn
  simp only[dP]at h;split at h
  ·rename_i T xs hx;rw[hx]at h1;split at h
   ·rename_i hk;have hk:=QF hk;split at h
    ·rename_i l hh hl hhi
     cases hs:dK l hh xs.length with
     |false=>rw[hs]at h;cases h
     |true=>
      rw[hs]at h;refine pure ?_ h;simp only[dK,Qm,Qi]at hs;obtain⟨⟨h4,h5⟩,h6⟩:=hs
      have h7:(xs.map (U.pv T)).all (fun e=>e.length==kk)=true:=QH.2 fun u hu=>by
       obtain⟨v,_,rfl⟩:=QP.1 hu;rw[K.len,hk];simp
      unfold exec;simp only[h1,KV.pv,QC,h7,Qt]
      have fin:∀(l hh:Int),0<=l/\l<=hh/\hh<=(xs.length:Int)->(if 0<=l/\l<=hh/\hh<=(xs.length:Int)then some (PV.sl (((xs.map (U.pv T)).take hh.toNat).drop l.toNat),(none:Option (Nat×ep)))else none)=some (PV.sl (((xs.take hh.toNat).drop l.toNat).map (U.pv T)),Option.map gS (none:Option (Nat×cm U))):=fun l hh hc=>by
       rw[Qr hc];simp only[List.map_take,List.map_drop,Option.map_none]
      cases lo with
      |none=>
       injection hl with hl
       subst hl
       cases hi with
       |none=>injection hhi with hhi;subst hhi;exact fin _ _ ⟨h4,h5,h6⟩
       |some y=>obtain⟨kd,hy⟩:=hi1 y _ _ (by simp[bn.cp]) hhi;simp only[hy];exact fin _ _ ⟨h4,h5,h6⟩
      |some z=>
       obtain⟨kz,hz⟩:=hi1 z _ _ (by simp[bn.cp]) hl
       cases hi with
       |none=>injection hhi with hhi;subst hhi;simp only[hz];exact fin _ _ ⟨h4,h5,h6⟩
       |some y=>obtain⟨kd,hy⟩:=hi1 y _ _ (by simp[bn.cp]) hhi;simp only[hz,hy];exact fin _ _ ⟨h4,h5,h6⟩
    ·cases h
   ·cases h
  ·rename_i id an hx;rw[hx]at h1;split at h
   ·rename_i rr hb;obtain⟨h3,h4⟩:=lq hb;split at h
    ·rename_i hk;have hk:=QF hk;split at h
     ·rename_i l hh hl hhi;have e1:=FW (hi1:=hi1) (y:=lo) (fun y hy=>by simp[bn.cp,hy]) hl
      have e2:=FW (hi1:=hi1) (y:=hi) (fun y hy=>by simp[bn.cp,hy]) hhi
      cases hs:dK l hh rr.xs.length with
      |false=>rw[hs]at h;cases h
      |true=>
       rw[hs]at h;refine pure ?_ h;simp only[dK,Qm,Qi]at hs;unfold exec;simp only[h1,KV.pv];rw[Qr h3,h4];simp only[QC];rw[Qr hk,e1,e2];simp only;rw[Qr ⟨hs.1.1,hs.1.2,hs.2⟩];rfl
     ·cases h
    ·cases h
   ·cases h
  ·rename_i id an kk' lo0 n0 hx;rw[hx]at h1;split at h
   ·rename_i rr hb;obtain⟨h3,h4⟩:=lq hb;split at h
    ·rename_i hk;rw[Qm]at hk;split at h
     ·rename_i l hh hl hhi;have e1:=FW (hi1:=hi1) (y:=lo) (fun y hy=>by simp[bn.cp,hy]) hl
      have e2:=FW (hi1:=hi1) (y:=hi) (fun y hy=>by simp[bn.cp,hy]) hhi
      cases hs:dK l hh n0 with
      |false=>rw[hs]at h;cases h
      |true=>
       rw[hs]at h;refine pure ?_ h;simp only[dK,Qm,Qi]at hs;unfold exec;simp only[h1,KV.pv];rw[Qr h3,h4];simp only;rw[Qr ⟨QF hk.1,QF hk.2⟩,e1,e2];simp only;rw[Qr ⟨hs.1.1,hs.1.2,hs.2⟩];rfl
     ·cases h
    ·cases h
   ·cases h
  ·cases h
 |ot mx x y=>
  have h1:=hov x (by simp[bn.cp])
  have h2:=hov y (by simp[bn.cp])
  simp only[dP]at h;split at h
  ·rename_i hx hy;rw[hx]at h1;rw[hy]at h2;split at h
   ·rename_i hk;refine pure ?_ h;rw[exec,h1,h2];simp only[KV.pv,hk,Qt,Option.map_none]
   ·cases h
  ·cases h
 |sv neg x=>
  have h1:=hov x (by simp[bn.cp])
  simp only[dP]at h;split at h
  ·rename_i hx;rw[hx]at h1;exact pure (by unfold exec;simp only[h1,KV.pv,Option.map_none]) h
  ·rename_i T xs hx;rw[hx]at h1
   cases xs with
   |nil=>exact pure (x:= .eL) (by unfold exec;simp only[h1,KV.pv,ix,QO,Option.map_none]) h
   |cons y l=>exact pure (x:= .bool neg) (by unfold exec;simp only[h1,KV.pv,ix,QD,Option.map_none]) h
  ·cases h
end
end Go.TQ
end
noncomputable section
namespace Go.TQ
open Go.RowKit
section
variable {P : Program} {S : St} {nt : Nat} {Q : Exit -> St -> Prop} {E : En} {a : Act} {w : World} {L : Nat -> Value}
theorem Rel.Nu(h:Rel E S a w L){id:Nat}(hid:id<S.N)(e k:Nat):
  Rel E {S with H:=bd S.H id ⟨(S.H id).an+1,.row e k []⟩} a w (bd L id (.slice none 0 0)):=
 (h.n4 (w':=w) hid ⟨(S.H id).an+1,.row e k []⟩ (.slice none 0 0) (.inr (Nat.lt_succ_self _)) rfl rfl rfl (QI _) (fun _ _ _=>rfl)
  (fun b _ hb=>by simp[bC]at hb) (fun _ _=>⟨[],⟨by simp,.inl ⟨rfl,rfl⟩⟩,by simp,by exact⟨rfl,fun i y v hy=>by simp at hy⟩⟩)).1
theorem NJ{S:St}{id:Nat}(hid:id<S.N)(e k:Nat){w:World}{M:Nat->Prop}{v:Value}(h:v= .slice none 0 0):
  aL w M (St.gh {S with H:=bd S.H id ⟨(S.H id).an+1,.row e k []⟩} (bd L id (.slice none 0 0))) (.own id ((S.H id).an+1)) v:=by
 subst h;exact .own _ _ _ _ _ hid (by simp[St.gh]) (fun _=>by simp[St.gh])
theorem X1{sc:SC}(id t e k:Nat)(ht:S.env t= .cJ)(hid:id<S.N)
  (h:VS P nt sc Q {S with env:=bd S.env t (.own id ((S.H id).an+1)),H:=bd S.H id ⟨(S.H id).an+1,.row e k []⟩}):VS P nt sc Q S:=by
 intro c hs hc E hE hk a w L hrel;have h1:=hrel.Nu hid e k;refine h c hs hc E hE hk a w (bd L id (.slice none 0 0)) ⟨h1.defers,h1.size,fun j=> ?_,h1.obj,h1.apart,h1.fresh,h1.fr,h1.rS⟩
 show aL w _ _ (bd S.env t _ j) _
 by_cases hj:j=t
 ·subst hj;have h2:=hrel.env j;rw[ht]at h2;rw[bo];exact NJ hid e k h2.jL
 ·rw[bF _ _ hj];exact h1.env j
theorem X2{sc:SC}(id b j e k:Nat){cs:List PV}(hb:(S.H b).c= .box cs)(hj:cs[j]?=some .cJ)(hne:b≠id)(hbN:b<S.N)(hid:id<S.N)
  (h:VS P nt sc Q {S with H:=bd (bd S.H id ⟨(S.H id).an+1,.row e k []⟩) b ⟨(S.H b).an,.box (cs.set j (.own id ((S.H id).an+1)))⟩}):VS P nt sc Q S:=by
 intro c hs hc E hE hk a w L hrel;have h1:=hrel.Nu hid e k
 have hver:∀i,(bd (bd S.H id ⟨(S.H id).an+1,.row e k []⟩) b ⟨(S.H b).an,.box (cs.set j (.own id ((S.H id).an+1)))⟩ i).an=(bd S.H id ⟨(S.H id).an+1,.row e k []⟩ i).an:=by
  intro i
  by_cases hi:i=b
  ·subst hi;rw[bo,bF _ _ hne]
  ·rw[bF _ _ hi]
 have hlive:∀i,(bd (bd S.H id ⟨(S.H id).an+1,.row e k []⟩) b ⟨(S.H b).an,.box (cs.set j (.own id ((S.H id).an+1)))⟩ i).c.live=(bd S.H id ⟨(S.H id).an+1,.row e k []⟩ i).c.live:=by
  intro i
  by_cases hi:i=b
  ·subst hi;rw[bo,bF _ _ hne,hb];rfl
  ·rw[bF _ _ hi]
 have hgh:St.gh {S with H:=bd (bd S.H id ⟨(S.H id).an+1,.row e k []⟩) b ⟨(S.H b).an,.box (cs.set j (.own id ((S.H id).an+1)))⟩} (bd L id (.slice none 0 0))=St.gh {S with H:=bd S.H id ⟨(S.H id).an+1,.row e k []⟩} (bd L id (.slice none 0 0)):=by
  simp only[St.gh];congr 1
  funext i
  exact hver i
 have hmu:aQ E {S with H:=bd (bd S.H id ⟨(S.H id).an+1,.row e k []⟩) b ⟨(S.H b).an,.box (cs.set j (.own id ((S.H id).an+1)))⟩} (bd L id (.slice none 0 0))=aQ E {S with H:=bd S.H id ⟨(S.H id).an+1,.row e k []⟩} (bd L id (.slice none 0 0)):=by
  funext q
  simp only[aQ,hlive]
 refine h c hs hc E hE hk a w (bd L id (.slice none 0 0)) ⟨h1.defers,h1.size,fun t=> ?_,fun i hi=> ?_,fun i i' q hi hi' hl hl'=> ?_,fun i hi=> ?_,h1.fr,fun hq hl hv=> ?_⟩
 ·rw[hgh,hmu];exact h1.env t
 ·rw[hgh,hmu]
  by_cases hib:i=b
  ·subst hib;have h2:=h1.obj i hi;simp only[bo,bF _ _ hne]at h2 ⊢;rw[hb]at h2;obtain⟨q,cur,T,e1,e2,e3,e4⟩:=h2;refine⟨q,cur,T,e1,e2,e3,by rw[QY];exact e4.1,fun n y v hy hv=> ?_⟩
   rw[List.getElem?_set]at hy;split at hy
   ·rename_i hjn;subst hjn;split at hy
    ·injection hy with hy
     subst hy;exact NJ hid e k (e4.2 j .cJ v hj hv).jL
    ·cases hy
   ·exact e4.2 n y v hy hv
  ·have h2:=h1.obj i hi;simp only[bF _ _ hib]at h2 ⊢;exact h2
 ·exact h1.apart i i' q hi hi' ((hlive i).symm.trans hl) ((hlive i').symm.trans hl')
 ·have h2:=h1.fresh i hi;have hib:i≠b:=by intro e;subst e;exact absurd hbN (by simpa using hi)
  simp only at h2 ⊢;rw[bF _ _ hib];exact h2
 ·exact h1.rS hq ((hlive 0).symm.trans hl) ((hver 0).symm.trans hv)
end
end Go.TQ
end
noncomputable section
namespace Go.TQ
open Go.RowKit
section
variable {P : Program} {E : En} {S : St} {a : Act} {w : World} {L : Nat -> Value}
theorem Rel.XU(h:Rel E S a w L){id an k n e0 k':Nat}{es:List (List PV)}{v:Value}(r:aL w (aQ E S L) (S.gh L) (.view id an k 0 n) v)(hver:(S.H id).an=an)(hc:(S.H id).c= .row e0 k' es):
  Rel E {S with H:=bd S.H id ⟨an+1,.row e0 k' (es.take n)⟩} a w (bd L id v)/\aL w (aQ E {S with H:=bd S.H id ⟨an+1,.row e0 k' (es.take n)⟩} (bd L id v)) (St.gh {S with H:=bd S.H id ⟨an+1,.row e0 k' (es.take n)⟩} (bd L id v)) (.own id (an+1)) v:=by
 obtain⟨hN,ad,c,hv,hat⟩:=r.sS (show(S.gh L).V id=an from hver)
 have hle:=h.Cs hN hc hat;obtain⟨a0,m0,c0,hl,q1,q2,q3,q4⟩:=hat;have hl:L id= .slice a0 m0 c0:=hl;have hlive:(S.H id).c.live=true:=by rw[hc];rfl
 obtain⟨vs,hown,hk,hr⟩:=h.gK hN hc
 have had:ad=a0:=by
  rcases q4 with q4|q4
  ·exact absurd rfl q4.2.1
  ·rw[q4];cases a0<;>simp[Addr.add]
 have hc0:c=c0:=by omega
 subst had hc0;have hbv:bC v=bC (L id):=by rw[hv,hl];cases ad<;>rfl
 have hlen:(es.take n).length=n:=by simp;omega
 have hnew:w.ownsRow (eI E v) e0 k' v (es.take n).length (vs.take (n*k')):=by
  rw[uu hbv,hlen];have hvl:vs.length=es.length*k':=hown.1;have hnk:n*k'<=es.length*k':=Nat.mul_le_mul_right _ (by omega)
  refine⟨by rw[List.length_take,hvl];omega,?_⟩
  rcases hown.2 with⟨hL,h0⟩|⟨g,cap,cur,hL,hb1,hh,hnc,hcm,hcs,htake⟩
  ·left;rw[hl]at hL;injection hL with e1 e2 e3
   subst e1 e2 e3;have hn0:n=0:=by omega
   subst hn0;exact⟨hv,rfl⟩
  ·right;rw[hl]at hL;injection hL with e1 e2 e3
   subst e1 e2 e3;refine⟨g,c,cur,hv,hb1,hh,by omega,hcm,hcs,?_⟩
   rw[<-htake,List.take_take,Nat.min_eq_left hnk]
 obtain⟨h1,hs,hg⟩:=h.n4 (w':=w) hN ⟨an+1,.row e0 k' (es.take n)⟩ v (.inr (by show(S.H id).an<an+1;omega)) rfl rfl rfl (QI _) (fun _ _ _=>rfl)
  (fun b _ hb=> .inl ⟨hlive,by rw[<-hbv];exact hb⟩)
  (fun hs hg=>⟨_,hnew,fun u hu=>hk u (Q1 hu),by rw[oB k' n es hk];exact(hr.take _).mono hs hg⟩)
 refine⟨h1,?_⟩;subst hv;exact .own _ _ _ _ _ hN (by simp[St.gh]) (fun _=>by simp[St.gh])
theorem Rel.S7(h:Rel E S a w L){id:Nat}{cs cs':List PV}(hid:id<S.N)(hc:(S.H id).c= .box cs)(hr:∀vs,aM w (aQ E S L) (S.gh L) cs vs->aM w (aQ E S L) (S.gh L) cs' vs):
  Rel E {S with H:=bd S.H id ⟨(S.H id).an,.box cs'⟩} a w L:=by
 have:=(h.n4 (w':=w) hid ⟨(S.H id).an,.box cs'⟩ (L id) (.inl ⟨rfl,rfl,by rw[hc];rfl⟩) rfl rfl rfl (QI _) (fun _ _ _=>rfl) (fun b _ hb=> .inl ⟨by rw[hc];rfl,hb⟩) (fun hs hg=>by
  obtain⟨b,cur,T,h1,h2,h3,h4⟩:=h.nv hid hc
  exact⟨b,cur,T,h1,h2,h4,(hr _ h3).mono hs hg⟩)).1
 rwa [yV]at this
theorem aM.set{M:Nat->Prop}{G:Gh}{cs:List PV}{vs:List Value}(h:aM w M G cs vs)(i:Nat)(y:PV)(hy:∀v,vs[i]?=some v->aL w M G y v):aM w M G (cs.set i y) vs:=by
 refine⟨by rw[QY];exact h.1,fun j x v hx hv=> ?_⟩
 rw[List.getElem?_set]at hx;split at hx
 ·rename_i hij;subst hij;split at hx
  ·injection hx with hx;subst hx;exact hy v hv
  ·cases hx
 ·exact h.2 j x v hx hv
theorem Rel.Tz(h:Rel E S a w L){S':St}(hH:S'.H=S.H)(hN:S'.N=S.N)(he:∀t,S'.env t=S.env t\/S'.env t= .any):Rel E S' a w L:=by
 obtain⟨env,H,N⟩:=S;obtain⟨env',H',N'⟩:=S';simp only at hH hN he;subst hH hN;refine⟨h.defers,h.size,fun t=> ?_,h.obj,h.apart,h.fresh,h.fr,h.rS⟩
 rcases he t with e|e
 ·show aL _ _ _ (env' t) _;rw[e];exact h.env t
 ·show aL _ _ _ (env' t) _;rw[e];exact .any _
end
section
variable {U : TU}
inductive Ps (U:TU) where
 |own (t e k:Nat) (T:U.Ty)
 |BX (t:Nat)
 |Et (t off e k:Nat) (T:U.Ty)
 |KW (t off:Nat)
 |cut (t:Nat)
def Ps.run(S:aH U):Ps U->Option (aH U)
 | .own t e k T=>(match S.env t with
  | .cJ=>some {env:=fm S.env t (.own S.N 1),H:=fm S.H S.N ⟨1,.row e k T []⟩,N:=S.N+1}
  |_=>none)
 | .BX t=>(match S.env t with
  | .own id an=>(match S.row? id an with
   |some r=>some {env:=fm S.env t (.sl r.T r.xs),H:=fm S.H id ⟨an,.dead⟩,N:=S.N}
   |none=>none)
  |_=>none)
 | .Et t off e k T=>(match S.env t with
  | .ptr id an _=>(match S.nL id an with
   |some cs=>(match cs[off]? with
    |some .cJ=>some {env:=S.env,H:=fm (fm S.H S.N ⟨1,.row e k T []⟩) id ⟨an,.box (cs.set off (.own S.N 1))⟩,N:=S.N+1}
    |_=>none)
   |none=>none)
  |_=>none)
 | .KW t off=>(match S.env t with
  | .ptr id an _=>(match S.nL id an with
   |some cs=>(match cs[off]? with
    |some (.own i v)=>(match S.row? i v with
     |some r=>some {env:=S.env,H:=fm (fm S.H i ⟨v,.dead⟩) id ⟨an,.box (cs.set off (.sl r.T r.xs))⟩,N:=S.N}
     |none=>none)
    |_=>none)
   |none=>none)
  |_=>none)
 | .cut t=>(match S.env t with
  | .view id an _ lo n=>(match S.row? id an with
   |some r=>(match Nat.beq lo 0 with
    |true=>some {env:=fm S.env t (.own id (an+1)),H:=fm S.H id ⟨an+1,.row r.e r.k r.T (r.xs.take n)⟩,N:=S.N}
    |false=>none)
   |none=>none)
  |_=>none)
def Ps.tmps:Ps U->List Nat
 | .own t _ _ _| .BX t| .cut t=>[t]
 | .Et _ _ _ _ _| .KW _ _=>[]
def Ps.zq(S:aH U):Ps U->List Nat
 | .own _ _ _ _=>[S.N]
 | .BX t=>(match S.env t with| .own id _=>[id]|_=>[])
 | .cut t=>(match S.env t with| .view id _ _ _ _=>[id]|_=>[])
 | .Et t _ _ _ _=>S.N::(match S.env t with| .ptr id _ _=>[id]|_=>[])
 | .KW t off=>(match S.env t with
  | .ptr id an _=>id::(match S.nL id an with
   |some cs=>(match cs[off]? with|some (.own i _)=>[i]|_=>[])
   |none=>[])
  |_=>[])
theorem Ps.sound(K:TK U){S S':aH U}{p:Ps U}(hp:p.run S=some S'){E:En}{a:Act}{w:World}{L:Nat->Value}(h:Rel E S.st a w L):∃L',Rel E S'.st a w L':=by
 cases p with
 |own t e k T=>
  simp only[Ps.run]at hp;split at hp
  ·rename_i ht;injection hp with hp
   subst hp;have h0:=h.room 1;have hf:(S.st.H S.N)=⟨0,.dead⟩:=h.fresh S.N (QI _);have hid:S.N<({S.st with N:=S.st.N+1}:St).N:=Nat.lt_succ_self S.N
   have h1:=h0.Nu hid e k;refine⟨bd L S.N (.slice none 0 0),?_⟩
   have heq:(aH.st {env:=fm S.env t (.own S.N 1),H:=fm S.H S.N ⟨1,.row e k T []⟩,N:=S.N+1}:St)={env:=bd S.st.env t (.own S.N 1),H:=bd S.st.H S.N ⟨(S.st.H S.N).an+1,.row e k []⟩,N:=S.st.N+1}:=by
    rw[hf];unfold aH.st;congr 1
    ·simp only[bM];exact k8 _ _ _ _
    ·simp only[bM];exact k8 _ _ _ _
   rw[heq];refine⟨h1.defers,h1.size,fun j=> ?_,h1.obj,h1.apart,h1.fresh,h1.fr,h1.rS⟩
   show aL w _ _ (bd S.st.env t _ j) _
   by_cases hj:j=t
   ·subst hj;have h2:=h.env j;have h3:S.st.env j= .cJ:=by simp only[aH.st,ht,KV.pv]
    rw[h3]at h2;rw[bo];have:=NJ (L:=L) (S:={S.st with N:=S.st.N+1}) hid e k (w:=w) (M:=aQ E {env:=S.st.env,H:=bd S.st.H S.N ⟨(S.st.H S.N).an+1,.row e k []⟩,N:=S.st.N+1} (bd L S.N (.slice none 0 0))) h2.jL
    have hv:(S.st.H S.N).an+1=1:=by rw[hf]
    simp only[hv]at this ⊢;exact this
   ·rw[bF _ _ hj];exact h1.env j
  ·cases hp
 |BX t=>
  simp only[Ps.run]at hp;split at hp
  ·rename_i id an ht;split at hp
   ·rename_i r hr;injection hp with hp
    subst hp;obtain⟨hv,hc⟩:=lq hr;have h2:=h.env t;have h3:S.st.env t= .own id (S.st.H id).an:=by rw[hv];simp only[aH.st,ht,KV.pv]
    rw[h3]at h2
    obtain⟨h4,h5⟩:=h.BX h2 hc (fun u hu=>by
     obtain⟨x,_,rfl⟩:=QP.1 hu
     exact QH.2 fun y hy=>eM (K.eU _ _ _ hy))
    rw[hv]at h4 h5;refine⟨L,?_⟩
    have heq:(aH.st {env:=fm S.env t (.sl r.T r.xs),H:=fm S.H id ⟨an,.dead⟩,N:=S.N}:St)={env:=bd S.st.env t (.sl (r.xs.map (U.pv r.T))),H:=bd S.st.H id ⟨an,.dead⟩,N:=S.st.N}:=by
     unfold aH.st;congr 1
     ·simp only[bM];exact k8 _ _ _ _
     ·simp only[bM];exact k8 _ _ _ _
    rw[heq];refine⟨h4.defers,h4.size,fun j=> ?_,h4.obj,h4.apart,h4.fresh,h4.fr,h4.rS⟩
    show aL w _ _ (bd S.st.env t _ j) _
    by_cases hj:j=t
    ·subst hj;rw[bo];exact h5
    ·rw[bF _ _ hj];exact h4.env j
   ·cases hp
  ·cases hp
 |cut t=>
  simp only[Ps.run]at hp;split at hp
  ·rename_i id an k lo n ht;split at hp
   ·rename_i r hr;split at hp
    ·rename_i hlo;injection hp with hp
     subst hp;have hlo:=QF hlo;subst hlo;obtain⟨hv,hc⟩:=lq hr;have h2:=h.env t;have h3:S.st.env t= .view id an k 0 n:=by simp only[aH.st,ht,KV.pv]
     rw[h3]at h2;obtain⟨h4,h5⟩:=h.XU h2 hv hc;refine⟨bd L id (a.tmps.getD t undef),?_⟩
     have heq:(aH.st {env:=fm S.env t (.own id (an+1)),H:=fm S.H id ⟨an+1,.row r.e r.k r.T (r.xs.take n)⟩,N:=S.N}:St)={env:=bd S.st.env t (.own id (an+1)),H:=bd S.st.H id ⟨an+1,.row r.e r.k ((r.xs.map (U.pv r.T)).take n)⟩,N:=S.st.N}:=by
      unfold aH.st;congr 1
      ·simp only[bM];exact k8 _ _ _ _
      ·simp only[bM];rw[<-List.map_take];exact k8 _ _ _ _
     rw[heq];refine⟨h4.defers,h4.size,fun j=> ?_,h4.obj,h4.apart,h4.fresh,h4.fr,h4.rS⟩
     show aL w _ _ (bd S.st.env t _ j) _
     by_cases hj:j=t
     ·subst hj;rw[bo];exact h5
     ·rw[bF _ _ hj];exact h4.env j
    ·cases hp
   ·cases hp
  ·cases hp
 |Et t off e k T=>
  simp only[Ps.run]at hp;split at hp
  ·rename_i id an o ht;split at hp
   ·rename_i cs hb;split at hp
    ·rename_i hcell;injection hp with hp
     subst hp;obtain⟨hv,hc⟩:=qf hb;have h3:S.st.env t= .ptr id an o:=by simp only[aH.st,ht,KV.pv]
     have hlt:id<S.N:=by
      have h2:=h.env t;rw[h3]at h2;exact(h2.nB (show(S.st.gh L).V id=an from hv)).1
     have h0:=h.room 1;have hf:(S.st.H S.N)=⟨0,.dead⟩:=h.fresh S.N (QI _);have hid:S.N<({S.st with N:=S.st.N+1}:St).N:=Nat.lt_succ_self S.N
     have h1:=h0.Nu hid e k;have hne:id≠S.N:=Nat.ne_of_lt hlt
     have h2:=h1.S7 (id:=id) (cs:=cs.map KV.pv) (cs':=(cs.map KV.pv).set off (.own S.N ((S.st.H S.N).an+1))) (Nat.lt_succ_of_lt hlt) (by show(bd S.st.H S.N _ id).c=_;rw[bF _ _ hne];exact hc)
      (fun vs hr=>hr.set _ _ fun v hvv=>by
       have hn:(cs.map KV.pv)[off]?=some .cJ:=by rw[QT,hcell];rfl
       exact NJ (L:=L) (S:={S.st with N:=S.st.N+1}) hid e k (hr.2 off .cJ v hn hvv).jL)
     refine⟨bd L S.N (.slice none 0 0),?_⟩
     have heq:(aH.st {env:=S.env,H:=fm (fm S.H S.N ⟨1,.row e k T []⟩) id ⟨an,.box (cs.set off (.own S.N 1))⟩,N:=S.N+1}:St)
       ={env:=S.st.env,H:=bd (bd S.st.H S.N ⟨(S.st.H S.N).an+1,.row e k []⟩) id ⟨(bd S.st.H S.N ⟨(S.st.H S.N).an+1,.row e k []⟩ id).an,.box ((cs.map KV.pv).set off (.own S.N ((S.st.H S.N).an+1)))⟩,N:=S.st.N+1}:=by
      rw[bF _ _ hne,hv,hf];unfold aH.st;congr 1;simp only[bM];rw[k8,k8];simp only[cm.pv,cZ.pv,List.map_set,KV.pv,QO]
     rw[heq];exact h2
    ·cases hp
   ·cases hp
  ·cases hp
 |KW t off=>
  simp only[Ps.run]at hp;split at hp
  ·rename_i id an o ht;split at hp
   ·rename_i cs hb;split at hp
    ·rename_i i v hcell;split at hp
     ·rename_i r hr;injection hp with hp
      subst hp;obtain⟨hv,hc⟩:=qf hb;obtain⟨hv2,hc2⟩:=lq hr;have h3:S.st.env t= .ptr id an o:=by simp only[aH.st,ht,KV.pv]
      have hlt:id<S.N:=by
       have h2:=h.env t;rw[h3]at h2;exact(h2.nB (show(S.st.gh L).V id=an from hv)).1
      have hcell':(cs.map KV.pv)[off]?=some (.own i v):=by rw[QT,hcell];rfl
      have hili:i<S.N:=by
       obtain⟨b,cur,T,h5,h6,h7,h8⟩:=h.nv hlt hc;obtain⟨u,hu,hru⟩:=h7.get hcell';exact(hru.jA (show(S.st.gh L).V i=v from hv2)).1
      have hne:id≠i:=by
       intro e;subst e;rw[hc]at hc2;cases hc2
      obtain⟨h4,h5⟩:=h.VC hili hc2 (fun u hu=>by
       obtain⟨x,_,rfl⟩:=QP.1 hu
       exact QH.2 fun y hy=>eM (K.eU _ _ _ hy))
      have h6:=h4.S7 (id:=id) (cs:=cs.map KV.pv) (cs':=(cs.map KV.pv).set off (.sl (r.xs.map (U.pv r.T)))) hlt (by show(bd S.st.H i _ id).c=_;rw[bF _ _ hne];exact hc)
       (fun vs hrr=>hrr.set _ _ fun u hu=>h5 u (by
        have:=hrr.2 off _ u hcell' hu
        exact(this.jA (show(bd S.st.H i ⟨(S.st.H i).an,.dead⟩ i).an=v by rw[bo];exact hv2)).2))
      refine⟨L,?_⟩
      have heq:(aH.st {env:=S.env,H:=fm (fm S.H i ⟨v,.dead⟩) id ⟨an,.box (cs.set off (.sl r.T r.xs))⟩,N:=S.N}:St)
        ={env:=S.st.env,H:=bd (bd S.st.H i ⟨(S.st.H i).an,.dead⟩) id ⟨(bd S.st.H i ⟨(S.st.H i).an,.dead⟩ id).an,.box ((cs.map KV.pv).set off (.sl (r.xs.map (U.pv r.T))))⟩,N:=S.st.N}:=by
       rw[bF _ _ hne,hv,hv2];unfold aH.st;congr 1;simp only[bM];rw[k8,k8];simp only[cm.pv,cZ.pv,List.map_set,KV.pv]
      rw[heq];exact h6
     ·cases hp
    ·cases hp
   ·cases hp
  ·cases hp
inductive RS (U:TU) where
 |nil
 |op (o:SG) (r:RS U)
 |ps (p:Ps U) (r:RS U)
 |uz (t:Nat) (r:RS U)
 |ite (t:Nat) (want:Bool) (body:RS U) (d:Nat) (g:Option (Nat×Bool)) (x y:aP) (r:RS U)
def RS.flat:RS U->List SG
 | .nil=>[]
 | .op o r=>o::r.flat
 | .ps _ r=>r.flat
 | .uz _ r=>r.flat
 | .ite t _ b d g x y r=>b.flat++⟨some d,g,.pick (.tmp t) x y⟩::r.flat
def RS.gL:RS U->List Nat
 | .nil=>[]
 | .op o r=>(match o.d with|some t=>t::r.gL|none=>r.gL)
 | .ps p r=>p.tmps++r.gL
 | .uz _ r=>r.gL
 | .ite _ _ b d _ _ _ r=>b.gL++d::r.gL
def qm:List SG->List Nat
 |[]=>[]
 |o::l=>(match o.d with|some t=>t::qm l|none=>qm l)
def RS.len:RS U->Nat
 | .nil=>0
 | .op _ r=>r.len+1
 | .ps _ r=>r.len
 | .uz _ r=>r.len
 | .ite _ _ b _ _ _ _ r=>b.len+(r.len+1)
theorem RS.ta:∀(r:RS U),r.flat.length=r.len
 | .nil=>rfl
 | .op _ r=>by simp[RS.flat,RS.len,r.ta]
 | .ps _ r=>r.ta
 | .uz _ r=>r.ta
 | .ite _ _ b _ _ _ _ r=>by simp[RS.flat,RS.len,b.ta,r.ta]
def fG(t:Nat):List Nat->Bool
 |[]=>false
 |x::l=>(match Nat.beq t x with|true=>true|false=>fG t l)
theorem dq{t:Nat}:∀{l:List Nat},fG t l=true↔t∈l
 |[]=>by simp[fG]
 |x::l=>by
  simp only[fG];split
  ·rename_i h;simp[QF h]
  ·rename_i h;rw[dq];simp[Nat.ne_of_beq_eq_false h]
theorem lM{t:Nat}{l:List Nat}(h:fG t l=false):t∉l:=fun hm=>by rw[dq.2 hm]at h;cases h
def Oy:Bool->Bool->Bool
 |true,b=>b
 |false,true=>false
 |false,false=>true
theorem CT(x y:Bool):Oy x y=(x==y):=by cases x<;>cases y<;>rfl
abbrev WS:=Option (Nat×List Nat)
def okW:WS->Nat->Bool
 |none,_=>false
 |some (n,l),id=>Nat.ble n id||fG id l
def zo(W:WS):Option (Nat×cm U)->Bool
 |none=>true
 |some (id,_)=>okW W id
def AZ(t:Nat)(want:Bool):List Nat->List SG->Bool
 |_,[]=>true
 |u,o::l=>(match o.g with
  |some (t',want')=>(Nat.beq t' t&&Oy want' want)||fG t' u
  |none=>false)&&(match o.d with
   |some d=> !Nat.beq d t&&AZ t want (d::u) l
   |none=>AZ t want u l)
variable (K : TK U)
def Oe{ρ:Type}(Γ:List (cD U))(W:WS)(nid:Nat)(S:aH U)(o:SG)(k:KV U->Option (Nat×cm U)->Option ρ):Option ρ:=
 match o.g with
 |none=>dP K Γ nid S o.op fun x wr=>(match zo W wr with|true=>k x wr|false=>none)
 |some (t,want)=>match S.env t with
  | .bool b=>(match Oy b want with
   |true=>dP K Γ nid S o.op fun x wr=>(match zo W wr with|true=>k x wr|false=>none)
   |false=>k .undef none)
  | .undef=>k .undef none
  |_=>none
def SU{ρ:Type}(Γ:List (cD U))(W:WS)(nid:Nat)(S:aH U)(o:SG)(k:aH U->Option ρ):Option ρ:=
 Oe K Γ W nid S o fun x wr=>k (S.bN o.d x wr)
def SO(S:aH U)(ds:List Nat):Option (Nat×Bool)->Bool
 |none=>true
 |some (t,want)=>(match S.env t with| .bool b=>Oy b want&& !fG t ds|_=>false)
def aH.forget(S:aH U)(ds:List Nat):aH U:={env:=fun t=>(match fG t ds with|true=> .any|false=>S.env t),H:=S.H,N:=S.N}
def Oj:aP->Option Bool
 | .rA (.bool b)=>some b
 |_=>none
def mR(Γ:List (cD U)):RS U->{ρ:Type}->(W:WS)->(nid:Nat)->(S:aH U)->(k:aH U->Option ρ)->Option ρ
 | .nil,_,_,_,S,k=>k S
 | .op o r,_,W,nid,S,k=>SU K Γ W nid S o fun S'=>mR Γ r W (nid+1) S' k
 | .ps p r,_,W,nid,S,k=>(match(p.zq S).all (okW W)with
  |true=>(match p.run S with|some S'=>mR Γ r W nid S' k|none=>none)
  |false=>none)
 | .uz t r,_,W,nid,S,k=>(match S.env t with
  | .bool b=>bif b then mR Γ r W nid (S.bN (some t) (.bool true) none) k else mR Γ r W nid (S.bN (some t) (.bool false) none) k
  | .undef=>mR Γ r W nid S k
  |_=>none)
 | .ite t want body d g x y r,_,W,nid,S,k=>(match S.env t with
  | .bool b=>(match SO S body.gL g&&(AZ t want [] body.flat&& !fG t body.gL)with
   |true=>(match want with
    |true=>(match Oj y with
     |some c=>(bif b then mR Γ body none nid (S.bN (some t) (.bool true) none) (fun S1=>B7 (x.bO S1))else some c).bind fun v=>mR Γ r W (nid+(body.len+1)) ((S.forget body.gL).bN (some d) (.bool v) none) k
     |none=>none)
    |false=>(match Oj x with
     |some c=>(bif b then some c else mR Γ body none nid (S.bN (some t) (.bool false) none) (fun S1=>B7 (y.bO S1))).bind fun v=>mR Γ r W (nid+(body.len+1)) ((S.forget body.gL).bN (some d) (.bool v) none) k
     |none=>none))
   |false=>none)
  |_=>none)
structure uK (D:List Nat) (W:WS) (S S':aH U):Prop where
 env:∀t,t∉D->S'.env t=S.env t
 H:∀id,okW W id=false->S'.H id=S.H id
 N:S.N<=S'.N
 Nn:W=none->S'.N=S.N
theorem uK.refl(D:List Nat)(W:WS)(S:aH U):uK D W S S:=⟨fun _ _=>rfl,fun _ _=>rfl,QI _,fun _=>rfl⟩
theorem uK.trans{D D' D'':List Nat}{W:WS}{S S' S'':aH U}(h:uK D W S S')(h':uK D' W S' S'')(hd:∀t,t∉D''->t∉D/\t∉D'):uK D'' W S S'':=
 ⟨fun t ht=>(h'.env t (hd t ht).2).trans (h.env t (hd t ht).1),fun id hid=>(h'.H id hid).trans (h.H id hid),QK h.N h'.N,fun e=>(h'.Nn e).trans (h.Nn e)⟩
theorem jh(S:aH U)(d:Option Nat)(x:KV U)(wr:Option (Nat×cm U)){t:Nat}(h:d≠some t):(S.bN d x wr).env t=S.env t:=by
 cases d with
 |none=>rfl
 |some d=>simp only[aH.bN,bM];exact bF _ _ (fun e=>h (by rw[e]))
theorem WL(S:aH U)(d:Nat)(x:KV U)(wr:Option (Nat×cm U)):(S.bN (some d) x wr).env d=x:=by
 simp only[aH.bN,bM];exact bo _ _ _
theorem Ad(S:aH U)(d:Option Nat)(x:KV U)(wr:Option (Nat×cm U)){i:Nat}(h:wr.map (·.1)≠some i):(S.bN d x wr).H i=S.H i:=by
 cases wr with
 |none=>rfl
 |some p=>simp only[aH.bN,bM];exact bF _ _ (fun e=>h (by rw[e];rfl))
theorem M6(S:aH U)(W:WS)(d:Option Nat)(x:KV U)(wr:Option (Nat×cm U))(h:zo W wr=true):uK d.toList W S (S.bN d x wr):=by
 refine⟨fun t ht=>jh _ _ _ _ (fun e=>ht (by simp[e])),fun id hid=>Ad _ _ _ _ (fun e=> ?_),QI _,fun _=>rfl⟩
 cases wr with
 |none=>cases e
 |some p=>simp only[Qe,Qf]at e;simp only[zo]at h;rw[e,hid]at h;cases h
variable {K}
variable {P : Program}
theorem GC{ρ:Type}{Γ:List (cD U)}{W:WS}{nid:Nat}{S:aH U}{o:SG}{k:KV U->Option (Nat×cm U)->Option ρ}{r:ρ}(hΓ:oM P Γ)(ho:o.op.cI=true)(h:Oe K Γ W nid S o k=some r):
  ∃Γ' x wr,iG P Γ'/\uc Γ' nid S.st o=some (x.pv,wr.map gS)/\zo W wr=true/\k x wr=some r:=by
 have run:∀(hw:o.wanted S.st=some true),dP K Γ nid S o.op (fun x wr=>(match zo W wr with|true=>k x wr|false=>none))=some r->
   ∃Γ' x wr,iG P Γ'/\uc Γ' nid S.st o=some (x.pv,wr.map gS)/\zo W wr=true/\k x wr=some r:=by
  intro hw h;obtain⟨Γ',x,wr,h1,h2,h3⟩:=Mj hΓ ho h;split at h3
  ·rename_i hok;refine⟨Γ',x,wr,h1,?_,hok,h3⟩;rw[uc,hw];exact h2
  ·cases h3
 have skip:∀(hw:o.wanted S.st=some false),k .undef none=some r->
   ∃Γ' x wr,iG P Γ'/\uc Γ' nid S.st o=some (x.pv,wr.map gS)/\zo W wr=true/\k x wr=some r:=by
  intro hw h;refine⟨fun _=>none,.undef,none,fun f m hm=>(by cases hm),?_,rfl,h⟩
  rw[uc,hw];rfl
 unfold Oe at h;split at h
 ·rename_i hg;exact run (by rw[SG.wanted,hg]) h
 ·rename_i t want hg;split at h
  ·rename_i b hb;have hb':S.st.env t= .bool b:=by simp only[aH.st,hb,KV.pv]
   split at h
   ·rename_i hbw;exact run (by simp only[SG.wanted,hg,hb'];rw[CT]at hbw;rw[hbw]) h
   ·rename_i hbw;refine skip ?_ h;simp only[SG.wanted,hg,hb'];rw[CT]at hbw;rw[hbw]
  ·rename_i hb;have hb':S.st.env t= .undef:=by simp only[aH.st,hb,KV.pv]
   exact skip (by simp only[SG.wanted,hg,hb']) h
  ·cases h
theorem LS{ρ:Type}{Γ:List (cD U)}{W:WS}{nid:Nat}{S:aH U}{o:SG}{k:aH U->Option ρ}{r:ρ}(hΓ:oM P Γ)(ho:o.op.cI=true)(h:SU K Γ W nid S o k=some r):
  ∃Γ' x wr,iG P Γ'/\uc Γ' nid S.st o=some (x.pv,wr.map gS)/\zo W wr=true/\k (S.bN o.d x wr)=some r:=GC hΓ ho h
theorem NN:iG P (fun _=>none):=fun f m hm=>by cases hm
theorem yZ{E:En}{hs:List Nat}{ops:Array Oper}{t:Nat}{want:Bool}{Q:Exit->Act->World->Prop}{l2:List Oper}:∀(l1:List Oper) (gs:List SG) (u:List Nat) (S:St) (a:Act) (w:World) (L:Nat->Value),
  l1.mapM (pt P hs ops)=some gs->Rel E S a w L->0<S.N->(∀o∈l1,∀t,o.dst=some t->E.can t)->AZ t want u gs=true->S.env t= .bool (!want)->(∀x∈u,S.env x= .undef)->
  (∀S' a' w' L',(∀x,x∉qm gs->S'.env x=S.env x)->S'.H=S.H->S'.N=S.N->Rel E S' a' w' L'->wpListIn (WF E.rd) 0 P ops Q l2 a' w')->wpListIn (WF E.rd) 0 P ops Q (l1++l2) a w
 |[],gs,u,S,a,w,L,hm,h,hN,hd,hs,ht,hu,hk=>by
  simp at hm;subst hm;exact hk S a w L (fun _ _=>rfl) rfl rfl h
 |o::l1,gs,u,S,a,w,L,hm,h,hN,hd,hs,ht,hu,hk=>by
  simp only[List.mapM_cons,Qd,Qc,Option.pure_def,Qf]at hm;obtain⟨g,hg,gs',hgs,rfl⟩:=hm;simp only[AZ,Qm]at hs;obtain⟨h1,h2⟩:=hs
  have hw:g.wanted S=some false:=by
   split at h1
   ·rename_i t' want' hgg;rw[Qn,Qm]at h1;rw[SG.wanted,hgg];rcases h1 with⟨h3,h4⟩|h3
    ·rw[QF h3];rw[CT]at h4;simp only[ht];have:=eq_of_beq h4;subst this;cases want'<;>rfl
    ·simp only[hu t' (dq.1 h3)]
   ·cases h1
  have hst:pU (fun _=>none) 0 S g=some (S.bN g.d .undef none):=by rw[pU,hw]
  rw[List.cons_append];refine wpListIn_step fun K hK=> ?_
  refine q9 NN hg h hN (hd o (by simp)) hst (fun a' w' L' h'=>hK _ _ ?_)
  split at h2
  ·rename_i d hdd;rw[Qm]at h2;have hdt:d≠t:=fun e=>by subst e;have:=h2.1;simp at this
   refine yZ l1 gs' (d::u) _ a' w' L' hgs h' hN (fun o' ho'=>hd o' (by simp[ho'])) h2.2 ?_ ?_ ?_
   ·rw[hdd,St.jh _ _ _ (by simp[hdt])];exact ht
   ·intro x hx;rw[hdd]
    by_cases hxd:x=d
    ·subst hxd;exact bo _ _ _
    ·rw[St.jh _ _ _ (by simpa using fun e=>hxd e.symm)]
     exact hu x ((QA.1 hx).resolve_left hxd)
   ·intro S' a' w' L' he hH hN h';refine hk S' a' w' L' (fun x hx=> ?_) hH hN h'
    simp only[qm,hdd,QA,not_or]at hx;rw[he x hx.2,hdd,St.jh _ _ _ (by simpa using fun e=>hx.1 e.symm)]
  ·rename_i hdd;refine yZ l1 gs' u _ a' w' L' hgs h' hN (fun o' ho'=>hd o' (by simp[ho'])) h2 ?_ ?_ ?_
   ·rw[hdd];exact ht
   ·intro x hx;rw[hdd];exact hu x hx
   ·intro S' a' w' L' he hH hN h';refine hk S' a' w' L' (fun x hx=> ?_) hH hN h'
    simp only[qm,hdd]at hx;rw[he x hx,hdd];rfl
def RS.cI:RS U->Bool
 | .nil=>true
 | .op o r=>o.op.cI&&r.cI
 | .ps _ r=>r.cI
 | .uz _ r=>r.cI
 | .ite _ _ b _ _ x y r=>b.cI&&(x.cI&&y.cI)&&r.cI
theorem mW:∀(r:RS U) (t:Nat),t∈qm r.flat->t∈r.gL
 | .nil,t,h=>h
 | .op o r,t,h=>by
  simp only[RS.flat,qm]at h;simp only[RS.gL];split at h
  ·rcases QA.1 h with h|h
   ·exact QA.2 (.inl h)
   ·exact QA.2 (.inr (mW r t h))
  ·exact mW r t h
 | .ps p r,t,h=>Qz.2 (.inr (mW r t h))
 | .uz _ r,t,h=>mW r t h
 | .ite t0 want b d g x y r,t,h=>by
  have bN:∀(l1 l2:List SG),t∈qm (l1++l2)->t∈qm l1\/t∈qm l2:=by
   intro l1 l2
   induction l1 with
   |nil=>exact fun h=> .inr h
   |cons o l1 ih=>
    intro h;simp only[List.cons_append,qm]at h ⊢
    cases hd:o.d with
    |none=>rw[hd]at h;exact ih h
    |some e=>
     rw[hd]at h;simp only[QA]at h ⊢;rcases h with h|h
     ·exact .inl (.inl h)
     ·rcases ih h with h|h
      ·exact .inl (.inr h)
      ·exact .inr h
  simp only[RS.flat]at h;simp only[RS.gL,Qz,QA];rcases bN _ _ h with h|h
  ·exact .inl (mW b t h)
  ·simp only[qm,QA]at h;rcases h with h|h
   ·exact .inr (.inl h)
   ·exact .inr (.inr (mW r t h))
theorem UF{x:KV U}{b:Bool}(h:B7 x=some b):x= .bool b:=by
 unfold B7 at h;split at h
 ·injection h with h;rw[h]
 ·cases h
theorem wz{S:aH U}{t:Nat}{x:KV U}(h:S.env t=x):S.bN (some t) x none=S:=by
 unfold aH.bN;obtain⟨env,H,N⟩:=S;simp only at h ⊢;congr 1;rw[bM,<-h];exact yV _ _
theorem Ps.VD{S S':aH U}{p:Ps U}(hp:p.run S=some S'){W:WS}(hW:(p.zq S).all (okW W)=true):uK p.tmps W S S':=by
 have ne:∀{id id':Nat},okW W id=true->okW W id'=false->id'≠id:=fun h1 h2 e=>by subst e;rw[h1]at h2;cases h2
 have hN:∀{n:Nat},okW W n=true->W≠none:=fun h e=>by rw[e]at h;cases h
 cases p with
 |own t e k T=>
  simp only[Ps.run]at hp;split at hp
  ·injection hp with hp
   subst hp;simp only[Ps.zq,List.all_cons,List.all_nil,Bool.and_true]at hW;exact⟨fun x hx=>by simp only[bM];exact bF _ _ (by simpa[Ps.tmps]using hx),fun id hid=>by simp only[bM];exact bF _ _ (ne hW hid),Nat.le_succ _,fun e=>absurd e (hN hW)⟩
  ·cases hp
 |BX t=>
  simp only[Ps.run]at hp;split at hp
  ·rename_i id an ht;split at hp
   ·injection hp with hp
    subst hp;simp only[Ps.zq,ht,List.all_cons,List.all_nil,Bool.and_true]at hW;exact⟨fun x hx=>by simp only[bM];exact bF _ _ (by simpa[Ps.tmps]using hx),fun id' hid=>by simp only[bM];exact bF _ _ (ne hW hid),QI _,fun _=>rfl⟩
   ·cases hp
  ·cases hp
 |cut t=>
  simp only[Ps.run]at hp;split at hp
  ·rename_i id an k lo n ht;split at hp
   ·split at hp
    ·injection hp with hp
     subst hp;simp only[Ps.zq,ht,List.all_cons,List.all_nil,Bool.and_true]at hW;exact⟨fun x hx=>by simp only[bM];exact bF _ _ (by simpa[Ps.tmps]using hx),fun id' hid=>by simp only[bM];exact bF _ _ (ne hW hid),QI _,fun _=>rfl⟩
    ·cases hp
   ·cases hp
  ·cases hp
 |Et t off e k T=>
  simp only[Ps.run]at hp;split at hp
  ·rename_i id an o ht;split at hp
   ·rename_i cs hb;split at hp
    ·injection hp with hp
     subst hp;simp only[Ps.zq,ht,List.all_cons,List.all_nil,Bool.and_true,Qm]at hW;exact⟨fun x hx=>rfl,fun id' hid=>by simp only[bM];rw[bF _ _ (ne hW.2 hid),bF _ _ (ne hW.1 hid)],Nat.le_succ _,fun e=>absurd e (hN hW.1)⟩
    ·cases hp
   ·cases hp
  ·cases hp
 |KW t off=>
  simp only[Ps.run]at hp;split at hp
  ·rename_i id an o ht;split at hp
   ·rename_i cs hb;split at hp
    ·rename_i i v hcell;split at hp
     ·injection hp with hp
      subst hp;simp only[Ps.zq,ht,hb,hcell,List.all_cons,List.all_nil,Bool.and_true,Qm]at hW;exact⟨fun x hx=>rfl,fun id' hid=>by simp only[bM];rw[bF _ _ (ne hW.1 hid),bF _ _ (ne hW.2 hid)],QI _,fun _=>rfl⟩
     ·cases hp
    ·cases hp
   ·cases hp
  ·cases hp
theorem xc{α β:Type}{f:α->Option β}:∀{l:List α} {r1 r2:List β},l.mapM f=some (r1++r2)->∃l1 l2,l=l1++l2/\l1.mapM f=some r1/\l2.mapM f=some r2
 |l,[],r2,h=>⟨[],l,rfl,rfl,h⟩
 |[],x::r1,r2,h=>by simp at h
 |y::l,x::r1,r2,h=>by
  simp only[List.mapM_cons,Qd,Qc,Option.pure_def,Qf,List.cons_append,List.cons.injEq]at h;obtain⟨z,hz,ys,hys,rfl,rfl⟩:=h;obtain⟨l1,l2,rfl,h1,h2⟩:=xc hys;exact⟨y::l1,l2,rfl,by simp[List.mapM_cons,hz,h1],h2⟩
theorem lp{E:En}{Γ:List (cD U)}(hΓ:oM P Γ){hs:List Nat}{ops:Array Oper}{Q:Exit->Act->World->Prop}:∀(rs:RS U) {ρ:Type} (W:WS) (nid:Nat) (S:aH U) (k:aH U->Option ρ) (r:ρ) (l1 l2:List Oper) (a:Act) (w:World) (L:Nat->Value),
  rs.cI=true->l1.mapM (pt P hs ops)=some rs.flat->Rel E S.st a w L->nid+rs.len<=S.N->(∀o∈l1,∀t,o.dst=some t->E.can t)->mR K Γ rs W nid S k=some r->
  (∀S' a' w' L',uK rs.gL W S S'->Rel E S'.st a' w' L'->k S'=some r->wpListIn (WF E.rd) 0 P ops Q l2 a' w')->wpListIn (WF E.rd) 0 P ops Q (l1++l2) a w
 | .nil,ρ,W,nid,S,k,r,l1,l2,a,w,L,hok,hm,h,hN,hd,hr,hk=>by
  have:l1=[]:=by
   have:=nC hm;exact List.eq_nil_of_length_eq_zero (by simpa[RS.flat]using this.symm)
  subst this;exact hk S a w L (uK.refl _ _ _) h hr
 | .op o rs,ρ,W,nid,S,k,r,l1,l2,a,w,L,hok,hm,h,hN,hd,hr,hk=>by
  simp only[RS.cI,Qm]at hok
  cases l1 with
  |nil=>simp[RS.flat]at hm
  |cons p l1=>
  simp only[RS.flat,List.mapM_cons,Qd,Qc,Option.pure_def,Qf,List.cons.injEq]at hm;obtain⟨g,hg,gs',hgs,rfl,rfl⟩:=hm;simp only[RS.len]at hN;obtain⟨Γ',x,wr,hΓ',he,hwr,hr'⟩:=LS hΓ hok.1 hr;have hst:pU Γ' nid S.st g=some (S.bN g.d x wr).st:=by rw[Mq,he,AW];rfl
  rw[List.cons_append];refine wpListIn_step fun K hK=> ?_
  refine q9 hΓ' hg h (show nid<S.N by omega) (hd p (by simp)) hst (fun a' w' L' h'=>hK _ _ ?_)
  refine lp hΓ rs W (nid+1) _ k r l1 l2 a' w' L' hok.2 hgs h' (by show _<=S.N;omega) (fun o' ho'=>hd o' (by simp[ho'])) hr' (fun S' a' w' L' hf h' hk'=>hk S' a' w' L' ?_ h' hk')
  refine(M6 S W g.d x wr hwr).trans hf fun t ht=> ?_
  simp only[RS.gL]at ht
  cases hdd:g.d with
  |none=>rw[hdd]at ht;exact⟨by simp,ht⟩
  |some d=>rw[hdd]at ht;simp only[QA,not_or]at ht;exact⟨by simpa using fun e=>ht.1 e,ht.2⟩
 | .ps p rs,ρ,W,nid,S,k,r,l1,l2,a,w,L,hok,hm,h,hN,hd,hr,hk=>by
  simp only[mR]at hr;split at hr
  ·rename_i hW;split at hr
   ·rename_i S1 hp;obtain⟨L1,h1⟩:=Ps.sound K hp h;have hf:=Ps.VD hp hW;refine lp hΓ rs W nid S1 k r l1 l2 a w L1 hok hm h1 (QK hN hf.N) hd hr (fun S' a' w' L' hf' h' hk'=>hk S' a' w' L' (hf.trans hf' fun t ht=> ?_) h' hk')
    simp only[RS.gL,Qz,not_or]at ht;exact ht
   ·cases hr
  ·cases hr
 | .uz t rs,ρ,W,nid,S,k,r,l1,l2,a,w,L,hok,hm,h,hN,hd,hr,hk=>by
  simp only[mR]at hr;split at hr
  ·rename_i b hb
   cases b with
   |true=>
    rw[Qk,wz hb]at hr;exact lp hΓ rs W nid S k r l1 l2 a w L hok hm h hN hd hr hk
   |false=>
    rw[Ql,wz hb]at hr;exact lp hΓ rs W nid S k r l1 l2 a w L hok hm h hN hd hr hk
  ·exact lp hΓ rs W nid S k r l1 l2 a w L hok hm h hN hd hr hk
  ·cases hr
 | .ite t want body d g x y rs,ρ,W,nid,S,k,r,l1,l2,a,w,L,hok,hm,h,hN,hd,hr,hk=>by
  simp only[RS.cI,Qm]at hok;obtain⟨⟨hokb,hokx,hoky⟩,hokr⟩:=hok;simp only[RS.flat]at hm;obtain⟨lb,lr,rfl,hmb,hmr⟩:=xc hm
  cases lr with
  |nil=>simp at hmr
  |cons p lr=>
  simp only[List.mapM_cons,Qd,Qc,Option.pure_def,Qf,List.cons.injEq]at hmr;obtain⟨pg,hpg,gs',hgs,rfl,rfl⟩:=hmr;simp only[RS.len]at hN;simp only[mR]at hr;split at hr
  ·rename_i b hb;split at hr
   ·rename_i hchk;simp only[Qm,Bool.not_eq_true']at hchk;obtain⟨hwant,hskip,htd⟩:=hchk;have htd:=lM htd
    have fin:∀(v:Bool) (S1:St) (a1:Act) (w1:World) (L1:Nat->Value),(∀x,x∉body.gL->S1.env x=S.st.env x)->S1.H=S.st.H->S1.N=S.st.N->Rel E S1 a1 w1 L1->
      (if b then x else y).val S1= .bool v->mR K Γ rs W (nid+(body.len+1)) ((S.forget body.gL).bN (some d) (.bool v) none) k=some r->wpListIn (WF E.rd) 0 P ops Q (p::(lr++l2)) a1 w1:=by
     intro v S1 a1 w1 L1 he hH hN1 h1 hv hr1
     have hpw:(⟨some d,g,.pick (.tmp t) x y⟩:SG).wanted S1=some true:=by
      rw[SG.wanted]
      cases g with
      |none=>rfl
      |some q=>
       obtain⟨t',want'⟩:=q;simp only[SO]at hwant;split at hwant
       ·rename_i b' hb';simp only[Qm,Bool.not_eq_true']at hwant;have:S1.env t'= .bool b':=by rw[he t' (lM hwant.2)];simp only[aH.st,hb',KV.pv]
        simp only[this];rw[CT]at hwant;rw[hwant.1]
       ·cases hwant
     have hbt:S1.env t= .bool b:=by rw[he t htd];simp only[aH.st,hb,KV.pv]
     have hst:pU (fun _=>none) nid S1 ⟨some d,g,.pick (.tmp t) x y⟩=some (S1.bN (some d) (.bool v) none):=by
      rw[pU,hpw];have hbt':(aP.tmp t).val S1= .bool b:=hbt;simp only[exec,hbt']
      cases b with
      |true=>simp only[Qt]at hv;simp only[hv];rfl
      |false=>simp only[Qq,Qu]at hv;simp only[hv];rfl
     refine wpListIn_step fun KK hKK=> ?_
     refine q9 NN hpg h1 (show nid<S1.N by rw[hN1];show nid<S.N;omega) (hd p (by simp)) hst (fun a' w' L' h'=>hKK _ _ ?_)
     have h2:Rel E ((S.forget body.gL).bN (some d) (.bool v) none).st a' w' L':=by
      refine h'.Tz (by rw[AW];exact hH.symm) (by rw[AW];exact hN1.symm) fun t'=> ?_
      rw[AW]
      by_cases htd':t'=d
      ·subst htd';left;rw[show(S1.bN (some t') (.bool v) none).env t'= .bool v from bo _ _ _]
       exact bo _ _ _
      ·rw[St.jh _ _ _ (by simpa using fun e=>htd' e.symm),St.jh _ _ _ (by simpa using fun e=>htd' e.symm)]
       cases hmm:fG t' body.gL with
       |true=>right;simp only[aH.st,aH.forget,hmm,KV.pv]
       |false=>left;simp only[aH.st,aH.forget,hmm];exact(he t' (lM hmm)).symm
     refine lp hΓ rs W (nid+(body.len+1)) _ k r lr l2 a' w' L' hokr hgs h2 (by show _<=S.N;omega) (fun o' ho'=>hd o' (by simp[ho'])) hr1 (fun S' a' w' L' hf h' hk'=>hk S' a' w' L' ?_ h' hk')
     refine uK.trans (S':=(S.forget body.gL).bN (some d) (.bool v) none) (D:=body.gL++[d]) ⟨fun t' ht'=> ?_,fun id _=>rfl,QI _,fun _=>rfl⟩ hf fun t' ht'=> ?_
     ·simp only[Qz,List.mem_singleton,not_or]at ht';rw[jh _ _ _ _ (by simpa using fun e=>ht'.2 e.symm)]
      have:fG t' body.gL=false:=by
       cases hmm:fG t' body.gL with
       |true=>exact absurd (dq.1 hmm) ht'.1
       |false=>rfl
      simp only[aH.forget,this]
     ·simp only[RS.gL,Qz,QA,not_or]at ht';exact⟨by simp[ht'.1,ht'.2.1],ht'.2.2⟩
    have body_run:∀(z:aP) (v:Bool),b=want->z.cI=true->z=(if b then x else y)->mR K Γ body none nid (S.bN (some t) (.bool b) none) (fun S1=>B7 (z.bO S1))=some v->
      mR K Γ rs W (nid+(body.len+1)) ((S.forget body.gL).bN (some d) (.bool v) none) k=some r->wpListIn (WF E.rd) 0 P ops Q (lb++p::(lr++l2)) a w:=by
     intro z v _ hz hzz Gn hrr;rw[wz hb]at Gn;refine lp hΓ body none nid S _ v lb _ a w L hokb hmb h (by omega) (fun o' ho'=>hd o' (by simp[ho'])) Gn (fun S' a' w' L' hf h' hk'=> ?_)
     have hH:S'.H=S.H:=funext fun id=>hf.H id rfl
     have hNN:S'.N=S.N:=hf.Nn rfl;refine fin v S'.st a' w' L' (fun x' hx'=>by simp only[aH.st,hf.env x' hx']) (by simp only[aH.st,hH]) hNN h' ?_ hrr
     rw[<-hzz,rn hz,UF hk'];rfl
    have body_skip:∀(c:Bool),b= !want->(if b then x else y)= .rA (.bool c)->mR K Γ rs W (nid+(body.len+1)) ((S.forget body.gL).bN (some d) (.bool c) none) k=some r->wpListIn (WF E.rd) 0 P ops Q (lb++p::(lr++l2)) a w:=by
     intro c hbw hc hrr;refine yZ lb _ [] S.st a w L hmb h (show 0<S.N by omega) (fun o' ho'=>hd o' (by simp[ho'])) hskip ?_ (by simp) (fun S' a' w' L' he hH hN' h'=> ?_)
     ·simp only[aH.st,hb,KV.pv,hbw]
     ·refine fin c S' a' w' L' (fun x' hx'=>he x' fun hmem=>hx' (mW _ _ hmem)) hH hN' h' ?_ hrr
      rw[hc];rfl
    rw[QL,List.cons_append];split at hr
    ·split at hr
     ·rename_i c hc
      have hy:y= .rA (.bool c):=by
       unfold Oj at hc;split at hc
       ·injection hc with hc;rw[hc]
       ·cases hc
      rw[Qc]at hr;obtain⟨v,hv,hr⟩:=hr
      cases b with
      |true=>exact body_run x v rfl hokx (by simp) hv hr
      |false=>
       rw[Ql]at hv;injection hv with hv
       subst hv;exact body_skip c rfl (by simpa using hy) hr
     ·cases hr
    ·split at hr
     ·rename_i c hc
      have hx:x= .rA (.bool c):=by
       unfold Oj at hc;split at hc
       ·injection hc with hc;rw[hc]
       ·cases hc
      rw[Qc]at hr;obtain⟨v,hv,hr⟩:=hr
      cases b with
      |false=>exact body_run y v rfl hoky (by simp) hv hr
      |true=>
       rw[Qk]at hv;injection hv with hv
       subst hv;exact body_skip c rfl (by simpa using hx) hr
     ·cases hr
   ·cases hr
  ·cases hr
end
end Go.TQ
end
noncomputable section
namespace Go.TQ
open Go.RowKit
def PV.pj(p:Nat->Bool):PV->Bool
 | .own id _| .ptr id _ _| .dE id _ _ _ _| .view id _ _ _ _=>p id
 | .agg _| .c6 _| .bg _ _| .gk _ _=>false
 |_=>true
def PV.jR(p:Nat->Bool):PV->Bool
 | .agg cs| .c6 cs| .bg _ cs| .gk _ cs=>cs.all (PV.pj p)
 |x=>x.pj p
section
variable {w : World}
theorem aL.pj{p:Nat->Bool}{M M':Nat->Prop}{G G':Gh}{x:PV}{v:Value}(hx:x.pj p=true)(hM:∀b,M' b->M b)(hp:∀id,p id=true->id<G'.N/\G'.V id=G.V id/\G'.L id=G.L id)(h:aL w M G x v):aL w M' G' x v:=by
 have hs:cW w w M M':=(cW.of fun _ hm=>fun h'=>hm (hM _ h'))
 cases h with
 |any=>exact .any _
 |undef=>exact .undef
 |int=>exact .int _ _
 |bool=>exact .bool _
 |eL=>exact .eL _
 |str=>exact .str _
 |gX=>exact .gX
 |cJ=>exact .cJ
 |bg=>simp[PV.pj]at hx
 |gk=>simp[PV.pj]at hx
 |agg=>simp[PV.pj]at hx
 |c6=>simp[PV.pj]at hx
 |ptr id an off a hN hVe h=>obtain⟨h1,h2,h3⟩:=hp id hx;exact .ptr _ _ _ _ h1 (by rw[h2];exact hVe) (fun e=>by rw[h3];exact h (by rw[e,h2]))
 |ref cs ad vs hl hcell h=>exact .ref cs ad vs hl (fun i u hu=>⟨(hcell i u hu).1,fun h'=>(hcell i u hu).2 (hM _ h')⟩) (fun i p u hp hu=>(h i p u hp hu).mono hs (Gh.le.refl _))
 |sl es ad c k vs hk hl hcell h hn hm=>exact .sl es ad c k vs hk hl (fun i u hu=>⟨(hcell i u hu).1,fun h'=>(hcell i u hu).2 (hM _ h')⟩) (fun i p u hp hu=>(h i p u hp hu).mono hs (Gh.le.refl _)) hn hm
 |slnil=>exact .slnil
 |own id an a n c hN hVe h=>obtain⟨h1,h2,h3⟩:=hp id hx;exact .own _ _ _ _ _ h1 (by rw[h2];exact hVe) (fun e=>by rw[h3];exact h (by rw[e,h2]))
 |dE id an k i off a hN hVe h=>obtain⟨h1,h2,h3⟩:=hp id hx;exact .dE _ _ _ _ _ _ h1 (by rw[h2];exact hVe) (fun e=>by rw[h3];exact h (by rw[e,h2]))
 |view id an k lo n a c hN hVe h=>obtain⟨h1,h2,h3⟩:=hp id hx;exact .view _ _ _ _ _ _ _ h1 (by rw[h2];exact hVe) (fun e=>by rw[h3];exact h (by rw[e,h2]))
 |fS ks us b es ck hb hMb hk hv g1 g2=>exact .fS ks us b es ck hb (fun h'=>hMb (hM _ h')) hk hv (fun i p e hp he=>(g1 i p e hp he).mono hs (Gh.le.refl _)) (fun i p e hp he=>(g2 i p e hp he).mono hs (Gh.le.refl _))
theorem aL.jR{p:Nat->Bool}{M M':Nat->Prop}{G G':Gh}{x:PV}{v:Value}(hx:x.jR p=true)(hM:∀b,M' b->M b)(hp:∀id,p id=true->id<G'.N/\G'.V id=G.V id/\G'.L id=G.L id)(h:aL w M G x v):aL w M' G' x v:=by
 have go:∀{cs:List PV} {vs:List Value},cs.all (PV.pj p)=true->aM w M G cs vs->aM w M' G' cs vs:=fun hc h=>⟨h.1,fun i y v hy hv=>(h.2 i y v hy hv).pj (QH.1 hc y (List.mem_of_getElem? hy)) hM hp⟩
 cases x with
 |agg cs=>obtain⟨vs,rfl,hr⟩:=h.kx;have:=go (by simpa[PV.jR]using hx) hr;exact .agg _ _ this.1 this.2
 |c6 cs=>obtain⟨vs,rfl,hr⟩:=h.xV;have:=go (by simpa[PV.jR]using hx) hr;exact .c6 _ _ this.1 this.2
 |bg f cs=>obtain⟨vs,rfl,hr⟩:=h.rC;have:=go (by simpa[PV.jR]using hx) hr;exact .bg _ _ _ this.1 this.2
 |gk f cs=>obtain⟨vs,rfl,hr⟩:=h.HX;have:=go (by simpa[PV.jR]using hx) hr;exact .gk _ _ _ this.1 this.2
 |_=>exact h.pj (by simpa[PV.jR]using hx) hM hp
end
section
variable {U : TU}
def KV.pj(p:Nat->Bool):KV U->Bool
 | .own id _| .ptr id _ _| .dE id _ _ _ _| .view id _ _ _ _=>p id
 | .agg _| .c6 _| .bg _ _| .gk _ _=>false
 |_=>true
def KV.jR(p:Nat->Bool):KV U->Bool
 | .agg cs| .c6 cs| .bg _ cs| .gk _ cs=>cs.all (KV.pj p)
 |x=>x.pj p
theorem Vn(p:Nat->Bool)(x:KV U):x.pv.pj p=x.pj p:=by cases x<;>simp[KV.pv,PV.pj,KV.pj]
theorem vg(p:Nat->Bool)(l:List (KV U)):(l.map KV.pv).all (PV.pj p)=l.all (KV.pj p):=by
 induction l with
 |nil=>rfl
 |cons x l ih=>simp only[QD,List.all_cons,Vn,ih]
theorem Ks(p:Nat->Bool)(x:KV U):x.pv.jR p=x.jR p:=by
 cases x with
 |agg cs=>simp only[KV.pv,PV.jR,KV.jR,KV.bJ];exact vg p cs
 |c6 cs=>simp only[KV.pv,PV.jR,KV.jR,KV.bJ];exact vg p cs
 |bg f cs=>simp only[KV.pv,PV.jR,KV.jR,KV.bJ];exact vg p cs
 |gk f cs=>simp only[KV.pv,PV.jR,KV.jR,KV.bJ];exact vg p cs
 |_=>simp[KV.pv,PV.jR,KV.jR,PV.pj,KV.pj]
def cZ.jR(p:Nat->Bool):cZ U->Bool
 | .dead=>true
 | .box cs=>cs.all (KV.jR p)
 | .row _ _ _ _=>true
 | .raw _ _ es=>es.all fun c=>c.all (KV.jR p)
inductive It (U:TU) where
 |val (t:Nat) (T:U.Ty)
 |own (t id an e k:Nat) (T:U.Ty)
 |box (id an:Nat) (T:U.Ty) (m:List (Nat×Nat×Nat))
 |jl (id an e k:Nat) (T:U.Ty)
@[reducible] def It.den:It U->Type
 | .val _ T=>U.den T
 | .own _ _ _ _ _ T=>List (U.den T)
 | .box _ _ T _=>U.den T
 | .jl _ _ _ _ T=>List (U.den T)
@[reducible] def nc:List (It U)->Type
 |[]=>Unit
 |i::l=>i.den×nc l
def vx:List (Nat×Nat×Nat)->List (KV U)->List (KV U)
 |[],cs=>cs
 |(off,_,_)::m,cs=>vx m (cs.set off .cJ)
def vK:List (Nat×Nat×Nat)->List (KV U)->List (KV U)
 |[],cs=>cs
 |(off,id,an)::m,cs=>(vK m cs).set off (.own id an)
def BI(S:aH U)(cs:List (KV U)):List (Nat×Nat×Nat)->Bool
 |[]=>true
 |(off,id,_)::m=>(match cs[off]? with|some (.own i v)=>Nat.beq i id&&Nat.beq v (S.H id).an|_=>false)&&BI S cs m
theorem FM(cs:List (KV U)):∀(m:List (Nat×Nat×Nat)),(vK m cs).length=cs.length
 |[]=>rfl
 |(off,id,an)::m=>by rw[vK,QY,FM cs m]
theorem yW:∀(m:List (Nat×Nat×Nat)) (cs:List (KV U)),(vx m cs).length=cs.length
 |[],_=>rfl
 |(off,id,an)::m,cs=>by rw[vx,yW m,QY]
theorem FN(cs:List (KV U)){i:Nat}{y:KV U}:∀(m:List (Nat×Nat×Nat)),(vK m cs)[i]?=some y->(∃id an,(i,id,an)∈m/\y= .own id an)\/((∀q∈m,q.1≠i)/\cs[i]?=some y)
 |[],h=> .inr ⟨by simp,h⟩
 |(off,id,an)::m,h=>by
  rw[vK,List.getElem?_set]at h;split at h
  ·rename_i e;subst e;split at h
   ·injection h with h
    exact .inl ⟨id,an,Qx,h.symm⟩
   ·cases h
  ·rename_i e;rcases FN cs m h with⟨a,b,h1,h2⟩|⟨h1,h2⟩
   ·exact .inl ⟨a,b,Qy _ h1,h2⟩
   ·refine .inr ⟨fun q hq=> ?_,h2⟩
    rcases QA.1 hq with rfl|hq
    ·exact e
    ·exact h1 q hq
theorem Fe{i:Nat}:∀(m:List (Nat×Nat×Nat)) (cs:List (KV U)),(∀q∈m,q.1≠i)->(vx m cs)[i]?=cs[i]?
 |[],_,_=>rfl
 |(off,id,an)::m,cs,h=>by
  rw[vx,Fe m _ fun q hq=>h q (Qy _ hq),List.getElem?_set,Qs (h _ Qx)]
theorem F6{S:aH U}{cs:List (KV U)}{off id an:Nat}:∀{m:List (Nat×Nat×Nat)},BI S cs m=true->(off,id,an)∈m->cs[off]?=some (.own id (S.H id).an)
 |[],_,h=>by cases h
 |(o,i,v)::m,hm,h=>by
  rw[BI,Qm]at hm;rcases QA.1 h with e|h
  ·injection e with e1 e2
   injection e2 with e2 e3
   subst e1 e2 e3;have h1:=hm.1;split at h1
   ·rename_i i' v' hc;rw[Qm]at h1;rw[hc,QF h1.1,QF h1.2]
   ·cases h1
  ·exact F6 hm.2 h
variable (K : TK U)
def MM(S:aH U):(i:It U)->Option i.den
 | .val t T=>rM K kG T (S.env t)
 | .own t id an e k T=>(match S.env t with
  | .own id' v=>(match Nat.beq id' id with
   |true=>(match S.row? id' v with
    |some r=>(match Nat.beq r.e e&&Nat.beq r.k k&&(Nat.blt 0 an||Nat.beq v 0)with|true=>tJ r.T T r.xs|false=>none)
    |none=>none)
   |false=>none)
  |_=>none)
 | .box id an T m=>(match S.nL id an with
  |some cs=>(match BI S cs m with|true=>K.dec T kG (vx m cs)|false=>none)
  |none=>none)
 | .jl id an e k T=>(match(S.H id).c with
  | .row e' k' T' xs=>(match Nat.beq e' e&&Nat.beq k' k&&(Nat.blt 0 an||Nat.beq (S.H id).an 0)with|true=>tJ T' T xs|false=>none)
  |_=>none)
def pack(S:aH U):(l:List (It U))->Option (nc l)
 |[]=>some ()
 |i::l=>(match MM K S i with
  |some v=>(match pack S l with|some vs=>some (v,vs)|none=>none)
  |none=>none)
def pB(S:aH U):(i:It U)->i.den->aH U
 | .val t T,v=>{env:=fm S.env t (qv K T v),H:=S.H,N:=S.N}
 | .own t id an e k T,xs=>{env:=fm S.env t (.own id an),H:=fm S.H id ⟨an,.row e k T xs⟩,N:=S.N}
 | .box id an T m,v=>{env:=S.env,H:=fm S.H id ⟨an,.box (vK m (K.bI T v))⟩,N:=S.N}
 | .jl id an e k T,xs=>{env:=S.env,H:=fm S.H id ⟨an,.row e k T xs⟩,N:=S.N}
def oU(S:aH U):(l:List (It U))->nc l->aH U
 |[],_=>S
 |i::l,v=>pB K (oU S l v.2) i v.1
structure JS (U:TU) where
 items:List (It U)
 da:List Nat
def aH.base(S:aH U)(da:List Nat):aH U:=
 {env:=fun t=>(match fG t da with|true=>S.env t|false=> .any),H:=fun id=>(match Nat.blt id S.N with|true=>S.H id|false=>⟨0,.dead⟩),N:=S.N}
def unpack(S:aH U)(J:JS U)(v:nc J.items):aH U:=oU K (S.base J.da) J.items v
def It.bS:It U->Option Nat
 | .val t _| .own t _ _ _ _ _=>some t
 | .box _ _ _ _| .jl _ _ _ _ _=>none
def It.id:It U->Option Nat
 | .val _ _=>none
 | .own _ id _ _ _ _| .box id _ _ _| .jl id _ _ _ _=>some id
def It.X5:It U->Bool
 | .own _ _ _ _ _ _| .jl _ _ _ _ _=>true
 |_=>true
def It.row:It U->Option Nat
 | .own _ id an _ _ _| .jl id an _ _ _=>(match an with|0=>none|_+1=>some id)
 |_=>none
def It.isRow(id an:Nat):It U->Bool
 | .jl id' ver' _ _ _=>Nat.beq id' id&&Nat.beq ver' an
 |_=>false
def Gt(id an:Nat):List (It U)->Bool
 |[]=>false
 |i::l=>i.isRow id an||Gt id an l
def It.X6(l:List (It U)):It U->Bool
 | .box _ _ _ m=>m.all fun q=>Gt q.2.1 q.2.2 l
 |_=>true
theorem Gs{id an:Nat}:∀{l:List (It U)},Gt id an l=true->∃e k T,(It.jl id an e k T)∈l
 |[],h=>by cases h
 |i::l,h=>by
  rw[Gt,Qn]at h;rcases h with h|h
  ·cases i with
   |jl id' ver' e k T=>
    simp only[It.isRow,Qm]at h;rw[QF h.1,QF h.2];exact⟨e,k,T,Qx⟩
   |_=>cases h
  ·obtain⟨e,k,T,h⟩:=Gs h;exact⟨e,k,T,Qy _ h⟩
def dO:List (It U)->List Nat
 |[]=>[]
 |i::l=>(match i.id with|some id=>id::dO l|none=>dO l)
def rowsOf:List (It U)->List Nat
 |[]=>[]
 |i::l=>(match i.row with|some id=>id::rowsOf l|none=>rowsOf l)
def slotsOf:List (It U)->List Nat
 |[]=>[]
 |i::l=>(match i.bS with|some id=>id::slotsOf l|none=>slotsOf l)
def sg:List Nat->Bool
 |[]=>true
 |x::l=> !fG x l&&sg l
def GR:Nat->(Nat->Bool)->Bool
 |0,_=>true
 |n+1,p=>GR n p&&p n
theorem GQ{p:Nat->Bool}:∀{n:Nat},GR n p=true->∀i,i<n->p i=true
 |0,_,i,hi=>absurd hi (Nat.not_lt_zero _)
 |n+1,h,i,hi=>by
  simp only[GR,Qm]at h
  by_cases e:i=n
  ·rw[e];exact h.2
  ·exact GQ h.1 i (by omega)
def oH(S:aH U)(J:JS U)(F:List Nat)(W:WS):Bool:=
 let ids:=dO J.items
 let rows:=rowsOf J.items
 let p:=fun id=>Nat.blt id S.N&& !fG id rows
 sg ids&&ids.all (fun id=>Nat.blt id S.N&&okW W id)&&(J.items.all It.X5&&J.items.all (It.X6 J.items))&&J.da.all (fun t=>(S.env t).jR p&& !fG t (slotsOf J.items))&&GR S.N (fun id=>fG id ids||(S.H id).c.jR p)
  &&F.all (fun t=>fG t J.da)&&(match W with|some (n,_)=>Nat.ble n S.N|none=>false)
def rZ:(l:List (It U))->nc l->List (Sigma (It.den (U:=U)))
 |[],_=>[]
 |i::l,v=>⟨i,v.1⟩::rZ l v.2
variable {K}
theorem FU{S:aH U}:∀{l:List (It U)} {v:nc l},pack K S l=some v->∀p∈rZ l v,MM K S p.1=some p.2
 |[],v,h,p,hp=>by cases hp
 |i::l,v,h,p,hp=>by
  rw[pack]at h;split at h
  ·rename_i v1 h1;split at h
   ·rename_i vs h2;injection h with h
    subst h;rcases QA.1 hp with rfl|hp
    ·exact h1
    ·exact FU h2 p hp
   ·cases h
  ·cases h
def Te:(i:It U)->i.den->KV U
 | .val _ T,v=>qv K T v
 | .own _ id an _ _ _,_=> .own id an
 | .box _ _ _ _,_=> .any
 | .jl _ _ _ _ _,_=> .any
def Hy:(i:It U)->i.den->cm U
 | .val _ _,_=>⟨0,.dead⟩
 | .own _ _ an e k T,xs=>⟨an,.row e k T xs⟩
 | .box _ an T m,v=>⟨an,.box (vK m (K.bI T v))⟩
 | .jl _ an e k T,xs=>⟨an,.row e k T xs⟩
theorem RJ(S:aH U)(i:It U)(v:i.den)(t:Nat):(i.bS=some t/\(pB K S i v).env t=Te (K:=K) i v)\/(i.bS≠some t/\(pB K S i v).env t=S.env t):=by
 cases i with
 |val t' T=>
  by_cases e:t'=t
  ·subst e;left;exact⟨rfl,by simp only[pB,bM];exact bo _ _ _⟩
  ·right;exact⟨by simpa[It.bS]using e,by simp only[pB,bM];exact bF _ _ (fun h=>e h.symm)⟩
 |own t' id an ee k T=>
  by_cases e:t'=t
  ·subst e;left;exact⟨rfl,by simp only[pB,bM];exact bo _ _ _⟩
  ·right;exact⟨by simpa[It.bS]using e,by simp only[pB,bM];exact bF _ _ (fun h=>e h.symm)⟩
 |box id an T m=>right;exact⟨by simp[It.bS],rfl⟩
 |jl id an e k T=>right;exact⟨by simp[It.bS],rfl⟩
theorem Kh(S:aH U)(i:It U)(v:i.den)(id:Nat):(i.id=some id/\(pB K S i v).H id=Hy (K:=K) i v)\/(i.id≠some id/\(pB K S i v).H id=S.H id):=by
 cases i with
 |val t' T=>right;exact⟨by simp[It.id],rfl⟩
 |own t' id' an ee k T=>
  by_cases e:id'=id
  ·subst e;left;exact⟨rfl,by simp only[pB,bM];exact bo _ _ _⟩
  ·right;exact⟨by simpa[It.id]using e,by simp only[pB,bM];exact bF _ _ (fun h=>e h.symm)⟩
 |box id' an T m=>
  by_cases e:id'=id
  ·subst e;left;exact⟨rfl,by simp only[pB,bM];exact bo _ _ _⟩
  ·right;exact⟨by simpa[It.id]using e,by simp only[pB,bM];exact bF _ _ (fun h=>e h.symm)⟩
 |jl id' an ee k T=>
  by_cases e:id'=id
  ·subst e;left;exact⟨rfl,by simp only[pB,bM];exact bo _ _ _⟩
  ·right;exact⟨by simpa[It.id]using e,by simp only[pB,bM];exact bF _ _ (fun h=>e h.symm)⟩
theorem Vh(S:aH U)(i:It U)(v:i.den):(pB K S i v).N=S.N:=by cases i<;>rfl
theorem yo(S:aH U):∀(l:List (It U)) (v:nc l),(oU K S l v).N=S.N
 |[],_=>rfl
 |i::l,v=>by rw[oU,Vh,yo S l]
theorem oW{id:Nat}:∀{l:List (It U)} {i:It U},i∈l->i.id=some id->id∈dO l
 |j::l,i,hi,h=>by
  simp only[dO];rcases QA.1 hi with rfl|hi
  ·rw[h];exact Qx
  ·have:=oW hi h;split
   ·exact Qy _ this
   ·exact this
theorem Ev{id:Nat}:∀{l:List (It U)} {i:It U},i∈l->i.row=some id->id∈rowsOf l
 |j::l,i,hi,h=>by
  simp only[rowsOf];rcases QA.1 hi with rfl|hi
  ·rw[h];exact Qx
  ·have:=Ev hi h;split
   ·exact Qy _ this
   ·exact this
theorem xb{id:Nat}:∀{l:List (It U)} {i:It U},i∈l->i.bS=some id->id∈slotsOf l
 |j::l,i,hi,h=>by
  simp only[slotsOf];rcases QA.1 hi with rfl|hi
  ·rw[h];exact Qx
  ·have:=xb hi h;split
   ·exact Qy _ this
   ·exact this
theorem iE:∀{l:List (It U)} {v:nc l} {p:Sigma (It.den (U:=U))},p∈rZ l v->p.1∈l
 |i::l,v,p,hp=>by
  rcases QA.1 hp with rfl|hp
  ·exact Qx
  ·exact Qy _ (iE hp)
theorem Kz:∀{l:List (It U)} {v:nc l} {i:It U},i∈l->∃d,(⟨i,d⟩:Sigma (It.den (U:=U)))∈rZ l v
 |j::l,v,i,hi=>by
  rcases QA.1 hi with rfl|hi
  ·exact⟨v.1,Qx⟩
  ·obtain⟨d,hd⟩:=Kz (v:=v.2) hi;exact⟨d,Qy _ hd⟩
theorem tO(S:aH U):∀(l:List (It U)) (v:nc l) (t:Nat),(∃p∈rZ l v,p.1.bS=some t/\(oU K S l v).env t=Te (K:=K) p.1 p.2)\/(t∉slotsOf l/\(oU K S l v).env t=S.env t)
 |[],v,t=> .inr ⟨by simp[slotsOf],rfl⟩
 |i::l,v,t=>by
  rcases RJ (K:=K) (oU K S l v.2) i v.1 t with⟨h1,h2⟩|⟨h1,h2⟩
  ·exact .inl ⟨⟨i,v.1⟩,Qx,h1,h2⟩
  ·rcases tO S l v.2 t with⟨p,hp,h3,h4⟩|⟨h3,h4⟩
   ·exact .inl ⟨p,Qy _ hp,h3,h2.trans h4⟩
   ·refine .inr ⟨?_,h2.trans h4⟩;simp only[slotsOf];split
    ·rename_i s hs;simp only[QA,not_or];exact⟨fun e=>h1 (by rw[hs,e]),h3⟩
    ·exact h3
theorem yp(S:aH U):∀(l:List (It U)) (v:nc l) (id:Nat),sg (dO l)=true->(∃p∈rZ l v,p.1.id=some id/\(oU K S l v).H id=Hy (K:=K) p.1 p.2)\/(id∉dO l/\(oU K S l v).H id=S.H id)
 |[],v,t,_=> .inr ⟨by simp[dO],rfl⟩
 |i::l,v,id,hn=>by
  have hn':sg (dO l)=true:=by
   simp only[dO]at hn;split at hn
   ·simp only[sg,Qm]at hn;exact hn.2
   ·exact hn
  rcases Kh (K:=K) (oU K S l v.2) i v.1 id with⟨h1,h2⟩|⟨h1,h2⟩
  ·exact .inl ⟨⟨i,v.1⟩,Qx,h1,h2⟩
  ·rcases yp S l v.2 id hn' with⟨p,hp,h3,h4⟩|⟨h3,h4⟩
   ·exact .inl ⟨p,Qy _ hp,h3,h2.trans h4⟩
   ·refine .inr ⟨?_,h2.trans h4⟩;simp only[dO];split
    ·rename_i s hs;simp only[QA,not_or];exact⟨fun e=>h1 (by rw[hs,e]),h3⟩
    ·exact h3
theorem By(S:aH U):∀(l:List (It U)) (v:nc l),sg (dO l)=true->∀p∈rZ l v,∀id,p.1.id=some id->(oU K S l v).H id=Hy (K:=K) p.1 p.2
 |[],v,_,p,hp=>by cases hp
 |i::l,v,hn,p,hp=>by
  intro id hid
  have hn':sg (dO l)=true:=by
   simp only[dO]at hn;split at hn
   ·simp only[sg,Qm]at hn;exact hn.2
   ·exact hn
  rcases QA.1 hp with rfl|hp
  ·rcases Kh (K:=K) (oU K S l v.2) i v.1 id with⟨h1,h2⟩|⟨h1,h2⟩
   ·exact h2
   ·exact absurd hid h1
  ·rcases Kh (K:=K) (oU K S l v.2) i v.1 id with⟨h1,h2⟩|⟨h1,h2⟩
   ·exfalso;simp only[dO,h1,sg,Qm,Bool.not_eq_true']at hn;exact lM hn.1 (oW (iE hp) hid)
   ·exact h2.trans (By S l v.2 hn' p hp id hid)
theorem GN(S:aH U)(da:List Nat):(S.base da).N=S.N:=rfl
theorem Ab{S:aH U}{da:List Nat}{t:Nat}:(S.base da).env t=if t∈da then S.env t else .any:=by
 simp only[aH.base];split
 ·rename_i h;rw[Qr (dq.1 h)]
 ·rename_i h;rw[Qs (lM h)]
theorem GO{S:aH U}{da:List Nat}{id:Nat}:(S.base da).H id=if id<S.N then S.H id else⟨0,.dead⟩:=by
 simp only[aH.base];split
 ·rename_i h;rw[Qr (show id<S.N from QG h)]
 ·rename_i h;rw[Qs];intro hlt;have:Nat.blt id S.N=true:=Nat.ble_eq_true_of_le hlt;rw[this]at h;cases h
theorem fC.S6{w:World}{M:Nat->Prop}{G:Gh}{xs:List (KV U)}{ys:List PV}(h:fC kG xs ys):∀{vs:List Value},aM w M G (xs.map KV.pv) vs->aM w M G ys vs:=by
 induction h with
 |nil=>intro vs h;exact h
 |cons hc _ ih=>
  intro vs h;obtain⟨v,vs',rfl,h1,h2⟩:=aM.cons_inv h;refine aM.cons ?_ (ih h2)
  cases hc with
  |cJ=>rw[KV.pv]at h1;rw[h1.jL];exact .slnil
  |own _ _ _ _ hn=>cases hn
  |_=>simpa[KV.pv]using h1
theorem jz.S6{w:World}{M:Nat->Prop}{G:Gh}{x:KV U}{y:PV}(hc:jz kG x y){v:Value}(h1:aL w M G x.pv v):aL w M G y v:=by
 cases hc with
 |cJ=>rw[KV.pv]at h1;rw[h1.jL];exact .slnil
 |own _ _ _ _ hn=>cases hn
 |_=>simpa[KV.pv]using h1
theorem fC.len{lk:Lk U}{xs:List (KV U)}{ys:List PV}(h:fC lk xs ys):xs.length=ys.length:=by
 induction h with
 |nil=>rfl
 |cons _ _ ih=>rw[QE,QE,ih]
theorem fC.get{lk:Lk U}{xs:List (KV U)}{ys:List PV}(h:fC lk xs ys):∀{i:Nat} {x:KV U} {y:PV},xs[i]?=some x->ys[i]?=some y->jz lk x y:=by
 induction h with
 |nil=>intro i x y h;simp at h
 |cons hc _ ih=>
  intro i x y hx hy
  cases i with
  |zero=>simp only[List.getElem?_cons_zero,Qf]at hx hy;subst hx hy;exact hc
  |succ i=>exact ih (by simpa using hx) (by simpa using hy)
theorem OU{w:World}{M:Nat->Prop}{G:Gh}{T:U.Ty}{x:KV U}{d:U.den T}{v:Value}(h:rM K kG T x=some d)(r:aL w M G x.pv v):aL w M G (cv T d) v:=by
 unfold rM at h;unfold cv;split at h
 ·split at h
  ·rename_i cs;rw[KV.pv,KV.bJ]at r;obtain⟨vs,rfl,hr⟩:=r.kx;have:=(K.jr _ _ _ _ h).S6 hr;exact .agg _ _ this.1 this.2
  ·cases h
 ·rename_i ha;have hc:=K.jr _ _ _ _ h;have h1:aM w M G ([x].map KV.pv) [v]:= .cons r .nil;have h2:=hc.S6 h1;generalize U.pv T d=ys at h2;obtain⟨hl,h2⟩:=h2
  cases ys with
  |nil=>simp at hl
  |cons y l=>exact h2 0 y v rfl rfl
theorem Rel.meet{S0 S1:aH U}{J:JS U}{F:List Nat}{W:WS}(hchk:oH S0 J F W=true){v:nc J.items}(hp:pack K S1 J.items=some v)
  (hk:∀t∈J.da,S1.env t=S0.env t) (hH:∀id,id<S0.N->id∉dO J.items->S1.H id=S0.H id) (hN:S0.N<=S1.N)
  {E:En} {a:Act} {w:World} {L:Nat->Value} (h:Rel E S1.st a w L):Rel E (unpack K S0 J v).st a w L:=by
 simp only[oH,Qm,QH]at hchk;obtain⟨⟨⟨⟨⟨⟨hnd,hids⟩,hokv,hokm⟩,hkeep⟩,hobj⟩,hF⟩,hW⟩:=hchk;have hpk:=FU hp;have hN':(unpack K S0 J v).N=S0.N:=by rw[unpack,yo,GN]
 have hlt:∀id∈dO J.items,id<S0.N:=fun id hid=>QG (hids id hid).1
 have hHc:∀id,(∃p∈rZ J.items v,p.1.id=some id/\(unpack K S0 J v).H id=Hy (K:=K) p.1 p.2)\/(id∉dO J.items/\(unpack K S0 J v).H id=if id<S0.N then S0.H id else⟨0,.dead⟩):=by
  intro id;rcases yp (K:=K) (S0.base J.da) J.items v id hnd with h1|⟨h1,h2⟩
  ·exact .inl h1
  ·exact .inr ⟨h1,h2.trans GO⟩
 have hrow:∀t id an e k T (xs:List (U.den T)),(⟨.own t id an e k T,xs⟩:Sigma (It.den (U:=U)))∈rZ J.items v->S1.env t= .own id (S1.H id).an/\(S1.H id).c= .row e k T xs/\(an=0->(S1.H id).an=0):=by
  intro t id an e k T xs hmem;have:=hpk _ hmem;simp only[MM]at this;split at this
  ·rename_i id' v' he;split at this
   ·rename_i hid;have hid:=QF hid;subst hid;split at this
    ·rename_i r hr;obtain⟨h1,h2⟩:=w4 hr;split at this
     ·rename_i hek;rw[Qm,Qm,Qn]at hek;obtain⟨re,rk,rT,rxs⟩:=r;obtain⟨eT,hxs⟩:=kf this;simp only at eT hxs h2 hek;subst eT;refine⟨by rw[he,h1],by rw[h2,hxs,QF hek.1.1,QF hek.1.2],fun hz=> ?_⟩
      rcases hek.2 with h9|h9
      ·rw[hz]at h9;cases h9
      ·rw[h1];exact QF h9
     ·cases this
    ·cases this
   ·cases this
  ·cases this
 have hbox:∀id an T m (d:U.den T),(⟨.box id an T m,d⟩:Sigma (It.den (U:=U)))∈rZ J.items v->(S1.H id).an=an/\∃cs,(S1.H id).c= .box cs/\BI S1 cs m=true/\fC kG (vx m cs) (U.pv T d):=by
  intro id an T m d hmem;have:=hpk _ hmem;simp only[MM]at this;split at this
  ·rename_i cs hcs;obtain⟨h1,h2⟩:=ui hcs;split at this
   ·rename_i hmk;exact⟨h1,cs,h2,hmk,K.jr _ _ _ _ this⟩
   ·cases this
  ·cases this
 have hrowb:∀id an e k T (xs:List (U.den T)),(⟨.jl id an e k T,xs⟩:Sigma (It.den (U:=U)))∈rZ J.items v->(S1.H id).c= .row e k T xs/\(an=0->(S1.H id).an=0):=by
  intro id an e k T xs hmem;have:=hpk _ hmem;simp only[MM]at this;split at this
  ·rename_i e' k' T' ys hc;split at this
   ·rename_i hek;rw[Qm,Qm,Qn]at hek;obtain⟨eT,hxs⟩:=kf this;subst eT;refine⟨by rw[hc,hxs,QF hek.1.1,QF hek.1.2],fun hz=> ?_⟩
    rcases hek.2 with h9|h9
    ·rw[hz]at h9;cases h9
    ·exact QF h9
   ·cases this
  ·cases this
 have hlive:∀id,id<S0.N->((unpack K S0 J v).st.H id).c.live=true->(S1.st.H id).c.live=true:=by
  intro id hid hl;rcases hHc id with⟨⟨i,d⟩,hmem,h1,h2⟩|⟨h1,h2⟩
  ·cases i with
   |val t T=>cases h1
   |own t id' an e k T=>
    simp only[It.id,Qf]at h1;subst h1;have:=(hrow _ _ _ _ _ _ _ hmem).2.1;simp only[aH.st,cm.pv,this,cZ.pv];rfl
   |box id' an T m=>
    simp only[It.id,Qf]at h1;subst h1;obtain⟨_,cs,h3,_,_⟩:=hbox _ _ _ _ _ hmem;simp only[aH.st,cm.pv,h3,cZ.pv];rfl
   |jl id' an e k T=>
    simp only[It.id,Qf]at h1;subst h1;have:=(hrowb _ _ _ _ _ _ hmem).1;simp only[aH.st,cm.pv,this,cZ.pv];rfl
  ·rw[Qr hid]at h2;simp only[aH.st]at hl ⊢;rw[h2,<-hH id hid h1]at hl;exact hl
 have hM:∀b,aQ E (unpack K S0 J v).st L b->aQ E S1.st L b:=by
  rintro b (⟨id,hid,hl,hb⟩|hb)
  ·have hid':id<S0.N:=by simpa only[aH.st,hN']using hid
   exact .inl ⟨id,QJ hid' hN,hlive id hid' hl,hb⟩
  ·exact .inr hb
 have hpok:∀id,(Nat.blt id S0.N&& !fG id (rowsOf J.items))=true->id<((unpack K S0 J v).st.gh L).N/\((unpack K S0 J v).st.gh L).V id=(S1.st.gh L).V id/\((unpack K S0 J v).st.gh L).L id=(S1.st.gh L).L id:=by
  intro id hid;simp only[Qm,Bool.not_eq_true']at hid;have hid1:id<S0.N:=QG hid.1;refine⟨by simpa only[St.gh,aH.st,hN']using hid1,?_,rfl⟩
  simp only[St.gh,aH.st,cm.pv];rcases hHc id with⟨⟨i,d⟩,hmem,h1,h2⟩|⟨h1,h2⟩
  ·cases i with
   |val t T=>cases h1
   |own t id' an e k T=>
    simp only[It.id,Qf]at h1;subst h1
    cases an with
    |zero=>
     rw[h2];exact((hrow _ _ _ _ _ _ _ hmem).2.2 rfl).symm
    |succ n=>exact absurd (Ev (iE hmem) rfl) (lM hid.2)
   |box id' an T m=>
    simp only[It.id,Qf]at h1;subst h1;rw[h2];exact(hbox _ _ _ _ _ hmem).1.symm
   |jl id' an e k T=>
    simp only[It.id,Qf]at h1;subst h1
    cases an with
    |zero=>
     rw[h2];exact((hrowb _ _ _ _ _ _ hmem).2 rfl).symm
    |succ n=>exact absurd (Ev (iE hmem) rfl) (lM hid.2)
  ·rw[Qr hid1]at h2;rw[h2,hH id hid1 h1]
 refine⟨h.defers,h.size,fun t=> ?_,fun id hid=> ?_,fun i j b hi hj hli hlj hbi hbj=> ?_,fun id hid=> ?_,h.fr,fun hb hlv hvr=> ?_⟩
 ·show aL _ _ _ (((unpack K S0 J v).env t).pv) _;rcases tO (K:=K) (S0.base J.da) J.items v t with⟨⟨i,d⟩,hmem,h1,h2⟩|⟨_,h2⟩
  ·rw[show(unpack K S0 J v).env t=_ from h2]
   cases i with
   |val t' T=>
    simp only[It.bS,Qf]at h1;subst h1;simp only[Te,q7];have h3:=hpk _ hmem;simp only[MM]at h3;have h4:=OU h3 (h.env t')
    have hg:(cv T d).jR (fun _=>false)=true:=by
     have:=um K d;have h5:=Al K d
     cases hv:cv T d with
     |agg cs=>
      simp only[PV.jR];refine QH.2 fun y hy=> ?_
      cases ha:U.agg T with
      |true=>
       rw[qZ d ha]at hv;injection hv with hv
       rw[<-hv]at hy;have:=K.eU T d y hy;cases y<;>first|rfl|cases this
      |false=>obtain⟨y0,h6,h7⟩:=oP K d ha;have h8:=K.eU T d y0 h7;rw[<-h6,hv]at h8;cases h8
     |c6 cs=>exact absurd hv (h5 cs)
     |bg f cs=>
      exfalso
      cases ha:U.agg T with
      |true=>rw[qZ d ha]at hv;cases hv
      |false=>obtain⟨y,h6,h7⟩:=oP K d ha;have h8:=K.eU T d y h7;rw[<-h6,hv]at h8;cases h8
     |_=>rw[hv]at this;first|rfl|cases this
    exact h4.jR hg hM (fun id hid=>by cases hid)
   |own t' id an e k T=>
    simp only[It.bS,Qf]at h1;subst h1;obtain⟨h3,h4,_⟩:=hrow _ _ _ _ _ _ _ hmem;have h5:=h.env t';have h6:S1.st.env t'= .own id (S1.st.H id).an:=by simp only[aH.st,h3,KV.pv,cm.pv]
    rw[h6]at h5;obtain⟨h7,h8⟩:=h5.jA (show(S1.st.gh L).V id=_ from rfl)
    have hidlt:=hlt id (oW (iE hmem) rfl);have h9:=By (K:=K) (S0.base J.da) J.items v hnd _ hmem id rfl;simp only[Te,KV.pv]
    have hsl:∃ad n c,a.tmps.getD t' undef= .slice ad n c:=by
     generalize a.tmps.getD t' undef=vv at h5
     cases h5 with
     |own _ _ ad n c _ _ _=>exact⟨ad,n,c,rfl⟩
    obtain⟨ad,n,c,hv⟩:=hsl;rw[hv]at h8 ⊢;refine .own _ _ _ _ _ (by simpa only[St.gh,aH.st,hN']using hidlt) ?_ (fun _=>h8)
    simp only[St.gh,aH.st,cm.pv,show(unpack K S0 J v).H id=_ from h9,Hy]
    exact QI _
   |box id an T m=>cases h1
   |jl id an e k T=>cases h1
  ·rw[show(unpack K S0 J v).env t=_ from h2,Ab]
   split
   ·rename_i ht;have h3:=(hkeep t ht).1;rw[<-Ks]at h3;refine aL.jR h3 hM hpok ?_;have:=h.env t;simp only[aH.st,hk t ht]at this;exact this
   ·exact .any _
 ·have hid':id<S0.N:=by simpa only[aH.st,hN']using hid
  show qp _ _ _ _ _ (((unpack K S0 J v).H id).c.pv);rcases hHc id with⟨⟨i,d⟩,hmem,h1,h2⟩|⟨h1,h2⟩
  ·rw[h2]
   cases i with
   |val t T=>cases h1
   |own t id' an e k T=>
    simp only[It.id,Qf]at h1;subst h1;have h3:=(hrow _ _ _ _ _ _ _ hmem).2.1;have h4:(S1.st.H id').c= .row e k (d.map (U.pv T)):=by simp only[aH.st,cm.pv,h3,cZ.pv]
    obtain⟨vs,h5,h6,h7⟩:=h.gK (QJ hid' hN) h4;refine⟨vs,h5,h6,aM.closed ?_ hM h7⟩;refine QH.2 fun y hy=> ?_
    obtain⟨u,hu,hyu⟩:=List.mem_flatten.1 hy;obtain⟨x,_,rfl⟩:=QP.1 hu;exact eM (K.eU T x y hyu)
   |box id' an T m=>
    simp only[It.id,Qf]at h1;subst h1;obtain⟨_,cs,h3,hmk,hcs⟩:=hbox _ _ _ _ _ hmem;have h4:(S1.st.H id').c= .box (cs.map KV.pv):=by simp only[aH.st,cm.pv,h3,cZ.pv]
    obtain⟨b,cur,T',h5,h6,h7,h8⟩:=h.nv (QJ hid' hN) h4;refine⟨b,cur,T',h5,h6,h8,?_,fun i y u hy hu=> ?_⟩
    ·have e1:=congrArg List.length (K.mB T d);rw[QC]at e1;rw[QC,FM,e1,<-hcs.len,yW,h7.1,QC]
    ·rw[QT,Qb]at hy;obtain⟨z,hz,rfl⟩:=hy;rcases FN _ m hz with⟨rid,rver,hmm,rfl⟩|⟨hnm,hz⟩
     ·have hci:=F6 hmk hmm;have h9:=h7.2 i _ u (by rw[QT,hci];rfl) hu
      rw[KV.pv]at h9;obtain⟨h10,h11⟩:=h9.jA (show(S1.st.gh L).V rid=_ from rfl)
      have hmi:(It.box id' an T m)∈J.items:=iE hmem;obtain⟨e,k,T2,hrm⟩:=Gs (QH.1 (hokm _ hmi) _ hmm);have hridlt:=hlt rid (oW hrm rfl)
      have hsl:∃ad n c,u= .slice ad n c:=by
       cases h9 with
       |own _ _ ad n c _ _ _=>exact⟨ad,n,c,rfl⟩
      obtain⟨ad,n,c,hv⟩:=hsl;rw[hv]at h11 ⊢;rw[KV.pv];refine .own _ _ _ _ _ (by simpa only[St.gh,aH.st,hN']using hridlt) ?_ (fun _=>h11)
      obtain⟨d2,hd2⟩:=Kz (v:=v) hrm;have h12:=By (K:=K) (S0.base J.da) J.items v hnd _ hd2 rid rfl;simp only[St.gh,aH.st,cm.pv,show(unpack K S0 J v).H rid=_ from h12,Hy]
      exact QI _
     ·have hzp:(U.pv T d)[i]?=some z.pv:=by rw[<-K.mB,QT,hz];rfl
      have hil:i<cs.length:=by
       have:=(Qw.1 hzp).1;rw[<-hcs.len,yW]at this;exact this
      have hci:cs[i]?=some cs[i]:=Qv hil;have hck:=hcs.get (by rw[Fe m cs hnm];exact hci) hzp
      have h9:=h7.2 i _ u (by rw[QT,hci];rfl) hu
      exact(hck.S6 h9).closed (eM (K.eU T d _ (List.mem_of_getElem? hzp))) hM
   |jl id' an e k T=>
    simp only[It.id,Qf]at h1;subst h1;have h3:=(hrowb _ _ _ _ _ _ hmem).1;have h4:(S1.st.H id').c= .row e k (d.map (U.pv T)):=by simp only[aH.st,cm.pv,h3,cZ.pv]
    obtain⟨vs,h5,h6,h7⟩:=h.gK (QJ hid' hN) h4;refine⟨vs,h5,h6,aM.closed ?_ hM h7⟩;refine QH.2 fun y hy=> ?_
    obtain⟨u,hu,hyu⟩:=List.mem_flatten.1 hy;obtain⟨x,_,rfl⟩:=QP.1 hu;exact eM (K.eU T x y hyu)
  ·rw[h2,Qr hid',<-hH id hid' h1];have ho:=h.obj id (QJ hid' hN);have hc:=GQ hobj id hid';rw[Qn]at hc;have hc:=hc.resolve_left (fun e=>h1 (dq.1 e))
   rw[<-hH id hid' h1]at hc
   change qp _ _ _ _ _ ((S1.H id).c.pv)at ho
   cases hcc:(S1.H id).c with
   |dead=>trivial
   |box cs=>
    rw[hcc]at ho hc;obtain⟨b,cur,T',h5,h6,h7,h8⟩:=ho;refine⟨b,cur,T',h5,h6,h7,h8.1,fun i y u hy hu=> ?_⟩
    simp only[cZ.jR,QH]at hc;rw[QT,Qb]at hy;obtain⟨z,hz,rfl⟩:=hy;refine aL.jR (by rw[Ks];exact hc z (List.mem_of_getElem? hz)) hM hpok (h8.2 i z.pv u (by rw[QT,hz];rfl) hu)
   |raw e k es=>
    rw[hcc]at ho hc;obtain⟨vs,h5,h6,h7⟩:=ho;refine⟨vs,h5,h6,h7.1,fun i y u hy hu=> ?_⟩
    simp only[cZ.jR,QH]at hc;obtain⟨l,hl,hyl⟩:=List.mem_flatten.1 (List.mem_of_getElem? hy);obtain⟨c,hcm,rfl⟩:=QP.1 hl;obtain⟨z,hz,rfl⟩:=QP.1 hyl;exact aL.jR (by rw[Ks];exact hc c hcm z hz) hM hpok (h7.2 i _ u hy hu)
   |row e k T xs=>
    rw[hcc]at ho;obtain⟨vs,h5,h6,h7⟩:=ho;refine⟨vs,h5,h6,aM.closed ?_ hM h7⟩;refine QH.2 fun y hy=> ?_
    obtain⟨u,hu,hyu⟩:=List.mem_flatten.1 hy;obtain⟨x,_,rfl⟩:=QP.1 hu;exact eM (K.eU T x y hyu)
 ·have hi':i<S0.N:=by simpa only[aH.st,hN']using hi
  have hj':j<S0.N:=by simpa only[aH.st,hN']using hj
  exact h.apart i j b (QJ hi' hN) (QJ hj' hN) (hlive i hi' hli) (hlive j hj' hlj) hbi hbj
 ·have hid':S0.N<=id:=by simpa only[aH.st,hN']using hid
  rcases hHc id with⟨⟨i,d⟩,hmem,h1,h2⟩|⟨h1,h2⟩
  ·have:=hlt id (oW (iE hmem) h1);omega
  ·rw[Qs (by omega)]at h2
   simp only[aH.st,h2,cm.pv,cZ.pv]
 ·by_cases h0:0<S0.N
  ·refine h.rS hb (hlive 0 h0 hlv) ?_;simp only[aH.st,cm.pv]at hvr ⊢;rcases hHc 0 with⟨⟨i,d⟩,hmem,h1,h2⟩|⟨h1,h2⟩
   ·rw[h2]at hvr
    cases i with
    |val t T=>cases h1
    |own t id' an e k T=>
     simp only[It.id,Qf]at h1;subst h1;exact(hrow _ _ _ _ _ _ _ hmem).2.2 hvr
    |box id' an T m=>
     simp only[It.id,Qf]at h1;subst h1;rw[(hbox _ _ _ _ _ hmem).1];exact hvr
    |jl id' an e k T=>
     simp only[It.id,Qf]at h1;subst h1;exact(hrowb _ _ _ _ _ _ hmem).2 hvr
   ·rw[Qr h0]at h2;rw[hH 0 h0 h1,<-h2];exact hvr
  ·rcases hHc 0 with⟨⟨i,d⟩,hmem,h1,h2⟩|⟨h1,h2⟩
   ·exact absurd (hlt 0 (oW (iE hmem) h1)) h0
   ·rw[Qs h0]at h2;simp only[aH.st,cm.pv,h2,cZ.pv]at hlv;cases hlv
end
end Go.TQ
end
