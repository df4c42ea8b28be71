/-
  Texts made small by a program (see NOTES). Conditions: those that each theorem names.
-/
import Derived.Test.YtkgenianmdfmdaaGreatMachineOlderMa
import Derived.RangeFuncRecord
set_option linter.unusedVariables false
set_option linter.unusedSimpArgs false
set_option linter.unusedSectionVars false
set_option maxHeartbeats 2000000
noncomputable section
namespace Go.TQ
open Go.RowKit
def aB(P:Program)(nt:Nat)(hs:List Nat):Code->Option SC
 | .skip=>some .skip
 | .region _ ops false=>
  match ops.toList.mapM (sd P hs ops)with
  |some gs=>if ops.toList.all (fun o=>match o.dst with|some t=>decide (t<nt)|none=>true)then some (.rV gs)else none
  |none=>none
 | .region _ ops true=>
  match ops.toList.mapM (sd P hs ops)with
  |some gs=>
   if ops.toList.all (fun o=>match o.dst with|some t=>decide (t<nt)|none=>true)&&P.follows .mixedOrders then
    match Ua ops.toList gs with
    |some un=>some (.qb un gs)
    |none=>none
   else none
  |none=>none
 | .seq x y=>
  match aB P nt hs x,aB P nt hs y with
  |some x',some y'=>some (.seq x' y')
  |_,_=>none
 | .cond c x y=>
  match bf c,aB P nt hs x,aB P nt hs y with
  |some c',some x',some y'=>some (.cond c' x' y')
  |_,_,_=>none
 | .block id c=>(aB P nt hs c).map (.block id)
 | .loop c=>(aB P nt hs c).map .loop
 | .exit id=>some (.exit id)
 | .ret=>some .ret
 | .rangeFunc g ps x y=>
  match bf g,aB P nt hs x,aB P nt hs y with
  |some g',some x',some y'=>if xi x&&xi y&&ps.toList.all (fun t=>decide (t<nt))then some (.Ba g' ps.toList x' y')else none
  |_,_,_=>none
 |_=>none
section
variable {P : Program} {S : St} {Γ : mn} {nt : Nat} {Q : Exit -> St -> Prop}
def VS(P:Program)(nt:Nat)(sc:SC)(Q:Exit->St->Prop)(S:St):Prop:=∀c hs,aB P nt hs c=some sc->V P nt c Q S
theorem VS.mono{sc:SC}{Q':Exit->St->Prop}(h:VS P nt sc Q S)(hq:∀e S,Q e S->Q' e S):VS P nt sc Q' S:=fun c hs hc=>(h c hs hc).mono hq
theorem J4{ops:Array Oper}(h:ops.toList.all (fun o=>match o.dst with|some t=>decide (t<nt)|none=>true)=true):∀o∈ops.toList,∀t,o.dst=some t->t<nt:=by
 intro o ho t ht;have:=QH.1 h o ho;rw[ht]at this;simpa using this
theorem SS(h:Q .normal S):VS P nt .skip Q S:=by
 intro c hs hc
 cases c with
 |skip=>exact aaA h
 |region id ops d=>cases d<;>simp only[aB]at hc<;>(try split at hc)<;>(try split at hc)<;>(try split at hc)<;>cases hc
 |seq x y=>simp only[aB]at hc;split at hc<;>cases hc
 |cond c x y=>simp only[aB]at hc;split at hc<;>cases hc
 |block id c=>simp only[aB,Qb]at hc;obtain⟨_,_,hc⟩:=hc;cases hc
 |loop c=>simp only[aB,Qb]at hc;obtain⟨_,_,hc⟩:=hc;cases hc
 |rangeFunc g ps x y=>simp only[aB]at hc;split at hc<;>(try split at hc)<;>cases hc
 |_=>simp only[aB]at hc<;>cases hc
theorem SU{id:Nat}(h:Q (.exit id) S):VS P nt (.exit id) Q S:=by
 intro c hs hc
 cases c with
 |exit j=>simp only[aB,Qf,SC.exit.injEq]at hc;subst hc;exact aaC h
 |region id ops d=>cases d<;>simp only[aB]at hc<;>(try split at hc)<;>(try split at hc)<;>(try split at hc)<;>cases hc
 |seq x y=>simp only[aB]at hc;split at hc<;>cases hc
 |cond c x y=>simp only[aB]at hc;split at hc<;>cases hc
 |block id c=>simp only[aB,Qb]at hc;obtain⟨_,_,hc⟩:=hc;cases hc
 |loop c=>simp only[aB,Qb]at hc;obtain⟨_,_,hc⟩:=hc;cases hc
 |rangeFunc g ps x y=>simp only[aB]at hc;split at hc<;>(try split at hc)<;>cases hc
 |_=>simp only[aB]at hc<;>cases hc
theorem VM(h:Q .ret S):VS P nt .ret Q S:=by
 intro c hs hc
 cases c with
 |ret=>exact abH h
 |region id ops d=>cases d<;>simp only[aB]at hc<;>(try split at hc)<;>(try split at hc)<;>(try split at hc)<;>cases hc
 |seq x y=>simp only[aB]at hc;split at hc<;>cases hc
 |cond c x y=>simp only[aB]at hc;split at hc<;>cases hc
 |block id c=>simp only[aB,Qb]at hc;obtain⟨_,_,hc⟩:=hc;cases hc
 |loop c=>simp only[aB,Qb]at hc;obtain⟨_,_,hc⟩:=hc;cases hc
 |rangeFunc g ps x y=>simp only[aB]at hc;split at hc<;>(try split at hc)<;>cases hc
 |_=>simp only[aB]at hc<;>cases hc
theorem Q7{x y:SC}(h:VS P nt x (KC (VS P nt y Q) Q) S):VS P nt (.seq x y) Q S:=by
 intro c hs hc
 cases c with
 |seq p q=>
  simp only[aB]at hc;split at hc
  ·rename_i x' y' hx hy;injection hc with hc
   injection hc with h1 h2
   subst h1 h2;refine abG ((h p hs hx).mono ?_);intro e S' hq;cases e<;>first|exact hq q hs hy|exact hq
  ·cases hc
 |region id ops d=>cases d<;>simp only[aB]at hc<;>(try split at hc)<;>(try split at hc)<;>(try split at hc)<;>cases hc
 |cond c x y=>simp only[aB]at hc;split at hc<;>cases hc
 |block id c=>simp only[aB,Qb]at hc;obtain⟨_,_,hc⟩:=hc;cases hc
 |loop c=>simp only[aB,Qb]at hc;obtain⟨_,_,hc⟩:=hc;cases hc
 |rangeFunc g ps x y=>simp only[aB]at hc;split at hc<;>(try split at hc)<;>cases hc
 |_=>simp only[aB]at hc<;>cases hc
theorem SV{c:aX}{x y:SC}{b:Bool}(hb:c.val S= .bool b)(h:VS P nt (if b then x else y) Q S):VS P nt (.cond c x y) Q S:=by
 intro cc hs hc
 cases cc with
 |cond c0 p q=>
  simp only[aB]at hc;split at hc
  ·rename_i c' x' y' hc' hx hy;injection hc with hc
   injection hc with h1 h2 h3
   subst h1 h2 h3;refine aaD hc' hb ?_;cases b
   ·exact h q hs hy
   ·exact h p hs hx
  ·cases hc
 |region id ops d=>cases d<;>simp only[aB]at hc<;>(try split at hc)<;>(try split at hc)<;>(try split at hc)<;>cases hc
 |seq x y=>simp only[aB]at hc;split at hc<;>cases hc
 |block id c=>simp only[aB,Qb]at hc;obtain⟨_,_,hc⟩:=hc;cases hc
 |loop c=>simp only[aB,Qb]at hc;obtain⟨_,_,hc⟩:=hc;cases hc
 |rangeFunc g ps x y=>simp only[aB]at hc;split at hc<;>(try split at hc)<;>cases hc
 |_=>simp only[aB]at hc<;>cases hc
theorem Q9{c:aX}{x y:SC}(hb:c.val S= .fD)(h1:VS P nt x Q S)(h2:VS P nt y Q S):VS P nt (.cond c x y) Q S:=by
 intro cc hs hc
 cases cc with
 |cond c0 p q=>
  simp only[aB]at hc;split at hc
  ·rename_i c' x' y' hc' hx hy;injection hc with hc
   injection hc with e1 e2 e3
   subst e1 e2 e3;intro E hE hk a w L hr;have hv:=hr.gl hc';rw[hb]at hv;generalize hu:a.eval c0=u at hv
   cases hv with
   |fD b=>
    refine wpIn_cond hu ?_;cases b
    ·exact h2 q hs hy E hE hk.XV a w L hr
    ·exact h1 p hs hx E hE hk.XW a w L hr
  ·cases hc
 |region id ops d=>cases d<;>simp only[aB]at hc<;>(try split at hc)<;>(try split at hc)<;>(try split at hc)<;>cases hc
 |seq x y=>simp only[aB]at hc;split at hc<;>cases hc
 |block id c=>simp only[aB,Qb]at hc;obtain⟨_,_,hc⟩:=hc;cases hc
 |loop c=>simp only[aB,Qb]at hc;obtain⟨_,_,hc⟩:=hc;cases hc
 |rangeFunc g ps x y=>simp only[aB]at hc;split at hc<;>(try split at hc)<;>cases hc
 |_=>simp only[aB]at hc<;>cases hc
theorem Ra{id:Nat}{x:SC}(h:VS P nt x (BC id Q) S):VS P nt (.block id x) Q S:=by
 intro c hs hc
 cases c with
 |block j p=>
  simp only[aB,Qb]at hc;obtain⟨x',hx,hc⟩:=hc;injection hc with h1 h2
  subst h1 h2;exact Zu (h p hs hx)
 |region id ops d=>cases d<;>simp only[aB]at hc<;>(try split at hc)<;>(try split at hc)<;>(try split at hc)<;>cases hc
 |seq x y=>simp only[aB]at hc;split at hc<;>cases hc
 |cond c x y=>simp only[aB]at hc;split at hc<;>cases hc
 |loop c=>simp only[aB,Qb]at hc;obtain⟨_,_,hc⟩:=hc;cases hc
 |rangeFunc g ps x y=>simp only[aB]at hc;split at hc<;>(try split at hc)<;>cases hc
 |_=>simp only[aB]at hc<;>cases hc
theorem acR{x:SC}(ts:List Nat)(n:Nat)(I:Nat->St->Prop)(m0:Nat)(hok:Ab S ts n)(h0:I m0 (S.cut ts n))
  (hr:∀m S,I m S->S.N=n->(∀id,n<=id->S.H id=⟨0,.dead⟩)->(∀id,id<n->(S.H id).c.under n=true)->VS P nt x (TG ts n I m Q) S):VS P nt (.loop x) Q S:=by
 intro c hs hc
 cases c with
 |loop p=>
  simp only[aB,Qb]at hc;obtain⟨x',hx,hc⟩:=hc;injection hc with h1
  subst h1;exact aaB ts n I m0 hok h0 (fun m S hI hN hf hU=>hr m S hI hN hf hU p hs hx)
 |region id ops d=>cases d<;>simp only[aB]at hc<;>(try split at hc)<;>(try split at hc)<;>(try split at hc)<;>cases hc
 |seq x y=>simp only[aB]at hc;split at hc<;>cases hc
 |cond c x y=>simp only[aB]at hc;split at hc<;>cases hc
 |block id c=>simp only[aB,Qb]at hc;obtain⟨_,_,hc⟩:=hc;cases hc
 |rangeFunc g ps x y=>simp only[aB]at hc;split at hc<;>(try split at hc)<;>cases hc
 |_=>simp only[aB]at hc<;>cases hc
theorem aaF(hΓ:jx P Γ){gs:List SG}{S':St}(hr:uK Γ S.N gs {S with N:=S.N+gs.length}=some S')(h:Q .normal S'):VS P nt (.rV gs) Q S:=by
 intro c hs hc
 cases c with
 |region id ops d=>
  cases d with
  |true=>simp only[aB]at hc;(try split at hc)<;>(try split at hc)<;>(try split at hc)<;>cases hc
  |false=>
   simp only[aB]at hc;split at hc
   ·rename_i gs' hgs;split at hc
    ·rename_i hd;injection hc with hc
     injection hc with hc
     subst hc;exact abI hΓ hgs (J4 hd) hr h
    ·cases hc
   ·cases hc
 |seq x y=>simp only[aB]at hc;split at hc<;>cases hc
 |cond c x y=>simp only[aB]at hc;split at hc<;>cases hc
 |block id c=>simp only[aB,Qb]at hc;obtain⟨_,_,hc⟩:=hc;cases hc
 |loop c=>simp only[aB,Qb]at hc;obtain⟨_,_,hc⟩:=hc;cases hc
 |rangeFunc g ps x y=>simp only[aB]at hc;split at hc<;>(try split at hc)<;>cases hc
 |_=>simp only[aB]at hc<;>cases hc
theorem VN{Γs:Nat->mn}(hΓ:∀i,jx P (Γs i)){un:List (Nat×Nat)}{gs:List SG}{S':St}(hr:KZ Γs S.N un gs {S with N:=S.N+gs.length}=some S')(h:Q .normal S'):VS P nt (.qb un gs) Q S:=by
 intro c hs hc
 cases c with
 |region id ops d=>
  cases d with
  |false=>simp only[aB]at hc;(try split at hc)<;>(try split at hc)<;>(try split at hc)<;>cases hc
  |true=>
   simp only[aB]at hc;split at hc
   ·rename_i gs' hgs;split at hc
    ·rename_i hd;split at hc
     ·rename_i un' hun;injection hc with hc
      injection hc with h1 h2
      subst h1 h2;rw[Qm]at hd;exact abJ hΓ hd.2 hgs (J4 hd.1) hun hr h
     ·cases hc
    ·cases hc
   ·cases hc
 |seq x y=>simp only[aB]at hc;split at hc<;>cases hc
 |cond c x y=>simp only[aB]at hc;split at hc<;>cases hc
 |block id c=>simp only[aB,Qb]at hc;obtain⟨_,_,hc⟩:=hc;cases hc
 |loop c=>simp only[aB,Qb]at hc;obtain⟨_,_,hc⟩:=hc;cases hc
 |rangeFunc g ps x y=>simp only[aB]at hc;split at hc<;>(try split at hc)<;>cases hc
 |_=>simp only[aB]at hc<;>cases hc
theorem acZ{sc:SC}(ts:List Nat)(n:Nat)(hok:Ab S ts n)(h:VS P nt sc Q (S.cut ts n)):VS P nt sc Q S:=fun c hs hc=>abK ts n hok (h c hs hc)
def ev(P:Program)(nt:Nat)(Γ:mn):SC->(Exit->St->Prop)->St->Prop
 | .skip,Q,S=>Q .normal S
 | .rV gs,Q,S=>match uK Γ S.N gs {S with N:=S.N+gs.length}with|some S'=>Q .normal S'|none=>False
 | .qb un gs,Q,S=>match KZ (fun _=>Γ) S.N un gs {S with N:=S.N+gs.length}with|some S'=>Q .normal S'|none=>False
 | .seq x y,Q,S=>ev P nt Γ x (KC (ev P nt Γ y Q) Q) S
 | .cond c x y,Q,S=>match c.val S with| .bool b=>(b=true->ev P nt Γ x Q S)/\(b=false->ev P nt Γ y Q S)| .fD=>ev P nt Γ x Q S/\ev P nt Γ y Q S|_=>False
 | .block id c,Q,S=>ev P nt Γ c (BC id Q) S
 | .loop c,Q,S=>VS P nt (.loop c) Q S
 | .Ba g ps x y,Q,S=>VS P nt (.Ba g ps x y) Q S
 | .exit id,Q,S=>Q (.exit id) S
 | .ret,Q,S=>Q .ret S
theorem tO(hΓ:jx P Γ):∀(sc:SC) (Q:Exit->St->Prop) (S:St),ev P nt Γ sc Q S->VS P nt sc Q S
 | .skip,Q,S,h=>SS h
 | .rV gs,Q,S,h=>by
  simp only[ev]at h;split at h
  ·rename_i S' hr;exact aaF hΓ hr h
  ·exact h.elim
 | .qb un gs,Q,S,h=>by
  simp only[ev]at h;split at h
  ·rename_i S' hr;exact VN (fun _=>hΓ) hr h
  ·exact h.elim
 | .seq x y,Q,S,h=>Q7 ((tO hΓ x _ S h).mono fun e S' hq=>by cases e<;>first|exact tO hΓ y Q S' hq|exact hq)
 | .cond c x y,Q,S,h=>by
  simp only[ev]at h;split at h
  ·rename_i b hb;refine SV hb ?_;cases b
   ·exact tO hΓ y Q S (h.2 rfl)
   ·exact tO hΓ x Q S (h.1 rfl)
  ·rename_i hb;exact Q9 hb (tO hΓ x Q S h.1) (tO hΓ y Q S h.2)
  ·exact h.elim
 | .block id c,Q,S,h=>Ra (tO hΓ c _ S h)
 | .loop c,Q,S,h=>h
 | .Ba g ps x y,Q,S,h=>h
 | .exit id,Q,S,h=>SU h
 | .ret,Q,S,h=>VM h
inductive RV where
 |tmp (t:Nat)
 |cell (t:Nat) (n:Option Nat)
def mL(P:Program):List ResultVar->Option (List RV)
 |[]=>some []
 | .tmp t::rs=>(mL P rs).map (.tmp t::·)
 | .cell t ty::rs=>match pO P ty,mL P rs with
  |some n,some rs'=>some (.cell t n::rs')
  |_,_=>none
def yz(S:St):RV->Option PV
 | .tmp t=>some (S.env t)
 | .cell t n=>match S.env t with
  | .ptr id aq off=>if(S.H id).aq=aq then(match(S.H id).c with| .box cs=>pZ n (cs.drop off)|_=>none)else none
  |_=>none
def tB(S:St):List RV->Option (List PV)
 |[]=>some []
 |r::rs=>match yz S r,tB S rs with
  |some x,some xs=>some (x::xs)
  |_,_=>none
def pX(S:St)(rs:List RV):Option PV:=
 match tB S rs with
 |some [x]=>some x
 |some xs=>some (.dx xs)
 |none=>none
def dt(pos:Nat)(recv:Bool)(cs args:List PV):St:=
 {env:=fun t=>((gy pos (if recv then[.ptr 0 0 0]else[]) args)[t]?).getD .undef,H:=fun id=>if recv=true/\id=0 then⟨0,.box cs⟩else⟨0,.dead⟩,N:=if recv then 1 else 0}
abbrev St0:=dt 0
theorem Pg{α:Type}(p:Nat)(x l:List α):(gy p x l).length=x.length+l.length:=by
 simp only[gy,QB,List.length_take,List.length_drop];omega
def xK(rs:List RV)(recv:Bool)(R:PV->List PV->Prop)(S:St):Prop:=
 match pX S rs with
 |some x=>match recv with
  |true=>match S.H 0 with
   |⟨0,.box cs'⟩=>cs'.all PV.closed=true/\R (fz S.H (some 0) 9 x) cs'
   |_=>False
  |false=>R (fz S.H none 9 x) []
 |none=>False
def V9(rs:List RV)(recv:Bool)(R:PV->List PV->Prop):Exit->St->Prop
 | .ret,S=>xK rs recv R S
 | .normal,S=>xK rs recv R S
 |_,_=>False
theorem Rw{E:En}{a:Act}{w:World}{L:Nat->Value}(h:Rel E S a w L){rv:ResultVar}{r:RV}{x:PV}(hc:mL P [rv]=some [r])(hx:yz S r=some x):
  ∃v,(match rv with| .tmp t=>pure (a.tmps.getD t undef)| .cell ad t=>do loadVar t (<-asAddr (a.tmps.getD ad undef)):Sem Value).run P w= .ok v w/\aS w (aZ E S L) (S.gh L) x v:=by
 cases rv with
 |tmp t=>
  simp only[mL,Qe,Qf,List.cons.injEq,and_true]at hc;subst hc;simp only[yz,Qf]at hx;subst hx;exact⟨_,rfl,h.env t⟩
 |cell t ty=>
  simp only[mL]at hc;split at hc
  ·rename_i n rs' hn hrs;injection hc with hc
   injection hc with h1 h2
   subst h1 h2;simp only[yz]at hx;split at hx
   ·rename_i id aq off e;split at hx
    ·rename_i hver;split at hx
     ·rename_i cs hcc;have r:=h.env t;rw[e]at r;obtain⟨hN,_⟩:=r.pD (show(S.gh L).V id=aq from hver)
      obtain⟨b,hv,hL⟩:=h.qt r hver hcc;obtain⟨b',cur,T,hL',hh,hr,_⟩:=h.pr hN hcc;rw[hL]at hL';simp only[Value.pointer.injEq,Qf,Addr.mk.injEq]at hL';obtain⟨rfl,_⟩:=hL';obtain⟨v,hrun,hx'⟩:=Fp (P:=P) (ad:=⟨b,off,none⟩) hn (hr.drop off) (fun i u hu=>by rw[add_mid];exact nm hh (fM hu)) hx
      exact⟨v,by simp[hv,asAddr,hrun],hx'⟩
     ·cases hx
    ·cases hx
   ·cases hx
  ·cases hc
theorem D9{E:En}{a:Act}{w:World}{L:Nat->Value}(h:Rel E S a w L):∀(rvs:List ResultVar) (rs:List RV) (xs:List PV),mL P rvs=some rs->tB S rs=some xs->
  ∃vs,(rvs.mapM fun| .tmp t=>pure (a.tmps.getD t undef)| .cell ad t=>do loadVar t (<-asAddr (a.tmps.getD ad undef)):Sem (List Value)).run P w= .ok vs w/\aT w (aZ E S L) (S.gh L) xs vs
 |[],rs,xs,hc,hx=>by
  simp only[mL,Qf]at hc;subst hc;simp only[tB,Qf]at hx;subst hx;exact⟨[],by simp,.nil⟩
 |rv::rvs,rs,xs,hc,hx=>by
  have hsp:∃r rs',rs=r::rs'/\mL P [rv]=some [r]/\mL P rvs=some rs':=by
   cases rv with
   |tmp t=>
    simp only[mL,Qb]at hc;obtain⟨rs',h1,rfl⟩:=hc;exact⟨_,rs',rfl,rfl,h1⟩
   |cell t ty=>
    simp only[mL]at hc;split at hc
    ·rename_i n rs' hn hrs;injection hc with hc
     subst hc;exact⟨_,rs',rfl,by simp[mL,hn],hrs⟩
    ·cases hc
  obtain⟨r,rs',rfl,h1,h2⟩:=hsp;simp only[tB]at hx;split at hx
  ·rename_i x xs' hx1 hx2;injection hx with hx
   subst hx;obtain⟨v,hv,hr⟩:=Rw h h1 hx1;obtain⟨vs,hvs,hrs⟩:=D9 h rvs rs' xs' h2 hx2;refine⟨v::vs,?_,.cons hr hrs⟩;simp only[List.mapM_cons,Sem.run_bind]
   erw [hv]
   simp only[Result.andThen_ok]
   erw [hvs]
   rfl
  ·cases hx
theorem wz{E:En}{a:Act}{w:World}{L:Nat->Value}(h:Rel E S a w L){fn:Func}{rs:List RV}{x:PV}(hc:mL P fn.results.toList=some rs)(hx:pX S rs=some x):
  ∃v,(results fn a.tmps).run P w= .ok v w/\aS w (aZ E S L) (S.gh L) x v:=by
 unfold pX at hx
 cases hl:tB S rs with
 |none=>rw[hl]at hx;cases hx
 |some xs=>
  rw[hl]at hx;obtain⟨vs,hvs,hr⟩:=D9 h _ _ _ hc hl
  have hrun:(results fn a.tmps).run P w= .ok (if h:vs.toArray.size=1 then vs.toArray[0]else .tuple vs.toArray) w:=by
   unfold results;rw[Array.mapM_eq_mapM_toList];simp only[Sem.run_bind,map_eq_pure_bind]
   erw [hvs]
   rfl
  refine⟨_,hrun,?_⟩
  match xs,vs,hr,hx with
  |[],vs,hr,hx=>
   injection hx with hx
   subst hx;have:=hr.lU;subst this;exact .dx _ _ hr.1 hr.2
  |[y],vs,hr,hx=>
   injection hx with hx
   subst hx;obtain⟨v,vs',rfl,h1,h2⟩:=hr.cons_inv;have:=h2.lU;subst this;exact h1
  |y::z::ys,vs,hr,hx=>
   injection hx with hx
   subst hx;obtain⟨v,vs',rfl,h1,h2⟩:=hr.cons_inv;obtain⟨u,us,rfl,h3,h4⟩:=h2.cons_inv;rw[dif_neg (by simp)]
   exact .dx _ _ hr.1 hr.2
theorem yd{w w':World}(h:w.heap=#[]):xx w w':=⟨by rw[h];exact QS _,fun k o hk _=>by rw[h]at hk;simp at hk⟩
theorem Rel.shut{E:En}{S:St}{a:Act}{w:World}{L:Nat->Value}(h:Rel E S a w L)(hwk:E.wk.heap=#[]){d:Deferred}{ds:List Deferred}(hd:a.defers=d::ds):
  ∃D w',d.target= .collected D/\(Instr.takeDeferred D).run P w= .ok [] w'/\Rel E S {a with defers:=ds} w' L:=by
 have hnd:=h.defers.nodup;rw[hd,List.nodup_cons]at hnd;obtain⟨D,h1,h2,h3⟩:=h.defers.at_ d (by rw[hd];exact Qx)
 have hoth:∀k,k≠D->(w.putObj D (.deferred none)).heap[k]?=w.heap[k]?:=fun k hk=>World.putObj_heap_other hk
 have hcell:∀(p:Addr) (v:Value),w.cell? p=some v->p.block≠D:=by
  intro p v hp e;unfold World.cell? at hp;rw[e,h3]at hp;simp at hp
 have hs:dq w (w.putObj D (.deferred none)) (aZ E S L) (aZ E S L):=⟨fun p v hp hm=>⟨(World.cell?_of_block (hoth _ (hcell p v hp))).trans hp,hm⟩,fun b es ck hb hm=>⟨(hoth b (fun e=>by rw[e,h3]at hb;cases hb)).trans hb,hm⟩⟩
 have hne:∀id b,id<S.N->(S.H id).c.live=true->bO (L id)=some b->b≠D:=by
  intro id b hid hl hb e;obtain⟨o,h4,h5⟩:=(h.obj id hid).cells hl hb;rw[e,h3]at h4;injection h4 with h4
  rw[<-h4]at h5;cases h5
 refine⟨D,w.putObj D (.deferred none),by rw[h1],run_takeDeferred h3,⟨fun e=>(by have:=h.defers.none e;rw[hd]at this;cases this),hnd.2,fun d' hd'=> ?_⟩,h.size,fun t=>(h.env t).mono hs (Gh.le.refl _),fun id hid=> ?_,h.apart,h.fresh,
  ⟨⟨h.fr.os,h.fr.tape,h.fr.output,by rw[World.putObj_size];exact h.fr.size,fun b hb hr=>by rw[hoth b (by omega)];exact h.fr.block b hb hr,h.fr.drawn⟩,yd hwk⟩,h.uM⟩
 ·obtain⟨D',h4,h5,h6⟩:=h.defers.at_ d' (by rw[hd];exact Qy _ hd')
  have hDD:D'≠D:=by
   intro e;subst e;rw[<-h1]at h4;exact hnd.1 (h4▸hd')
  exact⟨D',h4,h5,by rw[hoth _ hDD];exact h6⟩
 ·cases hl:(S.H id).c.live with
  |false=>
   cases hc:(S.H id).c with
   |dead=>trivial
   |box cs=>rw[hc]at hl;cases hl
   |row e k es=>rw[hc]at hl;cases hl
  |true=>exact(h.obj id hid).mono hs (Gh.le.refl _) (fun b hb _=>hoth b (hne id b hid hl hb))
theorem GD{E:En}{S:St}{L:Nat->Value}(hwk:E.wk.heap=#[]){fn:Func}{R:Ending->World->Prop}{tmps:Array Value}(hR:∀w',Rel E S {tmps:=tmps,defers:=[]} w' L->∃v,(results fn tmps).run P w'= .ok v w'/\R (.returned v) w'):
  ∀(ds:List Deferred) (w:World),Rel E S {tmps:=tmps,defers:=ds} w L->LeavesInM (WF none) 0 P fn tmps R ds .returning w
 |[],w,h=>hR w h
 |d::ds,w,h=>by
  obtain⟨D,w',h1,h2,h3⟩:=Rel.shut (P:=P) h hwk rfl;exact⟨(fun e=>by cases e),.inl ⟨D,w',h1,h2,GD hwk hR ds w' h3⟩⟩
theorem w9{f:FuncId}{fn:Func}{c:Code}{E:En}{S0:St}{Q:Exit->St->Prop}{args:Array Value}{w:World}{L:Nat->Value}{R:Ending->World->Prop}(hf:P.funcs[f]?=some fn)(hb:fn.body=some c)(h:V P fn.ntmps c Q S0)
  (hE:E.nt=fn.ntmps) (hrd:E.rd=none/\E.nd=false) (hkt:∀t,E.kt t=none) (hwk:E.wk.heap=#[]) (hrel:Rel E S0 {tmps:=args++Array.replicate (fn.ntmps - args.size) undef,defers:=[]} w L)
  (fin:∀(e:Exit) (S':St) (L':Nat->Value) (a':Act) (w':World),Rel E S' a' w' L'->Q e S'->(e= .ret\/e= .normal)/\∃v,(results fn a'.tmps).run P w'= .ok v w'/\R (.returned v) w'):Calls P f args w R:=by
 have h0:=h E hE ⟨fun t _=>hkt t,.inl hrd⟩ _ w L hrel
 rw[hrd.1]at h0;refine Ka.1 (callsIn_of_wp_marks (F:=WF none) (n:=0) hf hb trivial (wpIn_mono h0 ?_));rintro e a' w' ⟨S',L',h1,h2⟩
 have h3:LeavesInM (WF none) 0 P fn a'.tmps R a'.defers .returning w':=
  GD hwk (fun w'' hw''=>(fin e S' L' _ w'' hw'' h2).2) a'.defers w' h1
 rcases(fin e S' L' a' w' h1 h2).1 with rfl|rfl<;>exact h3
theorem Vt{f:FuncId}{fn:Func}{c:Code}{sc:SC}{rs:List RV}{pos:Nat}{recv:Bool}{cs args cs':List PV}{r:PV}(hf:P.funcs[f]?=some fn)(hb:fn.body=some c){hs:List Nat}(hc:aB P fn.ntmps hs c=some sc)(hrs:mL P fn.results.toList=some rs)
  (hlen:(if recv then 1 else 0)+args.length<=fn.ntmps) (h:VS P fn.ntmps sc (V9 rs recv fun r' cs''=>r'=r/\(recv=true->cs''=cs')) (dt pos recv cs args)):FH P f pos recv cs args r cs':=by
 intro w X hX rb T rvs vs hrecv hargs
 have hrb0:∀b,(if recv then some rb else none)=some b->b<w.heap.size:=by
  intro b hb
  cases recv with
  |false=>cases hb
  |true=>
   simp only[Qt,Qf]at hb;subst hb;exact(Array.getElem?_eq_some_iff.1 (hrecv rfl).1).1
 let E:En:={w0:=w,rb:=if recv then some rb else none,nt:=fn.ntmps,X:=X,hX:=hX,HR:=recv,rv:= .pointer (some ⟨rb,0,none⟩),rk:=false,JL:=hrb0,Pk:=fun h=>(by cases h),rd:=none,nd:=false,kt:=fun _=>none,wk:={w with heap:=#[]}}
 let L:Nat->Value:=fun _=> .pointer (some ⟨rb,0,none⟩)
 have hvl:vs.length=args.length:=hargs.1
 have hm:∀b,aZ E (dt pos recv cs args) L b->Mc recv rb X b:=by
  rintro b (⟨id,hid,hl,hb⟩|hb)
  ·simp only[dt]at hid hl
   cases recv with
   |false=>simp at hid
   |true=>
    simp only[L,bO,Qf]at hb;exact .inl ⟨rfl,hb.symm⟩
  ·exact .inr hb
 have hm':∀b,Mc recv rb X b->aZ E (dt pos recv cs args) L b:=by
  rintro b (⟨h1,h2⟩|hb)
  ·subst h2;exact .inl ⟨0,by simp[dt,h1],by simp[dt,h1,tZ.live],rfl⟩
  ·exact .inr hb
 have hst:dq w w (Mc recv rb X) (aZ E (dt pos recv cs args) L):=(dq.of fun _ hn=>fun h'=>hn (hm _ h'))
 have hrel:Rel E (dt pos recv cs args) {tmps:=(gy pos (pY recv rb) vs).toArray++Array.replicate (fn.ntmps - (gy pos (pY recv rb) vs).toArray.size) undef,defers:=[]} w L:=by
  refine⟨Marks.nil rfl,⟨?_,fun t v hv=>by cases hv⟩,fun t=> ?_,fun id hid=> ?_,fun i j b hi hj _ _ _ _=> ?_,fun id hid=> ?_,⟨Fr.refl _ _,yd rfl⟩,fun _ _ _=>rfl⟩
  ·cases recv<;>simp[pY,E,Pg]at hlen ⊢<;>omega
  ·have hget:(((gy pos (pY recv rb) vs).toArray++Array.replicate (fn.ntmps - (gy pos (pY recv rb) vs).toArray.size) undef).getD t undef)=((gy pos (pY recv rb) vs)[t]?).getD undef:=by
    rw[QN,Array.getElem?_append]
    by_cases ht:t<(gy pos (pY recv rb) vs).toArray.size
    ·rw[Qr ht];simp
    ·rw[Qs ht,Array.getElem?_replicate];have hn:(gy pos (pY recv rb) vs)[t]?=none:=List.getElem?_eq_none (by simpa using ht)
     rw[hn];split<;>rfl
   simp only;rw[hget]
   have hall:aT w (aZ E (dt pos recv cs args) L) ((dt pos recv cs args).gh L) (gy pos (if recv then[.ptr 0 0 0]else[]) args) (gy pos (pY recv rb) vs):=by
    have ha:=hargs.mono hst (cJ.le ((dt pos recv cs args).gh L));refine((ha.take pos).append ?_).append (ha.drop pos)
    cases recv with
    |false=>exact .nil
    |true=>
     simp only[pY,Qt];exact .cons (.ptr _ _ _ _ (by simp[St.gh,dt]) (QS _) (fun _=>by simp[St.gh,L,bO])) .nil
   show aS w _ _ (((gy pos (if recv then[.ptr 0 0 0]else[]) args:List PV)[t]?).getD .undef) _
   cases hx:(gy pos (if recv then[.ptr 0 0 0]else[]) args:List PV)[t]? with
   |none=>
    have:(gy pos (pY recv rb) vs)[t]?=none:=by
     rw[List.getElem?_eq_none_iff]at hx ⊢;rw[hall.1];exact hx
    rw[this];exact .undef
   |some x=>
    obtain⟨v,hv,hr⟩:=hall.get hx;rw[hv];exact hr
  ·cases recv with
   |false=>simp[dt]at hid
   |true=>
    simp[dt]at hid;subst hid;obtain⟨h1,h2⟩:=hrecv rfl;have e:((dt pos true cs args).H 0).c= .box cs:=by simp[dt]
    rw[e];exact⟨rb,rvs.toArray,T,rfl,h1,.inl (by simp[E]),by simpa using h2.mono hst (cJ.le ((dt pos true cs args).gh L))⟩
  ·cases recv with
   |false=>simp[dt]at hi
   |true=>simp[dt]at hi hj;omega
  ·cases recv with
   |false=>simp[dt]
   |true=>simp[dt]at hid ⊢;omega
 have fin:∀(S':St) (L':Nat->Value) (a':Act) (w':World),Rel E S' a' w' L'->xK rs recv (fun r' cs''=>r'=r/\(recv=true->cs''=cs')) S'->
   ∃v,(results fn a'.tmps).run P w'= .ok v w'/\SY recv rb X w r cs' (.returned v) w':=by
  intro S' L' a' w' h' hret;unfold xK at hret;split at hret
  ·rename_i x hx;obtain⟨v,hv,hrep⟩:=wz h' hrs hx;refine⟨v,hv,?_⟩
   cases recv with
   |false=>
    simp only[Qq,false_implies,and_true]at hret;subst hret;refine⟨v,[],rfl,?_,(fun hq=>by cases hq),h'.fr.toFr⟩
    refine h'.fz (fun b hb=> ?_) (fun id b hid hl _ hb hq=> ?_) 9 hrep
    ·rcases hb with⟨hb,_⟩|hb
     ·cases hb
     ·exact .inr hb
    ·rcases hq with⟨hq,_⟩|hq
     ·cases hq
     ·rcases((h'.obj id hid).sW hl hb).2 with h1|h1
      ·simp[E]at h1
      ·have:=hX b hq;simp only[E]at h1;omega
   |true=>
    simp only at hret;split at hret
    ·rename_i cs'' hH;obtain⟨hcl,rfl,hcs⟩:=hret;have hcs:=hcs trivial;subst hcs
     have hN0:0<S'.N:=by
      rcases Nat.eq_zero_or_pos S'.N with h0|h0
      ·have:=h'.fresh 0 (by omega)
       rw[hH]at this;cases this
      ·exact h0
     have hL0:L' 0= .pointer (some ⟨rb,0,none⟩):=h'.uM rfl (by rw[hH];rfl) (by rw[hH])
     obtain⟨b,cur,T',hL',hh,hr,_⟩:=h'.pr hN0 (show(S'.H 0).c= .box cs'' by rw[hH])
     rw[hL0]at hL';simp only[Value.pointer.injEq,Qf,Addr.mk.injEq]at hL';obtain⟨rfl,_⟩:=hL'
     have hsub:∀q,Mc true rb X q->aZ E S' L' q:=by
      rintro q (⟨_,rfl⟩|hq)
      ·exact .inl ⟨0,hN0,by rw[hH];rfl,by rw[hL0];rfl⟩
      ·exact .inr hq
     refine⟨v,cur.toList,rfl,?_,fun _=>⟨?_,hr.closed hcl hsub⟩,h'.fr.toFr⟩
     ·refine h'.fz hsub (fun id b hid hl hne hb hq=> ?_) 9 hrep
      have hnb:b≠rb:=fun e=>hne (by rw[h'.apart id 0 b hid hN0 hl (by rw[hH];rfl) hb (by rw[hL0,e];rfl)])
      rcases hq with⟨_,hq⟩|hq
      ·exact hnb hq
      ·rcases((h'.obj id hid).sW hl hb).2 with h1|h1
       ·simp only[E,Qt,Qf]at h1;exact hnb h1.symm
       ·have:=hX b hq;simp only[E]at h1;omega
     ·exact⟨T',by simpa using hh⟩
    ·exact hret.elim
  ·exact hret.elim
 exact w9 hf hb (h c hs hc) rfl ⟨rfl,rfl⟩ (fun _=>rfl) rfl hrel fun e S' L' a' w' h1 h2=>by
  cases e with
  |normal=>exact⟨.inr rfl,fin S' L' a' w' h1 h2⟩
  |ret=>exact⟨.inl rfl,fin S' L' a' w' h1 h2⟩
  |exit i=>exact h2.elim
  |goto l=>exact h2.elim
  |panic c=>exact h2.elim
  |outgrown=>exact h2.elim
def OS(rs:List RV)(R:List PV->Prop):Exit->St->Prop
 | .ret,S=>match pX S rs with
  |some (.ptr id aq 0)=>if(S.H id).aq=aq then(match(S.H id).c with| .box cs=>cs.all PV.closed=true/\R cs|_=>False)else False
  |_=>False
 |_,_=>False
theorem Zk{f:FuncId}{fn:Func}{c:Code}{sc:SC}{rs:List RV}{args cs:List PV}(hf:P.funcs[f]?=some fn)(hb:fn.body=some c){hs:List Nat}(hc:aB P fn.ntmps hs c=some sc)(hrs:mL P fn.results.toList=some rs)
  (hlen:args.length<=fn.ntmps) (h:VS P fn.ntmps sc (OS rs fun cs'=>cs'=cs) (dt 0 false [] args)):Ri P f args cs:=by
 intro w X hX vs hargs
 let E:En:={w0:=w,rb:=none,nt:=fn.ntmps,X:=X,hX:=hX,HR:=false,rv:=undef,rk:=false,JL:=fun b hb=>(by cases hb),Pk:=fun h=>(by cases h),rd:=none,nd:=false,kt:=fun _=>none,wk:={w with heap:=#[]}}
 let L:Nat->Value:=fun _=> .pointer none
 have hst:dq w w X (aZ E (dt 0 false [] args) L):=(dq.of fun _ hn h'=>hn (by
  rcases h' with⟨id,hid,_⟩|h'
  ·simp[dt]at hid
  ·exact h'))
 have hvl:vs.length=args.length:=hargs.1
 have hrel:Rel E (dt 0 false [] args) {tmps:=vs.toArray++Array.replicate (fn.ntmps - vs.toArray.size) undef,defers:=[]} w L:=by
  refine⟨Marks.nil rfl,⟨?_,fun t v hv=>by cases hv⟩,fun t=> ?_,fun id hid=> ?_,fun i j b hi hj _ _ _ _=> ?_,fun id hid=> ?_,⟨Fr.refl _ _,yd rfl⟩,fun hb _ _=>(by cases hb)⟩
  ·simp[E];omega
  ·have hget:((vs.toArray++Array.replicate (fn.ntmps - vs.toArray.size) undef).getD t undef)=(vs[t]?).getD undef:=by
    rw[QN,Array.getElem?_append]
    by_cases ht:t<vs.toArray.size
    ·rw[Qr ht];simp
    ·rw[Qs ht,Array.getElem?_replicate];have hn:vs[t]?=none:=List.getElem?_eq_none (by simpa using ht)
     rw[hn];split<;>rfl
   simp only;rw[hget];have ha:=hargs.mono hst (cJ.le ((dt 0 false [] args).gh L));show aS w _ _ ((([]++args:List PV)[t]?).getD .undef) _;rw[List.nil_append]
   cases hx:args[t]? with
   |none=>
    have:vs[t]?=none:=by
     rw[List.getElem?_eq_none_iff]at hx ⊢;omega
    rw[this];exact .undef
   |some x=>
    obtain⟨v,hv,hr⟩:=ha.get hx;rw[hv];exact hr
  ·simp[dt]at hid
  ·simp[dt]at hi
  ·simp[dt]
 refine w9 hf hb (h c hs hc) rfl ⟨rfl,rfl⟩ (fun _=>rfl) rfl hrel fun e S' L' a' w' h' hq=> ?_
 cases e with
 |ret=>
  simp only[OS]at hq;split at hq
  ·rename_i id aq hx;split at hq
   ·rename_i hver;split at hq
    ·rename_i cs' hcc;obtain⟨hcl,rfl⟩:=hq;obtain⟨v,hv,hrep⟩:=wz h' hrs hx;obtain⟨hN,_⟩:=hrep.pD (show(S'.gh L').V id=aq from hver)
     obtain⟨b,hvb,hL⟩:=h'.qt hrep hver hcc;obtain⟨b',cur,T,hL',hh,hr,hE⟩:=h'.pr hN hcc;rw[hL]at hL';simp only[Value.pointer.injEq,Qf,Addr.mk.injEq]at hL';obtain⟨rfl,_⟩:=hL';refine⟨.inl rfl,v,hv,b,cur.toList,T,by rw[hvb],?_,by simpa using hh,?_,h'.fr.toFr⟩
     ·rcases hE with h1|h1
      ·simp[E]at h1
      ·exact h1
     ·refine hr.closed hcl ?_;rintro q (hq|rfl)
      ·exact .inr hq
      ·exact .inl ⟨id,hN,by rw[hcc];rfl,by rw[hL];rfl⟩
    ·exact hq.elim
   ·exact hq.elim
  ·exact hq.elim
 |normal=>exact hq.elim
 |exit i=>exact hq.elim
 |goto l=>exact hq.elim
 |panic c=>exact hq.elim
 |outgrown=>exact hq.elim
def oW(e k:Nat)(es:List (List PV))(args:List PV):St:=
 {env:=fun t=>((.own 0 0::args)[t]?).getD .undef,H:=fun id=>if id=0 then⟨0,.row e k es⟩else⟨0,.dead⟩,N:=1}
def K0(rs:List RV)(e k:Nat)(R:PV->List (List PV)->Prop):Exit->St->Prop
 | .ret,S| .normal,S=>match pX S rs with
  |some x=>match S.H 0 with
   |⟨0,.row e' k' es'⟩=>e'=e/\k'=k/\uW es'=true/\R (fz S.H (some 0) 9 x) es'
   |_=>False
  |none=>False
 |_,_=>False
def Al(rs:List RV)(e k:Nat)(R:List (List PV)->Prop):Exit->St->Prop
 | .ret,S| .normal,S=>match pX S rs with
  |some (.own id aq)=>(S.H id).aq=aq/\(match(S.H id).c with
   | .row e' k' es'=>e'=e/\k'=k/\uW es'=true/\R es'
   |_=>False)
  |_=>False
 |_,_=>False
theorem L9{fn:Func}{e k:Nat}{es:List (List PV)}{args:List PV}{w:World}{X:Nat->Prop}(hX:∀b,X b->b<w.heap.size){v:Value}{vs:List Value}(hXn:∀b,bO v=some b->¬X b)(hrow:tk w (Mv v X) e k v es)(hargs:aT w (Mv v X) cJ args vs)(hlen:1+args.length<=fn.ntmps):
  ∃E:En,E.w0=w/\E.rb=bO v/\E.nt=fn.ntmps/\E.X=X/\E.HR=true/\E.rv=v/\(E.rd=none/\E.nd=false)/\(∀t,E.kt t=none)/\E.wk.heap=#[]/\
   Rel E (oW e k es args) {tmps:=(v::vs).toArray++Array.replicate (fn.ntmps - (v::vs).toArray.size) undef,defers:=[]} w (fun _=>v):=by
 obtain⟨us,hown,hk,hr⟩:=hrow
 have hsz:∀b,bO v=some b->b<w.heap.size:=by
  intro b hb;rcases hown.2 with⟨rfl,_⟩|⟨g,cap,cur,rfl,_,hh,_⟩
  ·cases hb
  ·simp only[bO,Qf]at hb;subst hb;exact(Array.getElem?_eq_some_iff.1 hh).1
 let E:En:={w0:=w,rb:=bO v,nt:=fn.ntmps,X:=X,hX:=hX,HR:=true,rv:=v,rk:=true,JL:=hsz,Pk:=fun _=>hXn,rd:=none,nd:=false,kt:=fun _=>none,wk:={w with heap:=#[]}}
 have hm:∀b,aZ E (oW e k es args) (fun _=>v) b↔Mv v X b:=by
  intro b;constructor
  ·rintro(⟨id,hid,hl,hb⟩|hb)
   ·exact .inl hb
   ·exact .inr hb
  ·rintro(hb|hb)
   ·exact .inl ⟨0,by simp[oW],by simp[oW,tZ.live],hb⟩
   ·exact .inr hb
 have hst:dq w w (Mv v X) (aZ E (oW e k es args) (fun _=>v)):=(dq.of fun _ hn=>fun h'=>hn ((hm _).1 h'))
 obtain⟨ad,n0,c0,hvs⟩:∃ad n c,v= .slice ad n c:=by
  rcases hown.2 with⟨h1,_⟩|⟨g,cap,cur,h1,_⟩
  ·exact⟨_,_,_,h1⟩
  ·exact⟨_,_,_,h1⟩
 have hvl:vs.length=args.length:=hargs.1;refine⟨E,rfl,rfl,rfl,rfl,rfl,rfl,⟨rfl,rfl⟩,fun _=>rfl,rfl,⟨Marks.nil rfl,⟨?_,fun t v hv=>by cases hv⟩,fun t=> ?_,fun id hid=> ?_,fun i j b hi hj _ _ _ _=> ?_,fun id hid=> ?_,⟨Fr.refl _ _,yd rfl⟩,fun _ _ _=>rfl⟩⟩
 ·simp[E];omega
 ·have hget:(((v::vs).toArray++Array.replicate (fn.ntmps - (v::vs).toArray.size) undef).getD t undef)=((v::vs)[t]?).getD undef:=by
   rw[QN,Array.getElem?_append]
   by_cases ht:t<(v::vs).toArray.size
   ·rw[Qr ht];simp
   ·rw[Qs ht,Array.getElem?_replicate];have hn:(v::vs)[t]?=none:=List.getElem?_eq_none (by simpa using ht)
    rw[hn];split<;>rfl
  simp only;rw[hget]
  have hall:aT w (aZ E (oW e k es args) (fun _=>v)) ((oW e k es args).gh (fun _=>v)) (.own 0 0::args) (v::vs):=by
   refine .cons ?_ (hargs.mono hst (cJ.le _));rw[hvs];exact .own _ _ _ _ _ (by simp[St.gh,oW]) (QS _) (fun _=>rfl)
  show aS w _ _ (((.own 0 0::args:List PV)[t]?).getD .undef) _
  cases hx:((.own 0 0::args:List PV))[t]? with
  |none=>
   have:(v::vs)[t]?=none:=by
    rw[List.getElem?_eq_none_iff]at hx ⊢;rw[hall.1];exact hx
   rw[this];exact .undef
  |some x=>
   obtain⟨u,hu,hru⟩:=hall.get hx;rw[hu];exact hru
 ·have:id=0:=by simp[oW]at hid;exact hid
  subst this;have he:((oW e k es args).H 0).c= .row e k es:=by simp[oW]
  rw[he];refine⟨us,⟨hown.1,?_⟩,hk,hr.mono hst (cJ.le _)⟩;rcases hown.2 with h1|⟨g,cap,cur,h1,_,h3⟩
  ·exact .inl h1
  ·refine .inr ⟨g,cap,cur,h1,?_,h3⟩;have hb:bO v=some g:=by rw[h1];rfl
   have:fp E v=0:=by
    unfold fp;rw[Qr ⟨rfl,by simp[E,hb],rfl⟩]
   rw[this];exact QS _
 ·simp[oW]at hi hj;omega
 ·simp[oW]at hid ⊢;omega
theorem Zj{f:FuncId}{fn:Func}{c:Code}{sc:SC}{rs:List RV}{e k:Nat}{es es':List (List PV)}{args:List PV}{r:PV}(hf:P.funcs[f]?=some fn)(hb:fn.body=some c){hs:List Nat}(hc:aB P fn.ntmps hs c=some sc)(hrs:mL P fn.results.toList=some rs)
  (hlen:1+args.length<=fn.ntmps) (h:VS P fn.ntmps sc (K0 rs e k fun r' es''=>r'=r/\es''=es') (oW e k es args)):LJ P f e k es args r es':=by
 intro w X hX v vs hXn hrow hargs;obtain⟨E,e1,e2,e3,e4,e5,e6,e7,e8,e9,hrel⟩:=L9 (fn:=fn) hX hXn hrow hargs hlen;subst e1
 have fin:∀(S':St) (L':Nat->Value) (a':Act) (w':World),Rel E S' a' w' L'->K0 rs e k (fun r' es''=>r'=r/\es''=es') .ret S'->
   ∃u,(results fn a'.tmps).run P w'= .ok u w'/\∃u',Ending.returned u= .returned u'/\aS w' (Mv v X) cJ r u'/\tk w' (Mv v X) e k v es'/\Fr (bO v) E.w0 w':=by
  intro S' L' a' w' h' hret;simp only[K0]at hret;split at hret
  ·rename_i x hx;obtain⟨u,hu,hrep⟩:=wz h' hrs hx;split at hret
   ·rename_i e0 k0 es0 hH;obtain⟨rfl,rfl,hok,rfl,rfl⟩:=hret
    have hN0:0<S'.N:=by
     rcases Nat.eq_zero_or_pos S'.N with h0|h0
     ·have:=h'.fresh 0 (by omega)
      rw[hH]at this;cases this
     ·exact h0
    have hlive:(S'.H 0).c.live=true:=by rw[hH];rfl
    have hL0:L' 0=v:=(h'.uM e5 hlive (by rw[hH])).trans e6
    obtain⟨us,hown,hk,hr⟩:=h'.iJ hN0 (show(S'.H 0).c=_ by rw[hH])
    rw[hL0]at hown
    have hsub:∀q,Mv v X q->aZ E S' L' q:=by
     rintro q (hq|hq)
     ·exact .inl ⟨0,hN0,hlive,by rw[hL0];exact hq⟩
     ·exact .inr (by rw[e4];exact hq)
    refine⟨u,hu,u,rfl,?_,⟨us,uV hown,hk,hr.closed (wA hok) hsub⟩,by rw[<-e2];exact h'.fr.toFr⟩
    refine h'.fz hsub (fun id b hid hl hne hbb hq=> ?_) 9 hrep
    have hnb:bO v≠some b:=fun eb=>hne (by rw[h'.apart id 0 b hid hN0 hl hlive hbb (by rw[hL0];exact eb)])
    rcases hq with hq|hq
    ·exact hnb hq
    ·rcases((h'.obj id hid).sW hl hbb).2 with h1|h1
     ·rw[e2]at h1;exact hnb h1
     ·have:=hX b hq;omega
   ·exact hret.elim
  ·exact hret.elim
 exact w9 hf hb (h c hs hc) e3 e7 e8 e9 hrel fun en S' L' a' w' h1 h2=>by
  cases en with
  |normal=>exact⟨.inr rfl,fin S' L' a' w' h1 h2⟩
  |ret=>exact⟨.inl rfl,fin S' L' a' w' h1 h2⟩
  |exit i=>exact h2.elim
  |goto l=>exact h2.elim
  |panic c=>exact h2.elim
  |outgrown=>exact h2.elim
theorem R1{E:En}{S':St}{L':Nat->Value}{a':Act}{w':World}{X:Nat->Prop}(hEX:E.X=X)(h':Rel E S' a' w' L'){fn:Func}{rs:List RV}(hrs:mL P fn.results.toList=some rs){e k:Nat}{es':List (List PV)}(hret:Al rs e k (fun es''=>es''=es') .ret S'):
  ∃u,(results fn a'.tmps).run P w'= .ok u w'/\tk w' (Mv u X) e k u es'/\∀b,bO u=some b->E.rb=some b\/E.w0.heap.size<=b:=by
 simp only[Al]at hret;split at hret
 ·rename_i id aq hx;obtain⟨hver,hret⟩:=hret;split at hret
  ·rename_i e0 k0 es0 hc;obtain⟨rfl,rfl,hok,rfl⟩:=hret;obtain⟨u,hu,hrep⟩:=wz h' hrs hx;obtain⟨hN,hv⟩:=hrep.kO (show(S'.gh L').V id=aq from hver)
   have hv:u=L' id:=hv;subst hv;have hlive:(S'.H id).c.live=true:=by rw[hc];rfl
   obtain⟨us,hown,hk,hr⟩:=h'.iJ hN hc;refine⟨_,hu,⟨us,uV hown,hk,hr.closed (wA hok) ?_⟩,fun b hb=>((h'.obj id hN).sW hlive hb).2⟩
   rintro q (hq|hq)
   ·exact .inl ⟨id,hN,hlive,hq⟩
   ·exact .inr (by rw[hEX];exact hq)
  ·exact hret.elim
 ·exact hret.elim
theorem Zm{f:FuncId}{fn:Func}{c:Code}{sc:SC}{rs:List RV}{e k:Nat}{es es':List (List PV)}{args:List PV}(hf:P.funcs[f]?=some fn)(hb:fn.body=some c){hs:List Nat}(hc:aB P fn.ntmps hs c=some sc)(hrs:mL P fn.results.toList=some rs)
  (hlen:1+args.length<=fn.ntmps) (h:VS P fn.ntmps sc (Al rs e k fun es''=>es''=es') (oW e k es args)):Ia P f e k es args es':=by
 intro w X hX v vs hXn hrow hargs;obtain⟨E,e1,e2,e3,e4,e5,e6,e7,e8,e9,hrel⟩:=L9 (fn:=fn) hX hXn hrow hargs hlen;subst e1;refine w9 hf hb (h c hs hc) e3 e7 e8 e9 hrel fun en S' L' a' w' h1 h2=> ?_
 have fin:Al rs e k (fun es''=>es''=es') .ret S'->∃u,(results fn a'.tmps).run P w'= .ok u w'/\∃u',Ending.returned u= .returned u'/\tk w' (Mv u' X) e k u' es'/\(∀b,bO u'=some b->bO v=some b\/E.w0.heap.size<=b)/\Fr (bO v) E.w0 w':=by
  intro hret;obtain⟨u,hu,hrow',hub⟩:=R1 e4 h1 hrs hret;refine⟨u,hu,u,rfl,hrow',?_,by rw[<-e2];exact h1.fr.toFr⟩
  rw[<-e2];exact hub
 cases en with
 |normal=>exact⟨.inr rfl,fin h2⟩
 |ret=>exact⟨.inl rfl,fin h2⟩
 |exit i=>exact h2.elim
 |goto l=>exact h2.elim
 |panic c=>exact h2.elim
 |outgrown=>exact h2.elim
theorem Zl{f:FuncId}{fn:Func}{c:Code}{sc:SC}{rs:List RV}{e k:Nat}{es':List (List PV)}{args:List PV}(hf:P.funcs[f]?=some fn)(hb:fn.body=some c){hs:List Nat}(hc:aB P fn.ntmps hs c=some sc)(hrs:mL P fn.results.toList=some rs)
  (hlen:args.length<=fn.ntmps) (h:VS P fn.ntmps sc (Al rs e k fun es''=>es''=es') (dt 0 false [] args)):Rj P f args e k es':=by
 intro w X hX vs hargs
 let E:En:={w0:=w,rb:=none,nt:=fn.ntmps,X:=X,hX:=hX,HR:=false,rv:=undef,rk:=false,JL:=fun b hb=>(by cases hb),Pk:=fun h=>(by cases h),rd:=none,nd:=false,kt:=fun _=>none,wk:={w with heap:=#[]}}
 let L:Nat->Value:=fun _=> .pointer none
 have hst:dq w w X (aZ E (dt 0 false [] args) L):=(dq.of fun _ hn h'=>hn (by
  rcases h' with⟨id,hid,_⟩|h'
  ·simp[dt]at hid
  ·exact h'))
 have hvl:vs.length=args.length:=hargs.1
 have hrel:Rel E (dt 0 false [] args) {tmps:=vs.toArray++Array.replicate (fn.ntmps - vs.toArray.size) undef,defers:=[]} w L:=by
  refine⟨Marks.nil rfl,⟨?_,fun t v hv=>by cases hv⟩,fun t=> ?_,fun id hid=> ?_,fun i j b hi hj _ _ _ _=> ?_,fun id hid=> ?_,⟨Fr.refl _ _,yd rfl⟩,fun hb _ _=>(by cases hb)⟩
  ·simp[E];omega
  ·have hget:((vs.toArray++Array.replicate (fn.ntmps - vs.toArray.size) undef).getD t undef)=(vs[t]?).getD undef:=by
    rw[QN,Array.getElem?_append]
    by_cases ht:t<vs.toArray.size
    ·rw[Qr ht];simp
    ·rw[Qs ht,Array.getElem?_replicate];have hn:vs[t]?=none:=List.getElem?_eq_none (by simpa using ht)
     rw[hn];split<;>rfl
   simp only;rw[hget];have ha:=hargs.mono hst (cJ.le ((dt 0 false [] args).gh L));show aS w _ _ ((([]++args:List PV)[t]?).getD .undef) _;rw[List.nil_append]
   cases hx:args[t]? with
   |none=>
    have:vs[t]?=none:=by
     rw[List.getElem?_eq_none_iff]at hx ⊢;omega
    rw[this];exact .undef
   |some x=>
    obtain⟨v,hv,hr⟩:=ha.get hx;rw[hv];exact hr
  ·simp[dt]at hid
  ·simp[dt]at hi
  ·simp[dt]
 refine w9 hf hb (h c hs hc) rfl ⟨rfl,rfl⟩ (fun _=>rfl) rfl hrel fun en S' L' a' w' h1 h2=> ?_
 have fin:Al rs e k (fun es''=>es''=es') .ret S'->∃u,(results fn a'.tmps).run P w'= .ok u w'/\∃u',Ending.returned u= .returned u'/\tk w' (Mv u' X) e k u' es'/\(∀b,bO u'=some b->w.heap.size<=b)/\Fr none w w':=by
  intro hret;obtain⟨u,hu,hrow',hub⟩:=R1 (E:=E) rfl h1 hrs hret;refine⟨u,hu,u,rfl,hrow',fun b hbb=> ?_,h1.fr.toFr⟩
  rcases hub b hbb with h3|h3
  ·cases h3
  ·exact h3
 cases en with
 |normal=>exact⟨.inr rfl,fin h2⟩
 |ret=>exact⟨.inl rfl,fin h2⟩
 |exit i=>exact h2.elim
 |goto l=>exact h2.elim
 |panic c=>exact h2.elim
 |outgrown=>exact h2.elim
def gp(P:Program)(f:FuncId)(nt:Nat)(sc:SC)(rs:List RV):Prop:=
 ∃fn hs,P.funcs[f]?=some fn/\fn.ntmps=nt/\(fn.body.bind (aB P nt hs))=some sc/\mL P fn.results.toList=some rs/\(fn.name== "runtime.NumGoroutine")=false
theorem gp.enters{f:FuncId}{sc:SC}{rs:List RV}(h:gp P f nt sc rs):Enters P f:=by
 obtain⟨fn,hs,h1,_,h3,_,h5⟩:=h;refine⟨fn,h1,?_,h5⟩
 cases hb:fn.body with
 |none=>rw[hb]at h3;cases h3
 |some c=>rfl
theorem gp.MT{f:FuncId}{sc:SC}{rs:List RV}(h:gp P f nt sc rs){pos:Nat}{recv:Bool}{cs args cs':List PV}{r:PV}(hlen:(if recv then 1 else 0)+args.length<=nt)
  (hv:VS P nt sc (V9 rs recv fun r' cs''=>r'=r/\(recv=true->cs''=cs')) (dt pos recv cs args)):FH P f pos recv cs args r cs':=by
 obtain⟨fn,hs,h1,rfl,h3,h4,_⟩:=h
 cases hb:fn.body with
 |none=>rw[hb]at h3;cases h3
 |some c=>
  rw[hb]at h3;exact Vt h1 hb h3 h4 hlen hv
theorem gp.acK{f:FuncId}{sc:SC}{rs:List RV}(h:gp P f nt sc rs){args cs:List PV}(hlen:args.length<=nt)
  (hv:VS P nt sc (OS rs fun cs'=>cs'=cs) (dt 0 false [] args)):Ri P f args cs:=by
 obtain⟨fn,hs,h1,rfl,h3,h4,_⟩:=h
 cases hb:fn.body with
 |none=>rw[hb]at h3;cases h3
 |some c=>
  rw[hb]at h3;exact Zk h1 hb h3 h4 hlen hv
theorem gp.acJ{f:FuncId}{sc:SC}{rs:List RV}(h:gp P f nt sc rs){e k:Nat}{es es':List (List PV)}{args:List PV}{r:PV}(hlen:1+args.length<=nt)
  (hv:VS P nt sc (K0 rs e k fun r' es''=>r'=r/\es''=es') (oW e k es args)):LJ P f e k es args r es':=by
 obtain⟨fn,hs,h1,rfl,h3,h4,_⟩:=h
 cases hb:fn.body with
 |none=>rw[hb]at h3;cases h3
 |some c=>
  rw[hb]at h3;exact Zj h1 hb h3 h4 hlen hv
theorem gp.acM{f:FuncId}{sc:SC}{rs:List RV}(h:gp P f nt sc rs){e k:Nat}{es es':List (List PV)}{args:List PV}(hlen:1+args.length<=nt)
  (hv:VS P nt sc (Al rs e k fun es''=>es''=es') (oW e k es args)):Ia P f e k es args es':=by
 obtain⟨fn,hs,h1,rfl,h3,h4,_⟩:=h
 cases hb:fn.body with
 |none=>rw[hb]at h3;cases h3
 |some c=>
  rw[hb]at h3;exact Zm h1 hb h3 h4 hlen hv
theorem gp.acL{f:FuncId}{sc:SC}{rs:List RV}(h:gp P f nt sc rs){e k:Nat}{es':List (List PV)}{args:List PV}(hlen:args.length<=nt)
  (hv:VS P nt sc (Al rs e k fun es''=>es''=es') (dt 0 false [] args)):Rj P f args e k es':=by
 obtain⟨fn,hs,h1,rfl,h3,h4,_⟩:=h
 cases hb:fn.body with
 |none=>rw[hb]at h3;cases h3
 |some c=>
  rw[hb]at h3;exact Zl h1 hb h3 h4 hlen hv
def tab:List (FuncId×Model)->mn
 |[],_=>none
 |(g,m)::l,f=>if f=g then some m else tab l f
def aaM(P:Program):List (FuncId×Model)->Prop
 |[]=>True
 |(f,m)::l=>BI P f m/\aaM P l
theorem ZE:∀{l:List (FuncId×Model)},aaM P l->jx P (tab l)
 |[],_,f,m,h=>by simp[tab]at h
 |(g,m')::l,hl,f,m,h=>by
  simp only[tab]at h;split at h
  ·rename_i e;subst e;injection h with h
   subst h;exact hl.1
  ·exact ZE hl.2 f m h
end
end Go.TQ
end
noncomputable section
namespace Go.TQ
 def Sf{α:Type}(bW:α->List PV)(pre:α->Prop)(spec:α->PV):Model:=
 {recv:=false,pos:=0,fresh:=false,m:=fun _ args=>open Classical in if h:∃x,args=bW x/\pre x then some (spec (Classical.choose h),[])else none,rk:= .no,ro:=false,rm:=fun _ _=>none}
theorem ac4{α:Type}{bW:α->List PV}{pre:α->Prop}{spec:α->PV}(hi:∀x y,bW x=bW y->spec x=spec y)(cs:List PV)(x:α)(hp:pre x):(Sf bW pre spec).m cs (bW x)=some (spec x,[]):=by
 have h:∃y,bW x=bW y/\pre y:=⟨x,rfl,hp⟩;simp only[Sf];rw[dif_pos h];have:=(Classical.choose_spec h).1;rw[hi _ _ this.symm]
theorem aca{P:Program}{f:FuncId}{α:Type}{bW:α->List PV}{pre:α->Prop}{spec:α->PV}(he:Enters P f)(h:∀x,pre x->VQ P f false [] (bW x) (spec x) []):BI P f (Sf bW pre spec):=by
 refine⟨he,fun _ cs args r cs' hm=> ?_,(fun hq=>by cases hq),trivial,(fun hq=>by cases hq)⟩
 simp only[Sf]at hm;split at hm
 ·rename_i hx;injection hm with hm
  injection hm with h1 h2
  subst h1 h2;obtain⟨h3,h4⟩:=Classical.choose_spec hx;have:=h _ h4;rw[<-h3]at this;intro w X hX rb T rvs vs hr ha;exact this w X hX rb T rvs vs (fun hq=>by cases hq) ha
 ·cases hm
theorem U0{α:Type}{bW:α->List PV}{pre:α->Prop}{spec:α->PV}:(Sf bW pre spec).fresh=false:=rfl
theorem Wx{α:Type}{bW:α->List PV}{pre:α->Prop}{spec:α->PV}:(Sf bW pre spec).recv=false:=rfl
 def XL{α:Type}(bW:α->List PV)(pre:α->Prop)(spec:α->List PV):Model:=
 {recv:=false,pos:=0,fresh:=true,m:=fun _ args=>open Classical in if h:∃x,args=bW x/\pre x then some (.any,spec (Classical.choose h))else none,rk:= .no,ro:=false,rm:=fun _ _=>none}
theorem ac3{α:Type}{bW:α->List PV}{pre:α->Prop}{spec:α->List PV}(hi:∀x y,bW x=bW y->spec x=spec y)(cs:List PV)(x:α)(hp:pre x):(XL bW pre spec).m cs (bW x)=some (.any,spec x):=by
 have h:∃y,bW x=bW y/\pre y:=⟨x,rfl,hp⟩;simp only[XL];rw[dif_pos h];have:=(Classical.choose_spec h).1;rw[hi _ _ this.symm]
theorem ab9{P:Program}{f:FuncId}{α:Type}{bW:α->List PV}{pre:α->Prop}{spec:α->List PV}(he:Enters P f)(h:∀x,pre x->Ri P f (bW x) (spec x)):BI P f (XL bW pre spec):=by
 refine⟨he,(fun hq=>by cases hq),fun _ args r cs hm=> ?_,trivial,(fun hq=>by cases hq)⟩
 simp only[XL]at hm;split at hm
 ·rename_i hx;injection hm with hm
  injection hm with h1 h2
  subst h1 h2;obtain⟨h3,h4⟩:=Classical.choose_spec hx;have:=h _ h4;rw[<-h3]at this;exact this
 ·cases hm
 def XK{σ α:Type}(encS:σ->List PV)(bW:α->List PV)(pre:σ->α->Prop)(spec:σ->α->PV×σ):Model:=
 {recv:=true,pos:=0,fresh:=false,m:=fun cs args=>open Classical in if h:∃p:σ×α,cs=encS p.1/\args=bW p.2/\pre p.1 p.2 then some ((spec (Classical.choose h).1 (Classical.choose h).2).1,encS (spec (Classical.choose h).1 (Classical.choose h).2).2)else none,rk:= .no,ro:=false,rm:=fun _ _=>none}
theorem ac2{σ α:Type}{encS:σ->List PV}{bW:α->List PV}{pre:σ->α->Prop}{spec:σ->α->PV×σ}(hs:∀x y,encS x=encS y->x=y)(hi:∀x y,bW x=bW y->x=y)(s:σ)(x:α)(hp:pre s x):
  (XK encS bW pre spec).m (encS s) (bW x)=some ((spec s x).1,encS (spec s x).2):=by
 have h:∃p:σ×α,encS s=encS p.1/\bW x=bW p.2/\pre p.1 p.2:=⟨(s,x),rfl,rfl,hp⟩;simp only[XK];rw[dif_pos h];obtain⟨h1,h2,_⟩:=Classical.choose_spec h;rw[hs _ _ h1.symm,hi _ _ h2.symm]
theorem ab8{P:Program}{f:FuncId}{σ α:Type}{encS:σ->List PV}{bW:α->List PV}{pre:σ->α->Prop}{spec:σ->α->PV×σ}(he:Enters P f)(h:∀s x,pre s x->VQ P f true (encS s) (bW x) (spec s x).1 (encS (spec s x).2)):BI P f (XK encS bW pre spec):=by
 refine⟨he,fun _ cs args r cs' hm=> ?_,(fun hq=>by cases hq),trivial,(fun hq=>by cases hq)⟩
 simp only[XK]at hm;split at hm
 ·rename_i hx;injection hm with hm
  injection hm with h1 h2
  subst h1 h2;obtain⟨h3,h4,h5⟩:=Classical.choose_spec hx;have:=h _ _ h5;rw[<-h3,<-h4]at this;exact this
 ·cases hm
@[simp] theorem abQ {α:Type} (f:Nat->α) (i:Nat) (x:α) (j:Nat):bu f i x j=if j=i then x else f j:=rfl
@[simp] theorem acq (g:FuncId) (m:Model) (l:List (FuncId×Model)) (f:FuncId):tab ((g,m)::l) f=if f=g then some m else tab l f:=rfl
@[simp] theorem acO (S:St) (ts:List Nat) (n t:Nat):(S.cut ts n).env t=if t∈ts then S.env t else .any:=rfl
@[simp] theorem ac6 (S:St) (ts:List Nat) (n id:Nat):(S.cut ts n).H id=if id<n then S.H id else⟨0,.dead⟩:=rfl
@[simp] theorem ac5 (S:St) (ts:List Nat) (n:Nat):(S.cut ts n).N=n:=rfl
attribute [simp] ev uK sC SG.wanted exec St.cq aX.val St0 dt gy KC V9 xK BC TG pX tB yz fz pZ oh qM PV.cells PV.one PV.closed gw FB EV Kd kF PV.qu PV.plain PV.nc PV.bo PV.rK jj
 KZ me w4 AD Bu eN ed mJ yT Wx U0 OS PV.jr
section
variable (n : Nat)
@[simp] theorem ab1:PV.under n .any=true:=rfl
@[simp] theorem aaN:PV.under n .undef=true:=rfl
@[simp] theorem abY (k:IntKind) (i:Int):PV.under n (.int k i)=true:=rfl
@[simp] theorem aaZ (b:Bool):PV.under n (.bool b)=true:=rfl
@[simp] theorem aaO:PV.under n .fD=true:=rfl
@[simp] theorem abT (s:ByteArray):PV.under n (.str s)=true:=rfl
@[simp] theorem aaW:PV.under n .iY=true:=rfl
@[simp] theorem aaV:PV.under n .df=true:=rfl
@[simp] theorem abV (cs:List PV):PV.under n (.ref cs)=true:=rfl
@[simp] theorem acp (es:List (List PV)):PV.under n (.sl es)=true:=rfl
@[simp] theorem abX (i v:Nat):PV.under n (.own i v)=decide (i<n):=rfl
@[simp] theorem abW (i v o:Nat):PV.under n (.ptr i v o)=decide (i<n):=rfl
@[simp] theorem aaX (i v k j o:Nat):PV.under n (.dZ i v k j o)=decide (i<n):=rfl
@[simp] theorem aaU (i v k j o:Nat):PV.under n (.view i v k j o)=decide (i<n):=rfl
@[simp] theorem ab2 (cs:List PV):PV.under n (.agg cs)=cs.all (PV.jr n):=rfl
@[simp] theorem abS (cs:List PV):PV.under n (.dx cs)=cs.all (PV.jr n):=rfl
@[simp] theorem abZ (f:FuncId) (cs:List PV):PV.under n (.bw f cs)=cs.all (PV.jr n):=rfl
@[simp] theorem aaY:tZ.under n .dead=true:=rfl
@[simp] theorem ab0 (cs:List PV):tZ.under n (.box cs)=cs.all (PV.under n):=rfl
@[simp] theorem abU (e k:Nat) (es:List (List PV)):tZ.under n (.row e k es)=es.all fun u=>u.all (PV.under n):=rfl
end
def FI:Nat->(Nat->Prop)->Prop
 |0,_=>True
 |n+1,p=>FI n p/\p n
theorem EY{p:Nat->Prop}:∀{n:Nat},FI n p↔∀i,i<n->p i
 |0=>by simp[FI]
 |n+1=>by
  rw[FI,EY];refine⟨fun h i hi=> ?_,fun h=>⟨fun i hi=>h i (by omega),h n (by omega)⟩⟩
  by_cases e:i=n
  ·rw[e];exact h.2
  ·exact h.1 i (by omega)
theorem Vq{S:St}{ts:List Nat}{n:Nat}:Ab S ts n↔n<=S.N/\(∀t∈ts,(S.env t).under n=true)/\FI n fun id=>(S.H id).c.under n=true:=
 ⟨fun h=>⟨h.N,h.env,EY.2 h.H⟩,fun h=>⟨h.1,h.2.1,EY.1 h.2.2⟩⟩
attribute [simp] Vq FI
theorem i64_in{n:Int}(h: -9223372036854775808<=n)(h':n<=9223372036854775807):IntKind.i64.wrap n=n:=by
 rw[IntKind.wrap_i64];omega
end Go.TQ
end
noncomputable section
namespace Go.TQ
structure TU where
 Ty:Type
 Sy:DecidableEq Ty
 den:Ty->Type
 pv:(t:Ty)->den t->List PV
 size:Ty->Nat
 agg:Ty->Bool
 plain:Ty->Bool
inductive KV (U:TU) where
 |any
 |undef
 |int (k:IntKind) (n:Int)
 |bool (b:Bool)
 |fD
 |str (s:ByteArray)
 |iY
 |df
 |bw (f:FuncId) (caps:List (KV U))
 |gZ (f:FuncId) (first:List (KV U))
 |agg (cs:List (KV U))
 |dx (cs:List (KV U))
 |ptr (id aq off:Nat)
 |ref (cs:List (KV U))
 |sl (T:U.Ty) (xs:List (U.den T))
 |own (id aq:Nat)
 |dZ (id aq k i off:Nat)
 |view (id aq k lo n:Nat)
 |gD (A B:U.Ty) (xs:List (U.den A×U.den B))
def cQ{U:TU}(T:U.Ty)(v:U.den T):PV:=
 match U.agg T with
 |true=> .agg (U.pv T v)
 |false=>(U.pv T v).headD .any
section
variable {U : TU}
mutual
def KV.pv:KV U->PV
 | .any=> .any
 | .undef=> .undef
 | .int k n=> .int k n
 | .bool b=> .bool b
 | .fD=> .fD
 | .str s=> .str s
 | .iY=> .iY
 | .df=> .df
 | .bw f cs=> .bw f (KV.zI cs)
 | .gZ f cs=> .gZ f (KV.zI cs)
 | .agg cs=> .agg (KV.zI cs)
 | .dx cs=> .dx (KV.zI cs)
 | .ptr id aq off=> .ptr id aq off
 | .ref cs=> .ref (KV.zI cs)
 | .sl T xs=> .sl (xs.map (U.pv T))
 | .own id aq=> .own id aq
 | .dZ id aq k i off=> .dZ id aq k i off
 | .view id aq k lo n=> .view id aq k lo n
 | .gD A B xs=> .gD (xs.map fun p=>cQ A p.1) (xs.map fun p=>cQ B p.2)
def KV.zI:List (KV U)->List PV
 |[]=>[]
 |x::l=>KV.pv x::KV.zI l
end
theorem KV.bX:∀(l:List (KV U)),KV.zI l=l.map KV.pv
 |[]=>by simp[KV.zI]
 |x::l=>by simp[KV.zI,KV.bX l]
inductive dg (U:TU) where
 |dead
 |box (cs:List (KV U))
 |row (e k:Nat) (T:U.Ty) (xs:List (U.den T))
 |raw (e k:Nat) (es:List (List (KV U)))
structure cI (U:TU) where
 aq:Nat
 c:dg U
structure aM (U:TU) where
 env:Nat->KV U
 H:Nat->cI U
 N:Nat
def dg.pv:dg U->tZ
 | .dead=> .dead
 | .box cs=> .box (cs.map KV.pv)
 | .row e k T xs=> .row e k (xs.map (U.pv T))
 | .raw e k es=> .row e k (es.map fun c=>c.map KV.pv)
def cI.pv(o:cI U):eW:=⟨o.aq,o.c.pv⟩
def aM.st(S:aM U):St:=⟨fun t=>(S.env t).pv,fun id=>(S.H id).pv,S.N⟩
def fU{α:Type}(f:Nat->α)(i:Nat)(x:α)(j:Nat):α:=
 match Nat.beq j i with
 |true=>x
 |false=>f j
theorem cj{α:Type}(f:Nat->α)(i:Nat)(x:α):fU f i x=bu f i x:=by
 funext j
 unfold fU bu;split
 ·rename_i h;rw[Qr (QF h)]
 ·rename_i h;rw[Qs (Nat.ne_of_beq_eq_false h)]
def aM.cq(S:aM U)(d:Option Nat)(x:KV U)(wr:Option (Nat×cI U)):aM U:=
 {env:=match d with|some d=>fU S.env d x|none=>S.env,H:=match wr with|some (id,o)=>fU S.H id o|none=>S.H,N:=S.N}
def iU(p:Nat×cI U):Nat×eW:=(p.1,p.2.pv)
theorem mM{α β:Type}(g:α->β)(f:Nat->α)(i:Nat)(x:α):(fun j=>g (bu f i x j))=bu (fun j=>g (f j)) i (g x):=by
 funext j
 unfold bu;split<;>rfl
theorem Dy(S:aM U)(d:Option Nat)(x:KV U)(wr:Option (Nat×cI U)):(S.cq d x wr).st=S.st.cq d x.pv (wr.map iU):=by
 unfold aM.cq St.cq aM.st;congr 1
 ·cases d with
  |none=>rfl
  |some d=>simp only[cj];exact mM _ _ _ _
 ·cases wr with
  |none=>rfl
  |some p=>obtain⟨i,o⟩:=p;simp only[cj,Qe,iU];exact mM _ _ _ _
abbrev Lk(U:TU):=Nat->Nat->(T:U.Ty)->Option (List (U.den T))
def wH{U:TU}(T' T:U.Ty)(xs:List (U.den T')):Option (List (U.den T)):=
 match U.Sy T' T with
 |isTrue h=>some (h▸xs)
 |isFalse _=>none
theorem lL{T' T:U.Ty}{xs:List (U.den T')}{ys:List (U.den T)}(h:wH T' T xs=some ys):∃e:T'=T,ys=e▸xs:=by
 unfold wH at h;split at h
 ·rename_i e _;injection h with h;exact⟨e,h.symm⟩
 ·cases h
def aM.lk(S:aM U):Lk U:=fun id aq T=>
 match Nat.beq (S.H id).aq aq with
 |true=>match(S.H id).c with
  | .row _ _ T' xs=>wH T' T xs
  |_=>none
 |false=>none
def mg:Lk U:=fun _ _ _=>none
def WX(k:IntKind):KV U->Option Int
 | .int k' n=>if k'=k then some n else none
 |_=>none
def EM:KV U->Option Bool
 | .bool b=>some b
 |_=>none
def WU:KV U->Option ByteArray
 | .str s=>some s
 |_=>none
def PC(lk:Lk U)(T:U.Ty):KV U->Option (List (U.den T))
 | .df=>some []
 | .sl T' xs=>wH T' T xs
 | .own id aq=>lk id aq T
 |_=>none
def Ue{U:TU}(A' B' A B:U.Ty)(xs:List (U.den A'×U.den B')):Option (List (U.den A×U.den B)):=
 match U.Sy A' A with
 |isTrue h=>(match U.Sy B' B with
  |isTrue h'=>some (h▸h'▸xs)
  |isFalse _=>none)
 |isFalse _=>none
theorem Ud{A' B' A B:U.Ty}{xs:List (U.den A'×U.den B')}{ys:List (U.den A×U.den B)}(h:Ue A' B' A B xs=some ys):∃(e:A'=A) (e':B'=B),ys=e▸e'▸xs:=by
 unfold Ue at h;split at h
 ·rename_i e _;split at h
  ·rename_i e' _;injection h with h;exact⟨e,e',h.symm⟩
  ·cases h
 ·cases h
def WW(A B:U.Ty):KV U->Option (List (U.den A×U.den B))
 | .gD A' B' xs=>Ue A' B' A B xs
 |_=>none
inductive kL (lk:Lk U):KV U->PV->Prop where
 |int (k:IntKind) (n:Int):kL lk (.int k n) (.int k n)
 |bool (b:Bool):kL lk (.bool b) (.bool b)
 |str (s:ByteArray):kL lk (.str s) (.str s)
 |df:kL lk .df (.sl [])
 |sl (T:U.Ty) (xs:List (U.den T)):kL lk (.sl T xs) (.sl (xs.map (U.pv T)))
 |own (id aq:Nat) (T:U.Ty) (xs:List (U.den T)) (h:lk id aq T=some xs):kL lk (.own id aq) (.sl (xs.map (U.pv T)))
 |gD (A B:U.Ty) (xs:List (U.den A×U.den B)):kL lk (.gD A B xs) (.gD (xs.map fun p=>cQ A p.1) (xs.map fun p=>cQ B p.2))
theorem Zc{lk:Lk U}{A B:U.Ty}{x:KV U}{xs:List (U.den A×U.den B)}(h:WW A B x=some xs):kL lk x (.gD (xs.map fun p=>cQ A p.1) (xs.map fun p=>cQ B p.2)):=by
 unfold WW at h;split at h
 ·obtain⟨e,e',rfl⟩:=Ud h;subst e;subst e';exact .gD _ _ _
 ·cases h
theorem Ze{lk:Lk U}{k:IntKind}{x:KV U}{n:Int}(h:WX k x=some n):kL lk x (.int k n):=by
 unfold WX at h;split at h
 ·split at h
  ·rename_i e;injection h with h;subst h e;exact .int _ _
  ·cases h
 ·cases h
theorem Zg{lk:Lk U}{x:KV U}{b:Bool}(h:EM x=some b):kL lk x (.bool b):=by
 unfold EM at h;split at h
 ·injection h with h;subst h;exact .bool _
 ·cases h
theorem Zb{lk:Lk U}{x:KV U}{s:ByteArray}(h:WU x=some s):kL lk x (.str s):=by
 unfold WU at h;split at h
 ·injection h with h;subst h;exact .str _
 ·cases h
theorem Zd{lk:Lk U}{T:U.Ty}{x:KV U}{xs:List (U.den T)}(h:PC lk T x=some xs):kL lk x (.sl (xs.map (U.pv T))):=by
 unfold PC at h;split at h
 ·injection h with h;subst h;exact .df
 ·obtain⟨e,rfl⟩:=lL h;subst e;exact .sl _ _
 ·exact .own _ _ _ _ h
 ·cases h
def PV.fQ:PV->Bool
 | .int ..| .bool _| .str _| .sl _| .gD ..=>true
 |_=>false
inductive gk (lk:Lk U):List (KV U)->List PV->Prop where
 |nil:gk lk [] []
 |cons {x:KV U} {y:PV} {xs:List (KV U)} {ys:List PV} (h:kL lk x y) (t:gk lk xs ys):gk lk (x::xs) (y::ys)
structure TK (U:TU) where
 bW:(t:U.Ty)->U.den t->List (KV U)
 dec:(t:U.Ty)->Lk U->List (KV U)->Option (U.den t)
 N4:Nat->Option U.Ty
 om:∀t v,(bW t v).map KV.pv=U.pv t v
 kE:∀t lk cs v,dec t lk cs=some v->gk lk cs (U.pv t v)
 len:∀t v,(U.pv t v).length=U.size t
 fQ:∀t v y,y∈U.pv t v->y.fQ=true
 one:∀t,U.agg t=false->U.size t=1
 plain:∀t,U.plain t=true->∀v y,y∈U.pv t v->y.plain=true
 La:U.Ty->Option (IntKind×IntKind)
 Ft:∀t k l,La t=some (k,l)->U.agg t=true/\∀v,∃a b,bW t v=[.int k a,.int l b]
variable (K : TK U)
def tt(T:U.Ty)(v:U.den T):KV U:=
 match U.agg T with
 |true=> .agg (K.bW T v)
 |false=>(K.bW T v).headD .any
def uG(lk:Lk U)(T:U.Ty)(x:KV U):Option (U.den T):=
 match U.agg T with
 |true=>(match x with| .agg cs=>K.dec T lk cs|_=>none)
 |false=>K.dec T lk [x]
theorem uc(T:U.Ty)(v:U.den T):(tt K T v).pv=cQ T v:=by
 unfold tt cQ;split
 ·simp only[KV.pv,KV.bX,K.om]
 ·rename_i h;have h1:=K.len T v;rw[K.one T h]at h1;have h2:=K.om T v
  cases he:K.bW T v with
  |nil=>rw[he]at h2;simp at h2;rw[h2]at h1;simp at h1
  |cons x l=>rw[he]at h2;rw[<-h2];rfl
def PV.c8:PV->Bool
 | .int ..| .bool _| .str _| .iY| .df| .any| .bw _ []=>true
 |_=>false
def KV.qA:PV->KV U
 | .int k n=> .int k n
 | .bool b=> .bool b
 | .str s=> .str s
 | .iY=> .iY
 | .df=> .df
 | .bw f []=> .bw f []
 |_=> .any
def aX.c8:aX->Bool
 | .tmp _=>true
 | .uw x=>x.c8
def aX.cp(S:aM U):aX->KV U
 | .tmp t=>S.env t
 | .uw x=>KV.qA x
theorem uq{S:aM U}{x:aX}(h:x.c8=true):x.val S.st=(x.cp S).pv:=by
 cases x with
 |tmp t=>rfl
 |uw x=>
  simp only[aX.c8]at h;unfold PV.c8 at h;split at h<;>first|rfl|(cases h)
def KV.cells:KV U->List (KV U)
 | .agg cs=>cs
 |x=>[x]
def KV.one:KV U->Bool
 | .int ..| .bool _| .fD| .str _| .iY| .df| .bw ..| .gZ ..| .ptr ..| .dZ ..| .ref _| .sl ..| .own ..| .view ..| .gD ..=>true
 |_=>false
def KV.closed:KV U->Bool
 | .int ..| .bool _| .str _| .iY| .df| .sl ..| .ref _| .gD ..=>true
 | .bw _ []=>true
 |_=>false
def KV.bo:KV U->Bool
 | .agg cs| .dx cs| .bw _ cs=>cs.all KV.closed
 |x=>x.closed
theorem Z2(x:KV U):x.pv.one=x.one:=by cases x<;>simp[KV.pv,PV.one,KV.one]
theorem Vv(x:KV U):x.pv.closed=x.closed:=by
 cases x with
 |bw f cs=>cases cs<;>simp[KV.pv,KV.zI,PV.closed,KV.closed]
 |_=>simp[KV.pv,PV.closed,KV.closed]
theorem tQ(x:KV U):x.pv.cells=x.cells.map KV.pv:=by cases x<;>simp[KV.pv,PV.cells,KV.cells,KV.bX]
theorem ll(l:List (KV U)):(l.map KV.pv).all PV.closed=l.all KV.closed:=by
 induction l with
 |nil=>rfl
 |cons x l ih=>simp only[QD,List.all_cons,Vv,ih]
theorem rN(l:List (KV U)):(l.map KV.pv).all PV.one=l.all KV.one:=by
 induction l with
 |nil=>rfl
 |cons x l ih=>simp only[QD,List.all_cons,Z2,ih]
theorem T9(x:KV U):x.pv.bo=x.bo:=by
 cases x with
 |agg cs=>simp only[KV.pv,PV.bo,KV.bo,KV.bX];exact ll cs
 |dx cs=>simp only[KV.pv,PV.bo,KV.bo,KV.bX];exact ll cs
 |bw f cs=>simp only[KV.pv,PV.bo,KV.bo,KV.bX];exact ll cs
 |_=>simp[KV.pv,PV.bo,KV.bo,PV.closed,KV.closed]
end
end Go.TQ
end
noncomputable section
namespace Go.TQ
open Go.RowKit
section
variable {P : Program} {nt : Nat} {hs : List Nat}
theorem w8{c:Code}{x y:SC}(h:aB P nt hs c=some (.seq x y)):∃p q,c= .seq p q/\aB P nt hs p=some x/\aB P nt hs q=some y:=by
 cases c with
 |seq p q=>
  simp only[aB]at h;split at h
  ·rename_i x' y' hx hy;injection h with h
   injection h with h1 h2
   subst h1 h2;exact⟨p,q,rfl,hx,hy⟩
  ·cases h
 |region id ops d=>cases d<;>simp only[aB]at h<;>(try split at h)<;>(try split at h)<;>(try split at h)<;>cases h
 |cond c x y=>simp only[aB]at h;split at h<;>cases h
 |block id c=>simp only[aB,Qb]at h;obtain⟨_,_,h⟩:=h;cases h
 |loop c=>simp only[aB,Qb]at h;obtain⟨_,_,h⟩:=h;cases h
 |rangeFunc g ps x y=>simp only[aB]at h;split at h<;>(try split at h)<;>cases h
 |_=>simp only[aB]at h<;>cases h
theorem J9{c:Code}{o:aX}{x y:SC}(h:aB P nt hs c=some (.cond o x y)):∃o' p q,c= .cond o' p q/\bf o'=some o/\aB P nt hs p=some x/\aB P nt hs q=some y:=by
 cases c with
 |cond o' p q=>
  simp only[aB]at h;split at h
  ·rename_i c' x' y' hc hx hy;injection h with h
   injection h with h1 h2 h3
   subst h1 h2 h3;exact⟨o',p,q,rfl,hc,hx,hy⟩
  ·cases h
 |region id ops d=>cases d<;>simp only[aB]at h<;>(try split at h)<;>(try split at h)<;>(try split at h)<;>cases h
 |seq x y=>simp only[aB]at h;split at h<;>cases h
 |block id c=>simp only[aB,Qb]at h;obtain⟨_,_,h⟩:=h;cases h
 |loop c=>simp only[aB,Qb]at h;obtain⟨_,_,h⟩:=h;cases h
 |rangeFunc g ps x y=>simp only[aB]at h;split at h<;>(try split at h)<;>cases h
 |_=>simp only[aB]at h<;>cases h
theorem GP{c:Code}{id:Nat}{x:SC}(h:aB P nt hs c=some (.block id x)):∃p,c= .block id p/\aB P nt hs p=some x:=by
 cases c with
 |block j p=>
  simp only[aB,Qb]at h;obtain⟨x',hx,h⟩:=h;injection h with h1 h2
  subst h1 h2;exact⟨p,rfl,hx⟩
 |region id ops d=>cases d<;>simp only[aB]at h<;>(try split at h)<;>(try split at h)<;>(try split at h)<;>cases h
 |seq x y=>simp only[aB]at h;split at h<;>cases h
 |cond c x y=>simp only[aB]at h;split at h<;>cases h
 |loop c=>simp only[aB,Qb]at h;obtain⟨_,_,h⟩:=h;cases h
 |rangeFunc g ps x y=>simp only[aB]at h;split at h<;>(try split at h)<;>cases h
 |_=>simp only[aB]at h<;>cases h
theorem Ub{c:Code}{x:SC}(h:aB P nt hs c=some (.loop x)):∃p,c= .loop p/\aB P nt hs p=some x:=by
 cases c with
 |loop p=>
  simp only[aB,Qb]at h;obtain⟨x',hx,h⟩:=h;injection h with h1
  subst h1;exact⟨p,rfl,hx⟩
 |region id ops d=>cases d<;>simp only[aB]at h<;>(try split at h)<;>(try split at h)<;>(try split at h)<;>cases h
 |seq x y=>simp only[aB]at h;split at h<;>cases h
 |cond c x y=>simp only[aB]at h;split at h<;>cases h
 |block id c=>simp only[aB,Qb]at h;obtain⟨_,_,h⟩:=h;cases h
 |rangeFunc g ps x y=>simp only[aB]at h;split at h<;>(try split at h)<;>cases h
 |_=>simp only[aB]at h<;>cases h
theorem MU{c:Code}{gs:List SG}(h:aB P nt hs c=some (.rV gs)):∃id ops,c= .region id ops false/\ops.toList.mapM (sd P hs ops)=some gs/\∀o∈ops.toList,∀t,o.dst=some t->t<nt:=by
 cases c with
 |region id ops d=>
  cases d with
  |true=>simp only[aB]at h;(try split at h)<;>(try split at h)<;>(try split at h)<;>cases h
  |false=>
   simp only[aB]at h;split at h
   ·rename_i gs' hgs;split at h
    ·rename_i hd;injection h with h
     injection h with h
     subst h;exact⟨id,ops,rfl,hgs,J4 hd⟩
    ·cases h
   ·cases h
 |seq x y=>simp only[aB]at h;split at h<;>cases h
 |cond c x y=>simp only[aB]at h;split at h<;>cases h
 |block id c=>simp only[aB,Qb]at h;obtain⟨_,_,h⟩:=h;cases h
 |loop c=>simp only[aB,Qb]at h;obtain⟨_,_,h⟩:=h;cases h
 |rangeFunc g ps x y=>simp only[aB]at h;split at h<;>(try split at h)<;>cases h
 |_=>simp only[aB]at h<;>cases h
theorem Uc{c:Code}{id:Nat}(h:aB P nt hs c=some (.exit id)):c= .exit id:=by
 cases c with
 |exit j=>simp only[aB,Qf,SC.exit.injEq]at h;rw[h]
 |region id ops d=>cases d<;>simp only[aB]at h<;>(try split at h)<;>(try split at h)<;>(try split at h)<;>cases h
 |seq x y=>simp only[aB]at h;split at h<;>cases h
 |cond c x y=>simp only[aB]at h;split at h<;>cases h
 |block id c=>simp only[aB,Qb]at h;obtain⟨_,_,h⟩:=h;cases h
 |loop c=>simp only[aB,Qb]at h;obtain⟨_,_,h⟩:=h;cases h
 |rangeFunc g ps x y=>simp only[aB]at h;split at h<;>(try split at h)<;>cases h
 |_=>simp only[aB]at h<;>cases h
theorem J8{c:Code}(h:aB P nt hs c=some .skip):c= .skip:=by
 cases c with
 |skip=>rfl
 |region id ops d=>cases d<;>simp only[aB]at h<;>(try split at h)<;>(try split at h)<;>(try split at h)<;>cases h
 |seq x y=>simp only[aB]at h;split at h<;>cases h
 |cond c x y=>simp only[aB]at h;split at h<;>cases h
 |block id c=>simp only[aB,Qb]at h;obtain⟨_,_,h⟩:=h;cases h
 |loop c=>simp only[aB,Qb]at h;obtain⟨_,_,h⟩:=h;cases h
 |rangeFunc g ps x y=>simp only[aB]at h;split at h<;>(try split at h)<;>cases h
 |_=>simp only[aB]at h<;>cases h
theorem Vx{c:Code}(h:aB P nt hs c=some .ret):c= .ret:=by
 cases c with
 |ret=>rfl
 |region id ops d=>cases d<;>simp only[aB]at h<;>(try split at h)<;>(try split at h)<;>(try split at h)<;>cases h
 |seq x y=>simp only[aB]at h;split at h<;>cases h
 |cond c x y=>simp only[aB]at h;split at h<;>cases h
 |block id c=>simp only[aB,Qb]at h;obtain⟨_,_,h⟩:=h;cases h
 |loop c=>simp only[aB,Qb]at h;obtain⟨_,_,h⟩:=h;cases h
 |rangeFunc g ps x y=>simp only[aB]at h;split at h<;>(try split at h)<;>cases h
 |_=>simp only[aB]at h<;>cases h
theorem gP{α β:Type}{f:α->Option β}{l:List α}{y:β}{ys:List β}(h:l.mapM f=some (y::ys)):∃x xs,l=x::xs/\f x=some y/\xs.mapM f=some ys:=by
 cases l with
 |nil=>simp at h
 |cons x xs=>
  simp only[List.mapM_cons,Qd,Qc,Option.pure_def,Qf,List.cons.injEq]at h;obtain⟨z,hz,zs,hzs,rfl,rfl⟩:=h;exact⟨x,xs,rfl,hz,hzs⟩
theorem Em{α β:Type}{f:α->Option β}{l:List α}(h:l.mapM f=some []):l=[]:=by
 cases l with
 |nil=>rfl
 |cons x xs=>
  simp only[List.mapM_cons,Qd,Qc,Option.pure_def,Qf]at h;obtain⟨z,hz,zs,hzs,h⟩:=h;cases h
theorem Vs{o:Oper}{fv:aX}{xs:List aX}(h:GM P hs o=some (.rL fv xs)):∃(g:Operand) (args:Array Operand) (ts:Array TypeId),o.op= .call {callee:= .value g,args:=args,argTypes:=ts}/\bf g=some fv/\args.toList.mapM bf=some xs:=by
 unfold GM at h;split at h
 case h_22 fop args ats hop=>
  simp only[Qd,Qc]at h;obtain⟨ys,hys,h⟩:=h;split at h
  ·cases h
  ·simp only[Qc,Qf,bE.rL.injEq]at h;obtain⟨fv',hfv,rfl,rfl⟩:=h;exact⟨_,_,_,hop,hfv,hys⟩
 all_goals (repeat' (first|(cases h;done)|split at h|(simp only[Qd,Qc]at h;obtain⟨_,_,h⟩:=h)|(obtain⟨_,_,h⟩:=h)))
theorem tP{x:Operand}{t:Nat}(h:bf x=some (.tmp t)):x= .tmp t:=by
 cases x with
 |tmp u=>simp only[bf,Qf,aX.tmp.injEq]at h;rw[h]
 |const v=>simp only[bf,Qb]at h;obtain⟨_,_,h⟩:=h;cases h
 |global g=>simp[bf]at h
 |func f=>simp[bf]at h
end
def y2(k:Nat)(nE:Option Nat):SC:=
 .seq (.rV [⟨some 4,none,.load none (.tmp 1)⟩,⟨some 5,none,.len false (.tmp 4)⟩,⟨some 6,none,.bin .sub (.tmp 5) (.uw (.int .i64 1))⟩,⟨some 3,none,.lv (.tmp 6)⟩])
  (.block 0 (.loop (.seq (.seq (.rV [⟨some 7,none,.lv (.tmp 3)⟩,⟨some 8,none,.bin .geq (.tmp 7) (.uw (.int .i64 0))⟩]) (.cond (.tmp 8) .skip (.exit 0)))
   (.seq (.block 1 (.seq (.rV [⟨some 11,none,.lv (.tmp 0)⟩,⟨some 12,none,.lv (.tmp 3)⟩,⟨some 13,none,.load none (.tmp 1)⟩,⟨some 14,none,.lv (.tmp 3)⟩,⟨some 15,none,.nS k (.tmp 13) (.tmp 14)⟩,
    ⟨some 16,none,.load nE (.tmp 15)⟩,⟨some 17,none,.rL (.tmp 11) [.tmp 12,.tmp 16]⟩,⟨some 18,none,.not (.tmp 17)⟩]) (.cond (.tmp 18) .ret .skip)))
    (.rV [⟨some 9,none,.lv (.tmp 3)⟩,⟨some 10,none,.bin .sub (.tmp 9) (.uw (.int .i64 1))⟩,⟨some 3,none,.lv (.tmp 10)⟩])))))
section
variable {P : Program}
def My:mn:=fun _=>none
theorem OQ:jx P My:=fun _ _ h=>by cases h
theorem On{Γ:mn}(hΓ:jx P Γ){E:En}{hs:List Nat}{ops:Array Oper}{l2:List Oper}:∀(l:List Oper) (gs:List SG) (nid:Nat) (S S':St) (a:Act) (w:World) (L:Nat->Value),l.mapM (sd P hs ops)=some gs->Rel E S a w L->nid+l.length<=S.N->
  (∀o∈l,∀t,o.dst=some t->E.can t)->uK Γ nid gs S=some S'->∀{Q:Exit->Act->World->Prop},(∀a' w' L',Rel E S' a' w' L'->wpListIn (WF E.rd) 0 P ops Q l2 a' w')->wpListIn (WF E.rd) 0 P ops Q (l++l2) a w
 |[],gs,nid,S,S',a,w,L,hm,h,hN,hd,hr,Q,hQ=>by
  simp at hm;subst hm;simp only[uK,Qf]at hr;subst hr;exact hQ a w L h
 |o::l,gs,nid,S,S',a,w,L,hm,h,hN,hd,hr,Q,hQ=>by
  simp only[List.mapM_cons,Qd,Qc,Option.pure_def,Qf]at hm;obtain⟨g,hg,gs',hgs,rfl⟩:=hm;simp only[uK]at hr;split at hr
  ·rename_i S1 hs;rw[List.cons_append];refine wpListIn_step fun K hK=> ?_
   refine ue hΓ hg h (by simp at hN;omega) (hd o (by simp)) hs (fun a' w' L' h'=>hK _ _ ?_)
   exact On hΓ l gs' (nid+1) S1 S' a' w' L' hgs h' (by rw[Xy hs];simp at hN;omega) (fun o' ho'=>hd o' (by simp[ho'])) hr hQ
  ·cases hr
def EB(W:World)(X:Nat->Prop)(hX:∀b,X b->b<W.heap.size)(kt:Nat->Option Value):En:=
 {w0:=W,rb:=none,nt:=19,X:=X,hX:=hX,HR:=false,rv:=undef,rk:=false,JL:=fun b hb=>(by cases hb),Pk:=fun h=>(by cases h),rd:=none,nd:=true,kt:=kt,wk:={W with heap:=#[]}}
def SB(env:Nat->PV):St:={env:=env,H:=fun _=>⟨0,.dead⟩,N:=8}
theorem NJ{W:World}{X:Nat->Prop}(hX:∀b,X b->b<W.heap.size){kt:Nat->Option Value}{env:Nat->PV}{a:Act}{L:Nat->Value}(hd:a.defers=[])(hs:a.tmps.size=19)(hk:∀t v,kt t=some v->a.tmps.getD t undef=v)
  (he:∀t,aS W X cJ (env t) (a.tmps.getD t undef)):Rel (EB W X hX kt) (SB env) a W L:=by
 have hM:∀b,aZ (EB W X hX kt) (SB env) L b->X b:=by
  rintro b (⟨id,_,hl,_⟩|h)
  ·cases hl
  ·exact h
 exact⟨Marks.nil hd,⟨hs,hk⟩,fun t=>(he t).mono (dq.of fun _ hn=>fun h=>hn (hM _ h)) (cJ.le _),fun _ _=>trivial,fun i j b _ _ hi=>(by cases hi),fun _ _=>rfl,⟨Fr.refl _ _,yd rfl⟩,fun h=>(by cases h)⟩
structure BF (y c:Value) (i:Int) (a:Act):Prop where
 defers:a.defers=[]
 size:a.tmps.size=19
 y:a.tmps.getD 0 undef=y
 c:a.tmps.getD 1 undef=c
 i:a.tmps.getD 3 undef= .int .i64 i
def wQ(y c:Value)(t:Nat):Option Value:=if t=0 then some y else if t=1 then some c else none
theorem yB{W W':World}{X:Nat->Prop}{hX:∀b,X b->b<W.heap.size}{kt:Nat->Option Value}{S:St}{a:Act}{L:Nat->Value}(h:Rel (EB W X hX kt) S a W' L):Fr none W W':=h.fr.toFr
theorem FA{hs:List Nat}{ops:Array Oper}{p:Nat->Prop}:∀{l:List Oper} {gs:List SG},l.mapM (sd P hs ops)=some gs->(∀g∈gs,∀t,g.d=some t->p t)->∀o∈l,∀t,o.dst=some t->p t
 |[],_,_,_=>by simp
 |x::l,gs,h,hp=>by
  simp only[List.mapM_cons,Qd,Qc,Option.pure_def,Qf]at h;obtain⟨g,hg,gs',hgs,rfl⟩:=h;intro o ho t ht;rcases QA.1 ho with rfl|ho
  ·exact hp g Qx t (by rw[(EP hg).2.1];exact ht)
  ·exact FA hgs (fun g hg=>hp g (Qy _ hg)) o ho t ht
def yV(es:List (List PV))(x:Nat->PV)(t:Nat):PV:=if t=1 then .ref [.sl es]else x t
variable {hs : List Nat} {es : List (List PV)} {y c : Value} {W : World} {X : Nat -> Prop} {hX : ∀ b, X b -> b < W.heap.size} {a : Act}
theorem BF.env{i:Int}(h:BF y c i a)(hc:aS W X cJ (.ref [.sl es]) c)(t:Nat):aS W X cJ (yV es (fun t=>if t=3 then .int .i64 i else .any) t) (a.tmps.getD t undef):=by
 unfold yV;split
 ·rename_i e;rw[e,h.c];exact hc
 ·simp only;split
  ·rename_i e;rw[e,h.i];exact .int _ _
  ·exact .any _
theorem BF.kt{i:Int}(h:BF y c i a)(t:Nat)(v:Value)(hv:wQ y c t=some v):a.tmps.getD t undef=v:=by
 unfold wQ at hv;split at hv
 ·rename_i e;injection hv with hv;rw[e,h.y,hv]
 ·split at hv
  ·rename_i e;injection hv with hv;rw[e,h.c,hv]
  ·cases hv
theorem BF.rel{i:Int}(h:BF y c i a)(hc:aS W X cJ (.ref [.sl es]) c)(L:Nat->Value):Rel (EB W X hX (wQ y c)) (SB (yV es fun t=>if t=3 then .int .i64 i else .any)) a W L:=
 NJ hX h.defers h.size h.kt (h.env hc)
theorem Ti{c0:Code}{gs:List SG}(hcc:aB P 19 hs c0=some (.rV gs)){env:Nat->PV}{S':St}(hlen:gs.length<=8)(hd:∀g∈gs,∀t,g.d=some t->t≠0/\t≠1){L:Nat->Value}(h:Rel (EB W X hX (wQ y c)) (SB env) a W L)
  (hr:uK My 0 gs (SB env)=some S') {Q:Exit->Act->World->Prop} (hQ:∀a' W' L',Rel (EB W X hX (wQ y c)) S' a' W' L'->Q .normal a' W'):c0.wpIn (WF none) 0 P Q a W:=by
 obtain⟨id,ops,rfl,hm,hlt⟩:=MU hcc;refine wpIn_region_list ?_;have hl:=pE hm;refine xI (E:=EB W X hX (wQ y c)) OQ ops.toList gs 0 (SB env) S' a W L hm h (by simp only[SB];omega) (fun o ho t ht=>⟨hlt o ho t ht,?_⟩) hr hQ
 have:=FA (p:=fun t=>t≠0/\t≠1) hm hd o ho t ht
 show wQ y c t=none;unfold wQ;rw[Qs this.1,Qs this.2]
theorem BF.of{S':St}{W':World}{L':Nat->Value}{i:Int}{a':Act}(h:Rel (EB W X hX (wQ y c)) S' a' W' L')(hi:S'.env 3= .int .i64 i):BF y c i a':=by
 refine⟨h.defers.none rfl,h.size.1,h.size.2 0 y rfl,h.size.2 1 c rfl,?_⟩;have:=h.env 3;rw[hi]at this;exact this.eL
theorem ZK(hc:aS W X cJ (.ref [.sl es]) c):es.length<=maxLen:=by
 cases hc with
 |ref _ ad vs hl hcell h=>
  cases vs with
  |nil=>simp at hl
  |cons v vs=>
   have h1:=h 0 (.sl es) v (by simp) (by simp)
   cases h1 with
   |sl _ _ _ _ _ _ _ _ _ hn hm=>omega
   |slnil=>simp
theorem wrap_small{n:Int}(h: -1<=n)(h':n<=9223372036854775807):IntKind.i64.wrap n=n:=by
 rw[IntKind.wrap_i64];omega
def wX(nE:Option Nat)(e:List PV):PV:=(pZ nE e).getD .any
structure E6 (k:Nat) (nE:Option Nat) (es:List (List PV)):Prop where
 len:∀e∈es,e.length=k
 ld:∀e∈es,pZ nE e=some (wX nE e)
 cl:∀e∈es,(wX nE e).bo=true
def P9(P:Program)(l:Nat)(i:Nat)(v:Value)(W:World)(R:Ending->World->Prop):Prop:=
 ∃(fn:FuncId) (tmps:Array Value) (assign body:Code),(Instr.yield l #[.int .i64 i,v]).run P W= .ok (.round l fn tmps assign body) W/\RoundIn (WF none) 0 P l fn tmps assign body W R
theorem Wc{k:Nat}{nE:Option Nat}{l:Nat}{m:Nat}(hin:E6 k nE es)(hX:∀b,X b->b<W.heap.size)(hc:aS W X cJ (.ref [.sl es]) c){J0 J1:World->Prop}(hJ0:∀W',Fr none W W'->J0 W')
  (hJ:∀W' W'',J1 W'->Fr none W' W''->J1 W'') {Jx:World->Prop} (hJx:∀W' W'',Jx W'->Fr none W' W''->Jx W'')
  (hr:∀(W':World) (e:List PV) (v:Value),J0 W'->es[m]?=some e->aS W' X cJ (wX nE e) v->P9 P l m v W' fun en W''=>(en= .returned (.bool true)/\J1 W'')\/(en= .returned (.bool false)/\Jx W''))
  {c0:Code} (hcc:aB P 19 hs c0=some (.rV [⟨some 11,none,.lv (.tmp 0)⟩,⟨some 12,none,.lv (.tmp 3)⟩,⟨some 13,none,.load none (.tmp 1)⟩,⟨some 14,none,.lv (.tmp 3)⟩,⟨some 15,none,.nS k (.tmp 13) (.tmp 14)⟩,
    ⟨some 16,none,.load nE (.tmp 15)⟩,⟨some 17,none,.rL (.tmp 11) [.tmp 12,.tmp 16]⟩,⟨some 18,none,.not (.tmp 17)⟩]))
  (hm:m<es.length) (hB:BF (.func (.yield l) #[] #[]) c m a) {Q:Exit->Act->World->Prop}
  (hQ:∀a' W' b,BF (.func (.yield l) #[] #[]) c m a'->a'.tmps.getD 18 undef= .bool (!b)->(b=true->J1 W')->(b=false->Jx W')->Q .normal a' W'):c0.wpIn (WF none) 0 P Q a W:=by
 obtain⟨id,ops,rfl,hmm,hlt⟩:=MU hcc;refine wpIn_region_list ?_;obtain⟨o11,l1,e1,g11,hm1⟩:=gP hmm;obtain⟨o12,l2,rfl,g12,hm2⟩:=gP hm1;obtain⟨o13,l3,rfl,g13,hm3⟩:=gP hm2;obtain⟨o14,l4,rfl,g14,hm4⟩:=gP hm3;obtain⟨o15,l5,rfl,g15,hm5⟩:=gP hm4;obtain⟨o16,l6,rfl,g16,hm6⟩:=gP hm5;obtain⟨o17,l7,rfl,g17,hm7⟩:=gP hm6;obtain⟨o18,l8,rfl,g18,hm8⟩:=gP hm7;have:=Em hm8;subst this;rw[e1]at hlt ⊢
 have plain:∀{o:Oper} {d:Option Nat} {s:bE},sd P hs ops o=some ⟨d,none,s⟩->o.guard=none/\o.dst=d/\GM P hs o=some s:=by
  intro o d s hg;obtain⟨q1,q2,q3⟩:=EP hg;rcases q3 with⟨q3,_⟩|⟨_,_,_,_,_,_,_,q⟩
  ·exact⟨q3,q2.symm,q1⟩
  ·cases q
 obtain⟨u1,u2,u3⟩:=plain g11
 have hmv:(o11.op= .move (.tmp 0)\/o11.op= .assign (.tmp 0)):=by
  unfold GM at u3;split at u3
  case h_1 x hx=>simp only[Qd,Qc,Qf,bE.lv.injEq]at u3;obtain⟨z,hz,rfl⟩:=u3;rw[tP hz]at hx;exact .inl hx
  case h_2 x hx=>simp only[Qd,Qc,Qf,bE.lv.injEq]at u3;obtain⟨z,hz,rfl⟩:=u3;rw[tP hz]at hx;exact .inr hx
  all_goals (exfalso)
  all_goals (repeat' (first|(cases u3;done)|split at u3|(simp only[Qd,Qc]at u3;obtain⟨_,_,u3⟩:=u3)|(obtain⟨_,_,u3⟩:=u3)))
 refine wpListIn_plain u1 fun K hK=> ?_
 have hev:a.eval (.tmp 0)= .func (.yield l) #[] #[]:=hB.y
 have step1:∀{Q':Exit->Act->World->Prop},K (a.put (some 11) (.func (.yield l) #[] #[])) W->o11.wpIn (WF none) 0 P a W K Q':=by
  intro Q' hk;unfold Oper.wpIn;rw[Oper.semAt_eq _ _ _ (AL u3)]
  have hrun:(execOp a.eval o11).run P W= .ok (.value (.func (.yield l) #[] #[])) W:=by
   rcases hmv with hx|hx<;>simp[execOp,hx,hev]
  rw[hrun];refine⟨fun _ _=>trivial,?_⟩
  show K (a.put o11.dst _) W;rw[u2];exact hk
 refine step1 (hK _ _ ?_);have hsz:(a.put (some 11) (.func (.yield l) #[] #[])).tmps.size=19:=by simp[Act.put,hB.size]
 have hne:∀t,t≠11->(a.put (some 11) (.func (.yield l) #[] #[])).tmps.getD t undef=a.tmps.getD t undef:=fun t ht=>Hu ht
 have h11:(a.put (some 11) (.func (.yield l) #[] #[])).tmps.getD 11 undef= .func (.yield l) #[] #[]:=by
  simp[Act.put,QN,Array.getElem?_setIfInBounds_self_of_lt (show 11<a.tmps.size by rw[hB.size];omega)]
 have hrel:Rel (EB W X hX (fun t=>if t=11 then some (.func (.yield l) #[] #[])else wQ (.func (.yield l) #[] #[]) c t)) (SB (yV es fun t=>if t=3 then .int .i64 m else .any)) (a.put (some 11) (.func (.yield l) #[] #[])) W (fun _=>undef):=by
  refine NJ hX hB.defers hsz (fun t v hv=> ?_) (fun t=> ?_)
  ·by_cases h0:t=11
   ·rw[Qr h0]at hv;injection hv with hv;rw[h0,h11,hv]
   ·rw[Qs h0]at hv;rw[hne t h0];exact hB.kt t v hv
  ·by_cases h0:t=11
   ·have:yV es (fun t=>if t=3 then .int .i64 m else .any) t= .any:=by rw[h0];rfl
    rw[this];exact .any _
   ·rw[hne t h0];exact hB.env hc t
 have helt:es[m]?=some es[m]:=Qv hm;have hek:=hin.len _ (Q0 hm);have hld:=hin.ld _ (Q0 hm);have s12:sC My 0 (SB (yV es fun t=>if t=3 then .int .i64 m else .any)) ⟨some 12,none,.lv (.tmp 3)⟩=some ((SB (yV es fun t=>if t=3 then .int .i64 m else .any)).cq (some 12) (.int .i64 m) none):=rfl
 generalize hS1:(SB (yV es fun t=>if t=3 then .int .i64 m else .any)).cq (some 12) (.int .i64 m) none=S1 at s12
 have s13:sC My 1 S1 ⟨some 13,none,.load none (.tmp 1)⟩=some (S1.cq (some 13) (.sl es) none):=by subst hS1;rfl
 generalize hS2:S1.cq (some 13) (.sl es) none=S2 at s13;have s14:sC My 2 S2 ⟨some 14,none,.lv (.tmp 3)⟩=some (S2.cq (some 14) (.int .i64 m) none):=by subst hS2 hS1;rfl
 generalize hS3:S2.cq (some 14) (.int .i64 m) none=S3 at s14;have e13:S3.env 13= .sl es:=by subst hS3 hS2 hS1;rfl
 have e14:S3.env 14= .int .i64 m:=by subst hS3 hS2 hS1;rfl
 have s15:sC My 3 S3 ⟨some 15,none,.nS k (.tmp 13) (.tmp 14)⟩=some (S3.cq (some 15) (.ref es[m]) none):=by
  simp only[sC,SG.wanted,exec,aX.val,e13,e14];rw[Qr ⟨by omega,by omega⟩]
  simp only[QV,helt,hek,Qt,Qe]
 generalize hS4:S3.cq (some 15) (.ref es[m]) none=S4 at s15;have e15:S4.env 15= .ref es[m]:=by subst hS4;rfl
 have s16:sC My 4 S4 ⟨some 16,none,.load nE (.tmp 15)⟩=some (S4.cq (some 16) (wX nE es[m]) none):=by
  simp only[sC,SG.wanted,exec,aX.val,e15,hld,Qe]
 generalize hS5:S4.cq (some 16) (wX nE es[m]) none=S5 at s16;have f12:S5.env 12= .int .i64 m:=by subst hS5 hS4 hS3 hS2 hS1;rfl
 have f16:S5.env 16=wX nE es[m]:=by subst hS5;rfl
 have f3:S5.env 3= .int .i64 m:=by subst hS5 hS4 hS3 hS2 hS1;rfl
 have hrun:uK My 0 [⟨some 12,none,.lv (.tmp 3)⟩,⟨some 13,none,.load none (.tmp 1)⟩,⟨some 14,none,.lv (.tmp 3)⟩,⟨some 15,none,.nS k (.tmp 13) (.tmp 14)⟩,⟨some 16,none,.load nE (.tmp 15)⟩] (SB (yV es fun t=>if t=3 then .int .i64 m else .any))=some S5:=by
  simp only[uK,s12,s13,s14,s15,s16]
 have hmap:[o12,o13,o14,o15,o16].mapM (sd P hs ops)=some [⟨some 12,none,.lv (.tmp 3)⟩,⟨some 13,none,.load none (.tmp 1)⟩,⟨some 14,none,.lv (.tmp 3)⟩,⟨some 15,none,.nS k (.tmp 13) (.tmp 14)⟩,⟨some 16,none,.load nE (.tmp 15)⟩]:=by
  simp only[List.mapM_cons,List.mapM_nil,g12,g13,g14,g15,g16,Qd,Qa,Option.pure_def]
 show wpListIn (WF none) 0 P ops Q ([o12,o13,o14,o15,o16]++[o17,o18]) _ W;refine On (E:=EB W X hX _) OQ _ _ 0 _ S5 _ W _ hmap hrel (by simp[SB]) (fun o ho t ht=>⟨hlt o (by simp only[QA]at ho ⊢;right;rcases ho with h|h|h|h|h|h<;>simp_all) t ht,?_⟩) hrun (fun a5 W5 L5 h5=> ?_)
 ·have:=FA (p:=fun t=>t≠0/\t≠1/\t≠11) hmap (by intro g hg t ht;simp only[QA,QR,or_false]at hg;rcases hg with rfl|rfl|rfl|rfl|rfl<;>(injection ht with ht;omega)) o ho t ht
  show(if t=11 then _ else wQ _ _ t)=none
  rw[Qs this.2.2];unfold wQ;rw[Qs this.1,Qs this.2.1]
 have hfr5:Fr none W W5:=yB h5;have v11:a5.tmps.getD 11 undef= .func (.yield l) #[] #[]:=h5.size.2 11 _ rfl;have v12:a5.tmps.getD 12 undef= .int .i64 m:=by have:=h5.env 12;rw[f12]at this;exact this.eL
 have r16:aS W5 X cJ (wX nE es[m]) (a5.tmps.getD 16 undef):=by
  have:=h5.env 16;rw[f16]at this;exact this.bo (hin.cl _ (Q0 hm)) (fun b hb=> .inr hb)
 have hB5:BF (.func (.yield l) #[] #[]) c m a5:=⟨h5.defers.none rfl,h5.size.1,h5.size.2 0 _ rfl,h5.size.2 1 _ rfl,by have:=h5.env 3;rw[f3]at this;exact this.eL⟩
 obtain⟨fn,tmps,assign,body,hy,hround⟩:=hr W5 _ _ (hJ0 W5 hfr5) helt r16;obtain⟨w1,w2,w3⟩:=plain g17;obtain⟨gv,args,ts,hop,hgv,hargs⟩:=Vs w3;have hgv:=tP hgv;subst hgv;obtain⟨x12,xs,ex,hx12,hxs⟩:=gP hargs;obtain⟨x16,xs',rfl,hx16,hxs'⟩:=gP hxs;have:=Em hxs';subst this;rw[tP hx12,tP hx16]at ex;have hargs':args=#[.tmp 12,.tmp 16]:=by rw[<-Array.toArray_toList (xs:=args),ex]
 refine wpListIn_plain w1 fun K hK=> ?_
 unfold Oper.wpIn;rw[Oper.semAt_eq _ _ _ (AL w3)]
 have hrun17:(execOp a5.eval o17).run P W5= .ok (.round l fn tmps assign body) W5:=by
  have q1:a5.eval (.tmp 11)= .func (.yield l) #[] #[]:=v11;simp only[execOp,hop,resolve,q1,Deferred.ofValue,Sem.run_bind,Sem.run_pure,Result.andThen_ok,invoke,hargs'];have q4:a5.tmps[12]?.getD undef= .int .i64 m:=by rw[<-QN];exact v12
  simpa[Act.eval,q4]using hy
 rw[hrun17];refine⟨fun _ _=>trivial,(fun h=>by cases h),hround.mono ?_⟩
 rintro en W6 hen
 have fin:∀b:Bool,en= .returned (.bool b)->(b=true->J1 W6)->(b=false->Jx W6)->K (a5.put o17.dst (.bool b)) W6:=by
  rintro b rfl hj1 hjx;refine hK _ _ ?_;rw[w2];have hsz6:(a5.put (some 17) (.bool b)).tmps.size=19:=by simp[Act.put,hB5.size]
  have hne6:∀t,t≠17->(a5.put (some 17) (.bool b)).tmps.getD t undef=a5.tmps.getD t undef:=fun t ht=>Hu ht
  have h17:(a5.put (some 17) (.bool b)).tmps.getD 17 undef= .bool b:=by
   simp[Act.put,QN,Array.getElem?_setIfInBounds_self_of_lt (show 17<a5.tmps.size by rw[hB5.size];omega)]
  have hrel6:Rel (EB W6 (fun _=>False) (fun _ h=>h.elim) (wQ (.func (.yield l) #[] #[]) c)) (SB fun t=>if t=17 then .bool b else if t=3 then .int .i64 m else .any) (a5.put (some 17) (.bool b)) W6 (fun _=>undef):=by
   refine NJ _ hB5.defers hsz6 (fun t v hv=> ?_) (fun t=> ?_)
   ·by_cases h0:t=17
    ·subst h0;cases hv
    ·rw[hne6 t h0];exact hB5.kt t v hv
   ·split
    ·rename_i h0;rw[h0,h17];exact .bool _
    ·rename_i h0;rw[hne6 t h0];split
     ·rename_i h3;rw[h3,hB5.i];exact .int _ _
     ·exact .any _
  have hmap18:[o18].mapM (sd P hs ops)=some [⟨some 18,none,.not (.tmp 17)⟩]:=by simp only[List.mapM_cons,List.mapM_nil,g18,Qd,Qa,Option.pure_def]
  refine xI (E:=EB W6 (fun _=>False) (fun _ h=>h.elim) _) OQ _ _ 0 _ ((SB fun t=>if t=17 then .bool b else if t=3 then .int .i64 m else .any).cq (some 18) (.bool !b) none) _ W6 _ hmap18 hrel6 (by simp[SB]) (fun o ho t ht=>⟨hlt o (by simp only[QA]at ho ⊢;simp_all) t ht,?_⟩) rfl (fun a7 W7 L7 h7=> ?_)
  ·have:=FA (p:=fun t=>t≠0/\t≠1) hmap18 (by intro g hg t ht;simp only[QA,QR,or_false]at hg;subst hg;injection ht with ht;omega) o ho t ht
   show wQ _ _ t=none;unfold wQ;rw[Qs this.1,Qs this.2]
  ·have hfr7:=yB h7;refine hQ a7 W7 b (BF.of h7 rfl) ?_ (fun hb=>hJ _ _ (hj1 hb) hfr7) (fun hb=>hJx _ _ (hjx hb) hfr7)
   have:=h7.env 18;have e18:((SB fun t=>if t=17 then .bool b else if t=3 then .int .i64 m else .any).cq (some 18) (.bool !b) none).env 18= .bool !b:=rfl
   rw[e18]at this;exact this.lj
 rcases hen with⟨rfl,hj⟩|⟨rfl,hj⟩
 ·exact fin true rfl (fun _=>hj) (fun h=>by cases h)
 ·exact fin false rfl (fun h=>by cases h) (fun _=>hj)
theorem Uh{f:FuncId}{k:Nat}{nE:Option Nat}(hf:gp P f 19 (y2 k nE) [])(hin:E6 k nE es){l:Nat}(J:Nat->(Nat->Prop)->World->Prop)(Jx:World->Prop)
  (hc:∀i X W,J i X W->(∀b,X b->b<W.heap.size)/\aS W X cJ (.ref [.sl es]) c) (hJ:∀i X W' W'',J i X W'->Fr none W' W''->J i X W'') (hJx:∀W' W'',Jx W'->Fr none W' W''->Jx W'')
  (hr:∀(m:Nat) (X:Nat->Prop) (W':World) (e:List PV) (v:Value),J (m+1) X W'->es[m]?=some e->aS W' X cJ (wX nE e) v->P9 P l m v W' fun en W''=>(en= .returned (.bool true)/\∃X,J m X W'')\/(en= .returned (.bool false)/\Jx W''))
  (W:World) (h0:J es.length X W):CallsIn (WF none) 0 P f #[.func (.yield l) #[] #[],c] W fun en W'=>(∃v,en= .returned v)/\((∃X,J 0 X W')\/Jx W'):=by
 obtain⟨fn,hs,h1,h2,h3,h4,_⟩:=hf
 cases hb:fn.body with
 |none=>rw[hb]at h3;cases h3
 |some c0=>
 rw[hb]at h3;have h3:aB P 19 hs c0=some (y2 k nE):=h3
 have hres:fn.results.toList=[]:=by
  cases hq:fn.results.toList with
  |nil=>rfl
  |cons r rs=>rw[hq]at h4;cases r<;>simp only[mL]at h4<;>first|(split at h4<;>cases h4)|(simp only[Qb]at h4;obtain⟨_,_,h4⟩:=h4;cases h4)
 have hresr:∀(tm:Array Value) (W:World),(results fn tm).run P W= .ok (.tuple #[]) W:=by
  intro tm W;unfold results;rw[Array.mapM_eq_mapM_toList,hres];simp
 refine callsIn_of_wp (F:=WF none) (n:=0) h1 hb trivial ?_;obtain⟨cA,cB,rfl,hA,hB⟩:=w8 h3;obtain⟨cL,rfl,hL⟩:=GP hB;obtain⟨cR,rfl,hR⟩:=Ub hL;obtain⟨cR1,cR2,rfl,hR1,hR2⟩:=w8 hR;obtain⟨cT,cC,rfl,hT,hC⟩:=w8 hR1;obtain⟨oc,cS,cX,rfl,hoc,hcS,hcX⟩:=J9 hC;have:=J8 hcS;subst this;have:=Uc hcX;subst this;have:=tP hoc;subst this;obtain⟨cM,cN,rfl,hM,hN⟩:=w8 hR2;obtain⟨cM2,rfl,hM2⟩:=GP hM;obtain⟨cG,cH,rfl,hG,hH⟩:=w8 hM2;obtain⟨od,cV,cK,rfl,hod,hcV,hcK⟩:=J9 hH;have:=Vx hcV;subst this;have:=J8 hcK;subst this;have:=tP hod;subst this;have hmax:=ZK (hc _ _ _ h0).2;simp only[maxLen]at hmax
 have hargs:∀t,(#[Value.func (.yield l) #[] #[],c]++Array.replicate (fn.ntmps - (#[Value.func (.yield l) #[] #[],c]:Array Value).size) undef).getD t undef=if t=0 then .func (.yield l) #[] #[]else if t=1 then c else undef:=by
  intro t;rw[h2,QN,Array.getElem?_append]
  match t with
  |0=>rfl
  |1=>rfl
  |t+2=>
   simp only[List.size_toArray,QE,QZ];rw[Qs (by omega),Qs (by omega),Qs (by omega),Array.getElem?_replicate]
   split<;>rfl
 refine wpIn_seq ?_
 have hrel0:Rel (EB W X (hc _ _ _ h0).1 (wQ (.func (.yield l) #[] #[]) c)) (SB (yV es fun _=> .any)) {tmps:=#[Value.func (.yield l) #[] #[],c]++Array.replicate (fn.ntmps - (#[Value.func (.yield l) #[] #[],c]:Array Value).size) undef,defers:=[]} W (fun _=>undef):=by
  refine NJ _ rfl (by simp[h2]) (fun t v hv=> ?_) (fun t=> ?_)
  ·simp only;rw[hargs t];unfold wQ at hv;split at hv
   ·rename_i e;rw[Qr e];injection hv
   ·rename_i e;rw[Qs e];split at hv
    ·rename_i e';rw[Qr e'];injection hv
    ·cases hv
  ·simp only;rw[hargs t];unfold yV;split
   ·rename_i e;subst e;exact(hc _ _ _ h0).2
   ·exact .any _
 have dA:∀g∈[(⟨some 4,none,.load none (.tmp 1)⟩:SG),⟨some 5,none,.len false (.tmp 4)⟩,⟨some 6,none,.bin .sub (.tmp 5) (.uw (.int .i64 1))⟩,⟨some 3,none,.lv (.tmp 6)⟩],∀t,g.d=some t->t≠0/\t≠1:=by
  intro g hg t ht;simp only[QA,QR,or_false]at hg;rcases hg with rfl|rfl|rfl|rfl<;>(injection ht with ht;omega)
 refine Ti hA (by simp) dA hrel0 rfl fun a1 W1 L1 r1=> ?_
 have hJ1:J es.length X W1:=hJ _ _ _ _ h0 (yB r1)
 have b1:BF (.func (.yield l) #[] #[]) c ((es.length:Int) - 1) a1:=by
  refine BF.of r1 ?_;show PV.int .i64 (IntKind.i64.wrap ((es.length:Int) - 1))=_;rw[wrap_small (by omega) (by omega)]
 refine wpIn_block ?_;refine wpIn_loop_ghost (fun n a W=>n<=es.length/\BF (.func (.yield l) #[] #[]) c ((n:Int) - 1) a/\∃X,J n X W) es.length ⟨QI _,b1,X,hJ1⟩ ?_
 rintro n a W ⟨hn,hb,X,hj⟩;refine wpIn_seq (wpIn_seq ?_)
 have dT:∀g∈[(⟨some 7,none,.lv (.tmp 3)⟩:SG),⟨some 8,none,.bin .geq (.tmp 7) (.uw (.int .i64 0))⟩],∀t,g.d=some t->t≠0/\t≠1:=by
  intro g hg t ht;simp only[QA,QR,or_false]at hg;rcases hg with rfl|rfl<;>(injection ht with ht;omega)
 refine Ti hT (by simp) dT (hb.rel (hX:=(hc _ _ _ hj).1) (hc _ _ _ hj).2 (fun _=>undef)) rfl fun a2 W2 L2 r2=> ?_
 have hj2:J n X W2:=hJ _ _ _ _ hj (yB r2);have b2:BF (.func (.yield l) #[] #[]) c ((n:Int) - 1) a2:=BF.of r2 rfl
 have t8:a2.eval (.tmp 8)= .bool (decide (0<=(n:Int) - 1)):=by
  have:=r2.env 8;exact(show aS _ _ _ (.bool (decide ((0:Int)<=(n:Int) - 1))) _ from this).lj
 refine wpIn_cond t8 ?_
 cases n with
 |zero=>
  rw[Qh (by omega)]
  refine wpIn_exit ?_;simp only[Exit.then,Exit.inBlock,Qt]
  exact⟨b2.defers,_,hresr _ _,⟨_,rfl⟩,.inl ⟨X,hj2⟩⟩
 |succ m=>
  rw[Qg (by omega)]
  refine wpIn_skip ?_;have e1:((m+1:Nat):Int) - 1=(m:Int):=by omega
  rw[e1]at b2;refine wpIn_seq (wpIn_block (wpIn_seq ?_));refine Wc (J0:=J (m+1) X) (J1:=fun W=>∃X,J m X W) (Jx:=Jx) hin (hc _ _ _ hj2).1 (hc _ _ _ hj2).2 (fun W' hW'=>hJ _ _ _ _ hj2 hW') (fun _ _ ⟨X',q1⟩ q2=>⟨X',hJ _ _ _ _ q1 q2⟩) hJx (fun W' e v q1 q2 q3=>hr m X W' e v q1 q2 q3) hG (by omega) b2 fun a3 W3 b hb3 t18 hj3 hx3=> ?_
  refine wpIn_cond (t:= !b) t18 ?_
  cases b with
  |false=>
   refine wpIn_ret ?_;exact⟨hb3.defers,_,hresr _ _,⟨_,rfl⟩,.inr (hx3 rfl)⟩
  |true=>
   refine wpIn_skip ?_
   have dN:∀g∈[(⟨some 9,none,.lv (.tmp 3)⟩:SG),⟨some 10,none,.bin .sub (.tmp 9) (.uw (.int .i64 1))⟩,⟨some 3,none,.lv (.tmp 10)⟩],∀t,g.d=some t->t≠0/\t≠1:=by
    intro g hg t ht;simp only[QA,QR,or_false]at hg;rcases hg with rfl|rfl|rfl<;>(injection ht with ht;omega)
   obtain⟨X',hj4⟩:=hj3 rfl;refine Ti hN (by simp) dN (hb3.rel (hX:=(hc _ _ _ hj4).1) (hc _ _ _ hj4).2 (fun _=>undef)) rfl fun a4 W4 L4 r4=> ?_
   refine⟨m,Nat.lt_succ_self m,by omega,BF.of r4 ?_,X',hJ _ _ _ _ hj4 (yB r4)⟩
   show PV.int .i64 (IntKind.i64.wrap ((m:Int) - 1))=_;rw[wrap_small (by omega) (by omega)]
end
end Go.TQ
end
noncomputable section
namespace Go.TQ
open Go.RowKit
section
variable {P : Program} {E : En} {S : St} {a : Act} {w : World} {L : Nat -> Value}
theorem Rel.Fg(h:Rel E S a w L){w':World}{a':Act}{env':Nat->PV}(rd:Option Nat)(nd:Bool)(kt:Nat->Option Value)(wk:World)
  (hc:∀(b:Nat) (o:Obj),w.heap[b]?=some o->Pe o=true->w'.heap[b]?=some o) (he:∀t,aS w (aZ E S L) (S.gh L) (env' t) (a'.tmps.getD t undef))
  (hm:Marks {E with rd:=rd,nd:=nd,kt:=kt,wk:=wk} a' w') (hs:a'.tmps.size=E.nt/\∀t v,kt t=some v->a'.tmps.getD t undef=v) (hf:FrE {E with rd:=rd,nd:=nd,kt:=kt,wk:=wk} w'):
  Rel {E with rd:=rd,nd:=nd,kt:=kt,wk:=wk} {S with env:=env'} a' w' L:=by
 have hcell:∀(p:Addr) (v:Value),w.cell? p=some v->w'.heap[p.block]?=w.heap[p.block]?:=by
  intro p v hp;unfold World.cell? at hp
  cases ho:w.heap[p.block]? with
  |none=>rw[ho]at hp;simp at hp
  |some o=>
   refine hc _ o ho ?_;rw[ho]at hp;cases o<;>first|rfl|(simp at hp)
 have hst:dq w w' (aZ E S L) (aZ E S L):=⟨fun p v hp hn=>⟨(World.cell?_of_block (hcell p v hp)).trans hp,hn⟩,fun b _ _ hb hn=>⟨hc b _ hb rfl,hn⟩⟩
 refine⟨hm,hs,fun t=>(he t).mono hst (Gh.le.refl _),fun id hid=> ?_,h.apart,h.fresh,hf,h.uM⟩
 have ho:=h.obj id hid
 cases hl:(S.H id).c.live with
 |false=>
  cases hcc:(S.H id).c with
  |dead=>trivial
  |box cs=>rw[hcc]at hl;cases hl
  |row e k es=>rw[hcc]at hl;cases hl
 |true=>
  have:=tl.mono (w':=w') hst (Gh.le.refl _) (fun b hb _=>by
   obtain⟨o,h1,h2⟩:=ho.cells hl hb;rw[h1]
   exact hc b o h1 (YM h2)) ho
  cases hcc:(S.H id).c with
  |dead=>trivial
  |box cs=>rw[hcc]at this;exact this
  |row e k es=>rw[hcc]at this;exact this
theorem Fr.putObj{rb:Option Nat}{w0:World}(h:Fr rb w0 w){l:Nat}(hl:w0.heap.size<=l)(o:Obj):Fr rb w0 (w.putObj l o):=
 ⟨h.os,h.tape,h.output,by rw[World.putObj_size];exact h.size,fun b hb hr=>by rw[World.putObj_heap_other (by omega)];exact h.block b hb hr,h.drawn⟩
def St.rI(S:St)(D:List Nat):St:={S with env:=fun t=>if t∈D then .any else S.env t}
theorem Rel.drop(h:Rel E S a w L)(D:List Nat):Rel E (S.rI D) a w L:=
 ⟨h.defers,h.size,fun t=>by
  show aS _ _ _ (if t∈D then .any else S.env t) _
  split
  ·exact .any _
  ·exact h.env t,h.obj,h.apart,h.fresh,h.fr,h.uM⟩
theorem acD(r:Loop):Va (.loop r)=false:=rfl
theorem Yz{x:World}(h:xx x w){l:Nat}(hl:x.heap.size<=l)(o:Obj):xx x (w.putObj l o):=
 ⟨by rw[World.putObj_size];exact h.size,fun k p hk hp=>by
  have hlt:k<x.heap.size:=(Array.getElem?_eq_some_iff.1 hk).1;rw[World.putObj_heap_other (by omega)]
  exact h.same k p hk hp⟩
theorem ET{l:Nat}{o:Obj}(hl:w.heap[l]?=some o)(ho:Pe o=false)(o':Obj):∀(b:Nat) (q:Obj),w.heap[b]?=some q->Pe q=true->(w.putObj l o').heap[b]?=some q:=by
 intro b q hb hq
 have:b≠l:=by
  intro e;subst e;rw[hl]at hb;injection hb with hb
  subst hb;rw[ho]at hq;cases hq
 rw[World.putObj_heap_other this];exact hb
def U8:Exit->Option Code
 | .ret=>some .ret
 | .exit i=>some (.exit i)
 | .goto l=>some (.goto l)
 |_=>none
def Q5(I:St->Prop)(S:St):Prop:=∃S',(∀(E:En) (a:Act) (w:World) (L:Nat->Value),Rel E S a w L->∃L',Rel E S' a w L')/\I S'
theorem Q5.of{I:St->Prop}{S:St}(h:I S):Q5 I S:=⟨S,fun _ _ _ L h=>⟨L,h⟩,h⟩
def ZQ(D:List Nat)(I:St->Prop)(Q:Exit->St->Prop):Exit->St->Prop
 | .normal,T=>Q5 I (T.rI D)
 | .ret,T=>Q .ret (T.rI D)
 | .exit i,T=>Q (.exit i) (T.rI D)
 | .goto l,T=>Q (.goto l) (T.rI D)
 |_,_=>False
theorem abv(ts:Array Value)(p0 p1:Nat)(u v:Value):(#[p0,p1].zip #[u,v]).foldl (fun tmps x=>match x with|(t,a)=>tmps.setIfInBounds t a) ts=(ts.setIfInBounds p0 u).setIfInBounds p1 v:=by
 rw[<-Array.foldl_toList,Array.toList_zip];rfl
theorem acE{ts:Array Value}{p0 p1 t:Nat}{u v:Value}(h0:p0<ts.size)(h1:p1<ts.size):((ts.setIfInBounds p0 u).setIfInBounds p1 v).getD t undef=if t=p1 then v else if t=p0 then u else ts.getD t undef:=by
 simp only[QN]
 by_cases q1:t=p1
 ·subst q1;rw[Qr rfl,Array.getElem?_setIfInBounds_self_of_lt (by simpa using h1)]
  rfl
 ·rw[Qs q1,Array.getElem?_setIfInBounds_ne (fun e=>q1 e.symm)]
  by_cases q0:t=p0
  ·subst q0;rw[Qr rfl,Array.getElem?_setIfInBounds_self_of_lt h0];rfl
  ·rw[Qs q0,Array.getElem?_setIfInBounds_ne (fun e=>q0 e.symm)]
theorem aaE{nt:Nat}{tg p0 p1:Nat}{assign body:Code}{f:FuncId}{k:Nat}{nE:Option Nat}{es:List (List PV)}{Q:Exit->St->Prop}(hf:gp P f 19 (y2 k nE) [])(hin:E6 k nE es)(hna:xi assign=true)(hnb:xi body=true)
  (hp0:p0<nt) (hp1:p1<nt) (_htg:tg∉jN (.rangeFunc (.tmp tg) #[p0,p1] assign body)) (I:Nat->St->Prop)
  (h0:Q5 (I es.length) (S.rI (jN (.rangeFunc (.tmp tg) #[p0,p1] assign body)))) (hI:∀i T,I i T->T.env tg= .bw f [.ref [.sl es]])
  (hround:∀m T e,I (m+1) T->es[m]?=some e->V P nt assign (KC (V P nt body (ZQ (jN (.rangeFunc (.tmp tg) #[p0,p1] assign body)) (I m) Q)) (fun _ _=>False)) {T with env:=bu (bu T.env p0 (.int .i64 m)) p1 (wX nE e)})
  (hend:∀T,I 0 T->Q .normal T):V P nt (.rangeFunc (.tmp tg) #[p0,p1] assign body) Q S:=by
 intro E hE hk a w L hrel;generalize hD:jN (.rangeFunc (.tmp tg) #[p0,p1] assign body)=D at*;have hk1:∀t∈D,E.kt t=none:=by rw[<-hD];exact hk.1
 obtain⟨hrd,hnd⟩:E.rd=none/\E.nd=false:=by
  rcases hk.2 with h|h
  ·exact h
  ·cases h
 have hDa:∀t∈jN assign,t∈D:=by rw[<-hD];intro t ht;simp only[jN,Qz];exact .inl (.inr ht)
 have hDb:∀t∈jN body,t∈D:=by rw[<-hD];intro t ht;simp only[jN,Qz];exact .inr ht
 have hD0:p0∈D:=by rw[<-hD];simp[jN]
 have hD1:p1∈D:=by rw[<-hD];simp[jN]
 have hclo:∀{i:Nat} {T:St} {w':World} {L':Nat->Value},I i T->Rel E T a w' L'->∃c,a.tmps.getD tg undef= .func (.func f) #[] #[c]/\aS w' (aZ E T L') cJ (.ref [.sl es]) c:=by
  intro i T w' L' hi hr;have:=hr.env tg;rw[hI i T hi]at this;obtain⟨vs,hv,hrv⟩:=this.uy;obtain⟨c,vs',rfl,hc,hr'⟩:=hrv.cons_inv;have:=hr'.lU;subst this;exact⟨c,hv,hc.closed rfl (fun b hb=>hb)⟩
 obtain⟨S0,hw0,h0⟩:=h0;obtain⟨L,hrel0⟩:=hw0 E a w L (hrel.drop D);obtain⟨c,hgv,hc0⟩:=hclo h0 hrel0;rw[hrd];refine wpIn_rangeFunc ?_;intro fn _;obtain⟨rec,hrec⟩:∃rec:LoopState->Option Code->Loop,rec=fun st pe=>{state:=st,pending:=pe,fn,tmps:=a.tmps,params:=#[p0,p1],assign,body,defers:=w.heap.size}:=⟨_,rfl⟩
 obtain⟨W1,hW1⟩:∃W1,(w.alloc (.deferred (some []))).alloc (.loop (rec .ready none))=W1:=⟨_,rfl⟩
 have hL1:W1.heap[w.heap.size+1]?=some (.loop (rec .ready none)):=by
  rw[<-hW1];have:=World.alloc_heap_new (w.alloc (.deferred (some []))) (.loop (rec .ready none));rwa [World.size_alloc]at this
 have hK1:W1.heap[w.heap.size]?=some (.deferred (some [])):=by
  rw[<-hW1];exact(Below.heap_alloc _ _ _ (by simp)).trans (World.alloc_heap_new w _)
 let J:Nat->(Nat->Prop)->World->Prop:=fun i X W=>∃T L',X=aZ E T L'/\I i T/\Rel E T a W L'/\W.heap[w.heap.size+1]?=some (.loop (rec .ready none))/\W.heap[w.heap.size]?=some (.deferred (some []))
 let Jx:World->Prop:=fun W=>∃en j T L',U8 en=some j/\Q en T/\Rel E T a W L'/\W.heap[w.heap.size+1]?=some (.loop (rec .done (some j)))/\W.heap[w.heap.size]?=some (.deferred (some []))
 have grow:∀{T:St} {L':Nat->Value} {W' W'':World},Rel E T a W' L'->Fr none W' W''->Rel E T a W'' L':=fun h hf=>(h.grow hf.os hf.tape hf.output hf.size (fun b hb=>hf.block b hb (by simp)) hf.drawn).1
 have dV:∀{W' W'':World} {b:Nat} {o:Obj},Fr none W' W''->W'.heap[b]?=some o->W''.heap[b]?=some o:=fun hf hb=>by rw[hf.block _ (Array.getElem?_eq_some_iff.1 hb).1 (by simp)];exact hb
 have hE0:E.w0.heap.size<=w.heap.size:=hrel.fr.size;have hEk:E.wk.heap.size<=w.heap.size:=hrel.fr.ko.size
 have hW1s:∀(b:Nat),b<w.heap.size->W1.heap[b]?=w.heap[b]?:=by
  intro b hb;rw[<-hW1];exact(Below.heap_alloc _ _ _ (by simp;omega)).trans (Below.heap_alloc _ _ _ hb)
 have hrel1:Rel E S0 a W1 L:=(hrel0.grow (w':=W1) (by rw[<-hW1];rfl) (by rw[<-hW1];rfl) (by rw[<-hW1];rfl) (by rw[<-hW1];simp;omega) hW1s (by rw[<-hW1];exact QI _)).1
 have old:∀d∈a.defers,∃Do,d={target:= .collected Do,args:=#[]}/\E.w0.heap.size<=Do/\Do<w.heap.size:=by
  intro d hd;obtain⟨Do,q1,q2,q3⟩:=hrel.defers.at_ d hd
  exact⟨Do,q1,q2,(Array.getElem?_eq_some_iff.1 q3).1⟩
 have hrounds:∀(m:Nat) (X:Nat->Prop) (W':World) (e:List PV) (v:Value),J (m+1) X W'->es[m]?=some e->aS W' X cJ (wX nE e) v->P9 P (w.heap.size+1) m v W' fun en W''=>(en= .returned (.bool true)/\∃X,J m X W'')\/(en= .returned (.bool false)/\Jx W''):=by
  rintro m X W' e v ⟨T,L',rfl,hi,hr,hl,hk⟩ hem hrep;refine⟨fn,(a.tmps.setIfInBounds p0 (.int .i64 m)).setIfInBounds p1 v,assign,body,by rw[run_yield hl (by rw[hrec];rfl)];simp only[hrec];rw[<-abv],?_⟩
  refine roundIn_of_wpIn (F:=WF none) trivial ?_
  let E1:En:={E with rd:=some (w.heap.size+1),nd:=true,kt:=fun t=>if t∈D then none else some (a.tmps.getD t undef),wk:=W'}
  have hget:∀t,((a.tmps.setIfInBounds p0 (.int .i64 m)).setIfInBounds p1 v).getD t undef=if t=p1 then v else if t=p0 then .int .i64 m else a.tmps.getD t undef:=by
   intro t;exact acE (by rw[hr.size.1,hE];exact hp0) (by rw[hr.size.1,hE];exact hp1)
  have hrel2:Rel E1 {T with env:=bu (bu T.env p0 (.int .i64 m)) p1 (wX nE e)} {tmps:=(a.tmps.setIfInBounds p0 (.int .i64 m)).setIfInBounds p1 v,defers:=[]} W' L':=by
   refine hr.Fg (some (w.heap.size+1)) true _ W' (fun _ _ hb _=>hb) (fun t=> ?_) (Marks.nil rfl) ⟨by simp only[Array.size_setIfInBounds];exact hr.size.1,fun t u hu=> ?_⟩ ⟨hr.fr.toFr,xx.refl _⟩
   ·simp only;rw[hget t];simp only[bu];split
    ·exact hrep.mono (dq.of fun _ hn=>hn) (cJ.le _)
    ·split
     ·exact .int _ _
     ·exact hr.env t
   ·simp only at hu ⊢;rw[hget t];split at hu
    ·cases hu
    ·rename_i hnt;injection hu with hu
     rw[Qs (fun e:t=p1=>hnt (by rw[e];exact hD1)),Qs (fun e:t=p0=>hnt (by rw[e];exact hD0)),hu]
  have hV:=hround m T e hi hem;have hw1:=hV E1 hE ⟨fun t ht=>Qr (hDa t ht),.inr hna⟩ _ W' L' hrel2
  refine wpIn_mono hw1 ?_;rintro en a1 w1 ⟨S1,L1,hr1,hq1⟩
  cases en with
  |exit i=>exact hq1.elim
  |goto i=>exact hq1.elim
  |ret=>exact hq1.elim
  |panic ch=>exact hq1.elim
  |outgrown=>exact hq1.elim
  |normal=>
   have hl1:w1.heap[w.heap.size+1]?=some (.loop (rec .ready none)):=hr1.fr.ko.same _ _ hl rfl;have hd1:a1.defers=[]:=hr1.defers.none rfl;refine⟨_,run_beginRound hl1 (by rw[hrec]),?_⟩
   generalize hw2:w1.putObj (w.heap.size+1) (.loop {rec .ready none with state:= .busy})=w2
   have hrec2:({rec .ready none with state:= .busy}:Loop)=rec .busy none:=by rw[hrec]
   rw[hrec2]at hw2;have hlt1:w.heap.size+1<w1.heap.size:=(Array.getElem?_eq_some_iff.1 hl1).1;have hl2:w2.heap[w.heap.size+1]?=some (.loop (rec .busy none)):=by rw[<-hw2];exact World.putObj_heap_same hlt1
   have hrel3:Rel {E with rd:=some (w.heap.size+1),nd:=true,kt:=fun t=>if t∈D then none else some (a.tmps.getD t undef),wk:=w2} S1 a1 w2 L1:=by
    refine hr1.Fg (some (w.heap.size+1)) true _ w2 (by rw[<-hw2];exact ET hl1 rfl _) (fun t=>hr1.env t) (Marks.nil hd1) hr1.size ⟨?_,xx.refl _⟩
    rw[<-hw2];exact hr1.fr.toFr.putObj (by show E.w0.heap.size<=_;omega) _
   have hw3:=hq1 {E with rd:=some (w.heap.size+1),nd:=true,kt:=fun t=>if t∈D then none else some (a.tmps.getD t undef),wk:=w2} hE ⟨fun t ht=>Qr (hDb t ht),.inr hnb⟩ a1 w2 L1 hrel3
   refine wpIn_mono hw3 ?_;rintro en a3 w3 ⟨S3,L3,hr3,hq3⟩;have hl3:w3.heap[w.heap.size+1]?=some (.loop (rec .busy none)):=hr3.fr.ko.same _ _ hl2 rfl;have hlt3:w.heap.size+1<w3.heap.size:=(Array.getElem?_eq_some_iff.1 hl3).1
   have stay:∀(b:Nat) (o:Obj),b≠w.heap.size+1->W'.heap[b]?=some o->Va o=false->∀o',(w3.putObj (w.heap.size+1) o').heap[b]?=some o:=by
    intro b o hne hb ho o';rw[World.putObj_heap_other hne];refine hr3.fr.ko.same b o ?_ ho;rw[<-hw2,World.putObj_heap_other hne];exact hr1.fr.ko.same b o hb ho
   have back:∀o',Rel E (S3.rI D) a (w3.putObj (w.heap.size+1) o') L3:=by
    intro o'
    have:=hr3.Fg (w':=w3.putObj (w.heap.size+1) o') (a':=a) (env':=(S3.rI D).env) E.rd E.nd E.kt E.wk (ET hl3 rfl _) (fun t=>by
      show aS _ _ _ (if t∈D then .any else S3.env t) _
      split
      ·exact .any _
      ·rename_i hnt;have h4:=hr3.size.2 t (a.tmps.getD t undef) (Qs hnt);rw[<-h4];exact hr3.env t) ⟨hr.defers.none,hr.defers.nodup,fun d hd=>by
      obtain⟨Do,q1,q2,q3⟩:=hr.defers.at_ d hd
      obtain⟨Do',q4,_,q6⟩:=old d hd;have:Do=Do':=by rw[q1]at q4;injection q4 with q4;injection q4
      subst this
      exact⟨Do,q1,q2,stay Do _ (by omega) q3 rfl _⟩⟩ hr.size ⟨hr3.fr.toFr.putObj (by show E.w0.heap.size<=_;omega) _,⟨by rw[World.putObj_size];show E.wk.heap.size<=_;omega,fun b o hb ho=>stay b o (by have hb':b<E.wk.heap.size:=(Array.getElem?_eq_some_iff.1 hb).1;omega) (hr.fr.ko.same b o hb ho) ho _⟩⟩
    exact this
   have hk3:∀o',(w3.putObj (w.heap.size+1) o').heap[w.heap.size]?=some (.deferred (some [])):=fun o'=>stay _ _ (by omega) hk rfl o'
   have leave:∀j,U8 en=some j->Q en (S3.rI D)->∃v w',(Instr.endRound (w.heap.size+1) (some j)).run P w3= .ok v w'/\((Ending.returned v= .returned (.bool true)/\∃X,J m X w')\/(Ending.returned v= .returned (.bool false)/\Jx w')):=by
    intro j hj hq;refine⟨_,_,run_endRound (some j) hl3,.inr ⟨rfl,en,j,S3.rI D,L3,hj,hq,back _,?_,hk3 _⟩⟩;rw[World.putObj_heap_same hlt3,hrec];rfl
   cases en with
   |normal=>
    obtain⟨S5,hw5,hi5⟩:=hq3;obtain⟨L5,hr5⟩:=hw5 E a _ L3 (back _);refine⟨_,_,run_endRound none hl3,.inl ⟨rfl,_,S5,L5,rfl,hi5,hr5,?_,hk3 _⟩⟩;rw[World.putObj_heap_same hlt3,hrec];rfl
   |ret=>exact leave _ rfl hq3
   |exit i=>exact leave _ rfl hq3
   |goto i=>exact leave _ rfl hq3
   |panic ch=>exact hq3.elim
   |outgrown=>exact hq3.elim
 have hcalls:=Uh (P:=P) (c:=c) (l:=w.heap.size+1) hf hin J Jx
  (fun i X W ⟨T,L',hX,hi,hr,_,_⟩=>by
   subst hX;obtain⟨c',h1,h2⟩:=hclo hi hr;rw[hgv]at h1;injection h1 with _ _ h1
   have:c'=c:=by have:=congrArg (fun a:Array Value=>a.toList) h1;simpa using this.symm
   subst this
   exact⟨fun b hb=>yi hr hb,h2⟩)
  (fun i X W' W'' ⟨T,L',hX,hi,hr,hl,hk⟩ hfr=>⟨T,L',hX,hi,grow hr hfr,dV hfr hl,dV hfr hk⟩)
  (fun W' W'' ⟨en,j,T,L',h1,h2,hr,hl,hk⟩ hfr=>⟨en,j,T,L',h1,h2,grow hr hfr,dV hfr hl,dV hfr hk⟩)
  hrounds W1 (X:=aZ E S0 L) ⟨S0,L,rfl,h0,hrel1,hL1,hK1⟩
 refine⟨w.heap.size+1,[{target:= .collected w.heap.size,args:=#[]}],W1,{target:= .fn (.func f) #[c],args:=#[.func (.yield (w.heap.size+1)) #[] #[]]},W1,f,#[.func (.yield (w.heap.size+1)) #[] #[],c],W1,?_,?_,fun _ _=>trivial,?_,(fun h=>by cases h),hcalls.mono ?_⟩
 ·rw[<-hW1,hrec];exact run_enterLoop_outer _ _ _ _ _
 ·have:a.eval (.tmp tg)= .func (.func f) #[] #[c]:=hgv
  have h2:(#[]++#[Operand.const (Value.func (Fn.yield (w.heap.size+1)) #[] #[])].map a.eval:Array Value)=#[.func (.yield (w.heap.size+1)) #[] #[]]:=by
   rw[Array.empty_append];simp[Act.eval]
  simp only[resolve,this,Deferred.ofValue];rw[h2];rfl
 ·have hen:Enters P f:=hf.enters;simp only[invoke];exact n3 hen _
 ·rintro en W' ⟨⟨v,rfl⟩,hW'⟩
  have marks:∀{T:St} {L':Nat->Value} (o':Obj),Rel E T a W' L'->W'.heap[w.heap.size+1]?=some o'->Pe o'=false->W'.heap[w.heap.size]?=some (.deferred (some []))->∀o'',Rel E T {a with defers:=[{target:= .collected w.heap.size,args:=#[]}]++a.defers} (W'.putObj (w.heap.size+1) o'') L':=by
   intro T L' o' hr hl ho hk o'';refine hr.Fg (env':=T.env) E.rd E.nd E.kt E.wk (ET hl ho _) (fun t=>hr.env t) ⟨(fun e=>by rw[hnd]at e;cases e),?_,fun d hd=> ?_⟩ hr.size ⟨hr.fr.toFr.putObj (by omega) _,Yz hr.fr.ko (by omega) _⟩
   ·rw[List.singleton_append,List.nodup_cons];refine⟨fun hmem=> ?_,hr.defers.nodup⟩
    obtain⟨Do,q1,_,q3⟩:=old _ hmem;injection q1 with q1
    injection q1 with q1
    omega
   ·rcases Qz.1 hd with hd|hd
    ·rw[List.mem_singleton.1 hd];exact⟨_,rfl,hE0,by rw[World.putObj_heap_other (by omega)];exact hk⟩
    ·obtain⟨Do,q1,q2,q3⟩:=hr.defers.at_ d hd
     obtain⟨Do',q4,_,q6⟩:=old d hd;have:Do=Do':=by rw[q1]at q4;injection q4 with q4;injection q4
     subst this;exact⟨Do,q1,q2,by rw[World.putObj_heap_other (by omega)];exact q3⟩
  rcases hW' with⟨X,T,L',_,hi,hr,hl,hk⟩|⟨en,j,T,L',hj,hq,hr,hl,hk⟩
  ·have hend1:=run_endLoop (P:=P) hl (by rw[hrec];intro e;cases e)
   exact⟨none,_,by rw[hend1,hrec],T,L',marks _ hr hl rfl hk _,hend T hi⟩
  ·have hend1:=run_endLoop (P:=P) hl (by rw[hrec];intro e;cases e)
   obtain⟨p,o',hp,hrun⟩:∃p o',p=some j/\(Instr.endLoop (w.heap.size+1)).run P W'= .ok p (W'.putObj (w.heap.size+1) o'):=⟨_,_,by rw[hrec],hend1⟩
   subst hp;have hfin:=marks _ hr hl rfl hk o';refine⟨some j,_,hrun,?_⟩
   cases en with
   |ret=>injection hj with hj;subst hj;exact wpIn_ret ⟨T,L',hfin,hq⟩
   |exit i=>injection hj with hj;subst hj;exact wpIn_exit ⟨T,L',hfin,hq⟩
   |goto i=>injection hj with hj;subst hj;exact wpIn_goto ⟨T,L',hfin,hq⟩
   |normal=>cases hj
   |panic ch=>cases hj
   |outgrown=>cases hj
def SC.qn:SC->List Nat
 | .rV gs| .qb _ gs=>gs.filterMap (·.d)
 | .seq x y| .cond _ x y=>x.qn++y.qn
 | .block _ x| .loop x=>x.qn
 | .Ba _ ps x y=>ps++x.qn++y.qn
 |_=>[]
theorem Lr{hs:List Nat}{ops:Array Oper}:∀(l:List Oper) (gs:List SG),l.mapM (sd P hs ops)=some gs->l.filterMap (·.dst)=gs.filterMap (·.d)
 |[],gs,h=>by
  simp at h;subst h;rfl
 |o::l,gs,h=>by
  simp only[List.mapM_cons,Qd,Qc,Option.pure_def,Qf]at h;obtain⟨g,hg,gs',hgs,rfl⟩:=h;simp only[List.filterMap_cons,(EP hg).2.1,Lr l gs' hgs]
theorem oU{nt:Nat}{hs:List Nat}:∀(c:Code) (sc:SC),aB P nt hs c=some sc->jN c=sc.qn
 | .skip,sc,h=>by simp only[aB]at h;injection h with h;subst h;rfl
 | .exit _,sc,h=>by simp only[aB]at h;injection h with h;subst h;rfl
 | .ret,sc,h=>by simp only[aB]at h;injection h with h;subst h;rfl
 | .region _ ops false,sc,h=>by
  simp only[aB]at h;split at h
  ·rename_i gs hgs;split at h
   ·injection h with h;subst h;exact Lr _ _ hgs
   ·cases h
  ·cases h
 | .region _ ops true,sc,h=>by
  simp only[aB]at h;split at h
  ·rename_i gs hgs;split at h
   ·split at h
    ·injection h with h;subst h;exact Lr _ _ hgs
    ·cases h
   ·cases h
  ·cases h
 | .seq x y,sc,h=>by
  simp only[aB]at h;split at h
  ·rename_i hx hy;injection h with h;subst h;simp only[jN,SC.qn,oU x _ hx,oU y _ hy]
  ·cases h
 | .cond c x y,sc,h=>by
  simp only[aB]at h;split at h
  ·rename_i _ hx hy;injection h with h;subst h;simp only[jN,SC.qn,oU x _ hx,oU y _ hy]
  ·cases h
 | .block _ x,sc,h=>by
  simp only[aB,Qb]at h;obtain⟨x',hx,rfl⟩:=h;simp only[jN,SC.qn,oU x _ hx]
 | .loop x,sc,h=>by
  simp only[aB,Qb]at h;obtain⟨x',hx,rfl⟩:=h;simp only[jN,SC.qn,oU x _ hx]
 | .rangeFunc g ps x y,sc,h=>by
  simp only[aB]at h;split at h
  ·rename_i _ hx hy;split at h
   ·injection h with h;subst h;simp only[jN,SC.qn,oU x _ hx,oU y _ hy]
   ·cases h
  ·cases h
 | .goto _,sc,h=>by simp only[aB]at h;cases h
 | .scope _,sc,h=>by simp only[aB]at h;cases h
 | .label _,sc,h=>by simp only[aB]at h;cases h
 | .refuse _,sc,h=>by simp only[aB]at h;cases h
theorem Zx{nt:Nat}{tg p0 p1:Nat}{x y:SC}{f:FuncId}{k:Nat}{nE:Option Nat}{es:List (List PV)}{Q:Exit->St->Prop}(hf:gp P f 19 (y2 k nE) [])(hin:E6 k nE es)
  (htg:tg∉SC.qn (.Ba (.tmp tg) [p0,p1] x y)) (I:Nat->St->Prop)
  (h0:Q5 (I es.length) (S.rI (SC.qn (.Ba (.tmp tg) [p0,p1] x y)))) (hI:∀i T,I i T->T.env tg= .bw f [.ref [.sl es]])
  (hround:∀m T e,I (m+1) T->es[m]?=some e->VS P nt x (KC (VS P nt y (ZQ (SC.qn (.Ba (.tmp tg) [p0,p1] x y)) (I m) Q)) (fun _ _=>False)) {T with env:=bu (bu T.env p0 (.int .i64 m)) p1 (wX nE e)})
  (hend:∀T,I 0 T->Q .normal T):VS P nt (.Ba (.tmp tg) [p0,p1] x y) Q S:=by
 intro c hs hc;have hsets:=oU c _ hc
 cases c with
 |rangeFunc g ps assign body=>
  simp only[aB]at hc;split at hc
  ·rename_i g' x' y' hg hx hy;split at hc
   ·rename_i hcond;injection hc with hc
    injection hc with e1 e2 e3 e4
    subst e1 e3 e4;simp only[Qm]at hcond;obtain⟨⟨hn1,hn2⟩,hps⟩:=hcond
    have hps2:ps=#[p0,p1]:=by
     have:=congrArg List.toArray e2;simpa using this
    subst hps2
    have hg2:g= .tmp tg:=by
     cases g with
     |tmp t=>simp only[bf]at hg;injection hg with hg;injection hg with hg;rw[hg]
     |const v=>simp only[bf,Qb]at hg;obtain⟨_,_,hg⟩:=hg;cases hg
     |global g=>simp[bf]at hg
     |func f=>simp[bf]at hg
    subst hg2;rw[<-hsets]at h0 hround htg;simp only[List.all_cons,List.all_nil,Bool.and_true,Qm,Qi]at hps;refine aaE hf hin hn1 hn2 hps.1 hps.2 htg I h0 hI (fun m T e hi he=> ?_) hend
    refine(hround m T e hi he assign hs hx).mono ?_;intro en A hq
    cases en with
    |normal=>exact hq body hs hy
    |exit i=>exact hq
    |goto i=>exact hq
    |ret=>exact hq
    |panic ch=>exact hq
    |outgrown=>exact hq
   ·cases hc
  ·cases hc
 |region id ops d=>cases d<;>simp only[aB]at hc<;>(try split at hc)<;>(try split at hc)<;>(try split at hc)<;>cases hc
 |seq x y=>simp only[aB]at hc;split at hc<;>cases hc
 |cond c x y=>simp only[aB]at hc;split at hc<;>cases hc
 |block id c=>simp only[aB,Qb]at hc;obtain⟨_,_,hc⟩:=hc;cases hc
 |loop c=>simp only[aB,Qb]at hc;obtain⟨_,_,hc⟩:=hc;cases hc
 |_=>simp only[aB]at hc<;>cases hc
end
end Go.TQ
end
noncomputable section
namespace Go.TQ
section
variable {U : TU}
inductive dS (U:TU) where
 |ty (T:U.Ty)
 |bw (f:FuncId) (cs:List (dS U))
 |ref (a:dS U)
 |agg (cs:List (dS U))
inductive nQ (U:TU) where
 |one (T:U.Ty)
 |many (Ts:List U.Ty)
 |fn (a:dS U)
@[reducible] def CV (U:TU):List U.Ty->Type
 |[]=>Unit
 |T::l=>U.den T×CV U l
mutual
@[reducible] def dS.den:dS U->Type
 | .ty T=>U.den T
 | .bw _ cs=>dp cs
 | .ref a=>a.den
 | .agg cs=>dp cs
@[reducible] def dp:List (dS U)->Type
 |[]=>Unit
 |a::l=>a.den×dp l
end
@[reducible] def nQ.den:nQ U->Type
 | .one T=>U.den T
 | .many Ts=>CV U Ts
 | .fn a=>a.den
def Ad:(Ts:List U.Ty)->CV U Ts->List PV
 |[],_=>[]
 |T::l,v=>cQ T v.1::Ad l v.2
mutual
def kR:(a:dS U)->a.den->PV
 | .ty T,v=>cQ T v
 | .bw f cs,v=> .bw f (fK cs v)
 | .ref a,v=> .ref (nn a v)
 | .agg cs,v=> .agg (fK cs v)
def nn:(a:dS U)->a.den->List PV
 | .ty T,v=>U.pv T v
 | .bw f cs,v=>[.bw f (fK cs v)]
 | .ref a,v=>[.ref (nn a v)]
 | .agg cs,v=>fK cs v
def fK:(A_s:List (dS U))->dp A_s->List PV
 |[],_=>[]
 |a::l,v=>kR a v.1::fK l v.2
end
def qp:(r:nQ U)->r.den->PV
 | .one T,v=>cQ T v
 | .many Ts,v=> .dx (Ad Ts v)
 | .fn a,v=>kR a v
variable (K : TK U)
def Xw:(Ts:List U.Ty)->CV U Ts->List (KV U)
 |[],_=>[]
 |T::l,v=>tt K T v.1::Xw l v.2
mutual
def H7:(a:dS U)->a.den->KV U
 | .ty T,v=>tt K T v
 | .bw f cs,v=> .bw f (se cs v)
 | .ref a,v=> .ref (CR a v)
 | .agg cs,v=> .agg (se cs v)
def CR:(a:dS U)->a.den->List (KV U)
 | .ty T,v=>K.bW T v
 | .bw f cs,v=>[.bw f (se cs v)]
 | .ref a,v=>[.ref (CR a v)]
 | .agg cs,v=>se cs v
def se:(A_s:List (dS U))->dp A_s->List (KV U)
 |[],_=>[]
 |a::l,v=>H7 a v.1::se l v.2
end
def Oo:(r:nQ U)->r.den->KV U
 | .one T,v=>tt K T v
 | .many Ts,v=> .dx (Xw K Ts v)
 | .fn a,v=>H7 K a v
theorem UD:∀(Ts:List U.Ty) (v:CV U Ts),(Xw K Ts v).map KV.pv=Ad Ts v
 |[],_=>rfl
 |T::l,v=>by rw[Xw,Ad,QD,uc,UD l v.2]
mutual
theorem SM:∀(a:dS U) (v:a.den),(H7 K a v).pv=kR a v
 | .ty T,v=>by rw[H7,kR];exact uc K T v
 | .bw f cs,v=>by rw[H7,kR,KV.pv,KV.bX,xb cs v]
 | .ref a,v=>by rw[H7,kR,KV.pv,KV.bX,P4 a v]
 | .agg cs,v=>by rw[H7,kR,KV.pv,KV.bX,xb cs v]
theorem P4:∀(a:dS U) (v:a.den),(CR K a v).map KV.pv=nn a v
 | .ty T,v=>by rw[CR,nn];exact K.om T v
 | .bw f cs,v=>by rw[CR,nn,QD,QO,KV.pv,KV.bX,xb cs v]
 | .ref a,v=>by rw[CR,nn,QD,QO,KV.pv,KV.bX,P4 a v]
 | .agg cs,v=>by rw[CR,nn,xb cs v]
theorem xb:∀(A_s:List (dS U)) (v:dp A_s),(se K A_s v).map KV.pv=fK A_s v
 |[],_=>by rw[se,fK];rfl
 |a::l,v=>by rw[se,fK,QD,SM a v.1,xb l v.2]
end
theorem IX:∀(r:nQ U) (v:r.den),(Oo K r v).pv=qp r v
 | .one T,v=>uc K T v
 | .many Ts,v=>by rw[Oo,qp,KV.pv,KV.bX,UD]
 | .fn a,v=>SM K a v
def NU(lk:Lk U):(Ts:List U.Ty)->List (KV U)->Option (CV U Ts)
 |[],xs=>match xs with|[]=>some ()|_=>none
 |T::l,xs=>match xs with
  |x::xs=>(match uG K lk T x with
   |some v=>(match NU lk l xs with|some vs=>some (v,vs)|none=>none)
   |none=>none)
  |[]=>none
def KV.NO:KV U->Bool
 | .df=>false
 |_=>true
def TX:Option Nat->Nat->Bool
 |none,_=>true
 |some i,id=> !Nat.beq i id
def wE:List (KV U)->KV U
 |[x]=>x
 |_=> .any
def CJ(T:U.Ty)(cs:List (KV U)):Option (U.den T):=
 match cs.all KV.NO with
 |true=>K.dec T mg cs
 |false=>none
def Fl{α:Type}(f:FuncId)(x:KV U)(k:List (KV U)->Option α):Option α:=
 match x with
 | .bw g caps=>(match Nat.beq g f with|true=>k caps|false=>none)
 |_=>none
def Jh{α:Type}(x:KV U)(k:List (KV U)->Option α):Option α:=
 match x with
 | .agg cs=>k cs
 |_=>none
def NL{α:Type}(x:KV U)(k:List (KV U)->Option α):Option α:=
 match x with
 | .ref cs=>k cs
 |_=>none
def NN(xs:List (KV U)):Option Unit:=
 match xs with
 |[]=>some ()
 |_=>none
def Jg{α β:Type}(xs:List (KV U))(k:KV U->Option α)(m:List (KV U)->Option β):Option (α×β):=
 match xs with
 |x::l=>(match k x with
  |some v=>(match m l with|some vs=>some (v,vs)|none=>none)
  |none=>none)
 |[]=>none
def NM{α:Type}(S:aM U)(ex:Option Nat)(x:KV U)(k0 k1:List (KV U)->Option α):Option α:=
 match x with
 | .ref cells=>k0 cells
 | .ptr id aq off=>(match Nat.beq off 0&&TX ex id with
  |true=>(match Nat.beq (S.H id).aq aq with
   |true=>(match(S.H id).c with
    | .box cells=>k1 cells
    |_=>none)
   |false=>none)
  |false=>none)
 |_=>none
theorem xO{α:Type}{f:FuncId}{x:KV U}{k:List (KV U)->Option α}{r:α}(h:Fl f x k=some r):∃caps,x= .bw f caps/\k caps=some r:=by
 unfold Fl at h;split at h
 ·split at h
  ·rename_i hg;exact⟨_,by rw[QF hg],h⟩
  ·cases h
 ·cases h
theorem Ch{α:Type}{x:KV U}{k:List (KV U)->Option α}{r:α}(h:Jh x k=some r):∃cs,x= .agg cs/\k cs=some r:=by
 unfold Jh at h;split at h
 ·exact⟨_,rfl,h⟩
 ·cases h
theorem Jd{α:Type}{x:KV U}{k:List (KV U)->Option α}{r:α}(h:NL x k=some r):∃cs,x= .ref cs/\k cs=some r:=by
 unfold NL at h;split at h
 ·exact⟨_,rfl,h⟩
 ·cases h
theorem Jf{xs:List (KV U)}{r:Unit}(h:NN xs=some r):xs=[]:=by
 unfold NN at h;split at h
 ·rfl
 ·cases h
theorem Gy{α β:Type}{xs:List (KV U)}{k:KV U->Option α}{m:List (KV U)->Option β}{r:α×β}(h:Jg xs k m=some r):∃x l,xs=x::l/\k x=some r.1/\m l=some r.2:=by
 unfold Jg at h;split at h
 ·split at h
  ·rename_i h1;split at h
   ·rename_i h2;injection h with h
    subst h;exact⟨_,_,rfl,h1,h2⟩
   ·cases h
  ·cases h
 ·cases h
theorem Je{α:Type}{S:aM U}{ex:Option Nat}{x:KV U}{k0 k1:List (KV U)->Option α}{r:α}(h:NM S ex x k0 k1=some r):
  (∃cs,x= .ref cs/\k0 cs=some r)\/∃id aq cells,x= .ptr id aq 0/\TX ex id=true/\(S.H id).aq=aq/\(S.H id).c= .box cells/\k1 cells=some r:=by
 unfold NM at h;split at h
 ·exact .inl ⟨_,rfl,h⟩
 ·split at h
  ·rename_i hoff;rw[Qm]at hoff;split at h
   ·rename_i hver;split at h
    ·rename_i hc;exact .inr ⟨_,_,_,by rw[QF hoff.1],hoff.2,QF hver,hc,h⟩
    ·cases h
   ·cases h
  ·cases h
 ·cases h
mutual
def Fy:(a:dS U)->KV U->Option a.den
 | .ty T,x=>(match U.agg T with
  |true=>Jh x fun cs=>CJ K T cs
  |false=>CJ K T [x])
 | .bw f cs,x=>Fl f x fun caps=>w7 cs caps
 | .ref a,x=>NL x fun cells=>xX a cells
 | .agg cs,x=>Jh x fun cells=>w7 cs cells
def xX:(a:dS U)->List (KV U)->Option a.den
 | .ty T,cells=>CJ K T cells
 | .bw f cs,cells=>Fl f (wE cells) fun caps=>w7 cs caps
 | .ref a,cells=>NL (wE cells) fun cells=>xX a cells
 | .agg cs,cells=>w7 cs cells
def w7:(A_s:List (dS U))->List (KV U)->Option (dp A_s)
 |[],xs=>NN xs
 |a::l,xs=>Jg xs (fun x=>Fy a x) fun xs=>w7 l xs
end
mutual
def H0(S:aM U)(ex:Option Nat):(a:dS U)->KV U->Option a.den
 | .ty T,x=>uG K S.lk T x
 | .bw f cs,x=>Fl f x fun caps=>oT S ex cs caps
 | .ref a,x=>NM S ex x (fun cells=>xX K a cells) fun cells=>HZ S ex a cells
 | .agg cs,x=>Jh x fun cells=>oT S ex cs cells
def HZ(S:aM U)(ex:Option Nat):(a:dS U)->List (KV U)->Option a.den
 | .ty T,cells=>K.dec T S.lk cells
 | .bw f cs,cells=>Fl f (wE cells) fun caps=>oT S ex cs caps
 | .ref a,cells=>NM S ex (wE cells) (fun cells=>xX K a cells) fun cells=>HZ S ex a cells
 | .agg cs,cells=>oT S ex cs cells
def oT(S:aM U)(ex:Option Nat):(A_s:List (dS U))->List (KV U)->Option (dp A_s)
 |[],xs=>NN xs
 |a::l,xs=>Jg xs (fun x=>H0 S ex a x) fun xs=>oT S ex l xs
end
mutual
def dS.depth:dS U->Nat
 | .ty _=>2
 | .bw _ cs=>mQ cs+1
 | .ref a=>a.depth+1
 | .agg cs=>mQ cs+1
def mQ:List (dS U)->Nat
 |[]=>2
 |a::l=>max a.depth (mQ l)
end
def nQ.plain:nQ U->Bool
 | .one T=>U.plain T
 | .many Ts=>Ts.all U.plain
 | .fn _=>false
def dS.XN:dS U->Bool
 | .ref _=>true
 |_=>false
def nQ.ok:nQ U->Bool
 | .fn (.bw _ cs)=>cs.all dS.XN
 | .fn _=>false
 |_=>true
theorem Y3{H:Nat->eW}{ex:Option Nat}:∀(n:Nat) {y:PV},y.fQ=true->fz H ex n y=y
 |0,y,h=>by cases y<;>simp[PV.fQ]at h<;>simp[fz,PV.closed]
 |n+1,y,h=>by cases y<;>simp[PV.fQ]at h<;>simp[fz,PV.closed]
theorem WG{H:Nat->eW}{ex:Option Nat}(n:Nat){l:List PV}(h:∀y∈l,y.fQ=true):l.map (fz H ex n)=l:=by
 induction l with
 |nil=>rfl
 |cons x l ih=>rw[QD,Y3 n (h x (by simp)),ih fun y hy=>h y (by simp[hy])]
theorem Sh{S:aM U}{id aq:Nat}{T:U.Ty}{xs:List (U.den T)}(h:S.lk id aq T=some xs):(S.H id).aq=aq/\∃e k,(S.H id).c= .row e k T xs:=by
 unfold aM.lk at h;split at h
 ·rename_i hv;split at h
  ·rename_i e k T' ys hc;obtain⟨eq,rfl⟩:=lL h;subst eq;exact⟨QF hv,e,k,hc⟩
  ·cases h
 ·cases h
variable {K}
variable {S : aM U} {ex : Option Nat}
theorem Zn(hex:∀id,ex=some id->∀e k T xs,(S.H id).c≠ .row e k T xs)(n:Nat){x:KV U}{y:PV}(h:kL S.lk x y)(K:TK U):fz S.st.H ex (n+1) x.pv=y:=by
 cases h with
 |int=>simp[KV.pv,fz,PV.closed]
 |bool=>simp[KV.pv,fz,PV.closed]
 |str=>simp[KV.pv,fz,PV.closed]
 |df=>simp[KV.pv,fz]
 |sl T xs=>simp[KV.pv,fz,PV.closed]
 |gD A B xs=>simp[KV.pv,fz,PV.closed]
 |own id aq T xs h=>
  obtain⟨hv,e,k,hc⟩:=Sh h
  have hne:¬(some id=ex\/(S.st.H id).aq≠aq):=by
   rintro(h1|h1)
   ·exact hex id h1.symm _ _ _ _ hc
   ·exact h1 hv
  have hcp:(S.st.H id).c= .row e k (xs.map (U.pv T)):=by simp[aM.st,cI.pv,hc,dg.pv]
  simp only[KV.pv,fz];rw[Qs hne,hcp];simp only[List.map_map];congr 1;refine List.map_congr_left fun v _=> ?_
  exact WG n fun y hy=>K.fQ T v y hy
theorem H5(hex:∀id,ex=some id->∀e k T xs,(S.H id).c≠ .row e k T xs)(n:Nat){xs:List (KV U)}{ys:List PV}(h:gk S.lk xs ys)(K:TK U):(xs.map KV.pv).map (fz S.st.H ex (n+1))=ys:=by
 induction h with
 |nil=>rfl
 |cons h _ ih=>rw[QD,QD,Zn hex n h K,ih]
theorem GZ(hex:∀id,ex=some id->∀e k T xs,(S.H id).c≠ .row e k T xs)(n:Nat){T:U.Ty}{x:KV U}{v:U.den T}(h:uG K S.lk T x=some v):fz S.st.H ex (n+2) x.pv=cQ T v:=by
 unfold uG at h;unfold cQ;split at h
 ·rename_i ha;split at h
  ·rename_i cs;simp only[KV.pv,KV.bX,fz,H5 hex n (K.kE _ _ _ _ h) K]
  ·cases h
 ·rename_i ha;have h1:=H5 hex (n+1) (K.kE _ _ _ _ h) K;simp only[QD,QO]at h1;simp only[<-h1,List.headD_cons]
theorem PB(hex:∀id,ex=some id->∀e k T xs,(S.H id).c≠ .row e k T xs)(n:Nat):∀(Ts:List U.Ty) (xs:List (KV U)) (v:CV U Ts),NU K S.lk Ts xs=some v->(xs.map KV.pv).map (fz S.st.H ex (n+2))=Ad Ts v
 |[],[],_,_=>rfl
 |[],_::_,_,h=>by cases h
 |T::l,[],_,h=>by cases h
 |T::l,x::xs,v,h=>by
  rw[NU]at h;split at h
  ·rename_i v1 h1;split at h
   ·rename_i vs h2;injection h with h
    subst h;rw[QD,QD,Ad,GZ hex n h1,PB hex n l xs vs h2]
   ·cases h
  ·cases h
theorem UE{xs:List (KV U)}{ys:List PV}(h:gk mg xs ys):xs.all KV.NO=true->xs.map KV.pv=ys:=by
 induction h with
 |nil=>intro _;rfl
 |cons hc _ ih=>
  intro hn;rw[List.all_cons,Qm]at hn;rw[QD,ih hn.2];congr 1
  cases hc with
  |df=>cases hn.1
  |own _ _ _ _ h=>cases h
  |_=>rfl
theorem HY{T:U.Ty}{cs:List (KV U)}{v:U.den T}(h:CJ K T cs=some v):cs.map KV.pv=U.pv T v:=by
 unfold CJ at h;split at h
 ·rename_i hn;exact UE (K.kE _ _ _ _ h) hn
 ·cases h
theorem JP{cs:List (KV U)}{f:FuncId}{caps:List (KV U)}(h:wE cs= .bw f caps):cs=[.bw f caps]:=by
 unfold wE at h;split at h
 ·rw[h]
 ·cases h
theorem ME{cs cells:List (KV U)}(h:wE cs= .ref cells):cs=[.ref cells]:=by
 unfold wE at h;split at h
 ·rw[h]
 ·cases h
theorem Vc{cs:List (KV U)}{id aq off:Nat}(h:wE cs= .ptr id aq off):cs=[.ptr id aq off]:=by
 unfold wE at h;split at h
 ·rw[h]
 ·cases h
mutual
theorem WY:∀(a:dS U) (x:KV U) (v:a.den),Fy K a x=some v->x.pv=kR a v
 | .ty T,x,v,h=>by
  rw[Fy]at h;rw[kR];split at h
  ·rename_i ha;obtain⟨cs,rfl,h⟩:=Ch h;rw[KV.pv,KV.bX,HY h,cQ,ha]
  ·rename_i ha;have:=HY h;rw[cQ,ha,<-this];rfl
 | .bw f cs,x,v,h=>by
  rw[Fy]at h;rw[kR];obtain⟨caps,rfl,h'⟩:=xO h;rw[KV.pv,KV.bX,w6 cs caps v h']
 | .ref a,x,v,h=>by
  rw[Fy]at h;rw[kR];obtain⟨cells,rfl,h⟩:=Jd h;rw[KV.pv,KV.bX,CK a cells v h]
 | .agg cs,x,v,h=>by
  rw[Fy]at h;rw[kR];obtain⟨cells,rfl,h⟩:=Ch h;rw[KV.pv,KV.bX,w6 cs cells v h]
theorem CK:∀(a:dS U) (cs:List (KV U)) (v:a.den),xX K a cs=some v->cs.map KV.pv=nn a v
 | .ty T,cs,v,h=>by rw[xX]at h;rw[nn];exact HY h
 | .bw f cs,cells,v,h=>by
  rw[xX]at h;rw[nn];obtain⟨caps,hh,h⟩:=xO h;rw[JP hh,QD,QO,KV.pv,KV.bX,w6 cs caps v h]
 | .ref a,cells,v,h=>by
  rw[xX]at h;rw[nn];obtain⟨cells',hh,h⟩:=Jd h;rw[ME hh,QD,QO,KV.pv,KV.bX,CK a cells' v h]
 | .agg cs,cells,v,h=>by
  rw[xX]at h;rw[nn];exact w6 cs cells v h
theorem w6:∀(A_s:List (dS U)) (xs:List (KV U)) (v:dp A_s),w7 K A_s xs=some v->xs.map KV.pv=fK A_s v
 |[],xs,v,h=>by
  rw[w7]at h;rw[fK,Jf h];rfl
 |a::l,xs,v,h=>by
  rw[w7]at h;rw[fK];obtain⟨x,xs,rfl,h1,h2⟩:=Gy h;rw[QD,WY a x v.1 h1,w6 l xs v.2 h2]
end
mutual
theorem SD(hex:∀id,ex=some id->∀e k T xs,(S.H id).c≠ .row e k T xs):∀(a:dS U) (n:Nat) (x:KV U) (v:a.den),a.depth<=n->H0 K S ex a x=some v->fz S.st.H ex n x.pv=kR a v
 | .ty T,n,x,v,hd,h=>by
  rw[H0]at h;rw[kR];rw[dS.depth]at hd;obtain⟨m,rfl⟩:∃m,n=m+2:=⟨n - 2,by omega⟩
  exact GZ hex m h
 | .bw f cs,n,x,v,hd,h=>by
  rw[H0]at h;rw[kR];rw[dS.depth]at hd;obtain⟨m,rfl⟩:∃m,n=m+1:=⟨n - 1,by omega⟩
  obtain⟨caps,rfl,h'⟩:=xO h;rw[KV.pv,KV.bX,fz,lh hex cs m caps v (by omega) h']
 | .ref a,n,x,v,hd,h=>by
  rw[H0]at h;rw[kR];rw[dS.depth]at hd;obtain⟨m,rfl⟩:∃m,n=m+1:=⟨n - 1,by omega⟩
  rcases Je h with⟨cells,rfl,h⟩|⟨id,aq,cells,rfl,hex2,hver,hc,h⟩
  ·rw[KV.pv,KV.bX,CK a cells v h];simp[fz,PV.closed]
  ·have hne:¬(some id=ex\/(S.st.H id).aq≠aq):=by
    rintro(h1|h1)
    ·rw[<-h1]at hex2;simp[TX]at hex2
    ·exact h1 hver
   have hcp:(S.st.H id).c= .box (cells.map KV.pv):=by simp[aM.st,cI.pv,hc,dg.pv]
   simp only[KV.pv,fz];rw[Qs hne,hcp];simp only[List.drop_zero];rw[Sz hex a m cells v (by omega) h]
 | .agg cs,n,x,v,hd,h=>by
  rw[H0]at h;rw[kR];rw[dS.depth]at hd;obtain⟨m,rfl⟩:∃m,n=m+1:=⟨n - 1,by omega⟩
  obtain⟨caps,rfl,h'⟩:=Ch h;rw[KV.pv,KV.bX,fz,lh hex cs m caps v (by omega) h']
theorem Sz(hex:∀id,ex=some id->∀e k T xs,(S.H id).c≠ .row e k T xs):∀(a:dS U) (n:Nat) (cs:List (KV U)) (v:a.den),a.depth<=n->HZ K S ex a cs=some v->(cs.map KV.pv).map (fz S.st.H ex n)=nn a v
 | .ty T,n,cs,v,hd,h=>by
  rw[HZ]at h;rw[nn];rw[dS.depth]at hd;obtain⟨m,rfl⟩:∃m,n=m+1:=⟨n - 1,by omega⟩
  exact H5 hex m (K.kE _ _ _ _ h) K
 | .bw f cs,n,cells,v,hd,h=>by
  rw[HZ]at h;rw[nn];rw[dS.depth]at hd;obtain⟨m,rfl⟩:∃m,n=m+1:=⟨n - 1,by omega⟩
  obtain⟨caps,hh,h⟩:=xO h;rw[JP hh,QD,QO,QD,QO,KV.pv,KV.bX,fz,lh hex cs m caps v (by omega) h]
 | .ref a,n,cells,v,hd,h=>by
  rw[HZ]at h;rw[nn];rw[dS.depth]at hd;obtain⟨m,rfl⟩:∃m,n=m+1:=⟨n - 1,by omega⟩
  rcases Je h with⟨cells',hh,h⟩|⟨id,aq,cells',hh,hex2,hver,hc,h⟩
  ·rw[ME hh,QD,QO,KV.pv,KV.bX,CK a cells' v h];simp[fz,PV.closed]
  ·have hne:¬(some id=ex\/(S.st.H id).aq≠aq):=by
    rintro(h1|h1)
    ·rw[<-h1]at hex2;simp[TX]at hex2
    ·exact h1 hver
   have hcp:(S.st.H id).c= .box (cells'.map KV.pv):=by simp[aM.st,cI.pv,hc,dg.pv]
   rw[Vc hh];simp only[QD,QO,KV.pv,fz];rw[Qs hne,hcp];simp only[List.drop_zero];rw[Sz hex a m cells' v (by omega) h]
 | .agg cs,n,cells,v,hd,h=>by
  rw[HZ]at h;rw[nn];rw[dS.depth]at hd;exact lh hex cs n cells v (by omega) h
theorem lh(hex:∀id,ex=some id->∀e k T xs,(S.H id).c≠ .row e k T xs):∀(A_s:List (dS U)) (n:Nat) (xs:List (KV U)) (v:dp A_s),mQ A_s<=n->oT K S ex A_s xs=some v->(xs.map KV.pv).map (fz S.st.H ex n)=fK A_s v
 |[],n,xs,v,hd,h=>by
  rw[oT]at h;rw[fK,Jf h];rfl
 |a::l,n,xs,v,hd,h=>by
  rw[oT]at h;rw[fK];rw[mQ]at hd;obtain⟨x,xs,rfl,h1,h2⟩:=Gy h;rw[QD,QD,SD hex a n x v.1 (by omega) h1,lh hex l n xs v.2 (by omega) h2]
end
theorem qR{xs:List (KV U)}{ys:List PV}(h:gk mg xs ys):(xs.map KV.pv).map nz=ys/\xs.all KV.closed=true:=by
 induction h with
 |nil=>exact⟨rfl,rfl⟩
 |cons h _ ih=>
  obtain⟨h1,h2⟩:=ih;simp only[QD,List.all_cons,h1,h2,Bool.and_true]
  cases h with
  |own _ _ _ _ h=>cases h
  |_=>simp[KV.pv,nz,KV.closed]
def aM.AB(S:aM U)(id aq:Nat):aM U:={env:=S.env,H:=fU S.H id ⟨aq,.dead⟩,N:=S.N}
theorem XU{H H':Nat->eW}{ex:Option Nat}(h:∀j,some j≠ex->H' j=H j):∀(n:Nat) (y:PV),fz H' ex n y=fz H ex n y
 |0,y=>by simp only[fz]
 |n+1,y=>by
  have hm:fz H' ex n=fz H ex n:=funext (XU h n)
  cases y with
  |own id aq=>
   simp only[fz,hm]
   by_cases h0:some id=ex
   ·rw[Qr (.inl h0),Qr (.inl h0)]
   ·rw[h id h0]
  |ptr id aq off=>
   simp only[fz,hm]
   by_cases h0:some id=ex
   ·rw[Qr (.inl h0),Qr (.inl h0)]
   ·rw[h id h0]
  |agg cs=>simp only[fz,hm]
  |dx cs=>simp only[fz,hm]
  |bw f cs=>simp only[fz,hm]
  |_=>simp only[fz]
theorem Lq(S:aM U)(id aq n:Nat)(y:PV):fz (S.AB id aq).st.H (some id) n y=fz S.st.H (some id) n y:=by
 refine XU (fun j hj=> ?_) n y
 have:j≠id:=fun e=>hj (by rw[e])
 simp only[aM.AB,aM.st,cj,bR _ _ this]
theorem HQ(S:aM U)(id aq:Nat):∀j,some id=some j->∀e k T xs,((S.AB id aq).H j).c≠ .row e k T xs:=by
 intro j hj e k T xs;injection hj with hj
 subst hj;simp only[aM.AB,cj,bF];intro h;cases h
inductive c7 (U:TU) where
 |rw(f:FuncId) (e k:Nat) (T:U.Ty) (A_s:List (dS U)) (rs:nQ U) (F:List (U.den T)->dp A_s->Option (rs.den×List (U.den T)))
 |cw (f:FuncId) (e k:Nat) (T:U.Ty) (A_s:List (dS U)) (F:List (U.den T)->dp A_s->Option (List (U.den T)))
 |fw (f:FuncId) (A_s:List (dS U)) (e k:Nat) (T:U.Ty) (F:dp A_s->Option (List (U.den T)))
 |fn (f:FuncId) (A_s:List (dS U)) (rs:nQ U) (F:dp A_s->Option rs.den)
 |rc (f:FuncId) (pos:Nat) (R:U.Ty) (A_s:List (dS U)) (rs:nQ U) (F:U.den R->dp A_s->Option (rs.den×U.den R))
 |nw (f:FuncId) (A_s:List (dS U)) (R:U.Ty) (F:dp A_s->Option (U.den R))
 |ro (f:FuncId) (pos:Nat) (R:U.Ty) (A_s:List (dS U)) (rs:nQ U) (F:U.den R->dp A_s->Option (rs.den×U.den R))
 |bk (f k:Nat) (nE:Option Nat)
def c7.Sound(P:Program):c7 U->Prop
 | .rw f e k T A_s rs F=>Enters P f/\∀xs a r ys,F xs a=some (r,ys)->LJ P f e k (xs.map (U.pv T)) (fK A_s a) (qp rs r) (ys.map (U.pv T))
 | .cw f e k T A_s F=>Enters P f/\∀xs a ys,F xs a=some ys->Ia P f e k (xs.map (U.pv T)) (fK A_s a) (ys.map (U.pv T))
 | .fw f A_s e k T F=>Enters P f/\∀a ys,F a=some ys->Rj P f (fK A_s a) e k (ys.map (U.pv T))
 | .fn f A_s rs F=>Enters P f/\∀a r,F a=some r->VQ P f false [] (fK A_s a) (qp rs r) []
 | .rc f pos R A_s rs F=>Enters P f/\∀s a r s',F s a=some (r,s')->FH P f pos true (U.pv R s) (fK A_s a) (qp rs r) (U.pv R s')
 | .ro f pos R A_s rs F=>Enters P f/\∀s a r s',F s a=some (r,s')->s'=s/\FH P f pos true (U.pv R s) (fK A_s a) (qp rs r) (U.pv R s')
 | .nw f A_s R F=>Enters P f/\∀a s,F a=some s->Ri P f (fK A_s a) (U.pv R s)
 | .bk f k nE=>gp P f 19 (y2 k nE) []
def q9(P:Program):List (c7 U)->Prop
 |[]=>True
 |f::l=>f.Sound P/\q9 P l
def JT(f k:Nat)(nE:Option Nat):List (c7 U)->Bool
 |[]=>false
 | .bk f' k' nE'::Γ=>(Nat.beq f f'&&Nat.beq k k'&&(match nE,nE' with|none,none=>true|some a,some b=>Nat.beq a b|_,_=>false))||JT f k nE Γ
 |_::Γ=>JT f k nE Γ
theorem HS{P:Program}{f k:Nat}{nE:Option Nat}:∀{Γ:List (c7 U)},q9 P Γ->JT f k nE Γ=true->gp P f 19 (y2 k nE) []
 |[],_,h=>by cases h
 | .bk f' k' nE'::Γ,hΓ,h=>by
  simp only[JT,Qn,Qm]at h;rcases h with⟨⟨h1,h2⟩,h3⟩|h
  ·have h1:=QF h1;have h2:=QF h2;subst h1 h2
   have h4:nE=nE':=by
    cases nE<;>cases nE'<;>simp only at h3<;>first|rfl|(cases h3)|(rw[QF h3])
   subst h4;exact hΓ.1
  ·exact HS hΓ.2 h
 | .ro ..::Γ,hΓ,h| .rw ..::Γ,hΓ,h| .cw ..::Γ,hΓ,h| .fw ..::Γ,hΓ,h| .fn ..::Γ,hΓ,h| .rc ..::Γ,hΓ,h| .nw ..::Γ,hΓ,h=>HS (Γ:=Γ) hΓ.2 h
theorem Pn{y:PV}(h:y.fQ=true):y.closed=true:=by
 cases y<;>first|rfl|cases h
open Classical in
 def rD(recv:Bool)(pos:Nat)(fresh ro:Bool)(cs args:List PV)(r:PV)(cs':List PV):Model:=
 {recv:=recv,pos:=pos,fresh:=fresh,m:=fun c a=>if c=cs/\a=args then some (r,cs')else none,rk:= .no,ro:=ro,rm:=fun _ _=>none}
open Classical in
 def xL(rk:RK)(es:List (List PV))(args:List PV)(r:PV)(es':List (List PV)):Model:=
 {recv:=false,pos:=0,fresh:=false,m:=fun _ _=>none,rk:=rk,ro:=false,rm:=fun c a=>if c=es/\a=args then some (r,es')else none}
 def sK(f:FuncId)(m:Model):mn:=fun g=>if g=f then some m else none
theorem qy{P:Program}{f:FuncId}{m:Model}(h:BI P f m):jx P (sK f m):=by
 intro g m' hg;unfold sK at hg;split at hg
 ·rename_i e;subst e;injection hg with hg;subst hg;exact h
 ·cases hg
theorem qz(f:FuncId)(m:Model):sK f m f=some m:=Qr rfl
def aM.pN(S:aM U)(id aq:Nat):Option (List (KV U)):=
 match Nat.beq (S.H id).aq aq with
 |true=>match(S.H id).c with
  | .box cs=>some cs
  |_=>none
 |false=>none
theorem xa{id aq:Nat}{cs:List (KV U)}(h:S.pN id aq=some cs):(S.H id).aq=aq/\(S.H id).c= .box cs:=by
 unfold aM.pN at h;split at h
 ·rename_i hv;split at h
  ·rename_i hc;injection h with h;subst h;exact⟨QF hv,hc⟩
  ·cases h
 ·cases h
structure Xo (U:TU) where
 e:Nat
 k:Nat
 T:U.Ty
 xs:List (U.den T)
def aM.row?(S:aM U)(id aq:Nat):Option (Xo U):=
 match Nat.beq (S.H id).aq aq with
 |true=>match(S.H id).c with
  | .row e k T xs=>some ⟨e,k,T,xs⟩
  |_=>none
 |false=>none
theorem zG{id aq:Nat}{r:Xo U}(h:S.row? id aq=some r):(S.H id).aq=aq/\(S.H id).c= .row r.e r.k r.T r.xs:=by
 unfold aM.row? at h;split at h
 ·rename_i hv;split at h
  ·rename_i hc;injection h with h;subst h;exact⟨QF hv,hc⟩
  ·cases h
 ·cases h
theorem mZ{id aq:Nat}{r:Xo U}(h:S.row? id aq=some r):(S.st.H id).aq=aq/\(S.st.H id).c= .row r.e r.k (r.xs.map (U.pv r.T)):=by
 obtain⟨h1,h2⟩:=zG h;exact⟨h1,by simp[aM.st,cI.pv,h2,dg.pv]⟩
structure aaI (U:TU) where
 e:Nat
 k:Nat
 es:List (List (KV U))
def aM.OA(S:aM U)(id aq:Nat):Option (aaI U):=
 match Nat.beq (S.H id).aq aq with
 |true=>match(S.H id).c with
  | .raw e k es=>some ⟨e,k,es⟩
  |_=>none
 |false=>none
theorem Oz{id aq:Nat}{r:aaI U}(h:S.OA id aq=some r):(S.st.H id).aq=aq/\(S.st.H id).c= .row r.e r.k (r.es.map fun c=>c.map KV.pv):=by
 unfold aM.OA at h;split at h
 ·rename_i hv;split at h
  ·rename_i hc;injection h with h
   subst h;exact⟨QF hv,by simp[aM.st,cI.pv,hc,dg.pv]⟩
  ·cases h
 ·cases h
def NK{α:Type}(S:aM U)(e k:Nat)(T:U.Ty)(args:List (KV U))(j:Nat->Nat->List (U.den T)->List (KV U)->Option α):Option α:=
 match args with
 | .own id aq::rest=>(match S.row? id aq with
  |some r=>(match Nat.beq r.e e&&Nat.beq r.k k with
   |true=>(match wH r.T T r.xs with|some xs=>j id aq xs rest|none=>none)
   |false=>none)
  |none=>none)
 |_=>none
theorem Jc{α:Type}{e k:Nat}{T:U.Ty}{args:List (KV U)}{j:Nat->Nat->List (U.den T)->List (KV U)->Option α}{r:α}(h:NK S e k T args j=some r):
  ∃id aq xs rest,args= .own id aq::rest/\(S.H id).aq=aq/\(S.H id).c= .row e k T xs/\j id aq xs rest=some r:=by
 unfold NK at h;split at h
 ·rename_i id aq rest;split at h
  ·rename_i rr hr;obtain⟨h1,h2⟩:=zG hr;split at h
   ·rename_i hek;rw[Qm]at hek;split at h
    ·rename_i xs hxs;obtain⟨eT,rfl⟩:=lL hxs;obtain⟨re,rk,rT,rxs⟩:=rr;simp only at eT h2 hek;subst eT;exact⟨id,aq,_,rest,rfl,h1,by rw[h2,QF hek.1,QF hek.2],h⟩
    ·cases h
   ·cases h
  ·cases h
 ·cases h
theorem tC(K:TK U)(T:U.Ty)(xs:List (U.den T)):uW (xs.map (U.pv T))=true:=by
 refine QH.2 fun u hu=> ?_
 obtain⟨x,_,rfl⟩:=QP.1 hu;exact QH.2 fun y hy=>Pn (K.fQ T x y hy)
theorem Hv(K:TK U){T:U.Ty}(hp:U.plain T=true)(xs:List (U.den T)):Ef (xs.map (U.pv T))=true:=by
 refine QH.2 fun u hu=> ?_
 obtain⟨x,_,rfl⟩:=QP.1 hu;exact QH.2 fun y hy=>K.plain T hp x y hy
variable (K)
def iA{ρ:Type}(nid:Nat)(S:aM U)(f:FuncId)(args:List (KV U))(k:KV U->Option (Nat×cI U)->Option ρ):List (c7 U)->Option ρ
 |[]=>none
 | .bk _ _ _::Γ=>iA nid S f args k Γ
 | .rw g e kk T A_s rs F::Γ=>match Nat.beq f g with
  |true=>NK S e kk T args fun id aq xs rest=>(match oT K (S.AB id aq) (some id) A_s rest with
   |some a=>(match(rs.plain||rest.all KV.bo)&&(U.plain T||rest.all KV.bo)&&(rs.ok&&Nat.ble (mQ A_s) 9)with
    |true=>(F xs a).bind fun p=>k (Oo K rs p.1) (some (id,⟨aq,.row e kk T p.2⟩))
    |false=>none)
   |none=>iA nid S f args k Γ)
  |false=>iA nid S f args k Γ
 | .cw g e kk T A_s F::Γ=>match Nat.beq f g with
  |true=>NK S e kk T args fun id aq xs rest=>(match oT K (S.AB id aq) (some id) A_s rest with
   |some a=>(match(U.plain T||rest.all KV.bo)&&Nat.ble (mQ A_s) 9 with
    |true=>(F xs a).bind fun ys=>k (.own id (aq+1)) (some (id,⟨aq+1,.row e kk T ys⟩))
    |false=>none)
   |none=>iA nid S f args k Γ)
  |false=>iA nid S f args k Γ
 | .fw g A_s e kk T F::Γ=>match Nat.beq f g with
  |true=>(match oT K S none A_s args with
   |some a=>(match(U.plain T||args.all KV.bo)&&Nat.ble (mQ A_s) 9 with
    |true=>(F a).bind fun ys=>k (.own nid ((S.H nid).aq+1)) (some (nid,⟨(S.H nid).aq+1,.row e kk T ys⟩))
    |false=>none)
   |none=>iA nid S f args k Γ)
  |false=>iA nid S f args k Γ
 | .fn g A_s rs F::Γ=>match Nat.beq f g with
  |true=>(match oT K S none A_s args with
   |some a=>(match(rs.plain||args.all KV.bo)&&(rs.ok&&Nat.ble (mQ A_s) 9)with
    |true=>(F a).bind fun r=>k (Oo K rs r) none
    |false=>none)
   |none=>iA nid S f args k Γ)
  |false=>iA nid S f args k Γ
 | .rc g pos R A_s rs F::Γ=>match Nat.beq f g with
  |true=>(match args[pos]? with
   |some (.ptr id aq 0)=>(match S.pN id aq with
    |some cs=>(match K.dec R mg cs with
     |some s=>(match oT K S (some id) A_s (cutAt pos args)with
      |some a=>(match((rs.plain&&U.plain R)||(cutAt pos args).all KV.bo)&&(rs.ok&&Nat.ble (mQ A_s) 9)with
       |true=>(F s a).bind fun p=>k (Oo K rs p.1) (some (id,⟨aq,.box (K.bW R p.2)⟩))
       |false=>none)
      |none=>iA nid S f args k Γ)
     |none=>none)
    |none=>none)
   |_=>none)
  |false=>iA nid S f args k Γ
 | .ro g pos R A_s rs F::Γ=>match Nat.beq f g with
  |true=>(match args[pos]? with
   |some (.ptr id aq 0)=>(match S.pN id aq with
    |some cs=>(match CJ K R cs with
     |some s=>(match oT K S (some id) A_s (cutAt pos args)with
      |some a=>(match((rs.plain&&U.plain R)||(cutAt pos args).all KV.bo)&&(rs.ok&&Nat.ble (mQ A_s) 9)with
       |true=>(F s a).bind fun p=>k (Oo K rs p.1) none
       |false=>none)
      |none=>iA nid S f args k Γ)
     |none=>none)
    |none=>none)
   |_=>none)
  |false=>iA nid S f args k Γ
 | .nw g A_s R F::Γ=>match Nat.beq f g with
  |true=>(match oT K S none A_s args with
   |some a=>(match(U.plain R||args.all KV.bo)&&Nat.ble (mQ A_s) 9 with
    |true=>(F a).bind fun s=>k (.ptr nid ((S.H nid).aq+1) 0) (some (nid,⟨(S.H nid).aq+1,.box (K.bW R s)⟩))
    |false=>none)
   |none=>iA nid S f args k Γ)
  |false=>iA nid S f args k Γ
variable {K}
theorem ri{T:U.Ty}(K:TK U)(v:U.den T)(ha:U.agg T=false):∃y,cQ T v=y/\y∈U.pv T v:=by
 have h1:=K.len T v;rw[K.one T ha]at h1
 cases hq:U.pv T v with
 |nil=>rw[hq]at h1;cases h1
 |cons y l=>exact⟨y,by rw[cQ,ha,hq];rfl,Qx⟩
theorem ub{T:U.Ty}(v:U.den T)(ha:U.agg T=true):cQ T v= .agg (U.pv T v):=by rw[cQ,ha]
theorem OJ{y:PV}(h:y.plain=true):y.nc=true:=by
 cases y<;>first|exact h|cases h
theorem gb{y:PV}(h:y.fQ=true):y.closed=true:=by
 cases y<;>first|rfl|cases h
theorem Pm{y:PV}(h:y.fQ=true):y.bo=true:=by
 cases y<;>first|rfl|cases h
theorem Gs(K:TK U){T:U.Ty}(hp:U.plain T=true)(v:U.den T):(cQ T v).nc=true:=by
 cases ha:U.agg T with
 |true=>rw[ub v ha];exact QH.2 fun y hy=>K.plain T hp v y hy
 |false=>obtain⟨y,h1,h2⟩:=ri K v ha;rw[h1];exact OJ (K.plain T hp v y h2)
theorem xd{T:U.Ty}(K:TK U)(v:U.den T):(cQ T v).bo=true:=by
 cases ha:U.agg T with
 |true=>rw[ub v ha];exact QH.2 fun y hy=>gb (K.fQ T v y hy)
 |false=>obtain⟨y,h1,h2⟩:=ri K v ha;rw[h1];exact Pm (K.fQ T v y h2)
theorem Ie(K:TK U):∀(Ts:List U.Ty) (v:CV U Ts),Ts.all U.plain=true->(Ad Ts v).all PV.nc=true
 |[],v,_=>rfl
 |T::l,v,h=>by
  rw[List.all_cons,Qm]at h;rw[Ad,List.all_cons,Gs K h.1 v.1,Ie K l v.2 h.2];rfl
theorem Dx(K:TK U):∀(Ts:List U.Ty) (v:CV U Ts),(Ad Ts v).all PV.bo=true
 |[],v=>rfl
 |T::l,v=>by rw[Ad,List.all_cons,xd K v.1,Dx K l v.2];rfl
theorem UN{y:PV}(h:y.nc=true):y.qu=true:=by
 cases y<;>first|exact h|cases h
theorem CZ{T:U.Ty}(K:TK U)(v:U.den T)(cs:List PV):cQ T v≠ .dx cs:=by
 intro h
 cases ha:U.agg T with
 |true=>rw[ub v ha]at h;cases h
 |false=>obtain⟨y,h1,h2⟩:=ri K v ha;have h3:=K.fQ T v y h2;rw[<-h1,h]at h3;cases h3
theorem wy(K:TK U):∀(r:nQ U) (v:r.den),r.plain=true->(qp r v).qu=true
 | .one T,v,h=>UN (Gs K h v)
 | .many Ts,v,h=>Ie K Ts v h
 | .fn _,_,h=>by cases h
theorem MX:∀(A_s:List (dS U)) (v:dp A_s),A_s.all dS.XN=true->(fK A_s v).all PV.closed=true
 |[],_,_=>by rw[fK];rfl
 |a::l,v,h=>by
  rw[List.all_cons,Qm]at h;rw[fK,List.all_cons,MX l v.2 h.2,Bool.and_true]
  cases a with
  |ref a=>rw[kR];rfl
  |ty T=>cases h.1
  |bw f cs=>cases h.1
  |agg cs=>cases h.1
theorem uL(K:TK U):∀(r:nQ U) (v:r.den),r.ok=true->(qp r v).rK=true
 | .fn (.bw f cs),v,h=>by
  show(kR (.bw f cs) v).rK=true;rw[kR];exact MX cs v h
 | .fn (.ty _),v,h=>by cases h
 | .fn (.ref _),v,h=>by cases h
 | .fn (.agg _),v,h=>by cases h
 | .one T,v,_=>by
  show(cQ T v).rK=true;have h1:=xd K v;have h2:=CZ K v;generalize cQ T v=y at h1 h2;cases y<;>first|exact h1|exact absurd rfl (h2 _)
 | .many Ts,v,_=>Dx K Ts v
theorem j0(l:List (KV U)):(l.map KV.pv).all PV.bo=l.all KV.bo:=by
 induction l with
 |nil=>rfl
 |cons x l ih=>simp only[QD,List.all_cons,T9,ih]
theorem dM{P:Program}{ρ:Type}{nid:Nat}{f:FuncId}{args:List (KV U)}{k:KV U->Option (Nat×cI U)->Option ρ}{r:ρ}:∀{Γ:List (c7 U)},q9 P Γ->iA K nid S f args k Γ=some r->
  ∃Γ' x wr,jx P Γ'/\kF Γ' nid S.st f (args.map KV.pv)=some (x.pv,wr.map iU)/\k x wr=some r
 |[],_,h=>by cases h
 | .bk _ _ _::Γ,hΓ,h=>dM (Γ:=Γ) hΓ.2 h
 | .rw g e kk T A_s rs F::Γ,hΓ,h=>by
  simp only[iA]at h;split at h
  ·rename_i hg;have hg:=QF hg;subst hg;obtain⟨id,aq,xs,rest,rfl,hver,hc,h'⟩:=Jc h;split at h'
   ·rename_i a ha;split at h'
    ·rename_i hcl;simp only[Qc]at h';obtain⟨⟨v,ys⟩,hv,hk⟩:=h';rw[Qm,Qm,Qm]at hcl;obtain⟨⟨hcl1,hcl2⟩,hrok,hdep⟩:=hcl;have hfz:=lh (ex:=some id) (HQ S id aq) A_s 9 rest a (QG hdep) ha
     have hfz':(rest.map KV.pv).map (fz S.st.H (some id) 9)=fK A_s a:=by
      rw[<-hfz];exact List.map_congr_left fun y _=>(Lq S id aq 9 y).symm
     obtain⟨hen,hcon⟩:=hΓ.1;refine⟨sK f (xL (.VA e kk) (xs.map (U.pv T)) (fK A_s a) (qp rs v) (ys.map (U.pv T))),Oo K rs v,some (id,⟨aq,.row e kk T ys⟩),qy ⟨hen,(fun _ cs as' r' cs' hm=>by cases hm),(fun hq=>by cases hq),fun es as' r' es' hm=> ?_,(fun hq=>by cases hq)⟩,?_,hk⟩
     ·simp only[xL]at hm;split at hm
      ·rename_i he;injection hm with hm
       injection hm with h1 h2
       subst h1 h2;obtain⟨rfl,rfl⟩:=he;exact hcon xs a v ys hv
      ·cases hm
     ·have hv1:(S.st.H id).aq=aq:=hver;have hc1:(S.st.H id).c= .row e kk (xs.map (U.pv T)):=by simp[aM.st,cI.pv,hc,dg.pv]
      simp only[QD,KV.pv,kF,qz,xL,wh,hv1,hc1,Qt,tC K T xs,and_self,hfz',IX,Qe,iU,cI.pv,dg.pv];rw[Qr];rw[j0,uL K rs v hrok,tC K T ys];simp only[Qn]at hcl1 hcl2;rcases hcl1 with hcl1|hcl1
      ·rw[wy K rs v hcl1];rcases hcl2 with hcl2|hcl2
       ·rw[Hv K hcl2 ys];rfl
       ·rw[hcl2];simp
      ·rw[hcl1];simp
    ·cases h'
   ·exact dM hΓ.2 h'
  ·exact dM hΓ.2 h
 | .cw g e kk T A_s F::Γ,hΓ,h=>by
  simp only[iA]at h;split at h
  ·rename_i hg;have hg:=QF hg;subst hg;obtain⟨id,aq,xs,rest,rfl,hver,hc,h'⟩:=Jc h;split at h'
   ·rename_i a ha;split at h'
    ·rename_i hcl;simp only[Qc]at h';obtain⟨ys,hv,hk⟩:=h';rw[Qm]at hcl;obtain⟨hcl2,hdep⟩:=hcl;have hfz:=lh (ex:=some id) (HQ S id aq) A_s 9 rest a (QG hdep) ha
     have hfz':(rest.map KV.pv).map (fz S.st.H (some id) 9)=fK A_s a:=by
      rw[<-hfz];exact List.map_congr_left fun y _=>(Lq S id aq 9 y).symm
     obtain⟨hen,hcon⟩:=hΓ.1;refine⟨sK f (xL (.MT e kk) (xs.map (U.pv T)) (fK A_s a) .any (ys.map (U.pv T))),.own id (aq+1),some (id,⟨aq+1,.row e kk T ys⟩),qy ⟨hen,(fun _ cs as' r' cs' hm=>by cases hm),(fun hq=>by cases hq),fun es as' r' es' hm=> ?_,(fun hq=>by cases hq)⟩,?_,hk⟩
     ·simp only[xL]at hm;split at hm
      ·rename_i he;injection hm with hm
       injection hm with h1 h2
       subst h1 h2;obtain⟨rfl,rfl⟩:=he;exact hcon xs a ys hv
      ·cases hm
     ·have hv1:(S.st.H id).aq=aq:=hver;have hc1:(S.st.H id).c= .row e kk (xs.map (U.pv T)):=by simp[aM.st,cI.pv,hc,dg.pv]
      simp only[QD,KV.pv,kF,qz,xL,wg,hv1,hc1,Qt,tC K T xs,and_self,hfz',Qe,iU,cI.pv,dg.pv];rw[Qr];rw[j0,tC K T ys];simp only[Qn]at hcl2;rcases hcl2 with hcl2|hcl2
      ·rw[Hv K hcl2 ys];rfl
      ·rw[hcl2];simp
    ·cases h'
   ·exact dM hΓ.2 h'
  ·exact dM hΓ.2 h
 | .fw g A_s e kk T F::Γ,hΓ,h=>by
  simp only[iA]at h;split at h
  ·rename_i hg;have hg:=QF hg;subst hg;split at h
   ·rename_i a ha;split at h
    ·rename_i hcl;simp only[Qc]at h;obtain⟨ys,hv,hk⟩:=h;rw[Qm]at hcl;obtain⟨hcl2,hdep⟩:=hcl;have hfz:=lh (ex:=none) (fun id h=>by cases h) A_s 9 args a (QG hdep) ha
     obtain⟨hen,hcon⟩:=hΓ.1;refine⟨sK f (xL (.fre e kk) [] (fK A_s a) .any (ys.map (U.pv T))),.own nid ((S.H nid).aq+1),some (nid,⟨(S.H nid).aq+1,.row e kk T ys⟩),qy ⟨hen,(fun _ cs as' r' cs' hm=>by cases hm),(fun hq=>by cases hq),fun as' r' es' hm=> ?_,(fun hq=>by cases hq)⟩,?_,hk⟩
     ·simp only[xL]at hm;split at hm
      ·rename_i he;injection hm with hm
       injection hm with h1 h2
       subst h1 h2;obtain⟨_,rfl⟩:=he;exact hcon a ys hv
      ·cases hm
     ·simp only[kF,qz,xL,BB,hfz,and_self,Qt,Qe,iU,cI.pv,dg.pv,KV.pv];rw[Qr]
      ·rfl
      rw[j0,tC K T ys];simp only[Qn]at hcl2;rcases hcl2 with hcl2|hcl2
      ·rw[Hv K hcl2 ys];rfl
      ·rw[hcl2];simp
    ·cases h
   ·exact dM hΓ.2 h
  ·exact dM hΓ.2 h
 | .fn g A_s rs F::Γ,hΓ,h=>by
  simp only[iA]at h;split at h
  ·rename_i hg;have hg:=QF hg;subst hg;split at h
   ·rename_i a ha;split at h
    ·rename_i hcl;simp only[Qc]at h;obtain⟨v,hv,hk⟩:=h;rw[Qm,Qm]at hcl;obtain⟨hcl,hrok,hdep⟩:=hcl;have hfz:=lh (ex:=none) (fun id h=>by cases h) A_s 9 args a (QG hdep) ha
     obtain⟨hen,hcon⟩:=hΓ.1;refine⟨sK f (rD false 0 false false [] (fK A_s a) (qp rs v) []),_,none,qy ⟨hen,fun _ cs as' r' cs' hm=> ?_,(fun hq=>by cases hq),trivial,(fun hq=>by cases hq)⟩,?_,hk⟩
     ·simp only[rD]at hm;split at hm
      ·rename_i he;injection hm with hm
       injection hm with h1 h2
       subst h1 h2;obtain⟨rfl,rfl⟩:=he;exact hcon a v hv
      ·cases hm
     ·simp only[kF,qz,rD,Qq,Qu,hfz,and_self,Qt,IX,Option.map_none];rw[Qr];rw[j0,uL K rs v hrok];simp only[Qn]at hcl;rcases hcl with hcl|hcl
      ·rw[wy K rs v hcl];rfl
      ·rw[hcl];simp
    ·cases h
   ·obtain⟨Γ',x,wr,h1,h2,h3⟩:=dM hΓ.2 h;exact⟨Γ',x,wr,h1,h2,h3⟩
  ·exact dM hΓ.2 h
 | .rc g pos R A_s rs F::Γ,hΓ,h=>by
  simp only[iA]at h;split at h
  ·rename_i hg;have hg:=QF hg;subst hg;split at h
   ·rename_i id aq hpos;have hpos:args[pos]?=some (.ptr id aq 0):=hpos;generalize hrest:cutAt pos args=rest at h;split at h
    ·rename_i cs hbox;split at h
     ·rename_i s hs;split at h
      ·rename_i a ha;split at h
       ·rename_i hcl;simp only[Qc]at h;obtain⟨⟨v,s'⟩,hv,hk⟩:=h;obtain⟨hver,hc⟩:=xa hbox;rw[Qm,Qm]at hcl;obtain⟨hcl,hrok,hdep⟩:=hcl;have hfz:=lh (ex:=some id) (fun id' h=>by injection h with h;subst h;intro e k T xs hq;rw[hc]at hq;cases hq) A_s 9 rest a (QG hdep) ha
        obtain⟨hnz,hclo⟩:=qR (K.kE _ _ _ _ hs);obtain⟨hen,hcon⟩:=hΓ.1;refine⟨sK f (rD true pos false false (U.pv R s) (fK A_s a) (qp rs v) (U.pv R s')),_,_,qy ⟨hen,fun _ cs as' r' cs' hm=> ?_,(fun hq=>by cases hq),trivial,(fun hq=>by cases hq)⟩,?_,hk⟩
        ·simp only[rD]at hm;split at hm
         ·rename_i he;injection hm with hm
          injection hm with h1 h2
          subst h1 h2;obtain⟨rfl,rfl⟩:=he;exact hcon s a v s' hv
         ·cases hm
        ·have hv1:(S.st.H id).aq=aq:=hver;have hc1:(S.st.H id).c= .box (cs.map KV.pv):=by simp[aM.st,cI.pv,hc,dg.pv]
         have hpos':(args.map KV.pv)[pos]?=some (.ptr id aq 0):=by rw[QT,hpos];rfl
         have hrest':cutAt pos (args.map KV.pv)=rest.map KV.pv:=by rw[<-hrest];simp[cutAt]
         simp only[kF,qz,rD,Bool.false_and,Qq,Qu,Qt,hpos',hrest',hv1,hc1,ll,hclo,hnz,hfz,and_self,IX,Qe,iU,cI.pv,dg.pv,K.om];rw[Qr];have hgs:(U.pv R s').all PV.closed=true:=QH.2 fun y hy=>gb (K.fQ R s' y hy)
         rw[j0,uL K rs v hrok,hgs];simp only[Qn,Qm]at hcl;rcases hcl with⟨hcl1,hcl2⟩|hcl
         ·rw[wy K rs v hcl1,QH.2 fun y hy=>K.plain R hcl2 s' y hy];rfl
         ·rw[hcl];simp
       ·cases h
      ·exact dM hΓ.2 h
     ·cases h
    ·cases h
   ·cases h
  ·exact dM hΓ.2 h
 | .ro g pos R A_s rs F::Γ,hΓ,h=>by
  simp only[iA]at h;split at h
  ·rename_i hg;have hg:=QF hg;subst hg;split at h
   ·rename_i id aq hpos;have hpos:args[pos]?=some (.ptr id aq 0):=hpos;generalize hrest:cutAt pos args=rest at h;split at h
    ·rename_i cs hbox;split at h
     ·rename_i s hs;split at h
      ·rename_i a ha;split at h
       ·rename_i hcl;simp only[Qc]at h;obtain⟨⟨v,s'⟩,hv,hk⟩:=h;obtain⟨hver,hc⟩:=xa hbox;rw[Qm,Qm]at hcl;obtain⟨hcl,hrok,hdep⟩:=hcl;have hfz:=lh (ex:=some id) (fun id' h=>by injection h with h;subst h;intro e k T xs hq;rw[hc]at hq;cases hq) A_s 9 rest a (QG hdep) ha
        obtain⟨hnn,hs⟩:cs.all KV.NO=true/\K.dec R mg cs=some s:=by
         unfold CJ at hs;split at hs
         ·rename_i hn;exact⟨hn,hs⟩
         ·cases hs
        obtain⟨hnz,hclo⟩:=qR (K.kE _ _ _ _ hs)
        have hnnp:(cs.map KV.pv).all PV.OR=true:=by
         rw[QH];intro y hy;obtain⟨x,hx,rfl⟩:=QP.1 hy;have:=QH.1 hnn x hx;cases x<;>first|rfl|cases this
        obtain⟨hen,hcon⟩:=hΓ.1;refine⟨sK f (rD true pos false true (U.pv R s) (fK A_s a) (qp rs v) (U.pv R s')),_,none,qy ⟨hen,fun _ cs as' r' cs' hm=> ?_,(fun hq=>by cases hq),trivial,fun _ cs as' r' cs' hm=> ?_⟩,?_,hk⟩
        ·simp only[rD]at hm;split at hm
         ·rename_i he;injection hm with hm
          injection hm with h1 h2
          subst h1 h2;obtain⟨rfl,rfl⟩:=he;exact(hcon s a v s' hv).2
         ·cases hm
        ·simp only[rD]at hm;split at hm
         ·rename_i he;injection hm with hm
          injection hm with h1 h2
          subst h1 h2;rw[(hcon s a v s' hv).1,he.1]
         ·cases hm
        ·have hv1:(S.st.H id).aq=aq:=hver;have hc1:(S.st.H id).c= .box (cs.map KV.pv):=by simp[aM.st,cI.pv,hc,dg.pv]
         have hpos':(args.map KV.pv)[pos]?=some (.ptr id aq 0):=by rw[QT,hpos];rfl
         have hrest':cutAt pos (args.map KV.pv)=rest.map KV.pv:=by rw[<-hrest];simp[cutAt]
         simp only[kF,qz,rD,Qq,Qu,Qt,hpos',hrest',hv1,hc1,ll,hclo,hnz,hfz,and_self,IX,Option.map_none,hnnp,Bool.and_self];rw[Qr];have hgs:(U.pv R s').all PV.closed=true:=QH.2 fun y hy=>gb (K.fQ R s' y hy)
         rw[j0,uL K rs v hrok,hgs];simp only[Qn,Qm]at hcl;rcases hcl with⟨hcl1,hcl2⟩|hcl
         ·rw[wy K rs v hcl1,QH.2 fun y hy=>K.plain R hcl2 s' y hy];rfl
         ·rw[hcl];simp
       ·cases h
      ·exact dM hΓ.2 h
     ·cases h
    ·cases h
   ·cases h
  ·exact dM hΓ.2 h
 | .nw g A_s R F::Γ,hΓ,h=>by
  simp only[iA]at h;split at h
  ·rename_i hg;have hg:=QF hg;subst hg;split at h
   ·rename_i a ha;split at h
    ·rename_i hcl;simp only[Qc]at h;obtain⟨s,hs,hk⟩:=h;rw[Qm]at hcl;obtain⟨hcl,hdep⟩:=hcl;have hfz:=lh (ex:=none) (fun id h=>by cases h) A_s 9 args a (QG hdep) ha
     obtain⟨hen,hcon⟩:=hΓ.1;refine⟨sK f (rD false 0 true false [] (fK A_s a) .any (U.pv R s)),_,_,qy ⟨hen,(fun hq=>by cases hq),fun _ as' r' cs' hm=> ?_,trivial,(fun hq=>by cases hq)⟩,?_,hk⟩
     ·simp only[rD]at hm;split at hm
      ·rename_i he;injection hm with hm
       injection hm with h1 h2
       subst h1 h2;obtain⟨_,rfl⟩:=he;exact hcon a s hs
      ·cases hm
     ·simp only[kF,qz,rD,Qt,hfz,and_self,Qe,iU,cI.pv,dg.pv,K.om];have hgs:(U.pv R s).all PV.closed=true:=QH.2 fun y hy=>gb (K.fQ R s y hy)
      rw[Qr]
      ·rfl
      rw[j0,hgs];simp only[Qn]at hcl;rcases hcl with hcl|hcl
      ·rw[QH.2 fun y hy=>K.plain R hcl s y hy];rfl
      ·rw[hcl];simp
    ·cases h
   ·exact dM hΓ.2 h
  ·exact dM hΓ.2 h
end
end Go.TQ
end
noncomputable section
namespace Go.TQ
def idx{α:Type}(xs:List α)(n:Int):Option α:=if 0<=n then xs[n.toNat]? else none
def bx(bytes n:Nat):Bool:=decide (n*bytes<=140737488355328)&&decide (n<=maxLen)
theorem xS{bytes n:Nat}(h:bx bytes n=true):n*bytes<=140737488355328/\n<=maxLen:=by
 simpa[bx]using h
theorem HP{α:Type}{xs:List α}{n:Int}{v:α}(h:idx xs n=some v):0<=n/\n.toNat<xs.length/\xs[n.toNat]?=some v:=by
 unfold idx at h;split at h
 ·rename_i h0;exact⟨h0,(Qw.1 h).1,h⟩
 ·cases h
section
variable {U : TU}
def Er:Option Nat->List (KV U)->Option (KV U)
 |none,cs=>(match cs with|x::_=>some x|[]=>none)
 |some n,cs=>(match Nat.ble n cs.length with|true=>some (.agg (cs.take n))|false=>none)
def AU(cs:List (KV U))(off:Nat)(xs:List (KV U)):List (KV U):=cs.take off++xs++cs.drop (off+xs.length)
def NR(S:aM U):List (KV U)->List (Nat×Nat×aX)->Option (List (KV U))
 |cs,[]=>some cs
 |cs,(off,n,x)::rest=>
  match Nat.beq (x.cp S).cells.length n&&Nat.ble (off+n) cs.length&&(x.cp S).cells.all KV.one with
  |true=>NR S (AU cs off (x.cp S).cells) rest
  |false=>none
def EI(S:aM U)(k:Nat):List (List (KV U))->List (Nat×aX)->Option (List (List (KV U)))
 |es,[]=>some es
 |es,(i,x)::rest=>
  match Nat.beq (x.cp S).cells.length k&&Nat.blt i es.length&&(x.cp S).cells.all KV.one with
  |true=>EI S k (es.set i (x.cp S).cells) rest
  |false=>none
def NV(K:TK U)(T:U.Ty):List (List (KV U))->Option (List (U.den T))
 |[]=>some []
 |e::es=>match K.dec T mg e with
  |some v=>(match NV K T es with|some vs=>some (v::vs)|none=>none)
  |none=>none
def Xf{ρ:Type}(op:BinOp)(x y:KV U)(k:KV U->Option ρ):Option ρ:=
 match x,y with
 | .int kd a,.int kd' b=>
  match op with
  | .shl=>if b<0 then none else k (.int kd (kd.wrap (a*2 ^ (min b.toNat kd.bits))))
  | .shr=>if b<0 then none else k (.int kd (a.fdiv (2 ^ (min b.toNat kd.bits))))
  |_=>if kd=kd' then(match op with
   | .add=>k (.int kd (kd.wrap (a+b)))
   | .sub=>k (.int kd (kd.wrap (a - b)))
   | .mul=>k (.int kd (kd.wrap (a*b)))
   | .quo=>if b=0 then none else k (.int kd (kd.wrap (a.tdiv b)))
   | .rem=>if b=0 then none else k (.int kd (a.tmod b))
   | .and=>k (.int kd (kd.wrap ((BitVec.ofInt kd.bits a&&&BitVec.ofInt kd.bits b).toNat)))
   | .or=>k (.int kd (kd.wrap ((BitVec.ofInt kd.bits a|||BitVec.ofInt kd.bits b).toNat)))
   | .xor=>k (.int kd (kd.wrap ((BitVec.ofInt kd.bits a^^^BitVec.ofInt kd.bits b).toNat)))
   | .andNot=>k (.int kd (kd.wrap ((BitVec.ofInt kd.bits a&&& ~~~ BitVec.ofInt kd.bits b).toNat)))
   | .eql=>k (.bool (decide (a=b)))
   | .neq=>k (.bool (!decide (a=b)))
   | .lss=>k (.bool (decide (a<b)))
   | .leq=>k (.bool (decide (a<=b)))
   | .gtr=>k (.bool (decide (b<a)))
   | .geq=>k (.bool (decide (b<=a)))
   |_=>none)else none
 | .str a,.str b=>
  match op with
  | .eql=>k (.bool (decide (a=b)))
  | .neq=>k (.bool (!decide (a=b)))
  | .lss=>k (.bool (jM a b))
  | .leq=>k (.bool (jM a b||decide (a=b)))
  | .gtr=>k (.bool (!(jM a b||decide (a=b))))
  | .geq=>k (.bool (!jM a b))
  |_=>none
 |_,_=>none
def CE:List LK->List (KV U)->List (KV U)->Option Bool
 |[],cs,ds=>(match cs,ds with|[],[]=>some true|_,_=>none)
 |q::ks,cs,ds=>(match q,cs,ds with
  | .i,.int k a::cs,.int l b::ds=>if k=l then(match CE ks cs ds with|some r=>some (decide (a=b)&&r)|none=>none)else none
  | .s,.str a::cs,.str b::ds=>(match CE ks cs ds with|some r=>some (decide (a=b)&&r)|none=>none)
  | .b,.bool a::cs,.bool b::ds=>(match CE ks cs ds with|some r=>some (decide (a=b)&&r)|none=>none)
  |_,_,_=>none)
theorem CD:∀{ks:List LK} {cs ds:List (KV U)} {b:Bool},CE ks cs ds=some b->jY ks (cs.map KV.pv) (ds.map KV.pv)=some b
 |[],cs,ds,b,h=>by
  simp only[CE]at h;split at h
  ·injection h with h;subst h;rfl
  ·cases h
 |q::ks,cs,ds,b,h=>by
  simp only[CE]at h;split at h
  ·split at h
   ·rename_i hk;split at h
    ·rename_i r hr;injection h with h
     subst h;simp only[QD,KV.pv,jY,Qr hk,CD hr,Qe]
    ·cases h
   ·cases h
  ·split at h
   ·rename_i r hr;injection h with h
    subst h;simp only[QD,KV.pv,jY,CD hr,Qe]
   ·cases h
  ·split at h
   ·rename_i r hr;injection h with h
    subst h;simp only[QD,KV.pv,jY,CD hr,Qe]
   ·cases h
  ·cases h
def aM.els(S:aM U)(T:U.Ty)(x:KV U):Option (List (U.den T)):=PC S.lk T x
def aM.WA(S:aM U):KV U->Option Nat
 | .df=>some 0
 | .sl _ xs=>some xs.length
 | .own id aq=>(match S.row? id aq with
  |some r=>some r.xs.length
  |none=>(match S.OA id aq with|some r=>some r.es.length|none=>none))
 | .view id aq kk lo n=>(match S.row? id aq with
  |some r=>(match Nat.beq r.k kk with|true=>some ((r.xs.drop lo).take n).length|false=>none)
  |none=>none)
 |_=>none
def AA(S:aM U):Option aX->Int->Option Int
 |none,d=>some d
 |some x,_=>(match x.cp S with| .int _ n=>some n|_=>none)
def cm(l h:Int)(n:Nat):Bool:=decide (0<=l)&&decide (l<=h)&&decide (h<=n)
def bE.cD:bE->List aX
 | .lv x| .box x| .AO x| .load _ x| .vh _ x| .not x| .conv _ x| .len _ x| .wC x| .AH _ x| .u9 _ x| .clear _ _ x| .GI _ _ x=>[x]
 | .pick c x y=>[c,x,y]
 | .alloc _=>[]
 | .store _ p x=>[p,x]
 | .build _ ps=>ps.map (·.2.2)
 | .Kb _ _ _ _ ps=>ps.map (·.2)
 | .nS _ x i=>[x,i]
 | .wI _ _ x i=>[x,i]
 | .bin _ x y| .jH _ x y| .Bw _ _ x y| .EJ _ x y| .qC _ x y| .uH x y| .AP _ _ _ _ x y| .lookup _ _ x y=>[x,y]
 | .call _ xs=>xs
 | .rL f xs=>f::xs
 | .cq _ _ _ s x=>[s,x]
 | .GA _ xs=>xs
 | .GB _ xs=>xs
 | .Jm _ _ _ _ l c=>[l,c]
 | .DA _ x lo hi=>x::(lo.toList++hi.toList)
def bE.c8(op:bE):Bool:=op.cD.all aX.c8
variable (K : TK U)
def Bz(T:U.Ty)(kk:Nat):Nat->List (KV U)->Option (List (U.den T))
 |0,_=>some []
 |n+1,cs=>(match K.dec T mg (cs.take kk)with
  |some v=>(match Bz T kk n (cs.drop kk)with|some vs=>some (v::vs)|none=>none)
  |none=>none)
def Uk(n:Option Nat)(ag:Bool)(kk:Nat):Bool:=
 match n with
 |none=> !ag&&Nat.beq kk 1
 |some m=>ag&&Nat.beq m kk
theorem GO{T:U.Ty}{kk:Nat}:∀{n:Nat} {cs:List (KV U)} {vs:List (U.den T)},Bz K T kk n cs=some vs->vs.length=n/\∀(i:Nat) (v:U.den T),vs[i]?=some v->K.dec T mg ((cs.drop (i*kk)).take kk)=some v
 |0,cs,vs,h=>by
  rw[Bz]at h;injection h with h
  subst h;exact⟨rfl,fun i v hv=>by simp at hv⟩
 |n+1,cs,vs,h=>by
  rw[Bz]at h;split at h
  ·rename_i v0 h0;split at h
   ·rename_i vs0 h1;injection h with h
    subst h;obtain⟨h2,h3⟩:=GO h1;refine⟨by rw[QE,h2],fun i v hv=> ?_⟩
    cases i with
    |zero=>
     simp only[List.getElem?_cons_zero,Qf]at hv;subst hv;simpa using h0
    |succ i=>
     have:=h3 i v (by simpa using hv)
     rw[List.drop_drop]at this
     rwa [Nat.succ_mul,Nat.add_comm]
   ·cases h
  ·cases h
def Co{α β:Type}(f:α->Bool)(xs:List (α×β))(d:β):β:=
 match xs with
 |[]=>d
 |p::xs=>bif f p.1 then p.2 else Co f xs d
def Cn{α β:Type}(f:α->Bool)(xs:List (α×β)):Bool:=xs.any fun p=>f p.1
def sk(a b:Int):List (KV U)->Bool
 |[.int _ a',.int _ b']=>decide (a=a')&&decide (b=b')
 |_=>false
theorem VT{B:U.Ty}{z:PV}{d:U.den B}(hz:z.c8=true)(h:uG K mg B (KV.qA z)=some d):cQ B d=nz z:=by
 unfold uG at h;split at h
 ·split at h
  ·rename_i cs hx;exfalso;unfold KV.qA at hx;split at hx<;>cases hx
  ·cases h
 ·rename_i hag;have h1:=K.kE B mg _ _ h;generalize hy:U.pv B d=ys at h1
  cases h1 with
  |cons hc ht=>
   cases ht;rename_i y
   have hv:cQ B d=y:=by
    unfold cQ;rw[hag,hy];rfl
   rw[hv];generalize hx:(KV.qA z:KV U)=x at hc;unfold PV.c8 at hz;split at hz
   ·simp only[KV.qA]at hx;subst hx;cases hc;rfl
   ·simp only[KV.qA]at hx;subst hx;cases hc;rfl
   ·simp only[KV.qA]at hx;subst hx;cases hc;rfl
   ·simp only[KV.qA]at hx;subst hx;cases hc
   ·simp only[KV.qA]at hx;subst hx;cases hc;rfl
   ·simp only[KV.qA]at hx;subst hx;cases hc
   ·simp only[KV.qA]at hx;subst hx;cases hc
   ·cases hz
theorem OT{A B:U.Ty}{k l:IntKind}{d:U.den B}(hA:U.agg A=true)(hk:∀v,∃a b,K.bW A v=[.int k a,.int l b])(a b:Int):∀(xs:List (U.den A×U.den B)),
  zM k a l b (xs.map fun p=>cQ A p.1) (xs.map fun p=>cQ B p.2)=some (bif Cn (fun v=>sk a b (K.bW A v)) xs then some (cQ B (Co (fun v=>sk a b (K.bW A v)) xs d))else none)/\(Cn (fun v=>sk a b (K.bW A v)) xs=false->Co (fun v=>sk a b (K.bW A v)) xs d=d)
 |[]=>⟨rfl,fun _=>rfl⟩
 |p::xs=>by
  obtain⟨a',b',h⟩:=hk p.1
  have hv:cQ A p.1= .agg [.int k a',.int l b']:=by
   unfold cQ;rw[hA,<-K.om,h];rfl
  obtain⟨ih,ih2⟩:=OT hA hk a b xs;have hq:sk a b (K.bW A p.1)=(decide (a=a')&&decide (b=b')):=by rw[h];rfl
  simp only[QD,hv,zM,and_self,Qt,Cn,List.any_cons,Co,hq]
  by_cases hab:a=a'/\b=b'
  ·obtain⟨rfl,rfl⟩:=hab;simp
  ·rw[Qs hab,ih]
   have hf:(decide (a=a')&&decide (b=b'))=false:=by
    rw[Bool.and_eq_false_iff,Qj,Qj]
    by_cases h:a=a'
    ·exact .inr fun h'=>hab ⟨h,h'⟩
    ·exact .inl h
   rw[hf];exact⟨rfl,ih2⟩
def eE{ρ:Type}(Γ:List (c7 U))(nid:Nat)(S:aM U)(op:bE)(k:KV U->Option (Nat×cI U)->Option ρ):Option ρ:=
 match op with
 | .lv x=>k (x.cp S) none
 | .pick c x y=>(match c.cp S with
  | .bool b=>(match b with|true=>k (x.cp S) none|false=>k (y.cp S) none)
  |_=>none)
 | .box x=>(match(x.cp S).cells.all KV.one with
  |true=>k (.ptr nid ((S.H nid).aq+1) 0) (some (nid,⟨(S.H nid).aq+1,.box (x.cp S).cells⟩))
  |false=>none)
 | .AO x=>(match(x.cp S).cells.all KV.one&&(x.cp S).cells.all KV.closed with
  |true=>k (.ref (x.cp S).cells) none
  |false=>none)
 | .alloc z=>(match z.all PV.c8 with
  |true=>k (.ptr nid ((S.H nid).aq+1) 0) (some (nid,⟨(S.H nid).aq+1,.box (z.map KV.qA)⟩))
  |false=>none)
 | .load n p=>(match p.cp S with
  | .ptr id aq off=>(match S.pN id aq with
   |some cs=>(match Er n (cs.drop off)with|some x=>k x none|none=>none)
   |none=>none)
  | .dZ id aq kk i off=>(match S.row? id aq with
   |some r=>(match Nat.beq kk r.k with
    |true=>(r.xs[i]?).bind fun v=>(match Er n ((K.bW r.T v).drop off)with|some x=>k x none|none=>none)
    |false=>none)
   |none=>(match S.OA id aq with
    |some r=>(match Nat.beq kk r.k with
     |true=>(match r.es[i]? with
      |some c=>(match Er n (c.drop off)with|some x=>k x none|none=>none)
      |none=>none)
     |false=>none)
    |none=>none))
  | .ref cs=>(match Er n cs with|some x=>k x none|none=>none)
  |_=>none)
 | .store n p x=>(match Nat.beq (x.cp S).cells.length n&&(x.cp S).cells.all KV.one with
  |true=>(match p.cp S with
   | .ptr id aq off=>(match S.pN id aq with
    |some cs=>(match Nat.ble (off+n) cs.length with
     |true=>k .undef (some (id,⟨aq,.box (AU cs off (x.cp S).cells)⟩))
     |false=>none)
    |none=>none)
   | .dZ id aq kk i off=>(match S.row? id aq with
    |some r=>(match Nat.beq kk r.k&&Nat.beq (U.size r.T) r.k&&Nat.ble (off+n) (U.size r.T)with
     |true=>(r.xs[i]?).bind fun v=>(match K.dec r.T mg (AU (K.bW r.T v) off (x.cp S).cells)with
      |some v'=>k .undef (some (id,⟨aq,.row r.e r.k r.T (r.xs.set i v')⟩))
      |none=>none)
     |false=>none)
    |none=>none)
   |_=>none)
  |false=>none)
 | .build z ps=>(match z.all PV.c8 with
  |true=>(match NR S (z.map KV.qA) ps with|some cs=>k (.agg cs) none|none=>none)
  |false=>none)
 | .Kb m e kk z ps=>(match K.N4 e with
  |some T=>(match Nat.beq (U.size T) kk&&z.all (fun u=>u.all PV.c8)with
   |true=>(match EI S kk (z.map fun u=>u.map KV.qA) ps with
    |some es=>(match NV K T es with
     |some vs=>(match m with
      |false=>k (.sl T vs) none
      |true=>k (.own nid ((S.H nid).aq+1)) (some (nid,⟨(S.H nid).aq+1,.row e kk T vs⟩)))
     |none=>none)
    |none=>none)
   |false=>none)
  |none=>(match m&&z.all (fun u=>u.all PV.c8)with
   |true=>(match EI S kk (z.map fun u=>u.map KV.qA) ps with
    |some es=>(match es.all (fun c=>c.all KV.NO)with
     |true=>k (.own nid ((S.H nid).aq+1)) (some (nid,⟨(S.H nid).aq+1,.raw e kk es⟩))
     |false=>none)
    |none=>none)
   |false=>none))
 | .vh off p=>(match p.cp S with
  | .ptr id aq o=>(match S.pN id aq with|some _=>k (.ptr id aq (o+off)) none|none=>none)
  | .dZ id aq kk i o=>(match S.row? id aq with|some r=>(r.xs[i]?).bind fun _=>k (.dZ id aq kk i (o+off)) none|none=>none)
  | .ref cs=>k (.ref (cs.drop off)) none
  |_=>none)
 | .nS kk x i=>(match i.cp S with
  | .int _ n=>(match x.cp S with
   | .sl T xs=>(match Nat.beq (U.size T) kk with
    |true=>(idx xs n).bind fun v=>k (.ref (K.bW T v)) none
    |false=>none)
   | .own id aq=>(match S.row? id aq with
    |some r=>(match Nat.beq kk r.k with
     |true=>(idx r.xs n).bind fun _=>k (.dZ id aq kk n.toNat 0) none
     |false=>none)
    |none=>(match S.OA id aq with
     |some r=>(match n with
      | .ofNat j=>(match Nat.beq kk r.k&&Nat.blt j r.es.length with
       |true=>k (.dZ id aq kk j 0) none
       |false=>none)
      |_=>none)
     |none=>none))
   | .view id aq kk' lo m=>(match S.row? id aq with
    |some r=>(match Nat.beq kk r.k&&Nat.beq kk' kk with
     |true=>(idx ((r.xs.drop lo).take m) n).bind fun _=>k (.dZ id aq kk (lo+n.toNat) 0) none
     |false=>none)
    |none=>none)
   |_=>none)
  |_=>none)
 | .bin op x y=>Xf op (x.cp S) (y.cp S) fun v=>k v none
 | .jH neg x y=>(match x.cp S,y.cp S with
  | .agg [.int kd a,.str s],.agg [.int kd' b,.str t]=>if kd=kd' then k (.bool (xor neg (decide (a=b)&&decide (s=t)))) none else none
  |_,_=>none)
 | .Bw neg ks x y=>(match x.cp S,y.cp S with
  | .agg cs,.agg ds=>(match CE ks cs ds with|some b=>k (.bool (xor neg b)) none|none=>none)
  |_,_=>none)
 | .GI n off x=>(match x.cp S with
  | .agg cs=>(match Er n (cs.drop off)with|some v=>k v none|none=>none)
  |_=>none)
 | .lookup ok z x y=>(match x.cp S,y.cp S with
  | .gD A B xs,.agg [.int kd a,.int ld b]=>(match K.La A,z.c8,uG K mg B (KV.qA z)with
   |some (kd',ld'),true,some d=>if kd=kd'/\ld=ld' then(match ok with
    |false=>k (tt K B (Co (fun v=>sk a b (K.bW A v)) xs d)) none
    |true=>k (.dx [tt K B (Co (fun v=>sk a b (K.bW A v)) xs d),.bool (Cn (fun v=>sk a b (K.bW A v)) xs)]) none)else none
   |_,_,_=>none)
  |_,_=>none)
 | .EJ neg x y=>(match x.cp S,y.cp S with
  | .bool a,.bool b=>k (.bool (xor neg (decide (a=b)))) none
  |_,_=>none)
 | .not x=>(match x.cp S with| .bool b=>k (.bool !b) none|_=>none)
 | .conv kd x=>(match x.cp S with| .int _ n=>k (.int kd (kd.wrap n)) none|_=>none)
 | .len true x=>(match x.cp S with| .str s=>k (.int .i64 s.size) none|_=>none)
 | .len false x=>(match S.WA (x.cp S)with|some n=>k (.int .i64 n) none|none=>none)
 | .call f xs=>iA K nid S f (xs.map (·.cp S)) k Γ
 | .rL fv xs=>(match fv.cp S with
  | .bw f caps=>iA K nid S f (xs.map (·.cp S)++caps) k Γ
  | .gZ f first=>iA K nid S f (first++xs.map (·.cp S)) k Γ
  |_=>none)
 | .cq e kk bytes s x=>(match K.N4 e with
  |some T=>(match Nat.beq (U.size T) kk with
   |true=>(match S.els T (x.cp S)with
    |some news=>(match s.cp S with
     | .df=>bif bx bytes news.length then k (.own nid ((S.H nid).aq+1)) (some (nid,⟨(S.H nid).aq+1,.row e kk T news⟩))else none
     | .own id aq=>(match S.row? id aq with
      |some r=>(match Nat.beq r.e e&&Nat.beq r.k kk with
       |true=>(match wH r.T T r.xs with
        |some xs=>bif bx bytes (xs.length+news.length)then k (.own id (aq+1)) (some (id,⟨aq+1,.row e kk T (xs++news)⟩))else none
        |none=>none)
       |false=>none)
      |none=>none)
     |_=>none)
    |none=>none)
   |false=>none)
  |none=>none)
 | .wC x=>(match x.cp S with
  | .ptr id aq off=>(match S.pN id aq with|some _=>k (.ptr id aq off) none|none=>none)
  | .ref cs=>k (.ref cs) none
  | .bw f cs=>k (.bw f cs) none
  |_=>none)
 | .AH i x=>(match x.cp S with
  | .dx cs=>(match cs[i]? with|some y=>k y none|none=>none)
  |_=>none)
 | .GA f caps=>k (.bw f (caps.map (·.cp S))) none
 | .GB f first=>k (.gZ f (first.map (·.cp S))) none
 | .Jm e kk bytes z l c=>(match K.N4 e with
  |some T=>(match Nat.beq (U.size T) kk&&z.all PV.c8 with
   |true=>(match K.dec T mg (z.map KV.qA)with
    |some d=>(match l.cp S,c.cp S with
     | .int _ n,.int _ m=>bif decide (n=m)&&decide (0<=n)&&bx bytes n.toNat then k (.own nid ((S.H nid).aq+1)) (some (nid,⟨(S.H nid).aq+1,.row e kk T (List.replicate n.toNat d)⟩))else none
     |_,_=>none)
    |none=>none)
   |false=>none)
  |none=>none)
 | .DA kk x lo hi=>(match x.cp S with
  | .sl T xs=>(match Nat.beq (U.size T) kk with
   |true=>(match AA S lo 0,AA S hi xs.length with
    |some l,some h=>bif cm l h xs.length then k (.sl T ((xs.take h.toNat).drop l.toNat)) none else none
    |_,_=>none)
   |false=>none)
  | .own id aq=>(match S.row? id aq with
   |some r=>(match Nat.beq kk r.k with
    |true=>(match AA S lo 0,AA S hi r.xs.length with
     |some l,some h=>bif cm l h r.xs.length then k (.view id aq kk l.toNat (h.toNat - l.toNat)) none else none
     |_,_=>none)
    |false=>none)
   |none=>none)
  | .view id aq kk' lo0 n0=>(match S.row? id aq with
   |some r=>(match Nat.beq kk r.k&&Nat.beq kk' kk with
    |true=>(match AA S lo 0,AA S hi n0 with
     |some l,some h=>bif cm l h n0 then k (.view id aq kk (lo0+l.toNat) (h.toNat - l.toNat)) none else none
     |_,_=>none)
    |false=>none)
   |none=>none)
  |_=>none)
 | .uH x i=>(match x.cp S,i.cp S with
  | .str s,.int _ n=>(uH s n).bind fun b=>k (.int .u8 b) none
  |_,_=>none)
 | .AP e n len kk x i=>(match x.cp S,i.cp S with
  | .agg cs,.int _ j=>(match K.N4 e with
   |some T=>(match Nat.beq (U.size T) kk&&Uk n (U.agg T) kk with
    |true=>(match Bz K T kk len cs with
     |some vs=>(idx vs j).bind fun v=>k (tt K T v) none
     |none=>none)
    |false=>none)
   |none=>none)
  |_,_=>none)
 | .clear kk z x=>(match x.cp S with
  | .view id aq kk' lo n=>(match S.row? id aq with
   |some r=>(match Nat.beq kk r.k&&Nat.beq kk' kk&&Nat.beq (U.size r.T) kk&&z.all PV.c8&&Nat.beq z.length kk&&(z.map (KV.qA:PV->KV U)).all KV.one with
    |true=>(match K.dec r.T mg (z.map KV.qA)with
     |some d=>k (.dx []) (some (id,⟨aq,.row r.e r.k r.T (r.xs.take lo++List.replicate n d++r.xs.drop (lo+n))⟩))
     |none=>none)
    |false=>none)
   |none=>none)
  |_=>none)
 | .qC mx x y=>(match x.cp S,y.cp S with
  | .int kd a,.int kd' b=>if kd=kd' then k (.int kd (if mx then(if b>a then b else a)else(if b<a then b else a))) none else none
  |_,_=>none)
 | .u9 neg x=>(match x.cp S with
  | .df=>k (.bool !neg) none
  | .sl _ xs=>bif xs.isEmpty then k .fD none else k (.bool neg) none
  |_=>none)
 | .wI kk len x i=>(match i.cp S with
  | .int _ (.ofNat n)=>(match Nat.blt n len with
   |true=>(match x.cp S with
    | .ptr id aq o=>(match S.pN id aq with|some _=>k (.ptr id aq (o+n*kk)) none|none=>none)
    | .ref cs=>k (.ref (cs.drop (n*kk))) none
    |_=>none)
   |false=>none)
  |_=>none)
variable {K}
variable {S : aM U}
theorem sV{id aq:Nat}{cs:List (KV U)}(h:S.pN id aq=some cs):(S.st.H id).aq=aq/\(S.st.H id).c= .box (cs.map KV.pv):=by
 obtain⟨h1,h2⟩:=xa h;exact⟨h1,by simp[aM.st,cI.pv,h2,dg.pv]⟩
theorem yj:∀{n:Option Nat} {cs:List (KV U)} {x:KV U},Er n cs=some x->pZ n (cs.map KV.pv)=some x.pv
 |none,[],x,h=>by cases h
 |none,y::l,x,h=>by injection h with h;subst h;rfl
 |some n,cs,x,h=>by
  simp only[Er]at h;split at h
  ·rename_i hn;injection h with h
   subst h;rw[pZ,Qr (by simpa using QG hn),KV.pv,KV.bX,List.map_take]
  ·cases h
theorem Dz(cs xs:List (KV U))(off:Nat):(AU cs off xs).map KV.pv=gw (cs.map KV.pv) off (xs.map KV.pv):=by
 simp[AU,gw,List.map_append,List.map_take,List.map_drop]
theorem Z4(S:aM U){x:PV}(h:x.c8=true):(KV.qA x:KV U).pv=x:=(uq (S:=S) (x:= .uw x) h).symm
theorem vP{z:List PV}(S:aM U)(h:z.all PV.c8=true):(z.map (KV.qA:PV->KV U)).map KV.pv=z:=by
 induction z with
 |nil=>rfl
 |cons x l ih=>
  rw[List.all_cons,Qm]at h;rw[QD,QD,Z4 S h.1,ih h.2]
theorem Pt:∀{ps:List (Nat×Nat×aX)} {cs cs':List (KV U)},(∀p∈ps,p.2.2.c8=true)->NR S cs ps=some cs'->oh S.st (cs.map KV.pv) ps=some (cs'.map KV.pv)
 |[],cs,cs',_,h=>by injection h with h;subst h;rfl
 |(off,n,x)::ps,cs,cs',ho,h=>by
  simp only[NR]at h;split at h
  ·rename_i hc;simp only[Qm]at hc;obtain⟨⟨h1,h2⟩,h3⟩:=hc;have h1:=QF h1;have h2:=QG h2;rw[oh,uq (ho _ Qx),tQ,rN,Qr ⟨by simpa using h1,by simpa using h2,h3⟩,<-Dz]
   exact Pt (fun p hp=>ho p (Qy _ hp)) h
  ·cases h
theorem EH{kk:Nat}:∀{ps:List (Nat×aX)} {es es':List (List (KV U))},(∀p∈ps,p.2.c8=true)->EI S kk es ps=some es'->qM S.st kk (es.map fun e=>e.map KV.pv) ps=some (es'.map fun e=>e.map KV.pv)
 |[],es,es',_,h=>by injection h with h;subst h;rfl
 |(i,x)::ps,es,es',ho,h=>by
  simp only[EI]at h;split at h
  ·rename_i hc;simp only[Qm]at hc;obtain⟨⟨h1,h2⟩,h3⟩:=hc;have h1:=QF h1;have h2:i<es.length:=QG h2;rw[qM,uq (ho _ Qx),tQ,rN,Qr ⟨by simpa using h1,by simpa using h2,h3⟩,<-List.map_set]
   exact EH (fun p hp=>ho p (Qy _ hp)) h
  ·cases h
theorem PD{T:U.Ty}:∀{es:List (List (KV U))} {vs:List (U.den T)},NV K T es=some vs->yH (es.map fun e=>e.map KV.pv)=vs.map (U.pv T)/\(es.map fun e=>e.map KV.pv).all (fun u=>u.all PV.closed)=true
 |[],vs,h=>by injection h with h;subst h;exact⟨rfl,rfl⟩
 |e::es,vs,h=>by
  rw[NV]at h;split at h
  ·rename_i v hv;split at h
   ·rename_i vs' hvs;injection h with h
    subst h;obtain⟨h1,h2⟩:=PD hvs;obtain⟨h3,h4⟩:=qR (K.kE _ _ _ _ hv);refine⟨?_,?_⟩
    ·rw[QD,QD,<-h1,<-h3];rfl
    ·rw[QD,List.all_cons,ll,h4,h2];rfl
   ·cases h
  ·cases h
theorem Pl{y:PV}(h:y.fQ=true):y.one=true:=by
 cases y<;>first|rfl|cases h
theorem Sd(T:U.Ty)(vs:List (U.den T)){kk:Nat}(hk:U.size T=kk)(K:TK U):(vs.map (U.pv T)).all (fun u=>u.length==kk&&u.all PV.one)=true:=by
 refine QH.2 fun u hu=> ?_
 obtain⟨v,_,rfl⟩:=QP.1 hu;rw[K.len,hk,QH.2 fun y hy=>Pl (K.fQ T v y hy)]
 simp
theorem aar{T:U.Ty}{x:KV U}{vs:List (U.den T)}(h:S.els T x=some vs):jj S.st x.pv=some (vs.map (U.pv T)):=by
 unfold aM.els PC at h;split at h
 ·injection h with h;subst h;rfl
 ·obtain⟨e,rfl⟩:=lL h;subst e;rfl
 ·rename_i id aq;obtain⟨hv,e,k,hc⟩:=Sh h;have hc1:(S.st.H id).c= .row e k (vs.map (U.pv T)):=by simp[aM.st,cI.pv,hc,dg.pv]
  have hv1:(S.st.H id).aq=aq:=hv;rw[KV.pv,jj,Qr hv1,hc1]
 ·cases h
theorem YI{x:KV U}{n:Nat}(h:S.WA x=some n):∃es,jj S.st x.pv=some es/\es.length=n:=by
 unfold aM.WA at h;split at h
 ·injection h with h;exact⟨[],rfl,h⟩
 ·rename_i T xs;injection h with h;exact⟨xs.map (U.pv T),rfl,by simpa using h⟩
 ·rename_i id aq;split at h
  ·rename_i r hr;obtain⟨hv,hc⟩:=mZ hr;injection h with h
   refine⟨r.xs.map (U.pv r.T),?_,by simpa using h⟩
   rw[KV.pv,jj,Qr hv,hc]
  ·split at h
   ·rename_i r hr;obtain⟨hv,hc⟩:=Oz hr;injection h with h
    refine⟨r.es.map fun c=>c.map KV.pv,?_,by simpa using h⟩
    rw[KV.pv,jj,Qr hv,hc]
   ·cases h
 ·rename_i id aq kk lo m;split at h
  ·rename_i r hr;obtain⟨hv,hc⟩:=mZ hr;split at h
   ·rename_i hk;injection h with h
    refine⟨((r.xs.drop lo).take m).map (U.pv r.T),?_,by rw[QC];exact h⟩
    rw[KV.pv,jj,Qr hv,hc];simp only;rw[Qr (QF hk),List.map_take,List.map_drop]
   ·cases h
  ·cases h
 ·cases h
theorem Jb{l:List aX}{y:Option aX}{d n:Int}(hi1:∀(y:aX) (d n:Int),y∈l->AA S (some y) d=some n->∃kd,y.val S.st= .int kd n)(hy:∀z,y=some z->z∈l)(h:AA S y d=some n):pL S.st y d=some n:=by
 cases y with
 |none=>exact h
 |some z=>
  obtain⟨kd,hz⟩:=hi1 z d n (hy z rfl) h;simp only[pL,hz]
theorem yJ{xs:List aX}(h:∀x∈xs,x.c8=true):xs.map (·.val S.st)=(xs.map (·.cp S)).map KV.pv:=by
 rw[List.map_map];exact List.map_congr_left fun x hx=>uq (h x hx)
theorem Zq{ρ:Type}{op:BinOp}{x y:KV U}{k:KV U->Option ρ}{r:ρ}(h:Xf op x y k=some r):∃v:KV U,FB op x.pv y.pv=some v.pv/\k v=some r:=by
 unfold Xf at h;split at h
 ·rename_i kd a kd' b;cases op<;>simp only at h<;>simp only[KV.pv,FB,EV]<;>
  first
  |(
    split at h
    ·cases h
    ·rename_i h1;exact⟨_,by rw[Qs h1];rfl,h⟩)
  |(
    split at h
    ·rename_i h1;rw[Qr h1]
     first
     |exact⟨_,rfl,h⟩
     |(
       split at h
       ·cases h
       ·rename_i h2;exact⟨_,by rw[Qs h2];rfl,h⟩)
     |cases h
    ·cases h)
 ·rename_i a b;cases op<;>simp only at h<;>simp only[KV.pv,FB,Kd]<;>first|exact⟨_,rfl,h⟩|cases h
 ·cases h
theorem RL{P:Program}{ρ:Type}{Γ:List (c7 U)}{nid:Nat}{op:bE}{k:KV U->Option (Nat×cI U)->Option ρ}{r:ρ}(hΓ:q9 P Γ)(ho:op.c8=true)(h:eE K Γ nid S op k=some r):
  ∃Γ' x wr,jx P Γ'/\exec Γ' nid S.st op=some (x.pv,wr.map iU)/\k x wr=some r:=by
 have hov:∀x∈op.cD,x.val S.st=(x.cp S).pv:=fun x hx=>uq (QH.1 ho x hx)
 have hoc:∀x∈op.cD,x.c8=true:=fun x hx=>QH.1 ho x hx
 have pure:∀{x:KV U} {wr:Option (Nat×cI U)},exec (fun _=>none) nid S.st op=some (x.pv,wr.map iU)->k x wr=some r->∃Γ' x wr,jx P Γ'/\exec Γ' nid S.st op=some (x.pv,wr.map iU)/\k x wr=some r:=
  fun{x wr} h1 h2=>⟨fun _=>none,x,wr,fun f m hm=>(by cases hm),h1,h2⟩
 cases op with
 |lv x=>
  have h1:=hov x (by simp[bE.cD])
  exact pure (by rw[exec,h1];rfl) h
 |pick c x y=>
  have h1:=hov c (by simp[bE.cD])
  have h2:=hov x (by simp[bE.cD])
  have h3:=hov y (by simp[bE.cD])
  simp only[eE]at h;split at h
  ·rename_i b hb;rw[hb]at h1;split at h
   ·exact pure (by rw[exec,h1];simp only[KV.pv];rw[h2];rfl) h
   ·exact pure (by rw[exec,h1];simp only[KV.pv];rw[h3];rfl) h
  ·cases h
 |box x=>
  have h1:=hov x (by simp[bE.cD])
  simp only[eE]at h;split at h
  ·rename_i hb;refine pure ?_ h;rw[exec,h1,tQ,rN,Qr hb];rfl
  ·cases h
 |AO x=>
  have h1:=hov x (by simp[bE.cD])
  simp only[eE]at h;split at h
  ·rename_i hb;refine pure ?_ h;rw[exec,h1,tQ,rN,ll,Qr hb];simp only[KV.pv,KV.bX,Option.map_none]
  ·cases h
 |alloc z=>
  simp only[eE]at h;split at h
  ·rename_i hb;refine pure ?_ h;simp only[exec,Qe,iU,cI.pv,dg.pv,vP S hb];rfl
  ·cases h
 |load n p=>
  have h1:=hov p (by simp[bE.cD])
  simp only[eE]at h;split at h
  ·rename_i id aq off hp;rw[hp]at h1;split at h
   ·rename_i cs hb;obtain⟨h2,h3⟩:=sV hb;split at h
    ·rename_i x hx;refine pure ?_ h;have:=yj hx;rw[List.map_drop]at this;rw[exec,h1];simp only[KV.pv];rw[Qr h2,h3];simp only[this,Qe,Option.map_none]
    ·cases h
   ·cases h
  ·rename_i id aq kk i off hp;rw[hp]at h1;split at h
   ·rename_i rr hb;obtain⟨h2,h3⟩:=mZ hb;split at h
    ·rename_i hk;simp only[Qc]at h;obtain⟨v,hv,h⟩:=h;split at h
     ·rename_i x hx;refine pure ?_ h;have:=yj hx;rw[List.map_drop,K.om]at this;rw[exec,h1];simp only[KV.pv];rw[Qr h2,h3];simp only[QF hk,Qt,QT,hv,Qe,this,Option.map_none]
     ·cases h
    ·cases h
   ·split at h
    ·rename_i rr hb;obtain⟨h2,h3⟩:=Oz hb;split at h
     ·rename_i hk;split at h
      ·rename_i c hc;split at h
       ·rename_i x hx;refine pure ?_ h;have:=yj hx;rw[List.map_drop]at this;rw[exec,h1];simp only[KV.pv];rw[Qr h2,h3];simp only[QF hk,Qt,QT,hc,Qe,this,Option.map_none]
       ·cases h
      ·cases h
     ·cases h
    ·cases h
  ·rename_i cs hp;rw[hp]at h1;split at h
   ·rename_i x hx;refine pure ?_ h;rw[exec,h1];simp only[KV.pv,KV.bX,yj hx,Qe,Option.map_none]
   ·cases h
  ·cases h
 |store n p x=>
  have h1:=hov p (by simp[bE.cD])
  have h2:=hov x (by simp[bE.cD])
  simp only[eE]at h;split at h
  ·rename_i hc;rw[Qm]at hc;have hl:=QF hc.1
   have hc1:(x.val S.st).cells.length=n/\(x.val S.st).cells.all PV.one=true:=by
    rw[h2,tQ,rN];exact⟨by simpa using hl,hc.2⟩
   split at h
   ·rename_i id aq off hp;rw[hp]at h1;split at h
    ·rename_i cs hb;obtain⟨h3,h4⟩:=sV hb;split at h
     ·rename_i hle;refine pure ?_ h;rw[exec,Qr hc1,h1];simp only[KV.pv];rw[Qr h3,h4];simp only[QC];rw[Qr (QG hle),h2,tQ];simp only[Qe,iU,cI.pv,dg.pv,Dz]
     ·cases h
    ·cases h
   ·rename_i id aq kk i off hp;rw[hp]at h1;split at h
    ·rename_i rr hb;obtain⟨h3,h4⟩:=mZ hb;split at h
     ·rename_i hk;simp only[Qm]at hk;obtain⟨⟨hk1,hk2⟩,hk3⟩:=hk;have hk1:=QF hk1;have hk2:=QF hk2;have hk3:=QG hk3;simp only[Qc]at h;obtain⟨v,hv,h⟩:=h;split at h
      ·rename_i v' hd;refine pure ?_ h;obtain⟨h5,_⟩:=qR (K.kE _ _ _ _ hd);rw[Dz,K.om]at h5
       have h6:gw (U.pv rr.T v) off (((x.cp S).cells.map KV.pv).map nz)=U.pv rr.T v':=by
        rw[<-h5]
        have hnz:(U.pv rr.T v).map nz=U.pv rr.T v:=by
         refine(List.map_congr_left fun y hy=> ?_).trans (List.map_id _)
         have:=K.fQ _ _ _ hy;cases y<;>first|rfl|cases this
        simp only[gw,List.map_append,List.map_take,List.map_drop,hnz,QC]
       rw[exec,Qr hc1,h1];simp only[KV.pv];rw[Qr h3,h4];simp only[hk1,Qt,QT,hv,Qe,K.len];rw[Qr hk3,h2,tQ,h6];simp only[iU,cI.pv,dg.pv,List.map_set]
      ·cases h
     ·cases h
    ·cases h
   ·cases h
  ·cases h
 |build z ps=>
  simp only[eE]at h;split at h
  ·rename_i hz;split at h
   ·rename_i cs hf;refine pure ?_ h;have:=Pt (fun p hp=>hoc _ (by simp only[bE.cD,QP];exact⟨p,hp,rfl⟩)) hf
    rw[vP S hz]at this;rw[exec,this];simp only[Qe,Option.map_none,KV.pv,KV.bX]
   ·cases h
  ·cases h
 |Kb m e kk z ps=>
  simp only[eE]at h;split at h
  ·rename_i T hT;split at h
   ·rename_i hz;rw[Qm]at hz;split at h
    ·rename_i es hf;split at h
     ·rename_i vs hd;have h1:=EH (fun p hp=>hoc _ (by simp only[bE.cD,QP];exact⟨p,hp,rfl⟩)) hf
      have h2:(z.map fun u=>u.map (KV.qA:PV->KV U)).map (fun e=>e.map KV.pv)=z:=by
       rw[List.map_map];refine(List.map_congr_left fun u hu=> ?_).trans (List.map_id _)
       exact vP S (QH.1 hz.2 u hu)
      rw[h2]at h1;obtain⟨h3,h4⟩:=PD hd;split at h
      ·refine pure ?_ h;rw[exec,h1];simp only[h4,and_self,Qt,h3,KV.pv,Option.map_none]
      ·refine pure ?_ h;rw[exec,h1];simp only[Bool.true_eq_false,false_and,Qu,h3,KV.pv,Qe,iU,cI.pv,dg.pv];rfl
     ·cases h
    ·cases h
   ·cases h
  ·split at h
   ·rename_i hz;rw[Qm]at hz;split at h
    ·rename_i es hf;split at h
     ·rename_i hnn;have h1:=EH (fun p hp=>hoc _ (by simp only[bE.cD,QP];exact⟨p,hp,rfl⟩)) hf
      have h2:(z.map fun u=>u.map (KV.qA:PV->KV U)).map (fun e=>e.map KV.pv)=z:=by
       rw[List.map_map];refine(List.map_congr_left fun u hu=> ?_).trans (List.map_id _)
       exact vP S (QH.1 hz.2 u hu)
      rw[h2]at h1
      have h3:yH (es.map fun e=>e.map KV.pv)=es.map fun e=>e.map KV.pv:=by
       unfold yH;rw[List.map_map];refine List.map_congr_left fun c hc=> ?_
       simp only[Function.comp,List.map_map];refine List.map_congr_left fun y hy=> ?_
       have:=QH.1 (QH.1 hnn c hc) y hy;cases y<;>first|rfl|cases this|simp[KV.pv,nz]
      have hm:m=true:=hz.1;subst hm;refine pure ?_ h;rw[exec,h1];simp only[Bool.true_eq_false,false_and,Qu,h3,KV.pv,Qe,iU,cI.pv,dg.pv];rfl
     ·cases h
    ·cases h
   ·cases h
 |vh off p=>
  have h1:=hov p (by simp[bE.cD])
  simp only[eE]at h;split at h
  ·rename_i id aq o hp;rw[hp]at h1;split at h
   ·rename_i cs hb;obtain⟨h2,h3⟩:=sV hb;refine pure ?_ h;rw[exec,h1];simp only[KV.pv];rw[Qr h2,h3];rfl
   ·cases h
  ·rename_i id aq kk i o hp;rw[hp]at h1;split at h
   ·rename_i rr hb;obtain⟨h2,h3⟩:=mZ hb;simp only[Qc]at h;obtain⟨v,hv,h⟩:=h;refine pure ?_ h;have hi:=(Qw.1 hv).1;rw[exec,h1];simp only[KV.pv];rw[Qr h2,h3];simp only[QC,hi,Qt,Option.map_none]
   ·cases h
  ·rename_i cs hp;rw[hp]at h1;refine pure ?_ h;rw[exec,h1];simp only[KV.pv,KV.bX,List.map_drop,Option.map_none]
  ·cases h
 |nS kk x i=>
  have h1:=hov x (by simp[bE.cD])
  have h2:=hov i (by simp[bE.cD])
  simp only[eE]at h;split at h
  ·rename_i kd n hn;rw[hn]at h2;split at h
   ·rename_i T xs hx;rw[hx]at h1;split at h
    ·rename_i hk;simp only[Qc]at h;obtain⟨v,hv,h⟩:=h;obtain⟨hi0,hi1,hi2⟩:=HP hv;refine pure ?_ h;rw[exec,h2];simp only[KV.pv];rw[h1];simp only[KV.pv,QC];rw[Qr ⟨hi0,by omega⟩]
     simp only[QT,hi2,Qe,K.len,QF hk,Qt,KV.bX,K.om,Option.map_none]
    ·cases h
   ·rename_i id aq hx;rw[hx]at h1;split at h
    ·rename_i rr hb;obtain⟨h3,h4⟩:=mZ hb;split at h
     ·rename_i hk;simp only[Qc]at h;obtain⟨v,hv,h⟩:=h;obtain⟨hi0,hi1,hi2⟩:=HP hv;refine pure ?_ h;rw[exec,h2];simp only[KV.pv];rw[h1];simp only[KV.pv];rw[Qr h3,h4];simp only[QC];rw[Qr ⟨QF hk,hi0,by omega⟩]
      rfl
     ·cases h
    ·split at h
     ·rename_i rr hb;obtain⟨h3,h4⟩:=Oz hb;split at h
      ·rename_i j;split at h
       ·rename_i hk;rw[Qm]at hk;have hlt:j<rr.es.length:=QG hk.2;refine pure ?_ h;rw[exec,h2];simp only[KV.pv];rw[h1];simp only[KV.pv];rw[Qr h3,h4];simp only[QC];rw[Qr ⟨QF hk.1,Int.natCast_nonneg j,Int.ofNat_lt.2 hlt⟩];rfl
       ·cases h
      ·cases h
     ·cases h
   ·rename_i id aq kk' lo m hx;rw[hx]at h1;split at h
    ·rename_i rr hb;obtain⟨h3,h4⟩:=mZ hb;split at h
     ·rename_i hk;rw[Qm]at hk;simp only[Qc]at h;obtain⟨v,hv,h⟩:=h;obtain⟨hi0,hi1,hi2⟩:=HP hv;refine pure ?_ h;rw[exec,h2];simp only[KV.pv];rw[h1];simp only[KV.pv];rw[Qr h3,h4];simp only[QC];simp only[List.length_take,List.length_drop]at hi1;rw[Qr ⟨QF hk.1,QF hk.2,hi0,by omega,by omega⟩]
      rfl
     ·cases h
    ·cases h
   ·cases h
  ·cases h
 |uH x i=>
  have h1:=hov x (by simp[bE.cD])
  have h2:=hov i (by simp[bE.cD])
  simp only[eE]at h;split at h
  ·rename_i s _ n hx hi;rw[hx]at h1;rw[hi]at h2;simp only[Qc]at h;obtain⟨b,hb,h⟩:=h;refine pure ?_ h;rw[exec,h1,h2];simp only[KV.pv,hb,Qe,Option.map_none]
  ·cases h
 |AP e n len kk x i=>
  have h1:=hov x (by simp[bE.cD])
  have h2:=hov i (by simp[bE.cD])
  simp only[eE]at h;split at h
  ·rename_i cs _ j hx hi;rw[hx]at h1;rw[hi]at h2;split at h
   ·rename_i T hT;split at h
    ·rename_i hk;split at h
     ·rename_i vs hvs;simp only[Qc]at h;obtain⟨v,hv,h⟩:=h;obtain⟨hlen,hget⟩:=GO K hvs
      have hv0:0<=j/\vs[j.toNat]?=some v:=by
       unfold idx at hv;split at hv
       ·rename_i h0;exact⟨h0,hv⟩
       ·cases hv
      have hjl:j.toNat<vs.length:=(Qw.1 hv0.2).1;obtain⟨hnz,_⟩:=qR (K.kE _ _ _ _ (hget _ _ hv0.2));rw[Qm]at hk;have hkk:=QF hk.1;have hpl:=K.len T v
      have hcl:((cs.drop (j.toNat*kk)).take kk).length=kk:=by
       have:=congrArg List.length hnz;simp only[QC]at this;omega
      refine pure ?_ h;rw[exec,h1,h2];simp only[KV.pv,KV.bX];rw[Qr ⟨hv0.1,by omega⟩,uc]
      have hsplit:((cs.map KV.pv).drop (j.toNat*kk)).map nz=U.pv T v++(((cs.drop (j.toNat*kk)).drop kk).map KV.pv).map nz:=by
       rw[<-hnz,<-List.map_append,<-List.map_append,List.take_append_drop,List.map_drop,List.map_drop,List.map_drop]
      rw[hsplit]
      cases n with
      |none=>
       simp only[Uk,Qm,Bool.not_eq_true']at hk;have h1k:=QF hk.2.2;obtain⟨y,hy1,hy2⟩:=ri K v hk.2.1
       cases hp:U.pv T v with
       |nil=>rw[hp]at hy2;cases hy2
       |cons y0 l=>
        have hl0:l=[]:=by
         rw[hp,QE]at hpl;exact List.eq_nil_of_length_eq_zero (by omega)
        rw[hp,hl0,List.mem_singleton]at hy2;rw[hl0];simp only[List.singleton_append,pZ,Qe,Option.map_none];rw[hy1,hy2]
      |some m=>
       simp only[Uk,Qm]at hk;have hm:=QF hk.2.2;subst hm;simp only[pZ];rw[Qr (by rw[QB];omega),List.take_append_of_le_length (by omega),List.take_of_length_le (by omega),ub v hk.2.1]
       rfl
     ·cases h
    ·cases h
   ·cases h
  ·cases h
 |clear kk z x=>
  have h1:=hov x (by simp[bE.cD])
  simp only[eE]at h;split at h
  ·rename_i id aq kk' lo n hx;rw[hx]at h1;split at h
   ·rename_i rr hb;obtain⟨h3,h4⟩:=mZ hb;split at h
    ·rename_i hk;simp only[Qm]at hk;obtain⟨⟨⟨⟨⟨k1,k2⟩,k3⟩,k4⟩,k5⟩,k6⟩:=hk;split at h
     ·rename_i d hd;refine pure ?_ h;have h7:=(qR (K.kE _ _ _ _ hd)).1;rw[vP S k4]at h7;have h8:z.all PV.one=true:=by rw[<-rN,vP S k4]at k6;exact k6
      have e1:=QF k1;have e2:=QF k2;have e5:=QF k5;rw[exec,h1];simp only[KV.pv];rw[Qr h3,h4];simp only;rw[Qr ⟨e1,e2,e5,h8⟩,h7];simp only[Qe,iU,cI.pv,dg.pv,List.map_append,List.map_take,List.map_drop,List.map_replicate,KV.zI];rw[e1]
     ·cases h
    ·cases h
   ·cases h
  ·cases h
 |wI kk len x i=>
  have h1:=hov x (by simp[bE.cD])
  have h2:=hov i (by simp[bE.cD])
  simp only[eE]at h;split at h
  ·rename_i kd n hi;rw[hi]at h2;split at h
   ·rename_i hb;have hlt:n<len:=by simpa using hb
    have hc:(0:Int)<=Int.ofNat n/\Int.ofNat n<(len:Int):=⟨Int.natCast_nonneg n,Int.ofNat_lt.2 hlt⟩;split at h
    ·rename_i id aq o hx;rw[hx]at h1;split at h
     ·rename_i cs hbx;obtain⟨h3,h4⟩:=sV hbx;refine pure ?_ h;rw[exec,h2];simp only[KV.pv];rw[Qr hc,h1];simp only[KV.pv];rw[Qr h3,h4];rfl
     ·cases h
    ·rename_i cs hx;rw[hx]at h1;refine pure ?_ h;rw[exec,h2];simp only[KV.pv];rw[Qr hc,h1];simp only[KV.pv,KV.bX,List.map_drop,Option.map_none];rfl
    ·cases h
   ·cases h
  ·cases h
 |bin op x y=>
  have h1:=hov x (by simp[bE.cD])
  have h2:=hov y (by simp[bE.cD])
  simp only[eE]at h;obtain⟨v,h3,h4⟩:=Zq h;refine pure ?_ h4;rw[exec,h1,h2,h3];rfl
 |jH neg x y=>
  have h1:=hov x (by simp[bE.cD])
  have h2:=hov y (by simp[bE.cD])
  simp only[eE]at h;split at h
  ·rename_i hx hy;rw[hx]at h1;rw[hy]at h2;split at h
   ·rename_i hk;refine pure ?_ h;rw[exec,h1,h2];simp only[KV.pv,KV.zI,hk,Qt,Option.map_none]
   ·cases h
  ·cases h
 |GI n off x=>
  have h1:=hov x (by simp[bE.cD])
  simp only[eE]at h;split at h
  ·rename_i cs hp;rw[hp]at h1;split at h
   ·rename_i v hx;refine pure ?_ h;have:=yj hx;rw[List.map_drop]at this;rw[exec,h1];simp only[KV.pv,KV.bX,this,Qe,Option.map_none]
   ·cases h
  ·cases h
 |lookup ok z x y=>
  have h1:=hov x (by simp[bE.cD])
  have h2:=hov y (by simp[bE.cD])
  simp only[eE]at h;split at h
  ·rename_i A B xs kd a ld b hx hy;rw[hx]at h1;rw[hy]at h2;split at h
   ·rename_i kd' ld' d hkey hzo hzd;split at h
    ·rename_i hkl;obtain⟨rfl,rfl⟩:=hkl;obtain⟨hA,hk⟩:=K.Ft A kd ld hkey;obtain⟨hm,hm2⟩:=OT K (B:=B) (d:=d) hA hk a b xs;have hz:cQ B d=nz z:=VT K hzo hzd
     have hr:(bif Cn (fun v=>sk a b (K.bW A v)) xs then some (cQ B (Co (fun v=>sk a b (K.bW A v)) xs d))else none:Option PV).getD (nz z)=cQ B (Co (fun v=>sk a b (K.bW A v)) xs d):=by
      cases hh:Cn (fun v=>sk a b (K.bW A v)) xs with
      |true=>rfl
      |false=>rw[hm2 hh,hz];rfl
     have hi:(bif Cn (fun v=>sk a b (K.bW A v)) xs then some (cQ B (Co (fun v=>sk a b (K.bW A v)) xs d))else none:Option PV).isSome=Cn (fun v=>sk a b (K.bW A v)) xs:=by
      cases hh:Cn (fun v=>sk a b (K.bW A v)) xs<;>rfl
     cases ok with
     |false=>
      refine pure ?_ h;rw[exec,h1,h2];simp only[KV.pv,KV.zI,hm,Qe,Qq,Qu,hr,uc,Option.map_none]
     |true=>
      refine pure ?_ h;rw[exec,h1,h2];simp only[KV.pv,KV.zI,hm,Qe,Qt,hr,hi,uc,Option.map_none]
    ·cases h
   ·cases h
  ·cases h
 |EJ neg x y=>
  have h1:=hov x (by simp[bE.cD])
  have h2:=hov y (by simp[bE.cD])
  simp only[eE]at h;split at h
  ·rename_i hx hy;rw[hx]at h1;rw[hy]at h2;refine pure ?_ h;rw[exec,h1,h2];rfl
  ·cases h
 |not x=>
  have h1:=hov x (by simp[bE.cD])
  simp only[eE]at h;split at h
  ·rename_i hx;rw[hx]at h1;exact pure (by rw[exec,h1];rfl) h
  ·cases h
 |conv kd x=>
  have h1:=hov x (by simp[bE.cD])
  simp only[eE]at h;split at h
  ·rename_i hx;rw[hx]at h1;exact pure (by rw[exec,h1];rfl) h
  ·cases h
 |len b x=>
  have h1:=hov x (by simp[bE.cD])
  cases b with
  |true=>
   simp only[eE]at h;split at h
   ·rename_i hx;rw[hx]at h1;exact pure (by rw[exec,h1];rfl) h
   ·cases h
  |false=>
   simp only[eE]at h;split at h
   ·rename_i n hx;obtain⟨es,h2,h3⟩:=YI hx;exact pure (by rw[exec,h1,h2];simp only[Qe,Option.map_none,KV.pv,h3]) h
   ·cases h
 |call f xs=>
  simp only[eE]at h;obtain⟨Γ',x,wr,h1,h2,h3⟩:=dM hΓ h;refine⟨Γ',x,wr,h1,?_,h3⟩;rw[exec,yJ (xs:=xs) hoc];exact h2
 |rL fv xs=>
  have h0:=hov fv (by simp[bE.cD])
  simp only[eE]at h;split at h
  ·rename_i f caps hf;rw[hf]at h0;obtain⟨Γ',x,wr,h1,h2,h3⟩:=dM hΓ h;refine⟨Γ',x,wr,h1,?_,h3⟩;rw[exec,h0];simp only[KV.pv];rw[yJ (fun x hx=>hoc x (by simp[bE.cD,hx])),KV.bX,<-List.map_append]
   exact h2
  ·rename_i f caps hf;rw[hf]at h0;obtain⟨Γ',x,wr,h1,h2,h3⟩:=dM hΓ h;refine⟨Γ',x,wr,h1,?_,h3⟩;rw[exec,h0];simp only[KV.pv];rw[yJ (fun x hx=>hoc x (by simp[bE.cD,hx])),KV.bX,<-List.map_append]
   exact h2
  ·cases h
 |cq e kk bytes s x=>
  have h1:=hov s (by simp[bE.cD])
  have h2:=hov x (by simp[bE.cD])
  simp only[eE]at h;split at h
  ·rename_i T hT;split at h
   ·rename_i hk;have hk:=QF hk;split at h
    ·rename_i news hn;have h3:=aar hn;split at h
     ·rename_i hs;rw[hs]at h1
      cases hl:bx bytes news.length with
      |false=>rw[hl]at h;cases h
      |true=>
       rw[hl]at h;obtain⟨hl1,hl2⟩:=xS hl;refine pure ?_ h;rw[exec,h2,h3];simp only[Sd T news hk K,Qt,h1,KV.pv,QC];rw[Qr ⟨hl1,hl2⟩];rfl
     ·rename_i id aq hs;rw[hs]at h1;split at h
      ·rename_i rr hb;obtain⟨h4,h5⟩:=mZ hb;split at h
       ·rename_i he;rw[Qm]at he;have he1:=QF he.1;have he2:=QF he.2;split at h
        ·rename_i xs hc
         have hpv:rr.xs.map (U.pv rr.T)=xs.map (U.pv T):=by
          obtain⟨eT,hxs⟩:=lL hc;obtain⟨re,rk,rT,rxs⟩:=rr;simp only at eT hxs ⊢;subst eT;rw[hxs]
         cases hl:bx bytes (xs.length+news.length)with
         |false=>rw[hl]at h;cases h
         |true=>
          rw[hl]at h;obtain⟨hl1,hl2⟩:=xS hl;refine pure ?_ h;rw[exec,h2,h3];simp only[Sd T news hk K,Qt,h1,KV.pv];rw[Qr h4,h5];simp only[hpv,QC];rw[Qr ⟨he1.symm,he2.symm,hl1,hl2⟩];simp only[Qe,iU,cI.pv,dg.pv,List.map_append]
        ·cases h
       ·cases h
      ·cases h
     ·cases h
    ·cases h
   ·cases h
  ·cases h
 |wC x=>
  have h1:=hov x (by simp[bE.cD])
  simp only[eE]at h;split at h
  ·rename_i id aq o hp;rw[hp]at h1;split at h
   ·rename_i cs hb;obtain⟨h2,h3⟩:=sV hb;refine pure ?_ h;rw[exec,h1];simp only[KV.pv];rw[Qr h2,h3];rfl
   ·cases h
  ·rename_i cs hp;rw[hp]at h1;exact pure (by rw[exec,h1];rfl) h
  ·rename_i cs hp;rw[hp]at h1;exact pure (by rw[exec,h1];rfl) h
  ·cases h
 |AH i x=>
  have h1:=hov x (by simp[bE.cD])
  simp only[eE]at h;split at h
  ·rename_i cs hx;rw[hx]at h1;split at h
   ·rename_i y hy;refine pure ?_ h;rw[exec,h1];simp only[KV.pv,KV.bX,QT,hy,Qe,Option.map_none]
   ·cases h
  ·cases h
 |GA f caps=>
  refine pure ?_ h;rw[exec,yJ (xs:=caps) hoc];simp only[KV.pv,KV.bX,Option.map_none]
 |GB f caps=>
  refine pure ?_ h;rw[exec,yJ (xs:=caps) hoc];simp only[KV.pv,KV.bX,Option.map_none]
 |Bw neg ks x y=>
  have h1:=hov x (by simp[bE.cD])
  have h2:=hov y (by simp[bE.cD])
  simp only[eE]at h;split at h
  ·rename_i cs ds hx hy;rw[hx]at h1;rw[hy]at h2;split at h
   ·rename_i b hb;refine pure ?_ h;rw[exec,h1,h2];simp only[KV.pv,KV.bX,CD hb,Qe,Option.map_none]
   ·cases h
  ·cases h
 |Jm e kk bytes z l c=>
  have h1:=hov l (by simp[bE.cD])
  have h2:=hov c (by simp[bE.cD])
  simp only[eE]at h;split at h
  ·rename_i T hT;split at h
   ·rename_i hz;rw[Qm]at hz;split at h
    ·rename_i d hd;split at h
     ·rename_i _ n _ m hl hc;rw[hl]at h1;rw[hc]at h2
      cases hb:(decide (n=m)&&decide (0<=n)&&bx bytes n.toNat)with
      |false=>rw[hb]at h;cases h
      |true=>
       rw[hb]at h;simp only[Qm,Qi]at hb;obtain⟨⟨h3,h4⟩,h5⟩:=hb;obtain⟨h5,h6⟩:=xS h5;refine pure ?_ h;have h7:=(qR (K.kE _ _ _ _ hd)).1;rw[vP S hz.2]at h7;rw[exec,h1,h2];simp only[KV.pv];rw[Qr ⟨h3,h4,h5,h6⟩,h7];simp only[Qe,iU,cI.pv,dg.pv,List.map_replicate];rfl
     ·cases h
    ·cases h
   ·cases h
  ·cases h
 |DA kk x lo hi=>
  have h1:=hov x (by simp[bE.cD])
  have hi1:∀(y:aX) (d n:Int),y∈(bE.DA kk x lo hi).cD->AA S (some y) d=some n->∃kd,y.val S.st= .int kd n:=by
   intro y d n ho hn;have:=hov y ho;simp only[AA]at hn;split at hn
   ·rename_i kd _ hy;rw[hy]at this;injection hn with hn;subst hn;exact⟨kd,this⟩
   ·cases hn
  simp only[eE]at h;split at h
  ·rename_i T xs hx;rw[hx]at h1;split at h
   ·rename_i hk;have hk:=QF hk;split at h
    ·rename_i l hh hl hhi
     cases hs:cm l hh xs.length with
     |false=>rw[hs]at h;cases h
     |true=>
      rw[hs]at h;refine pure ?_ h;simp only[cm,Qm,Qi]at hs;obtain⟨⟨h4,h5⟩,h6⟩:=hs
      have h7:(xs.map (U.pv T)).all (fun e=>e.length==kk)=true:=QH.2 fun u hu=>by
       obtain⟨v,_,rfl⟩:=QP.1 hu;rw[K.len,hk];simp
      unfold exec;simp only[h1,KV.pv,QC,h7,Qt]
      have fin:∀(l hh:Int),0<=l/\l<=hh/\hh<=(xs.length:Int)->(if 0<=l/\l<=hh/\hh<=(xs.length:Int)then some (PV.sl (((xs.map (U.pv T)).take hh.toNat).drop l.toNat),(none:Option (Nat×eW)))else none)=some (PV.sl (((xs.take hh.toNat).drop l.toNat).map (U.pv T)),Option.map iU (none:Option (Nat×cI U))):=fun l hh hc=>by
       rw[Qr hc];simp only[List.map_take,List.map_drop,Option.map_none]
      cases lo with
      |none=>
       injection hl with hl
       subst hl
       cases hi with
       |none=>injection hhi with hhi;subst hhi;exact fin _ _ ⟨h4,h5,h6⟩
       |some y=>obtain⟨kd,hy⟩:=hi1 y _ _ (by simp[bE.cD]) hhi;simp only[hy];exact fin _ _ ⟨h4,h5,h6⟩
      |some z=>
       obtain⟨kz,hz⟩:=hi1 z _ _ (by simp[bE.cD]) hl
       cases hi with
       |none=>injection hhi with hhi;subst hhi;simp only[hz];exact fin _ _ ⟨h4,h5,h6⟩
       |some y=>obtain⟨kd,hy⟩:=hi1 y _ _ (by simp[bE.cD]) hhi;simp only[hz,hy];exact fin _ _ ⟨h4,h5,h6⟩
    ·cases h
   ·cases h
  ·rename_i id aq hx;rw[hx]at h1;split at h
   ·rename_i rr hb;obtain⟨h3,h4⟩:=mZ hb;split at h
    ·rename_i hk;have hk:=QF hk;split at h
     ·rename_i l hh hl hhi;have e1:=Jb (hi1:=hi1) (y:=lo) (fun y hy=>by simp[bE.cD,hy]) hl
      have e2:=Jb (hi1:=hi1) (y:=hi) (fun y hy=>by simp[bE.cD,hy]) hhi
      cases hs:cm l hh rr.xs.length with
      |false=>rw[hs]at h;cases h
      |true=>
       rw[hs]at h;refine pure ?_ h;simp only[cm,Qm,Qi]at hs;unfold exec;simp only[h1,KV.pv];rw[Qr h3,h4];simp only[QC];rw[Qr hk,e1,e2];simp only;rw[Qr ⟨hs.1.1,hs.1.2,hs.2⟩];rfl
     ·cases h
    ·cases h
   ·cases h
  ·rename_i id aq kk' lo0 n0 hx;rw[hx]at h1;split at h
   ·rename_i rr hb;obtain⟨h3,h4⟩:=mZ hb;split at h
    ·rename_i hk;rw[Qm]at hk;split at h
     ·rename_i l hh hl hhi;have e1:=Jb (hi1:=hi1) (y:=lo) (fun y hy=>by simp[bE.cD,hy]) hl
      have e2:=Jb (hi1:=hi1) (y:=hi) (fun y hy=>by simp[bE.cD,hy]) hhi
      cases hs:cm l hh n0 with
      |false=>rw[hs]at h;cases h
      |true=>
       rw[hs]at h;refine pure ?_ h;simp only[cm,Qm,Qi]at hs;unfold exec;simp only[h1,KV.pv];rw[Qr h3,h4];simp only;rw[Qr ⟨QF hk.1,QF hk.2⟩,e1,e2];simp only;rw[Qr ⟨hs.1.1,hs.1.2,hs.2⟩];rfl
     ·cases h
    ·cases h
   ·cases h
  ·cases h
 |qC mx x y=>
  have h1:=hov x (by simp[bE.cD])
  have h2:=hov y (by simp[bE.cD])
  simp only[eE]at h;split at h
  ·rename_i hx hy;rw[hx]at h1;rw[hy]at h2;split at h
   ·rename_i hk;refine pure ?_ h;rw[exec,h1,h2];simp only[KV.pv,hk,Qt,Option.map_none]
   ·cases h
  ·cases h
 |u9 neg x=>
  have h1:=hov x (by simp[bE.cD])
  simp only[eE]at h;split at h
  ·rename_i hx;rw[hx]at h1;exact pure (by unfold exec;simp only[h1,KV.pv,Option.map_none]) h
  ·rename_i T xs hx;rw[hx]at h1
   cases xs with
   |nil=>exact pure (x:= .fD) (by unfold exec;simp only[h1,KV.pv,jj,QO,Option.map_none]) h
   |cons y l=>exact pure (x:= .bool neg) (by unfold exec;simp only[h1,KV.pv,jj,QD,Option.map_none]) h
  ·cases h
end
end Go.TQ
end
noncomputable section
namespace Go.TQ
open Go.RowKit
section
variable {P : Program} {S : St} {nt : Nat} {Q : Exit -> St -> Prop} {E : En} {a : Act} {w : World} {L : Nat -> Value}
theorem Rel.Tf(h:Rel E S a w L){id:Nat}(hid:id<S.N)(e k:Nat):
  Rel E {S with H:=bu S.H id ⟨(S.H id).aq+1,.row e k []⟩} a w (bu L id (.slice none 0 0)):=
 (h.qm (w':=w) hid ⟨(S.H id).aq+1,.row e k []⟩ (.slice none 0 0) (.inr (Nat.lt_succ_self _)) rfl rfl rfl (QI _) (fun _ _ _=>rfl)
  (fun b _ hb=>by simp[bO]at hb) (fun _ _=>⟨[],⟨by simp,.inl ⟨rfl,rfl⟩⟩,by simp,by exact⟨rfl,fun i y v hy=>by simp at hy⟩⟩)).1
theorem TA{S:St}{id:Nat}(hid:id<S.N)(e k:Nat){w:World}{M:Nat->Prop}{v:Value}(h:v= .slice none 0 0):
  aS w M (St.gh {S with H:=bu S.H id ⟨(S.H id).aq+1,.row e k []⟩} (bu L id (.slice none 0 0))) (.own id ((S.H id).aq+1)) v:=by
 subst h;exact .own _ _ _ _ _ hid (by simp[St.gh]) (fun _=>by simp[St.gh])
theorem acP{sc:SC}(id t e k:Nat)(ht:S.env t= .df)(hid:id<S.N)
  (h:VS P nt sc Q {S with env:=bu S.env t (.own id ((S.H id).aq+1)),H:=bu S.H id ⟨(S.H id).aq+1,.row e k []⟩}):VS P nt sc Q S:=by
 intro c hs hc E hE hk a w L hrel;have h1:=hrel.Tf hid e k;refine h c hs hc E hE hk a w (bu L id (.slice none 0 0)) ⟨h1.defers,h1.size,fun j=> ?_,h1.obj,h1.apart,h1.fresh,h1.fr,h1.uM⟩
 show aS w _ _ (bu S.env t _ j) _
 by_cases hj:j=t
 ·subst hj;have h2:=hrel.env j;rw[ht]at h2;rw[bF];exact TA hid e k h2.lf
 ·rw[bR _ _ hj];exact h1.env j
theorem acQ{sc:SC}(id b j e k:Nat){cs:List PV}(hb:(S.H b).c= .box cs)(hj:cs[j]?=some .df)(hne:b≠id)(hbN:b<S.N)(hid:id<S.N)
  (h:VS P nt sc Q {S with H:=bu (bu S.H id ⟨(S.H id).aq+1,.row e k []⟩) b ⟨(S.H b).aq,.box (cs.set j (.own id ((S.H id).aq+1)))⟩}):VS P nt sc Q S:=by
 intro c hs hc E hE hk a w L hrel;have h1:=hrel.Tf hid e k
 have hver:∀i,(bu (bu S.H id ⟨(S.H id).aq+1,.row e k []⟩) b ⟨(S.H b).aq,.box (cs.set j (.own id ((S.H id).aq+1)))⟩ i).aq=(bu S.H id ⟨(S.H id).aq+1,.row e k []⟩ i).aq:=by
  intro i
  by_cases hi:i=b
  ·subst hi;rw[bF,bR _ _ hne]
  ·rw[bR _ _ hi]
 have hlive:∀i,(bu (bu S.H id ⟨(S.H id).aq+1,.row e k []⟩) b ⟨(S.H b).aq,.box (cs.set j (.own id ((S.H id).aq+1)))⟩ i).c.live=(bu S.H id ⟨(S.H id).aq+1,.row e k []⟩ i).c.live:=by
  intro i
  by_cases hi:i=b
  ·subst hi;rw[bF,bR _ _ hne,hb];rfl
  ·rw[bR _ _ hi]
 have hgh:St.gh {S with H:=bu (bu S.H id ⟨(S.H id).aq+1,.row e k []⟩) b ⟨(S.H b).aq,.box (cs.set j (.own id ((S.H id).aq+1)))⟩} (bu L id (.slice none 0 0))=St.gh {S with H:=bu S.H id ⟨(S.H id).aq+1,.row e k []⟩} (bu L id (.slice none 0 0)):=by
  simp only[St.gh];congr 1
  funext i
  exact hver i
 have hmu:aZ E {S with H:=bu (bu S.H id ⟨(S.H id).aq+1,.row e k []⟩) b ⟨(S.H b).aq,.box (cs.set j (.own id ((S.H id).aq+1)))⟩} (bu L id (.slice none 0 0))=aZ E {S with H:=bu S.H id ⟨(S.H id).aq+1,.row e k []⟩} (bu L id (.slice none 0 0)):=by
  funext q
  simp only[aZ,hlive]
 refine h c hs hc E hE hk a w (bu L id (.slice none 0 0)) ⟨h1.defers,h1.size,fun t=> ?_,fun i hi=> ?_,fun i i' q hi hi' hl hl'=> ?_,fun i hi=> ?_,h1.fr,fun hq hl hv=> ?_⟩
 ·rw[hgh,hmu];exact h1.env t
 ·rw[hgh,hmu]
  by_cases hib:i=b
  ·subst hib;have h2:=h1.obj i hi;simp only[bF,bR _ _ hne]at h2 ⊢;rw[hb]at h2;obtain⟨q,cur,T,e1,e2,e3,e4⟩:=h2;refine⟨q,cur,T,e1,e2,e3,by rw[QY];exact e4.1,fun n y v hy hv=> ?_⟩
   rw[List.getElem?_set]at hy;split at hy
   ·rename_i hjn;subst hjn;split at hy
    ·injection hy with hy
     subst hy;exact TA hid e k (e4.2 j .df v hj hv).lf
    ·cases hy
   ·exact e4.2 n y v hy hv
  ·have h2:=h1.obj i hi;simp only[bR _ _ hib]at h2 ⊢;exact h2
 ·exact h1.apart i i' q hi hi' ((hlive i).symm.trans hl) ((hlive i').symm.trans hl')
 ·have h2:=h1.fresh i hi;have hib:i≠b:=by intro e;subst e;exact absurd hbN (by simpa using hi)
  simp only at h2 ⊢;rw[bR _ _ hib];exact h2
 ·exact h1.uM hq ((hlive 0).symm.trans hl) ((hver 0).symm.trans hv)
end
end Go.TQ
end
noncomputable section
namespace Go.TQ
open Go.RowKit
section
variable {P : Program} {E : En} {S : St} {a : Act} {w : World} {L : Nat -> Value}
theorem BQ{α:Type}(f:Nat->α)(i:Nat):bu f i (f i)=f:=by
 funext j;unfold bu;split
 ·rename_i h;rw[h]
 ·rfl
theorem Rel.kill(h:Rel E S a w L){id:Nat}(hid:id<S.N)(hl:(S.H id).c.live=true):Rel E {S with H:=bu S.H id ⟨(S.H id).aq,.dead⟩} a w L:=by
 have:=(h.qm (w':=w) hid ⟨(S.H id).aq,.dead⟩ (L id) (.inl ⟨rfl,rfl,hl⟩) rfl rfl rfl (QI _) (fun _ _ _=>rfl) (fun b hl=>by cases hl) (fun _ _=>trivial)).1
 rwa [BQ]at this
theorem Rel.aal(h:Rel E S a w L){id e k:Nat}{es:List (List PV)}(hN:id<S.N)(hc:(S.H id).c= .row e k es)(hcl:∀u∈es,u.all PV.closed=true):
  Rel E {S with H:=bu S.H id ⟨(S.H id).aq,.dead⟩} a w L/\∀v,v=L id->aS w (aZ E {S with H:=bu S.H id ⟨(S.H id).aq,.dead⟩} L) (St.gh {S with H:=bu S.H id ⟨(S.H id).aq,.dead⟩} L) (.sl es) v:=by
 have hlive:(S.H id).c.live=true:=by rw[hc];rfl
 refine⟨h.kill hN hlive,fun v hv=> ?_⟩
 obtain⟨vs,hown,hk,hr⟩:=h.iJ hN hc;rw[hv]
 have hM:∀b,aZ E {S with H:=bu S.H id ⟨(S.H id).aq,.dead⟩} L b->aZ E S L b/\(bO (L id)=some b->E.X b):=by
  rintro b (⟨j,hj,hlv,hb⟩|hx)
  ·simp only at hj hlv
   by_cases hji:j=id
   ·subst hji;rw[bF]at hlv;cases hlv
   ·rw[bR _ _ hji]at hlv;exact⟨.inl ⟨j,hj,hlv,hb⟩,fun hb'=>absurd (h.apart j id b hj hN hlv hlive hb hb') hji⟩
  ·exact⟨.inr hx,fun _=>hx⟩
 rcases hown.2 with⟨hL,h0⟩|⟨g,cap,cur,hL,hb1,hh,hnc,hcm,_⟩
 ·have:es=[]:=List.eq_nil_of_length_eq_zero h0;subst this;rw[hL];exact .slnil
 ·rw[hL]
  have hcf:es.flatten.all PV.closed=true:=by
   refine QH.2 fun y hy=> ?_
   obtain⟨u,hu,hyu⟩:=List.mem_flatten.1 hy;exact QH.1 (hcl u hu) y hyu
  have hr2:=aT.closed (M':=aZ E {S with H:=bu S.H id ⟨(S.H id).aq,.dead⟩} L) (G':=cJ) hcf (fun b hb=>(hM b hb).1) hr
  refine .sl _ _ _ k vs hk hr2.1 (fun i u hu=>⟨hown.cells (g:=g) (by rw[hL];rfl) i u hu,fun hm=> ?_⟩) hr2.2 (by simpa using hnc) hcm
  have hxg:=(hM g hm).2 (by rw[hL];rfl)
  have hbg:bO (L id)=some g:=by rw[hL];rfl
  rcases Ca hbg hb1 with⟨h6,h7⟩|h6
  ·exact E.Pk h6 g h7 hxg
  ·have:=E.hX g hxg;omega
theorem Rel.GG(h:Rel E S a w L){id e k:Nat}{es:List (List PV)}{v:Value}(r:aS w (aZ E S L) (S.gh L) (.own id (S.H id).aq) v)(hc:(S.H id).c= .row e k es)(hcl:∀u∈es,u.all PV.closed=true):
  Rel E {S with H:=bu S.H id ⟨(S.H id).aq,.dead⟩} a w L/\aS w (aZ E {S with H:=bu S.H id ⟨(S.H id).aq,.dead⟩} L) (St.gh {S with H:=bu S.H id ⟨(S.H id).aq,.dead⟩} L) (.sl es) v:=by
 obtain⟨hN,hv⟩:=r.kO (show(S.gh L).V id=(S.H id).aq from rfl)
 obtain⟨h1,h2⟩:=h.aal hN hc hcl;exact⟨h1,h2 v hv⟩
theorem Rel.acI(h:Rel E S a w L){id aq k n e0 k':Nat}{es:List (List PV)}{v:Value}(r:aS w (aZ E S L) (S.gh L) (.view id aq k 0 n) v)(hver:(S.H id).aq=aq)(hc:(S.H id).c= .row e0 k' es):
  Rel E {S with H:=bu S.H id ⟨aq+1,.row e0 k' (es.take n)⟩} a w (bu L id v)/\aS w (aZ E {S with H:=bu S.H id ⟨aq+1,.row e0 k' (es.take n)⟩} (bu L id v)) (St.gh {S with H:=bu S.H id ⟨aq+1,.row e0 k' (es.take n)⟩} (bu L id v)) (.own id (aq+1)) v:=by
 obtain⟨hN,ad,c,hv,hat⟩:=r.vI (show(S.gh L).V id=aq from hver)
 have hle:=h.E9 hN hc hat;obtain⟨a0,m0,c0,hl,q1,q2,q3,q4⟩:=hat;have hl:L id= .slice a0 m0 c0:=hl;have hlive:(S.H id).c.live=true:=by rw[hc];rfl
 obtain⟨vs,hown,hk,hr⟩:=h.iJ hN hc
 have had:ad=a0:=by
  rcases q4 with q4|q4
  ·exact absurd rfl q4.2.1
  ·rw[q4];cases a0<;>simp[Addr.add]
 have hc0:c=c0:=by omega
 subst had hc0;have hbv:bO v=bO (L id):=by rw[hv,hl];cases ad<;>rfl
 have hlen:(es.take n).length=n:=by simp;omega
 have hnew:w.ownsRow (fp E v) e0 k' v (es.take n).length (vs.take (n*k')):=by
  rw[xh hbv,hlen];have hvl:vs.length=es.length*k':=hown.1;have hnk:n*k'<=es.length*k':=Nat.mul_le_mul_right _ (by omega)
  refine⟨by rw[List.length_take,hvl];omega,?_⟩
  rcases hown.2 with⟨hL,h0⟩|⟨g,cap,cur,hL,hb1,hh,hnc,hcm,hcs,htake⟩
  ·left;rw[hl]at hL;injection hL with e1 e2 e3
   subst e1 e2 e3;have hn0:n=0:=by omega
   subst hn0;exact⟨hv,rfl⟩
  ·right;rw[hl]at hL;injection hL with e1 e2 e3
   subst e1 e2 e3;refine⟨g,c,cur,hv,hb1,hh,by omega,hcm,hcs,?_⟩
   rw[<-htake,List.take_take,Nat.min_eq_left hnk]
 obtain⟨h1,hs,hg⟩:=h.qm (w':=w) hN ⟨aq+1,.row e0 k' (es.take n)⟩ v (.inr (by show(S.H id).aq<aq+1;omega)) rfl rfl rfl (QI _) (fun _ _ _=>rfl)
  (fun b _ hb=> .inl ⟨hlive,by rw[<-hbv];exact hb⟩)
  (fun hs hg=>⟨_,hnew,fun u hu=>hk u (Q1 hu),by rw[qK k' n es hk];exact(hr.take _).mono hs hg⟩)
 refine⟨h1,?_⟩;subst hv;exact .own _ _ _ _ _ hN (by simp[St.gh]) (fun _=>by simp[St.gh])
theorem Rel.XF(h:Rel E S a w L){id:Nat}{cs cs':List PV}(hid:id<S.N)(hc:(S.H id).c= .box cs)(hr:∀vs,aT w (aZ E S L) (S.gh L) cs vs->aT w (aZ E S L) (S.gh L) cs' vs):
  Rel E {S with H:=bu S.H id ⟨(S.H id).aq,.box cs'⟩} a w L:=by
 have:=(h.qm (w':=w) hid ⟨(S.H id).aq,.box cs'⟩ (L id) (.inl ⟨rfl,rfl,by rw[hc];rfl⟩) rfl rfl rfl (QI _) (fun _ _ _=>rfl) (fun b _ hb=> .inl ⟨by rw[hc];rfl,hb⟩) (fun hs hg=>by
  obtain⟨b,cur,T,h1,h2,h3,h4⟩:=h.pr hid hc
  exact⟨b,cur,T,h1,h2,h4,(hr _ h3).mono hs hg⟩)).1
 rwa [BQ]at this
theorem aT.set{M:Nat->Prop}{G:Gh}{cs:List PV}{vs:List Value}(h:aT w M G cs vs)(i:Nat)(y:PV)(hy:∀v,vs[i]?=some v->aS w M G y v):aT w M G (cs.set i y) vs:=by
 refine⟨by rw[QY];exact h.1,fun j x v hx hv=> ?_⟩
 rw[List.getElem?_set]at hx;split at hx
 ·rename_i hij;subst hij;split at hx
  ·injection hx with hx;subst hx;exact hy v hv
  ·cases hx
 ·exact h.2 j x v hx hv
theorem Rel.X2(h:Rel E S a w L){S':St}(hH:S'.H=S.H)(hN:S'.N=S.N)(he:∀t,S'.env t=S.env t\/S'.env t= .any):Rel E S' a w L:=by
 obtain⟨env,H,N⟩:=S;obtain⟨env',H',N'⟩:=S';simp only at hH hN he;subst hH hN;refine⟨h.defers,h.size,fun t=> ?_,h.obj,h.apart,h.fresh,h.fr,h.uM⟩
 rcases he t with e|e
 ·show aS _ _ _ (env' t) _;rw[e];exact h.env t
 ·show aS _ _ _ (env' t) _;rw[e];exact .any _
end
section
variable {U : TU}
inductive Ps (U:TU) where
 |own (t e k:Nat) (T:U.Ty)
 |GG (t:Nat)
 |Cf (t off e k:Nat) (T:U.Ty)
 |Lt (t off:Nat)
 |cut (t:Nat)
def Ps.run(S:aM U):Ps U->Option (aM U)
 | .own t e k T=>(match S.env t with
  | .df=>some {env:=fU S.env t (.own S.N 1),H:=fU S.H S.N ⟨1,.row e k T []⟩,N:=S.N+1}
  |_=>none)
 | .GG t=>(match S.env t with
  | .own id aq=>(match S.row? id aq with
   |some r=>some {env:=fU S.env t (.sl r.T r.xs),H:=fU S.H id ⟨aq,.dead⟩,N:=S.N}
   |none=>none)
  |_=>none)
 | .Cf t off e k T=>(match S.env t with
  | .ptr id aq _=>(match S.pN id aq with
   |some cs=>(match cs[off]? with
    |some .df=>some {env:=S.env,H:=fU (fU S.H S.N ⟨1,.row e k T []⟩) id ⟨aq,.box (cs.set off (.own S.N 1))⟩,N:=S.N+1}
    |_=>none)
   |none=>none)
  |_=>none)
 | .Lt t off=>(match S.env t with
  | .ptr id aq _=>(match S.pN id aq with
   |some cs=>(match cs[off]? with
    |some (.own i v)=>(match S.row? i v with
     |some r=>some {env:=S.env,H:=fU (fU S.H i ⟨v,.dead⟩) id ⟨aq,.box (cs.set off (.sl r.T r.xs))⟩,N:=S.N}
     |none=>none)
    |_=>none)
   |none=>none)
  |_=>none)
 | .cut t=>(match S.env t with
  | .view id aq _ lo n=>(match S.row? id aq with
   |some r=>(match Nat.beq lo 0 with
    |true=>some {env:=fU S.env t (.own id (aq+1)),H:=fU S.H id ⟨aq+1,.row r.e r.k r.T (r.xs.take n)⟩,N:=S.N}
    |false=>none)
   |none=>none)
  |_=>none)
def Ps.tmps:Ps U->List Nat
 | .own t _ _ _| .GG t| .cut t=>[t]
 | .Cf _ _ _ _ _| .Lt _ _=>[]
def Ps.Ck(S:aM U):Ps U->List Nat
 | .own _ _ _ _=>[S.N]
 | .GG t=>(match S.env t with| .own id _=>[id]|_=>[])
 | .cut t=>(match S.env t with| .view id _ _ _ _=>[id]|_=>[])
 | .Cf t _ _ _ _=>S.N::(match S.env t with| .ptr id _ _=>[id]|_=>[])
 | .Lt t off=>(match S.env t with
  | .ptr id aq _=>id::(match S.pN id aq with
   |some cs=>(match cs[off]? with|some (.own i _)=>[i]|_=>[])
   |none=>[])
  |_=>[])
theorem Ps.sound(K:TK U){S S':aM U}{p:Ps U}(hp:p.run S=some S'){E:En}{a:Act}{w:World}{L:Nat->Value}(h:Rel E S.st a w L):∃L',Rel E S'.st a w L':=by
 cases p with
 |own t e k T=>
  simp only[Ps.run]at hp;split at hp
  ·rename_i ht;injection hp with hp
   subst hp;have h0:=h.room 1;have hf:(S.st.H S.N)=⟨0,.dead⟩:=h.fresh S.N (QI _);have hid:S.N<({S.st with N:=S.st.N+1}:St).N:=Nat.lt_succ_self S.N
   have h1:=h0.Tf hid e k;refine⟨bu L S.N (.slice none 0 0),?_⟩
   have heq:(aM.st {env:=fU S.env t (.own S.N 1),H:=fU S.H S.N ⟨1,.row e k T []⟩,N:=S.N+1}:St)={env:=bu S.st.env t (.own S.N 1),H:=bu S.st.H S.N ⟨(S.st.H S.N).aq+1,.row e k []⟩,N:=S.st.N+1}:=by
    rw[hf];unfold aM.st;congr 1
    ·simp only[cj];exact mM _ _ _ _
    ·simp only[cj];exact mM _ _ _ _
   rw[heq];refine⟨h1.defers,h1.size,fun j=> ?_,h1.obj,h1.apart,h1.fresh,h1.fr,h1.uM⟩
   show aS w _ _ (bu S.st.env t _ j) _
   by_cases hj:j=t
   ·subst hj;have h2:=h.env j;have h3:S.st.env j= .df:=by simp only[aM.st,ht,KV.pv]
    rw[h3]at h2;rw[bF];have:=TA (L:=L) (S:={S.st with N:=S.st.N+1}) hid e k (w:=w) (M:=aZ E {env:=S.st.env,H:=bu S.st.H S.N ⟨(S.st.H S.N).aq+1,.row e k []⟩,N:=S.st.N+1} (bu L S.N (.slice none 0 0))) h2.lf
    have hv:(S.st.H S.N).aq+1=1:=by rw[hf]
    simp only[hv]at this ⊢;exact this
   ·rw[bR _ _ hj];exact h1.env j
  ·cases hp
 |GG t=>
  simp only[Ps.run]at hp;split at hp
  ·rename_i id aq ht;split at hp
   ·rename_i r hr;injection hp with hp
    subst hp;obtain⟨hv,hc⟩:=mZ hr;have h2:=h.env t;have h3:S.st.env t= .own id (S.st.H id).aq:=by rw[hv];simp only[aM.st,ht,KV.pv]
    rw[h3]at h2
    obtain⟨h4,h5⟩:=h.GG h2 hc (fun u hu=>by
     obtain⟨x,_,rfl⟩:=QP.1 hu
     exact QH.2 fun y hy=>gb (K.fQ _ _ _ hy))
    rw[hv]at h4 h5;refine⟨L,?_⟩
    have heq:(aM.st {env:=fU S.env t (.sl r.T r.xs),H:=fU S.H id ⟨aq,.dead⟩,N:=S.N}:St)={env:=bu S.st.env t (.sl (r.xs.map (U.pv r.T))),H:=bu S.st.H id ⟨aq,.dead⟩,N:=S.st.N}:=by
     unfold aM.st;congr 1
     ·simp only[cj];exact mM _ _ _ _
     ·simp only[cj];exact mM _ _ _ _
    rw[heq];refine⟨h4.defers,h4.size,fun j=> ?_,h4.obj,h4.apart,h4.fresh,h4.fr,h4.uM⟩
    show aS w _ _ (bu S.st.env t _ j) _
    by_cases hj:j=t
    ·subst hj;rw[bF];exact h5
    ·rw[bR _ _ hj];exact h4.env j
   ·cases hp
  ·cases hp
 |cut t=>
  simp only[Ps.run]at hp;split at hp
  ·rename_i id aq k lo n ht;split at hp
   ·rename_i r hr;split at hp
    ·rename_i hlo;injection hp with hp
     subst hp;have hlo:=QF hlo;subst hlo;obtain⟨hv,hc⟩:=mZ hr;have h2:=h.env t;have h3:S.st.env t= .view id aq k 0 n:=by simp only[aM.st,ht,KV.pv]
     rw[h3]at h2;obtain⟨h4,h5⟩:=h.acI h2 hv hc;refine⟨bu L id (a.tmps.getD t undef),?_⟩
     have heq:(aM.st {env:=fU S.env t (.own id (aq+1)),H:=fU S.H id ⟨aq+1,.row r.e r.k r.T (r.xs.take n)⟩,N:=S.N}:St)={env:=bu S.st.env t (.own id (aq+1)),H:=bu S.st.H id ⟨aq+1,.row r.e r.k ((r.xs.map (U.pv r.T)).take n)⟩,N:=S.st.N}:=by
      unfold aM.st;congr 1
      ·simp only[cj];exact mM _ _ _ _
      ·simp only[cj];rw[<-List.map_take];exact mM _ _ _ _
     rw[heq];refine⟨h4.defers,h4.size,fun j=> ?_,h4.obj,h4.apart,h4.fresh,h4.fr,h4.uM⟩
     show aS w _ _ (bu S.st.env t _ j) _
     by_cases hj:j=t
     ·subst hj;rw[bF];exact h5
     ·rw[bR _ _ hj];exact h4.env j
    ·cases hp
   ·cases hp
  ·cases hp
 |Cf t off e k T=>
  simp only[Ps.run]at hp;split at hp
  ·rename_i id aq o ht;split at hp
   ·rename_i cs hb;split at hp
    ·rename_i hcell;injection hp with hp
     subst hp;obtain⟨hv,hc⟩:=sV hb;have h3:S.st.env t= .ptr id aq o:=by simp only[aM.st,ht,KV.pv]
     have hlt:id<S.N:=by
      have h2:=h.env t;rw[h3]at h2;exact(h2.pD (show(S.st.gh L).V id=aq from hv)).1
     have h0:=h.room 1;have hf:(S.st.H S.N)=⟨0,.dead⟩:=h.fresh S.N (QI _);have hid:S.N<({S.st with N:=S.st.N+1}:St).N:=Nat.lt_succ_self S.N
     have h1:=h0.Tf hid e k;have hne:id≠S.N:=Nat.ne_of_lt hlt
     have h2:=h1.XF (id:=id) (cs:=cs.map KV.pv) (cs':=(cs.map KV.pv).set off (.own S.N ((S.st.H S.N).aq+1))) (Nat.lt_succ_of_lt hlt) (by show(bu S.st.H S.N _ id).c=_;rw[bR _ _ hne];exact hc)
      (fun vs hr=>hr.set _ _ fun v hvv=>by
       have hn:(cs.map KV.pv)[off]?=some .df:=by rw[QT,hcell];rfl
       exact TA (L:=L) (S:={S.st with N:=S.st.N+1}) hid e k (hr.2 off .df v hn hvv).lf)
     refine⟨bu L S.N (.slice none 0 0),?_⟩
     have heq:(aM.st {env:=S.env,H:=fU (fU S.H S.N ⟨1,.row e k T []⟩) id ⟨aq,.box (cs.set off (.own S.N 1))⟩,N:=S.N+1}:St)
       ={env:=S.st.env,H:=bu (bu S.st.H S.N ⟨(S.st.H S.N).aq+1,.row e k []⟩) id ⟨(bu S.st.H S.N ⟨(S.st.H S.N).aq+1,.row e k []⟩ id).aq,.box ((cs.map KV.pv).set off (.own S.N ((S.st.H S.N).aq+1)))⟩,N:=S.st.N+1}:=by
      rw[bR _ _ hne,hv,hf];unfold aM.st;congr 1;simp only[cj];rw[mM,mM];simp only[cI.pv,dg.pv,List.map_set,KV.pv,QO]
     rw[heq];exact h2
    ·cases hp
   ·cases hp
  ·cases hp
 |Lt t off=>
  simp only[Ps.run]at hp;split at hp
  ·rename_i id aq o ht;split at hp
   ·rename_i cs hb;split at hp
    ·rename_i i v hcell;split at hp
     ·rename_i r hr;injection hp with hp
      subst hp;obtain⟨hv,hc⟩:=sV hb;obtain⟨hv2,hc2⟩:=mZ hr;have h3:S.st.env t= .ptr id aq o:=by simp only[aM.st,ht,KV.pv]
      have hlt:id<S.N:=by
       have h2:=h.env t;rw[h3]at h2;exact(h2.pD (show(S.st.gh L).V id=aq from hv)).1
      have hcell':(cs.map KV.pv)[off]?=some (.own i v):=by rw[QT,hcell];rfl
      have hili:i<S.N:=by
       obtain⟨b,cur,T,h5,h6,h7,h8⟩:=h.pr hlt hc;obtain⟨u,hu,hru⟩:=h7.get hcell';exact(hru.kO (show(S.st.gh L).V i=v from hv2)).1
      have hne:id≠i:=by
       intro e;subst e;rw[hc]at hc2;cases hc2
      obtain⟨h4,h5⟩:=h.aal hili hc2 (fun u hu=>by
       obtain⟨x,_,rfl⟩:=QP.1 hu
       exact QH.2 fun y hy=>gb (K.fQ _ _ _ hy))
      have h6:=h4.XF (id:=id) (cs:=cs.map KV.pv) (cs':=(cs.map KV.pv).set off (.sl (r.xs.map (U.pv r.T)))) hlt (by show(bu S.st.H i _ id).c=_;rw[bR _ _ hne];exact hc)
       (fun vs hrr=>hrr.set _ _ fun u hu=>h5 u (by
        have:=hrr.2 off _ u hcell' hu
        exact(this.kO (show(bu S.st.H i ⟨(S.st.H i).aq,.dead⟩ i).aq=v by rw[bF];exact hv2)).2))
      refine⟨L,?_⟩
      have heq:(aM.st {env:=S.env,H:=fU (fU S.H i ⟨v,.dead⟩) id ⟨aq,.box (cs.set off (.sl r.T r.xs))⟩,N:=S.N}:St)
        ={env:=S.st.env,H:=bu (bu S.st.H i ⟨(S.st.H i).aq,.dead⟩) id ⟨(bu S.st.H i ⟨(S.st.H i).aq,.dead⟩ id).aq,.box ((cs.map KV.pv).set off (.sl (r.xs.map (U.pv r.T))))⟩,N:=S.st.N}:=by
       rw[bR _ _ hne,hv,hv2];unfold aM.st;congr 1;simp only[cj];rw[mM,mM];simp only[cI.pv,dg.pv,List.map_set,KV.pv]
      rw[heq];exact h6
     ·cases hp
    ·cases hp
   ·cases hp
  ·cases hp
inductive RS (U:TU) where
 |nil
 |op (o:SG) (r:RS U)
 |ps (p:Ps U) (r:RS U)
 |xo (t:Nat) (r:RS U)
 |ite (t:Nat) (want:Bool) (body:RS U) (d:Nat) (g:Option (Nat×Bool)) (x y:aX) (r:RS U)
def RS.flat:RS U->List SG
 | .nil=>[]
 | .op o r=>o::r.flat
 | .ps _ r=>r.flat
 | .xo _ r=>r.flat
 | .ite t _ b d g x y r=>b.flat++⟨some d,g,.pick (.tmp t) x y⟩::r.flat
def RS.iO:RS U->List Nat
 | .nil=>[]
 | .op o r=>(match o.d with|some t=>t::r.iO|none=>r.iO)
 | .ps p r=>p.tmps++r.iO
 | .xo _ r=>r.iO
 | .ite _ _ b d _ _ _ r=>b.iO++d::r.iO
def ti:List SG->List Nat
 |[]=>[]
 |o::l=>(match o.d with|some t=>t::ti l|none=>ti l)
def RS.len:RS U->Nat
 | .nil=>0
 | .op _ r=>r.len+1
 | .ps _ r=>r.len
 | .xo _ r=>r.len
 | .ite _ _ b _ _ _ _ r=>b.len+(r.len+1)
theorem RS.vT:∀(r:RS U),r.flat.length=r.len
 | .nil=>rfl
 | .op _ r=>by simp[RS.flat,RS.len,r.vT]
 | .ps _ r=>r.vT
 | .xo _ r=>r.vT
 | .ite _ _ b _ _ _ _ r=>by simp[RS.flat,RS.len,b.vT,r.vT]
def gn(t:Nat):List Nat->Bool
 |[]=>false
 |x::l=>(match Nat.beq t x with|true=>true|false=>gn t l)
theorem dP{t:Nat}:∀{l:List Nat},gn t l=true↔t∈l
 |[]=>by simp[gn]
 |x::l=>by
  simp only[gn];split
  ·rename_i h;simp[QF h]
  ·rename_i h;rw[dP];simp[Nat.ne_of_beq_eq_false h]
theorem nF{t:Nat}{l:List Nat}(h:gn t l=false):t∉l:=fun hm=>by rw[dP.2 hm]at h;cases h
def Ug:Bool->Bool->Bool
 |true,b=>b
 |false,true=>false
 |false,false=>true
theorem FC(x y:Bool):Ug x y=(x==y):=by cases x<;>cases y<;>rfl
abbrev WS:=Option (Nat×List Nat)
def okW:WS->Nat->Bool
 |none,_=>false
 |some (n,l),id=>Nat.ble n id||gn id l
def Ci(W:WS):Option (Nat×cI U)->Bool
 |none=>true
 |some (id,_)=>okW W id
def DB(t:Nat)(want:Bool):List Nat->List SG->Bool
 |_,[]=>true
 |u,o::l=>(match o.g with
  |some (t',want')=>(Nat.beq t' t&&Ug want' want)||gn t' u
  |none=>false)&&(match o.d with
   |some d=> !Nat.beq d t&&DB t want (d::u) l
   |none=>DB t want u l)
variable (K : TK U)
def T3{ρ:Type}(Γ:List (c7 U))(W:WS)(nid:Nat)(S:aM U)(o:SG)(k:KV U->Option (Nat×cI U)->Option ρ):Option ρ:=
 match o.g with
 |none=>eE K Γ nid S o.op fun x wr=>(match Ci W wr with|true=>k x wr|false=>none)
 |some (t,want)=>match S.env t with
  | .bool b=>(match Ug b want with
   |true=>eE K Γ nid S o.op fun x wr=>(match Ci W wr with|true=>k x wr|false=>none)
   |false=>k .undef none)
  | .undef=>k .undef none
  |_=>none
def Xz{ρ:Type}(Γ:List (c7 U))(W:WS)(nid:Nat)(S:aM U)(o:SG)(k:aM U->Option ρ):Option ρ:=
 T3 K Γ W nid S o fun x wr=>k (S.cq o.d x wr)
def Xv(S:aM U)(ds:List Nat):Option (Nat×Bool)->Bool
 |none=>true
 |some (t,want)=>(match S.env t with| .bool b=>Ug b want&& !gn t ds|_=>false)
def aM.forget(S:aM U)(ds:List Nat):aM U:={env:=fun t=>(match gn t ds with|true=> .any|false=>S.env t),H:=S.H,N:=S.N}
def T7:aX->Option Bool
 | .uw (.bool b)=>some b
 |_=>none
def jl(Γ:List (c7 U)):RS U->{ρ:Type}->(W:WS)->(nid:Nat)->(S:aM U)->(k:aM U->Option ρ)->Option ρ
 | .nil,_,_,_,S,k=>k S
 | .op o r,_,W,nid,S,k=>Xz K Γ W nid S o fun S'=>jl Γ r W (nid+1) S' k
 | .ps p r,_,W,nid,S,k=>(match(p.Ck S).all (okW W)with
  |true=>(match p.run S with|some S'=>jl Γ r W nid S' k|none=>none)
  |false=>none)
 | .xo t r,_,W,nid,S,k=>(match S.env t with
  | .bool b=>bif b then jl Γ r W nid (S.cq (some t) (.bool true) none) k else jl Γ r W nid (S.cq (some t) (.bool false) none) k
  | .undef=>jl Γ r W nid S k
  |_=>none)
 | .ite t want body d g x y r,_,W,nid,S,k=>(match S.env t with
  | .bool b=>(match Xv S body.iO g&&(DB t want [] body.flat&& !gn t body.iO)with
   |true=>(match want with
    |true=>(match T7 y with
     |some c=>(bif b then jl Γ body none nid (S.cq (some t) (.bool true) none) (fun S1=>EM (x.cp S1))else some c).bind fun v=>jl Γ r W (nid+(body.len+1)) ((S.forget body.iO).cq (some d) (.bool v) none) k
     |none=>none)
    |false=>(match T7 x with
     |some c=>(bif b then some c else jl Γ body none nid (S.cq (some t) (.bool false) none) (fun S1=>EM (y.cp S1))).bind fun v=>jl Γ r W (nid+(body.len+1)) ((S.forget body.iO).cq (some d) (.bool v) none) k
     |none=>none))
   |false=>none)
  |_=>none)
structure xz (D:List Nat) (W:WS) (S S':aM U):Prop where
 env:∀t,t∉D->S'.env t=S.env t
 H:∀id,okW W id=false->S'.H id=S.H id
 N:S.N<=S'.N
 Nn:W=none->S'.N=S.N
theorem xz.refl(D:List Nat)(W:WS)(S:aM U):xz D W S S:=⟨fun _ _=>rfl,fun _ _=>rfl,QI _,fun _=>rfl⟩
theorem xz.trans{D D' D'':List Nat}{W:WS}{S S' S'':aM U}(h:xz D W S S')(h':xz D' W S' S'')(hd:∀t,t∉D''->t∉D/\t∉D'):xz D'' W S S'':=
 ⟨fun t ht=>(h'.env t (hd t ht).2).trans (h.env t (hd t ht).1),fun id hid=>(h'.H id hid).trans (h.H id hid),QK h.N h'.N,fun e=>(h'.Nn e).trans (h.Nn e)⟩
theorem kq(S:aM U)(d:Option Nat)(x:KV U)(wr:Option (Nat×cI U)){t:Nat}(h:d≠some t):(S.cq d x wr).env t=S.env t:=by
 cases d with
 |none=>rfl
 |some d=>simp only[aM.cq,cj];exact bR _ _ (fun e=>h (by rw[e]))
theorem abE(S:aM U)(d:Nat)(x:KV U)(wr:Option (Nat×cI U)):(S.cq (some d) x wr).env d=x:=by
 simp only[aM.cq,cj];exact bF _ _ _
theorem CS(S:aM U)(d:Option Nat)(x:KV U)(wr:Option (Nat×cI U)){i:Nat}(h:wr.map (·.1)≠some i):(S.cq d x wr).H i=S.H i:=by
 cases wr with
 |none=>rfl
 |some p=>simp only[aM.cq,cj];exact bR _ _ (fun e=>h (by rw[e];rfl))
theorem SN(S:aM U)(W:WS)(d:Option Nat)(x:KV U)(wr:Option (Nat×cI U))(h:Ci W wr=true):xz d.toList W S (S.cq d x wr):=by
 refine⟨fun t ht=>kq _ _ _ _ (fun e=>ht (by simp[e])),fun id hid=>CS _ _ _ _ (fun e=> ?_),QI _,fun _=>rfl⟩
 cases wr with
 |none=>cases e
 |some p=>simp only[Qe,Qf]at e;simp only[Ci]at h;rw[e,hid]at h;cases h
variable {K}
variable {P : Program}
theorem J3{ρ:Type}{Γ:List (c7 U)}{W:WS}{nid:Nat}{S:aM U}{o:SG}{k:KV U->Option (Nat×cI U)->Option ρ}{r:ρ}(hΓ:q9 P Γ)(ho:o.op.c8=true)(h:T3 K Γ W nid S o k=some r):
  ∃Γ' x wr,jx P Γ'/\w4 Γ' nid S.st o=some (x.pv,wr.map iU)/\Ci W wr=true/\k x wr=some r:=by
 have run:∀(hw:o.wanted S.st=some true),eE K Γ nid S o.op (fun x wr=>(match Ci W wr with|true=>k x wr|false=>none))=some r->
   ∃Γ' x wr,jx P Γ'/\w4 Γ' nid S.st o=some (x.pv,wr.map iU)/\Ci W wr=true/\k x wr=some r:=by
  intro hw h;obtain⟨Γ',x,wr,h1,h2,h3⟩:=RL hΓ ho h;split at h3
  ·rename_i hok;refine⟨Γ',x,wr,h1,?_,hok,h3⟩;rw[w4,hw];exact h2
  ·cases h3
 have skip:∀(hw:o.wanted S.st=some false),k .undef none=some r->
   ∃Γ' x wr,jx P Γ'/\w4 Γ' nid S.st o=some (x.pv,wr.map iU)/\Ci W wr=true/\k x wr=some r:=by
  intro hw h;refine⟨fun _=>none,.undef,none,fun f m hm=>(by cases hm),?_,rfl,h⟩
  rw[w4,hw];rfl
 unfold T3 at h;split at h
 ·rename_i hg;exact run (by rw[SG.wanted,hg]) h
 ·rename_i t want hg;split at h
  ·rename_i b hb;have hb':S.st.env t= .bool b:=by simp only[aM.st,hb,KV.pv]
   split at h
   ·rename_i hbw;exact run (by simp only[SG.wanted,hg,hb'];rw[FC]at hbw;rw[hbw]) h
   ·rename_i hbw;refine skip ?_ h;simp only[SG.wanted,hg,hb'];rw[FC]at hbw;rw[hbw]
  ·rename_i hb;have hb':S.st.env t= .undef:=by simp only[aM.st,hb,KV.pv]
   exact skip (by simp only[SG.wanted,hg,hb']) h
  ·cases h
theorem Rn{ρ:Type}{Γ:List (c7 U)}{W:WS}{nid:Nat}{S:aM U}{o:SG}{k:aM U->Option ρ}{r:ρ}(hΓ:q9 P Γ)(ho:o.op.c8=true)(h:Xz K Γ W nid S o k=some r):
  ∃Γ' x wr,jx P Γ'/\w4 Γ' nid S.st o=some (x.pv,wr.map iU)/\Ci W wr=true/\k (S.cq o.d x wr)=some r:=J3 hΓ ho h
theorem TD:jx P (fun _=>none):=fun f m hm=>by cases hm
theorem BV{E:En}{hs:List Nat}{ops:Array Oper}{t:Nat}{want:Bool}{Q:Exit->Act->World->Prop}{l2:List Oper}:∀(l1:List Oper) (gs:List SG) (u:List Nat) (S:St) (a:Act) (w:World) (L:Nat->Value),
  l1.mapM (sd P hs ops)=some gs->Rel E S a w L->0<S.N->(∀o∈l1,∀t,o.dst=some t->E.can t)->DB t want u gs=true->S.env t= .bool (!want)->(∀x∈u,S.env x= .undef)->
  (∀S' a' w' L',(∀x,x∉ti gs->S'.env x=S.env x)->S'.H=S.H->S'.N=S.N->Rel E S' a' w' L'->wpListIn (WF E.rd) 0 P ops Q l2 a' w')->wpListIn (WF E.rd) 0 P ops Q (l1++l2) a w
 |[],gs,u,S,a,w,L,hm,h,hN,hd,hs,ht,hu,hk=>by
  simp at hm;subst hm;exact hk S a w L (fun _ _=>rfl) rfl rfl h
 |o::l1,gs,u,S,a,w,L,hm,h,hN,hd,hs,ht,hu,hk=>by
  simp only[List.mapM_cons,Qd,Qc,Option.pure_def,Qf]at hm;obtain⟨g,hg,gs',hgs,rfl⟩:=hm;simp only[DB,Qm]at hs;obtain⟨h1,h2⟩:=hs
  have hw:g.wanted S=some false:=by
   split at h1
   ·rename_i t' want' hgg;rw[Qn,Qm]at h1;rw[SG.wanted,hgg];rcases h1 with⟨h3,h4⟩|h3
    ·rw[QF h3];rw[FC]at h4;simp only[ht];have:=eq_of_beq h4;subst this;cases want'<;>rfl
    ·simp only[hu t' (dP.1 h3)]
   ·cases h1
  have hst:sC (fun _=>none) 0 S g=some (S.cq g.d .undef none):=by rw[sC,hw]
  rw[List.cons_append];refine wpListIn_step fun K hK=> ?_
  refine ue TD hg h hN (hd o (by simp)) hst (fun a' w' L' h'=>hK _ _ ?_)
  split at h2
  ·rename_i d hdd;rw[Qm]at h2;have hdt:d≠t:=fun e=>by subst e;have:=h2.1;simp at this
   refine BV l1 gs' (d::u) _ a' w' L' hgs h' hN (fun o' ho'=>hd o' (by simp[ho'])) h2.2 ?_ ?_ ?_
   ·rw[hdd,St.kq _ _ _ (by simp[hdt])];exact ht
   ·intro x hx;rw[hdd]
    by_cases hxd:x=d
    ·subst hxd;exact bF _ _ _
    ·rw[St.kq _ _ _ (by simpa using fun e=>hxd e.symm)]
     exact hu x ((QA.1 hx).resolve_left hxd)
   ·intro S' a' w' L' he hH hN h';refine hk S' a' w' L' (fun x hx=> ?_) hH hN h'
    simp only[ti,hdd,QA,not_or]at hx;rw[he x hx.2,hdd,St.kq _ _ _ (by simpa using fun e=>hx.1 e.symm)]
  ·rename_i hdd;refine BV l1 gs' u _ a' w' L' hgs h' hN (fun o' ho'=>hd o' (by simp[ho'])) h2 ?_ ?_ ?_
   ·rw[hdd];exact ht
   ·intro x hx;rw[hdd];exact hu x hx
   ·intro S' a' w' L' he hH hN h';refine hk S' a' w' L' (fun x hx=> ?_) hH hN h'
    simp only[ti,hdd]at hx;rw[he x hx,hdd];rfl
def RS.c8:RS U->Bool
 | .nil=>true
 | .op o r=>o.op.c8&&r.c8
 | .ps _ r=>r.c8
 | .xo _ r=>r.c8
 | .ite _ _ b _ _ x y r=>b.c8&&(x.c8&&y.c8)&&r.c8
theorem oS:∀(r:RS U) (t:Nat),t∈ti r.flat->t∈r.iO
 | .nil,t,h=>h
 | .op o r,t,h=>by
  simp only[RS.flat,ti]at h;simp only[RS.iO];split at h
  ·rcases QA.1 h with h|h
   ·exact QA.2 (.inl h)
   ·exact QA.2 (.inr (oS r t h))
  ·exact oS r t h
 | .ps p r,t,h=>Qz.2 (.inr (oS r t h))
 | .xo _ r,t,h=>oS r t h
 | .ite t0 want b d g x y r,t,h=>by
  have cq:∀(l1 l2:List SG),t∈ti (l1++l2)->t∈ti l1\/t∈ti l2:=by
   intro l1 l2
   induction l1 with
   |nil=>exact fun h=> .inr h
   |cons o l1 ih=>
    intro h;simp only[List.cons_append,ti]at h ⊢
    cases hd:o.d with
    |none=>rw[hd]at h;exact ih h
    |some e=>
     rw[hd]at h;simp only[QA]at h ⊢;rcases h with h|h
     ·exact .inl (.inl h)
     ·rcases ih h with h|h
      ·exact .inl (.inr h)
      ·exact .inr h
  simp only[RS.flat]at h;simp only[RS.iO,Qz,QA];rcases cq _ _ h with h|h
  ·exact .inl (oS b t h)
  ·simp only[ti,QA]at h;rcases h with h|h
   ·exact .inr (.inl h)
   ·exact .inr (.inr (oS r t h))
theorem Zf{x:KV U}{b:Bool}(h:EM x=some b):x= .bool b:=by
 unfold EM at h;split at h
 ·injection h with h;rw[h]
 ·cases h
theorem y4{S:aM U}{t:Nat}{x:KV U}(h:S.env t=x):S.cq (some t) x none=S:=by
 unfold aM.cq;obtain⟨env,H,N⟩:=S;simp only at h ⊢;congr 1;rw[cj,<-h];exact BQ _ _
theorem Ps.frm{S S':aM U}{p:Ps U}(hp:p.run S=some S'){W:WS}(hW:(p.Ck S).all (okW W)=true):xz p.tmps W S S':=by
 have ne:∀{id id':Nat},okW W id=true->okW W id'=false->id'≠id:=fun h1 h2 e=>by subst e;rw[h1]at h2;cases h2
 have hN:∀{n:Nat},okW W n=true->W≠none:=fun h e=>by rw[e]at h;cases h
 cases p with
 |own t e k T=>
  simp only[Ps.run]at hp;split at hp
  ·injection hp with hp
   subst hp;simp only[Ps.Ck,List.all_cons,List.all_nil,Bool.and_true]at hW;exact⟨fun x hx=>by simp only[cj];exact bR _ _ (by simpa[Ps.tmps]using hx),fun id hid=>by simp only[cj];exact bR _ _ (ne hW hid),Nat.le_succ _,fun e=>absurd e (hN hW)⟩
  ·cases hp
 |GG t=>
  simp only[Ps.run]at hp;split at hp
  ·rename_i id aq ht;split at hp
   ·injection hp with hp
    subst hp;simp only[Ps.Ck,ht,List.all_cons,List.all_nil,Bool.and_true]at hW;exact⟨fun x hx=>by simp only[cj];exact bR _ _ (by simpa[Ps.tmps]using hx),fun id' hid=>by simp only[cj];exact bR _ _ (ne hW hid),QI _,fun _=>rfl⟩
   ·cases hp
  ·cases hp
 |cut t=>
  simp only[Ps.run]at hp;split at hp
  ·rename_i id aq k lo n ht;split at hp
   ·split at hp
    ·injection hp with hp
     subst hp;simp only[Ps.Ck,ht,List.all_cons,List.all_nil,Bool.and_true]at hW;exact⟨fun x hx=>by simp only[cj];exact bR _ _ (by simpa[Ps.tmps]using hx),fun id' hid=>by simp only[cj];exact bR _ _ (ne hW hid),QI _,fun _=>rfl⟩
    ·cases hp
   ·cases hp
  ·cases hp
 |Cf t off e k T=>
  simp only[Ps.run]at hp;split at hp
  ·rename_i id aq o ht;split at hp
   ·rename_i cs hb;split at hp
    ·injection hp with hp
     subst hp;simp only[Ps.Ck,ht,List.all_cons,List.all_nil,Bool.and_true,Qm]at hW;exact⟨fun x hx=>rfl,fun id' hid=>by simp only[cj];rw[bR _ _ (ne hW.2 hid),bR _ _ (ne hW.1 hid)],Nat.le_succ _,fun e=>absurd e (hN hW.1)⟩
    ·cases hp
   ·cases hp
  ·cases hp
 |Lt t off=>
  simp only[Ps.run]at hp;split at hp
  ·rename_i id aq o ht;split at hp
   ·rename_i cs hb;split at hp
    ·rename_i i v hcell;split at hp
     ·injection hp with hp
      subst hp;simp only[Ps.Ck,ht,hb,hcell,List.all_cons,List.all_nil,Bool.and_true,Qm]at hW;exact⟨fun x hx=>rfl,fun id' hid=>by simp only[cj];rw[bR _ _ (ne hW.1 hid),bR _ _ (ne hW.2 hid)],QI _,fun _=>rfl⟩
     ·cases hp
    ·cases hp
   ·cases hp
  ·cases hp
theorem zO{α β:Type}{f:α->Option β}:∀{l:List α} {r1 r2:List β},l.mapM f=some (r1++r2)->∃l1 l2,l=l1++l2/\l1.mapM f=some r1/\l2.mapM f=some r2
 |l,[],r2,h=>⟨[],l,rfl,rfl,h⟩
 |[],x::r1,r2,h=>by simp at h
 |y::l,x::r1,r2,h=>by
  simp only[List.mapM_cons,Qd,Qc,Option.pure_def,Qf,List.cons_append,List.cons.injEq]at h;obtain⟨z,hz,ys,hys,rfl,rfl⟩:=h;obtain⟨l1,l2,rfl,h1,h2⟩:=zO hys;exact⟨y::l1,l2,rfl,by simp[List.mapM_cons,hz,h1],h2⟩
theorem mY{E:En}{Γ:List (c7 U)}(hΓ:q9 P Γ){hs:List Nat}{ops:Array Oper}{Q:Exit->Act->World->Prop}:∀(rs:RS U) {ρ:Type} (W:WS) (nid:Nat) (S:aM U) (k:aM U->Option ρ) (r:ρ) (l1 l2:List Oper) (a:Act) (w:World) (L:Nat->Value),
  rs.c8=true->l1.mapM (sd P hs ops)=some rs.flat->Rel E S.st a w L->nid+rs.len<=S.N->(∀o∈l1,∀t,o.dst=some t->E.can t)->jl K Γ rs W nid S k=some r->
  (∀S' a' w' L',xz rs.iO W S S'->Rel E S'.st a' w' L'->k S'=some r->wpListIn (WF E.rd) 0 P ops Q l2 a' w')->wpListIn (WF E.rd) 0 P ops Q (l1++l2) a w
 | .nil,ρ,W,nid,S,k,r,l1,l2,a,w,L,hok,hm,h,hN,hd,hr,hk=>by
  have:l1=[]:=by
   have:=pE hm;exact List.eq_nil_of_length_eq_zero (by simpa[RS.flat]using this.symm)
  subst this;exact hk S a w L (xz.refl _ _ _) h hr
 | .op o rs,ρ,W,nid,S,k,r,l1,l2,a,w,L,hok,hm,h,hN,hd,hr,hk=>by
  simp only[RS.c8,Qm]at hok
  cases l1 with
  |nil=>simp[RS.flat]at hm
  |cons p l1=>
  simp only[RS.flat,List.mapM_cons,Qd,Qc,Option.pure_def,Qf,List.cons.injEq]at hm;obtain⟨g,hg,gs',hgs,rfl,rfl⟩:=hm;simp only[RS.len]at hN;obtain⟨Γ',x,wr,hΓ',he,hwr,hr'⟩:=Rn hΓ hok.1 hr;have hst:sC Γ' nid S.st g=some (S.cq g.d x wr).st:=by rw[RY,he,Dy];rfl
  rw[List.cons_append];refine wpListIn_step fun K hK=> ?_
  refine ue hΓ' hg h (show nid<S.N by omega) (hd p (by simp)) hst (fun a' w' L' h'=>hK _ _ ?_)
  refine mY hΓ rs W (nid+1) _ k r l1 l2 a' w' L' hok.2 hgs h' (by show _<=S.N;omega) (fun o' ho'=>hd o' (by simp[ho'])) hr' (fun S' a' w' L' hf h' hk'=>hk S' a' w' L' ?_ h' hk')
  refine(SN S W g.d x wr hwr).trans hf fun t ht=> ?_
  simp only[RS.iO]at ht
  cases hdd:g.d with
  |none=>rw[hdd]at ht;exact⟨by simp,ht⟩
  |some d=>rw[hdd]at ht;simp only[QA,not_or]at ht;exact⟨by simpa using fun e=>ht.1 e,ht.2⟩
 | .ps p rs,ρ,W,nid,S,k,r,l1,l2,a,w,L,hok,hm,h,hN,hd,hr,hk=>by
  simp only[jl]at hr;split at hr
  ·rename_i hW;split at hr
   ·rename_i S1 hp;obtain⟨L1,h1⟩:=Ps.sound K hp h;have hf:=Ps.frm hp hW;refine mY hΓ rs W nid S1 k r l1 l2 a w L1 hok hm h1 (QK hN hf.N) hd hr (fun S' a' w' L' hf' h' hk'=>hk S' a' w' L' (hf.trans hf' fun t ht=> ?_) h' hk')
    simp only[RS.iO,Qz,not_or]at ht;exact ht
   ·cases hr
  ·cases hr
 | .xo t rs,ρ,W,nid,S,k,r,l1,l2,a,w,L,hok,hm,h,hN,hd,hr,hk=>by
  simp only[jl]at hr;split at hr
  ·rename_i b hb
   cases b with
   |true=>
    rw[Qk,y4 hb]at hr;exact mY hΓ rs W nid S k r l1 l2 a w L hok hm h hN hd hr hk
   |false=>
    rw[Ql,y4 hb]at hr;exact mY hΓ rs W nid S k r l1 l2 a w L hok hm h hN hd hr hk
  ·exact mY hΓ rs W nid S k r l1 l2 a w L hok hm h hN hd hr hk
  ·cases hr
 | .ite t want body d g x y rs,ρ,W,nid,S,k,r,l1,l2,a,w,L,hok,hm,h,hN,hd,hr,hk=>by
  simp only[RS.c8,Qm]at hok;obtain⟨⟨hokb,hokx,hoky⟩,hokr⟩:=hok;simp only[RS.flat]at hm;obtain⟨lb,lr,rfl,hmb,hmr⟩:=zO hm
  cases lr with
  |nil=>simp at hmr
  |cons p lr=>
  simp only[List.mapM_cons,Qd,Qc,Option.pure_def,Qf,List.cons.injEq]at hmr;obtain⟨pg,hpg,gs',hgs,rfl,rfl⟩:=hmr;simp only[RS.len]at hN;simp only[jl]at hr;split at hr
  ·rename_i b hb;split at hr
   ·rename_i hchk;simp only[Qm,Bool.not_eq_true']at hchk;obtain⟨hwant,hskip,htd⟩:=hchk;have htd:=nF htd
    have fin:∀(v:Bool) (S1:St) (a1:Act) (w1:World) (L1:Nat->Value),(∀x,x∉body.iO->S1.env x=S.st.env x)->S1.H=S.st.H->S1.N=S.st.N->Rel E S1 a1 w1 L1->
      (if b then x else y).val S1= .bool v->jl K Γ rs W (nid+(body.len+1)) ((S.forget body.iO).cq (some d) (.bool v) none) k=some r->wpListIn (WF E.rd) 0 P ops Q (p::(lr++l2)) a1 w1:=by
     intro v S1 a1 w1 L1 he hH hN1 h1 hv hr1
     have hpw:(⟨some d,g,.pick (.tmp t) x y⟩:SG).wanted S1=some true:=by
      rw[SG.wanted]
      cases g with
      |none=>rfl
      |some q=>
       obtain⟨t',want'⟩:=q;simp only[Xv]at hwant;split at hwant
       ·rename_i b' hb';simp only[Qm,Bool.not_eq_true']at hwant;have:S1.env t'= .bool b':=by rw[he t' (nF hwant.2)];simp only[aM.st,hb',KV.pv]
        simp only[this];rw[FC]at hwant;rw[hwant.1]
       ·cases hwant
     have hbt:S1.env t= .bool b:=by rw[he t htd];simp only[aM.st,hb,KV.pv]
     have hst:sC (fun _=>none) nid S1 ⟨some d,g,.pick (.tmp t) x y⟩=some (S1.cq (some d) (.bool v) none):=by
      rw[sC,hpw];have hbt':(aX.tmp t).val S1= .bool b:=hbt;simp only[exec,hbt']
      cases b with
      |true=>simp only[Qt]at hv;simp only[hv];rfl
      |false=>simp only[Qq,Qu]at hv;simp only[hv];rfl
     refine wpListIn_step fun KK hKK=> ?_
     refine ue TD hpg h1 (show nid<S1.N by rw[hN1];show nid<S.N;omega) (hd p (by simp)) hst (fun a' w' L' h'=>hKK _ _ ?_)
     have h2:Rel E ((S.forget body.iO).cq (some d) (.bool v) none).st a' w' L':=by
      refine h'.X2 (by rw[Dy];exact hH.symm) (by rw[Dy];exact hN1.symm) fun t'=> ?_
      rw[Dy]
      by_cases htd':t'=d
      ·subst htd';left;rw[show(S1.cq (some t') (.bool v) none).env t'= .bool v from bF _ _ _]
       exact bF _ _ _
      ·rw[St.kq _ _ _ (by simpa using fun e=>htd' e.symm),St.kq _ _ _ (by simpa using fun e=>htd' e.symm)]
       cases hmm:gn t' body.iO with
       |true=>right;simp only[aM.st,aM.forget,hmm,KV.pv]
       |false=>left;simp only[aM.st,aM.forget,hmm];exact(he t' (nF hmm)).symm
     refine mY hΓ rs W (nid+(body.len+1)) _ k r lr l2 a' w' L' hokr hgs h2 (by show _<=S.N;omega) (fun o' ho'=>hd o' (by simp[ho'])) hr1 (fun S' a' w' L' hf h' hk'=>hk S' a' w' L' ?_ h' hk')
     refine xz.trans (S':=(S.forget body.iO).cq (some d) (.bool v) none) (D:=body.iO++[d]) ⟨fun t' ht'=> ?_,fun id _=>rfl,QI _,fun _=>rfl⟩ hf fun t' ht'=> ?_
     ·simp only[Qz,List.mem_singleton,not_or]at ht';rw[kq _ _ _ _ (by simpa using fun e=>ht'.2 e.symm)]
      have:gn t' body.iO=false:=by
       cases hmm:gn t' body.iO with
       |true=>exact absurd (dP.1 hmm) ht'.1
       |false=>rfl
      simp only[aM.forget,this]
     ·simp only[RS.iO,Qz,QA,not_or]at ht';exact⟨by simp[ht'.1,ht'.2.1],ht'.2.2⟩
    have body_run:∀(z:aX) (v:Bool),b=want->z.c8=true->z=(if b then x else y)->jl K Γ body none nid (S.cq (some t) (.bool b) none) (fun S1=>EM (z.cp S1))=some v->
      jl K Γ rs W (nid+(body.len+1)) ((S.forget body.iO).cq (some d) (.bool v) none) k=some r->wpListIn (WF E.rd) 0 P ops Q (lb++p::(lr++l2)) a w:=by
     intro z v _ hz hzz JL hrr;rw[y4 hb]at JL;refine mY hΓ body none nid S _ v lb _ a w L hokb hmb h (by omega) (fun o' ho'=>hd o' (by simp[ho'])) JL (fun S' a' w' L' hf h' hk'=> ?_)
     have hH:S'.H=S.H:=funext fun id=>hf.H id rfl
     have hNN:S'.N=S.N:=hf.Nn rfl;refine fin v S'.st a' w' L' (fun x' hx'=>by simp only[aM.st,hf.env x' hx']) (by simp only[aM.st,hH]) hNN h' ?_ hrr
     rw[<-hzz,uq hz,Zf hk'];rfl
    have body_skip:∀(c:Bool),b= !want->(if b then x else y)= .uw (.bool c)->jl K Γ rs W (nid+(body.len+1)) ((S.forget body.iO).cq (some d) (.bool c) none) k=some r->wpListIn (WF E.rd) 0 P ops Q (lb++p::(lr++l2)) a w:=by
     intro c hbw hc hrr;refine BV lb _ [] S.st a w L hmb h (show 0<S.N by omega) (fun o' ho'=>hd o' (by simp[ho'])) hskip ?_ (by simp) (fun S' a' w' L' he hH hN' h'=> ?_)
     ·simp only[aM.st,hb,KV.pv,hbw]
     ·refine fin c S' a' w' L' (fun x' hx'=>he x' fun hmem=>hx' (oS _ _ hmem)) hH hN' h' ?_ hrr
      rw[hc];rfl
    rw[QL,List.cons_append];split at hr
    ·split at hr
     ·rename_i c hc
      have hy:y= .uw (.bool c):=by
       unfold T7 at hc;split at hc
       ·injection hc with hc;rw[hc]
       ·cases hc
      rw[Qc]at hr;obtain⟨v,hv,hr⟩:=hr
      cases b with
      |true=>exact body_run x v rfl hokx (by simp) hv hr
      |false=>
       rw[Ql]at hv;injection hv with hv
       subst hv;exact body_skip c rfl (by simpa using hy) hr
     ·cases hr
    ·split at hr
     ·rename_i c hc
      have hx:x= .uw (.bool c):=by
       unfold T7 at hc;split at hc
       ·injection hc with hc;rw[hc]
       ·cases hc
      rw[Qc]at hr;obtain⟨v,hv,hr⟩:=hr
      cases b with
      |false=>exact body_run y v rfl hoky (by simp) hv hr
      |true=>
       rw[Qk]at hv;injection hv with hv
       subst hv;exact body_skip c rfl (by simpa using hx) hr
     ·cases hr
   ·cases hr
  ·cases hr
end
end Go.TQ
end
noncomputable section
namespace Go.TQ
open Go.RowKit
def PV.rW(p:Nat->Bool):PV->Bool
 | .own id _| .ptr id _ _| .dZ id _ _ _ _| .view id _ _ _ _=>p id
 | .agg _| .dx _| .bw _ _| .gZ _ _=>false
 |_=>true
def PV.lu(p:Nat->Bool):PV->Bool
 | .agg cs| .dx cs| .bw _ cs| .gZ _ cs=>cs.all (PV.rW p)
 |x=>x.rW p
section
variable {w : World}
theorem aS.rW{p:Nat->Bool}{M M':Nat->Prop}{G G':Gh}{x:PV}{v:Value}(hx:x.rW p=true)(hM:∀b,M' b->M b)(hp:∀id,p id=true->id<G'.N/\G'.V id=G.V id/\G'.L id=G.L id)(h:aS w M G x v):aS w M' G' x v:=by
 have hs:dq w w M M':=(dq.of fun _ hm=>fun h'=>hm (hM _ h'))
 cases h with
 |any=>exact .any _
 |undef=>exact .undef
 |int=>exact .int _ _
 |bool=>exact .bool _
 |fD=>exact .fD _
 |str=>exact .str _
 |iY=>exact .iY
 |df=>exact .df
 |bw=>simp[PV.rW]at hx
 |gZ=>simp[PV.rW]at hx
 |agg=>simp[PV.rW]at hx
 |dx=>simp[PV.rW]at hx
 |ptr id aq off a hN hVe h=>obtain⟨h1,h2,h3⟩:=hp id hx;exact .ptr _ _ _ _ h1 (by rw[h2];exact hVe) (fun e=>by rw[h3];exact h (by rw[e,h2]))
 |ref cs ad vs hl hcell h=>exact .ref cs ad vs hl (fun i u hu=>⟨(hcell i u hu).1,fun h'=>(hcell i u hu).2 (hM _ h')⟩) (fun i p u hp hu=>(h i p u hp hu).mono hs (Gh.le.refl _))
 |sl es ad c k vs hk hl hcell h hn hm=>exact .sl es ad c k vs hk hl (fun i u hu=>⟨(hcell i u hu).1,fun h'=>(hcell i u hu).2 (hM _ h')⟩) (fun i p u hp hu=>(h i p u hp hu).mono hs (Gh.le.refl _)) hn hm
 |slnil=>exact .slnil
 |own id aq a n c hN hVe h=>obtain⟨h1,h2,h3⟩:=hp id hx;exact .own _ _ _ _ _ h1 (by rw[h2];exact hVe) (fun e=>by rw[h3];exact h (by rw[e,h2]))
 |dZ id aq k i off a hN hVe h=>obtain⟨h1,h2,h3⟩:=hp id hx;exact .dZ _ _ _ _ _ _ h1 (by rw[h2];exact hVe) (fun e=>by rw[h3];exact h (by rw[e,h2]))
 |view id aq k lo n a c hN hVe h=>obtain⟨h1,h2,h3⟩:=hp id hx;exact .view _ _ _ _ _ _ _ h1 (by rw[h2];exact hVe) (fun e=>by rw[h3];exact h (by rw[e,h2]))
 |gD ks us b es ck hb hMb hk hv g1 g2=>exact .gD ks us b es ck hb (fun h'=>hMb (hM _ h')) hk hv (fun i p e hp he=>(g1 i p e hp he).mono hs (Gh.le.refl _)) (fun i p e hp he=>(g2 i p e hp he).mono hs (Gh.le.refl _))
theorem aS.lu{p:Nat->Bool}{M M':Nat->Prop}{G G':Gh}{x:PV}{v:Value}(hx:x.lu p=true)(hM:∀b,M' b->M b)(hp:∀id,p id=true->id<G'.N/\G'.V id=G.V id/\G'.L id=G.L id)(h:aS w M G x v):aS w M' G' x v:=by
 have go:∀{cs:List PV} {vs:List Value},cs.all (PV.rW p)=true->aT w M G cs vs->aT w M' G' cs vs:=fun hc h=>⟨h.1,fun i y v hy hv=>(h.2 i y v hy hv).rW (QH.1 hc y (List.mem_of_getElem? hy)) hM hp⟩
 cases x with
 |agg cs=>obtain⟨vs,rfl,hr⟩:=h.lV;have:=go (by simpa[PV.lu]using hx) hr;exact .agg _ _ this.1 this.2
 |dx cs=>obtain⟨vs,rfl,hr⟩:=h.AT;have:=go (by simpa[PV.lu]using hx) hr;exact .dx _ _ this.1 this.2
 |bw f cs=>obtain⟨vs,rfl,hr⟩:=h.uy;have:=go (by simpa[PV.lu]using hx) hr;exact .bw _ _ _ this.1 this.2
 |gZ f cs=>obtain⟨vs,rfl,hr⟩:=h.LF;have:=go (by simpa[PV.lu]using hx) hr;exact .gZ _ _ _ this.1 this.2
 |_=>exact h.rW (by simpa[PV.lu]using hx) hM hp
end
section
variable {U : TU}
def KV.rW(p:Nat->Bool):KV U->Bool
 | .own id _| .ptr id _ _| .dZ id _ _ _ _| .view id _ _ _ _=>p id
 | .agg _| .dx _| .bw _ _| .gZ _ _=>false
 |_=>true
def KV.lu(p:Nat->Bool):KV U->Bool
 | .agg cs| .dx cs| .bw _ cs| .gZ _ cs=>cs.all (KV.rW p)
 |x=>x.rW p
theorem Z3(p:Nat->Bool)(x:KV U):x.pv.rW p=x.rW p:=by cases x<;>simp[KV.pv,PV.rW,KV.rW]
theorem xZ(p:Nat->Bool)(l:List (KV U)):(l.map KV.pv).all (PV.rW p)=l.all (KV.rW p):=by
 induction l with
 |nil=>rfl
 |cons x l ih=>simp only[QD,List.all_cons,Z3,ih]
theorem OO(p:Nat->Bool)(x:KV U):x.pv.lu p=x.lu p:=by
 cases x with
 |agg cs=>simp only[KV.pv,PV.lu,KV.lu,KV.bX];exact xZ p cs
 |dx cs=>simp only[KV.pv,PV.lu,KV.lu,KV.bX];exact xZ p cs
 |bw f cs=>simp only[KV.pv,PV.lu,KV.lu,KV.bX];exact xZ p cs
 |gZ f cs=>simp only[KV.pv,PV.lu,KV.lu,KV.bX];exact xZ p cs
 |_=>simp[KV.pv,PV.lu,KV.lu,PV.rW,KV.rW]
def dg.lu(p:Nat->Bool):dg U->Bool
 | .dead=>true
 | .box cs=>cs.all (KV.lu p)
 | .row _ _ _ _=>true
 | .raw _ _ es=>es.all fun c=>c.all (KV.lu p)
inductive It (U:TU) where
 |val (t:Nat) (T:U.Ty)
 |own (t id aq e k:Nat) (T:U.Ty)
 |box (id aq:Nat) (T:U.Ty) (m:List (Nat×Nat×Nat))
 |ib (id aq e k:Nat) (T:U.Ty)
@[reducible] def It.den:It U->Type
 | .val _ T=>U.den T
 | .own _ _ _ _ _ T=>List (U.den T)
 | .box _ _ T _=>U.den T
 | .ib _ _ _ _ T=>List (U.den T)
@[reducible] def oY:List (It U)->Type
 |[]=>Unit
 |i::l=>i.den×oY l
def yp:List (Nat×Nat×Nat)->List (KV U)->List (KV U)
 |[],cs=>cs
 |(off,_,_)::m,cs=>yp m (cs.set off .df)
def yA:List (Nat×Nat×Nat)->List (KV U)->List (KV U)
 |[],cs=>cs
 |(off,id,aq)::m,cs=>(yA m cs).set off (.own id aq)
def El(S:aM U)(cs:List (KV U)):List (Nat×Nat×Nat)->Bool
 |[]=>true
 |(off,id,_)::m=>(match cs[off]? with|some (.own i v)=>Nat.beq i id&&Nat.beq v (S.H id).aq|_=>false)&&El S cs m
theorem I1(cs:List (KV U)):∀(m:List (Nat×Nat×Nat)),(yA m cs).length=cs.length
 |[]=>rfl
 |(off,id,aq)::m=>by rw[yA,QY,I1 cs m]
theorem BR:∀(m:List (Nat×Nat×Nat)) (cs:List (KV U)),(yp m cs).length=cs.length
 |[],_=>rfl
 |(off,id,aq)::m,cs=>by rw[yp,BR m,QY]
theorem I2(cs:List (KV U)){i:Nat}{y:KV U}:∀(m:List (Nat×Nat×Nat)),(yA m cs)[i]?=some y->(∃id aq,(i,id,aq)∈m/\y= .own id aq)\/((∀q∈m,q.1≠i)/\cs[i]?=some y)
 |[],h=> .inr ⟨by simp,h⟩
 |(off,id,aq)::m,h=>by
  rw[yA,List.getElem?_set]at h;split at h
  ·rename_i e;subst e;split at h
   ·injection h with h
    exact .inl ⟨id,aq,Qx,h.symm⟩
   ·cases h
  ·rename_i e;rcases I2 cs m h with⟨a,b,h1,h2⟩|⟨h1,h2⟩
   ·exact .inl ⟨a,b,Qy _ h1,h2⟩
   ·refine .inr ⟨fun q hq=> ?_,h2⟩
    rcases QA.1 hq with rfl|hq
    ·exact e
    ·exact h1 q hq
theorem Ic{i:Nat}:∀(m:List (Nat×Nat×Nat)) (cs:List (KV U)),(∀q∈m,q.1≠i)->(yp m cs)[i]?=cs[i]?
 |[],_,_=>rfl
 |(off,id,aq)::m,cs,h=>by
  rw[yp,Ic m _ fun q hq=>h q (Qy _ hq),List.getElem?_set,Qs (h _ Qx)]
theorem Jo{S:aM U}{cs:List (KV U)}{off id aq:Nat}:∀{m:List (Nat×Nat×Nat)},El S cs m=true->(off,id,aq)∈m->cs[off]?=some (.own id (S.H id).aq)
 |[],_,h=>by cases h
 |(o,i,v)::m,hm,h=>by
  rw[El,Qm]at hm;rcases QA.1 h with e|h
  ·injection e with e1 e2
   injection e2 with e2 e3
   subst e1 e2 e3;have h1:=hm.1;split at h1
   ·rename_i i' v' hc;rw[Qm]at h1;rw[hc,QF h1.1,QF h1.2]
   ·cases h1
  ·exact Jo hm.2 h
variable (K : TK U)
def Sj(S:aM U):(i:It U)->Option i.den
 | .val t T=>uG K mg T (S.env t)
 | .own t id aq e k T=>(match S.env t with
  | .own id' v=>(match Nat.beq id' id with
   |true=>(match S.row? id' v with
    |some r=>(match Nat.beq r.e e&&Nat.beq r.k k&&(Nat.blt 0 aq||Nat.beq v 0)with|true=>wH r.T T r.xs|false=>none)
    |none=>none)
   |false=>none)
  |_=>none)
 | .box id aq T m=>(match S.pN id aq with
  |some cs=>(match El S cs m with|true=>K.dec T mg (yp m cs)|false=>none)
  |none=>none)
 | .ib id aq e k T=>(match(S.H id).c with
  | .row e' k' T' xs=>(match Nat.beq e' e&&Nat.beq k' k&&(Nat.blt 0 aq||Nat.beq (S.H id).aq 0)with|true=>wH T' T xs|false=>none)
  |_=>none)
def pack(S:aM U):(l:List (It U))->Option (oY l)
 |[]=>some ()
 |i::l=>(match Sj K S i with
  |some v=>(match pack S l with|some vs=>some (v,vs)|none=>none)
  |none=>none)
def sj(S:aM U):(i:It U)->i.den->aM U
 | .val t T,v=>{env:=fU S.env t (tt K T v),H:=S.H,N:=S.N}
 | .own t id aq e k T,xs=>{env:=fU S.env t (.own id aq),H:=fU S.H id ⟨aq,.row e k T xs⟩,N:=S.N}
 | .box id aq T m,v=>{env:=S.env,H:=fU S.H id ⟨aq,.box (yA m (K.bW T v))⟩,N:=S.N}
 | .ib id aq e k T,xs=>{env:=S.env,H:=fU S.H id ⟨aq,.row e k T xs⟩,N:=S.N}
def rA(S:aM U):(l:List (It U))->oY l->aM U
 |[],_=>S
 |i::l,v=>sj K (rA S l v.2) i v.1
structure JS (U:TU) where
 items:List (It U)
 dV:List Nat
def aM.base(S:aM U)(dV:List Nat):aM U:=
 {env:=fun t=>(match gn t dV with|true=>S.env t|false=> .any),H:=fun id=>(match Nat.blt id S.N with|true=>S.H id|false=>⟨0,.dead⟩),N:=S.N}
def unpack(S:aM U)(J:JS U)(v:oY J.items):aM U:=rA K (S.base J.dV) J.items v
def It.bz:It U->Option Nat
 | .val t _| .own t _ _ _ _ _=>some t
 | .box _ _ _ _| .ib _ _ _ _ _=>none
def It.id:It U->Option Nat
 | .val _ _=>none
 | .own _ id _ _ _ _| .box id _ _ _| .ib id _ _ _ _=>some id
def It.okv:It U->Bool
 | .own _ _ _ _ _ _| .ib _ _ _ _ _=>true
 |_=>true
def It.row:It U->Option Nat
 | .own _ id aq _ _ _| .ib id aq _ _ _=>(match aq with|0=>none|_+1=>some id)
 |_=>none
def It.isRow(id aq:Nat):It U->Bool
 | .ib id' ver' _ _ _=>Nat.beq id' id&&Nat.beq ver' aq
 |_=>false
def JR(id aq:Nat):List (It U)->Bool
 |[]=>false
 |i::l=>i.isRow id aq||JR id aq l
def It.okm(l:List (It U)):It U->Bool
 | .box _ _ _ m=>m.all fun q=>JR q.2.1 q.2.2 l
 |_=>true
theorem JQ{id aq:Nat}:∀{l:List (It U)},JR id aq l=true->∃e k T,(It.ib id aq e k T)∈l
 |[],h=>by cases h
 |i::l,h=>by
  rw[JR,Qn]at h;rcases h with h|h
  ·cases i with
   |ib id' ver' e k T=>
    simp only[It.isRow,Qm]at h;rw[QF h.1,QF h.2];exact⟨e,k,T,Qx⟩
   |_=>cases h
  ·obtain⟨e,k,T,h⟩:=JQ h;exact⟨e,k,T,Qy _ h⟩
def eA:List (It U)->List Nat
 |[]=>[]
 |i::l=>(match i.id with|some id=>id::eA l|none=>eA l)
def rowsOf:List (It U)->List Nat
 |[]=>[]
 |i::l=>(match i.row with|some id=>id::rowsOf l|none=>rowsOf l)
def slotsOf:List (It U)->List Nat
 |[]=>[]
 |i::l=>(match i.bz with|some id=>id::slotsOf l|none=>slotsOf l)
def uX:List Nat->Bool
 |[]=>true
 |x::l=> !gn x l&&uX l
def Kj:Nat->(Nat->Bool)->Bool
 |0,_=>true
 |n+1,p=>Kj n p&&p n
theorem Ki{p:Nat->Bool}:∀{n:Nat},Kj n p=true->∀i,i<n->p i=true
 |0,_,i,hi=>absurd hi (Nat.not_lt_zero _)
 |n+1,h,i,hi=>by
  simp only[Kj,Qm]at h
  by_cases e:i=n
  ·rw[e];exact h.2
  ·exact Ki h.1 i (by omega)
def qQ(S:aM U)(J:JS U)(F:List Nat)(W:WS):Bool:=
 let ids:=eA J.items
 let rows:=rowsOf J.items
 let p:=fun id=>Nat.blt id S.N&& !gn id rows
 uX ids&&ids.all (fun id=>Nat.blt id S.N&&okW W id)&&(J.items.all It.okv&&J.items.all (It.okm J.items))&&J.dV.all (fun t=>(S.env t).lu p&& !gn t (slotsOf J.items))&&Kj S.N (fun id=>gn id ids||(S.H id).c.lu p)
  &&F.all (fun t=>gn t J.dV)&&(match W with|some (n,_)=>Nat.ble n S.N|none=>false)
def uU:(l:List (It U))->oY l->List (Sigma (It.den (U:=U)))
 |[],_=>[]
 |i::l,v=>⟨i,v.1⟩::uU l v.2
variable {K}
theorem I8{S:aM U}:∀{l:List (It U)} {v:oY l},pack K S l=some v->∀p∈uU l v,Sj K S p.1=some p.2
 |[],v,h,p,hp=>by cases hp
 |i::l,v,h,p,hp=>by
  rw[pack]at h;split at h
  ·rename_i v1 h1;split at h
   ·rename_i vs h2;injection h with h
    subst h;rcases QA.1 hp with rfl|hp
    ·exact h1
    ·exact I8 h2 p hp
   ·cases h
  ·cases h
def XM:(i:It U)->i.den->KV U
 | .val _ T,v=>tt K T v
 | .own _ id aq _ _ _,_=> .own id aq
 | .box _ _ _ _,_=> .any
 | .ib _ _ _ _ _,_=> .any
def K9:(i:It U)->i.den->cI U
 | .val _ _,_=>⟨0,.dead⟩
 | .own _ _ aq e k T,xs=>⟨aq,.row e k T xs⟩
 | .box _ aq T m,v=>⟨aq,.box (yA m (K.bW T v))⟩
 | .ib _ aq e k T,xs=>⟨aq,.row e k T xs⟩
theorem Wo(S:aM U)(i:It U)(v:i.den)(t:Nat):(i.bz=some t/\(sj K S i v).env t=XM (K:=K) i v)\/(i.bz≠some t/\(sj K S i v).env t=S.env t):=by
 cases i with
 |val t' T=>
  by_cases e:t'=t
  ·subst e;left;exact⟨rfl,by simp only[sj,cj];exact bF _ _ _⟩
  ·right;exact⟨by simpa[It.bz]using e,by simp only[sj,cj];exact bR _ _ (fun h=>e h.symm)⟩
 |own t' id aq ee k T=>
  by_cases e:t'=t
  ·subst e;left;exact⟨rfl,by simp only[sj,cj];exact bF _ _ _⟩
  ·right;exact⟨by simpa[It.bz]using e,by simp only[sj,cj];exact bR _ _ (fun h=>e h.symm)⟩
 |box id aq T m=>right;exact⟨by simp[It.bz],rfl⟩
 |ib id aq e k T=>right;exact⟨by simp[It.bz],rfl⟩
theorem OH(S:aM U)(i:It U)(v:i.den)(id:Nat):(i.id=some id/\(sj K S i v).H id=K9 (K:=K) i v)\/(i.id≠some id/\(sj K S i v).H id=S.H id):=by
 cases i with
 |val t' T=>right;exact⟨by simp[It.id],rfl⟩
 |own t' id' aq ee k T=>
  by_cases e:id'=id
  ·subst e;left;exact⟨rfl,by simp only[sj,cj];exact bF _ _ _⟩
  ·right;exact⟨by simpa[It.id]using e,by simp only[sj,cj];exact bR _ _ (fun h=>e h.symm)⟩
 |box id' aq T m=>
  by_cases e:id'=id
  ·subst e;left;exact⟨rfl,by simp only[sj,cj];exact bF _ _ _⟩
  ·right;exact⟨by simpa[It.id]using e,by simp only[sj,cj];exact bR _ _ (fun h=>e h.symm)⟩
 |ib id' aq ee k T=>
  by_cases e:id'=id
  ·subst e;left;exact⟨rfl,by simp only[sj,cj];exact bF _ _ _⟩
  ·right;exact⟨by simpa[It.id]using e,by simp only[sj,cj];exact bR _ _ (fun h=>e h.symm)⟩
theorem ZX(S:aM U)(i:It U)(v:i.den):(sj K S i v).N=S.N:=by cases i<;>rfl
theorem Be(S:aM U):∀(l:List (It U)) (v:oY l),(rA K S l v).N=S.N
 |[],_=>rfl
 |i::l,v=>by rw[rA,ZX,Be S l]
theorem rC{id:Nat}:∀{l:List (It U)} {i:It U},i∈l->i.id=some id->id∈eA l
 |j::l,i,hi,h=>by
  simp only[eA];rcases QA.1 hi with rfl|hi
  ·rw[h];exact Qx
  ·have:=rC hi h;split
   ·exact Qy _ this
   ·exact this
theorem HA{id:Nat}:∀{l:List (It U)} {i:It U},i∈l->i.row=some id->id∈rowsOf l
 |j::l,i,hi,h=>by
  simp only[rowsOf];rcases QA.1 hi with rfl|hi
  ·rw[h];exact Qx
  ·have:=HA hi h;split
   ·exact Qy _ this
   ·exact this
theorem zN{id:Nat}:∀{l:List (It U)} {i:It U},i∈l->i.bz=some id->id∈slotsOf l
 |j::l,i,hi,h=>by
  simp only[slotsOf];rcases QA.1 hi with rfl|hi
  ·rw[h];exact Qx
  ·have:=zN hi h;split
   ·exact Qy _ this
   ·exact this
theorem jt:∀{l:List (It U)} {v:oY l} {p:Sigma (It.den (U:=U))},p∈uU l v->p.1∈l
 |i::l,v,p,hp=>by
  rcases QA.1 hp with rfl|hp
  ·exact Qx
  ·exact Qy _ (jt hp)
theorem OU:∀{l:List (It U)} {v:oY l} {i:It U},i∈l->∃d,(⟨i,d⟩:Sigma (It.den (U:=U)))∈uU l v
 |j::l,v,i,hi=>by
  rcases QA.1 hi with rfl|hi
  ·exact⟨v.1,Qx⟩
  ·obtain⟨d,hd⟩:=OU (v:=v.2) hi;exact⟨d,Qy _ hd⟩
theorem wN(S:aM U):∀(l:List (It U)) (v:oY l) (t:Nat),(∃p∈uU l v,p.1.bz=some t/\(rA K S l v).env t=XM (K:=K) p.1 p.2)\/(t∉slotsOf l/\(rA K S l v).env t=S.env t)
 |[],v,t=> .inr ⟨by simp[slotsOf],rfl⟩
 |i::l,v,t=>by
  rcases Wo (K:=K) (rA K S l v.2) i v.1 t with⟨h1,h2⟩|⟨h1,h2⟩
  ·exact .inl ⟨⟨i,v.1⟩,Qx,h1,h2⟩
  ·rcases wN S l v.2 t with⟨p,hp,h3,h4⟩|⟨h3,h4⟩
   ·exact .inl ⟨p,Qy _ hp,h3,h2.trans h4⟩
   ·refine .inr ⟨?_,h2.trans h4⟩;simp only[slotsOf];split
    ·rename_i s hs;simp only[QA,not_or];exact⟨fun e=>h1 (by rw[hs,e]),h3⟩
    ·exact h3
theorem Bf(S:aM U):∀(l:List (It U)) (v:oY l) (id:Nat),uX (eA l)=true->(∃p∈uU l v,p.1.id=some id/\(rA K S l v).H id=K9 (K:=K) p.1 p.2)\/(id∉eA l/\(rA K S l v).H id=S.H id)
 |[],v,t,_=> .inr ⟨by simp[eA],rfl⟩
 |i::l,v,id,hn=>by
  have hn':uX (eA l)=true:=by
   simp only[eA]at hn;split at hn
   ·simp only[uX,Qm]at hn;exact hn.2
   ·exact hn
  rcases OH (K:=K) (rA K S l v.2) i v.1 id with⟨h1,h2⟩|⟨h1,h2⟩
  ·exact .inl ⟨⟨i,v.1⟩,Qx,h1,h2⟩
  ·rcases Bf S l v.2 id hn' with⟨p,hp,h3,h4⟩|⟨h3,h4⟩
   ·exact .inl ⟨p,Qy _ hp,h3,h2.trans h4⟩
   ·refine .inr ⟨?_,h2.trans h4⟩;simp only[eA];split
    ·rename_i s hs;simp only[QA,not_or];exact⟨fun e=>h1 (by rw[hs,e]),h3⟩
    ·exact h3
theorem Ed(S:aM U):∀(l:List (It U)) (v:oY l),uX (eA l)=true->∀p∈uU l v,∀id,p.1.id=some id->(rA K S l v).H id=K9 (K:=K) p.1 p.2
 |[],v,_,p,hp=>by cases hp
 |i::l,v,hn,p,hp=>by
  intro id hid
  have hn':uX (eA l)=true:=by
   simp only[eA]at hn;split at hn
   ·simp only[uX,Qm]at hn;exact hn.2
   ·exact hn
  rcases QA.1 hp with rfl|hp
  ·rcases OH (K:=K) (rA K S l v.2) i v.1 id with⟨h1,h2⟩|⟨h1,h2⟩
   ·exact h2
   ·exact absurd hid h1
  ·rcases OH (K:=K) (rA K S l v.2) i v.1 id with⟨h1,h2⟩|⟨h1,h2⟩
   ·exfalso;simp only[eA,h1,uX,Qm,Bool.not_eq_true']at hn;exact nF hn.1 (rC (jt hp) hid)
   ·exact h2.trans (Ed S l v.2 hn' p hp id hid)
theorem Ke(S:aM U)(dV:List Nat):(S.base dV).N=S.N:=rfl
theorem CQ{S:aM U}{dV:List Nat}{t:Nat}:(S.base dV).env t=if t∈dV then S.env t else .any:=by
 simp only[aM.base];split
 ·rename_i h;rw[Qr (dP.1 h)]
 ·rename_i h;rw[Qs (nF h)]
theorem Kf{S:aM U}{dV:List Nat}{id:Nat}:(S.base dV).H id=if id<S.N then S.H id else⟨0,.dead⟩:=by
 simp only[aM.base];split
 ·rename_i h;rw[Qr (show id<S.N from QG h)]
 ·rename_i h;rw[Qs];intro hlt;have:Nat.blt id S.N=true:=Nat.ble_eq_true_of_le hlt;rw[this]at h;cases h
theorem gk.XE{w:World}{M:Nat->Prop}{G:Gh}{xs:List (KV U)}{ys:List PV}(h:gk mg xs ys):∀{vs:List Value},aT w M G (xs.map KV.pv) vs->aT w M G ys vs:=by
 induction h with
 |nil=>intro vs h;exact h
 |cons hc _ ih=>
  intro vs h;obtain⟨v,vs',rfl,h1,h2⟩:=aT.cons_inv h;refine aT.cons ?_ (ih h2)
  cases hc with
  |df=>rw[KV.pv]at h1;rw[h1.lf];exact .slnil
  |own _ _ _ _ hn=>cases hn
  |_=>simpa[KV.pv]using h1
theorem kL.XE{w:World}{M:Nat->Prop}{G:Gh}{x:KV U}{y:PV}(hc:kL mg x y){v:Value}(h1:aS w M G x.pv v):aS w M G y v:=by
 cases hc with
 |df=>rw[KV.pv]at h1;rw[h1.lf];exact .slnil
 |own _ _ _ _ hn=>cases hn
 |_=>simpa[KV.pv]using h1
theorem gk.len{lk:Lk U}{xs:List (KV U)}{ys:List PV}(h:gk lk xs ys):xs.length=ys.length:=by
 induction h with
 |nil=>rfl
 |cons _ _ ih=>rw[QE,QE,ih]
theorem gk.get{lk:Lk U}{xs:List (KV U)}{ys:List PV}(h:gk lk xs ys):∀{i:Nat} {x:KV U} {y:PV},xs[i]?=some x->ys[i]?=some y->kL lk x y:=by
 induction h with
 |nil=>intro i x y h;simp at h
 |cons hc _ ih=>
  intro i x y hx hy
  cases i with
  |zero=>simp only[List.getElem?_cons_zero,Qf]at hx hy;subst hx hy;exact hc
  |succ i=>exact ih (by simpa using hx) (by simpa using hy)
theorem Uy{w:World}{M:Nat->Prop}{G:Gh}{T:U.Ty}{x:KV U}{d:U.den T}{v:Value}(h:uG K mg T x=some d)(r:aS w M G x.pv v):aS w M G (cQ T d) v:=by
 unfold uG at h;unfold cQ;split at h
 ·split at h
  ·rename_i cs;rw[KV.pv,KV.bX]at r;obtain⟨vs,rfl,hr⟩:=r.lV;have:=(K.kE _ _ _ _ h).XE hr;exact .agg _ _ this.1 this.2
  ·cases h
 ·rename_i ha;have hc:=K.kE _ _ _ _ h;have h1:aT w M G ([x].map KV.pv) [v]:= .cons r .nil;have h2:=hc.XE h1;generalize U.pv T d=ys at h2;obtain⟨hl,h2⟩:=h2
  cases ys with
  |nil=>simp at hl
  |cons y l=>exact h2 0 y v rfl rfl
theorem Rel.meet{S0 S1:aM U}{J:JS U}{F:List Nat}{W:WS}(hchk:qQ S0 J F W=true){v:oY J.items}(hp:pack K S1 J.items=some v)
  (hk:∀t∈J.dV,S1.env t=S0.env t) (hH:∀id,id<S0.N->id∉eA J.items->S1.H id=S0.H id) (hN:S0.N<=S1.N)
  {E:En} {a:Act} {w:World} {L:Nat->Value} (h:Rel E S1.st a w L):Rel E (unpack K S0 J v).st a w L:=by
 simp only[qQ,Qm,QH]at hchk;obtain⟨⟨⟨⟨⟨⟨hnd,hids⟩,hokv,hokm⟩,hkeep⟩,hobj⟩,hF⟩,hW⟩:=hchk;have hpk:=I8 hp;have hN':(unpack K S0 J v).N=S0.N:=by rw[unpack,Be,Ke]
 have hlt:∀id∈eA J.items,id<S0.N:=fun id hid=>QG (hids id hid).1
 have hHc:∀id,(∃p∈uU J.items v,p.1.id=some id/\(unpack K S0 J v).H id=K9 (K:=K) p.1 p.2)\/(id∉eA J.items/\(unpack K S0 J v).H id=if id<S0.N then S0.H id else⟨0,.dead⟩):=by
  intro id;rcases Bf (K:=K) (S0.base J.dV) J.items v id hnd with h1|⟨h1,h2⟩
  ·exact .inl h1
  ·exact .inr ⟨h1,h2.trans Kf⟩
 have hrow:∀t id aq e k T (xs:List (U.den T)),(⟨.own t id aq e k T,xs⟩:Sigma (It.den (U:=U)))∈uU J.items v->S1.env t= .own id (S1.H id).aq/\(S1.H id).c= .row e k T xs/\(aq=0->(S1.H id).aq=0):=by
  intro t id aq e k T xs hmem;have:=hpk _ hmem;simp only[Sj]at this;split at this
  ·rename_i id' v' he;split at this
   ·rename_i hid;have hid:=QF hid;subst hid;split at this
    ·rename_i r hr;obtain⟨h1,h2⟩:=zG hr;split at this
     ·rename_i hek;rw[Qm,Qm,Qn]at hek;obtain⟨re,rk,rT,rxs⟩:=r;obtain⟨eT,hxs⟩:=lL this;simp only at eT hxs h2 hek;subst eT;refine⟨by rw[he,h1],by rw[h2,hxs,QF hek.1.1,QF hek.1.2],fun hz=> ?_⟩
      rcases hek.2 with h9|h9
      ·rw[hz]at h9;cases h9
      ·rw[h1];exact QF h9
     ·cases this
    ·cases this
   ·cases this
  ·cases this
 have hbox:∀id aq T m (d:U.den T),(⟨.box id aq T m,d⟩:Sigma (It.den (U:=U)))∈uU J.items v->(S1.H id).aq=aq/\∃cs,(S1.H id).c= .box cs/\El S1 cs m=true/\gk mg (yp m cs) (U.pv T d):=by
  intro id aq T m d hmem;have:=hpk _ hmem;simp only[Sj]at this;split at this
  ·rename_i cs hcs;obtain⟨h1,h2⟩:=xa hcs;split at this
   ·rename_i hmk;exact⟨h1,cs,h2,hmk,K.kE _ _ _ _ this⟩
   ·cases this
  ·cases this
 have hrowb:∀id aq e k T (xs:List (U.den T)),(⟨.ib id aq e k T,xs⟩:Sigma (It.den (U:=U)))∈uU J.items v->(S1.H id).c= .row e k T xs/\(aq=0->(S1.H id).aq=0):=by
  intro id aq e k T xs hmem;have:=hpk _ hmem;simp only[Sj]at this;split at this
  ·rename_i e' k' T' ys hc;split at this
   ·rename_i hek;rw[Qm,Qm,Qn]at hek;obtain⟨eT,hxs⟩:=lL this;subst eT;refine⟨by rw[hc,hxs,QF hek.1.1,QF hek.1.2],fun hz=> ?_⟩
    rcases hek.2 with h9|h9
    ·rw[hz]at h9;cases h9
    ·exact QF h9
   ·cases this
  ·cases this
 have hlive:∀id,id<S0.N->((unpack K S0 J v).st.H id).c.live=true->(S1.st.H id).c.live=true:=by
  intro id hid hl;rcases hHc id with⟨⟨i,d⟩,hmem,h1,h2⟩|⟨h1,h2⟩
  ·cases i with
   |val t T=>cases h1
   |own t id' aq e k T=>
    simp only[It.id,Qf]at h1;subst h1;have:=(hrow _ _ _ _ _ _ _ hmem).2.1;simp only[aM.st,cI.pv,this,dg.pv];rfl
   |box id' aq T m=>
    simp only[It.id,Qf]at h1;subst h1;obtain⟨_,cs,h3,_,_⟩:=hbox _ _ _ _ _ hmem;simp only[aM.st,cI.pv,h3,dg.pv];rfl
   |ib id' aq e k T=>
    simp only[It.id,Qf]at h1;subst h1;have:=(hrowb _ _ _ _ _ _ hmem).1;simp only[aM.st,cI.pv,this,dg.pv];rfl
  ·rw[Qr hid]at h2;simp only[aM.st]at hl ⊢;rw[h2,<-hH id hid h1]at hl;exact hl
 have hM:∀b,aZ E (unpack K S0 J v).st L b->aZ E S1.st L b:=by
  rintro b (⟨id,hid,hl,hb⟩|hb)
  ·have hid':id<S0.N:=by simpa only[aM.st,hN']using hid
   exact .inl ⟨id,QJ hid' hN,hlive id hid' hl,hb⟩
  ·exact .inr hb
 have hpok:∀id,(Nat.blt id S0.N&& !gn id (rowsOf J.items))=true->id<((unpack K S0 J v).st.gh L).N/\((unpack K S0 J v).st.gh L).V id=(S1.st.gh L).V id/\((unpack K S0 J v).st.gh L).L id=(S1.st.gh L).L id:=by
  intro id hid;simp only[Qm,Bool.not_eq_true']at hid;have hid1:id<S0.N:=QG hid.1;refine⟨by simpa only[St.gh,aM.st,hN']using hid1,?_,rfl⟩
  simp only[St.gh,aM.st,cI.pv];rcases hHc id with⟨⟨i,d⟩,hmem,h1,h2⟩|⟨h1,h2⟩
  ·cases i with
   |val t T=>cases h1
   |own t id' aq e k T=>
    simp only[It.id,Qf]at h1;subst h1
    cases aq with
    |zero=>
     rw[h2];exact((hrow _ _ _ _ _ _ _ hmem).2.2 rfl).symm
    |succ n=>exact absurd (HA (jt hmem) rfl) (nF hid.2)
   |box id' aq T m=>
    simp only[It.id,Qf]at h1;subst h1;rw[h2];exact(hbox _ _ _ _ _ hmem).1.symm
   |ib id' aq e k T=>
    simp only[It.id,Qf]at h1;subst h1
    cases aq with
    |zero=>
     rw[h2];exact((hrowb _ _ _ _ _ _ hmem).2 rfl).symm
    |succ n=>exact absurd (HA (jt hmem) rfl) (nF hid.2)
  ·rw[Qr hid1]at h2;rw[h2,hH id hid1 h1]
 refine⟨h.defers,h.size,fun t=> ?_,fun id hid=> ?_,fun i j b hi hj hli hlj hbi hbj=> ?_,fun id hid=> ?_,h.fr,fun hb hlv hvr=> ?_⟩
 ·show aS _ _ _ (((unpack K S0 J v).env t).pv) _;rcases wN (K:=K) (S0.base J.dV) J.items v t with⟨⟨i,d⟩,hmem,h1,h2⟩|⟨_,h2⟩
  ·rw[show(unpack K S0 J v).env t=_ from h2]
   cases i with
   |val t' T=>
    simp only[It.bz,Qf]at h1;subst h1;simp only[XM,uc];have h3:=hpk _ hmem;simp only[Sj]at h3;have h4:=Uy h3 (h.env t')
    have hg:(cQ T d).lu (fun _=>false)=true:=by
     have:=xd K d;have h5:=CZ K d
     cases hv:cQ T d with
     |agg cs=>
      simp only[PV.lu];refine QH.2 fun y hy=> ?_
      cases ha:U.agg T with
      |true=>
       rw[ub d ha]at hv;injection hv with hv
       rw[<-hv]at hy;have:=K.fQ T d y hy;cases y<;>first|rfl|cases this
      |false=>obtain⟨y0,h6,h7⟩:=ri K d ha;have h8:=K.fQ T d y0 h7;rw[<-h6,hv]at h8;cases h8
     |dx cs=>exact absurd hv (h5 cs)
     |bw f cs=>
      exfalso
      cases ha:U.agg T with
      |true=>rw[ub d ha]at hv;cases hv
      |false=>obtain⟨y,h6,h7⟩:=ri K d ha;have h8:=K.fQ T d y h7;rw[<-h6,hv]at h8;cases h8
     |_=>rw[hv]at this;first|rfl|cases this
    exact h4.lu hg hM (fun id hid=>by cases hid)
   |own t' id aq e k T=>
    simp only[It.bz,Qf]at h1;subst h1;obtain⟨h3,h4,_⟩:=hrow _ _ _ _ _ _ _ hmem;have h5:=h.env t';have h6:S1.st.env t'= .own id (S1.st.H id).aq:=by simp only[aM.st,h3,KV.pv,cI.pv]
    rw[h6]at h5;obtain⟨h7,h8⟩:=h5.kO (show(S1.st.gh L).V id=_ from rfl)
    have hidlt:=hlt id (rC (jt hmem) rfl);have h9:=Ed (K:=K) (S0.base J.dV) J.items v hnd _ hmem id rfl;simp only[XM,KV.pv]
    have hsl:∃ad n c,a.tmps.getD t' undef= .slice ad n c:=by
     generalize a.tmps.getD t' undef=vv at h5
     cases h5 with
     |own _ _ ad n c _ _ _=>exact⟨ad,n,c,rfl⟩
    obtain⟨ad,n,c,hv⟩:=hsl;rw[hv]at h8 ⊢;refine .own _ _ _ _ _ (by simpa only[St.gh,aM.st,hN']using hidlt) ?_ (fun _=>h8)
    simp only[St.gh,aM.st,cI.pv,show(unpack K S0 J v).H id=_ from h9,K9]
    exact QI _
   |box id aq T m=>cases h1
   |ib id aq e k T=>cases h1
  ·rw[show(unpack K S0 J v).env t=_ from h2,CQ]
   split
   ·rename_i ht;have h3:=(hkeep t ht).1;rw[<-OO]at h3;refine aS.lu h3 hM hpok ?_;have:=h.env t;simp only[aM.st,hk t ht]at this;exact this
   ·exact .any _
 ·have hid':id<S0.N:=by simpa only[aM.st,hN']using hid
  show tl _ _ _ _ _ (((unpack K S0 J v).H id).c.pv);rcases hHc id with⟨⟨i,d⟩,hmem,h1,h2⟩|⟨h1,h2⟩
  ·rw[h2]
   cases i with
   |val t T=>cases h1
   |own t id' aq e k T=>
    simp only[It.id,Qf]at h1;subst h1;have h3:=(hrow _ _ _ _ _ _ _ hmem).2.1;have h4:(S1.st.H id').c= .row e k (d.map (U.pv T)):=by simp only[aM.st,cI.pv,h3,dg.pv]
    obtain⟨vs,h5,h6,h7⟩:=h.iJ (QJ hid' hN) h4;refine⟨vs,h5,h6,aT.closed ?_ hM h7⟩;refine QH.2 fun y hy=> ?_
    obtain⟨u,hu,hyu⟩:=List.mem_flatten.1 hy;obtain⟨x,_,rfl⟩:=QP.1 hu;exact gb (K.fQ T x y hyu)
   |box id' aq T m=>
    simp only[It.id,Qf]at h1;subst h1;obtain⟨_,cs,h3,hmk,hcs⟩:=hbox _ _ _ _ _ hmem;have h4:(S1.st.H id').c= .box (cs.map KV.pv):=by simp only[aM.st,cI.pv,h3,dg.pv]
    obtain⟨b,cur,T',h5,h6,h7,h8⟩:=h.pr (QJ hid' hN) h4;refine⟨b,cur,T',h5,h6,h8,?_,fun i y u hy hu=> ?_⟩
    ·have e1:=congrArg List.length (K.om T d);rw[QC]at e1;rw[QC,I1,e1,<-hcs.len,BR,h7.1,QC]
    ·rw[QT,Qb]at hy;obtain⟨z,hz,rfl⟩:=hy;rcases I2 _ m hz with⟨rid,rver,hmm,rfl⟩|⟨hnm,hz⟩
     ·have hci:=Jo hmk hmm;have h9:=h7.2 i _ u (by rw[QT,hci];rfl) hu
      rw[KV.pv]at h9;obtain⟨h10,h11⟩:=h9.kO (show(S1.st.gh L).V rid=_ from rfl)
      have hmi:(It.box id' aq T m)∈J.items:=jt hmem;obtain⟨e,k,T2,hrm⟩:=JQ (QH.1 (hokm _ hmi) _ hmm);have hridlt:=hlt rid (rC hrm rfl)
      have hsl:∃ad n c,u= .slice ad n c:=by
       cases h9 with
       |own _ _ ad n c _ _ _=>exact⟨ad,n,c,rfl⟩
      obtain⟨ad,n,c,hv⟩:=hsl;rw[hv]at h11 ⊢;rw[KV.pv];refine .own _ _ _ _ _ (by simpa only[St.gh,aM.st,hN']using hridlt) ?_ (fun _=>h11)
      obtain⟨d2,hd2⟩:=OU (v:=v) hrm;have h12:=Ed (K:=K) (S0.base J.dV) J.items v hnd _ hd2 rid rfl;simp only[St.gh,aM.st,cI.pv,show(unpack K S0 J v).H rid=_ from h12,K9]
      exact QI _
     ·have hzp:(U.pv T d)[i]?=some z.pv:=by rw[<-K.om,QT,hz];rfl
      have hil:i<cs.length:=by
       have:=(Qw.1 hzp).1;rw[<-hcs.len,BR]at this;exact this
      have hci:cs[i]?=some cs[i]:=Qv hil;have hck:=hcs.get (by rw[Ic m cs hnm];exact hci) hzp
      have h9:=h7.2 i _ u (by rw[QT,hci];rfl) hu
      exact(hck.XE h9).closed (gb (K.fQ T d _ (List.mem_of_getElem? hzp))) hM
   |ib id' aq e k T=>
    simp only[It.id,Qf]at h1;subst h1;have h3:=(hrowb _ _ _ _ _ _ hmem).1;have h4:(S1.st.H id').c= .row e k (d.map (U.pv T)):=by simp only[aM.st,cI.pv,h3,dg.pv]
    obtain⟨vs,h5,h6,h7⟩:=h.iJ (QJ hid' hN) h4;refine⟨vs,h5,h6,aT.closed ?_ hM h7⟩;refine QH.2 fun y hy=> ?_
    obtain⟨u,hu,hyu⟩:=List.mem_flatten.1 hy;obtain⟨x,_,rfl⟩:=QP.1 hu;exact gb (K.fQ T x y hyu)
  ·rw[h2,Qr hid',<-hH id hid' h1];have ho:=h.obj id (QJ hid' hN);have hc:=Ki hobj id hid';rw[Qn]at hc;have hc:=hc.resolve_left (fun e=>h1 (dP.1 e))
   rw[<-hH id hid' h1]at hc
   change tl _ _ _ _ _ ((S1.H id).c.pv)at ho
   cases hcc:(S1.H id).c with
   |dead=>trivial
   |box cs=>
    rw[hcc]at ho hc;obtain⟨b,cur,T',h5,h6,h7,h8⟩:=ho;refine⟨b,cur,T',h5,h6,h7,h8.1,fun i y u hy hu=> ?_⟩
    simp only[dg.lu,QH]at hc;rw[QT,Qb]at hy;obtain⟨z,hz,rfl⟩:=hy;refine aS.lu (by rw[OO];exact hc z (List.mem_of_getElem? hz)) hM hpok (h8.2 i z.pv u (by rw[QT,hz];rfl) hu)
   |raw e k es=>
    rw[hcc]at ho hc;obtain⟨vs,h5,h6,h7⟩:=ho;refine⟨vs,h5,h6,h7.1,fun i y u hy hu=> ?_⟩
    simp only[dg.lu,QH]at hc;obtain⟨l,hl,hyl⟩:=List.mem_flatten.1 (List.mem_of_getElem? hy);obtain⟨c,hcm,rfl⟩:=QP.1 hl;obtain⟨z,hz,rfl⟩:=QP.1 hyl;exact aS.lu (by rw[OO];exact hc c hcm z hz) hM hpok (h7.2 i _ u hy hu)
   |row e k T xs=>
    rw[hcc]at ho;obtain⟨vs,h5,h6,h7⟩:=ho;refine⟨vs,h5,h6,aT.closed ?_ hM h7⟩;refine QH.2 fun y hy=> ?_
    obtain⟨u,hu,hyu⟩:=List.mem_flatten.1 hy;obtain⟨x,_,rfl⟩:=QP.1 hu;exact gb (K.fQ T x y hyu)
 ·have hi':i<S0.N:=by simpa only[aM.st,hN']using hi
  have hj':j<S0.N:=by simpa only[aM.st,hN']using hj
  exact h.apart i j b (QJ hi' hN) (QJ hj' hN) (hlive i hi' hli) (hlive j hj' hlj) hbi hbj
 ·have hid':S0.N<=id:=by simpa only[aM.st,hN']using hid
  rcases hHc id with⟨⟨i,d⟩,hmem,h1,h2⟩|⟨h1,h2⟩
  ·have:=hlt id (rC (jt hmem) h1);omega
  ·rw[Qs (by omega)]at h2
   simp only[aM.st,h2,cI.pv,dg.pv]
 ·by_cases h0:0<S0.N
  ·refine h.uM hb (hlive 0 h0 hlv) ?_;simp only[aM.st,cI.pv]at hvr ⊢;rcases hHc 0 with⟨⟨i,d⟩,hmem,h1,h2⟩|⟨h1,h2⟩
   ·rw[h2]at hvr
    cases i with
    |val t T=>cases h1
    |own t id' aq e k T=>
     simp only[It.id,Qf]at h1;subst h1;exact(hrow _ _ _ _ _ _ _ hmem).2.2 hvr
    |box id' aq T m=>
     simp only[It.id,Qf]at h1;subst h1;rw[(hbox _ _ _ _ _ hmem).1];exact hvr
    |ib id' aq e k T=>
     simp only[It.id,Qf]at h1;subst h1;exact(hrowb _ _ _ _ _ _ hmem).2 hvr
   ·rw[Qr h0]at h2;rw[hH 0 h0 h1,<-h2];exact hvr
  ·rcases hHc 0 with⟨⟨i,d⟩,hmem,h1,h2⟩|⟨h1,h2⟩
   ·exact absurd (hlt 0 (rC (jt hmem) h1)) h0
   ·rw[Qs h0]at h2;simp only[aM.st,cI.pv,h2,dg.pv]at hlv;cases hlv
end
end Go.TQ
end
