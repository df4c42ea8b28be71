/-
  Functions: the resolved code, its evaluation, contracts. Conditions: none (generic in the program).
-/
import Derived.Test.YtncjalhhkmojlaaDraw
namespace Go.TQ
open Go.RowKit

def ccode (P : Program) (nt : Nat) (hs : List Nat) : Code → Option SC
  | .skip => some .skip
  | .region _ ops false =>
    match ops.toList.mapM (cog P hs ops) with
    | some gs => if ops.toList.all (fun o => match o.dst with | some t => decide (t < nt) | none => true) then some (.reg gs) else none
    | none => none
  | .region _ ops true =>
    match ops.toList.mapM (cog P hs ops) with
    | some gs =>
      if ops.toList.all (fun o => match o.dst with | some t => decide (t < nt) | none => true) && P.follows .mixedOrders then
        match cdraw ops.toList gs with
        | some un => some (.drw un gs)
        | none => none
      else none
    | none => none
  | .seq x y =>
    match ccode P nt hs x, ccode P nt hs y with
    | some x', some y' => some (.seq x' y')
    | _, _ => none
  | .cond c x y =>
    match copd c, ccode P nt hs x, ccode P nt hs y with
    | some c', some x', some y' => some (.cond c' x' y')
    | _, _, _ => none
  | .block id c => (ccode P nt hs c).map (.block id)
  | .loop c => (ccode P nt hs c).map .loop
  | .exit id => some (.exit id)
  | .ret => some .ret
  | _ => none

section
variable {P : Program} {S : St} {Γ : Tab} {nt : Nat} {Q : Exit → St → Prop}

/-- what holds of every code that resolves so -/
def VS (P : Program) (nt : Nat) (sc : SC) (Q : Exit → St → Prop) (S : St) : Prop := ∀ c hs, ccode P nt hs c = some sc → V P nt c Q S

theorem VS.mono {sc : SC} {Q' : Exit → St → Prop} (h : VS P nt sc Q S) (hq : ∀ e S, Q e S → Q' e S) : VS P nt sc Q' S := fun c hs hc => (h c hs hc).mono hq

theorem dst_lt {ops : Array Oper} (h : ops.toList.all (fun o => match o.dst with | some t => decide (t < nt) | none => true) = true) : ∀ o ∈ ops.toList, ∀ t, o.dst = some t → t < nt := by
  intro o ho t ht
  have := List.all_eq_true.1 h o ho
  rw [ht] at this
  simpa using this

theorem VS_skip (h : Q .normal S) : VS P nt .skip Q S := by
  intro c hs hc
  cases c with
  | skip => exact V_skip h
  | region id ops d => cases d <;> simp only [ccode] at hc <;> (try split at hc) <;> (try split at hc) <;> (try split at hc) <;> cases hc
  | seq x y => simp only [ccode] at hc; split at hc <;> cases hc
  | cond c x y => simp only [ccode] at hc; split at hc <;> cases hc
  | block id c => simp only [ccode, Option.map_eq_some_iff] at hc; obtain ⟨_, _, hc⟩ := hc; cases hc
  | loop c => simp only [ccode, Option.map_eq_some_iff] at hc; obtain ⟨_, _, hc⟩ := hc; cases hc
  | _ => simp only [ccode] at hc <;> cases hc
theorem VS_exit {id : Nat} (h : Q (.exit id) S) : VS P nt (.exit id) Q S := by
  intro c hs hc
  cases c with
  | exit j => simp only [ccode, Option.some.injEq, SC.exit.injEq] at hc; subst hc; exact V_exit h
  | region id ops d => cases d <;> simp only [ccode] at hc <;> (try split at hc) <;> (try split at hc) <;> (try split at hc) <;> cases hc
  | seq x y => simp only [ccode] at hc; split at hc <;> cases hc
  | cond c x y => simp only [ccode] at hc; split at hc <;> cases hc
  | block id c => simp only [ccode, Option.map_eq_some_iff] at hc; obtain ⟨_, _, hc⟩ := hc; cases hc
  | loop c => simp only [ccode, Option.map_eq_some_iff] at hc; obtain ⟨_, _, hc⟩ := hc; cases hc
  | _ => simp only [ccode] at hc <;> cases hc
theorem VS_ret (h : Q .ret S) : VS P nt .ret Q S := by
  intro c hs hc
  cases c with
  | ret => exact V_ret h
  | region id ops d => cases d <;> simp only [ccode] at hc <;> (try split at hc) <;> (try split at hc) <;> (try split at hc) <;> cases hc
  | seq x y => simp only [ccode] at hc; split at hc <;> cases hc
  | cond c x y => simp only [ccode] at hc; split at hc <;> cases hc
  | block id c => simp only [ccode, Option.map_eq_some_iff] at hc; obtain ⟨_, _, hc⟩ := hc; cases hc
  | loop c => simp only [ccode, Option.map_eq_some_iff] at hc; obtain ⟨_, _, hc⟩ := hc; cases hc
  | _ => simp only [ccode] at hc <;> cases hc
theorem VS_seq {x y : SC} (h : VS P nt x (seqQ (VS P nt y Q) Q) S) : VS P nt (.seq x y) Q S := by
  intro c hs hc
  cases c with
  | seq p q =>
    simp only [ccode] at hc
    split at hc
    · rename_i x' y' hx hy
      injection hc with hc
      injection hc with h1 h2
      subst h1 h2
      refine V_seq ((h p hs hx).mono ?_)
      intro e S' hq
      cases e <;> first | exact hq q hs hy | exact hq
    · cases hc
  | region id ops d => cases d <;> simp only [ccode] at hc <;> (try split at hc) <;> (try split at hc) <;> (try split at hc) <;> cases hc
  | cond c x y => simp only [ccode] at hc; split at hc <;> cases hc
  | block id c => simp only [ccode, Option.map_eq_some_iff] at hc; obtain ⟨_, _, hc⟩ := hc; cases hc
  | loop c => simp only [ccode, Option.map_eq_some_iff] at hc; obtain ⟨_, _, hc⟩ := hc; cases hc
  | _ => simp only [ccode] at hc <;> cases hc
theorem VS_cond {c : Opd} {x y : SC} {b : Bool} (hb : c.val S = .bool b) (h : VS P nt (if b then x else y) Q S) : VS P nt (.cond c x y) Q S := by
  intro cc hs hc
  cases cc with
  | cond c0 p q =>
    simp only [ccode] at hc
    split at hc
    · rename_i c' x' y' hc' hx hy
      injection hc with hc
      injection hc with h1 h2 h3
      subst h1 h2 h3
      refine V_cond hc' hb ?_
      cases b
      · exact h q hs hy
      · exact h p hs hx
    · cases hc
  | region id ops d => cases d <;> simp only [ccode] at hc <;> (try split at hc) <;> (try split at hc) <;> (try split at hc) <;> cases hc
  | seq x y => simp only [ccode] at hc; split at hc <;> cases hc
  | block id c => simp only [ccode, Option.map_eq_some_iff] at hc; obtain ⟨_, _, hc⟩ := hc; cases hc
  | loop c => simp only [ccode, Option.map_eq_some_iff] at hc; obtain ⟨_, _, hc⟩ := hc; cases hc
  | _ => simp only [ccode] at hc <;> cases hc
theorem VS_condU {c : Opd} {x y : SC} (hb : c.val S = .ubool) (h1 : VS P nt x Q S) (h2 : VS P nt y Q S) : VS P nt (.cond c x y) Q S := by
  intro cc hs hc
  cases cc with
  | cond c0 p q =>
    simp only [ccode] at hc
    split at hc
    · rename_i c' x' y' hc' hx hy
      injection hc with hc
      injection hc with e1 e2 e3
      subst e1 e2 e3
      intro E hE a w L hr
      have hv := hr.opd hc'
      rw [hb] at hv
      generalize hu : a.eval c0 = u at hv
      cases hv with
      | ubool b =>
        refine wp_cond hu ?_
        cases b
        · exact h2 q hs hy E hE a w L hr
        · exact h1 p hs hx E hE a w L hr
    · cases hc
  | region id ops d => cases d <;> simp only [ccode] at hc <;> (try split at hc) <;> (try split at hc) <;> (try split at hc) <;> cases hc
  | seq x y => simp only [ccode] at hc; split at hc <;> cases hc
  | block id c => simp only [ccode, Option.map_eq_some_iff] at hc; obtain ⟨_, _, hc⟩ := hc; cases hc
  | loop c => simp only [ccode, Option.map_eq_some_iff] at hc; obtain ⟨_, _, hc⟩ := hc; cases hc
  | _ => simp only [ccode] at hc <;> cases hc
theorem VS_block {id : Nat} {x : SC} (h : VS P nt x (blockQ id Q) S) : VS P nt (.block id x) Q S := by
  intro c hs hc
  cases c with
  | block j p =>
    simp only [ccode, Option.map_eq_some_iff] at hc
    obtain ⟨x', hx, hc⟩ := hc
    injection hc with h1 h2
    subst h1 h2
    exact V_block (h p hs hx)
  | region id ops d => cases d <;> simp only [ccode] at hc <;> (try split at hc) <;> (try split at hc) <;> (try split at hc) <;> cases hc
  | seq x y => simp only [ccode] at hc; split at hc <;> cases hc
  | cond c x y => simp only [ccode] at hc; split at hc <;> cases hc
  | loop c => simp only [ccode, Option.map_eq_some_iff] at hc; obtain ⟨_, _, hc⟩ := hc; cases hc
  | _ => simp only [ccode] at hc <;> cases hc
theorem VS_loop {x : SC} (ts : List Nat) (n : Nat) (I : Nat → St → Prop) (m0 : Nat) (hok : CutOk S ts n) (h0 : I m0 (S.cut ts n))
    (hr : ∀ m S, I m S → S.N = n → (∀ id, n ≤ id → S.H id = ⟨0, .dead⟩) → (∀ id, id < n → (S.H id).c.under n = true) → VS P nt x (loopQ ts n I m Q) S) : VS P nt (.loop x) Q S := by
  intro c hs hc
  cases c with
  | loop p =>
    simp only [ccode, Option.map_eq_some_iff] at hc
    obtain ⟨x', hx, hc⟩ := hc
    injection hc with h1
    subst h1
    exact V_loop ts n I m0 hok h0 (fun m S hI hN hf hU => hr m S hI hN hf hU p hs hx)
  | region id ops d => cases d <;> simp only [ccode] at hc <;> (try split at hc) <;> (try split at hc) <;> (try split at hc) <;> cases hc
  | seq x y => simp only [ccode] at hc; split at hc <;> cases hc
  | cond c x y => simp only [ccode] at hc; split at hc <;> cases hc
  | block id c => simp only [ccode, Option.map_eq_some_iff] at hc; obtain ⟨_, _, hc⟩ := hc; cases hc
  | _ => simp only [ccode] at hc <;> cases hc
theorem VS_reg (hΓ : TabOk P Γ) {gs : List SG} {S' : St} (hr : runG Γ S.N gs { S with N := S.N + gs.length } = some S') (h : Q .normal S') : VS P nt (.reg gs) Q S := by
  intro c hs hc
  cases c with
  | region id ops d =>
    cases d with
    | true => simp only [ccode] at hc; (try split at hc) <;> (try split at hc) <;> (try split at hc) <;> cases hc
    | false =>
      simp only [ccode] at hc
      split at hc
      · rename_i gs' hgs
        split at hc
        · rename_i hd
          injection hc with hc
          injection hc with hc
          subst hc
          exact V_reg hΓ hgs (dst_lt hd) hr h
        · cases hc
      · cases hc
  | seq x y => simp only [ccode] at hc; split at hc <;> cases hc
  | cond c x y => simp only [ccode] at hc; split at hc <;> cases hc
  | block id c => simp only [ccode, Option.map_eq_some_iff] at hc; obtain ⟨_, _, hc⟩ := hc; cases hc
  | loop c => simp only [ccode, Option.map_eq_some_iff] at hc; obtain ⟨_, _, hc⟩ := hc; cases hc
  | _ => simp only [ccode] at hc <;> cases hc
theorem VS_drw {Γs : Nat → Tab} (hΓ : ∀ i, TabOk P (Γs i)) {un : List (Nat × Nat)} {gs : List SG} {S' : St} (hr : runD Γs S.N un gs { S with N := S.N + gs.length } = some S') (h : Q .normal S') : VS P nt (.drw un gs) Q S := by
  intro c hs hc
  cases c with
  | region id ops d =>
    cases d with
    | false => simp only [ccode] at hc; (try split at hc) <;> (try split at hc) <;> (try split at hc) <;> cases hc
    | true =>
      simp only [ccode] at hc
      split at hc
      · rename_i gs' hgs
        split at hc
        · rename_i hd
          split at hc
          · rename_i un' hun
            injection hc with hc
            injection hc with h1 h2
            subst h1 h2
            rw [Bool.and_eq_true] at hd
            exact V_drw hΓ hd.2 hgs (dst_lt hd.1) hun hr h
          · cases hc
        · cases hc
      · cases hc
  | seq x y => simp only [ccode] at hc; split at hc <;> cases hc
  | cond c x y => simp only [ccode] at hc; split at hc <;> cases hc
  | block id c => simp only [ccode, Option.map_eq_some_iff] at hc; obtain ⟨_, _, hc⟩ := hc; cases hc
  | loop c => simp only [ccode, Option.map_eq_some_iff] at hc; obtain ⟨_, _, hc⟩ := hc; cases hc
  | _ => simp only [ccode] at hc <;> cases hc
theorem VS_cut {sc : SC} (ts : List Nat) (n : Nat) (hok : CutOk S ts n) (h : VS P nt sc Q (S.cut ts n)) : VS P nt sc Q S := fun c hs hc => V_cut ts n hok (h c hs hc)

/-- the condition under which code without loops runs, worked out -/
def ev (P : Program) (nt : Nat) (Γ : Tab) : SC → (Exit → St → Prop) → St → Prop
  | .skip, Q, S => Q .normal S
  | .reg gs, Q, S => match runG Γ S.N gs { S with N := S.N + gs.length } with | some S' => Q .normal S' | none => False
  | .drw un gs, Q, S => match runD (fun _ => Γ) S.N un gs { S with N := S.N + gs.length } with | some S' => Q .normal S' | none => False
  | .seq x y, Q, S => ev P nt Γ x (seqQ (ev P nt Γ y Q) Q) S
  | .cond c x y, Q, S => match c.val S with | .bool b => (b = true → ev P nt Γ x Q S) ∧ (b = false → ev P nt Γ y Q S) | .ubool => ev P nt Γ x Q S ∧ ev P nt Γ y Q S | _ => False
  | .block id c, Q, S => ev P nt Γ c (blockQ id Q) S
  | .loop c, Q, S => VS P nt (.loop c) Q S
  | .exit id, Q, S => Q (.exit id) S
  | .ret, Q, S => Q .ret S

theorem ev_sound (hΓ : TabOk P Γ) : ∀ (sc : SC) (Q : Exit → St → Prop) (S : St), ev P nt Γ sc Q S → VS P nt sc Q S
  | .skip, Q, S, h => VS_skip h
  | .reg gs, Q, S, h => by
    simp only [ev] at h
    split at h
    · rename_i S' hr; exact VS_reg hΓ hr h
    · exact h.elim
  | .drw un gs, Q, S, h => by
    simp only [ev] at h
    split at h
    · rename_i S' hr; exact VS_drw (fun _ => hΓ) hr h
    · exact h.elim
  | .seq x y, Q, S, h => VS_seq ((ev_sound hΓ x _ S h).mono fun e S' hq => by cases e <;> first | exact ev_sound hΓ y Q S' hq | exact hq)
  | .cond c x y, Q, S, h => by
    simp only [ev] at h
    split at h
    · rename_i b hb
      refine VS_cond hb ?_
      cases b
      · exact ev_sound hΓ y Q S (h.2 rfl)
      · exact ev_sound hΓ x Q S (h.1 rfl)
    · rename_i hb
      exact VS_condU hb (ev_sound hΓ x Q S h.1) (ev_sound hΓ y Q S h.2)
    · exact h.elim
  | .block id c, Q, S, h => VS_block (ev_sound hΓ c _ S h)
  | .loop c, Q, S, h => h
  | .exit id, Q, S, h => VS_exit h
  | .ret, Q, S, h => VS_ret h

/-! ### functions -/
inductive RV where
  | tmp (t : Nat)
  | cell (t : Nat) (n : Option Nat)
def cres (P : Program) : List ResultVar → Option (List RV)
  | [] => some []
  | .tmp t :: rs => (cres P rs).map (.tmp t :: ·)
  | .cell t ty :: rs => match aggN P ty, cres P rs with
    | some n, some rs' => some (.cell t n :: rs')
    | _, _ => none
def res1 (S : St) : RV → Option PV
  | .tmp t => some (S.env t)
  | .cell t n => match S.env t with
    | .ptr id ver off => if (S.H id).ver = ver then (match (S.H id).c with | .box cs => ldn n (cs.drop off) | _ => none) else none
    | _ => none
def resL (S : St) : List RV → Option (List PV)
  | [] => some []
  | r :: rs => match res1 S r, resL S rs with
    | some x, some xs => some (x :: xs)
    | _, _ => none
def resPV (S : St) (rs : List RV) : Option PV :=
  match resL S rs with
  | some [x] => some x
  | some xs => some (.tup xs)
  | none => none

def St0 (recv : Bool) (cs args : List PV) : St :=
  { env := fun t => (((if recv then [.ptr 0 0 0] else []) ++ args)[t]?).getD .undef
    H := fun id => if recv = true ∧ id = 0 then ⟨0, .box cs⟩ else ⟨0, .dead⟩
    N := if recv then 1 else 0 }

/-- what a return must show -/
def retOk (rs : List RV) (recv : Bool) (R : PV → List PV → Prop) (S : St) : Prop :=
  match resPV S rs with
  | some x => match recv with
    | true => match S.H 0 with
      | ⟨0, .box cs'⟩ => cs'.all PV.closed = true ∧ R (fz S.H (some 0) 9 x) cs'
      | _ => False
    | false => R (fz S.H none 9 x) []
  | none => False
def retQ (rs : List RV) (recv : Bool) (R : PV → List PV → Prop) : Exit → St → Prop
  | .ret, S => retOk rs recv R S
  | .normal, S => retOk rs recv R S
  | _, _ => False

theorem results_one {E : En} {a : Act} {w : World} {L : Nat → Value} (h : Rel E S a w L) {rv : ResultVar} {r : RV} {x : PV} (hc : cres P [rv] = some [r]) (hx : res1 S r = some x) :
    ∃ v, (match rv with | .tmp t => pure (a.tmps.getD t undef) | .cell ad t => do loadVar t (← asAddr (a.tmps.getD ad undef)) : Sem Value).run P w = .ok v w ∧ Rep w (mutb E S L) (S.gh L) x v := by
  cases rv with
  | tmp t =>
    simp only [cres, Option.map_some, Option.some.injEq, List.cons.injEq, and_true] at hc
    subst hc
    simp only [res1, Option.some.injEq] at hx
    subst hx
    exact ⟨_, rfl, h.env t⟩
  | cell t ty =>
    simp only [cres] at hc
    split at hc
    · rename_i n rs' hn hrs
      injection hc with hc
      injection hc with h1 h2
      subst h1 h2
      simp only [res1] at hx
      split at hx
      · rename_i id ver off e
        split at hx
        · rename_i hver
          split at hx
          · rename_i cs hcc
            have r := h.env t
            rw [e] at r
            obtain ⟨hN, _⟩ := r.ptr_inv (show (S.gh L).V id = ver from hver)
            obtain ⟨b, hv, hL⟩ := h.ptr_some r hver hcc
            obtain ⟨b', cur, T, hL', hh, hr, _⟩ := h.box_at hN hcc
            rw [hL] at hL'
            simp only [Value.pointer.injEq, Option.some.injEq, Addr.mk.injEq] at hL'
            obtain ⟨rfl, _⟩ := hL'
            obtain ⟨v, hrun, hx'⟩ := load_of (P := P) (ad := ⟨b, off, none⟩) hn (hr.drop off) (fun i u hu => by rw [add_mid]; exact cell_block hh (getElem?_drop_some hu)) hx
            exact ⟨v, by simp [hv, asAddr, hrun], hx'⟩
          · cases hx
        · cases hx
      · cases hx
    · cases hc
theorem results_list {E : En} {a : Act} {w : World} {L : Nat → Value} (h : Rel E S a w L) : ∀ (rvs : List ResultVar) (rs : List RV) (xs : List PV), cres P rvs = some rs → resL S rs = some xs →
    ∃ vs, (rvs.mapM fun | .tmp t => pure (a.tmps.getD t undef) | .cell ad t => do loadVar t (← asAddr (a.tmps.getD ad undef)) : Sem (List Value)).run P w = .ok vs w ∧ RepL w (mutb E S L) (S.gh L) xs vs
  | [], rs, xs, hc, hx => by
    simp only [cres, Option.some.injEq] at hc
    subst hc
    simp only [resL, Option.some.injEq] at hx
    subst hx
    exact ⟨[], by simp, .nil⟩
  | rv :: rvs, rs, xs, hc, hx => by
    have hsp : ∃ r rs', rs = r :: rs' ∧ cres P [rv] = some [r] ∧ cres P rvs = some rs' := by
      cases rv with
      | tmp t =>
        simp only [cres, Option.map_eq_some_iff] at hc
        obtain ⟨rs', h1, rfl⟩ := hc
        exact ⟨_, rs', rfl, rfl, h1⟩
      | cell t ty =>
        simp only [cres] at hc
        split at hc
        · rename_i n rs' hn hrs
          injection hc with hc
          subst hc
          exact ⟨_, rs', rfl, by simp [cres, hn], hrs⟩
        · cases hc
    obtain ⟨r, rs', rfl, h1, h2⟩ := hsp
    simp only [resL] at hx
    split at hx
    · rename_i x xs' hx1 hx2
      injection hx with hx
      subst hx
      obtain ⟨v, hv, hr⟩ := results_one h h1 hx1
      obtain ⟨vs, hvs, hrs⟩ := results_list h rvs rs' xs' h2 hx2
      refine ⟨v :: vs, ?_, .cons hr hrs⟩
      simp only [List.mapM_cons, Sem.run_bind]
      erw [hv]
      simp only [Result.andThen_ok]
      erw [hvs]
      rfl
    · cases hx
theorem results_run {E : En} {a : Act} {w : World} {L : Nat → Value} (h : Rel E S a w L) {fn : Func} {rs : List RV} {x : PV} (hc : cres P fn.results.toList = some rs) (hx : resPV S rs = some x) :
    ∃ v, (results fn a.tmps).run P w = .ok v w ∧ Rep w (mutb E S L) (S.gh L) x v := by
  unfold resPV at hx
  cases hl : resL S rs with
  | none => rw [hl] at hx; cases hx
  | some xs =>
    rw [hl] at hx
    obtain ⟨vs, hvs, hr⟩ := results_list h _ _ _ hc hl
    have hrun : (results fn a.tmps).run P w = .ok (if h : vs.toArray.size = 1 then vs.toArray[0] else .tuple vs.toArray) w := by
      unfold results
      rw [Array.mapM_eq_mapM_toList]
      simp only [Sem.run_bind, map_eq_pure_bind]
      erw [hvs]
      rfl
    refine ⟨_, hrun, ?_⟩
    match xs, vs, hr, hx with
    | [], vs, hr, hx =>
      injection hx with hx
      subst hx
      have := hr.nil_inv
      subst this
      exact .tup _ _ hr.1 hr.2
    | [y], vs, hr, hx =>
      injection hx with hx
      subst hx
      obtain ⟨v, vs', rfl, h1, h2⟩ := hr.cons_inv
      have := h2.nil_inv
      subst this
      exact h1
    | y :: z :: ys, vs, hr, hx =>
      injection hx with hx
      subst hx
      obtain ⟨v, vs', rfl, h1, h2⟩ := hr.cons_inv
      obtain ⟨u, us, rfl, h3, h4⟩ := h2.cons_inv
      rw [dif_neg (by simp)]
      exact .tup _ _ hr.1 hr.2

theorem con_intro {f : FuncId} {fn : Func} {c : Code} {sc : SC} {rs : List RV} {recv : Bool} {cs args cs' : List PV} {r : PV} (hf : P.funcs[f]? = some fn) (hb : fn.body = some c) {hs : List Nat} (hc : ccode P fn.ntmps hs c = some sc) (hrs : cres P fn.results.toList = some rs)
    (hlen : (if recv then 1 else 0) + args.length ≤ fn.ntmps) (h : VS P fn.ntmps sc (retQ rs recv fun r' cs'' => r' = r ∧ (recv = true → cs'' = cs')) (St0 recv cs args)) : Con P f recv cs args r cs' := by
  intro w X hX rb T rvs vs hrecv hargs
  let E : En := { w0 := w, rb := if recv then some rb else none, nt := fn.ntmps, X := X, hX := hX }
  let L : Nat → Value := fun _ => .pointer (some ⟨rb, 0, none⟩)
  have hvl : vs.length = args.length := hargs.1
  have hm : ∀ b, mutb E (St0 recv cs args) L b → Mc recv rb X b := by
    rintro b (⟨id, hid, hl, hb⟩ | hb)
    · simp only [St0] at hid hl
      cases recv with
      | false => simp at hid
      | true =>
        simp only [L, blk, Option.some.injEq] at hb
        exact .inl ⟨rfl, hb.symm⟩
    · exact .inr hb
  have hm' : ∀ b, Mc recv rb X b → mutb E (St0 recv cs args) L b := by
    rintro b (⟨h1, h2⟩ | hb)
    · subst h2
      exact .inl ⟨0, by simp [St0, h1], by simp [St0, h1, Cont.live], rfl⟩
    · exact .inr hb
  have hst : Stays w w (Mc recv rb X) (mutb E (St0 recv cs args) L) := fun p u hp hn => ⟨hp, fun h' => hn (hm _ h')⟩
  -- the first state
  have hrel : Rel E (St0 recv cs args) { tmps := (recvL recv rb ++ vs).toArray ++ Array.replicate (fn.ntmps - (recvL recv rb ++ vs).toArray.size) undef, defers := [] } w L := by
    refine ⟨rfl, ?_, fun t => ?_, fun id hid => ?_, fun i j b hi hj _ _ _ _ => ?_, fun id hid => ?_, Fr.refl _ _, fun b hb _ _ => ?_⟩
    · cases recv <;> simp [recvL, E] at hlen ⊢ <;> omega
    · have hget : (((recvL recv rb ++ vs).toArray ++ Array.replicate (fn.ntmps - (recvL recv rb ++ vs).toArray.size) undef).getD t undef) = ((recvL recv rb ++ vs)[t]?).getD undef := by
        rw [Array.getD_eq_getD_getElem?, Array.getElem?_append]
        by_cases ht : t < (recvL recv rb ++ vs).toArray.size
        · rw [if_pos ht]; simp
        · rw [if_neg ht, Array.getElem?_replicate]
          have hn : (recvL recv rb ++ vs)[t]? = none := List.getElem?_eq_none (by simpa using ht)
          rw [hn]
          split <;> rfl
      simp only
      rw [hget]
      have hall : RepL w (mutb E (St0 recv cs args) L) ((St0 recv cs args).gh L) ((if recv then [.ptr 0 0 0] else []) ++ args) (recvL recv rb ++ vs) := by
        have ha := hargs.mono hst (Gh0.le ((St0 recv cs args).gh L))
        cases recv with
        | false => simpa [recvL] using ha
        | true =>
          simp only [recvL, if_true, List.cons_append, List.nil_append]
          refine .cons (.ptr _ _ _ _ (by simp [St.gh, St0]) (Nat.zero_le _) (fun _ => by simp [St.gh, L, blk])) ha
      show Rep w _ _ (((((if recv then [.ptr 0 0 0] else []) ++ args : List PV))[t]?).getD .undef) _
      cases hx : (((if recv then [.ptr 0 0 0] else []) ++ args : List PV))[t]? with
      | none =>
        have : (recvL recv rb ++ vs)[t]? = none := by
          rw [List.getElem?_eq_none_iff] at hx ⊢
          rw [hall.1]
          exact hx
        rw [this]
        exact .undef
      | some x =>
        obtain ⟨v, hv, hr⟩ := hall.get hx
        rw [hv]
        exact hr
    · cases recv with
      | false => simp [St0] at hid
      | true =>
        simp [St0] at hid
        subst hid
        obtain ⟨h1, h2⟩ := hrecv rfl
        have e : ((St0 true cs args).H 0).c = .box cs := by simp [St0]
        rw [e]
        exact ⟨rb, rvs.toArray, T, rfl, h1, .inl (by simp [E]), by simpa using h2.mono hst (Gh0.le ((St0 true cs args).gh L))⟩
    · cases recv with
      | false => simp [St0] at hi
      | true => simp [St0] at hi hj; omega
    · cases recv with
      | false => simp [St0]
      | true => simp [St0] at hid ⊢; omega
    · cases recv with
      | false => simp [E] at hb
      | true => simp [E] at hb; subst hb; rfl
  refine calls_of_wp hf hb ?_
  refine wp_mono (h c hs hc E rfl _ w L hrel) ?_
  -- the end
  have fin : ∀ (S' : St) (L' : Nat → Value) (a' : Act) (w' : World), Rel E S' a' w' L' → retOk rs recv (fun r' cs'' => r' = r ∧ (recv = true → cs'' = cs')) S' →
      a'.defers = [] ∧ ∃ v, (results fn a'.tmps).run P w' = .ok v w' ∧ ConPost recv rb X w r cs' (.returned v) w' := by
    intro S' L' a' w' h' hret
    unfold retOk at hret
    split at hret
    · rename_i x hx
      obtain ⟨v, hv, hrep⟩ := results_run h' hrs hx
      refine ⟨h'.defers, v, hv, ?_⟩
      cases recv with
      | false =>
        simp only [Bool.false_eq_true, false_implies, and_true] at hret
        subst hret
        refine ⟨v, [], rfl, ?_, (fun hq => by cases hq), h'.fr⟩
        refine h'.fz (fun b hb => ?_) (fun id b hid hl _ hb hq => ?_) 9 hrep
        · rcases hb with ⟨hb, _⟩ | hb
          · cases hb
          · exact .inr hb
        · rcases hq with ⟨hq, _⟩ | hq
          · cases hq
          · rcases ((h'.obj id hid).blk_ok hl hb).2 with h1 | h1
            · simp [E] at h1
            · have := hX b hq
              simp only [E] at h1
              omega
      | true =>
        simp only at hret
        split at hret
        · rename_i cs'' hH
          obtain ⟨hcl, rfl, hcs⟩ := hret
          have hcs := hcs trivial
          subst hcs
          have hN0 : 0 < S'.N := by
            rcases Nat.eq_zero_or_pos S'.N with h0 | h0
            · have := h'.fresh 0 (by omega)
              rw [hH] at this
              cases this
            · exact h0
          have hL0 := h'.rcv rb (by simp [E]) (by rw [hH]; rfl) (by rw [hH])
          obtain ⟨b, cur, T', hL', hh, hr, _⟩ := h'.box_at hN0 (show (S'.H 0).c = .box cs'' by rw [hH])
          rw [hL0] at hL'
          simp only [Value.pointer.injEq, Option.some.injEq, Addr.mk.injEq] at hL'
          obtain ⟨rfl, _⟩ := hL'
          have hsub : ∀ q, Mc true rb X q → mutb E S' L' q := by
            rintro q (⟨_, rfl⟩ | hq)
            · exact .inl ⟨0, hN0, by rw [hH]; rfl, by rw [hL0]; rfl⟩
            · exact .inr hq
          refine ⟨v, cur.toList, rfl, ?_, fun _ => ⟨?_, hr.closed hcl hsub⟩, h'.fr⟩
          · refine h'.fz hsub (fun id b hid hl hne hb hq => ?_) 9 hrep
            have hnb : b ≠ rb := fun e => hne (by rw [h'.apart id 0 b hid hN0 hl (by rw [hH]; rfl) hb (by rw [hL0, e]; rfl)])
            rcases hq with ⟨_, hq⟩ | hq
            · exact hnb hq
            · rcases ((h'.obj id hid).blk_ok hl hb).2 with h1 | h1
              · simp only [E, if_true, Option.some.injEq] at h1
                exact hnb h1.symm
              · have := hX b hq
                simp only [E] at h1
                omega
          · exact ⟨T', by simpa using hh⟩
        · exact hret.elim
    · exact hret.elim
  rintro e a' w' ⟨S', L', h1, h2⟩
  cases e with
  | normal => exact fin S' L' a' w' h1 h2
  | ret => exact fin S' L' a' w' h1 h2
  | exit i => exact h2.elim
  | goto l => exact h2.elim
  | panic c => exact h2.elim
  | outgrown => exact h2.elim


/-- a function that hands back a new object -/
def newQ (rs : List RV) (R : List PV → Prop) : Exit → St → Prop
  | .ret, S => match resPV S rs with
    | some (.ptr id ver 0) => if (S.H id).ver = ver then (match (S.H id).c with | .box cs => cs.all PV.closed = true ∧ R cs | _ => False) else False
    | _ => False
  | _, _ => False

theorem con_new {f : FuncId} {fn : Func} {c : Code} {sc : SC} {rs : List RV} {args cs : List PV} (hf : P.funcs[f]? = some fn) (hb : fn.body = some c) {hs : List Nat} (hc : ccode P fn.ntmps hs c = some sc) (hrs : cres P fn.results.toList = some rs)
    (hlen : args.length ≤ fn.ntmps) (h : VS P fn.ntmps sc (newQ rs fun cs' => cs' = cs) (St0 false [] args)) : ConN P f args cs := by
  intro w X hX vs hargs
  let E : En := { w0 := w, rb := none, nt := fn.ntmps, X := X, hX := hX }
  let L : Nat → Value := fun _ => .pointer none
  have hst : Stays w w X (mutb E (St0 false [] args) L) := fun p u hp hn => ⟨hp, fun h' => hn (by
    rcases h' with ⟨id, hid, _⟩ | h'
    · simp [St0] at hid
    · exact h')⟩
  have hvl : vs.length = args.length := hargs.1
  have hrel : Rel E (St0 false [] args) { tmps := vs.toArray ++ Array.replicate (fn.ntmps - vs.toArray.size) undef, defers := [] } w L := by
    refine ⟨rfl, ?_, fun t => ?_, fun id hid => ?_, fun i j b hi hj _ _ _ _ => ?_, fun id hid => ?_, Fr.refl _ _, fun b hb _ _ => ?_⟩
    · simp [E]; omega
    · have hget : ((vs.toArray ++ Array.replicate (fn.ntmps - vs.toArray.size) undef).getD t undef) = (vs[t]?).getD undef := by
        rw [Array.getD_eq_getD_getElem?, Array.getElem?_append]
        by_cases ht : t < vs.toArray.size
        · rw [if_pos ht]; simp
        · rw [if_neg ht, Array.getElem?_replicate]
          have hn : vs[t]? = none := List.getElem?_eq_none (by simpa using ht)
          rw [hn]
          split <;> rfl
      simp only
      rw [hget]
      have ha := hargs.mono hst (Gh0.le ((St0 false [] args).gh L))
      show Rep w _ _ ((([] ++ args : List PV)[t]?).getD .undef) _
      rw [List.nil_append]
      cases hx : args[t]? with
      | none =>
        have : vs[t]? = none := by
          rw [List.getElem?_eq_none_iff] at hx ⊢
          omega
        rw [this]
        exact .undef
      | some x =>
        obtain ⟨v, hv, hr⟩ := ha.get hx
        rw [hv]
        exact hr
    · simp [St0] at hid
    · simp [St0] at hi
    · simp [St0]
    · simp [E] at hb
  refine calls_of_wp hf hb ?_
  refine wp_mono (h c hs hc E rfl _ w L hrel) ?_
  rintro e a' w' ⟨S', L', h', hq⟩
  cases e with
  | ret =>
    simp only [newQ] at hq
    split at hq
    · rename_i id ver hx
      split at hq
      · rename_i hver
        split at hq
        · rename_i cs' hcc
          obtain ⟨hcl, rfl⟩ := hq
          obtain ⟨v, hv, hrep⟩ := results_run h' hrs hx
          obtain ⟨hN, _⟩ := hrep.ptr_inv (show (S'.gh L').V id = ver from hver)
          obtain ⟨b, hvb, hL⟩ := h'.ptr_some hrep hver hcc
          obtain ⟨b', cur, T, hL', hh, hr, hE⟩ := h'.box_at hN hcc
          rw [hL] at hL'
          simp only [Value.pointer.injEq, Option.some.injEq, Addr.mk.injEq] at hL'
          obtain ⟨rfl, _⟩ := hL'
          refine ⟨h'.defers, v, hv, b, cur.toList, T, by rw [hvb], ?_, by simpa using hh, ?_, h'.fr⟩
          · rcases hE with h1 | h1
            · simp [E] at h1
            · exact h1
          · refine hr.closed hcl ?_
            rintro q (hq | rfl)
            · exact .inr hq
            · exact .inl ⟨id, hN, by rw [hcc]; rfl, by rw [hL]; rfl⟩
        · exact hq.elim
      · exact hq.elim
    · exact hq.elim
  | normal => exact hq.elim
  | exit i => exact hq.elim
  | goto l => exact hq.elim
  | panic c => exact hq.elim
  | outgrown => exact hq.elim

/-- a function of the program, resolved -/
def FnOk (P : Program) (f : FuncId) (nt : Nat) (sc : SC) (rs : List RV) : Prop :=
  ∃ fn hs, P.funcs[f]? = some fn ∧ fn.ntmps = nt ∧ (fn.body.bind (ccode P nt hs)) = some sc ∧ cres P fn.results.toList = some rs ∧ (fn.name == "runtime.NumGoroutine") = false

theorem FnOk.enters {f : FuncId} {sc : SC} {rs : List RV} (h : FnOk P f nt sc rs) : Enters P f := by
  obtain ⟨fn, hs, h1, _, h3, _, h5⟩ := h
  refine ⟨fn, h1, ?_, h5⟩
  cases hb : fn.body with
  | none => rw [hb] at h3; cases h3
  | some c => rfl

theorem FnOk.con {f : FuncId} {sc : SC} {rs : List RV} (h : FnOk P f nt sc rs) {recv : Bool} {cs args cs' : List PV} {r : PV} (hlen : (if recv then 1 else 0) + args.length ≤ nt)
    (hv : VS P nt sc (retQ rs recv fun r' cs'' => r' = r ∧ (recv = true → cs'' = cs')) (St0 recv cs args)) : Con P f recv cs args r cs' := by
  obtain ⟨fn, hs, h1, rfl, h3, h4, _⟩ := h
  cases hb : fn.body with
  | none => rw [hb] at h3; cases h3
  | some c =>
    rw [hb] at h3
    exact con_intro h1 hb h3 h4 hlen hv

theorem FnOk.conN {f : FuncId} {sc : SC} {rs : List RV} (h : FnOk P f nt sc rs) {args cs : List PV} (hlen : args.length ≤ nt)
    (hv : VS P nt sc (newQ rs fun cs' => cs' = cs) (St0 false [] args)) : ConN P f args cs := by
  obtain ⟨fn, hs, h1, rfl, h3, h4, _⟩ := h
  cases hb : fn.body with
  | none => rw [hb] at h3; cases h3
  | some c =>
    rw [hb] at h3
    exact con_new h1 hb h3 h4 hlen hv

/-- a table out of a list of models that are right -/
def tab : List (FuncId × Model) → Tab
  | [], _ => none
  | (g, m) :: l, f => if f = g then some m else tab l f
def AllM (P : Program) : List (FuncId × Model) → Prop
  | [] => True
  | (f, m) :: l => SoundM P f m ∧ AllM P l
theorem tab_ok : ∀ {l : List (FuncId × Model)}, AllM P l → TabOk P (tab l)
  | [], _, f, m, h => by simp [tab] at h
  | (g, m') :: l, hl, f, m, h => by
    simp only [tab] at h
    split at h
    · rename_i e
      subst e
      injection h with h
      subst h
      exact hl.1
    · exact tab_ok hl.2 f m h
end
end Go.TQ
