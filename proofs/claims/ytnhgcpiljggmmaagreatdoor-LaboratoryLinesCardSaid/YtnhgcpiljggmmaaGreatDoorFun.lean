/-
  Functions: the resolved code, its evaluation, contracts. Conditions: none (generic in the program).
-/
import Derived.Test.YtnhgcpiljggmmaaGreatDoorDraw
import Derived.RangeFuncRecord
namespace Go.TQ
open Go.RowKit

def ccode (P : Program) (nt : Nat) (hs : List Nat) : Code → Option SC
  | .skip => some .skip
  | .region _ ops false =>
    match ops.toList.mapM (cog P hs ops) with
    | some gs => if ops.toList.all (fun o => match o.dst with | some t => decide (t < nt) | none => true) then some (.reg gs) else none
    | none => none
  | .region _ ops true =>
    match ops.toList.mapM (cog P hs ops) with
    | some gs =>
      if ops.toList.all (fun o => match o.dst with | some t => decide (t < nt) | none => true) && P.follows .mixedOrders then
        match cdraw ops.toList gs with
        | some un => some (.drw un gs)
        | none => none
      else none
    | none => none
  | .seq x y =>
    match ccode P nt hs x, ccode P nt hs y with
    | some x', some y' => some (.seq x' y')
    | _, _ => none
  | .cond c x y =>
    match copd c, ccode P nt hs x, ccode P nt hs y with
    | some c', some x', some y' => some (.cond c' x' y')
    | _, _, _ => none
  | .block id c => (ccode P nt hs c).map (.block id)
  | .loop c => (ccode P nt hs c).map .loop
  | .exit id => some (.exit id)
  | .ret => some .ret
  | .rangeFunc g ps x y =>
    match copd g, ccode P nt hs x, ccode P nt hs y with
    | some g', some x', some y' => if noRf x && noRf y && ps.toList.all (fun t => decide (t < nt)) then some (.rfn g' ps.toList x' y') else none
    | _, _, _ => none
  | _ => none

section
variable {P : Program} {S : St} {Γ : Tab} {nt : Nat} {Q : Exit → St → Prop}

/-- what holds of every code that resolves so -/
def VS (P : Program) (nt : Nat) (sc : SC) (Q : Exit → St → Prop) (S : St) : Prop := ∀ c hs, ccode P nt hs c = some sc → V P nt c Q S

theorem VS.mono {sc : SC} {Q' : Exit → St → Prop} (h : VS P nt sc Q S) (hq : ∀ e S, Q e S → Q' e S) : VS P nt sc Q' S := fun c hs hc => (h c hs hc).mono hq

theorem dst_lt {ops : Array Oper} (h : ops.toList.all (fun o => match o.dst with | some t => decide (t < nt) | none => true) = true) : ∀ o ∈ ops.toList, ∀ t, o.dst = some t → t < nt := by
  intro o ho t ht
  have := List.all_eq_true.1 h o ho
  rw [ht] at this
  simpa using this

theorem VS_skip (h : Q .normal S) : VS P nt .skip Q S := by
  intro c hs hc
  cases c with
  | skip => exact V_skip h
  | region id ops d => cases d <;> simp only [ccode] at hc <;> (try split at hc) <;> (try split at hc) <;> (try split at hc) <;> cases hc
  | seq x y => simp only [ccode] at hc; split at hc <;> cases hc
  | cond c x y => simp only [ccode] at hc; split at hc <;> cases hc
  | block id c => simp only [ccode, Option.map_eq_some_iff] at hc; obtain ⟨_, _, hc⟩ := hc; cases hc
  | loop c => simp only [ccode, Option.map_eq_some_iff] at hc; obtain ⟨_, _, hc⟩ := hc; cases hc
  | rangeFunc g ps x y => simp only [ccode] at hc; split at hc <;> (try split at hc) <;> cases hc
  | _ => simp only [ccode] at hc <;> cases hc
theorem VS_exit {id : Nat} (h : Q (.exit id) S) : VS P nt (.exit id) Q S := by
  intro c hs hc
  cases c with
  | exit j => simp only [ccode, Option.some.injEq, SC.exit.injEq] at hc; subst hc; exact V_exit h
  | region id ops d => cases d <;> simp only [ccode] at hc <;> (try split at hc) <;> (try split at hc) <;> (try split at hc) <;> cases hc
  | seq x y => simp only [ccode] at hc; split at hc <;> cases hc
  | cond c x y => simp only [ccode] at hc; split at hc <;> cases hc
  | block id c => simp only [ccode, Option.map_eq_some_iff] at hc; obtain ⟨_, _, hc⟩ := hc; cases hc
  | loop c => simp only [ccode, Option.map_eq_some_iff] at hc; obtain ⟨_, _, hc⟩ := hc; cases hc
  | rangeFunc g ps x y => simp only [ccode] at hc; split at hc <;> (try split at hc) <;> cases hc
  | _ => simp only [ccode] at hc <;> cases hc
theorem VS_ret (h : Q .ret S) : VS P nt .ret Q S := by
  intro c hs hc
  cases c with
  | ret => exact V_ret h
  | region id ops d => cases d <;> simp only [ccode] at hc <;> (try split at hc) <;> (try split at hc) <;> (try split at hc) <;> cases hc
  | seq x y => simp only [ccode] at hc; split at hc <;> cases hc
  | cond c x y => simp only [ccode] at hc; split at hc <;> cases hc
  | block id c => simp only [ccode, Option.map_eq_some_iff] at hc; obtain ⟨_, _, hc⟩ := hc; cases hc
  | loop c => simp only [ccode, Option.map_eq_some_iff] at hc; obtain ⟨_, _, hc⟩ := hc; cases hc
  | rangeFunc g ps x y => simp only [ccode] at hc; split at hc <;> (try split at hc) <;> cases hc
  | _ => simp only [ccode] at hc <;> cases hc
theorem VS_seq {x y : SC} (h : VS P nt x (seqQ (VS P nt y Q) Q) S) : VS P nt (.seq x y) Q S := by
  intro c hs hc
  cases c with
  | seq p q =>
    simp only [ccode] at hc
    split at hc
    · rename_i x' y' hx hy
      injection hc with hc
      injection hc with h1 h2
      subst h1 h2
      refine V_seq ((h p hs hx).mono ?_)
      intro e S' hq
      cases e <;> first | exact hq q hs hy | exact hq
    · cases hc
  | region id ops d => cases d <;> simp only [ccode] at hc <;> (try split at hc) <;> (try split at hc) <;> (try split at hc) <;> cases hc
  | cond c x y => simp only [ccode] at hc; split at hc <;> cases hc
  | block id c => simp only [ccode, Option.map_eq_some_iff] at hc; obtain ⟨_, _, hc⟩ := hc; cases hc
  | loop c => simp only [ccode, Option.map_eq_some_iff] at hc; obtain ⟨_, _, hc⟩ := hc; cases hc
  | rangeFunc g ps x y => simp only [ccode] at hc; split at hc <;> (try split at hc) <;> cases hc
  | _ => simp only [ccode] at hc <;> cases hc
theorem VS_cond {c : Opd} {x y : SC} {b : Bool} (hb : c.val S = .bool b) (h : VS P nt (if b then x else y) Q S) : VS P nt (.cond c x y) Q S := by
  intro cc hs hc
  cases cc with
  | cond c0 p q =>
    simp only [ccode] at hc
    split at hc
    · rename_i c' x' y' hc' hx hy
      injection hc with hc
      injection hc with h1 h2 h3
      subst h1 h2 h3
      refine V_cond hc' hb ?_
      cases b
      · exact h q hs hy
      · exact h p hs hx
    · cases hc
  | region id ops d => cases d <;> simp only [ccode] at hc <;> (try split at hc) <;> (try split at hc) <;> (try split at hc) <;> cases hc
  | seq x y => simp only [ccode] at hc; split at hc <;> cases hc
  | block id c => simp only [ccode, Option.map_eq_some_iff] at hc; obtain ⟨_, _, hc⟩ := hc; cases hc
  | loop c => simp only [ccode, Option.map_eq_some_iff] at hc; obtain ⟨_, _, hc⟩ := hc; cases hc
  | rangeFunc g ps x y => simp only [ccode] at hc; split at hc <;> (try split at hc) <;> cases hc
  | _ => simp only [ccode] at hc <;> cases hc
theorem VS_condU {c : Opd} {x y : SC} (hb : c.val S = .ubool) (h1 : VS P nt x Q S) (h2 : VS P nt y Q S) : VS P nt (.cond c x y) Q S := by
  intro cc hs hc
  cases cc with
  | cond c0 p q =>
    simp only [ccode] at hc
    split at hc
    · rename_i c' x' y' hc' hx hy
      injection hc with hc
      injection hc with e1 e2 e3
      subst e1 e2 e3
      intro E hE hk a w L hr
      have hv := hr.opd hc'
      rw [hb] at hv
      generalize hu : a.eval c0 = u at hv
      cases hv with
      | ubool b =>
        refine wpIn_cond hu ?_
        cases b
        · exact h2 q hs hy E hE hk.condR a w L hr
        · exact h1 p hs hx E hE hk.condL a w L hr
    · cases hc
  | region id ops d => cases d <;> simp only [ccode] at hc <;> (try split at hc) <;> (try split at hc) <;> (try split at hc) <;> cases hc
  | seq x y => simp only [ccode] at hc; split at hc <;> cases hc
  | block id c => simp only [ccode, Option.map_eq_some_iff] at hc; obtain ⟨_, _, hc⟩ := hc; cases hc
  | loop c => simp only [ccode, Option.map_eq_some_iff] at hc; obtain ⟨_, _, hc⟩ := hc; cases hc
  | rangeFunc g ps x y => simp only [ccode] at hc; split at hc <;> (try split at hc) <;> cases hc
  | _ => simp only [ccode] at hc <;> cases hc
theorem VS_block {id : Nat} {x : SC} (h : VS P nt x (blockQ id Q) S) : VS P nt (.block id x) Q S := by
  intro c hs hc
  cases c with
  | block j p =>
    simp only [ccode, Option.map_eq_some_iff] at hc
    obtain ⟨x', hx, hc⟩ := hc
    injection hc with h1 h2
    subst h1 h2
    exact V_block (h p hs hx)
  | region id ops d => cases d <;> simp only [ccode] at hc <;> (try split at hc) <;> (try split at hc) <;> (try split at hc) <;> cases hc
  | seq x y => simp only [ccode] at hc; split at hc <;> cases hc
  | cond c x y => simp only [ccode] at hc; split at hc <;> cases hc
  | loop c => simp only [ccode, Option.map_eq_some_iff] at hc; obtain ⟨_, _, hc⟩ := hc; cases hc
  | rangeFunc g ps x y => simp only [ccode] at hc; split at hc <;> (try split at hc) <;> cases hc
  | _ => simp only [ccode] at hc <;> cases hc
theorem VS_drw {Γs : Nat → Tab} (hΓ : ∀ i, TabOk P (Γs i)) {un : List (Nat × Nat)} {gs : List SG} {S' : St} (hr : runD Γs S.N un gs { S with N := S.N + gs.length } = some S') (h : Q .normal S') : VS P nt (.drw un gs) Q S := by
  intro c hs hc
  cases c with
  | region id ops d =>
    cases d with
    | false => simp only [ccode] at hc; (try split at hc) <;> (try split at hc) <;> (try split at hc) <;> cases hc
    | true =>
      simp only [ccode] at hc
      split at hc
      · rename_i gs' hgs
        split at hc
        · rename_i hd
          split at hc
          · rename_i un' hun
            injection hc with hc
            injection hc with h1 h2
            subst h1 h2
            rw [Bool.and_eq_true] at hd
            exact V_drw hΓ hd.2 hgs (dst_lt hd.1) hun hr h
          · cases hc
        · cases hc
      · cases hc
  | seq x y => simp only [ccode] at hc; split at hc <;> cases hc
  | cond c x y => simp only [ccode] at hc; split at hc <;> cases hc
  | block id c => simp only [ccode, Option.map_eq_some_iff] at hc; obtain ⟨_, _, hc⟩ := hc; cases hc
  | loop c => simp only [ccode, Option.map_eq_some_iff] at hc; obtain ⟨_, _, hc⟩ := hc; cases hc
  | rangeFunc g ps x y => simp only [ccode] at hc; split at hc <;> (try split at hc) <;> cases hc
  | _ => simp only [ccode] at hc <;> cases hc
/-- the condition under which code without loops runs, worked out -/
def ev (P : Program) (nt : Nat) (Γ : Tab) : SC → (Exit → St → Prop) → St → Prop
  | .skip, Q, S => Q .normal S
  | .reg gs, Q, S => match runG Γ S.N gs { S with N := S.N + gs.length } with | some S' => Q .normal S' | none => False
  | .drw un gs, Q, S => match runD (fun _ => Γ) S.N un gs { S with N := S.N + gs.length } with | some S' => Q .normal S' | none => False
  | .seq x y, Q, S => ev P nt Γ x (seqQ (ev P nt Γ y Q) Q) S
  | .cond c x y, Q, S => match c.val S with | .bool b => (b = true → ev P nt Γ x Q S) ∧ (b = false → ev P nt Γ y Q S) | .ubool => ev P nt Γ x Q S ∧ ev P nt Γ y Q S | _ => False
  | .block id c, Q, S => ev P nt Γ c (blockQ id Q) S
  | .loop c, Q, S => VS P nt (.loop c) Q S
  | .rfn g ps x y, Q, S => VS P nt (.rfn g ps x y) Q S
  | .exit id, Q, S => Q (.exit id) S
  | .ret, Q, S => Q .ret S

/-! ### functions -/
inductive RV where
  | tmp (t : Nat)
  | cell (t : Nat) (n : Option Nat)
def cres (P : Program) : List ResultVar → Option (List RV)
  | [] => some []
  | .tmp t :: rs => (cres P rs).map (.tmp t :: ·)
  | .cell t ty :: rs => match aggN P ty, cres P rs with
    | some n, some rs' => some (.cell t n :: rs')
    | _, _ => none
def res1 (S : St) : RV → Option PV
  | .tmp t => some (S.env t)
  | .cell t n => match S.env t with
    | .ptr id ver off => if (S.H id).ver = ver then (match (S.H id).c with | .box cs => ldn n (cs.drop off) | _ => none) else none
    | _ => none
def resL (S : St) : List RV → Option (List PV)
  | [] => some []
  | r :: rs => match res1 S r, resL S rs with
    | some x, some xs => some (x :: xs)
    | _, _ => none
def resPV (S : St) (rs : List RV) : Option PV :=
  match resL S rs with
  | some [x] => some x
  | some xs => some (.tup xs)
  | none => none

def St0At (pos : Nat) (recv : Bool) (cs args : List PV) : St :=
  { env := fun t => ((insAt pos (if recv then [.ptr 0 0 0] else []) args)[t]?).getD .undef
    H := fun id => if recv = true ∧ id = 0 then ⟨0, .box cs⟩ else ⟨0, .dead⟩
    N := if recv then 1 else 0 }
abbrev St0 := St0At 0
theorem insAt_length {α : Type} (p : Nat) (x l : List α) : (insAt p x l).length = x.length + l.length := by
  simp only [insAt, List.length_append, List.length_take, List.length_drop]
  omega

/-- what a return must show -/
def retOk (rs : List RV) (recv : Bool) (R : PV → List PV → Prop) (S : St) : Prop :=
  match resPV S rs with
  | some x => match recv with
    | true => match S.H 0 with
      | ⟨0, .box cs'⟩ => cs'.all PV.closed = true ∧ R (fz S.H (some 0) 9 x) cs'
      | _ => False
    | false => R (fz S.H none 9 x) []
  | none => False
def retQ (rs : List RV) (recv : Bool) (R : PV → List PV → Prop) : Exit → St → Prop
  | .ret, S => retOk rs recv R S
  | .normal, S => retOk rs recv R S
  | _, _ => False

theorem results_one {E : En} {a : Act} {w : World} {L : Nat → Value} (h : Rel E S a w L) {rv : ResultVar} {r : RV} {x : PV} (hc : cres P [rv] = some [r]) (hx : res1 S r = some x) :
    ∃ v, (match rv with | .tmp t => pure (a.tmps.getD t undef) | .cell ad t => do loadVar t (← asAddr (a.tmps.getD ad undef)) : Sem Value).run P w = .ok v w ∧ Rep w (mutb E S L) (S.gh L) x v := by
  cases rv with
  | tmp t =>
    simp only [cres, Option.map_some, Option.some.injEq, List.cons.injEq, and_true] at hc
    subst hc
    simp only [res1, Option.some.injEq] at hx
    subst hx
    exact ⟨_, rfl, h.env t⟩
  | cell t ty =>
    simp only [cres] at hc
    split at hc
    · rename_i n rs' hn hrs
      injection hc with hc
      injection hc with h1 h2
      subst h1 h2
      simp only [res1] at hx
      split at hx
      · rename_i id ver off e
        split at hx
        · rename_i hver
          split at hx
          · rename_i cs hcc
            have r := h.env t
            rw [e] at r
            obtain ⟨hN, _⟩ := r.ptr_inv (show (S.gh L).V id = ver from hver)
            obtain ⟨b, hv, hL⟩ := h.ptr_some r hver hcc
            obtain ⟨b', cur, T, hL', hh, hr, _⟩ := h.box_at hN hcc
            rw [hL] at hL'
            simp only [Value.pointer.injEq, Option.some.injEq, Addr.mk.injEq] at hL'
            obtain ⟨rfl, _⟩ := hL'
            obtain ⟨v, hrun, hx'⟩ := load_of (P := P) (ad := ⟨b, off, none⟩) hn (hr.drop off) (fun i u hu => by rw [add_mid]; exact cell_block hh (getElem?_drop_some hu)) hx
            exact ⟨v, by simp [hv, asAddr, hrun], hx'⟩
          · cases hx
        · cases hx
      · cases hx
    · cases hc
theorem results_list {E : En} {a : Act} {w : World} {L : Nat → Value} (h : Rel E S a w L) : ∀ (rvs : List ResultVar) (rs : List RV) (xs : List PV), cres P rvs = some rs → resL S rs = some xs →
    ∃ vs, (rvs.mapM fun | .tmp t => pure (a.tmps.getD t undef) | .cell ad t => do loadVar t (← asAddr (a.tmps.getD ad undef)) : Sem (List Value)).run P w = .ok vs w ∧ RepL w (mutb E S L) (S.gh L) xs vs
  | [], rs, xs, hc, hx => by
    simp only [cres, Option.some.injEq] at hc
    subst hc
    simp only [resL, Option.some.injEq] at hx
    subst hx
    exact ⟨[], by simp, .nil⟩
  | rv :: rvs, rs, xs, hc, hx => by
    have hsp : ∃ r rs', rs = r :: rs' ∧ cres P [rv] = some [r] ∧ cres P rvs = some rs' := by
      cases rv with
      | tmp t =>
        simp only [cres, Option.map_eq_some_iff] at hc
        obtain ⟨rs', h1, rfl⟩ := hc
        exact ⟨_, rs', rfl, rfl, h1⟩
      | cell t ty =>
        simp only [cres] at hc
        split at hc
        · rename_i n rs' hn hrs
          injection hc with hc
          subst hc
          exact ⟨_, rs', rfl, by simp [cres, hn], hrs⟩
        · cases hc
    obtain ⟨r, rs', rfl, h1, h2⟩ := hsp
    simp only [resL] at hx
    split at hx
    · rename_i x xs' hx1 hx2
      injection hx with hx
      subst hx
      obtain ⟨v, hv, hr⟩ := results_one h h1 hx1
      obtain ⟨vs, hvs, hrs⟩ := results_list h rvs rs' xs' h2 hx2
      refine ⟨v :: vs, ?_, .cons hr hrs⟩
      simp only [List.mapM_cons, Sem.run_bind]
      erw [hv]
      simp only [Result.andThen_ok]
      erw [hvs]
      rfl
    · cases hx
theorem results_run {E : En} {a : Act} {w : World} {L : Nat → Value} (h : Rel E S a w L) {fn : Func} {rs : List RV} {x : PV} (hc : cres P fn.results.toList = some rs) (hx : resPV S rs = some x) :
    ∃ v, (results fn a.tmps).run P w = .ok v w ∧ Rep w (mutb E S L) (S.gh L) x v := by
  unfold resPV at hx
  cases hl : resL S rs with
  | none => rw [hl] at hx; cases hx
  | some xs =>
    rw [hl] at hx
    obtain ⟨vs, hvs, hr⟩ := results_list h _ _ _ hc hl
    have hrun : (results fn a.tmps).run P w = .ok (if h : vs.toArray.size = 1 then vs.toArray[0] else .tuple vs.toArray) w := by
      unfold results
      rw [Array.mapM_eq_mapM_toList]
      simp only [Sem.run_bind, map_eq_pure_bind]
      erw [hvs]
      rfl
    refine ⟨_, hrun, ?_⟩
    match xs, vs, hr, hx with
    | [], vs, hr, hx =>
      injection hx with hx
      subst hx
      have := hr.nil_inv
      subst this
      exact .tup _ _ hr.1 hr.2
    | [y], vs, hr, hx =>
      injection hx with hx
      subst hx
      obtain ⟨v, vs', rfl, h1, h2⟩ := hr.cons_inv
      have := h2.nil_inv
      subst this
      exact h1
    | y :: z :: ys, vs, hr, hx =>
      injection hx with hx
      subst hx
      obtain ⟨v, vs', rfl, h1, h2⟩ := hr.cons_inv
      obtain ⟨u, us, rfl, h3, h4⟩ := h2.cons_inv
      rw [dif_neg (by simp)]
      exact .tup _ _ hr.1 hr.2

theorem oth_nil {w w' : World} (h : w.heap = #[]) : Oth w w' := ⟨by rw [h]; exact Nat.zero_le _, fun k o hk _ => by rw [h] at hk; simp at hk⟩
/-- a mark is taken away -/
theorem Rel.shut {E : En} {S : St} {a : Act} {w : World} {L : Nat → Value} (h : Rel E S a w L) (hwk : E.wk.heap = #[]) {d : Deferred} {ds : List Deferred} (hd : a.defers = d :: ds) :
    ∃ D w', d.target = .collected D ∧ (Instr.takeDeferred D).run P w = .ok [] w' ∧ Rel E S { a with defers := ds } w' L := by
  have hnd := h.defers.nodup
  rw [hd, List.nodup_cons] at hnd
  obtain ⟨D, h1, h2, h3⟩ := h.defers.at_ d (by rw [hd]; exact List.mem_cons_self)
  have hoth : ∀ k, k ≠ D → (w.putObj D (.deferred none)).heap[k]? = w.heap[k]? := fun k hk => World.putObj_heap_other hk
  have hcell : ∀ (p : Addr) (v : Value), w.cell? p = some v → p.block ≠ D := by
    intro p v hp e
    unfold World.cell? at hp
    rw [e, h3] at hp
    simp at hp
  have hs : Stays w (w.putObj D (.deferred none)) (mutb E S L) (mutb E S L) := ⟨fun p v hp hm => ⟨(World.cell?_of_block (hoth _ (hcell p v hp))).trans hp, hm⟩, fun b es ck hb hm => ⟨(hoth b (fun e => by rw [e, h3] at hb; cases hb)).trans hb, hm⟩⟩
  have hne : ∀ id b, id < S.N → (S.H id).c.live = true → blk (L id) = some b → b ≠ D := by
    intro id b hid hl hb e
    obtain ⟨o, h4, h5⟩ := (h.obj id hid).cells hl hb
    rw [e, h3] at h4
    injection h4 with h4
    rw [← h4] at h5
    cases h5
  refine ⟨D, w.putObj D (.deferred none), by rw [h1], run_takeDeferred h3, ⟨fun e => (by have := h.defers.none e; rw [hd] at this; cases this), hnd.2, fun d' hd' => ?_⟩, h.size, fun t => (h.env t).mono hs (Gh.le.refl _), fun id hid => ?_, h.apart, h.fresh,
    ⟨⟨h.fr.os, h.fr.tape, h.fr.output, by rw [World.putObj_size]; exact h.fr.size, fun b hb hr => by rw [hoth b (by omega)]; exact h.fr.block b hb hr, h.fr.drawn⟩, oth_nil hwk⟩, h.rcv⟩
  · obtain ⟨D', h4, h5, h6⟩ := h.defers.at_ d' (by rw [hd]; exact List.mem_cons_of_mem _ hd')
    have hDD : D' ≠ D := by
      intro e
      subst e
      rw [← h1] at h4
      exact hnd.1 (h4 ▸ hd')
    exact ⟨D', h4, h5, by rw [hoth _ hDD]; exact h6⟩
  · cases hl : (S.H id).c.live with
    | false =>
      cases hc : (S.H id).c with
      | dead => trivial
      | box cs => rw [hc] at hl; cases hl
      | row e k es => rw [hc] at hl; cases hl
    | true => exact (h.obj id hid).mono hs (Gh.le.refl _) (fun b hb _ => hoth b (hne id b hid hl hb))
theorem leave_marks {E : En} {S : St} {L : Nat → Value} (hwk : E.wk.heap = #[]) {fn : Func} {R : Ending → World → Prop} {tmps : Array Value} (hR : ∀ w', Rel E S { tmps := tmps, defers := [] } w' L → ∃ v, (results fn tmps).run P w' = .ok v w' ∧ R (.returned v) w') :
    ∀ (ds : List Deferred) (w : World), Rel E S { tmps := tmps, defers := ds } w L → LeavesInM (WF none) 0 P fn tmps R ds .returning w
  | [], w, h => hR w h
  | d :: ds, w, h => by
    obtain ⟨D, w', h1, h2, h3⟩ := Rel.shut (P := P) h hwk rfl
    exact ⟨(fun e => by cases e), .inl ⟨D, w', h1, h2, leave_marks hwk hR ds w' h3⟩⟩
/-- a function's contract out of its code -/
theorem calls_rel {f : FuncId} {fn : Func} {c : Code} {E : En} {S0 : St} {Q : Exit → St → Prop} {args : Array Value} {w : World} {L : Nat → Value} {R : Ending → World → Prop} (hf : P.funcs[f]? = some fn) (hb : fn.body = some c) (h : V P fn.ntmps c Q S0)
    (hE : E.nt = fn.ntmps) (hrd : E.rd = none ∧ E.nd = false) (hkt : ∀ t, E.kt t = none) (hwk : E.wk.heap = #[]) (hrel : Rel E S0 { tmps := args ++ Array.replicate (fn.ntmps - args.size) undef, defers := [] } w L)
    (fin : ∀ (e : Exit) (S' : St) (L' : Nat → Value) (a' : Act) (w' : World), Rel E S' a' w' L' → Q e S' → (e = .ret ∨ e = .normal) ∧ ∃ v, (results fn a'.tmps).run P w' = .ok v w' ∧ R (.returned v) w') : Calls P f args w R := by
  have h0 := h E hE ⟨fun t _ => hkt t, .inl hrd⟩ _ w L hrel
  rw [hrd.1] at h0
  refine callsIn_wf.1 (callsIn_of_wp_marks (F := WF none) (n := 0) hf hb trivial (wpIn_mono h0 ?_))
  rintro e a' w' ⟨S', L', h1, h2⟩
  have h3 : LeavesInM (WF none) 0 P fn a'.tmps R a'.defers .returning w' :=
    leave_marks hwk (fun w'' hw'' => (fin e S' L' _ w'' hw'' h2).2) a'.defers w' h1
  rcases (fin e S' L' a' w' h1 h2).1 with rfl | rfl <;> exact h3

theorem con_intro {f : FuncId} {fn : Func} {c : Code} {sc : SC} {rs : List RV} {pos : Nat} {recv : Bool} {cs args cs' : List PV} {r : PV} (hf : P.funcs[f]? = some fn) (hb : fn.body = some c) {hs : List Nat} (hc : ccode P fn.ntmps hs c = some sc) (hrs : cres P fn.results.toList = some rs)
    (hlen : (if recv then 1 else 0) + args.length ≤ fn.ntmps) (h : VS P fn.ntmps sc (retQ rs recv fun r' cs'' => r' = r ∧ (recv = true → cs'' = cs')) (St0At pos recv cs args)) : ConAt P f pos recv cs args r cs' := by
  intro w X hX rb T rvs vs hrecv hargs
  have hrb0 : ∀ b, (if recv then some rb else none) = some b → b < w.heap.size ∧ ¬ gb b := by
    intro b hb
    cases recv with
    | false => cases hb
    | true =>
      simp only [if_true, Option.some.injEq] at hb
      subst hb
      exact ⟨(Array.getElem?_eq_some_iff.1 (hrecv rfl).1).1, (hrecv rfl).2.2⟩
  let E : En := { w0 := w, rb := if recv then some rb else none, nt := fn.ntmps, X := X, hX := hX, hasR := recv, rv := .pointer (some ⟨rb, 0, none⟩), rk := false, hrb := hrb0, hxr := fun h => (by cases h), rd := none, nd := false, kt := fun _ => none, wk := { w with heap := #[] } }
  let L : Nat → Value := fun _ => .pointer (some ⟨rb, 0, none⟩)
  have hvl : vs.length = args.length := hargs.1
  have hm : ∀ b, mutb E (St0At pos recv cs args) L b → Mc recv rb X b := by
    rintro b (⟨id, hid, hl, hb⟩ | hb)
    · simp only [St0At] at hid hl
      cases recv with
      | false => simp at hid
      | true =>
        simp only [L, blk, Option.some.injEq] at hb
        exact .inl ⟨rfl, hb.symm⟩
    · exact .inr hb
  have hm' : ∀ b, Mc recv rb X b → mutb E (St0At pos recv cs args) L b := by
    rintro b (⟨h1, h2⟩ | hb)
    · subst h2
      exact .inl ⟨0, by simp [St0At, h1], by simp [St0At, h1, Cont.live], rfl⟩
    · exact .inr hb
  have hst : Stays w w (Mc recv rb X) (mutb E (St0At pos recv cs args) L) := (Stays.of fun _ hn => fun h' => hn (hm _ h'))
  -- the first state
  have hrel : Rel E (St0At pos recv cs args) { tmps := (insAt pos (recvL recv rb) vs).toArray ++ Array.replicate (fn.ntmps - (insAt pos (recvL recv rb) vs).toArray.size) undef, defers := [] } w L := by
    refine ⟨Marks.nil rfl, ⟨?_, fun t v hv => by cases hv⟩, fun t => ?_, fun id hid => ?_, fun i j b hi hj _ _ _ _ => ?_, fun id hid => ?_, ⟨Fr.refl _ _, oth_nil rfl⟩, fun _ _ _ => rfl⟩
    · cases recv <;> simp [recvL, E, insAt_length] at hlen ⊢ <;> omega
    · have hget : (((insAt pos (recvL recv rb) vs).toArray ++ Array.replicate (fn.ntmps - (insAt pos (recvL recv rb) vs).toArray.size) undef).getD t undef) = ((insAt pos (recvL recv rb) vs)[t]?).getD undef := by
        rw [Array.getD_eq_getD_getElem?, Array.getElem?_append]
        by_cases ht : t < (insAt pos (recvL recv rb) vs).toArray.size
        · rw [if_pos ht]; simp
        · rw [if_neg ht, Array.getElem?_replicate]
          have hn : (insAt pos (recvL recv rb) vs)[t]? = none := List.getElem?_eq_none (by simpa using ht)
          rw [hn]
          split <;> rfl
      simp only
      rw [hget]
      have hall : RepL w (mutb E (St0At pos recv cs args) L) ((St0At pos recv cs args).gh L) (insAt pos (if recv then [.ptr 0 0 0] else []) args) (insAt pos (recvL recv rb) vs) := by
        have ha := hargs.mono hst (Gh0.le ((St0At pos recv cs args).gh L))
        refine ((ha.take pos).append ?_).append (ha.drop pos)
        cases recv with
        | false => exact .nil
        | true =>
          simp only [recvL, if_true]
          exact .cons (.ptr _ _ _ _ (by simp [St.gh, St0At]) (Nat.zero_le _) (fun _ => by simp [St.gh, L, blk])) .nil
      show Rep w _ _ (((insAt pos (if recv then [.ptr 0 0 0] else []) args : List PV)[t]?).getD .undef) _
      cases hx : (insAt pos (if recv then [.ptr 0 0 0] else []) args : List PV)[t]? with
      | none =>
        have : (insAt pos (recvL recv rb) vs)[t]? = none := by
          rw [List.getElem?_eq_none_iff] at hx ⊢
          rw [hall.1]
          exact hx
        rw [this]
        exact .undef
      | some x =>
        obtain ⟨v, hv, hr⟩ := hall.get hx
        rw [hv]
        exact hr
    · cases recv with
      | false => simp [St0At] at hid
      | true =>
        simp [St0At] at hid
        subst hid
        obtain ⟨h1, h2, _⟩ := hrecv rfl
        have e : ((St0At pos true cs args).H 0).c = .box cs := by simp [St0At]
        rw [e]
        exact ⟨rb, rvs.toArray, T, rfl, h1, .inl (by simp [E]), by simpa using h2.mono hst (Gh0.le ((St0At pos true cs args).gh L))⟩
    · cases recv with
      | false => simp [St0At] at hi
      | true => simp [St0At] at hi hj; omega
    · cases recv with
      | false => simp [St0At]
      | true => simp [St0At] at hid ⊢; omega
  -- the end
  have fin : ∀ (S' : St) (L' : Nat → Value) (a' : Act) (w' : World), Rel E S' a' w' L' → retOk rs recv (fun r' cs'' => r' = r ∧ (recv = true → cs'' = cs')) S' →
      ∃ v, (results fn a'.tmps).run P w' = .ok v w' ∧ ConPost recv rb X w r cs' (.returned v) w' := by
    intro S' L' a' w' h' hret
    unfold retOk at hret
    split at hret
    · rename_i x hx
      obtain ⟨v, hv, hrep⟩ := results_run h' hrs hx
      refine ⟨v, hv, ?_⟩
      cases recv with
      | false =>
        simp only [Bool.false_eq_true, false_implies, and_true] at hret
        subst hret
        refine ⟨v, [], rfl, ?_, (fun hq => by cases hq), h'.fr.toFr⟩
        refine h'.fz (fun b hb => ?_) (fun id b hid hl _ hb hq => ?_) 9 hrep
        · rcases hb with ⟨hb, _⟩ | hb
          · cases hb
          · exact .inr hb
        · rcases hq with ⟨hq, _⟩ | hq
          · cases hq
          · rcases ((h'.obj id hid).blk_ok hl hb).2 with h1 | h1
            · simp [E] at h1
            · have := hX.lt b hq
              simp only [E] at h1
              omega
      | true =>
        simp only at hret
        split at hret
        · rename_i cs'' hH
          obtain ⟨hcl, rfl, hcs⟩ := hret
          have hcs := hcs trivial
          subst hcs
          have hN0 : 0 < S'.N := by
            rcases Nat.eq_zero_or_pos S'.N with h0 | h0
            · have := h'.fresh 0 (by omega)
              rw [hH] at this
              cases this
            · exact h0
          have hL0 : L' 0 = .pointer (some ⟨rb, 0, none⟩) := h'.rcv rfl (by rw [hH]; rfl) (by rw [hH])
          obtain ⟨b, cur, T', hL', hh, hr, _⟩ := h'.box_at hN0 (show (S'.H 0).c = .box cs'' by rw [hH])
          rw [hL0] at hL'
          simp only [Value.pointer.injEq, Option.some.injEq, Addr.mk.injEq] at hL'
          obtain ⟨rfl, _⟩ := hL'
          have hsub : ∀ q, Mc true rb X q → mutb E S' L' q := by
            rintro q (⟨_, rfl⟩ | hq)
            · exact .inl ⟨0, hN0, by rw [hH]; rfl, by rw [hL0]; rfl⟩
            · exact .inr hq
          refine ⟨v, cur.toList, rfl, ?_, fun _ => ⟨?_, hr.closed hcl hsub⟩, h'.fr.toFr⟩
          · refine h'.fz hsub (fun id b hid hl hne hb hq => ?_) 9 hrep
            have hnb : b ≠ rb := fun e => hne (by rw [h'.apart id 0 b hid hN0 hl (by rw [hH]; rfl) hb (by rw [hL0, e]; rfl)])
            rcases hq with ⟨_, hq⟩ | hq
            · exact hnb hq
            · rcases ((h'.obj id hid).blk_ok hl hb).2 with h1 | h1
              · simp only [E, if_true, Option.some.injEq] at h1
                exact hnb h1.symm
              · have := hX.lt b hq
                simp only [E] at h1
                omega
          · exact ⟨T', by simpa using hh⟩
        · exact hret.elim
    · exact hret.elim
  exact calls_rel hf hb (h c hs hc) rfl ⟨rfl, rfl⟩ (fun _ => rfl) rfl hrel fun e S' L' a' w' h1 h2 => by
    cases e with
    | normal => exact ⟨.inr rfl, fin S' L' a' w' h1 h2⟩
    | ret => exact ⟨.inl rfl, fin S' L' a' w' h1 h2⟩
    | exit i => exact h2.elim
    | goto l => exact h2.elim
    | panic c => exact h2.elim
    | outgrown => exact h2.elim

/-- a function that hands back a new object -/
def newQ (rs : List RV) (R : List PV → Prop) : Exit → St → Prop
  | .ret, S => match resPV S rs with
    | some (.ptr id ver 0) => if (S.H id).ver = ver then (match (S.H id).c with | .box cs => cs.all PV.closed = true ∧ R cs | _ => False) else False
    | _ => False
  | _, _ => False

theorem con_new {f : FuncId} {fn : Func} {c : Code} {sc : SC} {rs : List RV} {args cs : List PV} (hf : P.funcs[f]? = some fn) (hb : fn.body = some c) {hs : List Nat} (hc : ccode P fn.ntmps hs c = some sc) (hrs : cres P fn.results.toList = some rs)
    (hlen : args.length ≤ fn.ntmps) (h : VS P fn.ntmps sc (newQ rs fun cs' => cs' = cs) (St0At 0 false [] args)) : ConN P f args cs := by
  intro w X hX vs hargs
  let E : En := { w0 := w, rb := none, nt := fn.ntmps, X := X, hX := hX, hasR := false, rv := undef, rk := false, hrb := fun b hb => (by cases hb), hxr := fun h => (by cases h), rd := none, nd := false, kt := fun _ => none, wk := { w with heap := #[] } }
  let L : Nat → Value := fun _ => .pointer none
  have hst : Stays w w X (mutb E (St0At 0 false [] args) L) := (Stays.of fun _ hn h' => hn (by
    rcases h' with ⟨id, hid, _⟩ | h'
    · simp [St0At] at hid
    · exact h'))
  have hvl : vs.length = args.length := hargs.1
  have hrel : Rel E (St0At 0 false [] args) { tmps := vs.toArray ++ Array.replicate (fn.ntmps - vs.toArray.size) undef, defers := [] } w L := by
    refine ⟨Marks.nil rfl, ⟨?_, fun t v hv => by cases hv⟩, fun t => ?_, fun id hid => ?_, fun i j b hi hj _ _ _ _ => ?_, fun id hid => ?_, ⟨Fr.refl _ _, oth_nil rfl⟩, fun hb _ _ => (by cases hb)⟩
    · simp [E]; omega
    · have hget : ((vs.toArray ++ Array.replicate (fn.ntmps - vs.toArray.size) undef).getD t undef) = (vs[t]?).getD undef := by
        rw [Array.getD_eq_getD_getElem?, Array.getElem?_append]
        by_cases ht : t < vs.toArray.size
        · rw [if_pos ht]; simp
        · rw [if_neg ht, Array.getElem?_replicate]
          have hn : vs[t]? = none := List.getElem?_eq_none (by simpa using ht)
          rw [hn]
          split <;> rfl
      simp only
      rw [hget]
      have ha := hargs.mono hst (Gh0.le ((St0At 0 false [] args).gh L))
      show Rep w _ _ ((([] ++ args : List PV)[t]?).getD .undef) _
      rw [List.nil_append]
      cases hx : args[t]? with
      | none =>
        have : vs[t]? = none := by
          rw [List.getElem?_eq_none_iff] at hx ⊢
          omega
        rw [this]
        exact .undef
      | some x =>
        obtain ⟨v, hv, hr⟩ := ha.get hx
        rw [hv]
        exact hr
    · simp [St0At] at hid
    · simp [St0At] at hi
    · simp [St0At]
  refine calls_rel hf hb (h c hs hc) rfl ⟨rfl, rfl⟩ (fun _ => rfl) rfl hrel fun e S' L' a' w' h' hq => ?_
  cases e with
  | ret =>
    simp only [newQ] at hq
    split at hq
    · rename_i id ver hx
      split at hq
      · rename_i hver
        split at hq
        · rename_i cs' hcc
          obtain ⟨hcl, rfl⟩ := hq
          obtain ⟨v, hv, hrep⟩ := results_run h' hrs hx
          obtain ⟨hN, _⟩ := hrep.ptr_inv (show (S'.gh L').V id = ver from hver)
          obtain ⟨b, hvb, hL⟩ := h'.ptr_some hrep hver hcc
          obtain ⟨b', cur, T, hL', hh, hr, hE⟩ := h'.box_at hN hcc
          rw [hL] at hL'
          simp only [Value.pointer.injEq, Option.some.injEq, Addr.mk.injEq] at hL'
          obtain ⟨rfl, _⟩ := hL'
          refine ⟨.inl rfl, v, hv, b, cur.toList, T, by rw [hvb], ?_, by simpa using hh, ?_, h'.fr.toFr⟩
          · rcases hE with h1 | h1
            · simp [E] at h1
            · exact h1
          · refine hr.closed hcl ?_
            rintro q (hq | rfl)
            · exact .inr hq
            · exact .inl ⟨id, hN, by rw [hcc]; rfl, by rw [hL]; rfl⟩
        · exact hq.elim
      · exact hq.elim
    · exact hq.elim
  | normal => exact hq.elim
  | exit i => exact hq.elim
  | goto l => exact hq.elim
  | panic c => exact hq.elim
  | outgrown => exact hq.elim

/-- a function of the program, resolved -/
def FnOk (P : Program) (f : FuncId) (nt : Nat) (sc : SC) (rs : List RV) : Prop :=
  ∃ fn hs, P.funcs[f]? = some fn ∧ fn.ntmps = nt ∧ (fn.body.bind (ccode P nt hs)) = some sc ∧ cres P fn.results.toList = some rs ∧ (fn.name == "runtime.NumGoroutine") = false

theorem FnOk.enters {f : FuncId} {sc : SC} {rs : List RV} (h : FnOk P f nt sc rs) : Enters P f := by
  obtain ⟨fn, hs, h1, _, h3, _, h5⟩ := h
  refine ⟨fn, h1, ?_, h5⟩
  cases hb : fn.body with
  | none => rw [hb] at h3; cases h3
  | some c => rfl

theorem FnOk.con {f : FuncId} {sc : SC} {rs : List RV} (h : FnOk P f nt sc rs) {pos : Nat} {recv : Bool} {cs args cs' : List PV} {r : PV} (hlen : (if recv then 1 else 0) + args.length ≤ nt)
    (hv : VS P nt sc (retQ rs recv fun r' cs'' => r' = r ∧ (recv = true → cs'' = cs')) (St0At pos recv cs args)) : ConAt P f pos recv cs args r cs' := by
  obtain ⟨fn, hs, h1, rfl, h3, h4, _⟩ := h
  cases hb : fn.body with
  | none => rw [hb] at h3; cases h3
  | some c =>
    rw [hb] at h3
    exact con_intro h1 hb h3 h4 hlen hv

theorem FnOk.conN {f : FuncId} {sc : SC} {rs : List RV} (h : FnOk P f nt sc rs) {args cs : List PV} (hlen : args.length ≤ nt)
    (hv : VS P nt sc (newQ rs fun cs' => cs' = cs) (St0At 0 false [] args)) : ConN P f args cs := by
  obtain ⟨fn, hs, h1, rfl, h3, h4, _⟩ := h
  cases hb : fn.body with
  | none => rw [hb] at h3; cases h3
  | some c =>
    rw [hb] at h3
    exact con_new h1 hb h3 h4 hlen hv

/-- a table out of a list of models that are right -/
def tab : List (FuncId × Model) → Tab
  | [], _ => none
  | (g, m) :: l, f => if f = g then some m else tab l f
end
end Go.TQ
