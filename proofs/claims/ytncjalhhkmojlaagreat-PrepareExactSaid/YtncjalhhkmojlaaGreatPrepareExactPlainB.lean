/-
  Plain Lean: what the turned functions compute. Conditions: none beyond those that each theorem names.
-/
import Derived.Test.YtncjalhhkmojlaaGreatPrepareExactPlainA
set_option linter.unusedVariables false
namespace Go.Proofs.YtncjalhhkmojlaaGreat
open Go.TQ

def noB : TBallot := ⟨0, noVal⟩
/-- a loop that looks for the first one -/
theorem first_loop {α τ : Type} (l : List α) (hl : l.length ≤ 1000000) (mk : Int → τ) (P : α → Bool) (z : α) {step : τ → Option (τ ⊕ α)}
    (h1 : ∀ (i : Nat) (x : α), decide ((i : Int) < ((l.length : Nat) : Int)) = true → idx l (i : Int) = some x → addI .i64 (i : Int) 1 = ((i + 1 : Nat) : Int) → step (mk (i : Int)) = some (bif P x then .inr x else .inl (mk ((i + 1 : Nat) : Int))))
    (h2 : decide (((l.length : Nat) : Int) < ((l.length : Nat) : Int)) = false → step (mk ((l.length : Nat) : Int)) = some (.inr z)) : loopO step (mk 0) = some ((l.find? P).getD z) := by
  suffices key : ∀ (k i : Nat), i + k = l.length → loopO step (mk (i : Int)) = some (((l.drop i).find? P).getD z) from key l.length 0 (by omega)
  intro k
  induction k with
  | zero =>
    intro i hi
    obtain rfl : i = l.length := by omega
    rw [loopO_inr (h2 (decide_eq_false (Int.lt_irrefl _))), List.drop_length]
    rfl
  | succ k ih =>
    intro i hi
    have hlt : i < l.length := by omega
    have hs := h1 i l[i] (decide_eq_true (by omega)) (by rw [idx_nat]; exact List.getElem?_eq_getElem hlt) (add64 (by omega) (by omega))
    rw [List.drop_eq_getElem_cons hlt, List.find?_cons]
    cases hP : P l[i] with
    | true => rw [hP] at hs; rw [loopO_inr hs]; rfl
    | false => rw [hP] at hs; rw [loopO_inl hs]; exact ih (i + 1) (by omega)

noncomputable def ballotsN (l : List TEnvelope) : List TBallot := (F_envelopes_Ballots l).getD []
section
variable {l : List TEnvelope} (hl : ∀ e ∈ l, SmT e.Trust) (hlen : l.length ≤ 1000)
 include hl hlen
theorem ballotsN_ok : F_envelopes_Ballots l = some (ballotsN l) ∧ (ballotsN l).Pairwise (fun x y => lessB y x = true) ∧ (ballotsN l).length ≤ 3000 ∧ ∀ x, x ∈ ballotsN l ↔ ∃ e ∈ l, x ∈ said e ∧ zeroB x = false := by
  obtain ⟨b, h1, h2, h3, h4⟩ := Ballots_eq hl hlen
  have : ballotsN l = b := by rw [ballotsN, h1]; rfl
  rw [this]
  exact ⟨h1, h2, h3, h4⟩
end
def endless (b : TBallot) : TBallot := if 1000 ≤ b.Counter then ⟨1000000, b.Value⟩ else b
theorem endless_eq (b : TBallot) : F_prepare_endless b = some (endless b) := by
  unfold F_prepare_endless endless
  simp only [letJ_eq, bif_dec, ite_some]
section
variable {node : Nat} (hn : node < 10) {t : TTrust} (ht : SmT t) {l : List TEnvelope} (hl : SmL l)
 include hn ht hl
theorem pready_eq (b : TBallot) : F_prepare_Seen_ready ⟨node, ⟨viewN node t l⟩, (rights l).map TRight.mk⟩ b = some (prepAccepts node t l b) := by
  have := Accepts_eq hn ht hl b
  simpa only [F_prepare_Accepts, TTrust.eta, Look_eq hn ht hl, Option.bind_some, Option.bind_fun_some] using this
theorem pconf_eq (b : TBallot) : F_prepare_Seen_Confirms_c164 ⟨node, ⟨viewN node t l⟩, (rights l).map TRight.mk⟩ b = some (prepConfirms node t l b) := by
  have := Confirms_eq hn ht hl b
  simpa only [F_prepare_Confirms, F_prepare_accepts, TTrust.eta, Look_eq hn ht hl, Option.bind_some, Option.bind_fun_some] using this
end
theorem rAcceptsP_eq {e : TEnvelope} (h : SmT e.Trust) (b : TBallot) : F_ref24_AcceptsPrepare e b = some (isValid e && acceptsP e b) := by
  simp only [F_ref24_AcceptsPrepare, TTrust.eta, TEnvelope.eta, rValid_eq h, Option.bind_some, F_ref23_Zero_eq, F_ref23_Compatible_eq, F_ref23_Prepares_eq]
  cases hv : isValid e with
  | false => simp
  | true =>
    cases hz : zeroB b with
    | true => simp [acceptsP, hz]
    | false =>
      by_cases k1 : e.Kind = 1
      · simp [acceptsP, hz, k1]
      · by_cases k3 : e.Kind = 3
        · simp [acceptsP, hz, k3]
        · by_cases k2 : e.Kind = 2
          · have hp : zeroB e.Prime = true := by
              unfold isValid validE at hv
              rw [Bool.and_eq_true, if_neg k1, if_pos k2] at hv
              simp only [commOk, Bool.and_eq_true] at hv
              exact hv.2.1.1.2
            simp [acceptsP, hz, k2, preparesB, covers, hp]
          · unfold isValid validE at hv
            rw [if_neg k1, if_neg k2, if_neg k3] at hv
            simp at hv
end Go.Proofs.YtncjalhhkmojlaaGreat

set_option linter.unusedVariables false
namespace Go.Proofs.YtncjalhhkmojlaaGreat
open Go.TQ

section
variable {l : List TEnvelope} (hl : ∀ e ∈ l, SmT e.Trust) (hlen : l.length ≤ 1000)
 include hl hlen
end
section
variable {node : Nat} (hn : node < 10) {t : TTrust} (ht : SmT t) {l : List TEnvelope} (hl : SmL l)
 include hn ht hl
end
end Go.Proofs.YtncjalhhkmojlaaGreat

set_option linter.unusedVariables false
namespace Go.Proofs.YtncjalhhkmojlaaGreat
open Go.TQ

end Go.Proofs.YtncjalhhkmojlaaGreat

set_option linter.unusedVariables false
namespace Go.Proofs.YtncjalhhkmojlaaGreat
open Go.TQ

/-! ### into a sorted list -/
section
variable {α : Type} [DecidableEq α] {lt : α → α → Bool}
def insS (lt : α → α → Bool) (x : α) : List α → List α
  | [] => [x]
  | y :: l => if lt y x then y :: insS lt x l else if y = x then y :: l else x :: y :: l
theorem mem_insS (x : α) : ∀ (l : List α) (z : α), z ∈ insS lt x l ↔ z = x ∨ z ∈ l
  | [], z => by simp [insS]
  | y :: l, z => by
    rw [insS]
    split
    · rw [List.mem_cons, mem_insS x l z, List.mem_cons]
      constructor
      · rintro (h | h | h)
        · exact .inr (.inl h)
        · exact .inl h
        · exact .inr (.inr h)
      · rintro (h | h | h)
        · exact .inr (.inl h)
        · exact .inl h
        · exact .inr (.inr h)
    · split
      · rename_i h
        rw [List.mem_cons]
        constructor
        · exact .inr
        · rintro (h1 | h1)
          · exact .inl (h1.trans h.symm)
          · exact h1
      · rw [List.mem_cons]
theorem STO.insS (h : STO lt) (x : α) : ∀ {l : List α}, l.Pairwise (fun a b => lt a b = true) → (Go.Proofs.YtncjalhhkmojlaaGreat.insS lt x l).Pairwise (fun a b => lt a b = true)
  | [], _ => by rw [Go.Proofs.YtncjalhhkmojlaaGreat.insS]; exact List.pairwise_singleton _ _
  | y :: l, hp => by
    rw [List.pairwise_cons] at hp
    rw [Go.Proofs.YtncjalhhkmojlaaGreat.insS]
    split
    · rename_i hy
      rw [List.pairwise_cons]
      refine ⟨fun z hz => ?_, h.insS x hp.2⟩
      rcases (mem_insS x l z).1 hz with rfl | hz
      · exact hy
      · exact hp.1 z hz
    · rename_i hy
      split
      · exact List.pairwise_cons.2 hp
      · rename_i hne
        have hxy : lt x y = true := by
          cases hc : lt x y with
          | true => rfl
          | false => exact absurd (h.total y x (by simpa using hy) hc) hne
        rw [List.pairwise_cons, List.pairwise_cons]
        refine ⟨fun z hz => ?_, hp⟩
        rcases List.mem_cons.1 hz with rfl | hz
        · exact hxy
        · exact h.trans _ _ _ hxy (hp.1 z hz)
theorem insS_len (x : α) : ∀ l : List α, (insS lt x l).length ≤ l.length + 1
  | [] => by simp [insS]
  | y :: l => by
    have := insS_len x l
    rw [insS]
    split
    · simp; omega
    · split <;> simp
/-- where it goes -/
theorem insS_at (x : α) : ∀ (l : List α) (i : Nat), (∀ j, j < i → ∃ y, l[j]? = some y ∧ lt y x = true) → (∀ y, l[i]? = some y → lt y x = false) → insS lt x l = if l[i]? = some x then l else l.take i ++ x :: l.drop i
  | [], i, h1, h2 => by
    cases i with
    | zero => simp [insS]
    | succ i => obtain ⟨y, hy, _⟩ := h1 0 (by omega); simp at hy
  | y :: l, i, h1, h2 => by
    cases i with
    | zero =>
      have hy := h2 y rfl
      rw [insS, hy, if_neg (by simp)]
      by_cases h : y = x
      · simp [h]
      · simp [h]
    | succ i =>
      obtain ⟨y', hy', hlt⟩ := h1 0 (by omega)
      simp only [List.getElem?_cons_zero, Option.some.injEq] at hy'
      subst hy'
      rw [insS, if_pos hlt, insS_at x l i (fun j hj => by
        obtain ⟨z, hz, h⟩ := h1 (j + 1) (by omega)
        exact ⟨z, by simpa using hz, h⟩) (fun z hz => h2 z (by simpa using hz))]
      simp only [List.getElem?_cons_succ, List.take_succ_cons, List.drop_succ_cons]
      split <;> simp
/-- all of some, one by one -/
theorem insAll (h : STO lt) : ∀ (xs l : List α), l.Pairwise (fun a b => lt a b = true) → (xs.foldl (fun l x => insS lt x l) l).Pairwise (fun a b => lt a b = true) ∧ ∀ z, z ∈ xs.foldl (fun l x => insS lt x l) l ↔ z ∈ xs ∨ z ∈ l
  | [], l, hp => ⟨hp, by simp⟩
  | x :: xs, l, hp => by
    obtain ⟨h1, h2⟩ := insAll h xs _ (h.insS x hp)
    rw [List.foldl_cons]
    refine ⟨h1, fun z => ?_⟩
    rw [h2, mem_insS, List.mem_cons]
    constructor
    · rintro (a | a | a)
      · exact .inl (.inr a)
      · exact .inl (.inl a)
      · exact .inr a
    · rintro ((a | a) | a)
      · exact .inr (.inl a)
      · exact .inl a
      · exact .inr (.inr a)
end
/-- slices of a list, as they are printed -/
theorem take_drop0 {α : Type} (l : List α) (i : Nat) : (l.take (Int.toNat (i : Int))).drop (Int.toNat (0 : Int)) = l.take i := by simp
theorem take_all {α : Type} (l : List α) (i : Nat) : (l.take (Int.toNat ((l.length : Nat) : Int))).drop (Int.toNat (i : Int)) = l.drop i := by simp
theorem slc_lo {i n : Nat} (h : i ≤ n) : slcOk (0 : Int) (i : Int) n = true := by
  simp only [slcOk, Bool.and_eq_true, decide_eq_true_eq]; omega
theorem slc_hi {i n : Nat} (h : i ≤ n) : slcOk (i : Int) (n : Int) n = true := by
  simp only [slcOk, Bool.and_eq_true, decide_eq_true_eq]; omega
theorem len_ok {bytes n : Nat} (h : bytes ≤ 200) (hn : n ≤ 1000000) : lenOk bytes n = true :=
  lenOk_small ⟨Nat.le_trans (Nat.mul_le_mul hn h) (by decide), hn⟩
/-- a loop that goes on while something is less -/
theorem while_at {α ρ : Type} (l : List α) (hl : l.length ≤ 1000000) (P : α → Bool) {step : Int × Unit → Option ((Int × Unit) ⊕ ρ)} {r : Nat → Option ρ}
    (h1 : ∀ (i : Nat) (y : α), l[i]? = some y → decide ((i : Int) < ((l.length : Nat) : Int)) = true → idx l (i : Int) = some y → P y = true → addI .i64 (i : Int) 1 = ((i + 1 : Nat) : Int) → step ((i : Int), ()) = some (.inl (((i + 1 : Nat) : Int), ())))
    (h2 : ∀ (i : Nat) (y : α), l[i]? = some y → decide ((i : Int) < ((l.length : Nat) : Int)) = true → idx l (i : Int) = some y → P y = false → step ((i : Int), ()) = Option.map Sum.inr (r i))
    (h3 : decide (((l.length : Nat) : Int) < ((l.length : Nat) : Int)) = false → step (((l.length : Nat) : Int), ()) = Option.map Sum.inr (r l.length)) :
    ∃ i, i ≤ l.length ∧ (∀ j, j < i → ∃ y, l[j]? = some y ∧ P y = true) ∧ (∀ y, l[i]? = some y → P y = false) ∧ loopO step ((0 : Int), ()) = r i := by
  suffices key : ∀ (k i : Nat), i + k = l.length → (∀ j, j < i → ∃ y, l[j]? = some y ∧ P y = true) → ∃ m, m ≤ l.length ∧ (∀ j, j < m → ∃ y, l[j]? = some y ∧ P y = true) ∧ (∀ y, l[m]? = some y → P y = false) ∧ loopO step ((i : Int), ()) = r m from key l.length 0 (by omega) (fun j hj => absurd hj (Nat.not_lt_zero _))
  intro k
  induction k with
  | zero =>
    intro i hi hj
    obtain rfl : i = l.length := by omega
    refine ⟨l.length, Nat.le_refl _, hj, fun y hy => by simp at hy, ?_⟩
    rw [loopO_eq, h3 (decide_eq_false (Int.lt_irrefl _))]
    cases r l.length <;> rfl
  | succ k ih =>
    intro i hi hj
    have hx : l[i]? = some l[i] := List.getElem?_eq_getElem (by omega)
    have hd : decide ((i : Int) < ((l.length : Nat) : Int)) = true := decide_eq_true (by omega)
    cases hP : P l[i] with
    | true =>
      rw [loopO_inl (h1 i _ hx hd (by rw [idx_nat]; exact hx) hP (add64 (by omega) (by omega)))]
      refine ih (i + 1) (by omega) fun j hj' => ?_
      rcases Nat.lt_or_ge j i with h | h
      · exact hj j h
      · obtain rfl : j = i := by omega
        exact ⟨_, hx, hP⟩
    | false =>
      refine ⟨i, by omega, hj, fun y hy => ?_, ?_⟩
      · rw [hx] at hy
        injection hy with hy
        rw [← hy]; exact hP
      · rw [loopO_eq, h2 i _ hx hd (by rw [idx_nat]; exact hx) hP]
        cases r i <;> rfl

theorem ins_while {α ρ : Type} [DecidableEq α] {lt : α → α → Bool} (l : List α) (hl : l.length ≤ 1000000) (x : α) {step : Int × Unit → Option ((Int × Unit) ⊕ ρ)} {k : List α → Option ρ}
    (h1 : ∀ (i : Nat) (y : α), decide ((i : Int) < ((l.length : Nat) : Int)) = true → idx l (i : Int) = some y → lt y x = true → addI .i64 (i : Int) 1 = ((i + 1 : Nat) : Int) → step ((i : Int), ()) = some (.inl (((i + 1 : Nat) : Int), ())))
    (h2 : ∀ (i : Nat) (y : α), i < l.length → decide ((i : Int) < ((l.length : Nat) : Int)) = true → decide ((i : Int) = ((l.length : Nat) : Int)) = false → idx l (i : Int) = some y → lt y x = false → step ((i : Int), ()) = Option.map Sum.inr (k (if y = x then l else l.take i ++ x :: l.drop i)))
    (h3 : decide (((l.length : Nat) : Int) < ((l.length : Nat) : Int)) = false → decide (((l.length : Nat) : Int) = ((l.length : Nat) : Int)) = true → step (((l.length : Nat) : Int), ()) = Option.map Sum.inr (k (l ++ [x]))) : loopO step ((0 : Int), ()) = k (insS lt x l) := by
  obtain ⟨i, hi, g1, g2, g3⟩ := while_at l hl (fun y => lt y x) (step := step) (r := fun i => k (if l[i]? = some x then l else l.take i ++ x :: l.drop i)) (fun i y hy hd hx hP hw => h1 i y hd hx hP hw) (fun i y hy hd hx hP => by
      have hlt := (List.getElem?_eq_some_iff.1 hy).1
      rw [h2 i y hlt hd (decide_eq_false (by omega)) hx hP, hy]
      by_cases hyx : y = x
      · simp [hyx]
      · have : ¬ (some y = some x) := fun h => hyx (by injection h)
        rw [if_neg hyx, if_neg this]) (fun hd => by
      rw [h3 hd (decide_eq_true rfl), if_neg (by simp), List.take_length, List.drop_length])
  rw [g3, insS_at x l i g1 g2]
/-! ### Ballots -/
theorem into_eq (l : List TBallot) (hl : l.length ≤ 900000) (b : TBallot) : F_ref24_into l b = some (if zeroB b then l else insS (fun x y => lessB y x) b l) := by
  unfold F_ref24_into
  rw [F_ref23_Zero_eq, Option.bind_some]
  cases hz : zeroB b with
  | true => rfl
  | false =>
    simp only [cond_false, letJ_eq]
    have he : ∀ y : TBallot, (decide (y.Counter = b.Counter) && decide (y.Value = b.Value)) = decide (y = b) := fun y => by
      rw [Bool.eq_iff_iff]
      cases y; cases b
      simp
    refine ins_while (lt := fun x y => lessB y x) l (by omega) b (k := fun t => some t) (fun i y hd hx hlt hw => ?_) (fun i y hi hd hde hx hlt => ?_) (fun hd hde => ?_)
    · simp only [hd, hx, hw, cond_true, Option.bind_some, F_ref23_Less_eq, hlt]
    · have e1 := take_drop0 l i
      have e2 := take_all l i
      simp only [hd, hx, cond_true, Option.bind_some, F_ref23_Less_eq, hlt, cond_false, eq2_false, e1, e2, slc_lo (show i ≤ l.length by omega), slc_hi (show i ≤ l.length by omega), he]
      rw [len_ok (by omega) (by simp; omega), len_ok (by omega) (by simp; omega), len_ok (by omega) (by simp; omega)]
      by_cases hyb : y = b <;> simp [hyb]
    · have e1 := take_drop0 l l.length
      have e2 := take_all l l.length
      simp only [hd, cond_false, e1, e2, slc_lo (Nat.le_refl l.length), slc_hi (Nat.le_refl l.length), cond_true]
      rw [len_ok (by omega) (by simp; omega), len_ok (by omega) (by simp; omega), len_ok (by omega) (by simp; omega)]
      simp
/-- a fold with an invariant -/
theorem fold_loop {α σ ρ : Type} (l : List α) (hl : l.length ≤ 1000000) (f : σ → α → σ) (Inv : Nat → σ → Prop) {step : σ × Int × Unit → Option ((σ × Int × Unit) ⊕ ρ)} {fin : σ → Option ρ}
    (hI : ∀ i s x, x ∈ l → Inv i s → Inv (i + 1) (f s x))
    (h1 : ∀ (i : Nat) (x : α) (s : σ), Inv i s → i ≤ l.length → x ∈ l → decide ((i : Int) < ((l.length : Nat) : Int)) = true → idx l (i : Int) = some x → addI .i64 (i : Int) 1 = ((i + 1 : Nat) : Int) → step (s, (i : Int), ()) = some (.inl (f s x, ((i + 1 : Nat) : Int), ())))
    (h2 : ∀ s, decide (((l.length : Nat) : Int) < ((l.length : Nat) : Int)) = false → step (s, ((l.length : Nat) : Int), ()) = Option.map Sum.inr (fin s)) (s : σ) (hs : Inv 0 s) : loopO step (s, (0 : Int), ()) = fin (l.foldl f s) := by
  suffices key : ∀ (k i : Nat) (s : σ), i + k = l.length → Inv i s → loopO step (s, (i : Int), ()) = fin ((l.drop i).foldl f s) from key l.length 0 s (by omega) hs
  intro k
  induction k with
  | zero =>
    intro i s hi hs
    obtain rfl : i = l.length := by omega
    rw [loopO_eq, h2 s (decide_eq_false (Int.lt_irrefl _)), List.drop_length, List.foldl_nil]
    cases fin s <;> rfl
  | succ k ih =>
    intro i s hi hs
    have hlt : i < l.length := by omega
    rw [loopO_inl (h1 i l[i] s hs (by omega) (List.getElem_mem hlt) (decide_eq_true (by omega)) (by rw [idx_nat]; exact List.getElem?_eq_getElem hlt) (add64 (by omega) (by omega))), ih (i + 1) _ (by omega) (hI i s _ (List.getElem_mem hlt) hs), List.drop_eq_getElem_cons hlt, List.foldl_cons]
/-- what the document puts into the list -/
noncomputable def rsaid (e : TEnvelope) : List TBallot := if isValid e then (if e.Kind = 1 then [e.Ballot, e.Prepared, e.Prime] else [e.Prepared, at_ e 1000000]) else []
theorem rsaid_said {e : TEnvelope} {x : TBallot} (hz : zeroB x = false) : x ∈ rsaid e ↔ x ∈ said e := by
  unfold rsaid said
  cases hv : isValid e with
  | false => simp
  | true =>
    by_cases k1 : e.Kind = 1
    · simp [k1]
    · by_cases k2 : e.Kind = 2
      · simp [k2]
      · have hp : zeroB e.Prepared = true := by
          unfold isValid validE at hv
          rw [Bool.and_eq_true, if_neg k1, if_neg k2] at hv
          have h := hv.2
          by_cases k3 : e.Kind = 3
          · rw [if_pos k3] at h
            simp only [extOk, Bool.and_eq_true] at h
            exact h.1.1.2
          · rw [if_neg k3] at h; cases h
        simp only [if_true, k1, k2, if_false, List.mem_cons, List.not_mem_nil, or_false]
        constructor
        · rintro (h | h)
          · rw [h, hp] at hz; cases hz
          · exact h
        · exact .inr
def intoB (l : List TBallot) (b : TBallot) : List TBallot := if zeroB b then l else insS (fun x y => lessB y x) b l
theorem intoB_foldl : ∀ (xs l : List TBallot), xs.foldl intoB l = (xs.filter fun b => !zeroB b).foldl (fun l x => insS (fun x y => lessB y x) x l) l
  | [], l => rfl
  | x :: xs, l => by
    rw [List.foldl_cons, intoB_foldl xs, List.filter_cons]
    cases hz : zeroB x <;> simp [intoB, hz]
theorem intoB_len (l : List TBallot) (b : TBallot) : (intoB l b).length ≤ l.length + 1 := by
  unfold intoB
  split
  · omega
  · exact insS_len b l
section
variable {l : List TEnvelope} (hl : ∀ e ∈ l, SmT e.Trust) (hlen : l.length ≤ 1000)
 include hl hlen
theorem rBallots_eq : F_ref24_Ballots l = some (ballotsN l) := by
  have hfold : ∀ xs : List TBallot, xs.length ≤ 3 → ∀ s : List TBallot, (xs.foldl intoB s).length ≤ s.length + xs.length := by
    intro xs _
    induction xs with
    | nil => intro s; simp
    | cons x xs ih =>
      intro s
      have := ih (by simp at *; omega) (intoB s x)
      have := intoB_len s x
      rw [List.foldl_cons, List.length_cons]
      omega
  have hr3 : ∀ e, (rsaid e).length ≤ 3 := fun e => by
    unfold rsaid
    split
    · split <;> simp
    · simp
  have hF : F_ref24_Ballots l = some (l.foldl (fun s e => (rsaid e).foldl intoB s) []) := by
    unfold F_ref24_Ballots
    refine fold_loop l (by omega) (fun s e => (rsaid e).foldl intoB s) (fun i s => s.length ≤ 3 * i) (fin := fun s => some s) (fun i s x _ hs => ?_) (fun i e s hs hi he hd hx hw => ?_) (fun s hd => ?_) [] (by simp)
    · have := hfold (rsaid x) (hr3 x) s
      have := hr3 x
      show (List.foldl intoB s (rsaid x)).length ≤ 3 * (i + 1)
      omega
    · simp only [hd, hx, hw, cond_true, letJ_eq, Option.bind_some, TTrust.eta, TEnvelope.eta, rValid_eq (hl e he)]
      have inner : ∀ L : List TBallot, L.length ≤ 3 → loopO (fun (v8 : (List TBallot) × Int × Unit) =>
          bif (decide (v8.2.1 < ((List.length L : Nat) : Int))) then Option.bind (idx L v8.2.1) fun x9 => Option.bind (F_ref24_into v8.1 x9) fun r10 => some (Sum.inl (r10, (addI .i64 v8.2.1 (1 : Int)), ()))
          else Option.map Sum.inr (some (Sum.inl (v8.1, ((i + 1 : Nat) : Int), ()) : ((List TBallot) × Int × Unit) ⊕ (List TBallot)))) (s, (0 : Int), ()) = some (Sum.inl (L.foldl intoB s, ((i + 1 : Nat) : Int), ())) := by
        intro L hL
        refine fold_loop L (by omega) intoB (fun k t => t.length ≤ s.length + k) (fin := fun t => some (Sum.inl (t, ((i + 1 : Nat) : Int), ()))) (fun k t x _ ht => ?_) (fun k x t ht hk hx' hd' hxx hw' => ?_) (fun t hd' => ?_) s (by simp)
        · have := intoB_len t x
          omega
        · simp only [hd', hxx, hw', cond_true, Option.bind_some, into_eq t (by omega)]
          rfl
        · simp only [hd', cond_false]
      cases hv : isValid e with
      | false => simp [rsaid, hv]
      | true =>
        by_cases k1 : e.Kind = 1
        · have i3 := inner [e.Ballot, e.Prepared, e.Prime] (by simp)
          simp only [Bool.not_true, cond_false, k1, decide_true, i3, rsaid, hv, if_true]
        · have i2 := inner [e.Prepared, ⟨1000000, e.Ballot.Value⟩] (by simp)
          simp only [Bool.not_true, Bool.not_false, cond_false, cond_true, k1, decide_false, i2, rsaid, hv, if_true, if_false, at_]
    · simp only [hd, cond_false]
  obtain ⟨_, h2, _, h4⟩ := ballotsN_ok hl hlen
  have hflat : l.foldl (fun s e => (rsaid e).foldl intoB s) [] = (l.flatMap rsaid).foldl intoB [] := by rw [List.foldl_flatMap]
  rw [hF, hflat, intoB_foldl]
  obtain ⟨h5, h6⟩ := insAll sto_B.flip ((l.flatMap rsaid).filter fun b => !zeroB b) [] .nil
  congr 1
  refine sto_B.flip.unique h5 h2 fun x => ?_
  rw [h6, h4]
  simp only [List.mem_filter, List.mem_flatMap, List.not_mem_nil, or_false, Bool.not_eq_true']
  constructor
  · rintro ⟨⟨e, he, hx⟩, hz⟩
    exact ⟨e, he, (rsaid_said hz).1 hx, hz⟩
  · rintro ⟨e, he, hx, hz⟩
    exact ⟨⟨e, he, (rsaid_said hz).2 hx⟩, hz⟩
end
section
variable {l : List TEnvelope} (hl : ∀ e ∈ l, SmT e.Trust) (hlen : l.length ≤ 1000)
 include hl hlen
end
end Go.Proofs.YtncjalhhkmojlaaGreat

set_option linter.unusedVariables false
namespace Go.Proofs.YtncjalhhkmojlaaGreat
open Go.TQ

theorem rVotesP_eq {e : TEnvelope} (h : SmT e.Trust) (b : TBallot) : F_ref24_VotesPrepare e b = some (isValid e && votesP e b) := by
  simp only [F_ref24_VotesPrepare, TTrust.eta, TEnvelope.eta, rValid_eq h, Option.bind_some, F_ref23_Zero_eq, F_ref23_Compatible_eq, F_ref23_Covers_eq]
  cases hv : isValid e with
  | false => simp
  | true =>
    cases hz : zeroB b with
    | true => simp [votesP, hz]
    | false => by_cases k1 : e.Kind = 1 <;> simp [votesP, hz, k1]
/-! ### sets of nodes -/
theorem whoN_rights (p : TEnvelope → Bool) : ∀ l : List TEnvelope, whoN (fun e => isValid e && p e) l = whoN p (rights l)
  | [] => rfl
  | e :: l => by
    have ih := whoN_rights p l
    rw [whoN, ih]
    cases hv : isValid e <;> simp [rights, hv, whoN]
theorem Set_loop (l : List TEnvelope) (hlen : l.length ≤ 1000) (p : TEnvelope → Bool) (hp : ∀ e ∈ l, p e = true → 0 ≤ e.Node ∧ e.Node < 10) : F_ref24_Set l (l.map p) = some ((whoN p l : Nat) : Int) := by
  unfold F_ref24_Set
  suffices key : ∀ (k i s : Nat), i + k = l.length → s < 1024 → loopO _ ((s : Int), (i : Int), ()) = some ((s ||| whoN p (l.drop i) : Nat) : Int) by
    have := key l.length 0 0 (by omega) (by omega)
    rw [Nat.zero_or, List.drop_zero] at this
    exact this
  intro k
  induction k with
  | zero =>
    intro i s hi hs
    obtain rfl : i = l.length := by omega
    have hd : decide (((l.length : Nat) : Int) < ((l.length : Nat) : Int)) = false := decide_eq_false (Int.lt_irrefl _)
    rw [loopO_inr (r := (s : Int)) (by simp only [hd, cond_false, Option.map_some]), List.drop_length, whoN]
    simp
  | succ k ih =>
    intro i s hi hs
    have hlt : i < l.length := by omega
    have hd : decide ((i : Int) < ((l.length : Nat) : Int)) = true := decide_eq_true (by omega)
    have hd2 : decide ((i : Int) < (((l.map p).length : Nat) : Int)) = true := decide_eq_true (by rw [List.length_map]; omega)
    have hw : addI .i64 (i : Int) 1 = ((i + 1 : Nat) : Int) := add64 (by omega) (by omega)
    have hx : idx l (i : Int) = some l[i] := by rw [idx_nat]; exact List.getElem?_eq_getElem hlt
    have hx2 : idx (l.map p) (i : Int) = some (p l[i]) := by rw [idx_nat, List.getElem?_map, List.getElem?_eq_getElem hlt]; rfl
    rw [List.drop_eq_getElem_cons hlt, whoN]
    cases hpe : p l[i] with
    | false =>
      rw [loopO_inl (s' := ((s : Int), ((i + 1 : Nat) : Int), ())) (by simp only [hd, hd2, hx, hx2, hw, hpe, cond_true, cond_false, letJ_eq, Option.bind_some]), ih (i + 1) s (by omega) hs]
      simp
    | true =>
      obtain ⟨h0, h1⟩ := hp _ (List.getElem_mem hlt) hpe
      have hc : convI .u64 l[i].Node = l[i].Node := by
        obtain ⟨n, hn⟩ : ∃ n : Nat, l[i].Node = n := ⟨l[i].Node.toNat, by omega⟩
        rw [hn]
        exact convU' (by omega)
      have hn0 : ¬ l[i].Node < 0 := by omega
      have d1 : decide ((0 : Int) ≤ l[i].Node) = true := decide_eq_true h0
      have d2 : decide (l[i].Node ≤ (9 : Int)) = true := decide_eq_true (by omega)
      rw [loopO_inl (s' := (((s ||| 2 ^ l[i].Node.toNat : Nat) : Int), ((i + 1 : Nat) : Int), ())) (by
        simp only [hd, hd2, hx, hx2, hw, hpe, cond_true, letJ_eq, Option.bind_some, d1, d2, hc, hn0, if_false]
        rw [orI_bit hs h0 h1]), ih (i + 1) _ (by omega) (or_lt hs h1)]
      simp [Nat.or_assoc]
/-- two lists of answers -/
theorem two_loop {ρ : Type} (l : List TEnvelope) (hl : l.length ≤ 1000) (p q : TEnvelope → Bool) {step : Int × List Bool × List Bool × Unit → Option ((Int × List Bool × List Bool × Unit) ⊕ ρ)} {fin : List Bool → List Bool → Option ρ}
    (h1 : ∀ (i : Nat) (e : TEnvelope) (vs as_ : List Bool), e ∈ l → decide ((i : Int) < ((l.length : Nat) : Int)) = true → idx l (i : Int) = some e → addI .i64 (i : Int) 1 = ((i + 1 : Nat) : Int) → (∀ x : Bool, lenOk 1 (vs.length + [x].length) = true) → (∀ x : Bool, lenOk 1 (as_.length + [x].length) = true) → step ((i : Int), vs, as_, ()) = some (.inl (((i + 1 : Nat) : Int), vs ++ [p e], as_ ++ [q e], ())))
    (h2 : ∀ vs as_, decide (((l.length : Nat) : Int) < ((l.length : Nat) : Int)) = false → step (((l.length : Nat) : Int), vs, as_, ()) = Option.map Sum.inr (fin vs as_)) : loopO step ((0 : Int), [], [], ()) = fin (l.map p) (l.map q) := by
  suffices key : ∀ (k i : Nat), i + k = l.length → loopO step ((i : Int), (l.take i).map p, (l.take i).map q, ()) = fin (l.map p) (l.map q) from key l.length 0 (by omega)
  intro k
  induction k with
  | zero =>
    intro i hi
    obtain rfl : i = l.length := by omega
    rw [loopO_eq, h2 _ _ (decide_eq_false (Int.lt_irrefl _)), List.take_length]
    cases fin (l.map p) (l.map q) <;> rfl
  | succ k ih =>
    intro i hi
    have hlt : i < l.length := by omega
    rw [loopO_inl (h1 i l[i] _ _ (List.getElem_mem hlt) (decide_eq_true (by omega)) (by rw [idx_nat]; exact List.getElem?_eq_getElem hlt) (add64 (by omega) (by omega)) (fun x => len_ok (by omega) (by simp; omega)) (fun x => len_ok (by omega) (by simp; omega))), ← ih (i + 1) (by omega), List.take_succ_eq_append_getElem hlt, List.map_append, List.map_append]
    rfl
theorem valid_in {p : TEnvelope → Bool} {l : List TEnvelope} : ∀ e ∈ l, (isValid e && p e) = true → 0 ≤ e.Node ∧ e.Node < 10 := fun e _ h => by
  rw [Bool.and_eq_true] at h
  exact isValid_node h.1
section
variable {l : List TEnvelope} (hl : ∀ e ∈ l, SmT e.Trust) (hlen : l.length ≤ 1000)
 include hl hlen
theorem sets25_eq (b : TBallot) : F_ref25_sets l b = some (((whoN (fun e => votesP e b || acceptsP e b) (rights l) : Nat) : Int), ((whoN (acceptsP · b) (rights l) : Nat) : Int), ()) := by
  unfold F_ref25_sets
  refine (two_loop l hlen (fun e => isValid e && (votesP e b || acceptsP e b)) (fun e => isValid e && acceptsP e b) (fin := fun vs as_ => Option.bind (F_ref24_Set l vs) fun r6 => Option.bind (F_ref24_Set l as_) fun r7 => some (r6, r7, ())) (fun i e vs as_ he hd hx hw o1 o2 => ?_) (fun vs as_ hd => ?_)).trans ?_
  · simp only [hd, hx, hw, cond_true, Option.bind_some, TTrust.eta, TEnvelope.eta, rAcceptsP_eq (hl e he), rVotesP_eq (hl e he), bif_some, o1, o2]
    cases isValid e <;> cases votesP e b <;> cases acceptsP e b <;> rfl
  · simp only [hd, cond_false]
  · rw [Set_loop l hlen _ valid_in, Set_loop l hlen _ valid_in, Option.bind_some, Option.bind_some, whoN_rights, whoN_rights]
end

/-! ### federated voting of the document -/
theorem rfedAccepts_eq {c : TConfig} (hc : SmC c) {v a b : Nat} (hv : v < 10) (h1 : a < 1024) (h2 : b < 1024) : F_ref18_Accepts c v a b = some (fedAccepts c.Members v a b) := by
  unfold F_ref18_Accepts fedAccepts
  have h3 : a ||| b < 1024 := Nat.or_lt_two_pow (n := 10) h1 h2
  rw [rvalidS_nat h1, rvalidS_nat h2, rBlocks_eq hc h2, orI_nat a b (by omega) (by omega), rGreatest_eq hc h3]
  simp [hasS_nat (gq_is hc h3).lt, hasN_nat, hv]
theorem rfedConfirms_eq {c : TConfig} (hc : SmC c) {v b : Nat} (hv : v < 10) (h2 : b < 1024) : F_ref18_Confirms c v b = some ((gq c.Members b).testBit v) := by
  unfold F_ref18_Confirms
  rw [rGreatest_eq hc h2]
  simp [hasS_nat (gq_is hc h2).lt, hasN_nat, hv]
/-- no node at all -/
def OutN (v : Int) : Prop := v < 0 ∨ 10 ≤ v
theorem has_out {v : Int} (h : OutN v) (s : Int) : hasS s v = false := by
  unfold hasS inNode
  have : (decide (0 ≤ v) && decide (v < 10)) = false := by
    rcases h with h | h
    · rw [show decide (0 ≤ v) = false from decide_eq_false (by omega)]; rfl
    · rw [show decide (v < 10) = false from decide_eq_false (by omega)]; simp
  simp [this]
theorem fed_out {c : TConfig} (hc : SmC c) {v : Int} (hv : OutN v) {a b : Nat} (h1 : a < 1024) (h2 : b < 1024) : F_federated_Accepts c v a b = some false := by
  have h3 : a ||| b < 1024 := Nat.or_lt_two_pow (n := 10) h1 h2
  unfold F_federated_Accepts F_blocking_Blocks
  rw [validS_nat h1, validS_nat h2, Declared_eq hc.len, orI_nat a b (by omega) (by omega), Greatest_eq hc h3]
  simp [has_out hv]
theorem rfed_out {c : TConfig} (hc : SmC c) {v : Int} (hv : OutN v) {a b : Nat} (h1 : a < 1024) (h2 : b < 1024) : F_ref18_Accepts c v a b = some false := by
  have h3 : a ||| b < 1024 := Nat.or_lt_two_pow (n := 10) h1 h2
  unfold F_ref18_Accepts F_ref11_Blocks
  rw [rvalidS_nat h1, rvalidS_nat h2, rDeclared_eq hc.len, orI_nat a b (by omega) (by omega), rGreatest_eq hc h3]
  simp [has_out hv]
theorem conf_out {c : TConfig} (hc : SmC c) {v : Int} (hv : OutN v) {b : Nat} (h2 : b < 1024) : F_federated_Confirms c v b = some false := by
  unfold F_federated_Confirms
  rw [Greatest_eq hc h2]
  simp [has_out hv]
theorem rconf_out {c : TConfig} (hc : SmC c) {v : Int} (hv : OutN v) {b : Nat} (h2 : b < 1024) : F_ref18_Confirms c v b = some false := by
  unfold F_ref18_Confirms
  rw [rGreatest_eq hc h2]
  simp [has_out hv]
def emptyC : TConfig := ⟨List.replicate 10 noMember⟩
theorem emptyC_sm : SmC emptyC := by
  refine ⟨by simp [emptyC], fun m hm => ?_⟩
  rw [List.eq_of_mem_replicate (show m ∈ List.replicate 10 noMember from hm)]
  exact .mk _ (by simp [noMember]) (by simp [noMember]) (by simp [noMember])
theorem view_out {v : Int} (hv : OutN v) (t : TTrust) (l : List TEnvelope) : F_prepare_View v t l = some emptyC := by
  unfold F_prepare_View
  have h1 : (decide ((10 : Int) = 10) && decide ((0 : Int) ≤ 10) && lenOk 64 (Int.toNat 10)) = true := by
    rw [lenOk_small (by decide)]; rfl
  rw [h1]
  rcases hv with hv | hv
  · simp only [cond_true, hv, decide_true, Option.bind_some]
    rfl
  · have : ¬ v < 0 := by omega
    simp only [cond_true, this, decide_false, cond_false, hv, decide_true, Option.bind_some]
    rfl
theorem rview_out {v : Int} (hv : OutN v) (t : TTrust) (l : List TEnvelope) : F_ref25_View v t l = some emptyC := by
  unfold F_ref25_View
  have h1 : (decide ((10 : Int) = 10) && decide ((0 : Int) ≤ 10) && lenOk 64 (Int.toNat 10)) = true := by
    rw [lenOk_small (by decide)]; rfl
  rw [h1]
  rcases hv with hv | hv
  · simp only [cond_true, hv, decide_true, Option.bind_some]
    rfl
  · have h0 : ¬ v < 0 := by omega
    have h9 : (9 : Int) < v := by omega
    simp only [cond_true, h0, decide_false, cond_false, h9, decide_true, Option.bind_some]
    rfl
end Go.Proofs.YtncjalhhkmojlaaGreat

set_option linter.unusedVariables false
namespace Go.Proofs.YtncjalhhkmojlaaGreat
open Go.TQ

theorem node_cases (v : Int) : OutN v ∨ ∃ n : Nat, n < 10 ∧ v = n := by
  by_cases h : v < 0
  · exact .inl (.inl h)
  · by_cases h' : 10 ≤ v
    · exact .inl (.inr h')
    · exact .inr ⟨v.toNat, by omega, by omega⟩
theorem seen_Accepts_eq {c : TConfig} {node : Int} {l : List TEnvelope} (hlen : l.length ≤ 100000) (b : TBallot) : F_prepare_Seen_ready ⟨node, c, (rights l).map TRight.mk⟩ b = F_federated_Accepts c node ((whoN (fun e => votesP e b || acceptsP e b) (rights l) : Nat) : Int) ((whoN (acceptsP · b) (rights l) : Nat) : Int) := by
  have hrl := rights_len l
  have hin := rights_in l
  simp only [F_prepare_Seen_ready, F_prepare_accepts, F_prepare_Seen_Accepts_c161_c164, Option.bind_some, Option.bind_fun_some, Who_either (by omega : (rights l).length ≤ 1000000) hin, Who_accepts (by omega : (rights l).length ≤ 1000000) hin]
theorem seen_Confirms_eq {c : TConfig} {node : Int} {l : List TEnvelope} (hlen : l.length ≤ 100000) (b : TBallot) : F_prepare_Seen_Confirms_c164 ⟨node, c, (rights l).map TRight.mk⟩ b = F_federated_Confirms c node ((whoN (acceptsP · b) (rights l) : Nat) : Int) := by
  have hrl := rights_len l
  have hin := rights_in l
  simp only [F_prepare_Seen_Confirms_c164, Option.bind_some, Option.bind_fun_some, Who_accepts (by omega : (rights l).length ≤ 1000000) hin]
/-- what a node sees, and what it may accept and confirm: the program's and the document's -/
theorem any25 (node : Int) {t : TTrust} (ht : SmT t) {l : List TEnvelope} (hl : SmL l) (hlen : l.length ≤ 1000) :
    ∃ (c : TConfig) (x y : TBallot → Bool), SmC c ∧ F_prepare_View node t l = some c ∧ F_ref25_View node t l = some c ∧ F_prepare_Look node t l = some ⟨node, c, (rights l).map TRight.mk⟩ ∧
      (∀ b, F_prepare_Seen_ready ⟨node, c, (rights l).map TRight.mk⟩ b = some (x b)) ∧ (∀ b, F_prepare_Seen_Confirms_c164 ⟨node, c, (rights l).map TRight.mk⟩ b = some (y b)) ∧
      (∀ b, F_prepare_Accepts node t l b = some (x b)) ∧ (∀ b, F_prepare_Confirms node t l b = some (y b)) ∧ (∀ b, F_ref25_Accepts node t l b = some (x b)) ∧ (∀ b, F_ref25_Confirms node t l b = some (y b)) := by
  have hin := rights_in l
  rcases node_cases node with ho | ⟨n, hn, rfl⟩
  · have hv := view_out ho t l
    have hL : F_prepare_Look node t l = some ⟨node, emptyC, (rights l).map TRight.mk⟩ := by
      unfold F_prepare_Look
      simp only [TTrust.eta, hv, Rights_eq hl, Option.bind_some]
    have h1 : ∀ b, F_prepare_Seen_ready ⟨node, emptyC, (rights l).map TRight.mk⟩ b = some false := fun b => by
      rw [seen_Accepts_eq (by omega), fed_out emptyC_sm ho (whoN_lt hin) (whoN_lt hin)]
    have h2 : ∀ b, F_prepare_Seen_Confirms_c164 ⟨node, emptyC, (rights l).map TRight.mk⟩ b = some false := fun b => by
      rw [seen_Confirms_eq (by omega), conf_out emptyC_sm ho (whoN_lt hin)]
    refine ⟨emptyC, fun _ => false, fun _ => false, emptyC_sm, hv, rview_out ho t l, hL, h1, h2, fun b => ?_, fun b => ?_, fun b => ?_, fun b => ?_⟩
    · simp only [F_prepare_Accepts, TTrust.eta, hL, Option.bind_some, h1]
    · simp only [F_prepare_Confirms, F_prepare_accepts, TTrust.eta, hL, Option.bind_some, h2]
    · simp only [F_ref25_Accepts, TTrust.eta, sets25_eq hl.trust hlen, rview_out ho, Option.bind_some, rfed_out emptyC_sm ho (whoN_lt hin) (whoN_lt hin)]
    · simp only [F_ref25_Confirms, TTrust.eta, sets25_eq hl.trust hlen, rview_out ho, Option.bind_some, rconf_out emptyC_sm ho (whoN_lt hin)]
  · have hsm := viewN_sm (node := n) ht hl
    refine ⟨⟨viewN n t l⟩, prepAccepts n t l, prepConfirms n t l, hsm, View_eq hn ht hl, rView_eq hn hl, Look_eq hn ht hl, pready_eq hn ht hl, pconf_eq hn ht hl, Accepts_eq hn ht hl, Confirms_eq hn ht hl, fun b => ?_, fun b => ?_⟩
    · simp only [F_ref25_Accepts, TTrust.eta, sets25_eq hl.trust hlen, rView_eq hn hl, Option.bind_some, rfedAccepts_eq hsm hn (whoN_lt hin) (whoN_lt hin)]
      rfl
    · simp only [F_ref25_Confirms, TTrust.eta, sets25_eq hl.trust hlen, rView_eq hn hl, Option.bind_some, rfedConfirms_eq hsm hn (whoN_lt hin)]
      rfl
theorem raised_eq (b : TBallot) : F_ref25_raised b = some (endless b) := endless_eq b
def nextX (x : TBallot → Bool) (p q : TBallot) (v : ByteArray) (b : TBallot) : Bool := (decide (v = noVal) || decide (b.Value = v)) && !preparesB (endless p) (endless q) b && x b
def highX (y : TBallot → Bool) (a b : TBallot) : Bool := lessB a b && decide (b.Counter ≤ 1000) && y b
section
variable {node : Int} {t : TTrust} {l : List TEnvelope} (hl : SmL l) (hlen : l.length ≤ 1000) {c : TConfig} {x y : TBallot → Bool}
 include hl hlen
theorem nextAny (hL : F_prepare_Look node t l = some ⟨node, c, (rights l).map TRight.mk⟩) (hx : ∀ b, F_prepare_Seen_ready ⟨node, c, (rights l).map TRight.mk⟩ b = some (x b)) (p q : TBallot) (v : ByteArray) : F_prepare_Next node t l p q v = some (((ballotsN l).find? (nextX x p q v)).getD noB) := by
  obtain ⟨h1, _, h3, _⟩ := ballotsN_ok hl.trust hlen
  unfold F_prepare_Next
  simp only [TTrust.eta, hL, h1, Option.bind_some]
  refine first_loop (ballotsN l) (by omega) (fun i => (i, TBallot.mk (0 : Int) (ByteArray.mk #[]), ())) (nextX x p q v) noB (fun i b hd hx' hw => ?_) (fun hd => ?_)
  · simp only [hd, hx', hw, cond_true, letJ_eq, Option.bind_some, endless_eq, F_ballots_Prepares_eq, hx]
    unfold nextX noVal
    cases decide (v = ByteArray.mk #[]) <;> cases decide (b.Value = v) <;> cases preparesB (endless p) (endless q) b <;> cases x b <;> simp
  · simp only [hd, cond_false, Option.map_some]
    rfl
theorem rnextAny (hx : ∀ b, F_ref25_Accepts node t l b = some (x b)) (p q : TBallot) (v : ByteArray) : F_ref25_Next node t l p q v = some (((ballotsN l).find? (nextX x p q v)).getD noB) := by
  obtain ⟨h1, _, h3, _⟩ := ballotsN_ok hl.trust hlen
  unfold F_ref25_Next
  simp only [TTrust.eta, rBallots_eq hl.trust hlen, Option.bind_some]
  refine first_loop (ballotsN l) (by omega) (fun i => (i, TBallot.mk (0 : Int) (ByteArray.mk #[]), ())) (nextX x p q v) noB (fun i b hd hx' hw => ?_) (fun hd => ?_)
  · simp only [hd, hx', hw, cond_true, letJ_eq, Option.bind_some, raised_eq, F_ref23_Prepares_eq, hx]
    unfold nextX noVal
    cases decide (v = ByteArray.mk #[]) <;> cases decide (b.Value = v) <;> cases preparesB (endless p) (endless q) b <;> cases x b <;> simp
  · simp only [hd, cond_false, Option.map_some]
    rfl
theorem highAny (hL : F_prepare_Look node t l = some ⟨node, c, (rights l).map TRight.mk⟩) (hy : ∀ b, F_prepare_Seen_Confirms_c164 ⟨node, c, (rights l).map TRight.mk⟩ b = some (y b)) (a : TBallot) : F_prepare_Highest node t l a = some (((ballotsN l).find? (highX y a)).getD noB) := by
  obtain ⟨h1, _, h3, _⟩ := ballotsN_ok hl.trust hlen
  unfold F_prepare_Highest
  simp only [TTrust.eta, hL, h1, Option.bind_some]
  refine first_loop (ballotsN l) (by omega) (fun i => (i, TBallot.mk (0 : Int) (ByteArray.mk #[]), ())) (highX y a) noB (fun i b hd hx' hw => ?_) (fun hd => ?_)
  · simp only [hd, hx', hw, cond_true, letJ_eq, Option.bind_some, F_ballots_Less_eq, F_prepare_accepts, hy]
    unfold highX
    cases lessB a b <;> cases decide (b.Counter ≤ 1000) <;> cases y b <;> simp
  · simp only [hd, cond_false, Option.map_some]
    rfl
theorem rhighAny (hy : ∀ b, F_ref25_Confirms node t l b = some (y b)) (a : TBallot) : F_ref25_Highest node t l a = some (((ballotsN l).find? (highX y a)).getD noB) := by
  obtain ⟨h1, _, h3, _⟩ := ballotsN_ok hl.trust hlen
  unfold F_ref25_Highest
  simp only [TTrust.eta, rBallots_eq hl.trust hlen, Option.bind_some]
  refine first_loop (ballotsN l) (by omega) (fun i => (i, TBallot.mk (0 : Int) (ByteArray.mk #[]), ())) (highX y a) noB (fun i b hd hx' hw => ?_) (fun hd => ?_)
  · simp only [hd, hx', hw, cond_true, Option.bind_some, F_ref23_Less_eq, hy]
    unfold highX
    cases lessB a b <;> cases decide (b.Counter ≤ 1000) <;> cases y b <;> simp
  · simp only [hd, cond_false, Option.map_some]
    rfl
end

/-! ### the same -/
theorem same01 (s : List Int) (h : s.length ≤ 1000000) : F_ref01_Same s s = some true := by
  unfold F_ref01_Same
  simp only [decide_true, Bool.not_true, cond_false]
  refine all_loop s.length (fun i => (i, ())) (fun i hi => ?_) ?_
  · have hd : decide ((i : Int) < ((s.length : Nat) : Int)) = true := decide_eq_true (by omega)
    have hw : addI .i64 (i : Int) 1 = ((i + 1 : Nat) : Int) := add64 (by omega) (by omega)
    have hx : idx s (i : Int) = some s[i] := by rw [idx_nat]; exact List.getElem?_eq_getElem hi
    simp only [hd, hx, hw, cond_true, Option.bind_some, decide_true, Bool.not_true, cond_false]
  · have hd : decide (((s.length : Nat) : Int) < ((s.length : Nat) : Int)) = false := decide_eq_false (Int.lt_irrefl _)
    simp only [hd, cond_false]
theorem I_same {n : Nat} : ∀ {t : TTrust}, SizeOf.sizeOf t < n → SmT t → I_ref02_Same n (t, t, ()) = some true := by
  induction n with
  | zero => intro t h; omega
  | succ n ih =>
    intro t hs hm
    show B_ref02_Same (I_ref02_Same n) t t = some true
    have hl := hm.len
    have hns := hm.nodes
    unfold B_ref02_Same
    simp only [decide_true, Bool.not_true, cond_false, same01 _ hns, Option.bind_some]
    refine all_loop t.Inner.length (fun i => (i, ())) (fun i hi => ?_) ?_
    · have hd : decide ((i : Int) < ((t.Inner.length : Nat) : Int)) = true := decide_eq_true (by omega)
      have hw : addI .i64 (i : Int) 1 = ((i + 1 : Nat) : Int) := add64 (by omega) (by omega)
      have hx : idx t.Inner (i : Int) = some t.Inner[i] := by rw [idx_nat]; exact List.getElem?_eq_getElem hi
      have hu := List.getElem_mem hi
      have := ih (t := t.Inner[i]) (by have := inner_lt hu; omega) (hm.inner _ hu)
      simp only [hd, hx, hw, cond_true, Option.bind_some, TTrust.eta, this, Bool.not_true, cond_false]
    · have hd : decide (((t.Inner.length : Nat) : Int) < ((t.Inner.length : Nat) : Int)) = false := decide_eq_false (Int.lt_irrefl _)
      simp only [hd, cond_false]
theorem same02 {t : TTrust} (h : SmT t) : F_ref02_Same t t = some true := I_same (by omega) h
theorem same06 {c : TConfig} (hc : SmC c) : F_ref06_Same c c = some true := by
  have hl := hc.len
  unfold F_ref06_Same
  simp only [decide_true, Bool.not_true, cond_false, letJ_eq]
  refine all_loop c.Members.length (fun i => (i, ())) (fun i hi => ?_) ?_
  · have hd : decide ((i : Int) < ((c.Members.length : Nat) : Int)) = true := decide_eq_true (by omega)
    have hw : addI .i64 (i : Int) 1 = ((i + 1 : Nat) : Int) := add64 (by omega) (by omega)
    have hx : idx c.Members (i : Int) = some c.Members[i] := by rw [idx_nat]; exact List.getElem?_eq_getElem hi
    simp only [hd, hx, hw, cond_true, Option.bind_some, TTrust.eta, same02 (hc.trust _ (List.getElem_mem hi)), decide_true, Bool.xor_self, Bool.not_true, cond_false]
  · have hd : decide (((c.Members.length : Nat) : Int) < ((c.Members.length : Nat) : Int)) = false := decide_eq_false (Int.lt_irrefl _)
    simp only [hd, cond_false]

/-! ### raw arguments -/
/-- is a raw trust small? -/
theorem thin_of {t : TTrust} {step : Int × Unit → Option ((Int × Unit) ⊕ Bool)} (h4 : t.Inner.length ≤ 4) (h12 : t.Nodes.length ≤ 12)
    (h1 : ∀ (i : Nat) (x : TTrust), decide ((i : Int) < ((t.Inner.length : Nat) : Int)) = true → idx t.Inner (i : Int) = some x → addI .i64 (i : Int) 1 = ((i + 1 : Nat) : Int) → step ((i : Int), ()) = some (bif (decide ((12 : Int) < ((x.Nodes.length : Nat) : Int)) || decide ((0 : Int) < ((x.Inner.length : Nat) : Int))) then .inr false else .inl (((i + 1 : Nat) : Int), ())))
    (h2 : decide (((t.Inner.length : Nat) : Int) < ((t.Inner.length : Nat) : Int)) = false → step (((t.Inner.length : Nat) : Int), ()) = some (.inr true)) : ∃ b, loopO step ((0 : Int), ()) = some b ∧ (b = true → SmT t) := by
  suffices key : ∀ (k i : Nat), i + k = t.Inner.length → (∀ u ∈ t.Inner.take i, SmT u) → ∃ b, loopO step ((i : Int), ()) = some b ∧ (b = true → SmT t) from key t.Inner.length 0 (by omega) (by simp)
  intro k
  induction k with
  | zero =>
    intro i hi hu
    obtain rfl : i = t.Inner.length := by omega
    rw [List.take_length] at hu
    exact ⟨true, loopO_inr (h2 (decide_eq_false (Int.lt_irrefl _))), fun _ => .mk t (by omega) (by omega) hu⟩
  | succ k ih =>
    intro i hi hu
    have hlt : i < t.Inner.length := by omega
    have hs := h1 i t.Inner[i] (decide_eq_true (by omega)) (by rw [idx_nat]; exact List.getElem?_eq_getElem hlt) (add64 (by omega) (by omega))
    cases hb : (decide ((12 : Int) < ((t.Inner[i].Nodes.length : Nat) : Int)) || decide ((0 : Int) < ((t.Inner[i].Inner.length : Nat) : Int))) with
    | true => rw [hb] at hs; exact ⟨false, loopO_inr hs, fun h => by cases h⟩
    | false =>
      rw [hb] at hs
      rw [loopO_inl hs]
      refine ih (i + 1) (by omega) fun u huu => ?_
      rw [List.take_succ_eq_append_getElem hlt, List.mem_append, List.mem_singleton] at huu
      rcases huu with huu | rfl
      · exact hu u huu
      · simp only [Bool.or_eq_false_iff, decide_eq_false_iff_not] at hb
        have h0 : t.Inner[i].Inner = [] := List.eq_nil_of_length_eq_zero (by omega)
        exact .mk _ (by omega) (by omega) (by rw [h0]; simp)
theorem thin25 (t : TTrust) : ∃ b, F_law25_thin t = some b ∧ (b = true → SmT t) := by
  unfold F_law25_thin
  by_cases h12 : t.Nodes.length ≤ 12
  · by_cases h4 : t.Inner.length ≤ 4
    · have d1 : decide ((12 : Int) < ((t.Nodes.length : Nat) : Int)) = false := decide_eq_false (by omega)
      have d2 : decide ((4 : Int) < ((t.Inner.length : Nat) : Int)) = false := decide_eq_false (by omega)
      simp only [d1, d2, cond_false, Option.bind_some]
      refine thin_of h4 h12 (fun i x hd hx hw => ?_) (fun hd => ?_)
      · simp only [hd, hx, hw, cond_true, Option.bind_some]
        cases decide ((12 : Int) < ((x.Nodes.length : Nat) : Int)) <;> cases decide ((0 : Int) < ((x.Inner.length : Nat) : Int)) <;> simp
      · simp only [hd, cond_false, Option.map_some]
    · have d2 : decide ((4 : Int) < ((t.Inner.length : Nat) : Int)) = true := decide_eq_true (by omega)
      refine ⟨false, ?_, fun h => by cases h⟩
      simp only [d2, bif_same, Option.bind_some, cond_true]
  · have d1 : decide ((12 : Int) < ((t.Nodes.length : Nat) : Int)) = true := decide_eq_true (by omega)
    refine ⟨false, ?_, fun h => by cases h⟩
    simp only [d1, cond_true, Option.bind_some]
/-- are raw envelopes few and small? -/
theorem few_of {l : List TEnvelope} (hmax : l.length ≤ 9223372036854775807) {thin : TTrust → Option Bool} (hthin : ∀ t, ∃ b, thin t = some b ∧ (b = true → SmT t)) {step : Int × Unit → Option ((Int × Unit) ⊕ Bool)}
    (h1 : ∀ (i : Nat) (e : TEnvelope) (b : Bool), decide ((i : Int) < ((l.length : Nat) : Int)) = true → idx l (i : Int) = some e → addI .i64 (i : Int) 1 = ((i + 1 : Nat) : Int) → thin e.Trust = some b → ∃ big : Bool, step ((i : Int), ()) = some (bif (!b || big) then .inr false else .inl (((i + 1 : Nat) : Int), ())))
    (h2 : decide (((l.length : Nat) : Int) < ((l.length : Nat) : Int)) = false → step (((l.length : Nat) : Int), ()) = some (.inr (decide (((l.length : Nat) : Int) ≤ 12)))) : ∃ b, loopO step ((0 : Int), ()) = some b ∧ (b = true → l.length ≤ 12 ∧ SmL l) := by
  suffices key : ∀ (k i : Nat), i + k = l.length → (∀ e ∈ l.take i, SmT e.Trust) → ∃ b, loopO step ((i : Int), ()) = some b ∧ (b = true → l.length ≤ 12 ∧ SmL l) from key l.length 0 (by omega) (by simp)
  intro k
  induction k with
  | zero =>
    intro i hi hu
    obtain rfl : i = l.length := by omega
    rw [List.take_length] at hu
    refine ⟨_, loopO_inr (h2 (decide_eq_false (Int.lt_irrefl _))), fun h => ?_⟩
    have := of_decide_eq_true h
    exact ⟨by omega, by omega, hu⟩
  | succ k ih =>
    intro i hi hu
    have hlt : i < l.length := by omega
    obtain ⟨b, hb, hbs⟩ := hthin l[i].Trust
    obtain ⟨big, hs⟩ := h1 i l[i] b (decide_eq_true (by omega)) (by rw [idx_nat]; exact List.getElem?_eq_getElem hlt) (add64 (by omega) (by omega)) hb
    cases hbb : (!b || big) with
    | true => rw [hbb] at hs; exact ⟨false, loopO_inr hs, fun h => by cases h⟩
    | false =>
      rw [hbb] at hs
      rw [loopO_inl hs]
      refine ih (i + 1) (by omega) fun e he => ?_
      rw [List.take_succ_eq_append_getElem hlt, List.mem_append, List.mem_singleton] at he
      rcases he with he | rfl
      · exact hu e he
      · refine hbs ?_
        cases b with
        | true => rfl
        | false => cases hbb
theorem few25 {l : List TEnvelope} (hmax : l.length ≤ 9223372036854775807) : ∃ b, F_law25_few l = some b ∧ (b = true → l.length ≤ 12 ∧ SmL l) := by
  unfold F_law25_few
  refine few_of hmax thin25 (fun i e b hd hx hw hb => ?_) (fun hd => ?_)
  · simp only [hd, hx, hw, cond_true, Option.bind_some, TTrust.eta, hb]
    generalize decide ((500 : Int) < _) = big
    refine ⟨big, ?_⟩
    cases b <;> cases big <;> simp
  · simp only [hd, cond_false, Option.map_some]
end Go.Proofs.YtncjalhhkmojlaaGreat

set_option linter.unusedVariables false
namespace Go.Proofs.YtncjalhhkmojlaaGreat
open Go.TQ

theorem join_same (p q b : TBallot) : ∃ x, F_prepare_Join p q b = some x ∧ F_ref25_Join p q b = some x := by
  simp only [F_prepare_Join, F_ref25_Join, F_ref23_Zero_eq, F_ref23_Less_eq, F_ref23_Compatible_eq, F_ballots_Zero_eq, F_ballots_Less_eq, F_ballots_Compatible_eq, Option.bind_some, letJ_eq, bif_some]
  have hc : compat b p = compat p b := by unfold compat; rw [decide_eq_decide]; exact ⟨Eq.symm, Eq.symm⟩
  rw [hc]
  cases zeroB b <;> cases zeroB p <;> cases lessB p b <;> cases compat p b <;> cases compat q b <;> cases lessB b p <;> cases zeroB q <;> cases lessB q b <;> exact ⟨_, rfl, rfl⟩
theorem eq2_self (a : Int) (s : ByteArray) : eq2 true a a s s = false := by simp
theorem xor_self_dec (b : Bool) : (xor true (decide (b = b))) = false := by simp
theorem idx_mem {α : Type} {l : List α} {i : Nat} (h : i < l.length) : ∃ x ∈ l, idx l (i : Int) = some x := ⟨l[i], List.getElem_mem h, by rw [idx_nat]; exact List.getElem?_eq_getElem h⟩
theorem Pick_ok {s : TSrc} (h : OkS s) {l : List Int} (h1 : 1 ≤ l.length) (h2 : l.length ≤ 1000) : Yd (F_play_Src_Pick s l) fun p => OkS p.2 := by
  unfold F_play_Src_Pick
  refine (N_ok h (by omega)).bind fun p ⟨a1, a2, a3, _⟩ => ?_
  have a4 := a3 (by omega)
  obtain ⟨x, hx, hi⟩ := idx_mem (l := l) (i := p.1.toNat) (by omega)
  rw [show ((p.1.toNat : Nat) : Int) = p.1 by omega] at hi
  rw [hi, Option.bind_some]
  exact Yd.some a1
theorem Ballot_ok {s : TSrc} (h : OkS s) : Yd (F_play_Src_Ballot s) fun p => OkS p.2 := by
  unfold F_play_Src_Ballot
  refine (Pick_ok h (by simp) (by simp)).bind fun p a1 => ?_
  refine (Value_ok a1).bind fun q ⟨b1, _⟩ => ?_
  exact Yd.some b1
/-- rounds that draw -/
theorem src_loop {ρ : Type} {p : ρ → Prop} (n : Nat) {step : Int × TSrc × Unit → Option ((Int × TSrc × Unit) ⊕ ρ)}
    (h1 : ∀ (i : Nat) (s : TSrc), i < n → OkS s → Yd (step ((i : Int), s, ())) fun y => match y with | .inl z => z.1 = ((i + 1 : Nat) : Int) ∧ OkS z.2.1 | .inr r => p r)
    (h2 : ∀ s, OkS s → Yd (step ((n : Int), s, ())) fun y => match y with | .inl _ => False | .inr r => p r) {s : TSrc} (hs : OkS s) : Yd (loopO step ((0 : Int), s, ())) p := by
  suffices key : ∀ (k i : Nat) (s : TSrc), i + k = n → OkS s → Yd (loopO step ((i : Int), s, ())) p from key n 0 s (by omega) hs
  intro k
  induction k with
  | zero =>
    intro i s hi hs
    obtain rfl : i = n := by omega
    obtain ⟨y, hy, hp⟩ := h2 s hs
    cases y with
    | inl z => exact hp.elim
    | inr r => exact ⟨r, loopO_inr hy, hp⟩
  | succ k ih =>
    intro i s hi hs
    obtain ⟨y, hy, hp⟩ := h1 i s (by omega) hs
    cases y with
    | inl z =>
      obtain ⟨z1, z2, z3⟩ := z
      obtain ⟨hz, hs'⟩ := hp
      simp only at hz hs'
      subst hz
      rw [loopO_inl hy]
      exact ih (i + 1) z2 (by omega) hs'
    | inr r => exact ⟨r, loopO_inr hy, hp⟩
theorem prepareExact (a0 : List Int) (a1 : List TEnvelope) (h1 : a1.length ≤ 9223372036854775807) (a2 : TTrust) (a3 : Int) (a4 a5 a6 : TBallot) (a7 : ByteArray) : F_law25_PrepareExact a0 a1 a2 a3 a4 a5 a6 a7 = some true := by
  refine Yd.eq_true ?_
  unfold F_law25_PrepareExact
  obtain ⟨bf, hf, hfew⟩ := few25 h1
  obtain ⟨bt, ht, hthin⟩ := thin25 a2
  simp only [hf, ht, TTrust.eta, TEnvelope.eta, Option.bind_some]
  generalize decide ((600 : Int) < _) = big
  cases bf with
  | false =>
    simp only [Bool.not_false, cond_true, Option.bind_some, sane25]
    exact Yd.some rfl
  | true =>
  cases bt with
  | false =>
    simp only [Bool.not_true, Bool.not_false, cond_true, cond_false, Option.bind_some, sane25]
    exact Yd.some rfl
  | true =>
  cases big with
  | true =>
    simp only [Bool.not_true, cond_true, cond_false, Option.bind_some, sane25]
    exact Yd.some rfl
  | false =>
  obtain ⟨hlen1, hsm1⟩ := hfew rfl
  have hsmt := hthin rfl
  simp only [Bool.not_true, cond_false, Option.bind_some]
  refine (New_ok a0).bind fun s hs => ?_
  refine (Envelopes_ok (n := 5) hs (by omega) (by omega)).bind fun p7 ⟨b1, b2⟩ => ?_
  have hsm0 := b2.sm (by omega)
  have hlen0 := b2.len
  generalize p7.1 = own at *
  refine (Ballot_ok b1).bind fun p8 c1 => ?_
  refine (Ballot_ok c1).bind fun p9 c2 => ?_
  refine (Ballot_ok c2).bind fun p10 c3 => ?_
  refine (Low_ok c3).bind fun p11 ⟨c4, _⟩ => ?_
  refine (Low_ok c4).bind fun p12 ⟨c5, _⟩ => ?_
  refine (Low_ok c5).bind fun p13 ⟨c6, _⟩ => ?_
  refine src_loop 4 (fun i s hi hs => ?_) (fun s hs => ?_) c6
  · have hd : decide ((i : Int) < 4) = true := decide_eq_true (by omega)
    have hw : addI .i64 (i : Int) 1 = ((i + 1 : Nat) : Int) := add64 (by omega) (by omega)
    simp only [hd, cond_true, hw]
    refine (Yd.of_eq (idx_mem (i := i) (by simp; omega)).choose_spec.2 trivial : Yd _ fun _ => True).bind fun x15 _ => ?_
    obtain ⟨j, hj1, hj2⟩ := join_same x15.c0 x15.c1 x15.c2
    simp only [hj1, hj2, Option.bind_some, eq2_self, cond_false]
    refine src_loop 2 (fun i' s hi' hs => ?_) (fun s hs => ?_) hs
    · have hd : decide ((i' : Int) < 2) = true := decide_eq_true (by omega)
      have hw' : addI .i64 (i' : Int) 1 = ((i' + 1 : Nat) : Int) := add64 (by omega) (by omega)
      simp only [hd, cond_true, hw']
      obtain ⟨l, hl, hli⟩ := idx_mem (l := [own, a1]) (i := i') (by simp; omega)
      rw [hli, Option.bind_some]
      have hl2 : SmL l ∧ l.length ≤ 1000 := by
        simp only [List.mem_cons, List.not_mem_nil, or_false] at hl
        rcases hl with rfl | rfl
        · exact ⟨hsm0, by omega⟩
        · exact ⟨hsm1, by omega⟩
      refine (N_ok hs (by omega)).bind fun p21 ⟨d1, _⟩ => ?_
      refine src_loop 2 (fun i2 s hi2 hs => ?_) (fun s hs => ?_) d1
      · have hd : decide ((i2 : Int) < 2) = true := decide_eq_true (by omega)
        have hw2 : addI .i64 (i2 : Int) 1 = ((i2 + 1 : Nat) : Int) := add64 (by omega) (by omega)
        simp only [hd, cond_true, hw2]
        obtain ⟨node, _, hni⟩ := idx_mem (l := [p21.1, a3]) (i := i2) (by simp; omega)
        rw [hni, Option.bind_some]
        refine Yd.join (fun v => OkS v.1 ∧ SmT v.2.1) (fun v ⟨g1, g2⟩ => ?_) fun j25 hj25 => ?_
        · obtain ⟨c, x, y, e1, e2, e3, e4, e5, e6, e7, e8, e9, e10⟩ := any25 node g2 hl2.1 hl2.2
          simp only [letJ_eq, e2, e3, e7, e8, e9, e10, nextAny hl2.1 hl2.2 e4 e5, rnextAny hl2.1 hl2.2 e9, highAny hl2.1 hl2.2 e4 e6, rhighAny hl2.1 hl2.2 e10, Option.bind_some, F_law25_same, same06 e1, Bool.not_true, cond_false, xor_self_dec, eq2_self]
          exact Yd.some ⟨rfl, g1⟩
        · refine Yd.cond (fun _ => ?_) (fun _ => hj25 _ ⟨hs, hsmt⟩)
          refine (Trust_ok (n := 5) hs (by omega) (by omega)).bind fun p43 ⟨f1, f2, _⟩ => ?_
          exact hj25 _ ⟨f1, f2.sm⟩
      · have hd : decide (((2 : Nat) : Int) < 2) = false := rfl
        simp only [hd, cond_false, Option.map_some]
        exact Yd.some ⟨rfl, hs⟩
    · have hd : decide (((2 : Nat) : Int) < 2) = false := rfl
      simp only [hd, cond_false, Option.map_some]
      exact Yd.some ⟨rfl, hs⟩
  · have hd : decide (((4 : Nat) : Int) < 4) = false := rfl
    simp only [hd, cond_false, sane25, Option.bind_some, Option.map_some]
    exact Yd.some rfl
end Go.Proofs.YtncjalhhkmojlaaGreat
