/-
  Plain lemmas for turned functions: Options, loops over lists, numbers, bits. Conditions: none.
-/
import Derived.Test.YtncjalhhkmojlaaGreatKdef
namespace Go.TQ

/-! ### options and tests -/
@[simp] theorem letJ_eq {σ ρ : Type} (j : σ → Option ρ) (f : (σ → Option ρ) → Option ρ) : letJ j f = f j := rfl
@[simp] theorem bif_some {α : Type} (b : Bool) (x y : α) : (bif b then some x else some y) = some (bif b then x else y) := by cases b <;> rfl
@[simp] theorem bif_same {α : Type} (b : Bool) (x : α) : (bif b then x else x) = x := by cases b <;> rfl
theorem bif_dec {α : Type} (p : Prop) [Decidable p] (x y : α) : (bif decide p then x else y) = if p then x else y := by
  by_cases h : p <;> simp [h]
theorem ite_some {α : Type} (p : Prop) [Decidable p] (x y : α) : (if p then some x else some y) = some (if p then x else y) := by split <;> rfl
@[simp] theorem bif_not {α : Type} (b : Bool) (x y : α) : (bif !b then x else y) = bif b then y else x := by cases b <;> rfl
@[simp] theorem eq2_false (a b : Int) (s t : ByteArray) : eq2 false a b s t = (decide (a = b) && decide (s = t)) := by simp [eq2]
@[simp] theorem eq2_true (a b : Int) (s t : ByteArray) : eq2 true a b s t = !(decide (a = b) && decide (s = t)) := by simp [eq2]

/-- it is there, and of it this holds -/
def Yd {α : Type} (o : Option α) (p : α → Prop) : Prop := ∃ x, o = some x ∧ p x
theorem Yd.bind {α β : Type} {o : Option α} {p : α → Prop} {f : α → Option β} {q : β → Prop} (h : Yd o p) (k : ∀ x, p x → Yd (f x) q) : Yd (o.bind f) q := by
  obtain ⟨x, rfl, hx⟩ := h
  exact k x hx
theorem Yd.mono {α : Type} {o : Option α} {p q : α → Prop} (h : Yd o p) (k : ∀ x, p x → q x) : Yd o q := by
  obtain ⟨x, h1, hx⟩ := h
  exact ⟨x, h1, k x hx⟩
theorem Yd.some {α : Type} {x : α} {p : α → Prop} (h : p x) : Yd (Option.some x) p := ⟨x, rfl, h⟩
theorem Yd.of_eq {α : Type} {o : Option α} {x : α} {p : α → Prop} (h : o = Option.some x) (hp : p x) : Yd o p := ⟨x, h, hp⟩
theorem Yd.cond {α : Type} {b : Bool} {x y : Option α} {p : α → Prop} (h1 : b = true → Yd x p) (h2 : b = false → Yd y p) : Yd (bif b then x else y) p := by
  cases b
  · exact h2 rfl
  · exact h1 rfl
theorem Yd.map {α β : Type} {o : Option α} {f : α → β} {p : β → Prop} (h : Yd o fun x => p (f x)) : Yd (o.map f) p := by
  obtain ⟨x, rfl, hx⟩ := h
  exact ⟨f x, rfl, hx⟩
theorem Yd.eq_true {o : Option Bool} (h : Yd o (· = true)) : o = Option.some true := by
  obtain ⟨x, h1, rfl⟩ := h
  exact h1

/-! ### numbers -/
theorem wrap64 {n : Int} (h1 : -9223372036854775808 ≤ n) (h2 : n ≤ 9223372036854775807) : IntKind.i64.wrap n = n := i64_in h1 h2
theorem add64 {a b : Int} (h1 : -9223372036854775808 ≤ a + b) (h2 : a + b ≤ 9223372036854775807) : addI .i64 a b = a + b := wrap64 h1 h2
theorem sub64 {a b : Int} (h1 : -9223372036854775808 ≤ a - b) (h2 : a - b ≤ 9223372036854775807) : subI .i64 a b = a - b := wrap64 h1 h2
theorem idx_nat {α : Type} (l : List α) (i : Nat) : idx l (i : Int) = l[i]? := by simp [idx]
theorem idx_of {α : Type} (l : List α) {n : Int} (h : 0 ≤ n) : idx l n = l[n.toNat]? := by simp [idx, h]
@[simp] theorem convI_i64_u8 (n : Nat) (h : n < 256) : convI .i64 (n : Int) = n := wrap64 (by omega) (by omega)
@[simp] theorem lenOk_small {bytes n : Nat} (h : n * bytes ≤ 140737488355328 ∧ n ≤ 1000000) : lenOk bytes n = true := by
  simp only [lenOk, Bool.and_eq_true, decide_eq_true_eq]
  exact ⟨h.1, Nat.le_trans h.2 (by simp [maxLen])⟩

/-! ### bits -/
theorem ofInt_nat (a : Nat) (h : a < 2 ^ 62) : (BitVec.ofInt 64 (a : Int)).toNat = a := by
  rw [BitVec.ofInt_natCast, BitVec.toNat_ofNat]
  exact Nat.mod_eq_of_lt (by omega)
theorem wrap_nat (n : Nat) (h : n < 2 ^ 62) : IntKind.i64.wrap (n : Int) = n := wrap64 (by omega) (by omega)
theorem andI_nat (a b : Nat) (ha : a < 2 ^ 62) (hb : b < 2 ^ 62) : andI .i64 (a : Int) (b : Int) = ((a &&& b : Nat) : Int) := by
  show IntKind.i64.wrap (((BitVec.ofInt 64 (a : Int) &&& BitVec.ofInt 64 (b : Int)).toNat : Nat) : Int) = _
  rw [BitVec.toNat_and, ofInt_nat a ha, ofInt_nat b hb]
  exact wrap_nat _ (Nat.lt_of_le_of_lt Nat.and_le_left ha)
theorem orI_nat (a b : Nat) (ha : a < 2 ^ 62) (hb : b < 2 ^ 62) : orI .i64 (a : Int) (b : Int) = ((a ||| b : Nat) : Int) := by
  show IntKind.i64.wrap (((BitVec.ofInt 64 (a : Int) ||| BitVec.ofInt 64 (b : Int)).toNat : Nat) : Int) = _
  rw [BitVec.toNat_or, ofInt_nat a ha, ofInt_nat b hb]
  exact wrap_nat _ (Nat.or_lt_two_pow ha hb)
theorem and_bit (s k : Nat) : s &&& 2 ^ k = if s.testBit k then 2 ^ k else 0 := by
  refine Nat.eq_of_testBit_eq fun i => ?_
  rw [Nat.testBit_and, Nat.testBit_two_pow]
  by_cases h : k = i
  · subst h
    cases hs : s.testBit k <;> simp
  · cases hs : s.testBit k <;> simp [h]
theorem shlI_one (k : Nat) (h : k ≤ 60) : shlI .i64 1 (k : Int) = ((2 ^ k : Nat) : Int) := by
  show IntKind.i64.wrap (1 * 2 ^ min (k : Int).toNat 64) = _
  rw [Int.toNat_natCast, show min k 64 = k from Nat.min_eq_left (by omega), Int.one_mul]
  have := wrap_nat (2 ^ k) (Nat.pow_lt_pow_right (by omega) (by omega))
  simpa using this
theorem shrI_nat (a k : Nat) (h : k ≤ 60) : shrI .i64 (a : Int) (k : Int) = ((a >>> k : Nat) : Int) := by
  show (a : Int).fdiv (2 ^ min (k : Int).toNat 64) = _
  rw [Int.toNat_natCast, show min k 64 = k from Nat.min_eq_left (by omega), Nat.shiftRight_eq_div_pow]
  rw [show (2 : Int) ^ k = ((2 ^ k : Nat) : Int) by simp, Int.fdiv_eq_ediv_of_nonneg _ (Int.natCast_nonneg _)]
  exact (Int.natCast_ediv a (2 ^ k)).symm

/-! ### loops -/
theorem loopO_inr {σ ρ : Type} {step : σ → Option (σ ⊕ ρ)} {s : σ} {r : ρ} (h : step s = some (.inr r)) : loopO step s = some r := by rw [loopO_eq, h]
theorem loopO_inl {σ ρ : Type} {step : σ → Option (σ ⊕ ρ)} {s s' : σ} (h : step s = some (.inl s')) : loopO step s = loopO step s' := by rw [loopO_eq, h]
theorem Yd.loop {σ ρ : Type} {step : σ → Option (σ ⊕ ρ)} {s : σ} {p : ρ → Prop} (h : Yd (step s) fun y => match y with | .inl s' => Yd (loopO step s') p | .inr r => p r) : Yd (loopO step s) p := by
  obtain ⟨y, h1, h2⟩ := h
  cases y with
  | inl s' => rw [loopO_inl h1]; exact h2
  | inr r => exact ⟨r, loopO_inr h1, h2⟩
theorem Yd.inr {σ ρ : Type} {o : Option ρ} {p : σ ⊕ ρ → Prop} (h : Yd o fun r => p (.inr r)) : Yd (Option.map Sum.inr o) p := h.map
/-- through a list, with a state, till the end or till something is found -/
def foldE {α σ ρ : Type} (g : α → σ → Option (σ ⊕ ρ)) (fin : σ → Option ρ) : List α → σ → Option ρ
  | [], s => fin s
  | x :: l, s => match g x s with
    | none => none
    | some (.inr r) => some r
    | some (.inl s') => foldE g fin l s'
/-- a loop whose state T is made of a place in the list and a rest -/
theorem loopO_list {α σ τ ρ : Type} (l : List α) (mk : Int → σ → τ) {step : τ → Option (τ ⊕ ρ)} (g : α → σ → Option (σ ⊕ ρ)) (fin : σ → Option ρ)
    (h1 : ∀ (i : Nat) (x : α) (s : σ), i < l.length → l[i]? = some x → step (mk i s) = match g x s with | none => none | some (.inr r) => some (.inr r) | some (.inl s') => some (.inl (mk (i + 1 : Nat) s')))
    (h2 : ∀ s, step (mk l.length s) = (fin s).map Sum.inr) (s : σ) : loopO step (mk 0 s) = foldE g fin l s := by
  suffices h : ∀ (k : Nat) (i : Nat) (s : σ), i + k = l.length → loopO step (mk i s) = foldE g fin (l.drop i) s by
    have := h l.length 0 s (by omega)
    simpa using this
  intro k
  induction k with
  | zero =>
    intro i s hi
    obtain rfl : i = l.length := by omega
    rw [List.drop_length, foldE, loopO_eq, h2]
    cases fin s <;> rfl
  | succ k ih =>
    intro i s hi
    have hlt : i < l.length := by omega
    rw [List.drop_eq_getElem_cons hlt, foldE, loopO_eq, h1 i l[i] s hlt (List.getElem?_eq_getElem hlt)]
    cases hg : g l[i] s with
    | none => rfl
    | some y =>
      cases y with
      | inr r => rfl
      | inl s' => exact ih (i + 1) s' (by omega)
/-- the loops that 'range' makes: the facts at a place are handed over -/
theorem loopO_range {α σ τ ρ : Type} (l : List α) (hl : l.length ≤ 9223372036854775807) (mk : Int → σ → τ) {step : τ → Option (τ ⊕ ρ)} (g : α → σ → Option (σ ⊕ ρ)) (fin : σ → Option ρ)
    (h1 : ∀ (i : Nat) (x : α) (s : σ), decide ((i : Int) < ((l.length : Nat) : Int)) = true → idx l (i : Int) = some x → addI .i64 (i : Int) 1 = ((i + 1 : Nat) : Int) → step (mk i s) = match g x s with | none => none | some (.inr r) => some (.inr r) | some (.inl s') => some (.inl (mk (i + 1 : Nat) s')))
    (h2 : ∀ s, decide (((l.length : Nat) : Int) < ((l.length : Nat) : Int)) = false → step (mk l.length s) = (fin s).map Sum.inr) (s : σ) : loopO step (mk 0 s) = foldE g fin l s :=
  loopO_list l mk g fin (fun i x s hi hx => h1 i x s (decide_eq_true (Int.ofNat_lt.2 hi)) (by rw [idx_nat]; exact hx) (add64 (by omega) (by omega))) (fun s => h2 s (decide_eq_false (Int.lt_irrefl _))) s
end Go.TQ
