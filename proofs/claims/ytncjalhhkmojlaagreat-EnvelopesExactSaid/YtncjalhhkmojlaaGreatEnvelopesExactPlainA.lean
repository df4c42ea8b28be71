/-
  Plain Lean: what the turned functions compute. Conditions: none beyond those that each theorem names.
-/
import Derived.Test.YtncjalhhkmojlaaGreatKdef
import Derived.Test.YtncjalhhkmojlaaGreatEnvelopesExactFns
import Derived.Sort.AssemblyPlain
namespace Go.TQ

/-! ### options and tests -/
@[simp] theorem letJ_eq {σ ρ : Type} (j : σ → Option ρ) (f : (σ → Option ρ) → Option ρ) : letJ j f = f j := rfl
@[simp] theorem bif_some {α : Type} (b : Bool) (x y : α) : (bif b then some x else some y) = some (bif b then x else y) := by cases b <;> rfl
@[simp] theorem bif_same {α : Type} (b : Bool) (x : α) : (bif b then x else x) = x := by cases b <;> rfl
theorem bif_dec {α : Type} (p : Prop) [Decidable p] (x y : α) : (bif decide p then x else y) = if p then x else y := by
  by_cases h : p <;> simp [h]
theorem ite_some {α : Type} (p : Prop) [Decidable p] (x y : α) : (if p then some x else some y) = some (if p then x else y) := by split <;> rfl
@[simp] theorem bif_not {α : Type} (b : Bool) (x y : α) : (bif !b then x else y) = bif b then y else x := by cases b <;> rfl
@[simp] theorem eq2_false (a b : Int) (s t : ByteArray) : eq2 false a b s t = (decide (a = b) && decide (s = t)) := by simp [eq2]
@[simp] theorem eq2_true (a b : Int) (s t : ByteArray) : eq2 true a b s t = !(decide (a = b) && decide (s = t)) := by simp [eq2]

/-- it is there, and of it this holds -/
def Yd {α : Type} (o : Option α) (p : α → Prop) : Prop := ∃ x, o = some x ∧ p x
theorem Yd.bind {α β : Type} {o : Option α} {p : α → Prop} {f : α → Option β} {q : β → Prop} (h : Yd o p) (k : ∀ x, p x → Yd (f x) q) : Yd (o.bind f) q := by
  obtain ⟨x, rfl, hx⟩ := h
  exact k x hx
theorem Yd.mono {α : Type} {o : Option α} {p q : α → Prop} (h : Yd o p) (k : ∀ x, p x → q x) : Yd o q := by
  obtain ⟨x, h1, hx⟩ := h
  exact ⟨x, h1, k x hx⟩
theorem Yd.some {α : Type} {x : α} {p : α → Prop} (h : p x) : Yd (Option.some x) p := ⟨x, rfl, h⟩
theorem Yd.cond {α : Type} {b : Bool} {x y : Option α} {p : α → Prop} (h1 : b = true → Yd x p) (h2 : b = false → Yd y p) : Yd (bif b then x else y) p := by
  cases b
  · exact h2 rfl
  · exact h1 rfl
theorem Yd.map {α β : Type} {o : Option α} {f : α → β} {p : β → Prop} (h : Yd o fun x => p (f x)) : Yd (o.map f) p := by
  obtain ⟨x, rfl, hx⟩ := h
  exact ⟨f x, rfl, hx⟩
theorem Yd.eq_true {o : Option Bool} (h : Yd o (· = true)) : o = Option.some true := by
  obtain ⟨x, h1, rfl⟩ := h
  exact h1

/-! ### numbers -/
theorem wrap64 {n : Int} (h1 : -9223372036854775808 ≤ n) (h2 : n ≤ 9223372036854775807) : IntKind.i64.wrap n = n := i64_in h1 h2
theorem add64 {a b : Int} (h1 : -9223372036854775808 ≤ a + b) (h2 : a + b ≤ 9223372036854775807) : addI .i64 a b = a + b := wrap64 h1 h2
theorem sub64 {a b : Int} (h1 : -9223372036854775808 ≤ a - b) (h2 : a - b ≤ 9223372036854775807) : subI .i64 a b = a - b := wrap64 h1 h2
theorem idx_nat {α : Type} (l : List α) (i : Nat) : idx l (i : Int) = l[i]? := by simp [idx]
theorem idx_of {α : Type} (l : List α) {n : Int} (h : 0 ≤ n) : idx l n = l[n.toNat]? := by simp [idx, h]
@[simp] theorem convI_i64_u8 (n : Nat) (h : n < 256) : convI .i64 (n : Int) = n := wrap64 (by omega) (by omega)
@[simp] theorem lenOk_small {bytes n : Nat} (h : n * bytes ≤ 140737488355328 ∧ n ≤ 1000000) : lenOk bytes n = true := by
  simp only [lenOk, Bool.and_eq_true, decide_eq_true_eq]
  exact ⟨h.1, Nat.le_trans h.2 (by simp [maxLen])⟩

/-! ### bits -/
theorem ofInt_nat (a : Nat) (h : a < 2 ^ 62) : (BitVec.ofInt 64 (a : Int)).toNat = a := by
  rw [BitVec.ofInt_natCast, BitVec.toNat_ofNat]
  exact Nat.mod_eq_of_lt (by omega)
theorem wrap_nat (n : Nat) (h : n < 2 ^ 62) : IntKind.i64.wrap (n : Int) = n := wrap64 (by omega) (by omega)
theorem andI_nat (a b : Nat) (ha : a < 2 ^ 62) (hb : b < 2 ^ 62) : andI .i64 (a : Int) (b : Int) = ((a &&& b : Nat) : Int) := by
  show IntKind.i64.wrap (((BitVec.ofInt 64 (a : Int) &&& BitVec.ofInt 64 (b : Int)).toNat : Nat) : Int) = _
  rw [BitVec.toNat_and, ofInt_nat a ha, ofInt_nat b hb]
  exact wrap_nat _ (Nat.lt_of_le_of_lt Nat.and_le_left ha)
theorem orI_nat (a b : Nat) (ha : a < 2 ^ 62) (hb : b < 2 ^ 62) : orI .i64 (a : Int) (b : Int) = ((a ||| b : Nat) : Int) := by
  show IntKind.i64.wrap (((BitVec.ofInt 64 (a : Int) ||| BitVec.ofInt 64 (b : Int)).toNat : Nat) : Int) = _
  rw [BitVec.toNat_or, ofInt_nat a ha, ofInt_nat b hb]
  exact wrap_nat _ (Nat.or_lt_two_pow ha hb)
theorem and_bit (s k : Nat) : s &&& 2 ^ k = if s.testBit k then 2 ^ k else 0 := by
  refine Nat.eq_of_testBit_eq fun i => ?_
  rw [Nat.testBit_and, Nat.testBit_two_pow]
  by_cases h : k = i
  · subst h
    cases hs : s.testBit k <;> simp
  · cases hs : s.testBit k <;> simp [h]
theorem shlI_one (k : Nat) (h : k ≤ 60) : shlI .i64 1 (k : Int) = ((2 ^ k : Nat) : Int) := by
  show IntKind.i64.wrap (1 * 2 ^ min (k : Int).toNat 64) = _
  rw [Int.toNat_natCast, show min k 64 = k from Nat.min_eq_left (by omega), Int.one_mul]
  have := wrap_nat (2 ^ k) (Nat.pow_lt_pow_right (by omega) (by omega))
  simpa using this
theorem shrI_nat (a k : Nat) (h : k ≤ 60) : shrI .i64 (a : Int) (k : Int) = ((a >>> k : Nat) : Int) := by
  show (a : Int).fdiv (2 ^ min (k : Int).toNat 64) = _
  rw [Int.toNat_natCast, show min k 64 = k from Nat.min_eq_left (by omega), Nat.shiftRight_eq_div_pow]
  rw [show (2 : Int) ^ k = ((2 ^ k : Nat) : Int) by simp, Int.fdiv_eq_ediv_of_nonneg _ (Int.natCast_nonneg _)]
  exact (Int.natCast_ediv a (2 ^ k)).symm

/-! ### loops -/
theorem loopO_inr {σ ρ : Type} {step : σ → Option (σ ⊕ ρ)} {s : σ} {r : ρ} (h : step s = some (.inr r)) : loopO step s = some r := by rw [loopO_eq, h]
theorem loopO_inl {σ ρ : Type} {step : σ → Option (σ ⊕ ρ)} {s s' : σ} (h : step s = some (.inl s')) : loopO step s = loopO step s' := by rw [loopO_eq, h]
theorem loopO_none {σ ρ : Type} {step : σ → Option (σ ⊕ ρ)} {s : σ} (h : step s = none) : loopO step s = none := by rw [loopO_eq, h]

theorem Yd.loop {σ ρ : Type} {step : σ → Option (σ ⊕ ρ)} {s : σ} {p : ρ → Prop} (h : Yd (step s) fun y => match y with | .inl s' => Yd (loopO step s') p | .inr r => p r) : Yd (loopO step s) p := by
  obtain ⟨y, h1, h2⟩ := h
  cases y with
  | inl s' => rw [loopO_inl h1]; exact h2
  | inr r => exact ⟨r, loopO_inr h1, h2⟩
/-- where ways meet -/
theorem Yd.join {σ ρ : Type} {j : σ → Option ρ} {f : (σ → Option ρ) → Option ρ} {p : ρ → Prop} (inv : σ → Prop) (h1 : ∀ v, inv v → Yd (j v) p) (h2 : ∀ j' : σ → Option ρ, (∀ v, inv v → Yd (j' v) p) → Yd (f j') p) : Yd (letJ j f) p := h2 j h1
theorem Yd.inr {σ ρ : Type} {o : Option ρ} {p : σ ⊕ ρ → Prop} (h : Yd o fun r => p (.inr r)) : Yd (Option.map Sum.inr o) p := h.map
/-- through a list, with a state, till the end or till something is found -/
def foldE {α σ ρ : Type} (g : α → σ → Option (σ ⊕ ρ)) (fin : σ → Option ρ) : List α → σ → Option ρ
  | [], s => fin s
  | x :: l, s => match g x s with
    | none => none
    | some (.inr r) => some r
    | some (.inl s') => foldE g fin l s'
/-- a loop whose state T is made of a place in the list and a rest -/
theorem loopO_list {α σ τ ρ : Type} (l : List α) (mk : Int → σ → τ) {step : τ → Option (τ ⊕ ρ)} (g : α → σ → Option (σ ⊕ ρ)) (fin : σ → Option ρ)
    (h1 : ∀ (i : Nat) (x : α) (s : σ), i < l.length → l[i]? = some x → step (mk i s) = match g x s with | none => none | some (.inr r) => some (.inr r) | some (.inl s') => some (.inl (mk (i + 1 : Nat) s')))
    (h2 : ∀ s, step (mk l.length s) = (fin s).map Sum.inr) (s : σ) : loopO step (mk 0 s) = foldE g fin l s := by
  suffices h : ∀ (k : Nat) (i : Nat) (s : σ), i + k = l.length → loopO step (mk i s) = foldE g fin (l.drop i) s by
    have := h l.length 0 s (by omega)
    simpa using this
  intro k
  induction k with
  | zero =>
    intro i s hi
    obtain rfl : i = l.length := by omega
    rw [List.drop_length, foldE, loopO_eq, h2]
    cases fin s <;> rfl
  | succ k ih =>
    intro i s hi
    have hlt : i < l.length := by omega
    rw [List.drop_eq_getElem_cons hlt, foldE, loopO_eq, h1 i l[i] s hlt (List.getElem?_eq_getElem hlt)]
    cases hg : g l[i] s with
    | none => rfl
    | some y =>
      cases y with
      | inr r => rfl
      | inl s' => exact ih (i + 1) s' (by omega)
/-- the loops that 'range' makes: the facts at a place are handed over -/
theorem loopO_range {α σ τ ρ : Type} (l : List α) (hl : l.length ≤ 9223372036854775807) (mk : Int → σ → τ) {step : τ → Option (τ ⊕ ρ)} (g : α → σ → Option (σ ⊕ ρ)) (fin : σ → Option ρ)
    (h1 : ∀ (i : Nat) (x : α) (s : σ), decide ((i : Int) < ((l.length : Nat) : Int)) = true → idx l (i : Int) = some x → addI .i64 (i : Int) 1 = ((i + 1 : Nat) : Int) → step (mk i s) = match g x s with | none => none | some (.inr r) => some (.inr r) | some (.inl s') => some (.inl (mk (i + 1 : Nat) s')))
    (h2 : ∀ s, decide (((l.length : Nat) : Int) < ((l.length : Nat) : Int)) = false → step (mk l.length s) = (fin s).map Sum.inr) (s : σ) : loopO step (mk 0 s) = foldE g fin l s :=
  loopO_list l mk g fin (fun i x s hi hx => h1 i x s (decide_eq_true (Int.ofNat_lt.2 hi)) (by rw [idx_nat]; exact hx) (add64 (by omega) (by omega))) (fun s => h2 s (decide_eq_false (Int.lt_irrefl _))) s
end Go.TQ

namespace Go.Proofs.YtncjalhhkmojlaaGreat
open Go.TQ

def noVal : ByteArray := ⟨#[]⟩
def zeroB (b : TBallot) : Bool := decide (b.Counter = 0) && decide (b.Value = noVal)
def lessV (a b : ByteArray) : Bool := if a.size = b.size then sless a b else decide (a.size < b.size)
def lessB (a b : TBallot) : Bool := if a.Counter = b.Counter then lessV a.Value b.Value else decide (a.Counter < b.Counter)
def compat (a b : TBallot) : Bool := decide (a.Value = b.Value)
def covers (p b : TBallot) : Bool := !zeroB p && compat p b && decide (b.Counter ≤ p.Counter)
def preparesB (p q b : TBallot) : Bool := covers p b || covers q b || (!zeroB q && lessB b q)
def aborts (p b : TBallot) : Bool := !zeroB p && !compat p b && lessB b p
def validB (b : TBallot) : Bool := (decide (1 ≤ b.Counter) && decide (b.Counter ≤ 1000) || decide (b.Counter = 1000000)) && decide (1 ≤ b.Value.size) && decide (b.Value.size ≤ 200)

theorem bl_irrefl : ∀ x : List UInt8, Op.bytesLess x x = false
  | [] => rfl
  | a :: l => by simp [Op.bytesLess, bl_irrefl l]
theorem bl_total : ∀ {x y : List UInt8}, x ≠ y → Op.bytesLess x y = true ∨ Op.bytesLess y x = true
  | [], [], h => absurd rfl h
  | [], _ :: _, _ => .inl rfl
  | _ :: _, [], _ => .inr rfl
  | a :: l, b :: m, h => by
    simp only [Op.bytesLess]
    by_cases hab : a = b
    · subst hab
      have : l ≠ m := fun e => h (by rw [e])
      simpa using bl_total this
    · rcases Nat.lt_or_gt_of_ne (fun e => hab (UInt8.toNat_inj.1 e)) with h1 | h1
      · have h2 : a < b := h1
        simp [h2]
      · have h2 : b < a := h1
        simp [h2]
theorem sless_irrefl (a : ByteArray) : sless a a = false := bl_irrefl _
@[simp] theorem F_ballots_Zero_eq (b : TBallot) : F_ballots_Zero b = some (zeroB b) := by unfold F_ballots_Zero zeroB; rw [eq2_false]; rfl
@[simp] theorem F_ref23_Zero_eq (b : TBallot) : F_ref23_Zero b = some (zeroB b) := by unfold F_ref23_Zero zeroB; rw [eq2_false]; rfl
@[simp] theorem F_ballots_Compatible_eq (a b : TBallot) : F_ballots_Compatible a b = some (compat a b) := rfl
@[simp] theorem F_ref23_Compatible_eq (a b : TBallot) : F_ref23_Compatible a b = some (compat a b) := rfl
@[simp] theorem F_ballots_Valid_eq (b : TBallot) : F_ballots_Valid b = some (validB b) := by
  have h1 : decide ((1 : Int) ≤ (b.Value.size : Nat)) = decide (1 ≤ b.Value.size) := by rw [decide_eq_decide]; omega
  have h2 : decide (((b.Value.size : Nat) : Int) ≤ 200) = decide (b.Value.size ≤ 200) := by rw [decide_eq_decide]; omega
  simp only [F_ballots_Valid, validB, h1, h2, bif_some, Option.bind_some, Bool.cond_false_right, Bool.cond_true_left]
@[simp] theorem F_ref23_Valid_eq (b : TBallot) : F_ref23_Valid b = some (validB b) := F_ballots_Valid_eq b
@[simp] theorem F_ref23_LessValue_eq (a b : ByteArray) : F_ref23_LessValue a b = some (lessV a b) := by
  simp only [F_ref23_LessValue, lessV, bif_not, Int.ofNat_inj, Int.ofNat_lt, bif_dec, ite_some]
@[simp] theorem F_ref23_Less_eq (a b : TBallot) : F_ref23_Less a b = some (lessB a b) := by
  simp [F_ref23_Less, lessB, bif_dec, ite_some]
@[simp] theorem F_ref23_Covers_eq (a b : TBallot) : F_ref23_Covers a b = some (covers a b) := by simp [F_ref23_Covers, covers]
@[simp] theorem F_ballots_Covers_eq (a b : TBallot) : F_ballots_Covers a b = some (covers a b) := by simp [F_ballots_Covers, covers]
@[simp] theorem F_ref23_Prepares_eq (p q b : TBallot) : F_ref23_Prepares p q b = some (preparesB p q b) := by simp [F_ref23_Prepares, preparesB]
@[simp] theorem F_ref23_Aborts_eq (p b : TBallot) : F_ref23_Aborts p b = some (aborts p b) := by simp [F_ref23_Aborts, aborts]

/-! ### comparing -/
def cmpI (a b : Int) : Int := if a < b then -1 else if b < a then 1 else 0
def cmpS (a b : ByteArray) : Int := if sless a b then -1 else if sless a b || decide (a = b) then 0 else 1
def orL : List Int → Int
  | [] => 0
  | x :: l => if x = 0 then orL l else x
@[simp] theorem F_cmp_Compare_int_eq (a b : Int) : F_cmp_Compare_int a b = some (cmpI a b) := by
  simp [F_cmp_Compare_int, F_cmp_isNaN_int, cmpI, bif_dec, ite_some]
@[simp] theorem F_cmp_Compare_string_eq (a b : ByteArray) : F_cmp_Compare_string a b = some (cmpS a b) := by
  simp only [F_cmp_Compare_string, F_cmp_isNaN_string, cmpS]
  cases h1 : sless a b <;> by_cases h2 : a = b <;> simp [h2]
theorem F_cmp_Or_int_eq (l : List Int) (hl : l.length ≤ 1000000) : F_cmp_Or_int l = some (orL l) := by
  unfold F_cmp_Or_int
  rw [loopO_range l (by omega) (fun i (_ : Unit) => (i, ())) (fun x _ => some (if x = 0 then .inl () else .inr x)) (fun _ => some 0) (fun i x s hd hx hw => ?_) (fun s hd => ?_) ()]
  · induction l with
    | nil => rfl
    | cons x l ih =>
      rw [foldE, orL]
      by_cases h : x = 0
      · simp only [h, if_true]; exact ih (by simp at hl; omega)
      · simp only [if_neg h]
  · by_cases h : x = 0 <;> simp only [hd, hx, hw, h, cond_true, Option.bind_some] <;> simp
  · simp only [hd, cond_false]
@[simp] theorem F_cmp_Or_int_two (a b : Int) : F_cmp_Or_int [a, b] = some (if a = 0 then b else a) := by
  rw [F_cmp_Or_int_eq _ (by simp)]
  simp only [orL]
  by_cases h : a = 0 <;> by_cases h' : b = 0 <;> simp [h, h']
def cmpV (a b : ByteArray) : Int := if cmpI a.size b.size = 0 then cmpS a b else cmpI a.size b.size
def cmpB (a b : TBallot) : Int := if cmpI a.Counter b.Counter = 0 then cmpV a.Value b.Value else cmpI a.Counter b.Counter
@[simp] theorem F_ballots_CompareValues_eq (a b : ByteArray) : F_ballots_CompareValues a b = some (cmpV a b) := by simp [F_ballots_CompareValues, cmpV]
@[simp] theorem F_ballots_Compare_eq (a b : TBallot) : F_ballots_Compare a b = some (cmpB a b) := by simp [F_ballots_Compare, cmpB]
theorem cmpI_zero (a b : Int) : cmpI a b = 0 ↔ a = b := by unfold cmpI; split <;> (try split) <;> omega
theorem cmpI_neg (a b : Int) : cmpI a b < 0 ↔ a < b := by unfold cmpI; split <;> (try split) <;> omega
theorem cmpS_neg (a b : ByteArray) : cmpS a b < 0 ↔ sless a b = true := by
  unfold cmpS
  split
  · rename_i h; simp [h]
  · rename_i h
    split <;> simp [h]
theorem cmpV_neg (a b : ByteArray) : decide (cmpV a b < 0) = lessV a b := by
  unfold cmpV lessV
  by_cases h : a.size = b.size
  · rw [if_pos ((cmpI_zero _ _).2 (by rw [h])), if_pos h]
    rw [Bool.eq_iff_iff, decide_eq_true_eq, cmpS_neg]
  · rw [if_neg (fun e => h (by have := (cmpI_zero _ _).1 e; omega)), if_neg h, decide_eq_decide, cmpI_neg]
    omega
theorem cmpB_neg (a b : TBallot) : decide (cmpB a b < 0) = lessB a b := by
  unfold cmpB lessB
  by_cases h : a.Counter = b.Counter
  · rw [if_pos ((cmpI_zero _ _).2 h), if_pos h, cmpV_neg]
  · rw [if_neg (fun e => h ((cmpI_zero _ _).1 e)), if_neg h, decide_eq_decide, cmpI_neg]
@[simp] theorem F_ballots_Less_eq (a b : TBallot) : F_ballots_Less a b = some (lessB a b) := by simp [F_ballots_Less, cmpB_neg]
@[simp] theorem F_ballots_Prepares_eq (p q b : TBallot) : F_ballots_Prepares p q b = some (preparesB p q b) := by simp [F_ballots_Prepares, preparesB]
@[simp] theorem F_ballots_Aborts_eq (p b : TBallot) : F_ballots_Aborts p b = some (aborts p b) := by simp [F_ballots_Aborts, aborts]
def finite (b : TBallot) : Bool := validB b && decide (b.Counter ≤ 1000)
@[simp] theorem F_envelopes_finite_eq (b : TBallot) : F_envelopes_finite b = some (finite b) := by simp [F_envelopes_finite, finite]
@[simp] theorem F_envelopes_optional_eq (b : TBallot) : F_envelopes_optional b = some (zeroB b || validB b) := by simp [F_envelopes_optional]
@[simp] theorem F_envelopes_at_eq (e : TEnvelope) (n : Int) : F_envelopes_at e n = some ⟨n, e.Ballot.Value⟩ := rfl
end Go.Proofs.YtncjalhhkmojlaaGreat

namespace Go.Proofs.YtncjalhhkmojlaaGreat
open Go.TQ

theorem B_depth {rec : (TTrust × Unit) → Option Int} {t : TTrust} (hl : t.Inner.length ≤ 9223372036854775807) :
    B_threshold_Depth rec t = foldE (fun u m => (rec (u, ())).map fun r => .inl (maxI m r)) (fun m => some (addI .i64 m 1)) t.Inner 0 := by
  unfold B_threshold_Depth
  rw [loopO_range t.Inner hl (fun i (m : Int) => (m, i, ())) (fun u m => (rec (u, ())).map fun r => .inl (maxI m r)) (fun m => some (addI .i64 m 1)) (fun i x s hd hx hw => ?_) (fun s hd => ?_) 0]
  · simp only [hd, hx, hw, cond_true, Option.bind_some, TTrust.eta]
    cases rec (x, ()) <;> rfl
  · simp only [hd, cond_false]
theorem B_size {rec : (TTrust × Unit) → Option Int} {t : TTrust} (hl : t.Inner.length ≤ 9223372036854775807) :
    B_threshold_Size rec t = foldE (fun u m => (rec (u, ())).map fun r => .inl (addI .i64 m r)) (fun m => some m) t.Inner (addI .i64 t.Nodes.length t.Inner.length) := by
  unfold B_threshold_Size
  rw [loopO_range t.Inner hl (fun i (m : Int) => (m, i, ())) (fun u m => (rec (u, ())).map fun r => .inl (addI .i64 m r)) (fun m => some m) (fun i x s hd hx hw => ?_) (fun s hd => ?_) (addI .i64 t.Nodes.length t.Inner.length)]
  · simp only [hd, hx, hw, cond_true, Option.bind_some, TTrust.eta]
    cases rec (x, ()) <;> rfl
  · simp only [hd, cond_false]
theorem ref_depth (t : TTrust) : F_ref02_Depth t = F_threshold_Depth t := rfl
theorem ref_size (t : TTrust) : F_ref02_Size t = F_threshold_Size t := rfl

/-! ### sets of nodes -/
def inNode (x : Int) : Bool := decide (0 ≤ x) && decide (x < 10)
def hasS (s x : Int) : Bool := decide (0 ≤ s) && decide (s < 1024) && inNode x && s.toNat.testBit x.toNat
theorem below10 (s : Int) : F_nodeset_Valid s = some (decide (0 ≤ s) && decide (s < 1024)) := by
  have : shlI .i64 1 10 = 1024 := shlI_one 10 (by omega)
  simp [F_nodeset_Valid, F_nodeset_below, this]
theorem andI_testBit {s x : Int} (h1 : 0 ≤ s) (h2 : s < 1024) (h3 : 0 ≤ x) (h4 : x < 10) : (andI .i64 s (shlI .i64 1 x) = 0) = (s.toNat.testBit x.toNat = false) := by
  obtain ⟨n, rfl⟩ := Int.eq_ofNat_of_zero_le h1
  obtain ⟨j, rfl⟩ := Int.eq_ofNat_of_zero_le h3
  have hj : 2 ^ j ≤ 2 ^ 10 := Nat.pow_le_pow_right (by omega) (by omega)
  rw [shlI_one j (by omega), andI_nat n (2 ^ j) (by omega) (by omega), and_bit]
  simp only [Int.toNat_natCast]
  have hp : 2 ^ j ≠ 0 := Nat.pos_iff_ne_zero.1 (Nat.pow_pos (by omega))
  cases n.testBit j
  · simp
  · rw [if_pos rfl]
    simp only [Bool.true_eq_false, eq_iff_iff, iff_false]
    omega
@[simp] theorem F_nodeset_Has_eq (s x : Int) : F_nodeset_Has s x = some (hasS s x) := by
  unfold F_nodeset_Has hasS inNode
  rw [below10]
  by_cases h1 : 0 ≤ s
  · by_cases h2 : s < 1024
    · by_cases h3 : 0 ≤ x
      · by_cases h4 : x < 10
        · have h5 : ¬ x < 0 := by omega
          have := andI_testBit h1 h2 h3 h4
          simp [h1, h2, h3, h4, h5, this]
        · simp [h1, h2, h3, h4]
      · simp [h1, h2, h3]
    · simp [h1, h2]
  · simp [h1]
theorem shr_testBit {s x : Int} (h1 : 0 ≤ s) (h2 : s < 1024) (h3 : 0 ≤ x) (h4 : x < 10) : (andI .i64 (shrI .i64 s x) 1 = 1) = (s.toNat.testBit x.toNat = true) := by
  obtain ⟨n, rfl⟩ := Int.eq_ofNat_of_zero_le h1
  obtain ⟨j, rfl⟩ := Int.eq_ofNat_of_zero_le h3
  have hle : n >>> j ≤ n := by rw [Nat.shiftRight_eq_div_pow]; exact Nat.div_le_self _ _
  rw [shrI_nat n j (by omega), show (1 : Int) = ((1 : Nat) : Int) from rfl, andI_nat _ 1 (by omega) (by omega)]
  simp only [Int.toNat_natCast, Int.ofNat_inj, Nat.testBit, eq_iff_iff]
  rw [Nat.and_comm]
  simp
@[simp] theorem F_ref01_Has_eq (s x : Int) : F_ref01_Has s x = some (hasS s x) := by
  unfold F_ref01_Has F_ref01_Valid hasS inNode
  by_cases h1 : 0 ≤ s
  · by_cases h2 : s < 1024
    · have h2' : s ≤ 1023 := by omega
      by_cases h3 : 0 ≤ x
      · by_cases h4 : x < 10
        · have h5 : ¬ x < 0 := by omega
          have := shr_testBit h1 h2 h3 h4
          simp [h1, h2, h2', h3, h4, h5, this]
        · simp [h1, h2, h2', h3, h4]
      · simp [h1, h2, h2', h3]
    · have h2' : ¬ s ≤ 1023 := by omega
      simp [h1, h2, h2']
  · simp [h1]
theorem orI_bit {s : Nat} {x : Int} (h1 : s < 1024) (h3 : 0 ≤ x) (h4 : x < 10) : orI .i64 (s : Int) (shlI .i64 1 x) = ((s ||| 2 ^ x.toNat : Nat) : Int) := by
  obtain ⟨j, rfl⟩ := Int.eq_ofNat_of_zero_le h3
  have hj : 2 ^ j ≤ 2 ^ 9 := Nat.pow_le_pow_right (by omega) (by omega)
  rw [shlI_one j (by omega)]
  exact orI_nat s (2 ^ j) (by omega) (by omega)
theorem or_lt {s : Nat} {x : Int} (h1 : s < 1024) (h4 : x < 10) : s ||| 2 ^ x.toNat < 1024 := by
  have hj : 2 ^ x.toNat ≤ 2 ^ 9 := Nat.pow_le_pow_right (by omega) (by omega)
  exact Nat.or_lt_two_pow (n := 10) h1 (by omega)
/-- the bits of nodes, and an error -/
def ofErr (s : Nat) : List Int → Int × Int × Unit
  | [] => (s, 0, ())
  | x :: l => if inNode x then (if s.testBit x.toNat then (0, 6, ()) else ofErr (s ||| 2 ^ x.toNat) l) else (0, 5, ())
theorem of_fold (g : Int → Int → Option (Int ⊕ (Int × Int × Unit)))
    (hg : ∀ x (s : Nat), s < 1024 → g x s = some (if inNode x then (if s.testBit x.toNat then .inr (0, 6, ()) else .inl ((s ||| 2 ^ x.toNat : Nat) : Int)) else .inr (0, 5, ()))) :
    ∀ (l : List Int) (s : Nat), s < 1024 → foldE g (fun s => some (s, 0, ())) l s = some (ofErr s l)
  | [], s, _ => rfl
  | x :: l, s, hs => by
    rw [foldE, hg x s hs, ofErr]
    cases h1 : inNode x with
    | false => simp
    | true =>
      cases h2 : s.testBit x.toNat with
      | true => simp
      | false =>
        simp only [if_true, Bool.false_eq_true, if_false]
        have h3 : x < 10 := by simp [inNode] at h1; omega
        exact of_fold g hg l _ (or_lt hs h3)
theorem F_nodeset_Of_eq (l : List Int) (hl : l.length ≤ 9223372036854775807) : F_nodeset_Of l = some (ofErr 0 l) := by
  unfold F_nodeset_Of
  rw [loopO_range l hl (fun i (s : Int) => (s, i, ())) (fun x s => if inNode x then (if hasS s x then some (.inr (0, 6, ())) else some (.inl (orI .i64 s (shlI .i64 1 x)))) else some (.inr (0, 5, ()))) (fun s => some (s, 0, ())) (fun i x s hd hx hw => ?_) (fun s hd => ?_) 0]
  · refine of_fold _ (fun x s hs => ?_) l 0 (by omega)
    cases h1 : inNode x with
    | false => simp
    | true =>
      have h3 : 0 ≤ x ∧ x < 10 := by simp [inNode] at h1; omega
      have h2 : hasS s x = s.testBit x.toNat := by simp [hasS, h1]; omega
      rw [h2, orI_bit hs h3.1 h3.2]
      cases s.testBit x.toNat <;> simp
  · simp only [hd, hx, hw, cond_true, Option.bind_some, F_nodeset_Has_eq]
    by_cases h0 : x < 0
    · have : ¬ 0 ≤ x := by omega
      simp [h0, inNode, this]
    · have h0' : 0 ≤ x := by omega
      by_cases h10 : 10 ≤ x
      · have : ¬ x < 10 := by omega
        simp [h0, h10, inNode, this, h0']
      · have h10' : x < 10 := by omega
        cases h : hasS s x <;> simp [h0, h10, inNode, h0', h10']
  · simp only [hd, cond_false]
theorem F_ref01_Of_eq (l : List Int) (hl : l.length ≤ 9223372036854775807) : F_ref01_Of l = some (ofErr 0 l) := by
  have : F_ref01_Of l = F_nodeset_Of l := by
    unfold F_ref01_Of F_nodeset_Of
    simp only [F_ref01_Has_eq, F_nodeset_Has_eq]
  rw [this, F_nodeset_Of_eq l hl]

/-! ### one level -/
@[simp] theorem F_threshold_level_1_eq (x : Int) : F_threshold_level_1 x = some (!inNode x) := by simp [F_threshold_level_1, F_threshold_node, inNode]
theorem F_ContainsFunc_eq (l : List Int) (hl : l.length ≤ 9223372036854775807) : F_slices_ContainsFunc_int_int_c196 l = some (l.any fun x => !inNode x) := by
  have key : ∀ (i : Nat) (k : Nat), i + k = l.length → Yd (loopO (fun (v1 : Int × Unit) => bif (decide (v1.1 < ((List.length l : Nat) : Int))) then Option.bind (idx l v1.1) fun x2 => Option.bind (F_threshold_level_1 x2) fun r3 => bif r3 then Option.map Sum.inr (some v1.1) else some (Sum.inl ((addI .i64 v1.1 (1 : Int)), ())) else Option.map Sum.inr (some (-1 : Int))) ((i : Int), ())) fun r => decide (0 ≤ r) = (l.drop i).any fun x => !inNode x := by
    intro i k
    induction k generalizing i with
    | zero =>
      intro hi
      refine ⟨-1, loopO_inr ?_, ?_⟩
      · have : ¬ ((i : Int) < (l.length : Int)) := by omega
        simp [this]
      · rw [List.drop_eq_nil_of_le (by omega)]; rfl
    | succ k ih =>
      intro hi
      have hlt : i < l.length := by omega
      have hd : decide ((i : Int) < ((l.length : Nat) : Int)) = true := decide_eq_true (Int.ofNat_lt.2 hlt)
      have hx : idx l (i : Int) = some l[i] := by rw [idx_nat]; exact List.getElem?_eq_getElem hlt
      have hw : addI .i64 (i : Int) 1 = ((i + 1 : Nat) : Int) := add64 (by omega) (by omega)
      rw [List.drop_eq_getElem_cons hlt, List.any_cons]
      cases h : inNode l[i] with
      | true =>
        rw [loopO_inl (s' := (((i + 1 : Nat) : Int), ())) (by simp only [hd, hx, hw, cond_true, Option.bind_some, F_threshold_level_1_eq, h]; rfl)]
        exact (ih (i + 1) (by omega)).mono fun r hr => by simpa using hr
      | false =>
        refine ⟨i, loopO_inr (by simp only [hd, hx, cond_true, Option.bind_some, F_threshold_level_1_eq, h]; rfl), ?_⟩
        simp
  obtain ⟨r, h1, h2⟩ := key 0 l.length (by omega)
  unfold F_slices_ContainsFunc_int_int_c196 F_slices_IndexFunc_int_int_c196
  simp only [Int.natCast_zero] at h1
  rw [h1]
  simpa using h2
def levelB (rec : TTrust → Option Int) (t : TTrust) : Option Int :=
  if t.Threshold < 1 ∨ addI .i64 t.Nodes.length t.Inner.length < t.Threshold then some 4
  else if (t.Nodes.any fun x => !inNode x) then some 5
  else if (ofErr 0 t.Nodes).2.1 = 0 then foldE (fun u (_ : Unit) => (rec u).map fun r => if r = 0 then .inl () else .inr r) (fun _ => some 0) t.Inner ()
  else some (ofErr 0 t.Nodes).2.1
theorem B_level {rec : (TTrust × Unit) → Option Int} {t : TTrust} (hn : t.Nodes.length ≤ 9223372036854775807) (hl : t.Inner.length ≤ 9223372036854775807) : B_threshold_level rec t = levelB (fun u => rec (u, ())) t := by
  unfold B_threshold_level levelB
  rw [F_ContainsFunc_eq _ hn, F_nodeset_Of_eq _ hn]
  rw [loopO_range t.Inner hl (fun i (_ : Unit) => (i, ())) (fun u (_ : Unit) => (rec (u, ())).map fun r => if r = 0 then .inl () else .inr r) (fun _ => some 0) (fun i x s hd hx hw => ?_) (fun s hd => ?_) ()]
  · by_cases h1 : t.Threshold < 1
    · simp [h1]
    · by_cases h2 : addI .i64 t.Nodes.length t.Inner.length < t.Threshold
      · simp [h1, h2]
      · simp only [h1, h2, decide_false, cond_false, Option.bind_some, or_self, if_false]
        cases (t.Nodes.any fun x => !inNode x) with
        | true => simp
        | false =>
          by_cases h3 : (ofErr 0 t.Nodes).2.1 = 0 <;> simp [h3]
  · simp only [hd, hx, hw, cond_true, Option.bind_some, TTrust.eta]
    cases rec (x, ()) with
    | none => rfl
    | some r => by_cases h : r = 0 <;> simp [h]
  · simp only [hd, cond_false]
theorem B_check {rec : (TTrust × Unit) → Option Int} {t : TTrust} (hn : t.Nodes.length ≤ 9223372036854775807) (hl : t.Inner.length ≤ 9223372036854775807) : B_ref02_check rec t = levelB (fun u => rec (u, ())) t := by
  unfold B_ref02_check levelB
  rw [loopO_range t.Nodes hn (fun i (_ : Unit) => (i, ())) (fun x (_ : Unit) => some (if inNode x then .inl () else .inr 5)) (fun _ => if (ofErr 0 t.Nodes).2.1 = 0 then foldE (fun u (_ : Unit) => (rec (u, ())).map fun r => if r = 0 then .inl () else .inr r) (fun _ => some 0) t.Inner () else some (ofErr 0 t.Nodes).2.1) (fun i x s hd hx hw => ?_) (fun s hd => ?_) ()]
  · by_cases h1 : t.Threshold < 1
    · simp [h1]
    · by_cases h2 : addI .i64 t.Nodes.length t.Inner.length < t.Threshold
      · simp [h1, h2]
      · simp only [h1, h2, decide_false, cond_false, Option.bind_some, or_self, if_false]
        have : ∀ (l : List Int) (fin : Unit → Option Int), foldE (fun x (_ : Unit) => some (if inNode x then .inl () else .inr 5)) fin l () = if (l.any fun x => !inNode x) then some 5 else fin () := by
          intro l fin
          induction l with
          | nil => rfl
          | cons x l ih =>
            rw [foldE, List.any_cons]
            cases h : inNode x with
            | true => simpa using ih
            | false => simp
        exact this _ _
  · simp only [hd, hx, hw, cond_true, Option.bind_some, inNode]
    by_cases h0 : x < 0
    · have h0' : ¬ 0 ≤ x := by omega
      simp [h0, h0']
    · have h0' : 0 ≤ x := by omega
      by_cases h1 : 10 ≤ x
      · have h1' : ¬ x < 10 := by omega
        simp [h0, h0', h1, h1']
      · have h1' : x < 10 := by omega
        simp [h0, h0', h1, h1']
  · simp only [hd, cond_false]
    rw [F_ref01_Of_eq _ hn, Option.bind_some]
    rw [loopO_range t.Inner hl (fun i (_ : Unit) => (i, ())) (fun u (_ : Unit) => (rec (u, ())).map fun r => if r = 0 then .inl () else .inr r) (fun _ => some 0) (fun i x s hd hx hw => ?_) (fun s hd => ?_) ()]
    · by_cases h3 : (ofErr 0 t.Nodes).2.1 = 0 <;> simp [h3]
    · simp only [hd, hx, hw, cond_true, Option.bind_some, TTrust.eta]
      cases rec (x, ()) with
      | none => rfl
      | some r => by_cases h : r = 0 <;> simp [h]
    · simp only [hd, cond_false]

/-! ### trusts as the source makes them -/
structure GoodT (t : TTrust) : Prop where
  nodes : ∀ x ∈ t.Nodes, 0 ≤ x ∧ x < 10
  nodup : t.Nodes.Nodup
  len : t.Nodes.length ≤ 10
  inner : t.Inner = [] ∨ ∃ x, 0 ≤ x ∧ x < 10 ∧ t.Inner = [⟨1, [x], []⟩]
  th : 1 ≤ t.Threshold ∧ t.Threshold ≤ t.Nodes.length + t.Inner.length
theorem ofErr_good : ∀ (l : List Int) (s : Nat), (∀ x ∈ l, 0 ≤ x ∧ x < 10) → l.Nodup → (∀ x ∈ l, s.testBit x.toNat = false) → (ofErr s l).2.1 = 0
  | [], s, _, _, _ => rfl
  | x :: l, s, h1, h2, h3 => by
    rw [List.nodup_cons] at h2
    have hx := h1 x (by simp)
    have : inNode x = true := by simp [inNode]; omega
    rw [ofErr, this, h3 x (by simp)]
    simp only [if_true, Bool.false_eq_true, if_false]
    refine ofErr_good l _ (fun y hy => h1 y (by simp [hy])) h2.2 fun y hy => ?_
    have hy1 := h1 y (by simp [hy])
    rw [Nat.testBit_or, h3 y (by simp [hy]), Nat.testBit_two_pow]
    have : x.toNat ≠ y.toNat := fun e => by
      have : x = y := by omega
      subst this
      exact h2.1 hy
    simp [this]
theorem any_good {l : List Int} (h : ∀ x ∈ l, 0 ≤ x ∧ x < 10) : (l.any fun x => !inNode x) = false := by
  rw [List.any_eq_false]
  intro x hx
  have := h x hx
  simp [inNode]
  omega
theorem levelB_leaf {rec : TTrust → Option Int} {x : Int} (h0 : 0 ≤ x) (h1 : x < 10) : levelB rec ⟨1, [x], []⟩ = some 0 := by
  have h2 : addI .i64 (1 : Nat) (0 : Nat) = 1 := rfl
  have h3 : (ofErr 0 [x]).2.1 = 0 := ofErr_good [x] 0 (by simp; omega) (by simp) (by simp)
  have h4 : ([x].any fun x => !inNode x) = false := any_good (by simp; omega)
  simp only [levelB, List.length_cons, List.length_nil, Nat.zero_add, h2, h3, h4]
  simp [foldE]
theorem level_good {t : TTrust} (h : GoodT t) {rec : TTrust → Option Int} (hr : ∀ x, 0 ≤ x → x < 10 → rec ⟨1, [x], []⟩ = some 0) : levelB rec t = some 0 := by
  have hil : t.Inner.length ≤ 1 := by rcases h.inner with e | ⟨x, _, _, e⟩ <;> rw [e] <;> simp
  have hlen := h.len
  have h2 : addI .i64 t.Nodes.length t.Inner.length = t.Nodes.length + t.Inner.length := add64 (by omega) (by omega)
  have h3 : (ofErr 0 t.Nodes).2.1 = 0 := ofErr_good _ 0 h.nodes h.nodup (by simp)
  have h4 := any_good h.nodes
  have h5 := h.th
  unfold levelB
  rw [h2, if_neg (by omega), h4, h3]
  simp only [Bool.false_eq_true, if_false, if_true]
  rcases h.inner with e | ⟨x, hx0, hx1, e⟩
  · rw [e]; rfl
  · rw [e, foldE, hr x hx0 hx1]; rfl
theorem sz_pos (t : TTrust) : ∃ n, SizeOf.sizeOf t = n + 1 := by
  have : 1 ≤ SizeOf.sizeOf t := by
    cases t
    simp only [TTrust.mk.sizeOf_spec]
    omega
  exact ⟨SizeOf.sizeOf t - 1, by omega⟩
theorem depth_leaf (n : Nat) (th : Int) (l : List Int) : I_threshold_Depth (n + 1) (⟨th, l, []⟩, ()) = some 1 := by
  show B_threshold_Depth _ _ = _
  rw [B_depth (by simp)]
  rfl
theorem size_leaf (n : Nat) (th : Int) (l : List Int) : I_threshold_Size (n + 1) (⟨th, l, []⟩, ()) = some (addI .i64 l.length (0 : Nat)) := by
  show B_threshold_Size _ _ = _
  rw [B_size (by simp)]
  rfl
theorem depth_good {t : TTrust} (h : GoodT t) : ∃ d, F_threshold_Depth t = some d ∧ d ≤ 2 := by
  obtain ⟨n, hn⟩ := sz_pos t
  have hil : t.Inner.length ≤ 1 := by rcases h.inner with e | ⟨x, _, _, e⟩ <;> rw [e] <;> simp
  unfold F_threshold_Depth
  rw [hn]
  show ∃ d, B_threshold_Depth (I_threshold_Depth (n + 1)) t = some d ∧ d ≤ 2
  rw [B_depth (by omega)]
  rcases h.inner with e | ⟨x, _, _, e⟩
  · rw [e]; exact ⟨1, rfl, by omega⟩
  · rw [e, foldE, depth_leaf n 1 [x]]
    exact ⟨2, rfl, by omega⟩
theorem size_good {t : TTrust} (h : GoodT t) : ∃ d, F_threshold_Size t = some d ∧ d ≤ 200 := by
  obtain ⟨n, hn⟩ := sz_pos t
  have hil : t.Inner.length ≤ 1 := by rcases h.inner with e | ⟨x, _, _, e⟩ <;> rw [e] <;> simp
  have hlen := h.len
  unfold F_threshold_Size
  rw [hn]
  show ∃ d, B_threshold_Size (I_threshold_Size (n + 1)) t = some d ∧ d ≤ 200
  rw [B_size (by omega), add64 (by omega) (by omega)]
  rcases h.inner with e | ⟨x, _, _, e⟩
  · rw [e]; exact ⟨_, rfl, by simp; omega⟩
  · rw [e, foldE, size_leaf n 1 [x]]
    have h1 : addI .i64 (([x] : List Int).length : Nat) (0 : Nat) = 1 := rfl
    rw [h1]
    refine ⟨_, rfl, ?_⟩
    simp only [List.length_cons, List.length_nil]
    rw [add64 (by omega) (by omega)]
    omega
theorem F_threshold_Valid_good {t : TTrust} (h : GoodT t) : F_threshold_Valid t = some 0 := by
  obtain ⟨d, h1, h2⟩ := depth_good h
  obtain ⟨z, h3, h4⟩ := size_good h
  obtain ⟨n, hn⟩ := sz_pos t
  have hil : t.Inner.length ≤ 1 := by rcases h.inner with e | ⟨x, _, _, e⟩ <;> rw [e] <;> simp
  have hlen := h.len
  have h5 : F_threshold_level t = some 0 := by
    unfold F_threshold_level
    rw [hn]
    show B_threshold_level (I_threshold_level (n + 1)) t = some 0
    rw [B_level (by omega) (by omega)]
    refine level_good h fun x hx0 hx1 => ?_
    show B_threshold_level (I_threshold_level n) ⟨1, [x], []⟩ = some 0
    rw [B_level (by simp) (by simp)]
    exact levelB_leaf hx0 hx1
  have h6 : ¬ 4 < d := by omega
  have h7 : ¬ 200 < z := by omega
  simp [F_threshold_Valid, h1, h3, h5, h6, h7]
theorem F_ref02_Valid_good {t : TTrust} (h : GoodT t) : F_ref02_Valid t = some 0 := by
  obtain ⟨d, h1, h2⟩ := depth_good h
  obtain ⟨z, h3, h4⟩ := size_good h
  obtain ⟨n, hn⟩ := sz_pos t
  have hil : t.Inner.length ≤ 1 := by rcases h.inner with e | ⟨x, _, _, e⟩ <;> rw [e] <;> simp
  have hlen := h.len
  have h5 : F_ref02_check t = some 0 := by
    unfold F_ref02_check
    rw [hn]
    show B_ref02_check (I_ref02_check (n + 1)) t = some 0
    rw [B_check (by omega) (by omega)]
    refine level_good h fun x hx0 hx1 => ?_
    show B_ref02_check (I_ref02_check n) ⟨1, [x], []⟩ = some 0
    rw [B_check (by simp) (by simp)]
    exact levelB_leaf hx0 hx1
  have h6 : ¬ 4 < d := by omega
  have h7 : ¬ 200 < z := by omega
  simp [F_ref02_Valid, ref_depth, ref_size, h1, h3, h5, h6, h7]
end Go.Proofs.YtncjalhhkmojlaaGreat

namespace Go.Proofs.YtncjalhhkmojlaaGreat
open Go.TQ

structure OkS (s : TSrc) : Prop where
  len : s.L.length ≤ 800
  lo : 0 ≤ s.At
  hi : s.At ≤ 800
theorem New_ok (l : List Int) : Yd (F_play_New l) fun s => OkS s := by
  have h : minI (l.length : Int) 800 = ((min l.length 800 : Nat) : Int) := by unfold minI; split <;> omega
  have h2 : slcOk 0 ((min l.length 800 : Nat) : Int) l.length = true := by
    simp only [slcOk, Bool.and_eq_true, decide_eq_true_eq]
    omega
  unfold F_play_New
  rw [h, h2]
  refine Yd.some ⟨?_, by simp, by simp⟩
  simp only [Int.toNat_natCast, List.length_drop, List.length_take]
  omega
theorem tmod_bd (x n : Int) (hn : 1 ≤ n) : -n < x.tmod n ∧ x.tmod n < n := by
  have h2 := Int.emod_nonneg x (show n ≠ 0 by omega)
  have h3 := Int.emod_lt_of_pos x (show 0 < n by omega)
  rw [Int.tmod_eq_emod]
  split
  · omega
  · rw [Int.natAbs_of_nonneg (by omega)]; omega
theorem N_ok {s : TSrc} (h : OkS s) {n : Int} (hn : n ≤ 1000000000) : Yd (F_play_Src_N s n) fun p => OkS p.2 ∧ 0 ≤ p.1 ∧ (1 ≤ n → p.1 < n) ∧ (n < 1 → p.1 = 0) := by
  unfold F_play_Src_N
  simp only [letJ_eq]
  refine Yd.cond (fun h1 => ?_) (fun h1 => ?_)
  · exact Yd.some ⟨h, by simp, fun _ => by simp; omega, fun _ => rfl⟩
  · simp only [decide_eq_false_iff_not, Int.not_le] at h1
    refine Yd.cond (fun h2 => ?_) (fun h2 => ?_)
    · simp only [decide_eq_true_eq] at h2
      exact Yd.some ⟨h, by simp, fun _ => by simp; omega, fun _ => rfl⟩
    · simp only [decide_eq_false_iff_not, Int.not_lt] at h2
      obtain ⟨hl, hlo, hhi⟩ := h
      have e1 : addI .i64 s.At 1 = s.At + 1 := add64 (by omega) (by omega)
      have e2 : subI .i64 (s.At + 1) 1 = s.At := by rw [sub64 (by omega) (by omega)]; omega
      rw [e1, e2]
      have hlt : s.At.toNat < s.L.length := by omega
      rw [idx_of _ hlo, List.getElem?_eq_getElem hlt, Option.bind_some, if_neg (by omega), if_neg (by omega)]
      have hb := tmod_bd s.L[s.At.toNat] n h2
      have e3 : remI .i64 s.L[s.At.toNat] n = s.L[s.At.toNat].tmod n := rfl
      rw [e3]
      generalize s.L[s.At.toNat].tmod n = y at hb
      have e4 : addI .i64 y n = y + n := add64 (by omega) (by omega)
      rw [e4]
      have h5 : remI .i64 (y + n) n = (y + n) % n := Int.tmod_eq_emod_of_nonneg (by omega)
      rw [h5]
      exact Yd.some ⟨⟨hl, by simp; omega, by simp; omega⟩, Int.emod_nonneg _ (by omega), fun _ => Int.emod_lt_of_pos _ (by omega), fun _ => by omega⟩
theorem Range_ok {s : TSrc} (h : OkS s) {a b : Int} (h1 : 0 ≤ a) (h2 : a ≤ b + 1) (h3 : b ≤ 1000000) : Yd (F_play_Src_Range s a b) fun p => OkS p.2 ∧ a ≤ p.1 ∧ (a ≤ b → p.1 ≤ b) ∧ (b < a → p.1 = a) := by
  unfold F_play_Src_Range
  have e1 : subI .i64 b a = b - a := sub64 (by omega) (by omega)
  have e2 : addI .i64 (b - a) 1 = b - a + 1 := add64 (by omega) (by omega)
  rw [e1, e2]
  refine (N_ok h (by omega)).bind fun p ⟨h4, h5, h6, h7⟩ => ?_
  have e3 : addI .i64 a p.1 = a + p.1 := by
    by_cases hq : b - a + 1 < 1
    · rw [h7 hq]; exact add64 (by omega) (by omega)
    · have := h6 (by omega); exact add64 (by omega) (by omega)
  rw [e3]
  refine Yd.some ⟨h4, by simp; omega, fun hab => ?_, fun hab => ?_⟩
  · have := h6 (by omega)
    show a + p.1 ≤ b
    omega
  · have := h7 (by omega)
    show a + p.1 = a
    omega
theorem Text_ok {s : TSrc} (h : OkS s) {l : List ByteArray} (h1 : 1 ≤ l.length) (h2 : l.length ≤ 1000) : Yd (F_play_Src_Text s l) fun p => OkS p.2 ∧ p.1 ∈ l := by
  unfold F_play_Src_Text
  refine (N_ok h (by omega)).bind fun p ⟨h4, h5, h6, _⟩ => ?_
  have := h6 (by omega)
  have hlt : p.1.toNat < l.length := by omega
  rw [idx_of _ h5, List.getElem?_eq_getElem hlt]
  exact Yd.some ⟨h4, List.getElem_mem hlt⟩
/-- one of the four values -/
def Val (v : ByteArray) : Prop := v ∈ [(ByteArray.mk #[97]), (ByteArray.mk #[98]), (ByteArray.mk #[99]), (ByteArray.mk #[97, 97])]
theorem Val.size {v : ByteArray} (h : Val v) : 1 ≤ v.size ∧ v.size ≤ 2 := by
  simp only [Val, List.mem_cons, List.not_mem_nil, or_false] at h
  rcases h with rfl | rfl | rfl | rfl <;> exact ⟨by decide, by decide⟩
theorem Value_ok {s : TSrc} (h : OkS s) : Yd (F_play_Src_Value s) fun p => OkS p.2 ∧ Val p.1 := by
  unfold F_play_Src_Value
  exact (Text_ok h (by simp) (by simp)).bind fun p hp => Yd.some hp
theorem Low_ok {s : TSrc} (h : OkS s) : Yd (F_play_Src_Low s) fun p => OkS p.2 ∧ 1 ≤ p.1.Counter ∧ p.1.Counter ≤ 6 ∧ Val p.1.Value := by
  unfold F_play_Src_Low
  refine (Range_ok h (by omega) (by omega) (by omega)).bind fun p ⟨h1, h2, h3, _⟩ => ?_
  refine (Value_ok h1).bind fun q ⟨h4, h5⟩ => ?_
  exact Yd.some ⟨h4, h2, h3 (by omega), h5⟩
/-- n nodes at most -/
theorem Trust_ok {s : TSrc} (h : OkS s) {n : Nat} (hn1 : 1 ≤ n) (hn : n ≤ 10) : Yd (F_play_Src_Trust s n) fun p => OkS p.2 ∧ GoodT p.1 ∧ (∀ x ∈ p.1.Nodes, x < n) ∧ p.1.Nodes ≠ [] := by
  unfold F_play_Src_Trust
  simp only [letJ_eq]
  -- the loop
  let I (i : Nat) (s : TSrc) (t : TTrust) (ns : List Int) (is : List TTrust) : Prop := OkS s ∧ t.Threshold = 0 ∧ (∀ x ∈ ns, 0 ≤ x ∧ x < i) ∧ ns.Nodup ∧ ns.length ≤ i ∧ is = []
  suffices key : ∀ (k i : Nat) (s : TSrc) (t : TTrust) (ns : List Int) (is : List TTrust), i + k = n → I i s t ns is → Yd (loopO _ ((i : Int), s, t, ns, is, ())) _ from key n 0 s _ _ _ (by omega) ⟨h, rfl, by simp, by simp, by simp, rfl⟩
  intro k
  induction k with
  | zero =>
    intro i s t ns is hi ⟨h1, h2, h3, h4, h5, h6⟩
    obtain rfl : i = n := by omega
    subst h6
    have hd : decide ((i : Int) < (i : Int)) = false := decide_eq_false (Int.lt_irrefl _)
    refine Yd.loop ?_
    simp only [hd, cond_false]
    refine Yd.inr ?_
    -- behind the nodes
    have fin : ∀ (s : TSrc) (ns : List Int) (is : List TTrust) (th : Int), OkS s → (∀ x ∈ ns, 0 ≤ x ∧ x < i) → ns.Nodup → ns.length ≤ 10 → ns ≠ [] → (is = [] ∨ ∃ x, 0 ≤ x ∧ x < 10 ∧ is = [⟨1, [x], []⟩]) → 1 ≤ th → th ≤ ns.length + is.length →
        OkS s ∧ GoodT ⟨th, ns, is⟩ ∧ (∀ x ∈ ns, x < (i : Int)) ∧ ns ≠ [] := by
      intro s ns is th a1 a2 a3 a4 a5 a6 a7 a8
      exact ⟨a1, ⟨fun x hx => by have := a2 x hx; exact ⟨this.1, by omega⟩, a3, a4, a6, a7, a8⟩, fun x hx => (a2 x hx).2, a5⟩
    have tail : ∀ (s : TSrc) (ns : List Int) (is : List TTrust), OkS s → (∀ x ∈ ns, 0 ≤ x ∧ x < i) → ns.Nodup → ns.length ≤ 10 → ns ≠ [] → (is = [] ∨ ∃ x, 0 ≤ x ∧ x < 10 ∧ is = [⟨1, [x], []⟩]) →
        Yd (Option.bind (F_play_Src_Range s (quoI .i64 (addI .i64 (addI .i64 ((List.length ns : Nat) : Int) ((List.length is : Nat) : Int)) (1 : Int)) (2 : Int)) (addI .i64 ((List.length ns : Nat) : Int) ((List.length is : Nat) : Int))) fun p9 =>
          Option.bind (F_play_Src_N p9.2 (6 : Int)) fun p12 =>
          bif (decide (p12.1 = (5 : Int))) then some ((TTrust.mk (1 : Int) ns is), p12.2) else some ((TTrust.mk p9.1 ns is), p12.2)) fun p => OkS p.2 ∧ GoodT p.1 ∧ (∀ x ∈ p.1.Nodes, x < (i : Int)) ∧ p.1.Nodes ≠ [] := by
      intro s ns is a1 a2 a3 a4 a5 a6
      have hp : 1 ≤ ns.length := by cases ns with | nil => exact absurd rfl a5 | cons x l => simp
      have hil : is.length ≤ 1 := by rcases a6 with e | ⟨x, _, _, e⟩ <;> rw [e] <;> simp
      have e1 : addI .i64 ((List.length ns : Nat) : Int) ((List.length is : Nat) : Int) = ns.length + is.length := add64 (by omega) (by omega)
      have e2 : addI .i64 ((ns.length : Int) + is.length) 1 = ns.length + is.length + 1 := add64 (by omega) (by omega)
      have e3 : quoI .i64 ((ns.length : Int) + is.length + 1) 2 = (ns.length + is.length + 1) / 2 := by
        show IntKind.i64.wrap (Int.tdiv _ _) = _
        rw [Int.tdiv_eq_ediv_of_nonneg (by omega)]
        exact wrap64 (by omega) (by omega)
      rw [e1, e2, e3]
      refine (Range_ok a1 (by omega) (by omega) (by omega)).bind fun p ⟨b1, b2, b3, _⟩ => ?_
      refine (N_ok b1 (by omega)).bind fun q ⟨c1, _⟩ => ?_
      have b4 := b3 (by omega)
      refine Yd.cond (fun _ => Yd.some (fin q.2 ns is 1 c1 a2 a3 a4 a5 a6 (by omega) (by omega))) (fun _ => Yd.some (fin q.2 ns is p.1 c1 a2 a3 a4 a5 a6 (by omega) (by omega)))
    have mid : ∀ (s : TSrc) (ns : List Int), OkS s → (∀ x ∈ ns, 0 ≤ x ∧ x < i) → ns.Nodup → ns.length ≤ 10 → ns ≠ [] →
        Yd (Option.bind (F_play_Src_N s (4 : Int)) fun p13 =>
          bif (decide (p13.1 = (3 : Int))) then
          Option.bind (F_play_Src_N p13.2 (i : Int)) fun p14 =>
          bif lenOk 56 (List.length ([] : List TTrust) + List.length [(TTrust.mk (1 : Int) [p14.1] ([] : List TTrust))]) then
          (Option.bind (F_play_Src_Range p14.2 (quoI .i64 (addI .i64 (addI .i64 ((List.length ns : Nat) : Int) ((List.length (([] : List TTrust) ++ [(TTrust.mk (1 : Int) [p14.1] ([] : List TTrust))]) : Nat) : Int)) (1 : Int)) (2 : Int)) (addI .i64 ((List.length ns : Nat) : Int) ((List.length (([] : List TTrust) ++ [(TTrust.mk (1 : Int) [p14.1] ([] : List TTrust))]) : Nat) : Int))) fun p9 =>
          Option.bind (F_play_Src_N p9.2 (6 : Int)) fun p12 =>
          bif (decide (p12.1 = (5 : Int))) then some ((TTrust.mk (1 : Int) ns (([] : List TTrust) ++ [(TTrust.mk (1 : Int) [p14.1] ([] : List TTrust))])), p12.2) else some ((TTrust.mk p9.1 ns (([] : List TTrust) ++ [(TTrust.mk (1 : Int) [p14.1] ([] : List TTrust))])), p12.2))
          else none
          else
          (Option.bind (F_play_Src_Range p13.2 (quoI .i64 (addI .i64 (addI .i64 ((List.length ns : Nat) : Int) ((List.length ([] : List TTrust) : Nat) : Int)) (1 : Int)) (2 : Int)) (addI .i64 ((List.length ns : Nat) : Int) ((List.length ([] : List TTrust) : Nat) : Int))) fun p9 =>
          Option.bind (F_play_Src_N p9.2 (6 : Int)) fun p12 =>
          bif (decide (p12.1 = (5 : Int))) then some ((TTrust.mk (1 : Int) ns []), p12.2) else some ((TTrust.mk p9.1 ns []), p12.2))) fun p => OkS p.2 ∧ GoodT p.1 ∧ (∀ x ∈ p.1.Nodes, x < (i : Int)) ∧ p.1.Nodes ≠ [] := by
      intro s ns a1 a2 a3 a4 a5
      refine (N_ok a1 (by omega)).bind fun p ⟨b1, b2, b3, _⟩ => ?_
      refine Yd.cond (fun _ => ?_) (fun _ => ?_)
      · refine (N_ok b1 (by omega)).bind fun q ⟨c1, c2, c3, _⟩ => ?_
        have c4 := c3 (by omega)
        rw [lenOk_small (by simp)]
        exact tail q.2 ns _ c1 a2 a3 a4 a5 (.inr ⟨q.1, c2, by omega, rfl⟩)
      · exact tail p.2 ns [] b1 a2 a3 a4 a5 (.inl rfl)
    refine Yd.cond (fun hz => ?_) (fun hz => ?_)
    · refine (N_ok h1 (by omega)).bind fun p ⟨b1, b2, b3, _⟩ => ?_
      have b4 := b3 (by omega)
      exact mid p.2 [p.1] b1 (by simp; omega) (by simp) (by simp) (by simp)
    · have hne : ns ≠ [] := by
        intro e
        subst e
        simp at hz
      exact mid s ns h1 h3 h4 (by omega) hne
  | succ k ih =>
    intro i s t ns is hi ⟨h1, h2, h3, h4, h5, h6⟩
    have hd : decide ((i : Int) < (n : Int)) = true := decide_eq_true (by omega)
    have hw : addI .i64 (i : Int) 1 = ((i + 1 : Nat) : Int) := add64 (by omega) (by omega)
    refine Yd.loop ?_
    simp only [hd, cond_true, hw]
    refine (N_ok h1 (by omega)).bind fun p ⟨b1, b2, b3, _⟩ => ?_
    refine Yd.cond (fun _ => ?_) (fun _ => ?_)
    · rw [lenOk_small (by simp; omega)]
      refine Yd.some (ih (i + 1) p.2 _ _ _ (by omega) ⟨b1, h2, ?_, ?_, by simp; omega, h6⟩)
      · intro x hx
        rcases List.mem_append.1 hx with hx | hx
        · have := h3 x hx; omega
        · simp at hx; omega
      · refine List.nodup_append.2 ⟨h4, by simp, ?_⟩
        intro x hx y hy
        simp at hy
        have := h3 x hx
        omega
    · refine Yd.some (ih (i + 1) p.2 _ _ _ (by omega) ⟨b1, h2, ?_, h4, by omega, h6⟩)
      intro x hx
      have := h3 x hx
      omega
end Go.Proofs.YtncjalhhkmojlaaGreat

namespace Go.Proofs.YtncjalhhkmojlaaGreat
open Go.TQ

def at_ (e : TEnvelope) (n : Int) : TBallot := ⟨n, e.Ballot.Value⟩
def primeOk (e : TEnvelope) : Bool := zeroB e.Prime || (!zeroB e.Prepared && lessB e.Prime e.Prepared && !compat e.Prime e.Prepared)
def prepOk (e : TEnvelope) : Bool :=
  finite e.Ballot && (zeroB e.Prepared || validB e.Prepared) && (zeroB e.Prime || validB e.Prime) && primeOk e && decide (0 ≤ e.Low) && decide (e.Low ≤ e.High) && decide (e.High ≤ e.Ballot.Counter)
    && (decide (e.High = 0) || preparesB e.Prepared e.Prime (at_ e e.High)) && (decide (e.Low = 0) || (!aborts e.Prepared (at_ e e.Low) && !aborts e.Prime (at_ e e.Low)))
def ranged (e : TEnvelope) : Bool := decide (1 ≤ e.Low) && decide (e.Low ≤ e.High) && decide (e.High ≤ 1000)
def commOk (e : TEnvelope) : Bool := finite e.Ballot && validB e.Prepared && compat e.Prepared e.Ballot && zeroB e.Prime && ranged e && decide (e.High ≤ e.Prepared.Counter)
def extOk (e : TEnvelope) : Bool := validB e.Ballot && zeroB e.Prepared && zeroB e.Prime && ranged e
def headOk (e : TEnvelope) : Bool := decide (0 ≤ e.Node) && decide (e.Node < 10) && decide (1 ≤ e.Slot) && decide (e.Slot ≤ 1000000) && decide (1 ≤ e.Seq) && decide (e.Seq ≤ 1000000)
def validE (tv : Int) (e : TEnvelope) : Bool :=
  headOk e && decide (tv = 0) && (if e.Kind = 1 then prepOk e else if e.Kind = 2 then commOk e else if e.Kind = 3 then extOk e else false)

theorem dlt (a b : Int) : decide (a < b) = !decide (b ≤ a) := by by_cases h : a < b <;> simp [h] <;> omega
theorem F_prepares_eq (e : TEnvelope) : F_envelopes_prepares e = some (prepOk e) := by
  unfold F_envelopes_prepares prepOk primeOk at_
  simp only [F_ballots_Zero_eq, F_ballots_Less_eq, F_ballots_Compatible_eq, F_envelopes_finite_eq, F_envelopes_optional_eq, F_envelopes_at_eq, F_ballots_Aborts_eq, F_ballots_Prepares_eq, Option.bind_some, bif_some, letJ_eq, dlt, bif_not]
  cases finite e.Ballot <;> cases (zeroB e.Prepared || validB e.Prepared) <;> cases (zeroB e.Prime || validB e.Prime) <;> simp
  by_cases h : e.High = 0 <;> simp [h, Bool.and_assoc]
theorem F_envelopes_Valid_eq {e : TEnvelope} {tv : Int} (hT : F_threshold_Valid e.Trust = some tv) : F_envelopes_Valid e = some (validE tv e) := by
  unfold F_envelopes_Valid validE headOk
  simp [F_prepares_eq, hT, dlt, commOk, extOk, ranged]
  grind
theorem F_ref24_Valid_eq {e : TEnvelope} {tv : Int} (hT : F_ref02_Valid e.Trust = some tv) : F_ref24_Valid e = some (validE tv e) := by
  unfold F_ref24_Valid validE headOk
  simp [hT, dlt, commOk, extOk, ranged, prepOk, finite, primeOk, at_]
  have h9 : decide (e.Node ≤ 9) = !decide (10 ≤ e.Node) := by by_cases h : e.Node ≤ 9 <;> simp [h] <;> omega
  rw [h9]
  generalize (decide (0 ≤ e.Node) && !decide (10 ≤ e.Node) && decide (1 ≤ e.Slot) && decide (e.Slot ≤ 1000000) && decide (1 ≤ e.Seq) && decide (e.Seq ≤ 1000000) && decide (tv = 0)) = hd
  by_cases k1 : e.Kind = 1
  · simp only [k1, decide_true, cond_true, if_true]
    by_cases hl : 0 ≤ e.Low
    · by_cases hh : e.Low ≤ e.High
      · have : decide (e.High ≤ 0) = decide (e.High = 0) := by rw [decide_eq_decide]; omega
        rw [this]
        grind
      · simp [hh]
    · simp [hl]
  · by_cases k2 : e.Kind = 2
    · simp only [k2, decide_true, cond_true, if_true]
      grind
    · simp only [k1, k2, decide_false, cond_false, if_false]
      grind

/-! ### votes -/
def fromC (e : TEnvelope) (v : ByteArray) (lo hi : Int) : Bool := decide (1 ≤ lo) && decide (lo ≤ hi) && decide (e.Ballot.Value = v) && decide (e.Low ≤ lo)
def votesC (e : TEnvelope) (v : ByteArray) (lo hi : Int) : Bool := fromC e v lo hi && (!decide (e.Kind = 1) || (!decide (e.Low = 0) && decide (hi ≤ e.High)))
def acceptsC (e : TEnvelope) (v : ByteArray) (lo hi : Int) : Bool := fromC e v lo hi && (decide (e.Kind = 3) || (decide (e.Kind = 2) && decide (hi ≤ e.High)))
def votesP (e : TEnvelope) (b : TBallot) : Bool := !zeroB b && (if e.Kind = 1 then covers e.Ballot b else compat e.Ballot b)
def acceptsP (e : TEnvelope) (b : TBallot) : Bool := !zeroB b && (if e.Kind = 1 then preparesB e.Prepared e.Prime b else if e.Kind = 2 then covers e.Prepared b else compat e.Ballot b)
def countE (e : TEnvelope) : Int := if e.Kind = 3 then 1000000 else e.Ballot.Counter
@[simp] theorem F_Right_VotesCommit_eq (r : TRight) (v : ByteArray) (lo hi : Int) : F_envelopes_Right_VotesCommit r v lo hi = some (votesC r.Envelope v lo hi) := by
  simp [F_envelopes_Right_VotesCommit, F_envelopes_Right_from, votesC, fromC]
@[simp] theorem F_Right_AcceptsCommit_eq (r : TRight) (v : ByteArray) (lo hi : Int) : F_envelopes_Right_AcceptsCommit r v lo hi = some (acceptsC r.Envelope v lo hi) := by
  simp [F_envelopes_Right_AcceptsCommit, F_envelopes_Right_from, acceptsC, fromC]
@[simp] theorem F_Right_VotesPrepare_eq (r : TRight) (b : TBallot) : F_envelopes_Right_VotesPrepare r b = some (votesP r.Envelope b) := by
  simp only [F_envelopes_Right_VotesPrepare, votesP]
  cases hz : zeroB b <;> by_cases h : r.Envelope.Kind = 1 <;> simp [h, hz]
@[simp] theorem F_Right_AcceptsPrepare_eq (r : TRight) (b : TBallot) : F_envelopes_Right_AcceptsPrepare r b = some (acceptsP r.Envelope b) := by
  simp only [F_envelopes_Right_AcceptsPrepare, acceptsP]
  cases hz : zeroB b <;> by_cases h : r.Envelope.Kind = 1 <;> by_cases h2 : r.Envelope.Kind = 2 <;> simp [h, h2, hz]
@[simp] theorem F_Right_Count_eq (r : TRight) : F_envelopes_Right_Count r = some (countE r.Envelope) := by
  simp [F_envelopes_Right_Count, countE, bif_dec, ite_some]
section
variable {e : TEnvelope} {tv : Int} (hT : F_threshold_Valid e.Trust = some tv)
 include hT
theorem F_VotesCommit_eq (v : ByteArray) (lo hi : Int) : F_envelopes_VotesCommit e v lo hi = some (validE tv e && votesC e v lo hi) := by simp [F_envelopes_VotesCommit, F_envelopes_Valid_eq hT]
theorem F_AcceptsCommit_eq (v : ByteArray) (lo hi : Int) : F_envelopes_AcceptsCommit e v lo hi = some (validE tv e && acceptsC e v lo hi) := by simp [F_envelopes_AcceptsCommit, F_envelopes_Valid_eq hT]
theorem F_VotesPrepare_eq (b : TBallot) : F_envelopes_VotesPrepare e b = some (validE tv e && votesP e b) := by simp [F_envelopes_VotesPrepare, F_envelopes_Valid_eq hT]
theorem F_AcceptsPrepare_eq (b : TBallot) : F_envelopes_AcceptsPrepare e b = some (validE tv e && acceptsP e b) := by simp [F_envelopes_AcceptsPrepare, F_envelopes_Valid_eq hT]
theorem F_Counter_eq : F_envelopes_Counter e = some (if validE tv e then countE e else 0) := by
  simp only [F_envelopes_Counter, TTrust.eta, TEnvelope.eta, F_envelopes_Valid_eq hT, Option.bind_some]
  cases validE tv e <;> simp
end

/-! ### the example -/
def ups (n : Nat) : List Int := (List.range n).map fun i : Nat => (i : Int)
theorem ups_succ (n : Nat) : ups (n + 1) = ups n ++ [(n : Int)] := by simp [ups, List.range_succ]
@[simp] theorem ups_length (n : Nat) : (ups n).length = n := by simp [ups]
theorem Flat_eq (n : Nat) (hn : n ≤ 1000) (k : Int) : F_play_Flat n k = some ⟨k, ups n, []⟩ := by
  unfold F_play_Flat
  suffices key : ∀ (m i : Nat) (t : TTrust), i + m = n → t.Threshold = k → t.Inner = [] → loopO (fun (v1 : Int × TTrust × (List Int) × Unit) =>
      bif (decide (v1.1 < (n : Int))) then
      bif lenOk 8 (List.length v1.2.2.1 + List.length [v1.1]) then
      some (Sum.inl ((addI .i64 v1.1 (1 : Int)), (TTrust.mk v1.2.1.Threshold ([] : List Int) v1.2.1.Inner), (v1.2.2.1 ++ [v1.1]), ()))
      else none
      else
      Option.map Sum.inr (some (TTrust.mk v1.2.1.Threshold v1.2.2.1 v1.2.1.Inner))) ((i : Int), t, ups i, ()) = some ⟨k, ups n, []⟩ from key n 0 _ (by omega) rfl rfl
  intro m
  induction m with
  | zero =>
    intro i t hi h1 h2
    obtain rfl : i = n := by omega
    refine loopO_inr ?_
    have hd : decide ((i : Int) < (i : Int)) = false := decide_eq_false (Int.lt_irrefl _)
    simp only [hd, cond_false, h1, h2, Option.map_some]
  | succ m ih =>
    intro i t hi h1 h2
    have hd : decide ((i : Int) < (n : Int)) = true := decide_eq_true (by omega)
    have hw : addI .i64 (i : Int) 1 = ((i + 1 : Nat) : Int) := add64 (by omega) (by omega)
    rw [loopO_inl (s' := (((i + 1 : Nat) : Int), ⟨t.Threshold, [], t.Inner⟩, ups (i + 1), ()))]
    · exact ih (i + 1) _ (by omega) h1 h2
    · simp only [hd, hw, cond_true]
      rw [lenOk_small (by simp; omega)]
      simp [ups_succ]
theorem flat_good (n : Nat) (hn : n ≤ 10) (k : Int) (h1 : 1 ≤ k) (h2 : k ≤ n) : GoodT ⟨k, ups n, []⟩ := by
  refine ⟨fun x hx => ?_, ?_, by simpa using hn, .inl rfl, h1, by simpa using h2⟩
  · simp only [ups, List.mem_map, List.mem_range] at hx
    obtain ⟨i, hi, rfl⟩ := hx
    omega
  · show (ups n).Nodup
    exact List.Pairwise.map _ (fun a b h e => h (by omega)) List.nodup_range
theorem sane24 : F_law24_sane = some true := by
  have hF : F_play_Flat 3 2 = some ⟨2, ups 3, []⟩ := Flat_eq 3 (by omega) 2
  have hT : F_threshold_Valid ⟨2, ups 3, []⟩ = some 0 := F_threshold_Valid_good (flat_good 3 (by omega) 2 (by omega) (by omega))
  have h1 : F_envelopes_Valid (TEnvelope.mk 0 1 1 (TTrust.mk 2 (ups 3) []) 1 (TBallot.mk 3 (ByteArray.mk #[97])) (TBallot.mk 3 (ByteArray.mk #[97])) (TBallot.mk 0 (ByteArray.mk #[])) 2 3) = some true := (F_envelopes_Valid_eq (e := (TEnvelope.mk 0 1 1 (TTrust.mk 2 (ups 3) []) 1 (TBallot.mk 3 (ByteArray.mk #[97])) (TBallot.mk 3 (ByteArray.mk #[97])) (TBallot.mk 0 (ByteArray.mk #[])) 2 3)) hT).trans (by decide +kernel)
  have h2 : F_envelopes_VotesCommit (TEnvelope.mk 0 1 1 (TTrust.mk 2 (ups 3) []) 1 (TBallot.mk 3 (ByteArray.mk #[97])) (TBallot.mk 3 (ByteArray.mk #[97])) (TBallot.mk 0 (ByteArray.mk #[])) 2 3) (ByteArray.mk #[97]) 2 3 = some true := (F_VotesCommit_eq (e := (TEnvelope.mk 0 1 1 (TTrust.mk 2 (ups 3) []) 1 (TBallot.mk 3 (ByteArray.mk #[97])) (TBallot.mk 3 (ByteArray.mk #[97])) (TBallot.mk 0 (ByteArray.mk #[])) 2 3)) hT _ _ _).trans (by decide +kernel)
  have h3 : F_envelopes_AcceptsCommit (TEnvelope.mk 0 1 1 (TTrust.mk 2 (ups 3) []) 1 (TBallot.mk 3 (ByteArray.mk #[97])) (TBallot.mk 3 (ByteArray.mk #[97])) (TBallot.mk 0 (ByteArray.mk #[])) 2 3) (ByteArray.mk #[97]) 2 3 = some false := (F_AcceptsCommit_eq (e := (TEnvelope.mk 0 1 1 (TTrust.mk 2 (ups 3) []) 1 (TBallot.mk 3 (ByteArray.mk #[97])) (TBallot.mk 3 (ByteArray.mk #[97])) (TBallot.mk 0 (ByteArray.mk #[])) 2 3)) hT _ _ _).trans (by decide +kernel)
  have h4 : F_envelopes_Counter (TEnvelope.mk 0 1 1 (TTrust.mk 2 (ups 3) []) 1 (TBallot.mk 3 (ByteArray.mk #[97])) (TBallot.mk 3 (ByteArray.mk #[97])) (TBallot.mk 0 (ByteArray.mk #[])) 2 3) = some 3 := (F_Counter_eq (e := (TEnvelope.mk 0 1 1 (TTrust.mk 2 (ups 3) []) 1 (TBallot.mk 3 (ByteArray.mk #[97])) (TBallot.mk 3 (ByteArray.mk #[97])) (TBallot.mk 0 (ByteArray.mk #[])) 2 3)) hT).trans (by decide +kernel)
  simp only [F_law24_sane, hF, Option.bind_some, h1, h2, h3, h4, cond_true, Bool.not_false, decide_true]

/-! ### envelopes of the source -/
structure EnvOf (node slot n : Int) (e : TEnvelope) : Prop where
  node : e.Node = node
  slot : e.Slot = slot
  seq : 1 ≤ e.Seq ∧ e.Seq ≤ 9
  trust : GoodT e.Trust
  nodes : ∀ x ∈ e.Trust.Nodes, x < n
  ne : e.Trust.Nodes ≠ []
  val : Val e.Ballot.Value
  valid : validE 0 e = true
theorem validB_of {b : TBallot} (h1 : 1 ≤ b.Counter) (h2 : b.Counter ≤ 1000) (h3 : Val b.Value) : validB b = true := by
  have := h3.size
  have h4 : b.Value.size ≤ 200 := by omega
  simp [validB, h1, h2, h4, this.1]
theorem Envelope_ok {s : TSrc} (h : OkS s) {node slot : Int} (hn0 : 0 ≤ node) (hn1 : node < 10) (hs0 : 1 ≤ slot) (hs1 : slot ≤ 1000000) {n : Nat} (hn2 : 1 ≤ n) (hn : n ≤ 10) :
    Yd (F_play_Src_Envelope s node slot n) fun p => OkS p.2 ∧ EnvOf node slot n p.1 := by
  unfold F_play_Src_Envelope
  refine (Range_ok h (by omega) (by omega) (by omega)).bind fun p1 ⟨a1, a2, a3, _⟩ => ?_
  have a4 := a3 (by omega)
  refine (Trust_ok a1 hn2 hn).bind fun p2 ⟨b1, b2, b3, b4⟩ => ?_
  refine (Value_ok b1).bind fun p3 ⟨c1, c2⟩ => ?_
  have c3 := c2.size
  have hv : ∀ k : Int, 1 ≤ k → k ≤ 1000 → validB ⟨k, p3.1⟩ = true := fun k h1 h2 => validB_of h1 h2 c2
  simp only [TTrust.eta, TEnvelope.eta]
  have hd : ∀ e : TEnvelope, e.Node = node → e.Slot = slot → e.Seq = p1.1 → headOk e = true := by
    intro e h1 h2 h3
    simp only [headOk, h1, h2, h3, Bool.and_eq_true, decide_eq_true_eq]
    omega
  refine Yd.join (fun v => OkS v.1 ∧ EnvOf node slot n v.2.1) (fun v hv => Yd.some hv) fun j5 hj5 => ?_
  refine (N_ok c1 (by omega)).bind fun p6 ⟨d1, _⟩ => ?_
  refine Yd.join (fun v => OkS v.1 ∧ v.2.1 = TEnvelope.mk node slot p1.1 p2.1 0 ⟨0, noVal⟩ ⟨0, noVal⟩ ⟨0, noVal⟩ 0 0) (fun v ⟨hv1, hv2⟩ => ?_) fun j8 hj8 => ?_
  · -- preparing
    refine Yd.join (fun v => OkS v.1 ∧ EnvOf node slot n v.2.1) (fun v hv => hj5 _ hv) fun j10 hj10 => ?_
    refine (Range_ok hv1 (by omega) (by omega) (by omega)).bind fun p11 ⟨e1, e2, e3, _⟩ => ?_
    have e4 := e3 (by omega)
    simp only [hv2]
    refine Yd.join (fun v => OkS v.1 ∧ v.2.1.Node = node ∧ v.2.1.Slot = slot ∧ v.2.1.Seq = p1.1 ∧ v.2.1.Trust = p2.1 ∧ v.2.1.Kind = 1 ∧ v.2.1.Ballot = ⟨p11.1, p3.1⟩ ∧ (zeroB v.2.1.Prepared = true ∨ validB v.2.1.Prepared = true)) (fun v ⟨f0, f1, f2, f3, f4, f5, f6, f7⟩ => ?_) fun j13 hj13 => ?_
    · rw [f6]
      have g1 : addI .i64 p11.1 1 = p11.1 + 1 := add64 (by omega) (by omega)
      simp only [g1]
      refine (N_ok f0 (by omega)).bind fun p14 ⟨k1, k2, k3, _⟩ => ?_
      have k4 := k3 (by omega)
      have g2 : addI .i64 p14.1 1 = p14.1 + 1 := add64 (by omega) (by omega)
      simp only [g2]
      refine (N_ok k1 (by omega)).bind fun p15 ⟨l1, l2, l3, _⟩ => ?_
      have hTr : ∀ t, t = p2.1 → F_ref02_Valid t = some 0 := fun t ht => by rw [ht]; exact F_ref02_Valid_good b2
      have done : ∀ e : TEnvelope, e.Node = node → e.Slot = slot → e.Seq = p1.1 → e.Trust = p2.1 → e.Ballot = ⟨p11.1, p3.1⟩ → validE 0 e = true → EnvOf node slot n e := by
        intro e h1 h2 h3 h4 h5 h6
        exact ⟨h1, h2, by rw [h3]; exact ⟨a2, a4⟩, by rw [h4]; exact b2, by rw [h4]; exact b3, by rw [h4]; exact b4, by rw [h5]; exact c2, h6⟩
      refine Yd.join (fun w => w.1.Node = node ∧ w.1.Slot = slot ∧ w.1.Seq = p1.1 ∧ w.1.Trust = p2.1 ∧ w.1.Kind = 1 ∧ w.1.Ballot = ⟨p11.1, p3.1⟩ ∧ (zeroB w.1.Prepared = true ∨ validB w.1.Prepared = true) ∧ (validE 0 w.1 = true ∨ w.1.Low = 0)) (fun w ⟨m1, m2, m3, m4, m5, m6, m7, m8⟩ => ?_) fun j17 hj17 => ?_
      · refine Yd.join (fun w => w.1.Node = node ∧ w.1.Slot = slot ∧ w.1.Seq = p1.1 ∧ w.1.Trust = p2.1 ∧ w.1.Kind = 1 ∧ w.1.Ballot = ⟨p11.1, p3.1⟩ ∧ (zeroB w.1.Prepared = true ∨ validB w.1.Prepared = true) ∧ (validE 0 w.1 = true ∨ w.1.Low = 0 ∧ w.1.High = 0)) (fun w ⟨o1, o2, o3, o4, o5, o6, o7, o8⟩ => ?_) fun j19 hj19 => ?_
        · rw [F_ref24_Valid_eq (hTr _ o4)]
          simp only [Option.bind_some, bif_not]
          refine Yd.cond (fun hx => hj10 _ ⟨l1, done _ o1 o2 o3 o4 o6 hx⟩) (fun hx => hj10 _ ⟨l1, done _ o1 o2 o3 o4 o6 ?_⟩)
          rcases o8 with o8 | ⟨o8, o9⟩
          · rw [o8] at hx; cases hx
          · have q1 : finite w.1.Ballot = true := by rw [o6]; simp [finite, hv p11.1 e2 (by omega)]; omega
            have q2 : zeroB (TBallot.mk 0 (ByteArray.mk #[])) = true := by decide +kernel
            have q3 : (zeroB w.1.Prepared || validB w.1.Prepared) = true := by simpa using o7
            have q4 := hd w.1 o1 o2 o3
            have q5 : 0 ≤ w.1.Ballot.Counter := by rw [o6]; show 0 ≤ p11.1; omega
            simp only [validE, headOk, prepOk, primeOk, o5, o8, o9, q1, q2, q3, if_true] at q4 ⊢
            simp [q4, q5]
        · rw [F_ref24_Valid_eq (hTr _ m4)]
          simp only [Option.bind_some, bif_not]
          refine Yd.cond (fun hx => hj19 _ ⟨m1, m2, m3, m4, m5, m6, m7, .inl hx⟩) (fun hx => hj19 _ ⟨m1, m2, m3, m4, m5, m6, m7, .inr ⟨?_, rfl⟩⟩)
          rcases m8 with m8 | m8
          · rw [m8] at hx; cases hx
          · exact m8
      · rw [F_ref24_Valid_eq (e := TEnvelope.mk v.2.1.Node v.2.1.Slot v.2.1.Seq v.2.1.Trust v.2.1.Kind ⟨p11.1, p3.1⟩ v.2.1.Prepared v.2.1.Prime p15.1 p14.1) (tv := 0) (hTr _ f4)]
        simp only [Option.bind_some, bif_not]
        refine Yd.cond (fun hx => hj17 _ ⟨f1, f2, f3, f4, f5, rfl, f7, .inl hx⟩) (fun hx => hj17 _ ⟨f1, f2, f3, f4, f5, rfl, f7, .inr rfl⟩)
    · refine (N_ok e1 (by omega)).bind fun p23 ⟨k1, _⟩ => ?_
      refine Yd.cond (fun _ => ?_) (fun _ => ?_)
      · refine (Low_ok k1).bind fun p24 ⟨l1, l2, l3, l4⟩ => ?_
        refine (N_ok l1 (by omega)).bind fun p25 ⟨m1, _⟩ => ?_
        have hvl := validB_of (b := p24.1) l2 (by omega) l4
        refine Yd.cond (fun _ => ?_) (fun _ => ?_)
        · refine (Low_ok m1).bind fun p26 ⟨o1, _⟩ => ?_
          exact hj13 _ ⟨o1, rfl, rfl, rfl, rfl, rfl, rfl, .inr hvl⟩
        · exact hj13 _ ⟨m1, rfl, rfl, rfl, rfl, rfl, rfl, .inr hvl⟩
      · have z0 : zeroB (TBallot.mk 0 noVal) = true := by decide +kernel
        exact hj13 _ ⟨k1, rfl, rfl, rfl, rfl, rfl, rfl, .inl z0⟩
  · have z0 : zeroB (TBallot.mk 0 (ByteArray.mk #[])) = true := by decide +kernel
    refine Yd.cond (fun _ => ?_) (fun _ => ?_)
    · refine (Range_ok d1 (by omega) (by omega) (by omega)).bind fun p27 ⟨e1, e2, e3, _⟩ => ?_
      refine (Range_ok e1 (by omega) (by omega) (by omega)).bind fun p28 ⟨f1, f2, f3, _⟩ => ?_
      refine (N_ok f1 (by omega)).bind fun p29 ⟨k1, k2, k3, _⟩ => ?_
      refine (N_ok k1 (by omega)).bind fun p30 ⟨l1, l2, l3, _⟩ => ?_
      have e4 := e3 (by omega)
      have f4 := f3 (by omega)
      have k4 := k3 (by omega)
      have l4 := l3 (by omega)
      have g1 : addI .i64 p28.1 p29.1 = p28.1 + p29.1 := add64 (by omega) (by omega)
      have g2 : addI .i64 (p28.1 + p29.1) p30.1 = p28.1 + p29.1 + p30.1 := add64 (by omega) (by omega)
      simp only [g1, g2]
      refine hj5 _ ⟨l1, ⟨rfl, rfl, ⟨a2, a4⟩, b2, b3, b4, c2, ?_⟩⟩
      have q4 := hd ⟨node, slot, p1.1, p2.1, 2, ⟨p27.1, p3.1⟩, ⟨p28.1 + p29.1 + p30.1, p3.1⟩, ⟨0, ByteArray.mk #[]⟩, p28.1, p28.1 + p29.1⟩ rfl rfl rfl
      have q5 := hv p27.1 e2 (by omega)
      have q6 := hv (p28.1 + p29.1 + p30.1) (by omega) (by omega)
      have r1 : p27.1 ≤ 1000 := by omega
      have r2 : p28.1 ≤ p28.1 + p29.1 := by omega
      have r3 : p28.1 + p29.1 ≤ 1000 := by omega
      have r4 : p28.1 + p29.1 ≤ p28.1 + p29.1 + p30.1 := by omega
      simp [validE, q4, commOk, finite, q5, q6, compat, z0, ranged, r1, f2, r3, r4]
      omega
    · refine Yd.cond (fun _ => ?_) (fun _ => ?_)
      · refine (N_ok d1 (by omega)).bind fun p31 ⟨e1, _⟩ => ?_
        refine Yd.cond (fun _ => ?_) (fun _ => hj8 _ ⟨e1, rfl⟩)
        refine (Range_ok e1 (by omega) (by omega) (by omega)).bind fun p32 ⟨f1, f2, f3, _⟩ => ?_
        refine (Range_ok f1 (by omega) (by omega) (by omega)).bind fun p33 ⟨k1, k2, k3, _⟩ => ?_
        refine (N_ok k1 (by omega)).bind fun p34 ⟨l1, l2, l3, _⟩ => ?_
        have f4 := f3 (by omega)
        have k4 := k3 (by omega)
        have l4 := l3 (by omega)
        have g1 : addI .i64 p33.1 p34.1 = p33.1 + p34.1 := add64 (by omega) (by omega)
        simp only [g1]
        refine hj5 _ ⟨l1, ⟨rfl, rfl, ⟨a2, a4⟩, b2, b3, b4, c2, ?_⟩⟩
        have q4 := hd ⟨node, slot, p1.1, p2.1, 3, ⟨p32.1, p3.1⟩, ⟨0, ByteArray.mk #[]⟩, ⟨0, ByteArray.mk #[]⟩, p33.1, p33.1 + p34.1⟩ rfl rfl rfl
        have q5 := hv p32.1 f2 (by omega)
        have r3 : p33.1 + p34.1 ≤ 1000 := by omega
        simp [validE, q4, extOk, q5, z0, ranged, k2, r3]
        omega
      · exact hj8 _ ⟨d1, rfl⟩
end Go.Proofs.YtncjalhhkmojlaaGreat

namespace Go.Proofs.YtncjalhhkmojlaaGreat
open Go.TQ

end Go.Proofs.YtncjalhhkmojlaaGreat

namespace Go.Proofs.YtncjalhhkmojlaaGreat
open Go.TQ

/-- trusts whose lists are of modest length -/
inductive SmT : TTrust → Prop where
  | mk (t : TTrust) (h1 : t.Nodes.length ≤ 1000000) (h2 : t.Inner.length ≤ 1000000) (h3 : ∀ u ∈ t.Inner, SmT u) : SmT t
theorem SmT.nodes {t : TTrust} : SmT t → t.Nodes.length ≤ 1000000 | .mk _ h _ _ => h
theorem SmT.len {t : TTrust} : SmT t → t.Inner.length ≤ 1000000 | .mk _ _ h _ => h
theorem SmT.inner {t : TTrust} : SmT t → ∀ u ∈ t.Inner, SmT u | .mk _ _ _ h => h
theorem inner_lt {t u : TTrust} (h : u ∈ t.Inner) : SizeOf.sizeOf u < SizeOf.sizeOf t := by
  have h1 := List.sizeOf_lt_of_mem h
  cases t with
  | mk th ns is =>
    simp only [TTrust.mk.sizeOf_spec] at h1 ⊢
    omega
theorem GoodT.sm {t : TTrust} (h : GoodT t) : SmT t := by
  have := h.len
  refine .mk t (by omega) ?_ fun u hu => ?_
  · rcases h.inner with e | ⟨x, _, _, e⟩ <;> rw [e] <;> simp
  · rcases h.inner with e | ⟨x, _, _, e⟩
    · rw [e] at hu; cases hu
    · rw [e] at hu
      simp only [List.mem_singleton] at hu
      subst hu
      exact .mk _ (by simp) (by simp) (by simp)

/-! ### copies -/
@[simp] theorem clone_eq (l : List Int) (h : l.length ≤ 1000000) : F_slices_Clone_int_int l = some l := by
  unfold F_slices_Clone_int_int
  rw [lenOk_small (by simp; omega)]
  cases l with
  | nil => simp
  | cons x l => simp
theorem I_copies {n : Nat} : ∀ {t : TTrust}, SizeOf.sizeOf t < n → SmT t → I_copies_Trust n (t, ()) = some t := by
  induction n with
  | zero => intro t h; omega
  | succ n ih =>
    intro t hs hm
    show B_copies_Trust (I_copies_Trust n) t = some t
    unfold B_copies_Trust
    have hl := hm.len
    rw [clone_eq _ hm.nodes, Option.bind_some]
    -- the elements are copied one by one
    suffices key : ∀ (k i : Nat) (t' : TTrust), i + k = t.Inner.length → t'.Threshold = t.Threshold → t'.Nodes = t.Nodes → loopO (fun (v2 : Int × TTrust × (List TTrust) × Unit) =>
        bif (decide (v2.1 < ((List.length t.Inner : Nat) : Int))) then
        Option.bind (idx t.Inner v2.1) fun x3 =>
        Option.bind (I_copies_Trust n ((TTrust.mk x3.Threshold x3.Nodes x3.Inner), ())) fun r4 =>
        bif lenOk 56 (List.length v2.2.2.1 + List.length [(TTrust.mk r4.Threshold r4.Nodes r4.Inner)]) then
        some (Sum.inl ((addI .i64 v2.1 (1 : Int)), (TTrust.mk v2.2.1.Threshold v2.2.1.Nodes ([] : List TTrust)), (v2.2.2.1 ++ [(TTrust.mk r4.Threshold r4.Nodes r4.Inner)]), ()))
        else none
        else
        Option.map Sum.inr (some (TTrust.mk v2.2.1.Threshold v2.2.1.Nodes v2.2.2.1))) ((i : Int), t', t.Inner.take i, ()) = some t by
      have := key t.Inner.length 0 ⟨t.Threshold, t.Nodes, []⟩ (by omega) rfl rfl
      simpa using this
    intro k
    induction k with
    | zero =>
      intro i t' hi h1 h2
      refine loopO_inr ?_
      have hd : decide ((i : Int) < ((t.Inner.length : Nat) : Int)) = false := decide_eq_false (by omega)
      simp only [hd, cond_false, Option.map_some, h1, h2]
      rw [List.take_of_length_le (by omega), TTrust.eta]
    | succ k ihk =>
      intro i t' hi h1 h2
      have hlt : i < t.Inner.length := by omega
      have hd : decide ((i : Int) < ((t.Inner.length : Nat) : Int)) = true := decide_eq_true (by omega)
      have hx : idx t.Inner (i : Int) = some t.Inner[i] := by rw [idx_nat]; exact List.getElem?_eq_getElem hlt
      have hw : addI .i64 (i : Int) 1 = ((i + 1 : Nat) : Int) := add64 (by omega) (by omega)
      have hmem : t.Inner[i] ∈ t.Inner := List.getElem_mem hlt
      have hr := ih (t := t.Inner[i]) (by have := inner_lt hmem; omega) (hm.inner _ hmem)
      rw [loopO_inl (s' := (((i + 1 : Nat) : Int), ⟨t'.Threshold, t'.Nodes, []⟩, t.Inner.take (i + 1), ()))]
      · exact ihk (i + 1) _ (by omega) h1 h2
      · simp only [hd, cond_true, hx, hw, Option.bind_some, TTrust.eta, hr]
        rw [lenOk_small (by simp; omega), List.take_succ_eq_append_getElem hlt]
        rfl
@[simp] theorem copies_eq {t : TTrust} (h : SmT t) : F_copies_Trust t = some t := I_copies (by omega) h

/-! ### validity -/
theorem foldE_total {α σ ρ : Type} {g : α → σ → Option (σ ⊕ ρ)} {fin : σ → Option ρ} (hf : ∀ s, ∃ r, fin s = some r) : ∀ (l : List α), (∀ x ∈ l, ∀ s, ∃ y, g x s = some y) → ∀ s, ∃ r, foldE g fin l s = some r
  | [], _, s => hf s
  | x :: l, h, s => by
    obtain ⟨y, hy⟩ := h x (by simp) s
    rw [foldE, hy]
    cases y with
    | inr r => exact ⟨r, rfl⟩
    | inl s' => exact foldE_total hf l (fun x hx => h x (by simp [hx])) s'
theorem foldE_congr {α σ ρ : Type} {g g' : α → σ → Option (σ ⊕ ρ)} {fin : σ → Option ρ} : ∀ (l : List α), (∀ x ∈ l, ∀ s, g x s = g' x s) → ∀ s, foldE g fin l s = foldE g' fin l s
  | [], _, s => rfl
  | x :: l, h, s => by
    rw [foldE, foldE, h x (by simp) s]
    cases g' x s with
    | none => rfl
    | some y =>
      cases y with
      | inr r => rfl
      | inl s' => exact foldE_congr l (fun x hx => h x (by simp [hx])) s'
theorem depth_total {n : Nat} : ∀ {t : TTrust}, SizeOf.sizeOf t < n → SmT t → ∃ d, I_threshold_Depth n (t, ()) = some d := by
  induction n with
  | zero => intro t h; omega
  | succ n ih =>
    intro t hs hm
    show ∃ d, B_threshold_Depth (I_threshold_Depth n) t = some d
    have hl := hm.len
    rw [B_depth (by omega)]
    refine foldE_total (fun s => ⟨_, rfl⟩) _ (fun u hu s => ?_) _
    obtain ⟨d, hd⟩ := ih (t := u) (by have := inner_lt hu; omega) (hm.inner u hu)
    exact ⟨_, by rw [hd]; rfl⟩
theorem size_total {n : Nat} : ∀ {t : TTrust}, SizeOf.sizeOf t < n → SmT t → ∃ d, I_threshold_Size n (t, ()) = some d := by
  induction n with
  | zero => intro t h; omega
  | succ n ih =>
    intro t hs hm
    show ∃ d, B_threshold_Size (I_threshold_Size n) t = some d
    have hl := hm.len
    rw [B_size (by omega)]
    refine foldE_total (fun s => ⟨_, rfl⟩) _ (fun u hu s => ?_) _
    obtain ⟨d, hd⟩ := ih (t := u) (by have := inner_lt hu; omega) (hm.inner u hu)
    exact ⟨_, by rw [hd]; rfl⟩
theorem levelB_total {rec : TTrust → Option Int} {t : TTrust} (h : ∀ u ∈ t.Inner, ∃ r, rec u = some r) : ∃ r, levelB rec t = some r := by
  unfold levelB
  split
  · exact ⟨_, rfl⟩
  · split
    · exact ⟨_, rfl⟩
    · split
      · refine foldE_total (fun s => ⟨_, rfl⟩) _ (fun u hu s => ?_) _
        obtain ⟨r, hr⟩ := h u hu
        exact ⟨_, by rw [hr]; rfl⟩
      · exact ⟨_, rfl⟩
theorem levelB_congr {rec rec' : TTrust → Option Int} {t : TTrust} (h : ∀ u ∈ t.Inner, rec u = rec' u) : levelB rec t = levelB rec' t := by
  unfold levelB
  rw [foldE_congr _ fun u hu s => by rw [h u hu]]
theorem level_total {n : Nat} : ∀ {t : TTrust}, SizeOf.sizeOf t < n → SmT t → ∃ d, I_threshold_level n (t, ()) = some d ∧ I_ref02_check n (t, ()) = some d := by
  induction n with
  | zero => intro t h; omega
  | succ n ih =>
    intro t hs hm
    show ∃ d, B_threshold_level (I_threshold_level n) t = some d ∧ B_ref02_check (I_ref02_check n) t = some d
    have hl := hm.len
    have hn := hm.nodes
    rw [B_level (by omega) (by omega), B_check (by omega) (by omega)]
    have hih : ∀ u ∈ t.Inner, ∃ r, I_threshold_level n (u, ()) = some r ∧ I_ref02_check n (u, ()) = some r := fun u hu => ih (t := u) (by have := inner_lt hu; omega) (hm.inner u hu)
    obtain ⟨r, hr⟩ := levelB_total (rec := fun u => I_threshold_level n (u, ())) (t := t) fun u hu => by obtain ⟨r, h1, _⟩ := hih u hu; exact ⟨r, h1⟩
    refine ⟨r, hr, ?_⟩
    rw [← hr]
    refine levelB_congr fun u hu => ?_
    obtain ⟨r, h1, h2⟩ := hih u hu
    rw [h1, h2]
theorem valid_both {t : TTrust} (h : SmT t) : ∃ v, F_threshold_Valid t = some v ∧ F_ref02_Valid t = some v := by
  obtain ⟨d, hd⟩ : ∃ d, F_threshold_Depth t = some d := depth_total (by omega) h
  obtain ⟨z, hz⟩ : ∃ z, F_threshold_Size t = some z := size_total (by omega) h
  obtain ⟨l, hl1, hl2⟩ : ∃ l, F_threshold_level t = some l ∧ F_ref02_check t = some l := level_total (by omega) h
  simp [F_threshold_Valid, F_ref02_Valid, ref_depth, ref_size, hd, hz, hl1, hl2]
noncomputable def tval (t : TTrust) : Int := (F_threshold_Valid t).getD 1
theorem tval_eq {t : TTrust} (h : SmT t) : F_threshold_Valid t = some (tval t) := by
  obtain ⟨v, h1, _⟩ := valid_both h
  rw [tval, h1]; rfl
theorem tval_ref {t : TTrust} (h : SmT t) : F_ref02_Valid t = some (tval t) := by
  obtain ⟨v, h1, h2⟩ := valid_both h
  rw [tval, h1, h2]; rfl
noncomputable def isValid (e : TEnvelope) : Bool := validE (tval e.Trust) e
theorem Valid_eq {e : TEnvelope} (h : SmT e.Trust) : F_envelopes_Valid e = some (isValid e) := F_envelopes_Valid_eq (tval_eq h)
theorem rValid_eq {e : TEnvelope} (h : SmT e.Trust) : F_ref24_Valid e = some (isValid e) := F_ref24_Valid_eq (tval_ref h)

/-! ### satisfaction -/
def hasN (s : Nat) (x : Int) : Bool := inNode x && s.testBit x.toNat
mutual
def satT (s : Nat) : TTrust → Bool
  | ⟨th, ns, is⟩ => decide (th ≤ ((ns.countP (hasN s) + satC s is : Nat) : Int))
def satC (s : Nat) : List TTrust → Nat
  | [] => 0
  | t :: l => (if satT s t then 1 else 0) + satC s l
end
/-- more nodes satisfy more -/
theorem hasN_mono {s s' : Nat} (h : ∀ k, s.testBit k = true → s'.testBit k = true) (x : Int) (hx : hasN s x = true) : hasN s' x = true := by
  simp only [hasN, Bool.and_eq_true] at hx ⊢
  exact ⟨hx.1, h _ hx.2⟩
mutual
theorem satT_mono {s s' : Nat} (h : ∀ k, s.testBit k = true → s'.testBit k = true) : ∀ (t : TTrust), satT s t = true → satT s' t = true
  | ⟨th, ns, is⟩, ht => by
    rw [satT, decide_eq_true_eq] at ht ⊢
    have h1 := satC_mono h is
    have h2 : ns.countP (hasN s) ≤ ns.countP (hasN s') := List.countP_mono_left fun x _ hx => hasN_mono h x hx
    omega
theorem satC_mono {s s' : Nat} (h : ∀ k, s.testBit k = true → s'.testBit k = true) : ∀ (l : List TTrust), satC s l ≤ satC s' l
  | [] => by simp [satC]
  | t :: l => by
    have h1 := satC_mono h l
    have h2 := satT_mono h t
    rw [satC, satC]
    cases hs : satT s t with
    | false => simp; omega
    | true => rw [h2 hs]; simp; omega
end
end Go.Proofs.YtncjalhhkmojlaaGreat

namespace Go.Proofs.YtncjalhhkmojlaaGreat
open Go.TQ

theorem nat_ext {a b : Nat} (h : ∀ k, a.testBit k = b.testBit k) : a = b := Nat.eq_of_testBit_eq h
theorem lt_1024 {s : Nat} (h : ∀ k, s.testBit k = true → k < 10) : s < 1024 := by
  rcases Nat.lt_or_ge s 1024 with h1 | h1
  · exact h1
  · obtain ⟨k, hk1, hk2⟩ := Nat.exists_ge_and_testBit_of_ge_two_pow (n := 10) h1
    have := h k hk2
    omega
/-! ### declared members -/
def declF (i : Nat) (s : Nat) : List TMember → Nat
  | [] => s
  | m :: l => declF (i + 1) (if m.Declared && decide (i < 10) then s ||| 2 ^ i else s) l
def declN (l : List TMember) : Nat := declF 0 0 l
theorem declF_bit : ∀ (l : List TMember) (i s k : Nat), (declF i s l).testBit k = (s.testBit k || (decide (i ≤ k) && decide (k < 10) && ((l[k - i]?).any (·.Declared))))
  | [], i, s, k => by simp [declF]
  | m :: l, i, s, k => by
    rw [declF, declF_bit l (i + 1)]
    by_cases hk : k = i
    · subst hk
      have h1 : ¬ (k + 1 ≤ k) := by omega
      cases hm : m.Declared <;> by_cases hi : k < 10 <;> simp [hm, hi, h1, Nat.testBit_or]
    · have h2 : i ≤ k ↔ i + 1 ≤ k := by omega
      have h3 : ∀ b : Bool, (if (b && decide (i < 10)) = true then s ||| 2 ^ i else s).testBit k = s.testBit k := by
        intro b
        split
        · rw [Nat.testBit_or, Nat.testBit_two_pow]
          have : ¬ i = k := fun e => hk e.symm
          simp [this]
        · rfl
      rw [h3]
      by_cases hik : i + 1 ≤ k
      · have h4 : (m :: l)[k - i]? = l[k - (i + 1)]? := by
          rw [show k - i = (k - (i + 1)) + 1 by omega, List.getElem?_cons_succ]
        rw [h4]
        have : i ≤ k := by omega
        simp [this, hik]
      · have : ¬ i ≤ k := by omega
        simp [this, hik]
theorem declN_bit (l : List TMember) (k : Nat) : (declN l).testBit k = (decide (k < 10) && ((l[k]?).any (·.Declared))) := by
  rw [declN, declF_bit]; simp
/-! ### configurations of modest size -/
structure SmC (c : TConfig) : Prop where
  len : c.Members.length ≤ 1000000
  trust : ∀ m ∈ c.Members, SmT m.Trust
/-- the trust of a member -/
def trustAt (l : List TMember) (k : Nat) : TTrust := ((l[k]?).map (·.Trust)).getD ⟨0, [], []⟩
def isDecl (l : List TMember) (k : Nat) : Bool := (declN l).testBit k
theorem isDecl_get {l : List TMember} {k : Nat} (h : isDecl l k = true) : k < 10 ∧ ∃ m, l[k]? = some m ∧ m.Declared = true := by
  rw [isDecl, declN_bit] at h
  simp only [Bool.and_eq_true, decide_eq_true_eq, Option.any_eq_true] at h
  obtain ⟨h1, m, h2, h3⟩ := h
  exact ⟨h1, m, h2, h3⟩
end Go.Proofs.YtncjalhhkmojlaaGreat

namespace Go.Proofs.YtncjalhhkmojlaaGreat
open Go.TQ

/-! ### quorums -/
/-- each of r is in s, is declared, and is satisfied by r -/
def Inside (l : List TMember) (s r : Nat) : Prop := ∀ k, r.testBit k = true → s.testBit k = true ∧ isDecl l k = true ∧ satT r (trustAt l k) = true
structure IsGq (l : List TMember) (s q : Nat) : Prop where
  inside : Inside l s q
  max : ∀ r, Inside l s r → ∀ k, r.testBit k = true → q.testBit k = true
theorem IsGq.unique {l : List TMember} {s q q' : Nat} (h : IsGq l s q) (h' : IsGq l s q') : q = q' := by
  refine nat_ext fun k => ?_
  rw [Bool.eq_iff_iff]
  exact ⟨h'.max q h.inside k, h.max q' h'.inside k⟩
theorem IsGq.lt {l : List TMember} {s q : Nat} (h : IsGq l s q) : q < 1024 := lt_1024 fun k hk => (isDecl_get (h.inside k hk).2.1).1
/-- what the elimination keeps true -/
structure ElimInv (l : List TMember) (s0 s : Nat) : Prop where
  lt : s < 1024
  sub : ∀ k, s.testBit k = true → s0.testBit k = true ∧ isDecl l k = true
  max : ∀ r, Inside l s0 r → ∀ k, r.testBit k = true → s.testBit k = true
theorem ElimInv.first (l : List TMember) {s : Nat} (hs : s < 1024) : ElimInv l s (s &&& declN l) := by
  refine ⟨Nat.lt_of_le_of_lt Nat.and_le_left hs, fun k hk => ?_, fun r hr k hk => ?_⟩
  · rw [Nat.testBit_and, Bool.and_eq_true] at hk
    exact hk
  · rw [Nat.testBit_and, Bool.and_eq_true]
    exact ⟨(hr k hk).1, (hr k hk).2.1⟩
end Go.Proofs.YtncjalhhkmojlaaGreat

namespace Go.Proofs.YtncjalhhkmojlaaGreat
open Go.TQ

/-- lists of envelopes of modest size -/
structure SmL (l : List TEnvelope) : Prop where
  len : l.length ≤ 100000
  trust : ∀ e ∈ l, SmT e.Trust
end Go.Proofs.YtncjalhhkmojlaaGreat

namespace Go.Proofs.YtncjalhhkmojlaaGreat
open Go.TQ

/-! ### envelopes that prepare -/
def vE (b p : TBallot) (j : Nat) (t : TTrust) : TEnvelope := ⟨j, 1, 1, t, 1, b, p, ⟨0, ByteArray.mk #[]⟩, 0, 0⟩
structure LowB (b : TBallot) : Prop where
  lo : 1 ≤ b.Counter
  hi : b.Counter ≤ 6
  val : Val b.Value
theorem LowB.valid {b : TBallot} (h : LowB b) : validB b = true := validB_of h.lo (by have := h.hi; omega) h.val
end Go.Proofs.YtncjalhhkmojlaaGreat

namespace Go.Proofs.YtncjalhhkmojlaaGreat
open Go.TQ

/-- chosen envelopes: those of the nodes of a set -/
def Chosen (b p : TBallot) (ts : List TTrust) (q n : Nat) (l : List TEnvelope) : Prop :=
  l.length ≤ n ∧ (∀ e ∈ l, ∃ i t, i < n ∧ q.testBit i = true ∧ ts[i]? = some t ∧ e = vE b p i t) ∧ ∀ i t, i < n → q.testBit i = true → ts[i]? = some t → vE b p i t ∈ l
theorem Chosen.nil (b p : TBallot) (ts : List TTrust) (q : Nat) : Chosen b p ts q 0 [] := ⟨by simp, by simp, fun i t h => by omega⟩
theorem Chosen.take {b p : TBallot} {ts : List TTrust} {q n : Nat} {l : List TEnvelope} (h : Chosen b p ts q n l) (hq : q.testBit n = true) {t : TTrust} (ht : ts[n]? = some t) : Chosen b p ts q (n + 1) (l ++ [vE b p n t]) := by
  obtain ⟨h1, h2, h3⟩ := h
  refine ⟨by simp; omega, fun e he => ?_, fun i t' hi hb ht' => ?_⟩
  · rcases List.mem_append.1 he with he | he
    · obtain ⟨i, t, a, b, c⟩ := h2 e he
      exact ⟨i, t, by omega, b, c⟩
    · simp only [List.mem_singleton] at he
      exact ⟨n, t, by omega, hq, ht, he⟩
  · rcases Nat.lt_or_ge i n with h | h
    · exact List.mem_append.2 (.inl (h3 i t' h hb ht'))
    · obtain rfl : i = n := by omega
      rw [ht] at ht'
      injection ht' with ht'
      subst ht'
      exact List.mem_append.2 (.inr (by simp))
section
variable {b p : TBallot} (hb : LowB b) (hp : zeroB p = true ∨ validB p = true) {ts : List TTrust} (hts : ∀ t ∈ ts, GoodT t) {q : Nat} {l : List TEnvelope} (hlen : ts.length ≤ 5) (hc : Chosen b p ts q ts.length l)
 include hb hp hts hlen hc
end
end Go.Proofs.YtncjalhhkmojlaaGreat

set_option linter.unusedVariables false
namespace Go.Proofs.YtncjalhhkmojlaaGreat
open Go.TQ

section
variable {α : Type}
/-- an order -/
structure SWO (lt : α → α → Bool) : Prop where
  asymm : ∀ x y, lt x y = true → lt y x = false
  trans : ∀ x y z, lt y x = false → lt z y = false → lt z x = false

end
end Go.Proofs.YtncjalhhkmojlaaGreat

set_option linter.unusedVariables false
namespace Go.Proofs.YtncjalhhkmojlaaGreat
open Go.TQ

section
variable {α : Type}
noncomputable def cpIn (eq ne : α → α → Bool) (z : α) (K : Int) (n : Nat) (v6 : Int × Int × (List α) × Unit) : Option ((Int × Int × (List α) × Unit) ⊕ ((Int × (List α) × Unit) ⊕ List α)) :=
 bif (decide (v6.2.1 < ((List.length ((v6.2.2.1.drop (Int.toNat K)).take (Int.toNat (n : Int) - Int.toNat K)) : Nat) : Int))) then
 letJ (fun (v7 : Int × (List α) × Unit) =>
 some (Sum.inl (v7.1, (addI .i64 v6.2.1 (1 : Int)), v7.2.1, ()))) fun j8 =>
 Option.bind (idx ((v6.2.2.1.drop (Int.toNat K)).take (Int.toNat (n : Int) - Int.toNat K)) v6.2.1) fun x9 =>
 Option.bind (v6.2.2.1[((Int.toNat K) + Int.toNat v6.2.1)]?) fun x10 =>
 Option.bind (idx ((v6.2.2.1.drop (Int.toNat K)).take (Int.toNat (n : Int) - Int.toNat K)) (subI .i64 v6.2.1 (1 : Int))) fun x11 =>
 Option.bind (v6.2.2.1[((Int.toNat K) + Int.toNat (subI .i64 v6.2.1 (1 : Int)))]?) fun x12 =>
 bif (ne x10 x12) then
 Option.bind (idx ((v6.2.2.1.drop (Int.toNat K)).take (Int.toNat (n : Int) - Int.toNat K)) v6.2.1) fun x13 =>
 Option.bind (v6.2.2.1[((Int.toNat K) + Int.toNat v6.2.1)]?) fun x14 =>
 Option.bind (idx v6.2.2.1 v6.1) fun x15 =>
 Option.bind (v6.2.2.1[(Int.toNat v6.1)]?) fun x16 =>
 j8 ((addI .i64 v6.1 (1 : Int)), (v6.2.2.1.set (Int.toNat v6.1) x14), ())
 else
 j8 (v6.1, v6.2.2.1, ())
 else
 Option.map Sum.inr (bif slcOk v6.1 ((List.length v6.2.2.1) : Int) (List.length v6.2.2.1) then
 bif slcOk (0 : Int) v6.1 (List.length (v6.2.2.1.take (Int.toNat v6.1) ++ List.replicate (Int.toNat ((List.length v6.2.2.1) : Int) - Int.toNat v6.1) z ++ v6.2.2.1.drop ((Int.toNat v6.1) + (Int.toNat ((List.length v6.2.2.1) : Int) - Int.toNat v6.1)))) then
 Option.map Sum.inr (some ((v6.2.2.1.take (Int.toNat v6.1) ++ List.replicate (Int.toNat ((List.length v6.2.2.1) : Int) - Int.toNat v6.1) z ++ v6.2.2.1.drop ((Int.toNat v6.1) + (Int.toNat ((List.length v6.2.2.1) : Int) - Int.toNat v6.1))).take (Int.toNat v6.1 - Int.toNat (0 : Int))))
 else none
 else none)
noncomputable def cpOut (eq ne : α → α → Bool) (z : α) (v1 : Int × (List α) × Unit) : Option ((Int × (List α) × Unit) ⊕ List α) :=
 bif (decide (v1.1 < ((List.length v1.2.1 : Nat) : Int))) then
 Option.bind (idx v1.2.1 v1.1) fun x2 =>
 Option.bind (v1.2.1[(Int.toNat v1.1)]?) fun x3 =>
 Option.bind (idx v1.2.1 (subI .i64 v1.1 (1 : Int))) fun x4 =>
 Option.bind (v1.2.1[(Int.toNat (subI .i64 v1.1 (1 : Int)))]?) fun x5 =>
 bif (eq x3 x5) then
 bif slcOk v1.1 ((List.length v1.2.1) : Int) (List.length v1.2.1) then
 loopO (cpIn eq ne z v1.1 (List.length v1.2.1)) (v1.1, (1 : Int), v1.2.1, ())
 else none
 else
 some (Sum.inl ((addI .i64 v1.1 (1 : Int)), v1.2.1, ()))
 else
 Option.map Sum.inr (some v1.2.1)
/-- the decompiled slices.Compact -/
noncomputable def gCompact (eq ne : α → α → Bool) (z : α) (s : List α) : Option (List α) :=
 bif (decide (((List.length s : Nat) : Int) < (2 : Int))) then
 some s
 else
 loopO (cpOut eq ne z) ((1 : Int), s, ())

theorem view_idx (d : List α) {K n m : Nat} (hm : m < n - K) : idx ((d.drop K).take (n - K)) (m : Int) = d[K + m]? := by
  rw [idx_nat, List.getElem?_take, if_pos hm, List.getElem?_drop]

variable [DecidableEq α]
def ddStep (acc : List α) (x : α) : List α := if acc.getLast? = some x then acc else acc ++ [x]
/-- each once, of those that stand side by side -/
def dd (l : List α) : List α := l.foldl ddStep []
theorem dd_snoc (l : List α) (x : α) : dd (l ++ [x]) = ddStep (dd l) x := by simp [dd, List.foldl_append]
theorem dd_last (l : List α) : (dd l).getLast? = l.getLast? := by
  suffices h : ∀ r : List α, (dd r.reverse).getLast? = r.reverse.getLast? by
    have := h l.reverse
    rwa [List.reverse_reverse] at this
  intro r
  induction r with
  | nil => rfl
  | cons x r ih =>
    rw [List.reverse_cons, dd_snoc, ddStep]
    split
    · rename_i h; rw [h]; simp
    · simp
theorem dd_take {s : List α} {k : Nat} {x : α} (h : s[k]? = some x) : dd (s.take (k + 1)) = ddStep (dd (s.take k)) x := by
  obtain ⟨hl, hx⟩ := List.getElem?_eq_some_iff.1 h
  rw [List.take_succ_eq_append_getElem hl, hx, dd_snoc]
theorem last_take {s : List α} {k : Nat} {x : α} (h : s[k]? = some x) : (dd (s.take (k + 1))).getLast? = some x := by
  obtain ⟨hl, hx⟩ := List.getElem?_eq_some_iff.1 h
  rw [dd_last, List.take_succ_eq_append_getElem hl, hx]
  simp
variable {eq ne : α → α → Bool} {z : α}
theorem cp_inner (hne : ∀ x y, ne x y = !decide (x = y)) {s : List α} {K : Nat} (hn : s.length < 1000000000) : ∀ (r i k2 : Nat) (d : List α), k2 + r = s.length - K → 1 ≤ k2 → i ≤ K + k2 - 1 → d.length = s.length → d.take i = dd (s.take (K + k2)) → (∀ j, K + k2 - 1 ≤ j → d[j]? = s[j]?) →
    loopO (cpIn eq ne z (K : Int) s.length) ((i : Int), (k2 : Int), d, ()) = some (.inr (dd s))
  | 0, i, k2, d, hr, h1, hi, hd, ht, hs => by
    have hKn : K + k2 = s.length := by omega
    refine loopO_inr ?_
    have e1 : (((d.drop K).take (s.length - K)).length) = s.length - K := by simp; omega
    have e2 : decide ((k2 : Int) < ((s.length - K : Nat) : Int)) = false := decide_eq_false (by omega)
    have e3 : ∀ n, slcOk (i : Int) (d.length : Int) n = decide (d.length ≤ n) := by
      intro n
      have : i ≤ d.length := by omega
      simp only [slcOk]
      have h1 : decide ((0 : Int) ≤ (i : Int)) = true := decide_eq_true (by omega)
      have h2 : decide ((i : Int) ≤ (d.length : Int)) = true := decide_eq_true (by omega)
      rw [h1, h2, Bool.and_self, Bool.true_and, decide_eq_decide]
      omega
    have e4 : (d.take i ++ List.replicate (d.length - i) z ++ d.drop (i + (d.length - i))).length = d.length := by simp; omega
    have e5 : slcOk (0 : Int) (i : Int) d.length = true := by
      simp only [slcOk, Bool.and_eq_true, decide_eq_true_eq]
      omega
    have e6 : (d.take i ++ List.replicate (d.length - i) z ++ d.drop (i + (d.length - i))).take (i - 0) = dd s := by
      rw [Nat.sub_zero, List.append_assoc, List.take_append_of_le_length (by simp; omega), List.take_take, Nat.min_self, ht, hKn, List.take_length]
    simp only [cpIn, Int.toNat_natCast, e1, e2, cond_false, e3, Nat.le_refl, decide_true, cond_true, e4, e5, Int.toNat_zero, e6, Option.map_some]
  | r + 1, i, k2, d, hr, h1, hi, hd, ht, hs => by
    have hKn : K + k2 < s.length := by omega
    obtain ⟨x, hx⟩ : ∃ x, s[K + k2]? = some x := ⟨_, List.getElem?_eq_getElem hKn⟩
    obtain ⟨y, hy⟩ : ∃ y, s[K + (k2 - 1)]? = some y := ⟨_, List.getElem?_eq_getElem (by omega)⟩
    have e1 : (((d.drop K).take (s.length - K)).length) = s.length - K := by simp; omega
    have e2 : decide ((k2 : Int) < ((s.length - K : Nat) : Int)) = true := decide_eq_true (by omega)
    have e3 : subI .i64 (k2 : Int) 1 = ((k2 - 1 : Nat) : Int) := by rw [sub64 (by omega) (by omega)]; omega
    have e4 : addI .i64 (k2 : Int) 1 = ((k2 + 1 : Nat) : Int) := add64 (by omega) (by omega)
    have e5 : addI .i64 (i : Int) 1 = ((i + 1 : Nat) : Int) := add64 (by omega) (by omega)
    have hdx : d[K + k2]? = some x := by rw [hs _ (by omega), hx]
    have hdy : d[K + (k2 - 1)]? = some y := by rw [hs _ (by omega), hy]
    have hv1 := view_idx d (K := K) (n := s.length) (m := k2) (by omega)
    have hv2 := view_idx d (K := K) (n := s.length) (m := k2 - 1) (by omega)
    obtain ⟨w, hw⟩ : ∃ w, d[i]? = some w := ⟨_, List.getElem?_eq_getElem (by omega)⟩
    have hstep := dd_take hx
    have hlast : (dd (s.take (K + k2))).getLast? = some y := by
      have := last_take hy
      rwa [show K + (k2 - 1) + 1 = K + k2 by omega] at this
    rw [ddStep, hlast] at hstep
    have hil : i < d.length := by omega
    by_cases hxy : x = y
    · refine Eq.trans (loopO_inl (s' := ((i : Int), ((k2 + 1 : Nat) : Int), d, ())) ?_) (cp_inner hne hn r i (k2 + 1) d (by omega) (by omega) (by omega) hd ?_ fun j hj => hs j (by omega))
      · simp only [cpIn, Int.toNat_natCast, e1, e2, cond_true, letJ_eq, hv1, hdx, Option.bind_some, e3, hv2, hdy, hne, hxy, decide_true, Bool.not_true, cond_false, e4]
      · rw [show K + (k2 + 1) = K + k2 + 1 by omega, hstep, if_pos (by rw [hxy]), ht]
    · refine Eq.trans (loopO_inl (s' := (((i + 1 : Nat) : Int), ((k2 + 1 : Nat) : Int), d.set i x, ())) ?_) (cp_inner hne hn r (i + 1) (k2 + 1) (d.set i x) (by omega) (by omega) (by omega) (by rw [List.length_set]; exact hd) ?_ fun j hj => ?_)
      · simp only [cpIn, Int.toNat_natCast, e1, e2, cond_true, letJ_eq, hv1, hdx, Option.bind_some, e3, hv2, hdy, hne, hxy, decide_false, Bool.not_false, e4, e5, idx_nat, hw]
      · rw [show K + (k2 + 1) = K + k2 + 1 by omega, hstep, if_neg (fun e => hxy (by injection e with e; exact e.symm)), ← ht, List.take_succ_eq_append_getElem (by rw [List.length_set]; exact hil)]
        congr 1
        · rw [List.take_set_of_le (Nat.le_refl _)]
        · simp
      · rw [List.getElem?_set, if_neg (by omega)]
        exact hs j (by omega)
theorem cp_outer (heq : ∀ x y, eq x y = decide (x = y)) (hne : ∀ x y, ne x y = !decide (x = y)) {s : List α} (hn : s.length < 1000000000) : ∀ (r k : Nat), k + r = s.length → 1 ≤ k → dd (s.take k) = s.take k → loopO (cpOut eq ne z) ((k : Int), s, ()) = some (dd s)
  | 0, k, hr, h1, h => by
    refine loopO_inr ?_
    have hk : k = s.length := by omega
    have e2 : decide ((k : Int) < ((s.length : Nat) : Int)) = false := decide_eq_false (by omega)
    rw [hk, List.take_length] at h
    simp only [cpOut, e2, cond_false, Option.map_some, h]
  | r + 1, k, hr, h1, h => by
    have hk : k < s.length := by omega
    obtain ⟨x, hx⟩ : ∃ x, s[k]? = some x := ⟨_, List.getElem?_eq_getElem hk⟩
    obtain ⟨y, hy⟩ : ∃ y, s[k - 1]? = some y := ⟨_, List.getElem?_eq_getElem (by omega)⟩
    have e2 : decide ((k : Int) < ((s.length : Nat) : Int)) = true := decide_eq_true (by omega)
    have e3 : subI .i64 (k : Int) 1 = ((k - 1 : Nat) : Int) := by rw [sub64 (by omega) (by omega)]; omega
    have e4 : addI .i64 (k : Int) 1 = ((k + 1 : Nat) : Int) := add64 (by omega) (by omega)
    have hstep := dd_take hx
    have hlast : (dd (s.take k)).getLast? = some y := by
      have := last_take hy
      rwa [show k - 1 + 1 = k by omega] at this
    rw [ddStep, hlast] at hstep
    by_cases hxy : x = y
    · rw [if_pos (by rw [hxy])] at hstep
      have e5 : slcOk (k : Int) (s.length : Int) s.length = true := by
        simp only [slcOk, Bool.and_eq_true, decide_eq_true_eq]
        omega
      have hin := cp_inner (eq := eq) (z := z) (K := k) hne hn (s.length - k - 1) k 1 s (by omega) (by omega) (by omega) rfl (by rw [hstep, h]) (fun _ _ => rfl)
      refine loopO_inr ?_
      simp only [cpOut, e2, cond_true, idx_nat, Int.toNat_natCast, hx, hy, e3, Option.bind_some, heq, hxy, decide_true, e5]
      exact hin
    · rw [if_neg (fun e => hxy (by injection e with e; exact e.symm))] at hstep
      refine Eq.trans (loopO_inl (s' := (((k + 1 : Nat) : Int), s, ())) ?_) (cp_outer heq hne hn r (k + 1) (by omega) (by omega) ?_)
      · simp only [cpOut, e2, cond_true, idx_nat, Int.toNat_natCast, hx, hy, e3, Option.bind_some, heq, hxy, decide_false, cond_false, e4]
      · obtain ⟨hl, hx'⟩ := List.getElem?_eq_some_iff.1 hx
        rw [hstep, h, List.take_succ_eq_append_getElem hl, hx']
theorem compact_ok (heq : ∀ x y, eq x y = decide (x = y)) (hne : ∀ x y, ne x y = !decide (x = y)) (s : List α) (hn : s.length < 1000000000) : gCompact eq ne z s = some (dd s) := by
  unfold gCompact
  by_cases h : s.length < 2
  · have e : decide (((s.length : Nat) : Int) < 2) = true := decide_eq_true (by omega)
    rw [e, cond_true]
    match s, h with
    | [], _ => rfl
    | [x], _ => rfl
  · have e : decide (((s.length : Nat) : Int) < 2) = false := decide_eq_false (by omega)
    rw [e, cond_false]
    refine cp_outer heq hne hn (s.length - 1) 1 (by omega) (by omega) ?_
    cases s with
    | nil => rfl
    | cons x l => rfl

/-! ### what it is -/
theorem ddStep_sub (acc : List α) (x : α) : ∀ y, y ∈ ddStep acc x ↔ y ∈ acc ∨ y = x := by
  intro y
  unfold ddStep
  split
  · rename_i h
    have := List.mem_of_getLast? h
    exact ⟨.inl, fun h' => h'.elim id fun e => e ▸ this⟩
  · simp
theorem mem_foldl_dd : ∀ (l acc : List α) (y : α), y ∈ l.foldl ddStep acc ↔ y ∈ acc ∨ y ∈ l
  | [], acc, y => by simp
  | x :: l, acc, y => by
    rw [List.foldl_cons, mem_foldl_dd l, ddStep_sub]
    simp [or_assoc]
theorem mem_dd (l : List α) (y : α) : y ∈ dd l ↔ y ∈ l := by rw [dd, mem_foldl_dd]; simp
theorem dd_len (l : List α) : (dd l).length ≤ l.length := by
  suffices h : ∀ (l acc : List α), (l.foldl ddStep acc).length ≤ acc.length + l.length by simpa [dd] using h l []
  intro l
  induction l with
  | nil => intro acc; simp
  | cons x l ih =>
    intro acc
    rw [List.foldl_cons]
    refine Nat.le_trans (ih _) ?_
    unfold ddStep
    split <;> simp <;> omega
/-- what is sorted is strictly so, each once -/
theorem dd_sorted {lt : α → α → Bool} (ho : SWO lt) (hto : ∀ x y, lt x y = false → lt y x = false → x = y) {l : List α} (hl : l.Pairwise (fun a b => lt b a = false)) : (dd l).Pairwise (fun a b => lt a b = true) := by
  suffices h : ∀ (l acc : List α), (acc ++ l).Pairwise (fun a b => lt b a = false) → acc.Pairwise (fun a b => lt a b = true) → (l.foldl ddStep acc).Pairwise (fun a b => lt a b = true) from h l [] (by simpa using hl) .nil
  intro l
  induction l with
  | nil => intro acc _ h; exact h
  | cons x l ih =>
    intro acc h1 h2
    rw [List.foldl_cons]
    unfold ddStep
    split
    · rename_i hlast
      refine ih acc ?_ h2
      rw [List.pairwise_append] at h1 ⊢
      exact ⟨h1.1, (List.pairwise_cons.1 h1.2.1).2, fun a ha b hb => h1.2.2 a ha b (by simp [hb])⟩
    · rename_i hlast
      refine ih _ (by simpa using h1) ?_
      rw [List.pairwise_append] at h1 ⊢
      refine ⟨h2, by simp, fun a ha b hb => ?_⟩
      rw [List.mem_singleton.1 hb]
      -- a is no greater than the last, that is less than x
      have hax : lt x a = false := h1.2.2 a ha x (by simp)
      cases hc : lt a x with
      | true => rfl
      | false =>
        exfalso
        have e := hto a x hc hax
        subst e
        -- the last of acc is then a too
        obtain ⟨y, hy⟩ : ∃ y, acc.getLast? = some y := by
          cases hg : acc.getLast? with
          | none => rw [List.getLast?_eq_none_iff.1 hg] at ha; cases ha
          | some y => exact ⟨y, rfl⟩
        obtain ⟨pre, rfl⟩ : ∃ pre, acc = pre ++ [y] := by
          have := List.getLast?_eq_some_iff.1 hy
          exact this
        rcases List.mem_append.1 ha with ha | ha
        · rw [List.pairwise_append] at h2
          have h3 := h2.2.2 a ha y (by simp)
          have h4 := h1.2.2 y (by simp) a (by simp)
          rw [h3] at h4
          cases h4
        · rw [List.mem_singleton.1 ha] at hlast
          exact hlast hy
end
end Go.Proofs.YtncjalhhkmojlaaGreat

namespace Go.Proofs.YtncjalhhkmojlaaGreat
open Go.TQ

theorem compI_eq (s : List Int) : F_slices_Compact_int_int s = gCompact (fun x y => decide (x = y)) (fun x y => !decide (x = y)) 0 s := rfl
/-! ### the bounds of a value -/
noncomputable def hasBounds (v : ByteArray) (e : TEnvelope) : Bool := isValid e && decide (e.Ballot.Value = v) && !decide (e.Low = 0)
noncomputable def ends (v : ByteArray) (l : List TEnvelope) : List Int := l.flatMap fun e => if hasBounds v e then [e.Low, e.High] else []
end Go.Proofs.YtncjalhhkmojlaaGreat

set_option linter.unusedVariables false
namespace Go.Proofs.YtncjalhhkmojlaaGreat
open Go.TQ

section
variable {node : Nat} (hn : node < 10) {t : TTrust} (ht : SmT t) {l : List TEnvelope} (hl : SmL l)
 include hn ht hl
end

/-! ### nodes that trust the same -/
def flat (n : Nat) (k : Int) : TTrust := ⟨k, ups n, []⟩
structure FlatL (n : Nat) (k : Int) (l : List TEnvelope) : Prop where
  n10 : n ≤ 10
  k1 : 1 ≤ k
  kn : k ≤ n
  valid : ∀ e ∈ l, isValid e = true
  trust : ∀ e ∈ l, e.Trust = flat n k
  few : l.length ≤ 1000
  all : ∀ i, i < n → ∃ e ∈ l, e.Node.toNat = i
theorem FlatL.good {n : Nat} {k : Int} {l : List TEnvelope} (h : FlatL n k l) : GoodT (flat n k) := flat_good n h.n10 k h.k1 h.kn
theorem FlatL.sm {n : Nat} {k : Int} {l : List TEnvelope} (h : FlatL n k l) : SmL l := ⟨by have := h.few; omega, fun e he => by rw [h.trust e he]; exact h.good.sm⟩
/-! ### envelopes that commit -/
def cE (n : Nat) (k : Int) (c : Int) (v : ByteArray) (lo hi : Nat → Int) (i : Nat) : TEnvelope := ⟨i, 1, 1, flat n k, 2, ⟨c, v⟩, ⟨c, v⟩, ⟨0, ByteArray.mk #[]⟩, lo i, hi i⟩
end Go.Proofs.YtncjalhhkmojlaaGreat

set_option linter.unusedVariables false
namespace Go.Proofs.YtncjalhhkmojlaaGreat
open Go.TQ

section
variable {node : Nat} (hn : node < 10) {t : TTrust} (ht : SmT t) {l : List TEnvelope} (hl : SmL l)
 include hn ht hl
end

section
variable {n : Nat} {k c : Int} {v : ByteArray} {lo hi : Nat → Int} (h : FlatL n k ((List.range n).map (cE n k c v lo hi))) {i : Nat} (hi' : i < n)
 include h hi'
end

end Go.Proofs.YtncjalhhkmojlaaGreat

set_option linter.unusedVariables false
namespace Go.Proofs.YtncjalhhkmojlaaGreat
open Go.TQ

/-! ### lists of the source -/
structure EnvsOf (n : Nat) (l : List TEnvelope) : Prop where
  of : ∀ e ∈ l, ∃ i : Nat, i < n ∧ EnvOf i 1 n e
  asc : l.Pairwise fun a b => a.Node < b.Node
  len : l.length ≤ n
theorem EnvsOf.sm {n : Nat} {l : List TEnvelope} (h : EnvsOf n l) (hn : n ≤ 1000) : SmL l := ⟨by have := h.len; omega, fun e he => by
  obtain ⟨i, _, hi⟩ := h.of e he
  exact hi.trust.sm⟩
theorem Envelopes_ok {s : TSrc} (h : OkS s) {n : Nat} (hn1 : 1 ≤ n) (hn : n ≤ 10) : Yd (F_play_Src_Envelopes s n 1) fun p => OkS p.2 ∧ EnvsOf n p.1 := by
  unfold F_play_Src_Envelopes
  suffices key : ∀ (k i : Nat) (l : List TEnvelope) (s : TSrc), i + k = n → OkS s → (∀ e ∈ l, ∃ j : Nat, j < i ∧ EnvOf j 1 n e) → l.Pairwise (fun a b => a.Node < b.Node) → l.length ≤ i → Yd (loopO _ ((i : Int), l, s, ())) _ from key n 0 [] s (by omega) h (by simp) .nil (by simp)
  intro k
  induction k with
  | zero =>
    intro i l s hi hs h1 h2 h3
    obtain rfl : i = n := by omega
    refine Yd.loop ?_
    have hd : decide ((i : Int) < (i : Int)) = false := decide_eq_false (Int.lt_irrefl _)
    simp only [hd, cond_false]
    exact Yd.inr (Yd.some ⟨hs, h1, h2, h3⟩)
  | succ k ih =>
    intro i l s hi hs h1 h2 h3
    have hd : decide ((i : Int) < (n : Int)) = true := decide_eq_true (by omega)
    have hw : addI .i64 (i : Int) 1 = ((i + 1 : Nat) : Int) := add64 (by omega) (by omega)
    refine Yd.loop ?_
    simp only [hd, hw, cond_true, letJ_eq]
    refine (N_ok hs (by omega)).bind fun p4 ⟨a1, a2, a3, _⟩ => ?_
    refine Yd.cond (fun _ => ?_) (fun _ => ?_)
    · refine (Envelope_ok a1 (node := i) (slot := 1) (by omega) (by omega) (by omega) (by omega) hn1 hn).bind fun p5 ⟨b1, b2⟩ => ?_
      rw [lenOk_small (by simp; omega)]
      refine Yd.some (ih (i + 1) _ p5.2 (by omega) b1 (fun e he => ?_) ?_ (by simp; omega))
      · rcases List.mem_append.1 he with he | he
        · obtain ⟨j, hj, hje⟩ := h1 e he
          exact ⟨j, by omega, hje⟩
        · simp only [TTrust.eta, TEnvelope.eta, List.mem_singleton] at he
          rw [he]
          exact ⟨i, by omega, b2⟩
      · rw [List.pairwise_append]
        refine ⟨h2, by simp, fun a ha b hb => ?_⟩
        simp only [TTrust.eta, TEnvelope.eta, List.mem_singleton] at hb
        rw [hb, b2.node]
        obtain ⟨j, hj, hje⟩ := h1 a ha
        rw [hje.node]
        omega
    · exact Yd.some (ih (i + 1) _ p4.2 (by omega) a1 (fun e he => by
        obtain ⟨j, hj, hje⟩ := h1 e he
        exact ⟨j, by omega, hje⟩) h2 (by omega))

section
variable {node : Nat} {t : TTrust} (ht : SmT t) {l : List TEnvelope} (hl : SmL l) {v : ByteArray} {lo hi k : Int} (h1 : lo ≤ k) (h2 : k ≤ hi)
 include ht hl h1 h2
end
end Go.Proofs.YtncjalhhkmojlaaGreat

set_option linter.unusedVariables false
namespace Go.Proofs.YtncjalhhkmojlaaGreat
open Go.TQ
open Go.Sort (swp insInner insOuter siftDown heapBuild heapPop reverseLoop)

section
variable {α γ : Type}
/-- two elements change places -/
def swO (s : List α) (i j : Int) (k : List α → Option γ) : Option γ :=
  Option.bind (idx s j) fun x1 => Option.bind (s[(Int.toNat j)]?) fun x2 => Option.bind (idx s i) fun x3 => Option.bind (s[(Int.toNat i)]?) fun x4 =>
  Option.bind (idx s i) fun x5 => Option.bind (s[(Int.toNat i)]?) fun x6 => Option.bind (idx (s.set (Int.toNat i) x2) j) fun x7 => Option.bind ((s.set (Int.toNat i) x2)[(Int.toNat j)]?) fun x8 =>
  k ((s.set (Int.toNat i) x2).set (Int.toNat j) x4)
/-- is the one less? -/
def ltO (cmp : α → α → Option Int) (s : List α) (i j : Int) (k : Bool → Option γ) : Option γ :=
  Option.bind (idx s i) fun x1 => Option.bind (s[(Int.toNat i)]?) fun x2 => Option.bind (idx s j) fun x3 => Option.bind (s[(Int.toNat j)]?) fun x4 => Option.bind (cmp x2 x4) fun r => k (decide (r < (0 : Int)))
def ltV (cmp : α → α → Option Int) (s : List α) (i j : Int) (k : Bool → Option γ) : Option γ :=
  Option.bind (idx s i) fun x1 => Option.bind (idx s j) fun x2 => Option.bind (cmp x1 x2) fun r => k (decide (r < (0 : Int)))
variable [Inhabited α]
theorem arr_get {d : Array α} {i : Nat} (h : i < d.size) : d.toList[i]? = some d[i]! := by
  rw [Array.getElem?_toList, Array.getElem?_eq_getElem h, getElem!_pos d i h]
theorem swO_eq {d : Array α} {i j : Nat} (hi : i < d.size) (hj : j < d.size) (k : List α → Option γ) : swO d.toList (i : Int) (j : Int) k = k (swp d i j).toList := by
  have h1 : (d.toList.set i d[j]!)[j]? = some ((d.setIfInBounds i d[j]!)[j]!) := by
    rw [← Array.toList_setIfInBounds]
    exact arr_get (by simpa using hj)
  simp only [swO, idx_nat, Int.toNat_natCast, arr_get hi, arr_get hj, Option.bind_some, h1]
  rw [swp, Array.toList_setIfInBounds, Array.toList_setIfInBounds]
variable {cmp : α → α → Option Int} {c : α → α → Int} (hc : ∀ x y, cmp x y = some (c x y))
 include hc
theorem ltO_eq {d : Array α} {i j : Nat} (hi : i < d.size) (hj : j < d.size) (k : Bool → Option γ) : ltO cmp d.toList (i : Int) (j : Int) k = k (decide (c d[i]! d[j]! < 0)) := by
  simp only [ltO, idx_nat, Int.toNat_natCast, arr_get hi, arr_get hj, Option.bind_some, hc]
theorem ltV_eq {d : Array α} {i j : Nat} (hi : i < d.size) (hj : j < d.size) (k : Bool → Option γ) : ltV cmp d.toList (i : Int) (j : Int) k = k (decide (c d[i]! d[j]! < 0)) := by
  simp only [ltV, idx_nat, arr_get hi, arr_get hj, Option.bind_some, hc]
end

section
variable {α : Type}
/-! ### the turned functions -/
noncomputable def revStep (v1 : Int × Int × (List α) × Unit) : Option ((Int × Int × (List α) × Unit) ⊕ (Unit × List α)) :=
  bif (decide (v1.1 < v1.2.1)) then swO v1.2.2.1 v1.1 v1.2.1 fun l => some (Sum.inl ((addI .i64 v1.1 (1 : Int)), (subI .i64 v1.2.1 (1 : Int)), l, ()))
  else Option.map Sum.inr (some ((()), v1.2.2.1))
noncomputable def gRev (s : List α) (a0 a1 : Int) : Option (Unit × List α) := loopO revStep (a0, (subI .i64 a1 (1 : Int)), s, ())
noncomputable def insI (cmp : α → α → Option Int) (a0 i : Int) (v2 : Int × (List α) × Unit) : Option ((Int × (List α) × Unit) ⊕ ((Int × (List α) × Unit) ⊕ ((Unit) × List α))) :=
  letJ (fun (v3 : Bool × Unit) => bif v3.1 then swO v2.2.1 v2.1 (subI .i64 v2.1 (1 : Int)) fun l => some (Sum.inl ((subI .i64 v2.1 (1 : Int)), l, ()))
    else Option.map Sum.inr (some (Sum.inl ((addI .i64 i (1 : Int)), v2.2.1, ())))) fun j4 =>
  bif (decide (a0 < v2.1)) then ltO cmp v2.2.1 v2.1 (subI .i64 v2.1 (1 : Int)) fun b => j4 (b, ()) else j4 (false, ())
noncomputable def insO (cmp : α → α → Option Int) (a0 a1 : Int) (v1 : Int × (List α) × Unit) : Option ((Int × (List α) × Unit) ⊕ ((Unit) × List α)) :=
  bif (decide (v1.1 < a1)) then loopO (insI cmp a0 v1.1) (v1.1, v1.2.1, ()) else Option.map Sum.inr (some ((()), v1.2.1))
noncomputable def gInsert (cmp : α → α → Option Int) (s : List α) (a0 a1 : Int) : Option ((Unit) × List α) := loopO (insO cmp a0 a1) ((addI .i64 a0 (1 : Int)), s, ())
noncomputable def siftStep (cmp : α → α → Option Int) (a1 a2 : Int) (v1 : Int × (List α) × Unit) : Option ((Int × (List α) × Unit) ⊕ (Unit × List α)) :=
  bif (decide (a1 ≤ (addI .i64 (mulI .i64 (2 : Int) v1.1) (1 : Int)))) then Option.map Sum.inr (some ((()), v1.2.1)) else
  letJ (fun (v2 : Int × Unit) => ltO cmp v1.2.1 (addI .i64 a2 v1.1) (addI .i64 a2 v2.1) fun b =>
    bif (!b) then Option.map Sum.inr (some ((()), v1.2.1)) else
    swO v1.2.1 (addI .i64 a2 v1.1) (addI .i64 a2 v2.1) fun l => some (Sum.inl (v2.1, l, ()))) fun j3 =>
  letJ (fun (v17 : Bool × Unit) => bif v17.1 then j3 ((addI .i64 (addI .i64 (mulI .i64 (2 : Int) v1.1) (1 : Int)) (1 : Int)), ()) else j3 ((addI .i64 (mulI .i64 (2 : Int) v1.1) (1 : Int)), ())) fun j18 =>
  bif (decide ((addI .i64 (addI .i64 (mulI .i64 (2 : Int) v1.1) (1 : Int)) (1 : Int)) < a1)) then
    ltO cmp v1.2.1 (addI .i64 a2 (addI .i64 (mulI .i64 (2 : Int) v1.1) (1 : Int))) (addI .i64 (addI .i64 a2 (addI .i64 (mulI .i64 (2 : Int) v1.1) (1 : Int))) (1 : Int)) fun b => j18 (b, ())
  else j18 (false, ())
noncomputable def gSift (cmp : α → α → Option Int) (s : List α) (a0 a1 a2 : Int) : Option (Unit × List α) := loopO (siftStep cmp a1 a2) (a0, s, ())
noncomputable def popStep (cmp : α → α → Option Int) (a0 : Int) (v3 : Int × (List α) × Unit) : Option ((Int × (List α) × Unit) ⊕ (Unit × List α)) :=
  bif (decide ((0 : Int) ≤ v3.1)) then swO v3.2.1 a0 (addI .i64 a0 v3.1) fun l => Option.bind (gSift cmp l (0 : Int) v3.1 a0) fun p12 => some (Sum.inl ((subI .i64 v3.1 (1 : Int)), p12.2, ()))
  else Option.map Sum.inr (some ((()), v3.2.1))
noncomputable def heapStep (cmp : α → α → Option Int) (a0 a1 : Int) (v1 : Int × (List α) × Unit) : Option ((Int × (List α) × Unit) ⊕ (Unit × List α)) :=
  bif (decide ((0 : Int) ≤ v1.1)) then Option.bind (gSift cmp v1.2.1 v1.1 (subI .i64 a1 a0) a0) fun p2 => some (Sum.inl ((subI .i64 v1.1 (1 : Int)), p2.2, ()))
  else Option.map Sum.inr (loopO (popStep cmp a0) ((subI .i64 (subI .i64 a1 a0) (1 : Int)), v1.2.1, ()))
noncomputable def gHeap (cmp : α → α → Option Int) (s : List α) (a0 a1 : Int) : Option (Unit × List α) := loopO (heapStep cmp a0 a1) ((quoI .i64 (subI .i64 (subI .i64 a1 a0) (1 : Int)) (2 : Int)), s, ())
end

/-! ### that they are the plain ones -/
section
variable {α : Type} [Inhabited α]
theorem swp_sz (d : Array α) (i j : Nat) : (swp d i j).size = d.size := by simp [swp]
theorem addN {a b : Nat} (h : a + b < 8000000000) : addI .i64 (a : Int) (b : Int) = ((a + b : Nat) : Int) := (add64 (by omega) (by omega)).trans (Int.natCast_add a b).symm
theorem add1 {a : Nat} (h : a < 4000000000) : addI .i64 (a : Int) 1 = ((a + 1 : Nat) : Int) := addN (b := 1) (by omega)
theorem subN {a b : Nat} (h : b ≤ a) (h2 : a < 4000000000) : subI .i64 (a : Int) (b : Int) = ((a - b : Nat) : Int) := by rw [sub64 (by omega) (by omega)]; omega
theorem sub1 {a : Nat} (h : 1 ≤ a) (h2 : a < 4000000000) : subI .i64 (a : Int) 1 = ((a - 1 : Nat) : Int) := subN (b := 1) h h2
theorem rev_eq : ∀ (n i j : Nat) (d : Array α), j - i ≤ n → j < d.size → d.size < 1000000000 → loopO revStep ((i : Int), (j : Int), d.toList, ()) = some ((), (reverseLoop i j d).toList)
  | 0, i, j, d, hn, hj, hd => by
    have h1 : decide ((i : Int) < (j : Int)) = false := decide_eq_false (by omega)
    refine loopO_inr ?_
    rw [reverseLoop, if_neg (by omega)]
    simp only [revStep, h1, cond_false, Option.map_some]
  | n + 1, i, j, d, hn, hj, hd => by
    by_cases hij : i < j
    · have h1 : decide ((i : Int) < (j : Int)) = true := decide_eq_true (by omega)
      rw [reverseLoop, if_pos hij]
      refine Eq.trans (loopO_inl ?_) (rev_eq n (i + 1) (j - 1) (swp d i j) (by omega) (by rw [swp_sz]; omega) (by rw [swp_sz]; exact hd))
      simp only [revStep, h1, cond_true]
      rw [swO_eq (by omega) hj, add1 (by omega), sub1 (by omega) (by omega)]
    · have h1 : decide ((i : Int) < (j : Int)) = false := decide_eq_false (by omega)
      refine loopO_inr ?_
      rw [reverseLoop, if_neg hij]
      simp only [revStep, h1, cond_false, Option.map_some]
theorem gRev_eq {a b : Nat} {d : Array α} (hab : a < b) (hb : b ≤ d.size) (hd : d.size < 1000000000) : gRev d.toList (a : Int) (b : Int) = some ((), (Go.Sort.reverseRange d a b).toList) := by
  rw [gRev, sub1 (by omega) (by omega), Go.Sort.reverseRange]
  exact rev_eq (b - 1 - a) a (b - 1) d (by omega) (by omega) hd

variable {cmp : α → α → Option Int} {c : α → α → Int} (hc : ∀ x y, cmp x y = some (c x y))
 include hc
theorem insI_ok (a i : Nat) : ∀ (j : Nat) (d : Array α), j < d.size → d.size < 1000000000 → i < d.size → loopO (insI cmp (a : Int) (i : Int)) ((j : Int), d.toList, ()) = some (.inl (((i + 1 : Nat) : Int), (insInner (fun x y => decide (c x y < 0)) a j d).toList, ()))
  | 0, d, hj, hd, hi => by
    have h1 : decide ((a : Int) < ((0 : Nat) : Int)) = false := decide_eq_false (by omega)
    refine loopO_inr ?_
    simp only [insI, h1, letJ_eq, cond_false, Option.map_some, add1 (show i < 4000000000 by omega), insInner]
  | j + 1, d, hj, hd, hi => by
    have e1 : subI .i64 ((j + 1 : Nat) : Int) 1 = (j : Int) := by rw [sub1 (by omega) (by omega)]; rfl
    rw [insInner]
    by_cases ha : a < j + 1
    · have h1 : decide ((a : Int) < ((j + 1 : Nat) : Int)) = true := decide_eq_true (by omega)
      have h2 : decide (j + 1 > a) = true := decide_eq_true ha
      rw [h2, Bool.true_and]
      cases hb : decide (c d[j + 1]! d[j]! < 0) with
      | true =>
        rw [if_pos rfl]
        refine Eq.trans (loopO_inl ?_) (insI_ok a i j (swp d (j + 1) j) (by rw [swp_sz]; omega) (by rw [swp_sz]; exact hd) (by rw [swp_sz]; exact hi))
        simp only [insI, h1, letJ_eq, cond_true, e1]
        rw [ltO_eq hc hj (by omega), hb]
        simp only [cond_true]
        rw [swO_eq hj (by omega)]
      | false =>
        rw [if_neg (by simp)]
        refine loopO_inr ?_
        simp only [insI, h1, letJ_eq, cond_true, e1]
        rw [ltO_eq hc hj (by omega), hb]
        simp only [cond_false, Option.map_some, add1 (show i < 4000000000 by omega)]
    · have h1 : decide ((a : Int) < ((j + 1 : Nat) : Int)) = false := decide_eq_false (by omega)
      have h2 : decide (j + 1 > a) = false := decide_eq_false ha
      rw [h2, Bool.false_and, if_neg (by simp)]
      refine loopO_inr ?_
      simp only [insI, h1, letJ_eq, cond_false, Option.map_some, add1 (show i < 4000000000 by omega)]
 omit hc in
theorem insInner_sz (lt : α → α → Bool) (a : Nat) : ∀ (j : Nat) (d : Array α), (insInner lt a j d).size = d.size
  | 0, d => rfl
  | j + 1, d => by
    rw [insInner]
    split
    · rw [insInner_sz lt a j, swp_sz]
    · rfl
theorem insO_ok (a b : Nat) : ∀ (n i : Nat) (d : Array α), b - i ≤ n → b ≤ d.size → d.size < 1000000000 → loopO (insO cmp (a : Int) (b : Int)) ((i : Int), d.toList, ()) = some ((), (insOuter (fun x y => decide (c x y < 0)) a b i d).toList)
  | 0, i, d, hn, hb, hd => by
    have h1 : decide ((i : Int) < (b : Int)) = false := decide_eq_false (by omega)
    refine loopO_inr ?_
    rw [insOuter, if_neg (by omega)]
    simp only [insO, h1, cond_false, Option.map_some]
  | n + 1, i, d, hn, hb, hd => by
    by_cases hib : i < b
    · have h1 : decide ((i : Int) < (b : Int)) = true := decide_eq_true (by omega)
      rw [insOuter, if_pos hib]
      refine Eq.trans (loopO_inl ?_) (insO_ok a b n (i + 1) (insInner (fun x y => decide (c x y < 0)) a i d) (by omega) (by rw [insInner_sz]; exact hb) (by rw [insInner_sz]; exact hd))
      simp only [insO, h1, cond_true]
      exact insI_ok hc a i i d (by omega) hd (by omega)
    · have h1 : decide ((i : Int) < (b : Int)) = false := decide_eq_false (by omega)
      refine loopO_inr ?_
      rw [insOuter, if_neg hib]
      simp only [insO, h1, cond_false, Option.map_some]
theorem gInsert_eq {a b : Nat} {d : Array α} (ha : a ≤ d.size) (hb : b ≤ d.size) (hd : d.size < 1000000000) : gInsert cmp d.toList (a : Int) (b : Int) = some ((), (Go.Sort.insertionSort (fun x y => decide (c x y < 0)) d a b).toList) := by
  rw [gInsert, add1 (by omega), Go.Sort.insertionSort]
  exact insO_ok hc a b (b - (a + 1)) (a + 1) d (by omega) hb hd
 omit hc in
theorem mul2 {a : Nat} (h : a < 1000000000) : mulI .i64 2 (a : Int) = ((2 * a : Nat) : Int) := by
  have e : (2 : Int) * (a : Int) = ((2 * a : Nat) : Int) := (Int.natCast_mul 2 a).symm
  unfold mulI
  rw [e]
  exact wrap64 (by omega) (by omega)
 omit hc in
theorem sift_sz (lt : α → α → Bool) (hi first : Nat) : ∀ (n root : Nat) (d : Array α), hi - root ≤ n → (siftDown lt hi first root d).size = d.size
  | 0, root, d, hn => by rw [siftDown, dif_pos (by omega)]
  | n + 1, root, d, hn => by
    rw [siftDown]
    split
    · rfl
    · split
      · split
        · rfl
        · split
          · rw [sift_sz lt hi first n _ _ (by omega), swp_sz]
          · rfl
      · split
        · rfl
        · rw [sift_sz lt hi first n _ _ (by omega), swp_sz]
theorem sift_ok (hi first : Nat) : ∀ (n root : Nat) (d : Array α), hi - root ≤ n → root < 1000000000 → first + hi ≤ d.size → d.size < 1000000000 → loopO (siftStep cmp (hi : Int) (first : Int)) ((root : Int), d.toList, ()) = some ((), (siftDown (fun x y => decide (c x y < 0)) hi first root d).toList)
  | 0, root, d, hn, hr, hf, hd => by
    have e1 : addI .i64 ((2 * root : Nat) : Int) 1 = ((2 * root + 1 : Nat) : Int) := add1 (by omega)
    have h1 : decide ((hi : Int) ≤ ((2 * root + 1 : Nat) : Int)) = true := decide_eq_true (by omega)
    refine loopO_inr ?_
    rw [siftDown, dif_pos (by omega)]
    simp only [siftStep, mul2 hr, e1, h1, cond_true, Option.map_some]
  | n + 1, root, d, hn, hr, hf, hd => by
    have e1 : addI .i64 ((2 * root : Nat) : Int) 1 = ((2 * root + 1 : Nat) : Int) := add1 (by omega)
    have e2 : addI .i64 ((2 * root + 1 : Nat) : Int) 1 = ((2 * root + 2 : Nat) : Int) := add1 (by omega)
    by_cases hc1 : 2 * root + 1 ≥ hi
    · have h1 : decide ((hi : Int) ≤ ((2 * root + 1 : Nat) : Int)) = true := decide_eq_true (by omega)
      refine loopO_inr ?_
      rw [siftDown, dif_pos hc1]
      simp only [siftStep, mul2 hr, e1, h1, cond_true, Option.map_some]
    · have h1 : decide ((hi : Int) ≤ ((2 * root + 1 : Nat) : Int)) = false := decide_eq_false (by omega)
      have e3 : addI .i64 (first : Int) ((2 * root + 1 : Nat) : Int) = ((first + (2 * root + 1) : Nat) : Int) := addN (by omega)
      have e4 : addI .i64 ((first + (2 * root + 1) : Nat) : Int) 1 = ((first + (2 * root + 1) + 1 : Nat) : Int) := add1 (by omega)
      have e5 : addI .i64 (first : Int) (root : Int) = ((first + root : Nat) : Int) := addN (by omega)
      have e6 : addI .i64 (first : Int) ((2 * root + 2 : Nat) : Int) = ((first + (2 * root + 2) : Nat) : Int) := addN (by omega)
      rw [siftDown, dif_neg hc1]
      by_cases hc2 : 2 * root + 1 + 1 < hi
      · have h2 : decide (((2 * root + 2 : Nat) : Int) < (hi : Int)) = true := decide_eq_true (by omega)
        have h3 : decide (2 * root + 1 + 1 < hi) = true := decide_eq_true hc2
        cases hb : decide (c d[first + (2 * root + 1)]! d[first + (2 * root + 1) + 1]! < 0) with
        | true =>
          rw [if_pos (by rw [h3]; rfl)]
          cases hb2 : decide (c d[first + root]! d[first + (2 * root + 2)]! < 0) with
          | true =>
            rw [if_neg (by simp), dif_pos (by omega)]
            refine Eq.trans (loopO_inl ?_) (sift_ok hi first n (2 * root + 2) (swp d (first + root) (first + (2 * root + 2))) (by omega) (by omega) (by rw [swp_sz]; exact hf) (by rw [swp_sz]; exact hd))
            simp only [siftStep, mul2 hr, e1, e2, h1, cond_false, letJ_eq, h2, cond_true, e3, e4]
            rw [ltO_eq hc (by omega) (by omega), hb]
            simp only [cond_true, e5, e6]
            rw [ltO_eq hc (by omega) (by omega), hb2]
            simp only [Bool.not_true, cond_false]
            rw [swO_eq (by omega) (by omega)]
          | false =>
            rw [if_pos (by simp)]
            refine loopO_inr ?_
            simp only [siftStep, mul2 hr, e1, e2, h1, cond_false, letJ_eq, h2, cond_true, e3, e4]
            rw [ltO_eq hc (by omega) (by omega), hb]
            simp only [cond_true, e5, e6]
            rw [ltO_eq hc (by omega) (by omega), hb2]
            simp only [Bool.not_false, cond_true, Option.map_some]
        | false =>
          rw [if_neg (by simp)]
          cases hb2 : decide (c d[first + root]! d[first + (2 * root + 1)]! < 0) with
          | true =>
            rw [if_neg (by simp)]
            refine Eq.trans (loopO_inl ?_) (sift_ok hi first n (2 * root + 1) (swp d (first + root) (first + (2 * root + 1))) (by omega) (by omega) (by rw [swp_sz]; exact hf) (by rw [swp_sz]; exact hd))
            simp only [siftStep, mul2 hr, e1, e2, h1, cond_false, letJ_eq, h2, cond_true, e3, e4]
            rw [ltO_eq hc (by omega) (by omega), hb]
            simp only [cond_false, e5]
            rw [ltO_eq hc (by omega) (by omega), hb2]
            simp only [Bool.not_true, cond_false]
            rw [swO_eq (by omega) (by omega)]
          | false =>
            rw [if_pos (by simp)]
            refine loopO_inr ?_
            simp only [siftStep, mul2 hr, e1, e2, h1, cond_false, letJ_eq, h2, cond_true, e3, e4]
            rw [ltO_eq hc (by omega) (by omega), hb]
            simp only [cond_false, e5]
            rw [ltO_eq hc (by omega) (by omega), hb2]
            simp only [Bool.not_false, cond_true, Option.map_some]
      · have h2 : decide (((2 * root + 2 : Nat) : Int) < (hi : Int)) = false := decide_eq_false (by omega)
        have h3 : decide (2 * root + 1 + 1 < hi) = false := decide_eq_false hc2
        rw [h3, Bool.false_and, if_neg (by simp)]
        cases hb2 : decide (c d[first + root]! d[first + (2 * root + 1)]! < 0) with
        | true =>
          rw [if_neg (by simp)]
          refine Eq.trans (loopO_inl ?_) (sift_ok hi first n (2 * root + 1) (swp d (first + root) (first + (2 * root + 1))) (by omega) (by omega) (by rw [swp_sz]; exact hf) (by rw [swp_sz]; exact hd))
          simp only [siftStep, mul2 hr, e1, e2, h1, cond_false, letJ_eq, h2, e5, e3]
          rw [ltO_eq hc (by omega) (by omega), hb2]
          simp only [Bool.not_true, cond_false]
          rw [swO_eq (by omega) (by omega)]
        | false =>
          rw [if_pos (by simp)]
          refine loopO_inr ?_
          simp only [siftStep, mul2 hr, e1, e2, h1, cond_false, letJ_eq, h2, e5, e3]
          rw [ltO_eq hc (by omega) (by omega), hb2]
          simp only [Bool.not_false, cond_true, Option.map_some]
theorem gSift_eq {hi first root : Nat} {d : Array α} (hr : root < 1000000000) (hf : first + hi ≤ d.size) (hd : d.size < 1000000000) : gSift cmp d.toList (root : Int) (hi : Int) (first : Int) = some ((), (siftDown (fun x y => decide (c x y < 0)) hi first root d).toList) :=
  sift_ok hc hi first (hi - root) root d (Nat.le_refl _) hr hf hd

theorem pop_ok (first : Nat) : ∀ (k : Nat) (d : Array α), first + k ≤ d.size → (0 < k → first < d.size) → d.size < 1000000000 → loopO (popStep cmp (first : Int)) ((k : Int) - 1, d.toList, ()) = some ((), (heapPop (fun x y => decide (c x y < 0)) first k d).toList)
  | 0, d, hf, h0, hd => by
    refine loopO_inr ?_
    have h1 : decide ((0 : Int) ≤ ((0 : Nat) : Int) - 1) = false := rfl
    simp only [popStep, h1, cond_false, Option.map_some, heapPop]
  | k + 1, d, hf, h0, hd => by
    have e0 : ((k + 1 : Nat) : Int) - 1 = (k : Int) := by omega
    have h1 : decide ((0 : Int) ≤ (k : Int)) = true := decide_eq_true (by omega)
    have e1 : addI .i64 (first : Int) (k : Int) = ((first + k : Nat) : Int) := addN (by omega)
    have e2 : subI .i64 (k : Int) 1 = (k : Int) - 1 := sub64 (by omega) (by omega)
    rw [e0, heapPop]
    have hsz : (siftDown (fun x y => decide (c x y < 0)) k first 0 (swp d first (first + k))).size = d.size := by rw [sift_sz _ _ _ k _ _ (by omega), swp_sz]
    refine Eq.trans (loopO_inl ?_) (pop_ok first k _ (by rw [hsz]; omega) (fun _ => by rw [hsz]; omega) (by rw [hsz]; exact hd))
    simp only [popStep, h1, cond_true, e1]
    rw [swO_eq (by omega) (by omega)]
    have hs := gSift_eq hc (hi := k) (first := first) (root := 0) (d := swp d first (first + k)) (by omega) (by rw [swp_sz]; omega) (by rw [swp_sz]; exact hd)
    have hs' : gSift cmp (swp d first (first + k)).toList 0 (k : Int) (first : Int) = _ := hs
    simp only [hs', Option.bind_some, e2]
theorem heap_ok {a b : Nat} (hab : a ≤ b) : ∀ (k : Nat) (d : Array α), b ≤ d.size → k < 1000000000 → d.size < 1000000000 → loopO (heapStep cmp (a : Int) (b : Int)) ((k : Int) - 1, d.toList, ()) = some ((), (heapPop (fun x y => decide (c x y < 0)) a (b - a) (heapBuild (fun x y => decide (c x y < 0)) (b - a) a k d)).toList)
  | 0, d, hb, hk, hd => by
    refine loopO_inr ?_
    have h1 : decide ((0 : Int) ≤ ((0 : Nat) : Int) - 1) = false := rfl
    have e1 : subI .i64 (b : Int) (a : Int) = ((b - a : Nat) : Int) := subN hab (by omega)
    have e2 : subI .i64 ((b - a : Nat) : Int) 1 = ((b - a : Nat) : Int) - 1 := sub64 (by omega) (by omega)
    simp only [heapStep, h1, cond_false, e1, e2]
    rw [pop_ok hc a (b - a) d (by omega) (fun _ => by omega) hd]
    rfl
  | k + 1, d, hb, hk, hd => by
    have e0 : ((k + 1 : Nat) : Int) - 1 = (k : Int) := by omega
    have h1 : decide ((0 : Int) ≤ (k : Int)) = true := decide_eq_true (by omega)
    have e1 : subI .i64 (b : Int) (a : Int) = ((b - a : Nat) : Int) := subN hab (by omega)
    have e2 : subI .i64 (k : Int) 1 = (k : Int) - 1 := sub64 (by omega) (by omega)
    rw [e0, heapBuild]
    have hsz : (siftDown (fun x y => decide (c x y < 0)) (b - a) a k d).size = d.size := sift_sz _ _ _ (b - a - k) _ _ (Nat.le_refl _)
    refine Eq.trans (loopO_inl ?_) (heap_ok hab k _ (by rw [hsz]; exact hb) (by omega) (by rw [hsz]; exact hd))
    simp only [heapStep, h1, cond_true, e1]
    rw [gSift_eq hc (by omega) (by omega) hd]
    simp only [Option.bind_some, e2]
theorem gHeap_eq {a b : Nat} {d : Array α} (hab : a < b) (hb : b ≤ d.size) (hd : d.size < 1000000000) : gHeap cmp d.toList (a : Int) (b : Int) = some ((), (Go.Sort.heapSort (fun x y => decide (c x y < 0)) d a b).toList) := by
  have e1 : subI .i64 (b : Int) (a : Int) = ((b - a : Nat) : Int) := subN (by omega) (by omega)
  have e2 : subI .i64 ((b - a : Nat) : Int) 1 = ((b - a - 1 : Nat) : Int) := sub1 (by omega) (by omega)
  have e3 : quoI .i64 ((b - a - 1 : Nat) : Int) 2 = (((b - a - 1) / 2 + 1 : Nat) : Int) - 1 := by
    unfold quoI
    have : ((b - a - 1 : Nat) : Int).tdiv 2 = (((b - a - 1) / 2 : Nat) : Int) := rfl
    rw [this, wrap64 (by omega) (by omega)]
    omega
  rw [gHeap, e1, e2, e3, Go.Sort.heapSort]
  exact heap_ok hc (by omega) _ d hb (by omega) hd
end
end Go.Proofs.YtncjalhhkmojlaaGreat

set_option linter.unusedVariables false
namespace Go.Proofs.YtncjalhhkmojlaaGreat
open Go.TQ
open Go.Sort (swp scanUp scanDown partLoop partEqLoop order2 median medianAdjacent choosePivot Hint)

section
variable {α : Type}
/-! ### the turned functions -/
noncomputable def gOrd (cmp : α → α → Option Int) (s : Int) (a0 : (List α)) (a1 a2 : Int) : Option ((Int × Int × Unit) × Int) :=
  ltV cmp a0 a2 a1 fun b => bif b then some ((a2, a1, ()), (addI .i64 s (1 : Int))) else some ((a1, a2, ()), s)
noncomputable def gMed (cmp : α → α → Option Int) (s : Int) (a0 : (List α)) (a1 a2 a3 : Int) : Option (Int × Int) :=
  Option.bind (gOrd cmp s a0 a1 a2) fun p1 => Option.bind (gOrd cmp p1.2 a0 p1.1.2.1 a3) fun p2 => Option.bind (gOrd cmp p2.2 a0 p1.1.1 p2.1.1) fun p3 => some (p3.1.2.1, p3.2)
noncomputable def gAdj (cmp : α → α → Option Int) (s : Int) (a0 : (List α)) (a1 : Int) : Option (Int × Int) :=
  Option.bind (gMed cmp s a0 (subI .i64 a1 (1 : Int)) a1 (addI .i64 a1 (1 : Int))) fun p1 => some (p1.1, p1.2)
noncomputable def gPivot (cmp : α → α → Option Int) (a0 : (List α)) (a1 a2 : Int) : Option (Int × Int × Unit) :=
  letJ (fun (v1 : Int × Int × Unit) => bif (decide (v1.2.1 = (0 : Int))) then some (v1.1, (1 : Int), ()) else bif (decide (v1.2.1 = (12 : Int))) then some (v1.1, (2 : Int), ()) else some (v1.1, (0 : Int), ())) fun j2 =>
  bif (decide ((8 : Int) ≤ (subI .i64 a2 a1))) then
    letJ (fun (v3 : Int × Int × Int × Int × Unit) => Option.bind (gMed cmp v3.2.2.2.1 a0 v3.1 v3.2.1 v3.2.2.1) fun p5 => j2 (p5.1, p5.2, ())) fun j4 =>
    bif (decide ((50 : Int) ≤ (subI .i64 a2 a1))) then
      Option.bind (gAdj cmp (0 : Int) a0 (addI .i64 a1 (mulI .i64 (quoI .i64 (subI .i64 a2 a1) (4 : Int)) (1 : Int)))) fun p6 =>
      Option.bind (gAdj cmp p6.2 a0 (addI .i64 a1 (mulI .i64 (quoI .i64 (subI .i64 a2 a1) (4 : Int)) (2 : Int)))) fun p7 =>
      Option.bind (gAdj cmp p7.2 a0 (addI .i64 a1 (mulI .i64 (quoI .i64 (subI .i64 a2 a1) (4 : Int)) (3 : Int)))) fun p8 => j4 (p6.1, p7.1, p8.1, p8.2, ())
    else j4 ((addI .i64 a1 (mulI .i64 (quoI .i64 (subI .i64 a2 a1) (4 : Int)) (1 : Int))), (addI .i64 a1 (mulI .i64 (quoI .i64 (subI .i64 a2 a1) (4 : Int)) (2 : Int))), (addI .i64 a1 (mulI .i64 (quoI .i64 (subI .i64 a2 a1) (4 : Int)) (3 : Int))), (0 : Int), ())
  else j2 ((addI .i64 a1 (mulI .i64 (quoI .i64 (subI .i64 a2 a1) (4 : Int)) (2 : Int))), (0 : Int), ())
noncomputable def upStep {ρ : Type} (J : Int) (tst : Int → (Bool → Option ((Int × Unit) ⊕ ρ)) → Option ((Int × Unit) ⊕ ρ)) (K : Int → Option ρ) (v : Int × Unit) : Option ((Int × Unit) ⊕ ρ) :=
  letJ (fun (w : Bool × Unit) => bif w.1 then some (Sum.inl ((addI .i64 v.1 (1 : Int)), ())) else Option.map Sum.inr (K v.1)) fun j => bif (decide (v.1 ≤ J)) then tst v.1 (fun b => j (b, ())) else j (false, ())
noncomputable def downStep {ρ : Type} (I : Int) (tst : Int → (Bool → Option ((Int × Unit) ⊕ ρ)) → Option ((Int × Unit) ⊕ ρ)) (K : Int → Option ρ) (v : Int × Unit) : Option ((Int × Unit) ⊕ ρ) :=
  letJ (fun (w : Bool × Unit) => bif w.1 then some (Sum.inl ((subI .i64 v.1 (1 : Int)), ())) else Option.map Sum.inr (K v.1)) fun j => bif (decide (I ≤ v.1)) then tst v.1 (fun b => j (b, ())) else j (false, ())
noncomputable def partRound (cmp : α → α → Option Int) (a0 : Int) (v31 : Int × Int × (List α) × Unit) : Option ((Int × Int × (List α) × Unit) ⊕ ((Int × Bool × Unit) × List α)) :=
  loopO (upStep v31.2.1 (fun i k => ltO cmp v31.2.2.1 i a0 fun b => k b) fun i =>
    loopO (downStep i (fun j k => ltO cmp v31.2.2.1 j a0 fun b => k (!b)) fun j =>
      bif (decide (j < i)) then Option.map Sum.inr (swO v31.2.2.1 j a0 fun l => some ((j, false, ()), l))
      else swO v31.2.2.1 i j fun l => some (Sum.inl ((addI .i64 i (1 : Int)), (subI .i64 j (1 : Int)), l, ()))) (v31.2.1, ())) (v31.1, ())
noncomputable def gPart (cmp : α → α → Option Int) (s : List α) (a0 a1 a2 : Int) : Option ((Int × Bool × Unit) × List α) :=
  swO s a0 a2 fun s1 =>
  loopO (upStep (subI .i64 a1 (1 : Int)) (fun i k => ltO cmp s1 i a0 fun b => k b) fun i =>
    loopO (downStep i (fun j k => ltO cmp s1 j a0 fun b => k (!b)) fun j =>
      bif (decide (j < i)) then swO s1 j a0 fun l => some ((j, true, ()), l)
      else swO s1 i j fun l => loopO (partRound cmp a0) ((addI .i64 i (1 : Int)), (subI .i64 j (1 : Int)), l, ())) ((subI .i64 a1 (1 : Int)), ())) ((addI .i64 a0 (1 : Int)), ())
noncomputable def eqRound (cmp : α → α → Option Int) (a0 : Int) (v9 : Int × Int × (List α) × Unit) : Option ((Int × Int × (List α) × Unit) ⊕ (Int × List α)) :=
  loopO (upStep v9.2.1 (fun i k => ltO cmp v9.2.2.1 a0 i fun b => k (!b)) fun i =>
    loopO (downStep i (fun j k => ltO cmp v9.2.2.1 a0 j fun b => k b) fun j =>
      bif (decide (j < i)) then Option.map Sum.inr (some (i, v9.2.2.1))
      else swO v9.2.2.1 i j fun l => some (Sum.inl ((addI .i64 i (1 : Int)), (subI .i64 j (1 : Int)), l, ()))) (v9.2.1, ())) (v9.1, ())
noncomputable def gPartEq (cmp : α → α → Option Int) (s : List α) (a0 a1 a2 : Int) : Option (Int × List α) :=
  swO s a0 a2 fun s1 => loopO (eqRound cmp a0) ((addI .i64 a0 (1 : Int)), (subI .i64 a1 (1 : Int)), s1, ())
end

section
variable {α : Type} [Inhabited α]
/-! ### scans -/
theorem up_ok {ρ : Type} {p : α → Bool} {d : Array α} {j : Nat} {tst : Int → (Bool → Option ((Int × Unit) ⊕ ρ)) → Option ((Int × Unit) ⊕ ρ)} {K : Int → Option ρ} {i0 : Nat} (hj : j < 1000000000)
    (ht : ∀ (i : Nat) k, i0 ≤ i → i ≤ j → tst (i : Int) k = k (p d[i]!)) {r : ρ} : ∀ (n i : Nat), j + 1 - i ≤ n → i0 ≤ i → i ≤ 1000000000 → K ((scanUp p d j i : Nat) : Int) = some r → loopO (upStep (j : Int) tst K) ((i : Int), ()) = some r
  | 0, i, hn, hi0, hi, hK => by
    have h1 : decide ((i : Int) ≤ (j : Int)) = false := decide_eq_false (by omega)
    rw [scanUp, if_neg (by simp; omega)] at hK
    refine loopO_inr ?_
    simp only [upStep, letJ_eq, h1, cond_false, hK, Option.map_some]
  | n + 1, i, hn, hi0, hi, hK => by
    by_cases hij : i ≤ j
    · have h1 : decide ((i : Int) ≤ (j : Int)) = true := decide_eq_true (by omega)
      cases hp : p d[i]! with
      | true =>
        rw [scanUp, if_pos (by simp [hij, hp])] at hK
        refine Eq.trans (loopO_inl ?_) (up_ok hj ht n (i + 1) (by omega) (by omega) (by omega) hK)
        simp only [upStep, letJ_eq, h1, cond_true, ht i _ hi0 hij, hp, add1 (show i < 4000000000 by omega)]
      | false =>
        rw [scanUp, if_neg (by simp [hp])] at hK
        refine loopO_inr ?_
        simp only [upStep, letJ_eq, h1, cond_true, ht i _ hi0 hij, hp, cond_false, hK, Option.map_some]
    · have h1 : decide ((i : Int) ≤ (j : Int)) = false := decide_eq_false (by omega)
      rw [scanUp, if_neg (by simp [hij])] at hK
      refine loopO_inr ?_
      simp only [upStep, letJ_eq, h1, cond_false, hK, Option.map_some]
theorem down_okk {ρ : Type} {p : α → Bool} {d : Array α} {i : Nat} {tst : Int → (Bool → Option ((Int × Unit) ⊕ ρ)) → Option ((Int × Unit) ⊕ ρ)} {K : Int → Option ρ} {j0 : Nat} (hi : 1 ≤ i) (hj0 : j0 < 1000000000)
    (ht : ∀ (j : Nat) k, i ≤ j → j ≤ j0 → tst (j : Int) k = k (p d[j]!)) {r : ρ} : ∀ (j : Nat), j ≤ j0 → K ((scanDown p d i j : Nat) : Int) = some r → loopO (downStep (i : Int) tst K) ((j : Int), ()) = some r
  | 0, hj, hK => by
    have h1 : decide ((i : Int) ≤ ((0 : Nat) : Int)) = false := decide_eq_false (by omega)
    rw [scanDown] at hK
    refine loopO_inr ?_
    simp only [downStep, letJ_eq, h1, cond_false, hK, Option.map_some]
  | j + 1, hj, hK => by
    have e1 : subI .i64 ((j + 1 : Nat) : Int) 1 = (j : Int) := by rw [sub1 (by omega) (by omega)]; rfl
    rw [scanDown] at hK
    by_cases hij : i ≤ j + 1
    · have h1 : decide ((i : Int) ≤ ((j + 1 : Nat) : Int)) = true := decide_eq_true (by omega)
      cases hp : p d[j + 1]! with
      | true =>
        rw [if_pos (by simp [hij, hp])] at hK
        refine Eq.trans (loopO_inl ?_) (down_okk hi hj0 ht j (by omega) hK)
        simp only [downStep, letJ_eq, h1, cond_true, ht (j + 1) _ hij hj, hp, e1]
      | false =>
        rw [if_neg (by simp [hp])] at hK
        refine loopO_inr ?_
        simp only [downStep, letJ_eq, h1, cond_true, ht (j + 1) _ hij hj, hp, cond_false, hK, Option.map_some]
    · have h1 : decide ((i : Int) ≤ ((j + 1 : Nat) : Int)) = false := decide_eq_false (by omega)
      rw [if_neg (by simp [hij])] at hK
      refine loopO_inr ?_
      simp only [downStep, letJ_eq, h1, cond_false, hK, Option.map_some]

variable {cmp : α → α → Option Int} {c : α → α → Int} (hc : ∀ x y, cmp x y = some (c x y))
 include hc
/-! ### partition -/
theorem part_ok (a : Nat) : ∀ (n i j : Nat) (d : Array α), j + 1 - i ≤ n → a < i → i < 1000000000 → a < d.size → j < d.size → d.size < 1000000000 →
    loopO (partRound cmp (a : Int)) ((i : Int), (j : Int), d.toList, ()) = some ((((partLoop (fun x y => decide (c x y < 0)) a i j d).1 : Int), false, ()), (swp (partLoop (fun x y => decide (c x y < 0)) a i j d).2 (partLoop (fun x y => decide (c x y < 0)) a i j d).1 a).toList) := by
  intro n
  induction n with
  | zero =>
    intro i j d hn ha hi1 had hj hd
    refine loopO_inr ?_
    rw [Go.Sort.partLoop_eq]
    have hu := Go.Sort.scanUp_ge (fun x => decide (c x d[a]! < 0)) d j i
    have hdn := Go.Sort.scanDown_le (fun x => !decide (c x d[a]! < 0)) d (scanUp (fun x => decide (c x d[a]! < 0)) d j i) j
    unfold partRound
    refine up_ok (p := fun x => decide (c x d[a]! < 0)) (d := d) (i0 := i) (by omega) (fun i' k h1 h2 => ?_) (j + 1 - i) i (Nat.le_refl _) (Nat.le_refl _) (Nat.le_of_lt hi1) ?_
    · exact ltO_eq hc (by omega) had _
    · refine down_okk (p := fun x => !decide (c x d[a]! < 0)) (d := d) (j0 := j) (by omega) (by omega) (fun j' k h1 h2 => ?_) j (Nat.le_refl _) ?_
      · exact ltO_eq hc (by omega) had _
      · rw [if_pos (by omega)]
        have h3 : decide (((scanDown (fun x => !decide (c x d[a]! < 0)) d (scanUp (fun x => decide (c x d[a]! < 0)) d j i) j : Nat) : Int) < ((scanUp (fun x => decide (c x d[a]! < 0)) d j i : Nat) : Int)) = true := decide_eq_true (by omega)
        rw [h3, cond_true, swO_eq (by omega) had]
        rfl
  | succ n ih =>
    intro i j d hn ha hi1 had hj hd
    have hu := Go.Sort.scanUp_ge (fun x => decide (c x d[a]! < 0)) d j i
    have hdn := Go.Sort.scanDown_le (fun x => !decide (c x d[a]! < 0)) d (scanUp (fun x => decide (c x d[a]! < 0)) d j i) j
    rw [Go.Sort.partLoop_eq]
    by_cases hb : scanUp (fun x => decide (c x d[a]! < 0)) d j i > scanDown (fun x => !decide (c x d[a]! < 0)) d (scanUp (fun x => decide (c x d[a]! < 0)) d j i) j
    · refine loopO_inr ?_
      rw [if_pos hb]
      unfold partRound
      refine up_ok (p := fun x => decide (c x d[a]! < 0)) (d := d) (i0 := i) (by omega) (fun i' k h1 h2 => ?_) (j + 1 - i) i (Nat.le_refl _) (Nat.le_refl _) (Nat.le_of_lt hi1) ?_
      · exact ltO_eq hc (by omega) had _
      · refine down_okk (p := fun x => !decide (c x d[a]! < 0)) (d := d) (j0 := j) (by omega) (by omega) (fun j' k h1 h2 => ?_) j (Nat.le_refl _) ?_
        · exact ltO_eq hc (by omega) had _
        · have h3 : decide (((scanDown (fun x => !decide (c x d[a]! < 0)) d (scanUp (fun x => decide (c x d[a]! < 0)) d j i) j : Nat) : Int) < ((scanUp (fun x => decide (c x d[a]! < 0)) d j i : Nat) : Int)) = true := decide_eq_true (by omega)
          rw [h3, cond_true, swO_eq (by omega) had]
          rfl
    · rw [if_neg hb]
      refine Eq.trans (loopO_inl ?_) (ih (scanUp (fun x => decide (c x d[a]! < 0)) d j i + 1) (scanDown (fun x => !decide (c x d[a]! < 0)) d (scanUp (fun x => decide (c x d[a]! < 0)) d j i) j - 1) (swp d (scanUp (fun x => decide (c x d[a]! < 0)) d j i) (scanDown (fun x => !decide (c x d[a]! < 0)) d (scanUp (fun x => decide (c x d[a]! < 0)) d j i) j)) (by omega) (by omega) (by omega) (by rw [swp_sz]; exact had) (by rw [swp_sz]; omega) (by rw [swp_sz]; exact hd))
      unfold partRound
      refine up_ok (p := fun x => decide (c x d[a]! < 0)) (d := d) (i0 := i) (by omega) (fun i' k h1 h2 => ?_) (j + 1 - i) i (Nat.le_refl _) (Nat.le_refl _) (Nat.le_of_lt hi1) ?_
      · exact ltO_eq hc (by omega) had _
      · refine down_okk (p := fun x => !decide (c x d[a]! < 0)) (d := d) (j0 := j) (by omega) (by omega) (fun j' k h1 h2 => ?_) j (Nat.le_refl _) ?_
        · exact ltO_eq hc (by omega) had _
        · have h3 : decide (((scanDown (fun x => !decide (c x d[a]! < 0)) d (scanUp (fun x => decide (c x d[a]! < 0)) d j i) j : Nat) : Int) < ((scanUp (fun x => decide (c x d[a]! < 0)) d j i : Nat) : Int)) = false := decide_eq_false (by omega)
          have k1 : scanUp (fun x => decide (c x d[a]! < 0)) d j i < d.size := by omega
          have k2 : scanDown (fun x => !decide (c x d[a]! < 0)) d (scanUp (fun x => decide (c x d[a]! < 0)) d j i) j < d.size := by omega
          rw [h3, cond_false, swO_eq k1 k2, add1 (by omega), sub1 (by omega) (by omega)]
theorem gPart_eq {a b pivot : Nat} {d : Array α} (hab : a < b) (hp : pivot < d.size) (hb : b ≤ d.size) (hd : d.size < 1000000000) :
    gPart cmp d.toList (a : Int) (b : Int) (pivot : Int) = some ((((Go.Sort.partition (fun x y => decide (c x y < 0)) d a b pivot).1 : Int), (Go.Sort.partition (fun x y => decide (c x y < 0)) d a b pivot).2.1, ()), (Go.Sort.partition (fun x y => decide (c x y < 0)) d a b pivot).2.2.toList) := by
  rw [gPart, swO_eq (by omega) hp, add1 (by omega), sub1 (by omega) (by omega)]
  generalize hd1 : swp d a pivot = d1
  have hs1 : d1.size = d.size := by rw [← hd1, swp_sz]
  have hu := Go.Sort.scanUp_ge (fun x => decide (c x d1[a]! < 0)) d1 (b - 1) (a + 1)
  have hdn := Go.Sort.scanDown_le (fun x => !decide (c x d1[a]! < 0)) d1 (scanUp (fun x => decide (c x d1[a]! < 0)) d1 (b - 1) (a + 1)) (b - 1)
  refine up_ok (p := fun x => decide (c x d1[a]! < 0)) (d := d1) (i0 := a + 1) (by omega) (fun i' k h1 h2 => ?_) (b - 1 + 1 - (a + 1)) (a + 1) (Nat.le_refl _) (Nat.le_refl _) (by omega) ?_
  · exact ltO_eq hc (by omega) (by omega) _
  · refine down_okk (p := fun x => !decide (c x d1[a]! < 0)) (d := d1) (j0 := b - 1) (by omega) (by omega) (fun j' k h1 h2 => ?_) (b - 1) (Nat.le_refl _) ?_
    · exact ltO_eq hc (by omega) (by omega) _
    · simp only [Go.Sort.partition, hd1]
      by_cases hb2 : scanUp (fun x => decide (c x d1[a]! < 0)) d1 (b - 1) (a + 1) > scanDown (fun x => !decide (c x d1[a]! < 0)) d1 (scanUp (fun x => decide (c x d1[a]! < 0)) d1 (b - 1) (a + 1)) (b - 1)
      · have h3 : decide (((scanDown (fun x => !decide (c x d1[a]! < 0)) d1 (scanUp (fun x => decide (c x d1[a]! < 0)) d1 (b - 1) (a + 1)) (b - 1) : Nat) : Int) < ((scanUp (fun x => decide (c x d1[a]! < 0)) d1 (b - 1) (a + 1) : Nat) : Int)) = true := decide_eq_true (by omega)
        rw [h3, cond_true, swO_eq (by omega) (by omega), if_pos hb2]
      · have h3 : decide (((scanDown (fun x => !decide (c x d1[a]! < 0)) d1 (scanUp (fun x => decide (c x d1[a]! < 0)) d1 (b - 1) (a + 1)) (b - 1) : Nat) : Int) < ((scanUp (fun x => decide (c x d1[a]! < 0)) d1 (b - 1) (a + 1) : Nat) : Int)) = false := decide_eq_false (by omega)
        rw [h3, cond_false, swO_eq (by omega) (by omega), if_neg hb2, add1 (by omega), sub1 (by omega) (by omega)]
        exact part_ok hc a _ _ _ _ (Nat.le_refl _) (by omega) (by omega) (by rw [swp_sz]; omega) (by rw [swp_sz]; omega) (by rw [swp_sz]; omega)
theorem eq_ok (a : Nat) : ∀ (n i j : Nat) (d : Array α), j + 1 - i ≤ n → a < i → i < 1000000000 → a < d.size → j < d.size → d.size < 1000000000 →
    loopO (eqRound cmp (a : Int)) ((i : Int), (j : Int), d.toList, ()) = some (((partEqLoop (fun x y => decide (c x y < 0)) a i j d).1 : Int), (partEqLoop (fun x y => decide (c x y < 0)) a i j d).2.toList) := by
  intro n
  induction n with
  | zero =>
    intro i j d hn ha hi1 had hj hd
    refine loopO_inr ?_
    rw [Go.Sort.partEqLoop_eq]
    have hu := Go.Sort.scanUp_ge (fun x => !decide (c d[a]! x < 0)) d j i
    have hdn := Go.Sort.scanDown_le (fun x => decide (c d[a]! x < 0)) d (scanUp (fun x => !decide (c d[a]! x < 0)) d j i) j
    unfold eqRound
    refine up_ok (p := fun x => !decide (c d[a]! x < 0)) (d := d) (i0 := i) (by omega) (fun i' k h1 h2 => ?_) (j + 1 - i) i (Nat.le_refl _) (Nat.le_refl _) (Nat.le_of_lt hi1) ?_
    · exact ltO_eq hc had (by omega) _
    · refine down_okk (p := fun x => decide (c d[a]! x < 0)) (d := d) (j0 := j) (by omega) (by omega) (fun j' k h1 h2 => ?_) j (Nat.le_refl _) ?_
      · exact ltO_eq hc had (by omega) _
      · rw [if_pos (by omega)]
        have h3 : decide (((scanDown (fun x => decide (c d[a]! x < 0)) d (scanUp (fun x => !decide (c d[a]! x < 0)) d j i) j : Nat) : Int) < ((scanUp (fun x => !decide (c d[a]! x < 0)) d j i : Nat) : Int)) = true := decide_eq_true (by omega)
        rw [h3, cond_true]
        rfl
  | succ n ih =>
    intro i j d hn ha hi1 had hj hd
    have hu := Go.Sort.scanUp_ge (fun x => !decide (c d[a]! x < 0)) d j i
    have hdn := Go.Sort.scanDown_le (fun x => decide (c d[a]! x < 0)) d (scanUp (fun x => !decide (c d[a]! x < 0)) d j i) j
    rw [Go.Sort.partEqLoop_eq]
    by_cases hb : scanUp (fun x => !decide (c d[a]! x < 0)) d j i > scanDown (fun x => decide (c d[a]! x < 0)) d (scanUp (fun x => !decide (c d[a]! x < 0)) d j i) j
    · refine loopO_inr ?_
      rw [if_pos hb]
      unfold eqRound
      refine up_ok (p := fun x => !decide (c d[a]! x < 0)) (d := d) (i0 := i) (by omega) (fun i' k h1 h2 => ?_) (j + 1 - i) i (Nat.le_refl _) (Nat.le_refl _) (Nat.le_of_lt hi1) ?_
      · exact ltO_eq hc had (by omega) _
      · refine down_okk (p := fun x => decide (c d[a]! x < 0)) (d := d) (j0 := j) (by omega) (by omega) (fun j' k h1 h2 => ?_) j (Nat.le_refl _) ?_
        · exact ltO_eq hc had (by omega) _
        · have h3 : decide (((scanDown (fun x => decide (c d[a]! x < 0)) d (scanUp (fun x => !decide (c d[a]! x < 0)) d j i) j : Nat) : Int) < ((scanUp (fun x => !decide (c d[a]! x < 0)) d j i : Nat) : Int)) = true := decide_eq_true (by omega)
          rw [h3, cond_true]
          rfl
    · rw [if_neg hb]
      refine Eq.trans (loopO_inl ?_) (ih (scanUp (fun x => !decide (c d[a]! x < 0)) d j i + 1) (scanDown (fun x => decide (c d[a]! x < 0)) d (scanUp (fun x => !decide (c d[a]! x < 0)) d j i) j - 1) (swp d (scanUp (fun x => !decide (c d[a]! x < 0)) d j i) (scanDown (fun x => decide (c d[a]! x < 0)) d (scanUp (fun x => !decide (c d[a]! x < 0)) d j i) j)) (by omega) (by omega) (by omega) (by rw [swp_sz]; exact had) (by rw [swp_sz]; omega) (by rw [swp_sz]; exact hd))
      unfold eqRound
      refine up_ok (p := fun x => !decide (c d[a]! x < 0)) (d := d) (i0 := i) (by omega) (fun i' k h1 h2 => ?_) (j + 1 - i) i (Nat.le_refl _) (Nat.le_refl _) (Nat.le_of_lt hi1) ?_
      · exact ltO_eq hc had (by omega) _
      · refine down_okk (p := fun x => decide (c d[a]! x < 0)) (d := d) (j0 := j) (by omega) (by omega) (fun j' k h1 h2 => ?_) j (Nat.le_refl _) ?_
        · exact ltO_eq hc had (by omega) _
        · have h3 : decide (((scanDown (fun x => decide (c d[a]! x < 0)) d (scanUp (fun x => !decide (c d[a]! x < 0)) d j i) j : Nat) : Int) < ((scanUp (fun x => !decide (c d[a]! x < 0)) d j i : Nat) : Int)) = false := decide_eq_false (by omega)
          have k1 : scanUp (fun x => !decide (c d[a]! x < 0)) d j i < d.size := by omega
          have k2 : scanDown (fun x => decide (c d[a]! x < 0)) d (scanUp (fun x => !decide (c d[a]! x < 0)) d j i) j < d.size := by omega
          rw [h3, cond_false, swO_eq k1 k2, add1 (by omega), sub1 (by omega) (by omega)]
theorem gPartEq_eq {a b pivot : Nat} {d : Array α} (hab : a < b) (hp : pivot < d.size) (hb : b ≤ d.size) (hd : d.size < 1000000000) :
    gPartEq cmp d.toList (a : Int) (b : Int) (pivot : Int) = some (((Go.Sort.partitionEqual (fun x y => decide (c x y < 0)) d a b pivot).1 : Int), (Go.Sort.partitionEqual (fun x y => decide (c x y < 0)) d a b pivot).2.toList) := by
  rw [gPartEq, swO_eq (by omega) hp, add1 (by omega), sub1 (by omega) (by omega), Go.Sort.partitionEqual]
  exact eq_ok hc a _ _ _ _ (Nat.le_refl _) (by omega) (by omega) (by rw [swp_sz]; omega) (by rw [swp_sz]; omega) (by rw [swp_sz]; omega)

/-! ### pivots -/
theorem gOrd_eq {a b sw : Nat} {d : Array α} (ha : a < d.size) (hb : b < d.size) (hs : sw < 1000) : gOrd cmp (sw : Int) d.toList (a : Int) (b : Int) = some ((((order2 (fun x y => decide (c x y < 0)) d a b sw).1 : Int), ((order2 (fun x y => decide (c x y < 0)) d a b sw).2.1 : Int), ()), ((order2 (fun x y => decide (c x y < 0)) d a b sw).2.2 : Int)) := by
  rw [gOrd, ltV_eq hc hb ha, order2]
  cases hx : decide (c d[b]! d[a]! < 0) with
  | true => rw [if_pos rfl, cond_true, add1 (by omega)]
  | false => rw [if_neg (by simp), cond_false]
 omit hc in
theorem order2_sw (lt : α → α → Bool) (d : Array α) (a b s : Nat) : (order2 lt d a b s).2.2 ≤ s + 1 := by
  rw [order2]; split <;> simp
theorem gMed_eq {a b e sw : Nat} {d : Array α} (ha : a < d.size) (hb : b < d.size) (he : e < d.size) (hs : sw < 900) : gMed cmp (sw : Int) d.toList (a : Int) (b : Int) (e : Int) = some (((median (fun x y => decide (c x y < 0)) d a b e sw).1 : Int), ((median (fun x y => decide (c x y < 0)) d a b e sw).2 : Int)) := by
  have m1 := Go.Sort.order2_mem (fun x y => decide (c x y < 0)) d a b sw
  have w1 := order2_sw (fun x y => decide (c x y < 0)) d a b sw
  rw [gMed, gOrd_eq hc ha hb (by omega), Option.bind_some, median]
  generalize order2 (fun x y => decide (c x y < 0)) d a b sw = r1 at *
  have b1 : r1.1 < d.size ∧ r1.2.1 < d.size := by omega
  have m2 := Go.Sort.order2_mem (fun x y => decide (c x y < 0)) d r1.2.1 e r1.2.2
  have w2 := order2_sw (fun x y => decide (c x y < 0)) d r1.2.1 e r1.2.2
  rw [gOrd_eq hc b1.2 he (by omega), Option.bind_some]
  generalize order2 (fun x y => decide (c x y < 0)) d r1.2.1 e r1.2.2 = r2 at *
  have b2 : r2.1 < d.size := by omega
  rw [gOrd_eq hc b1.1 b2 (by omega), Option.bind_some]
 omit hc in
theorem median_sw (lt : α → α → Bool) (d : Array α) (a b e s : Nat) : (median lt d a b e s).2 ≤ s + 3 := by
  rw [median]
  have w1 := order2_sw lt d a b s
  have w2 := order2_sw lt d (order2 lt d a b s).2.1 e (order2 lt d a b s).2.2
  have w3 := order2_sw lt d (order2 lt d a b s).1 (order2 lt d (order2 lt d a b s).2.1 e (order2 lt d a b s).2.2).1 (order2 lt d (order2 lt d a b s).2.1 e (order2 lt d a b s).2.2).2.2
  simp only at *
  omega
theorem gAdj_eq {a sw : Nat} {d : Array α} (h1 : 1 ≤ a) (h2 : a + 1 < d.size) (hd : d.size < 1000000000) (hs : sw < 900) : gAdj cmp (sw : Int) d.toList (a : Int) = some (((medianAdjacent (fun x y => decide (c x y < 0)) d a sw).1 : Int), ((medianAdjacent (fun x y => decide (c x y < 0)) d a sw).2 : Int)) := by
  rw [gAdj, sub1 h1 (by omega), add1 (by omega), gMed_eq hc (by omega) (by omega) h2 hs, Option.bind_some, medianAdjacent]
def hintI : Hint → Int
  | .unknown => 0
  | .increasing => 1
  | .decreasing => 2
 omit hc in
theorem mulN {a b : Nat} (h : a * b < 4000000000) : mulI .i64 (a : Int) (b : Int) = ((a * b : Nat) : Int) := by
  unfold mulI
  rw [← Int.natCast_mul]
  exact wrap64 (by omega) (by omega)
set_option maxHeartbeats 4000000 in
theorem gPivot_eq {a b : Nat} {d : Array α} (hab : 12 < b - a) (hb : b ≤ d.size) (hd : d.size < 1000000000) : gPivot cmp d.toList (a : Int) (b : Int) = some (((choosePivot (fun x y => decide (c x y < 0)) d a b).1 : Int), hintI (choosePivot (fun x y => decide (c x y < 0)) d a b).2, ()) := by
  have e1 : subI .i64 (b : Int) (a : Int) = ((b - a : Nat) : Int) := subN (by omega) (by omega)
  have e2 : quoI .i64 ((b - a : Nat) : Int) 4 = (((b - a) / 4 : Nat) : Int) := by
    unfold quoI
    have : ((b - a : Nat) : Int).tdiv 4 = (((b - a) / 4 : Nat) : Int) := rfl
    rw [this, wrap64 (by omega) (by omega)]
  have f1 : mulI .i64 (((b - a) / 4 : Nat) : Int) 1 = (((b - a) / 4 * 1 : Nat) : Int) := mulN (b := 1) (by omega)
  have f2 : mulI .i64 (((b - a) / 4 : Nat) : Int) 2 = (((b - a) / 4 * 2 : Nat) : Int) := mulN (b := 2) (by omega)
  have f3 : mulI .i64 (((b - a) / 4 : Nat) : Int) 3 = (((b - a) / 4 * 3 : Nat) : Int) := mulN (b := 3) (by omega)
  have g1 : addI .i64 (a : Int) (((b - a) / 4 * 1 : Nat) : Int) = ((a + (b - a) / 4 * 1 : Nat) : Int) := addN (by omega)
  have g2 : addI .i64 (a : Int) (((b - a) / 4 * 2 : Nat) : Int) = ((a + (b - a) / 4 * 2 : Nat) : Int) := addN (by omega)
  have g3 : addI .i64 (a : Int) (((b - a) / 4 * 3 : Nat) : Int) = ((a + (b - a) / 4 * 3 : Nat) : Int) := addN (by omega)
  have h8 : decide ((8 : Int) ≤ ((b - a : Nat) : Int)) = true := decide_eq_true (by omega)
  have hfin : ∀ r : Nat × Nat, (bif (decide ((r.2 : Int) = (0 : Int))) then some ((r.1 : Int), (1 : Int), ()) else bif (decide ((r.2 : Int) = (12 : Int))) then some ((r.1 : Int), (2 : Int), ()) else some ((r.1 : Int), (0 : Int), ())) = some ((r.1 : Int), hintI (if r.2 = 0 then Hint.increasing else if r.2 = 12 then Hint.decreasing else Hint.unknown), ()) := by
    intro r
    by_cases h0 : r.2 = 0
    · have : decide ((r.2 : Int) = 0) = true := decide_eq_true (by omega)
      rw [this, if_pos h0]; rfl
    · have : decide ((r.2 : Int) = 0) = false := decide_eq_false (by omega)
      rw [this, if_neg h0]
      by_cases h12 : r.2 = 12
      · have : decide ((r.2 : Int) = 12) = true := decide_eq_true (by omega)
        rw [this, if_pos h12]; rfl
      · have : decide ((r.2 : Int) = 12) = false := decide_eq_false (by omega)
        rw [this, if_neg h12]; rfl
  simp only [gPivot, letJ_eq, e1, e2, f1, f2, f3, g1, g2, g3, h8, cond_true, choosePivot, show b - a ≥ 8 from by omega, if_true]
  by_cases h50 : b - a ≥ 50
  · have hd50 : decide ((50 : Int) ≤ ((b - a : Nat) : Int)) = true := decide_eq_true (by omega)
    rw [hd50, cond_true, if_pos h50]
    have q1 := gAdj_eq hc (a := a + (b - a) / 4 * 1) (sw := 0) (d := d) (by omega) (by omega) hd (by omega)
    have q1' : gAdj cmp 0 d.toList ((a + (b - a) / 4 * 1 : Nat) : Int) = _ := q1
    have s1 := median_sw (fun x y => decide (c x y < 0)) d (a + (b - a) / 4 * 1 - 1) (a + (b - a) / 4 * 1) (a + (b - a) / 4 * 1 + 1) 0
    have m1 := Go.Sort.medianAdjacent_mem (fun x y => decide (c x y < 0)) d (a + (b - a) / 4 * 1) 0
    rw [q1', Option.bind_some]
    rw [← medianAdjacent] at s1
    generalize medianAdjacent (fun x y => decide (c x y < 0)) d (a + (b - a) / 4 * 1) 0 = r1 at *
    have s2 := median_sw (fun x y => decide (c x y < 0)) d (a + (b - a) / 4 * 2 - 1) (a + (b - a) / 4 * 2) (a + (b - a) / 4 * 2 + 1) r1.2
    have m2 := Go.Sort.medianAdjacent_mem (fun x y => decide (c x y < 0)) d (a + (b - a) / 4 * 2) r1.2
    rw [gAdj_eq hc (by omega) (by omega) hd (by omega), Option.bind_some]
    rw [← medianAdjacent] at s2
    generalize medianAdjacent (fun x y => decide (c x y < 0)) d (a + (b - a) / 4 * 2) r1.2 = r2 at *
    have s3 := median_sw (fun x y => decide (c x y < 0)) d (a + (b - a) / 4 * 3 - 1) (a + (b - a) / 4 * 3) (a + (b - a) / 4 * 3 + 1) r2.2
    have m3 := Go.Sort.medianAdjacent_mem (fun x y => decide (c x y < 0)) d (a + (b - a) / 4 * 3) r2.2
    rw [gAdj_eq hc (by omega) (by omega) hd (by omega), Option.bind_some]
    rw [← medianAdjacent] at s3
    generalize medianAdjacent (fun x y => decide (c x y < 0)) d (a + (b - a) / 4 * 3) r2.2 = r3 at *
    rw [gMed_eq hc (by omega) (by omega) (by omega) (by omega), Option.bind_some]
    exact hfin _
  · have hd50 : decide ((50 : Int) ≤ ((b - a : Nat) : Int)) = false := decide_eq_false (by omega)
    rw [hd50, cond_false, if_neg h50]
    have q := gMed_eq hc (a := a + (b - a) / 4 * 1) (b := a + (b - a) / 4 * 2) (e := a + (b - a) / 4 * 3) (sw := 0) (d := d) (by omega) (by omega) (by omega) (by omega)
    have q' : gMed cmp 0 d.toList ((a + (b - a) / 4 * 1 : Nat) : Int) ((a + (b - a) / 4 * 2 : Nat) : Int) ((a + (b - a) / 4 * 3 : Nat) : Int) = _ := q
    rw [q', Option.bind_some]
    exact hfin _
end
end Go.Proofs.YtncjalhhkmojlaaGreat

set_option linter.unusedVariables false
namespace Go.Proofs.YtncjalhhkmojlaaGreat
open Go.TQ
open Go.Sort (swp scanSorted shiftDown shiftUp partialIns)

section
variable {α : Type}
noncomputable def scanStep {ρ : Type} (cmp : α → α → Option Int) (a1 : Int) (s : List α) (K : Int → Option ρ) (v : Int × Unit) : Option ((Int × Unit) ⊕ ρ) :=
  letJ (fun (w : Bool × Unit) => bif w.1 then some (Sum.inl ((addI .i64 v.1 (1 : Int)), ())) else Option.map Sum.inr (K v.1)) fun j => bif (decide (v.1 < a1)) then ltO cmp s v.1 (subI .i64 v.1 (1 : Int)) fun b => j ((!b), ()) else j (false, ())
noncomputable def sdStep {ρ : Type} (cmp : α → α → Option Int) (J : List α → Option ρ) (v : Int × (List α) × Unit) : Option ((Int × (List α) × Unit) ⊕ ρ) :=
  bif (decide ((1 : Int) ≤ v.1)) then ltO cmp v.2.1 v.1 (subI .i64 v.1 (1 : Int)) fun b => bif (!b) then Option.map Sum.inr (J v.2.1) else swO v.2.1 v.1 (subI .i64 v.1 (1 : Int)) fun l => some (Sum.inl ((subI .i64 v.1 (1 : Int)), l, ()))
  else Option.map Sum.inr (J v.2.1)
noncomputable def suStep {ρ : Type} (cmp : α → α → Option Int) (a1 : Int) (J : List α → Option ρ) (v : Int × (List α) × Unit) : Option ((Int × (List α) × Unit) ⊕ ρ) :=
  bif (decide (v.1 < a1)) then ltO cmp v.2.1 v.1 (subI .i64 v.1 (1 : Int)) fun b => bif (!b) then Option.map Sum.inr (J v.2.1) else swO v.2.1 v.1 (subI .i64 v.1 (1 : Int)) fun l => some (Sum.inl ((addI .i64 v.1 (1 : Int)), l, ()))
  else Option.map Sum.inr (J v.2.1)
noncomputable def piStep (cmp : α → α → Option Int) (a0 a1 : Int) (v1 : Int × Int × (List α) × Unit) : Option ((Int × Int × (List α) × Unit) ⊕ (Bool × List α)) :=
  bif (decide (v1.2.1 < (5 : Int))) then
    letJ (fun (v2 : Int × (List α) × Unit) => some (Sum.inl (v2.1, (addI .i64 v1.2.1 (1 : Int)), v2.2.1, ()))) fun j3 =>
    loopO (scanStep cmp a1 v1.2.2.1 fun i =>
      bif (decide (i = a1)) then Option.map Sum.inr (some (true, v1.2.2.1)) else
      bif (decide ((subI .i64 a1 a0) < (50 : Int))) then Option.map Sum.inr (some (false, v1.2.2.1)) else
      swO v1.2.2.1 i (subI .i64 i (1 : Int)) fun l1 =>
      letJ (fun (v15 : (List α) × Unit) => bif (decide ((2 : Int) ≤ (subI .i64 a1 i))) then loopO (suStep cmp a1 fun l => j3 (i, l, ())) ((addI .i64 i (1 : Int)), v15.1, ()) else j3 (i, v15.1, ())) fun j16 =>
      bif (decide ((2 : Int) ≤ (subI .i64 i a0))) then loopO (sdStep cmp fun l => j16 (l, ())) ((subI .i64 i (1 : Int)), l1, ()) else j16 (l1, ())) (v1.1, ())
  else Option.map Sum.inr (some (false, v1.2.2.1))
noncomputable def gPartial (cmp : α → α → Option Int) (s : List α) (a0 a1 : Int) : Option (Bool × List α) := loopO (piStep cmp a0 a1) ((addI .i64 a0 (1 : Int)), (0 : Int), s, ())
end

section
variable {α : Type} [Inhabited α]
theorem sd_sz (lt : α → α → Bool) : ∀ (j : Nat) (d : Array α), (shiftDown lt j d).size = d.size
  | 0, d => rfl
  | j + 1, d => by
    rw [shiftDown]
    split
    · rfl
    · rw [sd_sz lt j, swp_sz]
theorem su_sz (lt : α → α → Bool) (b : Nat) : ∀ (n j : Nat) (d : Array α), b - j ≤ n → (shiftUp lt b j d).size = d.size
  | 0, j, d, hn => by rw [shiftUp, if_neg (by omega)]
  | n + 1, j, d, hn => by
    rw [shiftUp]
    split
    · split
      · rfl
      · rw [su_sz lt b n _ _ (by omega), swp_sz]
    · rfl
theorem scan_ge (lt : α → α → Bool) (d : Array α) (b : Nat) : ∀ (n i : Nat), b - i ≤ n → i ≤ scanSorted lt d b i ∧ (i ≤ b → scanSorted lt d b i ≤ b)
  | 0, i, hn => by rw [scanSorted, if_neg (by simp; omega)]; exact ⟨Nat.le_refl _, id⟩
  | n + 1, i, hn => by
    rw [scanSorted]
    split
    · rename_i h
      simp only [Bool.and_eq_true, decide_eq_true_eq] at h
      have := scan_ge lt d b n (i + 1) (by omega)
      exact ⟨by omega, fun _ => this.2 (by omega)⟩
    · exact ⟨Nat.le_refl _, id⟩
variable {cmp : α → α → Option Int} {c : α → α → Int} (hc : ∀ x y, cmp x y = some (c x y))
 include hc
theorem scan_ok {ρ : Type} {b : Nat} {d : Array α} (hb : b ≤ d.size) (hd : d.size < 1000000000) {K : Int → Option ρ} {r : ρ} : ∀ (n i : Nat), b - i ≤ n → 1 ≤ i → i ≤ 1000000000 → K ((scanSorted (fun x y => decide (c x y < 0)) d b i : Nat) : Int) = some r → loopO (scanStep cmp (b : Int) d.toList K) ((i : Int), ()) = some r
  | 0, i, hn, h1, hi, hK => by
    have e1 : decide ((i : Int) < (b : Int)) = false := decide_eq_false (by omega)
    rw [scanSorted, if_neg (by simp; omega)] at hK
    refine loopO_inr ?_
    simp only [scanStep, letJ_eq, e1, cond_false, hK, Option.map_some]
  | n + 1, i, hn, h1, hi, hK => by
    by_cases hib : i < b
    · have e1 : decide ((i : Int) < (b : Int)) = true := decide_eq_true (by omega)
      have e2 : subI .i64 (i : Int) 1 = ((i - 1 : Nat) : Int) := sub1 h1 (by omega)
      have k1 : i < d.size := by omega
      have k2 : i - 1 < d.size := by omega
      cases hp : decide (c d[i]! d[i - 1]! < 0) with
      | false =>
        rw [scanSorted, if_pos (by simp [hib, hp])] at hK
        refine Eq.trans (loopO_inl ?_) (scan_ok hb hd n (i + 1) (by omega) (by omega) (by omega) hK)
        simp only [scanStep, letJ_eq, e1, cond_true, e2]
        rw [ltO_eq hc k1 k2, hp]
        simp only [Bool.not_false, cond_true, add1 (show i < 4000000000 by omega)]
      | true =>
        rw [scanSorted, if_neg (by simp [hp])] at hK
        refine loopO_inr ?_
        simp only [scanStep, letJ_eq, e1, cond_true, e2]
        rw [ltO_eq hc k1 k2, hp]
        simp only [Bool.not_true, cond_false, hK, Option.map_some]
    · have e1 : decide ((i : Int) < (b : Int)) = false := decide_eq_false (by omega)
      rw [scanSorted, if_neg (by simp [hib])] at hK
      refine loopO_inr ?_
      simp only [scanStep, letJ_eq, e1, cond_false, hK, Option.map_some]
theorem sd_ok {ρ : Type} {J : List α → Option ρ} {r : ρ} : ∀ (j : Nat) (d : Array α), j < d.size → d.size < 1000000000 → J (shiftDown (fun x y => decide (c x y < 0)) j d).toList = some r → loopO (sdStep cmp J) ((j : Int), d.toList, ()) = some r
  | 0, d, hj, hd, hJ => by
    have e1 : decide ((1 : Int) ≤ ((0 : Nat) : Int)) = false := rfl
    rw [shiftDown] at hJ
    refine loopO_inr ?_
    simp only [sdStep, e1, cond_false, hJ, Option.map_some]
  | j + 1, d, hj, hd, hJ => by
    have e1 : decide ((1 : Int) ≤ ((j + 1 : Nat) : Int)) = true := decide_eq_true (by omega)
    have e2 : subI .i64 ((j + 1 : Nat) : Int) 1 = (j : Int) := by rw [sub1 (by omega) (by omega)]; rfl
    have k2 : j < d.size := by omega
    rw [shiftDown] at hJ
    cases hp : decide (c d[j + 1]! d[j]! < 0) with
    | true =>
      rw [if_neg (by simp [hp])] at hJ
      refine Eq.trans (loopO_inl ?_) (sd_ok j (swp d (j + 1) j) (by rw [swp_sz]; omega) (by rw [swp_sz]; exact hd) hJ)
      simp only [sdStep, e1, cond_true, e2]
      rw [ltO_eq hc hj k2, hp]
      simp only [Bool.not_true, cond_false]
      rw [swO_eq hj k2]
    | false =>
      rw [if_pos (by simp [hp])] at hJ
      refine loopO_inr ?_
      simp only [sdStep, e1, cond_true, e2]
      rw [ltO_eq hc hj k2, hp]
      simp only [Bool.not_false, cond_true, hJ, Option.map_some]
theorem su_ok {ρ : Type} {b : Nat} {J : List α → Option ρ} {r : ρ} : ∀ (n j : Nat) (d : Array α), b - j ≤ n → 1 ≤ j → j ≤ 1000000000 → b ≤ d.size → d.size < 1000000000 → J (shiftUp (fun x y => decide (c x y < 0)) b j d).toList = some r → loopO (suStep cmp (b : Int) J) ((j : Int), d.toList, ()) = some r
  | 0, j, d, hn, h1, hj, hb, hd, hJ => by
    have e1 : decide ((j : Int) < (b : Int)) = false := decide_eq_false (by omega)
    rw [shiftUp, if_neg (by omega)] at hJ
    refine loopO_inr ?_
    simp only [suStep, e1, cond_false, hJ, Option.map_some]
  | n + 1, j, d, hn, h1, hj, hb, hd, hJ => by
    by_cases hjb : j < b
    · have e1 : decide ((j : Int) < (b : Int)) = true := decide_eq_true (by omega)
      have e2 : subI .i64 (j : Int) 1 = ((j - 1 : Nat) : Int) := sub1 h1 (by omega)
      have k1 : j < d.size := by omega
      have k2 : j - 1 < d.size := by omega
      rw [shiftUp, if_pos hjb] at hJ
      cases hp : decide (c d[j]! d[j - 1]! < 0) with
      | true =>
        rw [if_neg (by simp [hp])] at hJ
        refine Eq.trans (loopO_inl ?_) (su_ok n (j + 1) (swp d j (j - 1)) (by omega) (by omega) (by omega) (by rw [swp_sz]; exact hb) (by rw [swp_sz]; exact hd) hJ)
        simp only [suStep, e1, cond_true, e2]
        rw [ltO_eq hc k1 k2, hp]
        simp only [Bool.not_true, cond_false]
        rw [swO_eq k1 k2, add1 (by omega)]
      | false =>
        rw [if_pos (by simp [hp])] at hJ
        refine loopO_inr ?_
        simp only [suStep, e1, cond_true, e2]
        rw [ltO_eq hc k1 k2, hp]
        simp only [Bool.not_false, cond_true, hJ, Option.map_some]
    · have e1 : decide ((j : Int) < (b : Int)) = false := decide_eq_false (by omega)
      rw [shiftUp, if_neg hjb] at hJ
      refine loopO_inr ?_
      simp only [suStep, e1, cond_false, hJ, Option.map_some]
 omit hc in
theorem pi_succ (lt : α → α → Bool) (a b s i : Nat) (d : Array α) : partialIns lt a b (s + 1) i d =
    if scanSorted lt d b i = b then (d, true) else if b - a < 50 then (d, false) else
    partialIns lt a b s (scanSorted lt d b i) (if b - scanSorted lt d b i ≥ 2 then shiftUp lt b (scanSorted lt d b i + 1) (if scanSorted lt d b i - a ≥ 2 then shiftDown lt (scanSorted lt d b i - 1) (swp d (scanSorted lt d b i) (scanSorted lt d b i - 1)) else swp d (scanSorted lt d b i) (scanSorted lt d b i - 1))
      else if scanSorted lt d b i - a ≥ 2 then shiftDown lt (scanSorted lt d b i - 1) (swp d (scanSorted lt d b i) (scanSorted lt d b i - 1)) else swp d (scanSorted lt d b i) (scanSorted lt d b i - 1)) := rfl
theorem pi_ok {a b : Nat} (hab : a < b) : ∀ (s i : Nat) (d : Array α), s ≤ 5 → a < i → i ≤ b → b ≤ d.size → d.size < 1000000000 →
    loopO (piStep cmp (a : Int) (b : Int)) ((i : Int), ((5 - s : Nat) : Int), d.toList, ()) = some ((partialIns (fun x y => decide (c x y < 0)) a b s i d).2, (partialIns (fun x y => decide (c x y < 0)) a b s i d).1.toList)
  | 0, i, d, hs, ha, hi, hb, hd => by
    have e1 : decide (((5 - 0 : Nat) : Int) < 5) = false := rfl
    refine loopO_inr ?_
    simp only [piStep, e1, cond_false, Option.map_some, partialIns]
  | s + 1, i, d, hs, ha, hi, hb, hd => by
    have e1 : decide (((5 - (s + 1) : Nat) : Int) < 5) = true := decide_eq_true (by omega)
    have e2 : addI .i64 ((5 - (s + 1) : Nat) : Int) 1 = ((5 - s : Nat) : Int) := by rw [add1 (by omega)]; congr 1; omega
    obtain ⟨g1, g2⟩ := scan_ge (fun x y => decide (c x y < 0)) d b (b - i) i (Nat.le_refl _)
    have g2 := g2 hi
    rw [pi_succ]
    generalize hi2 : scanSorted (fun x y => decide (c x y < 0)) d b i = i2 at g1 g2
    by_cases hib : i2 = b
    · rw [if_pos hib]
      refine loopO_inr ?_
      simp only [piStep, e1, cond_true, letJ_eq]
      refine scan_ok hc hb hd (b - i) i (Nat.le_refl _) (by omega) (by omega) ?_
      rw [hi2]
      have e3 : decide ((i2 : Int) = (b : Int)) = true := decide_eq_true (by omega)
      rw [e3, cond_true, Option.map_some]
    · rw [if_neg hib]
      have e3 : decide ((i2 : Int) = (b : Int)) = false := decide_eq_false (by omega)
      have e4 : subI .i64 (b : Int) (a : Int) = ((b - a : Nat) : Int) := subN (by omega) (by omega)
      by_cases h50 : b - a < 50
      · rw [if_pos h50]
        refine loopO_inr ?_
        simp only [piStep, e1, cond_true, letJ_eq]
        refine scan_ok hc hb hd (b - i) i (Nat.le_refl _) (by omega) (by omega) ?_
        rw [hi2]
        have e5 : decide (((b - a : Nat) : Int) < 50) = true := decide_eq_true (by omega)
        rw [e3, cond_false, e4, e5, cond_true, Option.map_some]
      · rw [if_neg h50]
        have e5 : decide (((b - a : Nat) : Int) < 50) = false := decide_eq_false (by omega)
        have k1 : i2 < d.size := by omega
        have k2 : i2 - 1 < d.size := by omega
        have e6 : subI .i64 (i2 : Int) 1 = ((i2 - 1 : Nat) : Int) := sub1 (by omega) (by omega)
        have e7 : subI .i64 (i2 : Int) (a : Int) = ((i2 - a : Nat) : Int) := subN (by omega) (by omega)
        have e8 : subI .i64 (b : Int) (i2 : Int) = ((b - i2 : Nat) : Int) := subN (by omega) (by omega)
        have e9 : addI .i64 (i2 : Int) 1 = ((i2 + 1 : Nat) : Int) := add1 (by omega)
        -- what the array is
        generalize hd1 : swp d i2 (i2 - 1) = d1
        have s1 : d1.size = d.size := by rw [← hd1, swp_sz]
        generalize hd2 : (if i2 - a ≥ 2 then shiftDown (fun x y => decide (c x y < 0)) (i2 - 1) d1 else d1) = d2
        have s2 : d2.size = d.size := by rw [← hd2]; split <;> simp only [sd_sz, s1]
        generalize hd3 : (if b - i2 ≥ 2 then shiftUp (fun x y => decide (c x y < 0)) b (i2 + 1) d2 else d2) = d3
        have s3 : d3.size = d.size := by rw [← hd3]; split <;> simp only [su_sz _ _ (b - (i2 + 1)) _ _ (Nat.le_refl _), s2]
        refine Eq.trans (loopO_inl ?_) (pi_ok hab s i2 d3 (by omega) (by omega) (by omega) (by omega) (by omega))
        simp only [piStep, e1, cond_true, letJ_eq]
        refine scan_ok hc hb hd (b - i) i (Nat.le_refl _) (by omega) (by omega) ?_
        rw [hi2, e3, cond_false, e4, e5, cond_false, e6, swO_eq k1 k2, hd1, e7, e8, e9, e2]
        have hJ : (bif decide ((2 : Int) ≤ ((b - i2 : Nat) : Int)) then loopO (suStep cmp (b : Int) fun l => some (Sum.inl ((i2 : Int), ((5 - s : Nat) : Int), l, ()))) (((i2 + 1 : Nat) : Int), d2.toList, ()) else some (Sum.inl ((i2 : Int), ((5 - s : Nat) : Int), d2.toList, ()))) = (some (Sum.inl ((i2 : Int), ((5 - s : Nat) : Int), d3.toList, ())) : Option ((Int × Int × (List α) × Unit) ⊕ (Bool × List α))) := by
          by_cases h2 : b - i2 ≥ 2
          · have e10 : decide ((2 : Int) ≤ ((b - i2 : Nat) : Int)) = true := decide_eq_true (by omega)
            rw [e10, cond_true]
            rw [if_pos h2] at hd3
            exact su_ok hc (b - (i2 + 1)) (i2 + 1) d2 (Nat.le_refl _) (by omega) (by omega) (by omega) (by omega) (by rw [hd3])
          · have e10 : decide ((2 : Int) ≤ ((b - i2 : Nat) : Int)) = false := decide_eq_false (by omega)
            rw [e10, cond_false]
            rw [if_neg h2] at hd3
            rw [hd3]
        by_cases h2 : i2 - a ≥ 2
        · have e10 : decide ((2 : Int) ≤ ((i2 - a : Nat) : Int)) = true := decide_eq_true (by omega)
          rw [e10, cond_true]
          rw [if_pos h2] at hd2
          exact sd_ok hc (i2 - 1) d1 (by omega) (by omega) (by rw [hd2]; exact hJ)
        · have e10 : decide ((2 : Int) ≤ ((i2 - a : Nat) : Int)) = false := decide_eq_false (by omega)
          rw [e10, cond_false]
          rw [if_neg h2] at hd2
          rw [hd2]
          exact hJ
theorem gPartial_eq {a b : Nat} {d : Array α} (hab : a < b) (hb : b ≤ d.size) (hd : d.size < 1000000000) : gPartial cmp d.toList (a : Int) (b : Int) = some ((Go.Sort.partialInsertionSort (fun x y => decide (c x y < 0)) d a b).2, (Go.Sort.partialInsertionSort (fun x y => decide (c x y < 0)) d a b).1.toList) := by
  rw [gPartial, add1 (by omega), Go.Sort.partialInsertionSort]
  exact pi_ok hc hab 5 (a + 1) d (by omega) (by omega) (by omega) hb hd
end
end Go.Proofs.YtncjalhhkmojlaaGreat

set_option linter.unusedVariables false
namespace Go.Proofs.YtncjalhhkmojlaaGreat
open Go.TQ
open Go.Sort (swp xorNext bitsLen breakStep breakPatterns Hint)

/-! ### numbers of 64 bits -/
theorem wrapU {n : Nat} (h : n < 18446744073709551616) : IntKind.u64.wrap (n : Int) = n := by
  unfold IntKind.wrap
  simp [IntKind.signed, IntKind.bits]
  omega
theorem wrapUm (n : Nat) : IntKind.u64.wrap (n : Int) = ((n % 18446744073709551616 : Nat) : Int) := by
  unfold IntKind.wrap
  simp [IntKind.signed, IntKind.bits]
theorem shl_u (r : UInt64) (k : Nat) (hk : k < 64) : shlI .u64 (r.toNat : Int) (k : Int) = (((r <<< UInt64.ofNat k).toNat : Nat) : Int) := by
  unfold shlI
  have hm : min (k : Int).toNat (IntKind.bits .u64) = k := by simp [IntKind.bits]; omega
  rw [hm]
  have : (r.toNat : Int) * 2 ^ k = ((r.toNat * 2 ^ k : Nat) : Int) := by simp
  rw [this, wrapUm, UInt64.toNat_shiftLeft, Nat.shiftLeft_eq]
  have h2 : (UInt64.ofNat k).toNat % 64 = k := by
    rw [UInt64.toNat_ofNat']
    omega
  rw [h2]
theorem shr_u (r : UInt64) (k : Nat) (hk : k < 64) : shrI .u64 (r.toNat : Int) (k : Int) = (((r >>> UInt64.ofNat k).toNat : Nat) : Int) := by
  unfold shrI
  have hm : min (k : Int).toNat (IntKind.bits .u64) = k := by simp [IntKind.bits]; omega
  rw [hm, UInt64.toNat_shiftRight, Nat.shiftRight_eq_div_pow]
  have h2 : (UInt64.ofNat k).toNat % 64 = k := by
    rw [UInt64.toNat_ofNat']
    omega
  rw [h2]
  have : (2 : Int) ^ k = ((2 ^ k : Nat) : Int) := by simp
  rw [this]
  exact (Int.fdiv_eq_ediv_of_nonneg _ (Int.natCast_nonneg _)).trans (Int.natCast_ediv _ _).symm
theorem ofInt_u (n : Nat) (h : n < 18446744073709551616) : (BitVec.ofInt 64 (n : Int)).toNat = n := by
  rw [BitVec.ofInt_natCast, BitVec.toNat_ofNat]
  omega
theorem xor_u (x y : UInt64) : xorI .u64 (x.toNat : Int) (y.toNat : Int) = (((x ^^^ y).toNat : Nat) : Int) := by
  have hx := x.toNat_lt
  have hy := y.toNat_lt
  show IntKind.u64.wrap (((BitVec.ofInt 64 (x.toNat : Int) ^^^ BitVec.ofInt 64 (y.toNat : Int)).toNat : Nat) : Int) = _
  rw [BitVec.toNat_xor, ofInt_u _ hx, ofInt_u _ hy, UInt64.toNat_xor]
  exact wrapU (Nat.xor_lt_two_pow (n := 64) hx hy)
theorem and_u {a b : Nat} (ha : a < 18446744073709551616) (hb : b < 18446744073709551616) : andI .u64 (a : Int) (b : Int) = ((a &&& b : Nat) : Int) := by
  show IntKind.u64.wrap (((BitVec.ofInt 64 (a : Int) &&& BitVec.ofInt 64 (b : Int)).toNat : Nat) : Int) = _
  rw [BitVec.toNat_and, ofInt_u _ ha, ofInt_u _ hb]
  exact wrapU (Nat.and_lt_two_pow (n := 64) _ hb)
theorem xorshift_eq (r : UInt64) : F_slices_xorshift_Next (r.toNat : Int) = some (((xorNext r).toNat : Int), ((xorNext r).toNat : Int)) := by
  have e1 : shlI .u64 (r.toNat : Int) 13 = (((r <<< 13).toNat : Nat) : Int) := shl_u r 13 (by omega)
  have e2 := xor_u r (r <<< 13)
  have e3 : shrI .u64 (((r ^^^ r <<< 13).toNat : Nat) : Int) 7 = ((((r ^^^ r <<< 13) >>> 7).toNat : Nat) : Int) := shr_u (r ^^^ r <<< 13) 7 (by omega)
  have e4 := xor_u (r ^^^ r <<< 13) ((r ^^^ r <<< 13) >>> 7)
  have e5 : shlI .u64 ((((r ^^^ r <<< 13) ^^^ (r ^^^ r <<< 13) >>> 7).toNat : Nat) : Int) 17 = (((((r ^^^ r <<< 13) ^^^ (r ^^^ r <<< 13) >>> 7) <<< 17).toNat : Nat) : Int) := shl_u _ 17 (by omega)
  have e6 := xor_u ((r ^^^ r <<< 13) ^^^ (r ^^^ r <<< 13) >>> 7) (((r ^^^ r <<< 13) ^^^ (r ^^^ r <<< 13) >>> 7) <<< 17)
  simp only [F_slices_xorshift_Next, e1, e2, e3, e4, e5, e6]
  rfl

/-! ### math/bits.Len -/
theorem bits_shift (n s : Nat) (h : 2 ^ s ≤ n) : bitsLen (n / 2 ^ s) + s = bitsLen n := by
  have hs : ¬ bitsLen n ≤ s := by rw [Go.Sort.bitsLen_le_iff]; omega
  have hp := Nat.two_pow_pos s
  refine Nat.le_antisymm ?_ ?_
  · have h1 : bitsLen (n / 2 ^ s) ≤ bitsLen n - s := by
      rw [Go.Sort.bitsLen_le_iff, Nat.div_lt_iff_lt_mul hp, ← Nat.pow_add]
      have h2 := (Go.Sort.bitsLen_le_iff n _).1 (Nat.le_refl _)
      rwa [show bitsLen n - s + s = bitsLen n by omega]
    omega
  · rw [Go.Sort.bitsLen_le_iff, Nat.pow_add]
    have h2 := (Go.Sort.bitsLen_le_iff (n / 2 ^ s) _).1 (Nat.le_refl _)
    exact (Nat.div_lt_iff_lt_mul hp).1 h2
theorem convU' {n : Nat} (h : n < 18446744073709551616) : convI .u64 (n : Int) = n := wrapU h
theorem convB {n : Nat} (h : n < 256) : convI .u8 (n : Int) = n := by
  unfold convI IntKind.wrap
  simp [IntKind.signed, IntKind.bits]
  omega
theorem convS {n : Nat} (h : n < 4000000000) : convI .i64 (n : Int) = n := wrap64 (by omega) (by omega)
def lenTab : List UInt8 := 0 :: (List.range 255).map fun i => UInt8.ofNat (Nat.log2 (i + 1) + 1)
theorem tab_ok : ∀ n : Nat, n < 256 → (lenTab[n]?).map (fun b => b.toNat) = some (bitsLen n) := by decide +kernel
theorem len_eq {n : Nat} (hn : n < 4294967296) : F_math_bits_Len (convI .u64 (n : Int)) = some ((bitsLen n : Nat) : Int) := by
  have hc : convI .u64 (n : Int) = n := convU' (by omega)
  have d1 : decide ((4294967296 : Int) ≤ (n : Int)) = false := decide_eq_false (by omega)
  rw [hc]
  unfold F_math_bits_Len F_math_bits_Len64
  generalize htab : ByteArray.mk _ = tb
  have htl : tb = ⟨lenTab.toArray⟩ := by rw [← htab]; decide +kernel
  have hs : ∀ m : Nat, m < 256 → sidx tb (m : Int) = some ((bitsLen m : Nat) : Int) := fun m hm => by
    have h1 := tab_ok m hm
    rw [Option.map_eq_some_iff] at h1
    obtain ⟨b, hb, hbb⟩ := h1
    have hlt : m < lenTab.length := (List.getElem?_eq_some_iff.1 hb).1
    unfold sidx
    rw [if_pos (by omega), Int.toNat_natCast, htl]
    have hg : (⟨lenTab.toArray⟩ : ByteArray)[m]? = some b := by
      rw [getElem?_pos (⟨lenTab.toArray⟩ : ByteArray) m (by simpa [ByteArray.size] using hlt)]
      have := (List.getElem?_eq_some_iff.1 hb).2
      exact congrArg some this
    rw [hg, Option.map_some, hbb]
  have hsh : ∀ m k : Nat, m < 4294967296 → k < 64 → shrI .u64 (m : Int) (k : Int) = ((m / 2 ^ k : Nat) : Int) := fun m k hm hk => by
    unfold shrI
    have hm' : min (k : Int).toNat (IntKind.bits .u64) = k := by simp [IntKind.bits]; omega
    rw [hm']
    have : (2 : Int) ^ k = ((2 ^ k : Nat) : Int) := by simp
    rw [this]
    exact (Int.fdiv_eq_ediv_of_nonneg _ (Int.natCast_nonneg _)).trans (Int.natCast_ediv _ _).symm
  have last : ∀ (m s : Nat), m < 256 → s < 100 → (Option.bind (sidx tb (convI .u8 (m : Int))) fun x7 => some (addI .i64 (s : Int) (convI .i64 x7))) = some ((bitsLen m + s : Nat) : Int) := fun m s hm hs2 => by
    have hb : bitsLen m ≤ 8 := by rw [Go.Sort.bitsLen_le_iff]; exact hm
    rw [convB hm, hs m hm, Option.bind_some, convS (by omega), addN (by omega), Nat.add_comm]
  have mid : ∀ (m s : Nat), m < 65536 → s < 50 → (bif (decide ((256 : Int) ≤ (m : Int))) then (Option.bind (sidx tb (convI .u8 (shrI .u64 (m : Int) (8 : Int)))) fun x7 => some (addI .i64 (addI .i64 (s : Int) (8 : Int)) (convI .i64 x7))) else (Option.bind (sidx tb (convI .u8 (m : Int))) fun x7 => some (addI .i64 (s : Int) (convI .i64 x7)))) = some ((bitsLen m + s : Nat) : Int) := fun m s hm hs2 => by
    by_cases h : 256 ≤ m
    · have d : decide ((256 : Int) ≤ (m : Int)) = true := decide_eq_true (by omega)
      have e1 : shrI .u64 (m : Int) 8 = ((m / 2 ^ 8 : Nat) : Int) := hsh m 8 (by omega) (by omega)
      have e2 : addI .i64 (s : Int) 8 = ((s + 8 : Nat) : Int) := addN (b := 8) (by omega)
      rw [d, cond_true, e1, e2, last _ _ (by omega) (by omega), ← bits_shift m 8 (by omega)]
      congr 2
      omega
    · have d : decide ((256 : Int) ≤ (m : Int)) = false := decide_eq_false (by omega)
      rw [d, cond_false, last m s (by omega) (by omega)]
  simp only [letJ_eq, d1, cond_false]
  by_cases h : 65536 ≤ n
  · have d : decide ((65536 : Int) ≤ (n : Int)) = true := decide_eq_true (by omega)
    have e1 : shrI .u64 (n : Int) 16 = ((n / 2 ^ 16 : Nat) : Int) := hsh n 16 hn (by omega)
    have e2 : addI .i64 (0 : Int) 16 = ((16 : Nat) : Int) := rfl
    rw [d, cond_true, e1, e2, mid (n / 2 ^ 16) 16 (by omega) (by omega), Option.bind_some, ← bits_shift n 16 (by omega)]
  · have d : decide ((65536 : Int) ≤ (n : Int)) = false := decide_eq_false (by omega)
    have := mid n 0 (by omega) (by omega)
    rw [d, cond_false]
    have e0 : ((0 : Nat) : Int) = 0 := rfl
    rw [e0] at this
    rw [this, Option.bind_some, Nat.add_zero]
theorem pow2_eq {n : Nat} (hn : n < 1000000000) : F_slices_nextPowerOfTwo (n : Int) = some ((2 ^ bitsLen n : Nat) : Int) := by
  have hb : bitsLen n ≤ 30 := by rw [Go.Sort.bitsLen_le_iff]; omega
  have hp : 2 ^ bitsLen n ≤ 2 ^ 30 := Nat.pow_le_pow_right (by omega) hb
  unfold F_slices_nextPowerOfTwo
  rw [len_eq (by omega), Option.bind_some, if_neg (by omega)]
  unfold shlI
  have hm : min ((bitsLen n : Nat) : Int).toNat (IntKind.bits .u64) = bitsLen n := by simp [IntKind.bits]; omega
  rw [hm]
  have : (1 : Int) * 2 ^ bitsLen n = ((2 ^ bitsLen n : Nat) : Int) := by simp
  rw [this, wrapU (by omega)]
end Go.Proofs.YtncjalhhkmojlaaGreat

set_option linter.unusedVariables false
namespace Go.Proofs.YtncjalhhkmojlaaGreat
open Go.TQ
open Go.Sort (swp xorNext bitsLen breakStep breakPatterns Hint)

section
variable {α : Type}
noncomputable def bpStep (a0 a1 r1 : Int) (v2 : Int × (List α) × Int × Unit) : Option ((Int × (List α) × Int × Unit) ⊕ (Unit × List α)) :=
  bif (decide (v2.1 ≤ (addI .i64 (addI .i64 a0 (mulI .i64 (quoI .i64 (subI .i64 a1 a0) (4 : Int)) (2 : Int))) (1 : Int)))) then
    Option.bind (F_slices_xorshift_Next v2.2.2.1) fun p3 =>
    letJ (fun (v4 : Int × Unit) => swO v2.2.1 v2.1 (addI .i64 a0 v4.1) fun l => some (Sum.inl ((addI .i64 v2.1 (1 : Int)), l, p3.2, ()))) fun j5 =>
    bif (decide ((subI .i64 a1 a0) ≤ (convI .i64 (andI .u64 p3.1 (subI .u64 r1 (1 : Int)))))) then j5 ((subI .i64 (convI .i64 (andI .u64 p3.1 (subI .u64 r1 (1 : Int)))) (subI .i64 a1 a0)), ())
    else j5 ((convI .i64 (andI .u64 p3.1 (subI .u64 r1 (1 : Int)))), ())
  else Option.map Sum.inr (some ((()), v2.2.1))
noncomputable def gBreak (s : List α) (a0 a1 : Int) : Option (Unit × List α) :=
  bif (decide ((8 : Int) ≤ (subI .i64 a1 a0))) then
    Option.bind (F_slices_nextPowerOfTwo (subI .i64 a1 a0)) fun r1 =>
    loopO (bpStep a0 a1 r1) ((subI .i64 (addI .i64 a0 (mulI .i64 (quoI .i64 (subI .i64 a1 a0) (4 : Int)) (2 : Int))) (1 : Int)), s, (convI .u64 (subI .i64 a1 a0)), ())
  else some ((()), s)
variable [Inhabited α]
theorem break_sz (a L m : Nat) (st : UInt64 × Array α) (idx : Nat) : (breakStep a L m st idx).2.size = st.2.size := by
  simp only [breakStep, swp_sz]
theorem bp_one {a b idx : Nat} {r : UInt64} {d : Array α} (h8 : 8 ≤ b - a) (hb : b ≤ d.size) (hd : d.size < 1000000000) (h1 : a ≤ idx) (h2 : idx < b) (h3 : idx ≤ a + (b - a) / 4 * 2 + 1) :
    bpStep (a : Int) (b : Int) ((2 ^ bitsLen (b - a) : Nat) : Int) ((idx : Int), d.toList, (r.toNat : Int), ()) = some (Sum.inl (((idx + 1 : Nat) : Int), (breakStep a (b - a) (1 <<< bitsLen (b - a)) (r, d) idx).2.toList, ((breakStep a (b - a) (1 <<< bitsLen (b - a)) (r, d) idx).1.toNat : Int), ())) := by
  have e1 : subI .i64 (b : Int) (a : Int) = ((b - a : Nat) : Int) := subN (by omega) (by omega)
  have e2 : quoI .i64 ((b - a : Nat) : Int) 4 = (((b - a) / 4 : Nat) : Int) := by
    unfold quoI
    have : ((b - a : Nat) : Int).tdiv 4 = (((b - a) / 4 : Nat) : Int) := rfl
    rw [this, wrap64 (by omega) (by omega)]
  have f2 : mulI .i64 (((b - a) / 4 : Nat) : Int) 2 = (((b - a) / 4 * 2 : Nat) : Int) := mulN (b := 2) (by omega)
  have g2 : addI .i64 (a : Int) (((b - a) / 4 * 2 : Nat) : Int) = ((a + (b - a) / 4 * 2 : Nat) : Int) := addN (by omega)
  have g3 : addI .i64 ((a + (b - a) / 4 * 2 : Nat) : Int) 1 = ((a + (b - a) / 4 * 2 + 1 : Nat) : Int) := add1 (by omega)
  have c1 : decide ((idx : Int) ≤ ((a + (b - a) / 4 * 2 + 1 : Nat) : Int)) = true := decide_eq_true (by omega)
  have hL : bitsLen (b - a) ≤ 30 := by rw [Go.Sort.bitsLen_le_iff]; omega
  have hp : 2 ^ bitsLen (b - a) ≤ 2 ^ 30 := Nat.pow_le_pow_right (by omega) hL
  have hp1 := Nat.two_pow_pos (bitsLen (b - a))
  have hp2 := Go.Sort.two_pow_bitsLen_le (n := b - a) (by omega)
  generalize hM : 2 ^ bitsLen (b - a) = M at *
  have hM1 : 1 <<< bitsLen (b - a) = M := by rw [Nat.shiftLeft_eq, Nat.one_mul, hM]
  have s1 : subI .u64 (M : Int) 1 = ((M - 1 : Nat) : Int) := by
    unfold subI
    rw [show (M : Int) - 1 = ((M - 1 : Nat) : Int) by omega]
    exact wrapU (by omega)
  have hand : (xorNext r).toNat &&& (M - 1) ≤ M - 1 := Nat.and_le_right
  have a1 := and_u (a := (xorNext r).toNat) (b := M - 1) (xorNext r).toNat_lt (by omega)
  have v1 : convI .i64 (((xorNext r).toNat &&& (M - 1) : Nat) : Int) = (((xorNext r).toNat &&& (M - 1) : Nat) : Int) := convS (by omega)
  simp only [bpStep, e1, e2, f2, g2, g3, c1, cond_true, xorshift_eq, Option.bind_some, letJ_eq, s1, a1, v1, breakStep, hM1]
  generalize (xorNext r).toNat &&& (M - 1) = o at *
  by_cases ho : o ≥ b - a
  · have c2 : decide (((b - a : Nat) : Int) ≤ (o : Int)) = true := decide_eq_true (by omega)
    have s2 : subI .i64 (o : Int) ((b - a : Nat) : Int) = ((o - (b - a) : Nat) : Int) := subN (by omega) (by omega)
    have s3 : addI .i64 (a : Int) ((o - (b - a) : Nat) : Int) = ((a + (o - (b - a)) : Nat) : Int) := addN (by omega)
    have k1 : idx < d.size := by omega
    have k2 : a + (o - (b - a)) < d.size := by omega
    rw [c2, cond_true, s2, s3, swO_eq k1 k2, if_pos ho, add1 (by omega)]
  · have c2 : decide (((b - a : Nat) : Int) ≤ (o : Int)) = false := decide_eq_false (by omega)
    have s3 : addI .i64 (a : Int) (o : Int) = ((a + o : Nat) : Int) := addN (by omega)
    have k1 : idx < d.size := by omega
    have k2 : a + o < d.size := by omega
    rw [c2, cond_false, s3, swO_eq k1 k2, if_neg ho, add1 (by omega)]
theorem gBreak_eq {a b : Nat} {d : Array α} (hab : 12 < b - a) (hb : b ≤ d.size) (hd : d.size < 1000000000) : gBreak d.toList (a : Int) (b : Int) = some ((), (breakPatterns d a b).toList) := by
  have e1 : subI .i64 (b : Int) (a : Int) = ((b - a : Nat) : Int) := subN (by omega) (by omega)
  have e2 : quoI .i64 ((b - a : Nat) : Int) 4 = (((b - a) / 4 : Nat) : Int) := by
    unfold quoI
    have : ((b - a : Nat) : Int).tdiv 4 = (((b - a) / 4 : Nat) : Int) := rfl
    rw [this, wrap64 (by omega) (by omega)]
  have f2 : mulI .i64 (((b - a) / 4 : Nat) : Int) 2 = (((b - a) / 4 * 2 : Nat) : Int) := mulN (b := 2) (by omega)
  have g2 : addI .i64 (a : Int) (((b - a) / 4 * 2 : Nat) : Int) = ((a + (b - a) / 4 * 2 : Nat) : Int) := addN (by omega)
  have g3 : subI .i64 ((a + (b - a) / 4 * 2 : Nat) : Int) 1 = ((a + (b - a) / 4 * 2 - 1 : Nat) : Int) := sub1 (by omega) (by omega)
  have g4 : addI .i64 ((a + (b - a) / 4 * 2 : Nat) : Int) 1 = ((a + (b - a) / 4 * 2 + 1 : Nat) : Int) := add1 (by omega)
  have c8 : decide ((8 : Int) ≤ ((b - a : Nat) : Int)) = true := decide_eq_true (by omega)
  have hr : convI .u64 ((b - a : Nat) : Int) = ((UInt64.ofNat (b - a)).toNat : Int) := by
    rw [convU' (by omega), UInt64.toNat_ofNat', Nat.mod_eq_of_lt (by omega)]
  simp only [gBreak, e1, c8, cond_true, pow2_eq (show b - a < 1000000000 by omega), Option.bind_some, e2, f2, g2, g3, hr]
  have hdef : breakPatterns d a b = (breakStep a (b - a) (1 <<< bitsLen (b - a)) (breakStep a (b - a) (1 <<< bitsLen (b - a)) (breakStep a (b - a) (1 <<< bitsLen (b - a)) (UInt64.ofNat (b - a), d) (a + (b - a) / 4 * 2 - 1)) (a + (b - a) / 4 * 2 - 1 + 1)) (a + (b - a) / 4 * 2 - 1 + 2)).2 := by
    rw [breakPatterns]
    exact if_pos (by omega)
  rw [hdef]
  generalize hs0 : (UInt64.ofNat (b - a), d) = st0
  have q0 : st0.2.size = d.size := by rw [← hs0]
  generalize hs1 : breakStep a (b - a) (1 <<< bitsLen (b - a)) st0 (a + (b - a) / 4 * 2 - 1) = st1
  have q1 : st1.2.size = d.size := by rw [← hs1, break_sz, q0]
  generalize hs2 : breakStep a (b - a) (1 <<< bitsLen (b - a)) st1 (a + (b - a) / 4 * 2 - 1 + 1) = st2
  have q2 : st2.2.size = d.size := by rw [← hs2, break_sz, q1]
  have t0 := bp_one (a := a) (b := b) (idx := a + (b - a) / 4 * 2 - 1) (r := st0.1) (d := st0.2) (by omega) (by omega) (by omega) (by omega) (by omega) (by omega)
  have t1 := bp_one (a := a) (b := b) (idx := a + (b - a) / 4 * 2 - 1 + 1) (r := st1.1) (d := st1.2) (by omega) (by omega) (by omega) (by omega) (by omega) (by omega)
  have t2 := bp_one (a := a) (b := b) (idx := a + (b - a) / 4 * 2 - 1 + 2) (r := st2.1) (d := st2.2) (by omega) (by omega) (by omega) (by omega) (by omega) (by omega)
  have p0 : (st0.1, st0.2) = st0 := rfl
  have p1 : (st1.1, st1.2) = st1 := rfl
  have p2 : (st2.1, st2.2) = st2 := rfl
  rw [p0, hs1] at t0
  rw [p1, hs2] at t1
  rw [p2] at t2
  have hst : ((UInt64.ofNat (b - a)).toNat : Int) = (st0.1.toNat : Int) ∧ d.toList = st0.2.toList := by rw [← hs0]; exact ⟨rfl, rfl⟩
  rw [hst.1, hst.2]
  refine (loopO_inl t0).trans ((loopO_inl t1).trans ((loopO_inl t2).trans (loopO_inr ?_)))
  have c9 : decide (((a + (b - a) / 4 * 2 - 1 + 2 + 1 : Nat) : Int) ≤ ((a + (b - a) / 4 * 2 + 1 : Nat) : Int)) = false := decide_eq_false (by omega)
  simp only [bpStep, e1, e2, f2, g2, g4, c9, cond_false, Option.map_some]
end
end Go.Proofs.YtncjalhhkmojlaaGreat

set_option linter.unusedVariables false
namespace Go.Proofs.YtncjalhhkmojlaaGreat
open Go.TQ
open Go.Sort (swp bitsLen breakPatterns Hint pdq PermIn SortedIn Below choosePivot reverseRange partialInsertionSort partition partitionEqual insertionSort heapSort)

section
variable {α : Type}
/-- behind the test of what lies to the left -/
noncomputable def st4 (cmp : α → α → Option Int) (rec : List α → (Int × Int × Int × (Unit) × Unit) → Option ((Unit) × List α)) (a b lim : Int) (wb wp : Bool) (l : List α) (pv : Int) (w : Bool) : Option ((Int × Int × Int × Bool × Bool × (List α) × Unit) ⊕ (Unit × List α)) :=
  bif w then Option.bind (gPartEq cmp l a b pv) fun p13 => some (Sum.inl (p13.1, b, lim, wb, wp, p13.2, ())) else
  Option.bind (gPart cmp l a b pv) fun p14 =>
  bif (decide ((subI .i64 p14.1.1 a) < (subI .i64 b p14.1.1))) then
    Option.bind (rec p14.2 (a, p14.1.1, lim, (()), ())) fun p15 => some (Sum.inl ((addI .i64 p14.1.1 (1 : Int)), b, lim, (decide ((quoI .i64 (subI .i64 b a) (8 : Int)) ≤ (subI .i64 p14.1.1 a))), p14.1.2.1, p15.2, ()))
  else
    Option.bind (rec p14.2 ((addI .i64 p14.1.1 (1 : Int)), b, lim, (()), ())) fun p16 => some (Sum.inl (a, p14.1.1, lim, (decide ((quoI .i64 (subI .i64 b a) (8 : Int)) ≤ (subI .i64 b p14.1.1))), p14.1.2.1, p16.2, ()))
noncomputable def st3 (cmp : α → α → Option Int) (rec : List α → (Int × Int × Int × (Unit) × Unit) → Option ((Unit) × List α)) (a b lim : Int) (wb wp : Bool) (pv : Int) (l : List α) : Option ((Int × Int × Int × Bool × Bool × (List α) × Unit) ⊕ (Unit × List α)) :=
  bif (decide ((0 : Int) < a)) then ltO cmp l (subI .i64 a (1 : Int)) pv fun w => st4 cmp rec a b lim wb wp l pv (!w) else st4 cmp rec a b lim wb wp l pv false
noncomputable def st2 (cmp : α → α → Option Int) (rec : List α → (Int × Int × Int × (Unit) × Unit) → Option ((Unit) × List α)) (a b lim : Int) (wb wp : Bool) (pv hint : Int) (l : List α) : Option ((Int × Int × Int × Bool × Bool × (List α) × Unit) ⊕ (Unit × List α)) :=
  Option.bind (bif wb then some wp else some false) fun b22 => Option.bind (bif b22 then some (decide (hint = (1 : Int))) else some false) fun b23 =>
  bif b23 then Option.bind (gPartial cmp l a b) fun p24 => bif p24.1 then Option.map Sum.inr (some ((()), p24.2)) else st3 cmp rec a b lim wb wp pv p24.2
  else st3 cmp rec a b lim wb wp pv l
noncomputable def st1 (cmp : α → α → Option Int) (rec : List α → (Int × Int × Int × (Unit) × Unit) → Option ((Unit) × List α)) (a b : Int) (wb wp : Bool) (lim : Int) (l : List α) : Option ((Int × Int × Int × Bool × Bool × (List α) × Unit) ⊕ (Unit × List α)) :=
  Option.bind (gPivot cmp l a b) fun r6 =>
  bif (decide (r6.2.1 = (2 : Int))) then Option.bind (gRev l a b) fun p25 => st2 cmp rec a b lim wb wp (subI .i64 (subI .i64 b (1 : Int)) (subI .i64 r6.1 a)) (1 : Int) p25.2
  else st2 cmp rec a b lim wb wp r6.1 r6.2.1 l
noncomputable def pdqStep (cmp : α → α → Option Int) (rec : List α → (Int × Int × Int × (Unit) × Unit) → Option ((Unit) × List α)) (v1 : Int × Int × Int × Bool × Bool × (List α) × Unit) : Option ((Int × Int × Int × Bool × Bool × (List α) × Unit) ⊕ (Unit × List α)) :=
  bif (decide ((subI .i64 v1.2.1 v1.1) ≤ (12 : Int))) then Option.bind (gInsert cmp v1.2.2.2.2.2.1 v1.1 v1.2.1) fun p2 => Option.map Sum.inr (some ((()), p2.2)) else
  bif (decide (v1.2.2.1 = (0 : Int))) then Option.bind (gHeap cmp v1.2.2.2.2.2.1 v1.1 v1.2.1) fun p3 => Option.map Sum.inr (some ((()), p3.2)) else
  bif (!v1.2.2.2.1) then Option.bind (gBreak v1.2.2.2.2.2.1 v1.1 v1.2.1) fun p26 => st1 cmp rec v1.1 v1.2.1 v1.2.2.2.1 v1.2.2.2.2.1 (subI .i64 v1.2.2.1 (1 : Int)) p26.2
  else st1 cmp rec v1.1 v1.2.1 v1.2.2.2.1 v1.2.2.2.2.1 v1.2.2.1 v1.2.2.2.2.2.1
noncomputable def gPB (cmp : α → α → Option Int) (rec : List α → (Int × Int × Int × (Unit) × Unit) → Option ((Unit) × List α)) (s : List α) (a0 a1 a2 : Int) : Option ((Unit) × List α) := loopO (pdqStep cmp rec) (a0, a1, a2, true, true, s, ())
noncomputable def gPI (cmp : α → α → Option Int) : Nat → List α → (Int × Int × Int × (Unit) × Unit) → Option ((Unit) × List α) := iterF2 (fun rec s a => gPB cmp rec s a.1 a.2.1 a.2.2.1)
noncomputable def gPdq (cmp : α → α → Option Int) (s : List α) (a0 a1 a2 : Int) : Option ((Unit) × List α) := gPI cmp (List.length s + 1) s (a0, a1, a2, (()), ())
end

section
variable {α : Type} [Inhabited α] {cmp : α → α → Option Int} {c : α → α → Int} (hc : ∀ x y, cmp x y = some (c x y))
variable {rec : List α → (Int × Int × Int × (Unit) × Unit) → Option ((Unit) × List α)}
 include hc
/-- the pivot and the reversal -/
theorem st1_eq {a b : Nat} {d : Array α} (hab : 12 < b - a) (hb : b ≤ d.size) (hd : d.size < 1000000000) (lim : Int) (wb wp : Bool) :
    st1 cmp rec (a : Int) (b : Int) wb wp lim d.toList = st2 cmp rec (a : Int) (b : Int) lim wb wp
      (((if (choosePivot (fun x y => decide (c x y < 0)) d a b).2 = .decreasing then (b - 1) - ((choosePivot (fun x y => decide (c x y < 0)) d a b).1 - a) else (choosePivot (fun x y => decide (c x y < 0)) d a b).1 : Nat)) : Int)
      (hintI (if (choosePivot (fun x y => decide (c x y < 0)) d a b).2 = .decreasing then Hint.increasing else (choosePivot (fun x y => decide (c x y < 0)) d a b).2))
      (if (choosePivot (fun x y => decide (c x y < 0)) d a b).2 = .decreasing then reverseRange d a b else d).toList := by
  obtain ⟨p1, p2⟩ := Go.Sort.choosePivot_holds (fun x y => decide (c x y < 0)) d a b (by omega)
  rw [st1, gPivot_eq hc hab hb hd, Option.bind_some]
  generalize choosePivot (fun x y => decide (c x y < 0)) d a b = r at *
  by_cases h : r.2 = .decreasing
  · have e1 : decide (hintI r.2 = (2 : Int)) = true := by rw [h]; rfl
    have e2 : subI .i64 (b : Int) 1 = ((b - 1 : Nat) : Int) := sub1 (by omega) (by omega)
    have e3 : subI .i64 (r.1 : Int) (a : Int) = ((r.1 - a : Nat) : Int) := subN (by omega) (by omega)
    have e4 : subI .i64 ((b - 1 : Nat) : Int) ((r.1 - a : Nat) : Int) = ((b - 1 - (r.1 - a) : Nat) : Int) := subN (by omega) (by omega)
    simp only [e1, cond_true, e2, e3, e4, gRev_eq (show a < b by omega) hb hd, Option.bind_some, if_pos h]
    rfl
  · have e1 : decide (hintI r.2 = (2 : Int)) = false := by
      cases hr : r.2 with
      | unknown => rfl
      | increasing => rfl
      | decreasing => exact absurd hr h
    simp only [e1, cond_false, if_neg h]
/-- the insertion sort that gives up -/
theorem st2_eq {a b : Nat} {d : Array α} (hab : a < b) (hb : b ≤ d.size) (hd : d.size < 1000000000) (lim pv : Int) (wb wp : Bool) (hint : Hint) :
    st2 cmp rec (a : Int) (b : Int) lim wb wp pv (hintI hint) d.toList =
      bif (if (wb && wp && decide (hint = Hint.increasing)) = true then partialInsertionSort (fun x y => decide (c x y < 0)) d a b else (d, false)).2 then some (Sum.inr ((), (if (wb && wp && decide (hint = Hint.increasing)) = true then partialInsertionSort (fun x y => decide (c x y < 0)) d a b else (d, false)).1.toList))
      else st3 cmp rec (a : Int) (b : Int) lim wb wp pv (if (wb && wp && decide (hint = Hint.increasing)) = true then partialInsertionSort (fun x y => decide (c x y < 0)) d a b else (d, false)).1.toList := by
  have e1 : decide (hintI hint = (1 : Int)) = decide (hint = Hint.increasing) := by cases hint <;> rfl
  have hp := gPartial_eq hc hab hb hd
  cases wb with
  | false => simp only [st2, cond_false, Option.bind_some, Bool.false_and, Bool.false_eq_true, if_false]
  | true =>
    cases wp with
    | false => simp only [st2, cond_false, cond_true, Option.bind_some, Bool.true_and, Bool.false_and, Bool.false_eq_true, if_false]
    | true =>
      simp only [st2, cond_true, Option.bind_some, Bool.true_and, e1]
      cases hh : decide (hint = Hint.increasing) with
      | false => simp only [cond_false, Bool.false_eq_true, if_false]
      | true =>
        rw [if_pos rfl, cond_true, hp, Option.bind_some, Option.map_some]
/-- is the pivot the same as what lies to the left? -/
theorem st3_eq {a b pv : Nat} {d : Array α} (ha : a ≤ d.size) (hp : pv < d.size) (hd : d.size < 1000000000) (lim : Int) (wb wp : Bool) :
    st3 cmp rec (a : Int) (b : Int) lim wb wp (pv : Int) d.toList = st4 cmp rec (a : Int) (b : Int) lim wb wp d.toList (pv : Int) (decide (a > 0) && !decide (c d[a - 1]! d[pv]! < 0)) := by
  by_cases h : a > 0
  · have e1 : decide ((0 : Int) < (a : Int)) = true := decide_eq_true (by omega)
    have e2 : subI .i64 (a : Int) 1 = ((a - 1 : Nat) : Int) := sub1 (by omega) (by omega)
    have e3 : decide (a > 0) = true := decide_eq_true h
    have k1 : a - 1 < d.size := by omega
    rw [st3, e1, cond_true, e2, ltO_eq hc k1 hp, e3, Bool.true_and]
  · have e1 : decide ((0 : Int) < (a : Int)) = false := decide_eq_false (by omega)
    have e3 : decide (a > 0) = false := decide_eq_false h
    rw [st3, e1, cond_false, e3, Bool.false_and]
end
end Go.Proofs.YtncjalhhkmojlaaGreat

set_option linter.unusedVariables false
namespace Go.Proofs.YtncjalhhkmojlaaGreat
open Go.TQ
open Go.Sort (swp bitsLen breakPatterns Hint pdq PermIn SortedIn Below choosePivot reverseRange partialInsertionSort partition partitionEqual insertionSort heapSort)

section
variable {α : Type} [Inhabited α]
/-- a call that gives a sorted permutation -/
def Sorts (lt : α → α → Bool) (a b : Nat) (d : Array α) (r : Option (Unit × List α)) : Prop := ∃ d' : Array α, r = some ((), d'.toList) ∧ PermIn a b d d' ∧ SortedIn lt a b d'
theorem Sorts.trans {lt : α → α → Bool} {a b : Nat} {d d1 : Array α} {r : Option (Unit × List α)} (h : PermIn a b d d1) (hs : Sorts lt a b d1 r) : Sorts lt a b d r := by
  obtain ⟨d', e, p, s⟩ := hs
  exact ⟨d', e, Go.Sort.permIn_trans _ _ _ a b h p, s⟩
end
/-- how a loop goes on behind one round -/
noncomputable def contO {σ ρ : Type} (step : σ → Option (σ ⊕ ρ)) : Option (σ ⊕ ρ) → Option ρ
  | none => none
  | some (.inl s) => loopO step s
  | some (.inr r) => some r
theorem loopO_cont {σ ρ : Type} (step : σ → Option (σ ⊕ ρ)) (s : σ) : loopO step s = contO step (step s) := by
  cases h : step s with
  | none => rw [loopO_none h, contO]
  | some y => cases y with
    | inl s' => rw [loopO_inl h, contO]
    | inr r => rw [loopO_inr h, contO]

section
variable {α : Type} [Inhabited α] {cmp : α → α → Option Int} {c : α → α → Int} (hc : ∀ x y, cmp x y = some (c x y))
variable {rec : List α → (Int × Int × Int × (Unit) × Unit) → Option ((Unit) × List α)}
 include hc
theorem st4_ok (ho : Go.Sort.SWO fun x y => decide (c x y < 0)) {k : Nat}
    (hrec : ∀ (d : Array α) (a b : Nat) (lim : Int), b - a < k → a ≤ b → b ≤ d.size → d.size < 1000000000 → Below (fun x y => decide (c x y < 0)) a b d → Sorts (fun x y => decide (c x y < 0)) a b d (rec d.toList ((a : Int), (b : Int), lim, (), ())))
    {a b pv : Nat} {d : Array α} (hk : b - a ≤ k) (hp1 : a ≤ pv) (hp2 : pv < b) (hb : b ≤ d.size) (hd : d.size < 1000000000) (hB : Below (fun x y => decide (c x y < 0)) a b d)
    (ih : ∀ (a' b' : Nat) (lim : Int) (wb wp : Bool) (d' : Array α), b' - a' < b - a → a' ≤ b' → b' ≤ d'.size → d'.size < 1000000000 → Below (fun x y => decide (c x y < 0)) a' b' d' → Sorts (fun x y => decide (c x y < 0)) a' b' d' (loopO (pdqStep cmp rec) ((a' : Int), (b' : Int), lim, wb, wp, d'.toList, ())))
    (lim : Int) (wb wp : Bool) :
    Sorts (fun x y => decide (c x y < 0)) a b d (contO (pdqStep cmp rec) (st4 cmp rec (a : Int) (b : Int) lim wb wp d.toList (pv : Int) (decide (a > 0) && !decide (c d[a - 1]! d[pv]! < 0)))) := by
  cases hw : (decide (a > 0) && !decide (c d[a - 1]! d[pv]! < 0)) with
  | true =>
    simp only [Bool.and_eq_true, decide_eq_true_eq, Bool.not_eq_true'] at hw
    obtain ⟨g1, g2, hs4, hB4, hfin⟩ := Go.Sort.round_eq ho (Go.Sort.partitionEqual_holds _) hw.1 hp1 hp2 hb hB hw.2 (d4 := (partitionEqual (fun x y => decide (c x y < 0)) d a b pv).2) (mid := (partitionEqual (fun x y => decide (c x y < 0)) d a b pv).1) rfl
    have e := gPartEq_eq hc (a := a) (b := b) (pivot := pv) (d := d) (by omega) (by omega) hb hd
    generalize partitionEqual (fun x y => decide (c x y < 0)) d a b pv = m at *
    simp only [st4, cond_true, e, Option.bind_some, contO]
    obtain ⟨d', e', r1, r2⟩ := ih m.1 b lim wb wp m.2 (by omega) g2 (by omega) (by omega) hB4
    exact ⟨d', e', hfin _ r1 r2⟩
  | false =>
    obtain ⟨g1, g2, hs4, hBa, hBr, hleft, hright⟩ := Go.Sort.round_part ho (Go.Sort.partition_holds _) hp1 hp2 hb hB (d4 := (partition (fun x y => decide (c x y < 0)) d a b pv).2.2) (mid := (partition (fun x y => decide (c x y < 0)) d a b pv).1) (ap := (partition (fun x y => decide (c x y < 0)) d a b pv).2.1) rfl
    have e := gPart_eq hc (a := a) (b := b) (pivot := pv) (d := d) (by omega) (by omega) hb hd
    generalize partition (fun x y => decide (c x y < 0)) d a b pv = m at *
    have e1 : subI .i64 (m.1 : Int) (a : Int) = ((m.1 - a : Nat) : Int) := subN (by omega) (by omega)
    have e2 : subI .i64 (b : Int) (m.1 : Int) = ((b - m.1 : Nat) : Int) := subN (by omega) (by omega)
    have e3 : addI .i64 (m.1 : Int) 1 = ((m.1 + 1 : Nat) : Int) := add1 (by omega)
    simp only [st4, cond_false, e, Option.bind_some, e1, e2, e3]
    cases hw2 : decide (((m.1 - a : Nat) : Int) < ((b - m.1 : Nat) : Int)) with
    | true =>
      obtain ⟨L, eL, l1, l2⟩ := hrec m.2.2 a m.1 lim (by omega) g1 (by omega) (by omega) hBa
      have hLs := l1.1
      obtain ⟨hBL, hfin⟩ := hleft _ l1 l2
      simp only [cond_true, eL, Option.bind_some, contO]
      obtain ⟨d', e', r1, r2⟩ := ih (m.1 + 1) b lim _ _ L (by omega) (by omega) (by omega) (by omega) hBL
      exact ⟨d', e', hfin _ r1 r2⟩
    | false =>
      obtain ⟨L, eL, l1, l2⟩ := hrec m.2.2 (m.1 + 1) b lim (by omega) (by omega) (by omega) (by omega) hBr
      have hLs := l1.1
      obtain ⟨hBL, hfin⟩ := hright _ l1 l2
      simp only [cond_false, eL, Option.bind_some, contO]
      obtain ⟨d', e', r1, r2⟩ := ih a m.1 lim _ _ L (by omega) g1 (by omega) (by omega) hBL
      exact ⟨d', e', hfin _ r1 r2⟩
theorem st1_ok (ho : Go.Sort.SWO fun x y => decide (c x y < 0)) {k : Nat}
    (hrec : ∀ (d : Array α) (a b : Nat) (lim : Int), b - a < k → a ≤ b → b ≤ d.size → d.size < 1000000000 → Below (fun x y => decide (c x y < 0)) a b d → Sorts (fun x y => decide (c x y < 0)) a b d (rec d.toList ((a : Int), (b : Int), lim, (), ())))
    {a b : Nat} {d : Array α} (h12 : 12 < b - a) (hk : b - a ≤ k) (hb : b ≤ d.size) (hd : d.size < 1000000000) (hB : Below (fun x y => decide (c x y < 0)) a b d)
    (ih : ∀ (a' b' : Nat) (lim : Int) (wb wp : Bool) (d' : Array α), b' - a' < b - a → a' ≤ b' → b' ≤ d'.size → d'.size < 1000000000 → Below (fun x y => decide (c x y < 0)) a' b' d' → Sorts (fun x y => decide (c x y < 0)) a' b' d' (loopO (pdqStep cmp rec) ((a' : Int), (b' : Int), lim, wb, wp, d'.toList, ())))
    (lim : Int) (wb wp : Bool) :
    Sorts (fun x y => decide (c x y < 0)) a b d (contO (pdqStep cmp rec) (st1 cmp rec (a : Int) (b : Int) wb wp lim d.toList)) := by
  rw [st1_eq hc h12 hb hd]
  obtain ⟨p1, p2⟩ := Go.Sort.choosePivot_holds (fun x y => decide (c x y < 0)) d a b (by omega)
  generalize choosePivot (fun x y => decide (c x y < 0)) d a b = r at *
  have P2 : PermIn a b d (if r.2 = .decreasing then reverseRange d a b else d) := by
    split
    · exact Go.Sort.reverseRange_holds d a b (by omega) hb
    · exact Go.Sort.permIn_refl d a b
  have Q : a ≤ (if r.2 = .decreasing then (b - 1) - (r.1 - a) else r.1) ∧ (if r.2 = .decreasing then (b - 1) - (r.1 - a) else r.1) < b := by split <;> omega
  refine Sorts.trans P2 ?_
  have B2 := hB.perm hb P2
  have hs2 := P2.1
  generalize (if r.2 = .decreasing then reverseRange d a b else d) = d2 at *
  generalize (if r.2 = .decreasing then (b - 1) - (r.1 - a) else r.1) = pv at *
  generalize (if r.2 = .decreasing then Hint.increasing else r.2) = hint at *
  have hb2 : b ≤ d2.size := by omega
  rw [st2_eq hc (by omega) hb2 (by omega)]
  have P3 : PermIn a b d2 (if (wb && wp && decide (hint = Hint.increasing)) = true then partialInsertionSort (fun x y => decide (c x y < 0)) d2 a b else (d2, false)).1 ∧ ((if (wb && wp && decide (hint = Hint.increasing)) = true then partialInsertionSort (fun x y => decide (c x y < 0)) d2 a b else (d2, false)).2 = true → SortedIn (fun x y => decide (c x y < 0)) a b (if (wb && wp && decide (hint = Hint.increasing)) = true then partialInsertionSort (fun x y => decide (c x y < 0)) d2 a b else (d2, false)).1) := by
    split
    · exact Go.Sort.partialInsertionSort_holds ho d2 a b (by omega) hb2 B2
    · exact ⟨Go.Sort.permIn_refl d2 a b, fun h => by cases h⟩
  generalize (if (wb && wp && decide (hint = Hint.increasing)) = true then partialInsertionSort (fun x y => decide (c x y < 0)) d2 a b else (d2, false)) = p at *
  obtain ⟨P3, S3⟩ := P3
  have hs3 := P3.1
  have B3 := B2.perm hb2 P3
  cases hp : p.2 with
  | true =>
    rw [cond_true, contO]
    exact ⟨p.1, rfl, P3, S3 hp⟩
  | false =>
    rw [cond_false, st3_eq hc (by omega) (by omega) (by omega)]
    exact Sorts.trans P3 (st4_ok hc ho hrec hk Q.1 Q.2 (by omega) (by omega) B3 ih lim wb wp)
theorem round_ok (ho : Go.Sort.SWO fun x y => decide (c x y < 0)) {k : Nat}
    (hrec : ∀ (d : Array α) (a b : Nat) (lim : Int), b - a < k → a ≤ b → b ≤ d.size → d.size < 1000000000 → Below (fun x y => decide (c x y < 0)) a b d → Sorts (fun x y => decide (c x y < 0)) a b d (rec d.toList ((a : Int), (b : Int), lim, (), ()))) (n : Nat) :
    ∀ (a b : Nat) (lim : Int) (wb wp : Bool) (d : Array α), b - a = n → b - a ≤ k → a ≤ b → b ≤ d.size → d.size < 1000000000 → Below (fun x y => decide (c x y < 0)) a b d → Sorts (fun x y => decide (c x y < 0)) a b d (loopO (pdqStep cmp rec) ((a : Int), (b : Int), lim, wb, wp, d.toList, ())) := by
  induction n using Nat.strongRecOn with
  | ind n ih =>
  intro a b lim wb wp d hn hk hab hb hd hB
  have e1 : subI .i64 (b : Int) (a : Int) = ((b - a : Nat) : Int) := subN hab (by omega)
  have ih' : ∀ (a' b' : Nat) (lim : Int) (wb wp : Bool) (d' : Array α), b' - a' < b - a → a' ≤ b' → b' ≤ d'.size → d'.size < 1000000000 → Below (fun x y => decide (c x y < 0)) a' b' d' → Sorts (fun x y => decide (c x y < 0)) a' b' d' (loopO (pdqStep cmp rec) ((a' : Int), (b' : Int), lim, wb, wp, d'.toList, ())) :=
    fun a' b' lim wb wp d' h1 h2 h3 h4 h5 => ih (b' - a') (by omega) a' b' lim wb wp d' rfl (by omega) h2 h3 h4 h5
  rw [loopO_cont]
  by_cases h12 : b - a ≤ 12
  · have c1 : decide (((b - a : Nat) : Int) ≤ 12) = true := decide_eq_true (by omega)
    simp only [pdqStep, e1, c1, cond_true, gInsert_eq hc (show a ≤ d.size by omega) hb hd, Option.bind_some, Option.map_some, contO]
    exact ⟨_, rfl, Go.Sort.insertionSort_holds ho d a b hab hb⟩
  · have c1 : decide (((b - a : Nat) : Int) ≤ 12) = false := decide_eq_false (by omega)
    cases hl : decide (lim = 0) with
    | true =>
      simp only [pdqStep, e1, c1, hl, cond_true, cond_false, gHeap_eq hc (show a < b by omega) hb hd, Option.bind_some, Option.map_some, contO]
      exact ⟨_, rfl, Go.Sort.heapSort_holds ho d a b hab hb⟩
    | false =>
      cases wb with
      | true =>
        simp only [pdqStep, e1, c1, hl, cond_false, Bool.not_true]
        exact st1_ok hc ho hrec (by omega) hk hb hd hB ih' _ _ _
      | false =>
        have P1 := Go.Sort.breakPatterns_holds d a b hab hb
        have hs1 := P1.1
        simp only [pdqStep, e1, c1, hl, cond_false, cond_true, Bool.not_false, gBreak_eq (show 12 < b - a by omega) hb hd, Option.bind_some]
        exact Sorts.trans P1 (st1_ok hc ho hrec (by omega) hk (by omega) (by omega) (hB.perm hb P1) ih' _ _ _)
theorem gPI_ok (ho : Go.Sort.SWO fun x y => decide (c x y < 0)) : ∀ (F : Nat) (d : Array α) (a b : Nat) (lim : Int), b - a < F → a ≤ b → b ≤ d.size → d.size < 1000000000 → Below (fun x y => decide (c x y < 0)) a b d → Sorts (fun x y => decide (c x y < 0)) a b d (gPI cmp F d.toList ((a : Int), (b : Int), lim, (), ()))
  | 0, d, a, b, lim, h, _, _, _, _ => absurd h (Nat.not_lt_zero _)
  | F + 1, d, a, b, lim, h, hab, hb, hd, hB => by
    show Sorts _ a b d (loopO (pdqStep cmp (gPI cmp F)) ((a : Int), (b : Int), lim, true, true, d.toList, ()))
    exact round_ok hc ho (gPI_ok ho F) (b - a) a b lim true true d rfl (by omega) hab hb hd hB
/-- the whole, on a list -/
theorem gPdq_ok (ho : Go.Sort.SWO fun x y => decide (c x y < 0)) (s : List α) (hs : s.length < 1000000000) (lim : Int) :
    ∃ s', gPdq cmp s 0 (s.length : Int) lim = some ((), s') ∧ s'.Perm s ∧ s'.Pairwise fun x y => ¬ c y x < 0 := by
  obtain ⟨d', e, p, q⟩ := gPI_ok hc ho (s.length + 1) s.toArray 0 s.length lim (by omega) (by omega) (by simp) (by simpa using hs) (Or.inl rfl)
  refine ⟨d'.toList, ?_, ?_, ?_⟩
  · exact e
  · have h3 := p.2.2
    have hsz := p.1
    simp only [List.size_toArray] at hsz
    have x1 : d'.extract 0 s.length = d' := by rw [← hsz]; exact Array.extract_size
    have x2 : s.toArray.extract 0 s.length = s.toArray := by
      rw [show s.length = s.toArray.size by simp]; exact Array.extract_size
    rw [x1, x2] at h3
    exact h3
  · have hsz := p.1
    simp only [List.size_toArray] at hsz
    rw [List.pairwise_iff_getElem]
    intro i j hi hj hij
    have h3 := q i j (Nat.zero_le _) hij (by simpa [← hsz] using hj)
    have hi' : i < d'.size := by simpa using hi
    have hj' : j < d'.size := by simpa using hj
    rw [getElem!_pos d' i hi', getElem!_pos d' j hj'] at h3
    simpa using of_decide_eq_false h3
end
end Go.Proofs.YtncjalhhkmojlaaGreat

set_option linter.unusedVariables false
namespace Go.Proofs.YtncjalhhkmojlaaGreat
open Go.TQ

section
variable {α : Type}
/-- a strict total order -/
structure STO (lt : α → α → Bool) : Prop where
  irrefl : ∀ x, lt x x = false
  trans : ∀ x y z, lt x y = true → lt y z = true → lt x z = true
  total : ∀ x y, lt x y = false → lt y x = false → x = y
variable {lt : α → α → Bool}
theorem STO.asymm (h : STO lt) {x y : α} (hxy : lt x y = true) : lt y x = false := by
  cases hc : lt y x with
  | false => rfl
  | true => have := h.trans x y x hxy hc; rw [h.irrefl] at this; cases this
theorem STO.ntrans (h : STO lt) {x y z : α} (h1 : lt x y = false) (h2 : lt y z = false) : lt x z = false := by
  cases hc : lt x z with
  | false => rfl
  | true =>
    cases hyx : lt y x with
    | false => rw [h.total x y h1 hyx, h2] at hc; cases hc
    | true => have := h.trans y x z hyx hc; rw [h2] at this; cases this
theorem STO.kit (h : STO lt) : Go.Sort.SWO lt := ⟨h.irrefl, h.trans, fun _ _ _ => h.ntrans⟩
theorem STO.own (h : STO lt) : SWO lt := ⟨fun _ _ => h.asymm, fun _ _ _ h1 h2 => h.ntrans h2 h1⟩
theorem STO.flip (h : STO lt) : STO fun a b => lt b a := ⟨h.irrefl, fun x y z h1 h2 => h.trans z y x h2 h1, fun x y h1 h2 => h.total x y h2 h1⟩
/-- sorted lists of the same elements are the same -/
theorem STO.unique (h : STO lt) : ∀ {a b : List α}, a.Pairwise (fun x y => lt x y = true) → b.Pairwise (fun x y => lt x y = true) → (∀ x, x ∈ a ↔ x ∈ b) → a = b
  | [], [], _, _, _ => rfl
  | [], y :: b, _, _, h' => by have := (h' y).2 (by simp); cases this
  | x :: a, [], _, _, h' => by have := (h' x).1 (by simp); cases this
  | x :: a, y :: b, ha, hb, h' => by
    rw [List.pairwise_cons] at ha hb
    have hxy : x = y := by
      have h1 := (h' x).1 (by simp)
      have h2 := (h' y).2 (by simp)
      rcases List.mem_cons.1 h1 with h1 | h1
      · exact h1
      · rcases List.mem_cons.1 h2 with h2 | h2
        · exact h2.symm
        · have q1 := ha.1 y h2
          have q2 := hb.1 x h1
          rw [h.asymm q1] at q2
          cases q2
    subst hxy
    congr 1
    refine h.unique ha.2 hb.2 fun z => ⟨fun hz => ?_, fun hz => ?_⟩
    · rcases List.mem_cons.1 ((h' z).1 (by simp [hz])) with e | e
      · subst e
        have := ha.1 z hz
        rw [h.irrefl] at this
        cases this
      · exact e
    · rcases List.mem_cons.1 ((h' z).2 (by simp [hz])) with e | e
      · subst e
        have := hb.1 z hz
        rw [h.irrefl] at this
        cases this
      · exact e
/-- sorting, then each once -/
theorem STO.sorts [Inhabited α] [DecidableEq α] (h : STO lt) {cmp : α → α → Option Int} {c : α → α → Int} (hc : ∀ x y, cmp x y = some (c x y)) (hlt : ∀ x y, decide (c x y < 0) = lt x y) (s : List α) (hs : s.length < 1000000000) (lim : Int) :
    ∃ t, gPdq cmp s 0 (s.length : Int) lim = some ((), t) ∧ t.length = s.length ∧ (dd t).Pairwise (fun x y => lt x y = true) ∧ ∀ x, x ∈ dd t ↔ x ∈ s := by
  have he : (fun x y => decide (c x y < 0)) = lt := funext fun x => funext fun y => hlt x y
  obtain ⟨t, h1, h2, h3⟩ := gPdq_ok hc (by rw [he]; exact h.kit) s hs lim
  refine ⟨t, h1, h2.length_eq, dd_sorted h.own h.total (h3.imp fun {a b} hab => ?_), fun x => by rw [mem_dd]; exact h2.mem_iff⟩
  rw [← hlt]
  exact decide_eq_false hab
end

/-! ### values and ballots -/
theorem sto_int : STO fun a b : Int => decide (a < b) :=
  ⟨fun x => decide_eq_false (Int.lt_irrefl x), fun x y z h1 h2 => by simp only [decide_eq_true_eq] at *; omega, fun x y h1 h2 => by simp only [decide_eq_false_iff_not] at *; omega⟩
theorem bl_trans : ∀ {x y z : List UInt8}, Op.bytesLess x y = true → Op.bytesLess y z = true → Op.bytesLess x z = true
  | [], [], _, h, _ => by simp [Op.bytesLess] at h
  | _ :: _, [], _, h, _ => by simp [Op.bytesLess] at h
  | [], _ :: _, [], _, h => by simp [Op.bytesLess] at h
  | [], _ :: _, _ :: _, _, _ => rfl
  | _ :: _, _ :: _, [], _, h => by simp [Op.bytesLess] at h
  | a :: x, b :: y, c :: z, h, h' => by
    simp only [Op.bytesLess, Bool.or_eq_true, decide_eq_true_eq, Bool.and_eq_true, beq_iff_eq] at h h' ⊢
    rcases h with h | ⟨rfl, h⟩
    · rcases h' with h' | ⟨rfl, h'⟩
      · exact .inl (UInt8.lt_trans h h')
      · exact .inl h
    · rcases h' with h' | ⟨rfl, h'⟩
      · exact .inl h'
      · exact .inr ⟨rfl, bl_trans h h'⟩
theorem sless_trans {a b c : ByteArray} (h : sless a b = true) (h' : sless b c = true) : sless a c = true := bl_trans h h'
theorem sless_total {a b : ByteArray} (h : a ≠ b) : sless a b = true ∨ sless b a = true :=
  bl_total fun e => h (by
    rw [Lib.toList_data, Lib.toList_data] at e
    cases a; cases b
    rename_i x y
    cases x; cases y
    simp_all)
theorem sto_V : STO lessV := by
  refine ⟨fun x => by rw [lessV, if_pos rfl, sless_irrefl], fun x y z h1 h2 => ?_, fun x y h1 h2 => ?_⟩
  · unfold lessV at *
    by_cases e1 : x.size = y.size
    · rw [if_pos e1] at h1
      by_cases e2 : y.size = z.size
      · rw [if_pos e2] at h2
        rw [if_pos (e1.trans e2)]
        exact sless_trans h1 h2
      · rw [if_neg e2] at h2
        rw [if_neg (by omega), e1]
        exact h2
    · rw [if_neg e1, decide_eq_true_eq] at h1
      by_cases e2 : y.size = z.size
      · rw [if_neg (by omega), ← e2]
        exact decide_eq_true h1
      · rw [if_neg e2, decide_eq_true_eq] at h2
        rw [if_neg (by omega)]
        exact decide_eq_true (by omega)
  · unfold lessV at *
    by_cases e1 : x.size = y.size
    · rw [if_pos e1] at h1
      rw [if_pos e1.symm] at h2
      refine Classical.byContradiction fun hne => ?_
      rcases sless_total hne with h | h
      · rw [h] at h1; cases h1
      · rw [h] at h2; cases h2
    · rw [if_neg e1, decide_eq_false_iff_not] at h1
      rw [if_neg (fun e => e1 e.symm), decide_eq_false_iff_not] at h2
      omega
theorem sto_B : STO lessB := by
  refine ⟨fun x => by rw [lessB, if_pos rfl, sto_V.irrefl], fun x y z h1 h2 => ?_, fun x y h1 h2 => ?_⟩
  · unfold lessB at *
    by_cases e1 : x.Counter = y.Counter
    · rw [if_pos e1] at h1
      by_cases e2 : y.Counter = z.Counter
      · rw [if_pos e2] at h2
        rw [if_pos (e1.trans e2)]
        exact sto_V.trans _ _ _ h1 h2
      · rw [if_neg e2] at h2
        rw [if_neg (by omega), e1]
        exact h2
    · rw [if_neg e1, decide_eq_true_eq] at h1
      by_cases e2 : y.Counter = z.Counter
      · rw [if_neg (by omega), ← e2]
        exact decide_eq_true h1
      · rw [if_neg e2, decide_eq_true_eq] at h2
        rw [if_neg (by omega)]
        exact decide_eq_true (by omega)
  · unfold lessB at *
    by_cases e1 : x.Counter = y.Counter
    · rw [if_pos e1] at h1
      rw [if_pos e1.symm] at h2
      have := sto_V.total _ _ h1 h2
      cases x; cases y
      simp_all
    · rw [if_neg e1, decide_eq_false_iff_not] at h1
      rw [if_neg (fun e => e1 e.symm), decide_eq_false_iff_not] at h2
      omega
end Go.Proofs.YtncjalhhkmojlaaGreat

set_option linter.unusedVariables false
namespace Go.Proofs.YtncjalhhkmojlaaGreat
open Go.TQ

/-! ### slices.DeleteFunc -/
section
variable {α : Type}
noncomputable def idxStep (p : α → Option Bool) (a0 : List α) (v1 : Int × Unit) : Option ((Int × Unit) ⊕ Int) :=
  bif (decide (v1.1 < ((List.length a0 : Nat) : Int))) then
    Option.bind (idx a0 v1.1) fun x2 => Option.bind (p x2) fun r3 => bif r3 then Option.map Sum.inr (some v1.1) else some (Sum.inl ((addI .i64 v1.1 (1 : Int)), ()))
  else Option.map Sum.inr (some (-1 : Int))
noncomputable def gIndex (p : α → Option Bool) (a0 : List α) : Option Int := loopO (idxStep p a0) ((0 : Int), ())
noncomputable def delStep (p : α → Option Bool) (z : α) (v2 : Int × Int × (List α) × Unit) : Option ((Int × Int × (List α) × Unit) ⊕ List α) :=
  bif (decide (v2.2.1 < ((List.length v2.2.2.1 : Nat) : Int))) then
    letJ (fun (v3 : Int × (List α) × Unit) => some (Sum.inl (v3.1, (addI .i64 v2.2.1 (1 : Int)), v3.2.1, ()))) fun j4 =>
    Option.bind (idx v2.2.2.1 v2.2.1) fun x5 => Option.bind (v2.2.2.1[(Int.toNat v2.2.1)]?) fun x6 => Option.bind (p x6) fun r7 =>
    bif (!r7) then
      Option.bind (idx v2.2.2.1 v2.1) fun x8 => Option.bind (v2.2.2.1[(Int.toNat v2.1)]?) fun x9 => j4 ((addI .i64 v2.1 (1 : Int)), (v2.2.2.1.set (Int.toNat v2.1) x6), ())
    else j4 (v2.1, v2.2.2.1, ())
  else
    Option.map Sum.inr (bif slcOk v2.1 ((List.length v2.2.2.1) : Int) (List.length v2.2.2.1) then
      bif slcOk (0 : Int) v2.1 (List.length (v2.2.2.1.take (Int.toNat v2.1) ++ List.replicate (Int.toNat ((List.length v2.2.2.1) : Int) - Int.toNat v2.1) z ++ v2.2.2.1.drop ((Int.toNat v2.1) + (Int.toNat ((List.length v2.2.2.1) : Int) - Int.toNat v2.1)))) then
        some ((v2.2.2.1.take (Int.toNat v2.1) ++ List.replicate (Int.toNat ((List.length v2.2.2.1) : Int) - Int.toNat v2.1) z ++ v2.2.2.1.drop ((Int.toNat v2.1) + (Int.toNat ((List.length v2.2.2.1) : Int) - Int.toNat v2.1))).take (Int.toNat v2.1 - Int.toNat (0 : Int)))
      else none
    else none)
noncomputable def gDelete (p : α → Option Bool) (z : α) (s : List α) : Option (List α) :=
  Option.bind (gIndex p s) fun r1 => bif (decide (r1 = (-1 : Int))) then some s else loopO (delStep p z) (r1, (addI .i64 r1 (1 : Int)), s, ())
theorem filter_take {q : α → Bool} {s : List α} {j : Nat} {x : α} (h : s[j]? = some x) : (s.take (j + 1)).filter q = (s.take j).filter q ++ if q x then [x] else [] := by
  obtain ⟨hl, hx⟩ := List.getElem?_eq_some_iff.1 h
  rw [List.take_succ_eq_append_getElem hl, List.filter_append, hx]
  congr 1
  cases hq : q x <;> simp [hq]
variable {p : α → Option Bool} {q : α → Bool} (hp : ∀ x, p x = some (q x)) {z : α}
 include hp
theorem idx_loop {s : List α} (hs : s.length < 1000000000) : ∀ (k i : Nat), i + k = s.length → (s.take i).filter (fun x => !q x) = s.take i →
    (∃ m : Nat, ∃ x, loopO (idxStep p s) ((i : Int), ()) = some (m : Int) ∧ (s.take m).filter (fun x => !q x) = s.take m ∧ s[m]? = some x ∧ q x = true) ∨ (loopO (idxStep p s) ((i : Int), ()) = some (-1) ∧ s.filter (fun x => !q x) = s)
  | 0, i, hi, hf => by
    have hd : decide ((i : Int) < ((s.length : Nat) : Int)) = false := decide_eq_false (by omega)
    refine .inr ⟨loopO_inr ?_, ?_⟩
    · simp only [idxStep, hd, cond_false, Option.map_some]
    · rwa [show i = s.length by omega, List.take_length] at hf
  | k + 1, i, hi, hf => by
    have hd : decide ((i : Int) < ((s.length : Nat) : Int)) = true := decide_eq_true (by omega)
    have hw : addI .i64 (i : Int) 1 = ((i + 1 : Nat) : Int) := add64 (by omega) (by omega)
    obtain ⟨x, hx⟩ : ∃ x, s[i]? = some x := ⟨_, List.getElem?_eq_getElem (by omega)⟩
    cases hq : q x with
    | true =>
      refine .inl ⟨i, x, loopO_inr ?_, hf, hx, hq⟩
      simp only [idxStep, hd, cond_true, idx_nat, hx, Option.bind_some, hp, hq, Option.map_some]
    | false =>
      have hstep : loopO (idxStep p s) ((i : Int), ()) = loopO (idxStep p s) (((i + 1 : Nat) : Int), ()) := loopO_inl (by simp only [idxStep, hd, cond_true, idx_nat, hx, Option.bind_some, hp, hq, cond_false, hw])
      rw [hstep]
      refine idx_loop hs k (i + 1) (by omega) ?_
      rw [filter_take hx, hf, hq]
      obtain ⟨hl, hx'⟩ := List.getElem?_eq_some_iff.1 hx
      rw [List.take_succ_eq_append_getElem hl, hx']
      rfl
theorem del_loop {s : List α} (hs : s.length < 1000000000) : ∀ (r i j : Nat) (d : List α), j + r = s.length → i < j → d.length = s.length → d.take i = (s.take j).filter (fun x => !q x) → (∀ m, j ≤ m → d[m]? = s[m]?) →
    loopO (delStep p z) ((i : Int), (j : Int), d, ()) = some (s.filter fun x => !q x)
  | 0, i, j, d, hr, hij, hd, ht, hm => by
    have e2 : decide ((j : Int) < ((d.length : Nat) : Int)) = false := decide_eq_false (by omega)
    refine loopO_inr ?_
    have e3 : ∀ n, slcOk (i : Int) (d.length : Int) n = decide (d.length ≤ n) := by
      intro n
      simp only [slcOk]
      have h1 : decide ((0 : Int) ≤ (i : Int)) = true := decide_eq_true (by omega)
      have h2 : decide ((i : Int) ≤ (d.length : Int)) = true := decide_eq_true (by omega)
      rw [h1, h2, Bool.and_self, Bool.true_and, decide_eq_decide]
      omega
    have e4 : (d.take i ++ List.replicate (d.length - i) z ++ d.drop (i + (d.length - i))).length = d.length := by simp; omega
    have e5 : slcOk (0 : Int) (i : Int) d.length = true := by
      simp only [slcOk, Bool.and_eq_true, decide_eq_true_eq]
      omega
    have e6 : (d.take i ++ List.replicate (d.length - i) z ++ d.drop (i + (d.length - i))).take (i - 0) = s.filter fun x => !q x := by
      rw [Nat.sub_zero, List.append_assoc, List.take_append_of_le_length (by simp; omega), List.take_take, Nat.min_self, ht, show j = s.length by omega, List.take_length]
    simp only [delStep, e2, cond_false, Int.toNat_natCast, e3, Nat.le_refl, decide_true, cond_true, e4, e5, Int.toNat_zero, e6, Option.map_some]
  | r + 1, i, j, d, hr, hij, hd, ht, hm => by
    have e2 : decide ((j : Int) < ((d.length : Nat) : Int)) = true := decide_eq_true (by omega)
    have ej : addI .i64 (j : Int) 1 = ((j + 1 : Nat) : Int) := add64 (by omega) (by omega)
    have ei : addI .i64 (i : Int) 1 = ((i + 1 : Nat) : Int) := add64 (by omega) (by omega)
    obtain ⟨x, hx⟩ : ∃ x, s[j]? = some x := ⟨_, List.getElem?_eq_getElem (by omega)⟩
    obtain ⟨y, hy⟩ : ∃ y, d[i]? = some y := ⟨_, List.getElem?_eq_getElem (by omega)⟩
    have hdx : d[j]? = some x := by rw [hm j (Nat.le_refl _), hx]
    have hstep := filter_take (q := fun x => !q x) hx
    cases hq : q x with
    | true =>
      rw [hq] at hstep
      refine (loopO_inl (s' := ((i : Int), ((j + 1 : Nat) : Int), d, ())) ?_).trans (del_loop hs r i (j + 1) d (by omega) (by omega) hd (by rw [hstep, ht]; simp) fun m h => hm m (by omega))
      simp only [delStep, e2, cond_true, letJ_eq, idx_nat, Int.toNat_natCast, hdx, Option.bind_some, hp, hq, Bool.not_true, cond_false, ej]
    | false =>
      rw [hq] at hstep
      refine (loopO_inl (s' := (((i + 1 : Nat) : Int), ((j + 1 : Nat) : Int), d.set i x, ())) ?_).trans (del_loop hs r (i + 1) (j + 1) (d.set i x) (by omega) (by omega) (by rw [List.length_set]; exact hd) ?_ fun m h => ?_)
      · simp only [delStep, e2, cond_true, letJ_eq, idx_nat, Int.toNat_natCast, hdx, hy, Option.bind_some, hp, hq, Bool.not_false, ej, ei]
      · rw [hstep, ← ht, List.take_succ_eq_append_getElem (by rw [List.length_set]; omega), List.take_set_of_le (Nat.le_refl _)]
        simp
      · rw [List.getElem?_set, if_neg (by omega)]
        exact hm m (by omega)
theorem gDelete_ok (s : List α) (hs : s.length < 1000000000) : gDelete p z s = some (s.filter fun x => !q x) := by
  rw [gDelete, gIndex]
  rcases idx_loop hp hs s.length 0 (by omega) (by simp) with ⟨m, x, h1, h2, h3, h4⟩ | ⟨h1, h2⟩
  · have hm : m < s.length := (List.getElem?_eq_some_iff.1 h3).1
    have h1' : loopO (idxStep p s) ((0 : Int), ()) = some (m : Int) := h1
    have e : decide ((m : Int) = -1) = false := decide_eq_false (by omega)
    rw [h1', Option.bind_some, e, cond_false, show addI .i64 (m : Int) 1 = ((m + 1 : Nat) : Int) from add64 (by omega) (by omega)]
    refine del_loop hp hs (s.length - (m + 1)) m (m + 1) s (by omega) (by omega) rfl ?_ fun _ _ => rfl
    rw [filter_take h3, h2, h4]
    simp
  · have h1' : loopO (idxStep p s) ((0 : Int), ()) = some (-1) := h1
    rw [h1', Option.bind_some, h2]
    rfl
end

/-! ### collecting -/
theorem collect_ok {α β ρ : Type} (l : List α) (hl : l.length ≤ 1000000) (f : α → List β) (hf : ∀ x ∈ l, (f x).length ≤ 3) {step : Int × List β × Unit → Option ((Int × List β × Unit) ⊕ ρ)} {fin : List β → Option ρ}
    (h1 : ∀ (i : Nat) (x : α) (acc : List β), x ∈ l → decide ((i : Int) < ((l.length : Nat) : Int)) = true → idx l (i : Int) = some x → addI .i64 (i : Int) 1 = ((i + 1 : Nat) : Int) → (∀ bytes n : Nat, bytes ≤ 40 → n ≤ 3 → acc.length ≤ 3000000 → lenOk bytes (acc.length + n) = true) → acc.length ≤ 3000000 → step ((i : Int), acc, ()) = some (.inl (((i + 1 : Nat) : Int), acc ++ f x, ())))
    (h2 : ∀ acc, decide (((l.length : Nat) : Int) < ((l.length : Nat) : Int)) = false → step (((l.length : Nat) : Int), acc, ()) = Option.map Sum.inr (fin acc)) : loopO step ((0 : Int), ([] : List β), ()) = fin (l.flatMap f) := by
  suffices key : ∀ (k i : Nat) (acc : List β), i + k = l.length → acc = (l.take i).flatMap f → acc.length ≤ 3 * i → loopO step ((i : Int), acc, ()) = fin (l.flatMap f) from key l.length 0 [] (by omega) (by simp) (by simp)
  intro k
  induction k with
  | zero =>
    intro i acc hi ha hal
    obtain rfl : i = l.length := by omega
    rw [List.take_length] at ha
    rw [loopO_eq, h2 acc (decide_eq_false (Int.lt_irrefl _)), ha]
    cases fin (l.flatMap f) <;> rfl
  | succ k ih =>
    intro i acc hi ha hal
    have hlt : i < l.length := by omega
    have hx : l[i]? = some l[i] := List.getElem?_eq_getElem hlt
    have := hf _ (List.getElem_mem hlt)
    refine (loopO_inl (h1 i l[i] acc (List.getElem_mem hlt) (decide_eq_true (by omega)) (by rw [idx_nat]; exact hx) (add64 (by omega) (by omega)) (fun bytes n hb hn ha => ?_) (by omega))).trans (ih (i + 1) _ (by omega) ?_ (by rw [List.length_append]; omega))
    · simp only [lenOk, Bool.and_eq_true, decide_eq_true_eq]
      exact ⟨Nat.le_trans (Nat.mul_le_mul (show acc.length + n ≤ 3000003 by omega) hb) (show 3000003 * 40 ≤ 140737488355328 by decide), Nat.le_trans (show acc.length + n ≤ 3000003 by omega) (by simp [maxLen])⟩
    · rw [List.take_succ_eq_append_getElem hlt, List.flatMap_append, ha]
      simp
/-- all rounds go on -/
theorem all_loop {τ ρ : Type} (n : Nat) (mk : Int → τ) {step : τ → Option (τ ⊕ ρ)} {fin : Option ρ} (h1 : ∀ i : Nat, i < n → step (mk (i : Int)) = some (.inl (mk ((i + 1 : Nat) : Int)))) (h2 : step (mk (n : Int)) = Option.map Sum.inr fin) : loopO step (mk 0) = fin := by
  suffices key : ∀ (k i : Nat), i + k = n → loopO step (mk (i : Int)) = fin from key n 0 (by omega)
  intro k
  induction k with
  | zero =>
    intro i hi
    obtain rfl : i = n := by omega
    rw [loopO_eq, h2]
    cases fin <;> rfl
  | succ k ih => exact fun i hi => (loopO_inl (h1 i (by omega))).trans (ih (i + 1) (by omega))

/-! ### sorting, each once -/
instance : Inhabited TBallot := ⟨⟨0, ByteArray.mk #[]⟩⟩
instance : DecidableEq TBallot := fun a b => decidable_of_iff (a.Counter = b.Counter ∧ a.Value = b.Value) (by cases a; cases b; simp)
theorem uniqueB (s : List TBallot) (hs : s.length < 1000000000) : ∃ b, F_envelopes_unique_api_Ballot_c86 s = some b ∧ b.Pairwise (fun x y => lessB y x = true) ∧ b.length ≤ s.length ∧ ∀ x, x ∈ b ↔ x ∈ s := by
  obtain ⟨t, h1, h2, h3, h4⟩ := sto_B.flip.sorts (cmp := F_envelopes_Ballots_1) (c := fun x y => cmpB y x) (fun x y => by simp [F_envelopes_Ballots_1]) (fun x y => cmpB_neg y x) s hs ((Go.Sort.bitsLen s.length : Nat) : Int)
  have hc := compact_ok (eq := fun x y : TBallot => eq2 false x.Counter y.Counter x.Value y.Value) (ne := fun x y => eq2 true x.Counter y.Counter x.Value y.Value) (z := TBallot.mk 0 (ByteArray.mk #[])) (fun x y => by
    rw [eq2_false, Bool.eq_iff_iff]
    cases x; cases y
    simp) (fun x y => by
    rw [eq2_true]
    congr 1
    rw [Bool.eq_iff_iff]
    cases x; cases y
    simp) t (by omega)
  refine ⟨dd t, ?_, h3, by have := dd_len t; omega, h4⟩
  have h1' : F_slices_pdqsortCmpFunc_api_Ballot_c86 s 0 (s.length : Int) ((Go.Sort.bitsLen s.length : Nat) : Int) = some ((), t) := h1
  have hc' : F_slices_Compact_api_Ballot_api_Ballot t = some (dd t) := hc
  simp only [F_envelopes_unique_api_Ballot_c86, F_slices_SortFunc_api_Ballot_api_Ballot_c86, len_eq (show s.length < 4294967296 by omega), h1', hc', Option.bind_some]
theorem uniqueV (s : List ByteArray) (hs : s.length < 1000000000) : ∃ b, F_envelopes_unique_string_c89 s = some b ∧ b.Pairwise (fun x y => lessV x y = true) ∧ b.length ≤ s.length ∧ ∀ x, x ∈ b ↔ x ∈ s := by
  obtain ⟨t, h1, h2, h3, h4⟩ := sto_V.sorts (cmp := F_ballots_CompareValues) (c := cmpV) (fun x y => F_ballots_CompareValues_eq x y) cmpV_neg s hs ((Go.Sort.bitsLen s.length : Nat) : Int)
  have hc := compact_ok (eq := fun x y : ByteArray => decide (x = y)) (ne := fun x y => !decide (x = y)) (z := ByteArray.mk #[]) (fun _ _ => rfl) (fun _ _ => rfl) t (by omega)
  refine ⟨dd t, ?_, h3, by have := dd_len t; omega, h4⟩
  have h1' : F_slices_pdqsortCmpFunc_string_c89 s 0 (s.length : Int) ((Go.Sort.bitsLen s.length : Nat) : Int) = some ((), t) := h1
  have hc' : F_slices_Compact_string_string t = some (dd t) := hc
  simp only [F_envelopes_unique_string_c89, F_slices_SortFunc_string_string_c89, len_eq (show s.length < 4294967296 by omega), h1', hc', Option.bind_some]
theorem cmpI_dec (a b : Int) : decide (cmpI a b < 0) = decide (a < b) := by rw [decide_eq_decide]; exact cmpI_neg a b
theorem uniqueN (s : List Int) (hs : s.length < 1000000000) : ∃ b, F_envelopes_unique_int_c93 s = some b ∧ b.Pairwise (· < ·) ∧ b.length ≤ s.length ∧ ∀ x, x ∈ b ↔ x ∈ s := by
  obtain ⟨t, h1, h2, h3, h4⟩ := sto_int.sorts (cmp := F_cmp_Compare_int) (c := cmpI) (fun x y => F_cmp_Compare_int_eq x y) cmpI_dec s hs ((Go.Sort.bitsLen s.length : Nat) : Int)
  have hc := compact_ok (eq := fun x y : Int => decide (x = y)) (ne := fun x y => !decide (x = y)) (z := 0) (fun _ _ => rfl) (fun _ _ => rfl) t (by omega)
  refine ⟨dd t, ?_, h3.imp fun h => of_decide_eq_true h, by have := dd_len t; omega, h4⟩
  have h1' : F_slices_pdqsortCmpFunc_int_c93 s 0 (s.length : Int) ((Go.Sort.bitsLen s.length : Nat) : Int) = some ((), t) := h1
  simp only [F_envelopes_unique_int_c93, F_slices_SortFunc_int_int_c93, len_eq (show s.length < 4294967296 by omega), h1', Option.bind_some, compI_eq, hc]

/-! ### the lists of envelopes -/
noncomputable def said (e : TEnvelope) : List TBallot := if isValid e then (if e.Kind = 1 then [e.Ballot, e.Prepared, e.Prime] else if e.Kind = 2 then [e.Prepared, at_ e 1000000] else [at_ e 1000000]) else []
theorem said_len (e : TEnvelope) : (said e).length ≤ 3 := by
  unfold said
  split
  · split
    · simp
    · split <;> simp
  · simp
theorem flat_len {α β : Type} (f : α → List β) (hf : ∀ x, (f x).length ≤ 3) : ∀ l : List α, (l.flatMap f).length ≤ 3 * l.length
  | [] => by simp
  | x :: l => by
    have := flat_len f hf l
    have := hf x
    rw [List.flatMap_cons, List.length_append, List.length_cons]
    omega
section
variable {l : List TEnvelope} (hl : ∀ e ∈ l, SmT e.Trust) (hlen : l.length ≤ 1000)
 include hl hlen
theorem Ballots_eq : ∃ b, F_envelopes_Ballots l = some b ∧ b.Pairwise (fun x y => lessB y x = true) ∧ b.length ≤ 3000 ∧ ∀ x, x ∈ b ↔ ∃ e ∈ l, x ∈ said e ∧ zeroB x = false := by
  have hd := gDelete_ok (p := F_ballots_Zero) (q := zeroB) F_ballots_Zero_eq (z := TBallot.mk 0 (ByteArray.mk #[])) (l.flatMap said) (by have := flat_len said said_len l; omega)
  obtain ⟨b, h1, h2, hbl, h3⟩ := uniqueB ((l.flatMap said).filter fun x => !zeroB x) (by have := flat_len said said_len l; have := List.length_filter_le (fun x => !zeroB x) (l.flatMap said); omega)
  refine ⟨b, ?_, h2, by have := flat_len said said_len l; have := List.length_filter_le (fun x => !zeroB x) (l.flatMap said); omega, fun x => ?_⟩
  · unfold F_envelopes_Ballots
    refine (collect_ok l (by omega) said (fun e _ => said_len e) (fin := fun acc => Option.bind (F_slices_DeleteFunc_api_Ballot_api_Ballot_c85 acc) fun r8 => Option.bind (F_envelopes_unique_api_Ballot_c86 r8) fun r9 => some r9) (fun i e acc he hd hx hw hok hal => ?_) (fun acc hd => ?_)).trans ?_
    · have o1 := hok 24 3 (by omega) (by omega) hal
      have o2 := hok 24 2 (by omega) (by omega) hal
      have o3 := hok 24 1 (by omega) (by omega) hal
      simp only [hd, hx, hw, cond_true, letJ_eq, Option.bind_some, TTrust.eta, TEnvelope.eta, Valid_eq (hl e he), F_envelopes_at_eq, List.length_cons, List.length_nil, o1, o2, o3, Nat.zero_add, Nat.reduceAdd]
      unfold said at_
      cases isValid e <;> by_cases k1 : e.Kind = 1 <;> by_cases k2 : e.Kind = 2 <;> simp [k1, k2]
    · simp only [hd, cond_false]
    · have hd' : F_slices_DeleteFunc_api_Ballot_api_Ballot_c85 (l.flatMap said) = _ := hd
      simp only [hd', h1, Option.bind_some]
  · rw [h3, List.mem_filter, List.mem_flatMap]
    constructor
    · rintro ⟨⟨e, he, hx⟩, hz⟩
      exact ⟨e, he, hx, by simpa using hz⟩
    · rintro ⟨e, he, hx, hz⟩
      exact ⟨⟨e, he, hx⟩, by simpa using hz⟩
theorem Values_eq : ∃ b, F_envelopes_Values l = some b ∧ b.Pairwise (fun x y => lessV x y = true) ∧ b.length ≤ 3000 ∧ ∀ x, x ∈ b ↔ ∃ e ∈ l, isValid e = true ∧ x = e.Ballot.Value := by
  have hf : ∀ e : TEnvelope, (if isValid e then [e.Ballot.Value] else []).length ≤ 3 := fun e => by split <;> simp
  obtain ⟨b, h1, h2, hbl, h3⟩ := uniqueV (l.flatMap fun e => if isValid e then [e.Ballot.Value] else []) (by have := flat_len _ hf l; omega)
  refine ⟨b, ?_, h2, by have := flat_len _ hf l; omega, fun x => ?_⟩
  · unfold F_envelopes_Values
    refine (collect_ok l (by omega) (fun e => if isValid e then [e.Ballot.Value] else []) (fun e _ => hf e) (fin := fun acc => Option.bind (F_envelopes_unique_string_c89 acc) fun r6 => some r6) (fun i e acc he hd hx hw hok hal => ?_) (fun acc hd => ?_)).trans ?_
    · have o3 := hok 16 1 (by omega) (by omega) hal
      simp only [hd, hx, hw, cond_true, letJ_eq, Option.bind_some, TTrust.eta, TEnvelope.eta, Valid_eq (hl e he), List.length_cons, List.length_nil, o3, Nat.zero_add]
      cases isValid e <;> simp
    · simp only [hd, cond_false]
    · simp only [h1, Option.bind_some]
  · rw [h3, List.mem_flatMap]
    constructor
    · rintro ⟨e, he, hx⟩
      split at hx
      · rename_i hv
        exact ⟨e, he, hv, by simpa using hx⟩
      · cases hx
    · rintro ⟨e, he, hv, hx⟩
      exact ⟨e, he, by rw [if_pos hv]; simpa using hx⟩
theorem BoundsL_eq (v : ByteArray) : ∃ b, F_envelopes_Bounds l v = some b ∧ b.Pairwise (· < ·) ∧ b.length ≤ 3000 ∧ ∀ x, x ∈ b ↔ x ∈ ends v l := by
  have hf : ∀ e : TEnvelope, (if hasBounds v e then [e.Low, e.High] else []).length ≤ 3 := fun e => by split <;> simp
  obtain ⟨b, h1, h2, hbl, h3⟩ := uniqueN (ends v l) (by have := flat_len _ hf l; unfold ends; omega)
  refine ⟨b, ?_, h2, by have := flat_len _ hf l; unfold ends at hbl; omega, h3⟩
  unfold F_envelopes_Bounds
  refine (collect_ok l (by omega) (fun e => if hasBounds v e then [e.Low, e.High] else []) (fun e _ => hf e) (fin := fun acc => Option.bind (F_envelopes_unique_int_c93 acc) fun r6 => some r6) (fun i e acc he hd hx hw hok hal => ?_) (fun acc hd => ?_)).trans ?_
  · have o3 := hok 8 2 (by omega) (by omega) hal
    simp only [hd, hx, hw, cond_true, letJ_eq, Option.bind_some, TTrust.eta, TEnvelope.eta, Valid_eq (hl e he), List.length_cons, List.length_nil, o3, Nat.zero_add, Nat.reduceAdd]
    unfold hasBounds
    cases isValid e <;> cases decide (e.Ballot.Value = v) <;> cases decide (e.Low = 0) <;> simp
  · simp only [hd, cond_false]
  · exact (congrArg (fun o => Option.bind o fun r6 => some r6) h1)
end
end Go.Proofs.YtncjalhhkmojlaaGreat

set_option linter.unusedVariables false
namespace Go.Proofs.YtncjalhhkmojlaaGreat
open Go.TQ

noncomputable def ballotsN (l : List TEnvelope) : List TBallot := (F_envelopes_Ballots l).getD []
section
variable {l : List TEnvelope} (hl : ∀ e ∈ l, SmT e.Trust) (hlen : l.length ≤ 1000)
 include hl hlen
theorem ballotsN_ok : F_envelopes_Ballots l = some (ballotsN l) ∧ (ballotsN l).Pairwise (fun x y => lessB y x = true) ∧ (ballotsN l).length ≤ 3000 ∧ ∀ x, x ∈ ballotsN l ↔ ∃ e ∈ l, x ∈ said e ∧ zeroB x = false := by
  obtain ⟨b, h1, h2, h3, h4⟩ := Ballots_eq hl hlen
  have : ballotsN l = b := by rw [ballotsN, h1]; rfl
  rw [this]
  exact ⟨h1, h2, h3, h4⟩
end
section
variable {node : Nat} (hn : node < 10) {t : TTrust} (ht : SmT t) {l : List TEnvelope} (hl : SmL l)
 include hn ht hl
end
theorem rAcceptsP_eq {e : TEnvelope} (h : SmT e.Trust) (b : TBallot) : F_ref24_AcceptsPrepare e b = some (isValid e && acceptsP e b) := by
  simp only [F_ref24_AcceptsPrepare, TTrust.eta, TEnvelope.eta, rValid_eq h, Option.bind_some, F_ref23_Zero_eq, F_ref23_Compatible_eq, F_ref23_Prepares_eq]
  cases hv : isValid e with
  | false => simp
  | true =>
    cases hz : zeroB b with
    | true => simp [acceptsP, hz]
    | false =>
      by_cases k1 : e.Kind = 1
      · simp [acceptsP, hz, k1]
      · by_cases k3 : e.Kind = 3
        · simp [acceptsP, hz, k3]
        · by_cases k2 : e.Kind = 2
          · have hp : zeroB e.Prime = true := by
              unfold isValid validE at hv
              rw [Bool.and_eq_true, if_neg k1, if_pos k2] at hv
              simp only [commOk, Bool.and_eq_true] at hv
              exact hv.2.1.1.2
            simp [acceptsP, hz, k2, preparesB, covers, hp]
          · unfold isValid validE at hv
            rw [if_neg k1, if_neg k2, if_neg k3] at hv
            simp at hv
end Go.Proofs.YtncjalhhkmojlaaGreat

set_option linter.unusedVariables false
namespace Go.Proofs.YtncjalhhkmojlaaGreat
open Go.TQ

noncomputable def valuesN (l : List TEnvelope) : List ByteArray := (F_envelopes_Values l).getD []
noncomputable def boundsN (l : List TEnvelope) (v : ByteArray) : List Int := (F_envelopes_Bounds l v).getD []
section
variable {l : List TEnvelope} (hl : ∀ e ∈ l, SmT e.Trust) (hlen : l.length ≤ 1000)
 include hl hlen
theorem valuesN_ok : F_envelopes_Values l = some (valuesN l) ∧ (valuesN l).Pairwise (fun x y => lessV x y = true) ∧ (valuesN l).length ≤ 3000 ∧ ∀ x, x ∈ valuesN l ↔ ∃ e ∈ l, isValid e = true ∧ x = e.Ballot.Value := by
  obtain ⟨b, h1, h2, h3, h4⟩ := Values_eq hl hlen
  have : valuesN l = b := by rw [valuesN, h1]; rfl
  rw [this]
  exact ⟨h1, h2, h3, h4⟩
theorem boundsN_ok (v : ByteArray) : F_envelopes_Bounds l v = some (boundsN l v) ∧ (boundsN l v).Pairwise (· < ·) ∧ (boundsN l v).length ≤ 3000 ∧ ∀ x, x ∈ boundsN l v ↔ x ∈ ends v l := by
  obtain ⟨b, h1, h2, h3, h4⟩ := BoundsL_eq hl hlen v
  have : boundsN l v = b := by rw [boundsN, h1]; rfl
  rw [this]
  exact ⟨h1, h2, h3, h4⟩
end
section
variable {node : Nat} (hn : node < 10) {t : TTrust} (ht : SmT t) {l : List TEnvelope} (hl : SmL l)
 include hn ht hl
end
end Go.Proofs.YtncjalhhkmojlaaGreat

set_option linter.unusedVariables false
namespace Go.Proofs.YtncjalhhkmojlaaGreat
open Go.TQ

theorem low_pos {e : TEnvelope} (hv : isValid e = true) : e.Kind = 1 ∧ 0 ≤ e.Low ∧ e.Low ≤ e.High ∨ e.Kind ≠ 1 ∧ 1 ≤ e.Low ∧ e.Low ≤ e.High := by
  unfold isValid validE at hv
  rw [Bool.and_eq_true] at hv
  have h := hv.2
  by_cases k1 : e.Kind = 1
  · rw [if_pos k1] at h
    simp only [prepOk, Bool.and_eq_true, decide_eq_true_eq] at h
    omega
  · rw [if_neg k1] at h
    by_cases k2 : e.Kind = 2
    · rw [if_pos k2] at h
      simp only [commOk, ranged, Bool.and_eq_true, decide_eq_true_eq] at h
      omega
    · rw [if_neg k2] at h
      by_cases k3 : e.Kind = 3
      · rw [if_pos k3] at h
        simp only [extOk, ranged, Bool.and_eq_true, decide_eq_true_eq] at h
        omega
      · rw [if_neg k3] at h; cases h
end Go.Proofs.YtncjalhhkmojlaaGreat

set_option linter.unusedVariables false
namespace Go.Proofs.YtncjalhhkmojlaaGreat
open Go.TQ

/-! ### into a sorted list -/
section
variable {α : Type} [DecidableEq α] {lt : α → α → Bool}
def insS (lt : α → α → Bool) (x : α) : List α → List α
  | [] => [x]
  | y :: l => if lt y x then y :: insS lt x l else if y = x then y :: l else x :: y :: l
theorem mem_insS (x : α) : ∀ (l : List α) (z : α), z ∈ insS lt x l ↔ z = x ∨ z ∈ l
  | [], z => by simp [insS]
  | y :: l, z => by
    rw [insS]
    split
    · rw [List.mem_cons, mem_insS x l z, List.mem_cons]
      constructor
      · rintro (h | h | h)
        · exact .inr (.inl h)
        · exact .inl h
        · exact .inr (.inr h)
      · rintro (h | h | h)
        · exact .inr (.inl h)
        · exact .inl h
        · exact .inr (.inr h)
    · split
      · rename_i h
        rw [List.mem_cons]
        constructor
        · exact .inr
        · rintro (h1 | h1)
          · exact .inl (h1.trans h.symm)
          · exact h1
      · rw [List.mem_cons]
theorem STO.insS (h : STO lt) (x : α) : ∀ {l : List α}, l.Pairwise (fun a b => lt a b = true) → (Go.Proofs.YtncjalhhkmojlaaGreat.insS lt x l).Pairwise (fun a b => lt a b = true)
  | [], _ => by rw [Go.Proofs.YtncjalhhkmojlaaGreat.insS]; exact List.pairwise_singleton _ _
  | y :: l, hp => by
    rw [List.pairwise_cons] at hp
    rw [Go.Proofs.YtncjalhhkmojlaaGreat.insS]
    split
    · rename_i hy
      rw [List.pairwise_cons]
      refine ⟨fun z hz => ?_, h.insS x hp.2⟩
      rcases (mem_insS x l z).1 hz with rfl | hz
      · exact hy
      · exact hp.1 z hz
    · rename_i hy
      split
      · exact List.pairwise_cons.2 hp
      · rename_i hne
        have hxy : lt x y = true := by
          cases hc : lt x y with
          | true => rfl
          | false => exact absurd (h.total y x (by simpa using hy) hc) hne
        rw [List.pairwise_cons, List.pairwise_cons]
        refine ⟨fun z hz => ?_, hp⟩
        rcases List.mem_cons.1 hz with rfl | hz
        · exact hxy
        · exact h.trans _ _ _ hxy (hp.1 z hz)
theorem insS_len (x : α) : ∀ l : List α, (insS lt x l).length ≤ l.length + 1
  | [] => by simp [insS]
  | y :: l => by
    have := insS_len x l
    rw [insS]
    split
    · simp; omega
    · split <;> simp
/-- where it goes -/
theorem insS_at (x : α) : ∀ (l : List α) (i : Nat), (∀ j, j < i → ∃ y, l[j]? = some y ∧ lt y x = true) → (∀ y, l[i]? = some y → lt y x = false) → insS lt x l = if l[i]? = some x then l else l.take i ++ x :: l.drop i
  | [], i, h1, h2 => by
    cases i with
    | zero => simp [insS]
    | succ i => obtain ⟨y, hy, _⟩ := h1 0 (by omega); simp at hy
  | y :: l, i, h1, h2 => by
    cases i with
    | zero =>
      have hy := h2 y rfl
      rw [insS, hy, if_neg (by simp)]
      by_cases h : y = x
      · simp [h]
      · simp [h]
    | succ i =>
      obtain ⟨y', hy', hlt⟩ := h1 0 (by omega)
      simp only [List.getElem?_cons_zero, Option.some.injEq] at hy'
      subst hy'
      rw [insS, if_pos hlt, insS_at x l i (fun j hj => by
        obtain ⟨z, hz, h⟩ := h1 (j + 1) (by omega)
        exact ⟨z, by simpa using hz, h⟩) (fun z hz => h2 z (by simpa using hz))]
      simp only [List.getElem?_cons_succ, List.take_succ_cons, List.drop_succ_cons]
      split <;> simp
/-- all of some, one by one -/
theorem insAll (h : STO lt) : ∀ (xs l : List α), l.Pairwise (fun a b => lt a b = true) → (xs.foldl (fun l x => insS lt x l) l).Pairwise (fun a b => lt a b = true) ∧ ∀ z, z ∈ xs.foldl (fun l x => insS lt x l) l ↔ z ∈ xs ∨ z ∈ l
  | [], l, hp => ⟨hp, by simp⟩
  | x :: xs, l, hp => by
    obtain ⟨h1, h2⟩ := insAll h xs _ (h.insS x hp)
    rw [List.foldl_cons]
    refine ⟨h1, fun z => ?_⟩
    rw [h2, mem_insS, List.mem_cons]
    constructor
    · rintro (a | a | a)
      · exact .inl (.inr a)
      · exact .inl (.inl a)
      · exact .inr a
    · rintro ((a | a) | a)
      · exact .inr (.inl a)
      · exact .inl a
      · exact .inr (.inr a)
end
/-- slices of a list, as they are printed -/
theorem take_drop0 {α : Type} (l : List α) (i : Nat) : (l.take (Int.toNat (i : Int))).drop (Int.toNat (0 : Int)) = l.take i := by simp
theorem take_all {α : Type} (l : List α) (i : Nat) : (l.take (Int.toNat ((l.length : Nat) : Int))).drop (Int.toNat (i : Int)) = l.drop i := by simp
theorem slc_lo {i n : Nat} (h : i ≤ n) : slcOk (0 : Int) (i : Int) n = true := by
  simp only [slcOk, Bool.and_eq_true, decide_eq_true_eq]; omega
theorem slc_hi {i n : Nat} (h : i ≤ n) : slcOk (i : Int) (n : Int) n = true := by
  simp only [slcOk, Bool.and_eq_true, decide_eq_true_eq]; omega
theorem len_ok {bytes n : Nat} (h : bytes ≤ 200) (hn : n ≤ 1000000) : lenOk bytes n = true :=
  lenOk_small ⟨Nat.le_trans (Nat.mul_le_mul hn h) (by decide), hn⟩
/-- a loop that goes on while something is less -/
theorem while_at {α ρ : Type} (l : List α) (hl : l.length ≤ 1000000) (P : α → Bool) {step : Int × Unit → Option ((Int × Unit) ⊕ ρ)} {r : Nat → Option ρ}
    (h1 : ∀ (i : Nat) (y : α), l[i]? = some y → decide ((i : Int) < ((l.length : Nat) : Int)) = true → idx l (i : Int) = some y → P y = true → addI .i64 (i : Int) 1 = ((i + 1 : Nat) : Int) → step ((i : Int), ()) = some (.inl (((i + 1 : Nat) : Int), ())))
    (h2 : ∀ (i : Nat) (y : α), l[i]? = some y → decide ((i : Int) < ((l.length : Nat) : Int)) = true → idx l (i : Int) = some y → P y = false → step ((i : Int), ()) = Option.map Sum.inr (r i))
    (h3 : decide (((l.length : Nat) : Int) < ((l.length : Nat) : Int)) = false → step (((l.length : Nat) : Int), ()) = Option.map Sum.inr (r l.length)) :
    ∃ i, i ≤ l.length ∧ (∀ j, j < i → ∃ y, l[j]? = some y ∧ P y = true) ∧ (∀ y, l[i]? = some y → P y = false) ∧ loopO step ((0 : Int), ()) = r i := by
  suffices key : ∀ (k i : Nat), i + k = l.length → (∀ j, j < i → ∃ y, l[j]? = some y ∧ P y = true) → ∃ m, m ≤ l.length ∧ (∀ j, j < m → ∃ y, l[j]? = some y ∧ P y = true) ∧ (∀ y, l[m]? = some y → P y = false) ∧ loopO step ((i : Int), ()) = r m from key l.length 0 (by omega) (fun j hj => absurd hj (Nat.not_lt_zero _))
  intro k
  induction k with
  | zero =>
    intro i hi hj
    obtain rfl : i = l.length := by omega
    refine ⟨l.length, Nat.le_refl _, hj, fun y hy => by simp at hy, ?_⟩
    rw [loopO_eq, h3 (decide_eq_false (Int.lt_irrefl _))]
    cases r l.length <;> rfl
  | succ k ih =>
    intro i hi hj
    have hx : l[i]? = some l[i] := List.getElem?_eq_getElem (by omega)
    have hd : decide ((i : Int) < ((l.length : Nat) : Int)) = true := decide_eq_true (by omega)
    cases hP : P l[i] with
    | true =>
      rw [loopO_inl (h1 i _ hx hd (by rw [idx_nat]; exact hx) hP (add64 (by omega) (by omega)))]
      refine ih (i + 1) (by omega) fun j hj' => ?_
      rcases Nat.lt_or_ge j i with h | h
      · exact hj j h
      · obtain rfl : j = i := by omega
        exact ⟨_, hx, hP⟩
    | false =>
      refine ⟨i, by omega, hj, fun y hy => ?_, ?_⟩
      · rw [hx] at hy
        injection hy with hy
        rw [← hy]; exact hP
      · rw [loopO_eq, h2 i _ hx hd (by rw [idx_nat]; exact hx) hP]
        cases r i <;> rfl

theorem ins_while {α ρ : Type} [DecidableEq α] {lt : α → α → Bool} (l : List α) (hl : l.length ≤ 1000000) (x : α) {step : Int × Unit → Option ((Int × Unit) ⊕ ρ)} {k : List α → Option ρ}
    (h1 : ∀ (i : Nat) (y : α), decide ((i : Int) < ((l.length : Nat) : Int)) = true → idx l (i : Int) = some y → lt y x = true → addI .i64 (i : Int) 1 = ((i + 1 : Nat) : Int) → step ((i : Int), ()) = some (.inl (((i + 1 : Nat) : Int), ())))
    (h2 : ∀ (i : Nat) (y : α), i < l.length → decide ((i : Int) < ((l.length : Nat) : Int)) = true → decide ((i : Int) = ((l.length : Nat) : Int)) = false → idx l (i : Int) = some y → lt y x = false → step ((i : Int), ()) = Option.map Sum.inr (k (if y = x then l else l.take i ++ x :: l.drop i)))
    (h3 : decide (((l.length : Nat) : Int) < ((l.length : Nat) : Int)) = false → decide (((l.length : Nat) : Int) = ((l.length : Nat) : Int)) = true → step (((l.length : Nat) : Int), ()) = Option.map Sum.inr (k (l ++ [x]))) : loopO step ((0 : Int), ()) = k (insS lt x l) := by
  obtain ⟨i, hi, g1, g2, g3⟩ := while_at l hl (fun y => lt y x) (step := step) (r := fun i => k (if l[i]? = some x then l else l.take i ++ x :: l.drop i)) (fun i y hy hd hx hP hw => h1 i y hd hx hP hw) (fun i y hy hd hx hP => by
      have hlt := (List.getElem?_eq_some_iff.1 hy).1
      rw [h2 i y hlt hd (decide_eq_false (by omega)) hx hP, hy]
      by_cases hyx : y = x
      · simp [hyx]
      · have : ¬ (some y = some x) := fun h => hyx (by injection h)
        rw [if_neg hyx, if_neg this]) (fun hd => by
      rw [h3 hd (decide_eq_true rfl), if_neg (by simp), List.take_length, List.drop_length])
  rw [g3, insS_at x l i g1 g2]
/-! ### Ballots -/
theorem into_eq (l : List TBallot) (hl : l.length ≤ 900000) (b : TBallot) : F_ref24_into l b = some (if zeroB b then l else insS (fun x y => lessB y x) b l) := by
  unfold F_ref24_into
  rw [F_ref23_Zero_eq, Option.bind_some]
  cases hz : zeroB b with
  | true => rfl
  | false =>
    simp only [cond_false, letJ_eq]
    have he : ∀ y : TBallot, (decide (y.Counter = b.Counter) && decide (y.Value = b.Value)) = decide (y = b) := fun y => by
      rw [Bool.eq_iff_iff]
      cases y; cases b
      simp
    refine ins_while (lt := fun x y => lessB y x) l (by omega) b (k := fun t => some t) (fun i y hd hx hlt hw => ?_) (fun i y hi hd hde hx hlt => ?_) (fun hd hde => ?_)
    · simp only [hd, hx, hw, cond_true, Option.bind_some, F_ref23_Less_eq, hlt]
    · have e1 := take_drop0 l i
      have e2 := take_all l i
      simp only [hd, hx, cond_true, Option.bind_some, F_ref23_Less_eq, hlt, cond_false, eq2_false, e1, e2, slc_lo (show i ≤ l.length by omega), slc_hi (show i ≤ l.length by omega), he]
      rw [len_ok (by omega) (by simp; omega), len_ok (by omega) (by simp; omega), len_ok (by omega) (by simp; omega)]
      by_cases hyb : y = b <;> simp [hyb]
    · have e1 := take_drop0 l l.length
      have e2 := take_all l l.length
      simp only [hd, cond_false, e1, e2, slc_lo (Nat.le_refl l.length), slc_hi (Nat.le_refl l.length), cond_true]
      rw [len_ok (by omega) (by simp; omega), len_ok (by omega) (by simp; omega), len_ok (by omega) (by simp; omega)]
      simp
/-- a fold with an invariant -/
theorem fold_loop {α σ ρ : Type} (l : List α) (hl : l.length ≤ 1000000) (f : σ → α → σ) (Inv : Nat → σ → Prop) {step : σ × Int × Unit → Option ((σ × Int × Unit) ⊕ ρ)} {fin : σ → Option ρ}
    (hI : ∀ i s x, x ∈ l → Inv i s → Inv (i + 1) (f s x))
    (h1 : ∀ (i : Nat) (x : α) (s : σ), Inv i s → i ≤ l.length → x ∈ l → decide ((i : Int) < ((l.length : Nat) : Int)) = true → idx l (i : Int) = some x → addI .i64 (i : Int) 1 = ((i + 1 : Nat) : Int) → step (s, (i : Int), ()) = some (.inl (f s x, ((i + 1 : Nat) : Int), ())))
    (h2 : ∀ s, decide (((l.length : Nat) : Int) < ((l.length : Nat) : Int)) = false → step (s, ((l.length : Nat) : Int), ()) = Option.map Sum.inr (fin s)) (s : σ) (hs : Inv 0 s) : loopO step (s, (0 : Int), ()) = fin (l.foldl f s) := by
  suffices key : ∀ (k i : Nat) (s : σ), i + k = l.length → Inv i s → loopO step (s, (i : Int), ()) = fin ((l.drop i).foldl f s) from key l.length 0 s (by omega) hs
  intro k
  induction k with
  | zero =>
    intro i s hi hs
    obtain rfl : i = l.length := by omega
    rw [loopO_eq, h2 s (decide_eq_false (Int.lt_irrefl _)), List.drop_length, List.foldl_nil]
    cases fin s <;> rfl
  | succ k ih =>
    intro i s hi hs
    have hlt : i < l.length := by omega
    rw [loopO_inl (h1 i l[i] s hs (by omega) (List.getElem_mem hlt) (decide_eq_true (by omega)) (by rw [idx_nat]; exact List.getElem?_eq_getElem hlt) (add64 (by omega) (by omega))), ih (i + 1) _ (by omega) (hI i s _ (List.getElem_mem hlt) hs), List.drop_eq_getElem_cons hlt, List.foldl_cons]
/-- what the document puts into the list -/
noncomputable def rsaid (e : TEnvelope) : List TBallot := if isValid e then (if e.Kind = 1 then [e.Ballot, e.Prepared, e.Prime] else [e.Prepared, at_ e 1000000]) else []
theorem rsaid_said {e : TEnvelope} {x : TBallot} (hz : zeroB x = false) : x ∈ rsaid e ↔ x ∈ said e := by
  unfold rsaid said
  cases hv : isValid e with
  | false => simp
  | true =>
    by_cases k1 : e.Kind = 1
    · simp [k1]
    · by_cases k2 : e.Kind = 2
      · simp [k2]
      · have hp : zeroB e.Prepared = true := by
          unfold isValid validE at hv
          rw [Bool.and_eq_true, if_neg k1, if_neg k2] at hv
          have h := hv.2
          by_cases k3 : e.Kind = 3
          · rw [if_pos k3] at h
            simp only [extOk, Bool.and_eq_true] at h
            exact h.1.1.2
          · rw [if_neg k3] at h; cases h
        simp only [if_true, k1, k2, if_false, List.mem_cons, List.not_mem_nil, or_false]
        constructor
        · rintro (h | h)
          · rw [h, hp] at hz; cases hz
          · exact h
        · exact .inr
def intoB (l : List TBallot) (b : TBallot) : List TBallot := if zeroB b then l else insS (fun x y => lessB y x) b l
theorem intoB_foldl : ∀ (xs l : List TBallot), xs.foldl intoB l = (xs.filter fun b => !zeroB b).foldl (fun l x => insS (fun x y => lessB y x) x l) l
  | [], l => rfl
  | x :: xs, l => by
    rw [List.foldl_cons, intoB_foldl xs, List.filter_cons]
    cases hz : zeroB x <;> simp [intoB, hz]
theorem intoB_len (l : List TBallot) (b : TBallot) : (intoB l b).length ≤ l.length + 1 := by
  unfold intoB
  split
  · omega
  · exact insS_len b l
section
variable {l : List TEnvelope} (hl : ∀ e ∈ l, SmT e.Trust) (hlen : l.length ≤ 1000)
 include hl hlen
theorem rBallots_eq : F_ref24_Ballots l = some (ballotsN l) := by
  have hfold : ∀ xs : List TBallot, xs.length ≤ 3 → ∀ s : List TBallot, (xs.foldl intoB s).length ≤ s.length + xs.length := by
    intro xs _
    induction xs with
    | nil => intro s; simp
    | cons x xs ih =>
      intro s
      have := ih (by simp at *; omega) (intoB s x)
      have := intoB_len s x
      rw [List.foldl_cons, List.length_cons]
      omega
  have hr3 : ∀ e, (rsaid e).length ≤ 3 := fun e => by
    unfold rsaid
    split
    · split <;> simp
    · simp
  have hF : F_ref24_Ballots l = some (l.foldl (fun s e => (rsaid e).foldl intoB s) []) := by
    unfold F_ref24_Ballots
    refine fold_loop l (by omega) (fun s e => (rsaid e).foldl intoB s) (fun i s => s.length ≤ 3 * i) (fin := fun s => some s) (fun i s x _ hs => ?_) (fun i e s hs hi he hd hx hw => ?_) (fun s hd => ?_) [] (by simp)
    · have := hfold (rsaid x) (hr3 x) s
      have := hr3 x
      show (List.foldl intoB s (rsaid x)).length ≤ 3 * (i + 1)
      omega
    · simp only [hd, hx, hw, cond_true, letJ_eq, Option.bind_some, TTrust.eta, TEnvelope.eta, rValid_eq (hl e he)]
      have inner : ∀ L : List TBallot, L.length ≤ 3 → loopO (fun (v8 : (List TBallot) × Int × Unit) =>
          bif (decide (v8.2.1 < ((List.length L : Nat) : Int))) then Option.bind (idx L v8.2.1) fun x9 => Option.bind (F_ref24_into v8.1 x9) fun r10 => some (Sum.inl (r10, (addI .i64 v8.2.1 (1 : Int)), ()))
          else Option.map Sum.inr (some (Sum.inl (v8.1, ((i + 1 : Nat) : Int), ()) : ((List TBallot) × Int × Unit) ⊕ (List TBallot)))) (s, (0 : Int), ()) = some (Sum.inl (L.foldl intoB s, ((i + 1 : Nat) : Int), ())) := by
        intro L hL
        refine fold_loop L (by omega) intoB (fun k t => t.length ≤ s.length + k) (fin := fun t => some (Sum.inl (t, ((i + 1 : Nat) : Int), ()))) (fun k t x _ ht => ?_) (fun k x t ht hk hx' hd' hxx hw' => ?_) (fun t hd' => ?_) s (by simp)
        · have := intoB_len t x
          omega
        · simp only [hd', hxx, hw', cond_true, Option.bind_some, into_eq t (by omega)]
          rfl
        · simp only [hd', cond_false]
      cases hv : isValid e with
      | false => simp [rsaid, hv]
      | true =>
        by_cases k1 : e.Kind = 1
        · have i3 := inner [e.Ballot, e.Prepared, e.Prime] (by simp)
          simp only [Bool.not_true, cond_false, k1, decide_true, i3, rsaid, hv, if_true]
        · have i2 := inner [e.Prepared, ⟨1000000, e.Ballot.Value⟩] (by simp)
          simp only [Bool.not_true, Bool.not_false, cond_false, cond_true, k1, decide_false, i2, rsaid, hv, if_true, if_false, at_]
    · simp only [hd, cond_false]
  obtain ⟨_, h2, _, h4⟩ := ballotsN_ok hl hlen
  have hflat : l.foldl (fun s e => (rsaid e).foldl intoB s) [] = (l.flatMap rsaid).foldl intoB [] := by rw [List.foldl_flatMap]
  rw [hF, hflat, intoB_foldl]
  obtain ⟨h5, h6⟩ := insAll sto_B.flip ((l.flatMap rsaid).filter fun b => !zeroB b) [] .nil
  congr 1
  refine sto_B.flip.unique h5 h2 fun x => ?_
  rw [h6, h4]
  simp only [List.mem_filter, List.mem_flatMap, List.not_mem_nil, or_false, Bool.not_eq_true']
  constructor
  · rintro ⟨⟨e, he, hx⟩, hz⟩
    exact ⟨e, he, (rsaid_said hz).1 hx, hz⟩
  · rintro ⟨e, he, hx, hz⟩
    exact ⟨⟨e, he, (rsaid_said hz).2 hx⟩, hz⟩
end
section
variable {l : List TEnvelope} (hl : ∀ e ∈ l, SmT e.Trust) (hlen : l.length ≤ 1000)
 include hl hlen
theorem rValues_eq : F_ref24_Values l = some (valuesN l) := by
  have hF : F_ref24_Values l = some (l.foldl (fun s e => if isValid e then insS lessV e.Ballot.Value s else s) []) := by
    unfold F_ref24_Values
    refine fold_loop l (by omega) (fun s e => if isValid e then insS lessV e.Ballot.Value s else s) (fun i s => s.length ≤ i) (fin := fun s => some s) (fun i s x _ hs => ?_) (fun i e s hs hi he hd hx hw => ?_) (fun s hd => ?_) [] (by simp)
    · show (if isValid x then insS lessV x.Ballot.Value s else s).length ≤ i + 1
      have := insS_len (lt := lessV) x.Ballot.Value s
      split <;> omega
    · simp only [hd, hx, hw, cond_true, letJ_eq, Option.bind_some, TTrust.eta, TEnvelope.eta, rValid_eq (hl e he)]
      cases hv : isValid e with
      | false => simp
      | true =>
        simp only [Bool.not_true, cond_false, if_true]
        refine ins_while (lt := lessV) s (by omega) e.Ballot.Value (k := fun t => some (Sum.inl (t, ((i + 1 : Nat) : Int), ()))) (fun j y hd' hx' hlt hw' => ?_) (fun j y hj hd' hde hx' hlt => ?_) (fun hd' hde => ?_)
        · simp only [hd', hx', hw', cond_true, Option.bind_some, F_ref23_LessValue_eq, hlt]
        · have e1 := take_drop0 s j
          have e2 := take_all s j
          simp only [hd', hx', hde, cond_true, cond_false, Option.bind_some, F_ref23_LessValue_eq, hlt, e1, e2, slc_lo (show j ≤ s.length by omega), slc_hi (show j ≤ s.length by omega)]
          rw [len_ok (by omega) (by simp; omega), len_ok (by omega) (by simp; omega), len_ok (by omega) (by simp; omega)]
          by_cases hyx : y = e.Ballot.Value <;> simp [hyx]
        · have e1 := take_drop0 s s.length
          have e2 := take_all s s.length
          simp only [hd', hde, cond_true, cond_false, e1, e2, slc_lo (Nat.le_refl s.length), slc_hi (Nat.le_refl s.length)]
          rw [len_ok (by omega) (by simp; omega), len_ok (by omega) (by simp; omega), len_ok (by omega) (by simp; omega)]
          simp
    · simp only [hd, cond_false]
  obtain ⟨_, h2, _, h4⟩ := valuesN_ok hl hlen
  have hflat : l.foldl (fun s e => if isValid e then insS lessV e.Ballot.Value s else s) [] = (l.flatMap fun e => if isValid e then [e.Ballot.Value] else []).foldl (fun l x => insS lessV x l) [] := by
    rw [List.foldl_flatMap]
    congr 1
    funext s e
    split <;> rfl
  rw [hF, hflat]
  obtain ⟨h5, h6⟩ := insAll sto_V (l.flatMap fun e => if isValid e then [e.Ballot.Value] else []) [] .nil
  congr 1
  refine sto_V.unique h5 h2 fun x => ?_
  rw [h6, h4]
  simp only [List.mem_flatMap, List.not_mem_nil, or_false]
  constructor
  · rintro ⟨e, he, hx⟩
    split at hx
    · rename_i hv
      exact ⟨e, he, hv, by simpa using hx⟩
    · cases hx
  · rintro ⟨e, he, hv, hx⟩
    exact ⟨e, he, by rw [if_pos hv]; simpa using hx⟩
theorem rBounds_eq (v : ByteArray) : F_ref24_Bounds l v = some (boundsN l v) := by
  have hF : F_ref24_Bounds l v = some (l.foldl (fun s e => if hasBounds v e then insS (fun a b => decide (a < b)) e.High (insS (fun a b => decide (a < b)) e.Low s) else s) []) := by
    unfold F_ref24_Bounds
    refine fold_loop l (by omega) (fun s e => if hasBounds v e then insS (fun a b => decide (a < b)) e.High (insS (fun a b => decide (a < b)) e.Low s) else s) (fun i s => s.length ≤ 2 * i) (fin := fun s => some s) (fun i s x _ hs => ?_) (fun i e s hs hi he hd hx hw => ?_) (fun s hd => ?_) [] (by simp)
    · show (if hasBounds v x then insS (fun a b => decide (a < b)) x.High (insS (fun a b => decide (a < b)) x.Low s) else s).length ≤ 2 * (i + 1)
      have h1 := insS_len (lt := fun a b : Int => decide (a < b)) x.Low s
      have h2 := insS_len (lt := fun a b : Int => decide (a < b)) x.High (insS (fun a b => decide (a < b)) x.Low s)
      split <;> omega
    · simp only [hd, hx, hw, cond_true, letJ_eq, Option.bind_some, TTrust.eta, TEnvelope.eta, rValid_eq (hl e he)]
      have inner : ∀ (t : List Int) (x : Int) (z : Int), t.length ≤ 3000 → loopO (fun (v12 : Int × Unit) =>
          Option.bind (bif (decide (v12.1 < ((List.length t : Nat) : Int))) then Option.bind (idx t v12.1) fun x13 => some (decide (x13 < x)) else some false) fun b14 =>
          bif b14 then some (Sum.inl ((addI .i64 v12.1 (1 : Int)), ())) else
          Option.map Sum.inr (Option.bind (bif (decide (v12.1 = ((List.length t : Nat) : Int))) then some true else Option.bind (idx t v12.1) fun x15 => some (!decide (x15 = x))) fun b16 =>
          bif b16 then
          bif slcOk (0 : Int) v12.1 (List.length t) then
          bif lenOk 8 (List.length ((t.take (Int.toNat v12.1)).drop (Int.toNat (0 : Int)))) then
          bif lenOk 8 (List.length ((t.take (Int.toNat v12.1)).drop (Int.toNat (0 : Int))) + List.length [x]) then
          bif slcOk v12.1 (t.length : Int) (List.length t) then
          bif lenOk 8 (List.length (((t.take (Int.toNat v12.1)).drop (Int.toNat (0 : Int))) ++ [x]) + List.length ((t.take (Int.toNat (t.length : Int))).drop (Int.toNat v12.1))) then
          some (Sum.inl (((((t.take (Int.toNat v12.1)).drop (Int.toNat (0 : Int))) ++ [x]) ++ ((t.take (Int.toNat (t.length : Int))).drop (Int.toNat v12.1))), z, ()) : ((List Int) × Int × Unit) ⊕ (((List Int) × Int × Unit) ⊕ (List Int)))
          else none else none else none else none else none
          else some (Sum.inl (t, z, ())))) ((0 : Int), ()) = some (Sum.inl (insS (fun a b => decide (a < b)) x t, z, ())) := by
        intro t x z ht
        refine ins_while (lt := fun a b : Int => decide (a < b)) t (by omega) x (k := fun t => some (Sum.inl (t, z, ()))) (fun j y hd' hx' hlt hw' => ?_) (fun j y hj hd' hde hx' hlt => ?_) (fun hd' hde => ?_)
        · simp only [hd', hx', hw', cond_true, Option.bind_some, hlt]
        · have e1 := take_drop0 t j
          have e2 := take_all t j
          simp only [hd', hx', hde, cond_true, cond_false, Option.bind_some, hlt, e1, e2, slc_lo (show j ≤ t.length by omega), slc_hi (show j ≤ t.length by omega)]
          rw [len_ok (by omega) (by simp; omega), len_ok (by omega) (by simp; omega), len_ok (by omega) (by simp; omega)]
          by_cases hyx : y = x <;> simp [hyx]
        · have e1 := take_drop0 t t.length
          have e2 := take_all t t.length
          simp only [hd', hde, cond_true, cond_false, Option.bind_some, e1, e2, slc_lo (Nat.le_refl t.length), slc_hi (Nat.le_refl t.length)]
          rw [len_ok (by omega) (by simp; omega), len_ok (by omega) (by simp; omega), len_ok (by omega) (by simp; omega)]
          simp
      have hw1 : addI .i64 (0 : Int) 1 = 1 := rfl
      have hw2 : addI .i64 (1 : Int) 1 = 2 := rfl
      have hd0 : decide ((0 : Int) < 2) = true := rfl
      have hd1 : decide ((1 : Int) < 2) = true := rfl
      have hd2 : decide ((2 : Int) < 2) = false := rfl
      have hx0 : idx [e.Low, e.High] 0 = some e.Low := rfl
      have hx1 : idx [e.Low, e.High] 1 = some e.High := rfl
      have hl1 := insS_len (lt := fun a b : Int => decide (a < b)) e.Low s
      unfold hasBounds
      cases hv : isValid e with
      | false => simp
      | true =>
        by_cases hvv : e.Ballot.Value = v
        · by_cases hlo : e.Low = 0
          · simp [hvv, hlo]
          · simp only [Bool.not_true, cond_false, hvv, decide_true, hlo, decide_false, Bool.and_self, Bool.not_false, Option.bind_some, if_true]
            refine (loopO_inl (s' := (insS (fun a b => decide (a < b)) e.Low s, (1 : Int), ())) ?_).trans ((loopO_inl (s' := (insS (fun a b => decide (a < b)) e.High (insS (fun a b => decide (a < b)) e.Low s), (2 : Int), ())) ?_).trans (loopO_inr ?_))
            · simp only [hd0, hx0, hw1, cond_true, Option.bind_some]
              exact inner s e.Low 1 (by omega)
            · simp only [hd1, hx1, hw2, cond_true, Option.bind_some]
              exact inner _ e.High 2 (by omega)
            · simp only [hd2, cond_false, Option.map_some]
        · simp [hvv]
    · simp only [hd, cond_false]
  obtain ⟨_, h2, _, h4⟩ := boundsN_ok hl hlen v
  have hflat : l.foldl (fun s e => if hasBounds v e then insS (fun a b => decide (a < b)) e.High (insS (fun a b => decide (a < b)) e.Low s) else s) [] = (ends v l).foldl (fun l x => insS (fun a b => decide (a < b)) x l) [] := by
    rw [ends, List.foldl_flatMap]
    congr 1
    funext s e
    split <;> rfl
  rw [hF, hflat]
  obtain ⟨h5, h6⟩ := insAll sto_int (ends v l) [] .nil
  congr 1
  refine sto_int.unique h5 (h2.imp fun h => decide_eq_true h) fun x => ?_
  rw [h6, h4]
  simp
end
end Go.Proofs.YtncjalhhkmojlaaGreat

set_option linter.unusedVariables false
namespace Go.Proofs.YtncjalhhkmojlaaGreat
open Go.TQ

/-! ### votes of the document -/
theorem kinds {e : TEnvelope} (hv : isValid e = true) : e.Kind = 1 ∨ e.Kind = 2 ∨ e.Kind = 3 := by
  unfold isValid validE at hv
  rw [Bool.and_eq_true] at hv
  have h := hv.2
  by_cases k1 : e.Kind = 1
  · exact .inl k1
  · by_cases k2 : e.Kind = 2
    · exact .inr (.inl k2)
    · by_cases k3 : e.Kind = 3
      · exact .inr (.inr k3)
      · rw [if_neg k1, if_neg k2, if_neg k3] at h; cases h
theorem rVotesP_eq {e : TEnvelope} (h : SmT e.Trust) (b : TBallot) : F_ref24_VotesPrepare e b = some (isValid e && votesP e b) := by
  simp only [F_ref24_VotesPrepare, TTrust.eta, TEnvelope.eta, rValid_eq h, Option.bind_some, F_ref23_Zero_eq, F_ref23_Compatible_eq, F_ref23_Covers_eq]
  cases hv : isValid e with
  | false => simp
  | true =>
    cases hz : zeroB b with
    | true => simp [votesP, hz]
    | false => by_cases k1 : e.Kind = 1 <;> simp [votesP, hz, k1]
theorem rAcceptsC_eq {e : TEnvelope} (h : SmT e.Trust) (v : ByteArray) (lo hi : Int) : F_ref24_AcceptsCommit e v lo hi = some (isValid e && acceptsC e v lo hi) := by
  simp only [F_ref24_AcceptsCommit, TTrust.eta, TEnvelope.eta, rValid_eq h, Option.bind_some, bif_some, acceptsC, fromC]
  cases hv : isValid e with
  | false => simp
  | true =>
    have hk := kinds hv
    by_cases a1 : lo < 1 <;> by_cases a2 : hi < lo <;> by_cases a3 : e.Ballot.Value = v <;> by_cases a4 : lo < e.Low <;> by_cases k1 : e.Kind = 1 <;> by_cases k3 : e.Kind = 3 <;> simp_all <;> grind
theorem rVotesC_eq {e : TEnvelope} (h : SmT e.Trust) (v : ByteArray) (lo hi : Int) : F_ref24_VotesCommit e v lo hi = some (isValid e && votesC e v lo hi) := by
  simp only [F_ref24_VotesCommit, TTrust.eta, TEnvelope.eta, rValid_eq h, Option.bind_some, bif_some, votesC, fromC]
  cases hv : isValid e with
  | false => simp
  | true =>
    have hl := low_pos hv
    by_cases a1 : lo < 1 <;> by_cases a2 : hi < lo <;> by_cases a3 : e.Ballot.Value = v <;> by_cases a4 : lo < e.Low <;> by_cases k1 : e.Kind = 1 <;> by_cases a5 : e.Low = 0 <;> simp_all <;> grind

section
variable {l : List TEnvelope} (hl : ∀ e ∈ l, SmT e.Trust) (hlen : l.length ≤ 1000)
 include hl hlen
end

end Go.Proofs.YtncjalhhkmojlaaGreat

set_option linter.unusedVariables false
namespace Go.Proofs.YtncjalhhkmojlaaGreat
open Go.TQ

section
variable {node : Int} {t : TTrust} {l : List TEnvelope} (hl : SmL l) (hlen : l.length ≤ 1000) {c : TConfig} {x y : TBallot → Bool}
 include hl hlen
end

/-! ### the same -/
theorem same01 (s : List Int) (h : s.length ≤ 1000000) : F_ref01_Same s s = some true := by
  unfold F_ref01_Same
  simp only [decide_true, Bool.not_true, cond_false]
  refine all_loop s.length (fun i => (i, ())) (fun i hi => ?_) ?_
  · have hd : decide ((i : Int) < ((s.length : Nat) : Int)) = true := decide_eq_true (by omega)
    have hw : addI .i64 (i : Int) 1 = ((i + 1 : Nat) : Int) := add64 (by omega) (by omega)
    have hx : idx s (i : Int) = some s[i] := by rw [idx_nat]; exact List.getElem?_eq_getElem hi
    simp only [hd, hx, hw, cond_true, Option.bind_some, decide_true, Bool.not_true, cond_false]
  · have hd : decide (((s.length : Nat) : Int) < ((s.length : Nat) : Int)) = false := decide_eq_false (Int.lt_irrefl _)
    simp only [hd, cond_false]
theorem I_same {n : Nat} : ∀ {t : TTrust}, SizeOf.sizeOf t < n → SmT t → I_ref02_Same n (t, t, ()) = some true := by
  induction n with
  | zero => intro t h; omega
  | succ n ih =>
    intro t hs hm
    show B_ref02_Same (I_ref02_Same n) t t = some true
    have hl := hm.len
    have hns := hm.nodes
    unfold B_ref02_Same
    simp only [decide_true, Bool.not_true, cond_false, same01 _ hns, Option.bind_some]
    refine all_loop t.Inner.length (fun i => (i, ())) (fun i hi => ?_) ?_
    · have hd : decide ((i : Int) < ((t.Inner.length : Nat) : Int)) = true := decide_eq_true (by omega)
      have hw : addI .i64 (i : Int) 1 = ((i + 1 : Nat) : Int) := add64 (by omega) (by omega)
      have hx : idx t.Inner (i : Int) = some t.Inner[i] := by rw [idx_nat]; exact List.getElem?_eq_getElem hi
      have hu := List.getElem_mem hi
      have := ih (t := t.Inner[i]) (by have := inner_lt hu; omega) (hm.inner _ hu)
      simp only [hd, hx, hw, cond_true, Option.bind_some, TTrust.eta, this, Bool.not_true, cond_false]
    · have hd : decide (((t.Inner.length : Nat) : Int) < ((t.Inner.length : Nat) : Int)) = false := decide_eq_false (Int.lt_irrefl _)
      simp only [hd, cond_false]
theorem same02 {t : TTrust} (h : SmT t) : F_ref02_Same t t = some true := I_same (by omega) h
end Go.Proofs.YtncjalhhkmojlaaGreat

set_option linter.unusedVariables false
namespace Go.Proofs.YtncjalhhkmojlaaGreat
open Go.TQ

theorem eq2_self (a : Int) (s : ByteArray) : eq2 true a a s s = false := by simp
theorem idx_mem {α : Type} {l : List α} {i : Nat} (h : i < l.length) : ∃ x ∈ l, idx l (i : Int) = some x := ⟨l[i], List.getElem_mem h, by rw [idx_nat]; exact List.getElem?_eq_getElem h⟩
theorem Pick_ok {s : TSrc} (h : OkS s) {l : List Int} (h1 : 1 ≤ l.length) (h2 : l.length ≤ 1000) : Yd (F_play_Src_Pick s l) fun p => OkS p.2 := by
  unfold F_play_Src_Pick
  refine (N_ok h (by omega)).bind fun p ⟨a1, a2, a3, _⟩ => ?_
  have a4 := a3 (by omega)
  obtain ⟨x, hx, hi⟩ := idx_mem (l := l) (i := p.1.toNat) (by omega)
  rw [show ((p.1.toNat : Nat) : Int) = p.1 by omega] at hi
  rw [hi, Option.bind_some]
  exact Yd.some a1
theorem Ballot_ok {s : TSrc} (h : OkS s) : Yd (F_play_Src_Ballot s) fun p => OkS p.2 := by
  unfold F_play_Src_Ballot
  refine (Pick_ok h (by simp) (by simp)).bind fun p a1 => ?_
  refine (Value_ok a1).bind fun q ⟨b1, _⟩ => ?_
  exact Yd.some b1
/-- rounds that draw -/
theorem src_loop {ρ : Type} {p : ρ → Prop} (n : Nat) {step : Int × TSrc × Unit → Option ((Int × TSrc × Unit) ⊕ ρ)}
    (h1 : ∀ (i : Nat) (s : TSrc), i < n → OkS s → Yd (step ((i : Int), s, ())) fun y => match y with | .inl z => z.1 = ((i + 1 : Nat) : Int) ∧ OkS z.2.1 | .inr r => p r)
    (h2 : ∀ s, OkS s → Yd (step ((n : Int), s, ())) fun y => match y with | .inl _ => False | .inr r => p r) {s : TSrc} (hs : OkS s) : Yd (loopO step ((0 : Int), s, ())) p := by
  suffices key : ∀ (k i : Nat) (s : TSrc), i + k = n → OkS s → Yd (loopO step ((i : Int), s, ())) p from key n 0 s (by omega) hs
  intro k
  induction k with
  | zero =>
    intro i s hi hs
    obtain rfl : i = n := by omega
    obtain ⟨y, hy, hp⟩ := h2 s hs
    cases y with
    | inl z => exact hp.elim
    | inr r => exact ⟨r, loopO_inr hy, hp⟩
  | succ k ih =>
    intro i s hi hs
    obtain ⟨y, hy, hp⟩ := h1 i s (by omega) hs
    cases y with
    | inl z =>
      obtain ⟨z1, z2, z3⟩ := z
      obtain ⟨hz, hs'⟩ := hp
      simp only at hz hs'
      subst hz
      rw [loopO_inl hy]
      exact ih (i + 1) z2 (by omega) hs'
    | inr r => exact ⟨r, loopO_inr hy, hp⟩
end Go.Proofs.YtncjalhhkmojlaaGreat
