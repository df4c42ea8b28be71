/-
  Plain Lean: what the turned functions compute. Conditions: none beyond those that each theorem names.
-/
import Derived.Test.YtncjalhhkmojlaaKdef
import Derived.Test.YtncjalhhkmojlaaEnvelopesNewestFns
namespace Go.TQ

/-! ### options and tests -/
@[simp] theorem letJ_eq {σ ρ : Type} (j : σ → Option ρ) (f : (σ → Option ρ) → Option ρ) : letJ j f = f j := rfl
@[simp] theorem bif_some {α : Type} (b : Bool) (x y : α) : (bif b then some x else some y) = some (bif b then x else y) := by cases b <;> rfl
@[simp] theorem bif_same {α : Type} (b : Bool) (x : α) : (bif b then x else x) = x := by cases b <;> rfl
theorem bif_dec {α : Type} (p : Prop) [Decidable p] (x y : α) : (bif decide p then x else y) = if p then x else y := by
  by_cases h : p <;> simp [h]
theorem ite_some {α : Type} (p : Prop) [Decidable p] (x y : α) : (if p then some x else some y) = some (if p then x else y) := by split <;> rfl
@[simp] theorem bif_not {α : Type} (b : Bool) (x y : α) : (bif !b then x else y) = bif b then y else x := by cases b <;> rfl
@[simp] theorem eq2_false (a b : Int) (s t : ByteArray) : eq2 false a b s t = (decide (a = b) && decide (s = t)) := by simp [eq2]
@[simp] theorem eq2_true (a b : Int) (s t : ByteArray) : eq2 true a b s t = !(decide (a = b) && decide (s = t)) := by simp [eq2]

/-- it is there, and of it this holds -/
def Yd {α : Type} (o : Option α) (p : α → Prop) : Prop := ∃ x, o = some x ∧ p x
theorem Yd.bind {α β : Type} {o : Option α} {p : α → Prop} {f : α → Option β} {q : β → Prop} (h : Yd o p) (k : ∀ x, p x → Yd (f x) q) : Yd (o.bind f) q := by
  obtain ⟨x, rfl, hx⟩ := h
  exact k x hx
theorem Yd.mono {α : Type} {o : Option α} {p q : α → Prop} (h : Yd o p) (k : ∀ x, p x → q x) : Yd o q := by
  obtain ⟨x, h1, hx⟩ := h
  exact ⟨x, h1, k x hx⟩
theorem Yd.some {α : Type} {x : α} {p : α → Prop} (h : p x) : Yd (Option.some x) p := ⟨x, rfl, h⟩
theorem Yd.cond {α : Type} {b : Bool} {x y : Option α} {p : α → Prop} (h1 : b = true → Yd x p) (h2 : b = false → Yd y p) : Yd (bif b then x else y) p := by
  cases b
  · exact h2 rfl
  · exact h1 rfl
theorem Yd.map {α β : Type} {o : Option α} {f : α → β} {p : β → Prop} (h : Yd o fun x => p (f x)) : Yd (o.map f) p := by
  obtain ⟨x, rfl, hx⟩ := h
  exact ⟨f x, rfl, hx⟩
theorem Yd.eq_true {o : Option Bool} (h : Yd o (· = true)) : o = Option.some true := by
  obtain ⟨x, h1, rfl⟩ := h
  exact h1

/-! ### numbers -/
theorem wrap64 {n : Int} (h1 : -9223372036854775808 ≤ n) (h2 : n ≤ 9223372036854775807) : IntKind.i64.wrap n = n := i64_in h1 h2
theorem add64 {a b : Int} (h1 : -9223372036854775808 ≤ a + b) (h2 : a + b ≤ 9223372036854775807) : addI .i64 a b = a + b := wrap64 h1 h2
theorem sub64 {a b : Int} (h1 : -9223372036854775808 ≤ a - b) (h2 : a - b ≤ 9223372036854775807) : subI .i64 a b = a - b := wrap64 h1 h2
theorem idx_nat {α : Type} (l : List α) (i : Nat) : idx l (i : Int) = l[i]? := by simp [idx]
theorem idx_of {α : Type} (l : List α) {n : Int} (h : 0 ≤ n) : idx l n = l[n.toNat]? := by simp [idx, h]
@[simp] theorem convI_i64_u8 (n : Nat) (h : n < 256) : convI .i64 (n : Int) = n := wrap64 (by omega) (by omega)
@[simp] theorem lenOk_small {bytes n : Nat} (h : n * bytes ≤ 140737488355328 ∧ n ≤ 1000000) : lenOk bytes n = true := by
  simp only [lenOk, Bool.and_eq_true, decide_eq_true_eq]
  exact ⟨h.1, Nat.le_trans h.2 (by simp [maxLen])⟩

/-! ### bits -/
theorem ofInt_nat (a : Nat) (h : a < 2 ^ 62) : (BitVec.ofInt 64 (a : Int)).toNat = a := by
  rw [BitVec.ofInt_natCast, BitVec.toNat_ofNat]
  exact Nat.mod_eq_of_lt (by omega)
theorem wrap_nat (n : Nat) (h : n < 2 ^ 62) : IntKind.i64.wrap (n : Int) = n := wrap64 (by omega) (by omega)
theorem andI_nat (a b : Nat) (ha : a < 2 ^ 62) (hb : b < 2 ^ 62) : andI .i64 (a : Int) (b : Int) = ((a &&& b : Nat) : Int) := by
  show IntKind.i64.wrap (((BitVec.ofInt 64 (a : Int) &&& BitVec.ofInt 64 (b : Int)).toNat : Nat) : Int) = _
  rw [BitVec.toNat_and, ofInt_nat a ha, ofInt_nat b hb]
  exact wrap_nat _ (Nat.lt_of_le_of_lt Nat.and_le_left ha)
theorem orI_nat (a b : Nat) (ha : a < 2 ^ 62) (hb : b < 2 ^ 62) : orI .i64 (a : Int) (b : Int) = ((a ||| b : Nat) : Int) := by
  show IntKind.i64.wrap (((BitVec.ofInt 64 (a : Int) ||| BitVec.ofInt 64 (b : Int)).toNat : Nat) : Int) = _
  rw [BitVec.toNat_or, ofInt_nat a ha, ofInt_nat b hb]
  exact wrap_nat _ (Nat.or_lt_two_pow ha hb)
theorem and_bit (s k : Nat) : s &&& 2 ^ k = if s.testBit k then 2 ^ k else 0 := by
  refine Nat.eq_of_testBit_eq fun i => ?_
  rw [Nat.testBit_and, Nat.testBit_two_pow]
  by_cases h : k = i
  · subst h
    cases hs : s.testBit k <;> simp
  · cases hs : s.testBit k <;> simp [h]
theorem shlI_one (k : Nat) (h : k ≤ 60) : shlI .i64 1 (k : Int) = ((2 ^ k : Nat) : Int) := by
  show IntKind.i64.wrap (1 * 2 ^ min (k : Int).toNat 64) = _
  rw [Int.toNat_natCast, show min k 64 = k from Nat.min_eq_left (by omega), Int.one_mul]
  have := wrap_nat (2 ^ k) (Nat.pow_lt_pow_right (by omega) (by omega))
  simpa using this
theorem shrI_nat (a k : Nat) (h : k ≤ 60) : shrI .i64 (a : Int) (k : Int) = ((a >>> k : Nat) : Int) := by
  show (a : Int).fdiv (2 ^ min (k : Int).toNat 64) = _
  rw [Int.toNat_natCast, show min k 64 = k from Nat.min_eq_left (by omega), Nat.shiftRight_eq_div_pow]
  rw [show (2 : Int) ^ k = ((2 ^ k : Nat) : Int) by simp, Int.fdiv_eq_ediv_of_nonneg _ (Int.natCast_nonneg _)]
  exact (Int.natCast_ediv a (2 ^ k)).symm

/-! ### loops -/
theorem loopO_inr {σ ρ : Type} {step : σ → Option (σ ⊕ ρ)} {s : σ} {r : ρ} (h : step s = some (.inr r)) : loopO step s = some r := by rw [loopO_eq, h]
theorem loopO_inl {σ ρ : Type} {step : σ → Option (σ ⊕ ρ)} {s s' : σ} (h : step s = some (.inl s')) : loopO step s = loopO step s' := by rw [loopO_eq, h]
theorem Yd.loop {σ ρ : Type} {step : σ → Option (σ ⊕ ρ)} {s : σ} {p : ρ → Prop} (h : Yd (step s) fun y => match y with | .inl s' => Yd (loopO step s') p | .inr r => p r) : Yd (loopO step s) p := by
  obtain ⟨y, h1, h2⟩ := h
  cases y with
  | inl s' => rw [loopO_inl h1]; exact h2
  | inr r => exact ⟨r, loopO_inr h1, h2⟩
/-- where ways meet -/
theorem Yd.join {σ ρ : Type} {j : σ → Option ρ} {f : (σ → Option ρ) → Option ρ} {p : ρ → Prop} (inv : σ → Prop) (h1 : ∀ v, inv v → Yd (j v) p) (h2 : ∀ j' : σ → Option ρ, (∀ v, inv v → Yd (j' v) p) → Yd (f j') p) : Yd (letJ j f) p := h2 j h1
theorem Yd.inr {σ ρ : Type} {o : Option ρ} {p : σ ⊕ ρ → Prop} (h : Yd o fun r => p (.inr r)) : Yd (Option.map Sum.inr o) p := h.map
/-- through a list, with a state, till the end or till something is found -/
def foldE {α σ ρ : Type} (g : α → σ → Option (σ ⊕ ρ)) (fin : σ → Option ρ) : List α → σ → Option ρ
  | [], s => fin s
  | x :: l, s => match g x s with
    | none => none
    | some (.inr r) => some r
    | some (.inl s') => foldE g fin l s'
/-- a loop whose state T is made of a place in the list and a rest -/
theorem loopO_list {α σ τ ρ : Type} (l : List α) (mk : Int → σ → τ) {step : τ → Option (τ ⊕ ρ)} (g : α → σ → Option (σ ⊕ ρ)) (fin : σ → Option ρ)
    (h1 : ∀ (i : Nat) (x : α) (s : σ), i < l.length → l[i]? = some x → step (mk i s) = match g x s with | none => none | some (.inr r) => some (.inr r) | some (.inl s') => some (.inl (mk (i + 1 : Nat) s')))
    (h2 : ∀ s, step (mk l.length s) = (fin s).map Sum.inr) (s : σ) : loopO step (mk 0 s) = foldE g fin l s := by
  suffices h : ∀ (k : Nat) (i : Nat) (s : σ), i + k = l.length → loopO step (mk i s) = foldE g fin (l.drop i) s by
    have := h l.length 0 s (by omega)
    simpa using this
  intro k
  induction k with
  | zero =>
    intro i s hi
    obtain rfl : i = l.length := by omega
    rw [List.drop_length, foldE, loopO_eq, h2]
    cases fin s <;> rfl
  | succ k ih =>
    intro i s hi
    have hlt : i < l.length := by omega
    rw [List.drop_eq_getElem_cons hlt, foldE, loopO_eq, h1 i l[i] s hlt (List.getElem?_eq_getElem hlt)]
    cases hg : g l[i] s with
    | none => rfl
    | some y =>
      cases y with
      | inr r => rfl
      | inl s' => exact ih (i + 1) s' (by omega)
/-- the loops that 'range' makes: the facts at a place are handed over -/
theorem loopO_range {α σ τ ρ : Type} (l : List α) (hl : l.length ≤ 9223372036854775807) (mk : Int → σ → τ) {step : τ → Option (τ ⊕ ρ)} (g : α → σ → Option (σ ⊕ ρ)) (fin : σ → Option ρ)
    (h1 : ∀ (i : Nat) (x : α) (s : σ), decide ((i : Int) < ((l.length : Nat) : Int)) = true → idx l (i : Int) = some x → addI .i64 (i : Int) 1 = ((i + 1 : Nat) : Int) → step (mk i s) = match g x s with | none => none | some (.inr r) => some (.inr r) | some (.inl s') => some (.inl (mk (i + 1 : Nat) s')))
    (h2 : ∀ s, decide (((l.length : Nat) : Int) < ((l.length : Nat) : Int)) = false → step (mk l.length s) = (fin s).map Sum.inr) (s : σ) : loopO step (mk 0 s) = foldE g fin l s :=
  loopO_list l mk g fin (fun i x s hi hx => h1 i x s (decide_eq_true (Int.ofNat_lt.2 hi)) (by rw [idx_nat]; exact hx) (add64 (by omega) (by omega))) (fun s => h2 s (decide_eq_false (Int.lt_irrefl _))) s
end Go.TQ

namespace Go.Proofs.Ytncjalhhkmojlaa
open Go.TQ

def noVal : ByteArray := ⟨#[]⟩
def zeroB (b : TBallot) : Bool := decide (b.Counter = 0) && decide (b.Value = noVal)
def lessV (a b : ByteArray) : Bool := if a.size = b.size then sless a b else decide (a.size < b.size)
def lessB (a b : TBallot) : Bool := if a.Counter = b.Counter then lessV a.Value b.Value else decide (a.Counter < b.Counter)
def compat (a b : TBallot) : Bool := decide (a.Value = b.Value)
def covers (p b : TBallot) : Bool := !zeroB p && compat p b && decide (b.Counter ≤ p.Counter)
def preparesB (p q b : TBallot) : Bool := covers p b || covers q b || (!zeroB q && lessB b q)
def aborts (p b : TBallot) : Bool := !zeroB p && !compat p b && lessB b p
def validB (b : TBallot) : Bool := (decide (1 ≤ b.Counter) && decide (b.Counter ≤ 1000) || decide (b.Counter = 1000000)) && decide (1 ≤ b.Value.size) && decide (b.Value.size ≤ 200)

@[simp] theorem F_ballots_Zero_eq (b : TBallot) : F_ballots_Zero b = some (zeroB b) := by unfold F_ballots_Zero zeroB; rw [eq2_false]; rfl
@[simp] theorem F_ref23_Zero_eq (b : TBallot) : F_ref23_Zero b = some (zeroB b) := by unfold F_ref23_Zero zeroB; rw [eq2_false]; rfl
@[simp] theorem F_ballots_Compatible_eq (a b : TBallot) : F_ballots_Compatible a b = some (compat a b) := rfl
@[simp] theorem F_ref23_Compatible_eq (a b : TBallot) : F_ref23_Compatible a b = some (compat a b) := rfl
@[simp] theorem F_ballots_Valid_eq (b : TBallot) : F_ballots_Valid b = some (validB b) := by
  have h1 : decide ((1 : Int) ≤ (b.Value.size : Nat)) = decide (1 ≤ b.Value.size) := by rw [decide_eq_decide]; omega
  have h2 : decide (((b.Value.size : Nat) : Int) ≤ 200) = decide (b.Value.size ≤ 200) := by rw [decide_eq_decide]; omega
  simp only [F_ballots_Valid, validB, h1, h2, bif_some, Option.bind_some, Bool.cond_false_right, Bool.cond_true_left]
@[simp] theorem F_ref23_Valid_eq (b : TBallot) : F_ref23_Valid b = some (validB b) := F_ballots_Valid_eq b
@[simp] theorem F_ref23_LessValue_eq (a b : ByteArray) : F_ref23_LessValue a b = some (lessV a b) := by
  simp only [F_ref23_LessValue, lessV, bif_not, Int.ofNat_inj, Int.ofNat_lt, bif_dec, ite_some]
@[simp] theorem F_ref23_Less_eq (a b : TBallot) : F_ref23_Less a b = some (lessB a b) := by
  simp [F_ref23_Less, lessB, bif_dec, ite_some]
@[simp] theorem F_ref23_Covers_eq (a b : TBallot) : F_ref23_Covers a b = some (covers a b) := by simp [F_ref23_Covers, covers]
@[simp] theorem F_ballots_Covers_eq (a b : TBallot) : F_ballots_Covers a b = some (covers a b) := by simp [F_ballots_Covers, covers]
@[simp] theorem F_ref23_Prepares_eq (p q b : TBallot) : F_ref23_Prepares p q b = some (preparesB p q b) := by simp [F_ref23_Prepares, preparesB]
@[simp] theorem F_ref23_Aborts_eq (p b : TBallot) : F_ref23_Aborts p b = some (aborts p b) := by simp [F_ref23_Aborts, aborts]

/-! ### comparing -/
def cmpI (a b : Int) : Int := if a < b then -1 else if b < a then 1 else 0
def cmpS (a b : ByteArray) : Int := if sless a b then -1 else if sless a b || decide (a = b) then 0 else 1
def orL : List Int → Int
  | [] => 0
  | x :: l => if x = 0 then orL l else x
@[simp] theorem F_cmp_Compare_int_eq (a b : Int) : F_cmp_Compare_int a b = some (cmpI a b) := by
  simp [F_cmp_Compare_int, F_cmp_isNaN_int, cmpI, bif_dec, ite_some]
@[simp] theorem F_cmp_Compare_string_eq (a b : ByteArray) : F_cmp_Compare_string a b = some (cmpS a b) := by
  simp only [F_cmp_Compare_string, F_cmp_isNaN_string, cmpS]
  cases h1 : sless a b <;> by_cases h2 : a = b <;> simp [h2]
theorem F_cmp_Or_int_eq (l : List Int) (hl : l.length ≤ 1000000) : F_cmp_Or_int l = some (orL l) := by
  unfold F_cmp_Or_int
  rw [loopO_range l (by omega) (fun i (_ : Unit) => (i, ())) (fun x _ => some (if x = 0 then .inl () else .inr x)) (fun _ => some 0) (fun i x s hd hx hw => ?_) (fun s hd => ?_) ()]
  · induction l with
    | nil => rfl
    | cons x l ih =>
      rw [foldE, orL]
      by_cases h : x = 0
      · simp only [h, if_true]; exact ih (by simp at hl; omega)
      · simp only [if_neg h]
  · by_cases h : x = 0 <;> simp only [hd, hx, hw, h, cond_true, Option.bind_some] <;> simp
  · simp only [hd, cond_false]
@[simp] theorem F_cmp_Or_int_two (a b : Int) : F_cmp_Or_int [a, b] = some (if a = 0 then b else a) := by
  rw [F_cmp_Or_int_eq _ (by simp)]
  simp only [orL]
  by_cases h : a = 0 <;> by_cases h' : b = 0 <;> simp [h, h']
def cmpV (a b : ByteArray) : Int := if cmpI a.size b.size = 0 then cmpS a b else cmpI a.size b.size
def cmpB (a b : TBallot) : Int := if cmpI a.Counter b.Counter = 0 then cmpV a.Value b.Value else cmpI a.Counter b.Counter
@[simp] theorem F_ballots_CompareValues_eq (a b : ByteArray) : F_ballots_CompareValues a b = some (cmpV a b) := by simp [F_ballots_CompareValues, cmpV]
@[simp] theorem F_ballots_Compare_eq (a b : TBallot) : F_ballots_Compare a b = some (cmpB a b) := by simp [F_ballots_Compare, cmpB]
theorem cmpI_zero (a b : Int) : cmpI a b = 0 ↔ a = b := by unfold cmpI; split <;> (try split) <;> omega
theorem cmpI_neg (a b : Int) : cmpI a b < 0 ↔ a < b := by unfold cmpI; split <;> (try split) <;> omega
theorem cmpS_neg (a b : ByteArray) : cmpS a b < 0 ↔ sless a b = true := by
  unfold cmpS
  split
  · rename_i h; simp [h]
  · rename_i h
    split <;> simp [h]
theorem cmpV_neg (a b : ByteArray) : decide (cmpV a b < 0) = lessV a b := by
  unfold cmpV lessV
  by_cases h : a.size = b.size
  · rw [if_pos ((cmpI_zero _ _).2 (by rw [h])), if_pos h]
    rw [Bool.eq_iff_iff, decide_eq_true_eq, cmpS_neg]
  · rw [if_neg (fun e => h (by have := (cmpI_zero _ _).1 e; omega)), if_neg h, decide_eq_decide, cmpI_neg]
    omega
theorem cmpB_neg (a b : TBallot) : decide (cmpB a b < 0) = lessB a b := by
  unfold cmpB lessB
  by_cases h : a.Counter = b.Counter
  · rw [if_pos ((cmpI_zero _ _).2 h), if_pos h, cmpV_neg]
  · rw [if_neg (fun e => h ((cmpI_zero _ _).1 e)), if_neg h, decide_eq_decide, cmpI_neg]
@[simp] theorem F_ballots_Less_eq (a b : TBallot) : F_ballots_Less a b = some (lessB a b) := by simp [F_ballots_Less, cmpB_neg]
@[simp] theorem F_ballots_Prepares_eq (p q b : TBallot) : F_ballots_Prepares p q b = some (preparesB p q b) := by simp [F_ballots_Prepares, preparesB]
@[simp] theorem F_ballots_Aborts_eq (p b : TBallot) : F_ballots_Aborts p b = some (aborts p b) := by simp [F_ballots_Aborts, aborts]
def finite (b : TBallot) : Bool := validB b && decide (b.Counter ≤ 1000)
@[simp] theorem F_envelopes_finite_eq (b : TBallot) : F_envelopes_finite b = some (finite b) := by simp [F_envelopes_finite, finite]
@[simp] theorem F_envelopes_optional_eq (b : TBallot) : F_envelopes_optional b = some (zeroB b || validB b) := by simp [F_envelopes_optional]
@[simp] theorem F_envelopes_at_eq (e : TEnvelope) (n : Int) : F_envelopes_at e n = some ⟨n, e.Ballot.Value⟩ := rfl
end Go.Proofs.Ytncjalhhkmojlaa

namespace Go.Proofs.Ytncjalhhkmojlaa
open Go.TQ

theorem B_depth {rec : (TTrust × Unit) → Option Int} {t : TTrust} (hl : t.Inner.length ≤ 9223372036854775807) :
    B_threshold_Depth rec t = foldE (fun u m => (rec (u, ())).map fun r => .inl (maxI m r)) (fun m => some (addI .i64 m 1)) t.Inner 0 := by
  unfold B_threshold_Depth
  rw [loopO_range t.Inner hl (fun i (m : Int) => (m, i, ())) (fun u m => (rec (u, ())).map fun r => .inl (maxI m r)) (fun m => some (addI .i64 m 1)) (fun i x s hd hx hw => ?_) (fun s hd => ?_) 0]
  · simp only [hd, hx, hw, cond_true, Option.bind_some, TTrust.eta]
    cases rec (x, ()) <;> rfl
  · simp only [hd, cond_false]
theorem B_size {rec : (TTrust × Unit) → Option Int} {t : TTrust} (hl : t.Inner.length ≤ 9223372036854775807) :
    B_threshold_Size rec t = foldE (fun u m => (rec (u, ())).map fun r => .inl (addI .i64 m r)) (fun m => some m) t.Inner (addI .i64 t.Nodes.length t.Inner.length) := by
  unfold B_threshold_Size
  rw [loopO_range t.Inner hl (fun i (m : Int) => (m, i, ())) (fun u m => (rec (u, ())).map fun r => .inl (addI .i64 m r)) (fun m => some m) (fun i x s hd hx hw => ?_) (fun s hd => ?_) (addI .i64 t.Nodes.length t.Inner.length)]
  · simp only [hd, hx, hw, cond_true, Option.bind_some, TTrust.eta]
    cases rec (x, ()) <;> rfl
  · simp only [hd, cond_false]
theorem ref_depth (t : TTrust) : F_ref02_Depth t = F_threshold_Depth t := rfl
theorem ref_size (t : TTrust) : F_ref02_Size t = F_threshold_Size t := rfl

/-! ### sets of nodes -/
def inNode (x : Int) : Bool := decide (0 ≤ x) && decide (x < 10)
def hasS (s x : Int) : Bool := decide (0 ≤ s) && decide (s < 1024) && inNode x && s.toNat.testBit x.toNat
theorem below10 (s : Int) : F_nodeset_Valid s = some (decide (0 ≤ s) && decide (s < 1024)) := by
  have : shlI .i64 1 10 = 1024 := shlI_one 10 (by omega)
  simp [F_nodeset_Valid, F_nodeset_below, this]
theorem andI_testBit {s x : Int} (h1 : 0 ≤ s) (h2 : s < 1024) (h3 : 0 ≤ x) (h4 : x < 10) : (andI .i64 s (shlI .i64 1 x) = 0) = (s.toNat.testBit x.toNat = false) := by
  obtain ⟨n, rfl⟩ := Int.eq_ofNat_of_zero_le h1
  obtain ⟨j, rfl⟩ := Int.eq_ofNat_of_zero_le h3
  have hj : 2 ^ j ≤ 2 ^ 10 := Nat.pow_le_pow_right (by omega) (by omega)
  rw [shlI_one j (by omega), andI_nat n (2 ^ j) (by omega) (by omega), and_bit]
  simp only [Int.toNat_natCast]
  have hp : 2 ^ j ≠ 0 := Nat.pos_iff_ne_zero.1 (Nat.pow_pos (by omega))
  cases n.testBit j
  · simp
  · rw [if_pos rfl]
    simp only [Bool.true_eq_false, eq_iff_iff, iff_false]
    omega
@[simp] theorem F_nodeset_Has_eq (s x : Int) : F_nodeset_Has s x = some (hasS s x) := by
  unfold F_nodeset_Has hasS inNode
  rw [below10]
  by_cases h1 : 0 ≤ s
  · by_cases h2 : s < 1024
    · by_cases h3 : 0 ≤ x
      · by_cases h4 : x < 10
        · have h5 : ¬ x < 0 := by omega
          have := andI_testBit h1 h2 h3 h4
          simp [h1, h2, h3, h4, h5, this]
        · simp [h1, h2, h3, h4]
      · simp [h1, h2, h3]
    · simp [h1, h2]
  · simp [h1]
theorem shr_testBit {s x : Int} (h1 : 0 ≤ s) (h2 : s < 1024) (h3 : 0 ≤ x) (h4 : x < 10) : (andI .i64 (shrI .i64 s x) 1 = 1) = (s.toNat.testBit x.toNat = true) := by
  obtain ⟨n, rfl⟩ := Int.eq_ofNat_of_zero_le h1
  obtain ⟨j, rfl⟩ := Int.eq_ofNat_of_zero_le h3
  have hle : n >>> j ≤ n := by rw [Nat.shiftRight_eq_div_pow]; exact Nat.div_le_self _ _
  rw [shrI_nat n j (by omega), show (1 : Int) = ((1 : Nat) : Int) from rfl, andI_nat _ 1 (by omega) (by omega)]
  simp only [Int.toNat_natCast, Int.ofNat_inj, Nat.testBit, eq_iff_iff]
  rw [Nat.and_comm]
  simp
@[simp] theorem F_ref01_Has_eq (s x : Int) : F_ref01_Has s x = some (hasS s x) := by
  unfold F_ref01_Has F_ref01_Valid hasS inNode
  by_cases h1 : 0 ≤ s
  · by_cases h2 : s < 1024
    · have h2' : s ≤ 1023 := by omega
      by_cases h3 : 0 ≤ x
      · by_cases h4 : x < 10
        · have h5 : ¬ x < 0 := by omega
          have := shr_testBit h1 h2 h3 h4
          simp [h1, h2, h2', h3, h4, h5, this]
        · simp [h1, h2, h2', h3, h4]
      · simp [h1, h2, h2', h3]
    · have h2' : ¬ s ≤ 1023 := by omega
      simp [h1, h2, h2']
  · simp [h1]
theorem orI_bit {s : Nat} {x : Int} (h1 : s < 1024) (h3 : 0 ≤ x) (h4 : x < 10) : orI .i64 (s : Int) (shlI .i64 1 x) = ((s ||| 2 ^ x.toNat : Nat) : Int) := by
  obtain ⟨j, rfl⟩ := Int.eq_ofNat_of_zero_le h3
  have hj : 2 ^ j ≤ 2 ^ 9 := Nat.pow_le_pow_right (by omega) (by omega)
  rw [shlI_one j (by omega)]
  exact orI_nat s (2 ^ j) (by omega) (by omega)
theorem or_lt {s : Nat} {x : Int} (h1 : s < 1024) (h4 : x < 10) : s ||| 2 ^ x.toNat < 1024 := by
  have hj : 2 ^ x.toNat ≤ 2 ^ 9 := Nat.pow_le_pow_right (by omega) (by omega)
  exact Nat.or_lt_two_pow (n := 10) h1 (by omega)
/-- the bits of nodes, and an error -/
def ofErr (s : Nat) : List Int → Int × Int × Unit
  | [] => (s, 0, ())
  | x :: l => if inNode x then (if s.testBit x.toNat then (0, 6, ()) else ofErr (s ||| 2 ^ x.toNat) l) else (0, 5, ())
theorem of_fold (g : Int → Int → Option (Int ⊕ (Int × Int × Unit)))
    (hg : ∀ x (s : Nat), s < 1024 → g x s = some (if inNode x then (if s.testBit x.toNat then .inr (0, 6, ()) else .inl ((s ||| 2 ^ x.toNat : Nat) : Int)) else .inr (0, 5, ()))) :
    ∀ (l : List Int) (s : Nat), s < 1024 → foldE g (fun s => some (s, 0, ())) l s = some (ofErr s l)
  | [], s, _ => rfl
  | x :: l, s, hs => by
    rw [foldE, hg x s hs, ofErr]
    cases h1 : inNode x with
    | false => simp
    | true =>
      cases h2 : s.testBit x.toNat with
      | true => simp
      | false =>
        simp only [if_true, Bool.false_eq_true, if_false]
        have h3 : x < 10 := by simp [inNode] at h1; omega
        exact of_fold g hg l _ (or_lt hs h3)
theorem F_nodeset_Of_eq (l : List Int) (hl : l.length ≤ 9223372036854775807) : F_nodeset_Of l = some (ofErr 0 l) := by
  unfold F_nodeset_Of
  rw [loopO_range l hl (fun i (s : Int) => (s, i, ())) (fun x s => if inNode x then (if hasS s x then some (.inr (0, 6, ())) else some (.inl (orI .i64 s (shlI .i64 1 x)))) else some (.inr (0, 5, ()))) (fun s => some (s, 0, ())) (fun i x s hd hx hw => ?_) (fun s hd => ?_) 0]
  · refine of_fold _ (fun x s hs => ?_) l 0 (by omega)
    cases h1 : inNode x with
    | false => simp
    | true =>
      have h3 : 0 ≤ x ∧ x < 10 := by simp [inNode] at h1; omega
      have h2 : hasS s x = s.testBit x.toNat := by simp [hasS, h1]; omega
      rw [h2, orI_bit hs h3.1 h3.2]
      cases s.testBit x.toNat <;> simp
  · simp only [hd, hx, hw, cond_true, Option.bind_some, F_nodeset_Has_eq]
    by_cases h0 : x < 0
    · have : ¬ 0 ≤ x := by omega
      simp [h0, inNode, this]
    · have h0' : 0 ≤ x := by omega
      by_cases h10 : 10 ≤ x
      · have : ¬ x < 10 := by omega
        simp [h0, h10, inNode, this, h0']
      · have h10' : x < 10 := by omega
        cases h : hasS s x <;> simp [h0, h10, inNode, h0', h10']
  · simp only [hd, cond_false]
theorem F_ref01_Of_eq (l : List Int) (hl : l.length ≤ 9223372036854775807) : F_ref01_Of l = some (ofErr 0 l) := by
  have : F_ref01_Of l = F_nodeset_Of l := by
    unfold F_ref01_Of F_nodeset_Of
    simp only [F_ref01_Has_eq, F_nodeset_Has_eq]
  rw [this, F_nodeset_Of_eq l hl]

/-! ### one level -/
@[simp] theorem F_threshold_level_1_eq (x : Int) : F_threshold_level_1 x = some (!inNode x) := by simp [F_threshold_level_1, F_threshold_node, inNode]
theorem F_ContainsFunc_eq (l : List Int) (hl : l.length ≤ 9223372036854775807) : F_slices_ContainsFunc_int_int_c122 l = some (l.any fun x => !inNode x) := by
  have key : ∀ (i : Nat) (k : Nat), i + k = l.length → Yd (loopO (fun (v1 : Int × Unit) => bif (decide (v1.1 < ((List.length l : Nat) : Int))) then Option.bind (idx l v1.1) fun x2 => Option.bind (F_threshold_level_1 x2) fun r3 => bif r3 then Option.map Sum.inr (some v1.1) else some (Sum.inl ((addI .i64 v1.1 (1 : Int)), ())) else Option.map Sum.inr (some (-1 : Int))) ((i : Int), ())) fun r => decide (0 ≤ r) = (l.drop i).any fun x => !inNode x := by
    intro i k
    induction k generalizing i with
    | zero =>
      intro hi
      refine ⟨-1, loopO_inr ?_, ?_⟩
      · have : ¬ ((i : Int) < (l.length : Int)) := by omega
        simp [this]
      · rw [List.drop_eq_nil_of_le (by omega)]; rfl
    | succ k ih =>
      intro hi
      have hlt : i < l.length := by omega
      have hd : decide ((i : Int) < ((l.length : Nat) : Int)) = true := decide_eq_true (Int.ofNat_lt.2 hlt)
      have hx : idx l (i : Int) = some l[i] := by rw [idx_nat]; exact List.getElem?_eq_getElem hlt
      have hw : addI .i64 (i : Int) 1 = ((i + 1 : Nat) : Int) := add64 (by omega) (by omega)
      rw [List.drop_eq_getElem_cons hlt, List.any_cons]
      cases h : inNode l[i] with
      | true =>
        rw [loopO_inl (s' := (((i + 1 : Nat) : Int), ())) (by simp only [hd, hx, hw, cond_true, Option.bind_some, F_threshold_level_1_eq, h]; rfl)]
        exact (ih (i + 1) (by omega)).mono fun r hr => by simpa using hr
      | false =>
        refine ⟨i, loopO_inr (by simp only [hd, hx, cond_true, Option.bind_some, F_threshold_level_1_eq, h]; rfl), ?_⟩
        simp
  obtain ⟨r, h1, h2⟩ := key 0 l.length (by omega)
  unfold F_slices_ContainsFunc_int_int_c122 F_slices_IndexFunc_int_int_c122
  simp only [Int.natCast_zero] at h1
  rw [h1]
  simpa using h2
def levelB (rec : TTrust → Option Int) (t : TTrust) : Option Int :=
  if t.Threshold < 1 ∨ addI .i64 t.Nodes.length t.Inner.length < t.Threshold then some 4
  else if (t.Nodes.any fun x => !inNode x) then some 5
  else if (ofErr 0 t.Nodes).2.1 = 0 then foldE (fun u (_ : Unit) => (rec u).map fun r => if r = 0 then .inl () else .inr r) (fun _ => some 0) t.Inner ()
  else some (ofErr 0 t.Nodes).2.1
theorem B_level {rec : (TTrust × Unit) → Option Int} {t : TTrust} (hn : t.Nodes.length ≤ 9223372036854775807) (hl : t.Inner.length ≤ 9223372036854775807) : B_threshold_level rec t = levelB (fun u => rec (u, ())) t := by
  unfold B_threshold_level levelB
  rw [F_ContainsFunc_eq _ hn, F_nodeset_Of_eq _ hn]
  rw [loopO_range t.Inner hl (fun i (_ : Unit) => (i, ())) (fun u (_ : Unit) => (rec (u, ())).map fun r => if r = 0 then .inl () else .inr r) (fun _ => some 0) (fun i x s hd hx hw => ?_) (fun s hd => ?_) ()]
  · by_cases h1 : t.Threshold < 1
    · simp [h1]
    · by_cases h2 : addI .i64 t.Nodes.length t.Inner.length < t.Threshold
      · simp [h1, h2]
      · simp only [h1, h2, decide_false, cond_false, Option.bind_some, or_self, if_false]
        cases (t.Nodes.any fun x => !inNode x) with
        | true => simp
        | false =>
          by_cases h3 : (ofErr 0 t.Nodes).2.1 = 0 <;> simp [h3]
  · simp only [hd, hx, hw, cond_true, Option.bind_some, TTrust.eta]
    cases rec (x, ()) with
    | none => rfl
    | some r => by_cases h : r = 0 <;> simp [h]
  · simp only [hd, cond_false]
theorem B_check {rec : (TTrust × Unit) → Option Int} {t : TTrust} (hn : t.Nodes.length ≤ 9223372036854775807) (hl : t.Inner.length ≤ 9223372036854775807) : B_ref02_check rec t = levelB (fun u => rec (u, ())) t := by
  unfold B_ref02_check levelB
  rw [loopO_range t.Nodes hn (fun i (_ : Unit) => (i, ())) (fun x (_ : Unit) => some (if inNode x then .inl () else .inr 5)) (fun _ => if (ofErr 0 t.Nodes).2.1 = 0 then foldE (fun u (_ : Unit) => (rec (u, ())).map fun r => if r = 0 then .inl () else .inr r) (fun _ => some 0) t.Inner () else some (ofErr 0 t.Nodes).2.1) (fun i x s hd hx hw => ?_) (fun s hd => ?_) ()]
  · by_cases h1 : t.Threshold < 1
    · simp [h1]
    · by_cases h2 : addI .i64 t.Nodes.length t.Inner.length < t.Threshold
      · simp [h1, h2]
      · simp only [h1, h2, decide_false, cond_false, Option.bind_some, or_self, if_false]
        have : ∀ (l : List Int) (fin : Unit → Option Int), foldE (fun x (_ : Unit) => some (if inNode x then .inl () else .inr 5)) fin l () = if (l.any fun x => !inNode x) then some 5 else fin () := by
          intro l fin
          induction l with
          | nil => rfl
          | cons x l ih =>
            rw [foldE, List.any_cons]
            cases h : inNode x with
            | true => simpa using ih
            | false => simp
        exact this _ _
  · simp only [hd, hx, hw, cond_true, Option.bind_some, inNode]
    by_cases h0 : x < 0
    · have h0' : ¬ 0 ≤ x := by omega
      simp [h0, h0']
    · have h0' : 0 ≤ x := by omega
      by_cases h1 : 10 ≤ x
      · have h1' : ¬ x < 10 := by omega
        simp [h0, h0', h1, h1']
      · have h1' : x < 10 := by omega
        simp [h0, h0', h1, h1']
  · simp only [hd, cond_false]
    rw [F_ref01_Of_eq _ hn, Option.bind_some]
    rw [loopO_range t.Inner hl (fun i (_ : Unit) => (i, ())) (fun u (_ : Unit) => (rec (u, ())).map fun r => if r = 0 then .inl () else .inr r) (fun _ => some 0) (fun i x s hd hx hw => ?_) (fun s hd => ?_) ()]
    · by_cases h3 : (ofErr 0 t.Nodes).2.1 = 0 <;> simp [h3]
    · simp only [hd, hx, hw, cond_true, Option.bind_some, TTrust.eta]
      cases rec (x, ()) with
      | none => rfl
      | some r => by_cases h : r = 0 <;> simp [h]
    · simp only [hd, cond_false]

/-! ### trusts as the source makes them -/
structure GoodT (t : TTrust) : Prop where
  nodes : ∀ x ∈ t.Nodes, 0 ≤ x ∧ x < 10
  nodup : t.Nodes.Nodup
  len : t.Nodes.length ≤ 10
  inner : t.Inner = [] ∨ ∃ x, 0 ≤ x ∧ x < 10 ∧ t.Inner = [⟨1, [x], []⟩]
  th : 1 ≤ t.Threshold ∧ t.Threshold ≤ t.Nodes.length + t.Inner.length
theorem ofErr_good : ∀ (l : List Int) (s : Nat), (∀ x ∈ l, 0 ≤ x ∧ x < 10) → l.Nodup → (∀ x ∈ l, s.testBit x.toNat = false) → (ofErr s l).2.1 = 0
  | [], s, _, _, _ => rfl
  | x :: l, s, h1, h2, h3 => by
    rw [List.nodup_cons] at h2
    have hx := h1 x (by simp)
    have : inNode x = true := by simp [inNode]; omega
    rw [ofErr, this, h3 x (by simp)]
    simp only [if_true, Bool.false_eq_true, if_false]
    refine ofErr_good l _ (fun y hy => h1 y (by simp [hy])) h2.2 fun y hy => ?_
    have hy1 := h1 y (by simp [hy])
    rw [Nat.testBit_or, h3 y (by simp [hy]), Nat.testBit_two_pow]
    have : x.toNat ≠ y.toNat := fun e => by
      have : x = y := by omega
      subst this
      exact h2.1 hy
    simp [this]
theorem any_good {l : List Int} (h : ∀ x ∈ l, 0 ≤ x ∧ x < 10) : (l.any fun x => !inNode x) = false := by
  rw [List.any_eq_false]
  intro x hx
  have := h x hx
  simp [inNode]
  omega
theorem levelB_leaf {rec : TTrust → Option Int} {x : Int} (h0 : 0 ≤ x) (h1 : x < 10) : levelB rec ⟨1, [x], []⟩ = some 0 := by
  have h2 : addI .i64 (1 : Nat) (0 : Nat) = 1 := rfl
  have h3 : (ofErr 0 [x]).2.1 = 0 := ofErr_good [x] 0 (by simp; omega) (by simp) (by simp)
  have h4 : ([x].any fun x => !inNode x) = false := any_good (by simp; omega)
  simp only [levelB, List.length_cons, List.length_nil, Nat.zero_add, h2, h3, h4]
  simp [foldE]
theorem level_good {t : TTrust} (h : GoodT t) {rec : TTrust → Option Int} (hr : ∀ x, 0 ≤ x → x < 10 → rec ⟨1, [x], []⟩ = some 0) : levelB rec t = some 0 := by
  have hil : t.Inner.length ≤ 1 := by rcases h.inner with e | ⟨x, _, _, e⟩ <;> rw [e] <;> simp
  have hlen := h.len
  have h2 : addI .i64 t.Nodes.length t.Inner.length = t.Nodes.length + t.Inner.length := add64 (by omega) (by omega)
  have h3 : (ofErr 0 t.Nodes).2.1 = 0 := ofErr_good _ 0 h.nodes h.nodup (by simp)
  have h4 := any_good h.nodes
  have h5 := h.th
  unfold levelB
  rw [h2, if_neg (by omega), h4, h3]
  simp only [Bool.false_eq_true, if_false, if_true]
  rcases h.inner with e | ⟨x, hx0, hx1, e⟩
  · rw [e]; rfl
  · rw [e, foldE, hr x hx0 hx1]; rfl
theorem sz_pos (t : TTrust) : ∃ n, SizeOf.sizeOf t = n + 1 := by
  have : 1 ≤ SizeOf.sizeOf t := by
    cases t
    simp only [TTrust.mk.sizeOf_spec]
    omega
  exact ⟨SizeOf.sizeOf t - 1, by omega⟩
theorem depth_leaf (n : Nat) (th : Int) (l : List Int) : I_threshold_Depth (n + 1) (⟨th, l, []⟩, ()) = some 1 := by
  show B_threshold_Depth _ _ = _
  rw [B_depth (by simp)]
  rfl
theorem size_leaf (n : Nat) (th : Int) (l : List Int) : I_threshold_Size (n + 1) (⟨th, l, []⟩, ()) = some (addI .i64 l.length (0 : Nat)) := by
  show B_threshold_Size _ _ = _
  rw [B_size (by simp)]
  rfl
theorem depth_good {t : TTrust} (h : GoodT t) : ∃ d, F_threshold_Depth t = some d ∧ d ≤ 2 := by
  obtain ⟨n, hn⟩ := sz_pos t
  have hil : t.Inner.length ≤ 1 := by rcases h.inner with e | ⟨x, _, _, e⟩ <;> rw [e] <;> simp
  unfold F_threshold_Depth
  rw [hn]
  show ∃ d, B_threshold_Depth (I_threshold_Depth (n + 1)) t = some d ∧ d ≤ 2
  rw [B_depth (by omega)]
  rcases h.inner with e | ⟨x, _, _, e⟩
  · rw [e]; exact ⟨1, rfl, by omega⟩
  · rw [e, foldE, depth_leaf n 1 [x]]
    exact ⟨2, rfl, by omega⟩
theorem size_good {t : TTrust} (h : GoodT t) : ∃ d, F_threshold_Size t = some d ∧ d ≤ 200 := by
  obtain ⟨n, hn⟩ := sz_pos t
  have hil : t.Inner.length ≤ 1 := by rcases h.inner with e | ⟨x, _, _, e⟩ <;> rw [e] <;> simp
  have hlen := h.len
  unfold F_threshold_Size
  rw [hn]
  show ∃ d, B_threshold_Size (I_threshold_Size (n + 1)) t = some d ∧ d ≤ 200
  rw [B_size (by omega), add64 (by omega) (by omega)]
  rcases h.inner with e | ⟨x, _, _, e⟩
  · rw [e]; exact ⟨_, rfl, by simp; omega⟩
  · rw [e, foldE, size_leaf n 1 [x]]
    have h1 : addI .i64 (([x] : List Int).length : Nat) (0 : Nat) = 1 := rfl
    rw [h1]
    refine ⟨_, rfl, ?_⟩
    simp only [List.length_cons, List.length_nil]
    rw [add64 (by omega) (by omega)]
    omega
theorem F_threshold_Valid_good {t : TTrust} (h : GoodT t) : F_threshold_Valid t = some 0 := by
  obtain ⟨d, h1, h2⟩ := depth_good h
  obtain ⟨z, h3, h4⟩ := size_good h
  obtain ⟨n, hn⟩ := sz_pos t
  have hil : t.Inner.length ≤ 1 := by rcases h.inner with e | ⟨x, _, _, e⟩ <;> rw [e] <;> simp
  have hlen := h.len
  have h5 : F_threshold_level t = some 0 := by
    unfold F_threshold_level
    rw [hn]
    show B_threshold_level (I_threshold_level (n + 1)) t = some 0
    rw [B_level (by omega) (by omega)]
    refine level_good h fun x hx0 hx1 => ?_
    show B_threshold_level (I_threshold_level n) ⟨1, [x], []⟩ = some 0
    rw [B_level (by simp) (by simp)]
    exact levelB_leaf hx0 hx1
  have h6 : ¬ 4 < d := by omega
  have h7 : ¬ 200 < z := by omega
  simp [F_threshold_Valid, h1, h3, h5, h6, h7]
theorem F_ref02_Valid_good {t : TTrust} (h : GoodT t) : F_ref02_Valid t = some 0 := by
  obtain ⟨d, h1, h2⟩ := depth_good h
  obtain ⟨z, h3, h4⟩ := size_good h
  obtain ⟨n, hn⟩ := sz_pos t
  have hil : t.Inner.length ≤ 1 := by rcases h.inner with e | ⟨x, _, _, e⟩ <;> rw [e] <;> simp
  have hlen := h.len
  have h5 : F_ref02_check t = some 0 := by
    unfold F_ref02_check
    rw [hn]
    show B_ref02_check (I_ref02_check (n + 1)) t = some 0
    rw [B_check (by omega) (by omega)]
    refine level_good h fun x hx0 hx1 => ?_
    show B_ref02_check (I_ref02_check n) ⟨1, [x], []⟩ = some 0
    rw [B_check (by simp) (by simp)]
    exact levelB_leaf hx0 hx1
  have h6 : ¬ 4 < d := by omega
  have h7 : ¬ 200 < z := by omega
  simp [F_ref02_Valid, ref_depth, ref_size, h1, h3, h5, h6, h7]
end Go.Proofs.Ytncjalhhkmojlaa

namespace Go.Proofs.Ytncjalhhkmojlaa
open Go.TQ

structure OkS (s : TSrc) : Prop where
  len : s.L.length ≤ 800
  lo : 0 ≤ s.At
  hi : s.At ≤ 800
theorem New_ok (l : List Int) : Yd (F_play_New l) fun s => OkS s := by
  have h : minI (l.length : Int) 800 = ((min l.length 800 : Nat) : Int) := by unfold minI; split <;> omega
  have h2 : slcOk 0 ((min l.length 800 : Nat) : Int) l.length = true := by
    simp only [slcOk, Bool.and_eq_true, decide_eq_true_eq]
    omega
  unfold F_play_New
  rw [h, h2]
  refine Yd.some ⟨?_, by simp, by simp⟩
  simp only [Int.toNat_natCast, List.length_drop, List.length_take]
  omega
theorem tmod_bd (x n : Int) (hn : 1 ≤ n) : -n < x.tmod n ∧ x.tmod n < n := by
  have h2 := Int.emod_nonneg x (show n ≠ 0 by omega)
  have h3 := Int.emod_lt_of_pos x (show 0 < n by omega)
  rw [Int.tmod_eq_emod]
  split
  · omega
  · rw [Int.natAbs_of_nonneg (by omega)]; omega
theorem N_ok {s : TSrc} (h : OkS s) {n : Int} (hn : n ≤ 1000000000) : Yd (F_play_Src_N s n) fun p => OkS p.2 ∧ 0 ≤ p.1 ∧ (1 ≤ n → p.1 < n) ∧ (n < 1 → p.1 = 0) := by
  unfold F_play_Src_N
  simp only [letJ_eq]
  refine Yd.cond (fun h1 => ?_) (fun h1 => ?_)
  · exact Yd.some ⟨h, by simp, fun _ => by simp; omega, fun _ => rfl⟩
  · simp only [decide_eq_false_iff_not, Int.not_le] at h1
    refine Yd.cond (fun h2 => ?_) (fun h2 => ?_)
    · simp only [decide_eq_true_eq] at h2
      exact Yd.some ⟨h, by simp, fun _ => by simp; omega, fun _ => rfl⟩
    · simp only [decide_eq_false_iff_not, Int.not_lt] at h2
      obtain ⟨hl, hlo, hhi⟩ := h
      have e1 : addI .i64 s.At 1 = s.At + 1 := add64 (by omega) (by omega)
      have e2 : subI .i64 (s.At + 1) 1 = s.At := by rw [sub64 (by omega) (by omega)]; omega
      rw [e1, e2]
      have hlt : s.At.toNat < s.L.length := by omega
      rw [idx_of _ hlo, List.getElem?_eq_getElem hlt, Option.bind_some, if_neg (by omega), if_neg (by omega)]
      have hb := tmod_bd s.L[s.At.toNat] n h2
      have e3 : remI .i64 s.L[s.At.toNat] n = s.L[s.At.toNat].tmod n := rfl
      rw [e3]
      generalize s.L[s.At.toNat].tmod n = y at hb
      have e4 : addI .i64 y n = y + n := add64 (by omega) (by omega)
      rw [e4]
      have h5 : remI .i64 (y + n) n = (y + n) % n := Int.tmod_eq_emod_of_nonneg (by omega)
      rw [h5]
      exact Yd.some ⟨⟨hl, by simp; omega, by simp; omega⟩, Int.emod_nonneg _ (by omega), fun _ => Int.emod_lt_of_pos _ (by omega), fun _ => by omega⟩
theorem Range_ok {s : TSrc} (h : OkS s) {a b : Int} (h1 : 0 ≤ a) (h2 : a ≤ b + 1) (h3 : b ≤ 1000000) : Yd (F_play_Src_Range s a b) fun p => OkS p.2 ∧ a ≤ p.1 ∧ (a ≤ b → p.1 ≤ b) ∧ (b < a → p.1 = a) := by
  unfold F_play_Src_Range
  have e1 : subI .i64 b a = b - a := sub64 (by omega) (by omega)
  have e2 : addI .i64 (b - a) 1 = b - a + 1 := add64 (by omega) (by omega)
  rw [e1, e2]
  refine (N_ok h (by omega)).bind fun p ⟨h4, h5, h6, h7⟩ => ?_
  have e3 : addI .i64 a p.1 = a + p.1 := by
    by_cases hq : b - a + 1 < 1
    · rw [h7 hq]; exact add64 (by omega) (by omega)
    · have := h6 (by omega); exact add64 (by omega) (by omega)
  rw [e3]
  refine Yd.some ⟨h4, by simp; omega, fun hab => ?_, fun hab => ?_⟩
  · have := h6 (by omega)
    show a + p.1 ≤ b
    omega
  · have := h7 (by omega)
    show a + p.1 = a
    omega
theorem Text_ok {s : TSrc} (h : OkS s) {l : List ByteArray} (h1 : 1 ≤ l.length) (h2 : l.length ≤ 1000) : Yd (F_play_Src_Text s l) fun p => OkS p.2 ∧ p.1 ∈ l := by
  unfold F_play_Src_Text
  refine (N_ok h (by omega)).bind fun p ⟨h4, h5, h6, _⟩ => ?_
  have := h6 (by omega)
  have hlt : p.1.toNat < l.length := by omega
  rw [idx_of _ h5, List.getElem?_eq_getElem hlt]
  exact Yd.some ⟨h4, List.getElem_mem hlt⟩
/-- one of the four values -/
def Val (v : ByteArray) : Prop := v ∈ [(ByteArray.mk #[97]), (ByteArray.mk #[98]), (ByteArray.mk #[99]), (ByteArray.mk #[97, 97])]
theorem Val.size {v : ByteArray} (h : Val v) : 1 ≤ v.size ∧ v.size ≤ 2 := by
  simp only [Val, List.mem_cons, List.not_mem_nil, or_false] at h
  rcases h with rfl | rfl | rfl | rfl <;> exact ⟨by decide, by decide⟩
theorem Value_ok {s : TSrc} (h : OkS s) : Yd (F_play_Src_Value s) fun p => OkS p.2 ∧ Val p.1 := by
  unfold F_play_Src_Value
  exact (Text_ok h (by simp) (by simp)).bind fun p hp => Yd.some hp
theorem Low_ok {s : TSrc} (h : OkS s) : Yd (F_play_Src_Low s) fun p => OkS p.2 ∧ 1 ≤ p.1.Counter ∧ p.1.Counter ≤ 6 ∧ Val p.1.Value := by
  unfold F_play_Src_Low
  refine (Range_ok h (by omega) (by omega) (by omega)).bind fun p ⟨h1, h2, h3, _⟩ => ?_
  refine (Value_ok h1).bind fun q ⟨h4, h5⟩ => ?_
  exact Yd.some ⟨h4, h2, h3 (by omega), h5⟩
/-- n nodes at most -/
theorem Trust_ok {s : TSrc} (h : OkS s) {n : Nat} (hn1 : 1 ≤ n) (hn : n ≤ 10) : Yd (F_play_Src_Trust s n) fun p => OkS p.2 ∧ GoodT p.1 ∧ (∀ x ∈ p.1.Nodes, x < n) ∧ p.1.Nodes ≠ [] := by
  unfold F_play_Src_Trust
  simp only [letJ_eq]
  -- the loop
  let I (i : Nat) (s : TSrc) (t : TTrust) (ns : List Int) (is : List TTrust) : Prop := OkS s ∧ t.Threshold = 0 ∧ (∀ x ∈ ns, 0 ≤ x ∧ x < i) ∧ ns.Nodup ∧ ns.length ≤ i ∧ is = []
  suffices key : ∀ (k i : Nat) (s : TSrc) (t : TTrust) (ns : List Int) (is : List TTrust), i + k = n → I i s t ns is → Yd (loopO _ ((i : Int), s, t, ns, is, ())) _ from key n 0 s _ _ _ (by omega) ⟨h, rfl, by simp, by simp, by simp, rfl⟩
  intro k
  induction k with
  | zero =>
    intro i s t ns is hi ⟨h1, h2, h3, h4, h5, h6⟩
    obtain rfl : i = n := by omega
    subst h6
    have hd : decide ((i : Int) < (i : Int)) = false := decide_eq_false (Int.lt_irrefl _)
    refine Yd.loop ?_
    simp only [hd, cond_false]
    refine Yd.inr ?_
    -- behind the nodes
    have fin : ∀ (s : TSrc) (ns : List Int) (is : List TTrust) (th : Int), OkS s → (∀ x ∈ ns, 0 ≤ x ∧ x < i) → ns.Nodup → ns.length ≤ 10 → ns ≠ [] → (is = [] ∨ ∃ x, 0 ≤ x ∧ x < 10 ∧ is = [⟨1, [x], []⟩]) → 1 ≤ th → th ≤ ns.length + is.length →
        OkS s ∧ GoodT ⟨th, ns, is⟩ ∧ (∀ x ∈ ns, x < (i : Int)) ∧ ns ≠ [] := by
      intro s ns is th a1 a2 a3 a4 a5 a6 a7 a8
      exact ⟨a1, ⟨fun x hx => by have := a2 x hx; exact ⟨this.1, by omega⟩, a3, a4, a6, a7, a8⟩, fun x hx => (a2 x hx).2, a5⟩
    have tail : ∀ (s : TSrc) (ns : List Int) (is : List TTrust), OkS s → (∀ x ∈ ns, 0 ≤ x ∧ x < i) → ns.Nodup → ns.length ≤ 10 → ns ≠ [] → (is = [] ∨ ∃ x, 0 ≤ x ∧ x < 10 ∧ is = [⟨1, [x], []⟩]) →
        Yd (Option.bind (F_play_Src_Range s (quoI .i64 (addI .i64 (addI .i64 ((List.length ns : Nat) : Int) ((List.length is : Nat) : Int)) (1 : Int)) (2 : Int)) (addI .i64 ((List.length ns : Nat) : Int) ((List.length is : Nat) : Int))) fun p9 =>
          Option.bind (F_play_Src_N p9.2 (6 : Int)) fun p12 =>
          bif (decide (p12.1 = (5 : Int))) then some ((TTrust.mk (1 : Int) ns is), p12.2) else some ((TTrust.mk p9.1 ns is), p12.2)) fun p => OkS p.2 ∧ GoodT p.1 ∧ (∀ x ∈ p.1.Nodes, x < (i : Int)) ∧ p.1.Nodes ≠ [] := by
      intro s ns is a1 a2 a3 a4 a5 a6
      have hp : 1 ≤ ns.length := by cases ns with | nil => exact absurd rfl a5 | cons x l => simp
      have hil : is.length ≤ 1 := by rcases a6 with e | ⟨x, _, _, e⟩ <;> rw [e] <;> simp
      have e1 : addI .i64 ((List.length ns : Nat) : Int) ((List.length is : Nat) : Int) = ns.length + is.length := add64 (by omega) (by omega)
      have e2 : addI .i64 ((ns.length : Int) + is.length) 1 = ns.length + is.length + 1 := add64 (by omega) (by omega)
      have e3 : quoI .i64 ((ns.length : Int) + is.length + 1) 2 = (ns.length + is.length + 1) / 2 := by
        show IntKind.i64.wrap (Int.tdiv _ _) = _
        rw [Int.tdiv_eq_ediv_of_nonneg (by omega)]
        exact wrap64 (by omega) (by omega)
      rw [e1, e2, e3]
      refine (Range_ok a1 (by omega) (by omega) (by omega)).bind fun p ⟨b1, b2, b3, _⟩ => ?_
      refine (N_ok b1 (by omega)).bind fun q ⟨c1, _⟩ => ?_
      have b4 := b3 (by omega)
      refine Yd.cond (fun _ => Yd.some (fin q.2 ns is 1 c1 a2 a3 a4 a5 a6 (by omega) (by omega))) (fun _ => Yd.some (fin q.2 ns is p.1 c1 a2 a3 a4 a5 a6 (by omega) (by omega)))
    have mid : ∀ (s : TSrc) (ns : List Int), OkS s → (∀ x ∈ ns, 0 ≤ x ∧ x < i) → ns.Nodup → ns.length ≤ 10 → ns ≠ [] →
        Yd (Option.bind (F_play_Src_N s (4 : Int)) fun p13 =>
          bif (decide (p13.1 = (3 : Int))) then
          Option.bind (F_play_Src_N p13.2 (i : Int)) fun p14 =>
          bif lenOk 56 (List.length ([] : List TTrust) + List.length [(TTrust.mk (1 : Int) [p14.1] ([] : List TTrust))]) then
          (Option.bind (F_play_Src_Range p14.2 (quoI .i64 (addI .i64 (addI .i64 ((List.length ns : Nat) : Int) ((List.length (([] : List TTrust) ++ [(TTrust.mk (1 : Int) [p14.1] ([] : List TTrust))]) : Nat) : Int)) (1 : Int)) (2 : Int)) (addI .i64 ((List.length ns : Nat) : Int) ((List.length (([] : List TTrust) ++ [(TTrust.mk (1 : Int) [p14.1] ([] : List TTrust))]) : Nat) : Int))) fun p9 =>
          Option.bind (F_play_Src_N p9.2 (6 : Int)) fun p12 =>
          bif (decide (p12.1 = (5 : Int))) then some ((TTrust.mk (1 : Int) ns (([] : List TTrust) ++ [(TTrust.mk (1 : Int) [p14.1] ([] : List TTrust))])), p12.2) else some ((TTrust.mk p9.1 ns (([] : List TTrust) ++ [(TTrust.mk (1 : Int) [p14.1] ([] : List TTrust))])), p12.2))
          else none
          else
          (Option.bind (F_play_Src_Range p13.2 (quoI .i64 (addI .i64 (addI .i64 ((List.length ns : Nat) : Int) ((List.length ([] : List TTrust) : Nat) : Int)) (1 : Int)) (2 : Int)) (addI .i64 ((List.length ns : Nat) : Int) ((List.length ([] : List TTrust) : Nat) : Int))) fun p9 =>
          Option.bind (F_play_Src_N p9.2 (6 : Int)) fun p12 =>
          bif (decide (p12.1 = (5 : Int))) then some ((TTrust.mk (1 : Int) ns []), p12.2) else some ((TTrust.mk p9.1 ns []), p12.2))) fun p => OkS p.2 ∧ GoodT p.1 ∧ (∀ x ∈ p.1.Nodes, x < (i : Int)) ∧ p.1.Nodes ≠ [] := by
      intro s ns a1 a2 a3 a4 a5
      refine (N_ok a1 (by omega)).bind fun p ⟨b1, b2, b3, _⟩ => ?_
      refine Yd.cond (fun _ => ?_) (fun _ => ?_)
      · refine (N_ok b1 (by omega)).bind fun q ⟨c1, c2, c3, _⟩ => ?_
        have c4 := c3 (by omega)
        rw [lenOk_small (by simp)]
        exact tail q.2 ns _ c1 a2 a3 a4 a5 (.inr ⟨q.1, c2, by omega, rfl⟩)
      · exact tail p.2 ns [] b1 a2 a3 a4 a5 (.inl rfl)
    refine Yd.cond (fun hz => ?_) (fun hz => ?_)
    · refine (N_ok h1 (by omega)).bind fun p ⟨b1, b2, b3, _⟩ => ?_
      have b4 := b3 (by omega)
      exact mid p.2 [p.1] b1 (by simp; omega) (by simp) (by simp) (by simp)
    · have hne : ns ≠ [] := by
        intro e
        subst e
        simp at hz
      exact mid s ns h1 h3 h4 (by omega) hne
  | succ k ih =>
    intro i s t ns is hi ⟨h1, h2, h3, h4, h5, h6⟩
    have hd : decide ((i : Int) < (n : Int)) = true := decide_eq_true (by omega)
    have hw : addI .i64 (i : Int) 1 = ((i + 1 : Nat) : Int) := add64 (by omega) (by omega)
    refine Yd.loop ?_
    simp only [hd, cond_true, hw]
    refine (N_ok h1 (by omega)).bind fun p ⟨b1, b2, b3, _⟩ => ?_
    refine Yd.cond (fun _ => ?_) (fun _ => ?_)
    · rw [lenOk_small (by simp; omega)]
      refine Yd.some (ih (i + 1) p.2 _ _ _ (by omega) ⟨b1, h2, ?_, ?_, by simp; omega, h6⟩)
      · intro x hx
        rcases List.mem_append.1 hx with hx | hx
        · have := h3 x hx; omega
        · simp at hx; omega
      · refine List.nodup_append.2 ⟨h4, by simp, ?_⟩
        intro x hx y hy
        simp at hy
        have := h3 x hx
        omega
    · refine Yd.some (ih (i + 1) p.2 _ _ _ (by omega) ⟨b1, h2, ?_, h4, by omega, h6⟩)
      intro x hx
      have := h3 x hx
      omega
end Go.Proofs.Ytncjalhhkmojlaa

namespace Go.Proofs.Ytncjalhhkmojlaa
open Go.TQ

def at_ (e : TEnvelope) (n : Int) : TBallot := ⟨n, e.Ballot.Value⟩
def primeOk (e : TEnvelope) : Bool := zeroB e.Prime || (!zeroB e.Prepared && lessB e.Prime e.Prepared && !compat e.Prime e.Prepared)
def prepOk (e : TEnvelope) : Bool :=
  finite e.Ballot && (zeroB e.Prepared || validB e.Prepared) && (zeroB e.Prime || validB e.Prime) && primeOk e && decide (0 ≤ e.Low) && decide (e.Low ≤ e.High) && decide (e.High ≤ e.Ballot.Counter)
    && (decide (e.High = 0) || preparesB e.Prepared e.Prime (at_ e e.High)) && (decide (e.Low = 0) || (!aborts e.Prepared (at_ e e.Low) && !aborts e.Prime (at_ e e.Low)))
def ranged (e : TEnvelope) : Bool := decide (1 ≤ e.Low) && decide (e.Low ≤ e.High) && decide (e.High ≤ 1000)
def commOk (e : TEnvelope) : Bool := finite e.Ballot && validB e.Prepared && compat e.Prepared e.Ballot && zeroB e.Prime && ranged e && decide (e.High ≤ e.Prepared.Counter)
def extOk (e : TEnvelope) : Bool := validB e.Ballot && zeroB e.Prepared && zeroB e.Prime && ranged e
def headOk (e : TEnvelope) : Bool := decide (0 ≤ e.Node) && decide (e.Node < 10) && decide (1 ≤ e.Slot) && decide (e.Slot ≤ 1000000) && decide (1 ≤ e.Seq) && decide (e.Seq ≤ 1000000)
def validE (tv : Int) (e : TEnvelope) : Bool :=
  headOk e && decide (tv = 0) && (if e.Kind = 1 then prepOk e else if e.Kind = 2 then commOk e else if e.Kind = 3 then extOk e else false)

theorem dlt (a b : Int) : decide (a < b) = !decide (b ≤ a) := by by_cases h : a < b <;> simp [h] <;> omega
theorem F_prepares_eq (e : TEnvelope) : F_envelopes_prepares e = some (prepOk e) := by
  unfold F_envelopes_prepares prepOk primeOk at_
  simp only [F_ballots_Zero_eq, F_ballots_Less_eq, F_ballots_Compatible_eq, F_envelopes_finite_eq, F_envelopes_optional_eq, F_envelopes_at_eq, F_ballots_Aborts_eq, F_ballots_Prepares_eq, Option.bind_some, bif_some, letJ_eq, dlt, bif_not]
  cases finite e.Ballot <;> cases (zeroB e.Prepared || validB e.Prepared) <;> cases (zeroB e.Prime || validB e.Prime) <;> simp
  by_cases h : e.High = 0 <;> simp [h, Bool.and_assoc]
theorem F_envelopes_Valid_eq {e : TEnvelope} {tv : Int} (hT : F_threshold_Valid e.Trust = some tv) : F_envelopes_Valid e = some (validE tv e) := by
  unfold F_envelopes_Valid validE headOk
  simp [F_prepares_eq, hT, dlt, commOk, extOk, ranged]
  grind
theorem F_ref24_Valid_eq {e : TEnvelope} {tv : Int} (hT : F_ref02_Valid e.Trust = some tv) : F_ref24_Valid e = some (validE tv e) := by
  unfold F_ref24_Valid validE headOk
  simp [hT, dlt, commOk, extOk, ranged, prepOk, finite, primeOk, at_]
  have h9 : decide (e.Node ≤ 9) = !decide (10 ≤ e.Node) := by by_cases h : e.Node ≤ 9 <;> simp [h] <;> omega
  rw [h9]
  generalize (decide (0 ≤ e.Node) && !decide (10 ≤ e.Node) && decide (1 ≤ e.Slot) && decide (e.Slot ≤ 1000000) && decide (1 ≤ e.Seq) && decide (e.Seq ≤ 1000000) && decide (tv = 0)) = hd
  by_cases k1 : e.Kind = 1
  · simp only [k1, decide_true, cond_true, if_true]
    by_cases hl : 0 ≤ e.Low
    · by_cases hh : e.Low ≤ e.High
      · have : decide (e.High ≤ 0) = decide (e.High = 0) := by rw [decide_eq_decide]; omega
        rw [this]
        grind
      · simp [hh]
    · simp [hl]
  · by_cases k2 : e.Kind = 2
    · simp only [k2, decide_true, cond_true, if_true]
      grind
    · simp only [k1, k2, decide_false, cond_false, if_false]
      grind

/-! ### votes -/
def fromC (e : TEnvelope) (v : ByteArray) (lo hi : Int) : Bool := decide (1 ≤ lo) && decide (lo ≤ hi) && decide (e.Ballot.Value = v) && decide (e.Low ≤ lo)
def votesC (e : TEnvelope) (v : ByteArray) (lo hi : Int) : Bool := fromC e v lo hi && (!decide (e.Kind = 1) || (!decide (e.Low = 0) && decide (hi ≤ e.High)))
def acceptsC (e : TEnvelope) (v : ByteArray) (lo hi : Int) : Bool := fromC e v lo hi && (decide (e.Kind = 3) || (decide (e.Kind = 2) && decide (hi ≤ e.High)))
def countE (e : TEnvelope) : Int := if e.Kind = 3 then 1000000 else e.Ballot.Counter
@[simp] theorem F_Right_VotesCommit_eq (r : TRight) (v : ByteArray) (lo hi : Int) : F_envelopes_Right_VotesCommit r v lo hi = some (votesC r.Envelope v lo hi) := by
  simp [F_envelopes_Right_VotesCommit, F_envelopes_Right_from, votesC, fromC]
@[simp] theorem F_Right_AcceptsCommit_eq (r : TRight) (v : ByteArray) (lo hi : Int) : F_envelopes_Right_AcceptsCommit r v lo hi = some (acceptsC r.Envelope v lo hi) := by
  simp [F_envelopes_Right_AcceptsCommit, F_envelopes_Right_from, acceptsC, fromC]
@[simp] theorem F_Right_Count_eq (r : TRight) : F_envelopes_Right_Count r = some (countE r.Envelope) := by
  simp [F_envelopes_Right_Count, countE, bif_dec, ite_some]
section
variable {e : TEnvelope} {tv : Int} (hT : F_threshold_Valid e.Trust = some tv)
 include hT
theorem F_VotesCommit_eq (v : ByteArray) (lo hi : Int) : F_envelopes_VotesCommit e v lo hi = some (validE tv e && votesC e v lo hi) := by simp [F_envelopes_VotesCommit, F_envelopes_Valid_eq hT]
theorem F_AcceptsCommit_eq (v : ByteArray) (lo hi : Int) : F_envelopes_AcceptsCommit e v lo hi = some (validE tv e && acceptsC e v lo hi) := by simp [F_envelopes_AcceptsCommit, F_envelopes_Valid_eq hT]
theorem F_Counter_eq : F_envelopes_Counter e = some (if validE tv e then countE e else 0) := by
  simp only [F_envelopes_Counter, TTrust.eta, TEnvelope.eta, F_envelopes_Valid_eq hT, Option.bind_some]
  cases validE tv e <;> simp
end

/-! ### the example -/
def ups (n : Nat) : List Int := (List.range n).map fun i : Nat => (i : Int)
theorem ups_succ (n : Nat) : ups (n + 1) = ups n ++ [(n : Int)] := by simp [ups, List.range_succ]
@[simp] theorem ups_length (n : Nat) : (ups n).length = n := by simp [ups]
theorem Flat_eq (n : Nat) (hn : n ≤ 1000) (k : Int) : F_play_Flat n k = some ⟨k, ups n, []⟩ := by
  unfold F_play_Flat
  suffices key : ∀ (m i : Nat) (t : TTrust), i + m = n → t.Threshold = k → t.Inner = [] → loopO (fun (v1 : Int × TTrust × (List Int) × Unit) =>
      bif (decide (v1.1 < (n : Int))) then
      bif lenOk 8 (List.length v1.2.2.1 + List.length [v1.1]) then
      some (Sum.inl ((addI .i64 v1.1 (1 : Int)), (TTrust.mk v1.2.1.Threshold ([] : List Int) v1.2.1.Inner), (v1.2.2.1 ++ [v1.1]), ()))
      else none
      else
      Option.map Sum.inr (some (TTrust.mk v1.2.1.Threshold v1.2.2.1 v1.2.1.Inner))) ((i : Int), t, ups i, ()) = some ⟨k, ups n, []⟩ from key n 0 _ (by omega) rfl rfl
  intro m
  induction m with
  | zero =>
    intro i t hi h1 h2
    obtain rfl : i = n := by omega
    refine loopO_inr ?_
    have hd : decide ((i : Int) < (i : Int)) = false := decide_eq_false (Int.lt_irrefl _)
    simp only [hd, cond_false, h1, h2, Option.map_some]
  | succ m ih =>
    intro i t hi h1 h2
    have hd : decide ((i : Int) < (n : Int)) = true := decide_eq_true (by omega)
    have hw : addI .i64 (i : Int) 1 = ((i + 1 : Nat) : Int) := add64 (by omega) (by omega)
    rw [loopO_inl (s' := (((i + 1 : Nat) : Int), ⟨t.Threshold, [], t.Inner⟩, ups (i + 1), ()))]
    · exact ih (i + 1) _ (by omega) h1 h2
    · simp only [hd, hw, cond_true]
      rw [lenOk_small (by simp; omega)]
      simp [ups_succ]
theorem flat_good (n : Nat) (hn : n ≤ 10) (k : Int) (h1 : 1 ≤ k) (h2 : k ≤ n) : GoodT ⟨k, ups n, []⟩ := by
  refine ⟨fun x hx => ?_, ?_, by simpa using hn, .inl rfl, h1, by simpa using h2⟩
  · simp only [ups, List.mem_map, List.mem_range] at hx
    obtain ⟨i, hi, rfl⟩ := hx
    omega
  · show (ups n).Nodup
    exact List.Pairwise.map _ (fun a b h e => h (by omega)) List.nodup_range
theorem sane24 : F_law24_sane = some true := by
  have hF : F_play_Flat 3 2 = some ⟨2, ups 3, []⟩ := Flat_eq 3 (by omega) 2
  have hT : F_threshold_Valid ⟨2, ups 3, []⟩ = some 0 := F_threshold_Valid_good (flat_good 3 (by omega) 2 (by omega) (by omega))
  have h1 : F_envelopes_Valid (TEnvelope.mk 0 1 1 (TTrust.mk 2 (ups 3) []) 1 (TBallot.mk 3 (ByteArray.mk #[97])) (TBallot.mk 3 (ByteArray.mk #[97])) (TBallot.mk 0 (ByteArray.mk #[])) 2 3) = some true := (F_envelopes_Valid_eq (e := (TEnvelope.mk 0 1 1 (TTrust.mk 2 (ups 3) []) 1 (TBallot.mk 3 (ByteArray.mk #[97])) (TBallot.mk 3 (ByteArray.mk #[97])) (TBallot.mk 0 (ByteArray.mk #[])) 2 3)) hT).trans (by decide +kernel)
  have h2 : F_envelopes_VotesCommit (TEnvelope.mk 0 1 1 (TTrust.mk 2 (ups 3) []) 1 (TBallot.mk 3 (ByteArray.mk #[97])) (TBallot.mk 3 (ByteArray.mk #[97])) (TBallot.mk 0 (ByteArray.mk #[])) 2 3) (ByteArray.mk #[97]) 2 3 = some true := (F_VotesCommit_eq (e := (TEnvelope.mk 0 1 1 (TTrust.mk 2 (ups 3) []) 1 (TBallot.mk 3 (ByteArray.mk #[97])) (TBallot.mk 3 (ByteArray.mk #[97])) (TBallot.mk 0 (ByteArray.mk #[])) 2 3)) hT _ _ _).trans (by decide +kernel)
  have h3 : F_envelopes_AcceptsCommit (TEnvelope.mk 0 1 1 (TTrust.mk 2 (ups 3) []) 1 (TBallot.mk 3 (ByteArray.mk #[97])) (TBallot.mk 3 (ByteArray.mk #[97])) (TBallot.mk 0 (ByteArray.mk #[])) 2 3) (ByteArray.mk #[97]) 2 3 = some false := (F_AcceptsCommit_eq (e := (TEnvelope.mk 0 1 1 (TTrust.mk 2 (ups 3) []) 1 (TBallot.mk 3 (ByteArray.mk #[97])) (TBallot.mk 3 (ByteArray.mk #[97])) (TBallot.mk 0 (ByteArray.mk #[])) 2 3)) hT _ _ _).trans (by decide +kernel)
  have h4 : F_envelopes_Counter (TEnvelope.mk 0 1 1 (TTrust.mk 2 (ups 3) []) 1 (TBallot.mk 3 (ByteArray.mk #[97])) (TBallot.mk 3 (ByteArray.mk #[97])) (TBallot.mk 0 (ByteArray.mk #[])) 2 3) = some 3 := (F_Counter_eq (e := (TEnvelope.mk 0 1 1 (TTrust.mk 2 (ups 3) []) 1 (TBallot.mk 3 (ByteArray.mk #[97])) (TBallot.mk 3 (ByteArray.mk #[97])) (TBallot.mk 0 (ByteArray.mk #[])) 2 3)) hT).trans (by decide +kernel)
  simp only [F_law24_sane, hF, Option.bind_some, h1, h2, h3, h4, cond_true, Bool.not_false, decide_true]

/-! ### envelopes of the source -/
structure EnvOf (node slot n : Int) (e : TEnvelope) : Prop where
  node : e.Node = node
  slot : e.Slot = slot
  seq : 1 ≤ e.Seq ∧ e.Seq ≤ 9
  trust : GoodT e.Trust
  nodes : ∀ x ∈ e.Trust.Nodes, x < n
  ne : e.Trust.Nodes ≠ []
  val : Val e.Ballot.Value
  valid : validE 0 e = true
theorem validB_of {b : TBallot} (h1 : 1 ≤ b.Counter) (h2 : b.Counter ≤ 1000) (h3 : Val b.Value) : validB b = true := by
  have := h3.size
  have h4 : b.Value.size ≤ 200 := by omega
  simp [validB, h1, h2, h4, this.1]
theorem Envelope_ok {s : TSrc} (h : OkS s) {node slot : Int} (hn0 : 0 ≤ node) (hn1 : node < 10) (hs0 : 1 ≤ slot) (hs1 : slot ≤ 1000000) {n : Nat} (hn2 : 1 ≤ n) (hn : n ≤ 10) :
    Yd (F_play_Src_Envelope s node slot n) fun p => OkS p.2 ∧ EnvOf node slot n p.1 := by
  unfold F_play_Src_Envelope
  refine (Range_ok h (by omega) (by omega) (by omega)).bind fun p1 ⟨a1, a2, a3, _⟩ => ?_
  have a4 := a3 (by omega)
  refine (Trust_ok a1 hn2 hn).bind fun p2 ⟨b1, b2, b3, b4⟩ => ?_
  refine (Value_ok b1).bind fun p3 ⟨c1, c2⟩ => ?_
  have c3 := c2.size
  have hv : ∀ k : Int, 1 ≤ k → k ≤ 1000 → validB ⟨k, p3.1⟩ = true := fun k h1 h2 => validB_of h1 h2 c2
  simp only [TTrust.eta, TEnvelope.eta]
  have hd : ∀ e : TEnvelope, e.Node = node → e.Slot = slot → e.Seq = p1.1 → headOk e = true := by
    intro e h1 h2 h3
    simp only [headOk, h1, h2, h3, Bool.and_eq_true, decide_eq_true_eq]
    omega
  refine Yd.join (fun v => OkS v.1 ∧ EnvOf node slot n v.2.1) (fun v hv => Yd.some hv) fun j5 hj5 => ?_
  refine (N_ok c1 (by omega)).bind fun p6 ⟨d1, _⟩ => ?_
  refine Yd.join (fun v => OkS v.1 ∧ v.2.1 = TEnvelope.mk node slot p1.1 p2.1 0 ⟨0, noVal⟩ ⟨0, noVal⟩ ⟨0, noVal⟩ 0 0) (fun v ⟨hv1, hv2⟩ => ?_) fun j8 hj8 => ?_
  · -- preparing
    refine Yd.join (fun v => OkS v.1 ∧ EnvOf node slot n v.2.1) (fun v hv => hj5 _ hv) fun j10 hj10 => ?_
    refine (Range_ok hv1 (by omega) (by omega) (by omega)).bind fun p11 ⟨e1, e2, e3, _⟩ => ?_
    have e4 := e3 (by omega)
    simp only [hv2]
    refine Yd.join (fun v => OkS v.1 ∧ v.2.1.Node = node ∧ v.2.1.Slot = slot ∧ v.2.1.Seq = p1.1 ∧ v.2.1.Trust = p2.1 ∧ v.2.1.Kind = 1 ∧ v.2.1.Ballot = ⟨p11.1, p3.1⟩ ∧ (zeroB v.2.1.Prepared = true ∨ validB v.2.1.Prepared = true)) (fun v ⟨f0, f1, f2, f3, f4, f5, f6, f7⟩ => ?_) fun j13 hj13 => ?_
    · rw [f6]
      have g1 : addI .i64 p11.1 1 = p11.1 + 1 := add64 (by omega) (by omega)
      simp only [g1]
      refine (N_ok f0 (by omega)).bind fun p14 ⟨k1, k2, k3, _⟩ => ?_
      have k4 := k3 (by omega)
      have g2 : addI .i64 p14.1 1 = p14.1 + 1 := add64 (by omega) (by omega)
      simp only [g2]
      refine (N_ok k1 (by omega)).bind fun p15 ⟨l1, l2, l3, _⟩ => ?_
      have hTr : ∀ t, t = p2.1 → F_ref02_Valid t = some 0 := fun t ht => by rw [ht]; exact F_ref02_Valid_good b2
      have done : ∀ e : TEnvelope, e.Node = node → e.Slot = slot → e.Seq = p1.1 → e.Trust = p2.1 → e.Ballot = ⟨p11.1, p3.1⟩ → validE 0 e = true → EnvOf node slot n e := by
        intro e h1 h2 h3 h4 h5 h6
        exact ⟨h1, h2, by rw [h3]; exact ⟨a2, a4⟩, by rw [h4]; exact b2, by rw [h4]; exact b3, by rw [h4]; exact b4, by rw [h5]; exact c2, h6⟩
      refine Yd.join (fun w => w.1.Node = node ∧ w.1.Slot = slot ∧ w.1.Seq = p1.1 ∧ w.1.Trust = p2.1 ∧ w.1.Kind = 1 ∧ w.1.Ballot = ⟨p11.1, p3.1⟩ ∧ (zeroB w.1.Prepared = true ∨ validB w.1.Prepared = true) ∧ (validE 0 w.1 = true ∨ w.1.Low = 0)) (fun w ⟨m1, m2, m3, m4, m5, m6, m7, m8⟩ => ?_) fun j17 hj17 => ?_
      · refine Yd.join (fun w => w.1.Node = node ∧ w.1.Slot = slot ∧ w.1.Seq = p1.1 ∧ w.1.Trust = p2.1 ∧ w.1.Kind = 1 ∧ w.1.Ballot = ⟨p11.1, p3.1⟩ ∧ (zeroB w.1.Prepared = true ∨ validB w.1.Prepared = true) ∧ (validE 0 w.1 = true ∨ w.1.Low = 0 ∧ w.1.High = 0)) (fun w ⟨o1, o2, o3, o4, o5, o6, o7, o8⟩ => ?_) fun j19 hj19 => ?_
        · rw [F_ref24_Valid_eq (hTr _ o4)]
          simp only [Option.bind_some, bif_not]
          refine Yd.cond (fun hx => hj10 _ ⟨l1, done _ o1 o2 o3 o4 o6 hx⟩) (fun hx => hj10 _ ⟨l1, done _ o1 o2 o3 o4 o6 ?_⟩)
          rcases o8 with o8 | ⟨o8, o9⟩
          · rw [o8] at hx; cases hx
          · have q1 : finite w.1.Ballot = true := by rw [o6]; simp [finite, hv p11.1 e2 (by omega)]; omega
            have q2 : zeroB (TBallot.mk 0 (ByteArray.mk #[])) = true := by decide +kernel
            have q3 : (zeroB w.1.Prepared || validB w.1.Prepared) = true := by simpa using o7
            have q4 := hd w.1 o1 o2 o3
            have q5 : 0 ≤ w.1.Ballot.Counter := by rw [o6]; show 0 ≤ p11.1; omega
            simp only [validE, headOk, prepOk, primeOk, o5, o8, o9, q1, q2, q3, if_true] at q4 ⊢
            simp [q4, q5]
        · rw [F_ref24_Valid_eq (hTr _ m4)]
          simp only [Option.bind_some, bif_not]
          refine Yd.cond (fun hx => hj19 _ ⟨m1, m2, m3, m4, m5, m6, m7, .inl hx⟩) (fun hx => hj19 _ ⟨m1, m2, m3, m4, m5, m6, m7, .inr ⟨?_, rfl⟩⟩)
          rcases m8 with m8 | m8
          · rw [m8] at hx; cases hx
          · exact m8
      · rw [F_ref24_Valid_eq (e := TEnvelope.mk v.2.1.Node v.2.1.Slot v.2.1.Seq v.2.1.Trust v.2.1.Kind ⟨p11.1, p3.1⟩ v.2.1.Prepared v.2.1.Prime p15.1 p14.1) (tv := 0) (hTr _ f4)]
        simp only [Option.bind_some, bif_not]
        refine Yd.cond (fun hx => hj17 _ ⟨f1, f2, f3, f4, f5, rfl, f7, .inl hx⟩) (fun hx => hj17 _ ⟨f1, f2, f3, f4, f5, rfl, f7, .inr rfl⟩)
    · refine (N_ok e1 (by omega)).bind fun p23 ⟨k1, _⟩ => ?_
      refine Yd.cond (fun _ => ?_) (fun _ => ?_)
      · refine (Low_ok k1).bind fun p24 ⟨l1, l2, l3, l4⟩ => ?_
        refine (N_ok l1 (by omega)).bind fun p25 ⟨m1, _⟩ => ?_
        have hvl := validB_of (b := p24.1) l2 (by omega) l4
        refine Yd.cond (fun _ => ?_) (fun _ => ?_)
        · refine (Low_ok m1).bind fun p26 ⟨o1, _⟩ => ?_
          exact hj13 _ ⟨o1, rfl, rfl, rfl, rfl, rfl, rfl, .inr hvl⟩
        · exact hj13 _ ⟨m1, rfl, rfl, rfl, rfl, rfl, rfl, .inr hvl⟩
      · have z0 : zeroB (TBallot.mk 0 noVal) = true := by decide +kernel
        exact hj13 _ ⟨k1, rfl, rfl, rfl, rfl, rfl, rfl, .inl z0⟩
  · have z0 : zeroB (TBallot.mk 0 (ByteArray.mk #[])) = true := by decide +kernel
    refine Yd.cond (fun _ => ?_) (fun _ => ?_)
    · refine (Range_ok d1 (by omega) (by omega) (by omega)).bind fun p27 ⟨e1, e2, e3, _⟩ => ?_
      refine (Range_ok e1 (by omega) (by omega) (by omega)).bind fun p28 ⟨f1, f2, f3, _⟩ => ?_
      refine (N_ok f1 (by omega)).bind fun p29 ⟨k1, k2, k3, _⟩ => ?_
      refine (N_ok k1 (by omega)).bind fun p30 ⟨l1, l2, l3, _⟩ => ?_
      have e4 := e3 (by omega)
      have f4 := f3 (by omega)
      have k4 := k3 (by omega)
      have l4 := l3 (by omega)
      have g1 : addI .i64 p28.1 p29.1 = p28.1 + p29.1 := add64 (by omega) (by omega)
      have g2 : addI .i64 (p28.1 + p29.1) p30.1 = p28.1 + p29.1 + p30.1 := add64 (by omega) (by omega)
      simp only [g1, g2]
      refine hj5 _ ⟨l1, ⟨rfl, rfl, ⟨a2, a4⟩, b2, b3, b4, c2, ?_⟩⟩
      have q4 := hd ⟨node, slot, p1.1, p2.1, 2, ⟨p27.1, p3.1⟩, ⟨p28.1 + p29.1 + p30.1, p3.1⟩, ⟨0, ByteArray.mk #[]⟩, p28.1, p28.1 + p29.1⟩ rfl rfl rfl
      have q5 := hv p27.1 e2 (by omega)
      have q6 := hv (p28.1 + p29.1 + p30.1) (by omega) (by omega)
      have r1 : p27.1 ≤ 1000 := by omega
      have r2 : p28.1 ≤ p28.1 + p29.1 := by omega
      have r3 : p28.1 + p29.1 ≤ 1000 := by omega
      have r4 : p28.1 + p29.1 ≤ p28.1 + p29.1 + p30.1 := by omega
      simp [validE, q4, commOk, finite, q5, q6, compat, z0, ranged, r1, f2, r3, r4]
      omega
    · refine Yd.cond (fun _ => ?_) (fun _ => ?_)
      · refine (N_ok d1 (by omega)).bind fun p31 ⟨e1, _⟩ => ?_
        refine Yd.cond (fun _ => ?_) (fun _ => hj8 _ ⟨e1, rfl⟩)
        refine (Range_ok e1 (by omega) (by omega) (by omega)).bind fun p32 ⟨f1, f2, f3, _⟩ => ?_
        refine (Range_ok f1 (by omega) (by omega) (by omega)).bind fun p33 ⟨k1, k2, k3, _⟩ => ?_
        refine (N_ok k1 (by omega)).bind fun p34 ⟨l1, l2, l3, _⟩ => ?_
        have f4 := f3 (by omega)
        have k4 := k3 (by omega)
        have l4 := l3 (by omega)
        have g1 : addI .i64 p33.1 p34.1 = p33.1 + p34.1 := add64 (by omega) (by omega)
        simp only [g1]
        refine hj5 _ ⟨l1, ⟨rfl, rfl, ⟨a2, a4⟩, b2, b3, b4, c2, ?_⟩⟩
        have q4 := hd ⟨node, slot, p1.1, p2.1, 3, ⟨p32.1, p3.1⟩, ⟨0, ByteArray.mk #[]⟩, ⟨0, ByteArray.mk #[]⟩, p33.1, p33.1 + p34.1⟩ rfl rfl rfl
        have q5 := hv p32.1 f2 (by omega)
        have r3 : p33.1 + p34.1 ≤ 1000 := by omega
        simp [validE, q4, extOk, q5, z0, ranged, k2, r3]
        omega
      · exact hj8 _ ⟨d1, rfl⟩
end Go.Proofs.Ytncjalhhkmojlaa

namespace Go.Proofs.Ytncjalhhkmojlaa
open Go.TQ

end Go.Proofs.Ytncjalhhkmojlaa

namespace Go.Proofs.Ytncjalhhkmojlaa
open Go.TQ

/-- trusts whose lists are of modest length -/
inductive SmT : TTrust → Prop where
  | mk (t : TTrust) (h1 : t.Nodes.length ≤ 1000000) (h2 : t.Inner.length ≤ 1000000) (h3 : ∀ u ∈ t.Inner, SmT u) : SmT t
theorem SmT.nodes {t : TTrust} : SmT t → t.Nodes.length ≤ 1000000 | .mk _ h _ _ => h
theorem SmT.len {t : TTrust} : SmT t → t.Inner.length ≤ 1000000 | .mk _ _ h _ => h
theorem SmT.inner {t : TTrust} : SmT t → ∀ u ∈ t.Inner, SmT u | .mk _ _ _ h => h
theorem inner_lt {t u : TTrust} (h : u ∈ t.Inner) : SizeOf.sizeOf u < SizeOf.sizeOf t := by
  have h1 := List.sizeOf_lt_of_mem h
  cases t with
  | mk th ns is =>
    simp only [TTrust.mk.sizeOf_spec] at h1 ⊢
    omega
theorem GoodT.sm {t : TTrust} (h : GoodT t) : SmT t := by
  have := h.len
  refine .mk t (by omega) ?_ fun u hu => ?_
  · rcases h.inner with e | ⟨x, _, _, e⟩ <;> rw [e] <;> simp
  · rcases h.inner with e | ⟨x, _, _, e⟩
    · rw [e] at hu; cases hu
    · rw [e] at hu
      simp only [List.mem_singleton] at hu
      subst hu
      exact .mk _ (by simp) (by simp) (by simp)

/-! ### copies -/
@[simp] theorem clone_eq (l : List Int) (h : l.length ≤ 1000000) : F_slices_Clone_int_int l = some l := by
  unfold F_slices_Clone_int_int
  rw [lenOk_small (by simp; omega)]
  cases l with
  | nil => simp
  | cons x l => simp
theorem I_copies {n : Nat} : ∀ {t : TTrust}, SizeOf.sizeOf t < n → SmT t → I_copies_Trust n (t, ()) = some t := by
  induction n with
  | zero => intro t h; omega
  | succ n ih =>
    intro t hs hm
    show B_copies_Trust (I_copies_Trust n) t = some t
    unfold B_copies_Trust
    have hl := hm.len
    rw [clone_eq _ hm.nodes, Option.bind_some]
    -- the elements are copied one by one
    suffices key : ∀ (k i : Nat) (t' : TTrust), i + k = t.Inner.length → t'.Threshold = t.Threshold → t'.Nodes = t.Nodes → loopO (fun (v2 : Int × TTrust × (List TTrust) × Unit) =>
        bif (decide (v2.1 < ((List.length t.Inner : Nat) : Int))) then
        Option.bind (idx t.Inner v2.1) fun x3 =>
        Option.bind (I_copies_Trust n ((TTrust.mk x3.Threshold x3.Nodes x3.Inner), ())) fun r4 =>
        bif lenOk 56 (List.length v2.2.2.1 + List.length [(TTrust.mk r4.Threshold r4.Nodes r4.Inner)]) then
        some (Sum.inl ((addI .i64 v2.1 (1 : Int)), (TTrust.mk v2.2.1.Threshold v2.2.1.Nodes ([] : List TTrust)), (v2.2.2.1 ++ [(TTrust.mk r4.Threshold r4.Nodes r4.Inner)]), ()))
        else none
        else
        Option.map Sum.inr (some (TTrust.mk v2.2.1.Threshold v2.2.1.Nodes v2.2.2.1))) ((i : Int), t', t.Inner.take i, ()) = some t by
      have := key t.Inner.length 0 ⟨t.Threshold, t.Nodes, []⟩ (by omega) rfl rfl
      simpa using this
    intro k
    induction k with
    | zero =>
      intro i t' hi h1 h2
      refine loopO_inr ?_
      have hd : decide ((i : Int) < ((t.Inner.length : Nat) : Int)) = false := decide_eq_false (by omega)
      simp only [hd, cond_false, Option.map_some, h1, h2]
      rw [List.take_of_length_le (by omega), TTrust.eta]
    | succ k ihk =>
      intro i t' hi h1 h2
      have hlt : i < t.Inner.length := by omega
      have hd : decide ((i : Int) < ((t.Inner.length : Nat) : Int)) = true := decide_eq_true (by omega)
      have hx : idx t.Inner (i : Int) = some t.Inner[i] := by rw [idx_nat]; exact List.getElem?_eq_getElem hlt
      have hw : addI .i64 (i : Int) 1 = ((i + 1 : Nat) : Int) := add64 (by omega) (by omega)
      have hmem : t.Inner[i] ∈ t.Inner := List.getElem_mem hlt
      have hr := ih (t := t.Inner[i]) (by have := inner_lt hmem; omega) (hm.inner _ hmem)
      rw [loopO_inl (s' := (((i + 1 : Nat) : Int), ⟨t'.Threshold, t'.Nodes, []⟩, t.Inner.take (i + 1), ()))]
      · exact ihk (i + 1) _ (by omega) h1 h2
      · simp only [hd, cond_true, hx, hw, Option.bind_some, TTrust.eta, hr]
        rw [lenOk_small (by simp; omega), List.take_succ_eq_append_getElem hlt]
        rfl
@[simp] theorem copies_eq {t : TTrust} (h : SmT t) : F_copies_Trust t = some t := I_copies (by omega) h

/-! ### validity -/
theorem foldE_total {α σ ρ : Type} {g : α → σ → Option (σ ⊕ ρ)} {fin : σ → Option ρ} (hf : ∀ s, ∃ r, fin s = some r) : ∀ (l : List α), (∀ x ∈ l, ∀ s, ∃ y, g x s = some y) → ∀ s, ∃ r, foldE g fin l s = some r
  | [], _, s => hf s
  | x :: l, h, s => by
    obtain ⟨y, hy⟩ := h x (by simp) s
    rw [foldE, hy]
    cases y with
    | inr r => exact ⟨r, rfl⟩
    | inl s' => exact foldE_total hf l (fun x hx => h x (by simp [hx])) s'
theorem foldE_congr {α σ ρ : Type} {g g' : α → σ → Option (σ ⊕ ρ)} {fin : σ → Option ρ} : ∀ (l : List α), (∀ x ∈ l, ∀ s, g x s = g' x s) → ∀ s, foldE g fin l s = foldE g' fin l s
  | [], _, s => rfl
  | x :: l, h, s => by
    rw [foldE, foldE, h x (by simp) s]
    cases g' x s with
    | none => rfl
    | some y =>
      cases y with
      | inr r => rfl
      | inl s' => exact foldE_congr l (fun x hx => h x (by simp [hx])) s'
theorem depth_total {n : Nat} : ∀ {t : TTrust}, SizeOf.sizeOf t < n → SmT t → ∃ d, I_threshold_Depth n (t, ()) = some d := by
  induction n with
  | zero => intro t h; omega
  | succ n ih =>
    intro t hs hm
    show ∃ d, B_threshold_Depth (I_threshold_Depth n) t = some d
    have hl := hm.len
    rw [B_depth (by omega)]
    refine foldE_total (fun s => ⟨_, rfl⟩) _ (fun u hu s => ?_) _
    obtain ⟨d, hd⟩ := ih (t := u) (by have := inner_lt hu; omega) (hm.inner u hu)
    exact ⟨_, by rw [hd]; rfl⟩
theorem size_total {n : Nat} : ∀ {t : TTrust}, SizeOf.sizeOf t < n → SmT t → ∃ d, I_threshold_Size n (t, ()) = some d := by
  induction n with
  | zero => intro t h; omega
  | succ n ih =>
    intro t hs hm
    show ∃ d, B_threshold_Size (I_threshold_Size n) t = some d
    have hl := hm.len
    rw [B_size (by omega)]
    refine foldE_total (fun s => ⟨_, rfl⟩) _ (fun u hu s => ?_) _
    obtain ⟨d, hd⟩ := ih (t := u) (by have := inner_lt hu; omega) (hm.inner u hu)
    exact ⟨_, by rw [hd]; rfl⟩
theorem levelB_total {rec : TTrust → Option Int} {t : TTrust} (h : ∀ u ∈ t.Inner, ∃ r, rec u = some r) : ∃ r, levelB rec t = some r := by
  unfold levelB
  split
  · exact ⟨_, rfl⟩
  · split
    · exact ⟨_, rfl⟩
    · split
      · refine foldE_total (fun s => ⟨_, rfl⟩) _ (fun u hu s => ?_) _
        obtain ⟨r, hr⟩ := h u hu
        exact ⟨_, by rw [hr]; rfl⟩
      · exact ⟨_, rfl⟩
theorem levelB_congr {rec rec' : TTrust → Option Int} {t : TTrust} (h : ∀ u ∈ t.Inner, rec u = rec' u) : levelB rec t = levelB rec' t := by
  unfold levelB
  rw [foldE_congr _ fun u hu s => by rw [h u hu]]
theorem level_total {n : Nat} : ∀ {t : TTrust}, SizeOf.sizeOf t < n → SmT t → ∃ d, I_threshold_level n (t, ()) = some d ∧ I_ref02_check n (t, ()) = some d := by
  induction n with
  | zero => intro t h; omega
  | succ n ih =>
    intro t hs hm
    show ∃ d, B_threshold_level (I_threshold_level n) t = some d ∧ B_ref02_check (I_ref02_check n) t = some d
    have hl := hm.len
    have hn := hm.nodes
    rw [B_level (by omega) (by omega), B_check (by omega) (by omega)]
    have hih : ∀ u ∈ t.Inner, ∃ r, I_threshold_level n (u, ()) = some r ∧ I_ref02_check n (u, ()) = some r := fun u hu => ih (t := u) (by have := inner_lt hu; omega) (hm.inner u hu)
    obtain ⟨r, hr⟩ := levelB_total (rec := fun u => I_threshold_level n (u, ())) (t := t) fun u hu => by obtain ⟨r, h1, _⟩ := hih u hu; exact ⟨r, h1⟩
    refine ⟨r, hr, ?_⟩
    rw [← hr]
    refine levelB_congr fun u hu => ?_
    obtain ⟨r, h1, h2⟩ := hih u hu
    rw [h1, h2]
theorem valid_both {t : TTrust} (h : SmT t) : ∃ v, F_threshold_Valid t = some v ∧ F_ref02_Valid t = some v := by
  obtain ⟨d, hd⟩ : ∃ d, F_threshold_Depth t = some d := depth_total (by omega) h
  obtain ⟨z, hz⟩ : ∃ z, F_threshold_Size t = some z := size_total (by omega) h
  obtain ⟨l, hl1, hl2⟩ : ∃ l, F_threshold_level t = some l ∧ F_ref02_check t = some l := level_total (by omega) h
  simp [F_threshold_Valid, F_ref02_Valid, ref_depth, ref_size, hd, hz, hl1, hl2]
noncomputable def tval (t : TTrust) : Int := (F_threshold_Valid t).getD 1
theorem tval_eq {t : TTrust} (h : SmT t) : F_threshold_Valid t = some (tval t) := by
  obtain ⟨v, h1, _⟩ := valid_both h
  rw [tval, h1]; rfl
theorem tval_good {t : TTrust} (h : GoodT t) : tval t = 0 := by rw [tval, F_threshold_Valid_good h]; rfl
noncomputable def isValid (e : TEnvelope) : Bool := validE (tval e.Trust) e
theorem Valid_eq {e : TEnvelope} (h : SmT e.Trust) : F_envelopes_Valid e = some (isValid e) := F_envelopes_Valid_eq (tval_eq h)
/-! ### satisfaction -/
def hasN (s : Nat) (x : Int) : Bool := inNode x && s.testBit x.toNat
mutual
def satT (s : Nat) : TTrust → Bool
  | ⟨th, ns, is⟩ => decide (th ≤ ((ns.countP (hasN s) + satC s is : Nat) : Int))
def satC (s : Nat) : List TTrust → Nat
  | [] => 0
  | t :: l => (if satT s t then 1 else 0) + satC s l
end
/-- more nodes satisfy more -/
theorem hasN_mono {s s' : Nat} (h : ∀ k, s.testBit k = true → s'.testBit k = true) (x : Int) (hx : hasN s x = true) : hasN s' x = true := by
  simp only [hasN, Bool.and_eq_true] at hx ⊢
  exact ⟨hx.1, h _ hx.2⟩
mutual
theorem satT_mono {s s' : Nat} (h : ∀ k, s.testBit k = true → s'.testBit k = true) : ∀ (t : TTrust), satT s t = true → satT s' t = true
  | ⟨th, ns, is⟩, ht => by
    rw [satT, decide_eq_true_eq] at ht ⊢
    have h1 := satC_mono h is
    have h2 : ns.countP (hasN s) ≤ ns.countP (hasN s') := List.countP_mono_left fun x _ hx => hasN_mono h x hx
    omega
theorem satC_mono {s s' : Nat} (h : ∀ k, s.testBit k = true → s'.testBit k = true) : ∀ (l : List TTrust), satC s l ≤ satC s' l
  | [] => by simp [satC]
  | t :: l => by
    have h1 := satC_mono h l
    have h2 := satT_mono h t
    rw [satC, satC]
    cases hs : satT s t with
    | false => simp; omega
    | true => rw [h2 hs]; simp; omega
end
end Go.Proofs.Ytncjalhhkmojlaa

namespace Go.Proofs.Ytncjalhhkmojlaa
open Go.TQ

theorem lt_1024 {s : Nat} (h : ∀ k, s.testBit k = true → k < 10) : s < 1024 := by
  rcases Nat.lt_or_ge s 1024 with h1 | h1
  · exact h1
  · obtain ⟨k, hk1, hk2⟩ := Nat.exists_ge_and_testBit_of_ge_two_pow (n := 10) h1
    have := h k hk2
    omega
/-! ### declared members -/
def declF (i : Nat) (s : Nat) : List TMember → Nat
  | [] => s
  | m :: l => declF (i + 1) (if m.Declared && decide (i < 10) then s ||| 2 ^ i else s) l
def declN (l : List TMember) : Nat := declF 0 0 l
theorem declF_bit : ∀ (l : List TMember) (i s k : Nat), (declF i s l).testBit k = (s.testBit k || (decide (i ≤ k) && decide (k < 10) && ((l[k - i]?).any (·.Declared))))
  | [], i, s, k => by simp [declF]
  | m :: l, i, s, k => by
    rw [declF, declF_bit l (i + 1)]
    by_cases hk : k = i
    · subst hk
      have h1 : ¬ (k + 1 ≤ k) := by omega
      cases hm : m.Declared <;> by_cases hi : k < 10 <;> simp [hm, hi, h1, Nat.testBit_or]
    · have h2 : i ≤ k ↔ i + 1 ≤ k := by omega
      have h3 : ∀ b : Bool, (if (b && decide (i < 10)) = true then s ||| 2 ^ i else s).testBit k = s.testBit k := by
        intro b
        split
        · rw [Nat.testBit_or, Nat.testBit_two_pow]
          have : ¬ i = k := fun e => hk e.symm
          simp [this]
        · rfl
      rw [h3]
      by_cases hik : i + 1 ≤ k
      · have h4 : (m :: l)[k - i]? = l[k - (i + 1)]? := by
          rw [show k - i = (k - (i + 1)) + 1 by omega, List.getElem?_cons_succ]
        rw [h4]
        have : i ≤ k := by omega
        simp [this, hik]
      · have : ¬ i ≤ k := by omega
        simp [this, hik]
theorem declN_bit (l : List TMember) (k : Nat) : (declN l).testBit k = (decide (k < 10) && ((l[k]?).any (·.Declared))) := by
  rw [declN, declF_bit]; simp
/-! ### configurations of modest size -/
structure SmC (c : TConfig) : Prop where
  len : c.Members.length ≤ 1000000
  trust : ∀ m ∈ c.Members, SmT m.Trust
/-- the trust of a member -/
def trustAt (l : List TMember) (k : Nat) : TTrust := ((l[k]?).map (·.Trust)).getD ⟨0, [], []⟩
def isDecl (l : List TMember) (k : Nat) : Bool := (declN l).testBit k
theorem isDecl_get {l : List TMember} {k : Nat} (h : isDecl l k = true) : k < 10 ∧ ∃ m, l[k]? = some m ∧ m.Declared = true := by
  rw [isDecl, declN_bit] at h
  simp only [Bool.and_eq_true, decide_eq_true_eq, Option.any_eq_true] at h
  obtain ⟨h1, m, h2, h3⟩ := h
  exact ⟨h1, m, h2, h3⟩
end Go.Proofs.Ytncjalhhkmojlaa

namespace Go.Proofs.Ytncjalhhkmojlaa
open Go.TQ

/-! ### quorums -/
/-- each of r is in s, is declared, and is satisfied by r -/
def Inside (l : List TMember) (s r : Nat) : Prop := ∀ k, r.testBit k = true → s.testBit k = true ∧ isDecl l k = true ∧ satT r (trustAt l k) = true
structure IsGq (l : List TMember) (s q : Nat) : Prop where
  inside : Inside l s q
  max : ∀ r, Inside l s r → ∀ k, r.testBit k = true → q.testBit k = true
theorem IsGq.lt {l : List TMember} {s q : Nat} (h : IsGq l s q) : q < 1024 := lt_1024 fun k hk => (isDecl_get (h.inside k hk).2.1).1
/-- what the elimination keeps true -/
structure ElimInv (l : List TMember) (s0 s : Nat) : Prop where
  lt : s < 1024
  sub : ∀ k, s.testBit k = true → s0.testBit k = true ∧ isDecl l k = true
  max : ∀ r, Inside l s0 r → ∀ k, r.testBit k = true → s.testBit k = true
end Go.Proofs.Ytncjalhhkmojlaa

namespace Go.Proofs.Ytncjalhhkmojlaa
open Go.TQ

/-- lists of envelopes of modest size -/
structure SmL (l : List TEnvelope) : Prop where
  len : l.length ≤ 100000
  trust : ∀ e ∈ l, SmT e.Trust
end Go.Proofs.Ytncjalhhkmojlaa

set_option linter.unusedVariables false
namespace Go.Proofs.Ytncjalhhkmojlaa
open Go.TQ

theorem len_okP {bytes n : Nat} (h : bytes ≤ 200) (hn : n ≤ 1000000) : lenOk bytes n = true :=
  lenOk_small ⟨Nat.le_trans (Nat.mul_le_mul hn h) (by decide), hn⟩
/-- the first place where a test holds -/
theorem place_find {α ρ : Type} (l : List α) (hl : l.length ≤ 1000000) (p : α → Bool) {step : Int × Unit → Option ((Int × Unit) ⊕ ρ)} {fin : Option ρ} {f : Nat → α → Option ρ}
    (h1 : ∀ (i : Nat) (x : α), i < l.length → l[i]? = some x → decide ((i : Int) < ((l.length : Nat) : Int)) = true → idx l (i : Int) = some x → addI .i64 (i : Int) 1 = ((i + 1 : Nat) : Int) → step ((i : Int), ()) = bif p x then Option.map Sum.inr (f i x) else some (.inl (((i + 1 : Nat) : Int), ())))
    (h2 : (∀ x ∈ l, p x = false) → decide (((l.length : Nat) : Int) < ((l.length : Nat) : Int)) = false → step (((l.length : Nat) : Int), ()) = Option.map Sum.inr fin) :
    loopO step ((0 : Int), ()) = match l.findIdx? p with | some i => (l[i]?).bind (f i) | none => fin := by
  suffices key : ∀ (k i : Nat), i + k = l.length → (∀ x ∈ l.take i, p x = false) → loopO step ((i : Int), ()) = match (l.drop i).findIdx? p with | some j => (l[i + j]?).bind (f (i + j)) | none => fin by
    have := key l.length 0 (by omega) (by simp)
    rw [List.drop_zero] at this
    simp only [Nat.zero_add] at this
    exact this
  intro k
  induction k with
  | zero =>
    intro i hi hpre
    obtain rfl : i = l.length := by omega
    rw [List.take_length] at hpre
    rw [loopO_eq, h2 hpre (decide_eq_false (Int.lt_irrefl _)), List.drop_length]
    cases fin <;> rfl
  | succ k ih =>
    intro i hi hpre
    have hlt : i < l.length := by omega
    have hx : l[i]? = some l[i] := List.getElem?_eq_getElem hlt
    have hs := h1 i l[i] hlt hx (decide_eq_true (by omega)) (by rw [idx_nat]; exact hx) (add64 (by omega) (by omega))
    rw [List.drop_eq_getElem_cons hlt, List.findIdx?_cons]
    cases hp : p l[i] with
    | true =>
      rw [hp] at hs
      rw [loopO_eq, hs]
      simp only [cond_true, if_true, Nat.add_zero, hx, Option.bind_some]
      cases f i l[i] <;> rfl
    | false =>
      rw [hp] at hs
      rw [loopO_inl hs, ih (i + 1) (by omega) (fun x hx => by
        rw [List.take_succ_eq_append_getElem hlt, List.mem_append, List.mem_singleton] at hx
        rcases hx with hx | rfl
        · exact hpre x hx
        · exact hp)]
      simp only [Bool.false_eq_true, if_false]
      cases (l.drop (i + 1)).findIdx? p with
      | none => rfl
      | some j =>
        simp only [Option.map_some]
        rw [show i + 1 + j = i + (j + 1) by omega]
def atN (l : List TEnvelope) (e : TEnvelope) : Nat := (l.findIdx? fun x => decide (e.Node < x.Node)).getD l.length
noncomputable def putN (l : List TEnvelope) (e : TEnvelope) : List TEnvelope × Bool × Unit :=
  if isValid e then
    match l.findIdx? fun x => decide (x.Node = e.Node) with
    | some i => if e.Seq ≤ ((l[i]?).getD e).Seq then (l, false, ()) else (l.set i e, true, ())
    | none => (l.take (atN l e) ++ [e] ++ l.drop (atN l e), true, ())
  else (l, false, ())
theorem at_le (l : List TEnvelope) (e : TEnvelope) : atN l e ≤ l.length := by
  unfold atN
  cases h : l.findIdx? fun x => decide (e.Node < x.Node) with
  | none => exact Nat.le_refl _
  | some i => exact Nat.le_of_lt ((List.findIdx?_eq_some_iff_getElem.1 h).1)
section
variable {l : List TEnvelope} (hl : ∀ x ∈ l, SmT x.Trust) (hlen : l.length ≤ 1000)
 include hlen
theorem where_eq (e : TEnvelope) : F_slices_IndexFunc_api_Envelope_api_Envelope_c70 l e = some (match l.findIdx? fun x => decide (x.Node = e.Node) with | some i => (i : Int) | none => -1) := by
  unfold F_slices_IndexFunc_api_Envelope_api_Envelope_c70
  refine (place_find l (by omega) (fun x => decide (x.Node = e.Node)) (f := fun i _ => some (i : Int)) (fin := some (-1)) (fun i x hi hx0 hd hx hw => ?_) (fun hall hd => ?_)).trans ?_
  · simp only [hd, hx, hw, cond_true, Option.bind_some, F_envelopes_Put_1]
  · simp only [hd, cond_false]
  · cases h : l.findIdx? fun x => decide (x.Node = e.Node) with
    | none => rfl
    | some i => have := (List.findIdx?_eq_some_iff_getElem.1 h).1; simp [List.getElem?_eq_getElem this]
theorem above_eq (e : TEnvelope) : F_slices_IndexFunc_api_Envelope_api_Envelope_c71 l e = some (match l.findIdx? fun x => decide (e.Node < x.Node) with | some i => (i : Int) | none => -1) := by
  unfold F_slices_IndexFunc_api_Envelope_api_Envelope_c71
  refine (place_find l (by omega) (fun x => decide (e.Node < x.Node)) (f := fun i _ => some (i : Int)) (fin := some (-1)) (fun i x hi hx0 hd hx hw => ?_) (fun hall hd => ?_)).trans ?_
  · simp only [hd, hx, hw, cond_true, Option.bind_some, F_envelopes_Put_2]
  · simp only [hd, cond_false]
  · cases h : l.findIdx? fun x => decide (e.Node < x.Node) with
    | none => rfl
    | some i => have := (List.findIdx?_eq_some_iff_getElem.1 h).1; simp [List.getElem?_eq_getElem this]
 include hl
theorem All_eq : F_copies_All_api_Envelope_c68 l = some l := by
  unfold F_copies_All_api_Envelope_c68
  suffices key : ∀ (k i : Nat), i + k = l.length → loopO _ ((i : Int), l.take i, ()) = some l from key l.length 0 (by omega)
  intro k
  induction k with
  | zero =>
    intro i hi
    obtain rfl : i = l.length := by omega
    have hd : decide (((l.length : Nat) : Int) < ((l.length : Nat) : Int)) = false := decide_eq_false (Int.lt_irrefl _)
    exact loopO_inr (by simp only [hd, cond_false, Option.map_some, List.take_length])
  | succ k ih =>
    intro i hi
    have hlt : i < l.length := by omega
    have hd : decide ((i : Int) < ((l.length : Nat) : Int)) = true := decide_eq_true (by omega)
    have hw : addI .i64 (i : Int) 1 = ((i + 1 : Nat) : Int) := add64 (by omega) (by omega)
    have hx : idx l (i : Int) = some l[i] := by rw [idx_nat]; exact List.getElem?_eq_getElem hlt
    have hc : F_copies_Envelope l[i] = some l[i] := by simp only [F_copies_Envelope, TTrust.eta, copies_eq (hl _ (List.getElem_mem hlt)), Option.bind_some]
    refine (loopO_inl ?_).trans (ih (i + 1) (by omega))
    simp only [hd, hx, hw, cond_true, Option.bind_some, TTrust.eta, TEnvelope.eta, hc]
    rw [len_okP (by omega) (by simp; omega), List.take_succ_eq_append_getElem hlt]
    rfl
theorem Put_eq {e : TEnvelope} (he : SmT e.Trust) : F_envelopes_Put l e = some (putN l e) := by
  have hc : F_copies_Envelope e = some e := by simp only [F_copies_Envelope, TTrust.eta, copies_eq he, Option.bind_some]
  have hat := at_le l e
  unfold F_envelopes_Put
  simp only [All_eq hl hlen, TTrust.eta, TEnvelope.eta, Valid_eq he, hc, where_eq hlen, above_eq hlen, Option.bind_some, letJ_eq]
  unfold putN
  cases isValid e with
  | false => rfl
  | true =>
    simp only [Bool.not_true, cond_false, if_true]
    cases h : l.findIdx? fun x => decide (x.Node = e.Node) with
    | some i =>
      have hi := (List.findIdx?_eq_some_iff_getElem.1 h).1
      have hd : decide ((0 : Int) ≤ (i : Int)) = true := decide_eq_true (by omega)
      have hx : idx l (i : Int) = some l[i] := by rw [idx_nat]; exact List.getElem?_eq_getElem hi
      simp only [hd, hx, cond_true, Option.bind_some, Int.toNat_natCast, List.getElem?_eq_getElem hi, Option.getD_some]
      by_cases hs : e.Seq ≤ l[i].Seq <;> simp [hs]
    | none =>
      have hd : decide ((0 : Int) ≤ -1) = false := rfl
      simp only [hd, cond_false]
      have hins : ∀ a : Nat, a ≤ l.length → F_slices_Insert_api_Envelope_api_Envelope l (a : Int) [e] = some (l.take a ++ [e] ++ l.drop a) := fun a ha => by
        unfold F_slices_Insert_api_Envelope_api_Envelope insF
        have h1 : decide ((0 : Int) ≤ (a : Int)) = true := decide_eq_true (by omega)
        have h2 : decide ((a : Int) ≤ ((l.length : Nat) : Int)) = true := decide_eq_true (by omega)
        rw [h1, h2, len_okP (by omega) (by simp; omega)]
        rfl
      unfold atN at hat ⊢
      cases h' : l.findIdx? fun x => decide (e.Node < x.Node) with
      | none =>
        have hd2 : decide ((-1 : Int) < 0) = true := rfl
        simp only [hd2, cond_true, hins _ (Nat.le_refl _), Option.bind_some, Option.getD_none]
      | some j =>
        have hj := (List.findIdx?_eq_some_iff_getElem.1 h').1
        have hd2 : decide ((j : Int) < 0) = false := decide_eq_false (by omega)
        simp only [hd2, cond_false, hins _ (Nat.le_of_lt hj), Option.bind_some, Option.getD_some]
end
theorem put_sm {l : List TEnvelope} (hl : ∀ x ∈ l, SmT x.Trust) {e : TEnvelope} (he : SmT e.Trust) : ∀ x ∈ (putN l e).1, SmT x.Trust := by
  unfold putN
  split
  · split
    · split
      · exact hl
      · intro x hx
        rcases List.mem_or_eq_of_mem_set hx with h | rfl
        · exact hl x h
        · exact he
    · intro x hx
      rw [List.mem_append, List.mem_append, List.mem_singleton] at hx
      rcases hx with (h | rfl) | h
      · exact hl x (List.mem_of_mem_take h)
      · exact he
      · exact hl x (List.mem_of_mem_drop h)
  · exact hl
theorem put_len {l : List TEnvelope} {e : TEnvelope} : (putN l e).1.length ≤ l.length + 1 := by
  have := at_le l e
  unfold putN
  split
  · split
    · split
      · simp
      · simp
    · simp; omega
  · simp
end Go.Proofs.Ytncjalhhkmojlaa

set_option linter.unusedVariables false
namespace Go.Proofs.Ytncjalhhkmojlaa
open Go.TQ

theorem all_loopS {τ ρ : Type} (n : Nat) (mk : Int → τ) {step : τ → Option (τ ⊕ ρ)} {fin : Option ρ} (h1 : ∀ i : Nat, i < n → step (mk (i : Int)) = some (.inl (mk ((i + 1 : Nat) : Int)))) (h2 : step (mk (n : Int)) = Option.map Sum.inr fin) : loopO step (mk 0) = fin := by
  suffices key : ∀ (k i : Nat), i + k = n → loopO step (mk (i : Int)) = fin from key n 0 (by omega)
  intro k
  induction k with
  | zero =>
    intro i hi
    obtain rfl : i = n := by omega
    rw [loopO_eq, h2]
    cases fin <;> rfl
  | succ k ih => exact fun i hi => (loopO_inl (h1 i (by omega))).trans (ih (i + 1) (by omega))

theorem same01 (s : List Int) (h : s.length ≤ 1000000) : F_ref01_Same s s = some true := by
  unfold F_ref01_Same
  simp only [decide_true, Bool.not_true, cond_false]
  refine all_loopS s.length (fun i => (i, ())) (fun i hi => ?_) ?_
  · have hd : decide ((i : Int) < ((s.length : Nat) : Int)) = true := decide_eq_true (by omega)
    have hw : addI .i64 (i : Int) 1 = ((i + 1 : Nat) : Int) := add64 (by omega) (by omega)
    have hx : idx s (i : Int) = some s[i] := by rw [idx_nat]; exact List.getElem?_eq_getElem hi
    simp only [hd, hx, hw, cond_true, Option.bind_some, decide_true, Bool.not_true, cond_false]
  · have hd : decide (((s.length : Nat) : Int) < ((s.length : Nat) : Int)) = false := decide_eq_false (Int.lt_irrefl _)
    simp only [hd, cond_false]
theorem I_same {n : Nat} : ∀ {t : TTrust}, SizeOf.sizeOf t < n → SmT t → I_ref02_Same n (t, t, ()) = some true := by
  induction n with
  | zero => intro t h; omega
  | succ n ih =>
    intro t hs hm
    show B_ref02_Same (I_ref02_Same n) t t = some true
    have hl := hm.len
    have hns := hm.nodes
    unfold B_ref02_Same
    simp only [decide_true, Bool.not_true, cond_false, same01 _ hns, Option.bind_some]
    refine all_loopS t.Inner.length (fun i => (i, ())) (fun i hi => ?_) ?_
    · have hd : decide ((i : Int) < ((t.Inner.length : Nat) : Int)) = true := decide_eq_true (by omega)
      have hw : addI .i64 (i : Int) 1 = ((i + 1 : Nat) : Int) := add64 (by omega) (by omega)
      have hx : idx t.Inner (i : Int) = some t.Inner[i] := by rw [idx_nat]; exact List.getElem?_eq_getElem hi
      have hu := List.getElem_mem hi
      have := ih (t := t.Inner[i]) (by have := inner_lt hu; omega) (hm.inner _ hu)
      simp only [hd, hx, hw, cond_true, Option.bind_some, TTrust.eta, this, Bool.not_true, cond_false]
    · have hd : decide (((t.Inner.length : Nat) : Int) < ((t.Inner.length : Nat) : Int)) = false := decide_eq_false (Int.lt_irrefl _)
      simp only [hd, cond_false]
theorem same02 {t : TTrust} (h : SmT t) : F_ref02_Same t t = some true := I_same (by omega) h
theorem eq2_true_self (a : Int) (s : ByteArray) : eq2 false a a s s = true := by simp
theorem same24 {e : TEnvelope} (h : SmT e.Trust) : F_ref24_Same e e = some true := by
  simp only [F_ref24_Same, TTrust.eta, same02 h, decide_true, cond_true, Option.bind_some, eq2_true_self]
theorem envs24 {l : List TEnvelope} (hlen : l.length ≤ 1000000) (hl : ∀ e ∈ l, SmT e.Trust) : F_ref24_Envelopes l l = some true := by
  unfold F_ref24_Envelopes
  simp only [decide_true, Bool.not_true, cond_false]
  refine all_loopS l.length (fun i => (i, ())) (fun i hi => ?_) ?_
  · have hd : decide ((i : Int) < ((l.length : Nat) : Int)) = true := decide_eq_true (by omega)
    have hw : addI .i64 (i : Int) 1 = ((i + 1 : Nat) : Int) := add64 (by omega) (by omega)
    have hx : idx l (i : Int) = some l[i] := by rw [idx_nat]; exact List.getElem?_eq_getElem hi
    simp only [hd, hx, hw, cond_true, Option.bind_some, TTrust.eta, TEnvelope.eta, same24 (hl _ (List.getElem_mem hi)), Bool.not_true, cond_false]
  · have hd : decide (((l.length : Nat) : Int) < ((l.length : Nat) : Int)) = false := decide_eq_false (Int.lt_irrefl _)
    simp only [hd, cond_false]
theorem rounds_yd {ρ : Type} {p : ρ → Prop} (n : Nat) (hn : n ≤ 1000000) {step : Int × Unit → Option ((Int × Unit) ⊕ ρ)}
    (h1 : ∀ i : Nat, i < n → decide ((i : Int) < ((n : Nat) : Int)) = true → addI .i64 (i : Int) 1 = ((i + 1 : Nat) : Int) → step ((i : Int), ()) = some (.inl (((i + 1 : Nat) : Int), ())))
    (h2 : decide (((n : Nat) : Int) < ((n : Nat) : Int)) = false → Yd (step ((n : Int), ())) fun y => match y with | .inl _ => False | .inr r => p r) : Yd (loopO step (0, ())) p := by
  obtain ⟨y, hy, hp⟩ := h2 (decide_eq_false (Int.lt_irrefl _))
  cases y with
  | inl z => exact hp.elim
  | inr r => exact ⟨r, all_loopS n (fun i => (i, ())) (fun i hi => h1 i hi (decide_eq_true (by omega)) (add64 (by omega) (by omega))) (fin := some r) hy, hp⟩
theorem rounds_eq {ρ : Type} (n : Nat) (hn : n ≤ 1000000) {fin : Option ρ} {step : Int × Unit → Option ((Int × Unit) ⊕ ρ)}
    (h1 : ∀ i : Nat, i < n → decide ((i : Int) < ((n : Nat) : Int)) = true → addI .i64 (i : Int) 1 = ((i + 1 : Nat) : Int) → step ((i : Int), ()) = some (.inl (((i + 1 : Nat) : Int), ())))
    (h2 : decide (((n : Nat) : Int) < ((n : Nat) : Int)) = false → step ((n : Int), ()) = Option.map Sum.inr fin) : loopO step (0, ()) = fin :=
  all_loopS n (fun i => (i, ())) (fun i hi => h1 i hi (decide_eq_true (by omega)) (add64 (by omega) (by omega))) (h2 (decide_eq_false (Int.lt_irrefl _)))
theorem idx_both {α : Type} {l : List α} {i : Nat} (h : i < l.length) : ∃ x ∈ l, idx l (i : Int) = some x ∧ l[Int.toNat (i : Int)]? = some x := ⟨l[i], List.getElem_mem h, by rw [idx_nat]; exact List.getElem?_eq_getElem h, by rw [Int.toNat_natCast]; exact List.getElem?_eq_getElem h⟩
end Go.Proofs.Ytncjalhhkmojlaa

set_option linter.unusedVariables false
namespace Go.Proofs.Ytncjalhhkmojlaa
open Go.TQ

/-- r holds the newest envelope of each node of xs, by node -/
def Newest (r xs : List TEnvelope) : Prop := r.Pairwise (fun a b => a.Node < b.Node) ∧ (∀ e ∈ r, e ∈ xs ∧ ∀ x ∈ xs, x.Node = e.Node → x.Seq ≤ e.Seq) ∧ ∀ x ∈ xs, ∃ e ∈ r, e.Node = x.Node
theorem pair_eq {r : List TEnvelope} (h : r.Pairwise (fun a b => a.Node < b.Node)) {x y : TEnvelope} (hx : x ∈ r) (hy : y ∈ r) (hn : x.Node = y.Node) : x = y := by
  obtain ⟨i, hi, rfl⟩ := List.mem_iff_getElem.1 hx
  obtain ⟨j, hj, rfl⟩ := List.mem_iff_getElem.1 hy
  by_cases hij : i = j
  · subst hij; rfl
  · rcases Nat.lt_or_gt_of_ne hij with hlt | hlt
    · have := List.pairwise_iff_getElem.1 h i j hi hj hlt; omega
    · have := List.pairwise_iff_getElem.1 h j i hj hi hlt; omega
/-- lists that ascend and have the same members -/
theorem sorted_unique : ∀ {a b : List TEnvelope}, a.Pairwise (fun a b => a.Node < b.Node) → b.Pairwise (fun a b => a.Node < b.Node) → (∀ x, x ∈ a ↔ x ∈ b) → a = b
  | [], [], _, _, _ => rfl
  | [], y :: b, _, _, h => by have := (h y).2 (by simp); simp at this
  | x :: a, [], _, _, h => by have := (h x).1 (by simp); simp at this
  | x :: a, y :: b, ha, hb, h => by
    rw [List.pairwise_cons] at ha hb
    have hxy : x = y := by
      have h1 := (h x).1 (by simp)
      have h2 := (h y).2 (by simp)
      rw [List.mem_cons] at h1 h2
      rcases h1 with h1 | h1
      · exact h1
      · rcases h2 with h2 | h2
        · exact h2.symm
        · have := ha.1 y h2
          have := hb.1 x h1
          omega
    subst hxy
    rw [sorted_unique ha.2 hb.2 fun z => ?_]
    have hz := h z
    rw [List.mem_cons, List.mem_cons] at hz
    constructor
    · intro hm
      rcases hz.1 (.inr hm) with rfl | hm'
      · have := ha.1 z hm; omega
      · exact hm'
    · intro hm
      rcases hz.2 (.inr hm) with rfl | hm'
      · have := hb.1 z hm; omega
      · exact hm'
theorem newest_unique {r r' xs xs' : List TEnvelope} (hd : ∀ x ∈ xs, ∀ y ∈ xs, x.Seq = y.Seq → x = y) (hm : ∀ x, x ∈ xs ↔ x ∈ xs') (h : Newest r xs) (h' : Newest r' xs') : r = r' := by
  refine sorted_unique h.1 h'.1 fun x => ⟨fun hx => ?_, fun hx => ?_⟩
  · obtain ⟨g1, g2⟩ := h.2.1 x hx
    obtain ⟨y, hy, hyn⟩ := h'.2.2 x ((hm x).1 g1)
    obtain ⟨k1, k2⟩ := h'.2.1 y hy
    have s1 := g2 y ((hm y).2 k1) hyn
    have s2 := k2 x ((hm x).1 g1) hyn.symm
    rw [hd x g1 y ((hm y).2 k1) (by omega)]
    exact hy
  · obtain ⟨g1, g2⟩ := h'.2.1 x hx
    obtain ⟨y, hy, hyn⟩ := h.2.2 x ((hm x).2 g1)
    obtain ⟨k1, k2⟩ := h.2.1 y hy
    have s1 := g2 y ((hm y).1 k1) hyn
    have s2 := k2 x ((hm x).2 g1) hyn.symm
    rw [hd x ((hm x).2 g1) y k1 (by omega)]
    exact hy
theorem newest_nil : Newest [] [] := ⟨.nil, by simp, by simp⟩
theorem put_newest {r xs : List TEnvelope} {e : TEnvelope} (hv : isValid e = true) (h : Newest r xs) : Newest (putN r e).1 (xs ++ [e]) := by
  obtain ⟨h1, h2, h3⟩ := h
  unfold putN
  rw [if_pos hv]
  cases hf : r.findIdx? fun x => decide (x.Node = e.Node) with
  | some i =>
    obtain ⟨hi, hn, _⟩ := List.findIdx?_eq_some_iff_getElem.1 hf
    have hn := of_decide_eq_true hn
    simp only [List.getElem?_eq_getElem hi, Option.getD_some]
    have hri := List.getElem_mem hi
    by_cases hs : e.Seq ≤ r[i].Seq
    · rw [if_pos hs]
      refine ⟨h1, fun y hy => ⟨List.mem_append_left _ (h2 y hy).1, fun x hx hxn => ?_⟩, fun x hx => ?_⟩
      · rw [List.mem_append, List.mem_singleton] at hx
        rcases hx with hx | rfl
        · exact (h2 y hy).2 x hx hxn
        · have : y = r[i] := pair_eq h1 hy hri (by omega)
          rw [this]
          exact hs
      · rw [List.mem_append, List.mem_singleton] at hx
        rcases hx with hx | rfl
        · exact h3 x hx
        · exact ⟨r[i], hri, hn⟩
    · rw [if_neg hs]
      have hm : ∀ y, y ∈ r.set i e → y = e ∨ (y ∈ r ∧ y.Node ≠ e.Node) := by
        intro y hy
        obtain ⟨j, hj, rfl⟩ := List.mem_iff_getElem.1 hy
        rw [List.length_set] at hj
        rw [List.getElem_set]
        by_cases hij : i = j
        · left; rw [if_pos hij]
        · right
          rw [if_neg hij]
          refine ⟨List.getElem_mem hj, fun hc => ?_⟩
          rw [← hn] at hc
          rcases Nat.lt_or_gt_of_ne hij with hlt | hlt
          · have := List.pairwise_iff_getElem.1 h1 i j hi hj hlt; omega
          · have := List.pairwise_iff_getElem.1 h1 j i hj hi hlt; omega
      refine ⟨?_, fun y hy => ?_, fun x hx => ?_⟩
      · rw [List.pairwise_iff_getElem]
        intro a b ha hb hab
        rw [List.length_set] at ha hb
        have := List.pairwise_iff_getElem.1 h1 a b ha hb hab
        rw [List.getElem_set, List.getElem_set]
        split
        · rename_i hia; subst hia
          rw [if_neg (by omega)]
          omega
        · split
          · rename_i hib; subst hib; omega
          · exact this
      · rcases hm y hy with rfl | ⟨hy', hne⟩
        · refine ⟨by simp, fun x hx hxn => ?_⟩
          rw [List.mem_append, List.mem_singleton] at hx
          rcases hx with hx | rfl
          · have := (h2 _ hri).2 x hx (by omega); omega
          · exact Int.le_refl _
        · refine ⟨List.mem_append_left _ (h2 y hy').1, fun x hx hxn => ?_⟩
          rw [List.mem_append, List.mem_singleton] at hx
          rcases hx with hx | rfl
          · exact (h2 y hy').2 x hx hxn
          · exact absurd hxn.symm hne
      · have hin : e ∈ r.set i e := List.mem_iff_getElem.2 ⟨i, by rw [List.length_set]; exact hi, by rw [List.getElem_set_self]⟩
        rw [List.mem_append, List.mem_singleton] at hx
        rcases hx with hx | rfl
        · obtain ⟨y, hy, hyn⟩ := h3 x hx
          by_cases hye : y.Node = e.Node
          · exact ⟨e, hin, by omega⟩
          · obtain ⟨j, hj, rfl⟩ := List.mem_iff_getElem.1 hy
            have hij : ¬ i = j := fun h => by subst h; exact hye hn
            exact ⟨r[j], List.mem_iff_getElem.2 ⟨j, by rw [List.length_set]; exact hj, by rw [List.getElem_set, if_neg hij]⟩, hyn⟩
        · exact ⟨x, hin, rfl⟩
  | none =>
    have hne : ∀ y ∈ r, y.Node ≠ e.Node := fun y hy => of_decide_eq_false (by simpa using List.findIdx?_eq_none_iff.1 hf y hy)
    have hat := at_le r e
    have hlo : ∀ y ∈ r.take (atN r e), y.Node < e.Node := by
      intro y hy
      obtain ⟨j, hj, rfl⟩ := List.mem_iff_getElem.1 hy
      rw [List.length_take] at hj
      rw [List.getElem_take]
      have hjr : j < r.length := by omega
      have := hne _ (List.getElem_mem hjr)
      have hnot : ¬ e.Node < r[j].Node := by
        cases hg : r.findIdx? fun x => decide (e.Node < x.Node) with
        | none => exact of_decide_eq_false (by simpa using List.findIdx?_eq_none_iff.1 hg _ (List.getElem_mem hjr))
        | some a =>
          have hlt : j < a := by unfold atN at hj; rw [hg] at hj; simp only [Option.getD_some] at hj; omega
          have := (List.findIdx?_eq_some_iff_getElem.1 hg).2.2 j hlt
          simpa using this
      omega
    have hhi : ∀ y ∈ r.drop (atN r e), e.Node < y.Node := by
      intro y hy
      obtain ⟨j, hj, rfl⟩ := List.mem_iff_getElem.1 hy
      rw [List.length_drop] at hj
      rw [List.getElem_drop]
      cases hg : r.findIdx? fun x => decide (e.Node < x.Node) with
      | none => exfalso; unfold atN at hj; rw [hg] at hj; simp only [Option.getD_none] at hj; omega
      | some a =>
        have hae : atN r e = a := by unfold atN; rw [hg]; rfl
        obtain ⟨ha, hb, _⟩ := List.findIdx?_eq_some_iff_getElem.1 hg
        have hb := of_decide_eq_true hb
        simp only [hae]
        by_cases hj0 : j = 0
        · subst hj0; exact hb
        · have := List.pairwise_iff_getElem.1 h1 a (a + j) ha (by omega) (by omega)
          omega
    have hsplit : ∀ y, y ∈ r ↔ y ∈ r.take (atN r e) ∨ y ∈ r.drop (atN r e) := fun y => by rw [← List.mem_append, List.take_append_drop]
    have hmem : ∀ y, y ∈ r.take (atN r e) ++ [e] ++ r.drop (atN r e) ↔ y ∈ r ∨ y = e := fun y => by
      rw [List.mem_append, List.mem_append, List.mem_singleton, hsplit]
      constructor
      · rintro ((h | h) | h)
        · exact .inl (.inl h)
        · exact .inr h
        · exact .inl (.inr h)
      · rintro ((h | h) | h)
        · exact .inl (.inl h)
        · exact .inr h
        · exact .inl (.inr h)
    refine ⟨?_, fun y hy => ?_, fun x hx => ?_⟩
    · rw [List.pairwise_append, List.pairwise_append]
      refine ⟨⟨h1.sublist (List.take_sublist _ _), List.pairwise_singleton _ _, fun a ha b hb => ?_⟩, h1.sublist (List.drop_sublist _ _), fun a ha b hb => ?_⟩
      · rw [List.mem_singleton] at hb; subst hb; exact hlo a ha
      · have hb' := hhi b hb
        rw [List.mem_append, List.mem_singleton] at ha
        rcases ha with ha | rfl
        · have := hlo a ha; omega
        · exact hb'
    · rcases (hmem y).1 hy with hyr | rfl
      · clear hy
        refine ⟨List.mem_append_left _ (h2 y hyr).1, fun x hx hxn => ?_⟩
        rw [List.mem_append, List.mem_singleton] at hx
        rcases hx with hx | hx
        · exact (h2 y hyr).2 x hx hxn
        · exact absurd (hx ▸ hxn.symm) (hne y hyr)
      · refine ⟨by simp, fun x hx hxn => ?_⟩
        rw [List.mem_append, List.mem_singleton] at hx
        rcases hx with hx | rfl
        · obtain ⟨z, hz, hzn⟩ := h3 x hx
          exact absurd (hzn.trans hxn) (hne z hz)
        · exact Int.le_refl _
    · rw [List.mem_append, List.mem_singleton] at hx
      rcases hx with hx | rfl
      · obtain ⟨z, hz, hzn⟩ := h3 x hx
        exact ⟨z, (hmem z).2 (.inl hz), hzn⟩
      · exact ⟨x, (hmem x).2 (.inr rfl), rfl⟩
end Go.Proofs.Ytncjalhhkmojlaa

set_option linter.unusedVariables false
namespace Go.Proofs.Ytncjalhhkmojlaa
open Go.TQ

theorem seq_valid {e : TEnvelope} {k : Int} (h : isValid e = true) (h1 : 1 ≤ k) (h2 : k ≤ 1000000) : isValid (TEnvelope.mk e.Node e.Slot k e.Trust e.Kind e.Ballot e.Prepared e.Prime e.Low e.High) = true := by
  unfold isValid validE headOk at h ⊢
  simp only [Bool.and_eq_true, decide_eq_true_eq] at h ⊢
  exact ⟨⟨⟨⟨h.1.1.1.1, h1⟩, h2⟩, h.1.2⟩, h.2⟩
theorem EnvOf.isv {node slot n : Int} {e : TEnvelope} (h : EnvOf node slot n e) : isValid e = true := by
  rw [isValid, tval_good h.trust]
  exact h.valid
def Sent (l : List TEnvelope) (k : Nat) : Prop := (∀ e ∈ l, isValid e = true ∧ SmT e.Trust ∧ (k : Int) < e.Seq ∧ e.Seq ≤ 8) ∧ l.Pairwise (fun a b => b.Seq < a.Seq) ∧ l.length + k ≤ 8
theorem Sent.inj {l : List TEnvelope} {k : Nat} (h : Sent l k) : ∀ x ∈ l, ∀ y ∈ l, x.Seq = y.Seq → x = y := by
  intro x hx y hy hn
  obtain ⟨i, hi, rfl⟩ := List.mem_iff_getElem.1 hx
  obtain ⟨j, hj, rfl⟩ := List.mem_iff_getElem.1 hy
  by_cases hij : i = j
  · subst hij; rfl
  · rcases Nat.lt_or_gt_of_ne hij with hlt | hlt
    · have := List.pairwise_iff_getElem.1 h.2.1 i j hi hj hlt; omega
    · have := List.pairwise_iff_getElem.1 h.2.1 j i hj hi hlt; omega
theorem newest (t : List Int) : F_law24_EnvelopesNewest t = some true := by
  refine Yd.eq_true ?_
  unfold F_law24_EnvelopesNewest
  simp only [TTrust.eta, TEnvelope.eta]
  refine (New_ok t).bind fun s hs => ?_
  refine (N_ok hs (by omega)).bind fun p2 ⟨a1, a2, a3, _⟩ => ?_
  have a4 := a3 (by omega)
  obtain ⟨k, hk⟩ : ∃ k : Nat, p2.1 = k := ⟨p2.1.toNat, by omega⟩
  rw [hk]
  suffices key : ∀ (k : Nat) (l : List TEnvelope) (s : TSrc), OkS s → Sent l k → Yd (loopO _ ((k : Int), l, s, ())) _ from key k [] p2.2 a1 ⟨by simp, .nil, by simp; omega⟩
  intro k
  induction k with
  | succ k ih =>
    intro l s hs hl
    have hd : decide ((0 : Int) < ((k + 1 : Nat) : Int)) = true := decide_eq_true (by omega)
    have hll := hl.2.2
    have hsb : subI .i64 ((k + 1 : Nat) : Int) 1 = (k : Int) := (sub64 (by omega) (by omega)).trans (by omega)
    refine Yd.loop ?_
    simp only [hd, cond_true]
    refine (N_ok hs (by omega)).bind fun p4 ⟨b1, b2, b3, _⟩ => ?_
    have b4 := b3 (by omega)
    refine (Envelope_ok b1 b2 (by omega) (by omega) (by omega) (n := 5) (by omega) (by omega)).bind fun p5 ⟨c1, c2⟩ => ?_
    rw [len_okP (by omega) (by simp; omega), cond_true, hsb]
    refine Yd.some (ih _ _ c1 ⟨fun e he => ?_, ?_, ?_⟩)
    · rw [List.mem_append, List.mem_singleton] at he
      rcases he with he | rfl
      · obtain ⟨g1, g2, g3, g4⟩ := hl.1 e he
        exact ⟨g1, g2, by omega, g4⟩
      · exact ⟨seq_valid c2.isv (by omega) (by omega), c2.trust.sm, by show (k : Int) < ((k + 1 : Nat) : Int); omega, by show ((k + 1 : Nat) : Int) ≤ 8; omega⟩
    · rw [List.pairwise_append]
      refine ⟨hl.2.1, List.pairwise_singleton _ _, fun a ha b hb => ?_⟩
      rw [List.mem_singleton] at hb
      subst hb
      exact (hl.1 a ha).2.2.1
    · rw [List.length_append, List.length_singleton]; omega
  | zero =>
    intro l s hs hl
    have hd : decide ((0 : Int) < ((0 : Nat) : Int)) = false := rfl
    refine Yd.loop ?_
    simp only [hd, cond_false]
    refine Yd.map ?_
    have hlen : l.length ≤ 8 := by have := hl.2.2; omega
    suffices key : ∀ (k i : Nat) (a b : List TEnvelope), i + k = l.length → Newest a (l.take i) → Newest b (l.reverse.take i) → (∀ e ∈ a, SmT e.Trust) → (∀ e ∈ b, SmT e.Trust) → a.length ≤ i → b.length ≤ i → Yd (loopO _ (a, b, (i : Int), ())) _ from
      key l.length 0 [] [] (by omega) (by simpa using newest_nil) (by simpa using newest_nil) (by simp) (by simp) (by simp) (by simp)
    intro k
    induction k with
    | succ k ih =>
      intro i a b hi na nb sa sb la lb
      have hlt : i < l.length := by omega
      have hd : decide ((i : Int) < ((l.length : Nat) : Int)) = true := decide_eq_true (by omega)
      have hw : addI .i64 (i : Int) 1 = ((i + 1 : Nat) : Int) := add64 (by omega) (by omega)
      have hsb : subI .i64 (subI .i64 ((l.length : Nat) : Int) 1) (i : Int) = ((l.length - 1 - i : Nat) : Int) := by
        rw [show subI .i64 ((l.length : Nat) : Int) 1 = ((l.length : Nat) : Int) - 1 from sub64 (by omega) (by omega), show subI .i64 (((l.length : Nat) : Int) - 1) (i : Int) = ((l.length : Nat) : Int) - 1 - (i : Int) from sub64 (by omega) (by omega)]
        omega
      have hrt : l.length - 1 - i < l.length := by omega
      have hx : idx l (i : Int) = some l[i] := by rw [idx_nat]; exact List.getElem?_eq_getElem hlt
      have hx2 : l[Int.toNat (i : Int)]? = some l[i] := by rw [Int.toNat_natCast]; exact List.getElem?_eq_getElem hlt
      have hy : idx l ((l.length - 1 - i : Nat) : Int) = some l[l.length - 1 - i] := by rw [idx_nat]; exact List.getElem?_eq_getElem hrt
      have hy2 : l[Int.toNat ((l.length - 1 - i : Nat) : Int)]? = some l[l.length - 1 - i] := by rw [Int.toNat_natCast]; exact List.getElem?_eq_getElem hrt
      obtain ⟨v1, v2, _⟩ := hl.1 _ (List.getElem_mem hlt)
      obtain ⟨u1, u2, _⟩ := hl.1 _ (List.getElem_mem hrt)
      have hrl : i < l.reverse.length := by rw [List.length_reverse]; exact hlt
      refine Yd.loop ?_
      simp only [hd, hw, hx, hx2, hsb, hy, hy2, cond_true, Option.bind_some, Put_eq sa (by omega) v2, Put_eq sb (by omega) u2]
      refine Yd.some (ih (i + 1) _ _ (by omega) ?_ ?_ (put_sm sa v2) (put_sm sb u2) (Nat.le_trans put_len (by omega)) (Nat.le_trans put_len (by omega)))
      · rw [List.take_succ_eq_append_getElem hlt]; exact put_newest v1 na
      · rw [List.take_succ_eq_append_getElem hrl, List.getElem_reverse]; exact put_newest u1 nb
    | zero =>
      intro i a b hi na nb sa sb la lb
      obtain rfl : i = l.length := by omega
      rw [List.take_length] at na
      rw [← List.length_reverse, List.take_length] at nb
      obtain rfl : a = b := newest_unique hl.inj (fun x => List.mem_reverse.symm) na nb
      have hd : decide (((l.length : Nat) : Int) < ((l.length : Nat) : Int)) = false := decide_eq_false (Int.lt_irrefl _)
      refine Yd.loop ?_
      simp only [hd, cond_false]
      refine Yd.map ?_
      refine rounds_yd a.length (by omega) (fun j hj hd hw => ?_) (fun hd => ?_)
      · obtain ⟨x, hxa, hx, _⟩ := idx_both hj
        have hxe : x = a[j] := by rw [idx_nat, List.getElem?_eq_getElem hj] at hx; injection hx with hx; exact hx.symm
        have inner : ∀ {ρ : Type} (bad : ρ), loopO (fun (v17 : Int × Unit) => bif (decide (v17.1 < ((l.length : Nat) : Int))) then Option.bind (idx l v17.1) fun x18 => Option.bind (l[(Int.toNat v17.1)]?) fun x19 => Option.bind (bif (decide (x19.Node = x.Node)) then some (decide (x.Seq < x19.Seq)) else some false) fun b20 =>
            bif b20 then Option.map Sum.inr (Option.map Sum.inr (some bad)) else some (Sum.inl ((addI .i64 v17.1 (1 : Int)), ())) else Option.map Sum.inr (some (Sum.inl ((addI .i64 (j : Int) (1 : Int)), ())))) ((0 : Int), ()) = some (Sum.inl (((j + 1 : Nat) : Int), ())) := fun bad => by
          refine rounds_eq l.length (by omega) (fun m hm hd' hw' => ?_) (fun hd' => ?_)
          · obtain ⟨y, hyl, hy, hy2⟩ := idx_both hm
            simp only [hd', hy, hy2, hw', cond_true, Option.bind_some]
            by_cases hn : y.Node = x.Node
            · have := (na.2.1 x hxa).2 y hyl hn
              have hns : ¬ x.Seq < y.Seq := by omega
              simp [hn, hns]
            · simp [hn]
          · simp only [hd', hw, cond_false]
        simp only [hd, hx, hw, cond_true, Option.bind_some, letJ_eq]
        have hw2 := hw
        simp only [← hw] at inner ⊢
        by_cases hj0 : j = 0
        · subst hj0
          have h0 : decide ((0 : Int) < ((0 : Nat) : Int)) = false := rfl
          simp only [h0, cond_false]
          exact inner false
        · have h0 : decide ((0 : Int) < (j : Int)) = true := decide_eq_true (by omega)
          have hsb : subI .i64 (j : Int) 1 = ((j - 1 : Nat) : Int) := (sub64 (by omega) (by omega)).trans (by omega)
          have hp : idx a ((j - 1 : Nat) : Int) = some a[j - 1] := by rw [idx_nat]; exact List.getElem?_eq_getElem (by omega)
          have hlt := List.pairwise_iff_getElem.1 na.1 (j - 1) j (by omega) hj (by omega)
          have hnle : decide (x.Node ≤ a[j - 1].Node) = false := decide_eq_false (by rw [hxe]; omega)
          simp only [h0, hsb, hp, hnle, cond_true, cond_false, Option.bind_some]
          exact inner false
      · simp only [hd, cond_false, envs24 (by omega : a.length ≤ 1000000) sa, sane24, cond_true, Option.bind_some, Option.map_some]
        exact Yd.some rfl
end Go.Proofs.Ytncjalhhkmojlaa
