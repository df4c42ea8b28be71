/-
  Plain Lean: what the turned functions compute. Conditions: none beyond those that each theorem names.
-/
import Derived.Test.YtaebanabjdmgfaaGreatKdef
import Derived.Test.YtaebanabjdmgfaaGreatMonitorPartsFns
namespace Go.TQ

/-! ### options and tests -/
@[simp] theorem letJ_eq {σ ρ : Type} (j : σ → Option ρ) (f : (σ → Option ρ) → Option ρ) : letJ j f = f j := rfl
@[simp] theorem bif_some {α : Type} (b : Bool) (x y : α) : (bif b then some x else some y) = some (bif b then x else y) := by cases b <;> rfl
@[simp] theorem bif_same {α : Type} (b : Bool) (x : α) : (bif b then x else x) = x := by cases b <;> rfl
theorem bif_dec {α : Type} (p : Prop) [Decidable p] (x y : α) : (bif decide p then x else y) = if p then x else y := by
  by_cases h : p <;> simp [h]
theorem ite_some {α : Type} (p : Prop) [Decidable p] (x y : α) : (if p then some x else some y) = some (if p then x else y) := by split <;> rfl
@[simp] theorem bif_not {α : Type} (b : Bool) (x y : α) : (bif !b then x else y) = bif b then y else x := by cases b <;> rfl
@[simp] theorem eq2_false (a b : Int) (s t : ByteArray) : eq2 false a b s t = (decide (a = b) && decide (s = t)) := by simp [eq2]
@[simp] theorem eq2_true (a b : Int) (s t : ByteArray) : eq2 true a b s t = !(decide (a = b) && decide (s = t)) := by simp [eq2]

/-- it is there, and of it this holds -/
def Yd {α : Type} (o : Option α) (p : α → Prop) : Prop := ∃ x, o = some x ∧ p x
theorem Yd.bind {α β : Type} {o : Option α} {p : α → Prop} {f : α → Option β} {q : β → Prop} (h : Yd o p) (k : ∀ x, p x → Yd (f x) q) : Yd (o.bind f) q := by
  obtain ⟨x, rfl, hx⟩ := h
  exact k x hx
theorem Yd.mono {α : Type} {o : Option α} {p q : α → Prop} (h : Yd o p) (k : ∀ x, p x → q x) : Yd o q := by
  obtain ⟨x, h1, hx⟩ := h
  exact ⟨x, h1, k x hx⟩
theorem Yd.some {α : Type} {x : α} {p : α → Prop} (h : p x) : Yd (Option.some x) p := ⟨x, rfl, h⟩
theorem Yd.of_eq {α : Type} {o : Option α} {x : α} {p : α → Prop} (h : o = Option.some x) (hp : p x) : Yd o p := ⟨x, h, hp⟩
theorem Yd.cond {α : Type} {b : Bool} {x y : Option α} {p : α → Prop} (h1 : b = true → Yd x p) (h2 : b = false → Yd y p) : Yd (bif b then x else y) p := by
  cases b
  · exact h2 rfl
  · exact h1 rfl
theorem Yd.map {α β : Type} {o : Option α} {f : α → β} {p : β → Prop} (h : Yd o fun x => p (f x)) : Yd (o.map f) p := by
  obtain ⟨x, rfl, hx⟩ := h
  exact ⟨f x, rfl, hx⟩
theorem Yd.eq_true {o : Option Bool} (h : Yd o (· = true)) : o = Option.some true := by
  obtain ⟨x, h1, rfl⟩ := h
  exact h1

/-! ### numbers -/
theorem wrap64 {n : Int} (h1 : -9223372036854775808 ≤ n) (h2 : n ≤ 9223372036854775807) : IntKind.i64.wrap n = n := i64_in h1 h2
theorem add64 {a b : Int} (h1 : -9223372036854775808 ≤ a + b) (h2 : a + b ≤ 9223372036854775807) : addI .i64 a b = a + b := wrap64 h1 h2
theorem sub64 {a b : Int} (h1 : -9223372036854775808 ≤ a - b) (h2 : a - b ≤ 9223372036854775807) : subI .i64 a b = a - b := wrap64 h1 h2
theorem idx_nat {α : Type} (l : List α) (i : Nat) : idx l (i : Int) = l[i]? := by simp [idx]
theorem idx_of {α : Type} (l : List α) {n : Int} (h : 0 ≤ n) : idx l n = l[n.toNat]? := by simp [idx, h]
@[simp] theorem convI_i64_u8 (n : Nat) (h : n < 256) : convI .i64 (n : Int) = n := wrap64 (by omega) (by omega)
@[simp] theorem lenOk_small {bytes n : Nat} (h : n * bytes ≤ 140737488355328 ∧ n ≤ 1000000) : lenOk bytes n = true := by
  simp only [lenOk, Bool.and_eq_true, decide_eq_true_eq]
  exact ⟨h.1, Nat.le_trans h.2 (by simp [maxLen])⟩

/-! ### bits -/
theorem ofInt_nat (a : Nat) (h : a < 2 ^ 62) : (BitVec.ofInt 64 (a : Int)).toNat = a := by
  rw [BitVec.ofInt_natCast, BitVec.toNat_ofNat]
  exact Nat.mod_eq_of_lt (by omega)
theorem wrap_nat (n : Nat) (h : n < 2 ^ 62) : IntKind.i64.wrap (n : Int) = n := wrap64 (by omega) (by omega)
theorem andI_nat (a b : Nat) (ha : a < 2 ^ 62) (hb : b < 2 ^ 62) : andI .i64 (a : Int) (b : Int) = ((a &&& b : Nat) : Int) := by
  show IntKind.i64.wrap (((BitVec.ofInt 64 (a : Int) &&& BitVec.ofInt 64 (b : Int)).toNat : Nat) : Int) = _
  rw [BitVec.toNat_and, ofInt_nat a ha, ofInt_nat b hb]
  exact wrap_nat _ (Nat.lt_of_le_of_lt Nat.and_le_left ha)
theorem orI_nat (a b : Nat) (ha : a < 2 ^ 62) (hb : b < 2 ^ 62) : orI .i64 (a : Int) (b : Int) = ((a ||| b : Nat) : Int) := by
  show IntKind.i64.wrap (((BitVec.ofInt 64 (a : Int) ||| BitVec.ofInt 64 (b : Int)).toNat : Nat) : Int) = _
  rw [BitVec.toNat_or, ofInt_nat a ha, ofInt_nat b hb]
  exact wrap_nat _ (Nat.or_lt_two_pow ha hb)
theorem and_bit (s k : Nat) : s &&& 2 ^ k = if s.testBit k then 2 ^ k else 0 := by
  refine Nat.eq_of_testBit_eq fun i => ?_
  rw [Nat.testBit_and, Nat.testBit_two_pow]
  by_cases h : k = i
  · subst h
    cases hs : s.testBit k <;> simp
  · cases hs : s.testBit k <;> simp [h]
theorem shlI_one (k : Nat) (h : k ≤ 60) : shlI .i64 1 (k : Int) = ((2 ^ k : Nat) : Int) := by
  show IntKind.i64.wrap (1 * 2 ^ min (k : Int).toNat 64) = _
  rw [Int.toNat_natCast, show min k 64 = k from Nat.min_eq_left (by omega), Int.one_mul]
  have := wrap_nat (2 ^ k) (Nat.pow_lt_pow_right (by omega) (by omega))
  simpa using this
theorem shrI_nat (a k : Nat) (h : k ≤ 60) : shrI .i64 (a : Int) (k : Int) = ((a >>> k : Nat) : Int) := by
  show (a : Int).fdiv (2 ^ min (k : Int).toNat 64) = _
  rw [Int.toNat_natCast, show min k 64 = k from Nat.min_eq_left (by omega), Nat.shiftRight_eq_div_pow]
  rw [show (2 : Int) ^ k = ((2 ^ k : Nat) : Int) by simp, Int.fdiv_eq_ediv_of_nonneg _ (Int.natCast_nonneg _)]
  exact (Int.natCast_ediv a (2 ^ k)).symm

/-! ### loops -/
theorem loopO_inr {σ ρ : Type} {step : σ → Option (σ ⊕ ρ)} {s : σ} {r : ρ} (h : step s = some (.inr r)) : loopO step s = some r := by rw [loopO_eq, h]
theorem loopO_inl {σ ρ : Type} {step : σ → Option (σ ⊕ ρ)} {s s' : σ} (h : step s = some (.inl s')) : loopO step s = loopO step s' := by rw [loopO_eq, h]
theorem Yd.loop {σ ρ : Type} {step : σ → Option (σ ⊕ ρ)} {s : σ} {p : ρ → Prop} (h : Yd (step s) fun y => match y with | .inl s' => Yd (loopO step s') p | .inr r => p r) : Yd (loopO step s) p := by
  obtain ⟨y, h1, h2⟩ := h
  cases y with
  | inl s' => rw [loopO_inl h1]; exact h2
  | inr r => exact ⟨r, loopO_inr h1, h2⟩
/-- where ways meet -/
theorem Yd.join {σ ρ : Type} {j : σ → Option ρ} {f : (σ → Option ρ) → Option ρ} {p : ρ → Prop} (inv : σ → Prop) (h1 : ∀ v, inv v → Yd (j v) p) (h2 : ∀ j' : σ → Option ρ, (∀ v, inv v → Yd (j' v) p) → Yd (f j') p) : Yd (letJ j f) p := h2 j h1
theorem Yd.inr {σ ρ : Type} {o : Option ρ} {p : σ ⊕ ρ → Prop} (h : Yd o fun r => p (.inr r)) : Yd (Option.map Sum.inr o) p := h.map
/-- through a list, with a state, till the end or till something is found -/
def foldE {α σ ρ : Type} (g : α → σ → Option (σ ⊕ ρ)) (fin : σ → Option ρ) : List α → σ → Option ρ
  | [], s => fin s
  | x :: l, s => match g x s with
    | none => none
    | some (.inr r) => some r
    | some (.inl s') => foldE g fin l s'
/-- a loop whose state T is made of a place in the list and a rest -/
theorem loopO_list {α σ τ ρ : Type} (l : List α) (mk : Int → σ → τ) {step : τ → Option (τ ⊕ ρ)} (g : α → σ → Option (σ ⊕ ρ)) (fin : σ → Option ρ)
    (h1 : ∀ (i : Nat) (x : α) (s : σ), i < l.length → l[i]? = some x → step (mk i s) = match g x s with | none => none | some (.inr r) => some (.inr r) | some (.inl s') => some (.inl (mk (i + 1 : Nat) s')))
    (h2 : ∀ s, step (mk l.length s) = (fin s).map Sum.inr) (s : σ) : loopO step (mk 0 s) = foldE g fin l s := by
  suffices h : ∀ (k : Nat) (i : Nat) (s : σ), i + k = l.length → loopO step (mk i s) = foldE g fin (l.drop i) s by
    have := h l.length 0 s (by omega)
    simpa using this
  intro k
  induction k with
  | zero =>
    intro i s hi
    obtain rfl : i = l.length := by omega
    rw [List.drop_length, foldE, loopO_eq, h2]
    cases fin s <;> rfl
  | succ k ih =>
    intro i s hi
    have hlt : i < l.length := by omega
    rw [List.drop_eq_getElem_cons hlt, foldE, loopO_eq, h1 i l[i] s hlt (List.getElem?_eq_getElem hlt)]
    cases hg : g l[i] s with
    | none => rfl
    | some y =>
      cases y with
      | inr r => rfl
      | inl s' => exact ih (i + 1) s' (by omega)
/-- the loops that 'range' makes: the facts at a place are handed over -/
theorem loopO_range {α σ τ ρ : Type} (l : List α) (hl : l.length ≤ 9223372036854775807) (mk : Int → σ → τ) {step : τ → Option (τ ⊕ ρ)} (g : α → σ → Option (σ ⊕ ρ)) (fin : σ → Option ρ)
    (h1 : ∀ (i : Nat) (x : α) (s : σ), decide ((i : Int) < ((l.length : Nat) : Int)) = true → idx l (i : Int) = some x → addI .i64 (i : Int) 1 = ((i + 1 : Nat) : Int) → step (mk i s) = match g x s with | none => none | some (.inr r) => some (.inr r) | some (.inl s') => some (.inl (mk (i + 1 : Nat) s')))
    (h2 : ∀ s, decide (((l.length : Nat) : Int) < ((l.length : Nat) : Int)) = false → step (mk l.length s) = (fin s).map Sum.inr) (s : σ) : loopO step (mk 0 s) = foldE g fin l s :=
  loopO_list l mk g fin (fun i x s hi hx => h1 i x s (decide_eq_true (Int.ofNat_lt.2 hi)) (by rw [idx_nat]; exact hx) (add64 (by omega) (by omega))) (fun s => h2 s (decide_eq_false (Int.lt_irrefl _))) s
end Go.TQ

namespace Go.Proofs.YtaebanabjdmgfaaGreat
open Go.TQ

def noVal : ByteArray := ⟨#[]⟩
def zeroB (b : TBallot) : Bool := decide (b.Counter = 0) && decide (b.Value = noVal)
def lessV (a b : ByteArray) : Bool := if a.size = b.size then sless a b else decide (a.size < b.size)
def lessB (a b : TBallot) : Bool := if a.Counter = b.Counter then lessV a.Value b.Value else decide (a.Counter < b.Counter)
def compat (a b : TBallot) : Bool := decide (a.Value = b.Value)
def covers (p b : TBallot) : Bool := !zeroB p && compat p b && decide (b.Counter ≤ p.Counter)
def preparesB (p q b : TBallot) : Bool := covers p b || covers q b || (!zeroB q && lessB b q)
def aborts (p b : TBallot) : Bool := !zeroB p && !compat p b && lessB b p
def validB (b : TBallot) : Bool := (decide (1 ≤ b.Counter) && decide (b.Counter ≤ 1000) || decide (b.Counter = 1000000)) && decide (1 ≤ b.Value.size) && decide (b.Value.size ≤ 200)

@[simp] theorem F_ballots_Zero_eq (b : TBallot) : F_ballots_Zero b = some (zeroB b) := by unfold F_ballots_Zero zeroB; rw [eq2_false]; rfl
@[simp] theorem F_ref23_Zero_eq (b : TBallot) : F_ref23_Zero b = some (zeroB b) := by unfold F_ref23_Zero zeroB; rw [eq2_false]; rfl
@[simp] theorem F_ballots_Compatible_eq (a b : TBallot) : F_ballots_Compatible a b = some (compat a b) := rfl
@[simp] theorem F_ref23_Compatible_eq (a b : TBallot) : F_ref23_Compatible a b = some (compat a b) := rfl
@[simp] theorem F_ballots_Valid_eq (b : TBallot) : F_ballots_Valid b = some (validB b) := by
  have h1 : decide ((1 : Int) ≤ (b.Value.size : Nat)) = decide (1 ≤ b.Value.size) := by rw [decide_eq_decide]; omega
  have h2 : decide (((b.Value.size : Nat) : Int) ≤ 200) = decide (b.Value.size ≤ 200) := by rw [decide_eq_decide]; omega
  simp only [F_ballots_Valid, validB, h1, h2, bif_some, Option.bind_some, Bool.cond_false_right, Bool.cond_true_left]
@[simp] theorem F_ref23_Valid_eq (b : TBallot) : F_ref23_Valid b = some (validB b) := F_ballots_Valid_eq b
@[simp] theorem F_ref23_LessValue_eq (a b : ByteArray) : F_ref23_LessValue a b = some (lessV a b) := by
  simp only [F_ref23_LessValue, lessV, bif_not, Int.ofNat_inj, Int.ofNat_lt, bif_dec, ite_some]
@[simp] theorem F_ref23_Less_eq (a b : TBallot) : F_ref23_Less a b = some (lessB a b) := by
  simp [F_ref23_Less, lessB, bif_dec, ite_some]
@[simp] theorem F_ref23_Covers_eq (a b : TBallot) : F_ref23_Covers a b = some (covers a b) := by simp [F_ref23_Covers, covers]
@[simp] theorem F_ballots_Covers_eq (a b : TBallot) : F_ballots_Covers a b = some (covers a b) := by simp [F_ballots_Covers, covers]
@[simp] theorem F_ref23_Prepares_eq (p q b : TBallot) : F_ref23_Prepares p q b = some (preparesB p q b) := by simp [F_ref23_Prepares, preparesB]
@[simp] theorem F_ref23_Aborts_eq (p b : TBallot) : F_ref23_Aborts p b = some (aborts p b) := by simp [F_ref23_Aborts, aborts]

/-! ### comparing -/
def cmpI (a b : Int) : Int := if a < b then -1 else if b < a then 1 else 0
def cmpS (a b : ByteArray) : Int := if sless a b then -1 else if sless a b || decide (a = b) then 0 else 1
def orL : List Int → Int
  | [] => 0
  | x :: l => if x = 0 then orL l else x
@[simp] theorem F_cmp_Compare_int_eq (a b : Int) : F_cmp_Compare_int a b = some (cmpI a b) := by
  simp [F_cmp_Compare_int, F_cmp_isNaN_int, cmpI, bif_dec, ite_some]
@[simp] theorem F_cmp_Compare_string_eq (a b : ByteArray) : F_cmp_Compare_string a b = some (cmpS a b) := by
  simp only [F_cmp_Compare_string, F_cmp_isNaN_string, cmpS]
  cases h1 : sless a b <;> by_cases h2 : a = b <;> simp [h2]
theorem F_cmp_Or_int_eq (l : List Int) (hl : l.length ≤ 1000000) : F_cmp_Or_int l = some (orL l) := by
  unfold F_cmp_Or_int
  rw [loopO_range l (by omega) (fun i (_ : Unit) => (i, ())) (fun x _ => some (if x = 0 then .inl () else .inr x)) (fun _ => some 0) (fun i x s hd hx hw => ?_) (fun s hd => ?_) ()]
  · induction l with
    | nil => rfl
    | cons x l ih =>
      rw [foldE, orL]
      by_cases h : x = 0
      · simp only [h, if_true]; exact ih (by simp at hl; omega)
      · simp only [if_neg h]
  · by_cases h : x = 0 <;> simp only [hd, hx, hw, h, cond_true, Option.bind_some] <;> simp
  · simp only [hd, cond_false]
@[simp] theorem F_cmp_Or_int_two (a b : Int) : F_cmp_Or_int [a, b] = some (if a = 0 then b else a) := by
  rw [F_cmp_Or_int_eq _ (by simp)]
  simp only [orL]
  by_cases h : a = 0 <;> by_cases h' : b = 0 <;> simp [h, h']
def cmpV (a b : ByteArray) : Int := if cmpI a.size b.size = 0 then cmpS a b else cmpI a.size b.size
def cmpB (a b : TBallot) : Int := if cmpI a.Counter b.Counter = 0 then cmpV a.Value b.Value else cmpI a.Counter b.Counter
@[simp] theorem F_ballots_CompareValues_eq (a b : ByteArray) : F_ballots_CompareValues a b = some (cmpV a b) := by simp [F_ballots_CompareValues, cmpV]
@[simp] theorem F_ballots_Compare_eq (a b : TBallot) : F_ballots_Compare a b = some (cmpB a b) := by simp [F_ballots_Compare, cmpB]
theorem cmpI_zero (a b : Int) : cmpI a b = 0 ↔ a = b := by unfold cmpI; split <;> (try split) <;> omega
theorem cmpI_neg (a b : Int) : cmpI a b < 0 ↔ a < b := by unfold cmpI; split <;> (try split) <;> omega
theorem cmpS_neg (a b : ByteArray) : cmpS a b < 0 ↔ sless a b = true := by
  unfold cmpS
  split
  · rename_i h; simp [h]
  · rename_i h
    split <;> simp [h]
theorem cmpV_neg (a b : ByteArray) : decide (cmpV a b < 0) = lessV a b := by
  unfold cmpV lessV
  by_cases h : a.size = b.size
  · rw [if_pos ((cmpI_zero _ _).2 (by rw [h])), if_pos h]
    rw [Bool.eq_iff_iff, decide_eq_true_eq, cmpS_neg]
  · rw [if_neg (fun e => h (by have := (cmpI_zero _ _).1 e; omega)), if_neg h, decide_eq_decide, cmpI_neg]
    omega
theorem cmpB_neg (a b : TBallot) : decide (cmpB a b < 0) = lessB a b := by
  unfold cmpB lessB
  by_cases h : a.Counter = b.Counter
  · rw [if_pos ((cmpI_zero _ _).2 h), if_pos h, cmpV_neg]
  · rw [if_neg (fun e => h ((cmpI_zero _ _).1 e)), if_neg h, decide_eq_decide, cmpI_neg]
@[simp] theorem F_ballots_Less_eq (a b : TBallot) : F_ballots_Less a b = some (lessB a b) := by simp [F_ballots_Less, cmpB_neg]
@[simp] theorem F_ballots_Prepares_eq (p q b : TBallot) : F_ballots_Prepares p q b = some (preparesB p q b) := by simp [F_ballots_Prepares, preparesB]
@[simp] theorem F_ballots_Aborts_eq (p b : TBallot) : F_ballots_Aborts p b = some (aborts p b) := by simp [F_ballots_Aborts, aborts]
def finite (b : TBallot) : Bool := validB b && decide (b.Counter ≤ 1000)
@[simp] theorem F_envelopes_finite_eq (b : TBallot) : F_envelopes_finite b = some (finite b) := by simp [F_envelopes_finite, finite]
@[simp] theorem F_envelopes_optional_eq (b : TBallot) : F_envelopes_optional b = some (zeroB b || validB b) := by simp [F_envelopes_optional]
@[simp] theorem F_envelopes_at_eq (e : TEnvelope) (n : Int) : F_envelopes_at e n = some ⟨n, e.Ballot.Value⟩ := rfl
end Go.Proofs.YtaebanabjdmgfaaGreat

namespace Go.Proofs.YtaebanabjdmgfaaGreat
open Go.TQ

theorem B_depth {rec : (TTrust × Unit) → Option Int} {t : TTrust} (hl : t.Inner.length ≤ 9223372036854775807) :
    B_threshold_Depth rec t = foldE (fun u m => (rec (u, ())).map fun r => .inl (maxI m r)) (fun m => some (addI .i64 m 1)) t.Inner 0 := by
  unfold B_threshold_Depth
  rw [loopO_range t.Inner hl (fun i (m : Int) => (m, i, ())) (fun u m => (rec (u, ())).map fun r => .inl (maxI m r)) (fun m => some (addI .i64 m 1)) (fun i x s hd hx hw => ?_) (fun s hd => ?_) 0]
  · simp only [hd, hx, hw, cond_true, Option.bind_some, TTrust.eta]
    cases rec (x, ()) <;> rfl
  · simp only [hd, cond_false]
theorem B_size {rec : (TTrust × Unit) → Option Int} {t : TTrust} (hl : t.Inner.length ≤ 9223372036854775807) :
    B_threshold_Size rec t = foldE (fun u m => (rec (u, ())).map fun r => .inl (addI .i64 m r)) (fun m => some m) t.Inner (addI .i64 t.Nodes.length t.Inner.length) := by
  unfold B_threshold_Size
  rw [loopO_range t.Inner hl (fun i (m : Int) => (m, i, ())) (fun u m => (rec (u, ())).map fun r => .inl (addI .i64 m r)) (fun m => some m) (fun i x s hd hx hw => ?_) (fun s hd => ?_) (addI .i64 t.Nodes.length t.Inner.length)]
  · simp only [hd, hx, hw, cond_true, Option.bind_some, TTrust.eta]
    cases rec (x, ()) <;> rfl
  · simp only [hd, cond_false]
theorem ref_depth (t : TTrust) : F_ref02_Depth t = F_threshold_Depth t := rfl
theorem ref_size (t : TTrust) : F_ref02_Size t = F_threshold_Size t := rfl

/-! ### sets of nodes -/
def inNode (x : Int) : Bool := decide (0 ≤ x) && decide (x < 10)
def hasS (s x : Int) : Bool := decide (0 ≤ s) && decide (s < 1024) && inNode x && s.toNat.testBit x.toNat
theorem below10 (s : Int) : F_nodeset_Valid s = some (decide (0 ≤ s) && decide (s < 1024)) := by
  have : shlI .i64 1 10 = 1024 := shlI_one 10 (by omega)
  simp [F_nodeset_Valid, F_nodeset_below, this]
theorem andI_testBit {s x : Int} (h1 : 0 ≤ s) (h2 : s < 1024) (h3 : 0 ≤ x) (h4 : x < 10) : (andI .i64 s (shlI .i64 1 x) = 0) = (s.toNat.testBit x.toNat = false) := by
  obtain ⟨n, rfl⟩ := Int.eq_ofNat_of_zero_le h1
  obtain ⟨j, rfl⟩ := Int.eq_ofNat_of_zero_le h3
  have hj : 2 ^ j ≤ 2 ^ 10 := Nat.pow_le_pow_right (by omega) (by omega)
  rw [shlI_one j (by omega), andI_nat n (2 ^ j) (by omega) (by omega), and_bit]
  simp only [Int.toNat_natCast]
  have hp : 2 ^ j ≠ 0 := Nat.pos_iff_ne_zero.1 (Nat.pow_pos (by omega))
  cases n.testBit j
  · simp
  · rw [if_pos rfl]
    simp only [Bool.true_eq_false, eq_iff_iff, iff_false]
    omega
@[simp] theorem F_nodeset_Has_eq (s x : Int) : F_nodeset_Has s x = some (hasS s x) := by
  unfold F_nodeset_Has hasS inNode
  rw [below10]
  by_cases h1 : 0 ≤ s
  · by_cases h2 : s < 1024
    · by_cases h3 : 0 ≤ x
      · by_cases h4 : x < 10
        · have h5 : ¬ x < 0 := by omega
          have := andI_testBit h1 h2 h3 h4
          simp [h1, h2, h3, h4, h5, this]
        · simp [h1, h2, h3, h4]
      · simp [h1, h2, h3]
    · simp [h1, h2]
  · simp [h1]
theorem shr_testBit {s x : Int} (h1 : 0 ≤ s) (h2 : s < 1024) (h3 : 0 ≤ x) (h4 : x < 10) : (andI .i64 (shrI .i64 s x) 1 = 1) = (s.toNat.testBit x.toNat = true) := by
  obtain ⟨n, rfl⟩ := Int.eq_ofNat_of_zero_le h1
  obtain ⟨j, rfl⟩ := Int.eq_ofNat_of_zero_le h3
  have hle : n >>> j ≤ n := by rw [Nat.shiftRight_eq_div_pow]; exact Nat.div_le_self _ _
  rw [shrI_nat n j (by omega), show (1 : Int) = ((1 : Nat) : Int) from rfl, andI_nat _ 1 (by omega) (by omega)]
  simp only [Int.toNat_natCast, Int.ofNat_inj, Nat.testBit, eq_iff_iff]
  rw [Nat.and_comm]
  simp
@[simp] theorem F_ref01_Has_eq (s x : Int) : F_ref01_Has s x = some (hasS s x) := by
  unfold F_ref01_Has F_ref01_Valid hasS inNode
  by_cases h1 : 0 ≤ s
  · by_cases h2 : s < 1024
    · have h2' : s ≤ 1023 := by omega
      by_cases h3 : 0 ≤ x
      · by_cases h4 : x < 10
        · have h5 : ¬ x < 0 := by omega
          have := shr_testBit h1 h2 h3 h4
          simp [h1, h2, h2', h3, h4, h5, this]
        · simp [h1, h2, h2', h3, h4]
      · simp [h1, h2, h2', h3]
    · have h2' : ¬ s ≤ 1023 := by omega
      simp [h1, h2, h2']
  · simp [h1]
theorem orI_bit {s : Nat} {x : Int} (h1 : s < 1024) (h3 : 0 ≤ x) (h4 : x < 10) : orI .i64 (s : Int) (shlI .i64 1 x) = ((s ||| 2 ^ x.toNat : Nat) : Int) := by
  obtain ⟨j, rfl⟩ := Int.eq_ofNat_of_zero_le h3
  have hj : 2 ^ j ≤ 2 ^ 9 := Nat.pow_le_pow_right (by omega) (by omega)
  rw [shlI_one j (by omega)]
  exact orI_nat s (2 ^ j) (by omega) (by omega)
theorem or_lt {s : Nat} {x : Int} (h1 : s < 1024) (h4 : x < 10) : s ||| 2 ^ x.toNat < 1024 := by
  have hj : 2 ^ x.toNat ≤ 2 ^ 9 := Nat.pow_le_pow_right (by omega) (by omega)
  exact Nat.or_lt_two_pow (n := 10) h1 (by omega)
/-- the bits of nodes, and an error -/
def ofErr (s : Nat) : List Int → Int × Int × Unit
  | [] => (s, 0, ())
  | x :: l => if inNode x then (if s.testBit x.toNat then (0, 6, ()) else ofErr (s ||| 2 ^ x.toNat) l) else (0, 5, ())
theorem of_fold (g : Int → Int → Option (Int ⊕ (Int × Int × Unit)))
    (hg : ∀ x (s : Nat), s < 1024 → g x s = some (if inNode x then (if s.testBit x.toNat then .inr (0, 6, ()) else .inl ((s ||| 2 ^ x.toNat : Nat) : Int)) else .inr (0, 5, ()))) :
    ∀ (l : List Int) (s : Nat), s < 1024 → foldE g (fun s => some (s, 0, ())) l s = some (ofErr s l)
  | [], s, _ => rfl
  | x :: l, s, hs => by
    rw [foldE, hg x s hs, ofErr]
    cases h1 : inNode x with
    | false => simp
    | true =>
      cases h2 : s.testBit x.toNat with
      | true => simp
      | false =>
        simp only [if_true, Bool.false_eq_true, if_false]
        have h3 : x < 10 := by simp [inNode] at h1; omega
        exact of_fold g hg l _ (or_lt hs h3)
theorem F_nodeset_Of_eq (l : List Int) (hl : l.length ≤ 9223372036854775807) : F_nodeset_Of l = some (ofErr 0 l) := by
  unfold F_nodeset_Of
  rw [loopO_range l hl (fun i (s : Int) => (s, i, ())) (fun x s => if inNode x then (if hasS s x then some (.inr (0, 6, ())) else some (.inl (orI .i64 s (shlI .i64 1 x)))) else some (.inr (0, 5, ()))) (fun s => some (s, 0, ())) (fun i x s hd hx hw => ?_) (fun s hd => ?_) 0]
  · refine of_fold _ (fun x s hs => ?_) l 0 (by omega)
    cases h1 : inNode x with
    | false => simp
    | true =>
      have h3 : 0 ≤ x ∧ x < 10 := by simp [inNode] at h1; omega
      have h2 : hasS s x = s.testBit x.toNat := by simp [hasS, h1]; omega
      rw [h2, orI_bit hs h3.1 h3.2]
      cases s.testBit x.toNat <;> simp
  · simp only [hd, hx, hw, cond_true, Option.bind_some, F_nodeset_Has_eq]
    by_cases h0 : x < 0
    · have : ¬ 0 ≤ x := by omega
      simp [h0, inNode, this]
    · have h0' : 0 ≤ x := by omega
      by_cases h10 : 10 ≤ x
      · have : ¬ x < 10 := by omega
        simp [h0, h10, inNode, this, h0']
      · have h10' : x < 10 := by omega
        cases h : hasS s x <;> simp [h0, h10, inNode, h0', h10']
  · simp only [hd, cond_false]
theorem F_ref01_Of_eq (l : List Int) (hl : l.length ≤ 9223372036854775807) : F_ref01_Of l = some (ofErr 0 l) := by
  have : F_ref01_Of l = F_nodeset_Of l := by
    unfold F_ref01_Of F_nodeset_Of
    simp only [F_ref01_Has_eq, F_nodeset_Has_eq]
  rw [this, F_nodeset_Of_eq l hl]

/-! ### one level -/
@[simp] theorem F_threshold_level_1_eq (x : Int) : F_threshold_level_1 x = some (!inNode x) := by simp [F_threshold_level_1, F_threshold_node, inNode]
theorem F_ContainsFunc_eq (l : List Int) (hl : l.length ≤ 9223372036854775807) : F_slices_ContainsFunc_int_int_c132 l = some (l.any fun x => !inNode x) := by
  have key : ∀ (i : Nat) (k : Nat), i + k = l.length → Yd (loopO (fun (v1 : Int × Unit) => bif (decide (v1.1 < ((List.length l : Nat) : Int))) then Option.bind (idx l v1.1) fun x2 => Option.bind (F_threshold_level_1 x2) fun r3 => bif r3 then Option.map Sum.inr (some v1.1) else some (Sum.inl ((addI .i64 v1.1 (1 : Int)), ())) else Option.map Sum.inr (some (-1 : Int))) ((i : Int), ())) fun r => decide (0 ≤ r) = (l.drop i).any fun x => !inNode x := by
    intro i k
    induction k generalizing i with
    | zero =>
      intro hi
      refine ⟨-1, loopO_inr ?_, ?_⟩
      · have : ¬ ((i : Int) < (l.length : Int)) := by omega
        simp [this]
      · rw [List.drop_eq_nil_of_le (by omega)]; rfl
    | succ k ih =>
      intro hi
      have hlt : i < l.length := by omega
      have hd : decide ((i : Int) < ((l.length : Nat) : Int)) = true := decide_eq_true (Int.ofNat_lt.2 hlt)
      have hx : idx l (i : Int) = some l[i] := by rw [idx_nat]; exact List.getElem?_eq_getElem hlt
      have hw : addI .i64 (i : Int) 1 = ((i + 1 : Nat) : Int) := add64 (by omega) (by omega)
      rw [List.drop_eq_getElem_cons hlt, List.any_cons]
      cases h : inNode l[i] with
      | true =>
        rw [loopO_inl (s' := (((i + 1 : Nat) : Int), ())) (by simp only [hd, hx, hw, cond_true, Option.bind_some, F_threshold_level_1_eq, h]; rfl)]
        exact (ih (i + 1) (by omega)).mono fun r hr => by simpa using hr
      | false =>
        refine ⟨i, loopO_inr (by simp only [hd, hx, cond_true, Option.bind_some, F_threshold_level_1_eq, h]; rfl), ?_⟩
        simp
  obtain ⟨r, h1, h2⟩ := key 0 l.length (by omega)
  unfold F_slices_ContainsFunc_int_int_c132 F_slices_IndexFunc_int_int_c132
  simp only [Int.natCast_zero] at h1
  rw [h1]
  simpa using h2
def levelB (rec : TTrust → Option Int) (t : TTrust) : Option Int :=
  if t.Threshold < 1 ∨ addI .i64 t.Nodes.length t.Inner.length < t.Threshold then some 4
  else if (t.Nodes.any fun x => !inNode x) then some 5
  else if (ofErr 0 t.Nodes).2.1 = 0 then foldE (fun u (_ : Unit) => (rec u).map fun r => if r = 0 then .inl () else .inr r) (fun _ => some 0) t.Inner ()
  else some (ofErr 0 t.Nodes).2.1
theorem B_level {rec : (TTrust × Unit) → Option Int} {t : TTrust} (hn : t.Nodes.length ≤ 9223372036854775807) (hl : t.Inner.length ≤ 9223372036854775807) : B_threshold_level rec t = levelB (fun u => rec (u, ())) t := by
  unfold B_threshold_level levelB
  rw [F_ContainsFunc_eq _ hn, F_nodeset_Of_eq _ hn]
  rw [loopO_range t.Inner hl (fun i (_ : Unit) => (i, ())) (fun u (_ : Unit) => (rec (u, ())).map fun r => if r = 0 then .inl () else .inr r) (fun _ => some 0) (fun i x s hd hx hw => ?_) (fun s hd => ?_) ()]
  · by_cases h1 : t.Threshold < 1
    · simp [h1]
    · by_cases h2 : addI .i64 t.Nodes.length t.Inner.length < t.Threshold
      · simp [h1, h2]
      · simp only [h1, h2, decide_false, cond_false, Option.bind_some, or_self, if_false]
        cases (t.Nodes.any fun x => !inNode x) with
        | true => simp
        | false =>
          by_cases h3 : (ofErr 0 t.Nodes).2.1 = 0 <;> simp [h3]
  · simp only [hd, hx, hw, cond_true, Option.bind_some, TTrust.eta]
    cases rec (x, ()) with
    | none => rfl
    | some r => by_cases h : r = 0 <;> simp [h]
  · simp only [hd, cond_false]
theorem B_check {rec : (TTrust × Unit) → Option Int} {t : TTrust} (hn : t.Nodes.length ≤ 9223372036854775807) (hl : t.Inner.length ≤ 9223372036854775807) : B_ref02_check rec t = levelB (fun u => rec (u, ())) t := by
  unfold B_ref02_check levelB
  rw [loopO_range t.Nodes hn (fun i (_ : Unit) => (i, ())) (fun x (_ : Unit) => some (if inNode x then .inl () else .inr 5)) (fun _ => if (ofErr 0 t.Nodes).2.1 = 0 then foldE (fun u (_ : Unit) => (rec (u, ())).map fun r => if r = 0 then .inl () else .inr r) (fun _ => some 0) t.Inner () else some (ofErr 0 t.Nodes).2.1) (fun i x s hd hx hw => ?_) (fun s hd => ?_) ()]
  · by_cases h1 : t.Threshold < 1
    · simp [h1]
    · by_cases h2 : addI .i64 t.Nodes.length t.Inner.length < t.Threshold
      · simp [h1, h2]
      · simp only [h1, h2, decide_false, cond_false, Option.bind_some, or_self, if_false]
        have : ∀ (l : List Int) (fin : Unit → Option Int), foldE (fun x (_ : Unit) => some (if inNode x then .inl () else .inr 5)) fin l () = if (l.any fun x => !inNode x) then some 5 else fin () := by
          intro l fin
          induction l with
          | nil => rfl
          | cons x l ih =>
            rw [foldE, List.any_cons]
            cases h : inNode x with
            | true => simpa using ih
            | false => simp
        exact this _ _
  · simp only [hd, hx, hw, cond_true, Option.bind_some, inNode]
    by_cases h0 : x < 0
    · have h0' : ¬ 0 ≤ x := by omega
      simp [h0, h0']
    · have h0' : 0 ≤ x := by omega
      by_cases h1 : 10 ≤ x
      · have h1' : ¬ x < 10 := by omega
        simp [h0, h0', h1, h1']
      · have h1' : x < 10 := by omega
        simp [h0, h0', h1, h1']
  · simp only [hd, cond_false]
    rw [F_ref01_Of_eq _ hn, Option.bind_some]
    rw [loopO_range t.Inner hl (fun i (_ : Unit) => (i, ())) (fun u (_ : Unit) => (rec (u, ())).map fun r => if r = 0 then .inl () else .inr r) (fun _ => some 0) (fun i x s hd hx hw => ?_) (fun s hd => ?_) ()]
    · by_cases h3 : (ofErr 0 t.Nodes).2.1 = 0 <;> simp [h3]
    · simp only [hd, hx, hw, cond_true, Option.bind_some, TTrust.eta]
      cases rec (x, ()) with
      | none => rfl
      | some r => by_cases h : r = 0 <;> simp [h]
    · simp only [hd, cond_false]

/-! ### trusts as the source makes them -/
structure GoodT (t : TTrust) : Prop where
  nodes : ∀ x ∈ t.Nodes, 0 ≤ x ∧ x < 10
  nodup : t.Nodes.Nodup
  len : t.Nodes.length ≤ 10
  inner : t.Inner = [] ∨ ∃ x, 0 ≤ x ∧ x < 10 ∧ t.Inner = [⟨1, [x], []⟩]
  th : 1 ≤ t.Threshold ∧ t.Threshold ≤ t.Nodes.length + t.Inner.length
theorem ofErr_good : ∀ (l : List Int) (s : Nat), (∀ x ∈ l, 0 ≤ x ∧ x < 10) → l.Nodup → (∀ x ∈ l, s.testBit x.toNat = false) → (ofErr s l).2.1 = 0
  | [], s, _, _, _ => rfl
  | x :: l, s, h1, h2, h3 => by
    rw [List.nodup_cons] at h2
    have hx := h1 x (by simp)
    have : inNode x = true := by simp [inNode]; omega
    rw [ofErr, this, h3 x (by simp)]
    simp only [if_true, Bool.false_eq_true, if_false]
    refine ofErr_good l _ (fun y hy => h1 y (by simp [hy])) h2.2 fun y hy => ?_
    have hy1 := h1 y (by simp [hy])
    rw [Nat.testBit_or, h3 y (by simp [hy]), Nat.testBit_two_pow]
    have : x.toNat ≠ y.toNat := fun e => by
      have : x = y := by omega
      subst this
      exact h2.1 hy
    simp [this]
theorem any_good {l : List Int} (h : ∀ x ∈ l, 0 ≤ x ∧ x < 10) : (l.any fun x => !inNode x) = false := by
  rw [List.any_eq_false]
  intro x hx
  have := h x hx
  simp [inNode]
  omega
theorem levelB_leaf {rec : TTrust → Option Int} {x : Int} (h0 : 0 ≤ x) (h1 : x < 10) : levelB rec ⟨1, [x], []⟩ = some 0 := by
  have h2 : addI .i64 (1 : Nat) (0 : Nat) = 1 := rfl
  have h3 : (ofErr 0 [x]).2.1 = 0 := ofErr_good [x] 0 (by simp; omega) (by simp) (by simp)
  have h4 : ([x].any fun x => !inNode x) = false := any_good (by simp; omega)
  simp only [levelB, List.length_cons, List.length_nil, Nat.zero_add, h2, h3, h4]
  simp [foldE]
theorem level_good {t : TTrust} (h : GoodT t) {rec : TTrust → Option Int} (hr : ∀ x, 0 ≤ x → x < 10 → rec ⟨1, [x], []⟩ = some 0) : levelB rec t = some 0 := by
  have hil : t.Inner.length ≤ 1 := by rcases h.inner with e | ⟨x, _, _, e⟩ <;> rw [e] <;> simp
  have hlen := h.len
  have h2 : addI .i64 t.Nodes.length t.Inner.length = t.Nodes.length + t.Inner.length := add64 (by omega) (by omega)
  have h3 : (ofErr 0 t.Nodes).2.1 = 0 := ofErr_good _ 0 h.nodes h.nodup (by simp)
  have h4 := any_good h.nodes
  have h5 := h.th
  unfold levelB
  rw [h2, if_neg (by omega), h4, h3]
  simp only [Bool.false_eq_true, if_false, if_true]
  rcases h.inner with e | ⟨x, hx0, hx1, e⟩
  · rw [e]; rfl
  · rw [e, foldE, hr x hx0 hx1]; rfl
theorem sz_pos (t : TTrust) : ∃ n, SizeOf.sizeOf t = n + 1 := by
  have : 1 ≤ SizeOf.sizeOf t := by
    cases t
    simp only [TTrust.mk.sizeOf_spec]
    omega
  exact ⟨SizeOf.sizeOf t - 1, by omega⟩
theorem depth_leaf (n : Nat) (th : Int) (l : List Int) : I_threshold_Depth (n + 1) (⟨th, l, []⟩, ()) = some 1 := by
  show B_threshold_Depth _ _ = _
  rw [B_depth (by simp)]
  rfl
theorem size_leaf (n : Nat) (th : Int) (l : List Int) : I_threshold_Size (n + 1) (⟨th, l, []⟩, ()) = some (addI .i64 l.length (0 : Nat)) := by
  show B_threshold_Size _ _ = _
  rw [B_size (by simp)]
  rfl
theorem depth_good {t : TTrust} (h : GoodT t) : ∃ d, F_threshold_Depth t = some d ∧ d ≤ 2 := by
  obtain ⟨n, hn⟩ := sz_pos t
  have hil : t.Inner.length ≤ 1 := by rcases h.inner with e | ⟨x, _, _, e⟩ <;> rw [e] <;> simp
  unfold F_threshold_Depth
  rw [hn]
  show ∃ d, B_threshold_Depth (I_threshold_Depth (n + 1)) t = some d ∧ d ≤ 2
  rw [B_depth (by omega)]
  rcases h.inner with e | ⟨x, _, _, e⟩
  · rw [e]; exact ⟨1, rfl, by omega⟩
  · rw [e, foldE, depth_leaf n 1 [x]]
    exact ⟨2, rfl, by omega⟩
theorem size_good {t : TTrust} (h : GoodT t) : ∃ d, F_threshold_Size t = some d ∧ d ≤ 200 := by
  obtain ⟨n, hn⟩ := sz_pos t
  have hil : t.Inner.length ≤ 1 := by rcases h.inner with e | ⟨x, _, _, e⟩ <;> rw [e] <;> simp
  have hlen := h.len
  unfold F_threshold_Size
  rw [hn]
  show ∃ d, B_threshold_Size (I_threshold_Size (n + 1)) t = some d ∧ d ≤ 200
  rw [B_size (by omega), add64 (by omega) (by omega)]
  rcases h.inner with e | ⟨x, _, _, e⟩
  · rw [e]; exact ⟨_, rfl, by simp; omega⟩
  · rw [e, foldE, size_leaf n 1 [x]]
    have h1 : addI .i64 (([x] : List Int).length : Nat) (0 : Nat) = 1 := rfl
    rw [h1]
    refine ⟨_, rfl, ?_⟩
    simp only [List.length_cons, List.length_nil]
    rw [add64 (by omega) (by omega)]
    omega
theorem F_threshold_Valid_good {t : TTrust} (h : GoodT t) : F_threshold_Valid t = some 0 := by
  obtain ⟨d, h1, h2⟩ := depth_good h
  obtain ⟨z, h3, h4⟩ := size_good h
  obtain ⟨n, hn⟩ := sz_pos t
  have hil : t.Inner.length ≤ 1 := by rcases h.inner with e | ⟨x, _, _, e⟩ <;> rw [e] <;> simp
  have hlen := h.len
  have h5 : F_threshold_level t = some 0 := by
    unfold F_threshold_level
    rw [hn]
    show B_threshold_level (I_threshold_level (n + 1)) t = some 0
    rw [B_level (by omega) (by omega)]
    refine level_good h fun x hx0 hx1 => ?_
    show B_threshold_level (I_threshold_level n) ⟨1, [x], []⟩ = some 0
    rw [B_level (by simp) (by simp)]
    exact levelB_leaf hx0 hx1
  have h6 : ¬ 4 < d := by omega
  have h7 : ¬ 200 < z := by omega
  simp [F_threshold_Valid, h1, h3, h5, h6, h7]
theorem F_ref02_Valid_good {t : TTrust} (h : GoodT t) : F_ref02_Valid t = some 0 := by
  obtain ⟨d, h1, h2⟩ := depth_good h
  obtain ⟨z, h3, h4⟩ := size_good h
  obtain ⟨n, hn⟩ := sz_pos t
  have hil : t.Inner.length ≤ 1 := by rcases h.inner with e | ⟨x, _, _, e⟩ <;> rw [e] <;> simp
  have hlen := h.len
  have h5 : F_ref02_check t = some 0 := by
    unfold F_ref02_check
    rw [hn]
    show B_ref02_check (I_ref02_check (n + 1)) t = some 0
    rw [B_check (by omega) (by omega)]
    refine level_good h fun x hx0 hx1 => ?_
    show B_ref02_check (I_ref02_check n) ⟨1, [x], []⟩ = some 0
    rw [B_check (by simp) (by simp)]
    exact levelB_leaf hx0 hx1
  have h6 : ¬ 4 < d := by omega
  have h7 : ¬ 200 < z := by omega
  simp [F_ref02_Valid, ref_depth, ref_size, h1, h3, h5, h6, h7]
end Go.Proofs.YtaebanabjdmgfaaGreat

namespace Go.Proofs.YtaebanabjdmgfaaGreat
open Go.TQ

structure OkS (s : TSrc) : Prop where
  len : s.L.length ≤ 800
  lo : 0 ≤ s.At
  hi : s.At ≤ 800
theorem New_ok (l : List Int) : Yd (F_play_New l) fun s => OkS s := by
  have h : minI (l.length : Int) 800 = ((min l.length 800 : Nat) : Int) := by unfold minI; split <;> omega
  have h2 : slcOk 0 ((min l.length 800 : Nat) : Int) l.length = true := by
    simp only [slcOk, Bool.and_eq_true, decide_eq_true_eq]
    omega
  unfold F_play_New
  rw [h, h2]
  refine Yd.some ⟨?_, by simp, by simp⟩
  simp only [Int.toNat_natCast, List.length_drop, List.length_take]
  omega
theorem tmod_bd (x n : Int) (hn : 1 ≤ n) : -n < x.tmod n ∧ x.tmod n < n := by
  have h2 := Int.emod_nonneg x (show n ≠ 0 by omega)
  have h3 := Int.emod_lt_of_pos x (show 0 < n by omega)
  rw [Int.tmod_eq_emod]
  split
  · omega
  · rw [Int.natAbs_of_nonneg (by omega)]; omega
theorem N_ok {s : TSrc} (h : OkS s) {n : Int} (hn : n ≤ 1000000000) : Yd (F_play_Src_N s n) fun p => OkS p.2 ∧ 0 ≤ p.1 ∧ (1 ≤ n → p.1 < n) ∧ (n < 1 → p.1 = 0) := by
  unfold F_play_Src_N
  simp only [letJ_eq]
  refine Yd.cond (fun h1 => ?_) (fun h1 => ?_)
  · exact Yd.some ⟨h, by simp, fun _ => by simp; omega, fun _ => rfl⟩
  · simp only [decide_eq_false_iff_not, Int.not_le] at h1
    refine Yd.cond (fun h2 => ?_) (fun h2 => ?_)
    · simp only [decide_eq_true_eq] at h2
      exact Yd.some ⟨h, by simp, fun _ => by simp; omega, fun _ => rfl⟩
    · simp only [decide_eq_false_iff_not, Int.not_lt] at h2
      obtain ⟨hl, hlo, hhi⟩ := h
      have e1 : addI .i64 s.At 1 = s.At + 1 := add64 (by omega) (by omega)
      have e2 : subI .i64 (s.At + 1) 1 = s.At := by rw [sub64 (by omega) (by omega)]; omega
      rw [e1, e2]
      have hlt : s.At.toNat < s.L.length := by omega
      rw [idx_of _ hlo, List.getElem?_eq_getElem hlt, Option.bind_some, if_neg (by omega), if_neg (by omega)]
      have hb := tmod_bd s.L[s.At.toNat] n h2
      have e3 : remI .i64 s.L[s.At.toNat] n = s.L[s.At.toNat].tmod n := rfl
      rw [e3]
      generalize s.L[s.At.toNat].tmod n = y at hb
      have e4 : addI .i64 y n = y + n := add64 (by omega) (by omega)
      rw [e4]
      have h5 : remI .i64 (y + n) n = (y + n) % n := Int.tmod_eq_emod_of_nonneg (by omega)
      rw [h5]
      exact Yd.some ⟨⟨hl, by simp; omega, by simp; omega⟩, Int.emod_nonneg _ (by omega), fun _ => Int.emod_lt_of_pos _ (by omega), fun _ => by omega⟩
theorem Range_ok {s : TSrc} (h : OkS s) {a b : Int} (h1 : 0 ≤ a) (h2 : a ≤ b + 1) (h3 : b ≤ 1000000) : Yd (F_play_Src_Range s a b) fun p => OkS p.2 ∧ a ≤ p.1 ∧ (a ≤ b → p.1 ≤ b) ∧ (b < a → p.1 = a) := by
  unfold F_play_Src_Range
  have e1 : subI .i64 b a = b - a := sub64 (by omega) (by omega)
  have e2 : addI .i64 (b - a) 1 = b - a + 1 := add64 (by omega) (by omega)
  rw [e1, e2]
  refine (N_ok h (by omega)).bind fun p ⟨h4, h5, h6, h7⟩ => ?_
  have e3 : addI .i64 a p.1 = a + p.1 := by
    by_cases hq : b - a + 1 < 1
    · rw [h7 hq]; exact add64 (by omega) (by omega)
    · have := h6 (by omega); exact add64 (by omega) (by omega)
  rw [e3]
  refine Yd.some ⟨h4, by simp; omega, fun hab => ?_, fun hab => ?_⟩
  · have := h6 (by omega)
    show a + p.1 ≤ b
    omega
  · have := h7 (by omega)
    show a + p.1 = a
    omega
theorem Text_ok {s : TSrc} (h : OkS s) {l : List ByteArray} (h1 : 1 ≤ l.length) (h2 : l.length ≤ 1000) : Yd (F_play_Src_Text s l) fun p => OkS p.2 ∧ p.1 ∈ l := by
  unfold F_play_Src_Text
  refine (N_ok h (by omega)).bind fun p ⟨h4, h5, h6, _⟩ => ?_
  have := h6 (by omega)
  have hlt : p.1.toNat < l.length := by omega
  rw [idx_of _ h5, List.getElem?_eq_getElem hlt]
  exact Yd.some ⟨h4, List.getElem_mem hlt⟩
/-- one of the four values -/
def Val (v : ByteArray) : Prop := v ∈ [(ByteArray.mk #[97]), (ByteArray.mk #[98]), (ByteArray.mk #[99]), (ByteArray.mk #[97, 97])]
theorem Val.size {v : ByteArray} (h : Val v) : 1 ≤ v.size ∧ v.size ≤ 2 := by
  simp only [Val, List.mem_cons, List.not_mem_nil, or_false] at h
  rcases h with rfl | rfl | rfl | rfl <;> exact ⟨by decide, by decide⟩
theorem Value_ok {s : TSrc} (h : OkS s) : Yd (F_play_Src_Value s) fun p => OkS p.2 ∧ Val p.1 := by
  unfold F_play_Src_Value
  exact (Text_ok h (by simp) (by simp)).bind fun p hp => Yd.some hp
theorem Low_ok {s : TSrc} (h : OkS s) : Yd (F_play_Src_Low s) fun p => OkS p.2 ∧ 1 ≤ p.1.Counter ∧ p.1.Counter ≤ 6 ∧ Val p.1.Value := by
  unfold F_play_Src_Low
  refine (Range_ok h (by omega) (by omega) (by omega)).bind fun p ⟨h1, h2, h3, _⟩ => ?_
  refine (Value_ok h1).bind fun q ⟨h4, h5⟩ => ?_
  exact Yd.some ⟨h4, h2, h3 (by omega), h5⟩
/-- n nodes at most -/
theorem Trust_ok {s : TSrc} (h : OkS s) {n : Nat} (hn1 : 1 ≤ n) (hn : n ≤ 10) : Yd (F_play_Src_Trust s n) fun p => OkS p.2 ∧ GoodT p.1 ∧ (∀ x ∈ p.1.Nodes, x < n) ∧ p.1.Nodes ≠ [] := by
  unfold F_play_Src_Trust
  simp only [letJ_eq]
  -- the loop
  let I (i : Nat) (s : TSrc) (t : TTrust) (ns : List Int) (is : List TTrust) : Prop := OkS s ∧ t.Threshold = 0 ∧ (∀ x ∈ ns, 0 ≤ x ∧ x < i) ∧ ns.Nodup ∧ ns.length ≤ i ∧ is = []
  suffices key : ∀ (k i : Nat) (s : TSrc) (t : TTrust) (ns : List Int) (is : List TTrust), i + k = n → I i s t ns is → Yd (loopO _ ((i : Int), s, t, ns, is, ())) _ from key n 0 s _ _ _ (by omega) ⟨h, rfl, by simp, by simp, by simp, rfl⟩
  intro k
  induction k with
  | zero =>
    intro i s t ns is hi ⟨h1, h2, h3, h4, h5, h6⟩
    obtain rfl : i = n := by omega
    subst h6
    have hd : decide ((i : Int) < (i : Int)) = false := decide_eq_false (Int.lt_irrefl _)
    refine Yd.loop ?_
    simp only [hd, cond_false]
    refine Yd.inr ?_
    -- behind the nodes
    have fin : ∀ (s : TSrc) (ns : List Int) (is : List TTrust) (th : Int), OkS s → (∀ x ∈ ns, 0 ≤ x ∧ x < i) → ns.Nodup → ns.length ≤ 10 → ns ≠ [] → (is = [] ∨ ∃ x, 0 ≤ x ∧ x < 10 ∧ is = [⟨1, [x], []⟩]) → 1 ≤ th → th ≤ ns.length + is.length →
        OkS s ∧ GoodT ⟨th, ns, is⟩ ∧ (∀ x ∈ ns, x < (i : Int)) ∧ ns ≠ [] := by
      intro s ns is th a1 a2 a3 a4 a5 a6 a7 a8
      exact ⟨a1, ⟨fun x hx => by have := a2 x hx; exact ⟨this.1, by omega⟩, a3, a4, a6, a7, a8⟩, fun x hx => (a2 x hx).2, a5⟩
    have tail : ∀ (s : TSrc) (ns : List Int) (is : List TTrust), OkS s → (∀ x ∈ ns, 0 ≤ x ∧ x < i) → ns.Nodup → ns.length ≤ 10 → ns ≠ [] → (is = [] ∨ ∃ x, 0 ≤ x ∧ x < 10 ∧ is = [⟨1, [x], []⟩]) →
        Yd (Option.bind (F_play_Src_Range s (quoI .i64 (addI .i64 (addI .i64 ((List.length ns : Nat) : Int) ((List.length is : Nat) : Int)) (1 : Int)) (2 : Int)) (addI .i64 ((List.length ns : Nat) : Int) ((List.length is : Nat) : Int))) fun p9 =>
          Option.bind (F_play_Src_N p9.2 (6 : Int)) fun p12 =>
          bif (decide (p12.1 = (5 : Int))) then some ((TTrust.mk (1 : Int) ns is), p12.2) else some ((TTrust.mk p9.1 ns is), p12.2)) fun p => OkS p.2 ∧ GoodT p.1 ∧ (∀ x ∈ p.1.Nodes, x < (i : Int)) ∧ p.1.Nodes ≠ [] := by
      intro s ns is a1 a2 a3 a4 a5 a6
      have hp : 1 ≤ ns.length := by cases ns with | nil => exact absurd rfl a5 | cons x l => simp
      have hil : is.length ≤ 1 := by rcases a6 with e | ⟨x, _, _, e⟩ <;> rw [e] <;> simp
      have e1 : addI .i64 ((List.length ns : Nat) : Int) ((List.length is : Nat) : Int) = ns.length + is.length := add64 (by omega) (by omega)
      have e2 : addI .i64 ((ns.length : Int) + is.length) 1 = ns.length + is.length + 1 := add64 (by omega) (by omega)
      have e3 : quoI .i64 ((ns.length : Int) + is.length + 1) 2 = (ns.length + is.length + 1) / 2 := by
        show IntKind.i64.wrap (Int.tdiv _ _) = _
        rw [Int.tdiv_eq_ediv_of_nonneg (by omega)]
        exact wrap64 (by omega) (by omega)
      rw [e1, e2, e3]
      refine (Range_ok a1 (by omega) (by omega) (by omega)).bind fun p ⟨b1, b2, b3, _⟩ => ?_
      refine (N_ok b1 (by omega)).bind fun q ⟨c1, _⟩ => ?_
      have b4 := b3 (by omega)
      refine Yd.cond (fun _ => Yd.some (fin q.2 ns is 1 c1 a2 a3 a4 a5 a6 (by omega) (by omega))) (fun _ => Yd.some (fin q.2 ns is p.1 c1 a2 a3 a4 a5 a6 (by omega) (by omega)))
    have mid : ∀ (s : TSrc) (ns : List Int), OkS s → (∀ x ∈ ns, 0 ≤ x ∧ x < i) → ns.Nodup → ns.length ≤ 10 → ns ≠ [] →
        Yd (Option.bind (F_play_Src_N s (4 : Int)) fun p13 =>
          bif (decide (p13.1 = (3 : Int))) then
          Option.bind (F_play_Src_N p13.2 (i : Int)) fun p14 =>
          bif lenOk 56 (List.length ([] : List TTrust) + List.length [(TTrust.mk (1 : Int) [p14.1] ([] : List TTrust))]) then
          (Option.bind (F_play_Src_Range p14.2 (quoI .i64 (addI .i64 (addI .i64 ((List.length ns : Nat) : Int) ((List.length (([] : List TTrust) ++ [(TTrust.mk (1 : Int) [p14.1] ([] : List TTrust))]) : Nat) : Int)) (1 : Int)) (2 : Int)) (addI .i64 ((List.length ns : Nat) : Int) ((List.length (([] : List TTrust) ++ [(TTrust.mk (1 : Int) [p14.1] ([] : List TTrust))]) : Nat) : Int))) fun p9 =>
          Option.bind (F_play_Src_N p9.2 (6 : Int)) fun p12 =>
          bif (decide (p12.1 = (5 : Int))) then some ((TTrust.mk (1 : Int) ns (([] : List TTrust) ++ [(TTrust.mk (1 : Int) [p14.1] ([] : List TTrust))])), p12.2) else some ((TTrust.mk p9.1 ns (([] : List TTrust) ++ [(TTrust.mk (1 : Int) [p14.1] ([] : List TTrust))])), p12.2))
          else none
          else
          (Option.bind (F_play_Src_Range p13.2 (quoI .i64 (addI .i64 (addI .i64 ((List.length ns : Nat) : Int) ((List.length ([] : List TTrust) : Nat) : Int)) (1 : Int)) (2 : Int)) (addI .i64 ((List.length ns : Nat) : Int) ((List.length ([] : List TTrust) : Nat) : Int))) fun p9 =>
          Option.bind (F_play_Src_N p9.2 (6 : Int)) fun p12 =>
          bif (decide (p12.1 = (5 : Int))) then some ((TTrust.mk (1 : Int) ns []), p12.2) else some ((TTrust.mk p9.1 ns []), p12.2))) fun p => OkS p.2 ∧ GoodT p.1 ∧ (∀ x ∈ p.1.Nodes, x < (i : Int)) ∧ p.1.Nodes ≠ [] := by
      intro s ns a1 a2 a3 a4 a5
      refine (N_ok a1 (by omega)).bind fun p ⟨b1, b2, b3, _⟩ => ?_
      refine Yd.cond (fun _ => ?_) (fun _ => ?_)
      · refine (N_ok b1 (by omega)).bind fun q ⟨c1, c2, c3, _⟩ => ?_
        have c4 := c3 (by omega)
        rw [lenOk_small (by simp)]
        exact tail q.2 ns _ c1 a2 a3 a4 a5 (.inr ⟨q.1, c2, by omega, rfl⟩)
      · exact tail p.2 ns [] b1 a2 a3 a4 a5 (.inl rfl)
    refine Yd.cond (fun hz => ?_) (fun hz => ?_)
    · refine (N_ok h1 (by omega)).bind fun p ⟨b1, b2, b3, _⟩ => ?_
      have b4 := b3 (by omega)
      exact mid p.2 [p.1] b1 (by simp; omega) (by simp) (by simp) (by simp)
    · have hne : ns ≠ [] := by
        intro e
        subst e
        simp at hz
      exact mid s ns h1 h3 h4 (by omega) hne
  | succ k ih =>
    intro i s t ns is hi ⟨h1, h2, h3, h4, h5, h6⟩
    have hd : decide ((i : Int) < (n : Int)) = true := decide_eq_true (by omega)
    have hw : addI .i64 (i : Int) 1 = ((i + 1 : Nat) : Int) := add64 (by omega) (by omega)
    refine Yd.loop ?_
    simp only [hd, cond_true, hw]
    refine (N_ok h1 (by omega)).bind fun p ⟨b1, b2, b3, _⟩ => ?_
    refine Yd.cond (fun _ => ?_) (fun _ => ?_)
    · rw [lenOk_small (by simp; omega)]
      refine Yd.some (ih (i + 1) p.2 _ _ _ (by omega) ⟨b1, h2, ?_, ?_, by simp; omega, h6⟩)
      · intro x hx
        rcases List.mem_append.1 hx with hx | hx
        · have := h3 x hx; omega
        · simp at hx; omega
      · refine List.nodup_append.2 ⟨h4, by simp, ?_⟩
        intro x hx y hy
        simp at hy
        have := h3 x hx
        omega
    · refine Yd.some (ih (i + 1) p.2 _ _ _ (by omega) ⟨b1, h2, ?_, h4, by omega, h6⟩)
      intro x hx
      have := h3 x hx
      omega
end Go.Proofs.YtaebanabjdmgfaaGreat

namespace Go.Proofs.YtaebanabjdmgfaaGreat
open Go.TQ

def at_ (e : TEnvelope) (n : Int) : TBallot := ⟨n, e.Ballot.Value⟩
def primeOk (e : TEnvelope) : Bool := zeroB e.Prime || (!zeroB e.Prepared && lessB e.Prime e.Prepared && !compat e.Prime e.Prepared)
def prepOk (e : TEnvelope) : Bool :=
  finite e.Ballot && (zeroB e.Prepared || validB e.Prepared) && (zeroB e.Prime || validB e.Prime) && primeOk e && decide (0 ≤ e.Low) && decide (e.Low ≤ e.High) && decide (e.High ≤ e.Ballot.Counter)
    && (decide (e.High = 0) || preparesB e.Prepared e.Prime (at_ e e.High)) && (decide (e.Low = 0) || (!aborts e.Prepared (at_ e e.Low) && !aborts e.Prime (at_ e e.Low)))
def ranged (e : TEnvelope) : Bool := decide (1 ≤ e.Low) && decide (e.Low ≤ e.High) && decide (e.High ≤ 1000)
def commOk (e : TEnvelope) : Bool := finite e.Ballot && validB e.Prepared && compat e.Prepared e.Ballot && zeroB e.Prime && ranged e && decide (e.High ≤ e.Prepared.Counter)
def extOk (e : TEnvelope) : Bool := validB e.Ballot && zeroB e.Prepared && zeroB e.Prime && ranged e
def headOk (e : TEnvelope) : Bool := decide (0 ≤ e.Node) && decide (e.Node < 10) && decide (1 ≤ e.Slot) && decide (e.Slot ≤ 1000000) && decide (1 ≤ e.Seq) && decide (e.Seq ≤ 1000000)
def validE (tv : Int) (e : TEnvelope) : Bool :=
  headOk e && decide (tv = 0) && (if e.Kind = 1 then prepOk e else if e.Kind = 2 then commOk e else if e.Kind = 3 then extOk e else false)

theorem dlt (a b : Int) : decide (a < b) = !decide (b ≤ a) := by by_cases h : a < b <;> simp [h] <;> omega
theorem F_prepares_eq (e : TEnvelope) : F_envelopes_prepares e = some (prepOk e) := by
  unfold F_envelopes_prepares prepOk primeOk at_
  simp only [F_ballots_Zero_eq, F_ballots_Less_eq, F_ballots_Compatible_eq, F_envelopes_finite_eq, F_envelopes_optional_eq, F_envelopes_at_eq, F_ballots_Aborts_eq, F_ballots_Prepares_eq, Option.bind_some, bif_some, letJ_eq, dlt, bif_not]
  cases finite e.Ballot <;> cases (zeroB e.Prepared || validB e.Prepared) <;> cases (zeroB e.Prime || validB e.Prime) <;> simp
  by_cases h : e.High = 0 <;> simp [h, Bool.and_assoc]
theorem F_envelopes_Valid_eq {e : TEnvelope} {tv : Int} (hT : F_threshold_Valid e.Trust = some tv) : F_envelopes_Valid e = some (validE tv e) := by
  unfold F_envelopes_Valid validE headOk
  simp [F_prepares_eq, hT, dlt, commOk, extOk, ranged]
  grind
theorem F_ref24_Valid_eq {e : TEnvelope} {tv : Int} (hT : F_ref02_Valid e.Trust = some tv) : F_ref24_Valid e = some (validE tv e) := by
  unfold F_ref24_Valid validE headOk
  simp [hT, dlt, commOk, extOk, ranged, prepOk, finite, primeOk, at_]
  have h9 : decide (e.Node ≤ 9) = !decide (10 ≤ e.Node) := by by_cases h : e.Node ≤ 9 <;> simp [h] <;> omega
  rw [h9]
  generalize (decide (0 ≤ e.Node) && !decide (10 ≤ e.Node) && decide (1 ≤ e.Slot) && decide (e.Slot ≤ 1000000) && decide (1 ≤ e.Seq) && decide (e.Seq ≤ 1000000) && decide (tv = 0)) = hd
  by_cases k1 : e.Kind = 1
  · simp only [k1, decide_true, cond_true, if_true]
    by_cases hl : 0 ≤ e.Low
    · by_cases hh : e.Low ≤ e.High
      · have : decide (e.High ≤ 0) = decide (e.High = 0) := by rw [decide_eq_decide]; omega
        rw [this]
        grind
      · simp [hh]
    · simp [hl]
  · by_cases k2 : e.Kind = 2
    · simp only [k2, decide_true, cond_true, if_true]
      grind
    · simp only [k1, k2, decide_false, cond_false, if_false]
      grind

def votesP (e : TEnvelope) (b : TBallot) : Bool := !zeroB b && (if e.Kind = 1 then covers e.Ballot b else compat e.Ballot b)
def acceptsP (e : TEnvelope) (b : TBallot) : Bool := !zeroB b && (if e.Kind = 1 then preparesB e.Prepared e.Prime b else if e.Kind = 2 then covers e.Prepared b else compat e.Ballot b)
@[simp] theorem F_Right_VotesPrepare_eq (r : TRight) (b : TBallot) : F_envelopes_Right_VotesPrepare r b = some (votesP r.Envelope b) := by
  simp only [F_envelopes_Right_VotesPrepare, votesP]
  cases hz : zeroB b <;> by_cases h : r.Envelope.Kind = 1 <;> simp [h, hz]
@[simp] theorem F_Right_AcceptsPrepare_eq (r : TRight) (b : TBallot) : F_envelopes_Right_AcceptsPrepare r b = some (acceptsP r.Envelope b) := by
  simp only [F_envelopes_Right_AcceptsPrepare, acceptsP]
  cases hz : zeroB b <;> by_cases h : r.Envelope.Kind = 1 <;> by_cases h2 : r.Envelope.Kind = 2 <;> simp [h, h2, hz]
section
variable {e : TEnvelope} {tv : Int} (hT : F_threshold_Valid e.Trust = some tv)
 include hT
end

/-! ### the example -/
def ups (n : Nat) : List Int := (List.range n).map fun i : Nat => (i : Int)
theorem ups_succ (n : Nat) : ups (n + 1) = ups n ++ [(n : Int)] := by simp [ups, List.range_succ]
@[simp] theorem ups_length (n : Nat) : (ups n).length = n := by simp [ups]
theorem Flat_eq (n : Nat) (hn : n ≤ 1000) (k : Int) : F_play_Flat n k = some ⟨k, ups n, []⟩ := by
  unfold F_play_Flat
  suffices key : ∀ (m i : Nat) (t : TTrust), i + m = n → t.Threshold = k → t.Inner = [] → loopO (fun (v1 : Int × TTrust × (List Int) × Unit) =>
      bif (decide (v1.1 < (n : Int))) then
      bif lenOk 8 (List.length v1.2.2.1 + List.length [v1.1]) then
      some (Sum.inl ((addI .i64 v1.1 (1 : Int)), (TTrust.mk v1.2.1.Threshold ([] : List Int) v1.2.1.Inner), (v1.2.2.1 ++ [v1.1]), ()))
      else none
      else
      Option.map Sum.inr (some (TTrust.mk v1.2.1.Threshold v1.2.2.1 v1.2.1.Inner))) ((i : Int), t, ups i, ()) = some ⟨k, ups n, []⟩ from key n 0 _ (by omega) rfl rfl
  intro m
  induction m with
  | zero =>
    intro i t hi h1 h2
    obtain rfl : i = n := by omega
    refine loopO_inr ?_
    have hd : decide ((i : Int) < (i : Int)) = false := decide_eq_false (Int.lt_irrefl _)
    simp only [hd, cond_false, h1, h2, Option.map_some]
  | succ m ih =>
    intro i t hi h1 h2
    have hd : decide ((i : Int) < (n : Int)) = true := decide_eq_true (by omega)
    have hw : addI .i64 (i : Int) 1 = ((i + 1 : Nat) : Int) := add64 (by omega) (by omega)
    rw [loopO_inl (s' := (((i + 1 : Nat) : Int), ⟨t.Threshold, [], t.Inner⟩, ups (i + 1), ()))]
    · exact ih (i + 1) _ (by omega) h1 h2
    · simp only [hd, hw, cond_true]
      rw [lenOk_small (by simp; omega)]
      simp [ups_succ]
theorem flat_good (n : Nat) (hn : n ≤ 10) (k : Int) (h1 : 1 ≤ k) (h2 : k ≤ n) : GoodT ⟨k, ups n, []⟩ := by
  refine ⟨fun x hx => ?_, ?_, by simpa using hn, .inl rfl, h1, by simpa using h2⟩
  · simp only [ups, List.mem_map, List.mem_range] at hx
    obtain ⟨i, hi, rfl⟩ := hx
    omega
  · show (ups n).Nodup
    exact List.Pairwise.map _ (fun a b h e => h (by omega)) List.nodup_range
/-! ### envelopes of the source -/
structure EnvOf (node slot n : Int) (e : TEnvelope) : Prop where
  node : e.Node = node
  slot : e.Slot = slot
  seq : 1 ≤ e.Seq ∧ e.Seq ≤ 9
  trust : GoodT e.Trust
  nodes : ∀ x ∈ e.Trust.Nodes, x < n
  ne : e.Trust.Nodes ≠ []
  val : Val e.Ballot.Value
  valid : validE 0 e = true
theorem validB_of {b : TBallot} (h1 : 1 ≤ b.Counter) (h2 : b.Counter ≤ 1000) (h3 : Val b.Value) : validB b = true := by
  have := h3.size
  have h4 : b.Value.size ≤ 200 := by omega
  simp [validB, h1, h2, h4, this.1]
theorem Envelope_ok {s : TSrc} (h : OkS s) {node slot : Int} (hn0 : 0 ≤ node) (hn1 : node < 10) (hs0 : 1 ≤ slot) (hs1 : slot ≤ 1000000) {n : Nat} (hn2 : 1 ≤ n) (hn : n ≤ 10) :
    Yd (F_play_Src_Envelope s node slot n) fun p => OkS p.2 ∧ EnvOf node slot n p.1 := by
  unfold F_play_Src_Envelope
  refine (Range_ok h (by omega) (by omega) (by omega)).bind fun p1 ⟨a1, a2, a3, _⟩ => ?_
  have a4 := a3 (by omega)
  refine (Trust_ok a1 hn2 hn).bind fun p2 ⟨b1, b2, b3, b4⟩ => ?_
  refine (Value_ok b1).bind fun p3 ⟨c1, c2⟩ => ?_
  have c3 := c2.size
  have hv : ∀ k : Int, 1 ≤ k → k ≤ 1000 → validB ⟨k, p3.1⟩ = true := fun k h1 h2 => validB_of h1 h2 c2
  simp only [TTrust.eta, TEnvelope.eta]
  have hd : ∀ e : TEnvelope, e.Node = node → e.Slot = slot → e.Seq = p1.1 → headOk e = true := by
    intro e h1 h2 h3
    simp only [headOk, h1, h2, h3, Bool.and_eq_true, decide_eq_true_eq]
    omega
  refine Yd.join (fun v => OkS v.1 ∧ EnvOf node slot n v.2.1) (fun v hv => Yd.some hv) fun j5 hj5 => ?_
  refine (N_ok c1 (by omega)).bind fun p6 ⟨d1, _⟩ => ?_
  refine Yd.join (fun v => OkS v.1 ∧ v.2.1 = TEnvelope.mk node slot p1.1 p2.1 0 ⟨0, noVal⟩ ⟨0, noVal⟩ ⟨0, noVal⟩ 0 0) (fun v ⟨hv1, hv2⟩ => ?_) fun j8 hj8 => ?_
  · -- preparing
    refine Yd.join (fun v => OkS v.1 ∧ EnvOf node slot n v.2.1) (fun v hv => hj5 _ hv) fun j10 hj10 => ?_
    refine (Range_ok hv1 (by omega) (by omega) (by omega)).bind fun p11 ⟨e1, e2, e3, _⟩ => ?_
    have e4 := e3 (by omega)
    simp only [hv2]
    refine Yd.join (fun v => OkS v.1 ∧ v.2.1.Node = node ∧ v.2.1.Slot = slot ∧ v.2.1.Seq = p1.1 ∧ v.2.1.Trust = p2.1 ∧ v.2.1.Kind = 1 ∧ v.2.1.Ballot = ⟨p11.1, p3.1⟩ ∧ (zeroB v.2.1.Prepared = true ∨ validB v.2.1.Prepared = true)) (fun v ⟨f0, f1, f2, f3, f4, f5, f6, f7⟩ => ?_) fun j13 hj13 => ?_
    · rw [f6]
      have g1 : addI .i64 p11.1 1 = p11.1 + 1 := add64 (by omega) (by omega)
      simp only [g1]
      refine (N_ok f0 (by omega)).bind fun p14 ⟨k1, k2, k3, _⟩ => ?_
      have k4 := k3 (by omega)
      have g2 : addI .i64 p14.1 1 = p14.1 + 1 := add64 (by omega) (by omega)
      simp only [g2]
      refine (N_ok k1 (by omega)).bind fun p15 ⟨l1, l2, l3, _⟩ => ?_
      have hTr : ∀ t, t = p2.1 → F_ref02_Valid t = some 0 := fun t ht => by rw [ht]; exact F_ref02_Valid_good b2
      have done : ∀ e : TEnvelope, e.Node = node → e.Slot = slot → e.Seq = p1.1 → e.Trust = p2.1 → e.Ballot = ⟨p11.1, p3.1⟩ → validE 0 e = true → EnvOf node slot n e := by
        intro e h1 h2 h3 h4 h5 h6
        exact ⟨h1, h2, by rw [h3]; exact ⟨a2, a4⟩, by rw [h4]; exact b2, by rw [h4]; exact b3, by rw [h4]; exact b4, by rw [h5]; exact c2, h6⟩
      refine Yd.join (fun w => w.1.Node = node ∧ w.1.Slot = slot ∧ w.1.Seq = p1.1 ∧ w.1.Trust = p2.1 ∧ w.1.Kind = 1 ∧ w.1.Ballot = ⟨p11.1, p3.1⟩ ∧ (zeroB w.1.Prepared = true ∨ validB w.1.Prepared = true) ∧ (validE 0 w.1 = true ∨ w.1.Low = 0)) (fun w ⟨m1, m2, m3, m4, m5, m6, m7, m8⟩ => ?_) fun j17 hj17 => ?_
      · refine Yd.join (fun w => w.1.Node = node ∧ w.1.Slot = slot ∧ w.1.Seq = p1.1 ∧ w.1.Trust = p2.1 ∧ w.1.Kind = 1 ∧ w.1.Ballot = ⟨p11.1, p3.1⟩ ∧ (zeroB w.1.Prepared = true ∨ validB w.1.Prepared = true) ∧ (validE 0 w.1 = true ∨ w.1.Low = 0 ∧ w.1.High = 0)) (fun w ⟨o1, o2, o3, o4, o5, o6, o7, o8⟩ => ?_) fun j19 hj19 => ?_
        · rw [F_ref24_Valid_eq (hTr _ o4)]
          simp only [Option.bind_some, bif_not]
          refine Yd.cond (fun hx => hj10 _ ⟨l1, done _ o1 o2 o3 o4 o6 hx⟩) (fun hx => hj10 _ ⟨l1, done _ o1 o2 o3 o4 o6 ?_⟩)
          rcases o8 with o8 | ⟨o8, o9⟩
          · rw [o8] at hx; cases hx
          · have q1 : finite w.1.Ballot = true := by rw [o6]; simp [finite, hv p11.1 e2 (by omega)]; omega
            have q2 : zeroB (TBallot.mk 0 (ByteArray.mk #[])) = true := by decide +kernel
            have q3 : (zeroB w.1.Prepared || validB w.1.Prepared) = true := by simpa using o7
            have q4 := hd w.1 o1 o2 o3
            have q5 : 0 ≤ w.1.Ballot.Counter := by rw [o6]; show 0 ≤ p11.1; omega
            simp only [validE, headOk, prepOk, primeOk, o5, o8, o9, q1, q2, q3, if_true] at q4 ⊢
            simp [q4, q5]
        · rw [F_ref24_Valid_eq (hTr _ m4)]
          simp only [Option.bind_some, bif_not]
          refine Yd.cond (fun hx => hj19 _ ⟨m1, m2, m3, m4, m5, m6, m7, .inl hx⟩) (fun hx => hj19 _ ⟨m1, m2, m3, m4, m5, m6, m7, .inr ⟨?_, rfl⟩⟩)
          rcases m8 with m8 | m8
          · rw [m8] at hx; cases hx
          · exact m8
      · rw [F_ref24_Valid_eq (e := TEnvelope.mk v.2.1.Node v.2.1.Slot v.2.1.Seq v.2.1.Trust v.2.1.Kind ⟨p11.1, p3.1⟩ v.2.1.Prepared v.2.1.Prime p15.1 p14.1) (tv := 0) (hTr _ f4)]
        simp only [Option.bind_some, bif_not]
        refine Yd.cond (fun hx => hj17 _ ⟨f1, f2, f3, f4, f5, rfl, f7, .inl hx⟩) (fun hx => hj17 _ ⟨f1, f2, f3, f4, f5, rfl, f7, .inr rfl⟩)
    · refine (N_ok e1 (by omega)).bind fun p23 ⟨k1, _⟩ => ?_
      refine Yd.cond (fun _ => ?_) (fun _ => ?_)
      · refine (Low_ok k1).bind fun p24 ⟨l1, l2, l3, l4⟩ => ?_
        refine (N_ok l1 (by omega)).bind fun p25 ⟨m1, _⟩ => ?_
        have hvl := validB_of (b := p24.1) l2 (by omega) l4
        refine Yd.cond (fun _ => ?_) (fun _ => ?_)
        · refine (Low_ok m1).bind fun p26 ⟨o1, _⟩ => ?_
          exact hj13 _ ⟨o1, rfl, rfl, rfl, rfl, rfl, rfl, .inr hvl⟩
        · exact hj13 _ ⟨m1, rfl, rfl, rfl, rfl, rfl, rfl, .inr hvl⟩
      · have z0 : zeroB (TBallot.mk 0 noVal) = true := by decide +kernel
        exact hj13 _ ⟨k1, rfl, rfl, rfl, rfl, rfl, rfl, .inl z0⟩
  · have z0 : zeroB (TBallot.mk 0 (ByteArray.mk #[])) = true := by decide +kernel
    refine Yd.cond (fun _ => ?_) (fun _ => ?_)
    · refine (Range_ok d1 (by omega) (by omega) (by omega)).bind fun p27 ⟨e1, e2, e3, _⟩ => ?_
      refine (Range_ok e1 (by omega) (by omega) (by omega)).bind fun p28 ⟨f1, f2, f3, _⟩ => ?_
      refine (N_ok f1 (by omega)).bind fun p29 ⟨k1, k2, k3, _⟩ => ?_
      refine (N_ok k1 (by omega)).bind fun p30 ⟨l1, l2, l3, _⟩ => ?_
      have e4 := e3 (by omega)
      have f4 := f3 (by omega)
      have k4 := k3 (by omega)
      have l4 := l3 (by omega)
      have g1 : addI .i64 p28.1 p29.1 = p28.1 + p29.1 := add64 (by omega) (by omega)
      have g2 : addI .i64 (p28.1 + p29.1) p30.1 = p28.1 + p29.1 + p30.1 := add64 (by omega) (by omega)
      simp only [g1, g2]
      refine hj5 _ ⟨l1, ⟨rfl, rfl, ⟨a2, a4⟩, b2, b3, b4, c2, ?_⟩⟩
      have q4 := hd ⟨node, slot, p1.1, p2.1, 2, ⟨p27.1, p3.1⟩, ⟨p28.1 + p29.1 + p30.1, p3.1⟩, ⟨0, ByteArray.mk #[]⟩, p28.1, p28.1 + p29.1⟩ rfl rfl rfl
      have q5 := hv p27.1 e2 (by omega)
      have q6 := hv (p28.1 + p29.1 + p30.1) (by omega) (by omega)
      have r1 : p27.1 ≤ 1000 := by omega
      have r2 : p28.1 ≤ p28.1 + p29.1 := by omega
      have r3 : p28.1 + p29.1 ≤ 1000 := by omega
      have r4 : p28.1 + p29.1 ≤ p28.1 + p29.1 + p30.1 := by omega
      simp [validE, q4, commOk, finite, q5, q6, compat, z0, ranged, r1, f2, r3, r4]
      omega
    · refine Yd.cond (fun _ => ?_) (fun _ => ?_)
      · refine (N_ok d1 (by omega)).bind fun p31 ⟨e1, _⟩ => ?_
        refine Yd.cond (fun _ => ?_) (fun _ => hj8 _ ⟨e1, rfl⟩)
        refine (Range_ok e1 (by omega) (by omega) (by omega)).bind fun p32 ⟨f1, f2, f3, _⟩ => ?_
        refine (Range_ok f1 (by omega) (by omega) (by omega)).bind fun p33 ⟨k1, k2, k3, _⟩ => ?_
        refine (N_ok k1 (by omega)).bind fun p34 ⟨l1, l2, l3, _⟩ => ?_
        have f4 := f3 (by omega)
        have k4 := k3 (by omega)
        have l4 := l3 (by omega)
        have g1 : addI .i64 p33.1 p34.1 = p33.1 + p34.1 := add64 (by omega) (by omega)
        simp only [g1]
        refine hj5 _ ⟨l1, ⟨rfl, rfl, ⟨a2, a4⟩, b2, b3, b4, c2, ?_⟩⟩
        have q4 := hd ⟨node, slot, p1.1, p2.1, 3, ⟨p32.1, p3.1⟩, ⟨0, ByteArray.mk #[]⟩, ⟨0, ByteArray.mk #[]⟩, p33.1, p33.1 + p34.1⟩ rfl rfl rfl
        have q5 := hv p32.1 f2 (by omega)
        have r3 : p33.1 + p34.1 ≤ 1000 := by omega
        simp [validE, q4, extOk, q5, z0, ranged, k2, r3]
        omega
      · exact hj8 _ ⟨d1, rfl⟩
end Go.Proofs.YtaebanabjdmgfaaGreat

namespace Go.Proofs.YtaebanabjdmgfaaGreat
open Go.TQ

/-- trusts whose lists are of modest length -/
inductive SmT : TTrust → Prop where
  | mk (t : TTrust) (h1 : t.Nodes.length ≤ 1000000) (h2 : t.Inner.length ≤ 1000000) (h3 : ∀ u ∈ t.Inner, SmT u) : SmT t
theorem SmT.nodes {t : TTrust} : SmT t → t.Nodes.length ≤ 1000000 | .mk _ h _ _ => h
theorem SmT.len {t : TTrust} : SmT t → t.Inner.length ≤ 1000000 | .mk _ _ h _ => h
theorem SmT.inner {t : TTrust} : SmT t → ∀ u ∈ t.Inner, SmT u | .mk _ _ _ h => h
theorem inner_lt {t u : TTrust} (h : u ∈ t.Inner) : SizeOf.sizeOf u < SizeOf.sizeOf t := by
  have h1 := List.sizeOf_lt_of_mem h
  cases t with
  | mk th ns is =>
    simp only [TTrust.mk.sizeOf_spec] at h1 ⊢
    omega
theorem GoodT.sm {t : TTrust} (h : GoodT t) : SmT t := by
  have := h.len
  refine .mk t (by omega) ?_ fun u hu => ?_
  · rcases h.inner with e | ⟨x, _, _, e⟩ <;> rw [e] <;> simp
  · rcases h.inner with e | ⟨x, _, _, e⟩
    · rw [e] at hu; cases hu
    · rw [e] at hu
      simp only [List.mem_singleton] at hu
      subst hu
      exact .mk _ (by simp) (by simp) (by simp)

/-! ### copies -/
@[simp] theorem clone_eq (l : List Int) (h : l.length ≤ 1000000) : F_slices_Clone_int_int l = some l := by
  unfold F_slices_Clone_int_int
  rw [lenOk_small (by simp; omega)]
  cases l with
  | nil => simp
  | cons x l => simp
theorem I_copies {n : Nat} : ∀ {t : TTrust}, SizeOf.sizeOf t < n → SmT t → I_copies_Trust n (t, ()) = some t := by
  induction n with
  | zero => intro t h; omega
  | succ n ih =>
    intro t hs hm
    show B_copies_Trust (I_copies_Trust n) t = some t
    unfold B_copies_Trust
    have hl := hm.len
    rw [clone_eq _ hm.nodes, Option.bind_some]
    -- the elements are copied one by one
    suffices key : ∀ (k i : Nat) (t' : TTrust), i + k = t.Inner.length → t'.Threshold = t.Threshold → t'.Nodes = t.Nodes → loopO (fun (v2 : Int × TTrust × (List TTrust) × Unit) =>
        bif (decide (v2.1 < ((List.length t.Inner : Nat) : Int))) then
        Option.bind (idx t.Inner v2.1) fun x3 =>
        Option.bind (I_copies_Trust n ((TTrust.mk x3.Threshold x3.Nodes x3.Inner), ())) fun r4 =>
        bif lenOk 56 (List.length v2.2.2.1 + List.length [(TTrust.mk r4.Threshold r4.Nodes r4.Inner)]) then
        some (Sum.inl ((addI .i64 v2.1 (1 : Int)), (TTrust.mk v2.2.1.Threshold v2.2.1.Nodes ([] : List TTrust)), (v2.2.2.1 ++ [(TTrust.mk r4.Threshold r4.Nodes r4.Inner)]), ()))
        else none
        else
        Option.map Sum.inr (some (TTrust.mk v2.2.1.Threshold v2.2.1.Nodes v2.2.2.1))) ((i : Int), t', t.Inner.take i, ()) = some t by
      have := key t.Inner.length 0 ⟨t.Threshold, t.Nodes, []⟩ (by omega) rfl rfl
      simpa using this
    intro k
    induction k with
    | zero =>
      intro i t' hi h1 h2
      refine loopO_inr ?_
      have hd : decide ((i : Int) < ((t.Inner.length : Nat) : Int)) = false := decide_eq_false (by omega)
      simp only [hd, cond_false, Option.map_some, h1, h2]
      rw [List.take_of_length_le (by omega), TTrust.eta]
    | succ k ihk =>
      intro i t' hi h1 h2
      have hlt : i < t.Inner.length := by omega
      have hd : decide ((i : Int) < ((t.Inner.length : Nat) : Int)) = true := decide_eq_true (by omega)
      have hx : idx t.Inner (i : Int) = some t.Inner[i] := by rw [idx_nat]; exact List.getElem?_eq_getElem hlt
      have hw : addI .i64 (i : Int) 1 = ((i + 1 : Nat) : Int) := add64 (by omega) (by omega)
      have hmem : t.Inner[i] ∈ t.Inner := List.getElem_mem hlt
      have hr := ih (t := t.Inner[i]) (by have := inner_lt hmem; omega) (hm.inner _ hmem)
      rw [loopO_inl (s' := (((i + 1 : Nat) : Int), ⟨t'.Threshold, t'.Nodes, []⟩, t.Inner.take (i + 1), ()))]
      · exact ihk (i + 1) _ (by omega) h1 h2
      · simp only [hd, cond_true, hx, hw, Option.bind_some, TTrust.eta, hr]
        rw [lenOk_small (by simp; omega), List.take_succ_eq_append_getElem hlt]
        rfl
@[simp] theorem copies_eq {t : TTrust} (h : SmT t) : F_copies_Trust t = some t := I_copies (by omega) h

/-! ### validity -/
theorem foldE_total {α σ ρ : Type} {g : α → σ → Option (σ ⊕ ρ)} {fin : σ → Option ρ} (hf : ∀ s, ∃ r, fin s = some r) : ∀ (l : List α), (∀ x ∈ l, ∀ s, ∃ y, g x s = some y) → ∀ s, ∃ r, foldE g fin l s = some r
  | [], _, s => hf s
  | x :: l, h, s => by
    obtain ⟨y, hy⟩ := h x (by simp) s
    rw [foldE, hy]
    cases y with
    | inr r => exact ⟨r, rfl⟩
    | inl s' => exact foldE_total hf l (fun x hx => h x (by simp [hx])) s'
theorem foldE_congr {α σ ρ : Type} {g g' : α → σ → Option (σ ⊕ ρ)} {fin : σ → Option ρ} : ∀ (l : List α), (∀ x ∈ l, ∀ s, g x s = g' x s) → ∀ s, foldE g fin l s = foldE g' fin l s
  | [], _, s => rfl
  | x :: l, h, s => by
    rw [foldE, foldE, h x (by simp) s]
    cases g' x s with
    | none => rfl
    | some y =>
      cases y with
      | inr r => rfl
      | inl s' => exact foldE_congr l (fun x hx => h x (by simp [hx])) s'
theorem depth_total {n : Nat} : ∀ {t : TTrust}, SizeOf.sizeOf t < n → SmT t → ∃ d, I_threshold_Depth n (t, ()) = some d := by
  induction n with
  | zero => intro t h; omega
  | succ n ih =>
    intro t hs hm
    show ∃ d, B_threshold_Depth (I_threshold_Depth n) t = some d
    have hl := hm.len
    rw [B_depth (by omega)]
    refine foldE_total (fun s => ⟨_, rfl⟩) _ (fun u hu s => ?_) _
    obtain ⟨d, hd⟩ := ih (t := u) (by have := inner_lt hu; omega) (hm.inner u hu)
    exact ⟨_, by rw [hd]; rfl⟩
theorem size_total {n : Nat} : ∀ {t : TTrust}, SizeOf.sizeOf t < n → SmT t → ∃ d, I_threshold_Size n (t, ()) = some d := by
  induction n with
  | zero => intro t h; omega
  | succ n ih =>
    intro t hs hm
    show ∃ d, B_threshold_Size (I_threshold_Size n) t = some d
    have hl := hm.len
    rw [B_size (by omega)]
    refine foldE_total (fun s => ⟨_, rfl⟩) _ (fun u hu s => ?_) _
    obtain ⟨d, hd⟩ := ih (t := u) (by have := inner_lt hu; omega) (hm.inner u hu)
    exact ⟨_, by rw [hd]; rfl⟩
theorem levelB_total {rec : TTrust → Option Int} {t : TTrust} (h : ∀ u ∈ t.Inner, ∃ r, rec u = some r) : ∃ r, levelB rec t = some r := by
  unfold levelB
  split
  · exact ⟨_, rfl⟩
  · split
    · exact ⟨_, rfl⟩
    · split
      · refine foldE_total (fun s => ⟨_, rfl⟩) _ (fun u hu s => ?_) _
        obtain ⟨r, hr⟩ := h u hu
        exact ⟨_, by rw [hr]; rfl⟩
      · exact ⟨_, rfl⟩
theorem levelB_congr {rec rec' : TTrust → Option Int} {t : TTrust} (h : ∀ u ∈ t.Inner, rec u = rec' u) : levelB rec t = levelB rec' t := by
  unfold levelB
  rw [foldE_congr _ fun u hu s => by rw [h u hu]]
theorem level_total {n : Nat} : ∀ {t : TTrust}, SizeOf.sizeOf t < n → SmT t → ∃ d, I_threshold_level n (t, ()) = some d ∧ I_ref02_check n (t, ()) = some d := by
  induction n with
  | zero => intro t h; omega
  | succ n ih =>
    intro t hs hm
    show ∃ d, B_threshold_level (I_threshold_level n) t = some d ∧ B_ref02_check (I_ref02_check n) t = some d
    have hl := hm.len
    have hn := hm.nodes
    rw [B_level (by omega) (by omega), B_check (by omega) (by omega)]
    have hih : ∀ u ∈ t.Inner, ∃ r, I_threshold_level n (u, ()) = some r ∧ I_ref02_check n (u, ()) = some r := fun u hu => ih (t := u) (by have := inner_lt hu; omega) (hm.inner u hu)
    obtain ⟨r, hr⟩ := levelB_total (rec := fun u => I_threshold_level n (u, ())) (t := t) fun u hu => by obtain ⟨r, h1, _⟩ := hih u hu; exact ⟨r, h1⟩
    refine ⟨r, hr, ?_⟩
    rw [← hr]
    refine levelB_congr fun u hu => ?_
    obtain ⟨r, h1, h2⟩ := hih u hu
    rw [h1, h2]
theorem valid_both {t : TTrust} (h : SmT t) : ∃ v, F_threshold_Valid t = some v ∧ F_ref02_Valid t = some v := by
  obtain ⟨d, hd⟩ : ∃ d, F_threshold_Depth t = some d := depth_total (by omega) h
  obtain ⟨z, hz⟩ : ∃ z, F_threshold_Size t = some z := size_total (by omega) h
  obtain ⟨l, hl1, hl2⟩ : ∃ l, F_threshold_level t = some l ∧ F_ref02_check t = some l := level_total (by omega) h
  simp [F_threshold_Valid, F_ref02_Valid, ref_depth, ref_size, hd, hz, hl1, hl2]
noncomputable def tval (t : TTrust) : Int := (F_threshold_Valid t).getD 1
theorem tval_eq {t : TTrust} (h : SmT t) : F_threshold_Valid t = some (tval t) := by
  obtain ⟨v, h1, _⟩ := valid_both h
  rw [tval, h1]; rfl
noncomputable def isValid (e : TEnvelope) : Bool := validE (tval e.Trust) e
theorem Valid_eq {e : TEnvelope} (h : SmT e.Trust) : F_envelopes_Valid e = some (isValid e) := F_envelopes_Valid_eq (tval_eq h)
/-! ### satisfaction -/
def hasN (s : Nat) (x : Int) : Bool := inNode x && s.testBit x.toNat
theorem hasS_nat {s : Nat} (h : s < 1024) (x : Int) : hasS s x = hasN s x := by
  have h1 : decide (0 ≤ (s : Int)) = true := decide_eq_true (by omega)
  have h2 : decide ((s : Int) < 1024) = true := decide_eq_true (by omega)
  simp only [hasS, hasN, h1, h2, Bool.true_and, Int.toNat_natCast]
mutual
def satT (s : Nat) : TTrust → Bool
  | ⟨th, ns, is⟩ => decide (th ≤ ((ns.countP (hasN s) + satC s is : Nat) : Int))
def satC (s : Nat) : List TTrust → Nat
  | [] => 0
  | t :: l => (if satT s t then 1 else 0) + satC s l
end
theorem satT_eq (s : Nat) (t : TTrust) : satT s t = decide (t.Threshold ≤ ((t.Nodes.countP (hasN s) + satC s t.Inner : Nat) : Int)) := by
  cases t; rw [satT]
theorem count_fold (s : Nat) (hs : s < 1024) (fin : Int → Option Bool) : ∀ (l : List Int) (n : Nat), n + l.length ≤ 9000000 →
    foldE (fun x (m : Int) => some (.inl (if hasS s x then addI .i64 m 1 else m))) fin l n = fin ((n + l.countP (hasN s) : Nat) : Int)
  | [], n, _ => by simp [foldE]
  | x :: l, n, h => by
    simp at h
    rw [foldE, hasS_nat hs, List.countP_cons]
    cases hx : hasN s x with
    | false =>
      simp only [Bool.false_eq_true, if_false, Nat.add_zero]
      exact count_fold s hs fin l n (by omega)
    | true =>
      simp only [if_true]
      rw [add64 (by omega) (by omega)]
      rw [show (n : Int) + 1 = ((n + 1 : Nat) : Int) by omega, count_fold s hs fin l (n + 1) (by omega)]
      congr 2
      omega
theorem sat_fold (s : Nat) (rec : TTrust → Option Bool) (fin : Int → Option Bool) : ∀ (l : List TTrust) (n : Nat), n + l.length ≤ 9000000 → (∀ u ∈ l, rec u = some (satT s u)) →
    foldE (fun u (m : Int) => (rec u).map fun r => .inl (if r then addI .i64 m 1 else m)) fin l n = fin ((n + satC s l : Nat) : Int)
  | [], n, _, _ => by simp [foldE, satC]
  | u :: l, n, h, hr => by
    simp at h
    rw [foldE, hr u (by simp), satC]
    cases hx : satT s u with
    | false =>
      simp only [Option.map_some, Bool.false_eq_true, if_false, Nat.zero_add]
      exact sat_fold s rec fin l n (by omega) fun u hu => hr u (by simp [hu])
    | true =>
      simp only [Option.map_some, if_true]
      rw [add64 (by omega) (by omega)]
      rw [show (n : Int) + 1 = ((n + 1 : Nat) : Int) by omega, sat_fold s rec fin l (n + 1) (by omega) fun u hu => hr u (by simp [hu])]
      congr 2
      omega
theorem B_sat {rec : (TTrust × Int × Unit) → Option Bool} {t : TTrust} {s : Nat} (hs : s < 1024) (hm : SmT t) (hr : ∀ u ∈ t.Inner, rec (u, (s : Int), ()) = some (satT s u)) : B_threshold_Satisfied rec t s = some (satT s t) := by
  unfold B_threshold_Satisfied
  have hn := hm.nodes
  have hl := hm.len
  have hv : F_nodeset_Valid (s : Int) = some true := by rw [below10]; simp; omega
  rw [hv]
  simp only [Option.bind_some, Bool.not_true, cond_false, letJ_eq]
  rw [loopO_range t.Nodes (by omega) (fun i (m : Int) => (m, i, ())) (fun x (m : Int) => some (.inl (if hasS s x then addI .i64 m 1 else m))) (fun m => foldE (fun u (m : Int) => (rec (u, (s : Int), ())).map fun r => .inl (if r then addI .i64 m 1 else m)) (fun m => some (decide (t.Threshold ≤ m))) t.Inner m) (fun i x m hd hx hw => ?_) (fun m hd => ?_) 0]
  · rw [show (0 : Int) = ((0 : Nat) : Int) from rfl, count_fold s hs _ t.Nodes 0 (by omega)]
    rw [sat_fold s (fun u => rec (u, (s : Int), ())) _ t.Inner _ (by have := List.countP_le_length (p := hasN s) (l := t.Nodes); omega) hr, satT_eq]
    simp
  · simp only [hd, hx, hw, cond_true, Option.bind_some, F_nodeset_Has_eq]
    cases hasS s x <;> rfl
  · simp only [hd, cond_false]
    rw [loopO_range t.Inner (by omega) (fun i (m : Int) => (m, i, ())) (fun u (m : Int) => (rec (u, (s : Int), ())).map fun r => .inl (if r then addI .i64 m 1 else m)) (fun m => some (decide (t.Threshold ≤ m))) (fun i x m hd hx hw => ?_) (fun m hd => ?_) m]
    · simp only [hd, hx, hw, cond_true, Option.bind_some, TTrust.eta]
      cases rec (x, (s : Int), ()) with
      | none => rfl
      | some r => cases r <;> rfl
    · simp only [hd, cond_false]
theorem I_sat {s : Nat} (hs : s < 1024) {n : Nat} : ∀ {t : TTrust}, SizeOf.sizeOf t < n → SmT t → I_threshold_Satisfied n (t, (s : Int), ()) = some (satT s t) := by
  induction n with
  | zero => intro t h; omega
  | succ n ih =>
    intro t hz hm
    show B_threshold_Satisfied (I_threshold_Satisfied n) t s = some (satT s t)
    exact B_sat hs hm fun u hu => ih (t := u) (by have := inner_lt hu; omega) (hm.inner u hu)
theorem Satisfied_eq {s : Nat} (hs : s < 1024) {t : TTrust} (hm : SmT t) : F_threshold_Satisfied t s = some (satT s t) := I_sat hs (by omega) hm
/-- more nodes satisfy more -/
theorem hasN_mono {s s' : Nat} (h : ∀ k, s.testBit k = true → s'.testBit k = true) (x : Int) (hx : hasN s x = true) : hasN s' x = true := by
  simp only [hasN, Bool.and_eq_true] at hx ⊢
  exact ⟨hx.1, h _ hx.2⟩
mutual
theorem satT_mono {s s' : Nat} (h : ∀ k, s.testBit k = true → s'.testBit k = true) : ∀ (t : TTrust), satT s t = true → satT s' t = true
  | ⟨th, ns, is⟩, ht => by
    rw [satT, decide_eq_true_eq] at ht ⊢
    have h1 := satC_mono h is
    have h2 : ns.countP (hasN s) ≤ ns.countP (hasN s') := List.countP_mono_left fun x _ hx => hasN_mono h x hx
    omega
theorem satC_mono {s s' : Nat} (h : ∀ k, s.testBit k = true → s'.testBit k = true) : ∀ (l : List TTrust), satC s l ≤ satC s' l
  | [] => by simp [satC]
  | t :: l => by
    have h1 := satC_mono h l
    have h2 := satT_mono h t
    rw [satC, satC]
    cases hs : satT s t with
    | false => simp; omega
    | true => rw [h2 hs]; simp; omega
end
end Go.Proofs.YtaebanabjdmgfaaGreat

namespace Go.Proofs.YtaebanabjdmgfaaGreat
open Go.TQ

theorem validS_nat {s : Nat} (h : s < 1024) : F_nodeset_Valid (s : Int) = some true := by rw [below10]; simp; omega
/-! ### bits -/
theorem andNotI_nat (a b : Nat) (ha : a < 2 ^ 62) (hb : b < 2 ^ 62) : ∃ c : Nat, andNotI .i64 (a : Int) (b : Int) = (c : Int) ∧ c ≤ a ∧ ∀ k, c.testBit k = (a.testBit k && !b.testBit k) := by
  refine ⟨((BitVec.ofInt 64 (a : Int) &&& ~~~ BitVec.ofInt 64 (b : Int)).toNat), ?_, ?_, fun k => ?_⟩
  · have hle : (BitVec.ofInt 64 (a : Int) &&& ~~~ BitVec.ofInt 64 (b : Int)).toNat ≤ a := by
      rw [BitVec.toNat_and, ofInt_nat a ha]
      exact Nat.and_le_left
    show IntKind.i64.wrap (((BitVec.ofInt 64 (a : Int) &&& ~~~ BitVec.ofInt 64 (b : Int)).toNat : Nat) : Int) = _
    exact wrap_nat _ (by omega)
  · rw [BitVec.toNat_and, ofInt_nat a ha]
    exact Nat.and_le_left
  · have h1 : ∀ i (x : Nat), x < 2 ^ 62 → (BitVec.ofInt 64 (x : Int)).getLsbD i = x.testBit i := by
      intro i x hx
      rw [← BitVec.testBit_toNat, ofInt_nat x hx]
    rw [BitVec.testBit_toNat, BitVec.getLsbD_and, BitVec.getLsbD_not, h1 k a ha, h1 k b hb]
    by_cases hk : k < 64
    · simp [hk]
    · have : a.testBit k = false := Nat.testBit_lt_two_pow (Nat.lt_of_lt_of_le ha (Nat.pow_le_pow_right (by omega) (by omega)))
      simp [this]
theorem nat_ext {a b : Nat} (h : ∀ k, a.testBit k = b.testBit k) : a = b := Nat.eq_of_testBit_eq h
theorem bit_lt {s k : Nat} (hs : s < 1024) (hk : s.testBit k = true) : k < 10 := by
  rcases Nat.lt_or_ge k 10 with h | h
  · exact h
  · have : s.testBit k = false := Nat.testBit_lt_two_pow (Nat.lt_of_lt_of_le hs (show 2 ^ 10 ≤ 2 ^ k from Nat.pow_le_pow_right (by omega) h))
    rw [this] at hk
    cases hk
theorem lt_1024 {s : Nat} (h : ∀ k, s.testBit k = true → k < 10) : s < 1024 := by
  rcases Nat.lt_or_ge s 1024 with h1 | h1
  · exact h1
  · obtain ⟨k, hk1, hk2⟩ := Nat.exists_ge_and_testBit_of_ge_two_pow (n := 10) h1
    have := h k hk2
    omega
theorem hasN_nat (s k : Nat) : hasN s (k : Int) = (decide (k < 10) && s.testBit k) := by
  have h1 : decide ((k : Int) < 10) = decide (k < 10) := by rw [decide_eq_decide]; omega
  have h2 : decide (0 ≤ (k : Int)) = true := decide_eq_true (by omega)
  simp only [hasN, inNode, h1, h2, Bool.true_and, Int.toNat_natCast]

/-! ### declared members -/
def declF (i : Nat) (s : Nat) : List TMember → Nat
  | [] => s
  | m :: l => declF (i + 1) (if m.Declared && decide (i < 10) then s ||| 2 ^ i else s) l
def declN (l : List TMember) : Nat := declF 0 0 l
theorem declF_bit : ∀ (l : List TMember) (i s k : Nat), (declF i s l).testBit k = (s.testBit k || (decide (i ≤ k) && decide (k < 10) && ((l[k - i]?).any (·.Declared))))
  | [], i, s, k => by simp [declF]
  | m :: l, i, s, k => by
    rw [declF, declF_bit l (i + 1)]
    by_cases hk : k = i
    · subst hk
      have h1 : ¬ (k + 1 ≤ k) := by omega
      cases hm : m.Declared <;> by_cases hi : k < 10 <;> simp [hm, hi, h1, Nat.testBit_or]
    · have h2 : i ≤ k ↔ i + 1 ≤ k := by omega
      have h3 : ∀ b : Bool, (if (b && decide (i < 10)) = true then s ||| 2 ^ i else s).testBit k = s.testBit k := by
        intro b
        split
        · rw [Nat.testBit_or, Nat.testBit_two_pow]
          have : ¬ i = k := fun e => hk e.symm
          simp [this]
        · rfl
      rw [h3]
      by_cases hik : i + 1 ≤ k
      · have h4 : (m :: l)[k - i]? = l[k - (i + 1)]? := by
          rw [show k - i = (k - (i + 1)) + 1 by omega, List.getElem?_cons_succ]
        rw [h4]
        have : i ≤ k := by omega
        simp [this, hik]
      · have : ¬ i ≤ k := by omega
        simp [this, hik]
theorem declN_bit (l : List TMember) (k : Nat) : (declN l).testBit k = (decide (k < 10) && ((l[k]?).any (·.Declared))) := by
  rw [declN, declF_bit]; simp
theorem declN_lt (l : List TMember) : declN l < 1024 := lt_1024 fun k hk => by
  rw [declN_bit] at hk
  simp at hk
  exact hk.1
theorem decl_loop (step : (Int × Int × Unit) → Option ((Int × Int × Unit) ⊕ Int)) (l : List TMember)
    (h1 : ∀ (i : Nat) (m : TMember) (s : Nat), l[i]? = some m → s < 1024 → step ((s : Int), (i : Int), ()) = some (.inl (((if m.Declared && decide (i < 10) then s ||| 2 ^ i else s : Nat) : Int), ((i + 1 : Nat) : Int), ())))
    (h2 : ∀ s : Int, step (s, (l.length : Int), ()) = some (.inr s)) : loopO step (0, 0, ()) = some ((declN l : Nat) : Int) := by
  suffices key : ∀ (k i s : Nat), i + k = l.length → s < 1024 → loopO step ((s : Int), (i : Int), ()) = some ((declF i s (l.drop i) : Nat) : Int) by
    have := key l.length 0 0 (by omega) (by omega)
    simpa [declN] using this
  intro k
  induction k with
  | zero =>
    intro i s hi hs
    obtain rfl : i = l.length := by omega
    rw [loopO_inr (h2 s), List.drop_length]
    rfl
  | succ k ih =>
    intro i s hi hs
    have hlt : i < l.length := by omega
    rw [List.drop_eq_getElem_cons hlt, declF, loopO_inl (h1 i l[i] s (List.getElem?_eq_getElem hlt) hs)]
    refine ih (i + 1) _ (by omega) ?_
    split
    · rename_i hc
      simp only [Bool.and_eq_true, decide_eq_true_eq] at hc
      have := or_lt (x := (i : Int)) hs (by omega)
      simpa using this
    · exact hs
theorem Declared_eq {c : TConfig} (h : c.Members.length ≤ 1000000) : F_configuration_Declared c = some ((declN c.Members : Nat) : Int) := by
  unfold F_configuration_Declared
  refine decl_loop _ _ (fun i m s hm hs => ?_) (fun s => ?_)
  · have hlt : i < c.Members.length := (List.getElem?_eq_some_iff.1 hm).1
    have hd : decide ((i : Int) < ((c.Members.length : Nat) : Int)) = true := decide_eq_true (by omega)
    have hw : addI .i64 (i : Int) 1 = ((i + 1 : Nat) : Int) := add64 (by omega) (by omega)
    have hx : idx c.Members (i : Int) = some m := by rw [idx_nat]; exact hm
    have h0 : ¬ (i : Int) < 0 := by omega
    simp only [hd, hx, hw, cond_true, Option.bind_some, letJ_eq, h0, if_false]
    cases m.Declared with
    | false => simp
    | true =>
      by_cases h10 : i < 10
      · have : (i : Int) < 10 := by omega
        have ho := orI_bit (x := (i : Int)) hs (by omega) (by omega)
        simp only [Int.toNat_natCast] at ho
        simp [this, h10, ho]
      · have : ¬ (i : Int) < 10 := by omega
        simp [this, h10]
  · have hd : decide (((c.Members.length : Nat) : Int) < ((c.Members.length : Nat) : Int)) = false := decide_eq_false (Int.lt_irrefl _)
    simp only [hd, cond_false, Option.map_some]
/-! ### configurations of modest size -/
structure SmC (c : TConfig) : Prop where
  len : c.Members.length ≤ 1000000
  trust : ∀ m ∈ c.Members, SmT m.Trust
/-- the trust of a member -/
def trustAt (l : List TMember) (k : Nat) : TTrust := ((l[k]?).map (·.Trust)).getD ⟨0, [], []⟩
def isDecl (l : List TMember) (k : Nat) : Bool := (declN l).testBit k
theorem isDecl_get {l : List TMember} {k : Nat} (h : isDecl l k = true) : k < 10 ∧ ∃ m, l[k]? = some m ∧ m.Declared = true := by
  rw [isDecl, declN_bit] at h
  simp only [Bool.and_eq_true, decide_eq_true_eq, Option.any_eq_true] at h
  obtain ⟨h1, m, h2, h3⟩ := h
  exact ⟨h1, m, h2, h3⟩
theorem trustAt_get {l : List TMember} {k : Nat} {m : TMember} (h : l[k]? = some m) : trustAt l k = m.Trust := by rw [trustAt, h]; rfl

end Go.Proofs.YtaebanabjdmgfaaGreat

namespace Go.Proofs.YtaebanabjdmgfaaGreat
open Go.TQ

/-! ### the nodes of a set -/
def nodesN (s : Nat) : List Int := (ups 10).filter (hasN s)
theorem mem_ups {n : Nat} {x : Int} : x ∈ ups n ↔ ∃ k : Nat, k < n ∧ x = k := by
  simp only [ups, List.mem_map, List.mem_range]
  exact ⟨fun ⟨k, h1, h2⟩ => ⟨k, h1, h2.symm⟩, fun ⟨k, h1, h2⟩ => ⟨k, h1, h2.symm⟩⟩
theorem mem_nodesN {s : Nat} {x : Int} : x ∈ nodesN s ↔ ∃ k : Nat, k < 10 ∧ x = k ∧ s.testBit k = true := by
  rw [nodesN, List.mem_filter, mem_ups]
  constructor
  · rintro ⟨⟨k, h1, rfl⟩, h2⟩
    rw [hasN_nat] at h2
    simp at h2
    exact ⟨k, h1, rfl, h2.2⟩
  · rintro ⟨k, h1, rfl, h2⟩
    exact ⟨⟨k, h1, rfl⟩, by rw [hasN_nat]; simp [h1, h2]⟩
theorem nodes_loop (step : (Int × List Int × Unit) → Option ((Int × List Int × Unit) ⊕ List Int)) (s : Nat)
    (h1 : ∀ (i : Nat) (acc : List Int), i < 10 → acc.length ≤ i → step ((i : Int), acc, ()) = some (.inl (((i + 1 : Nat) : Int), (if hasN s i then acc ++ [(i : Int)] else acc), ())))
    (h2 : ∀ acc, step (((10 : Nat) : Int), acc, ()) = some (.inr acc)) : loopO step (0, [], ()) = some (nodesN s) := by
  suffices key : ∀ (k i : Nat) (acc : List Int), i + k = 10 → acc = (ups i).filter (hasN s) → loopO step ((i : Int), acc, ()) = some (nodesN s) from key 10 0 [] rfl rfl
  intro k
  induction k with
  | zero =>
    intro i acc hi ha
    obtain rfl : i = 10 := by omega
    rw [loopO_inr (h2 acc), ha]; rfl
  | succ k ih =>
    intro i acc hi ha
    have hlen : acc.length ≤ i := by rw [ha]; exact Nat.le_trans (List.length_filter_le _ _) (by simp)
    rw [loopO_inl (h1 i acc (by omega) hlen)]
    refine ih (i + 1) _ (by omega) ?_
    rw [ups_succ, List.filter_append, ← ha]
    cases hh : hasN s i <;> simp [hh]
theorem Nodes_eq {s : Nat} (hs : s < 1024) : F_nodeset_Nodes (s : Int) = some (nodesN s) := by
  unfold F_nodeset_Nodes
  refine nodes_loop _ s (fun i acc hi hl => ?_) (fun acc => ?_)
  · have hd : decide ((i : Int) < 10) = true := decide_eq_true (by omega)
    have hw : addI .i64 (i : Int) 1 = ((i + 1 : Nat) : Int) := add64 (by omega) (by omega)
    simp only [hd, hw, cond_true, letJ_eq, F_nodeset_Has_eq, hasS_nat hs, Option.bind_some]
    rw [lenOk_small (by simp; omega)]
    cases hasN s i <;> simp
  · rfl
/-! ### quorums -/
/-- each of r is in s, is declared, and is satisfied by r -/
def Inside (l : List TMember) (s r : Nat) : Prop := ∀ k, r.testBit k = true → s.testBit k = true ∧ isDecl l k = true ∧ satT r (trustAt l k) = true
structure IsGq (l : List TMember) (s q : Nat) : Prop where
  inside : Inside l s q
  max : ∀ r, Inside l s r → ∀ k, r.testBit k = true → q.testBit k = true
theorem IsGq.unique {l : List TMember} {s q q' : Nat} (h : IsGq l s q) (h' : IsGq l s q') : q = q' := by
  refine nat_ext fun k => ?_
  rw [Bool.eq_iff_iff]
  exact ⟨h'.max q h.inside k, h.max q' h'.inside k⟩
theorem IsGq.lt {l : List TMember} {s q : Nat} (h : IsGq l s q) : q < 1024 := lt_1024 fun k hk => (isDecl_get (h.inside k hk).2.1).1
def unhappyN (l : List TMember) (s : Nat) : Option Int := (nodesN s).find? fun x => !satT s (trustAt l x.toNat)
theorem unhappyN_some {l : List TMember} {s : Nat} {x : Int} (h : unhappyN l s = some x) : ∃ k : Nat, x = k ∧ k < 10 ∧ s.testBit k = true ∧ satT s (trustAt l k) = false := by
  have h1 := List.mem_of_find?_eq_some h
  have h2 := List.find?_some h
  obtain ⟨k, hk, rfl, hb⟩ := mem_nodesN.1 h1
  simp at h2
  exact ⟨k, rfl, hk, hb, h2⟩
theorem unhappyN_none {l : List TMember} {s : Nat} (hs : s < 1024) (h : unhappyN l s = none) : ∀ k, s.testBit k = true → satT s (trustAt l k) = true := by
  intro k hk
  have := List.find?_eq_none.1 h (k : Int) (mem_nodesN.2 ⟨k, bit_lt hs hk, rfl, hk⟩)
  simpa using this
theorem sub_xor : ∀ s, s < 1024 → ∀ k, k < 10 → s.testBit k = true → s - 2 ^ k = s ^^^ 2 ^ k := by decide +kernel
/-- one node is taken away -/
theorem sub_bit {s k : Nat} (hs : s < 1024) (hk : s.testBit k = true) : 2 ^ k ≤ s ∧ ∀ j, (s - 2 ^ k).testBit j = (s.testBit j && !decide (k = j)) := by
  have hle : 2 ^ k ≤ s := Nat.ge_two_pow_of_testBit hk
  refine ⟨hle, ?_⟩
  have hx : s - 2 ^ k = s ^^^ 2 ^ k := sub_xor s hs k (bit_lt hs hk) hk
  intro j
  rw [hx, Nat.testBit_xor, Nat.testBit_two_pow]
  by_cases hj : k = j
  · subst hj; simp [hk]
  · simp [hj]
/-- what the elimination keeps true -/
structure ElimInv (l : List TMember) (s0 s : Nat) : Prop where
  lt : s < 1024
  sub : ∀ k, s.testBit k = true → s0.testBit k = true ∧ isDecl l k = true
  max : ∀ r, Inside l s0 r → ∀ k, r.testBit k = true → s.testBit k = true
theorem ElimInv.first (l : List TMember) {s : Nat} (hs : s < 1024) : ElimInv l s (s &&& declN l) := by
  refine ⟨Nat.lt_of_le_of_lt Nat.and_le_left hs, fun k hk => ?_, fun r hr k hk => ?_⟩
  · rw [Nat.testBit_and, Bool.and_eq_true] at hk
    exact hk
  · rw [Nat.testBit_and, Bool.and_eq_true]
    exact ⟨(hr k hk).1, (hr k hk).2.1⟩
theorem ElimInv.next {l : List TMember} {s0 s k : Nat} (h : ElimInv l s0 s) (hk : s.testBit k = true) (hu : satT s (trustAt l k) = false) : ElimInv l s0 (s - 2 ^ k) := by
  obtain ⟨h1, h2⟩ := sub_bit h.lt hk
  refine ⟨Nat.lt_of_le_of_lt (Nat.sub_le _ _) h.lt, fun j hj => ?_, fun r hr j hj => ?_⟩
  · rw [h2] at hj
    simp at hj
    exact h.sub j hj.1
  · rw [h2, h.max r hr j hj]
    have : k ≠ j := by
      intro e
      subst e
      have := satT_mono (fun i hi => h.max r hr i hi) _ (hr k hj).2.2
      rw [hu] at this
      cases this
    simp [this]
theorem ElimInv.done {l : List TMember} {s0 s : Nat} (h : ElimInv l s0 s) (hn : unhappyN l s = none) : IsGq l s0 s :=
  ⟨fun k hk => ⟨(h.sub k hk).1, (h.sub k hk).2, unhappyN_none h.lt hn k hk⟩, h.max⟩

/-! ### the program -/
theorem find_loop {l : List Int} {ρ : Type} {f : Int → Bool} {hit : Int → ρ} {fin : Unit → Option ρ} {g : Int → Unit → Option (Unit ⊕ ρ)} (hg : ∀ x ∈ l, ∀ s, g x s = some (if f x then .inr (hit x) else .inl ())) :
    foldE g fin l () = match l.find? f with | some x => some (hit x) | none => fin () := by
  induction l with
  | nil => rfl
  | cons x l ih =>
    rw [foldE, hg x (by simp), List.find?_cons]
    cases hx : f x with
    | true => simp
    | false =>
      simp only [Bool.false_eq_true, if_false]
      exact ih fun y hy => hg y (by simp [hy])
theorem nodesN_len (s : Nat) : (nodesN s).length ≤ 10 := Nat.le_trans (List.length_filter_le _ _) (by simp)
theorem unhappy_eq {c : TConfig} (hc : SmC c) {s : Nat} (hs : s < 1024) (hsub : ∀ k, s.testBit k = true → isDecl c.Members k = true) :
    F_closure_unhappy c s = some (match unhappyN c.Members s with | some x => (x, true, ()) | none => (0, false, ())) := by
  unfold F_closure_unhappy
  rw [Nodes_eq hs, Option.bind_some]
  have hlen := nodesN_len s
  rw [loopO_range (nodesN s) (by omega) (fun i (_ : Unit) => (i, ())) (fun x (_ : Unit) => (F_closure_content c x s).map fun r => if r then .inl () else .inr (x, true, ())) (fun _ => some (0, false, ())) (fun i x u hd hx hw => ?_) (fun u hd => ?_) ()]
  · rw [find_loop (f := fun x => !satT s (trustAt c.Members x.toNat)) (hit := fun x => (x, true, ()))]
    · unfold unhappyN
      cases (nodesN s).find? _ <;> rfl
    · intro x hx u
      obtain ⟨k, hk, rfl, hb⟩ := mem_nodesN.1 hx
      obtain ⟨_, m, hm, _⟩ := isDecl_get (hsub k hb)
      unfold F_closure_content
      rw [idx_nat, hm]
      simp only [Option.bind_some, TTrust.eta, Satisfied_eq hs (hc.trust m (List.mem_of_getElem? hm)), Option.map_some, Int.toNat_natCast, trustAt_get hm]
      cases satT s m.Trust <;> rfl
  · simp only [hd, hx, hw, cond_true, Option.bind_some]
    cases F_closure_content c x s with
    | none => rfl
    | some r => cases r <;> rfl
  · simp only [hd, cond_false]
theorem andNot_bit {s k : Nat} (hs : s < 1024) (hk : s.testBit k = true) : andNotI .i64 (s : Int) (shlI .i64 1 (k : Int)) = ((s - 2 ^ k : Nat) : Int) := by
  have h10 := bit_lt hs hk
  obtain ⟨c, h1, _, h3⟩ := andNotI_nat s (2 ^ k) (by omega) (Nat.pow_lt_pow_right (by omega) (by omega))
  rw [shlI_one k (by omega), h1]
  congr 1
  refine nat_ext fun j => ?_
  rw [h3, (sub_bit hs hk).2, Nat.testBit_two_pow]
theorem Greatest_ok {c : TConfig} (hc : SmC c) {s : Nat} (hs : s < 1024) : Yd (F_closure_Greatest c s) fun q => ∃ n : Nat, q = n ∧ IsGq c.Members s n := by
  unfold F_closure_Greatest F_closure_eliminate
  rw [validS_nat hs, Declared_eq hc.len]
  simp only [Option.bind_some, Bool.not_true, cond_false]
  have hdl := declN_lt c.Members
  rw [andI_nat s (declN c.Members) (by omega) (by omega)]
  suffices key : ∀ (n t : Nat) (out : List Int), t < n → ElimInv c.Members s t → out.length + t ≤ 1024 → Yd (loopO (fun (v3 : Int × (List Int) × Unit) =>
      Option.bind (F_closure_unhappy c v3.1) fun r4 =>
      bif (!r4.2.1) then
      Option.map Sum.inr (some (v3.1, v3.2.1, ()))
      else
      bif lenOk 8 (List.length v3.2.1 + List.length [r4.1]) then
      if r4.1 < 0 then none else
      some (Sum.inl ((andNotI .i64 v3.1 (shlI .i64 (1 : Int) r4.1)), (v3.2.1 ++ [r4.1]), ()))
      else none) ((t : Int), out, ())) fun p => ∃ n : Nat, p.1 = n ∧ IsGq c.Members s n by
    have hfirst := ElimInv.first c.Members hs
    have hb := hfirst.lt
    refine (key 1024 (s &&& declN c.Members) [] hb hfirst (by simp; omega)).bind fun p hp => Yd.some hp
  intro n
  induction n with
  | zero => intro t out h; omega
  | succ n ih =>
    intro t out ht hinv hout
    refine Yd.loop ?_
    rw [unhappy_eq hc hinv.lt fun k hk => (hinv.sub k hk).2]
    simp only [Option.bind_some]
    cases hu : unhappyN c.Members t with
    | none => exact Yd.some ⟨t, rfl, hinv.done hu⟩
    | some x =>
      obtain ⟨k, rfl, hk10, hkb, hks⟩ := unhappyN_some hu
      have h0 : ¬ (k : Int) < 0 := by omega
      have hlb := (sub_bit hinv.lt hkb).1
      have hp : 0 < 2 ^ k := Nat.pow_pos (by omega)
      simp only [Bool.not_true, cond_false]
      rw [lenOk_small (by simp; omega), if_neg h0, andNot_bit hinv.lt hkb]
      exact Yd.some (ih (t - 2 ^ k) _ (by omega) (hinv.next hkb hks) (by simp; omega))
theorem gq_exists {c : TConfig} (hc : SmC c) {s : Nat} (hs : s < 1024) : ∃ q, IsGq c.Members s q := by
  obtain ⟨_, _, n, _, h⟩ := Greatest_ok hc hs
  exact ⟨n, h⟩
open Classical in
noncomputable def gq (l : List TMember) (s : Nat) : Nat := if h : ∃ q, IsGq l s q then Classical.choose h else 0
theorem gq_is {c : TConfig} (hc : SmC c) {s : Nat} (hs : s < 1024) : IsGq c.Members s (gq c.Members s) := by
  have h := gq_exists hc hs
  rw [gq, dif_pos h]
  exact Classical.choose_spec h
theorem Greatest_eq {c : TConfig} (hc : SmC c) {s : Nat} (hs : s < 1024) : F_closure_Greatest c s = some ((gq c.Members s : Nat) : Int) := by
  obtain ⟨q, h1, n, rfl, h2⟩ := Greatest_ok hc hs
  rw [h1, h2.unique (gq_is hc hs)]

end Go.Proofs.YtaebanabjdmgfaaGreat

namespace Go.Proofs.YtaebanabjdmgfaaGreat
open Go.TQ

/-- lists of envelopes of modest size -/
structure SmL (l : List TEnvelope) : Prop where
  len : l.length ≤ 100000
  trust : ∀ e ∈ l, SmT e.Trust
theorem isValid_node {e : TEnvelope} (h : isValid e = true) : 0 ≤ e.Node ∧ e.Node < 10 := by
  simp only [isValid, validE, headOk, Bool.and_eq_true, decide_eq_true_eq] at h
  exact ⟨h.1.1.1.1.1.1.1, h.1.1.1.1.1.1.2⟩

/-! ### the view -/
def noMember : TMember := ⟨false, ⟨0, [], []⟩⟩
noncomputable def viewStep (ms : List TMember) (e : TEnvelope) : List TMember :=
  if isValid e && !((ms[e.Node.toNat]?).any (·.Declared)) then ms.set e.Node.toNat ⟨true, e.Trust⟩ else ms
noncomputable def viewN (node : Nat) (t : TTrust) (l : List TEnvelope) : List TMember := l.foldl viewStep ((List.replicate 10 noMember).set node ⟨true, t⟩)
theorem viewStep_len (ms : List TMember) (e : TEnvelope) : (viewStep ms e).length = ms.length := by
  unfold viewStep
  split
  · rw [List.length_set]
  · rfl
theorem view_foldl_len : ∀ (l : List TEnvelope) (ms : List TMember), (l.foldl viewStep ms).length = ms.length
  | [], _ => rfl
  | e :: l, ms => by rw [List.foldl_cons, view_foldl_len l, viewStep_len]
theorem viewN_len (node : Nat) (t : TTrust) (l : List TEnvelope) : (viewN node t l).length = 10 := by
  rw [viewN, view_foldl_len, List.length_set, List.length_replicate]
theorem get10 {ms : List TMember} (hl : ms.length = 10) {n : Int} (h0 : 0 ≤ n) (h1 : n < 10) : ∃ m, ms[n.toNat]? = some m ∧ idx ms n = some m := by
  have : n.toNat < ms.length := by omega
  exact ⟨ms[n.toNat], List.getElem?_eq_getElem this, by rw [idx_of _ h0]; exact List.getElem?_eq_getElem this⟩
theorem View_eq {node : Nat} (hn : node < 10) {t : TTrust} (ht : SmT t) {l : List TEnvelope} (hl : SmL l) : F_prepare_View node t l = some ⟨viewN node t l⟩ := by
  unfold F_prepare_View
  have h1 : (decide ((10 : Int) = 10) && decide ((0 : Int) ≤ 10) && lenOk 64 (Int.toNat 10)) = true := by
    rw [lenOk_small (by decide)]; rfl
  have h2 : ¬ (node : Int) < 0 := by omega
  have h3 : ¬ (10 : Int) ≤ node := by omega
  rw [h1]
  simp only [cond_true, h2, h3, decide_false, cond_false, Option.bind_some, TTrust.eta, copies_eq ht, letJ_eq]
  obtain ⟨m, hm1, hm2⟩ := get10 (ms := List.replicate 10 noMember) (by simp) (n := (node : Int)) (by omega) (by omega)
  have e10 : List.replicate (Int.toNat 10) (TMember.mk false (TTrust.mk 0 [] [])) = List.replicate 10 noMember := rfl
  rw [e10, hm2, hm1, Option.bind_some, Option.bind_some]
  have hlen := hl.len
  suffices key : ∀ (k i : Nat) (ms : List TMember) (c : TConfig), i + k = l.length → ms.length = 10 → loopO _ ((i : Int), c, ms, ()) = some (TConfig.mk ((l.drop i).foldl viewStep ms)) by
    have := key l.length 0 ((List.replicate 10 noMember).set node ⟨true, t⟩) ⟨[]⟩ (by omega) (by simp)
    simpa [viewN] using this
  intro k
  induction k with
  | zero =>
    intro i ms c hi hms
    obtain rfl : i = l.length := by omega
    refine loopO_inr ?_
    have hd : decide (((l.length : Nat) : Int) < ((l.length : Nat) : Int)) = false := decide_eq_false (Int.lt_irrefl _)
    simp only [hd, cond_false, List.drop_length, List.foldl_nil]
  | succ k ih =>
    intro i ms c hi hms
    have hlt : i < l.length := by omega
    have hd : decide ((i : Int) < ((l.length : Nat) : Int)) = true := decide_eq_true (by omega)
    have hw : addI .i64 (i : Int) 1 = ((i + 1 : Nat) : Int) := add64 (by omega) (by omega)
    have hx : idx l (i : Int) = some l[i] := by rw [idx_nat]; exact List.getElem?_eq_getElem hlt
    have hsm := hl.trust _ (List.getElem_mem hlt)
    rw [List.drop_eq_getElem_cons hlt, List.foldl_cons]
    refine Eq.trans (loopO_inl (s' := (((i + 1 : Nat) : Int), ⟨[]⟩, viewStep ms l[i], ())) ?_) (ih (i + 1) _ _ (by omega) (by rw [viewStep_len]; exact hms))
    simp only [hd, hx, hw, cond_true, Option.bind_some, Valid_eq hsm]
    unfold viewStep
    cases hv : isValid l[i] with
    | false => simp
    | true =>
      obtain ⟨h4, h5⟩ := isValid_node hv
      obtain ⟨m, hm1, hm2⟩ := get10 hms h4 h5
      simp only [cond_true, hm1, hm2, Option.bind_some, copies_eq hsm, Option.any_some, Bool.true_and]
      cases m.Declared <;> simp
theorem viewN_sm {node : Nat} {t : TTrust} (ht : SmT t) {l : List TEnvelope} (hl : SmL l) : SmC ⟨viewN node t l⟩ := by
  refine ⟨by rw [viewN_len]; omega, ?_⟩
  have key : ∀ (l : List TEnvelope) (ms : List TMember), (∀ e ∈ l, SmT e.Trust) → (∀ m ∈ ms, SmT m.Trust) → ∀ m ∈ l.foldl viewStep ms, SmT m.Trust := by
    intro l
    induction l with
    | nil => intro ms _ h; exact h
    | cons e l ih =>
      intro ms he h
      rw [List.foldl_cons]
      refine ih _ (fun e' h' => he e' (by simp [h'])) fun m hm => ?_
      unfold viewStep at hm
      split at hm
      · rcases List.mem_or_eq_of_mem_set hm with hm | rfl
        · exact h m hm
        · exact he e (by simp)
      · exact h m hm
  refine key l _ hl.trust fun m hm => ?_
  rcases List.mem_or_eq_of_mem_set hm with hm | rfl
  · rw [List.eq_of_mem_replicate hm]
    exact .mk _ (by simp [noMember]) (by simp [noMember]) (by simp [noMember])
  · exact ht

/-! ### who says what -/
noncomputable def rights (l : List TEnvelope) : List TEnvelope := l.filter isValid
theorem Rights_eq {l : List TEnvelope} (hl : SmL l) : F_envelopes_Rights l = some ((rights l).map TRight.mk) := by
  unfold F_envelopes_Rights
  have hlen := hl.len
  simp only [letJ_eq]
  suffices key : ∀ (k i : Nat) (acc : List TRight), i + k = l.length → acc = (rights (l.take i)).map TRight.mk → loopO _ ((i : Int), acc, ()) = some ((rights l).map TRight.mk) from key l.length 0 [] (by omega) rfl
  intro k
  induction k with
  | zero =>
    intro i acc hi ha
    obtain rfl : i = l.length := by omega
    refine loopO_inr ?_
    have hd : decide (((l.length : Nat) : Int) < ((l.length : Nat) : Int)) = false := decide_eq_false (Int.lt_irrefl _)
    simp only [hd, cond_false, Option.map_some, ha, List.take_length]
  | succ k ih =>
    intro i acc hi ha
    have hlt : i < l.length := by omega
    have hd : decide ((i : Int) < ((l.length : Nat) : Int)) = true := decide_eq_true (by omega)
    have hw : addI .i64 (i : Int) 1 = ((i + 1 : Nat) : Int) := add64 (by omega) (by omega)
    have hx : idx l (i : Int) = some l[i] := by rw [idx_nat]; exact List.getElem?_eq_getElem hlt
    have hsm := hl.trust _ (List.getElem_mem hlt)
    have hal : acc.length ≤ i := by
      rw [ha, List.length_map]
      exact Nat.le_trans (List.length_filter_le _ _) (by rw [List.length_take]; omega)
    refine Eq.trans (loopO_inl (s' := (((i + 1 : Nat) : Int), (if isValid l[i] then acc ++ [TRight.mk l[i]] else acc), ())) ?_) (ih (i + 1) _ (by omega) ?_)
    · simp only [hd, hx, hw, cond_true, Option.bind_some, TTrust.eta, TEnvelope.eta, Valid_eq hsm]
      rw [lenOk_small (by simp; omega)]
      cases isValid l[i] <;> simp
    · rw [List.take_succ_eq_append_getElem hlt, rights, List.filter_append, ha]
      cases hv : isValid l[i] <;> simp [rights, hv]
/-- the nodes of some envelopes -/
def whoN (p : TEnvelope → Bool) : List TEnvelope → Nat
  | [] => 0
  | e :: l => (if p e then 2 ^ e.Node.toNat else 0) ||| whoN p l
theorem whoN_bit (p : TEnvelope → Bool) (k : Nat) : ∀ (l : List TEnvelope), (whoN p l).testBit k = l.any fun e => p e && decide (e.Node.toNat = k)
  | [] => by simp [whoN]
  | e :: l => by
    rw [whoN, Nat.testBit_or, whoN_bit p k l, List.any_cons]
    cases p e <;> simp [Nat.testBit_two_pow]
def InNodes (l : List TEnvelope) : Prop := ∀ e ∈ l, 0 ≤ e.Node ∧ e.Node < 10
theorem rights_in (l : List TEnvelope) : InNodes (rights l) := fun _ he => isValid_node (List.mem_filter.1 he).2
theorem whoN_lt {p : TEnvelope → Bool} {l : List TEnvelope} (h : InNodes l) : whoN p l < 1024 := lt_1024 fun k hk => by
  rw [whoN_bit, List.any_eq_true] at hk
  obtain ⟨e, he, h1⟩ := hk
  simp only [Bool.and_eq_true, decide_eq_true_eq] at h1
  have := h e he
  omega
theorem who_loop (p : TEnvelope → Bool) (l : List TEnvelope) (hin : InNodes l) (step : (Int × Int × Unit) → Option ((Int × Int × Unit) ⊕ Int))
    (h1 : ∀ (i : Nat) (e : TEnvelope) (s : Int), l[i]? = some e → step (s, (i : Int), ()) = if p e then (if e.Node < 0 then none else some (.inl (orI .i64 s (shlI .i64 1 e.Node), ((i + 1 : Nat) : Int), ()))) else some (.inl (s, ((i + 1 : Nat) : Int), ())))
    (h2 : ∀ s : Int, step (s, (l.length : Int), ()) = some (.inr s)) : loopO step (0, 0, ()) = some ((whoN p l : Nat) : Int) := by
  suffices key : ∀ (k i s : Nat), i + k = l.length → s < 1024 → loopO step ((s : Int), (i : Int), ()) = some ((s ||| whoN p (l.drop i) : Nat) : Int) by
    have := key l.length 0 0 (by omega) (by omega)
    simpa using this
  intro k
  induction k with
  | zero =>
    intro i s hi hs
    obtain rfl : i = l.length := by omega
    rw [loopO_inr (h2 s), List.drop_length, whoN]
    simp
  | succ k ih =>
    intro i s hi hs
    have hlt : i < l.length := by omega
    have hm := hin l[i] (List.getElem_mem hlt)
    rw [List.drop_eq_getElem_cons hlt, whoN]
    have hst := h1 i l[i] s (List.getElem?_eq_getElem hlt)
    cases hp : p l[i] with
    | false =>
      rw [hp] at hst
      rw [loopO_inl hst, ih (i + 1) s (by omega) hs]
      simp
    | true =>
      rw [hp, if_pos rfl, if_neg (by omega), orI_bit hs hm.1 hm.2] at hst
      rw [loopO_inl hst, ih (i + 1) _ (by omega) (or_lt hs hm.2)]
      simp [Nat.or_assoc]
theorem Look_eq {node : Nat} (hn : node < 10) {t : TTrust} (ht : SmT t) {l : List TEnvelope} (hl : SmL l) : F_prepare_Look node t l = some ⟨node, ⟨viewN node t l⟩, (rights l).map TRight.mk⟩ := by
  unfold F_prepare_Look
  simp only [TTrust.eta, View_eq hn ht hl, Rights_eq hl, Option.bind_some]
end Go.Proofs.YtaebanabjdmgfaaGreat

set_option linter.unusedVariables false
namespace Go.Proofs.YtaebanabjdmgfaaGreat
open Go.TQ

theorem all_loopS {τ ρ : Type} (n : Nat) (mk : Int → τ) {step : τ → Option (τ ⊕ ρ)} {fin : Option ρ} (h1 : ∀ i : Nat, i < n → step (mk (i : Int)) = some (.inl (mk ((i + 1 : Nat) : Int)))) (h2 : step (mk (n : Int)) = Option.map Sum.inr fin) : loopO step (mk 0) = fin := by
  suffices key : ∀ (k i : Nat), i + k = n → loopO step (mk (i : Int)) = fin from key n 0 (by omega)
  intro k
  induction k with
  | zero =>
    intro i hi
    obtain rfl : i = n := by omega
    rw [loopO_eq, h2]
    cases fin <;> rfl
  | succ k ih => exact fun i hi => (loopO_inl (h1 i (by omega))).trans (ih (i + 1) (by omega))

end Go.Proofs.YtaebanabjdmgfaaGreat

set_option linter.unusedVariables false
namespace Go.Proofs.YtaebanabjdmgfaaGreat
open Go.TQ

section
variable {α : Type}
noncomputable def insIn (cmp : α → α → Option Int) (a0 i : Int) (v2 : Int × (List α) × Unit) : Option ((Int × (List α) × Unit) ⊕ ((Int × (List α) × Unit) ⊕ ((Unit) × List α))) :=
 letJ (fun (v3 : Bool × Unit) =>
 bif v3.1 then
 Option.bind (idx v2.2.1 (subI .i64 v2.1 (1 : Int))) fun x5 =>
 Option.bind (v2.2.1[(Int.toNat (subI .i64 v2.1 (1 : Int)))]?) fun x6 =>
 Option.bind (idx v2.2.1 v2.1) fun x7 =>
 Option.bind (v2.2.1[(Int.toNat v2.1)]?) fun x8 =>
 Option.bind (idx v2.2.1 v2.1) fun x9 =>
 Option.bind (v2.2.1[(Int.toNat v2.1)]?) fun x10 =>
 Option.bind (idx (v2.2.1.set (Int.toNat v2.1) x6) (subI .i64 v2.1 (1 : Int))) fun x11 =>
 Option.bind ((v2.2.1.set (Int.toNat v2.1) x6)[(Int.toNat (subI .i64 v2.1 (1 : Int)))]?) fun x12 =>
 some (Sum.inl ((subI .i64 v2.1 (1 : Int)), ((v2.2.1.set (Int.toNat v2.1) x6).set (Int.toNat (subI .i64 v2.1 (1 : Int))) x8), ()))
 else
 Option.map Sum.inr (some (Sum.inl ((addI .i64 i (1 : Int)), v2.2.1, ())))) fun j4 =>
 bif (decide (a0 < v2.1)) then
 Option.bind (idx v2.2.1 v2.1) fun x13 =>
 Option.bind (v2.2.1[(Int.toNat v2.1)]?) fun x14 =>
 Option.bind (idx v2.2.1 (subI .i64 v2.1 (1 : Int))) fun x15 =>
 Option.bind (v2.2.1[(Int.toNat (subI .i64 v2.1 (1 : Int)))]?) fun x16 =>
 Option.bind (cmp x14 x16) fun r17 =>
 j4 ((decide (r17 < (0 : Int))), ())
 else
 j4 (false, ())
noncomputable def insOut (cmp : α → α → Option Int) (a0 a1 : Int) (v1 : Int × (List α) × Unit) : Option ((Int × (List α) × Unit) ⊕ ((Unit) × List α)) :=
 bif (decide (v1.1 < a1)) then
 loopO (insIn cmp a0 v1.1) (v1.1, v1.2.1, ())
 else
 Option.map Sum.inr (some ((()), v1.2.1))
/-- the decompiled insertion sort -/
noncomputable def gIns (cmp : α → α → Option Int) (s : List α) (a0 : Int) (a1 : Int) : Option ((Unit) × List α) := loopO (insOut cmp a0 a1) ((addI .i64 a0 (1 : Int)), s, ())

/-- an order -/
structure SWO (lt : α → α → Bool) : Prop where
  asymm : ∀ x y, lt x y = true → lt y x = false
  trans : ∀ x y z, lt y x = false → lt z y = false → lt z x = false

/-- x goes down into the reversed prefix -/
def sink (lt : α → α → Bool) : List α → α → List α → List α
  | [], x, q => x :: q
  | y :: rp, x, q => if lt x y then sink lt rp x (y :: q) else rp.reverse ++ y :: x :: q
theorem sink_len (lt : α → α → Bool) : ∀ (rp : List α) (x : α) (q : List α), (sink lt rp x q).length = rp.length + 1 + q.length
  | [], x, q => by simp [sink]; omega
  | y :: rp, x, q => by
    rw [sink]
    split
    · rw [sink_len lt rp]; simp; omega
    · simp; omega
theorem sink_perm (lt : α → α → Bool) : ∀ (rp : List α) (x : α) (q : List α), (sink lt rp x q).Perm (rp.reverse ++ x :: q)
  | [], x, q => .refl _
  | y :: rp, x, q => by
    rw [sink]
    split
    · refine (sink_perm lt rp x (y :: q)).trans ?_
      rw [List.reverse_cons, List.append_assoc]
      exact (List.Perm.refl _).append (.swap _ _ _)
    · rw [List.reverse_cons, List.append_assoc]
      exact .refl _
theorem sink_sorted {lt : α → α → Bool} (h : SWO lt) : ∀ (rp : List α) (x : α) (q : List α), (rp.reverse ++ q).Pairwise (fun a b => lt b a = false) → (∀ y ∈ q, lt y x = false) → (sink lt rp x q).Pairwise (fun a b => lt b a = false)
  | [], x, q, hp, hq => List.pairwise_cons.2 ⟨hq, by simpa using hp⟩
  | y :: rp, x, q, hp, hq => by
    rw [List.reverse_cons, List.append_assoc] at hp
    rw [sink]
    split
    · rename_i hlt
      refine sink_sorted h rp x (y :: q) hp fun z hz => ?_
      rcases List.mem_cons.1 hz with rfl | hz
      · exact h.asymm _ _ hlt
      · exact hq z hz
    · rename_i hlt
      have hlt : lt x y = false := by simpa using hlt
      rw [List.pairwise_append] at hp ⊢
      obtain ⟨h1, h2, h3⟩ := hp
      rw [List.singleton_append, List.pairwise_cons] at h2
      refine ⟨h1, ?_, fun a ha b hb => ?_⟩
      · rw [List.pairwise_cons, List.pairwise_cons]
        refine ⟨fun z hz => ?_, hq, h2.2⟩
        rcases List.mem_cons.1 hz with rfl | hz
        · exact hlt
        · exact h2.1 z hz
      · rcases List.mem_cons.1 hb with rfl | hb
        · exact h3 a ha _ (by simp)
        · rcases List.mem_cons.1 hb with rfl | hb
          · exact h.trans a y _ (h3 a ha y (by simp)) hlt
          · exact h3 a ha b (by simp [hb])

/-- one element goes to its place -/
theorem ins_inner {cmp : α → α → Option Int} {c : α → α → Int} (hc : ∀ x y, cmp x y = some (c x y)) (i : Int) : ∀ (rp : List α) (x : α) (q : List α), rp.length < 1000000000 → loopO (insIn cmp 0 i) ((rp.length : Int), rp.reverse ++ x :: q, ()) = some (.inl (addI .i64 i 1, sink (fun a b => decide (c a b < 0)) rp x q, ()))
  | [], x, q, _ => by
    refine loopO_inr ?_
    simp [insIn, letJ, sink]
  | y :: rp, x, q, hl => by
    have hl' : rp.length < 1000000000 := by rw [List.length_cons] at hl; omega
    have e1 : subI .i64 (((y :: rp).length : Nat) : Int) 1 = (rp.length : Int) := by rw [List.length_cons] at hl ⊢; rw [sub64 (by omega) (by omega)]; omega
    have e2 : (y :: rp).reverse ++ x :: q = rp.reverse ++ y :: x :: q := by simp
    have e3 : (rp.reverse ++ y :: x :: q)[(y :: rp).length]? = some x := by simp
    have e4 : (rp.reverse ++ y :: x :: q)[rp.length]? = some y := by simp
    have e5 : (rp.reverse ++ y :: x :: q).set (y :: rp).length y = rp.reverse ++ y :: y :: q := by simp
    have e6 : (rp.reverse ++ y :: y :: q).set rp.length x = rp.reverse ++ x :: y :: q := by simp
    have e7 : (rp.reverse ++ y :: y :: q)[rp.length]? = some y := by simp
    have hd : decide ((0 : Int) < (((y :: rp).length : Nat) : Int)) = true := decide_eq_true (by rw [List.length_cons]; omega)
    rw [e2, sink]
    have hst : insIn cmp 0 i ((((y :: rp).length : Nat) : Int), rp.reverse ++ y :: x :: q, ()) = _ := rfl
    conv at hst => rhs; rw [insIn]
    simp only [hd, cond_true, e1, idx_nat, Int.toNat_natCast, e3, e4, Option.bind_some, hc, letJ, e5, e6, e7] at hst
    cases hb : decide (c x y < 0) with
    | true =>
      rw [hb] at hst
      rw [if_pos rfl, loopO_inl hst]
      exact ins_inner hc i rp x (y :: q) hl'
    | false =>
      rw [hb] at hst
      rw [if_neg (by simp)]
      exact loopO_inr hst

theorem ins_ok {cmp : α → α → Option Int} {c : α → α → Int} (hc : ∀ x y, cmp x y = some (c x y)) (s : List α) (hs : s.length < 1000000000) :
    ∃ t : List α, gIns cmp s 0 (s.length : Int) = some ((), t) ∧ t.Perm s ∧ ((SWO fun a b => decide (c a b < 0)) → t.Pairwise (fun a b => decide (c b a < 0) = false)) := by
  suffices key : ∀ (k i : Nat) (p q : List α), i + k = s.length ∨ (k = 0 ∧ s.length ≤ i) → p.length = min i s.length → (p ++ q).Perm s → ((SWO fun a b => decide (c a b < 0)) → p.Pairwise (fun a b => decide (c b a < 0) = false)) →
      ∃ t : List α, loopO (insOut cmp 0 (s.length : Int)) ((i : Int), p ++ q, ()) = some ((), t) ∧ t.Perm s ∧ ((SWO fun a b => decide (c a b < 0)) → t.Pairwise (fun a b => decide (c b a < 0) = false)) by
    cases s with
    | nil => exact key 0 1 [] [] (.inr ⟨rfl, by simp⟩) (by simp) (.refl _) (fun _ => .nil)
    | cons x l => exact key l.length 1 [x] l (.inl (by simp; omega)) (by simp) (.refl _) (fun _ => by simp)
  intro k
  induction k with
  | zero =>
    intro i p q hi hp hperm hsort
    have hle : s.length ≤ i := by omega
    have hq : q = [] := by
      have := hperm.length_eq
      rw [List.length_append] at this
      exact List.length_eq_zero_iff.1 (by omega)
    subst hq
    rw [List.append_nil] at hperm ⊢
    refine ⟨p, loopO_inr ?_, hperm, hsort⟩
    have hd : decide ((i : Int) < (s.length : Int)) = false := decide_eq_false (by omega)
    simp only [insOut, hd, cond_false, Option.map_some]
  | succ k ih =>
    intro i p q hi hp hperm hsort
    have hi : i + (k + 1) = s.length := by omega
    have hpi : p.length = i := by omega
    have hlen := hperm.length_eq
    rw [List.length_append] at hlen
    cases q with
    | nil => simp at hlen; omega
    | cons x q =>
      have hd : decide ((i : Int) < (s.length : Int)) = true := decide_eq_true (by omega)
      have hw : addI .i64 (i : Int) 1 = ((i + 1 : Nat) : Int) := add64 (by omega) (by omega)
      let S := sink (fun a b => decide (c a b < 0)) p.reverse x []
      have hS1 : S.Perm (p ++ [x]) := by simpa using sink_perm (fun a b => decide (c a b < 0)) p.reverse x []
      have hS2 : (SWO fun a b => decide (c a b < 0)) → S.Pairwise (fun a b => decide (c b a < 0) = false) := fun ho => sink_sorted ho p.reverse x [] (by simpa using hsort ho) (by simp)
      have hSl : S.length = i + 1 := by simp [S, sink_len, hpi]
      have hsq : ∀ (rp : List α) (q1 q2 : List α), sink (fun a b => decide (c a b < 0)) rp x (q1 ++ q2) = sink (fun a b => decide (c a b < 0)) rp x q1 ++ q2 := by
        intro rp
        induction rp with
        | nil => intro q1 q2; simp [sink]
        | cons y rp ihr =>
          intro q1 q2
          simp only [sink]
          split
          · rw [← List.cons_append]; exact ihr _ _
          · simp
      have hin := ins_inner hc (i : Int) p.reverse x q (by simp; omega)
      obtain ⟨t, h1, h2, h3⟩ := ih (i + 1) S q (.inl (by omega)) (by omega) ((hS1.append_right q).trans (by simpa using hperm)) hS2
      refine ⟨t, ?_, h2, h3⟩
      refine Eq.trans (loopO_inl ?_) h1
      simp only [insOut, hd, cond_true]
      rw [hw, List.reverse_reverse, List.length_reverse, hpi] at hin
      have e : sink (fun a b => decide (c a b < 0)) p.reverse x q = S ++ q := hsq p.reverse [] q
      rw [e] at hin
      exact hin
end
end Go.Proofs.YtaebanabjdmgfaaGreat

set_option linter.unusedVariables false
set_option linter.unusedSimpArgs false
namespace Go.Proofs.YtaebanabjdmgfaaGreat
open Go.TQ

/-! ### what counts -/
noncomputable def countsS (x : TSighting) : Bool := decide (x.Letter.Kind = 2) && decide (x.From = x.Letter.Envelope.Node) && isValid x.Letter.Envelope
def envS (x : TSighting) : TEnvelope := x.Letter.Envelope
/-- the envelopes that count -/
noncomputable def cs (l : List TSighting) : List TEnvelope := (l.filter countsS).map envS
def pl (e : TEnvelope) : TPlace := ⟨e.Node, e.Slot⟩
structure SmS (l : List TSighting) : Prop where
  len : l.length ≤ 12
  sm : ∀ x ∈ l, SmT x.Letter.Envelope.Trust
theorem eqp_iff {p k : TPlace} : eqp p k = true ↔ p = k := by
  obtain ⟨a, b⟩ := p
  obtain ⟨c, d⟩ := k
  simp [eqp]
theorem eqp_self (p : TPlace) : eqp p p = true := eqp_iff.2 rfl
theorem eqp_false {p k : TPlace} : eqp p k = false ↔ p ≠ k := by
  rw [← Bool.not_eq_true, eqp_iff]
theorem step_eq {x : TSighting} (h : SmT x.Letter.Envelope.Trust) : filStep (fun e => F_envelopes_Valid e) x = some (if countsS x = true then some (envS x, pl (envS x)) else none) := by
  have hv := Valid_eq (e := x.Letter.Envelope) h
  unfold filStep countsS
  simp only [TTrust.eta, TEnvelope.eta, hv, Option.bind_some]
  by_cases h1 : x.Letter.Kind = 2
  · by_cases h2 : x.From = x.Letter.Envelope.Node
    · cases h3 : isValid x.Letter.Envelope <;> simp [h1, h2, h3, envS, pl]
    · simp [h1, h2]
  · simp [h1]
theorem mget_gput (k p : TPlace) (e : TEnvelope) : ∀ G : List (TPlace × List TEnvelope), mget (eqp k) (gput (eqp p) p e G) [] = if eqp k p = true then mget (eqp k) G [] ++ [e] else mget (eqp k) G []
  | [] => by
    simp only [gput, mget]
    cases eqp k p <;> rfl
  | q :: G => by
    simp only [gput]
    cases hp : eqp p q.1 with
    | true =>
      obtain rfl := eqp_iff.1 hp
      simp only [cond_true, mget]
      cases eqp k q.1 <;> simp
    | false =>
      simp only [cond_false, mget]
      rw [mget_gput k p e G]
      cases hk : eqp k q.1 with
      | true =>
        obtain rfl := eqp_iff.1 hk
        have : eqp q.1 p = false := eqp_false.2 fun h => by
          rw [h, eqp_self] at hp
          cases hp
        rw [this]
        rfl
      | false => rfl
structure Fls (G : List (TPlace × List TEnvelope)) (ps : List TPlace) (es : List TEnvelope) : Prop where
  g : ∀ k, mget (eqp k) G [] = es.filter fun e => eqp k (pl e)
  nd : ps.Nodup
  m : ∀ k, k ∈ ps ↔ ∃ e ∈ es, pl e = k
  len : ps.length ≤ es.length
theorem Fls.nil : Fls [] [] [] := ⟨fun _ => rfl, List.nodup_nil, fun k => by simp, Nat.le_refl _⟩
theorem Fls.add {G : List (TPlace × List TEnvelope)} {ps : List TPlace} {es : List TEnvelope} (h : Fls G ps es) (e : TEnvelope) : Fls (gput (eqp (pl e)) (pl e) e G) (bif (mget (eqp (pl e)) G []).isEmpty then ps ++ [pl e] else ps) (es ++ [e]) := by
  have hem : (mget (eqp (pl e)) G []).isEmpty = true ↔ pl e ∉ ps := by
    rw [h.g, List.isEmpty_iff, List.filter_eq_nil_iff, h.m]
    constructor
    · rintro h1 ⟨e', h2, h3⟩
      exact h1 e' h2 (eqp_iff.2 h3.symm)
    · intro h1 e' h2 h3
      exact h1 ⟨e', h2, (eqp_iff.1 h3).symm⟩
  refine ⟨fun k => ?_, ?_, fun k => ?_, ?_⟩
  · rw [mget_gput, h.g, List.filter_append]
    cases hk : eqp k (pl e) with
    | true => simp [hk]
    | false => simp [hk]
  · cases hb : (mget (eqp (pl e)) G []).isEmpty with
    | true =>
      rw [cond_true, List.nodup_append]
      refine ⟨h.nd, by simp, fun a ha b hb' => ?_⟩
      simp only [List.mem_singleton] at hb'
      subst hb'
      intro e1
      subst e1
      exact hem.1 hb ha
    | false => exact h.nd
  · have hk : (∃ e' ∈ es ++ [e], pl e' = k) ↔ k ∈ ps ∨ pl e = k := by
      rw [h.m]
      simp only [List.mem_append, List.mem_singleton]
      constructor
      · rintro ⟨e', h1 | rfl, h2⟩
        · exact .inl ⟨e', h1, h2⟩
        · exact .inr h2
      · rintro (⟨e', h1, h2⟩ | h2)
        · exact ⟨e', .inl h1, h2⟩
        · exact ⟨e, .inr rfl, h2⟩
    rw [hk]
    cases hb : (mget (eqp (pl e)) G []).isEmpty with
    | true =>
      simp only [cond_true, List.mem_append, List.mem_singleton]
      exact or_congr Iff.rfl eq_comm
    | false =>
      rw [cond_false]
      refine ⟨.inl, fun h1 => ?_⟩
      rcases h1 with h1 | h1
      · exact h1
      · rw [← h1]
        have : ¬ (pl e ∉ ps) := fun hn => by rw [hem.2 hn] at hb; cases hb
        exact Classical.not_not.1 this
  · have := h.len
    cases (mget (eqp (pl e)) G []).isEmpty <;> simp <;> omega
theorem filL_ok : ∀ (l : List TSighting) (G : List (TPlace × List TEnvelope)) (ps : List TPlace) (es : List TEnvelope), Fls G ps es → (∀ x ∈ l, SmT x.Letter.Envelope.Trust) → es.length + l.length ≤ 1000 → ∃ G' ps', filL 176 16 (fun e => F_envelopes_Valid e) l G ps = some (G', ps') ∧ Fls G' ps' (es ++ cs l)
  | [], G, ps, es, h, _, _ => ⟨G, ps, rfl, by simpa [cs] using h⟩
  | x :: l, G, ps, es, h, hl, hlen => by
    simp only [filL, step_eq (hl x (by simp)), Option.bind_some]
    simp only [List.length_cons] at hlen
    cases hc : countsS x with
    | false =>
      simp only [Bool.false_eq_true, if_false, filPut, Option.bind_some]
      have : cs (x :: l) = cs l := by simp [cs, hc]
      rw [this]
      exact filL_ok l G ps es h (fun y hy => hl y (by simp [hy])) (by omega)
    | true =>
      simp only [if_true, filPut]
      have hlen2 : (mget (eqp (pl (envS x))) G []).length ≤ es.length := by rw [h.g]; exact List.length_filter_le _ _
      have hlen3 := h.len
      rw [lenOk_small (by omega), lenOk_small (by omega)]
      simp only [Bool.and_self, cond_true, Option.bind_some]
      have : es ++ cs (x :: l) = (es ++ [envS x]) ++ cs l := by simp [cs, hc]
      rw [this]
      exact filL_ok l _ _ _ (h.add (envS x)) (fun y hy => hl y (by simp [hy])) (by simp; omega)

/-! ### places ascending -/
def lessP (p k : TPlace) : Bool := decide (p.node < k.node) || (decide (p.node = k.node) && decide (p.slot < k.slot))
def cmpP (p k : TPlace) : Int := if cmpI p.node k.node = 0 then cmpI p.slot k.slot else cmpI p.node k.node
theorem place_cmp (p k : TPlace) : F_monitor_place_compare p k = some (cmpP p k) := by
  simp only [F_monitor_place_compare, F_cmp_Compare_int_eq, Option.bind_some, F_cmp_Or_int_two, cmpP]
theorem cmpP_neg (p k : TPlace) : decide (cmpP p k < 0) = lessP p k := by
  unfold cmpP lessP
  by_cases h : p.node = k.node
  · rw [if_pos ((cmpI_zero _ _).2 h), Bool.eq_iff_iff]
    simp only [decide_eq_true_eq, Bool.or_eq_true, Bool.and_eq_true, cmpI_neg]
    constructor
    · exact fun h1 => .inr ⟨h, h1⟩
    · rintro (h1 | ⟨_, h1⟩)
      · omega
      · exact h1
  · rw [if_neg (fun h1 => h ((cmpI_zero _ _).1 h1)), Bool.eq_iff_iff]
    simp only [decide_eq_true_eq, Bool.or_eq_true, Bool.and_eq_true, cmpI_neg]
    constructor
    · exact fun h1 => .inl h1
    · rintro (h1 | ⟨h1, _⟩)
      · exact h1
      · exact absurd h1 h
theorem lessP_iff {p k : TPlace} : lessP p k = true ↔ p.node < k.node ∨ (p.node = k.node ∧ p.slot < k.slot) := by simp [lessP]
theorem swo_P : SWO fun a b : TPlace => decide (cmpP a b < 0) := by
  refine ⟨fun x y h => ?_, fun x y z h1 h2 => ?_⟩
  · rw [cmpP_neg] at *
    rw [← Bool.not_eq_true, lessP_iff]
    rw [lessP_iff] at h
    omega
  · rw [cmpP_neg] at *
    rw [← Bool.not_eq_true, lessP_iff] at *
    omega
theorem insP_eq (s : List TPlace) (a b : Int) : F_slices_insertionSortCmpFunc_monitor_place_c62 s a b = gIns F_monitor_place_compare s a b := rfl
theorem sidx_some (s : ByteArray) (n : Nat) (h : n < s.size) : ∃ v, sidx s n = some v := by
  unfold sidx
  rw [if_pos (by omega), Int.toNat_natCast]
  exact ⟨_, by rw [getElem?_pos s n h]; rfl⟩
theorem convI_u64 {n : Nat} (h : n < 2 ^ 62) : convI .u64 (n : Int) = n := by
  unfold convI IntKind.wrap
  simp [IntKind.signed, IntKind.bits]
  omega
theorem tab_some : ∀ n : Nat, n ≤ 12 → ∃ r, F_math_bits_Len (convI .u64 (n : Int)) = some r := by
  intro n hn
  have hc : convI .u64 (n : Int) = n := convI_u64 (by omega)
  have h8 : convI .u8 (n : Int) = n := by
    unfold convI IntKind.wrap
    simp [IntKind.signed, IntKind.bits]
    omega
  have d1 : decide ((4294967296 : Int) ≤ n) = false := decide_eq_false (by omega)
  have d2 : decide ((65536 : Int) ≤ n) = false := decide_eq_false (by omega)
  have d3 : decide ((256 : Int) ≤ n) = false := decide_eq_false (by omega)
  rw [hc]
  unfold F_math_bits_Len F_math_bits_Len64
  generalize htab : ByteArray.mk _ = tb
  have hsz : tb.size = 256 := by rw [← htab]; decide +kernel
  obtain ⟨v, hv⟩ := sidx_some tb n (by omega)
  simp only [letJ_eq, d1, d2, d3, cond_false, h8, hv, Option.bind_some]
  exact ⟨_, rfl⟩
theorem sortP {s : List TPlace} (hs : s.length ≤ 12) (hnd : s.Nodup) : ∃ t : List TPlace, F_slices_SortFunc_monitor_place_monitor_place_c62 s = some ((), t) ∧ t.Perm s ∧ t.Pairwise (fun a b => lessP a b = true) := by
  obtain ⟨t, h1, h2, h3⟩ := ins_ok (cmp := F_monitor_place_compare) (c := cmpP) place_cmp s (by omega)
  obtain ⟨r, hr⟩ := tab_some s.length hs
  refine ⟨t, ?_, h2, ?_⟩
  · have e1 : subI .i64 (s.length : Int) 0 = s.length := by rw [sub64 (by omega) (by omega)]; omega
    have e2 : decide ((s.length : Int) ≤ 12) = true := decide_eq_true (by omega)
    have hp : F_slices_pdqsortCmpFunc_monitor_place_c62 s 0 (s.length : Int) r = some ((), t) := by
      show B_slices_pdqsortCmpFunc_monitor_place_c62 (I_slices_pdqsortCmpFunc_monitor_place_c62 s.length) s 0 (s.length : Int) r = some ((), t)
      unfold B_slices_pdqsortCmpFunc_monitor_place_c62
      refine loopO_inr ?_
      simp only [e1, e2, cond_true, insP_eq, h1, Option.bind_some, Option.map_some]
    simp only [F_slices_SortFunc_monitor_place_monitor_place_c62, hr, hp, Option.bind_some]
  · have hnd' : t.Nodup := h2.nodup_iff.2 hnd
    refine ((h3 swo_P).and hnd').imp fun {a b} h => ?_
    obtain ⟨h4, h5⟩ := h
    rw [cmpP_neg, ← Bool.not_eq_true, lessP_iff] at h4
    rw [lessP_iff]
    by_cases h6 : a.node = b.node
    · by_cases h7 : a.slot = b.slot
      · exact absurd (by cases a; cases b; simp_all) h5
      · omega
    · omega
/-- the files of few sightings -/
theorem files_ok {l : List TSighting} (h : SmS l) : ∃ G ps, F_monitor_files l = some (G, ps, ()) ∧ (∀ k, mget (eqp k) G [] = (cs l).filter fun e => eqp k (pl e)) ∧ ps.Pairwise (fun a b => lessP a b = true) ∧ (∀ k, k ∈ ps ↔ ∃ e ∈ cs l, pl e = k) ∧ ps.length ≤ 12 := by
  have hlen := h.len
  obtain ⟨G, ps, h1, h2⟩ := filL_ok l [] [] [] Fls.nil h.sm (by simp; omega)
  rw [List.nil_append] at h2
  have hcl : (cs l).length ≤ l.length := by simp only [cs, List.length_map]; exact List.length_filter_le _ _
  have hpl := h2.len
  obtain ⟨t, h3, h4, h5⟩ := sortP (s := ps) (by omega) h2.nd
  refine ⟨G, t, ?_, h2.g, h5, fun k => by rw [h4.mem_iff]; exact h2.m k, by rw [h4.length_eq]; omega⟩
  simp only [F_monitor_files, filesF, h1, h3, Option.bind_some]
theorem cs_sm {l : List TSighting} (h : SmS l) : ∀ e ∈ cs l, SmT e.Trust := by
  intro e he
  obtain ⟨x, hx, rfl⟩ := List.mem_map.1 he
  exact h.sm x (List.mem_filter.1 hx).1
theorem cs_valid {l : List TSighting} : ∀ e ∈ cs l, isValid e = true := by
  intro e he
  obtain ⟨x, hx, rfl⟩ := List.mem_map.1 he
  have := (List.mem_filter.1 hx).2
  simp only [countsS, Bool.and_eq_true] at this
  exact this.2

/-! ### the newest one -/
def newer (o e : TEnvelope) : TEnvelope := if o.Seq < e.Seq then e else o
def zeroE : TEnvelope := TEnvelope.mk 0 0 0 (TTrust.mk 0 [] []) 0 (TBallot.mk 0 (ByteArray.mk #[])) (TBallot.mk 0 (ByteArray.mk #[])) (TBallot.mk 0 (ByteArray.mk #[])) 0 0
def newestE : List TEnvelope → TEnvelope
  | [] => zeroE
  | e :: l => (e :: l).foldl newer e
theorem copyE {e : TEnvelope} (h : SmT e.Trust) : F_copies_Envelope e = some e := by simp [F_copies_Envelope, copies_eq h]
theorem foldl_newer_mem : ∀ (l : List TEnvelope) (o : TEnvelope), l.foldl newer o = o ∨ l.foldl newer o ∈ l
  | [], o => .inl rfl
  | e :: l, o => by
    rw [List.foldl_cons]
    rcases foldl_newer_mem l (newer o e) with h | h
    · rw [h]
      unfold newer
      split
      · exact .inr (by simp)
      · exact .inl rfl
    · exact .inr (by simp [h])
theorem newest_mem {l : List TEnvelope} (h : l ≠ []) : newestE l ∈ l := by
  cases l with
  | nil => exact absurd rfl h
  | cons e l =>
    rcases foldl_newer_mem (e :: l) e with h | h
    · rw [newestE, h]; simp
    · exact h
theorem newest_eq {l : List TEnvelope} (hlen : l.length ≤ 1000000) (hsm : ∀ e ∈ l, SmT e.Trust) : F_monitor_newest l = some (newestE l, !l.isEmpty, ()) := by
  unfold F_monitor_newest
  cases l with
  | nil => rfl
  | cons e l =>
    have h0 : decide ((((e :: l).length : Nat) : Int) = 0) = false := decide_eq_false (by simp; omega)
    have hi : idx (e :: l) 0 = some e := by simp [idx]
    simp only [h0, cond_false, hi, Option.bind_some, TTrust.eta, TEnvelope.eta, letJ_eq]
    suffices key : ∀ (k i : Nat) (o : TEnvelope), i + k = (e :: l).length → SmT o.Trust → loopO _ ((i : Int), o, ()) = some (((e :: l).drop i).foldl newer o, true, ()) from key (e :: l).length 0 e (by omega) (hsm e (by simp))
    intro k
    induction k with
    | zero =>
      intro i o hi ho
      have hd : decide ((i : Int) < (((e :: l).length : Nat) : Int)) = false := decide_eq_false (by omega)
      rw [List.drop_eq_nil_of_le (by omega)]
      refine loopO_inr ?_
      simp only [hd, cond_false, copyE ho, Option.bind_some, Option.map_some, TTrust.eta, TEnvelope.eta, List.foldl_nil]
    | succ k ih =>
      intro i o hi ho
      have hlt : i < (e :: l).length := by omega
      have hd : decide ((i : Int) < (((e :: l).length : Nat) : Int)) = true := decide_eq_true (by omega)
      have hw : addI .i64 (i : Int) 1 = ((i + 1 : Nat) : Int) := add64 (by omega) (by omega)
      have hx : idx (e :: l) (i : Int) = some (e :: l)[i] := by rw [idx_nat]; exact List.getElem?_eq_getElem hlt
      have hm := List.getElem_mem hlt
      have hn : SmT (newer o (e :: l)[i]).Trust := by
        unfold newer
        split
        · exact hsm _ hm
        · exact ho
      rw [List.drop_eq_getElem_cons hlt, List.foldl_cons]
      refine Eq.trans (loopO_inl ?_) (ih (i + 1) (newer o (e :: l)[i]) (by omega) hn)
      simp only [hd, cond_true, hx, Option.bind_some, hw]
      unfold newer
      by_cases hs : o.Seq < (e :: l)[i].Seq
      · rw [decide_eq_true hs, if_pos hs]; rfl
      · rw [decide_eq_false hs, if_neg hs]; rfl
end Go.Proofs.YtaebanabjdmgfaaGreat

set_option linter.unusedVariables false
set_option linter.unusedSimpArgs false
namespace Go.Proofs.YtaebanabjdmgfaaGreat
open Go.TQ

theorem all2 {α : Type} {s t : List α} (hl : s.length = t.length) (hn : s.length ≤ 1000000) {step : Int × Unit → Option ((Int × Unit) ⊕ Bool)}
    (h1 : ∀ (i : Nat) (h : i < s.length) (h' : i < t.length), decide ((i : Int) < ((s.length : Nat) : Int)) = true → idx s (i : Int) = some s[i] → idx t (i : Int) = some t[i] → addI .i64 (i : Int) 1 = ((i + 1 : Nat) : Int) → ∃ b : Bool, step ((i : Int), ()) = some (bif b then .inl (((i + 1 : Nat) : Int), ()) else .inr false) ∧ (b = true ↔ s[i] = t[i]))
    (h2 : decide (((s.length : Nat) : Int) < ((s.length : Nat) : Int)) = false → step (((s.length : Nat) : Int), ()) = some (.inr true)) : ∃ b, loopO step (0, ()) = some b ∧ (b = true ↔ s = t) := by
  suffices key : ∀ (k i : Nat), i + k = s.length → ∃ b, loopO step ((i : Int), ()) = some b ∧ (b = true ↔ s.drop i = t.drop i) from by simpa using key s.length 0 (by omega)
  intro k
  induction k with
  | zero =>
    intro i hi
    obtain rfl : i = s.length := by omega
    refine ⟨true, loopO_inr (h2 (decide_eq_false (Int.lt_irrefl _))), ?_⟩
    rw [List.drop_eq_nil_of_le (by omega), List.drop_eq_nil_of_le (by omega)]
    simp
  | succ k ih =>
    intro i hi
    have hi' : i < s.length := by omega
    have hi'' : i < t.length := by omega
    obtain ⟨b, h3, h4⟩ := h1 i hi' hi'' (decide_eq_true (by omega)) (by rw [idx_nat]; exact List.getElem?_eq_getElem hi') (by rw [idx_nat]; exact List.getElem?_eq_getElem hi'') (add64 (by omega) (by omega))
    rw [List.drop_eq_getElem_cons hi', List.drop_eq_getElem_cons hi'', List.cons.injEq]
    cases b with
    | false =>
      refine ⟨false, loopO_inr h3, ?_⟩
      simp only [Bool.false_eq_true, false_iff] at h4 ⊢
      exact fun h => h4 h.1
    | true =>
      obtain ⟨b, h5, h6⟩ := ih (i + 1) (by omega)
      refine ⟨b, (loopO_inl h3).trans h5, ?_⟩
      rw [h6]
      exact ⟨fun h => ⟨h4.1 rfl, h⟩, fun h => h.2⟩
theorem len_ne {α : Type} {s t : List α} (h : s.length ≠ t.length) : (false = true ↔ s = t) := by
  simp only [Bool.false_eq_true, false_iff]
  exact fun h1 => h (by rw [h1])
noncomputable def gInts (a0 : List Int) (a1 : List Int) : Option Bool :=
  bif (!decide (((List.length a0 : Nat) : Int) = ((List.length a1 : Nat) : Int))) then
  some false
  else
  loopO (fun (v1 : Int × Unit) =>
  bif (decide (v1.1 < ((List.length a0 : Nat) : Int))) then
  Option.bind (idx a0 v1.1) fun x2 =>
  Option.bind (idx a1 v1.1) fun x3 =>
  bif (!decide (x2 = x3)) then
  Option.map Sum.inr (some false)
  else
  some (Sum.inl ((addI .i64 v1.1 (1 : Int)), ()))
  else
  Option.map Sum.inr (some true)) ((0 : Int), ())
theorem intsG (s t : List Int) (h : s.length ≤ 1000000) : ∃ b, gInts s t = some b ∧ (b = true ↔ s = t) := by
  unfold gInts
  by_cases hl : s.length = t.length
  · rw [decide_eq_true (by omega : ((s.length : Nat) : Int) = ((t.length : Nat) : Int)), Bool.not_true, cond_false]
    refine all2 hl h (fun i hi hi' hd hx hy hw => ?_) (fun hd => ?_)
    · refine ⟨decide (s[i] = t[i]), ?_, by simp⟩
      simp only [hd, hx, hy, hw, cond_true, Option.bind_some]
      cases decide (s[i] = t[i]) <;> rfl
    · simp only [hd, cond_false]; rfl
  · rw [decide_eq_false (by omega : ¬ ((s.length : Nat) : Int) = ((t.length : Nat) : Int)), Bool.not_false, cond_true]
    exact ⟨false, rfl, len_ne hl⟩
theorem ints31 (s t : List Int) (h : s.length ≤ 1000000) : ∃ b, F_ref31_Ints s t = some b ∧ (b = true ↔ s = t) := intsG s t h
theorem intsE (s t : List Int) (h : s.length ≤ 1000000) : ∃ b, F_slices_Equal_int_int s t = some b ∧ (b = true ↔ s = t) := intsG s t h
theorem trust_ext (a b : TTrust) : a = b ↔ a.Threshold = b.Threshold ∧ a.Nodes = b.Nodes ∧ a.Inner = b.Inner := by
  cases a
  cases b
  simp
theorem I_eqT {n : Nat} : ∀ {a b : TTrust}, SizeOf.sizeOf a < n → SmT a → ∃ r, I_threshold_Same n (a, b, ()) = some r ∧ (r = true ↔ a = b) := by
  induction n with
  | zero => intro a b h; omega
  | succ n ih =>
    intro a b hs hm
    show ∃ r, B_threshold_Same (I_threshold_Same n) a b = some r ∧ (r = true ↔ a = b)
    have hl := hm.len
    have hns := hm.nodes
    obtain ⟨r, h1, h2⟩ := intsE a.Nodes b.Nodes hns
    rw [trust_ext]
    unfold B_threshold_Same
    by_cases ht : a.Threshold = b.Threshold
    · rw [decide_eq_true ht]
      simp only [cond_true, h1, Option.bind_some]
      cases r with
      | false =>
        simp only [cond_false, Option.bind_some]
        refine ⟨false, rfl, ?_⟩
        simp only [Bool.false_eq_true, false_iff] at h2 ⊢
        exact fun h => h2 h.2.1
      | true =>
        simp only [cond_true, Option.bind_some]
        have key : ∀ o : Option Bool, (∃ r, o = some r ∧ (r = true ↔ a.Inner = b.Inner)) → ∃ r, (Option.bind (Option.bind o fun r3 => some r3) fun b4 => some b4) = some r ∧ (r = true ↔ a.Threshold = b.Threshold ∧ a.Nodes = b.Nodes ∧ a.Inner = b.Inner) := by
          rintro o ⟨r, rfl, h4⟩
          exact ⟨r, rfl, by rw [h4]; exact ⟨fun h => ⟨ht, h2.1 rfl, h⟩, fun h => h.2.2⟩⟩
        refine key _ ?_
        unfold B_slices_EqualFunc_api_Trust_api_Trust_api_Trust_api_Trust_c79
        by_cases hi : a.Inner.length = b.Inner.length
        · rw [decide_eq_true (by omega : ((a.Inner.length : Nat) : Int) = ((b.Inner.length : Nat) : Int)), Bool.not_true, cond_false]
          refine all2 hi hl (fun i hi hi' hd hx hy hw => ?_) (fun hd => ?_)
          · have hu := List.getElem_mem hi
            obtain ⟨r, h3, h4⟩ := ih (a := a.Inner[i]) (b := b.Inner[i]) (by have := inner_lt hu; omega) (hm.inner _ hu)
            refine ⟨r, ?_, h4⟩
            simp only [hd, hx, hy, hw, cond_true, Option.bind_some, TTrust.eta, h3]
            cases r <;> rfl
          · simp only [hd, cond_false]; rfl
        · rw [decide_eq_false (by omega : ¬ ((a.Inner.length : Nat) : Int) = ((b.Inner.length : Nat) : Int)), Bool.not_false, cond_true]
          exact ⟨false, rfl, len_ne hi⟩
    · rw [decide_eq_false ht]
      refine ⟨false, rfl, ?_⟩
      simp only [Bool.false_eq_true, false_iff]
      exact fun h => ht h.1
theorem eqT {a b : TTrust} (h : SmT a) : ∃ r, F_threshold_Same a b = some r ∧ (r = true ↔ a = b) := I_eqT (by omega) h
theorem eq2_iff (a b : Int) (s t : ByteArray) : eq2 false a b s t = (decide (a = b) && decide (s = t)) := by
  simp
theorem ballot_ext (a b : TBallot) : a = b ↔ a.Counter = b.Counter ∧ a.Value = b.Value := by
  cases a
  cases b
  simp
theorem env_ext (a b : TEnvelope) : a = b ↔ a.Node = b.Node ∧ a.Slot = b.Slot ∧ a.Seq = b.Seq ∧ a.Trust = b.Trust ∧ a.Kind = b.Kind ∧ a.Ballot = b.Ballot ∧ a.Prepared = b.Prepared ∧ a.Prime = b.Prime ∧ a.Low = b.Low ∧ a.High = b.High := by
  cases a
  cases b
  simp
theorem cnd_and (a b : Bool) : (bif a then some b else some false) = some (a && b) := by cases a <;> rfl
theorem eqM {a b : TEnvelope} (h : SmT a.Trust) : ∃ r, F_monitor_equal a b = some r ∧ (r = true ↔ a = b) := by
  obtain ⟨r, h1, h2⟩ := eqT (a := a.Trust) (b := b.Trust) h
  refine ⟨_, by simp only [F_monitor_equal, TTrust.eta, h1, Option.bind_some, cnd_and, eq2_iff]; rfl, ?_⟩
  rw [env_ext]
  simp only [Bool.and_eq_true, decide_eq_true_eq, h2, ballot_ext]
  constructor
  · rintro ⟨⟨⟨⟨⟨⟨⟨⟨⟨h4, h1⟩, h2⟩, h3⟩, h5⟩, h6⟩, h7⟩, h8⟩, h9⟩, h10⟩
    exact ⟨h1, h2, h3, h4, h5, h6, h7, h8, h9, h10⟩
  · rintro ⟨h1, h2, h3, h4, h5, h6, h7, h8, h9, h10⟩
    exact ⟨⟨⟨⟨⟨⟨⟨⟨⟨h4, h1⟩, h2⟩, h3⟩, h5⟩, h6⟩, h7⟩, h8⟩, h9⟩, h10⟩
end Go.Proofs.YtaebanabjdmgfaaGreat

set_option linter.unusedVariables false
set_option linter.unusedSimpArgs false
namespace Go.Proofs.YtaebanabjdmgfaaGreat
open Go.TQ

theorem idx_mem {α : Type} {l : List α} {i : Nat} (h : i < l.length) : ∃ x ∈ l, idx l (i : Int) = some x := ⟨l[i], List.getElem_mem h, by rw [idx_nat]; exact List.getElem?_eq_getElem h⟩
theorem Pick_ok {s : TSrc} (h : OkS s) {l : List Int} (h1 : 1 ≤ l.length) (h2 : l.length ≤ 1000) : Yd (F_play_Src_Pick s l) fun p => OkS p.2 := by
  unfold F_play_Src_Pick
  refine (N_ok h (by omega)).bind fun p ⟨a1, a2, a3, _⟩ => ?_
  have a4 := a3 (by omega)
  obtain ⟨x, hx, hi⟩ := idx_mem (l := l) (i := p.1.toNat) (by omega)
  rw [show ((p.1.toNat : Nat) : Int) = p.1 by omega] at hi
  rw [hi, Option.bind_some]
  exact Yd.some a1
theorem Ballot_ok {s : TSrc} (h : OkS s) : Yd (F_play_Src_Ballot s) fun p => OkS p.2 := by
  unfold F_play_Src_Ballot
  refine (Pick_ok h (by simp) (by simp)).bind fun p a1 => ?_
  refine (Value_ok a1).bind fun q ⟨b1, _⟩ => ?_
  exact Yd.some b1
/-- rounds that draw -/
theorem Odd_ok {s : TSrc} (h : OkS s) : Yd (F_play_Src_Odd s) fun p => OkS p.2 := by
  unfold F_play_Src_Odd
  exact (Pick_ok h (by simp) (by simp)).bind fun p a1 => Yd.some a1
theorem Bent_ok {s : TSrc} (h : OkS s) {e : TEnvelope} (he : SmT e.Trust) : Yd (F_play_Src_BentEnvelope s e) fun p => OkS p.2 ∧ SmT p.1.Trust := by
  have hk : ∀ t : Int, SmT (TTrust.mk t e.Trust.Nodes e.Trust.Inner) := fun t => .mk _ he.nodes he.len he.inner
  unfold F_play_Src_BentEnvelope
  simp only [TTrust.eta, TEnvelope.eta]
  refine Yd.join (fun v => OkS v.1 ∧ SmT v.2.1.Trust) (fun v ⟨g1, g2⟩ => Yd.some ⟨g1, g2⟩) fun j2 hj => ?_
  refine (N_ok h (by omega)).bind fun p3 ⟨a1, _⟩ => ?_
  refine Yd.cond (fun _ => (Pick_ok a1 (by simp) (by simp)).bind fun p b => hj _ ⟨b, he⟩) fun _ => ?_
  refine Yd.cond (fun _ => (Pick_ok a1 (by simp) (by simp)).bind fun p b => hj _ ⟨b, he⟩) fun _ => ?_
  refine Yd.cond (fun _ => (Odd_ok a1).bind fun p b => hj _ ⟨b, he⟩) fun _ => ?_
  refine Yd.cond (fun _ => (Pick_ok a1 (by simp) (by simp)).bind fun p b => hj _ ⟨b, hk _⟩) fun _ => ?_
  refine Yd.cond (fun _ => (Range_ok a1 (by omega) (by omega) (by omega)).bind fun p b => hj _ ⟨b.1, he⟩) fun _ => ?_
  refine Yd.cond (fun _ => (Odd_ok a1).bind fun p b => (Text_ok b (by simp) (by simp)).bind fun q c => hj _ ⟨c.1, he⟩) fun _ => ?_
  refine Yd.cond (fun _ => (Odd_ok a1).bind fun p b => (Text_ok b (by simp) (by simp)).bind fun q c => hj _ ⟨c.1, he⟩) fun _ => ?_
  refine Yd.cond (fun _ => (Ballot_ok a1).bind fun p b => hj _ ⟨b, he⟩) fun _ => ?_
  refine Yd.cond (fun _ => (Odd_ok a1).bind fun p b => hj _ ⟨b, he⟩) fun _ => ?_
  exact (Odd_ok a1).bind fun p b => hj _ ⟨b, he⟩

/-! ### the sightings -/
theorem N_pos {s : TSrc} (h : OkS s) {n : Int} (h1 : 1 ≤ n) (hn : n ≤ 1000000000) : Yd (F_play_Src_N s n) fun p => OkS p.2 ∧ 0 ≤ p.1 ∧ p.1 < n :=
  (N_ok h hn).mono fun p a => ⟨a.1, a.2.1, a.2.2.1 h1⟩
theorem Range_in {s : TSrc} (h : OkS s) {a b : Int} (h1 : 0 ≤ a) (h2 : a ≤ b) (h3 : b ≤ 1000000) : Yd (F_play_Src_Range s a b) fun p => OkS p.2 ∧ a ≤ p.1 ∧ p.1 ≤ b :=
  (Range_ok h h1 (by omega) h3).mono fun p a => ⟨a.1, a.2.1, a.2.2.1 h2⟩
theorem sightings_ok {s : TSrc} (h : OkS s) : Yd (F_law44_sightings s) fun p => OkS p.2 ∧ SmS p.1 ∧ p.1.length ≤ 8 := by
  unfold F_law44_sightings
  refine (N_pos h (by omega) (by omega)).bind fun p1 ⟨a1, a2, a3⟩ => ?_
  suffices key : ∀ (m : Nat) (i : Int) (l : List TSighting) (s : TSrc), i = m → l.length + m ≤ 8 → (∀ x ∈ l, SmT x.Letter.Envelope.Trust) → OkS s → Yd (loopO _ (i, l, s, ())) fun (p : List TSighting × TSrc) => OkS p.2 ∧ SmS p.1 ∧ p.1.length ≤ 8 from key p1.1.toNat p1.1 [] p1.2 (by omega) (by simp; omega) (fun _ h => by cases h) a1
  intro m
  induction m with
  | zero =>
    intro i l s hi hl hs ho
    have hd : decide ((0 : Int) < i) = false := decide_eq_false (by omega)
    refine Yd.loop ?_
    simp only [hd, cond_false, Option.map_some]
    exact Yd.some ⟨ho, ⟨by show l.length ≤ 12; omega, hs⟩, by show l.length ≤ 8; omega⟩
  | succ m ih =>
    intro i l s hi hl hs ho
    have hd : decide ((0 : Int) < i) = true := decide_eq_true (by omega)
    have hw : subI .i64 i 1 = i - 1 := sub64 (by omega) (by omega)
    refine Yd.loop (Yd.mono (p := fun y => match y with
      | .inl v => v.1 = (m : Int) ∧ v.2.1.length + m ≤ 8 ∧ (∀ x ∈ v.2.1, SmT x.Letter.Envelope.Trust) ∧ OkS v.2.2.1
      | .inr r => OkS r.2 ∧ SmS r.1 ∧ r.1.length ≤ 8) ?_ (fun y hy => by
        rcases y with ⟨v1, v2, v3, _⟩ | r
        · exact ih v1 v2 v3 hy.1 hy.2.1 hy.2.2.1 hy.2.2.2
        · exact hy))
    simp only [hd, hw, cond_true, TTrust.eta, TEnvelope.eta, TNomination.eta, TLetter.eta, TSighting.eta]
    refine (N_pos ho (by omega) (by omega)).bind fun p3 ⟨b1, b2, b3⟩ => ?_
    refine (Range_in b1 (by omega) (by omega) (by omega)).bind fun p4 ⟨c1, c2, c3⟩ => ?_
    refine (Envelope_ok c1 (n := 4) b2 (by omega) c2 (by omega) (by omega) (by omega)).bind fun p5 ⟨d1, d2⟩ => ?_
    have hsm := d2.trust.sm
    refine (Range_in d1 (by omega) (by omega) (by omega)).bind fun p6 ⟨e1, e2, e3⟩ => ?_
    refine Yd.join (fun v => OkS v.1 ∧ SmT v.2.1.Letter.Envelope.Trust) (fun v ⟨g1, g2⟩ => ?_) fun j8 hj => ?_
    · rw [lenOk_small (by simp; omega), cond_true]
      refine Yd.some ⟨by show i - 1 = (m : Int); omega, by simp; omega, fun x hx => ?_, g1⟩
      rcases List.mem_append.1 hx with hx | hx
      · exact hs x hx
      · rw [List.mem_singleton] at hx
        rw [hx]; exact g2
    · refine (N_pos e1 (by omega) (by omega)).bind fun p9 ⟨f1, _, _⟩ => ?_
      refine Yd.cond (fun _ => (N_pos f1 (by omega) (by omega)).bind fun p10 ⟨g1, _, _⟩ => hj _ ⟨g1, hsm⟩) fun _ => ?_
      refine Yd.cond (fun _ => hj _ ⟨f1, hsm⟩) fun _ => ?_
      refine Yd.cond (fun _ => (Bent_ok f1 (by exact hsm)).bind fun p11 ⟨g1, g2⟩ => hj _ ⟨g1, g2⟩) fun _ => ?_
      exact hj _ ⟨f1, hsm⟩

/-! ### finding -/
def ixI {α : Type} (p : α → Bool) (l : List α) : Int := match l.findIdx? p with
  | some i => (i : Int)
  | none => -1
theorem ixI_pos {α : Type} (p : α → Bool) (l : List α) : decide (0 ≤ ixI p l) = l.any p := by
  unfold ixI
  cases h : l.findIdx? p with
  | none =>
    rw [List.findIdx?_eq_none_iff] at h
    rw [decide_eq_false (by show ¬ (0 : Int) ≤ -1; omega), eq_comm, List.any_eq_false]
    intro x hx
    rw [h x hx]; simp
  | some i =>
    rw [decide_eq_true (by show (0 : Int) ≤ ((i : Nat) : Int); omega), eq_comm, List.any_eq_true]
    rw [List.findIdx?_eq_some_iff_getElem] at h
    obtain ⟨h1, h2, _⟩ := h
    exact ⟨_, List.getElem_mem h1, h2⟩
theorem ix_loop {α : Type} {l : List α} (hn : l.length ≤ 1000000) (p : α → Bool) {step : Int × Unit → Option ((Int × Unit) ⊕ Int)}
    (h1 : ∀ (i : Nat) (h : i < l.length), decide ((i : Int) < ((l.length : Nat) : Int)) = true → idx l (i : Int) = some l[i] → addI .i64 (i : Int) 1 = ((i + 1 : Nat) : Int) → step ((i : Int), ()) = some (bif p l[i] then .inr (i : Int) else .inl (((i + 1 : Nat) : Int), ())))
    (h2 : decide (((l.length : Nat) : Int) < ((l.length : Nat) : Int)) = false → step (((l.length : Nat) : Int), ()) = some (.inr (-1))) : loopO step (0, ()) = some (ixI p l) := by
  suffices key : ∀ (k i : Nat), i + k = l.length → loopO step ((i : Int), ()) = some (match (l.drop i).findIdx? p with | some j => ((i + j : Nat) : Int) | none => -1) from by
    have := key l.length 0 (by omega)
    simpa [ixI] using this
  intro k
  induction k with
  | zero =>
    intro i hi
    obtain rfl : i = l.length := by omega
    rw [List.drop_eq_nil_of_le (by omega)]
    exact loopO_inr (h2 (decide_eq_false (Int.lt_irrefl _)))
  | succ k ih =>
    intro i hi
    have hi' : i < l.length := by omega
    have h3 := h1 i hi' (decide_eq_true (by omega)) (by rw [idx_nat]; exact List.getElem?_eq_getElem hi') (add64 (by omega) (by omega))
    rw [List.drop_eq_getElem_cons hi', List.findIdx?_cons]
    cases hp : p l[i] with
    | true =>
      rw [hp] at h3
      simp only [if_true, Nat.add_zero]
      exact loopO_inr h3
    | false =>
      rw [hp] at h3
      simp only [Bool.false_eq_true, if_false]
      rw [loopO_inl h3, ih (i + 1) (by omega)]
      cases (l.drop (i + 1)).findIdx? p with
      | none => rfl
      | some j =>
        simp only [Option.map_some]
        rw [show i + (j + 1) = i + 1 + j by omega]

/-! ### two faces -/
noncomputable def eqE (a b : TEnvelope) : Bool := @decide (a = b) (Classical.propDecidable _)
theorem eqE_iff {a b : TEnvelope} : eqE a b = true ↔ a = b := by
  unfold eqE
  exact @decide_eq_true_iff _ (Classical.propDecidable _)
noncomputable def face (a b : TEnvelope) : Bool := decide (a.Seq = b.Seq) && !eqE a b
noncomputable def two (es : List TEnvelope) : Bool := es.any fun a => es.any fun b => face a b
theorem two_iff {es : List TEnvelope} : two es = true ↔ ∃ a ∈ es, ∃ b ∈ es, a.Seq = b.Seq ∧ a ≠ b := by
  simp only [two, face, List.any_eq_true, Bool.and_eq_true, decide_eq_true_eq, Bool.not_eq_true', ← Bool.not_eq_true, eqE_iff]
theorem face_eq {a b : TEnvelope} (h : SmT a.Trust) : F_monitor_TwoFaced_1_1_1 b a = some (face a b) := by
  obtain ⟨r, h1, h2⟩ := eqM (a := a) (b := b) h
  have : r = eqE a b := by rw [Bool.eq_iff_iff, h2, eqE_iff]
  subst this
  simp only [F_monitor_TwoFaced_1_1_1, TTrust.eta, TEnvelope.eta, h1, Option.bind_some, face]
  cases decide (a.Seq = b.Seq) <;> rfl
theorem faces_eq {a : TEnvelope} {es : List TEnvelope} (hn : es.length ≤ 1000000) (h : SmT a.Trust) : F_monitor_TwoFaced_1_1 a es = some (es.any fun b => face a b) := by
  have : F_slices_IndexFunc_api_Envelope_api_Envelope_c49 es a = some (ixI (fun b => face a b) es) := by
    unfold F_slices_IndexFunc_api_Envelope_api_Envelope_c49
    refine ix_loop hn _ (fun i hi hd hx hw => ?_) (fun hd => ?_)
    · simp only [hd, hx, hw, cond_true, Option.bind_some, TTrust.eta, TEnvelope.eta, face_eq h]
      cases face a es[i] <;> rfl
    · simp only [hd, cond_false]; rfl
  simp only [F_monitor_TwoFaced_1_1, F_slices_ContainsFunc_api_Envelope_api_Envelope_c49, TTrust.eta, TEnvelope.eta, this, Option.bind_some, ixI_pos]
theorem two_eq {es : List TEnvelope} (hn : es.length ≤ 1000000) (h : ∀ e ∈ es, SmT e.Trust) : F_monitor_TwoFaced_1 es = some (ByteArray.mk #[], two es, ()) := by
  have : F_slices_IndexFunc_api_Envelope_api_Envelope_c48 es es = some (ixI (fun a => es.any fun b => face a b) es) := by
    unfold F_slices_IndexFunc_api_Envelope_api_Envelope_c48
    refine ix_loop hn _ (fun i hi hd hx hw => ?_) (fun hd => ?_)
    · simp only [hd, hx, hw, cond_true, Option.bind_some, TTrust.eta, TEnvelope.eta, faces_eq hn (h _ (List.getElem_mem hi))]
      cases es.any fun b => face es[i] b <;> rfl
    · simp only [hd, cond_false]; rfl
  simp only [F_monitor_TwoFaced_1, F_slices_ContainsFunc_api_Envelope_api_Envelope_c48, this, Option.bind_some, ixI_pos]
  rfl

/-! ### who has decided -/
noncomputable def ext (es : List TEnvelope) : Option ByteArray := (es.find? fun e => decide (e.Kind = 3)).map fun e => e.Ballot.Value
theorem ext_eq {es : List TEnvelope} (hn : es.length ≤ 1000000) : F_monitor_External_1 es = some ((ext es).getD (ByteArray.mk #[]), (ext es).isSome, ()) := by
  have : F_slices_IndexFunc_api_Envelope_api_Envelope_c54 es = some (ixI (fun e => decide (e.Kind = 3)) es) := by
    unfold F_slices_IndexFunc_api_Envelope_api_Envelope_c54
    refine ix_loop hn _ (fun i hi hd hx hw => ?_) (fun hd => ?_)
    · simp only [hd, hx, hw, cond_true, Option.bind_some, F_monitor_External_1_1]
      cases decide (es[i].Kind = 3) <;> rfl
    · simp only [hd, cond_false]; rfl
  simp only [F_monitor_External_1, this, Option.bind_some, ext]
  unfold ixI
  cases h : es.findIdx? fun e => decide (e.Kind = 3) with
  | none =>
    have h2 : es.find? (fun e => decide (e.Kind = 3)) = none := by
      rw [List.find?_eq_none]
      rw [List.findIdx?_eq_none_iff] at h
      exact fun x hx => by simpa using h x hx
    rw [h2]
    rfl
  | some i =>
    have hx := h
    rw [List.findIdx?_eq_some_iff_getElem] at h
    obtain ⟨h1, h2, h3⟩ := h
    have h4 : es.find? (fun e => decide (e.Kind = 3)) = some es[i] := by
      rw [List.find?_eq_some_iff_getElem]
      exact ⟨h2, i, h1, rfl, fun j hj => by simpa using h3 j hj⟩
    have hd : decide ((i : Int) < 0) = false := decide_eq_false (by omega)
    have hi : idx es (i : Int) = some es[i] := by rw [idx_nat]; exact List.getElem?_eq_getElem h1
    simp only [h4, hd, hi, cond_false, Option.bind_some, Option.map_some, Option.getD_some, Option.isSome_some]

/-! ### looking at each place -/
noncomputable def gEach (V : List TEnvelope → Option (ByteArray × Bool × Unit)) (G : List (TPlace × List TEnvelope)) (ps : List TPlace) (kind : Int) : Option (List TFinding) :=
  loopO (fun (v2 : Int × (List TFinding) × Unit) =>
  bif (decide (v2.1 < ((List.length ps : Nat) : Int))) then
  letJ (fun (v3 : (List TFinding) × Unit) =>
  some (Sum.inl ((addI .i64 v2.1 (1 : Int)), v3.1, ()))) fun j4 =>
  Option.bind (idx ps v2.1) fun x5 =>
  Option.bind (V (mget (fun p : TPlace => decide (x5.node = p.node) && decide (x5.slot = p.slot)) G ([] : List TEnvelope))) fun r6 =>
  bif r6.2.1 then
  bif lenOk 64 (List.length v2.2.1 + List.length [(TFinding.mk x5.node x5.slot kind r6.1 ([] : List Int))]) then
  j4 ((v2.2.1 ++ [(TFinding.mk x5.node x5.slot kind r6.1 ([] : List Int))]), ())
  else none
  else
  j4 (v2.2.1, ())
  else
  Option.map Sum.inr (some v2.2.1)) ((0 : Int), ([] : List TFinding), ())
theorem each46 (k : Int) (l : List TSighting) : F_monitor_look_each_c46 k l = Option.bind (F_monitor_files l) fun r1 => gEach F_monitor_TwoFaced_1 r1.1 r1.2.1 k := rfl
theorem each52 (k : Int) (l : List TSighting) : F_monitor_look_each_c52 k l = Option.bind (F_monitor_files l) fun r1 => gEach F_monitor_External_1 r1.1 r1.2.1 k := rfl
/-- the envelopes of a place -/
noncomputable def atP (l : List TSighting) (k : TPlace) : List TEnvelope := (cs l).filter fun e => eqp k (pl e)
def fnd (kind : Int) (v : List TEnvelope → Option ByteArray) (es : TPlace → List TEnvelope) (k : TPlace) : Option TFinding := (v (es k)).map fun w => TFinding.mk k.node k.slot kind w []
theorem gEach_ok {V : List TEnvelope → Option (ByteArray × Bool × Unit)} {v : List TEnvelope → Option ByteArray} {es : TPlace → List TEnvelope} {G : List (TPlace × List TEnvelope)} {ps : List TPlace} {kind : Int}
    (hg : ∀ k, mget (eqp k) G [] = es k) (hV : ∀ k, ∃ w, V (es k) = some (w, (v (es k)).isSome, ()) ∧ ∀ x, v (es k) = some x → x = w) (hn : ps.length ≤ 12) : gEach V G ps kind = some (ps.filterMap (fnd kind v es)) := by
  unfold gEach
  suffices key : ∀ (k i : Nat) (o : List TFinding), i + k = ps.length → o.length ≤ i → loopO _ ((i : Int), o, ()) = some (o ++ (ps.drop i).filterMap (fnd kind v es)) from by
    have := key ps.length 0 [] (by omega) (by simp)
    simpa using this
  intro k
  induction k with
  | zero =>
    intro i o hi ho
    have hd : decide ((i : Int) < ((ps.length : Nat) : Int)) = false := decide_eq_false (by omega)
    rw [List.drop_eq_nil_of_le (by omega)]
    refine loopO_inr ?_
    simp only [hd, cond_false, List.filterMap_nil, List.append_nil, Option.map_some]
  | succ k ih =>
    intro i o hi ho
    have hlt : i < ps.length := by omega
    have hd : decide ((i : Int) < ((ps.length : Nat) : Int)) = true := decide_eq_true (by omega)
    have hw : addI .i64 (i : Int) 1 = ((i + 1 : Nat) : Int) := add64 (by omega) (by omega)
    have hx : idx ps (i : Int) = some ps[i] := by rw [idx_nat]; exact List.getElem?_eq_getElem hlt
    have hm : mget (fun p : TPlace => decide (ps[i].node = p.node) && decide (ps[i].slot = p.slot)) G ([] : List TEnvelope) = es ps[i] := hg ps[i]
    obtain ⟨w, h1, h2⟩ := hV ps[i]
    rw [List.drop_eq_getElem_cons hlt, List.filterMap_cons]
    cases hv : v (es ps[i]) with
    | none =>
      rw [hv] at h1
      have hf : fnd kind v es ps[i] = none := by simp only [fnd, hv, Option.map_none]
      rw [hf]
      refine Eq.trans (loopO_inl ?_) (ih (i + 1) o (by omega) (by omega))
      simp only [hd, hx, hw, hm, h1, cond_true, cond_false, letJ_eq, Option.bind_some, Option.isSome_none]
    | some x =>
      rw [hv] at h1
      have hf : fnd kind v es ps[i] = some (TFinding.mk ps[i].node ps[i].slot kind w []) := by simp only [fnd, hv, Option.map_some, h2 x hv]
      rw [hf]
      rw [show o ++ (TFinding.mk ps[i].node ps[i].slot kind w []) :: (ps.drop (i + 1)).filterMap (fnd kind v es) = (o ++ [TFinding.mk ps[i].node ps[i].slot kind w []]) ++ (ps.drop (i + 1)).filterMap (fnd kind v es) by simp]
      refine Eq.trans (loopO_inl ?_) (ih (i + 1) _ (by omega) (by simp; omega))
      simp only [hd, hx, hw, hm, h1, cond_true, letJ_eq, Option.bind_some, Option.isSome_some]
      rw [lenOk_small (by simp; omega), cond_true]
/-- places ascending, and no others -/
structure Plc (l : List TSighting) (ps : List TPlace) : Prop where
  asc : ps.Pairwise (fun a b => lessP a b = true)
  m : ∀ k, k ∈ ps ↔ ∃ e ∈ cs l, pl e = k
noncomputable def vTwo (es : List TEnvelope) : Option ByteArray := if two es = true then some (ByteArray.mk #[]) else none
theorem atP_sm {l : List TSighting} (h : SmS l) (k : TPlace) : (atP l k).length ≤ 1000000 ∧ ∀ e ∈ atP l k, SmT e.Trust := by
  have hcl : (cs l).length ≤ l.length := by simp only [cs, List.length_map]; exact List.length_filter_le _ _
  have hf := List.length_filter_le (fun e => eqp k (pl e)) (cs l)
  have hlen := h.len
  exact ⟨by unfold atP; omega, fun e he => cs_sm h e (List.mem_filter.1 he).1⟩
theorem TwoFaced_eq {l : List TSighting} (h : SmS l) : ∃ ps, Plc l ps ∧ F_monitor_TwoFaced l = some (ps.filterMap (fnd 3 vTwo (atP l))) := by
  obtain ⟨G, ps, h1, h2, h3, h4, h5⟩ := files_ok h
  refine ⟨ps, ⟨h3, h4⟩, ?_⟩
  have h6 : gEach F_monitor_TwoFaced_1 G ps 3 = some (ps.filterMap (fnd 3 vTwo (atP l))) := gEach_ok h2 (fun k => by
    obtain ⟨h7, h8⟩ := atP_sm h k
    refine ⟨ByteArray.mk #[], ?_, fun x hx => ?_⟩
    · rw [two_eq h7 h8]
      unfold vTwo
      cases two (atP l k) <;> rfl
    · unfold vTwo at hx
      split at hx
      · exact (Option.some.inj hx).symm
      · cases hx) h5
  simp only [F_monitor_TwoFaced, each46, h1, Option.bind_some, h6]
theorem External_eq {l : List TSighting} (h : SmS l) : ∃ ps, Plc l ps ∧ F_monitor_External l = some (ps.filterMap (fnd 1 ext (atP l))) := by
  obtain ⟨G, ps, h1, h2, h3, h4, h5⟩ := files_ok h
  refine ⟨ps, ⟨h3, h4⟩, ?_⟩
  have h6 : gEach F_monitor_External_1 G ps 1 = some (ps.filterMap (fnd 1 ext (atP l))) := gEach_ok h2 (fun k => by
    obtain ⟨h7, h8⟩ := atP_sm h k
    exact ⟨_, ext_eq h7, fun x hx => by rw [hx]; rfl⟩) h5
  simp only [F_monitor_External, each52, h1, Option.bind_some, h6]
theorem lessP_irrefl (a : TPlace) : lessP a a = false := by
  rw [← Bool.not_eq_true, lessP_iff]
  omega
theorem lessP_asymm {a b : TPlace} (h : lessP a b = true) : lessP b a = false := by
  rw [lessP_iff] at h
  rw [← Bool.not_eq_true, lessP_iff]
  omega
/-- two ascending lists of the same places are one -/
theorem asc_unique : ∀ {s t : List TPlace}, s.Pairwise (fun a b => lessP a b = true) → t.Pairwise (fun a b => lessP a b = true) → (∀ k, k ∈ s ↔ k ∈ t) → s = t
  | [], [], _, _, _ => rfl
  | [], b :: t, _, _, h => absurd ((h b).2 (by simp)) (by simp)
  | a :: s, [], _, _, h => absurd ((h a).1 (by simp)) (by simp)
  | a :: s, b :: t, hs, ht, h => by
    rw [List.pairwise_cons] at hs ht
    have hab : a = b := by
      rcases List.mem_cons.1 ((h a).1 (by simp)) with h1 | h1
      · exact h1
      · rcases List.mem_cons.1 ((h b).2 (by simp)) with h2 | h2
        · exact h2.symm
        · have := lessP_asymm (ht.1 a h1)
          rw [hs.1 b h2] at this
          cases this
    subst hab
    rw [asc_unique hs.2 ht.2 fun k => ?_]
    constructor
    · intro hk
      rcases List.mem_cons.1 ((h k).1 (by simp [hk])) with h1 | h1
      · subst h1
        have := hs.1 k hk
        rw [lessP_irrefl] at this
        cases this
      · exact h1
    · intro hk
      rcases List.mem_cons.1 ((h k).2 (by simp [hk])) with h1 | h1
      · subst h1
        have := ht.1 k hk
        rw [lessP_irrefl] at this
        cases this
      · exact h1
end Go.Proofs.YtaebanabjdmgfaaGreat

set_option linter.unusedVariables false
set_option linter.unusedSimpArgs false
namespace Go.Proofs.YtaebanabjdmgfaaGreat
open Go.TQ

theorem Yd.next {σ ρ : Type} {step : σ → Option (σ ⊕ ρ)} {s s' : σ} {p : ρ → Prop} (h : step s = Option.some (.inl s')) (k : Yd (loopO step s') p) : Yd (loopO step s) p := by rw [loopO_inl h]; exact k
theorem Yd.last {σ ρ : Type} {step : σ → Option (σ ⊕ ρ)} {s : σ} {r : ρ} {p : ρ → Prop} (h : step s = Option.some (.inr r)) (k : p r) : Yd (loopO step s) p := by rw [loopO_inr h]; exact Yd.some k

/-! ### the size of a set -/
def pc (n : Nat) : Nat := (List.range 10).countP n.testBit
set_option maxRecDepth 100000 in
theorem ones_eq : ∀ n, n < 1024 → F_math_bits_OnesCount64 ((n : Nat) : Int) = some ((pc n : Nat) : Int) := by decide +kernel
set_option maxRecDepth 100000 in
theorem pc_sub : ∀ n, n < 1024 → ∀ k, k < 10 → n.testBit k = true → pc (n - 2 ^ k) < pc n := by decide +kernel
theorem rank_eq {n : Nat} (h : n < 1024) : F_nodeset_rank (n : Int) = some ((pc n : Nat) : Int) := by
  simp only [F_nodeset_rank, F_nodeset_Size, validS_nat h, Option.bind_some, Bool.not_true, cond_false, F_math_bits_OnesCount, convI_u64 (n := n) (by omega), ones_eq n h]
def rk (a : Int) : Int := if 0 ≤ a ∧ a < 1024 then (pc a.toNat : Nat) else -1
theorem rk_eq (a : Int) : F_nodeset_rank a = some (rk a) := by
  unfold rk
  by_cases h : 0 ≤ a ∧ a < 1024
  · rw [if_pos h]
    have := rank_eq (n := a.toNat) (by omega)
    rwa [Int.toNat_of_nonneg h.1] at this
  · rw [if_neg h]
    have hv : F_nodeset_Valid a = some false := by
      rw [below10]
      simp
      omega
    simp only [F_nodeset_rank, hv, Option.bind_some, Bool.not_false, cond_true]
def cmpN (a b : Int) : Int := if cmpI (rk a) (rk b) = 0 then cmpI a b else cmpI (rk a) (rk b)
theorem ncmp_eq (a b : Int) : F_nodeset_Compare a b = some (cmpN a b) := by
  simp only [F_nodeset_Compare, rk_eq, Option.bind_some, F_cmp_Compare_int_eq, F_cmp_Or_int_two, cmpN]
theorem cmpN_neg {a b : Nat} (ha : a < 1024) (hb : b < 1024) (h : pc a < pc b) : cmpN (a : Int) (b : Int) < 0 := by
  unfold cmpN rk
  rw [if_pos (by omega : (0 : Int) ≤ (a : Int) ∧ (a : Int) < 1024), if_pos (by omega : (0 : Int) ≤ (b : Int) ∧ (b : Int) < 1024), Int.toNat_natCast, Int.toNat_natCast]
  have h1 : cmpI ((pc a : Nat) : Int) ((pc b : Nat) : Int) < 0 := (cmpI_neg _ _).2 (by omega)
  rw [if_neg (by omega)]
  exact h1
theorem cmpN_iff (a b : Int) : cmpN a b < 0 ↔ rk a < rk b ∨ (rk a = rk b ∧ a < b) := by
  unfold cmpN
  by_cases h : rk a = rk b
  · rw [if_pos ((cmpI_zero _ _).2 h), cmpI_neg]
    omega
  · rw [if_neg (fun h1 => h ((cmpI_zero _ _).1 h1)), cmpI_neg]
    omega
theorem swo_N : SWO fun a b : Int => decide (cmpN a b < 0) := by
  refine ⟨fun x y h => ?_, fun x y z h1 h2 => ?_⟩
  · rw [decide_eq_true_eq, cmpN_iff] at h
    rw [decide_eq_false_iff_not, cmpN_iff]
    omega
  · rw [decide_eq_false_iff_not, cmpN_iff] at *
    omega

/-! ### parts of a set -/
/-- each member of a is a member of b -/
def sbN (a b : Nat) : Prop := ∀ k, a.testBit k = true → b.testBit k = true
theorem sbN.refl (a : Nat) : sbN a a := fun _ h => h
theorem sbN.trans {a b c : Nat} (h : sbN a b) (h' : sbN b c) : sbN a c := fun k hk => h' k (h k hk)
theorem sbN_le {a b : Nat} (h : sbN a b) : a ≤ b := by
  have : a &&& b = a := nat_ext fun k => by
    rw [Nat.testBit_and]
    cases ha : a.testBit k with
    | false => rfl
    | true => rw [h k ha]; rfl
  rw [← this]
  exact Nat.and_le_right
theorem andNot_zero {a b : Nat} (ha : a < 2 ^ 62) (hb : b < 2 ^ 62) : decide (andNotI .i64 (a : Int) (b : Int) = 0) = true ↔ sbN a b := by
  obtain ⟨c, h1, h2, h3⟩ := andNotI_nat a b ha hb
  rw [h1, decide_eq_true_eq]
  constructor
  · intro h k hk
    have h0 : c = 0 := by omega
    have := h3 k
    rw [h0, Nat.zero_testBit, hk, Bool.true_and] at this
    cases hb : b.testBit k with
    | true => rfl
    | false => rw [hb] at this; cases this
  · intro h
    have : c = 0 := nat_ext fun k => by
      rw [h3, Nat.zero_testBit]
      cases hk : a.testBit k with
      | false => rfl
      | true => rw [h k hk]; rfl
    omega
/-- all parts of a set, any order -/
structure Parts (f : Nat) (S : List Int) : Prop where
  m : ∀ x, x ∈ S ↔ ∃ n : Nat, x = n ∧ sbN n f
def SortsTo (S T : List Int) : Prop := F_slices_SortFunc_int_int_c128 S = some ((), T) ∧ T.Perm S ∧ T.Pairwise (fun a b => ¬ cmpN b a < 0)
theorem Subsets_ok {f : Nat} (hf : f < 1024) (hs : ∀ S : List Int, S.length ≤ f + 1 → (∀ x ∈ S, ∃ n : Nat, x = n ∧ n < 1024) → ∃ T, SortsTo S T) :
    Yd (F_nodeset_Subsets f) fun T => Parts f T ∧ T.Pairwise (fun a b => ¬ cmpN b a < 0) ∧ T.length ≤ f + 1 := by
  unfold F_nodeset_Subsets
  suffices key : ∀ (k i : Nat) (o : List Int), i + k = f + 1 → o.length ≤ i → (∀ x, x ∈ o ↔ ∃ n : Nat, x = n ∧ n < i ∧ sbN n f) → Yd (loopO _ ((i : Int), o, ())) fun T => Parts f T ∧ T.Pairwise (fun a b => ¬ cmpN b a < 0) ∧ T.length ≤ f + 1 from key (f + 1) 0 [] (by omega) (by simp) (fun x => by
    constructor
    · intro h; cases h
    · rintro ⟨n, _, h, _⟩; omega)
  intro k
  induction k with
  | zero =>
    intro i o hi ho hm
    obtain rfl : i = f + 1 := by omega
    have hd : decide (((f + 1 : Nat) : Int) ≤ (f : Int)) = false := decide_eq_false (by omega)
    refine Yd.loop ?_
    simp only [validS_nat hf, Option.bind_some, cond_true, hd, cond_false]
    obtain ⟨T, h1, h2, h3⟩ := hs o ho (fun x hx => by
      obtain ⟨n, h1, h2, _⟩ := (hm x).1 hx
      exact ⟨n, h1, by omega⟩)
    rw [h1]
    refine Yd.some ⟨⟨fun x => ?_⟩, h3, by rw [h2.length_eq]; exact ho⟩
    rw [h2.mem_iff, hm]
    constructor
    · rintro ⟨n, g1, _, g2⟩; exact ⟨n, g1, g2⟩
    · rintro ⟨n, g1, g2⟩; exact ⟨n, g1, by have := sbN_le g2; omega, g2⟩
  | succ k ih =>
    intro i o hi ho hm
    have hd : decide ((i : Int) ≤ (f : Int)) = true := decide_eq_true (by omega)
    have hw : addI .i64 (i : Int) 1 = ((i + 1 : Nat) : Int) := add64 (by omega) (by omega)
    have hz := andNot_zero (a := i) (b := f) (by omega) (by omega)
    cases hb : decide (andNotI .i64 (i : Int) (f : Int) = 0) with
    | true =>
      refine Yd.next ?_ (ih (i + 1) (o ++ [(i : Int)]) (by omega) (by simp; omega) (fun x => ?_))
      · simp only [validS_nat hf, Option.bind_some, cond_true, hd, letJ_eq, hw, hb]
        rw [lenOk_small (by simp; omega), cond_true]
      rw [List.mem_append, List.mem_singleton, hm]
      constructor
      · rintro (⟨n, g1, g2, g3⟩ | g)
        · exact ⟨n, g1, by omega, g3⟩
        · exact ⟨i, g, by omega, hz.1 hb⟩
      · rintro ⟨n, g1, g2, g3⟩
        by_cases g4 : n < i
        · exact .inl ⟨n, g1, g4, g3⟩
        · exact .inr (by omega)
    | false =>
      refine Yd.next ?_ (ih (i + 1) o (by omega) (by omega) (fun x => ?_))
      · simp only [validS_nat hf, Option.bind_some, cond_true, hd, letJ_eq, hw, hb, cond_false]
      rw [hm]
      constructor
      · rintro ⟨n, g1, g2, g3⟩
        exact ⟨n, g1, by omega, g3⟩
      · rintro ⟨n, g1, g2, g3⟩
        refine ⟨n, g1, ?_, g3⟩
        by_cases g4 : n < i
        · exact g4
        · obtain rfl : n = i := by omega
          rw [hz.2 g3] at hb
          cases hb

/-! ### the least ones -/
noncomputable def goodN (ms : List TMember) (self voters x : Nat) : Bool := (gq ms (voters ||| x)).testBit self
theorem or_lt1024 {a b : Nat} (ha : a < 1024) (hb : b < 1024) : a ||| b < 1024 := Nat.or_lt_two_pow (n := 10) ha hb
theorem hasS_testBit {s k : Nat} (hs : s < 1024) (hk : k < 10) : F_nodeset_Has (s : Int) (k : Int) = some (s.testBit k) := by
  rw [F_nodeset_Has_eq, hasS_nat hs, hasN_nat]
  simp [hk]
theorem needs1_eq {c : TConfig} (hc : SmC c) {x v self : Nat} (hx : x < 1024) (hv : v < 1024) (hs : self < 10) : F_monitor_needs_1 (x : Int) c (v : Int) (self : Int) = some (goodN c.Members self v x) := by
  have h1 := or_lt1024 hv hx
  simp only [F_monitor_needs_1, orI_nat v x (by omega) (by omega), Greatest_eq hc h1, Option.bind_some, hasS_testBit (gq_is hc h1).lt hs, goodN]
theorem found_eq {fl : List Int} (hn : fl.length ≤ 1000000) (hfl : ∀ y ∈ fl, ∃ n : Nat, y = n ∧ n < 1024) {x : Nat} (hx : x < 1024) : ∃ b, F_slices_ContainsFunc_int_int_c99 fl x = some b ∧ (b = true ↔ ∃ n : Nat, (n : Int) ∈ fl ∧ sbN n x) := by
  have : F_slices_IndexFunc_int_int_c99 fl x = some (ixI (fun y => decide (andNotI .i64 y (x : Int) = 0)) fl) := by
    unfold F_slices_IndexFunc_int_int_c99
    refine ix_loop hn _ (fun i hi hd hx hw => ?_) (fun hd => ?_)
    · simp only [hd, hx, hw, cond_true, Option.bind_some, F_monitor_needs_2]
      cases decide (andNotI .i64 fl[i] (x : Int) = 0) <;> rfl
    · simp only [hd, cond_false]; rfl
  refine ⟨_, by simp only [F_slices_ContainsFunc_int_int_c99, this, Option.bind_some, ixI_pos]; rfl, ?_⟩
  rw [List.any_eq_true]
  constructor
  · rintro ⟨y, h1, h2⟩
    obtain ⟨n, rfl, h3⟩ := hfl y h1
    exact ⟨n, h1, (andNot_zero (by omega) (by omega)).1 h2⟩
  · rintro ⟨n, h1, h2⟩
    obtain ⟨m, h3, h4⟩ := hfl _ h1
    exact ⟨_, h1, (andNot_zero (by omega) (by omega)).2 h2⟩
/-- a least set that would do -/
def Least (good : Nat → Bool) (f : Nat) (x : Int) : Prop := ∃ n : Nat, x = n ∧ sbN n f ∧ good n = true ∧ ∀ k, n.testBit k = true → good (n - 2 ^ k) = false
theorem sub_sub {n k : Nat} (hn : n < 1024) (hk : n.testBit k = true) : sbN (n - 2 ^ k) n := by
  intro j hj
  rw [(sub_bit hn hk).2] at hj
  simp only [Bool.and_eq_true] at hj
  exact hj.1
theorem needs_ok {c : TConfig} (hc : SmC c) {self v f : Nat} (hs : self < 10) (hv : v < 1024) (hf : f < 1024)
    (hso : ∀ S : List Int, S.length ≤ f + 1 → (∀ x ∈ S, ∃ n : Nat, x = n ∧ n < 1024) → ∃ T, SortsTo S T)
    (hor : ∀ S : List Int, S.length ≤ f + 1 → (∀ x ∈ S, Least (goodN c.Members self v) f x) → ∃ T, F_slices_Sort_int_int S = some ((), T) ∧ T.Perm S) :
    Yd (F_monitor_needs c self v f) fun r => (∀ x ∈ r, Least (goodN c.Members self v) f x) ∧ r.length ≤ f + 1 := by
  unfold F_monitor_needs
  refine (Subsets_ok hf hso).bind fun T ⟨hT, hp, hlen⟩ => ?_
  have hlt : ∀ n : Nat, sbN n f → n < 1024 := fun n h => by have := sbN_le h; omega
  suffices key : ∀ (k i : Nat) (o : List Int), i + k = T.length → o.length ≤ i → (∀ x ∈ o, Least (goodN c.Members self v) f x) → (∀ n : Nat, (n : Int) ∈ T.take i → goodN c.Members self v n = true → ∃ m : Nat, (m : Int) ∈ o ∧ sbN m n) → Yd (loopO _ ((i : Int), o, ())) fun (r : List Int) => (∀ x ∈ r, Least (goodN c.Members self v) f x) ∧ r.length ≤ f + 1 from key T.length 0 [] (by omega) (by simp) (fun _ h => by cases h) (fun n h => by simp at h)
  intro k
  induction k with
  | zero =>
    intro i o hi ho hl hm
    have hd : decide ((i : Int) < ((T.length : Nat) : Int)) = false := decide_eq_false (by omega)
    refine Yd.loop ?_
    obtain ⟨R, h1, h2⟩ := hor o (by omega) hl
    simp only [hd, cond_false, h1, Option.bind_some, Option.map_some]
    exact Yd.some ⟨fun x hx => hl x (h2.mem_iff.1 hx), by rw [h2.length_eq]; omega⟩
  | succ k ih =>
    intro i o hi ho hl hm
    have hlt' : i < T.length := by omega
    have hd : decide ((i : Int) < ((T.length : Nat) : Int)) = true := decide_eq_true (by omega)
    have hw : addI .i64 (i : Int) 1 = ((i + 1 : Nat) : Int) := add64 (by omega) (by omega)
    obtain ⟨n, hn, hsub⟩ := (hT.m _).1 (List.getElem_mem hlt')
    have hx : idx T (i : Int) = some (n : Int) := by rw [idx_nat, List.getElem?_eq_getElem hlt', hn]
    have hn1 := hlt n hsub
    obtain ⟨b, hb1, hb2⟩ := found_eq (fl := o) (by omega) (fun y hy => by
      obtain ⟨m, g1, g2, _⟩ := hl y hy
      exact ⟨m, g1, hlt m g2⟩) hn1
    have htake : ∀ m : Nat, (m : Int) ∈ T.take (i + 1) → (m : Int) ∈ T.take i ∨ m = n := by
      intro m h
      rw [List.take_succ_eq_append_getElem hlt', List.mem_append, List.mem_singleton, hn] at h
      rcases h with h | h
      · exact .inl h
      · exact .inr (by omega)
    have hst := needs1_eq hc hn1 hv hs
    cases b with
    | true =>
      refine Yd.next ?_ (ih (i + 1) o (by omega) (by omega) hl (fun m h hg => ?_))
      · simp only [hd, hw, hx, hb1, cond_true, letJ_eq, Option.bind_some, Bool.not_true, cond_false]
      rcases htake m h with h | rfl
      · exact hm m h hg
      · exact hb2.1 rfl
    | false =>
      cases hg : goodN c.Members self v n with
      | false =>
        rw [hg] at hst
        refine Yd.next ?_ (ih (i + 1) o (by omega) (by omega) hl (fun m h hg' => ?_))
        · simp only [hd, hw, hx, hb1, cond_true, letJ_eq, Option.bind_some, Bool.not_false, hst, cond_false]
        rcases htake m h with h | rfl
        · exact hm m h hg'
        · rw [hg] at hg'; cases hg'
      | true =>
        rw [hg] at hst
        refine Yd.next ?_ (ih (i + 1) (o ++ [(n : Int)]) (by omega) (by simp; omega) (fun x hx => ?_) (fun m h hg' => ?_))
        · simp only [hd, hw, hx, hb1, cond_true, letJ_eq, Option.bind_some, Bool.not_false, hst]
          rw [lenOk_small (by simp; omega), cond_true]
        · rcases List.mem_append.1 hx with hx | hx
          · exact hl x hx
          · rw [List.mem_singleton] at hx
            refine ⟨n, hx, hsub, hg, fun k hk => ?_⟩
            cases hg2 : goodN c.Members self v (n - 2 ^ k) with
            | false => rfl
            | true =>
              exfalso
              have hs2 := sub_sub hn1 hk
              have hmT : (((n - 2 ^ k : Nat)) : Int) ∈ T := (hT.m _).2 ⟨_, rfl, hs2.trans hsub⟩
              have hpc := pc_sub n hn1 k (bit_lt hn1 hk) hk
              have hin : (((n - 2 ^ k : Nat)) : Int) ∈ T.take i := by
                obtain ⟨j, hj, hj2⟩ := List.getElem_of_mem hmT
                by_cases hji : j < i
                · rw [← hj2]
                  exact List.mem_take_iff_getElem.2 ⟨j, by omega, rfl⟩
                · exfalso
                  by_cases hji2 : j = i
                  · subst hji2
                    rw [hn] at hj2
                    have : n = n - 2 ^ k := by omega
                    rw [← this] at hpc
                    omega
                  · have := List.pairwise_iff_getElem.1 hp i j hlt' hj (by omega)
                    rw [hn, hj2] at this
                    exact this (cmpN_neg (by have := sbN_le hs2; omega) hn1 hpc)
              obtain ⟨m, h1, h2⟩ := hm _ hin hg2
              have := hb2.2 ⟨m, h1, h2.trans hs2⟩
              cases this
        · rcases htake m h with h | rfl
          · obtain ⟨m', g1, g2⟩ := hm m h hg'
            exact ⟨m', by simp [g1], g2⟩
          · exact ⟨m, by simp, sbN.refl m⟩
end Go.Proofs.YtaebanabjdmgfaaGreat

set_option linter.unusedVariables false
set_option linter.unusedSimpArgs false
namespace Go.Proofs.YtaebanabjdmgfaaGreat
open Go.TQ

/-! ### the nodes that a trust names -/
theorem node_eq (x : Int) : F_threshold_node x = some (decide (0 ≤ x) && decide (x < 10)) := by
  unfold F_threshold_node
  cases decide (0 ≤ x) <;> rfl
theorem I_uses {n : Nat} : ∀ {t : TTrust}, SizeOf.sizeOf t < n → SmT t → ∃ u : Nat, I_threshold_Uses n (t, ()) = some (u : Int) ∧ u < 1024 := by
  induction n with
  | zero => intro t h; omega
  | succ n ih =>
    intro t hs hm
    show ∃ u : Nat, B_threshold_Uses (I_threshold_Uses n) t = some (u : Int) ∧ u < 1024
    have hl := hm.len
    have hns := hm.nodes
    suffices h : Yd (B_threshold_Uses (I_threshold_Uses n) t) fun r => ∃ u : Nat, r = u ∧ u < 1024 by
      obtain ⟨r, h1, u, h2, h3⟩ := h
      exact ⟨u, by rw [h1, h2], h3⟩
    unfold B_threshold_Uses
    suffices key : ∀ (k i u : Nat), i + k = t.Nodes.length → u < 1024 → Yd (loopO _ ((u : Int), (i : Int), ())) fun (r : Int) => ∃ u : Nat, r = u ∧ u < 1024 from key t.Nodes.length 0 0 (by omega) (by omega)
    intro k
    induction k with
    | zero =>
      intro i u hi hu
      obtain rfl : i = t.Nodes.length := by omega
      have hd : decide (((t.Nodes.length : Nat) : Int) < ((t.Nodes.length : Nat) : Int)) = false := decide_eq_false (Int.lt_irrefl _)
      refine Yd.loop ?_
      simp only [hd, cond_false]
      refine Yd.inr ?_
      suffices key : ∀ (k i u : Nat), i + k = t.Inner.length → u < 1024 → Yd (loopO _ ((u : Int), (i : Int), ())) fun (r : Int) => ∃ u : Nat, r = u ∧ u < 1024 from key t.Inner.length 0 u (by omega) hu
      intro k
      induction k with
      | zero =>
        intro i u hi hu
        have hd : decide ((i : Int) < ((t.Inner.length : Nat) : Int)) = false := decide_eq_false (by omega)
        refine Yd.last ?_ ⟨u, rfl, hu⟩
        simp only [hd, cond_false, Option.map_some]
      | succ k ih2 =>
        intro i u hi hu
        have hlt : i < t.Inner.length := by omega
        have hd : decide ((i : Int) < ((t.Inner.length : Nat) : Int)) = true := decide_eq_true (by omega)
        have hw : addI .i64 (i : Int) 1 = ((i + 1 : Nat) : Int) := add64 (by omega) (by omega)
        have hx : idx t.Inner (i : Int) = some t.Inner[i] := by rw [idx_nat]; exact List.getElem?_eq_getElem hlt
        have hmem := List.getElem_mem hlt
        obtain ⟨u', h1, h2⟩ := ih (t := t.Inner[i]) (by have := inner_lt hmem; omega) (hm.inner _ hmem)
        refine Yd.next ?_ (ih2 (i + 1) (u ||| u') (by omega) (or_lt1024 hu h2))
        simp only [hd, hw, hx, cond_true, Option.bind_some, TTrust.eta, h1, orI_nat u u' (by omega) (by omega)]
    | succ k ih2 =>
      intro i u hi hu
      have hlt : i < t.Nodes.length := by omega
      have hd : decide ((i : Int) < ((t.Nodes.length : Nat) : Int)) = true := decide_eq_true (by omega)
      have hw : addI .i64 (i : Int) 1 = ((i + 1 : Nat) : Int) := add64 (by omega) (by omega)
      have hx : idx t.Nodes (i : Int) = some t.Nodes[i] := by rw [idx_nat]; exact List.getElem?_eq_getElem hlt
      cases hb : (decide (0 ≤ t.Nodes[i]) && decide (t.Nodes[i] < 10)) with
      | false =>
        refine Yd.next ?_ (ih2 (i + 1) u (by omega) hu)
        simp only [hd, hw, hx, cond_true, Option.bind_some, node_eq, hb, cond_false, letJ_eq]
      | true =>
        simp only [Bool.and_eq_true, decide_eq_true_eq] at hb
        refine Yd.next ?_ (ih2 (i + 1) (u ||| 2 ^ t.Nodes[i].toNat) (by omega) (or_lt hu hb.2))
        simp only [hd, hw, hx, cond_true, Option.bind_some, node_eq, hb.1, hb.2, decide_true, Bool.and_self, letJ_eq]
        rw [if_neg (by omega), orI_bit hu hb.1 hb.2]
theorem Uses_ok {t : TTrust} (h : SmT t) : ∃ u : Nat, F_threshold_Uses t = some (u : Int) ∧ u < 1024 := I_uses (by omega) h

/-! ### the newest envelope of each node -/
noncomputable def latN (l : List TSighting) (slot : Int) : Nat → List TEnvelope
  | 0 => []
  | n + 1 => latN l slot n ++ (if (atP l ⟨n, slot⟩).isEmpty then [] else [newestE (atP l ⟨n, slot⟩)])
theorem latN_len (l : List TSighting) (slot : Int) : ∀ n, (latN l slot n).length ≤ n
  | 0 => Nat.le_refl _
  | n + 1 => by
    have := latN_len l slot n
    rw [latN]
    split <;> simp <;> omega
theorem atP_mem {l : List TSighting} {k : TPlace} {e : TEnvelope} (h : e ∈ atP l k) : e ∈ cs l ∧ e.Node = k.node ∧ e.Slot = k.slot := by
  obtain ⟨h1, h2⟩ := List.mem_filter.1 h
  have := eqp_iff.1 h2
  exact ⟨h1, by rw [this]; rfl, by rw [this]; rfl⟩
theorem latN_mem {l : List TSighting} {slot : Int} : ∀ {n : Nat} {e : TEnvelope}, e ∈ latN l slot n ↔ ∃ k : Nat, k < n ∧ atP l ⟨k, slot⟩ ≠ [] ∧ e = newestE (atP l ⟨k, slot⟩)
  | 0, e => by simp [latN]
  | n + 1, e => by
    rw [latN, List.mem_append, latN_mem]
    constructor
    · rintro (⟨k, h1, h2, h3⟩ | h)
      · exact ⟨k, by omega, h2, h3⟩
      · split at h
        · cases h
        · rename_i hne
          rw [List.mem_singleton] at h
          exact ⟨n, by omega, by simpa using hne, h⟩
    · rintro ⟨k, h1, h2, h3⟩
      by_cases hk : k < n
      · exact .inl ⟨k, hk, h2, h3⟩
      · obtain rfl : k = n := by omega
        refine .inr ?_
        rw [if_neg (by simpa using h2)]
        simpa using h3
theorem latN_in {l : List TSighting} {slot : Int} {n : Nat} {e : TEnvelope} (h : e ∈ latN l slot n) : e ∈ cs l := by
  obtain ⟨k, _, h2, rfl⟩ := latN_mem.1 h
  exact (atP_mem (newest_mem h2)).1
theorem latN_sm {l : List TSighting} (h : SmS l) (slot : Int) {n : Nat} (hn : n ≤ 100000) : SmL (latN l slot n) := ⟨by have := latN_len l slot n; omega, fun e he => cs_sm h e (latN_in he)⟩
theorem latN_rights (l : List TSighting) (slot : Int) (n : Nat) : rights (latN l slot n) = latN l slot n := List.filter_eq_self.2 fun e he => cs_valid e (latN_in he)
/-- who votes for a ballot, or accepts it -/
noncomputable def sup (l : List TEnvelope) (b : TBallot) : Nat := whoN (fun e => votesP e b || acceptsP e b) l
theorem Who67 {v : TConfig} {node : Int} {l : List TEnvelope} (hl : l.length ≤ 1000000) (hin : InNodes l) (e0 : TEnvelope) : F_prepare_Seen_Who_c67 ⟨node, v, l.map TRight.mk⟩ e0 = some ((sup l e0.Ballot : Nat) : Int) := by
  unfold F_prepare_Seen_Who_c67
  refine who_loop (fun e => votesP e e0.Ballot || acceptsP e e0.Ballot) l hin _ (fun i e s he => ?_) (fun s => ?_)
  · have hlt : i < l.length := (List.getElem?_eq_some_iff.1 he).1
    have hd : decide ((i : Int) < (((l.map TRight.mk).length : Nat) : Int)) = true := decide_eq_true (by rw [List.length_map]; omega)
    have hw : addI .i64 (i : Int) 1 = ((i + 1 : Nat) : Int) := add64 (by omega) (by omega)
    have hx : idx (l.map TRight.mk) (i : Int) = some ⟨e⟩ := by rw [idx_nat, List.getElem?_map, he]; rfl
    simp only [hd, hx, hw, cond_true, Option.bind_some, TTrust.eta, TEnvelope.eta, F_monitor_stuck_1, F_Right_VotesPrepare_eq, F_Right_AcceptsPrepare_eq, letJ_eq]
    cases votesP e e0.Ballot <;> cases acceptsP e e0.Ballot <;> simp
  · have hd : decide (((l.length : Nat) : Int) < (((l.map TRight.mk).length : Nat) : Int)) = false := decide_eq_false (by rw [List.length_map]; exact Int.lt_irrefl _)
    simp only [hd, cond_false, Option.map_some]

/-! ### stuck -/
def SortOk (f : Nat) : Prop := ∀ S : List Int, S.length ≤ f + 1 → (∀ x ∈ S, ∃ n : Nat, x = n ∧ n < 1024) → ∃ T, SortsTo S T
def SortOrd (good : Nat → Bool) (f : Nat) : Prop := ∀ S : List Int, S.length ≤ f + 1 → (∀ x ∈ S, Least good f x) → ∃ T, F_slices_Sort_int_int S = some ((), T) ∧ T.Perm S
noncomputable def top (l : List TSighting) (node : Nat) (slot : Int) : TEnvelope := newestE (atP l ⟨node, slot⟩)
noncomputable def isStuck (l : List TSighting) (node : Nat) (slot : Int) : Bool :=
  !(atP l ⟨node, slot⟩).isEmpty && decide ((top l node slot).Kind = 1) && !acceptsP (top l node slot) (top l node slot).Ballot
/-- the view of a node -/
noncomputable def vw (l : List TSighting) (node : Nat) (slot : Int) : List TMember := viewN node (top l node slot).Trust (latN l slot 10)
noncomputable def vts (l : List TSighting) (node : Nat) (slot : Int) : Nat := sup (latN l slot 10) (top l node slot).Ballot
structure StuckR (l : List TSighting) (node : Nat) (slot : Int) (r : TFinding) : Prop where
  nd : r.Node = node
  sl : r.Slot = slot
  kind : r.Kind = 2
  few : r.Needs.length ≤ 1024
  value : r.Value = (top l node slot).Ballot.Value
  needs : ∃ f : Nat, f < 1024 ∧ (∀ k, f.testBit k = true → (vts l node slot).testBit k = false) ∧ ∀ x ∈ r.Needs, Least (goodN (vw l node slot) node (vts l node slot)) f x
theorem Stuck_ok {l : List TSighting} (h : SmS l) {node : Nat} (hn : node < 10) {slot : Int}
    (hso : ∀ u f : Nat, F_threshold_Uses (top l node slot).Trust = some (u : Int) → f < 1024 → (∀ k, f.testBit k = true → u.testBit k = true ∨ atP l ⟨k, slot⟩ ≠ []) → SortOk f ∧ SortOrd (goodN (vw l node slot) node (vts l node slot)) f) :
    Yd (F_monitor_Stuck l node slot) fun r => r.2.1 = isStuck l node slot ∧ (isStuck l node slot = true → StuckR l node slot r.1) := by
  obtain ⟨G, ps, h1, h2, _⟩ := files_ok h
  have hnw : ∀ k : Int, F_monitor_newest (mget (fun p : TPlace => decide (k = p.node) && decide (slot = p.slot)) G ([] : List TEnvelope)) = some (newestE (atP l ⟨k, slot⟩), !(atP l ⟨k, slot⟩).isEmpty, ()) := by
    intro k
    have hg : mget (fun p : TPlace => decide (k = p.node) && decide (slot = p.slot)) G [] = atP l ⟨k, slot⟩ := h2 ⟨k, slot⟩
    obtain ⟨h7, h8⟩ := atP_sm h ⟨k, slot⟩
    rw [hg, newest_eq h7 h8]
  suffices hm : Yd (F_monitor_stuck G (TPlace.mk node slot)) fun r => r.2.1 = isStuck l node slot ∧ (isStuck l node slot = true → StuckR l node slot r.1) by
    simp only [F_monitor_Stuck, h1, Option.bind_some]
    exact hm.bind fun r hr => Yd.some hr
  unfold F_monitor_stuck
  simp only [hnw, Option.bind_some, TTrust.eta, TEnvelope.eta, Bool.not_not]
  have htop : newestE (atP l ⟨(node : Int), slot⟩) = top l node slot := rfl
  rw [htop]
  cases he : (atP l ⟨(node : Int), slot⟩).isEmpty with
  | true =>
    simp only [cond_true, Option.bind_some]
    refine Yd.some ⟨?_, ?_⟩ <;> simp [isStuck, he]
  | false =>
    have hne : atP l ⟨(node : Int), slot⟩ ≠ [] := by
      intro h0
      rw [h0] at he
      cases he
    have hin := atP_mem (newest_mem hne)
    have hval := cs_valid (l := l) (top l node slot) hin.1
    have hsm := cs_sm h (top l node slot) hin.1
    have hacc : F_envelopes_AcceptsPrepare (top l node slot) (top l node slot).Ballot = some (acceptsP (top l node slot) (top l node slot).Ballot) := by
      simp only [F_envelopes_AcceptsPrepare, TTrust.eta, TEnvelope.eta, Valid_eq hsm, hval, Option.bind_some, cond_true, F_Right_AcceptsPrepare_eq]
    simp only [cond_false, Option.bind_some]
    by_cases hk : (top l node slot).Kind = 1
    · rw [decide_eq_true hk]
      simp only [Bool.not_true, cond_false, hacc, Option.bind_some]
      cases ha : acceptsP (top l node slot) (top l node slot).Ballot with
      | true =>
        simp only [cond_true]
        refine Yd.some ⟨?_, ?_⟩ <;> simp [isStuck, ha]
      | false =>
        have hst : isStuck l node slot = true := by simp [isStuck, ha, hk, he]
        simp only [cond_false]
        obtain ⟨u, hu1, hu2⟩ := Uses_ok hsm
        rw [hu1, Option.bind_some]
        suffices key : ∀ (k i v : Nat), i + k = 10 → v < 1024 → (∀ j, v.testBit j = true → u.testBit j = true ∨ atP l ⟨j, slot⟩ ≠ []) → Yd (loopO _ ((v : Int), (i : Int), latN l slot i, ())) fun (r : TFinding × Bool × Unit) => r.2.1 = isStuck l node slot ∧ (isStuck l node slot = true → StuckR l node slot r.1) from key 10 0 u (by omega) hu2 (fun j hj => .inl hj)
        intro k
        induction k with
        | zero =>
          intro i v hi hv hvb
          obtain rfl : i = 10 := by omega
          have hd : decide (((10 : Nat) : Int) < 10) = false := by decide
          have hlen := latN_len l slot 10
          have hsl := latN_sm h slot (n := 10) (by omega)
          refine Yd.loop ?_
          simp only [hd, cond_false, Look_eq hn hsm hsl, latN_rights, Option.bind_some]
          refine Yd.inr ?_
          have hin10 : InNodes (latN l slot 10) := by
            have := rights_in (latN l slot 10)
            rwa [latN_rights] at this
          have hw : F_prepare_Seen_Who_c67 ⟨(node : Int), ⟨viewN node (top l node slot).Trust (latN l slot 10)⟩, (latN l slot 10).map TRight.mk⟩ (top l node slot) = some ((vts l node slot : Nat) : Int) := Who67 (by omega) hin10 _
          have hvt : vts l node slot < 1024 := whoN_lt hin10
          obtain ⟨f, hf1, hf2, hf3⟩ := andNotI_nat v (vts l node slot) (by omega) (by omega)
          obtain ⟨hs1, hs2⟩ := hso u f hu1 (by omega) (fun k hk => by
            rw [hf3] at hk
            simp only [Bool.and_eq_true] at hk
            exact hvb k hk.1)
          have hne := needs_ok (viewN_sm (node := node) hsm hsl) hn hvt (by omega) hs1 hs2
          have hmk : TSeen.mk (node : Int) ⟨viewN node (top l node slot).Trust (latN l slot 10)⟩ ((latN l slot 10).map TRight.mk) = ⟨(node : Int), ⟨viewN node (top l node slot).Trust (latN l slot 10)⟩, (latN l slot 10).map TRight.mk⟩ := rfl
          simp only [hw, Option.bind_some, hf1]
          refine hne.bind fun r hr => Yd.some ⟨hst.symm, fun _ => ⟨rfl, rfl, rfl, by have := hr.2; show r.length ≤ 1024; omega, rfl, f, by omega, fun k hk => ?_, hr.1⟩⟩
          rw [hf3] at hk
          simp only [Bool.and_eq_true, Bool.not_eq_true'] at hk
          exact hk.2
        | succ k ih =>
          intro i v hi hv hvb
          have hlen := latN_len l slot i
          have hd : decide ((i : Int) < 10) = true := decide_eq_true (by omega)
          have hw : addI .i64 (i : Int) 1 = ((i + 1 : Nat) : Int) := add64 (by omega) (by omega)
          cases hei : (atP l ⟨(i : Int), slot⟩).isEmpty with
          | true =>
            have e1 : latN l slot (i + 1) = latN l slot i := by rw [latN, hei]; simp
            have := ih (i + 1) v (by omega) hv hvb
            rw [e1] at this
            refine Yd.next ?_ this
            simp only [hd, hw, hnw, hei, cond_true, Option.bind_some, Bool.not_true, cond_false, letJ_eq]
          | false =>
            have e1 : latN l slot (i + 1) = latN l slot i ++ [newestE (atP l ⟨(i : Int), slot⟩)] := by rw [latN, hei]; simp
            have hlt : (i : Int) < 10 := by omega
            have := ih (i + 1) (v ||| 2 ^ (i : Int).toNat) (by omega) (or_lt hv hlt) (fun j hj => by
              rw [Nat.testBit_or, Bool.or_eq_true] at hj
              rcases hj with hj | hj
              · exact hvb j hj
              · rw [Int.toNat_natCast, Nat.testBit_two_pow, decide_eq_true_eq] at hj
                subst hj
                refine .inr fun h0 => ?_
                rw [h0] at hei
                cases hei)
            rw [e1] at this
            refine Yd.next ?_ this
            simp only [hd, hw, hnw, hei, cond_true, Option.bind_some, Bool.not_false, letJ_eq, TTrust.eta, TEnvelope.eta]
            rw [lenOk_small (by simp; omega), cond_true, if_neg (by omega), orI_bit hv (by omega) hlt]
    · rw [decide_eq_false hk]
      simp only [Bool.not_false, cond_true, Option.bind_some]
      refine Yd.some ⟨?_, ?_⟩ <;> simp [isStuck, hk]
end Go.Proofs.YtaebanabjdmgfaaGreat

set_option linter.unusedVariables false
set_option linter.unusedSimpArgs false
namespace Go.Proofs.YtaebanabjdmgfaaGreat
open Go.TQ

theorem insN_eq (s : List Int) (a b : Int) : F_slices_insertionSortCmpFunc_int_c128 s a b = gIns F_nodeset_Compare s a b := rfl
theorem sort_small {S : List Int} (hs : S.length ≤ 12) : ∃ T, SortsTo S T := by
  obtain ⟨t, h1, h2, h3⟩ := ins_ok (cmp := F_nodeset_Compare) (c := cmpN) ncmp_eq S (by omega)
  obtain ⟨r, hr⟩ := tab_some S.length hs
  refine ⟨t, ?_, h2, (h3 swo_N).imp fun {a b} h => of_decide_eq_false h⟩
  have e1 : subI .i64 (S.length : Int) 0 = S.length := by rw [sub64 (by omega) (by omega)]; omega
  have e2 : decide ((S.length : Int) ≤ 12) = true := decide_eq_true (by omega)
  have hp : F_slices_pdqsortCmpFunc_int_c128 S 0 (S.length : Int) r = some ((), t) := by
    show B_slices_pdqsortCmpFunc_int_c128 (I_slices_pdqsortCmpFunc_int_c128 S.length) S 0 (S.length : Int) r = some ((), t)
    unfold B_slices_pdqsortCmpFunc_int_c128
    refine loopO_inr ?_
    simp only [e1, e2, cond_true, insN_eq, h1, Option.bind_some, Option.map_some]
  simp only [F_slices_SortFunc_int_int_c128, hr, hp, Option.bind_some]
theorem sort_nil : F_slices_Sort_int_int [] = some ((), []) := by
  obtain ⟨r, hr⟩ := tab_some 0 (by omega)
  have e1 : subI .i64 (0 : Int) 0 = 0 := rfl
  have e2 : decide ((0 : Int) ≤ 12) = true := rfl
  have hi : F_slices_insertionSortOrdered_int [] 0 0 = some ((), []) := by
    unfold F_slices_insertionSortOrdered_int
    refine loopO_inr ?_
    rfl
  have hp : F_slices_pdqsortOrdered_int [] 0 0 r = some ((), []) := by
    show B_slices_pdqsortOrdered_int (I_slices_pdqsortOrdered_int 0) [] 0 0 r = some ((), [])
    unfold B_slices_pdqsortOrdered_int
    refine loopO_inr ?_
    simp only [e1, e2, cond_true, hi, Option.bind_some, Option.map_some]
  have hr' : F_math_bits_Len (convI .u64 ((List.length ([] : List Int) : Nat) : Int)) = some r := hr
  have hp' : F_slices_pdqsortOrdered_int [] 0 ((List.length ([] : List Int) : Nat) : Int) r = some ((), []) := hp
  simp only [F_slices_Sort_int_int, hr', hp', Option.bind_some]

/-! ### the example -/
def t3 : TTrust := ⟨2, ups 3, []⟩
def eS : TEnvelope := TEnvelope.mk 0 1 1 t3 1 (TBallot.mk 1 (ByteArray.mk #[97])) (TBallot.mk 0 (ByteArray.mk #[])) (TBallot.mk 0 (ByteArray.mk #[])) 0 0
def xS : TSighting := TSighting.mk 0 0 (TLetter.mk 2 1 (TNomination.mk 0 0 (TTrust.mk 0 [] []) [] []) eS)
theorem good3 : GoodT t3 := flat_good 3 (by omega) 2 (by omega) (by omega)
theorem sm3 : SmT t3 := good3.sm
theorem valS : isValid eS = true := by
  have h := F_threshold_Valid_good good3
  have h1 := (tval_eq sm3).symm.trans h
  have h2 : tval t3 = 0 := Option.some.inj h1
  show validE (tval t3) eS = true
  rw [h2]
  decide +kernel
theorem csS : cs [xS] = [eS] := by
  have : countsS xS = true := by
    show (decide ((2 : Int) = 2) && decide ((0 : Int) = 0) && isValid eS) = true
    rw [valS]
    rfl
  simp only [cs, List.filter_cons, this, if_true, List.filter_nil, List.map_cons, List.map_nil]
  rfl
theorem atS0 : atP [xS] ⟨((0 : Nat) : Int), 1⟩ = [eS] := by
  unfold atP
  rw [csS]
  rfl
theorem atS (k : Nat) (hk : k ≠ 0) : atP [xS] ⟨(k : Int), 1⟩ = [] := by
  unfold atP
  rw [csS, List.filter_cons]
  have : eqp ⟨(k : Int), 1⟩ (pl eS) = false := eqp_false.2 fun h => by
    have h1 : (k : Int) = 0 := congrArg TPlace.node h
    omega
  rw [this]
  rfl
theorem latS : latN [xS] 1 10 = [eS] := by
  have h0 : latN [xS] 1 1 = [eS] := by
    rw [latN, atS0, latN]
    rfl
  have hs : ∀ n, latN [xS] 1 (n + 1) = [eS] := by
    intro n
    induction n with
    | zero => exact h0
    | succ n ih =>
      rw [latN, ih, atS (n + 1) (by omega)]
      rfl
  exact hs 9
theorem topS : top [xS] 0 1 = eS := by
  show newestE (atP [xS] ⟨((0 : Nat) : Int), 1⟩) = eS
  rw [atS0]
  rfl
theorem smS : SmS [xS] := ⟨by simp, fun x hx => by rw [List.mem_singleton] at hx; rw [hx]; exact sm3⟩
theorem stuckS : isStuck [xS] 0 1 = true := by
  unfold isStuck
  rw [topS, atS0]
  decide +kernel
theorem vwS : vw [xS] 0 1 = (List.replicate 10 noMember).set 0 ⟨true, t3⟩ := by
  unfold vw
  rw [topS, latS]
  show viewStep ((List.replicate 10 noMember).set 0 ⟨true, t3⟩) eS = _
  unfold viewStep
  have h5 : ((List.replicate 10 noMember).set 0 ⟨true, t3⟩)[eS.Node.toNat]? = some ⟨true, t3⟩ := rfl
  rw [h5, if_neg (by simp)]
theorem noGood (v x : Nat) (h : v ||| x < 1024) : goodN (vw [xS] 0 1) 0 v x = false := by
  have hsl : SmL (latN [xS] 1 10) := latN_sm smS 1 (by omega)
  have hc : SmC ⟨vw [xS] 0 1⟩ := by
    have := viewN_sm (node := 0) (t := (top [xS] 0 1).Trust) (by rw [topS]; exact sm3) hsl
    exact this
  have hg := gq_is hc h
  unfold goodN
  cases hb : (gq (vw [xS] 0 1) (v ||| x)).testBit 0 with
  | false => rfl
  | true =>
    exfalso
    have hbits : ∀ k, (gq (vw [xS] 0 1) (v ||| x)).testBit k = true → k = 0 := by
      intro k hk
      obtain ⟨hk10, m, h1, h2⟩ := isDecl_get (hg.inside k hk).2.1
      rw [show (⟨vw [xS] 0 1⟩ : TConfig).Members = vw [xS] 0 1 from rfl, vwS] at h1
      by_cases h0 : k = 0
      · exact h0
      · rw [List.getElem?_set_ne (by omega), List.getElem?_replicate] at h1
        split at h1
        · cases h1
          exact absurd h2 (by simp [noMember])
        · first
            | cases h1
              exact absurd h2 (by simp [noMember])
            | cases h1
    have hq : gq (vw [xS] 0 1) (v ||| x) = 1 := nat_ext fun k => by
      cases hk : (gq (vw [xS] 0 1) (v ||| x)).testBit k with
      | true => rw [hbits k hk]; rfl
      | false =>
        cases h1 : Nat.testBit 1 k with
        | false => rfl
        | true =>
          have := Nat.testBit_one_eq_true_iff_self_eq_zero.1 h1
          subst this
          rw [hb] at hk
          cases hk
    have h3 := (hg.inside 0 hb).2.2
    rw [show (⟨vw [xS] 0 1⟩ : TConfig).Members = vw [xS] 0 1 from rfl, hq, vwS] at h3
    have h4 : satT 1 t3 = false := by
      rw [satT_eq]
      decide +kernel
    have h5 : trustAt ((List.replicate 10 noMember).set 0 ⟨true, t3⟩) 0 = t3 := rfl
    rw [h5, h4] at h3
    cases h3
theorem usesS : F_threshold_Uses t3 = some (((7 : Nat) : Int)) := by
  show B_threshold_Uses _ t3 = _
  unfold B_threshold_Uses
  refine (loopO_inl (s' := ((1 : Int), (1 : Int), ())) ?_).trans ((loopO_inl (s' := ((3 : Int), (2 : Int), ())) ?_).trans ((loopO_inl (s' := ((7 : Int), (3 : Int), ())) ?_).trans (loopO_inr ?_)))
  · rfl
  · rfl
  · rfl
  · exact congrArg (Option.map Sum.inr) (loopO_inr rfl)
theorem sane44 : F_law44_sane = some true := by
  have hF : F_play_Flat 3 2 = some t3 := Flat_eq 3 (by omega) 2
  have hS : Yd (F_monitor_Stuck [xS] ((0 : Nat) : Int) 1) fun r => r.2.1 = isStuck [xS] 0 1 ∧ (isStuck [xS] 0 1 = true → StuckR [xS] 0 1 r.1) := by
    refine Stuck_ok smS (by omega) fun u f hu hf hb => ?_
    rw [topS] at hu
    have hu7 : u = 7 := by
      have := (Option.some.inj (hu.symm.trans usesS))
      omega
    subst hu7
    have hf7 : f ≤ 7 := sbN_le fun k hk => by
      rcases hb k hk with h | h
      · exact h
      · by_cases hk0 : k = 0
        · subst hk0; rfl
        · exact absurd (atS k hk0) h
    refine ⟨fun S hS _ => sort_small (by omega), fun S hS hL => ?_⟩
    cases S with
    | nil => exact ⟨[], sort_nil, .refl _⟩
    | cons x S =>
      obtain ⟨n, _, h1, h2, _⟩ := hL x (by simp)
      have hin10 : InNodes (latN [xS] 1 10) := by
        have := rights_in (latN [xS] 1 10)
        rwa [latN_rights] at this
      have hvt : vts [xS] 0 1 < 1024 := whoN_lt hin10
      rw [noGood _ _ (or_lt1024 hvt (by have := sbN_le h1; omega))] at h2
      cases h2
  obtain ⟨r, h1, h2, h3⟩ := hS
  rw [stuckS] at h2 h3
  have h4 := h3 rfl
  have hn : r.1.Needs = [] := by
    obtain ⟨f, hf, _, hL⟩ := h4.needs
    cases hr : r.1.Needs with
    | nil => rfl
    | cons x S =>
      obtain ⟨n, _, h5, h6, _⟩ := hL x (by simp [hr])
      have hin10 : InNodes (latN [xS] 1 10) := by
        have := rights_in (latN [xS] 1 10)
        rwa [latN_rights] at this
      have hvt : vts [xS] 0 1 < 1024 := whoN_lt hin10
      rw [noGood _ _ (or_lt1024 hvt (by have := sbN_le h5; omega))] at h6
      cases h6
  have hv : r.1.Value = ByteArray.mk #[97] := by rw [h4.value, topS]; rfl
  have hk := h4.kind
  have h1' : F_monitor_Stuck [(TSighting.mk (0 : Int) (0 : Int) (TLetter.mk (2 : Int) (1 : Int) (TNomination.mk (0 : Int) (0 : Int) (TTrust.mk (0 : Int) ([] : List Int) ([] : List TTrust)) ([] : List ByteArray) ([] : List ByteArray)) (TEnvelope.mk (0 : Int) (1 : Int) (1 : Int) (TTrust.mk t3.Threshold t3.Nodes t3.Inner) (1 : Int) (TBallot.mk (1 : Int) (ByteArray.mk #[97])) (TBallot.mk (0 : Int) (ByteArray.mk #[])) (TBallot.mk (0 : Int) (ByteArray.mk #[])) (0 : Int) (0 : Int))))] (0 : Int) (1 : Int) = some r := h1
  simp only [F_law44_sane, hF, Option.bind_some, h1', h2, hk, hv, hn, cond_true, decide_true, List.length_nil]
  rfl
end Go.Proofs.YtaebanabjdmgfaaGreat

set_option linter.unusedVariables false
set_option linter.unusedSimpArgs false
namespace Go.Proofs.YtaebanabjdmgfaaGreat
open Go.TQ

theorem cs_append (a b : List TSighting) : cs (a ++ b) = cs a ++ cs b := by simp [cs, List.filter_append]
theorem cs_reverse (a : List TSighting) : cs a.reverse = (cs a).reverse := by simp [cs, List.filter_reverse, List.map_reverse]
theorem atP_append (a b : List TSighting) (k : TPlace) : atP (a ++ b) k = atP a k ++ atP b k := by simp [atP, cs_append, List.filter_append]
theorem atP_reverse (a : List TSighting) (k : TPlace) : atP a.reverse k = (atP a k).reverse := by simp [atP, cs_reverse, List.filter_reverse]
theorem two_append {a b : List TEnvelope} (h : two a = true) : two (a ++ b) = true := by
  rw [two_iff] at h ⊢
  obtain ⟨x, hx, y, hy, h1⟩ := h
  exact ⟨x, by simp [hx], y, by simp [hy], h1⟩
theorem two_reverse (a : List TEnvelope) : two a.reverse = two a := by
  rw [Bool.eq_iff_iff, two_iff, two_iff]
  simp only [List.mem_reverse]
theorem ext_append {a b : List TEnvelope} {w : ByteArray} (h : ext a = some w) : ext (a ++ b) = some w := by
  unfold ext at h ⊢
  rw [List.find?_append]
  cases hf : a.find? fun e => decide (e.Kind = 3) with
  | none => rw [hf] at h; cases h
  | some e => rw [hf] at h; exact h
theorem ext_some (a : List TEnvelope) : (ext a).isSome = a.any fun e => decide (e.Kind = 3) := by
  unfold ext
  rw [Option.isSome_map, Bool.eq_iff_iff, List.find?_isSome, List.any_eq_true]
theorem ext_reverse (a : List TEnvelope) : (ext a.reverse).isSome = (ext a).isSome := by
  rw [ext_some, ext_some, List.any_reverse]
theorem SmS.sub {l l' : List TSighting} (h : SmS l) (hl : l'.length ≤ l.length) (hm : ∀ x ∈ l', x ∈ l) : SmS l' := ⟨by have := h.len; omega, fun x hx => h.sm x (hm x hx)⟩
theorem fnd_some {kind : Int} {v : List TEnvelope → Option ByteArray} {es : TPlace → List TEnvelope} {k : TPlace} {x : TFinding} : fnd kind v es k = some x ↔ ∃ w, v (es k) = some w ∧ x = TFinding.mk k.node k.slot kind w [] := by
  unfold fnd
  rw [Option.map_eq_some_iff]
  constructor
  · rintro ⟨w, h1, h2⟩; exact ⟨w, h1, h2.symm⟩
  · rintro ⟨w, h1, h2⟩; exact ⟨w, h1, h2.symm⟩
theorem vTwo_some {es : List TEnvelope} {w : ByteArray} : vTwo es = some w ↔ two es = true ∧ w = ByteArray.mk #[] := by
  unfold vTwo
  cases two es with
  | false => simp
  | true => simp [eq_comm]
theorem Plc.up {l l' : List TSighting} {ps ps' : List TPlace} (h : Plc l ps) (h' : Plc l' ps') (hs : ∀ e ∈ cs l', e ∈ cs l) {k : TPlace} (hk : k ∈ ps') : k ∈ ps := by
  obtain ⟨e, h1, h2⟩ := (h'.m k).1 hk
  exact (h.m k).2 ⟨e, hs e h1, h2⟩
theorem length_fm {α β : Type} {f g : α → Option β} (h : ∀ x, (f x).isSome = (g x).isSome) : ∀ l : List α, (l.filterMap f).length = (l.filterMap g).length
  | [] => rfl
  | x :: l => by
    have hx := h x
    have ih := length_fm h l
    cases hf : f x with
    | none =>
      rw [hf] at hx
      have hg : g x = none := by
        cases hg : g x with
        | none => rfl
        | some y => rw [hg] at hx; cases hx
      rw [List.filterMap_cons_none hf, List.filterMap_cons_none hg, ih]
    | some y =>
      rw [hf] at hx
      cases hg : g x with
      | none => rw [hg] at hx; cases hx
      | some z => rw [List.filterMap_cons_some hf, List.filterMap_cons_some hg, List.length_cons, List.length_cons, ih]
theorem any_loop {α ρ : Type} {l : List α} (hn : l.length ≤ 1000000) (p : α → Bool) {step : Bool × Int × Unit → Option ((Bool × Int × Unit) ⊕ ρ)} {fin : ρ}
    (h1 : ∀ (i : Nat) (h : i < l.length) (b : Bool), decide ((i : Int) < ((l.length : Nat) : Int)) = true → idx l (i : Int) = some l[i] → addI .i64 (i : Int) 1 = ((i + 1 : Nat) : Int) → step (b, (i : Int), ()) = some (.inl (b || p l[i], ((i + 1 : Nat) : Int), ())))
    (h2 : decide (((l.length : Nat) : Int) < ((l.length : Nat) : Int)) = false → step (true, ((l.length : Nat) : Int), ()) = some (.inr fin)) (ha : l.any p = true) : loopO step (false, 0, ()) = some fin := by
  suffices key : ∀ (k i : Nat), i + k = l.length → loopO step ((l.take i).any p, (i : Int), ()) = some fin from key l.length 0 (by omega)
  intro k
  induction k with
  | zero =>
    intro i hi
    obtain rfl : i = l.length := by omega
    rw [List.take_length, ha]
    exact loopO_inr (h2 (decide_eq_false (Int.lt_irrefl _)))
  | succ k ih =>
    intro i hi
    have hlt : i < l.length := by omega
    have := ih (i + 1) (by omega)
    rw [List.take_succ_eq_append_getElem hlt, List.any_append, List.any_cons, List.any_nil, Bool.or_false] at this
    exact (loopO_inl (h1 i hlt _ (decide_eq_true (by omega)) (by rw [idx_nat]; exact List.getElem?_eq_getElem hlt) (add64 (by omega) (by omega)))).trans this
theorem findings_self {l : List TFinding} (hn : l.length ≤ 1000000) (hs : ∀ x ∈ l, x.Needs = []) : F_ref44_Findings l l = some true := by
  unfold F_ref44_Findings
  simp only [decide_true, Bool.not_true, cond_false]
  refine all_loopS l.length (fun i => (i, ())) (fun i hi => ?_) ?_
  · have hd : decide ((i : Int) < ((l.length : Nat) : Int)) = true := decide_eq_true (by omega)
    have hw : addI .i64 (i : Int) 1 = ((i + 1 : Nat) : Int) := add64 (by omega) (by omega)
    have hx : idx l (i : Int) = some l[i] := by rw [idx_nat]; exact List.getElem?_eq_getElem hi
    obtain ⟨b, h1, h2⟩ := ints31 l[i].Needs l[i].Needs (by rw [hs _ (List.getElem_mem hi)]; simp)
    rw [h2.2 rfl] at h1
    simp only [hd, hx, hw, h1, cond_true, Option.bind_some, decide_true, Bool.not_true, cond_false]
  · have hd : decide (((l.length : Nat) : Int) < ((l.length : Nat) : Int)) = false := decide_eq_false (Int.lt_irrefl _)
    simp only [hd, cond_false]
theorem parts (l : List Int) : F_law44_MonitorParts l = some true := by
  refine Yd.eq_true ?_
  unfold F_law44_MonitorParts
  refine (New_ok l).bind fun r1 a1 => ?_
  refine (sightings_ok a1).bind fun p2 ⟨b1, b2, b3⟩ => ?_
  obtain ⟨L, s2⟩ := p2
  have hlen : L.length ≤ 8 := b3
  have hL : SmS L := b2
  have e1 : addI .i64 ((L.length : Nat) : Int) 1 = ((L.length + 1 : Nat) : Int) := add64 (by omega) (by omega)
  simp only [e1]
  refine (N_pos b1 (by omega) (by omega)).bind fun p3 ⟨c1, c2, c3⟩ => ?_
  obtain ⟨m, hm⟩ : ∃ m : Nat, p3.1 = m := ⟨p3.1.toNat, by omega⟩
  rw [hm]
  have hmL : m ≤ L.length := by omega
  have hsl : slcOk 0 (m : Int) L.length = true := by
    simp only [slcOk, Bool.and_eq_true, decide_eq_true_eq]
    omega
  rw [hsl, cond_true]
  -- the parts
  obtain ⟨ps, P1, E1⟩ := External_eq hL
  obtain ⟨qs, Q1, T1⟩ := TwoFaced_eq hL
  have hL' : SmS (L.take m) := hL.sub (by rw [List.length_take]; omega) fun x hx => List.mem_of_mem_take hx
  obtain ⟨ps', P2, E2⟩ := External_eq hL'
  obtain ⟨qs', Q2, T2⟩ := TwoFaced_eq hL'
  have hR : SmS L.reverse := hL.sub (by simp) fun x hx => by simpa using hx
  obtain ⟨ps'', P3, E3⟩ := External_eq hR
  obtain ⟨qs'', Q3, T3⟩ := TwoFaced_eq hR
  have hcs : ∀ e, e ∈ cs L.reverse ↔ e ∈ cs L := fun e => by rw [cs_reverse, List.mem_reverse]
  have hps : ps'' = ps := asc_unique P3.asc P1.asc fun k => by rw [P3.m, P1.m]; simp only [hcs]
  have hqs : qs'' = qs := asc_unique Q3.asc Q1.asc fun k => by rw [Q3.m, Q1.m]; simp only [hcs]
  subst hps
  subst hqs
  have hsplit : ∀ k, atP L k = atP (L.take m) k ++ atP (L.drop m) k := fun k => by rw [← atP_append, List.take_append_drop]
  have hcsub : ∀ e ∈ cs (L.take m), e ∈ cs L := fun e he => by
    rw [← List.take_append_drop m L, cs_append, List.mem_append]
    exact .inl he
  -- what a part says is said
  have hE : ∀ x ∈ ps'.filterMap (fnd 1 ext (atP (L.take m))), x ∈ ps''.filterMap (fnd 1 ext (atP L)) := by
    intro x hx
    obtain ⟨k, hk, h1⟩ := List.mem_filterMap.1 hx
    obtain ⟨w, h2, h3⟩ := fnd_some.1 h1
    exact List.mem_filterMap.2 ⟨k, P1.up P2 hcsub hk, fnd_some.2 ⟨w, by rw [hsplit]; exact ext_append h2, h3⟩⟩
  have hT : ∀ x ∈ qs'.filterMap (fnd 3 vTwo (atP (L.take m))), x ∈ qs''.filterMap (fnd 3 vTwo (atP L)) := by
    intro x hx
    obtain ⟨k, hk, h1⟩ := List.mem_filterMap.1 hx
    obtain ⟨w, h2, h3⟩ := fnd_some.1 h1
    obtain ⟨h4, h5⟩ := vTwo_some.1 h2
    exact List.mem_filterMap.2 ⟨k, Q1.up Q2 hcsub hk, fnd_some.2 ⟨w, vTwo_some.2 ⟨by rw [hsplit]; exact two_append h4, h5⟩, h3⟩⟩
  -- the order
  have hTr : qs''.filterMap (fnd 3 vTwo (atP L.reverse)) = qs''.filterMap (fnd 3 vTwo (atP L)) := by
    congr 1
    funext k
    simp only [fnd, vTwo, atP_reverse, two_reverse]
  have hEr : (ps''.filterMap (fnd 1 ext (atP L.reverse))).length = (ps''.filterMap (fnd 1 ext (atP L))).length := length_fm (fun k => by
    simp only [fnd, Option.isSome_map, atP_reverse, ext_reverse]) ps''
  have hNd : ∀ x ∈ qs''.filterMap (fnd 3 vTwo (atP L)), x.Needs = [] := by
    intro x hx
    obtain ⟨k, hk, h1⟩ := List.mem_filterMap.1 hx
    obtain ⟨w, h2, h3⟩ := fnd_some.1 h1
    rw [h3]
  rw [hTr] at T3
  -- lengths
  have hbig : ∀ (s : List TSighting) (rs : List TPlace) (f : TPlace → Option TFinding), SmS s → Plc s rs → (rs.filterMap f).length ≤ 1000000 := by
    intro s rs f hs hp
    obtain ⟨_, ts, _, _, g3, g4, g5⟩ := files_ok hs
    have : rs = ts := asc_unique hp.asc g3 fun k => by rw [hp.m, g4]
    have h1 := List.length_filterMap_le f rs
    rw [this] at h1 ⊢
    omega
  have n6 := hbig L ps'' (fnd 1 ext (atP L)) hL P1
  have n7 := hbig L qs'' (fnd 3 vTwo (atP L)) hL Q1
  have n8 := hbig _ ps' (fnd 1 ext (atP (L.take m))) hL' P2
  have n16 := hbig _ qs' (fnd 3 vTwo (atP (L.take m))) hL' Q2
  generalize ps''.filterMap (fnd 1 ext (atP L)) = r6 at *
  generalize qs''.filterMap (fnd 3 vTwo (atP L)) = r7 at *
  generalize ps'.filterMap (fnd 1 ext (atP (L.take m))) = r8 at *
  generalize qs'.filterMap (fnd 3 vTwo (atP (L.take m))) = r16 at *
  generalize ps''.filterMap (fnd 1 ext (atP L.reverse)) = r25 at *
  have e2 : subI .i64 ((L.length : Nat) : Int) 1 = ((L.length : Nat) : Int) - 1 := sub64 (by omega) (by omega)
  rw [e2]
  suffices key : ∀ (k : Nat), k ≤ L.length → Yd (loopO _ ((k : Int) - 1, (L.drop k).reverse, ())) (· = true) from by
    have := key L.length (Nat.le_refl _)
    rwa [List.drop_length] at this
  intro k
  induction k with
  | zero =>
    intro _
    have hd : decide ((0 : Int) ≤ ((0 : Nat) : Int) - 1) = false := by decide
    refine Yd.loop ?_
    simp only [hd, cond_false, List.drop_zero, Int.toNat_natCast, Int.toNat_zero, E1, T1, E2, T2, E3, T3, Option.bind_some]
    refine Yd.inr ?_
    refine Yd.of_eq (x := true) ?_ rfl
    refine all_loopS r8.length (fun i => (i, ())) (fun i hi => ?_) ?_
    · have hd : decide ((i : Int) < ((r8.length : Nat) : Int)) = true := decide_eq_true (by omega)
      have hw : addI .i64 (i : Int) 1 = ((i + 1 : Nat) : Int) := add64 (by omega) (by omega)
      have hx : idx r8 (i : Int) = some r8[i] := by rw [idx_nat]; exact List.getElem?_eq_getElem hi
      simp only [hd, hx, cond_true, Option.bind_some]
      refine any_loop n6 (fun x => decide (x.Node = r8[i].Node) && decide (x.Slot = r8[i].Slot) && decide (x.Value = r8[i].Value)) (fun j hj b hd hx hw => ?_) (fun hd => ?_) ?_
      · simp only [hd, hx, hw, cond_true, Option.bind_some, cnd_and]
        cases b <;> rfl
      · simp only [hd, hw, cond_false, Bool.not_true, Option.map_some]
      · exact List.any_eq_true.2 ⟨r8[i], hE _ (List.getElem_mem hi), by simp⟩
    · have hd : decide (((r8.length : Nat) : Int) < ((r8.length : Nat) : Int)) = false := decide_eq_false (Int.lt_irrefl _)
      simp only [hd, cond_false]
      refine congrArg (Option.map Sum.inr) ?_
      refine all_loopS r16.length (fun i => (i, ())) (fun i hi => ?_) ?_
      · have hd : decide ((i : Int) < ((r16.length : Nat) : Int)) = true := decide_eq_true (by omega)
        have hw : addI .i64 (i : Int) 1 = ((i + 1 : Nat) : Int) := add64 (by omega) (by omega)
        have hx : idx r16 (i : Int) = some r16[i] := by rw [idx_nat]; exact List.getElem?_eq_getElem hi
        simp only [hd, hx, cond_true, Option.bind_some]
        refine any_loop n7 (fun x => decide (x.Node = r16[i].Node) && decide (x.Slot = r16[i].Slot)) (fun j hj b hd hx hw => ?_) (fun hd => ?_) ?_
        · simp only [hd, hx, hw, cond_true, Option.bind_some, cnd_and]
          cases b <;> rfl
        · simp only [hd, hw, cond_false, Bool.not_true, Option.map_some]
        · exact List.any_eq_true.2 ⟨r16[i], hT _ (List.getElem_mem hi), by simp⟩
      · have hd : decide (((r16.length : Nat) : Int) < ((r16.length : Nat) : Int)) = false := decide_eq_false (Int.lt_irrefl _)
        have hl : decide (((r25.length : Nat) : Int) = ((r6.length : Nat) : Int)) = true := decide_eq_true (by omega)
        simp only [hd, cond_false, T3, E3, Option.bind_some, findings_self n7 hNd, cond_true, hl, sane44]
  | succ k ih =>
    intro hk
    have hlt : k < L.length := by omega
    have hd : decide ((0 : Int) ≤ ((k + 1 : Nat) : Int) - 1) = true := decide_eq_true (by omega)
    have e3 : ((k + 1 : Nat) : Int) - 1 = (k : Int) := by omega
    have e4 : subI .i64 (k : Int) 1 = (k : Int) - 1 := sub64 (by omega) (by omega)
    have hx : idx L (k : Int) = some L[k] := by rw [idx_nat]; exact List.getElem?_eq_getElem hlt
    have := ih (by omega)
    rw [List.drop_eq_getElem_cons hlt, List.reverse_cons] at this
    refine Yd.next ?_ this
    simp only [hd, e3, e4, hx, cond_true, Option.bind_some, TTrust.eta, TEnvelope.eta, TNomination.eta, TLetter.eta, TSighting.eta]
    have hl2 := lenOk_small (bytes := 328) (n := (L.drop (k + 1)).reverse.length + List.length [L[k]]) (by simp; omega)
    have hd0 : decide ((0 : Int) ≤ (k : Int)) = true := decide_eq_true (by omega)
    simp only [hl2, hd0, cond_true]
end Go.Proofs.YtaebanabjdmgfaaGreat
