/-
  Ballots: what the functions of the program and of the document return, in plain terms. Conditions: none.
-/
import Derived.Test.YtncjalhhkmojlaaGreatPBase
import Derived.Test.YtncjalhhkmojlaaGreatFns
namespace Go.Proofs.YtncjalhhkmojlaaGreat
open Go.TQ

def noVal : ByteArray := ⟨#[]⟩
def zeroB (b : TBallot) : Bool := decide (b.Counter = 0) && decide (b.Value = noVal)
def lessV (a b : ByteArray) : Bool := if a.size = b.size then sless a b else decide (a.size < b.size)
def lessB (a b : TBallot) : Bool := if a.Counter = b.Counter then lessV a.Value b.Value else decide (a.Counter < b.Counter)
def compat (a b : TBallot) : Bool := decide (a.Value = b.Value)
def covers (p b : TBallot) : Bool := !zeroB p && compat p b && decide (b.Counter ≤ p.Counter)
def preparesB (p q b : TBallot) : Bool := covers p b || covers q b || (!zeroB q && lessB b q)
def aborts (p b : TBallot) : Bool := !zeroB p && !compat p b && lessB b p
def validB (b : TBallot) : Bool := (decide (1 ≤ b.Counter) && decide (b.Counter ≤ 1000) || decide (b.Counter = 1000000)) && decide (1 ≤ b.Value.size) && decide (b.Value.size ≤ 200)

@[simp] theorem F_ballots_Zero_eq (b : TBallot) : F_ballots_Zero b = some (zeroB b) := by unfold F_ballots_Zero zeroB; rw [eq2_false]; rfl
@[simp] theorem F_ref23_Zero_eq (b : TBallot) : F_ref23_Zero b = some (zeroB b) := by unfold F_ref23_Zero zeroB; rw [eq2_false]; rfl
@[simp] theorem F_ballots_Compatible_eq (a b : TBallot) : F_ballots_Compatible a b = some (compat a b) := rfl
@[simp] theorem F_ref23_Compatible_eq (a b : TBallot) : F_ref23_Compatible a b = some (compat a b) := rfl
@[simp] theorem F_ballots_Valid_eq (b : TBallot) : F_ballots_Valid b = some (validB b) := by
  have h1 : decide ((1 : Int) ≤ (b.Value.size : Nat)) = decide (1 ≤ b.Value.size) := by rw [decide_eq_decide]; omega
  have h2 : decide (((b.Value.size : Nat) : Int) ≤ 200) = decide (b.Value.size ≤ 200) := by rw [decide_eq_decide]; omega
  simp only [F_ballots_Valid, validB, h1, h2, bif_some, Option.bind_some, Bool.cond_false_right, Bool.cond_true_left]
@[simp] theorem F_ref23_Valid_eq (b : TBallot) : F_ref23_Valid b = some (validB b) := F_ballots_Valid_eq b
@[simp] theorem F_ref23_LessValue_eq (a b : ByteArray) : F_ref23_LessValue a b = some (lessV a b) := by
  simp only [F_ref23_LessValue, lessV, bif_not, Int.ofNat_inj, Int.ofNat_lt, bif_dec, ite_some]
@[simp] theorem F_ref23_Less_eq (a b : TBallot) : F_ref23_Less a b = some (lessB a b) := by
  simp [F_ref23_Less, lessB, bif_dec, ite_some]
@[simp] theorem F_ref23_Covers_eq (a b : TBallot) : F_ref23_Covers a b = some (covers a b) := by simp [F_ref23_Covers, covers]
@[simp] theorem F_ballots_Covers_eq (a b : TBallot) : F_ballots_Covers a b = some (covers a b) := by simp [F_ballots_Covers, covers]
@[simp] theorem F_ref23_Prepares_eq (p q b : TBallot) : F_ref23_Prepares p q b = some (preparesB p q b) := by simp [F_ref23_Prepares, preparesB]
@[simp] theorem F_ref23_Aborts_eq (p b : TBallot) : F_ref23_Aborts p b = some (aborts p b) := by simp [F_ref23_Aborts, aborts]

/-! ### comparing -/
def cmpI (a b : Int) : Int := if a < b then -1 else if b < a then 1 else 0
def cmpS (a b : ByteArray) : Int := if sless a b then -1 else if sless a b || decide (a = b) then 0 else 1
def orL : List Int → Int
  | [] => 0
  | x :: l => if x = 0 then orL l else x
@[simp] theorem F_cmp_Compare_int_eq (a b : Int) : F_cmp_Compare_int a b = some (cmpI a b) := by
  simp [F_cmp_Compare_int, F_cmp_isNaN_int, cmpI, bif_dec, ite_some]
@[simp] theorem F_cmp_Compare_string_eq (a b : ByteArray) : F_cmp_Compare_string a b = some (cmpS a b) := by
  simp only [F_cmp_Compare_string, F_cmp_isNaN_string, cmpS]
  cases h1 : sless a b <;> by_cases h2 : a = b <;> simp [h2]
theorem F_cmp_Or_int_eq (l : List Int) (hl : l.length ≤ 1000000) : F_cmp_Or_int l = some (orL l) := by
  unfold F_cmp_Or_int
  rw [loopO_range l (by omega) (fun i (_ : Unit) => (i, ())) (fun x _ => some (if x = 0 then .inl () else .inr x)) (fun _ => some 0) (fun i x s hd hx hw => ?_) (fun s hd => ?_) ()]
  · induction l with
    | nil => rfl
    | cons x l ih =>
      rw [foldE, orL]
      by_cases h : x = 0
      · simp only [h, if_true]; exact ih (by simp at hl; omega)
      · simp only [if_neg h]
  · by_cases h : x = 0 <;> simp only [hd, hx, hw, h, cond_true, Option.bind_some] <;> simp
  · simp only [hd, cond_false]
@[simp] theorem F_cmp_Or_int_two (a b : Int) : F_cmp_Or_int [a, b] = some (if a = 0 then b else a) := by
  rw [F_cmp_Or_int_eq _ (by simp)]
  simp only [orL]
  by_cases h : a = 0 <;> by_cases h' : b = 0 <;> simp [h, h']
def cmpV (a b : ByteArray) : Int := if cmpI a.size b.size = 0 then cmpS a b else cmpI a.size b.size
def cmpB (a b : TBallot) : Int := if cmpI a.Counter b.Counter = 0 then cmpV a.Value b.Value else cmpI a.Counter b.Counter
@[simp] theorem F_ballots_CompareValues_eq (a b : ByteArray) : F_ballots_CompareValues a b = some (cmpV a b) := by simp [F_ballots_CompareValues, cmpV]
@[simp] theorem F_ballots_Compare_eq (a b : TBallot) : F_ballots_Compare a b = some (cmpB a b) := by simp [F_ballots_Compare, cmpB]
theorem cmpI_zero (a b : Int) : cmpI a b = 0 ↔ a = b := by unfold cmpI; split <;> (try split) <;> omega
theorem cmpI_neg (a b : Int) : cmpI a b < 0 ↔ a < b := by unfold cmpI; split <;> (try split) <;> omega
theorem cmpS_neg (a b : ByteArray) : cmpS a b < 0 ↔ sless a b = true := by
  unfold cmpS
  split
  · rename_i h; simp [h]
  · rename_i h
    split <;> simp [h]
theorem cmpV_neg (a b : ByteArray) : decide (cmpV a b < 0) = lessV a b := by
  unfold cmpV lessV
  by_cases h : a.size = b.size
  · rw [if_pos ((cmpI_zero _ _).2 (by rw [h])), if_pos h]
    rw [Bool.eq_iff_iff, decide_eq_true_eq, cmpS_neg]
  · rw [if_neg (fun e => h (by have := (cmpI_zero _ _).1 e; omega)), if_neg h, decide_eq_decide, cmpI_neg]
    omega
theorem cmpB_neg (a b : TBallot) : decide (cmpB a b < 0) = lessB a b := by
  unfold cmpB lessB
  by_cases h : a.Counter = b.Counter
  · rw [if_pos ((cmpI_zero _ _).2 h), if_pos h, cmpV_neg]
  · rw [if_neg (fun e => h ((cmpI_zero _ _).1 e)), if_neg h, decide_eq_decide, cmpI_neg]
@[simp] theorem F_ballots_Less_eq (a b : TBallot) : F_ballots_Less a b = some (lessB a b) := by simp [F_ballots_Less, cmpB_neg]
@[simp] theorem F_ballots_Prepares_eq (p q b : TBallot) : F_ballots_Prepares p q b = some (preparesB p q b) := by simp [F_ballots_Prepares, preparesB]
@[simp] theorem F_ballots_Aborts_eq (p b : TBallot) : F_ballots_Aborts p b = some (aborts p b) := by simp [F_ballots_Aborts, aborts]
def finite (b : TBallot) : Bool := validB b && decide (b.Counter ≤ 1000)
@[simp] theorem F_envelopes_finite_eq (b : TBallot) : F_envelopes_finite b = some (finite b) := by simp [F_envelopes_finite, finite]
@[simp] theorem F_envelopes_optional_eq (b : TBallot) : F_envelopes_optional b = some (zeroB b || validB b) := by simp [F_envelopes_optional]
@[simp] theorem F_envelopes_at_eq (e : TEnvelope) (n : Int) : F_envelopes_at e n = some ⟨n, e.Ballot.Value⟩ := rfl
end Go.Proofs.YtncjalhhkmojlaaGreat
