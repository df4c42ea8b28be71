/-
  Envelopes: validity and votes, in plain terms. Conditions: none.
-/
import Derived.Test.YtncjalhhkmojlaaGreatPSrc
namespace Go.Proofs.YtncjalhhkmojlaaGreat
open Go.TQ

def at_ (e : TEnvelope) (n : Int) : TBallot := ⟨n, e.Ballot.Value⟩
def primeOk (e : TEnvelope) : Bool := zeroB e.Prime || (!zeroB e.Prepared && lessB e.Prime e.Prepared && !compat e.Prime e.Prepared)
def prepOk (e : TEnvelope) : Bool :=
  finite e.Ballot && (zeroB e.Prepared || validB e.Prepared) && (zeroB e.Prime || validB e.Prime) && primeOk e && decide (0 ≤ e.Low) && decide (e.Low ≤ e.High) && decide (e.High ≤ e.Ballot.Counter)
    && (decide (e.High = 0) || preparesB e.Prepared e.Prime (at_ e e.High)) && (decide (e.Low = 0) || (!aborts e.Prepared (at_ e e.Low) && !aborts e.Prime (at_ e e.Low)))
def ranged (e : TEnvelope) : Bool := decide (1 ≤ e.Low) && decide (e.Low ≤ e.High) && decide (e.High ≤ 1000)
def commOk (e : TEnvelope) : Bool := finite e.Ballot && validB e.Prepared && compat e.Prepared e.Ballot && zeroB e.Prime && ranged e && decide (e.High ≤ e.Prepared.Counter)
def extOk (e : TEnvelope) : Bool := validB e.Ballot && zeroB e.Prepared && zeroB e.Prime && ranged e
def headOk (e : TEnvelope) : Bool := decide (0 ≤ e.Node) && decide (e.Node < 10) && decide (1 ≤ e.Slot) && decide (e.Slot ≤ 1000000) && decide (1 ≤ e.Seq) && decide (e.Seq ≤ 1000000)
def validE (tv : Int) (e : TEnvelope) : Bool :=
  headOk e && decide (tv = 0) && (if e.Kind = 1 then prepOk e else if e.Kind = 2 then commOk e else if e.Kind = 3 then extOk e else false)

theorem dlt (a b : Int) : decide (a < b) = !decide (b ≤ a) := by by_cases h : a < b <;> simp [h] <;> omega
theorem F_prepares_eq (e : TEnvelope) : F_envelopes_prepares e = some (prepOk e) := by
  unfold F_envelopes_prepares prepOk primeOk at_
  simp only [F_ballots_Zero_eq, F_ballots_Less_eq, F_ballots_Compatible_eq, F_envelopes_finite_eq, F_envelopes_optional_eq, F_envelopes_at_eq, F_ballots_Aborts_eq, F_ballots_Prepares_eq, Option.bind_some, bif_some, letJ_eq, dlt, bif_not]
  cases finite e.Ballot <;> cases (zeroB e.Prepared || validB e.Prepared) <;> cases (zeroB e.Prime || validB e.Prime) <;> simp
  by_cases h : e.High = 0 <;> simp [h, Bool.and_assoc]
theorem F_envelopes_Valid_eq {e : TEnvelope} {tv : Int} (hT : F_threshold_Valid e.Trust = some tv) : F_envelopes_Valid e = some (validE tv e) := by
  unfold F_envelopes_Valid validE headOk
  simp [F_prepares_eq, hT, dlt, commOk, extOk, ranged]
  grind
/-! ### votes -/
def fromC (e : TEnvelope) (v : ByteArray) (lo hi : Int) : Bool := decide (1 ≤ lo) && decide (lo ≤ hi) && decide (e.Ballot.Value = v) && decide (e.Low ≤ lo)
def votesC (e : TEnvelope) (v : ByteArray) (lo hi : Int) : Bool := fromC e v lo hi && (!decide (e.Kind = 1) || (!decide (e.Low = 0) && decide (hi ≤ e.High)))
def acceptsC (e : TEnvelope) (v : ByteArray) (lo hi : Int) : Bool := fromC e v lo hi && (decide (e.Kind = 3) || (decide (e.Kind = 2) && decide (hi ≤ e.High)))
def votesP (e : TEnvelope) (b : TBallot) : Bool := !zeroB b && (if e.Kind = 1 then covers e.Ballot b else compat e.Ballot b)
def acceptsP (e : TEnvelope) (b : TBallot) : Bool := !zeroB b && (if e.Kind = 1 then preparesB e.Prepared e.Prime b else if e.Kind = 2 then covers e.Prepared b else compat e.Ballot b)
def countE (e : TEnvelope) : Int := if e.Kind = 3 then 1000000 else e.Ballot.Counter
@[simp] theorem F_Right_VotesCommit_eq (r : TRight) (v : ByteArray) (lo hi : Int) : F_envelopes_Right_VotesCommit r v lo hi = some (votesC r.Envelope v lo hi) := by
  simp [F_envelopes_Right_VotesCommit, F_envelopes_Right_from, votesC, fromC]
@[simp] theorem F_Right_AcceptsCommit_eq (r : TRight) (v : ByteArray) (lo hi : Int) : F_envelopes_Right_AcceptsCommit r v lo hi = some (acceptsC r.Envelope v lo hi) := by
  simp [F_envelopes_Right_AcceptsCommit, F_envelopes_Right_from, acceptsC, fromC]
@[simp] theorem F_Right_VotesPrepare_eq (r : TRight) (b : TBallot) : F_envelopes_Right_VotesPrepare r b = some (votesP r.Envelope b) := by
  simp only [F_envelopes_Right_VotesPrepare, votesP]
  cases hz : zeroB b <;> by_cases h : r.Envelope.Kind = 1 <;> simp [h, hz]
@[simp] theorem F_Right_AcceptsPrepare_eq (r : TRight) (b : TBallot) : F_envelopes_Right_AcceptsPrepare r b = some (acceptsP r.Envelope b) := by
  simp only [F_envelopes_Right_AcceptsPrepare, acceptsP]
  cases hz : zeroB b <;> by_cases h : r.Envelope.Kind = 1 <;> by_cases h2 : r.Envelope.Kind = 2 <;> simp [h, h2, hz]
@[simp] theorem F_Right_Count_eq (r : TRight) : F_envelopes_Right_Count r = some (countE r.Envelope) := by
  simp [F_envelopes_Right_Count, countE, bif_dec, ite_some]
section
variable {e : TEnvelope} {tv : Int} (hT : F_threshold_Valid e.Trust = some tv)
 include hT
end

/-! ### the example -/
def ups (n : Nat) : List Int := (List.range n).map fun i : Nat => (i : Int)
theorem ups_succ (n : Nat) : ups (n + 1) = ups n ++ [(n : Int)] := by simp [ups, List.range_succ]
@[simp] theorem ups_length (n : Nat) : (ups n).length = n := by simp [ups]
theorem Flat_eq (n : Nat) (hn : n ≤ 1000) (k : Int) : F_play_Flat n k = some ⟨k, ups n, []⟩ := by
  unfold F_play_Flat
  suffices key : ∀ (m i : Nat) (t : TTrust), i + m = n → t.Threshold = k → t.Inner = [] → loopO (fun (v1 : Int × TTrust × (List Int) × Unit) =>
      bif (decide (v1.1 < (n : Int))) then
      bif lenOk 8 (List.length v1.2.2.1 + List.length [v1.1]) then
      some (Sum.inl ((addI .i64 v1.1 (1 : Int)), (TTrust.mk v1.2.1.Threshold ([] : List Int) v1.2.1.Inner), (v1.2.2.1 ++ [v1.1]), ()))
      else none
      else
      Option.map Sum.inr (some (TTrust.mk v1.2.1.Threshold v1.2.2.1 v1.2.1.Inner))) ((i : Int), t, ups i, ()) = some ⟨k, ups n, []⟩ from key n 0 _ (by omega) rfl rfl
  intro m
  induction m with
  | zero =>
    intro i t hi h1 h2
    obtain rfl : i = n := by omega
    refine loopO_inr ?_
    have hd : decide ((i : Int) < (i : Int)) = false := decide_eq_false (Int.lt_irrefl _)
    simp only [hd, cond_false, h1, h2, Option.map_some]
  | succ m ih =>
    intro i t hi h1 h2
    have hd : decide ((i : Int) < (n : Int)) = true := decide_eq_true (by omega)
    have hw : addI .i64 (i : Int) 1 = ((i + 1 : Nat) : Int) := add64 (by omega) (by omega)
    rw [loopO_inl (s' := (((i + 1 : Nat) : Int), ⟨t.Threshold, [], t.Inner⟩, ups (i + 1), ()))]
    · exact ih (i + 1) _ (by omega) h1 h2
    · simp only [hd, hw, cond_true]
      rw [lenOk_small (by simp; omega)]
      simp [ups_succ]
theorem flat_good (n : Nat) (hn : n ≤ 10) (k : Int) (h1 : 1 ≤ k) (h2 : k ≤ n) : GoodT ⟨k, ups n, []⟩ := by
  refine ⟨fun x hx => ?_, ?_, by simpa using hn, .inl rfl, h1, by simpa using h2⟩
  · simp only [ups, List.mem_map, List.mem_range] at hx
    obtain ⟨i, hi, rfl⟩ := hx
    omega
  · show (ups n).Nodup
    exact List.Pairwise.map _ (fun a b h e => h (by omega)) List.nodup_range
/-! ### envelopes of the source -/
structure EnvOf (node slot n : Int) (e : TEnvelope) : Prop where
  node : e.Node = node
  slot : e.Slot = slot
  seq : 1 ≤ e.Seq ∧ e.Seq ≤ 9
  trust : GoodT e.Trust
  nodes : ∀ x ∈ e.Trust.Nodes, x < n
  ne : e.Trust.Nodes ≠ []
  val : Val e.Ballot.Value
  valid : validE 0 e = true
theorem validB_of {b : TBallot} (h1 : 1 ≤ b.Counter) (h2 : b.Counter ≤ 1000) (h3 : Val b.Value) : validB b = true := by
  have := h3.size
  have h4 : b.Value.size ≤ 200 := by omega
  simp [validB, h1, h2, h4, this.1]
end Go.Proofs.YtncjalhhkmojlaaGreat
