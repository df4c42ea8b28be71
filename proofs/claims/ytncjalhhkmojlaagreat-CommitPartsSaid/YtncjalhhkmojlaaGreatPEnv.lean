/-
  Envelopes: validity and votes, in plain terms. Conditions: none.
-/
import Derived.Test.YtncjalhhkmojlaaGreatPSrc
namespace Go.Proofs.YtncjalhhkmojlaaGreat
open Go.TQ

def at_ (e : TEnvelope) (n : Int) : TBallot := ⟨n, e.Ballot.Value⟩
def primeOk (e : TEnvelope) : Bool := zeroB e.Prime || (!zeroB e.Prepared && lessB e.Prime e.Prepared && !compat e.Prime e.Prepared)
def prepOk (e : TEnvelope) : Bool :=
  finite e.Ballot && (zeroB e.Prepared || validB e.Prepared) && (zeroB e.Prime || validB e.Prime) && primeOk e && decide (0 ≤ e.Low) && decide (e.Low ≤ e.High) && decide (e.High ≤ e.Ballot.Counter)
    && (decide (e.High = 0) || preparesB e.Prepared e.Prime (at_ e e.High)) && (decide (e.Low = 0) || (!aborts e.Prepared (at_ e e.Low) && !aborts e.Prime (at_ e e.Low)))
def ranged (e : TEnvelope) : Bool := decide (1 ≤ e.Low) && decide (e.Low ≤ e.High) && decide (e.High ≤ 1000)
def commOk (e : TEnvelope) : Bool := finite e.Ballot && validB e.Prepared && compat e.Prepared e.Ballot && zeroB e.Prime && ranged e && decide (e.High ≤ e.Prepared.Counter)
def extOk (e : TEnvelope) : Bool := validB e.Ballot && zeroB e.Prepared && zeroB e.Prime && ranged e
def headOk (e : TEnvelope) : Bool := decide (0 ≤ e.Node) && decide (e.Node < 10) && decide (1 ≤ e.Slot) && decide (e.Slot ≤ 1000000) && decide (1 ≤ e.Seq) && decide (e.Seq ≤ 1000000)
def validE (tv : Int) (e : TEnvelope) : Bool :=
  headOk e && decide (tv = 0) && (if e.Kind = 1 then prepOk e else if e.Kind = 2 then commOk e else if e.Kind = 3 then extOk e else false)

theorem dlt (a b : Int) : decide (a < b) = !decide (b ≤ a) := by by_cases h : a < b <;> simp [h] <;> omega
theorem F_prepares_eq (e : TEnvelope) : F_envelopes_prepares e = some (prepOk e) := by
  unfold F_envelopes_prepares prepOk primeOk at_
  simp only [F_ballots_Zero_eq, F_ballots_Less_eq, F_ballots_Compatible_eq, F_envelopes_finite_eq, F_envelopes_optional_eq, F_envelopes_at_eq, F_ballots_Aborts_eq, F_ballots_Prepares_eq, Option.bind_some, bif_some, letJ_eq, dlt, bif_not]
  cases finite e.Ballot <;> cases (zeroB e.Prepared || validB e.Prepared) <;> cases (zeroB e.Prime || validB e.Prime) <;> simp
  by_cases h : e.High = 0 <;> simp [h, Bool.and_assoc]
theorem F_envelopes_Valid_eq {e : TEnvelope} {tv : Int} (hT : F_threshold_Valid e.Trust = some tv) : F_envelopes_Valid e = some (validE tv e) := by
  unfold F_envelopes_Valid validE headOk
  simp [F_prepares_eq, hT, dlt, commOk, extOk, ranged]
  grind
theorem F_ref24_Valid_eq {e : TEnvelope} {tv : Int} (hT : F_ref02_Valid e.Trust = some tv) : F_ref24_Valid e = some (validE tv e) := by
  unfold F_ref24_Valid validE headOk
  simp [hT, dlt, commOk, extOk, ranged, prepOk, finite, primeOk, at_]
  have h9 : decide (e.Node ≤ 9) = !decide (10 ≤ e.Node) := by by_cases h : e.Node ≤ 9 <;> simp [h] <;> omega
  rw [h9]
  generalize (decide (0 ≤ e.Node) && !decide (10 ≤ e.Node) && decide (1 ≤ e.Slot) && decide (e.Slot ≤ 1000000) && decide (1 ≤ e.Seq) && decide (e.Seq ≤ 1000000) && decide (tv = 0)) = hd
  by_cases k1 : e.Kind = 1
  · simp only [k1, decide_true, cond_true, if_true]
    by_cases hl : 0 ≤ e.Low
    · by_cases hh : e.Low ≤ e.High
      · have : decide (e.High ≤ 0) = decide (e.High = 0) := by rw [decide_eq_decide]; omega
        rw [this]
        grind
      · simp [hh]
    · simp [hl]
  · by_cases k2 : e.Kind = 2
    · simp only [k2, decide_true, cond_true, if_true]
      grind
    · simp only [k1, k2, decide_false, cond_false, if_false]
      grind

/-! ### votes -/
def fromC (e : TEnvelope) (v : ByteArray) (lo hi : Int) : Bool := decide (1 ≤ lo) && decide (lo ≤ hi) && decide (e.Ballot.Value = v) && decide (e.Low ≤ lo)
def votesC (e : TEnvelope) (v : ByteArray) (lo hi : Int) : Bool := fromC e v lo hi && (!decide (e.Kind = 1) || (!decide (e.Low = 0) && decide (hi ≤ e.High)))
def acceptsC (e : TEnvelope) (v : ByteArray) (lo hi : Int) : Bool := fromC e v lo hi && (decide (e.Kind = 3) || (decide (e.Kind = 2) && decide (hi ≤ e.High)))
def votesP (e : TEnvelope) (b : TBallot) : Bool := !zeroB b && (if e.Kind = 1 then covers e.Ballot b else compat e.Ballot b)
def acceptsP (e : TEnvelope) (b : TBallot) : Bool := !zeroB b && (if e.Kind = 1 then preparesB e.Prepared e.Prime b else if e.Kind = 2 then covers e.Prepared b else compat e.Ballot b)
def countE (e : TEnvelope) : Int := if e.Kind = 3 then 1000000 else e.Ballot.Counter
@[simp] theorem F_Right_VotesCommit_eq (r : TRight) (v : ByteArray) (lo hi : Int) : F_envelopes_Right_VotesCommit r v lo hi = some (votesC r.Envelope v lo hi) := by
  simp [F_envelopes_Right_VotesCommit, F_envelopes_Right_from, votesC, fromC]
@[simp] theorem F_Right_AcceptsCommit_eq (r : TRight) (v : ByteArray) (lo hi : Int) : F_envelopes_Right_AcceptsCommit r v lo hi = some (acceptsC r.Envelope v lo hi) := by
  simp [F_envelopes_Right_AcceptsCommit, F_envelopes_Right_from, acceptsC, fromC]
@[simp] theorem F_Right_VotesPrepare_eq (r : TRight) (b : TBallot) : F_envelopes_Right_VotesPrepare r b = some (votesP r.Envelope b) := by
  simp only [F_envelopes_Right_VotesPrepare, votesP]
  cases hz : zeroB b <;> by_cases h : r.Envelope.Kind = 1 <;> simp [h, hz]
@[simp] theorem F_Right_AcceptsPrepare_eq (r : TRight) (b : TBallot) : F_envelopes_Right_AcceptsPrepare r b = some (acceptsP r.Envelope b) := by
  simp only [F_envelopes_Right_AcceptsPrepare, acceptsP]
  cases hz : zeroB b <;> by_cases h : r.Envelope.Kind = 1 <;> by_cases h2 : r.Envelope.Kind = 2 <;> simp [h, h2, hz]
@[simp] theorem F_Right_Count_eq (r : TRight) : F_envelopes_Right_Count r = some (countE r.Envelope) := by
  simp [F_envelopes_Right_Count, countE, bif_dec, ite_some]
section
variable {e : TEnvelope} {tv : Int} (hT : F_threshold_Valid e.Trust = some tv)
 include hT
end

/-! ### the example -/
def ups (n : Nat) : List Int := (List.range n).map fun i : Nat => (i : Int)
theorem ups_succ (n : Nat) : ups (n + 1) = ups n ++ [(n : Int)] := by simp [ups, List.range_succ]
@[simp] theorem ups_length (n : Nat) : (ups n).length = n := by simp [ups]
theorem Flat_eq (n : Nat) (hn : n ≤ 1000) (k : Int) : F_play_Flat n k = some ⟨k, ups n, []⟩ := by
  unfold F_play_Flat
  suffices key : ∀ (m i : Nat) (t : TTrust), i + m = n → t.Threshold = k → t.Inner = [] → loopO (fun (v1 : Int × TTrust × (List Int) × Unit) =>
      bif (decide (v1.1 < (n : Int))) then
      bif lenOk 8 (List.length v1.2.2.1 + List.length [v1.1]) then
      some (Sum.inl ((addI .i64 v1.1 (1 : Int)), (TTrust.mk v1.2.1.Threshold ([] : List Int) v1.2.1.Inner), (v1.2.2.1 ++ [v1.1]), ()))
      else none
      else
      Option.map Sum.inr (some (TTrust.mk v1.2.1.Threshold v1.2.2.1 v1.2.1.Inner))) ((i : Int), t, ups i, ()) = some ⟨k, ups n, []⟩ from key n 0 _ (by omega) rfl rfl
  intro m
  induction m with
  | zero =>
    intro i t hi h1 h2
    obtain rfl : i = n := by omega
    refine loopO_inr ?_
    have hd : decide ((i : Int) < (i : Int)) = false := decide_eq_false (Int.lt_irrefl _)
    simp only [hd, cond_false, h1, h2, Option.map_some]
  | succ m ih =>
    intro i t hi h1 h2
    have hd : decide ((i : Int) < (n : Int)) = true := decide_eq_true (by omega)
    have hw : addI .i64 (i : Int) 1 = ((i + 1 : Nat) : Int) := add64 (by omega) (by omega)
    rw [loopO_inl (s' := (((i + 1 : Nat) : Int), ⟨t.Threshold, [], t.Inner⟩, ups (i + 1), ()))]
    · exact ih (i + 1) _ (by omega) h1 h2
    · simp only [hd, hw, cond_true]
      rw [lenOk_small (by simp; omega)]
      simp [ups_succ]
theorem flat_good (n : Nat) (hn : n ≤ 10) (k : Int) (h1 : 1 ≤ k) (h2 : k ≤ n) : GoodT ⟨k, ups n, []⟩ := by
  refine ⟨fun x hx => ?_, ?_, by simpa using hn, .inl rfl, h1, by simpa using h2⟩
  · simp only [ups, List.mem_map, List.mem_range] at hx
    obtain ⟨i, hi, rfl⟩ := hx
    omega
  · show (ups n).Nodup
    exact List.Pairwise.map _ (fun a b h e => h (by omega)) List.nodup_range
/-! ### envelopes of the source -/
structure EnvOf (node slot n : Int) (e : TEnvelope) : Prop where
  node : e.Node = node
  slot : e.Slot = slot
  seq : 1 ≤ e.Seq ∧ e.Seq ≤ 9
  trust : GoodT e.Trust
  nodes : ∀ x ∈ e.Trust.Nodes, x < n
  ne : e.Trust.Nodes ≠ []
  val : Val e.Ballot.Value
  valid : validE 0 e = true
theorem validB_of {b : TBallot} (h1 : 1 ≤ b.Counter) (h2 : b.Counter ≤ 1000) (h3 : Val b.Value) : validB b = true := by
  have := h3.size
  have h4 : b.Value.size ≤ 200 := by omega
  simp [validB, h1, h2, h4, this.1]
theorem Envelope_ok {s : TSrc} (h : OkS s) {node slot : Int} (hn0 : 0 ≤ node) (hn1 : node < 10) (hs0 : 1 ≤ slot) (hs1 : slot ≤ 1000000) {n : Nat} (hn2 : 1 ≤ n) (hn : n ≤ 10) :
    Yd (F_play_Src_Envelope s node slot n) fun p => OkS p.2 ∧ EnvOf node slot n p.1 := by
  unfold F_play_Src_Envelope
  refine (Range_ok h (by omega) (by omega) (by omega)).bind fun p1 ⟨a1, a2, a3, _⟩ => ?_
  have a4 := a3 (by omega)
  refine (Trust_ok a1 hn2 hn).bind fun p2 ⟨b1, b2, b3, b4⟩ => ?_
  refine (Value_ok b1).bind fun p3 ⟨c1, c2⟩ => ?_
  have c3 := c2.size
  have hv : ∀ k : Int, 1 ≤ k → k ≤ 1000 → validB ⟨k, p3.1⟩ = true := fun k h1 h2 => validB_of h1 h2 c2
  simp only [TTrust.eta, TEnvelope.eta]
  have hd : ∀ e : TEnvelope, e.Node = node → e.Slot = slot → e.Seq = p1.1 → headOk e = true := by
    intro e h1 h2 h3
    simp only [headOk, h1, h2, h3, Bool.and_eq_true, decide_eq_true_eq]
    omega
  refine Yd.join (fun v => OkS v.1 ∧ EnvOf node slot n v.2.1) (fun v hv => Yd.some hv) fun j5 hj5 => ?_
  refine (N_ok c1 (by omega)).bind fun p6 ⟨d1, _⟩ => ?_
  refine Yd.join (fun v => OkS v.1 ∧ v.2.1 = TEnvelope.mk node slot p1.1 p2.1 0 ⟨0, noVal⟩ ⟨0, noVal⟩ ⟨0, noVal⟩ 0 0) (fun v ⟨hv1, hv2⟩ => ?_) fun j8 hj8 => ?_
  · -- preparing
    refine Yd.join (fun v => OkS v.1 ∧ EnvOf node slot n v.2.1) (fun v hv => hj5 _ hv) fun j10 hj10 => ?_
    refine (Range_ok hv1 (by omega) (by omega) (by omega)).bind fun p11 ⟨e1, e2, e3, _⟩ => ?_
    have e4 := e3 (by omega)
    simp only [hv2]
    refine Yd.join (fun v => OkS v.1 ∧ v.2.1.Node = node ∧ v.2.1.Slot = slot ∧ v.2.1.Seq = p1.1 ∧ v.2.1.Trust = p2.1 ∧ v.2.1.Kind = 1 ∧ v.2.1.Ballot = ⟨p11.1, p3.1⟩ ∧ (zeroB v.2.1.Prepared = true ∨ validB v.2.1.Prepared = true)) (fun v ⟨f0, f1, f2, f3, f4, f5, f6, f7⟩ => ?_) fun j13 hj13 => ?_
    · rw [f6]
      have g1 : addI .i64 p11.1 1 = p11.1 + 1 := add64 (by omega) (by omega)
      simp only [g1]
      refine (N_ok f0 (by omega)).bind fun p14 ⟨k1, k2, k3, _⟩ => ?_
      have k4 := k3 (by omega)
      have g2 : addI .i64 p14.1 1 = p14.1 + 1 := add64 (by omega) (by omega)
      simp only [g2]
      refine (N_ok k1 (by omega)).bind fun p15 ⟨l1, l2, l3, _⟩ => ?_
      have hTr : ∀ t, t = p2.1 → F_ref02_Valid t = some 0 := fun t ht => by rw [ht]; exact F_ref02_Valid_good b2
      have done : ∀ e : TEnvelope, e.Node = node → e.Slot = slot → e.Seq = p1.1 → e.Trust = p2.1 → e.Ballot = ⟨p11.1, p3.1⟩ → validE 0 e = true → EnvOf node slot n e := by
        intro e h1 h2 h3 h4 h5 h6
        exact ⟨h1, h2, by rw [h3]; exact ⟨a2, a4⟩, by rw [h4]; exact b2, by rw [h4]; exact b3, by rw [h4]; exact b4, by rw [h5]; exact c2, h6⟩
      refine Yd.join (fun w => w.1.Node = node ∧ w.1.Slot = slot ∧ w.1.Seq = p1.1 ∧ w.1.Trust = p2.1 ∧ w.1.Kind = 1 ∧ w.1.Ballot = ⟨p11.1, p3.1⟩ ∧ (zeroB w.1.Prepared = true ∨ validB w.1.Prepared = true) ∧ (validE 0 w.1 = true ∨ w.1.Low = 0)) (fun w ⟨m1, m2, m3, m4, m5, m6, m7, m8⟩ => ?_) fun j17 hj17 => ?_
      · refine Yd.join (fun w => w.1.Node = node ∧ w.1.Slot = slot ∧ w.1.Seq = p1.1 ∧ w.1.Trust = p2.1 ∧ w.1.Kind = 1 ∧ w.1.Ballot = ⟨p11.1, p3.1⟩ ∧ (zeroB w.1.Prepared = true ∨ validB w.1.Prepared = true) ∧ (validE 0 w.1 = true ∨ w.1.Low = 0 ∧ w.1.High = 0)) (fun w ⟨o1, o2, o3, o4, o5, o6, o7, o8⟩ => ?_) fun j19 hj19 => ?_
        · rw [F_ref24_Valid_eq (hTr _ o4)]
          simp only [Option.bind_some, bif_not]
          refine Yd.cond (fun hx => hj10 _ ⟨l1, done _ o1 o2 o3 o4 o6 hx⟩) (fun hx => hj10 _ ⟨l1, done _ o1 o2 o3 o4 o6 ?_⟩)
          rcases o8 with o8 | ⟨o8, o9⟩
          · rw [o8] at hx; cases hx
          · have q1 : finite w.1.Ballot = true := by rw [o6]; simp [finite, hv p11.1 e2 (by omega)]; omega
            have q2 : zeroB (TBallot.mk 0 (ByteArray.mk #[])) = true := by decide +kernel
            have q3 : (zeroB w.1.Prepared || validB w.1.Prepared) = true := by simpa using o7
            have q4 := hd w.1 o1 o2 o3
            have q5 : 0 ≤ w.1.Ballot.Counter := by rw [o6]; show 0 ≤ p11.1; omega
            simp only [validE, headOk, prepOk, primeOk, o5, o8, o9, q1, q2, q3, if_true] at q4 ⊢
            simp [q4, q5]
        · rw [F_ref24_Valid_eq (hTr _ m4)]
          simp only [Option.bind_some, bif_not]
          refine Yd.cond (fun hx => hj19 _ ⟨m1, m2, m3, m4, m5, m6, m7, .inl hx⟩) (fun hx => hj19 _ ⟨m1, m2, m3, m4, m5, m6, m7, .inr ⟨?_, rfl⟩⟩)
          rcases m8 with m8 | m8
          · rw [m8] at hx; cases hx
          · exact m8
      · rw [F_ref24_Valid_eq (e := TEnvelope.mk v.2.1.Node v.2.1.Slot v.2.1.Seq v.2.1.Trust v.2.1.Kind ⟨p11.1, p3.1⟩ v.2.1.Prepared v.2.1.Prime p15.1 p14.1) (tv := 0) (hTr _ f4)]
        simp only [Option.bind_some, bif_not]
        refine Yd.cond (fun hx => hj17 _ ⟨f1, f2, f3, f4, f5, rfl, f7, .inl hx⟩) (fun hx => hj17 _ ⟨f1, f2, f3, f4, f5, rfl, f7, .inr rfl⟩)
    · refine (N_ok e1 (by omega)).bind fun p23 ⟨k1, _⟩ => ?_
      refine Yd.cond (fun _ => ?_) (fun _ => ?_)
      · refine (Low_ok k1).bind fun p24 ⟨l1, l2, l3, l4⟩ => ?_
        refine (N_ok l1 (by omega)).bind fun p25 ⟨m1, _⟩ => ?_
        have hvl := validB_of (b := p24.1) l2 (by omega) l4
        refine Yd.cond (fun _ => ?_) (fun _ => ?_)
        · refine (Low_ok m1).bind fun p26 ⟨o1, _⟩ => ?_
          exact hj13 _ ⟨o1, rfl, rfl, rfl, rfl, rfl, rfl, .inr hvl⟩
        · exact hj13 _ ⟨m1, rfl, rfl, rfl, rfl, rfl, rfl, .inr hvl⟩
      · have z0 : zeroB (TBallot.mk 0 noVal) = true := by decide +kernel
        exact hj13 _ ⟨k1, rfl, rfl, rfl, rfl, rfl, rfl, .inl z0⟩
  · have z0 : zeroB (TBallot.mk 0 (ByteArray.mk #[])) = true := by decide +kernel
    refine Yd.cond (fun _ => ?_) (fun _ => ?_)
    · refine (Range_ok d1 (by omega) (by omega) (by omega)).bind fun p27 ⟨e1, e2, e3, _⟩ => ?_
      refine (Range_ok e1 (by omega) (by omega) (by omega)).bind fun p28 ⟨f1, f2, f3, _⟩ => ?_
      refine (N_ok f1 (by omega)).bind fun p29 ⟨k1, k2, k3, _⟩ => ?_
      refine (N_ok k1 (by omega)).bind fun p30 ⟨l1, l2, l3, _⟩ => ?_
      have e4 := e3 (by omega)
      have f4 := f3 (by omega)
      have k4 := k3 (by omega)
      have l4 := l3 (by omega)
      have g1 : addI .i64 p28.1 p29.1 = p28.1 + p29.1 := add64 (by omega) (by omega)
      have g2 : addI .i64 (p28.1 + p29.1) p30.1 = p28.1 + p29.1 + p30.1 := add64 (by omega) (by omega)
      simp only [g1, g2]
      refine hj5 _ ⟨l1, ⟨rfl, rfl, ⟨a2, a4⟩, b2, b3, b4, c2, ?_⟩⟩
      have q4 := hd ⟨node, slot, p1.1, p2.1, 2, ⟨p27.1, p3.1⟩, ⟨p28.1 + p29.1 + p30.1, p3.1⟩, ⟨0, ByteArray.mk #[]⟩, p28.1, p28.1 + p29.1⟩ rfl rfl rfl
      have q5 := hv p27.1 e2 (by omega)
      have q6 := hv (p28.1 + p29.1 + p30.1) (by omega) (by omega)
      have r1 : p27.1 ≤ 1000 := by omega
      have r2 : p28.1 ≤ p28.1 + p29.1 := by omega
      have r3 : p28.1 + p29.1 ≤ 1000 := by omega
      have r4 : p28.1 + p29.1 ≤ p28.1 + p29.1 + p30.1 := by omega
      simp [validE, q4, commOk, finite, q5, q6, compat, z0, ranged, r1, f2, r3, r4]
      omega
    · refine Yd.cond (fun _ => ?_) (fun _ => ?_)
      · refine (N_ok d1 (by omega)).bind fun p31 ⟨e1, _⟩ => ?_
        refine Yd.cond (fun _ => ?_) (fun _ => hj8 _ ⟨e1, rfl⟩)
        refine (Range_ok e1 (by omega) (by omega) (by omega)).bind fun p32 ⟨f1, f2, f3, _⟩ => ?_
        refine (Range_ok f1 (by omega) (by omega) (by omega)).bind fun p33 ⟨k1, k2, k3, _⟩ => ?_
        refine (N_ok k1 (by omega)).bind fun p34 ⟨l1, l2, l3, _⟩ => ?_
        have f4 := f3 (by omega)
        have k4 := k3 (by omega)
        have l4 := l3 (by omega)
        have g1 : addI .i64 p33.1 p34.1 = p33.1 + p34.1 := add64 (by omega) (by omega)
        simp only [g1]
        refine hj5 _ ⟨l1, ⟨rfl, rfl, ⟨a2, a4⟩, b2, b3, b4, c2, ?_⟩⟩
        have q4 := hd ⟨node, slot, p1.1, p2.1, 3, ⟨p32.1, p3.1⟩, ⟨0, ByteArray.mk #[]⟩, ⟨0, ByteArray.mk #[]⟩, p33.1, p33.1 + p34.1⟩ rfl rfl rfl
        have q5 := hv p32.1 f2 (by omega)
        have r3 : p33.1 + p34.1 ≤ 1000 := by omega
        simp [validE, q4, extOk, q5, z0, ranged, k2, r3]
        omega
      · exact hj8 _ ⟨d1, rfl⟩
end Go.Proofs.YtncjalhhkmojlaaGreat
