/-
  The laws EnvelopesConsistent, EnvelopesImply, EnvelopesForever as plain functions: they return true. Conditions: what a uint8 is.
-/
import Derived.Test.YtncjalhhkmojlaaPEnv
namespace Go.Proofs.Ytncjalhhkmojlaa
open Go.TQ

theorem lessB_down {lo k : Int} {v : ByteArray} {p : TBallot} (h : lo ≤ k) (hl : lessB ⟨k, v⟩ p = true) : lessB ⟨lo, v⟩ p = true := by
  unfold lessB at hl ⊢
  simp only at hl ⊢
  by_cases h1 : lo = k
  · rw [h1]; exact hl
  · have h2 : lo < p.Counter := by
      split at hl
      · omega
      · simp only [decide_eq_true_eq] at hl; omega
    rw [if_neg (by omega)]
    simpa using h2
theorem aborts_down {lo k : Int} {v : ByteArray} {p : TBallot} (h : lo ≤ k) (ha : aborts p ⟨lo, v⟩ = false) : aborts p ⟨k, v⟩ = false := by
  cases hk : aborts p ⟨k, v⟩ with
  | false => rfl
  | true =>
    simp only [aborts, Bool.and_eq_true, compat] at hk
    simp only [aborts, compat, hk.1.1, hk.1.2, lessB_down h hk.2] at ha
    cases ha
theorem consistent (t : List Int) (n : Int) (h0 : 0 ≤ n) (h1 : n < 256) : F_law24_EnvelopesConsistent t n = some true := by
  refine Yd.eq_true ?_
  unfold F_law24_EnvelopesConsistent
  refine (New_ok t).bind fun s hs => ?_
  refine (N_ok hs (by omega)).bind fun p2 ⟨a1, a2, a3, _⟩ => ?_
  have a4 := a3 (by omega)
  refine (Envelope_ok (n := 5) a1 a2 (by omega) (by omega) (by omega) (by omega) (by omega)).bind fun p3 ⟨b1, b2⟩ => ?_
  refine (Value_ok b1).bind fun p4 ⟨c1, c2⟩ => ?_
  have hT := F_threshold_Valid_good b2.trust
  have hk : ∃ k : Int, addI .i64 1 (remI .i64 (convI .i64 n) 8) = k ∧ 1 ≤ k := by
    have e1 : convI .i64 n = n := wrap64 (by omega) (by omega)
    have e2 : remI .i64 n 8 = n % 8 := Int.tmod_eq_emod_of_nonneg h0
    rw [e1, e2]
    exact ⟨1 + n % 8, add64 (by omega) (by omega), by omega⟩
  obtain ⟨k, hk1, hk2⟩ := hk
  simp only [hk1, TTrust.eta, TEnvelope.eta, sane24, F_VotesCommit_eq hT, b2.valid, F_ref23_Aborts_eq, Option.bind_some, Bool.true_and, bif_not]
  cases hv : votesC p3.1 p4.1 k k with
  | false => exact Yd.some rfl
  | true =>
    by_cases hK : p3.1.Kind = 1
    · have hval := b2.valid
      simp only [validE, hK, if_true, prepOk, Bool.and_eq_true] at hval
      have hlast := hval.2.2
      simp only [votesC, fromC, hK, Bool.and_eq_true, decide_eq_true_eq] at hv
      obtain ⟨⟨⟨⟨_, _⟩, hvv⟩, hlo⟩, hhi⟩ := hv
      have hne : ¬ p3.1.Low = 0 := by
        intro e
        simp [e] at hhi
      simp only [hne, decide_false, Bool.false_or, Bool.and_eq_true, Bool.not_eq_true'] at hlast
      have q1 := aborts_down hlo hlast.1
      have q2 := aborts_down hlo hlast.2
      rw [hvv] at q1 q2
      simp [hK, q1, q2]
      exact Yd.some rfl
    · simp [hK]
      exact Yd.some rfl
theorem covers_iff (p b : TBallot) : covers p b = true ↔ zeroB p = false ∧ p.Value = b.Value ∧ b.Counter ≤ p.Counter := by
  simp [covers, compat, and_assoc]
theorem covers_trans {p x y : TBallot} (h1 : covers p x = true) (h2 : covers x y = true) : covers p y = true := by
  rw [covers_iff] at *
  exact ⟨h1.1, h1.2.1.trans h2.2.1, by omega⟩
theorem compat_trans {p x y : TBallot} (h1 : compat p x = true) (h2 : covers x y = true) : compat p y = true := by
  rw [covers_iff] at h2
  simp only [compat, decide_eq_true_eq] at *
  exact h1.trans h2.2.1
theorem prepares_trans {p q x y : TBallot} (h1 : preparesB p q x = true) (h2 : covers x y = true) : preparesB p q y = true := by
  simp only [preparesB, Bool.or_eq_true, Bool.and_eq_true] at *
  rcases h1 with (h1 | h1) | h1
  · exact .inl (.inl (covers_trans h1 h2))
  · exact .inl (.inr (covers_trans h1 h2))
  · refine .inr ⟨h1.1, ?_⟩
    rw [covers_iff] at h2
    have := h1.2
    obtain ⟨xc, xv⟩ := x
    obtain ⟨yc, yv⟩ := y
    simp only at h2
    rw [h2.2.1] at this
    exact lessB_down h2.2.2 this
theorem low_nz {b : TBallot} (h : 1 ≤ b.Counter) : zeroB b = false := by
  have : ¬ b.Counter = 0 := by omega
  simp [zeroB, this]
theorem imply (t : List Int) : F_law24_EnvelopesImply t = some true := by
  refine Yd.eq_true ?_
  unfold F_law24_EnvelopesImply
  refine (New_ok t).bind fun s hs => ?_
  refine (N_ok hs (by omega)).bind fun p2 ⟨a1, a2, a3, _⟩ => ?_
  have a4 := a3 (by omega)
  refine (Envelope_ok (n := 5) a1 a2 (by omega) (by omega) (by omega) (by omega) (by omega)).bind fun p3 ⟨b1, b2⟩ => ?_
  have hT := F_threshold_Valid_good b2.trust
  simp only [TTrust.eta, TEnvelope.eta, sane24, F_envelopes_Valid_eq hT, F_VotesCommit_eq hT, F_AcceptsCommit_eq hT, F_VotesPrepare_eq hT, F_AcceptsPrepare_eq hT, b2.valid, F_ref23_Covers_eq, Option.bind_some, Bool.true_and, bif_not, cond_true]
  refine (Range_ok b1 (by omega) (by omega) (by omega)).bind fun p4 ⟨c1, c2, c3, _⟩ => ?_
  have c4 := c3 (by omega)
  refine (N_ok c1 (by omega)).bind fun p5 ⟨d1, d2, d3, _⟩ => ?_
  have d4 := d3 (by omega)
  have e1 : addI .i64 p4.1 p5.1 = p4.1 + p5.1 := add64 (by omega) (by omega)
  simp only [e1]
  refine (Range_ok d1 (by omega) (by omega) (by omega)).bind fun p6 ⟨f1, f2, f3, _⟩ => ?_
  have f4 := f3 (by omega)
  refine (Value_ok f1).bind fun p7 ⟨g1, g2⟩ => ?_
  refine (Value_ok g1).bind fun p8 ⟨k1, k2⟩ => ?_
  refine (Low_ok k1).bind fun p9 ⟨l1, l2, l3, l4⟩ => ?_
  refine (Low_ok l1).bind fun p10 ⟨m1, m2, m3, m4⟩ => ?_
  generalize p4.1 = low at *
  generalize hhi : low + p5.1 = high at *
  have hx := low_nz l2
  have hy := low_nz m2
  have q1 : acceptsC p3.1 p7.1 low high = true → votesC p3.1 p7.1 low high = true := by
    simp only [acceptsC, votesC, Bool.and_eq_true, Bool.or_eq_true, decide_eq_true_eq, Bool.not_eq_true', decide_eq_false_iff_not]
    rintro ⟨h1, h2⟩
    refine ⟨h1, .inl ?_⟩
    omega
  have q0 : fromC p3.1 p7.1 low high = true → fromC p3.1 p7.1 p6.1 high = true := by
    simp only [fromC, Bool.and_eq_true, decide_eq_true_eq]
    rintro ⟨⟨⟨h1, h2⟩, h3⟩, h4⟩
    exact ⟨⟨⟨by omega, by omega⟩, h3⟩, by omega⟩
  have q2 : votesC p3.1 p7.1 low high = true → votesC p3.1 p7.1 p6.1 high = true := by
    simp only [votesC, Bool.and_eq_true]
    exact fun h => ⟨q0 h.1, h.2⟩
  have q3 : acceptsC p3.1 p7.1 low high = true → acceptsC p3.1 p7.1 p6.1 high = true := by
    simp only [acceptsC, Bool.and_eq_true]
    exact fun h => ⟨q0 h.1, h.2⟩
  have q4 : ¬ p7.1 = p8.1 → votesC p3.1 p7.1 low high = true → votesC p3.1 p8.1 low high = false := by
    intro hne h1
    cases h2 : votesC p3.1 p8.1 low high with
    | false => rfl
    | true =>
      simp only [votesC, fromC, Bool.and_eq_true, decide_eq_true_eq] at h1 h2
      exact absurd (h1.1.1.2.symm.trans h2.1.1.2) hne
  have q5 : acceptsP p3.1 p9.1 = true → covers p9.1 p10.1 = true → acceptsP p3.1 p10.1 = true := by
    intro h1 h2
    simp only [acceptsP, hx, hy, Bool.not_false, Bool.true_and] at h1 ⊢
    by_cases k1 : p3.1.Kind = 1
    · rw [if_pos k1] at h1 ⊢; exact prepares_trans h1 h2
    · rw [if_neg k1] at h1 ⊢
      by_cases k2 : p3.1.Kind = 2
      · rw [if_pos k2] at h1 ⊢; exact covers_trans h1 h2
      · rw [if_neg k2] at h1 ⊢; exact compat_trans h1 h2
  have q6 : votesP p3.1 p9.1 = true → covers p9.1 p10.1 = true → votesP p3.1 p10.1 = true := by
    intro h1 h2
    simp only [votesP, hx, hy, Bool.not_false, Bool.true_and] at h1 ⊢
    by_cases k1 : p3.1.Kind = 1
    · rw [if_pos k1] at h1 ⊢; exact covers_trans h1 h2
    · rw [if_neg k1] at h1 ⊢; exact compat_trans h1 h2
  generalize acceptsC p3.1 p7.1 low high = A1 at *
  generalize votesC p3.1 p7.1 low high = V1 at *
  generalize votesC p3.1 p7.1 p6.1 high = V2 at *
  generalize acceptsC p3.1 p7.1 p6.1 high = A2 at *
  generalize votesC p3.1 p8.1 low high = V3 at *
  generalize acceptsP p3.1 p9.1 = X1 at *
  generalize acceptsP p3.1 p10.1 = X2 at *
  generalize votesP p3.1 p9.1 = Y1 at *
  generalize votesP p3.1 p10.1 = Y2 at *
  generalize covers p9.1 p10.1 = C at *
  simp only [bif_some, Option.bind_some]
  refine Yd.some ?_
  by_cases hvw : p7.1 = p8.1
  · simp only [hvw, decide_true, cond_true]
    cases A1 <;> cases V1 <;> simp_all <;> cases C <;> simp_all <;> cases X1 <;> simp_all <;> cases Y1 <;> simp_all
  · have q4 := q4 hvw
    simp only [hvw, decide_false, cond_false]
    cases A1 <;> cases V1 <;> simp_all <;> cases C <;> simp_all <;> cases X1 <;> simp_all <;> cases Y1 <;> simp_all
theorem u8_in {n : Int} (h0 : 0 ≤ n) (h1 : n < 256) : convI .i64 n = n := wrap64 (by omega) (by omega)
theorem forever (t : List Int) (n k : Int) (h0 : 0 ≤ n) (h1 : n < 256) (h2 : 0 ≤ k) (h3 : k < 256) : F_law24_EnvelopesForever t n k = some true := by
  refine Yd.eq_true ?_
  unfold F_law24_EnvelopesForever
  refine (New_ok t).bind fun s hs => ?_
  refine (Value_ok hs).bind fun p2 ⟨a1, a2⟩ => ?_
  refine (Range_ok a1 (by omega) (by omega) (by omega)).bind fun p3 ⟨b1, b2, b3, _⟩ => ?_
  have b4 := b3 (by omega)
  refine (N_ok b1 (by omega)).bind fun p4 ⟨c1, c2, c3, _⟩ => ?_
  have c4 := c3 (by omega)
  refine (Trust_ok (n := 5) c1 (by omega) (by omega)).bind fun p5 ⟨d1, d2, d3, d4⟩ => ?_
  refine (N_ok d1 (by omega)).bind fun p6 ⟨e1, e2, e3, _⟩ => ?_
  have e4 := e3 (by omega)
  refine (Value_ok e1).bind fun p7 ⟨f1, f2⟩ => ?_
  have hT := F_threshold_Valid_good d2
  have g1 : addI .i64 p3.1 p6.1 = p3.1 + p6.1 := add64 (by omega) (by omega)
  have g2 : addI .i64 p3.1 n = p3.1 + n := add64 (by omega) (by omega)
  have g3 : addI .i64 (p3.1 + n) k = p3.1 + n + k := add64 (by omega) (by omega)
  have g4 : subI .i64 p3.1 1 = p3.1 - 1 := sub64 (by omega) (by omega)
  simp only [u8_in h0 h1, u8_in h2 h3, g1, g2, g3, g4, TTrust.eta]
  have hE : ∀ e : TEnvelope, e = TEnvelope.mk p4.1 1 1 p5.1 3 ⟨p3.1, p2.1⟩ ⟨0, ByteArray.mk #[]⟩ ⟨0, ByteArray.mk #[]⟩ p3.1 (p3.1 + p6.1) → validE 0 e = true := by
    intro e he
    subst he
    have q1 := validB_of (b := ⟨p3.1, p2.1⟩) b2 (by show p3.1 ≤ 1000; omega) a2
    have q2 : zeroB (TBallot.mk 0 (ByteArray.mk #[])) = true := by decide +kernel
    simp only [validE, headOk, extOk, ranged, q1, q2]
    simp
    omega
  generalize hee : TEnvelope.mk p4.1 1 1 p5.1 3 ⟨p3.1, p2.1⟩ ⟨0, ByteArray.mk #[]⟩ ⟨0, ByteArray.mk #[]⟩ p3.1 (p3.1 + p6.1) = e
  have hv := hE e hee.symm
  have hTe : F_threshold_Valid e.Trust = some 0 := by rw [← hee]; exact hT
  have r1 : acceptsC e p2.1 (p3.1 + n) (p3.1 + n + k) = true := by
    rw [← hee]
    simp [acceptsC, fromC]
    omega
  have r2 : acceptsP e ⟨p3.1 + n + k, p2.1⟩ = true := by
    rw [← hee]
    have := low_nz (b := ⟨p3.1 + n + k, p2.1⟩) (by show 1 ≤ p3.1 + n + k; omega)
    simp [acceptsP, this, compat]
  have r3 : ¬ p7.1 = p2.1 → votesC e p7.1 (p3.1 + n) (p3.1 + n + k) = false := by
    intro hne
    rw [← hee]
    have : ¬ p2.1 = p7.1 := fun e => hne e.symm
    simp [votesC, fromC, this]
  have r4 : ¬ p7.1 = p2.1 → votesP e ⟨p3.1 + n, p7.1⟩ = false := by
    intro hne
    rw [← hee]
    have : ¬ p2.1 = p7.1 := fun e => hne e.symm
    simp [votesP, compat, this]
  have r5 : acceptsC e p2.1 (p3.1 - 1) (p3.1 + n + k) = false := by
    rw [← hee]
    have : ¬ p3.1 ≤ p3.1 - 1 := by omega
    simp [acceptsC, fromC, this]
  have r6 : countE e = 1000000 := by rw [← hee]; rfl
  simp only [F_envelopes_Valid_eq hTe, F_VotesCommit_eq hTe, F_AcceptsCommit_eq hTe, F_VotesPrepare_eq hTe, F_AcceptsPrepare_eq hTe, F_Counter_eq hTe, hv, r1, r2, r5, r6, sane24, Option.bind_some, Bool.true_and, cond_true, bif_not, if_true]
  by_cases hw : p7.1 = p2.1
  · simp [hw]
    exact Yd.some rfl
  · simp [hw, r3 hw, r4 hw]
    exact Yd.some rfl
end Go.Proofs.Ytncjalhhkmojlaa
