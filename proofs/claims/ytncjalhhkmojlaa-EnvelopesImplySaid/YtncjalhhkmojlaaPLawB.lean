/-
  The laws PrepareBlocked and PrepareQuorum as plain functions: they return true. Conditions: none.
-/
import Derived.Test.YtncjalhhkmojlaaPPrep
import Derived.Test.YtncjalhhkmojlaaPLawA
namespace Go.Proofs.Ytncjalhhkmojlaa
open Go.TQ

theorem convU {n : Nat} (h : n < 1000000) : convI .u64 (n : Int) = n := by
  unfold convI IntKind.wrap
  simp [IntKind.signed, IntKind.bits]
  omega
theorem zb : zeroB (TBallot.mk 0 (ByteArray.mk #[])) = true := by decide +kernel
theorem sane25 : F_law25_sane = some true := by
  have hF : F_play_Flat 2 1 = some ⟨1, ups 2, []⟩ := Flat_eq 2 (by omega) 1
  have hJ : F_prepare_Join ⟨2, ByteArray.mk #[97]⟩ ⟨0, ByteArray.mk #[]⟩ ⟨3, ByteArray.mk #[98]⟩ = some (⟨3, ByteArray.mk #[98]⟩, ⟨2, ByteArray.mk #[97]⟩, ()) := by
    have h1 : zeroB ⟨3, ByteArray.mk #[98]⟩ = false := by decide +kernel
    have h2 : zeroB ⟨2, ByteArray.mk #[97]⟩ = false := by decide +kernel
    have h3 : lessB ⟨2, ByteArray.mk #[97]⟩ ⟨3, ByteArray.mk #[98]⟩ = true := by decide +kernel
    have h4 : compat ⟨2, ByteArray.mk #[97]⟩ ⟨3, ByteArray.mk #[98]⟩ = false := by decide +kernel
    unfold F_prepare_Join
    simp only [letJ_eq, F_ballots_Zero_eq, F_ballots_Less_eq, F_ballots_Compatible_eq, Option.bind_some, h1, h2, h3, h4, cond_false, cond_true, Bool.not_false]
  have hT : SmT ⟨1, ups 2, []⟩ := (flat_good 2 (by omega) 1 (by omega) (by omega)).sm
  have hV : F_prepare_View 0 ⟨1, ups 2, []⟩ [] = some ⟨viewN 0 ⟨1, ups 2, []⟩ []⟩ := View_eq (node := 0) (by omega) hT ⟨by simp, by simp⟩
  have hm : viewN 0 ⟨1, ups 2, []⟩ [] = ⟨true, ⟨1, ups 2, []⟩⟩ :: List.replicate 9 noMember := rfl
  simp only [F_law25_sane, hJ, hF, hV, hm, Option.bind_some, eq2_false]
  rfl

theorem Some_ok {s : TSrc} (h : OkS s) : Yd (F_play_Src_Some s 5) fun p => OkS p.2 ∧ ∃ n : Nat, p.1 = n ∧ n < 32 := by
  unfold F_play_Src_Some
  suffices key : ∀ (k i n : Nat) (s : TSrc), i + k = 5 → n < 2 ^ i → OkS s → Yd (loopO _ ((n : Int), (i : Int), s, ())) _ from key 5 0 0 s rfl (by simp) h
  intro k
  induction k with
  | zero =>
    intro i n s hi hn hs
    obtain rfl : i = 5 := by omega
    refine Yd.loop ?_
    refine Yd.inr (Yd.some ⟨hs, n, rfl, hn⟩)
  | succ k ih =>
    intro i n s hi hn hs
    have hd : decide ((i : Int) < 5) = true := decide_eq_true (by omega)
    have hw : addI .i64 (i : Int) 1 = ((i + 1 : Nat) : Int) := add64 (by omega) (by omega)
    refine Yd.loop ?_
    simp only [hd, hw, cond_true, convU (show i < 1000000 by omega)]
    refine (N_ok hs (by omega)).bind fun p ⟨a1, a2, a3, _⟩ => ?_
    rw [if_neg (by omega)]
    have a4 := a3 (by omega)
    have hpw : 2 ^ i ≤ 2 ^ 4 := Nat.pow_le_pow_right (by omega) (by omega)
    have hp2 : 2 ^ (i + 1) = 2 * 2 ^ i := by rw [Nat.pow_succ]; omega
    rcases (show p.1 = 0 ∨ p.1 = 1 by omega) with e | e
    · have h0 : shlI .i64 p.1 (i : Int) = ((0 : Nat) : Int) := by
        rw [e]; show IntKind.i64.wrap (0 * _) = 0; rw [Int.zero_mul]; rfl
      rw [h0, orI_nat n 0 (by omega) (by omega), Nat.or_zero]
      exact Yd.some (ih (i + 1) n p.2 (by omega) (by omega) a1)
    · rw [e, shlI_one i (by omega), orI_nat n (2 ^ i) (by omega) (by omega)]
      refine Yd.some (ih (i + 1) _ p.2 (by omega) ?_ a1)
      exact Nat.or_lt_two_pow (by omega) (by omega)
/-! ### envelopes that prepare -/
def vE (b p : TBallot) (j : Nat) (t : TTrust) : TEnvelope := ⟨j, 1, 1, t, 1, b, p, ⟨0, ByteArray.mk #[]⟩, 0, 0⟩
structure LowB (b : TBallot) : Prop where
  lo : 1 ≤ b.Counter
  hi : b.Counter ≤ 6
  val : Val b.Value
theorem LowB.valid {b : TBallot} (h : LowB b) : validB b = true := validB_of h.lo (by have := h.hi; omega) h.val
theorem LowB.nz {b : TBallot} (h : LowB b) : zeroB b = false := low_nz h.lo
theorem vE_valid {b p : TBallot} (hb : LowB b) (hp : zeroB p = true ∨ validB p = true) {j : Nat} (hj : j < 10) {t : TTrust} (ht : GoodT t) : isValid (vE b p j t) = true := by
  have h1 : (zeroB p || validB p) = true := by simpa using hp
  have h2 := hb.valid
  have h3 := hb.hi
  have h4 := hb.lo
  have h5 : finite b = true := by simp [finite, h2]; omega
  rw [isValid, show (vE b p j t).Trust = t from rfl, tval_good ht]
  have h6 : (j : Int) < 10 := by omega
  have h7 : 0 ≤ b.Counter := by omega
  simp [validE, headOk, prepOk, primeOk, vE, h1, h5, h6, h7, zb]
theorem covers_self {b : TBallot} (h : zeroB b = false) : covers b b = true := by simp [covers, compat, h]
theorem vE_votes {b : TBallot} (hb : LowB b) (p : TBallot) (j : Nat) (t : TTrust) : votesP (vE b p j t) b = true := by
  simp [votesP, vE, hb.nz, covers_self]
theorem vE_acc {b : TBallot} (hb : LowB b) (j : Nat) (t : TTrust) : acceptsP (vE b b j t) b = true := by
  simp [acceptsP, vE, hb.nz, preparesB, covers_self]
theorem vE_nacc {b' b : TBallot} (j : Nat) (t : TTrust) : acceptsP (vE b' ⟨0, ByteArray.mk #[]⟩ j t) b = false := by
  simp [acceptsP, vE, preparesB, covers, zb]
theorem rights_all {l : List TEnvelope} (h : ∀ e ∈ l, isValid e = true) : rights l = l := List.filter_eq_self.2 h
theorem blocked (t : List Int) : F_law25_PrepareBlocked t = some true := by
  refine Yd.eq_true ?_
  unfold F_law25_PrepareBlocked
  refine (New_ok t).bind fun s hs => ?_
  refine (Trust_ok (n := 5) hs (by omega) (by omega)).bind fun p2 ⟨a1, a2, a3, a4⟩ => ?_
  refine (Low_ok a1).bind fun p3 ⟨b1, b2, b3, b4⟩ => ?_
  have hb : LowB p3.1 := ⟨b2, b3, b4⟩
  refine (Some_ok b1).bind fun p4 ⟨c1, n, c2, c3⟩ => ?_
  obtain ⟨z, hz1, hz2, hz3⟩ := andNotI_nat n 1 (by omega) (by omega)
  have hz4 : andNotI .i64 p4.1 1 = (z : Int) := by rw [c2]; exact hz1
  have hz0 : z.testBit 0 = false := by rw [hz3]; simp
  have hz5 : ∀ k, z.testBit k = true → 1 ≤ k ∧ k < 5 := by
    intro k hk
    refine ⟨?_, ?_⟩
    · rcases Nat.eq_zero_or_pos k with rfl | h
      · rw [hz0] at hk; cases hk
      · exact h
    · rcases Nat.lt_or_ge k 5 with h | h
      · exact h
      · have : z.testBit k = false := Nat.testBit_lt_two_pow (Nat.lt_of_lt_of_le (show z < 2 ^ 5 by omega) (Nat.pow_le_pow_right (by omega) h))
        rw [this] at hk; cases hk
  simp only [hz4, TTrust.eta]
  -- what is in the list
  refine Yd.join (fun v => OkS v.2.1 ∧ v.1.length ≤ 1 ∧ ∀ e ∈ v.1, ∃ b', LowB b' ∧ e = vE b' ⟨0, ByteArray.mk #[]⟩ 0 p2.1) (fun v ⟨d1, d2, d3⟩ => ?_) fun j6 hj6 => ?_
  · suffices key : ∀ (k i : Nat) (l : List TEnvelope) (s : TSrc), i + k = 5 → 1 ≤ i → OkS s → l.length ≤ i →
        (∀ e ∈ l, (∃ b', LowB b' ∧ e = vE b' ⟨0, ByteArray.mk #[]⟩ 0 p2.1) ∨ ∃ j t, j < i ∧ z.testBit j = true ∧ GoodT t ∧ e = vE p3.1 p3.1 j t) → (∀ j, j < i → z.testBit j = true → ∃ t, vE p3.1 p3.1 j t ∈ l) →
        Yd (loopO _ ((i : Int), l, s, ())) _ from key 4 1 v.1 v.2.1 rfl (by omega) d1 (by omega) (fun e he => .inl (d3 e he)) (fun j hj hb => by
          obtain rfl : j = 0 := by omega
          rw [hz0] at hb; cases hb)
    intro k
    induction k with
    | zero =>
      intro i l s hi _ hs hlen h1 h2
      obtain rfl : i = 5 := by omega
      refine Yd.loop ?_
      refine Yd.inr ?_
      have hval : ∀ e ∈ l, isValid e = true := by
        intro e he
        rcases h1 e he with ⟨b', hb', rfl⟩ | ⟨j, t, hj, _, ht, rfl⟩
        · exact vE_valid hb' (.inl zb) (by omega) a2
        · exact vE_valid hb (.inr hb.valid) (by omega) ht
      have hsm : SmL l := ⟨by omega, fun e he => by
        rcases h1 e he with ⟨b', hb', rfl⟩ | ⟨j, t, hj, _, ht, rfl⟩
        · exact a2.sm
        · exact ht.sm⟩
      have hV := rView_eq (node := 0) (by omega) (t := p2.1) hsm
      have hA := Accepts_eq (node := 0) (by omega) a2.sm hsm p3.1
      have hB := rBlocks_eq (viewN_sm (node := 0) a2.sm hsm) (v := 0) (s := z) (by omega)
      have hwho : whoN (acceptsP · p3.1) (rights l) = z := by
        refine nat_ext fun k => ?_
        rw [whoN_bit, rights_all hval, Bool.eq_iff_iff, List.any_eq_true]
        constructor
        · rintro ⟨e, he, h3⟩
          simp only [Bool.and_eq_true, decide_eq_true_eq] at h3
          rcases h1 e he with ⟨b', hb', rfl⟩ | ⟨j, t, hj, hjb, ht, rfl⟩
          · rw [vE_nacc] at h3; cases h3.1
          · have : j = k := by simpa [vE] using h3.2
            rw [← this]; exact hjb
        · intro hk
          obtain ⟨t, ht⟩ := h2 k (hz5 k hk).2 hk
          exact ⟨_, ht, by rw [vE_acc hb]; simp [vE]⟩
      have hV' : F_ref25_View 0 p2.1 l = some ⟨viewN 0 p2.1 l⟩ := hV
      have hA' : F_prepare_Accepts 0 p2.1 l p3.1 = some (prepAccepts 0 p2.1 l p3.1) := hA
      have hB' : F_ref11_Blocks ⟨viewN 0 p2.1 l⟩ 0 (z : Int) = some (blocksN (viewN 0 p2.1 l) 0 z) := hB
      simp only [hV', hA', hB', Option.bind_some, sane25]
      rw [prepAccepts, hwho, fedAccepts]
      cases blocksN (viewN 0 p2.1 l) 0 z with
      | true => exact Yd.some rfl
      | false => exact Yd.some rfl
    | succ k ih =>
      intro i l s hi hi1 hs hlen h1 h2
      have hd : decide ((i : Int) < 5) = true := decide_eq_true (by omega)
      have hw : addI .i64 (i : Int) 1 = ((i + 1 : Nat) : Int) := add64 (by omega) (by omega)
      have hbit : decide (andI .i64 (shrI .i64 (z : Int) (i : Int)) 1 = 1) = z.testBit i := by
        have := shr_testBit (s := (z : Int)) (x := (i : Int)) (by omega) (by omega) (by omega) (by omega)
        simp only [Int.toNat_natCast] at this
        rw [Bool.eq_iff_iff, decide_eq_true_eq, this]
      refine Yd.loop ?_
      simp only [hd, hw, cond_true, letJ_eq, convU (show i < 1000000 by omega), hbit, show ¬ (i : Int) < 0 by omega, if_false]
      refine Yd.cond (fun hzi => ?_) (fun hzi => ?_)
      · refine (Trust_ok (n := 5) hs (by omega) (by omega)).bind fun p10 ⟨e1, e2, e3, e4⟩ => ?_
        rw [lenOk_small (by simp; omega)]
        refine Yd.some (ih (i + 1) _ p10.2 (by omega) (by omega) e1 (by simp; omega) (fun e he => ?_) (fun j hj hjb => ?_))
        · rcases List.mem_append.1 he with he | he
          · rcases h1 e he with h3 | ⟨j, t, hj, hjb, ht, rfl⟩
            · exact .inl h3
            · exact .inr ⟨j, t, by omega, hjb, ht, rfl⟩
          · simp only [List.mem_singleton] at he
            exact .inr ⟨i, p10.1, by omega, hzi, e2, he⟩
        · rcases Nat.lt_or_ge j i with hji | hji
          · obtain ⟨t, ht⟩ := h2 j hji hjb
            exact ⟨t, List.mem_append.2 (.inl ht)⟩
          · obtain rfl : j = i := by omega
            exact ⟨p10.1, List.mem_append.2 (.inr (by simp [vE]))⟩
      · refine Yd.some (ih (i + 1) _ s (by omega) (by omega) hs (by omega) (fun e he => ?_) (fun j hj hjb => ?_))
        · rcases h1 e he with h3 | ⟨j, t, hj, hjb, ht, rfl⟩
          · exact .inl h3
          · exact .inr ⟨j, t, by omega, hjb, ht, rfl⟩
        · rcases Nat.lt_or_ge j i with hji | hji
          · exact h2 j hji hjb
          · obtain rfl : j = i := by omega
            rw [hzi] at hjb; cases hjb
  · refine (N_ok c1 (by omega)).bind fun p17 ⟨d1, _⟩ => ?_
    refine Yd.cond (fun _ => ?_) (fun _ => ?_)
    · refine (Low_ok d1).bind fun p18 ⟨e1, e2, e3, e4⟩ => ?_
      rw [lenOk_small (by simp)]
      exact hj6 _ ⟨e1, by simp, fun e he => ⟨p18.1, ⟨e2, e3, e4⟩, by simpa [vE] using he⟩⟩
    · exact hj6 _ ⟨d1, by simp, by simp⟩
end Go.Proofs.Ytncjalhhkmojlaa
