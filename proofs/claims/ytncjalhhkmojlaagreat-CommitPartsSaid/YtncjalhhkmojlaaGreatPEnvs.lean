/-
  Lists of envelopes of the source; more said is no less accepted. Conditions: none.
-/
import Derived.Test.YtncjalhhkmojlaaGreatPFin
set_option linter.unusedVariables false
namespace Go.Proofs.YtncjalhhkmojlaaGreat
open Go.TQ

/-! ### lists of the source -/
structure EnvsOf (n : Nat) (l : List TEnvelope) : Prop where
  of : ∀ e ∈ l, ∃ i : Nat, i < n ∧ EnvOf i 1 n e
  asc : l.Pairwise fun a b => a.Node < b.Node
  len : l.length ≤ n
theorem EnvsOf.sm {n : Nat} {l : List TEnvelope} (h : EnvsOf n l) (hn : n ≤ 1000) : SmL l := ⟨by have := h.len; omega, fun e he => by
  obtain ⟨i, _, hi⟩ := h.of e he
  exact hi.trust.sm⟩
theorem Envelopes_ok {s : TSrc} (h : OkS s) {n : Nat} (hn1 : 1 ≤ n) (hn : n ≤ 10) : Yd (F_play_Src_Envelopes s n 1) fun p => OkS p.2 ∧ EnvsOf n p.1 := by
  unfold F_play_Src_Envelopes
  suffices key : ∀ (k i : Nat) (l : List TEnvelope) (s : TSrc), i + k = n → OkS s → (∀ e ∈ l, ∃ j : Nat, j < i ∧ EnvOf j 1 n e) → l.Pairwise (fun a b => a.Node < b.Node) → l.length ≤ i → Yd (loopO _ ((i : Int), l, s, ())) _ from key n 0 [] s (by omega) h (by simp) .nil (by simp)
  intro k
  induction k with
  | zero =>
    intro i l s hi hs h1 h2 h3
    obtain rfl : i = n := by omega
    refine Yd.loop ?_
    have hd : decide ((i : Int) < (i : Int)) = false := decide_eq_false (Int.lt_irrefl _)
    simp only [hd, cond_false]
    exact Yd.inr (Yd.some ⟨hs, h1, h2, h3⟩)
  | succ k ih =>
    intro i l s hi hs h1 h2 h3
    have hd : decide ((i : Int) < (n : Int)) = true := decide_eq_true (by omega)
    have hw : addI .i64 (i : Int) 1 = ((i + 1 : Nat) : Int) := add64 (by omega) (by omega)
    refine Yd.loop ?_
    simp only [hd, hw, cond_true, letJ_eq]
    refine (N_ok hs (by omega)).bind fun p4 ⟨a1, a2, a3, _⟩ => ?_
    refine Yd.cond (fun _ => ?_) (fun _ => ?_)
    · refine (Envelope_ok a1 (node := i) (slot := 1) (by omega) (by omega) (by omega) (by omega) hn1 hn).bind fun p5 ⟨b1, b2⟩ => ?_
      rw [lenOk_small (by simp; omega)]
      refine Yd.some (ih (i + 1) _ p5.2 (by omega) b1 (fun e he => ?_) ?_ (by simp; omega))
      · rcases List.mem_append.1 he with he | he
        · obtain ⟨j, hj, hje⟩ := h1 e he
          exact ⟨j, by omega, hje⟩
        · simp only [TTrust.eta, TEnvelope.eta, List.mem_singleton] at he
          rw [he]
          exact ⟨i, by omega, b2⟩
      · rw [List.pairwise_append]
        refine ⟨h2, by simp, fun a ha b hb => ?_⟩
        simp only [TTrust.eta, TEnvelope.eta, List.mem_singleton] at hb
        rw [hb, b2.node]
        obtain ⟨j, hj, hje⟩ := h1 a ha
        rw [hje.node]
        omega
    · exact Yd.some (ih (i + 1) _ p4.2 (by omega) a1 (fun e he => by
        obtain ⟨j, hj, hje⟩ := h1 e he
        exact ⟨j, by omega, hje⟩) h2 (by omega))

/-! ### more said is no less accepted -/
theorem Inside.mono {l : List TMember} {s s' r : Nat} (h : ∀ k, s.testBit k = true → s'.testBit k = true) (hi : Inside l s r) : Inside l s' r := fun k hk => ⟨h k (hi k hk).1, (hi k hk).2⟩
theorem gq_mono {c : TConfig} (hc : SmC c) {s s' : Nat} (hs : s < 1024) (hs' : s' < 1024) (h : ∀ k, s.testBit k = true → s'.testBit k = true) (k : Nat) (hk : (gq c.Members s).testBit k = true) : (gq c.Members s').testBit k = true :=
  (gq_is hc hs').max _ ((gq_is hc hs).inside.mono h) k hk
theorem blocks_mono {l : List TMember} {v s s' : Nat} (hs : s < 1024) (hs' : s' < 1024) (h : ∀ k, s.testBit k = true → s'.testBit k = true) (hb : blocksN l v s = true) : blocksN l v s' = true := by
  simp only [blocksN, Bool.and_eq_true, Bool.not_eq_true'] at hb ⊢
  refine ⟨hb.1, ?_⟩
  cases hc : satT (othersN s' v) (trustAt l v) with
  | false => rfl
  | true =>
    have := satT_mono (s := othersN s' v) (s' := othersN s v) (fun k hk => ?_) _ hc
    · rw [this] at hb
      cases hb.2
    · rw [others_bit hs'] at hk
      rw [others_bit hs]
      simp only [Bool.or_eq_true, Bool.and_eq_true, decide_eq_true_eq, Bool.not_eq_true'] at hk ⊢
      rcases hk with ⟨h1, h2⟩ | h1
      · refine .inl ⟨h1, ?_⟩
        cases hb : s.testBit k with
        | false => rfl
        | true => rw [h k hb] at h2; cases h2
      · exact .inr h1
theorem fed_mono {c : TConfig} (hc : SmC c) {v a b a' b' : Nat} (ha : a < 1024) (hb : b < 1024) (ha' : a' < 1024) (hb' : b' < 1024) (h1 : ∀ k, a.testBit k = true → a'.testBit k = true) (h2 : ∀ k, b.testBit k = true → b'.testBit k = true)
    (h : fedAccepts c.Members v a b = true) : fedAccepts c.Members v a' b' = true := by
  simp only [fedAccepts, Bool.or_eq_true] at h ⊢
  rcases h with h | h
  · exact .inl (blocks_mono hb hb' h2 h)
  · refine .inr (gq_mono hc (Nat.or_lt_two_pow (n := 10) ha hb) (Nat.or_lt_two_pow (n := 10) ha' hb') (fun k hk => ?_) v h)
    rw [Nat.testBit_or, Bool.or_eq_true] at hk ⊢
    exact hk.imp (h1 k) (h2 k)
theorem whoN_mono {p q : TEnvelope → Bool} {l : List TEnvelope} (h : ∀ e ∈ l, p e = true → q e = true) (k : Nat) (hk : (whoN p l).testBit k = true) : (whoN q l).testBit k = true := by
  rw [whoN_bit, List.any_eq_true] at hk ⊢
  obtain ⟨e, he, h1⟩ := hk
  rw [Bool.and_eq_true] at h1
  exact ⟨e, he, by rw [h e he h1.1, h1.2]; rfl⟩
theorem from_part {e : TEnvelope} {v : ByteArray} {lo hi k : Int} (h1 : lo ≤ k) (h2 : k ≤ hi) (h : fromC e v lo hi = true) : fromC e v k k = true := by
  simp only [fromC, Bool.and_eq_true, decide_eq_true_eq] at h ⊢
  obtain ⟨⟨⟨a1, a2⟩, a3⟩, a4⟩ := h
  exact ⟨⟨⟨by omega, by omega⟩, a3⟩, by omega⟩
theorem votes_part {e : TEnvelope} {v : ByteArray} {lo hi k : Int} (h1 : lo ≤ k) (h2 : k ≤ hi) (h : votesC e v lo hi = true) : votesC e v k k = true := by
  simp only [votesC, Bool.and_eq_true] at h ⊢
  refine ⟨from_part h1 h2 h.1, ?_⟩
  have h3 := h.2
  simp only [Bool.or_eq_true, Bool.and_eq_true, Bool.not_eq_true', decide_eq_false_iff_not, decide_eq_true_eq] at h3 ⊢
  omega
theorem accepts_part {e : TEnvelope} {v : ByteArray} {lo hi k : Int} (h1 : lo ≤ k) (h2 : k ≤ hi) (h : acceptsC e v lo hi = true) : acceptsC e v k k = true := by
  simp only [acceptsC, Bool.and_eq_true] at h ⊢
  refine ⟨from_part h1 h2 h.1, ?_⟩
  have h3 := h.2
  simp only [Bool.or_eq_true, Bool.and_eq_true, decide_eq_true_eq] at h3 ⊢
  omega
section
variable {node : Nat} {t : TTrust} (ht : SmT t) {l : List TEnvelope} (hl : SmL l) {v : ByteArray} {lo hi k : Int} (h1 : lo ≤ k) (h2 : k ≤ hi)
 include ht hl h1 h2
theorem ready_part (h : commReady node t l v lo hi = true) : commReady node t l v k k = true := by
  have hin := rights_in l
  refine fed_mono (viewN_sm ht hl) (whoN_lt hin) (whoN_lt hin) (whoN_lt hin) (whoN_lt hin) (whoN_mono fun e _ he => ?_) (whoN_mono fun e _ he => accepts_part h1 h2 he) h
  rw [Bool.or_eq_true] at he ⊢
  exact he.imp (votes_part h1 h2) (accepts_part h1 h2)
theorem sure_part (h : commSure node t l v lo hi = true) : commSure node t l v k k = true := by
  have hin := rights_in l
  exact gq_mono (viewN_sm ht hl) (whoN_lt hin) (whoN_lt hin) (whoN_mono fun e _ he => accepts_part h1 h2 he) node h
end
end Go.Proofs.YtncjalhhkmojlaaGreat
