/-
  Commits: who says what, what may be accepted and confirmed, going down, envelopes of nodes that trust the same. Conditions: lists of modest length.
-/
import Derived.Test.YtncjalhhkmojlaaGreatPBnd
set_option linter.unusedVariables false
namespace Go.Proofs.YtncjalhhkmojlaaGreat
open Go.TQ

/-! ### who says what -/
theorem Who_acceptsC {v : TConfig} {node : Int} {l : List TEnvelope} (hl : l.length ≤ 1000000) (hin : InNodes l) (val : ByteArray) (lo hi : Int) : F_prepare_Seen_Who_c187 ⟨node, v, l.map TRight.mk⟩ val lo hi = some ((whoN (acceptsC · val lo hi) l : Nat) : Int) := by
  unfold F_prepare_Seen_Who_c187
  refine who_loop (acceptsC · val lo hi) l hin _ (fun i e s he => ?_) (fun s => ?_)
  · have hlt : i < l.length := (List.getElem?_eq_some_iff.1 he).1
    have hd : decide ((i : Int) < (((l.map TRight.mk).length : Nat) : Int)) = true := decide_eq_true (by rw [List.length_map]; omega)
    have hw : addI .i64 (i : Int) 1 = ((i + 1 : Nat) : Int) := add64 (by omega) (by omega)
    have hx : idx (l.map TRight.mk) (i : Int) = some ⟨e⟩ := by rw [idx_nat, List.getElem?_map, he]; rfl
    simp only [hd, hx, hw, cond_true, Option.bind_some, TTrust.eta, TEnvelope.eta, F_commit_accepts_1, F_Right_AcceptsCommit_eq, letJ_eq]
    cases acceptsC e val lo hi <;> simp
  · have hd : decide (((l.length : Nat) : Int) < (((l.map TRight.mk).length : Nat) : Int)) = false := decide_eq_false (by rw [List.length_map]; exact Int.lt_irrefl _)
    simp only [hd, cond_false, Option.map_some]
theorem Who_eitherC {v : TConfig} {node : Int} {l : List TEnvelope} (hl : l.length ≤ 1000000) (hin : InNodes l) (val : ByteArray) (lo hi : Int) : F_prepare_Seen_Who_c185_c157_c187 ⟨node, v, l.map TRight.mk⟩ val lo hi val lo hi = some ((whoN (fun e => votesC e val lo hi || acceptsC e val lo hi) l : Nat) : Int) := by
  unfold F_prepare_Seen_Who_c185_c157_c187
  refine who_loop (fun e => votesC e val lo hi || acceptsC e val lo hi) l hin _ (fun i e s he => ?_) (fun s => ?_)
  · have hlt : i < l.length := (List.getElem?_eq_some_iff.1 he).1
    have hd : decide ((i : Int) < (((l.map TRight.mk).length : Nat) : Int)) = true := decide_eq_true (by rw [List.length_map]; omega)
    have hw : addI .i64 (i : Int) 1 = ((i + 1 : Nat) : Int) := add64 (by omega) (by omega)
    have hx : idx (l.map TRight.mk) (i : Int) = some ⟨e⟩ := by rw [idx_nat, List.getElem?_map, he]; rfl
    simp only [hd, hx, hw, cond_true, Option.bind_some, TTrust.eta, TEnvelope.eta, F_prepare_Seen_Accepts_1_c157_c187, F_commit_accepts_1, F_commit_ready_1, F_Right_AcceptsCommit_eq, F_Right_VotesCommit_eq, letJ_eq, bif_some, Bool.cond_true_left]
    cases (votesC e val lo hi || acceptsC e val lo hi) <;> simp
  · have hd : decide (((l.length : Nat) : Int) < (((l.map TRight.mk).length : Nat) : Int)) = false := decide_eq_false (by rw [List.length_map]; exact Int.lt_irrefl _)
    simp only [hd, cond_false, Option.map_some]

/-! ### what may be accepted and confirmed -/
noncomputable def seenOf (node : Nat) (t : TTrust) (l : List TEnvelope) : TSeen := ⟨node, ⟨viewN node t l⟩, (rights l).map TRight.mk⟩
noncomputable def commReady (node : Nat) (t : TTrust) (l : List TEnvelope) (val : ByteArray) (lo hi : Int) : Bool :=
  fedAccepts (viewN node t l) node (whoN (fun e => votesC e val lo hi || acceptsC e val lo hi) (rights l)) (whoN (acceptsC · val lo hi) (rights l))
noncomputable def commSure (node : Nat) (t : TTrust) (l : List TEnvelope) (val : ByteArray) (lo hi : Int) : Bool :=
  (gq (viewN node t l) (whoN (acceptsC · val lo hi) (rights l))).testBit node
section
variable {node : Nat} (hn : node < 10) {t : TTrust} (ht : SmT t) {l : List TEnvelope} (hl : SmL l)
 include hn ht hl
theorem ready_eq (val : ByteArray) (lo hi : Int) : F_commit_ready (seenOf node t l) val lo hi = some (commReady node t l val lo hi) := by
  have hlen := hl.len
  have hrl := rights_len l
  have hin := rights_in l
  simp only [seenOf, F_commit_ready, F_commit_accepts, F_prepare_Seen_Accepts_c157_c187, Option.bind_some, Who_eitherC (by omega : (rights l).length ≤ 1000000) hin, Who_acceptsC (by omega : (rights l).length ≤ 1000000) hin,
    fedAccepts_eq (viewN_sm ht hl) hn (whoN_lt hin) (whoN_lt hin), commReady]
theorem sure_eq (val : ByteArray) (lo hi : Int) : F_commit_sure (seenOf node t l) val lo hi = some (commSure node t l val lo hi) := by
  have hlen := hl.len
  have hrl := rights_len l
  have hin := rights_in l
  simp only [seenOf, F_commit_sure, F_commit_accepts, F_prepare_Seen_Confirms_c187, Option.bind_some, Who_acceptsC (by omega : (rights l).length ≤ 1000000) hin, fedConfirms_eq (viewN_sm ht hl) hn (whoN_lt hin), commSure]
theorem look_eq : F_prepare_Look node t l = some (seenOf node t l) := Look_eq hn ht hl
theorem cAccepts_eq (val : ByteArray) (lo hi : Int) : F_commit_Accepts node t l val lo hi = some (commReady node t l val lo hi) := by
  simp only [F_commit_Accepts, TTrust.eta, look_eq hn ht hl, ready_eq hn ht hl, Option.bind_some]
end

/-! ### going down -/
def downN (q : Int → Bool) : List Int → Int → Int
  | [], lo => lo
  | e :: l, lo => if lo ≤ e then downN q l lo else if q e then downN q l e else lo
theorem down_ok {p : Int → Option Bool} {q : Int → Bool} (h : ∀ e, p e = some (q e)) : ∀ (l : List Int) (lo : Int), backO (fun (m5 : Nat) (e6 : Int) (v4 : Int × Unit) =>
    bif (decide (v4.1 ≤ e6)) then some (Sum.inl (v4.1, ())) else
    Option.bind (p e6) fun r7 => bif (!r7) then Option.map Sum.inr (some v4.1) else some (Sum.inl (e6, ()))) (fun v8 => some v8.1) l (lo, ()) = some (downN q l lo)
  | [], lo => rfl
  | e :: l, lo => by
    rw [backO, downN]
    by_cases hle : lo ≤ e
    · rw [if_pos hle]
      simp only [hle, decide_true, cond_true]
      exact down_ok h l lo
    · rw [if_neg hle]
      simp only [hle, decide_false, cond_false, h, Option.bind_some]
      cases hq : q e with
      | true =>
        simp only [Bool.not_true, cond_false, if_true]
        have := down_ok h l e
        simp only [h, Option.bind_some] at this
        exact this
      | false => rfl

/-! ### nodes that trust the same -/
def flat (n : Nat) (k : Int) : TTrust := ⟨k, ups n, []⟩
theorem sat_flat (s n : Nat) (k : Int) : satT s (flat n k) = decide (k ≤ (((ups n).countP (hasN s) : Nat) : Int)) := by
  rw [satT_eq]
  simp [flat, satC]
theorem count_full {s n : Nat} (hn : n ≤ 10) (h : ∀ k, k < n → s.testBit k = true) : (ups n).countP (hasN s) = n := by
  have : (ups n).countP (hasN s) = (ups n).length := by
    rw [List.countP_eq_length]
    intro x hx
    obtain ⟨k, hk, rfl⟩ := mem_ups.1 hx
    simp only [hasN, inNode, Bool.and_eq_true, decide_eq_true_eq, Int.toNat_natCast]
    exact ⟨by omega, h k hk⟩
  rw [this, ups_length]
theorem count_mono {s s' : Nat} (h : ∀ k, s.testBit k = true → s'.testBit k = true) (l : List Int) : l.countP (hasN s) ≤ l.countP (hasN s') := List.countP_mono_left fun x _ hx => hasN_mono h x hx
structure FlatL (n : Nat) (k : Int) (l : List TEnvelope) : Prop where
  n10 : n ≤ 10
  k1 : 1 ≤ k
  kn : k ≤ n
  valid : ∀ e ∈ l, isValid e = true
  trust : ∀ e ∈ l, e.Trust = flat n k
  few : l.length ≤ 1000
  all : ∀ i, i < n → ∃ e ∈ l, e.Node.toNat = i
theorem FlatL.good {n : Nat} {k : Int} {l : List TEnvelope} (h : FlatL n k l) : GoodT (flat n k) := flat_good n h.n10 k h.k1 h.kn
theorem FlatL.sm {n : Nat} {k : Int} {l : List TEnvelope} (h : FlatL n k l) : SmL l := ⟨by have := h.few; omega, fun e he => by rw [h.trust e he]; exact h.good.sm⟩
theorem FlatL.rights {n : Nat} {k : Int} {l : List TEnvelope} (h : FlatL n k l) : Go.Proofs.YtncjalhhkmojlaaGreat.rights l = l := rights_all h.valid
theorem FlatL.sees {n : Nat} {k : Int} {l : List TEnvelope} (h : FlatL n k l) {i j : Nat} (hi : i < n) (hj : j < n) : isDecl (viewN i (flat n k) l) j = true ∧ trustAt (viewN i (flat n k) l) j = flat n k := by
  have h10 := h.n10
  refine view_sees (by omega) (fun _ => flat n k) rfl (fun e he => ?_) (by omega) (.inr ?_)
  · rw [h.rights] at he
    exact h.trust e he
  · obtain ⟨e, he, hn⟩ := h.all j hj
    exact ⟨e, by rw [h.rights]; exact he, hn⟩
/-- enough of them -/
theorem FlatL.yes {n : Nat} {k : Int} {l : List TEnvelope} (h : FlatL n k l) {i : Nat} (hi : i < n) {s : Nat} (hs : ∀ j, s.testBit j = true → j < n) (hc : k ≤ (((ups n).countP (hasN s) : Nat) : Int)) (hb : s.testBit i = true) : (gq (viewN i (flat n k) l) s).testBit i = true := by
  have h10 := h.n10
  have hg := gq_is (viewN_sm (node := i) h.good.sm h.sm) (s := s) (lt_1024 fun j hj => by have := hs j hj; omega)
  refine hg.max s (fun j hj => ?_) i hb
  obtain ⟨h1, h2⟩ := h.sees hi (hs j hj)
  exact ⟨hj, h1, by rw [h2, sat_flat]; exact decide_eq_true hc⟩
/-- not enough of them -/
theorem FlatL.no {n : Nat} {k : Int} {l : List TEnvelope} (h : FlatL n k l) {i : Nat} (hi : i < n) {s : Nat} (hs : s < 1024) (hc : (((ups n).countP (hasN s) : Nat) : Int) < k) : (gq (viewN i (flat n k) l) s).testBit i = false := by
  have hg := gq_is (viewN_sm (node := i) h.good.sm h.sm) hs
  cases hb : (gq (viewN i (flat n k) l) s).testBit i with
  | false => rfl
  | true =>
    have h1 := (hg.inside i hb).2.2
    rw [(h.sees hi hi).2, sat_flat] at h1
    have h1 := of_decide_eq_true h1
    have h2 := count_mono (s' := s) (fun j hj => (hg.inside j hj).1) (ups n)
    omega
theorem whoN_range (n : Nat) (f : Nat → TEnvelope) (p : TEnvelope → Bool) (q : Nat → Bool) (hf : ∀ i, (f i).Node = i) (hp : ∀ i, i < n → p (f i) = q i) (k : Nat) : (whoN p ((List.range n).map f)).testBit k = (decide (k < n) && q k) := by
  rw [whoN_bit, Bool.eq_iff_iff, List.any_eq_true]
  simp only [List.mem_map, List.mem_range, Bool.and_eq_true, decide_eq_true_eq]
  constructor
  · rintro ⟨e, ⟨i, hi, rfl⟩, h1, h2⟩
    rw [hf, Int.toNat_natCast] at h2
    subst h2
    exact ⟨hi, by rw [← hp i hi]; exact h1⟩
  · rintro ⟨h1, h2⟩
    exact ⟨f k, ⟨k, h1, rfl⟩, by rw [hp k h1]; exact h2, by rw [hf, Int.toNat_natCast]⟩

/-! ### envelopes that commit -/
def cE (n : Nat) (k : Int) (c : Int) (v : ByteArray) (lo hi : Nat → Int) (i : Nat) : TEnvelope := ⟨i, 1, 1, flat n k, 2, ⟨c, v⟩, ⟨c, v⟩, ⟨0, ByteArray.mk #[]⟩, lo i, hi i⟩
theorem cE_valid {n : Nat} (hn : n ≤ 10) {k : Int} (h1 : 1 ≤ k) (h2 : k ≤ n) {c : Int} {v : ByteArray} (hc1 : 1 ≤ c) (hc2 : c ≤ 1000) (hv1 : 1 ≤ v.size) (hv2 : v.size ≤ 200) {lo hi : Nat → Int} {i : Nat} (hi10 : i < 10) (hl1 : 1 ≤ lo i) (hl2 : lo i ≤ hi i) (hl3 : hi i ≤ c) : isValid (cE n k c v lo hi i) = true := by
  rw [isValid, show (cE n k c v lo hi i).Trust = flat n k from rfl, show tval (flat n k) = 0 from tval_good (flat_good n hn k h1 h2)]
  have h5 : (i : Int) < 10 := by omega
  have h6 : hi i ≤ 1000 := by omega
  simp [validE, headOk, commOk, cE, finite, validB, compat, ranged, zb, h5, hc1, hc2, hv1, hv2, hl1, hl2, hl3, h6]
theorem cE_flat {n : Nat} (hn : n ≤ 10) {k : Int} (h1 : 1 ≤ k) (h2 : k ≤ n) {c : Int} {v : ByteArray} (hc1 : 1 ≤ c) (hc2 : c ≤ 1000) (hv1 : 1 ≤ v.size) (hv2 : v.size ≤ 200) {lo hi : Nat → Int} (hr : ∀ i, i < n → 1 ≤ lo i ∧ lo i ≤ hi i ∧ hi i ≤ c) : FlatL n k ((List.range n).map (cE n k c v lo hi)) := by
  refine ⟨hn, h1, h2, fun e he => ?_, fun e he => ?_, by simp; omega, fun i hi => ⟨_, List.mem_map.2 ⟨i, List.mem_range.2 hi, rfl⟩, by simp [cE]⟩⟩
  · obtain ⟨i, hi, rfl⟩ := List.mem_map.1 he
    have hi := List.mem_range.1 hi
    obtain ⟨a1, a2, a3⟩ := hr i hi
    exact cE_valid hn h1 h2 hc1 hc2 hv1 hv2 (by omega) a1 a2 a3
  · obtain ⟨i, hi, rfl⟩ := List.mem_map.1 he
    rfl
theorem cE_acc (n : Nat) (k c : Int) (v : ByteArray) (lo hi : Nat → Int) (i : Nat) (a b : Int) : acceptsC (cE n k c v lo hi i) v a b = (decide (1 ≤ a) && decide (a ≤ b) && decide (lo i ≤ a) && decide (b ≤ hi i)) := by
  simp [acceptsC, fromC, cE]
  rfl
theorem cE_vote (n : Nat) (k c : Int) (v : ByteArray) (lo hi : Nat → Int) (i : Nat) (a b : Int) : votesC (cE n k c v lo hi i) v a b = (decide (1 ≤ a) && decide (a ≤ b) && decide (lo i ≤ a)) := by
  simp [votesC, fromC, cE]
  rfl
theorem cE_bounds {n : Nat} (hn : n ≤ 6) {k : Int} {c : Int} {v : ByteArray} {lo hi : Nat → Int} (h : FlatL n k ((List.range n).map (cE n k c v lo hi))) (hpos : ∀ i, i < n → 1 ≤ lo i) {b : List Int} (hb : b.Pairwise (· < ·)) (hm : ∀ x, x ∈ b ↔ ∃ i, i < n ∧ (x = lo i ∨ x = hi i)) : F_envelopes_Bounds ((List.range n).map (cE n k c v lo hi)) v = some b := by
  obtain ⟨b', h1, h2, h3⟩ := Bounds_eq (l := (List.range n).map (cE n k c v lo hi)) (fun e he => h.sm.trust e he) (by simp; omega) v
  rw [h1]
  congr 1
  refine asc_unique h2 hb fun x => ?_
  rw [h3, hm, mem_ends]
  constructor
  · rintro ⟨e, he, _, hx⟩
    obtain ⟨i, hi, rfl⟩ := List.mem_map.1 he
    exact ⟨i, List.mem_range.1 hi, hx⟩
  · rintro ⟨i, hi, hx⟩
    refine ⟨_, List.mem_map.2 ⟨i, List.mem_range.2 hi, rfl⟩, ?_, hx⟩
    have h4 := h.valid _ (List.mem_map.2 ⟨i, List.mem_range.2 hi, rfl⟩)
    have h5 := hpos i hi
    have h6 : ¬ lo i = 0 := by omega
    rw [hasBounds, h4]
    simp [cE, h6]
end Go.Proofs.YtncjalhhkmojlaaGreat
