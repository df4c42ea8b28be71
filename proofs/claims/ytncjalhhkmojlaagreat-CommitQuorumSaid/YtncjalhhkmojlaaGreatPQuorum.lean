/-
  The law CommitQuorum as a plain function: it returns true. Conditions: none.
-/
import Derived.Test.YtncjalhhkmojlaaGreatPEnvs
set_option linter.unusedVariables false
namespace Go.Proofs.YtncjalhhkmojlaaGreat
open Go.TQ

/-! ### the values of envelopes that all say the same -/
theorem pdqS_few (s : List ByteArray) (hs : s.length ≤ 12) (lim : Int) : ∃ t : List ByteArray, F_slices_pdqsortCmpFunc_string_c89 s 0 (s.length : Int) lim = some ((), t) ∧ t.Perm s := by
  obtain ⟨t, h1, h2, _⟩ := ins_ok (cmp := F_ballots_CompareValues) (c := cmpV) (fun x y => F_ballots_CompareValues_eq x y) s (by omega)
  refine ⟨t, ?_, h2⟩
  show B_slices_pdqsortCmpFunc_string_c89 (I_slices_pdqsortCmpFunc_string_c89 s.length) s 0 (s.length : Int) lim = some ((), t)
  unfold B_slices_pdqsortCmpFunc_string_c89
  refine loopO_inr ?_
  have e1 : subI .i64 (s.length : Int) 0 = s.length := by rw [sub64 (by omega) (by omega)]; omega
  have e2 : decide ((s.length : Int) ≤ 12) = true := decide_eq_true (by omega)
  have e3 : F_slices_insertionSortCmpFunc_string_c89 s 0 (s.length : Int) = some ((), t) := h1
  simp only [e1, e2, cond_true, e3, Option.bind_some, Option.map_some]
theorem dd_const {α : Type} [DecidableEq α] {v : α} : ∀ {l : List α}, (∀ x ∈ l, x = v) → l.foldl ddStep [v] = [v]
  | [], _ => rfl
  | x :: l, h => by
    have hx := h x (by simp)
    subst hx
    rw [List.foldl_cons, ddStep, if_pos (by simp)]
    exact dd_const fun y hy => h y (by simp [hy])
theorem uniqueS_const {s : List ByteArray} {v : ByteArray} (hs : s.length ≤ 12) (h0 : s ≠ []) (hv : ∀ x ∈ s, x = v) : F_envelopes_unique_string_c89 s = some [v] := by
  obtain ⟨r, hr⟩ := tab_some s.length hs
  obtain ⟨t, h1, h2⟩ := pdqS_few s hs r
  have hc := compact_ok (eq := fun x y : ByteArray => decide (x = y)) (ne := fun x y => !decide (x = y)) (z := ByteArray.mk #[]) (fun _ _ => rfl) (fun _ _ => rfl) t (by rw [h2.length_eq]; omega)
  have hc' : F_slices_Compact_string_string t = some (dd t) := hc
  have hd : dd t = [v] := by
    cases t with
    | nil => exact absurd h2.nil_eq.symm h0
    | cons x t =>
      have hx := hv x (h2.mem_iff.1 (by simp))
      subst hx
      show t.foldl ddStep (ddStep [] x) = [x]
      exact dd_const fun y hy => hv y (h2.mem_iff.1 (by simp [hy]))
  simp only [F_envelopes_unique_string_c89, F_slices_SortFunc_string_string_c89, hr, h1, Option.bind_some, hc', hd]
theorem Values_const {l : List TEnvelope} {v : ByteArray} (hl : SmL l) (hlen : l.length ≤ 12) (h0 : l ≠ []) (hval : ∀ e ∈ l, isValid e = true) (hv : ∀ e ∈ l, e.Ballot.Value = v) : F_envelopes_Values l = some [v] := by
  unfold F_envelopes_Values
  suffices key : ∀ (k i : Nat) (acc : List ByteArray), i + k = l.length → acc = (l.take i).map (·.Ballot.Value) → loopO _ ((i : Int), acc, ()) = some [v] from key l.length 0 [] (by omega) rfl
  intro k
  induction k with
  | zero =>
    intro i acc hi ha
    obtain rfl : i = l.length := by omega
    refine loopO_inr ?_
    have hd : decide (((l.length : Nat) : Int) < ((l.length : Nat) : Int)) = false := decide_eq_false (Int.lt_irrefl _)
    rw [List.take_length] at ha
    have hu : F_envelopes_unique_string_c89 acc = some [v] := by
      rw [ha]
      refine uniqueS_const (by simpa using hlen) (by simpa using h0) fun x hx => ?_
      obtain ⟨e, he, rfl⟩ := List.mem_map.1 hx
      exact hv e he
    simp only [hd, cond_false, hu, Option.bind_some, Option.map_some]
  | succ k ih =>
    intro i acc hi ha
    have hlt : i < l.length := by omega
    have hd : decide ((i : Int) < ((l.length : Nat) : Int)) = true := decide_eq_true (by omega)
    have hw : addI .i64 (i : Int) 1 = ((i + 1 : Nat) : Int) := add64 (by omega) (by omega)
    have hx : idx l (i : Int) = some l[i] := by rw [idx_nat]; exact List.getElem?_eq_getElem hlt
    have hsm := hl.trust _ (List.getElem_mem hlt)
    have hvl := hval _ (List.getElem_mem hlt)
    have hok : lenOk 16 (acc.length + [l[i].Ballot.Value].length) = true := lenOk_small (by rw [ha]; simp; omega)
    refine Eq.trans (loopO_inl (s' := (((i + 1 : Nat) : Int), acc ++ [l[i].Ballot.Value], ())) ?_) (ih (i + 1) _ (by omega) ?_)
    · simp only [hd, hx, hw, cond_true, letJ_eq, Option.bind_some, TTrust.eta, TEnvelope.eta, Valid_eq hsm, hvl, hok]
    · rw [List.take_succ_eq_append_getElem hlt, List.map_append, ha]
      rfl

/-! ### envelopes that vote for commits -/
def vQ (n : Nat) (k : Int) (lo hi : Int) (v : ByteArray) (i : Nat) : TEnvelope := ⟨i, 1, 1, flat n k, 1, ⟨hi, v⟩, ⟨hi, v⟩, ⟨0, ByteArray.mk #[]⟩, lo, hi⟩
section
variable {n : Nat} {k lo hi : Int} {v : ByteArray}
theorem vQ_valid (hn : n ≤ 10) (h1 : 1 ≤ k) (h2 : k ≤ n) (hl : 1 ≤ lo) (hh : lo ≤ hi) (hh2 : hi ≤ 1000) (hv1 : 1 ≤ v.size) (hv2 : v.size ≤ 200) {i : Nat} (hi10 : i < 10) : isValid (vQ n k lo hi v i) = true := by
  rw [isValid, show (vQ n k lo hi v i).Trust = flat n k from rfl, show tval (flat n k) = 0 from tval_good (flat_good n hn k h1 h2)]
  have h5 : (i : Int) < 10 := by omega
  have h6 : 1 ≤ hi := by omega
  have h7 : 0 ≤ lo := by omega
  have h8 : ¬ lo = 0 := by omega
  have h9 : ¬ hi = 0 := by omega
  simp [validE, headOk, prepOk, primeOk, at_, vQ, finite, validB, compat, covers, preparesB, aborts, zeroB, noVal, h5, h6, hv1, hv2, hh, hh2, h7, h8, h9]
theorem vQ_flat (hn : n ≤ 10) (h1 : 1 ≤ k) (h2 : k ≤ n) (hl : 1 ≤ lo) (hh : lo ≤ hi) (hh2 : hi ≤ 1000) (hv1 : 1 ≤ v.size) (hv2 : v.size ≤ 200) : FlatL n k ((List.range n).map (vQ n k lo hi v)) := by
  refine ⟨hn, h1, h2, fun e he => ?_, fun e he => ?_, by simp; omega, fun i hi => ⟨_, List.mem_map.2 ⟨i, List.mem_range.2 hi, rfl⟩, by simp [vQ]⟩⟩
  · obtain ⟨i, hi, rfl⟩ := List.mem_map.1 he
    have hi := List.mem_range.1 hi
    exact vQ_valid hn h1 h2 hl hh hh2 hv1 hv2 (by omega)
  · obtain ⟨i, hi, rfl⟩ := List.mem_map.1 he
    rfl
theorem vQ_acc (i : Nat) (a b : Int) : acceptsC (vQ n k lo hi v i) v a b = false := by simp [acceptsC, vQ]
theorem vQ_vote (i : Nat) {a b : Int} (h1 : 1 ≤ a) (h2 : a ≤ b) (h3 : lo ≤ a) (h4 : b ≤ hi) (h5 : 1 ≤ lo) : votesC (vQ n k lo hi v i) v a b = true := by
  have : ¬ lo = 0 := by omega
  simp [votesC, fromC, vQ, h1, h2, h3, h4, this]
variable (h : FlatL n k ((List.range n).map (vQ n k lo hi v))) {i : Nat} (hi' : i < n)
 include h hi'
theorem vQ_ready {a b : Int} (h1 : 1 ≤ a) (h2 : a ≤ b) (h3 : lo ≤ a) (h4 : b ≤ hi) (h5 : 1 ≤ lo) : commReady i (flat n k) ((List.range n).map (vQ n k lo hi v)) v a b = true := by
  have h10 := h.n10
  have hw : ∀ j, (whoN (fun e => votesC e v a b || acceptsC e v a b) ((List.range n).map (vQ n k lo hi v))).testBit j = (decide (j < n) && true) := whoN_range n _ _ _ (fun _ => rfl) fun j hj => by
    rw [vQ_vote j h1 h2 h3 h4 h5, Bool.true_or]
  have hw2 : whoN (acceptsC · v a b) ((List.range n).map (vQ n k lo hi v)) = 0 := nat_ext fun j => by
    rw [whoN_range n _ _ (fun _ => false) (fun _ => rfl) fun j hj => vQ_acc _ _ _]
    simp
  rw [commReady, h.rights, fedAccepts, hw2, Nat.or_zero, h.yes hi' (fun j hj => by rw [hw] at hj; simpa using hj) (by rw [count_full h.n10 fun j hj => by rw [hw]; simp [hj]]; exact h.kn) (by rw [hw]; simp [hi']), Bool.or_true]
theorem vQ_sure (a b : Int) : commSure i (flat n k) ((List.range n).map (vQ n k lo hi v)) v a b = false := by
  have hw2 : whoN (acceptsC · v a b) ((List.range n).map (vQ n k lo hi v)) = 0 := nat_ext fun j => by
    rw [whoN_range n _ _ (fun _ => false) (fun _ => rfl) fun j hj => vQ_acc _ _ _]
    simp
  rw [commSure, h.rights, hw2]
  refine h.no hi' (by omega) ?_
  have : (ups n).countP (hasN 0) = 0 := by
    rw [List.countP_eq_zero]
    intro x _
    simp [hasN]
  rw [this]
  have := h.k1
  omega
end

/-! ### the bounds -/
def bsOf (lo hi : Int) : List Int := if lo < hi then [lo, hi] else [lo]
theorem bs_asc (lo hi : Int) : (bsOf lo hi).Pairwise (· < ·) := by unfold bsOf; split <;> simp; assumption
theorem bs_mem {lo hi : Int} (h : lo ≤ hi) (x : Int) : x ∈ bsOf lo hi ↔ x = lo ∨ x = hi := by
  unfold bsOf
  split
  · simp
  · have : hi = lo := by omega
    simp [this]
section
variable {n : Nat} {k lo hi : Int} {v : ByteArray}
theorem vQ_bounds (hn0 : 1 ≤ n) (hn : n ≤ 6) (h : FlatL n k ((List.range n).map (vQ n k lo hi v))) (hl : 1 ≤ lo) (hh : lo ≤ hi) : F_envelopes_Bounds ((List.range n).map (vQ n k lo hi v)) v = some (bsOf lo hi) := by
  obtain ⟨b', h1, h2, h3⟩ := Bounds_eq (l := (List.range n).map (vQ n k lo hi v)) (fun e he => h.sm.trust e he) (by simp; omega) v
  rw [h1]
  congr 1
  refine asc_unique h2 (bs_asc lo hi) fun x => ?_
  rw [h3, bs_mem hh, mem_ends]
  constructor
  · rintro ⟨e, he, _, hx⟩
    obtain ⟨i, hi, rfl⟩ := List.mem_map.1 he
    exact hx
  · intro hx
    refine ⟨vQ n k lo hi v 0, List.mem_map.2 ⟨0, List.mem_range.2 (by omega), rfl⟩, ?_, hx⟩
    have h4 := h.valid _ (List.mem_map.2 ⟨0, List.mem_range.2 (show 0 < n by omega), rfl⟩)
    have h6 : ¬ lo = 0 := by omega
    rw [hasBounds, h4]
    simp [vQ, h6]
/-- all say so: the whole range -/
theorem final_all {sure : Int → Int → Bool} (hh : lo ≤ hi) (h1 : sure hi hi = true) (h2 : sure lo hi = true) : finalN (bsOf lo hi) sure = (lo, hi, true, ()) := by
  by_cases hlt : lo < hi
  · have h3 : ¬ hi ≤ lo := by omega
    rw [bsOf, if_pos hlt]
    simp [finalN, h1, h2, downN, h3]
  · have e : hi = lo := by omega
    rw [bsOf, if_neg hlt]
    subst e
    simp [finalN, h1, downN]
theorem down_all {q : Int → Bool} (hh : lo ≤ hi) (h2 : q lo = true) : downN q (bsOf lo hi).reverse hi = lo := by
  by_cases hlt : lo < hi
  · have h3 : ¬ hi ≤ lo := by omega
    rw [bsOf, if_pos hlt]
    simp [h2, downN, h3]
  · have e : hi = lo := by omega
    rw [bsOf, if_neg hlt]
    subst e
    simp [downN]
theorem final_none {sure : Int → Int → Bool} (h : ∀ a b, sure a b = false) (b : List Int) : finalN b sure = (0, 0, false, ()) := by
  unfold finalN
  rw [List.find?_eq_none.2 fun x _ => by simp [h]]
end

/-! ### the first range -/
theorem noAbort {b : TBallot} {x : Int} (b2 : TBallot) (hb2 : zeroB b2 = true) : F_commit_First_1 b.Value x b b2 = some false := by
  simp [F_commit_First_1, F_ballots_Aborts_eq, aborts, compat, hb2]
section
variable {n : Nat} {k lo hi : Int} {v : ByteArray} (hn0 : 1 ≤ n) (hn : n ≤ 6) (h : FlatL n k ((List.range n).map (vQ n k lo hi v))) (hl : 1 ≤ lo) (hh : lo ≤ hi) {i : Nat} (hi' : i < n)
 include hn0 hn h hl hh hi'
theorem First_all : F_commit_First i (flat n k) ((List.range n).map (vQ n k lo hi v)) ⟨hi, v⟩ ⟨0, ByteArray.mk #[]⟩ = some (v, lo, hi, true, ()) := by
  have h10 := h.n10
  have hnode : i < 10 := by omega
  have hval := Values_const (v := v) h.sm (by simp; omega) (by intro e; have := congrArg List.length e; simp at this; omega) h.valid (fun e he => by obtain ⟨j, _, rfl⟩ := List.mem_map.1 he; rfl)
  have hb := vQ_bounds hn0 hn h hl hh
  have hz : zeroB ⟨0, ByteArray.mk #[]⟩ = true := zb
  have hrd : ∀ a b, lo ≤ a → a ≤ b → b ≤ hi → F_commit_ready (seenOf i (flat n k) ((List.range n).map (vQ n k lo hi v))) v a b = some true := fun a b h1 h2 h3 => by
    rw [ready_eq hnode h.good.sm h.sm, vQ_ready h hi' (by omega) h2 h1 h3 hl]
  have hf1 : ∀ x, F_commit_First_1 v x ⟨hi, v⟩ ⟨0, ByteArray.mk #[]⟩ = some false := fun x => noAbort (b := ⟨hi, v⟩) _ hz
  have hdown : F_commit_downward_c103_c99 (bsOf lo hi) hi ⟨hi, v⟩ ⟨0, ByteArray.mk #[]⟩ ⟨hi, v⟩ (seenOf i (flat n k) ((List.range n).map (vQ n k lo hi v))) = some lo := by
    have := down_ok (p := fun e => F_commit_First_2_c99 e ⟨hi, v⟩ ⟨0, ByteArray.mk #[]⟩ ⟨hi, v⟩ (seenOf i (flat n k) ((List.range n).map (vQ n k lo hi v)))) (q := fun x => commReady i (flat n k) ((List.range n).map (vQ n k lo hi v)) v x hi)
      (fun e => by simp only [F_commit_First_2_c99, hf1, ready_eq hnode h.good.sm h.sm, Option.bind_some, Bool.not_false, cond_true]) (bsOf lo hi).reverse hi
    have hq : commReady i (flat n k) ((List.range n).map (vQ n k lo hi v)) v lo hi = true := vQ_ready h hi' hl hh (Int.le_refl _) (Int.le_refl _) hl
    rw [down_all (q := fun x => commReady i (flat n k) ((List.range n).map (vQ n k lo hi v)) v x hi) hh hq] at this
    simp only [F_commit_downward_c103_c99, F_slices_Backward_int_int, letJ_eq, Option.bind_some]
    exact this
  have hless : ∀ (x y : Int) (u : ByteArray), x < y → lessB ⟨x, u⟩ ⟨y, v⟩ = true := fun x y u hxy => by
    have : ¬ x = y := by omega
    simp [lessB, this, hxy]
  have c0 : ((0 : Nat) : Int) = 0 := rfl
  unfold F_commit_First
  have hlook := look_eq hnode h.good.sm h.sm
  have hlook' : F_prepare_Look (i : Int) (TTrust.mk (flat n k).Threshold (flat n k).Nodes (flat n k).Inner) ((List.range n).map (vQ n k lo hi v)) = some (seenOf i (flat n k) ((List.range n).map (vQ n k lo hi v))) := hlook
  simp only [hlook', hval, Option.bind_some, letJ_eq]
  have ix0 : idx [v] (0 : Int) = some v := rfl
  have w0 : addI .i64 0 1 = 1 := rfl
  have w1 : addI .i64 1 1 = 2 := rfl
  refine Eq.trans (loopO_inl (s' := (true, 1, ⟨hi, v⟩, ())) ?_) (loopO_inr ?_)
  · have d0 : decide ((0 : Int) < ((List.length [v] : Nat) : Int)) = true := rfl
    simp only [d0, cond_true, ix0, Option.bind_some, hb]
    unfold bsOf
    split
    · rename_i hlt
      have e0 : decide ((0 : Int) < ((List.length [lo, hi] : Nat) : Int)) = true := rfl
      have e1 : decide ((1 : Int) < ((List.length [lo, hi] : Nat) : Int)) = true := rfl
      have e2 : decide ((2 : Int) < ((List.length [lo, hi] : Nat) : Int)) = false := rfl
      have i0 : idx [lo, hi] (0 : Int) = some lo := rfl
      have i1 : idx [lo, hi] (1 : Int) = some hi := rfl
      refine Eq.trans (loopO_inl (s' := (true, 1, ⟨lo, v⟩, ())) ?_) (Eq.trans (loopO_inl (s' := (true, 2, ⟨hi, v⟩, ())) ?_) (loopO_inr ?_))
      · simp only [e0, cond_true, i0, Option.bind_some, F_ballots_Less_eq, hless 0 lo _ (by omega), hf1, Bool.not_false, hrd lo lo (Int.le_refl _) (Int.le_refl _) hh, w0]
      · simp only [e1, cond_true, i1, Option.bind_some, F_ballots_Less_eq, hless lo hi _ hlt, hf1, Bool.not_false, hrd hi hi hh (Int.le_refl _) (Int.le_refl _), w1]
      · simp only [e2, cond_false, Option.map_some, w0]
    · have hlh : hi = lo := by omega
      subst hlh
      have e0 : decide ((0 : Int) < ((List.length [hi] : Nat) : Int)) = true := rfl
      have e1 : decide ((1 : Int) < ((List.length [hi] : Nat) : Int)) = false := rfl
      have i0 : idx [hi] (0 : Int) = some hi := rfl
      refine Eq.trans (loopO_inl (s' := (true, 1, ⟨hi, v⟩, ())) ?_) (loopO_inr ?_)
      · simp only [e0, cond_true, i0, Option.bind_some, F_ballots_Less_eq, hless 0 hi _ (by omega), hf1, Bool.not_false, hrd hi hi (Int.le_refl _) (Int.le_refl _) hh, w0]
      · simp only [e1, cond_false, Option.map_some, w0]
  · have d1 : decide ((1 : Int) < ((List.length [v] : Nat) : Int)) = false := rfl
    simp only [d1, cond_false, Bool.not_true, hb, Option.bind_some, hdown, Option.map_some]
end

theorem cQuorum (t : List Int) : F_law26_CommitQuorum t = some true := by
  refine Yd.eq_true ?_
  unfold F_law26_CommitQuorum
  refine (New_ok t).bind fun s hs => ?_
  refine (Range_ok hs (by omega) (by omega) (by omega)).bind fun p2 ⟨a1, a2, a3, _⟩ => ?_
  have a4 := a3 (by omega)
  refine (Range_ok a1 (by omega) (by omega) (by omega)).bind fun p3 ⟨b1, b2, b3, _⟩ => ?_
  have b4 := b3 (by omega)
  refine (N_ok b1 (by omega)).bind fun p4 ⟨c1, c2, c3, _⟩ => ?_
  have c4 := c3 (by omega)
  refine (Value_ok c1).bind fun p5 ⟨d1, d2⟩ => ?_
  have hsz := d2.size
  refine (Range_ok d1 (by omega) (by omega) (by omega)).bind fun p6 ⟨e1, e2, e3, _⟩ => ?_
  have e4 := e3 (by omega)
  obtain ⟨n, hn⟩ : ∃ n : Nat, p2.1 = n := ⟨p2.1.toNat, by omega⟩
  have hhi : addI .i64 p3.1 p4.1 = p3.1 + p4.1 := add64 (by omega) (by omega)
  rw [hhi]
  obtain ⟨hi, hhi'⟩ : ∃ hi, p3.1 + p4.1 = hi := ⟨_, rfl⟩
  rw [hhi', hn]
  obtain ⟨lo, hlo⟩ : ∃ lo, p3.1 = lo := ⟨_, rfl⟩
  obtain ⟨k, hk⟩ : ∃ k, p6.1 = k := ⟨_, rfl⟩
  rw [hlo, hk]
  refine (Yd.of_eq (Flat_eq n (by omega) k) rfl : Yd _ fun r => r = ⟨k, ups n, []⟩).bind fun r7 hr7 => ?_
  subst hr7
  have hv := vQ_flat (n := n) (k := k) (lo := lo) (hi := hi) (v := p5.1) (by omega) (by omega) (by omega) (by omega) (by omega) (by omega) hsz.1 (by omega)
  have hc := cE_flat (n := n) (k := k) (c := hi) (v := p5.1) (lo := fun _ => lo) (hi := fun _ => hi) (by omega) (by omega) (by omega) (by omega) (by omega) hsz.1 (by omega) fun i hi => by omega
  have hbv := vQ_bounds (by omega) (by omega) hv (by omega) (by omega)
  have hbc : F_envelopes_Bounds ((List.range n).map (cE n k hi p5.1 (fun _ => lo) (fun _ => hi))) p5.1 = some (bsOf lo hi) :=
    cE_bounds (by omega) hc (fun i hi => by omega) (bs_asc lo hi) fun x => by
      rw [bs_mem (by omega)]
      exact ⟨fun hx => ⟨0, by omega, hx⟩, fun ⟨_, _, hx⟩ => hx⟩
  suffices key : ∀ (m i : Nat), i + m = n → Yd (loopO _ ((i : Int), (List.range i).map (vQ n k lo hi p5.1), (List.range i).map (cE n k hi p5.1 (fun _ => lo) (fun _ => hi)), ())) _ from key n 0 (by omega)
  intro m
  induction m with
  | zero =>
    intro i hin
    obtain rfl : i = n := by omega
    refine Yd.loop ?_
    have hd : decide ((i : Int) < (i : Int)) = false := decide_eq_false (Int.lt_irrefl _)
    simp only [hd, cond_false]
    refine Yd.inr ?_
    suffices key2 : ∀ (m j : Nat), j + m = i → Yd (loopO _ ((j : Int), ())) _ from key2 i 0 (by omega)
    intro m
    induction m with
    | zero =>
      intro j hj
      obtain rfl : j = i := by omega
      refine Yd.loop ?_
      simp only [hd, cond_false, sane26, Option.bind_some]
      exact Yd.inr (Yd.some rfl)
    | succ m ih =>
      intro j hj
      have hd2 : decide ((j : Int) < (i : Int)) = true := decide_eq_true (by omega)
      have hw : addI .i64 (j : Int) 1 = ((j + 1 : Nat) : Int) := add64 (by omega) (by omega)
      have hji : j < i := by omega
      have f1 : F_commit_First j ⟨k, ups i, []⟩ ((List.range i).map (vQ i k lo hi p5.1)) ⟨hi, p5.1⟩ ⟨0, ByteArray.mk #[]⟩ = some (p5.1, lo, hi, true, ()) := First_all (by omega) (by omega) hv (by omega) (by omega) hji
      have f2 : F_commit_Final j ⟨k, ups i, []⟩ ((List.range i).map (cE i k hi p5.1 (fun _ => lo) (fun _ => hi))) p5.1 = some (lo, hi, true, ()) := by
        have := Final_eq (node := j) (by omega) hc.good.sm hc.sm hbc
        rw [final_all (by omega) (sure_yes hc hji fun _ _ => by omega) (sure_yes hc hji fun _ _ => by omega)] at this
        exact this
      have f3 : F_commit_Final j ⟨k, ups i, []⟩ ((List.range i).map (vQ i k lo hi p5.1)) p5.1 = some (0, 0, false, ()) := by
        have := Final_eq (node := j) (by omega) hv.good.sm hv.sm hbv
        rw [final_none (fun a b => vQ_sure hv hji a b)] at this
        exact this
      refine Yd.loop ?_
      simp only [hd2, hw, cond_true, f1, f2, f3, Option.bind_some, Bool.not_true, decide_true, cond_false]
      exact Yd.some (ih (j + 1) (by omega))
  | succ m ih =>
    intro i hin
    have hd : decide ((i : Int) < (n : Int)) = true := decide_eq_true (by omega)
    have hw : addI .i64 (i : Int) 1 = ((i + 1 : Nat) : Int) := add64 (by omega) (by omega)
    have hok : ∀ (f : Nat → TEnvelope) (e : TEnvelope), lenOk 176 (((List.range i).map f).length + [e].length) = true := fun f e => lenOk_small (by simp; omega)
    have hnext : ∀ f : Nat → TEnvelope, (List.range (i + 1)).map f = (List.range i).map f ++ [f i] := fun f => by
      rw [List.range_succ, List.map_append]; rfl
    have ih := ih (i + 1) (by omega)
    rw [hnext, hnext] at ih
    refine Yd.loop ?_
    simp only [hd, hw, cond_true, hok]
    exact Yd.some ih
end Go.Proofs.YtncjalhhkmojlaaGreat
