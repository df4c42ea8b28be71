/-
  The final range of commits and the example of chapter 26. Conditions: lists of modest length.
-/
import Derived.Test.YtncjalhhkmojlaaGreatPComm
set_option linter.unusedVariables false
namespace Go.Proofs.YtncjalhhkmojlaaGreat
open Go.TQ

def finalN (b : List Int) (sure : Int → Int → Bool) : Int × Int × Bool × Unit :=
  match b.reverse.find? (fun e => sure e e) with
  | some e => (downN (fun x => sure x e) b.reverse e, e, true, ())
  | none => (0, 0, false, ())
theorem find_ok {p : Int → Option Bool} {q : Int → Bool} {d : Int → Option Int} {f : Int → Int} (hp : ∀ e, p e = some (q e)) (hd : ∀ e, d e = some (f e)) : ∀ r : List Int, backO (fun (m5 : Nat) (e6 : Int) (v4 : Int × Int × Bool × Unit) =>
    Option.bind (p e6) fun r7 => bif r7 then Option.bind (d e6) fun r8 => Option.map Sum.inr (some (r8, e6, true, ())) else some (Sum.inl (v4.1, v4.2.1, v4.2.2.1, ()))) (fun (v9 : Int × Int × Bool × Unit) => some ((0 : Int), (0 : Int), false, ())) r ((0 : Int), (0 : Int), false, ()) =
    some (match r.find? q with | some e => (f e, e, true, ()) | none => (0, 0, false, ()))
  | [] => rfl
  | e :: r => by
    have ih := find_ok hp hd r
    rw [backO, List.find?_cons]
    simp only [hp, hd, Option.bind_some, Option.map_some] at ih ⊢
    cases q e with
    | true => rfl
    | false => simp only [cond_false]; exact ih
section
variable {node : Nat} (hn : node < 10) {t : TTrust} (ht : SmT t) {l : List TEnvelope} (hl : SmL l)
 include hn ht hl
theorem down84 (b : List Int) (lo : Int) (v : ByteArray) (hi : Int) : F_commit_downward_c105 b lo (seenOf node t l) v hi = some (downN (fun x => commSure node t l v x hi) b.reverse lo) := by
  have := down_ok (p := fun e => F_commit_Final_1 e (seenOf node t l) v hi) (q := fun x => commSure node t l v x hi) (fun e => by simp only [F_commit_Final_1, sure_eq hn ht hl, Option.bind_some]) b.reverse lo
  simp only [F_commit_downward_c105, F_slices_Backward_int_int, letJ_eq, Option.bind_some]
  exact this
theorem Final_eq {v : ByteArray} {b : List Int} (hb : F_envelopes_Bounds l v = some b) : F_commit_Final node t l v = some (finalN b (commSure node t l v)) := by
  have := find_ok (p := fun e => F_commit_sure (seenOf node t l) v e e) (q := fun e => commSure node t l v e e) (d := fun e => F_commit_downward_c105 b e (seenOf node t l) v e) (f := fun e => downN (fun x => commSure node t l v x e) b.reverse e)
    (fun e => sure_eq hn ht hl v e e) (fun e => down84 hn ht hl b e v e) b.reverse
  simp only [F_commit_Final, TTrust.eta, look_eq hn ht hl, hb, F_slices_Backward_int_int, Option.bind_some, finalN]
  exact this
end

section
variable {n : Nat} {k c : Int} {v : ByteArray} {lo hi : Nat → Int} (h : FlatL n k ((List.range n).map (cE n k c v lo hi))) {i : Nat} (hi' : i < n)
 include h hi'
theorem sure_yes {a b : Int} (h1 : ∀ j, j < n → 1 ≤ a ∧ a ≤ b ∧ lo j ≤ a ∧ b ≤ hi j) : commSure i (flat n k) ((List.range n).map (cE n k c v lo hi)) v a b = true := by
  have hw : ∀ j, (whoN (acceptsC · v a b) ((List.range n).map (cE n k c v lo hi))).testBit j = (decide (j < n) && true) := whoN_range n _ _ _ (fun _ => rfl) fun j hj => by
    obtain ⟨a1, a2, a3, a4⟩ := h1 j hj
    rw [cE_acc]
    simp [a1, a2, a3, a4]
  rw [commSure, h.rights]
  refine h.yes hi' (fun j hj => ?_) ?_ ?_
  · rw [hw] at hj
    simpa using hj
  · rw [count_full h.n10 fun j hj => by rw [hw]; simp [hj]]
    exact h.kn
  · rw [hw]
    simp [hi']
theorem sure_no {a b : Int} (S : Nat) (hS : ∀ j, j < n → (decide (1 ≤ a) && decide (a ≤ b) && decide (lo j ≤ a) && decide (b ≤ hi j)) = true → S.testBit j = true) (hc : (((ups n).countP (hasN S) : Nat) : Int) < k) : commSure i (flat n k) ((List.range n).map (cE n k c v lo hi)) v a b = false := by
  have h10 := h.n10
  have hw : ∀ j, (whoN (acceptsC · v a b) ((List.range n).map (cE n k c v lo hi))).testBit j = (decide (j < n) && (decide (1 ≤ a) && decide (a ≤ b) && decide (lo j ≤ a) && decide (b ≤ hi j))) := whoN_range n _ _ _ (fun _ => rfl) fun j hj => cE_acc _ _ _ _ _ _ _ _ _
  rw [commSure, h.rights]
  refine h.no hi' (lt_1024 fun j hj => ?_) (Int.lt_of_le_of_lt (Int.ofNat_le.2 (count_mono (fun j hj => ?_) _)) hc)
  · rw [hw] at hj
    simp only [Bool.and_eq_true, decide_eq_true_eq] at hj
    omega
  · rw [hw, Bool.and_eq_true, decide_eq_true_eq] at hj
    exact hS j hj.1 hj.2
theorem ready_yes {a b : Int} (h1 : ∀ j, j < n → 1 ≤ a ∧ a ≤ b ∧ lo j ≤ a) : commReady i (flat n k) ((List.range n).map (cE n k c v lo hi)) v a b = true := by
  have h10 := h.n10
  have hw : ∀ j, (whoN (fun e => votesC e v a b || acceptsC e v a b) ((List.range n).map (cE n k c v lo hi))).testBit j = (decide (j < n) && true) := whoN_range n _ _ _ (fun _ => rfl) fun j hj => by
    obtain ⟨a1, a2, a3⟩ := h1 j hj
    rw [cE_acc, cE_vote]
    simp [a1, a2, a3]
  have hw2 : ∀ j, (whoN (acceptsC · v a b) ((List.range n).map (cE n k c v lo hi))).testBit j = (decide (j < n) && (decide (1 ≤ a) && decide (a ≤ b) && decide (lo j ≤ a) && decide (b ≤ hi j))) := whoN_range n _ _ _ (fun _ => rfl) fun j hj => cE_acc _ _ _ _ _ _ _ _ _
  rw [commReady, h.rights, fedAccepts]
  have hor : ∀ j, (whoN (fun e => votesC e v a b || acceptsC e v a b) ((List.range n).map (cE n k c v lo hi)) ||| whoN (acceptsC · v a b) ((List.range n).map (cE n k c v lo hi))).testBit j = decide (j < n) := by
    intro j
    rw [Nat.testBit_or, hw, hw2]
    by_cases hj : j < n <;> simp [hj]
  rw [h.yes hi' (fun j hj => by rw [hor] at hj; simpa using hj) (by rw [count_full h.n10 fun j hj => by rw [hor]; simp [hj]]; exact h.kn) (by rw [hor]; simp [hi']), Bool.or_true]
end

/-! ### the example -/
def lo26 (i : Nat) : Int := if i = 1 then 3 else 2
theorem commits26 : F_law26_commits = some ((List.range 3).map (cE 3 3 5 (ByteArray.mk #[97]) lo26 fun _ => 5)) := by
  have hF : F_play_Flat 3 3 = some ⟨3, ups 3, []⟩ := Flat_eq 3 (by omega) 3
  unfold F_law26_commits
  simp only [hF, Option.bind_some, letJ_eq]
  rw [loopO_inl (s' := (1, [cE 3 3 5 (ByteArray.mk #[97]) lo26 (fun _ => 5) 0], ())), loopO_inl (s' := (2, [cE 3 3 5 (ByteArray.mk #[97]) lo26 (fun _ => 5) 0, cE 3 3 5 (ByteArray.mk #[97]) lo26 (fun _ => 5) 1], ())),
    loopO_inl (s' := (3, [cE 3 3 5 (ByteArray.mk #[97]) lo26 (fun _ => 5) 0, cE 3 3 5 (ByteArray.mk #[97]) lo26 (fun _ => 5) 1, cE 3 3 5 (ByteArray.mk #[97]) lo26 (fun _ => 5) 2], ())), loopO_inr (r := [cE 3 3 5 (ByteArray.mk #[97]) lo26 (fun _ => 5) 0, cE 3 3 5 (ByteArray.mk #[97]) lo26 (fun _ => 5) 1, cE 3 3 5 (ByteArray.mk #[97]) lo26 (fun _ => 5) 2])]
  · rfl
  · rfl
  · rfl
  · rfl
  · rfl
theorem sane26 : F_law26_sane = some true := by
  have hF : F_play_Flat 3 3 = some ⟨3, ups 3, []⟩ := Flat_eq 3 (by omega) 3
  have h : FlatL 3 3 ((List.range 3).map (cE 3 3 5 (ByteArray.mk #[97]) lo26 fun _ => 5)) := cE_flat (by omega) (by omega) (by omega) (by omega) (by omega) (by decide) (by decide) fun i hi => by unfold lo26; split <;> omega
  have hb : F_envelopes_Bounds ((List.range 3).map (cE 3 3 5 (ByteArray.mk #[97]) lo26 fun _ => 5)) (ByteArray.mk #[97]) = some [2, 3, 5] := by
    refine cE_bounds (by omega) h (fun i hi => by unfold lo26; split <;> omega) (by simp) fun x => ?_
    constructor
    · intro hx
      simp only [List.mem_cons, List.not_mem_nil, or_false] at hx
      rcases hx with rfl | rfl | rfl
      · exact ⟨0, by omega, .inl rfl⟩
      · exact ⟨1, by omega, .inl rfl⟩
      · exact ⟨0, by omega, .inr rfl⟩
    · rintro ⟨i, hi, rfl | rfl⟩
      · unfold lo26; split <;> simp
      · simp
  have hfin := Final_eq (node := 0) (by omega) h.good.sm h.sm hb
  have s55 := sure_yes h (i := 0) (by omega) (a := 5) (b := 5) fun j hj => by unfold lo26; split <;> omega
  have s35 := sure_yes h (i := 0) (by omega) (a := 3) (b := 5) fun j hj => by unfold lo26; split <;> omega
  have s25 := sure_no h (i := 0) (by omega) (a := 2) (b := 5) 5 (fun j hj hx => by
    match j, hj with
    | 0, _ => rfl
    | 1, _ => simp [lo26] at hx
    | 2, _ => rfl) (by decide)
  have hacc := cAccepts_eq (node := 0) (by omega) h.good.sm h.sm (ByteArray.mk #[97]) 3 5
  rw [ready_yes h (i := 0) (by omega) fun j hj => by unfold lo26; split <;> omega] at hacc
  have hfn : finalN [2, 3, 5] (commSure 0 (flat 3 3) ((List.range 3).map (cE 3 3 5 (ByteArray.mk #[97]) lo26 fun _ => 5)) (ByteArray.mk #[97])) = (3, 5, true, ()) := by
    simp [finalN, downN, s55, s35, s25]
  rw [hfn] at hfin
  have hfin' : F_commit_Final 0 ⟨3, ups 3, []⟩ ((List.range 3).map (cE 3 3 5 (ByteArray.mk #[97]) lo26 fun _ => 5)) (ByteArray.mk #[97]) = some (3, 5, true, ()) := hfin
  have hacc' : F_commit_Accepts 0 ⟨3, ups 3, []⟩ ((List.range 3).map (cE 3 3 5 (ByteArray.mk #[97]) lo26 fun _ => 5)) (ByteArray.mk #[97]) 3 5 = some true := hacc
  simp only [F_law26_sane, hF, commits26, hfin', hacc', Option.bind_some, cond_true, decide_true]
end Go.Proofs.YtncjalhhkmojlaaGreat
