/-
  slices.Compact as a plain function, generic in elements. Conditions: lengths below 10^9.
-/
import Derived.Test.YtncjalhhkmojlaaGreatPSort
set_option linter.unusedVariables false
namespace Go.Proofs.YtncjalhhkmojlaaGreat
open Go.TQ

section
variable {α : Type}
noncomputable def cpIn (eq ne : α → α → Bool) (z : α) (K : Int) (n : Nat) (v6 : Int × Int × (List α) × Unit) : Option ((Int × Int × (List α) × Unit) ⊕ ((Int × (List α) × Unit) ⊕ List α)) :=
 bif (decide (v6.2.1 < ((List.length ((v6.2.2.1.drop (Int.toNat K)).take (Int.toNat (n : Int) - Int.toNat K)) : Nat) : Int))) then
 letJ (fun (v7 : Int × (List α) × Unit) =>
 some (Sum.inl (v7.1, (addI .i64 v6.2.1 (1 : Int)), v7.2.1, ()))) fun j8 =>
 Option.bind (idx ((v6.2.2.1.drop (Int.toNat K)).take (Int.toNat (n : Int) - Int.toNat K)) v6.2.1) fun x9 =>
 Option.bind (v6.2.2.1[((Int.toNat K) + Int.toNat v6.2.1)]?) fun x10 =>
 Option.bind (idx ((v6.2.2.1.drop (Int.toNat K)).take (Int.toNat (n : Int) - Int.toNat K)) (subI .i64 v6.2.1 (1 : Int))) fun x11 =>
 Option.bind (v6.2.2.1[((Int.toNat K) + Int.toNat (subI .i64 v6.2.1 (1 : Int)))]?) fun x12 =>
 bif (ne x10 x12) then
 Option.bind (idx ((v6.2.2.1.drop (Int.toNat K)).take (Int.toNat (n : Int) - Int.toNat K)) v6.2.1) fun x13 =>
 Option.bind (v6.2.2.1[((Int.toNat K) + Int.toNat v6.2.1)]?) fun x14 =>
 Option.bind (idx v6.2.2.1 v6.1) fun x15 =>
 Option.bind (v6.2.2.1[(Int.toNat v6.1)]?) fun x16 =>
 j8 ((addI .i64 v6.1 (1 : Int)), (v6.2.2.1.set (Int.toNat v6.1) x14), ())
 else
 j8 (v6.1, v6.2.2.1, ())
 else
 Option.map Sum.inr (bif slcOk v6.1 ((List.length v6.2.2.1) : Int) (List.length v6.2.2.1) then
 bif slcOk (0 : Int) v6.1 (List.length (v6.2.2.1.take (Int.toNat v6.1) ++ List.replicate (Int.toNat ((List.length v6.2.2.1) : Int) - Int.toNat v6.1) z ++ v6.2.2.1.drop ((Int.toNat v6.1) + (Int.toNat ((List.length v6.2.2.1) : Int) - Int.toNat v6.1)))) then
 Option.map Sum.inr (some ((v6.2.2.1.take (Int.toNat v6.1) ++ List.replicate (Int.toNat ((List.length v6.2.2.1) : Int) - Int.toNat v6.1) z ++ v6.2.2.1.drop ((Int.toNat v6.1) + (Int.toNat ((List.length v6.2.2.1) : Int) - Int.toNat v6.1))).take (Int.toNat v6.1 - Int.toNat (0 : Int))))
 else none
 else none)
noncomputable def cpOut (eq ne : α → α → Bool) (z : α) (v1 : Int × (List α) × Unit) : Option ((Int × (List α) × Unit) ⊕ List α) :=
 bif (decide (v1.1 < ((List.length v1.2.1 : Nat) : Int))) then
 Option.bind (idx v1.2.1 v1.1) fun x2 =>
 Option.bind (v1.2.1[(Int.toNat v1.1)]?) fun x3 =>
 Option.bind (idx v1.2.1 (subI .i64 v1.1 (1 : Int))) fun x4 =>
 Option.bind (v1.2.1[(Int.toNat (subI .i64 v1.1 (1 : Int)))]?) fun x5 =>
 bif (eq x3 x5) then
 bif slcOk v1.1 ((List.length v1.2.1) : Int) (List.length v1.2.1) then
 loopO (cpIn eq ne z v1.1 (List.length v1.2.1)) (v1.1, (1 : Int), v1.2.1, ())
 else none
 else
 some (Sum.inl ((addI .i64 v1.1 (1 : Int)), v1.2.1, ()))
 else
 Option.map Sum.inr (some v1.2.1)
/-- the decompiled slices.Compact -/
noncomputable def gCompact (eq ne : α → α → Bool) (z : α) (s : List α) : Option (List α) :=
 bif (decide (((List.length s : Nat) : Int) < (2 : Int))) then
 some s
 else
 loopO (cpOut eq ne z) ((1 : Int), s, ())

theorem view_idx (d : List α) {K n m : Nat} (hm : m < n - K) : idx ((d.drop K).take (n - K)) (m : Int) = d[K + m]? := by
  rw [idx_nat, List.getElem?_take, if_pos hm, List.getElem?_drop]

variable [DecidableEq α]
def ddStep (acc : List α) (x : α) : List α := if acc.getLast? = some x then acc else acc ++ [x]
/-- each once, of those that stand side by side -/
def dd (l : List α) : List α := l.foldl ddStep []
theorem dd_snoc (l : List α) (x : α) : dd (l ++ [x]) = ddStep (dd l) x := by simp [dd, List.foldl_append]
theorem dd_last (l : List α) : (dd l).getLast? = l.getLast? := by
  suffices h : ∀ r : List α, (dd r.reverse).getLast? = r.reverse.getLast? by
    have := h l.reverse
    rwa [List.reverse_reverse] at this
  intro r
  induction r with
  | nil => rfl
  | cons x r ih =>
    rw [List.reverse_cons, dd_snoc, ddStep]
    split
    · rename_i h; rw [h]; simp
    · simp
theorem dd_take {s : List α} {k : Nat} {x : α} (h : s[k]? = some x) : dd (s.take (k + 1)) = ddStep (dd (s.take k)) x := by
  obtain ⟨hl, hx⟩ := List.getElem?_eq_some_iff.1 h
  rw [List.take_succ_eq_append_getElem hl, hx, dd_snoc]
theorem last_take {s : List α} {k : Nat} {x : α} (h : s[k]? = some x) : (dd (s.take (k + 1))).getLast? = some x := by
  obtain ⟨hl, hx⟩ := List.getElem?_eq_some_iff.1 h
  rw [dd_last, List.take_succ_eq_append_getElem hl, hx]
  simp
variable {eq ne : α → α → Bool} {z : α}
theorem cp_inner (hne : ∀ x y, ne x y = !decide (x = y)) {s : List α} {K : Nat} (hn : s.length < 1000000000) : ∀ (r i k2 : Nat) (d : List α), k2 + r = s.length - K → 1 ≤ k2 → i ≤ K + k2 - 1 → d.length = s.length → d.take i = dd (s.take (K + k2)) → (∀ j, K + k2 - 1 ≤ j → d[j]? = s[j]?) →
    loopO (cpIn eq ne z (K : Int) s.length) ((i : Int), (k2 : Int), d, ()) = some (.inr (dd s))
  | 0, i, k2, d, hr, h1, hi, hd, ht, hs => by
    have hKn : K + k2 = s.length := by omega
    refine loopO_inr ?_
    have e1 : (((d.drop K).take (s.length - K)).length) = s.length - K := by simp; omega
    have e2 : decide ((k2 : Int) < ((s.length - K : Nat) : Int)) = false := decide_eq_false (by omega)
    have e3 : ∀ n, slcOk (i : Int) (d.length : Int) n = decide (d.length ≤ n) := by
      intro n
      have : i ≤ d.length := by omega
      simp only [slcOk]
      have h1 : decide ((0 : Int) ≤ (i : Int)) = true := decide_eq_true (by omega)
      have h2 : decide ((i : Int) ≤ (d.length : Int)) = true := decide_eq_true (by omega)
      rw [h1, h2, Bool.and_self, Bool.true_and, decide_eq_decide]
      omega
    have e4 : (d.take i ++ List.replicate (d.length - i) z ++ d.drop (i + (d.length - i))).length = d.length := by simp; omega
    have e5 : slcOk (0 : Int) (i : Int) d.length = true := by
      simp only [slcOk, Bool.and_eq_true, decide_eq_true_eq]
      omega
    have e6 : (d.take i ++ List.replicate (d.length - i) z ++ d.drop (i + (d.length - i))).take (i - 0) = dd s := by
      rw [Nat.sub_zero, List.append_assoc, List.take_append_of_le_length (by simp; omega), List.take_take, Nat.min_self, ht, hKn, List.take_length]
    simp only [cpIn, Int.toNat_natCast, e1, e2, cond_false, e3, Nat.le_refl, decide_true, cond_true, e4, e5, Int.toNat_zero, e6, Option.map_some]
  | r + 1, i, k2, d, hr, h1, hi, hd, ht, hs => by
    have hKn : K + k2 < s.length := by omega
    obtain ⟨x, hx⟩ : ∃ x, s[K + k2]? = some x := ⟨_, List.getElem?_eq_getElem hKn⟩
    obtain ⟨y, hy⟩ : ∃ y, s[K + (k2 - 1)]? = some y := ⟨_, List.getElem?_eq_getElem (by omega)⟩
    have e1 : (((d.drop K).take (s.length - K)).length) = s.length - K := by simp; omega
    have e2 : decide ((k2 : Int) < ((s.length - K : Nat) : Int)) = true := decide_eq_true (by omega)
    have e3 : subI .i64 (k2 : Int) 1 = ((k2 - 1 : Nat) : Int) := by rw [sub64 (by omega) (by omega)]; omega
    have e4 : addI .i64 (k2 : Int) 1 = ((k2 + 1 : Nat) : Int) := add64 (by omega) (by omega)
    have e5 : addI .i64 (i : Int) 1 = ((i + 1 : Nat) : Int) := add64 (by omega) (by omega)
    have hdx : d[K + k2]? = some x := by rw [hs _ (by omega), hx]
    have hdy : d[K + (k2 - 1)]? = some y := by rw [hs _ (by omega), hy]
    have hv1 := view_idx d (K := K) (n := s.length) (m := k2) (by omega)
    have hv2 := view_idx d (K := K) (n := s.length) (m := k2 - 1) (by omega)
    obtain ⟨w, hw⟩ : ∃ w, d[i]? = some w := ⟨_, List.getElem?_eq_getElem (by omega)⟩
    have hstep := dd_take hx
    have hlast : (dd (s.take (K + k2))).getLast? = some y := by
      have := last_take hy
      rwa [show K + (k2 - 1) + 1 = K + k2 by omega] at this
    rw [ddStep, hlast] at hstep
    have hil : i < d.length := by omega
    by_cases hxy : x = y
    · refine Eq.trans (loopO_inl (s' := ((i : Int), ((k2 + 1 : Nat) : Int), d, ())) ?_) (cp_inner hne hn r i (k2 + 1) d (by omega) (by omega) (by omega) hd ?_ fun j hj => hs j (by omega))
      · simp only [cpIn, Int.toNat_natCast, e1, e2, cond_true, letJ_eq, hv1, hdx, Option.bind_some, e3, hv2, hdy, hne, hxy, decide_true, Bool.not_true, cond_false, e4]
      · rw [show K + (k2 + 1) = K + k2 + 1 by omega, hstep, if_pos (by rw [hxy]), ht]
    · refine Eq.trans (loopO_inl (s' := (((i + 1 : Nat) : Int), ((k2 + 1 : Nat) : Int), d.set i x, ())) ?_) (cp_inner hne hn r (i + 1) (k2 + 1) (d.set i x) (by omega) (by omega) (by omega) (by rw [List.length_set]; exact hd) ?_ fun j hj => ?_)
      · simp only [cpIn, Int.toNat_natCast, e1, e2, cond_true, letJ_eq, hv1, hdx, Option.bind_some, e3, hv2, hdy, hne, hxy, decide_false, Bool.not_false, e4, e5, idx_nat, hw]
      · rw [show K + (k2 + 1) = K + k2 + 1 by omega, hstep, if_neg (fun e => hxy (by injection e with e; exact e.symm)), ← ht, List.take_succ_eq_append_getElem (by rw [List.length_set]; exact hil)]
        congr 1
        · rw [List.take_set_of_le (Nat.le_refl _)]
        · simp
      · rw [List.getElem?_set, if_neg (by omega)]
        exact hs j (by omega)
theorem cp_outer (heq : ∀ x y, eq x y = decide (x = y)) (hne : ∀ x y, ne x y = !decide (x = y)) {s : List α} (hn : s.length < 1000000000) : ∀ (r k : Nat), k + r = s.length → 1 ≤ k → dd (s.take k) = s.take k → loopO (cpOut eq ne z) ((k : Int), s, ()) = some (dd s)
  | 0, k, hr, h1, h => by
    refine loopO_inr ?_
    have hk : k = s.length := by omega
    have e2 : decide ((k : Int) < ((s.length : Nat) : Int)) = false := decide_eq_false (by omega)
    rw [hk, List.take_length] at h
    simp only [cpOut, e2, cond_false, Option.map_some, h]
  | r + 1, k, hr, h1, h => by
    have hk : k < s.length := by omega
    obtain ⟨x, hx⟩ : ∃ x, s[k]? = some x := ⟨_, List.getElem?_eq_getElem hk⟩
    obtain ⟨y, hy⟩ : ∃ y, s[k - 1]? = some y := ⟨_, List.getElem?_eq_getElem (by omega)⟩
    have e2 : decide ((k : Int) < ((s.length : Nat) : Int)) = true := decide_eq_true (by omega)
    have e3 : subI .i64 (k : Int) 1 = ((k - 1 : Nat) : Int) := by rw [sub64 (by omega) (by omega)]; omega
    have e4 : addI .i64 (k : Int) 1 = ((k + 1 : Nat) : Int) := add64 (by omega) (by omega)
    have hstep := dd_take hx
    have hlast : (dd (s.take k)).getLast? = some y := by
      have := last_take hy
      rwa [show k - 1 + 1 = k by omega] at this
    rw [ddStep, hlast] at hstep
    by_cases hxy : x = y
    · rw [if_pos (by rw [hxy])] at hstep
      have e5 : slcOk (k : Int) (s.length : Int) s.length = true := by
        simp only [slcOk, Bool.and_eq_true, decide_eq_true_eq]
        omega
      have hin := cp_inner (eq := eq) (z := z) (K := k) hne hn (s.length - k - 1) k 1 s (by omega) (by omega) (by omega) rfl (by rw [hstep, h]) (fun _ _ => rfl)
      refine loopO_inr ?_
      simp only [cpOut, e2, cond_true, idx_nat, Int.toNat_natCast, hx, hy, e3, Option.bind_some, heq, hxy, decide_true, e5]
      exact hin
    · rw [if_neg (fun e => hxy (by injection e with e; exact e.symm))] at hstep
      refine Eq.trans (loopO_inl (s' := (((k + 1 : Nat) : Int), s, ())) ?_) (cp_outer heq hne hn r (k + 1) (by omega) (by omega) ?_)
      · simp only [cpOut, e2, cond_true, idx_nat, Int.toNat_natCast, hx, hy, e3, Option.bind_some, heq, hxy, decide_false, cond_false, e4]
      · obtain ⟨hl, hx'⟩ := List.getElem?_eq_some_iff.1 hx
        rw [hstep, h, List.take_succ_eq_append_getElem hl, hx']
theorem compact_ok (heq : ∀ x y, eq x y = decide (x = y)) (hne : ∀ x y, ne x y = !decide (x = y)) (s : List α) (hn : s.length < 1000000000) : gCompact eq ne z s = some (dd s) := by
  unfold gCompact
  by_cases h : s.length < 2
  · have e : decide (((s.length : Nat) : Int) < 2) = true := decide_eq_true (by omega)
    rw [e, cond_true]
    match s, h with
    | [], _ => rfl
    | [x], _ => rfl
  · have e : decide (((s.length : Nat) : Int) < 2) = false := decide_eq_false (by omega)
    rw [e, cond_false]
    refine cp_outer heq hne hn (s.length - 1) 1 (by omega) (by omega) ?_
    cases s with
    | nil => rfl
    | cons x l => rfl

/-! ### what it is -/
theorem ddStep_sub (acc : List α) (x : α) : ∀ y, y ∈ ddStep acc x ↔ y ∈ acc ∨ y = x := by
  intro y
  unfold ddStep
  split
  · rename_i h
    have := List.mem_of_getLast? h
    exact ⟨.inl, fun h' => h'.elim id fun e => e ▸ this⟩
  · simp
theorem mem_foldl_dd : ∀ (l acc : List α) (y : α), y ∈ l.foldl ddStep acc ↔ y ∈ acc ∨ y ∈ l
  | [], acc, y => by simp
  | x :: l, acc, y => by
    rw [List.foldl_cons, mem_foldl_dd l, ddStep_sub]
    simp [or_assoc]
theorem mem_dd (l : List α) (y : α) : y ∈ dd l ↔ y ∈ l := by rw [dd, mem_foldl_dd]; simp
/-- what is sorted is strictly so, each once -/
theorem dd_sorted {lt : α → α → Bool} (ho : SWO lt) (hto : ∀ x y, lt x y = false → lt y x = false → x = y) {l : List α} (hl : l.Pairwise (fun a b => lt b a = false)) : (dd l).Pairwise (fun a b => lt a b = true) := by
  suffices h : ∀ (l acc : List α), (acc ++ l).Pairwise (fun a b => lt b a = false) → acc.Pairwise (fun a b => lt a b = true) → (l.foldl ddStep acc).Pairwise (fun a b => lt a b = true) from h l [] (by simpa using hl) .nil
  intro l
  induction l with
  | nil => intro acc _ h; exact h
  | cons x l ih =>
    intro acc h1 h2
    rw [List.foldl_cons]
    unfold ddStep
    split
    · rename_i hlast
      refine ih acc ?_ h2
      rw [List.pairwise_append] at h1 ⊢
      exact ⟨h1.1, (List.pairwise_cons.1 h1.2.1).2, fun a ha b hb => h1.2.2 a ha b (by simp [hb])⟩
    · rename_i hlast
      refine ih _ (by simpa using h1) ?_
      rw [List.pairwise_append] at h1 ⊢
      refine ⟨h2, by simp, fun a ha b hb => ?_⟩
      rw [List.mem_singleton.1 hb]
      -- a is no greater than the last, that is less than x
      have hax : lt x a = false := h1.2.2 a ha x (by simp)
      cases hc : lt a x with
      | true => rfl
      | false =>
        exfalso
        have e := hto a x hc hax
        subst e
        -- the last of acc is then a too
        obtain ⟨y, hy⟩ : ∃ y, acc.getLast? = some y := by
          cases hg : acc.getLast? with
          | none => rw [List.getLast?_eq_none_iff.1 hg] at ha; cases ha
          | some y => exact ⟨y, rfl⟩
        obtain ⟨pre, rfl⟩ : ∃ pre, acc = pre ++ [y] := by
          have := List.getLast?_eq_some_iff.1 hy
          exact this
        rcases List.mem_append.1 ha with ha | ha
        · rw [List.pairwise_append] at h2
          have h3 := h2.2.2 a ha y (by simp)
          have h4 := h1.2.2 y (by simp) a (by simp)
          rw [h3] at h4
          cases h4
        · rw [List.mem_singleton.1 ha] at hlast
          exact hlast hy
end
end Go.Proofs.YtncjalhhkmojlaaGreat
