/-
  The source of numbers, and what it makes: each call returns, and what it returns is in its range. Conditions: none.
-/
import Derived.Test.YtncjalhhkmojlaaGreatPTrust
namespace Go.Proofs.YtncjalhhkmojlaaGreat
open Go.TQ

structure OkS (s : TSrc) : Prop where
  len : s.L.length ≤ 800
  lo : 0 ≤ s.At
  hi : s.At ≤ 800
theorem New_ok (l : List Int) : Yd (F_play_New l) fun s => OkS s := by
  have h : minI (l.length : Int) 800 = ((min l.length 800 : Nat) : Int) := by unfold minI; split <;> omega
  have h2 : slcOk 0 ((min l.length 800 : Nat) : Int) l.length = true := by
    simp only [slcOk, Bool.and_eq_true, decide_eq_true_eq]
    omega
  unfold F_play_New
  rw [h, h2]
  refine Yd.some ⟨?_, by simp, by simp⟩
  simp only [Int.toNat_natCast, List.length_drop, List.length_take]
  omega
theorem tmod_bd (x n : Int) (hn : 1 ≤ n) : -n < x.tmod n ∧ x.tmod n < n := by
  have h2 := Int.emod_nonneg x (show n ≠ 0 by omega)
  have h3 := Int.emod_lt_of_pos x (show 0 < n by omega)
  rw [Int.tmod_eq_emod]
  split
  · omega
  · rw [Int.natAbs_of_nonneg (by omega)]; omega
theorem N_ok {s : TSrc} (h : OkS s) {n : Int} (hn : n ≤ 1000000000) : Yd (F_play_Src_N s n) fun p => OkS p.2 ∧ 0 ≤ p.1 ∧ (1 ≤ n → p.1 < n) ∧ (n < 1 → p.1 = 0) := by
  unfold F_play_Src_N
  simp only [letJ_eq]
  refine Yd.cond (fun h1 => ?_) (fun h1 => ?_)
  · exact Yd.some ⟨h, by simp, fun _ => by simp; omega, fun _ => rfl⟩
  · simp only [decide_eq_false_iff_not, Int.not_le] at h1
    refine Yd.cond (fun h2 => ?_) (fun h2 => ?_)
    · simp only [decide_eq_true_eq] at h2
      exact Yd.some ⟨h, by simp, fun _ => by simp; omega, fun _ => rfl⟩
    · simp only [decide_eq_false_iff_not, Int.not_lt] at h2
      obtain ⟨hl, hlo, hhi⟩ := h
      have e1 : addI .i64 s.At 1 = s.At + 1 := add64 (by omega) (by omega)
      have e2 : subI .i64 (s.At + 1) 1 = s.At := by rw [sub64 (by omega) (by omega)]; omega
      rw [e1, e2]
      have hlt : s.At.toNat < s.L.length := by omega
      rw [idx_of _ hlo, List.getElem?_eq_getElem hlt, Option.bind_some, if_neg (by omega), if_neg (by omega)]
      have hb := tmod_bd s.L[s.At.toNat] n h2
      have e3 : remI .i64 s.L[s.At.toNat] n = s.L[s.At.toNat].tmod n := rfl
      rw [e3]
      generalize s.L[s.At.toNat].tmod n = y at hb
      have e4 : addI .i64 y n = y + n := add64 (by omega) (by omega)
      rw [e4]
      have h5 : remI .i64 (y + n) n = (y + n) % n := Int.tmod_eq_emod_of_nonneg (by omega)
      rw [h5]
      exact Yd.some ⟨⟨hl, by simp; omega, by simp; omega⟩, Int.emod_nonneg _ (by omega), fun _ => Int.emod_lt_of_pos _ (by omega), fun _ => by omega⟩
theorem Range_ok {s : TSrc} (h : OkS s) {a b : Int} (h1 : 0 ≤ a) (h2 : a ≤ b + 1) (h3 : b ≤ 1000000) : Yd (F_play_Src_Range s a b) fun p => OkS p.2 ∧ a ≤ p.1 ∧ (a ≤ b → p.1 ≤ b) ∧ (b < a → p.1 = a) := by
  unfold F_play_Src_Range
  have e1 : subI .i64 b a = b - a := sub64 (by omega) (by omega)
  have e2 : addI .i64 (b - a) 1 = b - a + 1 := add64 (by omega) (by omega)
  rw [e1, e2]
  refine (N_ok h (by omega)).bind fun p ⟨h4, h5, h6, h7⟩ => ?_
  have e3 : addI .i64 a p.1 = a + p.1 := by
    by_cases hq : b - a + 1 < 1
    · rw [h7 hq]; exact add64 (by omega) (by omega)
    · have := h6 (by omega); exact add64 (by omega) (by omega)
  rw [e3]
  refine Yd.some ⟨h4, by simp; omega, fun hab => ?_, fun hab => ?_⟩
  · have := h6 (by omega)
    show a + p.1 ≤ b
    omega
  · have := h7 (by omega)
    show a + p.1 = a
    omega
theorem Text_ok {s : TSrc} (h : OkS s) {l : List ByteArray} (h1 : 1 ≤ l.length) (h2 : l.length ≤ 1000) : Yd (F_play_Src_Text s l) fun p => OkS p.2 ∧ p.1 ∈ l := by
  unfold F_play_Src_Text
  refine (N_ok h (by omega)).bind fun p ⟨h4, h5, h6, _⟩ => ?_
  have := h6 (by omega)
  have hlt : p.1.toNat < l.length := by omega
  rw [idx_of _ h5, List.getElem?_eq_getElem hlt]
  exact Yd.some ⟨h4, List.getElem_mem hlt⟩
/-- one of the four values -/
def Val (v : ByteArray) : Prop := v ∈ [(ByteArray.mk #[97]), (ByteArray.mk #[98]), (ByteArray.mk #[99]), (ByteArray.mk #[97, 97])]
theorem Val.size {v : ByteArray} (h : Val v) : 1 ≤ v.size ∧ v.size ≤ 2 := by
  simp only [Val, List.mem_cons, List.not_mem_nil, or_false] at h
  rcases h with rfl | rfl | rfl | rfl <;> exact ⟨by decide, by decide⟩
theorem Value_ok {s : TSrc} (h : OkS s) : Yd (F_play_Src_Value s) fun p => OkS p.2 ∧ Val p.1 := by
  unfold F_play_Src_Value
  exact (Text_ok h (by simp) (by simp)).bind fun p hp => Yd.some hp
theorem Low_ok {s : TSrc} (h : OkS s) : Yd (F_play_Src_Low s) fun p => OkS p.2 ∧ 1 ≤ p.1.Counter ∧ p.1.Counter ≤ 6 ∧ Val p.1.Value := by
  unfold F_play_Src_Low
  refine (Range_ok h (by omega) (by omega) (by omega)).bind fun p ⟨h1, h2, h3, _⟩ => ?_
  refine (Value_ok h1).bind fun q ⟨h4, h5⟩ => ?_
  exact Yd.some ⟨h4, h2, h3 (by omega), h5⟩
/-- n nodes at most -/
theorem Trust_ok {s : TSrc} (h : OkS s) {n : Nat} (hn1 : 1 ≤ n) (hn : n ≤ 10) : Yd (F_play_Src_Trust s n) fun p => OkS p.2 ∧ GoodT p.1 ∧ (∀ x ∈ p.1.Nodes, x < n) ∧ p.1.Nodes ≠ [] := by
  unfold F_play_Src_Trust
  simp only [letJ_eq]
  -- the loop
  let I (i : Nat) (s : TSrc) (t : TTrust) (ns : List Int) (is : List TTrust) : Prop := OkS s ∧ t.Threshold = 0 ∧ (∀ x ∈ ns, 0 ≤ x ∧ x < i) ∧ ns.Nodup ∧ ns.length ≤ i ∧ is = []
  suffices key : ∀ (k i : Nat) (s : TSrc) (t : TTrust) (ns : List Int) (is : List TTrust), i + k = n → I i s t ns is → Yd (loopO _ ((i : Int), s, t, ns, is, ())) _ from key n 0 s _ _ _ (by omega) ⟨h, rfl, by simp, by simp, by simp, rfl⟩
  intro k
  induction k with
  | zero =>
    intro i s t ns is hi ⟨h1, h2, h3, h4, h5, h6⟩
    obtain rfl : i = n := by omega
    subst h6
    have hd : decide ((i : Int) < (i : Int)) = false := decide_eq_false (Int.lt_irrefl _)
    refine Yd.loop ?_
    simp only [hd, cond_false]
    refine Yd.inr ?_
    -- behind the nodes
    have fin : ∀ (s : TSrc) (ns : List Int) (is : List TTrust) (th : Int), OkS s → (∀ x ∈ ns, 0 ≤ x ∧ x < i) → ns.Nodup → ns.length ≤ 10 → ns ≠ [] → (is = [] ∨ ∃ x, 0 ≤ x ∧ x < 10 ∧ is = [⟨1, [x], []⟩]) → 1 ≤ th → th ≤ ns.length + is.length →
        OkS s ∧ GoodT ⟨th, ns, is⟩ ∧ (∀ x ∈ ns, x < (i : Int)) ∧ ns ≠ [] := by
      intro s ns is th a1 a2 a3 a4 a5 a6 a7 a8
      exact ⟨a1, ⟨fun x hx => by have := a2 x hx; exact ⟨this.1, by omega⟩, a3, a4, a6, a7, a8⟩, fun x hx => (a2 x hx).2, a5⟩
    have tail : ∀ (s : TSrc) (ns : List Int) (is : List TTrust), OkS s → (∀ x ∈ ns, 0 ≤ x ∧ x < i) → ns.Nodup → ns.length ≤ 10 → ns ≠ [] → (is = [] ∨ ∃ x, 0 ≤ x ∧ x < 10 ∧ is = [⟨1, [x], []⟩]) →
        Yd (Option.bind (F_play_Src_Range s (quoI .i64 (addI .i64 (addI .i64 ((List.length ns : Nat) : Int) ((List.length is : Nat) : Int)) (1 : Int)) (2 : Int)) (addI .i64 ((List.length ns : Nat) : Int) ((List.length is : Nat) : Int))) fun p9 =>
          Option.bind (F_play_Src_N p9.2 (6 : Int)) fun p12 =>
          bif (decide (p12.1 = (5 : Int))) then some ((TTrust.mk (1 : Int) ns is), p12.2) else some ((TTrust.mk p9.1 ns is), p12.2)) fun p => OkS p.2 ∧ GoodT p.1 ∧ (∀ x ∈ p.1.Nodes, x < (i : Int)) ∧ p.1.Nodes ≠ [] := by
      intro s ns is a1 a2 a3 a4 a5 a6
      have hp : 1 ≤ ns.length := by cases ns with | nil => exact absurd rfl a5 | cons x l => simp
      have hil : is.length ≤ 1 := by rcases a6 with e | ⟨x, _, _, e⟩ <;> rw [e] <;> simp
      have e1 : addI .i64 ((List.length ns : Nat) : Int) ((List.length is : Nat) : Int) = ns.length + is.length := add64 (by omega) (by omega)
      have e2 : addI .i64 ((ns.length : Int) + is.length) 1 = ns.length + is.length + 1 := add64 (by omega) (by omega)
      have e3 : quoI .i64 ((ns.length : Int) + is.length + 1) 2 = (ns.length + is.length + 1) / 2 := by
        show IntKind.i64.wrap (Int.tdiv _ _) = _
        rw [Int.tdiv_eq_ediv_of_nonneg (by omega)]
        exact wrap64 (by omega) (by omega)
      rw [e1, e2, e3]
      refine (Range_ok a1 (by omega) (by omega) (by omega)).bind fun p ⟨b1, b2, b3, _⟩ => ?_
      refine (N_ok b1 (by omega)).bind fun q ⟨c1, _⟩ => ?_
      have b4 := b3 (by omega)
      refine Yd.cond (fun _ => Yd.some (fin q.2 ns is 1 c1 a2 a3 a4 a5 a6 (by omega) (by omega))) (fun _ => Yd.some (fin q.2 ns is p.1 c1 a2 a3 a4 a5 a6 (by omega) (by omega)))
    have mid : ∀ (s : TSrc) (ns : List Int), OkS s → (∀ x ∈ ns, 0 ≤ x ∧ x < i) → ns.Nodup → ns.length ≤ 10 → ns ≠ [] →
        Yd (Option.bind (F_play_Src_N s (4 : Int)) fun p13 =>
          bif (decide (p13.1 = (3 : Int))) then
          Option.bind (F_play_Src_N p13.2 (i : Int)) fun p14 =>
          bif lenOk 56 (List.length ([] : List TTrust) + List.length [(TTrust.mk (1 : Int) [p14.1] ([] : List TTrust))]) then
          (Option.bind (F_play_Src_Range p14.2 (quoI .i64 (addI .i64 (addI .i64 ((List.length ns : Nat) : Int) ((List.length (([] : List TTrust) ++ [(TTrust.mk (1 : Int) [p14.1] ([] : List TTrust))]) : Nat) : Int)) (1 : Int)) (2 : Int)) (addI .i64 ((List.length ns : Nat) : Int) ((List.length (([] : List TTrust) ++ [(TTrust.mk (1 : Int) [p14.1] ([] : List TTrust))]) : Nat) : Int))) fun p9 =>
          Option.bind (F_play_Src_N p9.2 (6 : Int)) fun p12 =>
          bif (decide (p12.1 = (5 : Int))) then some ((TTrust.mk (1 : Int) ns (([] : List TTrust) ++ [(TTrust.mk (1 : Int) [p14.1] ([] : List TTrust))])), p12.2) else some ((TTrust.mk p9.1 ns (([] : List TTrust) ++ [(TTrust.mk (1 : Int) [p14.1] ([] : List TTrust))])), p12.2))
          else none
          else
          (Option.bind (F_play_Src_Range p13.2 (quoI .i64 (addI .i64 (addI .i64 ((List.length ns : Nat) : Int) ((List.length ([] : List TTrust) : Nat) : Int)) (1 : Int)) (2 : Int)) (addI .i64 ((List.length ns : Nat) : Int) ((List.length ([] : List TTrust) : Nat) : Int))) fun p9 =>
          Option.bind (F_play_Src_N p9.2 (6 : Int)) fun p12 =>
          bif (decide (p12.1 = (5 : Int))) then some ((TTrust.mk (1 : Int) ns []), p12.2) else some ((TTrust.mk p9.1 ns []), p12.2))) fun p => OkS p.2 ∧ GoodT p.1 ∧ (∀ x ∈ p.1.Nodes, x < (i : Int)) ∧ p.1.Nodes ≠ [] := by
      intro s ns a1 a2 a3 a4 a5
      refine (N_ok a1 (by omega)).bind fun p ⟨b1, b2, b3, _⟩ => ?_
      refine Yd.cond (fun _ => ?_) (fun _ => ?_)
      · refine (N_ok b1 (by omega)).bind fun q ⟨c1, c2, c3, _⟩ => ?_
        have c4 := c3 (by omega)
        rw [lenOk_small (by simp)]
        exact tail q.2 ns _ c1 a2 a3 a4 a5 (.inr ⟨q.1, c2, by omega, rfl⟩)
      · exact tail p.2 ns [] b1 a2 a3 a4 a5 (.inl rfl)
    refine Yd.cond (fun hz => ?_) (fun hz => ?_)
    · refine (N_ok h1 (by omega)).bind fun p ⟨b1, b2, b3, _⟩ => ?_
      have b4 := b3 (by omega)
      exact mid p.2 [p.1] b1 (by simp; omega) (by simp) (by simp) (by simp)
    · have hne : ns ≠ [] := by
        intro e
        subst e
        simp at hz
      exact mid s ns h1 h3 h4 (by omega) hne
  | succ k ih =>
    intro i s t ns is hi ⟨h1, h2, h3, h4, h5, h6⟩
    have hd : decide ((i : Int) < (n : Int)) = true := decide_eq_true (by omega)
    have hw : addI .i64 (i : Int) 1 = ((i + 1 : Nat) : Int) := add64 (by omega) (by omega)
    refine Yd.loop ?_
    simp only [hd, cond_true, hw]
    refine (N_ok h1 (by omega)).bind fun p ⟨b1, b2, b3, _⟩ => ?_
    refine Yd.cond (fun _ => ?_) (fun _ => ?_)
    · rw [lenOk_small (by simp; omega)]
      refine Yd.some (ih (i + 1) p.2 _ _ _ (by omega) ⟨b1, h2, ?_, ?_, by simp; omega, h6⟩)
      · intro x hx
        rcases List.mem_append.1 hx with hx | hx
        · have := h3 x hx; omega
        · simp at hx; omega
      · refine List.nodup_append.2 ⟨h4, by simp, ?_⟩
        intro x hx y hy
        simp at hy
        have := h3 x hx
        omega
    · refine Yd.some (ih (i + 1) p.2 _ _ _ (by omega) ⟨b1, h2, ?_, h4, by omega, h6⟩)
      intro x hx
      have := h3 x hx
      omega
end Go.Proofs.YtncjalhhkmojlaaGreat
