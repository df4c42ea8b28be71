/-
  The source of numbers, and what it makes: each call returns, and what it returns is in its range. Conditions: none.
-/
import Derived.Test.YtncjalhhkmojlaaGreatPTrust
namespace Go.Proofs.YtncjalhhkmojlaaGreat
open Go.TQ

structure OkS (s : TSrc) : Prop where
  len : s.L.length ≤ 800
  lo : 0 ≤ s.At
  hi : s.At ≤ 800
theorem New_ok (l : List Int) : Yd (F_play_New l) fun s => OkS s := by
  have h : minI (l.length : Int) 800 = ((min l.length 800 : Nat) : Int) := by unfold minI; split <;> omega
  have h2 : slcOk 0 ((min l.length 800 : Nat) : Int) l.length = true := by
    simp only [slcOk, Bool.and_eq_true, decide_eq_true_eq]
    omega
  unfold F_play_New
  rw [h, h2]
  refine Yd.some ⟨?_, by simp, by simp⟩
  simp only [Int.toNat_natCast, List.length_drop, List.length_take]
  omega
theorem tmod_bd (x n : Int) (hn : 1 ≤ n) : -n < x.tmod n ∧ x.tmod n < n := by
  have h2 := Int.emod_nonneg x (show n ≠ 0 by omega)
  have h3 := Int.emod_lt_of_pos x (show 0 < n by omega)
  rw [Int.tmod_eq_emod]
  split
  · omega
  · rw [Int.natAbs_of_nonneg (by omega)]; omega
theorem N_ok {s : TSrc} (h : OkS s) {n : Int} (hn : n ≤ 1000000000) : Yd (F_play_Src_N s n) fun p => OkS p.2 ∧ 0 ≤ p.1 ∧ (1 ≤ n → p.1 < n) ∧ (n < 1 → p.1 = 0) := by
  unfold F_play_Src_N
  simp only [letJ_eq]
  refine Yd.cond (fun h1 => ?_) (fun h1 => ?_)
  · exact Yd.some ⟨h, by simp, fun _ => by simp; omega, fun _ => rfl⟩
  · simp only [decide_eq_false_iff_not, Int.not_le] at h1
    refine Yd.cond (fun h2 => ?_) (fun h2 => ?_)
    · simp only [decide_eq_true_eq] at h2
      exact Yd.some ⟨h, by simp, fun _ => by simp; omega, fun _ => rfl⟩
    · simp only [decide_eq_false_iff_not, Int.not_lt] at h2
      obtain ⟨hl, hlo, hhi⟩ := h
      have e1 : addI .i64 s.At 1 = s.At + 1 := add64 (by omega) (by omega)
      have e2 : subI .i64 (s.At + 1) 1 = s.At := by rw [sub64 (by omega) (by omega)]; omega
      rw [e1, e2]
      have hlt : s.At.toNat < s.L.length := by omega
      rw [idx_of _ hlo, List.getElem?_eq_getElem hlt, Option.bind_some, if_neg (by omega), if_neg (by omega)]
      have hb := tmod_bd s.L[s.At.toNat] n h2
      have e3 : remI .i64 s.L[s.At.toNat] n = s.L[s.At.toNat].tmod n := rfl
      rw [e3]
      generalize s.L[s.At.toNat].tmod n = y at hb
      have e4 : addI .i64 y n = y + n := add64 (by omega) (by omega)
      rw [e4]
      have h5 : remI .i64 (y + n) n = (y + n) % n := Int.tmod_eq_emod_of_nonneg (by omega)
      rw [h5]
      exact Yd.some ⟨⟨hl, by simp; omega, by simp; omega⟩, Int.emod_nonneg _ (by omega), fun _ => Int.emod_lt_of_pos _ (by omega), fun _ => by omega⟩
theorem Range_ok {s : TSrc} (h : OkS s) {a b : Int} (h1 : 0 ≤ a) (h2 : a ≤ b + 1) (h3 : b ≤ 1000000) : Yd (F_play_Src_Range s a b) fun p => OkS p.2 ∧ a ≤ p.1 ∧ (a ≤ b → p.1 ≤ b) ∧ (b < a → p.1 = a) := by
  unfold F_play_Src_Range
  have e1 : subI .i64 b a = b - a := sub64 (by omega) (by omega)
  have e2 : addI .i64 (b - a) 1 = b - a + 1 := add64 (by omega) (by omega)
  rw [e1, e2]
  refine (N_ok h (by omega)).bind fun p ⟨h4, h5, h6, h7⟩ => ?_
  have e3 : addI .i64 a p.1 = a + p.1 := by
    by_cases hq : b - a + 1 < 1
    · rw [h7 hq]; exact add64 (by omega) (by omega)
    · have := h6 (by omega); exact add64 (by omega) (by omega)
  rw [e3]
  refine Yd.some ⟨h4, by simp; omega, fun hab => ?_, fun hab => ?_⟩
  · have := h6 (by omega)
    show a + p.1 ≤ b
    omega
  · have := h7 (by omega)
    show a + p.1 = a
    omega
theorem Text_ok {s : TSrc} (h : OkS s) {l : List ByteArray} (h1 : 1 ≤ l.length) (h2 : l.length ≤ 1000) : Yd (F_play_Src_Text s l) fun p => OkS p.2 ∧ p.1 ∈ l := by
  unfold F_play_Src_Text
  refine (N_ok h (by omega)).bind fun p ⟨h4, h5, h6, _⟩ => ?_
  have := h6 (by omega)
  have hlt : p.1.toNat < l.length := by omega
  rw [idx_of _ h5, List.getElem?_eq_getElem hlt]
  exact Yd.some ⟨h4, List.getElem_mem hlt⟩
/-- one of the four values -/
def Val (v : ByteArray) : Prop := v ∈ [(ByteArray.mk #[97]), (ByteArray.mk #[98]), (ByteArray.mk #[99]), (ByteArray.mk #[97, 97])]
theorem Val.size {v : ByteArray} (h : Val v) : 1 ≤ v.size ∧ v.size ≤ 2 := by
  simp only [Val, List.mem_cons, List.not_mem_nil, or_false] at h
  rcases h with rfl | rfl | rfl | rfl <;> exact ⟨by decide, by decide⟩
theorem Value_ok {s : TSrc} (h : OkS s) : Yd (F_play_Src_Value s) fun p => OkS p.2 ∧ Val p.1 := by
  unfold F_play_Src_Value
  exact (Text_ok h (by simp) (by simp)).bind fun p hp => Yd.some hp
end Go.Proofs.YtncjalhhkmojlaaGreat
