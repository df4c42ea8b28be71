/-
  slices.Insert as a plain function. Conditions: none.
-/
import Derived.Test.YtncjalhhkmojlaaUni
import Derived.Test.YtncjalhhkmojlaaIns
set_option linter.unusedVariables false
namespace Go.TQ
def insF {α : Type} (bytes : Nat) (s : List α) (i : Int) (v : List α) : Option (List α) := bif decide (0 ≤ i) && decide (i ≤ ((s.length : Nat) : Int)) && lenOk bytes (s.length + v.length) then some (s.take i.toNat ++ v ++ s.drop i.toNat) else none
theorem insS {P : Program} {f S E I B ov k bytes : Nat} (H : InsW P f S E I B ov k bytes) (hent : Enters P f) {T : Ty} (hk : ∀ x : T.den, (T.pv x).length = k) :
    KFun.Sound P (U := U) (.cw f E k T [.ty (Ty.i .i64), .ty (Ty.sl T)] fun s a => insF bytes s a.1 a.2.1) := by
  refine ⟨hent, fun xs a ys h => ?_⟩
  suffices key : ∀ (i : Int) (v : List T.den) (ys : List T.den), insF bytes xs i v = some ys → ConC P f E k (xs.map T.pv) [.int .i64 i, .sl (v.map T.pv)] (ys.map T.pv) from key a.1 a.2.1 ys h
  clear h
  intro i v ys h
  unfold insF at h
  cases hc : (decide (0 ≤ i) && decide (i ≤ ((xs.length : Nat) : Int)) && lenOk bytes (xs.length + v.length)) with
  | false => rw [hc] at h; cases h
  | true =>
    rw [hc] at h
    injection h with h
    subst h
    simp only [Bool.and_eq_true, decide_eq_true_eq] at hc
    obtain ⟨⟨h0, h1⟩, h2⟩ := hc
    obtain ⟨h3, h4⟩ := lenOk_true h2
    have hone : ∀ x : T.den, (T.pv x).all PV.one = true := fun x => List.all_eq_true.2 fun y hy => good_one (K.good T x y hy)
    have := ins_con H (es := xs.map T.pv) (vs := v.map T.pv) (i := i.toNat) (by rw [List.length_map]; omega)
      (fun u hu => by obtain ⟨x, _, rfl⟩ := List.mem_map.1 hu; exact hone x) (fun u hu => by obtain ⟨x, _, rfl⟩ := List.mem_map.1 hu; exact ⟨hk x, hone x⟩)
      (by rw [List.length_map, List.length_map]; exact h4) (by rw [List.length_map, List.length_map]; exact h3)
    rw [← List.map_take, ← List.map_drop, ← List.map_append, ← List.map_append, show ((i.toNat : Nat) : Int) = i by omega] at this
    exact this
end Go.TQ
