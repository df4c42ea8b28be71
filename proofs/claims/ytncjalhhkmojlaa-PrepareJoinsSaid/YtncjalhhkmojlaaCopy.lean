/-
  Contracts: copies of trusts. Conditions: none.
-/
import Derived.Test.YtncjalhhkmojlaaOwn
import Derived.Test.YtncjalhhkmojlaaPlay
namespace Go.Proofs.Ytncjalhhkmojlaa
open Go.TQ

/-! ### slices.Clone at int -/
noncomputable def cloneM : Model := mkM (fun l : List Int => [.sl (l.map ofI)]) (fun l => l.length ≤ 1000000) fun l => .sl (l.map ofI)
theorem clone_sound : SoundM Try.prog 120 cloneM := mkM_sound ok_slices_Clone_int_int.enters fun l hl => by
  refine ok_slices_Clone_int_int.con (by simp) (ev_sound (tab_ok (l := []) trivial) _ _ _ ?_)
  cases l with
  | nil => simp [c_slices_Clone_int_int]
  | cons n l =>
    have h1 : ((l.length : Nat) + 1) * 8 ≤ 140737488355328 := by simp at hl; omega
    have h2 : (l.length : Nat) + 1 ≤ maxLen := by simp at hl; simp [maxLen]; omega
    simp [c_slices_Clone_int_int, ofI, h1, h2]
theorem clone_m (cs : List PV) (l : List Int) (h : l.length ≤ 1000000) : cloneM.m cs [.sl (l.map ofI)] = some (.sl (l.map ofI), []) :=
  mkM_m (enc := fun l : List Int => [.sl (l.map ofI)]) (pre := fun l => l.length ≤ 1000000) (spec := fun l => .sl (l.map ofI)) (fun x y h => by simpa using h) cs l h
@[simp] theorem clone_r : cloneM.recv = false := rfl
@[simp] theorem clone_f : cloneM.fresh = false := rfl

/-! ### copies.Trust -/
def isTrust : Nat → List PV → Prop
  | 0, _ => False
  | n + 1, cs => ∃ (th : Int) (nodes : List Int) (inner : List (List PV)), cs = [I th, .sl (nodes.map ofI), .sl inner] ∧ nodes.length ≤ 1000000 ∧ inner.length ≤ 1000000 ∧ ∀ c ∈ inner, isTrust n c
theorem isTrust.three : ∀ {n : Nat} {cs : List PV}, isTrust n cs → ∃ (th : Int) (nodes : List Int) (inner : List (List PV)), cs = [I th, .sl (nodes.map ofI), .sl inner]
  | 0, _, h => h.elim
  | _ + 1, _, ⟨th, nodes, inner, h, _⟩ => ⟨th, nodes, inner, h⟩
noncomputable def copyM (n : Nat) : Model := mkM (fun cs : List PV => [.agg cs]) (isTrust n) fun cs => .agg cs
theorem copy_m (n : Nat) (cs : List PV) (t : List PV) (h : isTrust n t) : (copyM n).m cs [.agg t] = some (.agg t, []) :=
  mkM_m (enc := fun cs : List PV => [.agg cs]) (pre := isTrust n) (spec := fun cs => .agg cs) (fun x y h => by simpa using h) cs t h
@[simp] theorem copy_r (n : Nat) : (copyM n).recv = false := rfl
@[simp] theorem copy_f (n : Nat) : (copyM n).fresh = false := rfl
theorem copy_sound : ∀ n, SoundM Try.prog 91 (copyM n)
  | 0 => mkM_sound ok_copies_Trust.enters fun _ h => h.elim
  | n + 1 => mkM_sound ok_copies_Trust.enters fun cs h => by
    obtain ⟨th, nodes, inner, rfl, h1, h2, h3⟩ := h
    have tk : TabOk Try.prog (tab [(120, cloneM), (91, copyM n)]) := tab_ok ⟨clone_sound, copy_sound n, trivial⟩
    refine ok_copies_Trust.con (by simp) (ev_sound tk _ _ _ ?_)
    have hm := clone_m [] nodes h1
    simp [c_copies_Trust, hm]
    refine VS_ownB 2 8 2 27 3 (by simp; rfl) (by simp) (by simp) (by simp) (by simp) ?_
    refine VS_loop [2, 3, 13, 14, 15] 9 (fun m S => ∃ k ver : Nat, k ≤ inner.length ∧ m = inner.length - k ∧ S.env 2 = .ptr 1 1 0 ∧ S.env 3 = .ptr 8 1 0 ∧ S.env 13 = .sl inner ∧ S.env 14 = I inner.length ∧ S.env 15 = I k
      ∧ S.H 1 = ⟨1, .box [I 0, .nils, .nils]⟩ ∧ S.H 8 = ⟨1, .box [I th, .sl (nodes.map ofI), .own 2 ver]⟩ ∧ S.H 2 = ⟨ver, .row 27 3 (inner.take k)⟩) inner.length ?_ ?_ ?_
    · simp
    · exact ⟨0, 1, by simp⟩
    · rintro m S ⟨k, ver, hk, rfl, e2, e3, e13, e14, e15, H1, H8, H2⟩ hN hf hU
      refine ev_sound tk _ _ _ ?_
      by_cases hlt : k < inner.length
      · have hw : IntKind.i64.wrap ((k : Int) + 1) = (k : Int) + 1 := i64_in (by omega) (by omega)
        obtain ⟨th', nodes', inner', hi⟩ := (h3 _ (List.getElem_mem hlt)).three
        have hm' := copy_m n [] _ (h3 _ (List.getElem_mem hlt))
        rw [hi] at hm'
        have hmin : min k inner.length = k := Nat.min_eq_left hk
        have hs1 : (k + 1) * 56 ≤ 140737488355328 := by omega
        have hs2 : k + 1 ≤ maxLen := by simp [maxLen]; omega
        simp [e2, e3, e13, e14, e15, H1, H8, H2, hN, hlt, hw, hm', hi, hmin, hs1, hs2, hU]
        have hU2 := hU 2 (by omega)
        rw [H2] at hU2
        simp only [under_row, List.all_eq_true] at hU2
        refine ⟨hU2, inner.length - (k + 1), by omega, k + 1, by omega, rfl, by simp, ?_⟩
        rw [← hi, List.take_append_getElem hlt]
      · simp [e2, e3, e13, e14, e15, H1, H8, H2, hN, hlt]
        have : k = inner.length := by omega
        subst this
        rw [List.take_of_length_le (by simp)]
        refine (List.map_congr_left (g := fun e => e) fun e he => ?_).trans (by simp)
        obtain ⟨th', nodes', inner', rfl⟩ := (h3 e he).three
        simp
end Go.Proofs.Ytncjalhhkmojlaa
