/-
  laboratory.Word, walked. Conditions: draws are not counted.
-/
import Derived.Test.YtnhgcpiljggmmaaGreatDoorLib
import Derived.Test.YtnhgcpiljggmmaaGreatDoorProg
import Derived.Lib.OthersKept
import Derived.WalkKit
import Derived.BigCall
import Derived.KernelRfl
set_option linter.unusedVariables false
set_option linter.unusedSimpArgs false
namespace Go.Proofs.YtnhgcpiljggmmaaGreatDoor
open Go.TQ Go.RowKit Go.Proofs

/-- a small letter or a digit -/
def inW (c : Nat) : Bool := (decide (97 ≤ c) && decide (c ≤ 122)) || (decide (48 ≤ c) && decide (c ≤ 57))
def wordOk (s : ByteArray) : Bool := s.data.toList.all (fun b => inW b.toNat) && decide (1 ≤ s.size) && decide (s.size ≤ 20)
def wordF (s : ByteArray) : Option Bool := some (wordOk s)
theorem wordOk_of {s : ByteArray} (h : ∀ (i : Nat) (hi : i < s.size), inW (s[i]'hi).toNat = true) : wordOk s = (decide (1 ≤ s.size) && decide (s.size ≤ 20)) := by
  unfold wordOk
  have : s.data.toList.all (fun b => inW b.toNat) = true := by
    rw [List.all_eq_true]
    intro b hb
    obtain ⟨i, hi, rfl⟩ := List.getElem_of_mem hb
    exact h i (by simpa using hi)
  rw [this, Bool.true_and]
theorem wordOk_not {s : ByteArray} {i : Nat} (hi : i < s.size) (h : inW (s[i]'hi).toNat = false) : wordOk s = false := by
  unfold wordOk
  have : s.data.toList.all (fun b => inW b.toNat) = false := by
    rw [List.all_eq_false]
    exact ⟨s[i]'hi, by rw [show s[i]'hi = s.data.toList[i]'(by simpa using hi) from rfl]; exact List.getElem_mem _, by rw [h]; simp⟩
  rw [this]
  rfl

theorem word_step (s : ByteArray) (pos : Nat) (h : pos < s.size) : (inW (Utf8.decode s pos).1 = true → inW (s[pos]'h).toNat = true ∧ (Utf8.decode s pos).2 = 1) ∧ (inW (Utf8.decode s pos).1 = false → inW (s[pos]'h).toNat = false) := by
  by_cases ha : (s[pos]'h).toNat < 128
  · rw [decode_ascii s pos h ha]
    exact ⟨fun e => ⟨e, rfl⟩, fun e => e⟩
  · have h1 := (decode_high s pos h (by omega)).1
    refine ⟨fun e => ?_, fun _ => ?_⟩
    · simp only [inW, Bool.or_eq_true, Bool.and_eq_true, decide_eq_true_eq] at e
      omega
    · simp only [inW, Bool.or_eq_false_iff, Bool.and_eq_false_iff, decide_eq_false_iff_not]
      omega

set_option maxHeartbeats 4000000 in
set_option maxRecDepth 1000000 in
theorem word_walk (s : ByteArray) (w : World) : Calls Tryz.prog 31 #[.string s] w fun e w' => e = .returned (.bool (wordOk s)) ∧ Below w.heap.size w w' := by
  go_enter Tryz.func31, Tryz.ntmps31
  go_wp2
  go_loopw [] (fun wr => ∃ pos : Nat, wr.heap[w.heap.size]? = some (.stringIter s pos) ∧ Below w.heap.size w wr ∧ ∀ (i : Nat) (hi : i < s.size), i < pos → inW (s[i]'hi).toNat = true) (fun wr => s.size - wr.iterPos w.heap.size)
  case atStart =>
    refine ⟨0, ?_, (Below.refl _ w).alloc (Nat.le_refl _) _, fun i hi h => by omega⟩
    have := World.iter_heap w s 0
    simpa using this
  case round =>
    obtain ⟨pos, hit, hbw, hall⟩ := hrel
    have hsz : w.heap.size < wr.heap.size := (Array.getElem?_eq_some_iff.1 hit).1
    by_cases hp : pos < s.size
    · have hnx : ∀ ty, (Instr.next (.pointer (some ⟨w.heap.size, 0, none⟩)) true ty).run Tryz.prog wr = _ := fun ty => Lib.run_next_any_at wr w.heap.size s pos ty hit hp
      generalize hd : Utf8.decode s pos = d at hnx
      obtain ⟨c, wd⟩ := d
      have hd1 : (Utf8.decode s pos).1 = c := by rw [hd]
      have hd2 : (Utf8.decode s pos).2 = wd := by rw [hd]
      have hw := word_step s pos hp
      rw [hd1, hd2] at hw
      clear hd hd1 hd2
      go_wp2
      all_goals first
        | (have hc : inW c = false := by (simp only [inW, Bool.or_eq_false_iff, Bool.and_eq_false_iff, decide_eq_false_iff_not]; omega)
           go_ret
           exact ⟨by rw [wordOk_not hp (hw.2 hc)]; rfl, Lib.below_iterAt hbw (Nat.le_refl _) s _⟩)
        | (have hc : inW c = true := by (simp only [inW, Bool.or_eq_true, Bool.and_eq_true, decide_eq_true_eq]; omega)
           obtain ⟨h1, rfl⟩ := hw.1 hc
           have hm := Lib.iterAt_heap wr w.heap.size s pos (pos + 1) hit
           refine ⟨⟨pos + 1, hm, Lib.below_iterAt hbw (Nat.le_refl _) s _, fun i hi hl => ?_⟩, ?_⟩
           · rcases Nat.lt_or_ge i pos with h | h
             · exact hall i hi h
             · obtain rfl : i = pos := by omega
               exact h1
           · simp only [World.iterPos, hm, hit]
             omega)
    · have hnx : ∀ ty, (Instr.next (.pointer (some ⟨w.heap.size, 0, none⟩)) true ty).run Tryz.prog wr = _ := fun ty => Lib.run_next_end_at wr w.heap.size s pos ty hit hp
      have hok := wordOk_of (s := s) fun i hi => hall i hi (by omega)
      go_wp2
      all_goals (go_ret; refine ⟨?_, hbw⟩; try rw [hok])
      all_goals first
        | (have e : (decide (1 ≤ s.size) && decide (s.size ≤ 20)) = false := by rw [decide_eq_false (by omega), Bool.false_and]
           rw [e]
           rfl)
        | (have e : (decide (1 ≤ s.size) && decide (s.size ≤ 20)) = decide ((s.size : Int) ≤ 20) := by
             rw [decide_eq_true (show 1 ≤ s.size by omega), Bool.true_and]
             exact decide_eq_decide.2 (by omega)
           rw [e]
           rfl)

theorem lib31 : KFun.Sound Tryz.prog (U := U) (.fn 31 [.ty Ty.str] (.one Ty.bool) fun a => wordF a.1) := by
  refine ⟨⟨_, Tryz.func31, by kernel_rfl, by kernel_rfl⟩, fun a r h => ?_⟩
  injection h with h
  subst h
  refine con_of (args := [.str a.1]) (r := .bool (wordOk a.1)) fun w X vs hG hv => ?_
  obtain ⟨v, rfl, hv1⟩ := a1_inv hv
  obtain rfl := str_inv hv1
  refine (word_walk a.1 w).mono ?_
  rintro e w' ⟨rfl, hb⟩
  exact ⟨⟨_, rfl, fun M => .bool _⟩, fr_below rfl hb⟩
end Go.Proofs.YtnhgcpiljggmmaaGreatDoor
