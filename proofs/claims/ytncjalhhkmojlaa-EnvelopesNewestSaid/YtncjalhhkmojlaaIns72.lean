/-
  slices.Insert, function 72 of this program, way by way. Printed by a program; the walks follow the kit's worked walks of slices.Insert.
-/
import Derived.Test.YtncjalhhkmojlaaIns
import Derived.Test.YtncjalhhkmojlaaProg
import Derived.Shelf.Spec.SlicesInsert
import Derived.KernelRfl
set_option linter.unusedVariables false
set_option linter.unusedSimpArgs false
namespace Go.Proofs.Ytncjalhhkmojlaa
open Go.RowKit Go.TQ Go.Lib
namespace ins72
theorem zE : ∀ w : World, (Go.sizeOf 31).run Try.prog w = .ok 15 w := fun _ => by kernel_rfl
set_option maxHeartbeats 4000000 in
set_option maxRecDepth 100000 in
theorem none_some (g n c i : Nat) (hi : i ≤ n) (hc : n ≤ c) (hc63 : c ≤ 9223372036854775807) (u : Option Addr) (vc : Nat) (w : World) :
    Calls Try.prog 72 #[.slice (some ⟨g, 0, none⟩) n c, .int .i64 i, .slice u 0 vc] w fun e w' => e = .returned (.slice (some ⟨g, 0, none⟩) n c) ∧ w' = w := by
  have zE := zE
  have uS := run_underlying Try.underlying52
  go_enter Try.func72, Try.ntmps72
  go_wp2
  all_goals go_ret
  all_goals exact ⟨rfl, rfl⟩
set_option maxHeartbeats 4000000 in
set_option maxRecDepth 100000 in
theorem none_nil (u : Option Addr) (vc : Nat) (w : World) :
    Calls Try.prog 72 #[.slice none 0 0, .int .i64 0, .slice u 0 vc] w fun e w' => e = .returned (.slice none 0 0) ∧ w' = w := by
  have zE := zE
  have uS := run_underlying Try.underlying52
  go_enter Try.func72, Try.ntmps72
  go_wp2
  all_goals go_ret
  all_goals exact ⟨rfl, rfl⟩
set_option maxHeartbeats 4000000 in
set_option maxRecDepth 100000 in
theorem at_end (g n c : Nat) (hc : n ≤ c) (hc63 : c ≤ 9223372036854775807) (ad : Addr) (m vc : Nat) (hm : 0 < m) (w w1 : World) (v1 : Value)
    (hr : ∀ ty, (Builtin.append_ #[52, 52] ty #[.slice (some ⟨g, 0, none⟩) n c, .slice (some ad) m vc]).run Try.prog w = .ok v1 w1) :
    Calls Try.prog 72 #[.slice (some ⟨g, 0, none⟩) n c, .int .i64 n, .slice (some ad) m vc] w fun e w' => e = .returned v1 ∧ w' = w1 := by
  have zE := zE
  have uS := run_underlying Try.underlying52
  have hz1 : ¬ ((m : Int) = 0) := by omega
  go_enter Try.func72, Try.ntmps72
  go_wp2_with (at_builtin; refine Lib.wpList_append_run _ rfl _ _ _ _ rfl _ _ rfl rfl _ _ (hr _) ?_)
  all_goals go_ret
  all_goals exact ⟨rfl, rfl⟩
set_option maxHeartbeats 4000000 in
set_option maxRecDepth 100000 in
theorem at_end_nil (ad : Addr) (m vc : Nat) (hm : 0 < m) (w w1 : World) (v1 : Value)
    (hr : ∀ ty, (Builtin.append_ #[52, 52] ty #[.slice none 0 0, .slice (some ad) m vc]).run Try.prog w = .ok v1 w1) :
    Calls Try.prog 72 #[.slice none 0 0, .int .i64 0, .slice (some ad) m vc] w fun e w' => e = .returned v1 ∧ w' = w1 := by
  have zE := zE
  have uS := run_underlying Try.underlying52
  have hz1 : ¬ ((m : Int) = 0) := by omega
  go_enter Try.func72, Try.ntmps72
  go_wp2_with (at_builtin; refine Lib.wpList_append_run _ rfl _ _ _ _ rfl _ _ rfl rfl _ _ (hr _) ?_)
  all_goals go_ret
  all_goals exact ⟨rfl, rfl⟩
set_option maxHeartbeats 4000000 in
set_option maxRecDepth 100000 in
theorem shift (g n c i : Nat) (hi : i < n) (hc63 : c ≤ 9223372036854775807) (ad : Addr) (m vc : Nat) (hm : 0 < m) (hroom : n + m ≤ c) (w w1 w2 : World)
    (hov : ∀ lb cb, (callFunc 103 #[.slice (some ad) m vc, .slice (some ⟨g, (i + m) * 15, none⟩) lb cb]).run Try.prog w = .ok (.value (.bool false)) w)
    (h1 : ∀ ty dc sc, (Builtin.copy_ #[52, 52] ty #[.slice (some ⟨g, (i + m) * 15, none⟩) (n + m - (i + m)) dc, .slice (some ⟨g, i * 15, none⟩) (n + m - i) sc]).run Try.prog w.drew = .ok (goInt (n - i : Nat)) w1)
    (h2 : ∀ ty dc, (Builtin.copy_ #[52, 52] ty #[.slice (some ⟨g, i * 15, none⟩) (n + m - i) dc, .slice (some ad) m vc]).run Try.prog w1 = .ok (goInt m) w2) :
    Calls Try.prog 72 #[.slice (some ⟨g, 0, none⟩) n c, .int .i64 i, .slice (some ad) m vc] w fun e w' => e = .returned (.slice (some ⟨g, 0, none⟩) (n + m) c) ∧ w' = w2 := by
  have zE := zE
  have uS := run_underlying Try.underlying52
  have hz1 : ¬ ((m : Int) = 0) := by omega
  have hz2 : ¬ ((i : Int) = (n : Int)) := by omega
  have mixed : Try.prog.follows .mixedOrders = true := by kernel_rfl
  have hw1 : IntKind.i64.wrap ((i : Int) + (m : Int)) = (i : Int) + (m : Int) := by rw [IntKind.wrap_i64]; omega
  have hb1 : (0 : Int) ≤ (i : Int) + (m : Int) := by omega
  have hin : i ≤ n := by omega
  have htn : ((i : Int) + (m : Int)).toNat = i + m := by omega
  have hb2 : ¬ (c = i + m) := by omega
  have hb3 : (i : Int) ≤ (n : Int) + (m : Int) := by omega
  have hb4 : ¬ (c = i) := by omega
  go_enter Try.func72, Try.ntmps72
  go_wp2_with (simp only [hov])
  go_region_law_o (refine step_copy_runI rfl _ _ 52 52 rfl _ _ (by simp [Act.eval, Act.put]) (by simp [Act.eval, Act.put]) (h1 _ _ _) ?_)
  go_wp2_with (at_builtin; refine wpList_copy_runI _ rfl _ _ 52 52 rfl _ _ rfl rfl (h2 _ _) ?_)
  go_ret
  exact ⟨rfl, rfl⟩
set_option maxHeartbeats 4000000 in
set_option maxRecDepth 100000 in
theorem grow (g n c i : Nat) (hi : i < n) (hc : n ≤ c) (hc63 : c ≤ 9223372036854775807) (ad : Addr) (m vc : Nat) (hm : 0 < m) (hroom : c < n + m) (N G : Nat) (hGn : n + m ≤ G) (hG63 : G ≤ 9223372036854775807) (w w1 w2 w3 : World)
    (hz : ∀ ty, (Builtin.append_ #[52, 3] ty #[.slice (some ⟨g, 0, none⟩) i c, .int .i64 ((n : Int) + (m : Int) - (i : Int))]).run Try.prog w = .ok (.slice (some ⟨N, 0, none⟩) (n + m) G) w1)
    (h1 : ∀ ty dc, (Builtin.copy_ #[52, 52] ty #[.slice (some ⟨N, i * 15, none⟩) (n + m - i) dc, .slice (some ad) m vc]).run Try.prog w1 = .ok (goInt m) w2)
    (h2 : ∀ ty dc sc, (Builtin.copy_ #[52, 52] ty #[.slice (some ⟨N, (i + m) * 15, none⟩) (n + m - (i + m)) dc, .slice (some ⟨g, i * 15, none⟩) (n - i) sc]).run Try.prog w2.drew = .ok (goInt (n - i : Nat)) w3) :
    Calls Try.prog 72 #[.slice (some ⟨g, 0, none⟩) n c, .int .i64 i, .slice (some ad) m vc] w fun e w' => e = .returned (.slice (some ⟨N, 0, none⟩) (n + m) G) ∧ w' = w3 := by
  have zE := zE
  have uS := run_underlying Try.underlying52
  have hz1 : ¬ ((m : Int) = 0) := by omega
  have hz2 : ¬ ((i : Int) = (n : Int)) := by omega
  have hz3 : (c : Int) < (n : Int) + (m : Int) := by omega
  have mixed : Try.prog.follows .mixedOrders = true := by kernel_rfl
  have hw1 : IntKind.i64.wrap ((i : Int) + (m : Int)) = (i : Int) + (m : Int) := by rw [IntKind.wrap_i64]; omega
  have hb1 : (0 : Int) ≤ (i : Int) + (m : Int) := by omega
  have hin : i ≤ n := by omega
  have htn : ((i : Int) + (m : Int)).toNat = i + m := by omega
  have hb3 : (i : Int) ≤ (n : Int) := by omega
  have hGi : ¬ (G = i) := by omega
  have hGim : ¬ (G = i + m) := by omega
  have hci : ¬ (c = i) := by omega
  go_enter Try.func72, Try.ntmps72
  go_wp2_with (first
    | (at_builtin; refine Lib.wpList_append_run _ rfl _ _ _ _ rfl _ _ rfl rfl _ _ (hz _) ?_)
    | (at_builtin; refine wpList_copy_runI _ rfl _ _ 52 52 rfl _ _ rfl rfl (h1 _ _) ?_))
  go_region_law_o (refine step_copy_runI rfl _ _ 52 52 rfl (.slice (some ⟨N, (i + m) * 15, none⟩) (n + m - (i + m)) (G - (i + m))) (.slice (some ⟨g, i * 15, none⟩) (n - i) (c - i)) (by simp [Act.eval, Act.put]) (by simp [Act.eval, Act.put]) (h2 3 (G - (i + m)) (c - i)) ?_)
  go_wp2
  go_ret
  exact ⟨rfl, rfl⟩
theorem ways : InsW Try.prog 72 52 31 3 4 103 15 176 where
  kpos := by decide
  hS := Try.underlying52
  hI := Try.underlying3
  info := insInfo (by kernel_rfl)
  over := fun x w h => by
    rw [run_callFunc_extern Try.func103 (by kernel_rfl) (by kernel_rfl) (by kernel_rfl) (e := Extern.SlicesOverlaps.overlaps #[52, 52] #[4]) (by kernel_rfl), h]
    rfl
  none_some := none_some
  none_nil := none_nil
  at_end := at_end
  at_end_nil := at_end_nil
  shift := shift
  grow := grow
theorem enters : Go.TQ.Enters Try.prog 72 := ⟨Try.f72, Try.func72, by kernel_rfl, by kernel_rfl⟩
end ins72
end Go.Proofs.Ytncjalhhkmojlaa
