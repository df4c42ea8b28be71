/-
  Functions of Go's library at this program, by the kit's contracts (YtnhgcpiljggmmaaGreatDoorLays, XLib).
-/
import Derived.Test.YtnhgcpiljggmmaaGreatDoorLib
import Derived.Test.YtnhgcpiljggmmaaGreatDoorLays
import Derived.KernelRfl
set_option linter.unusedVariables false
namespace Go.Proofs.YtnhgcpiljggmmaaGreatDoor
open Go.TQ Go.Proofs
theorem drw0 : drw = false := rfl
theorem gMax : ∀ w, GI w → ∃ m, w.cell? ⟨0, 0, none⟩ = some (.int .i64 m) := fun w h => by
  obtain ⟨v, hv, m, rfl⟩ := h.cell (g := 0) (p := fun v => ∃ m : Int, v = .int .i64 m) (by unfold globs; simp)
  exact ⟨m, hv⟩
theorem gSyn : ∀ w, GI w → ∃ tp p, w.cell? ⟨1, 0, none⟩ = some (.iface tp p) := fun w h => by
  obtain ⟨v, hv, tp, p, rfl⟩ := h.cell (g := 1) (p := fun v => ∃ tp p, v = .iface tp p) (by unfold globs; simp)
  exact ⟨tp, p, hv⟩
theorem gRan : ∀ w, GI w → ∃ tp p, w.cell? ⟨2, 0, none⟩ = some (.iface tp p) := fun w h => by
  obtain ⟨v, hv, tp, p, rfl⟩ := h.cell (g := 2) (p := fun v => ∃ tp p, v = .iface tp p) (by unfold globs; simp)
  exact ⟨tp, p, hv⟩
theorem gTab : ∀ w, GI w → Lib.TabIs Tryz.prog w "internal/strconv.uint64pow10" .u64 Lib.pow10Tab := fun w h => by
  have := h.row (P := Tryz.prog) (g := 5) (name := "internal/strconv.uint64pow10") (cs := (((List.range 20).map fun i => Value.int .u64 ((10 ^ i : Nat) : Int)).toArray)) (by kernel_rfl) (by unfold globs; simp)
  unfold Lib.TabIs Lib.pow10Tab
  rw [this, List.map_map]
  rfl
theorem lib111 : KFun.Sound Tryz.prog (U := U) (.fn 111 [.ty (Ty.i .i64)] (.one Ty.str) fun a => itoaF a.1) := ⟨⟨_, Tryz.func111, by kernel_rfl, by kernel_rfl⟩, fun a r h => itoa_con drw0 gTab Tryz.strconv_Itoa h⟩
theorem lib103 : KFun.Sound Tryz.prog (U := U) (.fn 103 [.ty Ty.str] (.many [(Ty.i .i64), Ty.err]) fun a => atoiF a.1) := ⟨⟨_, Tryz.func103, by kernel_rfl, by kernel_rfl⟩, fun a r h => atoi_con drw0 gSyn gRan Tryz.strconv_Atoi_ok Tryz.strconv_Atoi_syntax Tryz.strconv_Atoi_range h⟩
theorem lib59 : KFun.Sound Tryz.prog (U := U) (.fn 59 [.ty (Ty.sl Ty.str), .ty Ty.str] (.one Ty.str) fun a => joinF a.1 a.2.1) := ⟨⟨_, Tryz.func59, by kernel_rfl, by kernel_rfl⟩, fun a r h => join_con drw0 Tryz.strings_Join_none Tryz.strings_Join h⟩
theorem lib54 : KFun.Sound Tryz.prog (U := U) (.fw 54 [.ty Ty.str, .ty Ty.str] 9 1 Ty.str fun a => splitF a.1 a.2.1) := ⟨⟨_, Tryz.func54, by kernel_rfl, by kernel_rfl⟩, fun a r h => split_con gMax Tryz.strings_Split h⟩
theorem lib25 : KFun.Sound Tryz.prog (U := U) (.fn 25 [.ty Ty.str, .ty Ty.str] (.one (Ty.i .i64)) fun a => countF a.1 a.2.1) := ⟨⟨_, Tryz.func25, by kernel_rfl, by kernel_rfl⟩, fun a r h => count_con gMax Tryz.strings_Count_any h⟩
theorem lib29 : KFun.Sound Tryz.prog (U := U) (.fn 29 [.ty Ty.str, .ty Ty.str] (.one Ty.str) fun a => trimF a.1 a.2.1) := ⟨⟨_, Tryz.func29, by kernel_rfl, by kernel_rfl⟩, fun a r h => trim_con Tryz.strings_TrimSuffix h⟩
theorem lib149 : KFun.Sound Tryz.prog (U := U) (.fn 149 [.ty Ty.str, .ty Ty.str] (.one Ty.bool) fun a => hasPrefixF a.1 a.2.1) := ⟨⟨_, Tryz.func149, by kernel_rfl, by kernel_rfl⟩, fun a r h => hasPrefix_con Tryz.strings_HasPrefix h⟩
theorem lib53 : KFun.Sound Tryz.prog (U := U) (.fn 53 [.ty Ty.str, .ty (Ty.i .u8)] (.one (Ty.i .i64)) fun a => indexByteF a.1 a.2.1) := ⟨⟨_, Tryz.func53, by kernel_rfl, by kernel_rfl⟩, fun a r h => indexByte_con Tryz.strings_IndexByte h⟩
end Go.Proofs.YtnhgcpiljggmmaaGreatDoor
