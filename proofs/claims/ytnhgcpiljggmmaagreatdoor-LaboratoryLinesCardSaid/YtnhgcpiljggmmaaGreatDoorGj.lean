/-
  GI out of the row's listed variables; a world that lays them. Seat ZD.
-/
import Derived.Test.YtnhgcpiljggmmaaGreatDoorGi
set_option linter.unusedVariables false
namespace Go.Proofs.YtnhgcpiljggmmaaGreatDoor.Gi
open Go Go.ChangeShapes Go.WideShapes Go.RowKit

def LL : List (String × DataW Unit) := [("math/bits.deBruijn32tab", Rows.laid_math_bits_deBruijn32tab), ("math/bits.deBruijn64tab", Rows.laid_math_bits_deBruijn64tab), ("internal/strconv.uint64pow10", Rows.laid_internal_strconv_uint64pow10), ("unicode/utf8.acceptRanges", Rows.laid_unicode_utf8_acceptRanges), ("strconv.ErrRange", Rows.laid_strconv_ErrRange), ("strconv.ErrSyntax", Rows.laid_strconv_ErrSyntax), ("unicode/utf8.first", Rows.laid_unicode_utf8_first)]
theorem gi_of {W : World} (h : laidMet Tryz.prog LL W) (hs : W.ShapedOpen Tryz.prog) : TQ.GI W := by
  have h2 : laidMet Tryz.prog (("internal/strconv.uint64pow10", Rows.laid_internal_strconv_uint64pow10) :: _) W := h.tail.tail
  have h4 := h2.tail.tail
  have h5 := h4.tail
  obtain ⟨T5, fr5, e5⟩ := var_row tab_g (tab_of h2)
  obtain ⟨tp2, p2, T2, fr2, e2⟩ := sent_of h4 ran_g ran_t
  obtain ⟨tp1, p1, T1, fr1, e1⟩ := sent_of h5 syn_g syn_t
  obtain ⟨m, T0, fr0, e0⟩ := maxLen_of hs
  intro q hq
  unfold TQ.globs at hq
  simp only [List.mem_cons, List.not_mem_nil, or_false] at hq
  rcases hq with rfl | rfl | rfl | rfl
  · exact ⟨_, e0, _, T0, fr0, rfl, m, rfl⟩
  · exact ⟨_, e1, _, T1, fr1, rfl, tp1, p1, rfl⟩
  · exact ⟨_, e2, _, T2, fr2, rfl, tp2, p2, rfl⟩
  · exact ⟨_, e5, T5, fr5, rfl⟩
/-- a datum's cells -/
def flatD : Nat → DataW Unit → List Value
  | k + 1, .agg l => l.flatMap (flatD k)
  | _, .lit (.int k n) => [.int k n]
  | _, _ => []
abbrev ranS : ByteArray := { data := #[118, 97, 108, 117, 101, 32, 111, 117, 116, 32, 111, 102, 32, 114, 97, 110, 103, 101] }
abbrev synS : ByteArray := { data := #[105, 110, 118, 97, 108, 105, 100, 32, 115, 121, 110, 116, 97, 120] }
noncomputable def low : Nat := (World.holding Tryz.prog default ⟨#[], #[], []⟩).heap.size
def lay (cs : List Value) : Obj → Obj
  | .cells _ t frozen => .cells cs.toArray t frozen
  | o => o
noncomputable def laidWorld (os : Os) : World :=
  let w0 := World.holding Tryz.prog os ⟨#[.cells #[.string ranS] 288, .cells #[.string synS] 288], #[], []⟩
  { w0 with heap := ((((((w0.heap.modify 2 (lay [.iface 286 (.pointer (some ⟨low, 0, none⟩))])).modify 1 (lay [.iface 286 (.pointer (some ⟨low + 1, 0, none⟩))])).modify 3 (lay (flatD 3 Rows.laid_unicode_utf8_first))).modify 4 (lay (flatD 3 Rows.laid_unicode_utf8_acceptRanges))).modify 5 (lay (flatD 3 Rows.laid_internal_strconv_uint64pow10))).modify 6 (lay (flatD 3 Rows.laid_math_bits_deBruijn32tab))).modify 7 (lay (flatD 3 Rows.laid_math_bits_deBruijn64tab)) }
set_option maxRecDepth 100000 in
theorem laidWorld_met (os : Os) (args : Array Value) : laidMet Tryz.prog LL ((laidWorld os).forCall (fun _ _ => 0) ⟨#[], args, []⟩).memory :=
  laidMet_of_run' 8 (by kernel_rfl) (by kernel_rfl)
end Go.Proofs.YtnhgcpiljggmmaaGreatDoor.Gi
