/-
  Lists of envelopes of the source; more said is no less accepted. Conditions: none.
-/
import Derived.Test.YtncjalhhkmojlaaGreatPFin
set_option linter.unusedVariables false
namespace Go.Proofs.YtncjalhhkmojlaaGreat
open Go.TQ

/-! ### lists of the source -/
structure EnvsOf (n : Nat) (l : List TEnvelope) : Prop where
  of : ∀ e ∈ l, ∃ i : Nat, i < n ∧ EnvOf i 1 n e
  asc : l.Pairwise fun a b => a.Node < b.Node
  len : l.length ≤ n
theorem EnvsOf.valid {n : Nat} {l : List TEnvelope} (h : EnvsOf n l) : ∀ e ∈ l, isValid e = true := fun e he => by
  obtain ⟨i, _, hi⟩ := h.of e he
  rw [isValid, tval_good hi.trust]
  exact hi.valid
theorem EnvsOf.sm {n : Nat} {l : List TEnvelope} (h : EnvsOf n l) (hn : n ≤ 1000) : SmL l := ⟨by have := h.len; omega, fun e he => by
  obtain ⟨i, _, hi⟩ := h.of e he
  exact hi.trust.sm⟩
section
variable {node : Nat} {t : TTrust} (ht : SmT t) {l : List TEnvelope} (hl : SmL l) {v : ByteArray} {lo hi k : Int} (h1 : lo ≤ k) (h2 : k ≤ hi)
 include ht hl h1 h2
end
end Go.Proofs.YtncjalhhkmojlaaGreat
