/-
  Texts made small by a program (see NOTES). Conditions: those that each theorem names.
-/
import Derived.Test.YtppbofaglpdghaaGreatScenarioAgreeMd
set_option linter.unusedVariables false
set_option linter.defProp false
set_option linter.unusedSimpArgs false
set_option linter.unusedSectionVars false
set_option maxHeartbeats 2000000
open Int (toNat)
open Sum (inl inr)
open List (replicate)
noncomputable section
namespace Go.Proofs.YtppbofaglpdghaaGreat
open Go.TQ
section
def U6{v:C}(h:du v):au dh (bH 10 (RH v))=some (.inl (bH 11 (RG v))):=by rcases h with rfl|rfl|rfl|rfl<;>kernel_rfl
def U5{v:C}(h:du v):au dh (bH 11 (RG v))=some (.inl (bH 12 (DB v))):=by rcases h with rfl|rfl|rfl|rfl<;>kernel_rfl
end
end Go.Proofs.YtppbofaglpdghaaGreat
end
