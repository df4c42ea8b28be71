/-
  Texts made small by a program (see NOTES). Conditions: those that each theorem names.
-/
import Derived.Test.YtppbofaglpdghaaGreatScenarioAgreeMd
set_option linter.unusedVariables false
set_option linter.defProp false
set_option linter.unusedSimpArgs false
set_option linter.unusedSectionVars false
set_option maxHeartbeats 2000000
open Int (toNat)
open Sum (inl inr)
open List (replicate)
noncomputable section
namespace Go.Proofs.YtppbofaglpdghaaGreat
open Go.TQ
section
def Wa{v:C}(h:du v):au dh (bH 4 (Ud v))=some (.inl (bH 5 (Uc v))):=by rcases h with rfl|rfl|rfl|rfl<;>kernel_rfl
end
end Go.Proofs.YtppbofaglpdghaaGreat
end
