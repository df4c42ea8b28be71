/-
  Texts made small by a program (see NOTES). Conditions: those that each theorem names.
-/
import Derived.Test.YtppbofaglpdghaaGreatScenarioAgreeMd
set_option linter.unusedVariables false
set_option linter.defProp false
set_option linter.unusedSimpArgs false
set_option linter.unusedSectionVars false
set_option maxHeartbeats 2000000
open Int (toNat)
open Sum (inl inr)
open List (replicate)
noncomputable section
namespace Go.Proofs.YtppbofaglpdghaaGreat
open Go.TQ
section
def Wp{v:C}(h:du v):au dh (bH 0 (O9 v))=some (.inl (bH 1 (Up v))):=by rcases h with rfl|rfl|rfl|rfl<;>kernel_rfl
def Wn{v:C}(h:du v):au dh (bH 1 (Up v))=some (.inl (bH 2 (Uo v))):=by rcases h with rfl|rfl|rfl|rfl<;>kernel_rfl
def Wm{v:C}(h:du v):au dh (bH 2 (Uo v))=some (.inl (bH 3 (Un v))):=by rcases h with rfl|rfl|rfl|rfl<;>kernel_rfl
def Wl{v:C}(h:du v):au dh (bH 3 (Un v))=some (.inl (bH 4 (Um v))):=by rcases h with rfl|rfl|rfl|rfl<;>kernel_rfl
def Wk{v:C}(h:du v):au dh (bH 4 (Um v))=some (.inl (bH 5 (Ul v))):=by rcases h with rfl|rfl|rfl|rfl<;>kernel_rfl
def Wj{v:C}(h:du v):au dh (bH 5 (Ul v))=some (.inl (bH 6 (Uk v))):=by rcases h with rfl|rfl|rfl|rfl<;>kernel_rfl
end
end Go.Proofs.YtppbofaglpdghaaGreat
end
