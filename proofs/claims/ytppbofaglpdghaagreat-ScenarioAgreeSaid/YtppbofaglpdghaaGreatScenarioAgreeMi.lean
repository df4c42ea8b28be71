/-
  Texts made small by a program (see NOTES). Conditions: those that each theorem names.
-/
import Derived.Test.YtppbofaglpdghaaGreatScenarioAgreeMd
set_option linter.unusedVariables false
set_option linter.defProp false
set_option linter.unusedSimpArgs false
set_option linter.unusedSectionVars false
set_option maxHeartbeats 2000000
open Int (toNat)
open Sum (inl inr)
open List (replicate)
noncomputable section
namespace Go.Proofs.YtppbofaglpdghaaGreat
open Go.TQ
section
def Wi{v:C}(h:du v):au dh (bH 6 (Uk v))=some (.inl (bH 7 (Uj v))):=by rcases h with rfl|rfl|rfl|rfl<;>kernel_rfl
def Wh{v:C}(h:du v):au dh (bH 7 (Uj v))=some (.inl (bH 8 (Ui v))):=by rcases h with rfl|rfl|rfl|rfl<;>kernel_rfl
def Wg{v:C}(h:du v):au dh (bH 8 (Ui v))=some (.inl (bH 9 (Uh v))):=by rcases h with rfl|rfl|rfl|rfl<;>kernel_rfl
def Wf{v:C}(h:du v):au dh (bH 9 (Uh v))=some (.inl (bH 10 (RJ v))):=by rcases h with rfl|rfl|rfl|rfl<;>kernel_rfl
def U8{v:C}(h:du v):au dh (bH 10 (RJ v))=some (.inl (bH 11 (RI v))):=by rcases h with rfl|rfl|rfl|rfl<;>kernel_rfl
def U7{v:C}(h:du v):au dh (bH 11 (RI v))=some (.inl (bH 12 (He v))):=by rcases h with rfl|rfl|rfl|rfl<;>kernel_rfl
end
end Go.Proofs.YtppbofaglpdghaaGreat
end
