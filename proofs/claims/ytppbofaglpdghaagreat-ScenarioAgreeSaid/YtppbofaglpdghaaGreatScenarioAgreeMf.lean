/-
  Texts made small by a program (see NOTES). Conditions: those that each theorem names.
-/
import Derived.Test.YtppbofaglpdghaaGreatScenarioAgreeMd
set_option linter.unusedVariables false
set_option linter.defProp false
set_option linter.unusedSimpArgs false
set_option linter.unusedSectionVars false
set_option maxHeartbeats 2000000
open Int (toNat)
open Sum (inl inr)
open List (replicate)
noncomputable section
namespace Go.Proofs.YtppbofaglpdghaaGreat
open Go.TQ
section
def Wz{v:C}(h:du v):au dh (bH 0 (Pb v))=some (.inl (bH 1 (Uy v))):=by rcases h with rfl|rfl|rfl|rfl<;>kernel_rfl
def Wy{v:C}(h:du v):au dh (bH 1 (Uy v))=some (.inl (bH 2 (Ux v))):=by rcases h with rfl|rfl|rfl|rfl<;>kernel_rfl
def Wx{v:C}(h:du v):au dh (bH 2 (Ux v))=some (.inl (bH 3 (Uw v))):=by rcases h with rfl|rfl|rfl|rfl<;>kernel_rfl
def Ww{v:C}(h:du v):au dh (bH 3 (Uw v))=some (.inl (bH 4 (Uv v))):=by rcases h with rfl|rfl|rfl|rfl<;>kernel_rfl
def Wv{v:C}(h:du v):au dh (bH 4 (Uv v))=some (.inl (bH 5 (Uu v))):=by rcases h with rfl|rfl|rfl|rfl<;>kernel_rfl
def Wu{v:C}(h:du v):au dh (bH 5 (Uu v))=some (.inl (bH 6 (Ut v))):=by rcases h with rfl|rfl|rfl|rfl<;>kernel_rfl
def Wt{v:C}(h:du v):au dh (bH 6 (Ut v))=some (.inl (bH 7 (Us v))):=by rcases h with rfl|rfl|rfl|rfl<;>kernel_rfl
end
end Go.Proofs.YtppbofaglpdghaaGreat
end
