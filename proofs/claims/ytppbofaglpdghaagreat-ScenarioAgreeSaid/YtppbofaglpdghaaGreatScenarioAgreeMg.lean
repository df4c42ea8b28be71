/-
  Texts made small by a program (see NOTES). Conditions: those that each theorem names.
-/
import Derived.Test.YtppbofaglpdghaaGreatScenarioAgreeMd
set_option linter.unusedVariables false
set_option linter.defProp false
set_option linter.unusedSimpArgs false
set_option linter.unusedSectionVars false
set_option maxHeartbeats 2000000
open Int (toNat)
open Sum (inl inr)
open List (replicate)
noncomputable section
namespace Go.Proofs.YtppbofaglpdghaaGreat
open Go.TQ
section
def Ws{v:C}(h:du v):au dh (bH 7 (Us v))=some (.inl (bH 8 (Ur v))):=by rcases h with rfl|rfl|rfl|rfl<;>kernel_rfl
def Wr{v:C}(h:du v):au dh (bH 8 (Ur v))=some (.inl (bH 9 (Uq v))):=by rcases h with rfl|rfl|rfl|rfl<;>kernel_rfl
def Wq{v:C}(h:du v):au dh (bH 9 (Uq v))=some (.inl (bH 10 (RM v))):=by rcases h with rfl|rfl|rfl|rfl<;>kernel_rfl
def Vb{v:C}(h:du v):au dh (bH 10 (RM v))=some (.inl (bH 11 (RL v))):=by rcases h with rfl|rfl|rfl|rfl<;>kernel_rfl
def U9{v:C}(h:du v):au dh (bH 11 (RL v))=some (.inl (bH 12 (Hf v))):=by rcases h with rfl|rfl|rfl|rfl<;>kernel_rfl
end
end Go.Proofs.YtppbofaglpdghaaGreat
end
