/-
  Texts made small by a program (see NOTES). Conditions: those that each theorem names.
-/
import Derived.Test.YtppbofaglpdghaaGreatScenarioAgreeMd
set_option linter.unusedVariables false
set_option linter.defProp false
set_option linter.unusedSimpArgs false
set_option linter.unusedSectionVars false
set_option maxHeartbeats 2000000
open Int (toNat)
open Sum (inl inr)
open List (replicate)
noncomputable section
namespace Go.Proofs.YtppbofaglpdghaaGreat
open Go.TQ
section
def WK{v:C}(h:du v):au dh (bH 0 (Pc v))=some (.inl (bH 1 (UH v))):=by rcases h with rfl|rfl|rfl|rfl<;>kernel_rfl
def WJ{v:C}(h:du v):au dh (bH 1 (UH v))=some (.inl (bH 2 (UG v))):=by rcases h with rfl|rfl|rfl|rfl<;>kernel_rfl
def WI{v:C}(h:du v):au dh (bH 2 (UG v))=some (.inl (bH 3 (UF v))):=by rcases h with rfl|rfl|rfl|rfl<;>kernel_rfl
def WH{v:C}(h:du v):au dh (bH 3 (UF v))=some (.inl (bH 4 (UE v))):=by rcases h with rfl|rfl|rfl|rfl<;>kernel_rfl
def WG{v:C}(h:du v):au dh (bH 4 (UE v))=some (.inl (bH 5 (UD v))):=by rcases h with rfl|rfl|rfl|rfl<;>kernel_rfl
def WE{v:C}(h:du v):au dh (bH 5 (UD v))=some (.inl (bH 6 (UC v))):=by rcases h with rfl|rfl|rfl|rfl<;>kernel_rfl
def WD{v:C}(h:du v):au dh (bH 6 (UC v))=some (.inl (bH 7 (UB v))):=by rcases h with rfl|rfl|rfl|rfl<;>kernel_rfl
def WC{v:C}(h:du v):au dh (bH 7 (UB v))=some (.inl (bH 8 (UA v))):=by rcases h with rfl|rfl|rfl|rfl<;>kernel_rfl
def WB{v:C}(h:du v):au dh (bH 8 (UA v))=some (.inl (bH 9 (Uz v))):=by rcases h with rfl|rfl|rfl|rfl<;>kernel_rfl
def WA{v:C}(h:du v):au dh (bH 9 (Uz v))=some (.inl (bH 10 (RP v))):=by rcases h with rfl|rfl|rfl|rfl<;>kernel_rfl
def Vd{v:C}(h:du v):au dh (bH 10 (RP v))=some (.inl (bH 11 (RO v))):=by rcases h with rfl|rfl|rfl|rfl<;>kernel_rfl
def Vc{v:C}(h:du v):au dh (bH 11 (RO v))=some (.inl (bH 12 (Hg v))):=by rcases h with rfl|rfl|rfl|rfl<;>kernel_rfl
def Tb{v:C}(h:du v):aE (au dh) (bH 0 (Pc v))=some (Hg v,0,()):=(bb (WK h)).trans ((bb (WJ h)).trans ((bb (WI h)).trans ((bb (WH h)).trans ((bb (WG h)).trans ((bb (WE h)).trans ((bb (WD h)).trans ((bb (WC h)).trans ((bb (WB h)).trans ((bb (WA h)).trans ((bb (Vd h)).trans ((bb (Vc h)).trans (qN (s:=bH 12 (Hg v)) (by rcases h with rfl|rfl|rfl|rfl<;>kernel_rfl)))))))))))))
end
end Go.Proofs.YtppbofaglpdghaaGreat
end
