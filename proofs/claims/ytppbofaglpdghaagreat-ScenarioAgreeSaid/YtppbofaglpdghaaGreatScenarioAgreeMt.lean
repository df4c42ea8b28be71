/-
  The frame: one of its facts over the law's whole reach. Conditions: none.
-/
import Derived.Test.YtppbofaglpdghaaGreatScenarioAgreeMa
import Derived.Test.YtppbofaglpdghaaGreatRows
import Derived.WalkKit
import Derived.ProofKit
import Derived.OpenShut
import Derived.ShutString
import Derived.ChangeOld
import Derived.Below
open Int (toNat)
open Sum (inl inr)
open List (replicate)
namespace Go.Proofs.YtppbofaglpdghaaGreat.scenarioAgree
open Go.ChangeShapes Go.WideShapes Go.ChangeAt Go.RowKit
open Go.ChangeMaps (open_string shut_string)
set_option linter.unusedVariables false
theorem cl2:(Rows.scenarioAgreeRow.unfollowed==Tryz.pinned.checked.prog.unfollowed 4)=true:=d_
end Go.Proofs.YtppbofaglpdghaaGreat.scenarioAgree
