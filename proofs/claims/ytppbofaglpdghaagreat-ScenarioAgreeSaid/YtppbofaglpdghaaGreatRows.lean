/-
  NARROWER THAN 'FOR EVERY INPUT', by the rows' own cells (each row's printed sentence says how): ScenarioExact: loops.
  DERIVED. THE GIVEN ROWS OF THIS SEAT. 6 by the template 'for every input the law returns true; each argument reads behind the call as it read before'; 0 by the template 'total and deterministic' (their statements: YtppbofaglpdghaaGreatTotals.lean).
  GIVEN WITH THE SEED: the statements are not yours to turn. If you find one false, say at which input.
  Laid BY PROGRAM, IN A SANDBOX (cutbox-rows.mjs): the forced cells as the released guide's own fill.sh prints them over the translation d4f278a813f7ac77… (all of the seat's roots in one cut). By AI agents, Wed Nov 11 2026. No macro, syntax, notation, axiom, sorry.
-/
import Derived.Test.YtppbofaglpdghaaGreatChecked
import GoSem.Claim
import GoSem.ClaimJoined
import GoSem.ClaimMapViews
import Derived.JoinedTies
import Derived.KernelRfl
namespace Go.Proofs.YtppbofaglpdghaaGreat
/- THE CELL 'sum', in the pinned program and in every row, IS THE sha256 OF THE DUMP (.gsa) THAT YtppbofaglpdghaaGreatProg.lean LOADS. Nothing in Lean hashes anything: it is a label: what it is worth is what the hold of that sum in a sandbox is worth. -/
noncomputable def Tryz.pinned : Pinned := { name := "ytppbofaglpdghaagreat", sum := "d4f278a813f7ac77ac1abf7aa440fd05d479a73ab15ed9d5110bc60c79b2acdb", checked := Tryz.checked }
namespace Rows
def none {H : Type} : Left H := { results := [], args := [] }

/-- 'trustquorumlaw32.ScenarioLiars': WHATEVER THE INPUT: true; the input reads as it did. -/
def scenarioLiarsSpec : ChangeSpec := { name := "scenarioLiars", fn := fun _ => fun
  | [d] => { results := [.lit (.bool true)], args := [d] }
  | _ => none }
def scenarioLiarsRow : OpenClaim := { program := "ytppbofaglpdghaagreat", sum := "d4f278a813f7ac77ac1abf7aa440fd05d479a73ab15ed9d5110bc60c79b2acdb", func := "trustquorum/trustquorumlaw32.ScenarioLiars", spec := "scenarioLiars", inPlace := ["slices.overlaps[string]", "slices.overlaps[trustquorum/api.Slot]", "slices.overlaps[trustquorum/api.Nomination]", "slices.overlaps[trustquorum/api.Envelope]", "slices.overlaps[trustquorum/api.Parcel]"], unfollowed := true, recurses := true, apart := false }
def ScenarioLiarsSaid : Prop := scenarioLiarsRow.holds Tryz.pinned (OpenSpec.ofChange scenarioLiarsSpec)

/-- ITS FALSE NEIGHBOUR: 'it returns false'. Refute it at one input. -/
def scenarioLiarsWrong : ChangeSpec := { name := "scenarioLiars", fn := fun _ => fun
  | [d] => { results := [.lit (.bool false)], args := [d] }
  | _ => none }
def ScenarioLiarsWrongFalsely : Prop := scenarioLiarsRow.holds Tryz.pinned (OpenSpec.ofChange scenarioLiarsWrong)

/-- 'trustquorumlaw32.ScenarioAgree': WHATEVER THE INPUT: true; the input reads as it did. -/
def scenarioAgreeSpec : ChangeSpec := { name := "scenarioAgree", fn := fun _ => fun
  | [d] => { results := [.lit (.bool true)], args := [d] }
  | _ => none }
def scenarioAgreeRow : OpenClaim := { program := "ytppbofaglpdghaagreat", sum := "d4f278a813f7ac77ac1abf7aa440fd05d479a73ab15ed9d5110bc60c79b2acdb", func := "trustquorum/trustquorumlaw32.ScenarioAgree", spec := "scenarioAgree", inPlace := ["slices.overlaps[string]", "slices.overlaps[trustquorum/api.Slot]", "slices.overlaps[trustquorum/api.Nomination]", "slices.overlaps[trustquorum/api.Envelope]", "slices.overlaps[trustquorum/api.Parcel]"], unfollowed := true, recurses := true, apart := false }
def ScenarioAgreeSaid : Prop := scenarioAgreeRow.holds Tryz.pinned (OpenSpec.ofChange scenarioAgreeSpec)

/-- ITS FALSE NEIGHBOUR: 'it returns false'. Refute it at one input. -/
def scenarioAgreeWrong : ChangeSpec := { name := "scenarioAgree", fn := fun _ => fun
  | [d] => { results := [.lit (.bool false)], args := [d] }
  | _ => none }
def ScenarioAgreeWrongFalsely : Prop := scenarioAgreeRow.holds Tryz.pinned (OpenSpec.ofChange scenarioAgreeWrong)

/-- 'trustquorumlaw32.ScenarioParts': WHATEVER THE INPUT: true; the input reads as it did. -/
def scenarioPartsSpec : ChangeSpec := { name := "scenarioParts", fn := fun _ => fun
  | [d] => { results := [.lit (.bool true)], args := [d] }
  | _ => none }
def scenarioPartsRow : OpenClaim := { program := "ytppbofaglpdghaagreat", sum := "d4f278a813f7ac77ac1abf7aa440fd05d479a73ab15ed9d5110bc60c79b2acdb", func := "trustquorum/trustquorumlaw32.ScenarioParts", spec := "scenarioParts", inPlace := ["slices.overlaps[string]", "slices.overlaps[trustquorum/api.Slot]", "slices.overlaps[trustquorum/api.Nomination]", "slices.overlaps[trustquorum/api.Envelope]", "slices.overlaps[trustquorum/api.Parcel]"], unfollowed := true, recurses := true, apart := false }
def ScenarioPartsSaid : Prop := scenarioPartsRow.holds Tryz.pinned (OpenSpec.ofChange scenarioPartsSpec)

/-- ITS FALSE NEIGHBOUR: 'it returns false'. Refute it at one input. -/
def scenarioPartsWrong : ChangeSpec := { name := "scenarioParts", fn := fun _ => fun
  | [d] => { results := [.lit (.bool false)], args := [d] }
  | _ => none }
def ScenarioPartsWrongFalsely : Prop := scenarioPartsRow.holds Tryz.pinned (OpenSpec.ofChange scenarioPartsWrong)

/-- 'trustquorumlaw32.ScenarioKeeps': WHATEVER THE INPUT: true; the input reads as it did. -/
def scenarioKeepsSpec : ChangeSpec := { name := "scenarioKeeps", fn := fun _ => fun
  | [d] => { results := [.lit (.bool true)], args := [d] }
  | _ => none }
def scenarioKeepsRow : OpenClaim := { program := "ytppbofaglpdghaagreat", sum := "d4f278a813f7ac77ac1abf7aa440fd05d479a73ab15ed9d5110bc60c79b2acdb", func := "trustquorum/trustquorumlaw32.ScenarioKeeps", spec := "scenarioKeeps", inPlace := ["slices.overlaps[string]", "slices.overlaps[trustquorum/api.Slot]", "slices.overlaps[trustquorum/api.Nomination]", "slices.overlaps[trustquorum/api.Envelope]", "slices.overlaps[trustquorum/api.Parcel]"], unfollowed := true, recurses := true, apart := false }
def ScenarioKeepsSaid : Prop := scenarioKeepsRow.holds Tryz.pinned (OpenSpec.ofChange scenarioKeepsSpec)

/-- ITS FALSE NEIGHBOUR: 'it returns false'. Refute it at one input. -/
def scenarioKeepsWrong : ChangeSpec := { name := "scenarioKeeps", fn := fun _ => fun
  | [d] => { results := [.lit (.bool false)], args := [d] }
  | _ => none }
def ScenarioKeepsWrongFalsely : Prop := scenarioKeepsRow.holds Tryz.pinned (OpenSpec.ofChange scenarioKeepsWrong)

/-- 'trustquorumlaw32.ScenarioStops': WHATEVER THE INPUT: true; the input reads as it did. -/
def scenarioStopsSpec : ChangeSpec := { name := "scenarioStops", fn := fun _ => fun
  | [d] => { results := [.lit (.bool true)], args := [d] }
  | _ => none }
def scenarioStopsRow : OpenClaim := { program := "ytppbofaglpdghaagreat", sum := "d4f278a813f7ac77ac1abf7aa440fd05d479a73ab15ed9d5110bc60c79b2acdb", func := "trustquorum/trustquorumlaw32.ScenarioStops", spec := "scenarioStops", inPlace := ["slices.overlaps[string]", "slices.overlaps[trustquorum/api.Slot]", "slices.overlaps[trustquorum/api.Nomination]", "slices.overlaps[trustquorum/api.Envelope]", "slices.overlaps[trustquorum/api.Parcel]"], unfollowed := true, recurses := true, apart := false }
def ScenarioStopsSaid : Prop := scenarioStopsRow.holds Tryz.pinned (OpenSpec.ofChange scenarioStopsSpec)

/-- ITS FALSE NEIGHBOUR: 'it returns false'. Refute it at one input. -/
def scenarioStopsWrong : ChangeSpec := { name := "scenarioStops", fn := fun _ => fun
  | [d] => { results := [.lit (.bool false)], args := [d] }
  | _ => none }
def ScenarioStopsWrongFalsely : Prop := scenarioStopsRow.holds Tryz.pinned (OpenSpec.ofChange scenarioStopsWrong)

/-- 'trustquorumlaw32.ScenarioExact': WHATEVER THE INPUT: true; the input reads as it did. -/
def scenarioExactSpec : ChangeSpec := { name := "scenarioExact", fn := fun _ => fun
  | [d1, d2, d3, d4, d5] => { results := [.lit (.bool true)], args := [d1, d2, d3, d4, d5] }
  | _ => none }
def scenarioExactRow : OpenClaim := { program := "ytppbofaglpdghaagreat", sum := "d4f278a813f7ac77ac1abf7aa440fd05d479a73ab15ed9d5110bc60c79b2acdb", func := "trustquorum/trustquorumlaw32.ScenarioExact", spec := "scenarioExact", inPlace := ["slices.overlaps[string]", "slices.overlaps[trustquorum/api.Slot]", "slices.overlaps[trustquorum/api.Nomination]", "slices.overlaps[trustquorum/api.Envelope]", "slices.overlaps[trustquorum/api.Parcel]"], unfollowed := true, recurses := true, loops := true, apart := false }
def ScenarioExactSaid : Prop := scenarioExactRow.holds Tryz.pinned (OpenSpec.ofChange scenarioExactSpec)

/-- ITS FALSE NEIGHBOUR: 'it returns false'. Refute it at one input. -/
def scenarioExactWrong : ChangeSpec := { name := "scenarioExact", fn := fun _ => fun
  | [d1, d2, d3, d4, d5] => { results := [.lit (.bool false)], args := [d1, d2, d3, d4, d5] }
  | _ => none }
def ScenarioExactWrongFalsely : Prop := scenarioExactRow.holds Tryz.pinned (OpenSpec.ofChange scenarioExactWrong)

/- THE SECOND FORM. 'bulk': how many values and letters a reading holds, each counted each time it is reached (what is shared counts as often as it is met; a slice's spare places count too). A statement '..UptoSaid' is the law's where the arguments, and the package variables that the reading takes, are together of bulk at most 1048576: NARROWER than '..Said'. Prove '..Said' where nothing that the law and all that it calls make is longer than what came in: it says more and counts as full. Else prove '..UptoSaid'. A law counts once. -/
mutual
def uptoBulk {H : Type} : DataW H → Nat
  | .lit (.string bytes) => bytes.length + 1
  | .lit _ => 1
  | .nil => 1
  | .ptr d => uptoBulk d + 1
  | .slice elems spare => uptoBulkAll elems + uptoBulkAll spare + 1
  | .agg parts => uptoBulkAll parts + 1
  | .iface _ d => uptoBulk d + 1
  | .map entries => uptoBulkEntries entries + 1
  | .held _ => 1
def uptoBulkAll {H : Type} : List (DataW H) → Nat
  | [] => 0
  | d :: r => uptoBulk d + uptoBulkAll r
def uptoBulkEntries {H : Type} : List (Lit × DataW H) → Nat
  | [] => 0
  | x :: r => uptoBulkEntry x + uptoBulkEntries r
def uptoBulkEntry {H : Type} : Lit × DataW H → Nat
  | (.string bytes, d) => bytes.length + uptoBulk d + 1
  | (_, d) => uptoBulk d + 1
 end
def uptoSmall : (H : Type) → List (DataW H) → Bool := fun _ ds => decide (uptoBulkAll ds ≤ 1048576)
def OpenSpec.upto (s : _root_.Go.ChangeSpec) : _root_.Go.OpenSpec := { _root_.Go.OpenSpec.ofChange s with cond := some uptoSmall }

/-- 'trustquorumlaw32.ScenarioLiars', WHERE WHAT IT READS IS OF BULK AT MOST 1048576: true; the input reads as it did. -/
def scenarioLiarsUptoRow : OpenClaim := { program := "ytppbofaglpdghaagreat", sum := "d4f278a813f7ac77ac1abf7aa440fd05d479a73ab15ed9d5110bc60c79b2acdb", func := "trustquorum/trustquorumlaw32.ScenarioLiars", spec := "scenarioLiars", inPlace := ["slices.overlaps[string]", "slices.overlaps[trustquorum/api.Slot]", "slices.overlaps[trustquorum/api.Nomination]", "slices.overlaps[trustquorum/api.Envelope]", "slices.overlaps[trustquorum/api.Parcel]"], unfollowed := true, recurses := true, apart := false, narrowed := true }
def ScenarioLiarsUptoSaid : Prop := scenarioLiarsUptoRow.holds Tryz.pinned (OpenSpec.upto scenarioLiarsSpec)

/-- 'trustquorumlaw32.ScenarioAgree', WHERE WHAT IT READS IS OF BULK AT MOST 1048576: true; the input reads as it did. -/
def scenarioAgreeUptoRow : OpenClaim := { program := "ytppbofaglpdghaagreat", sum := "d4f278a813f7ac77ac1abf7aa440fd05d479a73ab15ed9d5110bc60c79b2acdb", func := "trustquorum/trustquorumlaw32.ScenarioAgree", spec := "scenarioAgree", inPlace := ["slices.overlaps[string]", "slices.overlaps[trustquorum/api.Slot]", "slices.overlaps[trustquorum/api.Nomination]", "slices.overlaps[trustquorum/api.Envelope]", "slices.overlaps[trustquorum/api.Parcel]"], unfollowed := true, recurses := true, apart := false, narrowed := true }
def ScenarioAgreeUptoSaid : Prop := scenarioAgreeUptoRow.holds Tryz.pinned (OpenSpec.upto scenarioAgreeSpec)

/-- 'trustquorumlaw32.ScenarioParts', WHERE WHAT IT READS IS OF BULK AT MOST 1048576: true; the input reads as it did. -/
def scenarioPartsUptoRow : OpenClaim := { program := "ytppbofaglpdghaagreat", sum := "d4f278a813f7ac77ac1abf7aa440fd05d479a73ab15ed9d5110bc60c79b2acdb", func := "trustquorum/trustquorumlaw32.ScenarioParts", spec := "scenarioParts", inPlace := ["slices.overlaps[string]", "slices.overlaps[trustquorum/api.Slot]", "slices.overlaps[trustquorum/api.Nomination]", "slices.overlaps[trustquorum/api.Envelope]", "slices.overlaps[trustquorum/api.Parcel]"], unfollowed := true, recurses := true, apart := false, narrowed := true }
def ScenarioPartsUptoSaid : Prop := scenarioPartsUptoRow.holds Tryz.pinned (OpenSpec.upto scenarioPartsSpec)

/-- 'trustquorumlaw32.ScenarioKeeps', WHERE WHAT IT READS IS OF BULK AT MOST 1048576: true; the input reads as it did. -/
def scenarioKeepsUptoRow : OpenClaim := { program := "ytppbofaglpdghaagreat", sum := "d4f278a813f7ac77ac1abf7aa440fd05d479a73ab15ed9d5110bc60c79b2acdb", func := "trustquorum/trustquorumlaw32.ScenarioKeeps", spec := "scenarioKeeps", inPlace := ["slices.overlaps[string]", "slices.overlaps[trustquorum/api.Slot]", "slices.overlaps[trustquorum/api.Nomination]", "slices.overlaps[trustquorum/api.Envelope]", "slices.overlaps[trustquorum/api.Parcel]"], unfollowed := true, recurses := true, apart := false, narrowed := true }
def ScenarioKeepsUptoSaid : Prop := scenarioKeepsUptoRow.holds Tryz.pinned (OpenSpec.upto scenarioKeepsSpec)

/-- 'trustquorumlaw32.ScenarioStops', WHERE WHAT IT READS IS OF BULK AT MOST 1048576: true; the input reads as it did. -/
def scenarioStopsUptoRow : OpenClaim := { program := "ytppbofaglpdghaagreat", sum := "d4f278a813f7ac77ac1abf7aa440fd05d479a73ab15ed9d5110bc60c79b2acdb", func := "trustquorum/trustquorumlaw32.ScenarioStops", spec := "scenarioStops", inPlace := ["slices.overlaps[string]", "slices.overlaps[trustquorum/api.Slot]", "slices.overlaps[trustquorum/api.Nomination]", "slices.overlaps[trustquorum/api.Envelope]", "slices.overlaps[trustquorum/api.Parcel]"], unfollowed := true, recurses := true, apart := false, narrowed := true }
def ScenarioStopsUptoSaid : Prop := scenarioStopsUptoRow.holds Tryz.pinned (OpenSpec.upto scenarioStopsSpec)

/-- 'trustquorumlaw32.ScenarioExact', WHERE WHAT IT READS IS OF BULK AT MOST 1048576: true; the input reads as it did. -/
def scenarioExactUptoRow : OpenClaim := { program := "ytppbofaglpdghaagreat", sum := "d4f278a813f7ac77ac1abf7aa440fd05d479a73ab15ed9d5110bc60c79b2acdb", func := "trustquorum/trustquorumlaw32.ScenarioExact", spec := "scenarioExact", inPlace := ["slices.overlaps[string]", "slices.overlaps[trustquorum/api.Slot]", "slices.overlaps[trustquorum/api.Nomination]", "slices.overlaps[trustquorum/api.Envelope]", "slices.overlaps[trustquorum/api.Parcel]"], unfollowed := true, recurses := true, loops := true, apart := false, narrowed := true }
def ScenarioExactUptoSaid : Prop := scenarioExactUptoRow.holds Tryz.pinned (OpenSpec.upto scenarioExactSpec)

end Rows
end Go.Proofs.YtppbofaglpdghaaGreat
