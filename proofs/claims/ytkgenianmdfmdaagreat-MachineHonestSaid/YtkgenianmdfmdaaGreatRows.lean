/-
  No cell of these rows narrows 'for every input' (looked for: loops, veiled, ifaces, maps, wideKeys, modest, calm, conditions, laid).
  DERIVED. THE GIVEN ROWS OF THIS SEAT. 6 by the template 'for every input the law returns true; each argument reads behind the call as it read before'; 0 by the template 'total and deterministic' (their statements: YtkgenianmdfmdaaGreatTotals.lean).
  GIVEN WITH THE SEED: the statements are not yours to turn. If you find one false, say at which input.
  Laid BY PROGRAM, IN A SANDBOX (cutbox-rows.mjs): the forced cells as the released guide's own fill.sh prints them over the translation ebea0bd69a8f0e48… (all of the seat's roots in one cut). By AI agents, Wed Nov 11 2026. No macro, syntax, notation, axiom, sorry.
-/
import Derived.Test.YtkgenianmdfmdaaGreatChecked
import GoSem.Claim
import GoSem.ClaimJoined
import GoSem.ClaimMapViews
import Derived.JoinedTies
import Derived.KernelRfl
namespace Go.Proofs.YtkgenianmdfmdaaGreat
/- THE CELL 'sum', in the pinned program and in every row, IS THE sha256 OF THE DUMP (.gsa) THAT YtkgenianmdfmdaaGreatProg.lean LOADS. Nothing in Lean hashes anything: it is a label: what it is worth is what the hold of that sum in a sandbox is worth. -/
noncomputable def Tryz.pinned : Pinned := { name := "ytkgenianmdfmdaagreat", sum := "ebea0bd69a8f0e4860d9b9b4b8d7383a28de72bc9485c8305f9fe3ed9879f29c", checked := Tryz.checked }
namespace Rows
def none {H : Type} : Left H := { results := [], args := [] }

/-- 'trustquorumlaw27.MachineHonest': WHATEVER THE INPUT: true; the input reads as it did. -/
def machineHonestSpec : ChangeSpec := { name := "machineHonest", fn := fun _ => fun
  | [d] => { results := [.lit (.bool true)], args := [d] }
  | _ => none }
def machineHonestRow : OpenClaim := { program := "ytkgenianmdfmdaagreat", sum := "ebea0bd69a8f0e4860d9b9b4b8d7383a28de72bc9485c8305f9fe3ed9879f29c", func := "trustquorum/trustquorumlaw27.MachineHonest", spec := "machineHonest", inPlace := ["slices.overlaps[trustquorum/api.Envelope]"], unfollowed := true, recurses := true, apart := false }
def MachineHonestSaid : Prop := machineHonestRow.holds Tryz.pinned (OpenSpec.ofChange machineHonestSpec)

/-- ITS FALSE NEIGHBOUR: 'it returns false'. Refute it at one input. -/
def machineHonestWrong : ChangeSpec := { name := "machineHonest", fn := fun _ => fun
  | [d] => { results := [.lit (.bool false)], args := [d] }
  | _ => none }
def MachineHonestWrongFalsely : Prop := machineHonestRow.holds Tryz.pinned (OpenSpec.ofChange machineHonestWrong)

/-- 'trustquorumlaw27.MachineCatches': WHATEVER THE INPUT: true; the input reads as it did. -/
def machineCatchesSpec : ChangeSpec := { name := "machineCatches", fn := fun _ => fun
  | [d] => { results := [.lit (.bool true)], args := [d] }
  | _ => none }
def machineCatchesRow : OpenClaim := { program := "ytkgenianmdfmdaagreat", sum := "ebea0bd69a8f0e4860d9b9b4b8d7383a28de72bc9485c8305f9fe3ed9879f29c", func := "trustquorum/trustquorumlaw27.MachineCatches", spec := "machineCatches", inPlace := ["slices.overlaps[trustquorum/api.Envelope]"], unfollowed := true, recurses := true, apart := false }
def MachineCatchesSaid : Prop := machineCatchesRow.holds Tryz.pinned (OpenSpec.ofChange machineCatchesSpec)

/-- ITS FALSE NEIGHBOUR: 'it returns false'. Refute it at one input. -/
def machineCatchesWrong : ChangeSpec := { name := "machineCatches", fn := fun _ => fun
  | [d] => { results := [.lit (.bool false)], args := [d] }
  | _ => none }
def MachineCatchesWrongFalsely : Prop := machineCatchesRow.holds Tryz.pinned (OpenSpec.ofChange machineCatchesWrong)

/-- 'trustquorumlaw27.MachineOlder': WHATEVER THE INPUT: true; the input reads as it did. -/
def machineOlderSpec : ChangeSpec := { name := "machineOlder", fn := fun _ => fun
  | [d] => { results := [.lit (.bool true)], args := [d] }
  | _ => none }
def machineOlderRow : OpenClaim := { program := "ytkgenianmdfmdaagreat", sum := "ebea0bd69a8f0e4860d9b9b4b8d7383a28de72bc9485c8305f9fe3ed9879f29c", func := "trustquorum/trustquorumlaw27.MachineOlder", spec := "machineOlder", inPlace := ["slices.overlaps[trustquorum/api.Envelope]"], unfollowed := true, recurses := true, apart := false }
def MachineOlderSaid : Prop := machineOlderRow.holds Tryz.pinned (OpenSpec.ofChange machineOlderSpec)

/-- ITS FALSE NEIGHBOUR: 'it returns false'. Refute it at one input. -/
def machineOlderWrong : ChangeSpec := { name := "machineOlder", fn := fun _ => fun
  | [d] => { results := [.lit (.bool false)], args := [d] }
  | _ => none }
def MachineOlderWrongFalsely : Prop := machineOlderRow.holds Tryz.pinned (OpenSpec.ofChange machineOlderWrong)

/-- 'trustquorumlaw27.MachineKeeps': WHATEVER THE INPUT: true; the input reads as it did. -/
def machineKeepsSpec : ChangeSpec := { name := "machineKeeps", fn := fun _ => fun
  | [d] => { results := [.lit (.bool true)], args := [d] }
  | _ => none }
def machineKeepsRow : OpenClaim := { program := "ytkgenianmdfmdaagreat", sum := "ebea0bd69a8f0e4860d9b9b4b8d7383a28de72bc9485c8305f9fe3ed9879f29c", func := "trustquorum/trustquorumlaw27.MachineKeeps", spec := "machineKeeps", inPlace := ["slices.overlaps[trustquorum/api.Envelope]"], unfollowed := true, recurses := true, apart := false }
def MachineKeepsSaid : Prop := machineKeepsRow.holds Tryz.pinned (OpenSpec.ofChange machineKeepsSpec)

/-- ITS FALSE NEIGHBOUR: 'it returns false'. Refute it at one input. -/
def machineKeepsWrong : ChangeSpec := { name := "machineKeeps", fn := fun _ => fun
  | [d] => { results := [.lit (.bool false)], args := [d] }
  | _ => none }
def MachineKeepsWrongFalsely : Prop := machineKeepsRow.holds Tryz.pinned (OpenSpec.ofChange machineKeepsWrong)

/-- 'trustquorumlaw27.MachineAgree': WHATEVER THE INPUT: true; the input reads as it did. -/
def machineAgreeSpec : ChangeSpec := { name := "machineAgree", fn := fun _ => fun
  | [d] => { results := [.lit (.bool true)], args := [d] }
  | _ => none }
def machineAgreeRow : OpenClaim := { program := "ytkgenianmdfmdaagreat", sum := "ebea0bd69a8f0e4860d9b9b4b8d7383a28de72bc9485c8305f9fe3ed9879f29c", func := "trustquorum/trustquorumlaw27.MachineAgree", spec := "machineAgree", inPlace := ["slices.overlaps[trustquorum/api.Envelope]"], unfollowed := true, recurses := true, apart := false }
def MachineAgreeSaid : Prop := machineAgreeRow.holds Tryz.pinned (OpenSpec.ofChange machineAgreeSpec)

/-- ITS FALSE NEIGHBOUR: 'it returns false'. Refute it at one input. -/
def machineAgreeWrong : ChangeSpec := { name := "machineAgree", fn := fun _ => fun
  | [d] => { results := [.lit (.bool false)], args := [d] }
  | _ => none }
def MachineAgreeWrongFalsely : Prop := machineAgreeRow.holds Tryz.pinned (OpenSpec.ofChange machineAgreeWrong)

/-- 'trustquorumlaw27.MachineFollows': WHATEVER THE INPUT: true; the input reads as it did. -/
def machineFollowsSpec : ChangeSpec := { name := "machineFollows", fn := fun _ => fun
  | [d] => { results := [.lit (.bool true)], args := [d] }
  | _ => none }
def machineFollowsRow : OpenClaim := { program := "ytkgenianmdfmdaagreat", sum := "ebea0bd69a8f0e4860d9b9b4b8d7383a28de72bc9485c8305f9fe3ed9879f29c", func := "trustquorum/trustquorumlaw27.MachineFollows", spec := "machineFollows", inPlace := ["slices.overlaps[trustquorum/api.Envelope]"], unfollowed := true, recurses := true, apart := false }
def MachineFollowsSaid : Prop := machineFollowsRow.holds Tryz.pinned (OpenSpec.ofChange machineFollowsSpec)

/-- ITS FALSE NEIGHBOUR: 'it returns false'. Refute it at one input. -/
def machineFollowsWrong : ChangeSpec := { name := "machineFollows", fn := fun _ => fun
  | [d] => { results := [.lit (.bool false)], args := [d] }
  | _ => none }
def MachineFollowsWrongFalsely : Prop := machineFollowsRow.holds Tryz.pinned (OpenSpec.ofChange machineFollowsWrong)

/- THE SECOND FORM. 'bulk': how many values and letters a reading holds, each counted each time it is reached (what is shared counts as often as it is met; a slice's spare places count too). A statement '..UptoSaid' is the law's where the arguments, and the package variables that the reading takes, are together of bulk at most 1048576: NARROWER than '..Said'. Prove '..Said' where nothing that the law and all that it calls make is longer than what came in: it says more and counts as full. Else prove '..UptoSaid'. A law counts once. -/
mutual
def uptoBulk {H : Type} : DataW H → Nat
  | .lit (.string bytes) => bytes.length + 1
  | .lit _ => 1
  | .nil => 1
  | .ptr d => uptoBulk d + 1
  | .slice elems spare => uptoBulkAll elems + uptoBulkAll spare + 1
  | .agg parts => uptoBulkAll parts + 1
  | .iface _ d => uptoBulk d + 1
  | .map entries => uptoBulkEntries entries + 1
  | .held _ => 1
def uptoBulkAll {H : Type} : List (DataW H) → Nat
  | [] => 0
  | d :: r => uptoBulk d + uptoBulkAll r
def uptoBulkEntries {H : Type} : List (Lit × DataW H) → Nat
  | [] => 0
  | x :: r => uptoBulkEntry x + uptoBulkEntries r
def uptoBulkEntry {H : Type} : Lit × DataW H → Nat
  | (.string bytes, d) => bytes.length + uptoBulk d + 1
  | (_, d) => uptoBulk d + 1
 end
def uptoSmall : (H : Type) → List (DataW H) → Bool := fun _ ds => decide (uptoBulkAll ds ≤ 1048576)
def OpenSpec.upto (s : _root_.Go.ChangeSpec) : _root_.Go.OpenSpec := { _root_.Go.OpenSpec.ofChange s with cond := some uptoSmall }

/-- 'trustquorumlaw27.MachineHonest', WHERE WHAT IT READS IS OF BULK AT MOST 1048576: true; the input reads as it did. -/
def machineHonestUptoRow : OpenClaim := { program := "ytkgenianmdfmdaagreat", sum := "ebea0bd69a8f0e4860d9b9b4b8d7383a28de72bc9485c8305f9fe3ed9879f29c", func := "trustquorum/trustquorumlaw27.MachineHonest", spec := "machineHonest", inPlace := ["slices.overlaps[trustquorum/api.Envelope]"], unfollowed := true, recurses := true, apart := false, narrowed := true }
def MachineHonestUptoSaid : Prop := machineHonestUptoRow.holds Tryz.pinned (OpenSpec.upto machineHonestSpec)

/-- 'trustquorumlaw27.MachineCatches', WHERE WHAT IT READS IS OF BULK AT MOST 1048576: true; the input reads as it did. -/
def machineCatchesUptoRow : OpenClaim := { program := "ytkgenianmdfmdaagreat", sum := "ebea0bd69a8f0e4860d9b9b4b8d7383a28de72bc9485c8305f9fe3ed9879f29c", func := "trustquorum/trustquorumlaw27.MachineCatches", spec := "machineCatches", inPlace := ["slices.overlaps[trustquorum/api.Envelope]"], unfollowed := true, recurses := true, apart := false, narrowed := true }
def MachineCatchesUptoSaid : Prop := machineCatchesUptoRow.holds Tryz.pinned (OpenSpec.upto machineCatchesSpec)

/-- 'trustquorumlaw27.MachineOlder', WHERE WHAT IT READS IS OF BULK AT MOST 1048576: true; the input reads as it did. -/
def machineOlderUptoRow : OpenClaim := { program := "ytkgenianmdfmdaagreat", sum := "ebea0bd69a8f0e4860d9b9b4b8d7383a28de72bc9485c8305f9fe3ed9879f29c", func := "trustquorum/trustquorumlaw27.MachineOlder", spec := "machineOlder", inPlace := ["slices.overlaps[trustquorum/api.Envelope]"], unfollowed := true, recurses := true, apart := false, narrowed := true }
def MachineOlderUptoSaid : Prop := machineOlderUptoRow.holds Tryz.pinned (OpenSpec.upto machineOlderSpec)

/-- 'trustquorumlaw27.MachineKeeps', WHERE WHAT IT READS IS OF BULK AT MOST 1048576: true; the input reads as it did. -/
def machineKeepsUptoRow : OpenClaim := { program := "ytkgenianmdfmdaagreat", sum := "ebea0bd69a8f0e4860d9b9b4b8d7383a28de72bc9485c8305f9fe3ed9879f29c", func := "trustquorum/trustquorumlaw27.MachineKeeps", spec := "machineKeeps", inPlace := ["slices.overlaps[trustquorum/api.Envelope]"], unfollowed := true, recurses := true, apart := false, narrowed := true }
def MachineKeepsUptoSaid : Prop := machineKeepsUptoRow.holds Tryz.pinned (OpenSpec.upto machineKeepsSpec)

/-- 'trustquorumlaw27.MachineAgree', WHERE WHAT IT READS IS OF BULK AT MOST 1048576: true; the input reads as it did. -/
def machineAgreeUptoRow : OpenClaim := { program := "ytkgenianmdfmdaagreat", sum := "ebea0bd69a8f0e4860d9b9b4b8d7383a28de72bc9485c8305f9fe3ed9879f29c", func := "trustquorum/trustquorumlaw27.MachineAgree", spec := "machineAgree", inPlace := ["slices.overlaps[trustquorum/api.Envelope]"], unfollowed := true, recurses := true, apart := false, narrowed := true }
def MachineAgreeUptoSaid : Prop := machineAgreeUptoRow.holds Tryz.pinned (OpenSpec.upto machineAgreeSpec)

/-- 'trustquorumlaw27.MachineFollows', WHERE WHAT IT READS IS OF BULK AT MOST 1048576: true; the input reads as it did. -/
def machineFollowsUptoRow : OpenClaim := { program := "ytkgenianmdfmdaagreat", sum := "ebea0bd69a8f0e4860d9b9b4b8d7383a28de72bc9485c8305f9fe3ed9879f29c", func := "trustquorum/trustquorumlaw27.MachineFollows", spec := "machineFollows", inPlace := ["slices.overlaps[trustquorum/api.Envelope]"], unfollowed := true, recurses := true, apart := false, narrowed := true }
def MachineFollowsUptoSaid : Prop := machineFollowsUptoRow.holds Tryz.pinned (OpenSpec.upto machineFollowsSpec)

end Rows
end Go.Proofs.YtkgenianmdfmdaaGreat
