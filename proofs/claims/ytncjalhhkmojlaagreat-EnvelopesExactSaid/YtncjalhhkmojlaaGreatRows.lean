/-
  NARROWER THAN 'FOR EVERY INPUT', by the rows' own cells (each row's printed sentence says how): PrepareExact: loops · CommitExact: loops · EnvelopesExact: loops.
  DERIVED. THE GIVEN ROWS OF THIS SEAT. 8 by the template 'for every input the law returns true; each argument reads behind the call as it read before'; 0 by the template 'total and deterministic' (their statements: YtncjalhhkmojlaaGreatTotals.lean).
  GIVEN WITH THE SEED: the statements are not yours to turn. If you find one false, say at which input.
  Laid BY PROGRAM, IN A SANDBOX (cutbox-rows.mjs): the forced cells as the released guide's own fill.sh prints them over the translation bc58600c05998e88… (all of the seat's roots in one cut). By AI agents, Wed Nov 11 2026. No macro, syntax, notation, axiom, sorry.
-/
import Derived.Test.YtncjalhhkmojlaaGreatChecked
import GoSem.Claim
import GoSem.ClaimJoined
import GoSem.ClaimMapViews
import Derived.JoinedTies
import Derived.KernelRfl
namespace Go.Proofs.YtncjalhhkmojlaaGreat
/- THE CELL 'sum', in the pinned program and in every row, IS THE sha256 OF THE DUMP (.gsa) THAT YtncjalhhkmojlaaGreatProg.lean LOADS. Nothing in Lean hashes anything: it is a label: what it is worth is what the hold of that sum in a sandbox is worth. -/
noncomputable def Tryz.pinned : Pinned := { name := "ytncjalhhkmojlaagreat", sum := "bc58600c05998e88bd759815be0a4817bdc84f69ffc398793103f7df7affacbf", checked := Tryz.checked }
namespace Rows
def none {H : Type} : Left H := { results := [], args := [] }

/-- 'trustquorumlaw24.EnvelopesLists': WHATEVER THE INPUT: true; the input reads as it did. -/
def envelopesListsSpec : ChangeSpec := { name := "envelopesLists", fn := fun _ => fun
  | [d] => { results := [.lit (.bool true)], args := [d] }
  | _ => none }
def envelopesListsRow : OpenClaim := { program := "ytncjalhhkmojlaagreat", sum := "bc58600c05998e88bd759815be0a4817bdc84f69ffc398793103f7df7affacbf", func := "trustquorum/trustquorumlaw24.EnvelopesLists", spec := "envelopesLists", unfollowed := true, recurses := true, apart := false }
def EnvelopesListsSaid : Prop := envelopesListsRow.holds Tryz.pinned (OpenSpec.ofChange envelopesListsSpec)

/-- ITS FALSE NEIGHBOUR: 'it returns false'. Refute it at one input. -/
def envelopesListsWrong : ChangeSpec := { name := "envelopesLists", fn := fun _ => fun
  | [d] => { results := [.lit (.bool false)], args := [d] }
  | _ => none }
def EnvelopesListsWrongFalsely : Prop := envelopesListsRow.holds Tryz.pinned (OpenSpec.ofChange envelopesListsWrong)

/-- 'trustquorumlaw26.CommitParts': WHATEVER THE INPUT: true; the input reads as it did. -/
def commitPartsSpec : ChangeSpec := { name := "commitParts", fn := fun _ => fun
  | [d] => { results := [.lit (.bool true)], args := [d] }
  | _ => none }
def commitPartsRow : OpenClaim := { program := "ytncjalhhkmojlaagreat", sum := "bc58600c05998e88bd759815be0a4817bdc84f69ffc398793103f7df7affacbf", func := "trustquorum/trustquorumlaw26.CommitParts", spec := "commitParts", unfollowed := true, recurses := true, apart := false }
def CommitPartsSaid : Prop := commitPartsRow.holds Tryz.pinned (OpenSpec.ofChange commitPartsSpec)

/-- ITS FALSE NEIGHBOUR: 'it returns false'. Refute it at one input. -/
def commitPartsWrong : ChangeSpec := { name := "commitParts", fn := fun _ => fun
  | [d] => { results := [.lit (.bool false)], args := [d] }
  | _ => none }
def CommitPartsWrongFalsely : Prop := commitPartsRow.holds Tryz.pinned (OpenSpec.ofChange commitPartsWrong)

/-- 'trustquorumlaw26.CommitQuorum': WHATEVER THE INPUT: true; the input reads as it did. -/
def commitQuorumSpec : ChangeSpec := { name := "commitQuorum", fn := fun _ => fun
  | [d] => { results := [.lit (.bool true)], args := [d] }
  | _ => none }
def commitQuorumRow : OpenClaim := { program := "ytncjalhhkmojlaagreat", sum := "bc58600c05998e88bd759815be0a4817bdc84f69ffc398793103f7df7affacbf", func := "trustquorum/trustquorumlaw26.CommitQuorum", spec := "commitQuorum", unfollowed := true, recurses := true, apart := false }
def CommitQuorumSaid : Prop := commitQuorumRow.holds Tryz.pinned (OpenSpec.ofChange commitQuorumSpec)

/-- ITS FALSE NEIGHBOUR: 'it returns false'. Refute it at one input. -/
def commitQuorumWrong : ChangeSpec := { name := "commitQuorum", fn := fun _ => fun
  | [d] => { results := [.lit (.bool false)], args := [d] }
  | _ => none }
def CommitQuorumWrongFalsely : Prop := commitQuorumRow.holds Tryz.pinned (OpenSpec.ofChange commitQuorumWrong)

/-- 'trustquorumlaw25.PrepareGrows': WHATEVER THE INPUT: true; the input reads as it did. -/
def prepareGrowsSpec : ChangeSpec := { name := "prepareGrows", fn := fun _ => fun
  | [d] => { results := [.lit (.bool true)], args := [d] }
  | _ => none }
def prepareGrowsRow : OpenClaim := { program := "ytncjalhhkmojlaagreat", sum := "bc58600c05998e88bd759815be0a4817bdc84f69ffc398793103f7df7affacbf", func := "trustquorum/trustquorumlaw25.PrepareGrows", spec := "prepareGrows", unfollowed := true, recurses := true, apart := false }
def PrepareGrowsSaid : Prop := prepareGrowsRow.holds Tryz.pinned (OpenSpec.ofChange prepareGrowsSpec)

/-- ITS FALSE NEIGHBOUR: 'it returns false'. Refute it at one input. -/
def prepareGrowsWrong : ChangeSpec := { name := "prepareGrows", fn := fun _ => fun
  | [d] => { results := [.lit (.bool false)], args := [d] }
  | _ => none }
def PrepareGrowsWrongFalsely : Prop := prepareGrowsRow.holds Tryz.pinned (OpenSpec.ofChange prepareGrowsWrong)

/-- 'trustquorumlaw25.PrepareExact': WHATEVER THE INPUT: true; the input reads as it did. -/
def prepareExactSpec : ChangeSpec := { name := "prepareExact", fn := fun _ => fun
  | [d1, d2, d3, d4, d5, d6, d7, d8] => { results := [.lit (.bool true)], args := [d1, d2, d3, d4, d5, d6, d7, d8] }
  | _ => none }
def prepareExactRow : OpenClaim := { program := "ytncjalhhkmojlaagreat", sum := "bc58600c05998e88bd759815be0a4817bdc84f69ffc398793103f7df7affacbf", func := "trustquorum/trustquorumlaw25.PrepareExact", spec := "prepareExact", unfollowed := true, recurses := true, loops := true, apart := false }
def PrepareExactSaid : Prop := prepareExactRow.holds Tryz.pinned (OpenSpec.ofChange prepareExactSpec)

/-- ITS FALSE NEIGHBOUR: 'it returns false'. Refute it at one input. -/
def prepareExactWrong : ChangeSpec := { name := "prepareExact", fn := fun _ => fun
  | [d1, d2, d3, d4, d5, d6, d7, d8] => { results := [.lit (.bool false)], args := [d1, d2, d3, d4, d5, d6, d7, d8] }
  | _ => none }
def PrepareExactWrongFalsely : Prop := prepareExactRow.holds Tryz.pinned (OpenSpec.ofChange prepareExactWrong)

/-- 'trustquorumlaw26.CommitExact': WHATEVER THE INPUT: true; the input reads as it did. -/
def commitExactSpec : ChangeSpec := { name := "commitExact", fn := fun _ => fun
  | [d1, d2, d3, d4, d5, d6, d7, d8, d9] => { results := [.lit (.bool true)], args := [d1, d2, d3, d4, d5, d6, d7, d8, d9] }
  | _ => none }
def commitExactRow : OpenClaim := { program := "ytncjalhhkmojlaagreat", sum := "bc58600c05998e88bd759815be0a4817bdc84f69ffc398793103f7df7affacbf", func := "trustquorum/trustquorumlaw26.CommitExact", spec := "commitExact", unfollowed := true, recurses := true, loops := true, apart := false }
def CommitExactSaid : Prop := commitExactRow.holds Tryz.pinned (OpenSpec.ofChange commitExactSpec)

/-- ITS FALSE NEIGHBOUR: 'it returns false'. Refute it at one input. -/
def commitExactWrong : ChangeSpec := { name := "commitExact", fn := fun _ => fun
  | [d1, d2, d3, d4, d5, d6, d7, d8, d9] => { results := [.lit (.bool false)], args := [d1, d2, d3, d4, d5, d6, d7, d8, d9] }
  | _ => none }
def CommitExactWrongFalsely : Prop := commitExactRow.holds Tryz.pinned (OpenSpec.ofChange commitExactWrong)

/-- 'trustquorumlaw26.CommitRanges': WHATEVER THE INPUT: true; the input reads as it did. -/
def commitRangesSpec : ChangeSpec := { name := "commitRanges", fn := fun _ => fun
  | [d] => { results := [.lit (.bool true)], args := [d] }
  | _ => none }
def commitRangesRow : OpenClaim := { program := "ytncjalhhkmojlaagreat", sum := "bc58600c05998e88bd759815be0a4817bdc84f69ffc398793103f7df7affacbf", func := "trustquorum/trustquorumlaw26.CommitRanges", spec := "commitRanges", unfollowed := true, recurses := true, apart := false }
def CommitRangesSaid : Prop := commitRangesRow.holds Tryz.pinned (OpenSpec.ofChange commitRangesSpec)

/-- ITS FALSE NEIGHBOUR: 'it returns false'. Refute it at one input. -/
def commitRangesWrong : ChangeSpec := { name := "commitRanges", fn := fun _ => fun
  | [d] => { results := [.lit (.bool false)], args := [d] }
  | _ => none }
def CommitRangesWrongFalsely : Prop := commitRangesRow.holds Tryz.pinned (OpenSpec.ofChange commitRangesWrong)

/-- 'trustquorumlaw24.EnvelopesExact': WHATEVER THE INPUT: true; the input reads as it did. -/
def envelopesExactSpec : ChangeSpec := { name := "envelopesExact", fn := fun _ => fun
  | [d1, d2, d3, d4, d5, d6, d7, d8] => { results := [.lit (.bool true)], args := [d1, d2, d3, d4, d5, d6, d7, d8] }
  | _ => none }
def envelopesExactRow : OpenClaim := { program := "ytncjalhhkmojlaagreat", sum := "bc58600c05998e88bd759815be0a4817bdc84f69ffc398793103f7df7affacbf", func := "trustquorum/trustquorumlaw24.EnvelopesExact", spec := "envelopesExact", inPlace := ["slices.overlaps[trustquorum/api.Envelope]"], unfollowed := true, recurses := true, loops := true, apart := false }
def EnvelopesExactSaid : Prop := envelopesExactRow.holds Tryz.pinned (OpenSpec.ofChange envelopesExactSpec)

/-- ITS FALSE NEIGHBOUR: 'it returns false'. Refute it at one input. -/
def envelopesExactWrong : ChangeSpec := { name := "envelopesExact", fn := fun _ => fun
  | [d1, d2, d3, d4, d5, d6, d7, d8] => { results := [.lit (.bool false)], args := [d1, d2, d3, d4, d5, d6, d7, d8] }
  | _ => none }
def EnvelopesExactWrongFalsely : Prop := envelopesExactRow.holds Tryz.pinned (OpenSpec.ofChange envelopesExactWrong)

/- THE SECOND FORM. 'bulk': how many values and letters a reading holds, each counted each time it is reached (what is shared counts as often as it is met; a slice's spare places count too). A statement '..UptoSaid' is the law's where the arguments, and the package variables that the reading takes, are together of bulk at most 1048576: NARROWER than '..Said'. Prove '..Said' where nothing that the law and all that it calls make is longer than what came in: it says more and counts as full. Else prove '..UptoSaid'. A law counts once. -/
mutual
def uptoBulk {H : Type} : DataW H → Nat
  | .lit (.string bytes) => bytes.length + 1
  | .lit _ => 1
  | .nil => 1
  | .ptr d => uptoBulk d + 1
  | .slice elems spare => uptoBulkAll elems + uptoBulkAll spare + 1
  | .agg parts => uptoBulkAll parts + 1
  | .iface _ d => uptoBulk d + 1
  | .map entries => uptoBulkEntries entries + 1
  | .held _ => 1
def uptoBulkAll {H : Type} : List (DataW H) → Nat
  | [] => 0
  | d :: r => uptoBulk d + uptoBulkAll r
def uptoBulkEntries {H : Type} : List (Lit × DataW H) → Nat
  | [] => 0
  | x :: r => uptoBulkEntry x + uptoBulkEntries r
def uptoBulkEntry {H : Type} : Lit × DataW H → Nat
  | (.string bytes, d) => bytes.length + uptoBulk d + 1
  | (_, d) => uptoBulk d + 1
 end
def uptoSmall : (H : Type) → List (DataW H) → Bool := fun _ ds => decide (uptoBulkAll ds ≤ 1048576)
def OpenSpec.upto (s : _root_.Go.ChangeSpec) : _root_.Go.OpenSpec := { _root_.Go.OpenSpec.ofChange s with cond := some uptoSmall }

/-- 'trustquorumlaw24.EnvelopesLists', WHERE WHAT IT READS IS OF BULK AT MOST 1048576: true; the input reads as it did. -/
def envelopesListsUptoRow : OpenClaim := { program := "ytncjalhhkmojlaagreat", sum := "bc58600c05998e88bd759815be0a4817bdc84f69ffc398793103f7df7affacbf", func := "trustquorum/trustquorumlaw24.EnvelopesLists", spec := "envelopesLists", unfollowed := true, recurses := true, apart := false, narrowed := true }
def EnvelopesListsUptoSaid : Prop := envelopesListsUptoRow.holds Tryz.pinned (OpenSpec.upto envelopesListsSpec)

/-- 'trustquorumlaw26.CommitParts', WHERE WHAT IT READS IS OF BULK AT MOST 1048576: true; the input reads as it did. -/
def commitPartsUptoRow : OpenClaim := { program := "ytncjalhhkmojlaagreat", sum := "bc58600c05998e88bd759815be0a4817bdc84f69ffc398793103f7df7affacbf", func := "trustquorum/trustquorumlaw26.CommitParts", spec := "commitParts", unfollowed := true, recurses := true, apart := false, narrowed := true }
def CommitPartsUptoSaid : Prop := commitPartsUptoRow.holds Tryz.pinned (OpenSpec.upto commitPartsSpec)

/-- 'trustquorumlaw26.CommitQuorum', WHERE WHAT IT READS IS OF BULK AT MOST 1048576: true; the input reads as it did. -/
def commitQuorumUptoRow : OpenClaim := { program := "ytncjalhhkmojlaagreat", sum := "bc58600c05998e88bd759815be0a4817bdc84f69ffc398793103f7df7affacbf", func := "trustquorum/trustquorumlaw26.CommitQuorum", spec := "commitQuorum", unfollowed := true, recurses := true, apart := false, narrowed := true }
def CommitQuorumUptoSaid : Prop := commitQuorumUptoRow.holds Tryz.pinned (OpenSpec.upto commitQuorumSpec)

/-- 'trustquorumlaw25.PrepareGrows', WHERE WHAT IT READS IS OF BULK AT MOST 1048576: true; the input reads as it did. -/
def prepareGrowsUptoRow : OpenClaim := { program := "ytncjalhhkmojlaagreat", sum := "bc58600c05998e88bd759815be0a4817bdc84f69ffc398793103f7df7affacbf", func := "trustquorum/trustquorumlaw25.PrepareGrows", spec := "prepareGrows", unfollowed := true, recurses := true, apart := false, narrowed := true }
def PrepareGrowsUptoSaid : Prop := prepareGrowsUptoRow.holds Tryz.pinned (OpenSpec.upto prepareGrowsSpec)

/-- 'trustquorumlaw25.PrepareExact', WHERE WHAT IT READS IS OF BULK AT MOST 1048576: true; the input reads as it did. -/
def prepareExactUptoRow : OpenClaim := { program := "ytncjalhhkmojlaagreat", sum := "bc58600c05998e88bd759815be0a4817bdc84f69ffc398793103f7df7affacbf", func := "trustquorum/trustquorumlaw25.PrepareExact", spec := "prepareExact", unfollowed := true, recurses := true, loops := true, apart := false, narrowed := true }
def PrepareExactUptoSaid : Prop := prepareExactUptoRow.holds Tryz.pinned (OpenSpec.upto prepareExactSpec)

/-- 'trustquorumlaw26.CommitExact', WHERE WHAT IT READS IS OF BULK AT MOST 1048576: true; the input reads as it did. -/
def commitExactUptoRow : OpenClaim := { program := "ytncjalhhkmojlaagreat", sum := "bc58600c05998e88bd759815be0a4817bdc84f69ffc398793103f7df7affacbf", func := "trustquorum/trustquorumlaw26.CommitExact", spec := "commitExact", unfollowed := true, recurses := true, loops := true, apart := false, narrowed := true }
def CommitExactUptoSaid : Prop := commitExactUptoRow.holds Tryz.pinned (OpenSpec.upto commitExactSpec)

/-- 'trustquorumlaw26.CommitRanges', WHERE WHAT IT READS IS OF BULK AT MOST 1048576: true; the input reads as it did. -/
def commitRangesUptoRow : OpenClaim := { program := "ytncjalhhkmojlaagreat", sum := "bc58600c05998e88bd759815be0a4817bdc84f69ffc398793103f7df7affacbf", func := "trustquorum/trustquorumlaw26.CommitRanges", spec := "commitRanges", unfollowed := true, recurses := true, apart := false, narrowed := true }
def CommitRangesUptoSaid : Prop := commitRangesUptoRow.holds Tryz.pinned (OpenSpec.upto commitRangesSpec)

/-- 'trustquorumlaw24.EnvelopesExact', WHERE WHAT IT READS IS OF BULK AT MOST 1048576: true; the input reads as it did. -/
def envelopesExactUptoRow : OpenClaim := { program := "ytncjalhhkmojlaagreat", sum := "bc58600c05998e88bd759815be0a4817bdc84f69ffc398793103f7df7affacbf", func := "trustquorum/trustquorumlaw24.EnvelopesExact", spec := "envelopesExact", inPlace := ["slices.overlaps[trustquorum/api.Envelope]"], unfollowed := true, recurses := true, loops := true, apart := false, narrowed := true }
def EnvelopesExactUptoSaid : Prop := envelopesExactUptoRow.holds Tryz.pinned (OpenSpec.upto envelopesExactSpec)

end Rows
end Go.Proofs.YtncjalhhkmojlaaGreat
