/-
  No cell of these rows narrows 'for every input' (looked for: loops, veiled, ifaces, maps, wideKeys, modest, calm, conditions, laid).
  DERIVED. THE GIVEN ROWS OF THIS SEAT. 8 by the template 'for every input the law returns true; each argument reads behind the call as it read before'; 0 by the template 'total and deterministic' (their statements: YtncjalhhkmojlaaTotals.lean).
  GIVEN WITH THE SEED: the statements are not yours to turn. If you find one false, say at which input.
  Laid BY PROGRAM, IN A SANDBOX (cutbox-rows.mjs): the forced cells as the released guide's own fill.sh prints them over the translation 06257ccbd85b8305… (all of the seat's roots in one cut). By AI agents, Wed Nov 11 2026. No macro, syntax, notation, axiom, sorry.
-/
import Derived.Test.YtncjalhhkmojlaaChecked
import GoSem.Claim
import GoSem.ClaimJoined
import GoSem.ClaimMapViews
import Derived.JoinedTies
import Derived.KernelRfl
namespace Go.Proofs.Ytncjalhhkmojlaa
/- THE CELL 'sum', in the pinned program and in every row, IS THE sha256 OF THE DUMP (.gsa) THAT YtncjalhhkmojlaaProg.lean LOADS. Nothing in Lean hashes anything: it is a label: what it is worth is what the hold of that sum in a sandbox is worth. -/
noncomputable def Try.pinned : Pinned := { name := "ytncjalhhkmojlaa", sum := "06257ccbd85b83055fd1e0b92d6372843f034cf1581dc9f0514bf777335f6160", checked := Try.checked }
namespace Rows
def none {H : Type} : Left H := { results := [], args := [] }

/-- 'trustquorumlaw24.EnvelopesConsistent': WHATEVER THE INPUT: true; the input reads as it did. -/
def envelopesConsistentSpec : ChangeSpec := { name := "envelopesConsistent", fn := fun _ => fun
  | [d1, d2] => { results := [.lit (.bool true)], args := [d1, d2] }
  | _ => none }
def envelopesConsistentRow : OpenClaim := { program := "ytncjalhhkmojlaa", sum := "06257ccbd85b83055fd1e0b92d6372843f034cf1581dc9f0514bf777335f6160", func := "trustquorum/trustquorumlaw24.EnvelopesConsistent", spec := "envelopesConsistent", unfollowed := true, recurses := true, apart := false }
def EnvelopesConsistentSaid : Prop := envelopesConsistentRow.holds Try.pinned (OpenSpec.ofChange envelopesConsistentSpec)

/-- ITS FALSE NEIGHBOUR: 'it returns false'. Refute it at one input. -/
def envelopesConsistentWrong : ChangeSpec := { name := "envelopesConsistent", fn := fun _ => fun
  | [d1, d2] => { results := [.lit (.bool false)], args := [d1, d2] }
  | _ => none }
def EnvelopesConsistentWrongFalsely : Prop := envelopesConsistentRow.holds Try.pinned (OpenSpec.ofChange envelopesConsistentWrong)

/-- 'trustquorumlaw25.PrepareJoins': WHATEVER THE INPUT: true; the input reads as it did. -/
def prepareJoinsSpec : ChangeSpec := { name := "prepareJoins", fn := fun _ => fun
  | [d] => { results := [.lit (.bool true)], args := [d] }
  | _ => none }
def prepareJoinsRow : OpenClaim := { program := "ytncjalhhkmojlaa", sum := "06257ccbd85b83055fd1e0b92d6372843f034cf1581dc9f0514bf777335f6160", func := "trustquorum/trustquorumlaw25.PrepareJoins", spec := "prepareJoins", unfollowed := true, recurses := true, apart := false }
def PrepareJoinsSaid : Prop := prepareJoinsRow.holds Try.pinned (OpenSpec.ofChange prepareJoinsSpec)

/-- ITS FALSE NEIGHBOUR: 'it returns false'. Refute it at one input. -/
def prepareJoinsWrong : ChangeSpec := { name := "prepareJoins", fn := fun _ => fun
  | [d] => { results := [.lit (.bool false)], args := [d] }
  | _ => none }
def PrepareJoinsWrongFalsely : Prop := prepareJoinsRow.holds Try.pinned (OpenSpec.ofChange prepareJoinsWrong)

/-- 'trustquorumlaw24.EnvelopesImply': WHATEVER THE INPUT: true; the input reads as it did. -/
def envelopesImplySpec : ChangeSpec := { name := "envelopesImply", fn := fun _ => fun
  | [d] => { results := [.lit (.bool true)], args := [d] }
  | _ => none }
def envelopesImplyRow : OpenClaim := { program := "ytncjalhhkmojlaa", sum := "06257ccbd85b83055fd1e0b92d6372843f034cf1581dc9f0514bf777335f6160", func := "trustquorum/trustquorumlaw24.EnvelopesImply", spec := "envelopesImply", unfollowed := true, recurses := true, apart := false }
def EnvelopesImplySaid : Prop := envelopesImplyRow.holds Try.pinned (OpenSpec.ofChange envelopesImplySpec)

/-- ITS FALSE NEIGHBOUR: 'it returns false'. Refute it at one input. -/
def envelopesImplyWrong : ChangeSpec := { name := "envelopesImply", fn := fun _ => fun
  | [d] => { results := [.lit (.bool false)], args := [d] }
  | _ => none }
def EnvelopesImplyWrongFalsely : Prop := envelopesImplyRow.holds Try.pinned (OpenSpec.ofChange envelopesImplyWrong)

/-- 'trustquorumlaw24.EnvelopesForever': WHATEVER THE INPUT: true; the input reads as it did. -/
def envelopesForeverSpec : ChangeSpec := { name := "envelopesForever", fn := fun _ => fun
  | [d1, d2, d3] => { results := [.lit (.bool true)], args := [d1, d2, d3] }
  | _ => none }
def envelopesForeverRow : OpenClaim := { program := "ytncjalhhkmojlaa", sum := "06257ccbd85b83055fd1e0b92d6372843f034cf1581dc9f0514bf777335f6160", func := "trustquorum/trustquorumlaw24.EnvelopesForever", spec := "envelopesForever", unfollowed := true, recurses := true, apart := false }
def EnvelopesForeverSaid : Prop := envelopesForeverRow.holds Try.pinned (OpenSpec.ofChange envelopesForeverSpec)

/-- ITS FALSE NEIGHBOUR: 'it returns false'. Refute it at one input. -/
def envelopesForeverWrong : ChangeSpec := { name := "envelopesForever", fn := fun _ => fun
  | [d1, d2, d3] => { results := [.lit (.bool false)], args := [d1, d2, d3] }
  | _ => none }
def EnvelopesForeverWrongFalsely : Prop := envelopesForeverRow.holds Try.pinned (OpenSpec.ofChange envelopesForeverWrong)

/-- 'trustquorumlaw25.PrepareBlocked': WHATEVER THE INPUT: true; the input reads as it did. -/
def prepareBlockedSpec : ChangeSpec := { name := "prepareBlocked", fn := fun _ => fun
  | [d] => { results := [.lit (.bool true)], args := [d] }
  | _ => none }
def prepareBlockedRow : OpenClaim := { program := "ytncjalhhkmojlaa", sum := "06257ccbd85b83055fd1e0b92d6372843f034cf1581dc9f0514bf777335f6160", func := "trustquorum/trustquorumlaw25.PrepareBlocked", spec := "prepareBlocked", unfollowed := true, recurses := true, apart := false }
def PrepareBlockedSaid : Prop := prepareBlockedRow.holds Try.pinned (OpenSpec.ofChange prepareBlockedSpec)

/-- ITS FALSE NEIGHBOUR: 'it returns false'. Refute it at one input. -/
def prepareBlockedWrong : ChangeSpec := { name := "prepareBlocked", fn := fun _ => fun
  | [d] => { results := [.lit (.bool false)], args := [d] }
  | _ => none }
def PrepareBlockedWrongFalsely : Prop := prepareBlockedRow.holds Try.pinned (OpenSpec.ofChange prepareBlockedWrong)

/-- 'trustquorumlaw24.EnvelopesNewest': WHATEVER THE INPUT: true; the input reads as it did. -/
def envelopesNewestSpec : ChangeSpec := { name := "envelopesNewest", fn := fun _ => fun
  | [d] => { results := [.lit (.bool true)], args := [d] }
  | _ => none }
def envelopesNewestRow : OpenClaim := { program := "ytncjalhhkmojlaa", sum := "06257ccbd85b83055fd1e0b92d6372843f034cf1581dc9f0514bf777335f6160", func := "trustquorum/trustquorumlaw24.EnvelopesNewest", spec := "envelopesNewest", inPlace := ["slices.overlaps[trustquorum/api.Envelope]"], unfollowed := true, recurses := true, apart := false }
def EnvelopesNewestSaid : Prop := envelopesNewestRow.holds Try.pinned (OpenSpec.ofChange envelopesNewestSpec)

/-- ITS FALSE NEIGHBOUR: 'it returns false'. Refute it at one input. -/
def envelopesNewestWrong : ChangeSpec := { name := "envelopesNewest", fn := fun _ => fun
  | [d] => { results := [.lit (.bool false)], args := [d] }
  | _ => none }
def EnvelopesNewestWrongFalsely : Prop := envelopesNewestRow.holds Try.pinned (OpenSpec.ofChange envelopesNewestWrong)

/-- 'trustquorumlaw25.PrepareQuorum': WHATEVER THE INPUT: true; the input reads as it did. -/
def prepareQuorumSpec : ChangeSpec := { name := "prepareQuorum", fn := fun _ => fun
  | [d] => { results := [.lit (.bool true)], args := [d] }
  | _ => none }
def prepareQuorumRow : OpenClaim := { program := "ytncjalhhkmojlaa", sum := "06257ccbd85b83055fd1e0b92d6372843f034cf1581dc9f0514bf777335f6160", func := "trustquorum/trustquorumlaw25.PrepareQuorum", spec := "prepareQuorum", unfollowed := true, recurses := true, apart := false }
def PrepareQuorumSaid : Prop := prepareQuorumRow.holds Try.pinned (OpenSpec.ofChange prepareQuorumSpec)

/-- ITS FALSE NEIGHBOUR: 'it returns false'. Refute it at one input. -/
def prepareQuorumWrong : ChangeSpec := { name := "prepareQuorum", fn := fun _ => fun
  | [d] => { results := [.lit (.bool false)], args := [d] }
  | _ => none }
def PrepareQuorumWrongFalsely : Prop := prepareQuorumRow.holds Try.pinned (OpenSpec.ofChange prepareQuorumWrong)

/-- 'trustquorumlaw26.CommitJumps': WHATEVER THE INPUT: true; the input reads as it did. -/
def commitJumpsSpec : ChangeSpec := { name := "commitJumps", fn := fun _ => fun
  | [d1, d2, d3] => { results := [.lit (.bool true)], args := [d1, d2, d3] }
  | _ => none }
def commitJumpsRow : OpenClaim := { program := "ytncjalhhkmojlaa", sum := "06257ccbd85b83055fd1e0b92d6372843f034cf1581dc9f0514bf777335f6160", func := "trustquorum/trustquorumlaw26.CommitJumps", spec := "commitJumps", unfollowed := true, recurses := true, apart := false }
def CommitJumpsSaid : Prop := commitJumpsRow.holds Try.pinned (OpenSpec.ofChange commitJumpsSpec)

/-- ITS FALSE NEIGHBOUR: 'it returns false'. Refute it at one input. -/
def commitJumpsWrong : ChangeSpec := { name := "commitJumps", fn := fun _ => fun
  | [d1, d2, d3] => { results := [.lit (.bool false)], args := [d1, d2, d3] }
  | _ => none }
def CommitJumpsWrongFalsely : Prop := commitJumpsRow.holds Try.pinned (OpenSpec.ofChange commitJumpsWrong)

/- THE SECOND FORM. 'bulk': how many values and letters a reading holds, each counted each time it is reached (what is shared counts as often as it is met; a slice's spare places count too). A statement '..UptoSaid' is the law's where the arguments, and the package variables that the reading takes, are together of bulk at most 1048576: NARROWER than '..Said'. Prove '..Said' where nothing that the law and all that it calls make is longer than what came in: it says more and counts as full. Else prove '..UptoSaid'. A law counts once. -/
mutual
def uptoBulk {H : Type} : DataW H → Nat
  | .lit (.string bytes) => bytes.length + 1
  | .lit _ => 1
  | .nil => 1
  | .ptr d => uptoBulk d + 1
  | .slice elems spare => uptoBulkAll elems + uptoBulkAll spare + 1
  | .agg parts => uptoBulkAll parts + 1
  | .iface _ d => uptoBulk d + 1
  | .map entries => uptoBulkEntries entries + 1
  | .held _ => 1
def uptoBulkAll {H : Type} : List (DataW H) → Nat
  | [] => 0
  | d :: r => uptoBulk d + uptoBulkAll r
def uptoBulkEntries {H : Type} : List (Lit × DataW H) → Nat
  | [] => 0
  | x :: r => uptoBulkEntry x + uptoBulkEntries r
def uptoBulkEntry {H : Type} : Lit × DataW H → Nat
  | (.string bytes, d) => bytes.length + uptoBulk d + 1
  | (_, d) => uptoBulk d + 1
 end
def uptoSmall : (H : Type) → List (DataW H) → Bool := fun _ ds => decide (uptoBulkAll ds ≤ 1048576)
def OpenSpec.upto (s : _root_.Go.ChangeSpec) : _root_.Go.OpenSpec := { _root_.Go.OpenSpec.ofChange s with cond := some uptoSmall }

/-- 'trustquorumlaw24.EnvelopesConsistent', WHERE WHAT IT READS IS OF BULK AT MOST 1048576: true; the input reads as it did. -/
def envelopesConsistentUptoRow : OpenClaim := { program := "ytncjalhhkmojlaa", sum := "06257ccbd85b83055fd1e0b92d6372843f034cf1581dc9f0514bf777335f6160", func := "trustquorum/trustquorumlaw24.EnvelopesConsistent", spec := "envelopesConsistent", unfollowed := true, recurses := true, apart := false, narrowed := true }
def EnvelopesConsistentUptoSaid : Prop := envelopesConsistentUptoRow.holds Try.pinned (OpenSpec.upto envelopesConsistentSpec)

/-- 'trustquorumlaw25.PrepareJoins', WHERE WHAT IT READS IS OF BULK AT MOST 1048576: true; the input reads as it did. -/
def prepareJoinsUptoRow : OpenClaim := { program := "ytncjalhhkmojlaa", sum := "06257ccbd85b83055fd1e0b92d6372843f034cf1581dc9f0514bf777335f6160", func := "trustquorum/trustquorumlaw25.PrepareJoins", spec := "prepareJoins", unfollowed := true, recurses := true, apart := false, narrowed := true }
def PrepareJoinsUptoSaid : Prop := prepareJoinsUptoRow.holds Try.pinned (OpenSpec.upto prepareJoinsSpec)

/-- 'trustquorumlaw24.EnvelopesImply', WHERE WHAT IT READS IS OF BULK AT MOST 1048576: true; the input reads as it did. -/
def envelopesImplyUptoRow : OpenClaim := { program := "ytncjalhhkmojlaa", sum := "06257ccbd85b83055fd1e0b92d6372843f034cf1581dc9f0514bf777335f6160", func := "trustquorum/trustquorumlaw24.EnvelopesImply", spec := "envelopesImply", unfollowed := true, recurses := true, apart := false, narrowed := true }
def EnvelopesImplyUptoSaid : Prop := envelopesImplyUptoRow.holds Try.pinned (OpenSpec.upto envelopesImplySpec)

/-- 'trustquorumlaw24.EnvelopesForever', WHERE WHAT IT READS IS OF BULK AT MOST 1048576: true; the input reads as it did. -/
def envelopesForeverUptoRow : OpenClaim := { program := "ytncjalhhkmojlaa", sum := "06257ccbd85b83055fd1e0b92d6372843f034cf1581dc9f0514bf777335f6160", func := "trustquorum/trustquorumlaw24.EnvelopesForever", spec := "envelopesForever", unfollowed := true, recurses := true, apart := false, narrowed := true }
def EnvelopesForeverUptoSaid : Prop := envelopesForeverUptoRow.holds Try.pinned (OpenSpec.upto envelopesForeverSpec)

/-- 'trustquorumlaw25.PrepareBlocked', WHERE WHAT IT READS IS OF BULK AT MOST 1048576: true; the input reads as it did. -/
def prepareBlockedUptoRow : OpenClaim := { program := "ytncjalhhkmojlaa", sum := "06257ccbd85b83055fd1e0b92d6372843f034cf1581dc9f0514bf777335f6160", func := "trustquorum/trustquorumlaw25.PrepareBlocked", spec := "prepareBlocked", unfollowed := true, recurses := true, apart := false, narrowed := true }
def PrepareBlockedUptoSaid : Prop := prepareBlockedUptoRow.holds Try.pinned (OpenSpec.upto prepareBlockedSpec)

/-- 'trustquorumlaw24.EnvelopesNewest', WHERE WHAT IT READS IS OF BULK AT MOST 1048576: true; the input reads as it did. -/
def envelopesNewestUptoRow : OpenClaim := { program := "ytncjalhhkmojlaa", sum := "06257ccbd85b83055fd1e0b92d6372843f034cf1581dc9f0514bf777335f6160", func := "trustquorum/trustquorumlaw24.EnvelopesNewest", spec := "envelopesNewest", inPlace := ["slices.overlaps[trustquorum/api.Envelope]"], unfollowed := true, recurses := true, apart := false, narrowed := true }
def EnvelopesNewestUptoSaid : Prop := envelopesNewestUptoRow.holds Try.pinned (OpenSpec.upto envelopesNewestSpec)

/-- 'trustquorumlaw25.PrepareQuorum', WHERE WHAT IT READS IS OF BULK AT MOST 1048576: true; the input reads as it did. -/
def prepareQuorumUptoRow : OpenClaim := { program := "ytncjalhhkmojlaa", sum := "06257ccbd85b83055fd1e0b92d6372843f034cf1581dc9f0514bf777335f6160", func := "trustquorum/trustquorumlaw25.PrepareQuorum", spec := "prepareQuorum", unfollowed := true, recurses := true, apart := false, narrowed := true }
def PrepareQuorumUptoSaid : Prop := prepareQuorumUptoRow.holds Try.pinned (OpenSpec.upto prepareQuorumSpec)

/-- 'trustquorumlaw26.CommitJumps', WHERE WHAT IT READS IS OF BULK AT MOST 1048576: true; the input reads as it did. -/
def commitJumpsUptoRow : OpenClaim := { program := "ytncjalhhkmojlaa", sum := "06257ccbd85b83055fd1e0b92d6372843f034cf1581dc9f0514bf777335f6160", func := "trustquorum/trustquorumlaw26.CommitJumps", spec := "commitJumps", unfollowed := true, recurses := true, apart := false, narrowed := true }
def CommitJumpsUptoSaid : Prop := commitJumpsUptoRow.holds Try.pinned (OpenSpec.upto commitJumpsSpec)

end Rows
end Go.Proofs.Ytncjalhhkmojlaa
