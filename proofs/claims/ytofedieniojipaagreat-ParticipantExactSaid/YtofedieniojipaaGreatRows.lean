/-
  NARROWER THAN 'FOR EVERY INPUT', by the rows' own cells (each row's printed sentence says how): ParticipantExact: loops.
  DERIVED. THE GIVEN ROWS OF THIS SEAT. 5 by the template 'for every input the law returns true; each argument reads behind the call as it read before'; 0 by the template 'total and deterministic' (their statements: YtofedieniojipaaGreatTotals.lean).
  GIVEN WITH THE SEED: the statements are not yours to turn. If you find one false, say at which input.
  Laid BY PROGRAM, IN A SANDBOX (cutbox-rows.mjs): the forced cells as the released guide's own fill.sh prints them over the translation 93a3e30df229b3e0… (all of the seat's roots in one cut). By AI agents, Wed Nov 11 2026. No macro, syntax, notation, axiom, sorry.
-/
import Derived.Test.YtofedieniojipaaGreatChecked
import GoSem.Claim
import GoSem.ClaimJoined
import GoSem.ClaimMapViews
import Derived.JoinedTies
import Derived.KernelRfl
namespace Go.Proofs.YtofedieniojipaaGreat
/- THE CELL 'sum', in the pinned program and in every row, IS THE sha256 OF THE DUMP (.gsa) THAT YtofedieniojipaaGreatProg.lean LOADS. Nothing in Lean hashes anything: it is a label: what it is worth is what the hold of that sum in a sandbox is worth. -/
noncomputable def Tryz.pinned : Pinned := { name := "ytofedieniojipaagreat", sum := "93a3e30df229b3e0663275877c9bd7883c7c1382e081190c89db0e8a741a63f6", checked := Tryz.checked }
namespace Rows
def none {H : Type} : Left H := { results := [], args := [] }

/-- 'trustquorumlaw30.ParticipantSlots': WHATEVER THE INPUT: true; the input reads as it did. -/
def participantSlotsSpec : ChangeSpec := { name := "participantSlots", fn := fun _ => fun
  | [d] => { results := [.lit (.bool true)], args := [d] }
  | _ => none }
def participantSlotsRow : OpenClaim := { program := "ytofedieniojipaagreat", sum := "93a3e30df229b3e0663275877c9bd7883c7c1382e081190c89db0e8a741a63f6", func := "trustquorum/trustquorumlaw30.ParticipantSlots", spec := "participantSlots", inPlace := ["slices.overlaps[trustquorum/api.Nomination]", "slices.overlaps[string]", "slices.overlaps[trustquorum/api.Envelope]", "slices.overlaps[trustquorum/api.Slot]"], unfollowed := true, recurses := true, apart := false }
def ParticipantSlotsSaid : Prop := participantSlotsRow.holds Tryz.pinned (OpenSpec.ofChange participantSlotsSpec)

/-- ITS FALSE NEIGHBOUR: 'it returns false'. Refute it at one input. -/
def participantSlotsWrong : ChangeSpec := { name := "participantSlots", fn := fun _ => fun
  | [d] => { results := [.lit (.bool false)], args := [d] }
  | _ => none }
def ParticipantSlotsWrongFalsely : Prop := participantSlotsRow.holds Tryz.pinned (OpenSpec.ofChange participantSlotsWrong)

/-- 'trustquorumlaw30.ParticipantBegins': WHATEVER THE INPUT: true; the input reads as it did. -/
def participantBeginsSpec : ChangeSpec := { name := "participantBegins", fn := fun _ => fun
  | [d] => { results := [.lit (.bool true)], args := [d] }
  | _ => none }
def participantBeginsRow : OpenClaim := { program := "ytofedieniojipaagreat", sum := "93a3e30df229b3e0663275877c9bd7883c7c1382e081190c89db0e8a741a63f6", func := "trustquorum/trustquorumlaw30.ParticipantBegins", spec := "participantBegins", inPlace := ["slices.overlaps[string]", "slices.overlaps[trustquorum/api.Slot]", "slices.overlaps[trustquorum/api.Nomination]", "slices.overlaps[trustquorum/api.Envelope]"], unfollowed := true, recurses := true, apart := false }
def ParticipantBeginsSaid : Prop := participantBeginsRow.holds Tryz.pinned (OpenSpec.ofChange participantBeginsSpec)

/-- ITS FALSE NEIGHBOUR: 'it returns false'. Refute it at one input. -/
def participantBeginsWrong : ChangeSpec := { name := "participantBegins", fn := fun _ => fun
  | [d] => { results := [.lit (.bool false)], args := [d] }
  | _ => none }
def ParticipantBeginsWrongFalsely : Prop := participantBeginsRow.holds Tryz.pinned (OpenSpec.ofChange participantBeginsWrong)

/-- 'trustquorumlaw30.ParticipantKeeps': WHATEVER THE INPUT: true; the input reads as it did. -/
def participantKeepsSpec : ChangeSpec := { name := "participantKeeps", fn := fun _ => fun
  | [d] => { results := [.lit (.bool true)], args := [d] }
  | _ => none }
def participantKeepsRow : OpenClaim := { program := "ytofedieniojipaagreat", sum := "93a3e30df229b3e0663275877c9bd7883c7c1382e081190c89db0e8a741a63f6", func := "trustquorum/trustquorumlaw30.ParticipantKeeps", spec := "participantKeeps", inPlace := ["slices.overlaps[trustquorum/api.Nomination]", "slices.overlaps[string]", "slices.overlaps[trustquorum/api.Envelope]", "slices.overlaps[trustquorum/api.Slot]"], unfollowed := true, recurses := true, apart := false }
def ParticipantKeepsSaid : Prop := participantKeepsRow.holds Tryz.pinned (OpenSpec.ofChange participantKeepsSpec)

/-- ITS FALSE NEIGHBOUR: 'it returns false'. Refute it at one input. -/
def participantKeepsWrong : ChangeSpec := { name := "participantKeeps", fn := fun _ => fun
  | [d] => { results := [.lit (.bool false)], args := [d] }
  | _ => none }
def ParticipantKeepsWrongFalsely : Prop := participantKeepsRow.holds Tryz.pinned (OpenSpec.ofChange participantKeepsWrong)

/-- 'trustquorumlaw30.ParticipantSays': WHATEVER THE INPUT: true; the input reads as it did. -/
def participantSaysSpec : ChangeSpec := { name := "participantSays", fn := fun _ => fun
  | [d] => { results := [.lit (.bool true)], args := [d] }
  | _ => none }
def participantSaysRow : OpenClaim := { program := "ytofedieniojipaagreat", sum := "93a3e30df229b3e0663275877c9bd7883c7c1382e081190c89db0e8a741a63f6", func := "trustquorum/trustquorumlaw30.ParticipantSays", spec := "participantSays", inPlace := ["slices.overlaps[string]", "slices.overlaps[trustquorum/api.Nomination]", "slices.overlaps[trustquorum/api.Envelope]", "slices.overlaps[trustquorum/api.Slot]"], unfollowed := true, recurses := true, apart := false }
def ParticipantSaysSaid : Prop := participantSaysRow.holds Tryz.pinned (OpenSpec.ofChange participantSaysSpec)

/-- ITS FALSE NEIGHBOUR: 'it returns false'. Refute it at one input. -/
def participantSaysWrong : ChangeSpec := { name := "participantSays", fn := fun _ => fun
  | [d] => { results := [.lit (.bool false)], args := [d] }
  | _ => none }
def ParticipantSaysWrongFalsely : Prop := participantSaysRow.holds Tryz.pinned (OpenSpec.ofChange participantSaysWrong)

/-- 'trustquorumlaw30.ParticipantExact': WHATEVER THE INPUT: true; the input reads as it did. -/
def participantExactSpec : ChangeSpec := { name := "participantExact", fn := fun _ => fun
  | [d1, d2, d3, d4, d5, d6, d7, d8] => { results := [.lit (.bool true)], args := [d1, d2, d3, d4, d5, d6, d7, d8] }
  | _ => none }
def participantExactRow : OpenClaim := { program := "ytofedieniojipaagreat", sum := "93a3e30df229b3e0663275877c9bd7883c7c1382e081190c89db0e8a741a63f6", func := "trustquorum/trustquorumlaw30.ParticipantExact", spec := "participantExact", inPlace := ["slices.overlaps[trustquorum/api.Nomination]", "slices.overlaps[string]", "slices.overlaps[trustquorum/api.Envelope]", "slices.overlaps[trustquorum/api.Slot]"], unfollowed := true, recurses := true, loops := true, apart := false }
def ParticipantExactSaid : Prop := participantExactRow.holds Tryz.pinned (OpenSpec.ofChange participantExactSpec)

/-- ITS FALSE NEIGHBOUR: 'it returns false'. Refute it at one input. -/
def participantExactWrong : ChangeSpec := { name := "participantExact", fn := fun _ => fun
  | [d1, d2, d3, d4, d5, d6, d7, d8] => { results := [.lit (.bool false)], args := [d1, d2, d3, d4, d5, d6, d7, d8] }
  | _ => none }
def ParticipantExactWrongFalsely : Prop := participantExactRow.holds Tryz.pinned (OpenSpec.ofChange participantExactWrong)

/- THE SECOND FORM. 'bulk': how many values and letters a reading holds, each counted each time it is reached (what is shared counts as often as it is met; a slice's spare places count too). A statement '..UptoSaid' is the law's where the arguments, and the package variables that the reading takes, are together of bulk at most 1048576: NARROWER than '..Said'. Prove '..Said' where nothing that the law and all that it calls make is longer than what came in: it says more and counts as full. Else prove '..UptoSaid'. A law counts once. -/
mutual
def uptoBulk {H : Type} : DataW H → Nat
  | .lit (.string bytes) => bytes.length + 1
  | .lit _ => 1
  | .nil => 1
  | .ptr d => uptoBulk d + 1
  | .slice elems spare => uptoBulkAll elems + uptoBulkAll spare + 1
  | .agg parts => uptoBulkAll parts + 1
  | .iface _ d => uptoBulk d + 1
  | .map entries => uptoBulkEntries entries + 1
  | .held _ => 1
def uptoBulkAll {H : Type} : List (DataW H) → Nat
  | [] => 0
  | d :: r => uptoBulk d + uptoBulkAll r
def uptoBulkEntries {H : Type} : List (Lit × DataW H) → Nat
  | [] => 0
  | x :: r => uptoBulkEntry x + uptoBulkEntries r
def uptoBulkEntry {H : Type} : Lit × DataW H → Nat
  | (.string bytes, d) => bytes.length + uptoBulk d + 1
  | (_, d) => uptoBulk d + 1
 end
def uptoSmall : (H : Type) → List (DataW H) → Bool := fun _ ds => decide (uptoBulkAll ds ≤ 1048576)
def OpenSpec.upto (s : _root_.Go.ChangeSpec) : _root_.Go.OpenSpec := { _root_.Go.OpenSpec.ofChange s with cond := some uptoSmall }

/-- 'trustquorumlaw30.ParticipantSlots', WHERE WHAT IT READS IS OF BULK AT MOST 1048576: true; the input reads as it did. -/
def participantSlotsUptoRow : OpenClaim := { program := "ytofedieniojipaagreat", sum := "93a3e30df229b3e0663275877c9bd7883c7c1382e081190c89db0e8a741a63f6", func := "trustquorum/trustquorumlaw30.ParticipantSlots", spec := "participantSlots", inPlace := ["slices.overlaps[trustquorum/api.Nomination]", "slices.overlaps[string]", "slices.overlaps[trustquorum/api.Envelope]", "slices.overlaps[trustquorum/api.Slot]"], unfollowed := true, recurses := true, apart := false, narrowed := true }
def ParticipantSlotsUptoSaid : Prop := participantSlotsUptoRow.holds Tryz.pinned (OpenSpec.upto participantSlotsSpec)

/-- 'trustquorumlaw30.ParticipantBegins', WHERE WHAT IT READS IS OF BULK AT MOST 1048576: true; the input reads as it did. -/
def participantBeginsUptoRow : OpenClaim := { program := "ytofedieniojipaagreat", sum := "93a3e30df229b3e0663275877c9bd7883c7c1382e081190c89db0e8a741a63f6", func := "trustquorum/trustquorumlaw30.ParticipantBegins", spec := "participantBegins", inPlace := ["slices.overlaps[string]", "slices.overlaps[trustquorum/api.Slot]", "slices.overlaps[trustquorum/api.Nomination]", "slices.overlaps[trustquorum/api.Envelope]"], unfollowed := true, recurses := true, apart := false, narrowed := true }
def ParticipantBeginsUptoSaid : Prop := participantBeginsUptoRow.holds Tryz.pinned (OpenSpec.upto participantBeginsSpec)

/-- 'trustquorumlaw30.ParticipantKeeps', WHERE WHAT IT READS IS OF BULK AT MOST 1048576: true; the input reads as it did. -/
def participantKeepsUptoRow : OpenClaim := { program := "ytofedieniojipaagreat", sum := "93a3e30df229b3e0663275877c9bd7883c7c1382e081190c89db0e8a741a63f6", func := "trustquorum/trustquorumlaw30.ParticipantKeeps", spec := "participantKeeps", inPlace := ["slices.overlaps[trustquorum/api.Nomination]", "slices.overlaps[string]", "slices.overlaps[trustquorum/api.Envelope]", "slices.overlaps[trustquorum/api.Slot]"], unfollowed := true, recurses := true, apart := false, narrowed := true }
def ParticipantKeepsUptoSaid : Prop := participantKeepsUptoRow.holds Tryz.pinned (OpenSpec.upto participantKeepsSpec)

/-- 'trustquorumlaw30.ParticipantSays', WHERE WHAT IT READS IS OF BULK AT MOST 1048576: true; the input reads as it did. -/
def participantSaysUptoRow : OpenClaim := { program := "ytofedieniojipaagreat", sum := "93a3e30df229b3e0663275877c9bd7883c7c1382e081190c89db0e8a741a63f6", func := "trustquorum/trustquorumlaw30.ParticipantSays", spec := "participantSays", inPlace := ["slices.overlaps[string]", "slices.overlaps[trustquorum/api.Nomination]", "slices.overlaps[trustquorum/api.Envelope]", "slices.overlaps[trustquorum/api.Slot]"], unfollowed := true, recurses := true, apart := false, narrowed := true }
def ParticipantSaysUptoSaid : Prop := participantSaysUptoRow.holds Tryz.pinned (OpenSpec.upto participantSaysSpec)

/-- 'trustquorumlaw30.ParticipantExact', WHERE WHAT IT READS IS OF BULK AT MOST 1048576: true; the input reads as it did. -/
def participantExactUptoRow : OpenClaim := { program := "ytofedieniojipaagreat", sum := "93a3e30df229b3e0663275877c9bd7883c7c1382e081190c89db0e8a741a63f6", func := "trustquorum/trustquorumlaw30.ParticipantExact", spec := "participantExact", inPlace := ["slices.overlaps[trustquorum/api.Nomination]", "slices.overlaps[string]", "slices.overlaps[trustquorum/api.Envelope]", "slices.overlaps[trustquorum/api.Slot]"], unfollowed := true, recurses := true, loops := true, apart := false, narrowed := true }
def ParticipantExactUptoSaid : Prop := participantExactUptoRow.holds Tryz.pinned (OpenSpec.upto participantExactSpec)

end Rows
end Go.Proofs.YtofedieniojipaaGreat
