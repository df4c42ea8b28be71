/-
  No cell of these rows narrows 'for every input' (looked for: loops, veiled, ifaces, maps, wideKeys, modest, calm, conditions, laid).
  DERIVED. THE GIVEN ROWS OF THIS SEAT. 4 by the template 'for every input the law returns true; each argument reads behind the call as it read before'; 0 by the template 'total and deterministic' (their statements: YtjbfdglebjnelaaGreatTotals.lean).
  GIVEN WITH THE SEED: the statements are not yours to turn. If you find one false, say at which input.
  Laid BY PROGRAM, IN A SANDBOX (cutbox-rows.mjs): the forced cells as the released guide's own fill.sh prints them over the translation 3a563fd4e6b9fec5… (all of the seat's roots in one cut). By AI agents, Wed Nov 11 2026. No macro, syntax, notation, axiom, sorry.
-/
import Derived.Test.YtjbfdglebjnelaaGreatChecked
import GoSem.Claim
import GoSem.ClaimJoined
import GoSem.ClaimMapViews
import Derived.JoinedTies
import Derived.KernelRfl
namespace Go.Proofs.YtjbfdglebjnelaaGreat
/- THE CELL 'sum', in the pinned program and in every row, IS THE sha256 OF THE DUMP (.gsa) THAT YtjbfdglebjnelaaGreatProg.lean LOADS. Nothing in Lean hashes anything: it is a label: what it is worth is what the hold of that sum in a sandbox is worth. -/
noncomputable def Tryz.pinned : Pinned := { name := "ytjbfdglebjnelaagreat", sum := "3a563fd4e6b9fec5df46b4b08f5217b580f7f9c322213dc962849ab438c6b106", checked := Tryz.checked }
namespace Rows
def none {H : Type} : Left H := { results := [], args := [] }

/-- 'trustquorumlaw29.SlotKeeps': WHATEVER THE INPUT: true; the input reads as it did. -/
def slotKeepsSpec : ChangeSpec := { name := "slotKeeps", fn := fun _ => fun
  | [d] => { results := [.lit (.bool true)], args := [d] }
  | _ => none }
def slotKeepsRow : OpenClaim := { program := "ytjbfdglebjnelaagreat", sum := "3a563fd4e6b9fec5df46b4b08f5217b580f7f9c322213dc962849ab438c6b106", func := "trustquorum/trustquorumlaw29.SlotKeeps", spec := "slotKeeps", inPlace := ["slices.overlaps[string]"], unfollowed := true, recurses := true, apart := false }
def SlotKeepsSaid : Prop := slotKeepsRow.holds Tryz.pinned (OpenSpec.ofChange slotKeepsSpec)

/-- ITS FALSE NEIGHBOUR: 'it returns false'. Refute it at one input. -/
def slotKeepsWrong : ChangeSpec := { name := "slotKeeps", fn := fun _ => fun
  | [d] => { results := [.lit (.bool false)], args := [d] }
  | _ => none }
def SlotKeepsWrongFalsely : Prop := slotKeepsRow.holds Tryz.pinned (OpenSpec.ofChange slotKeepsWrong)

/-- 'trustquorumlaw29.SlotSettles': WHATEVER THE INPUT: true; the input reads as it did. -/
def slotSettlesSpec : ChangeSpec := { name := "slotSettles", fn := fun _ => fun
  | [d] => { results := [.lit (.bool true)], args := [d] }
  | _ => none }
def slotSettlesRow : OpenClaim := { program := "ytjbfdglebjnelaagreat", sum := "3a563fd4e6b9fec5df46b4b08f5217b580f7f9c322213dc962849ab438c6b106", func := "trustquorum/trustquorumlaw29.SlotSettles", spec := "slotSettles", inPlace := ["slices.overlaps[trustquorum/api.Nomination]", "slices.overlaps[string]"], unfollowed := true, recurses := true, apart := false }
def SlotSettlesSaid : Prop := slotSettlesRow.holds Tryz.pinned (OpenSpec.ofChange slotSettlesSpec)

/-- ITS FALSE NEIGHBOUR: 'it returns false'. Refute it at one input. -/
def slotSettlesWrong : ChangeSpec := { name := "slotSettles", fn := fun _ => fun
  | [d] => { results := [.lit (.bool false)], args := [d] }
  | _ => none }
def SlotSettlesWrongFalsely : Prop := slotSettlesRow.holds Tryz.pinned (OpenSpec.ofChange slotSettlesWrong)

/-- 'trustquorumlaw29.SlotSays': WHATEVER THE INPUT: true; the input reads as it did. -/
def slotSaysSpec : ChangeSpec := { name := "slotSays", fn := fun _ => fun
  | [d] => { results := [.lit (.bool true)], args := [d] }
  | _ => none }
def slotSaysRow : OpenClaim := { program := "ytjbfdglebjnelaagreat", sum := "3a563fd4e6b9fec5df46b4b08f5217b580f7f9c322213dc962849ab438c6b106", func := "trustquorum/trustquorumlaw29.SlotSays", spec := "slotSays", inPlace := ["slices.overlaps[string]", "slices.overlaps[trustquorum/api.Nomination]", "slices.overlaps[trustquorum/api.Envelope]"], unfollowed := true, recurses := true, apart := false }
def SlotSaysSaid : Prop := slotSaysRow.holds Tryz.pinned (OpenSpec.ofChange slotSaysSpec)

/-- ITS FALSE NEIGHBOUR: 'it returns false'. Refute it at one input. -/
def slotSaysWrong : ChangeSpec := { name := "slotSays", fn := fun _ => fun
  | [d] => { results := [.lit (.bool false)], args := [d] }
  | _ => none }
def SlotSaysWrongFalsely : Prop := slotSaysRow.holds Tryz.pinned (OpenSpec.ofChange slotSaysWrong)

/-- 'trustquorumlaw29.SlotWaits': WHATEVER THE INPUT: true; the input reads as it did. -/
def slotWaitsSpec : ChangeSpec := { name := "slotWaits", fn := fun _ => fun
  | [d1, d2] => { results := [.lit (.bool true)], args := [d1, d2] }
  | _ => none }
def slotWaitsRow : OpenClaim := { program := "ytjbfdglebjnelaagreat", sum := "3a563fd4e6b9fec5df46b4b08f5217b580f7f9c322213dc962849ab438c6b106", func := "trustquorum/trustquorumlaw29.SlotWaits", spec := "slotWaits", inPlace := ["slices.overlaps[string]"], unfollowed := true, recurses := true, apart := false }
def SlotWaitsSaid : Prop := slotWaitsRow.holds Tryz.pinned (OpenSpec.ofChange slotWaitsSpec)

/-- ITS FALSE NEIGHBOUR: 'it returns false'. Refute it at one input. -/
def slotWaitsWrong : ChangeSpec := { name := "slotWaits", fn := fun _ => fun
  | [d1, d2] => { results := [.lit (.bool false)], args := [d1, d2] }
  | _ => none }
def SlotWaitsWrongFalsely : Prop := slotWaitsRow.holds Tryz.pinned (OpenSpec.ofChange slotWaitsWrong)

/- THE SECOND FORM. 'bulk': how many values and letters a reading holds, each counted each time it is reached (what is shared counts as often as it is met; a slice's spare places count too). A statement '..UptoSaid' is the law's where the arguments, and the package variables that the reading takes, are together of bulk at most 1048576: NARROWER than '..Said'. Prove '..Said' where nothing that the law and all that it calls make is longer than what came in: it says more and counts as full. Else prove '..UptoSaid'. A law counts once. -/
mutual
def uptoBulk {H : Type} : DataW H → Nat
  | .lit (.string bytes) => bytes.length + 1
  | .lit _ => 1
  | .nil => 1
  | .ptr d => uptoBulk d + 1
  | .slice elems spare => uptoBulkAll elems + uptoBulkAll spare + 1
  | .agg parts => uptoBulkAll parts + 1
  | .iface _ d => uptoBulk d + 1
  | .map entries => uptoBulkEntries entries + 1
  | .held _ => 1
def uptoBulkAll {H : Type} : List (DataW H) → Nat
  | [] => 0
  | d :: r => uptoBulk d + uptoBulkAll r
def uptoBulkEntries {H : Type} : List (Lit × DataW H) → Nat
  | [] => 0
  | x :: r => uptoBulkEntry x + uptoBulkEntries r
def uptoBulkEntry {H : Type} : Lit × DataW H → Nat
  | (.string bytes, d) => bytes.length + uptoBulk d + 1
  | (_, d) => uptoBulk d + 1
 end
def uptoSmall : (H : Type) → List (DataW H) → Bool := fun _ ds => decide (uptoBulkAll ds ≤ 1048576)
def OpenSpec.upto (s : _root_.Go.ChangeSpec) : _root_.Go.OpenSpec := { _root_.Go.OpenSpec.ofChange s with cond := some uptoSmall }

/-- 'trustquorumlaw29.SlotKeeps', WHERE WHAT IT READS IS OF BULK AT MOST 1048576: true; the input reads as it did. -/
def slotKeepsUptoRow : OpenClaim := { program := "ytjbfdglebjnelaagreat", sum := "3a563fd4e6b9fec5df46b4b08f5217b580f7f9c322213dc962849ab438c6b106", func := "trustquorum/trustquorumlaw29.SlotKeeps", spec := "slotKeeps", inPlace := ["slices.overlaps[string]"], unfollowed := true, recurses := true, apart := false, narrowed := true }
def SlotKeepsUptoSaid : Prop := slotKeepsUptoRow.holds Tryz.pinned (OpenSpec.upto slotKeepsSpec)

/-- 'trustquorumlaw29.SlotSettles', WHERE WHAT IT READS IS OF BULK AT MOST 1048576: true; the input reads as it did. -/
def slotSettlesUptoRow : OpenClaim := { program := "ytjbfdglebjnelaagreat", sum := "3a563fd4e6b9fec5df46b4b08f5217b580f7f9c322213dc962849ab438c6b106", func := "trustquorum/trustquorumlaw29.SlotSettles", spec := "slotSettles", inPlace := ["slices.overlaps[trustquorum/api.Nomination]", "slices.overlaps[string]"], unfollowed := true, recurses := true, apart := false, narrowed := true }
def SlotSettlesUptoSaid : Prop := slotSettlesUptoRow.holds Tryz.pinned (OpenSpec.upto slotSettlesSpec)

/-- 'trustquorumlaw29.SlotSays', WHERE WHAT IT READS IS OF BULK AT MOST 1048576: true; the input reads as it did. -/
def slotSaysUptoRow : OpenClaim := { program := "ytjbfdglebjnelaagreat", sum := "3a563fd4e6b9fec5df46b4b08f5217b580f7f9c322213dc962849ab438c6b106", func := "trustquorum/trustquorumlaw29.SlotSays", spec := "slotSays", inPlace := ["slices.overlaps[string]", "slices.overlaps[trustquorum/api.Nomination]", "slices.overlaps[trustquorum/api.Envelope]"], unfollowed := true, recurses := true, apart := false, narrowed := true }
def SlotSaysUptoSaid : Prop := slotSaysUptoRow.holds Tryz.pinned (OpenSpec.upto slotSaysSpec)

/-- 'trustquorumlaw29.SlotWaits', WHERE WHAT IT READS IS OF BULK AT MOST 1048576: true; the input reads as it did. -/
def slotWaitsUptoRow : OpenClaim := { program := "ytjbfdglebjnelaagreat", sum := "3a563fd4e6b9fec5df46b4b08f5217b580f7f9c322213dc962849ab438c6b106", func := "trustquorum/trustquorumlaw29.SlotWaits", spec := "slotWaits", inPlace := ["slices.overlaps[string]"], unfollowed := true, recurses := true, apart := false, narrowed := true }
def SlotWaitsUptoSaid : Prop := slotWaitsUptoRow.holds Tryz.pinned (OpenSpec.upto slotWaitsSpec)

end Rows
end Go.Proofs.YtjbfdglebjnelaaGreat
