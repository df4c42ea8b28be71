/-
  No cell of these rows narrows 'for every input' (looked for: loops, veiled, ifaces, maps, wideKeys, modest, calm, conditions, laid).
  DERIVED. THE GIVEN ROWS OF THIS SEAT. 4 by the template 'for every input the law returns true; each argument reads behind the call as it read before'; 0 by the template 'total and deterministic' (their statements: YtaebanabjdmgfaaGreatTotals.lean).
  GIVEN WITH THE SEED: the statements are not yours to turn. If you find one false, say at which input.
  Laid BY PROGRAM, IN A SANDBOX (cutbox-rows.mjs): the forced cells as the released guide's own fill.sh prints them over the translation 1116098f5a552747… (all of the seat's roots in one cut). By AI agents, Wed Nov 11 2026. No macro, syntax, notation, axiom, sorry.
-/
import Derived.Test.YtaebanabjdmgfaaGreatChecked
import GoSem.Claim
import GoSem.ClaimJoined
import GoSem.ClaimMapViews
import Derived.JoinedTies
import Derived.KernelRfl
namespace Go.Proofs.YtaebanabjdmgfaaGreat
/- THE CELL 'sum', in the pinned program and in every row, IS THE sha256 OF THE DUMP (.gsa) THAT YtaebanabjdmgfaaGreatProg.lean LOADS. Nothing in Lean hashes anything: it is a label: what it is worth is what the hold of that sum in a sandbox is worth. -/
noncomputable def Tryz.pinned : Pinned := { name := "ytaebanabjdmgfaagreat", sum := "1116098f5a552747498060b18e86c521e5f10a6d7e52aaa1e17e3b86cf4eb6a7", checked := Tryz.checked }
namespace Rows
def none {H : Type} : Left H := { results := [], args := [] }

/-- 'trustquorumlaw44.MonitorNeeds': WHATEVER THE INPUT: true; the input reads as it did. -/
def monitorNeedsSpec : ChangeSpec := { name := "monitorNeeds", fn := fun _ => fun
  | [d] => { results := [.lit (.bool true)], args := [d] }
  | _ => none }
def monitorNeedsRow : OpenClaim := { program := "ytaebanabjdmgfaagreat", sum := "1116098f5a552747498060b18e86c521e5f10a6d7e52aaa1e17e3b86cf4eb6a7", func := "trustquorum/trustquorumlaw44.MonitorNeeds", spec := "monitorNeeds", unfollowed := true, recurses := true, plainKeys := false, apart := false }
def MonitorNeedsSaid : Prop := monitorNeedsRow.holds Tryz.pinned (OpenSpec.ofChange monitorNeedsSpec)

/-- ITS FALSE NEIGHBOUR: 'it returns false'. Refute it at one input. -/
def monitorNeedsWrong : ChangeSpec := { name := "monitorNeeds", fn := fun _ => fun
  | [d] => { results := [.lit (.bool false)], args := [d] }
  | _ => none }
def MonitorNeedsWrongFalsely : Prop := monitorNeedsRow.holds Tryz.pinned (OpenSpec.ofChange monitorNeedsWrong)

/-- 'trustquorumlaw44.MonitorNewest': WHATEVER THE INPUT: true; the input reads as it did. -/
def monitorNewestSpec : ChangeSpec := { name := "monitorNewest", fn := fun _ => fun
  | [d] => { results := [.lit (.bool true)], args := [d] }
  | _ => none }
def monitorNewestRow : OpenClaim := { program := "ytaebanabjdmgfaagreat", sum := "1116098f5a552747498060b18e86c521e5f10a6d7e52aaa1e17e3b86cf4eb6a7", func := "trustquorum/trustquorumlaw44.MonitorNewest", spec := "monitorNewest", unfollowed := true, recurses := true, plainKeys := false, apart := false }
def MonitorNewestSaid : Prop := monitorNewestRow.holds Tryz.pinned (OpenSpec.ofChange monitorNewestSpec)

/-- ITS FALSE NEIGHBOUR: 'it returns false'. Refute it at one input. -/
def monitorNewestWrong : ChangeSpec := { name := "monitorNewest", fn := fun _ => fun
  | [d] => { results := [.lit (.bool false)], args := [d] }
  | _ => none }
def MonitorNewestWrongFalsely : Prop := monitorNewestRow.holds Tryz.pinned (OpenSpec.ofChange monitorNewestWrong)

/-- 'trustquorumlaw44.MonitorLiars': WHATEVER THE INPUT: true; the input reads as it did. -/
def monitorLiarsSpec : ChangeSpec := { name := "monitorLiars", fn := fun _ => fun
  | [d] => { results := [.lit (.bool true)], args := [d] }
  | _ => none }
def monitorLiarsRow : OpenClaim := { program := "ytaebanabjdmgfaagreat", sum := "1116098f5a552747498060b18e86c521e5f10a6d7e52aaa1e17e3b86cf4eb6a7", func := "trustquorum/trustquorumlaw44.MonitorLiars", spec := "monitorLiars", unfollowed := true, recurses := true, plainKeys := false, apart := false }
def MonitorLiarsSaid : Prop := monitorLiarsRow.holds Tryz.pinned (OpenSpec.ofChange monitorLiarsSpec)

/-- ITS FALSE NEIGHBOUR: 'it returns false'. Refute it at one input. -/
def monitorLiarsWrong : ChangeSpec := { name := "monitorLiars", fn := fun _ => fun
  | [d] => { results := [.lit (.bool false)], args := [d] }
  | _ => none }
def MonitorLiarsWrongFalsely : Prop := monitorLiarsRow.holds Tryz.pinned (OpenSpec.ofChange monitorLiarsWrong)

/-- 'trustquorumlaw44.MonitorParts': WHATEVER THE INPUT: true; the input reads as it did. -/
def monitorPartsSpec : ChangeSpec := { name := "monitorParts", fn := fun _ => fun
  | [d] => { results := [.lit (.bool true)], args := [d] }
  | _ => none }
def monitorPartsRow : OpenClaim := { program := "ytaebanabjdmgfaagreat", sum := "1116098f5a552747498060b18e86c521e5f10a6d7e52aaa1e17e3b86cf4eb6a7", func := "trustquorum/trustquorumlaw44.MonitorParts", spec := "monitorParts", unfollowed := true, recurses := true, plainKeys := false, apart := false }
def MonitorPartsSaid : Prop := monitorPartsRow.holds Tryz.pinned (OpenSpec.ofChange monitorPartsSpec)

/-- ITS FALSE NEIGHBOUR: 'it returns false'. Refute it at one input. -/
def monitorPartsWrong : ChangeSpec := { name := "monitorParts", fn := fun _ => fun
  | [d] => { results := [.lit (.bool false)], args := [d] }
  | _ => none }
def MonitorPartsWrongFalsely : Prop := monitorPartsRow.holds Tryz.pinned (OpenSpec.ofChange monitorPartsWrong)

/- THE SECOND FORM. 'bulk': how many values and letters a reading holds, each counted each time it is reached (what is shared counts as often as it is met; a slice's spare places count too). A statement '..UptoSaid' is the law's where the arguments, and the package variables that the reading takes, are together of bulk at most 1048576: NARROWER than '..Said'. Prove '..Said' where nothing that the law and all that it calls make is longer than what came in: it says more and counts as full. Else prove '..UptoSaid'. A law counts once. -/
mutual
def uptoBulk {H : Type} : DataW H → Nat
  | .lit (.string bytes) => bytes.length + 1
  | .lit _ => 1
  | .nil => 1
  | .ptr d => uptoBulk d + 1
  | .slice elems spare => uptoBulkAll elems + uptoBulkAll spare + 1
  | .agg parts => uptoBulkAll parts + 1
  | .iface _ d => uptoBulk d + 1
  | .map entries => uptoBulkEntries entries + 1
  | .held _ => 1
def uptoBulkAll {H : Type} : List (DataW H) → Nat
  | [] => 0
  | d :: r => uptoBulk d + uptoBulkAll r
def uptoBulkEntries {H : Type} : List (Lit × DataW H) → Nat
  | [] => 0
  | x :: r => uptoBulkEntry x + uptoBulkEntries r
def uptoBulkEntry {H : Type} : Lit × DataW H → Nat
  | (.string bytes, d) => bytes.length + uptoBulk d + 1
  | (_, d) => uptoBulk d + 1
 end
def uptoSmall : (H : Type) → List (DataW H) → Bool := fun _ ds => decide (uptoBulkAll ds ≤ 1048576)
def OpenSpec.upto (s : _root_.Go.ChangeSpec) : _root_.Go.OpenSpec := { _root_.Go.OpenSpec.ofChange s with cond := some uptoSmall }

/-- 'trustquorumlaw44.MonitorNeeds', WHERE WHAT IT READS IS OF BULK AT MOST 1048576: true; the input reads as it did. -/
def monitorNeedsUptoRow : OpenClaim := { program := "ytaebanabjdmgfaagreat", sum := "1116098f5a552747498060b18e86c521e5f10a6d7e52aaa1e17e3b86cf4eb6a7", func := "trustquorum/trustquorumlaw44.MonitorNeeds", spec := "monitorNeeds", unfollowed := true, recurses := true, plainKeys := false, apart := false, narrowed := true }
def MonitorNeedsUptoSaid : Prop := monitorNeedsUptoRow.holds Tryz.pinned (OpenSpec.upto monitorNeedsSpec)

/-- 'trustquorumlaw44.MonitorNewest', WHERE WHAT IT READS IS OF BULK AT MOST 1048576: true; the input reads as it did. -/
def monitorNewestUptoRow : OpenClaim := { program := "ytaebanabjdmgfaagreat", sum := "1116098f5a552747498060b18e86c521e5f10a6d7e52aaa1e17e3b86cf4eb6a7", func := "trustquorum/trustquorumlaw44.MonitorNewest", spec := "monitorNewest", unfollowed := true, recurses := true, plainKeys := false, apart := false, narrowed := true }
def MonitorNewestUptoSaid : Prop := monitorNewestUptoRow.holds Tryz.pinned (OpenSpec.upto monitorNewestSpec)

/-- 'trustquorumlaw44.MonitorLiars', WHERE WHAT IT READS IS OF BULK AT MOST 1048576: true; the input reads as it did. -/
def monitorLiarsUptoRow : OpenClaim := { program := "ytaebanabjdmgfaagreat", sum := "1116098f5a552747498060b18e86c521e5f10a6d7e52aaa1e17e3b86cf4eb6a7", func := "trustquorum/trustquorumlaw44.MonitorLiars", spec := "monitorLiars", unfollowed := true, recurses := true, plainKeys := false, apart := false, narrowed := true }
def MonitorLiarsUptoSaid : Prop := monitorLiarsUptoRow.holds Tryz.pinned (OpenSpec.upto monitorLiarsSpec)

/-- 'trustquorumlaw44.MonitorParts', WHERE WHAT IT READS IS OF BULK AT MOST 1048576: true; the input reads as it did. -/
def monitorPartsUptoRow : OpenClaim := { program := "ytaebanabjdmgfaagreat", sum := "1116098f5a552747498060b18e86c521e5f10a6d7e52aaa1e17e3b86cf4eb6a7", func := "trustquorum/trustquorumlaw44.MonitorParts", spec := "monitorParts", unfollowed := true, recurses := true, plainKeys := false, apart := false, narrowed := true }
def MonitorPartsUptoSaid : Prop := monitorPartsUptoRow.holds Tryz.pinned (OpenSpec.upto monitorPartsSpec)

end Rows
end Go.Proofs.YtaebanabjdmgfaaGreat
