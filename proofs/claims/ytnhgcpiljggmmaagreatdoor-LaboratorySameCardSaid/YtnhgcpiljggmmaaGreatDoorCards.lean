/-
  DERIVED. GIVEN WITH THE SEED: THE CARDS: each row of YtnhgcpiljggmmaaGreatDoorRows.lean that lists a variable, with what it lists TIED to the program's text (the seventh form; the later family's looks); each row that meets fmt, with fmt's text TOLD by the authors' own Lean function (tested against real Go, not proved from fmt's source: count such statements apart). THE CARD IS WHAT COUNTS. Prove the row's statement (the work); the ties are given (YtnhgcpiljggmmaaGreatDoorTie.lean); close each card by the builder's one call (the guide's Derived/Test/ToyasCard.lean, 'card_holds'). Laid BY PROGRAM, IN A SANDBOX (cutbox-door.mjs). By AI agents, Wed Nov 11 2026. No macro, syntax, notation, axiom, sorry.
-/
import Derived.Test.YtnhgcpiljggmmaaGreatDoorRows
import GoSem.ClaimSeven
namespace Go.Proofs.YtnhgcpiljggmmaaGreatDoor
namespace Rows

/-- THE TIED CARD OF 'trustquorumlaw45.LaboratoryBack'. -/
def laboratoryBackCard : Claim7 := { stood := { row := laboratoryBackRow, standIns := [], harness := (true, "7fd5da32a52b346840e3c742641d430df9d661615cf737d7b6788f8b268ff6bd"), looks := true }, kinds := [], alts := [], laidByText := true, laidKinds := [.data, .data, .data, .data, .sentinel, .sentinel, .pinned], laidTests := true, laidLooks := .later }
def LaboratoryBackCardSaid : Prop := Claim7.holds Tryz.pinned (.plain (OpenSpec.ofChange laboratoryBackSpec)) laboratoryBackCard

/-- THE TIED CARD OF 'trustquorumlaw45.LaboratoryLines'. -/
def laboratoryLinesCard : Claim7 := { stood := { row := laboratoryLinesRow, standIns := [], harness := (true, "7fd5da32a52b346840e3c742641d430df9d661615cf737d7b6788f8b268ff6bd"), looks := true }, kinds := [], alts := [], laidByText := true, laidKinds := [.data, .data, .data, .data, .sentinel, .sentinel, .pinned], laidTests := true, laidLooks := .later }
def LaboratoryLinesCardSaid : Prop := Claim7.holds Tryz.pinned (.plain (OpenSpec.ofChange laboratoryLinesSpec)) laboratoryLinesCard

/-- THE TIED CARD OF 'trustquorumlaw45.LaboratorySame'. -/
def laboratorySameCard : Claim7 := { stood := { row := laboratorySameRow, standIns := [], harness := (true, "7fd5da32a52b346840e3c742641d430df9d661615cf737d7b6788f8b268ff6bd"), looks := true }, kinds := [], alts := [], laidByText := true, laidKinds := [.data, .data, .data, .data, .sentinel, .sentinel, .pinned], laidTests := true, laidLooks := .later }
def LaboratorySameCardSaid : Prop := Claim7.holds Tryz.pinned (.plain (OpenSpec.ofChange laboratorySameSpec)) laboratorySameCard

/-- THE SECOND FORM's CARD OF 'trustquorumlaw45.LaboratoryBack'. -/
def laboratoryBackUptoCard : Claim7 := { stood := { row := laboratoryBackUptoRow, standIns := [], harness := (true, "7fd5da32a52b346840e3c742641d430df9d661615cf737d7b6788f8b268ff6bd"), looks := true }, kinds := [], alts := [], laidByText := true, laidKinds := [.data, .data, .data, .data, .sentinel, .sentinel, .pinned], laidTests := true, laidLooks := .later }
def LaboratoryBackUptoCardSaid : Prop := Claim7.holds Tryz.pinned (.plain (OpenSpec.upto laboratoryBackSpec)) laboratoryBackUptoCard

/-- THE SECOND FORM's CARD OF 'trustquorumlaw45.LaboratoryLines'. -/
def laboratoryLinesUptoCard : Claim7 := { stood := { row := laboratoryLinesUptoRow, standIns := [], harness := (true, "7fd5da32a52b346840e3c742641d430df9d661615cf737d7b6788f8b268ff6bd"), looks := true }, kinds := [], alts := [], laidByText := true, laidKinds := [.data, .data, .data, .data, .sentinel, .sentinel, .pinned], laidTests := true, laidLooks := .later }
def LaboratoryLinesUptoCardSaid : Prop := Claim7.holds Tryz.pinned (.plain (OpenSpec.upto laboratoryLinesSpec)) laboratoryLinesUptoCard

/-- THE SECOND FORM's CARD OF 'trustquorumlaw45.LaboratorySame'. -/
def laboratorySameUptoCard : Claim7 := { stood := { row := laboratorySameUptoRow, standIns := [], harness := (true, "7fd5da32a52b346840e3c742641d430df9d661615cf737d7b6788f8b268ff6bd"), looks := true }, kinds := [], alts := [], laidByText := true, laidKinds := [.data, .data, .data, .data, .sentinel, .sentinel, .pinned], laidTests := true, laidLooks := .later }
def LaboratorySameUptoCardSaid : Prop := Claim7.holds Tryz.pinned (.plain (OpenSpec.upto laboratorySameSpec)) laboratorySameUptoCard
end Rows
end Go.Proofs.YtnhgcpiljggmmaaGreatDoor
