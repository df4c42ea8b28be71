/-
  The program's data as Lean structures, and the universe of them. Printed by a program.
-/
import Derived.Test.YtaebanabjdmgfaaGreatKdef
set_option linter.unusedVariables false
namespace Go.TQ

structure TTrust where
  Threshold : Int
  Nodes : (List Int)
  Inner : (List TTrust)
theorem TTrust.eta (x : TTrust) : TTrust.mk x.Threshold x.Nodes x.Inner = x := by cases x; rfl
structure TNomination where
  Node : Int
  Seq : Int
  Trust : TTrust
  Votes : (List ByteArray)
  Accepts : (List ByteArray)
@[simp] theorem TNomination.eta (x : TNomination) : TNomination.mk x.Node x.Seq x.Trust x.Votes x.Accepts = x := rfl
structure TBallot where
  Counter : Int
  Value : ByteArray
@[simp] theorem TBallot.eta (x : TBallot) : TBallot.mk x.Counter x.Value = x := rfl
structure TEnvelope where
  Node : Int
  Slot : Int
  Seq : Int
  Trust : TTrust
  Kind : Int
  Ballot : TBallot
  Prepared : TBallot
  Prime : TBallot
  Low : Int
  High : Int
@[simp] theorem TEnvelope.eta (x : TEnvelope) : TEnvelope.mk x.Node x.Slot x.Seq x.Trust x.Kind x.Ballot x.Prepared x.Prime x.Low x.High = x := rfl
structure TLetter where
  Kind : Int
  Slot : Int
  Nomination : TNomination
  Envelope : TEnvelope
@[simp] theorem TLetter.eta (x : TLetter) : TLetter.mk x.Kind x.Slot x.Nomination x.Envelope = x := rfl
structure TSighting where
  Time : Int
  From : Int
  Letter : TLetter
@[simp] theorem TSighting.eta (x : TSighting) : TSighting.mk x.Time x.From x.Letter = x := rfl
structure TFinding where
  Node : Int
  Slot : Int
  Kind : Int
  Value : ByteArray
  Needs : (List Int)
@[simp] theorem TFinding.eta (x : TFinding) : TFinding.mk x.Node x.Slot x.Kind x.Value x.Needs = x := rfl
structure TMember where
  Declared : Bool
  Trust : TTrust
@[simp] theorem TMember.eta (x : TMember) : TMember.mk x.Declared x.Trust = x := rfl
structure TConfig where
  Members : (List TMember)
@[simp] theorem TConfig.eta (x : TConfig) : TConfig.mk x.Members = x := rfl
structure TSrc where
  L : (List Int)
  At : Int
@[simp] theorem TSrc.eta (x : TSrc) : TSrc.mk x.L x.At = x := rfl
structure TPlace where
  node : Int
  slot : Int
@[simp] theorem TPlace.eta (x : TPlace) : TPlace.mk x.node x.slot = x := rfl
structure TRight where
  Envelope : TEnvelope
@[simp] theorem TRight.eta (x : TRight) : TRight.mk x.Envelope = x := rfl
structure TSeen where
  Node : Int
  View : TConfig
  Heard : (List TRight)
@[simp] theorem TSeen.eta (x : TSeen) : TSeen.mk x.Node x.View x.Heard = x := rfl
attribute [simp] TTrust.eta
inductive SName where
  | Trust
  | Nomination
  | Ballot
  | Envelope
  | Letter
  | Sighting
  | Finding
  | Member
  | Config
  | Src
  | Place
  | Right
  | Seen
 deriving DecidableEq
inductive Ty where
  | i (k : IntKind)
  | bool
  | str
  | sl (t : Ty)
  | mp (a b : Ty)
  | st (n : SName)
def SName.den : SName → Type
  | .Trust => TTrust
  | .Nomination => TNomination
  | .Ballot => TBallot
  | .Envelope => TEnvelope
  | .Letter => TLetter
  | .Sighting => TSighting
  | .Finding => TFinding
  | .Member => TMember
  | .Config => TConfig
  | .Src => TSrc
  | .Place => TPlace
  | .Right => TRight
  | .Seen => TSeen
def Ty.den : Ty → Type
  | .i _ => Int
  | .bool => Bool
  | .str => ByteArray
  | .sl t => List t.den
  | .mp a b => List (a.den × b.den)
  | .st n => n.den
def Ty.beq : Ty → Ty → Bool
  | .i k, .i k' => decide (k = k')
  | .bool, .bool => true
  | .str, .str => true
  | .sl t, .sl t' => Ty.beq t t'
  | .mp a b, .mp a' b' => Ty.beq a a' && Ty.beq b b'
  | .st n, .st n' => decide (n = n')
  | _, _ => false
theorem Ty.eq_of_beq : ∀ {a b : Ty}, Ty.beq a b = true → a = b
  | .i k, .i k', h => by rw [of_decide_eq_true h]
  | .bool, .bool, _ => rfl
  | .str, .str, _ => rfl
  | .sl t, .sl t', h => by rw [Ty.eq_of_beq (a := t) (b := t') h]
  | .mp a b, .mp a' b', h => by
    rw [Ty.beq, Bool.and_eq_true] at h
    rw [Ty.eq_of_beq (a := a) (b := a') h.1, Ty.eq_of_beq (a := b) (b := b') h.2]
  | .st n, .st n', h => by rw [of_decide_eq_true h]
  | .i _, .bool, h => by cases h
  | .i _, .str, h => by cases h
  | .i _, .sl _, h => by cases h
  | .i _, .st _, h => by cases h
  | .bool, .i _, h => by cases h
  | .bool, .str, h => by cases h
  | .bool, .sl _, h => by cases h
  | .bool, .st _, h => by cases h
  | .str, .i _, h => by cases h
  | .str, .bool, h => by cases h
  | .str, .sl _, h => by cases h
  | .str, .st _, h => by cases h
  | .sl _, .i _, h => by cases h
  | .sl _, .bool, h => by cases h
  | .sl _, .str, h => by cases h
  | .sl _, .st _, h => by cases h
  | .st _, .i _, h => by cases h
  | .st _, .bool, h => by cases h
  | .st _, .str, h => by cases h
  | .st _, .sl _, h => by cases h
  | .mp _ _, .i _, h => by cases h
  | .i _, .mp _ _, h => by cases h
  | .mp _ _, .bool, h => by cases h
  | .bool, .mp _ _, h => by cases h
  | .mp _ _, .str, h => by cases h
  | .str, .mp _ _, h => by cases h
  | .mp _ _, .sl _, h => by cases h
  | .sl _, .mp _ _, h => by cases h
  | .mp _ _, .st _, h => by cases h
  | .st _, .mp _ _, h => by cases h
theorem Ty.beq_self : ∀ (a : Ty), Ty.beq a a = true
  | .i k => decide_eq_true rfl
  | .bool => rfl
  | .str => rfl
  | .sl t => Ty.beq_self t
  | .mp a b => by rw [Ty.beq, Ty.beq_self a, Ty.beq_self b]; rfl
  | .st n => decide_eq_true rfl
def Ty.deq (a b : Ty) : Decidable (a = b) :=
  match h : Ty.beq a b with
  | true => isTrue (Ty.eq_of_beq h)
  | false => isFalse fun e => by rw [e, Ty.beq_self] at h; cases h
@[reducible] def LDen : List Ty → Type
  | [] => Unit
  | t :: l => t.den × LDen l
def SName.leaves : SName → List Ty
  | .Trust => [(Ty.i .i64), (Ty.sl (Ty.i .i64)), (Ty.sl (Ty.st .Trust))]
  | .Nomination => [(Ty.i .i64), (Ty.i .i64), (Ty.i .i64), (Ty.sl (Ty.i .i64)), (Ty.sl (Ty.st .Trust)), (Ty.sl Ty.str), (Ty.sl Ty.str)]
  | .Ballot => [(Ty.i .i64), Ty.str]
  | .Envelope => [(Ty.i .i64), (Ty.i .i64), (Ty.i .i64), (Ty.i .i64), (Ty.sl (Ty.i .i64)), (Ty.sl (Ty.st .Trust)), (Ty.i .i64), (Ty.i .i64), Ty.str, (Ty.i .i64), Ty.str, (Ty.i .i64), Ty.str, (Ty.i .i64), (Ty.i .i64)]
  | .Letter => [(Ty.i .i64), (Ty.i .i64), (Ty.i .i64), (Ty.i .i64), (Ty.i .i64), (Ty.sl (Ty.i .i64)), (Ty.sl (Ty.st .Trust)), (Ty.sl Ty.str), (Ty.sl Ty.str), (Ty.i .i64), (Ty.i .i64), (Ty.i .i64), (Ty.i .i64), (Ty.sl (Ty.i .i64)), (Ty.sl (Ty.st .Trust)), (Ty.i .i64), (Ty.i .i64), Ty.str, (Ty.i .i64), Ty.str, (Ty.i .i64), Ty.str, (Ty.i .i64), (Ty.i .i64)]
  | .Sighting => [(Ty.i .i64), (Ty.i .i64), (Ty.i .i64), (Ty.i .i64), (Ty.i .i64), (Ty.i .i64), (Ty.i .i64), (Ty.sl (Ty.i .i64)), (Ty.sl (Ty.st .Trust)), (Ty.sl Ty.str), (Ty.sl Ty.str), (Ty.i .i64), (Ty.i .i64), (Ty.i .i64), (Ty.i .i64), (Ty.sl (Ty.i .i64)), (Ty.sl (Ty.st .Trust)), (Ty.i .i64), (Ty.i .i64), Ty.str, (Ty.i .i64), Ty.str, (Ty.i .i64), Ty.str, (Ty.i .i64), (Ty.i .i64)]
  | .Finding => [(Ty.i .i64), (Ty.i .i64), (Ty.i .i64), Ty.str, (Ty.sl (Ty.i .i64))]
  | .Member => [Ty.bool, (Ty.i .i64), (Ty.sl (Ty.i .i64)), (Ty.sl (Ty.st .Trust))]
  | .Config => [(Ty.sl (Ty.st .Member))]
  | .Src => [(Ty.sl (Ty.i .i64)), (Ty.i .i64)]
  | .Place => [(Ty.i .i64), (Ty.i .i64)]
  | .Right => [(Ty.i .i64), (Ty.i .i64), (Ty.i .i64), (Ty.i .i64), (Ty.sl (Ty.i .i64)), (Ty.sl (Ty.st .Trust)), (Ty.i .i64), (Ty.i .i64), Ty.str, (Ty.i .i64), Ty.str, (Ty.i .i64), Ty.str, (Ty.i .i64), (Ty.i .i64)]
  | .Seen => [(Ty.i .i64), (Ty.sl (Ty.st .Member)), (Ty.sl (Ty.st .Right))]
def SName.toL : (n : SName) → n.den → LDen n.leaves
  | .Trust, (v : TTrust) => (v.Threshold, v.Nodes, v.Inner, ())
  | .Nomination, (v : TNomination) => (v.Node, v.Seq, v.Trust.Threshold, v.Trust.Nodes, v.Trust.Inner, v.Votes, v.Accepts, ())
  | .Ballot, (v : TBallot) => (v.Counter, v.Value, ())
  | .Envelope, (v : TEnvelope) => (v.Node, v.Slot, v.Seq, v.Trust.Threshold, v.Trust.Nodes, v.Trust.Inner, v.Kind, v.Ballot.Counter, v.Ballot.Value, v.Prepared.Counter, v.Prepared.Value, v.Prime.Counter, v.Prime.Value, v.Low, v.High, ())
  | .Letter, (v : TLetter) => (v.Kind, v.Slot, v.Nomination.Node, v.Nomination.Seq, v.Nomination.Trust.Threshold, v.Nomination.Trust.Nodes, v.Nomination.Trust.Inner, v.Nomination.Votes, v.Nomination.Accepts, v.Envelope.Node, v.Envelope.Slot, v.Envelope.Seq, v.Envelope.Trust.Threshold, v.Envelope.Trust.Nodes, v.Envelope.Trust.Inner, v.Envelope.Kind, v.Envelope.Ballot.Counter, v.Envelope.Ballot.Value, v.Envelope.Prepared.Counter, v.Envelope.Prepared.Value, v.Envelope.Prime.Counter, v.Envelope.Prime.Value, v.Envelope.Low, v.Envelope.High, ())
  | .Sighting, (v : TSighting) => (v.Time, v.From, v.Letter.Kind, v.Letter.Slot, v.Letter.Nomination.Node, v.Letter.Nomination.Seq, v.Letter.Nomination.Trust.Threshold, v.Letter.Nomination.Trust.Nodes, v.Letter.Nomination.Trust.Inner, v.Letter.Nomination.Votes, v.Letter.Nomination.Accepts, v.Letter.Envelope.Node, v.Letter.Envelope.Slot, v.Letter.Envelope.Seq, v.Letter.Envelope.Trust.Threshold, v.Letter.Envelope.Trust.Nodes, v.Letter.Envelope.Trust.Inner, v.Letter.Envelope.Kind, v.Letter.Envelope.Ballot.Counter, v.Letter.Envelope.Ballot.Value, v.Letter.Envelope.Prepared.Counter, v.Letter.Envelope.Prepared.Value, v.Letter.Envelope.Prime.Counter, v.Letter.Envelope.Prime.Value, v.Letter.Envelope.Low, v.Letter.Envelope.High, ())
  | .Finding, (v : TFinding) => (v.Node, v.Slot, v.Kind, v.Value, v.Needs, ())
  | .Member, (v : TMember) => (v.Declared, v.Trust.Threshold, v.Trust.Nodes, v.Trust.Inner, ())
  | .Config, (v : TConfig) => (v.Members, ())
  | .Src, (v : TSrc) => (v.L, v.At, ())
  | .Place, (v : TPlace) => (v.node, v.slot, ())
  | .Right, (v : TRight) => (v.Envelope.Node, v.Envelope.Slot, v.Envelope.Seq, v.Envelope.Trust.Threshold, v.Envelope.Trust.Nodes, v.Envelope.Trust.Inner, v.Envelope.Kind, v.Envelope.Ballot.Counter, v.Envelope.Ballot.Value, v.Envelope.Prepared.Counter, v.Envelope.Prepared.Value, v.Envelope.Prime.Counter, v.Envelope.Prime.Value, v.Envelope.Low, v.Envelope.High, ())
  | .Seen, (v : TSeen) => (v.Node, v.View.Members, v.Heard, ())
def SName.ofL : (n : SName) → LDen n.leaves → n.den
  | .Trust, v => (TTrust.mk v.1 v.2.1 v.2.2.1)
  | .Nomination, v => (TNomination.mk v.1 v.2.1 (TTrust.mk v.2.2.1 v.2.2.2.1 v.2.2.2.2.1) v.2.2.2.2.2.1 v.2.2.2.2.2.2.1)
  | .Ballot, v => (TBallot.mk v.1 v.2.1)
  | .Envelope, v => (TEnvelope.mk v.1 v.2.1 v.2.2.1 (TTrust.mk v.2.2.2.1 v.2.2.2.2.1 v.2.2.2.2.2.1) v.2.2.2.2.2.2.1 (TBallot.mk v.2.2.2.2.2.2.2.1 v.2.2.2.2.2.2.2.2.1) (TBallot.mk v.2.2.2.2.2.2.2.2.2.1 v.2.2.2.2.2.2.2.2.2.2.1) (TBallot.mk v.2.2.2.2.2.2.2.2.2.2.2.1 v.2.2.2.2.2.2.2.2.2.2.2.2.1) v.2.2.2.2.2.2.2.2.2.2.2.2.2.1 v.2.2.2.2.2.2.2.2.2.2.2.2.2.2.1)
  | .Letter, v => (TLetter.mk v.1 v.2.1 (TNomination.mk v.2.2.1 v.2.2.2.1 (TTrust.mk v.2.2.2.2.1 v.2.2.2.2.2.1 v.2.2.2.2.2.2.1) v.2.2.2.2.2.2.2.1 v.2.2.2.2.2.2.2.2.1) (TEnvelope.mk v.2.2.2.2.2.2.2.2.2.1 v.2.2.2.2.2.2.2.2.2.2.1 v.2.2.2.2.2.2.2.2.2.2.2.1 (TTrust.mk v.2.2.2.2.2.2.2.2.2.2.2.2.1 v.2.2.2.2.2.2.2.2.2.2.2.2.2.1 v.2.2.2.2.2.2.2.2.2.2.2.2.2.2.1) v.2.2.2.2.2.2.2.2.2.2.2.2.2.2.2.1 (TBallot.mk v.2.2.2.2.2.2.2.2.2.2.2.2.2.2.2.2.1 v.2.2.2.2.2.2.2.2.2.2.2.2.2.2.2.2.2.1) (TBallot.mk v.2.2.2.2.2.2.2.2.2.2.2.2.2.2.2.2.2.2.1 v.2.2.2.2.2.2.2.2.2.2.2.2.2.2.2.2.2.2.2.1) (TBallot.mk v.2.2.2.2.2.2.2.2.2.2.2.2.2.2.2.2.2.2.2.2.1 v.2.2.2.2.2.2.2.2.2.2.2.2.2.2.2.2.2.2.2.2.2.1) v.2.2.2.2.2.2.2.2.2.2.2.2.2.2.2.2.2.2.2.2.2.2.1 v.2.2.2.2.2.2.2.2.2.2.2.2.2.2.2.2.2.2.2.2.2.2.2.1))
  | .Sighting, v => (TSighting.mk v.1 v.2.1 (TLetter.mk v.2.2.1 v.2.2.2.1 (TNomination.mk v.2.2.2.2.1 v.2.2.2.2.2.1 (TTrust.mk v.2.2.2.2.2.2.1 v.2.2.2.2.2.2.2.1 v.2.2.2.2.2.2.2.2.1) v.2.2.2.2.2.2.2.2.2.1 v.2.2.2.2.2.2.2.2.2.2.1) (TEnvelope.mk v.2.2.2.2.2.2.2.2.2.2.2.1 v.2.2.2.2.2.2.2.2.2.2.2.2.1 v.2.2.2.2.2.2.2.2.2.2.2.2.2.1 (TTrust.mk v.2.2.2.2.2.2.2.2.2.2.2.2.2.2.1 v.2.2.2.2.2.2.2.2.2.2.2.2.2.2.2.1 v.2.2.2.2.2.2.2.2.2.2.2.2.2.2.2.2.1) v.2.2.2.2.2.2.2.2.2.2.2.2.2.2.2.2.2.1 (TBallot.mk v.2.2.2.2.2.2.2.2.2.2.2.2.2.2.2.2.2.2.1 v.2.2.2.2.2.2.2.2.2.2.2.2.2.2.2.2.2.2.2.1) (TBallot.mk v.2.2.2.2.2.2.2.2.2.2.2.2.2.2.2.2.2.2.2.2.1 v.2.2.2.2.2.2.2.2.2.2.2.2.2.2.2.2.2.2.2.2.2.1) (TBallot.mk v.2.2.2.2.2.2.2.2.2.2.2.2.2.2.2.2.2.2.2.2.2.2.1 v.2.2.2.2.2.2.2.2.2.2.2.2.2.2.2.2.2.2.2.2.2.2.2.1) v.2.2.2.2.2.2.2.2.2.2.2.2.2.2.2.2.2.2.2.2.2.2.2.2.1 v.2.2.2.2.2.2.2.2.2.2.2.2.2.2.2.2.2.2.2.2.2.2.2.2.2.1)))
  | .Finding, v => (TFinding.mk v.1 v.2.1 v.2.2.1 v.2.2.2.1 v.2.2.2.2.1)
  | .Member, v => (TMember.mk v.1 (TTrust.mk v.2.1 v.2.2.1 v.2.2.2.1))
  | .Config, v => (TConfig.mk v.1)
  | .Src, v => (TSrc.mk v.1 v.2.1)
  | .Place, v => (TPlace.mk v.1 v.2.1)
  | .Right, v => (TRight.mk (TEnvelope.mk v.1 v.2.1 v.2.2.1 (TTrust.mk v.2.2.2.1 v.2.2.2.2.1 v.2.2.2.2.2.1) v.2.2.2.2.2.2.1 (TBallot.mk v.2.2.2.2.2.2.2.1 v.2.2.2.2.2.2.2.2.1) (TBallot.mk v.2.2.2.2.2.2.2.2.2.1 v.2.2.2.2.2.2.2.2.2.2.1) (TBallot.mk v.2.2.2.2.2.2.2.2.2.2.2.1 v.2.2.2.2.2.2.2.2.2.2.2.2.1) v.2.2.2.2.2.2.2.2.2.2.2.2.2.1 v.2.2.2.2.2.2.2.2.2.2.2.2.2.2.1))
  | .Seen, v => (TSeen.mk v.1 (TConfig.mk v.2.1) v.2.2.1)
mutual
def pv_TTrust : TTrust → List PV
  | ⟨a0, a1, a2⟩ => [.int .i64 a0, .sl (a1.map (fun x => [.int .i64 x])), .sl (pvs_TTrust a2)]
def pvs_TTrust : List TTrust → List (List PV)
  | [] => []
  | x :: l => pv_TTrust x :: pvs_TTrust l
end
theorem pvs_TTrust_map : ∀ (l : List TTrust), pvs_TTrust l = l.map pv_TTrust
  | [] => by rw [pvs_TTrust]; rfl
  | x :: l => by rw [pvs_TTrust, pvs_TTrust_map l]; rfl
def pv_TNomination (v : TNomination) : List PV := [.int .i64 v.Node, .int .i64 v.Seq, .int .i64 v.Trust.Threshold, .sl (v.Trust.Nodes.map (fun x => [.int .i64 x])), .sl (v.Trust.Inner.map pv_TTrust), .sl (v.Votes.map (fun x => [.str x])), .sl (v.Accepts.map (fun x => [.str x]))]
def pv_TBallot (v : TBallot) : List PV := [.int .i64 v.Counter, .str v.Value]
def pv_TEnvelope (v : TEnvelope) : List PV := [.int .i64 v.Node, .int .i64 v.Slot, .int .i64 v.Seq, .int .i64 v.Trust.Threshold, .sl (v.Trust.Nodes.map (fun x => [.int .i64 x])), .sl (v.Trust.Inner.map pv_TTrust), .int .i64 v.Kind, .int .i64 v.Ballot.Counter, .str v.Ballot.Value, .int .i64 v.Prepared.Counter, .str v.Prepared.Value, .int .i64 v.Prime.Counter, .str v.Prime.Value, .int .i64 v.Low, .int .i64 v.High]
def pv_TLetter (v : TLetter) : List PV := [.int .i64 v.Kind, .int .i64 v.Slot, .int .i64 v.Nomination.Node, .int .i64 v.Nomination.Seq, .int .i64 v.Nomination.Trust.Threshold, .sl (v.Nomination.Trust.Nodes.map (fun x => [.int .i64 x])), .sl (v.Nomination.Trust.Inner.map pv_TTrust), .sl (v.Nomination.Votes.map (fun x => [.str x])), .sl (v.Nomination.Accepts.map (fun x => [.str x])), .int .i64 v.Envelope.Node, .int .i64 v.Envelope.Slot, .int .i64 v.Envelope.Seq, .int .i64 v.Envelope.Trust.Threshold, .sl (v.Envelope.Trust.Nodes.map (fun x => [.int .i64 x])), .sl (v.Envelope.Trust.Inner.map pv_TTrust), .int .i64 v.Envelope.Kind, .int .i64 v.Envelope.Ballot.Counter, .str v.Envelope.Ballot.Value, .int .i64 v.Envelope.Prepared.Counter, .str v.Envelope.Prepared.Value, .int .i64 v.Envelope.Prime.Counter, .str v.Envelope.Prime.Value, .int .i64 v.Envelope.Low, .int .i64 v.Envelope.High]
def pv_TSighting (v : TSighting) : List PV := [.int .i64 v.Time, .int .i64 v.From, .int .i64 v.Letter.Kind, .int .i64 v.Letter.Slot, .int .i64 v.Letter.Nomination.Node, .int .i64 v.Letter.Nomination.Seq, .int .i64 v.Letter.Nomination.Trust.Threshold, .sl (v.Letter.Nomination.Trust.Nodes.map (fun x => [.int .i64 x])), .sl (v.Letter.Nomination.Trust.Inner.map pv_TTrust), .sl (v.Letter.Nomination.Votes.map (fun x => [.str x])), .sl (v.Letter.Nomination.Accepts.map (fun x => [.str x])), .int .i64 v.Letter.Envelope.Node, .int .i64 v.Letter.Envelope.Slot, .int .i64 v.Letter.Envelope.Seq, .int .i64 v.Letter.Envelope.Trust.Threshold, .sl (v.Letter.Envelope.Trust.Nodes.map (fun x => [.int .i64 x])), .sl (v.Letter.Envelope.Trust.Inner.map pv_TTrust), .int .i64 v.Letter.Envelope.Kind, .int .i64 v.Letter.Envelope.Ballot.Counter, .str v.Letter.Envelope.Ballot.Value, .int .i64 v.Letter.Envelope.Prepared.Counter, .str v.Letter.Envelope.Prepared.Value, .int .i64 v.Letter.Envelope.Prime.Counter, .str v.Letter.Envelope.Prime.Value, .int .i64 v.Letter.Envelope.Low, .int .i64 v.Letter.Envelope.High]
def pv_TFinding (v : TFinding) : List PV := [.int .i64 v.Node, .int .i64 v.Slot, .int .i64 v.Kind, .str v.Value, .sl (v.Needs.map (fun x => [.int .i64 x]))]
def pv_TMember (v : TMember) : List PV := [.bool v.Declared, .int .i64 v.Trust.Threshold, .sl (v.Trust.Nodes.map (fun x => [.int .i64 x])), .sl (v.Trust.Inner.map pv_TTrust)]
def pv_TConfig (v : TConfig) : List PV := [.sl (v.Members.map pv_TMember)]
def pv_TSrc (v : TSrc) : List PV := [.sl (v.L.map (fun x => [.int .i64 x])), .int .i64 v.At]
def pv_TPlace (v : TPlace) : List PV := [.int .i64 v.node, .int .i64 v.slot]
def pv_TRight (v : TRight) : List PV := [.int .i64 v.Envelope.Node, .int .i64 v.Envelope.Slot, .int .i64 v.Envelope.Seq, .int .i64 v.Envelope.Trust.Threshold, .sl (v.Envelope.Trust.Nodes.map (fun x => [.int .i64 x])), .sl (v.Envelope.Trust.Inner.map pv_TTrust), .int .i64 v.Envelope.Kind, .int .i64 v.Envelope.Ballot.Counter, .str v.Envelope.Ballot.Value, .int .i64 v.Envelope.Prepared.Counter, .str v.Envelope.Prepared.Value, .int .i64 v.Envelope.Prime.Counter, .str v.Envelope.Prime.Value, .int .i64 v.Envelope.Low, .int .i64 v.Envelope.High]
def pv_TSeen (v : TSeen) : List PV := [.int .i64 v.Node, .sl (v.View.Members.map pv_TMember), .sl (v.Heard.map pv_TRight)]
def SName.pv : (n : SName) → n.den → List PV
  | .Trust, v => pv_TTrust v
  | .Nomination, v => pv_TNomination v
  | .Ballot, v => pv_TBallot v
  | .Envelope, v => pv_TEnvelope v
  | .Letter, v => pv_TLetter v
  | .Sighting, v => pv_TSighting v
  | .Finding, v => pv_TFinding v
  | .Member, v => pv_TMember v
  | .Config, v => pv_TConfig v
  | .Src, v => pv_TSrc v
  | .Place, v => pv_TPlace v
  | .Right, v => pv_TRight v
  | .Seen, v => pv_TSeen v
def Ty.isAgg : Ty → Bool
  | .st _ => true
  | _ => false
def wrapA (t : Ty) (cs : List PV) : PV := match t.isAgg with | true => .agg cs | false => cs.headD .any
def Ty.pv : (t : Ty) → t.den → List PV
  | .i k, n => [.int k n]
  | .bool, b => [.bool b]
  | .str, s => [.str s]
  | .sl t, (xs : List t.den) => [.sl (xs.map (Ty.pv t))]
  | .mp a b, (xs : List (a.den × b.den)) => [.mapv (xs.map fun p => wrapA a (Ty.pv a p.1)) (xs.map fun p => wrapA b (Ty.pv b p.2))]
  | .st n, v => n.pv v
def leafPV : (ls : List Ty) → LDen ls → List PV
  | [], _ => []
  | t :: l, v => t.pv v.1 ++ leafPV l v.2
theorem SName.pv_eq : ∀ (n : SName) (v : n.den), n.pv v = leafPV n.leaves (n.toL v)
  | .Trust, v => by cases v; simp only [SName.pv, pv_TTrust, pvs_TTrust_map]; rfl
  | .Nomination, v => rfl
  | .Ballot, v => rfl
  | .Envelope, v => rfl
  | .Letter, v => rfl
  | .Sighting, v => rfl
  | .Finding, v => rfl
  | .Member, v => rfl
  | .Config, v => rfl
  | .Src, v => rfl
  | .Place, v => rfl
  | .Right, v => rfl
  | .Seen, v => rfl
def Ty.leaf : Ty → Bool
  | .st _ => false
  | _ => true
theorem SName.leaf_ok : ∀ (n : SName), n.leaves.all Ty.leaf = true
  | .Trust => rfl
  | .Nomination => rfl
  | .Ballot => rfl
  | .Envelope => rfl
  | .Letter => rfl
  | .Sighting => rfl
  | .Finding => rfl
  | .Member => rfl
  | .Config => rfl
  | .Src => rfl
  | .Place => rfl
  | .Right => rfl
  | .Seen => rfl
theorem SName.to_of : ∀ (n : SName) (v : LDen n.leaves), n.toL (n.ofL v) = v
  | .Trust, v => rfl
  | .Nomination, v => rfl
  | .Ballot, v => rfl
  | .Envelope, v => rfl
  | .Letter, v => rfl
  | .Sighting, v => rfl
  | .Finding, v => rfl
  | .Member, v => rfl
  | .Config, v => rfl
  | .Src, v => rfl
  | .Place, v => rfl
  | .Right, v => rfl
  | .Seen, v => rfl
def Ty.noSl : Ty → Bool
  | .sl _ => false
  | .mp _ _ => false
  | _ => true
@[reducible] def U : TU where
  Ty := Ty
  deq := Ty.deq
  den := Ty.den
  pv := Ty.pv
  size := fun t => match t with | .st n => n.leaves.length | _ => 1
  agg := Ty.isAgg
  plain := fun t => match t with | .st n => n.leaves.all Ty.noSl | t => t.noSl

def leafK : (t : Ty) → t.den → KV U
  | .i k, n => .int k n
  | .bool, b => .bool b
  | .str, s => .str s
  | .sl t, (xs : List t.den) => .sl t xs
  | .mp a b, (xs : List (a.den × b.den)) => .mapv a b xs
  | .st _, _ => .any
def leavesK : (ls : List Ty) → LDen ls → List (KV U)
  | [], _ => []
  | t :: l, v => leafK t v.1 :: leavesK l v.2
def encT : (t : Ty) → t.den → List (KV U)
  | .st n, v => leavesK n.leaves (n.toL v)
  | .i k, v => [leafK (.i k) v]
  | .bool, v => [leafK .bool v]
  | .str, v => [leafK .str v]
  | .sl t, v => [leafK (.sl t) v]
  | .mp a b, v => [leafK (.mp a b) v]
def decLeaf (lk : Lk U) : (t : Ty) → KV U → Option t.den
  | .i k, x => decI k x
  | .bool, x => decB x
  | .str, x => decS x
  | .sl t, x => decL (U := U) lk t x
  | .mp a b, x => decM (U := U) a b x
  | .st _, _ => none
def decLeaves (lk : Lk U) : (ls : List Ty) → List (KV U) → Option (LDen ls)
  | [], cs => match cs with | [] => some () | _ => none
  | t :: l, cs => match cs with
    | c :: cs => (match decLeaf lk t c with
      | some v => (match decLeaves lk l cs with | some vs => some (v, vs) | none => none)
      | none => none)
    | [] => none
def dec1 {α : Type} (f : KV U → Option α) : List (KV U) → Option α
  | [x] => f x
  | _ => none
def decT : (t : Ty) → Lk U → List (KV U) → Option t.den
  | .st n, lk, cs => (match decLeaves lk n.leaves cs with | some v => some (n.ofL v) | none => none)
  | .i k, lk, cs => dec1 (decLeaf lk (.i k)) cs
  | .bool, lk, cs => dec1 (decLeaf lk .bool) cs
  | .str, lk, cs => dec1 (decLeaf lk .str) cs
  | .sl t, lk, cs => dec1 (decLeaf lk (.sl t)) cs
  | .mp a b, lk, cs => dec1 (decLeaf lk (.mp a b)) cs
theorem leafK_pv : ∀ (t : Ty) (v : t.den), t.leaf = true → [(leafK t v).pv] = t.pv v
  | .i k, v, _ => rfl
  | .bool, v, _ => rfl
  | .str, v, _ => rfl
  | .sl t, v, _ => rfl
  | .mp a b, v, _ => rfl
  | .st _, _, h => by cases h
theorem leavesK_pv : ∀ (ls : List Ty) (v : LDen ls), ls.all Ty.leaf = true → (leavesK ls v).map KV.pv = leafPV ls v
  | [], _, _ => rfl
  | t :: l, v, h => by
    rw [List.all_cons, Bool.and_eq_true] at h
    rw [leavesK, leafPV, List.map_cons, leavesK_pv l v.2 h.2, ← leafK_pv t v.1 h.1]
    rfl
theorem decLeaf_ok {lk : Lk U} : ∀ {t : Ty} {x : KV U} {v : t.den}, decLeaf lk t x = some v → CellsOk lk [x] (t.pv v)
  | .i k, x, v, h => .cons (decI_ok h) .nil
  | .bool, x, v, h => .cons (decB_ok h) .nil
  | .str, x, v, h => .cons (decS_ok h) .nil
  | .sl t, x, v, h => .cons (decL_ok (U := U) h) .nil
  | .mp a b, x, v, h => .cons (decM_ok (U := U) h) .nil
  | .st _, _, _, h => by cases h
theorem CellsOk.app {lk : Lk U} {x : KV U} {ys : List PV} {xs : List (KV U)} {zs : List PV} (h : CellsOk lk [x] ys) (k : CellsOk lk xs zs) : CellsOk lk (x :: xs) (ys ++ zs) := by
  cases h with
  | cons h1 h2 => cases h2 with | nil => exact .cons h1 k
theorem decLeaves_ok {lk : Lk U} : ∀ {ls : List Ty} {cs : List (KV U)} {v : LDen ls}, decLeaves lk ls cs = some v → CellsOk lk cs (leafPV ls v)
  | [], [], _, _ => .nil
  | [], _ :: _, _, h => by cases h
  | _ :: _, [], _, h => by cases h
  | t :: l, c :: cs, v, h => by
    rw [decLeaves] at h
    split at h
    · rename_i v1 h1
      split at h
      · rename_i vs h2
        injection h with h
        subst h
        exact (decLeaf_ok h1).app (decLeaves_ok h2)
      · cases h
    · cases h
theorem dec1_ok {α : Type} {f : KV U → Option α} {cs : List (KV U)} {v : α} (h : dec1 f cs = some v) : ∃ x, cs = [x] ∧ f x = some v := by
  unfold dec1 at h
  split at h
  · exact ⟨_, rfl, h⟩
  · cases h
theorem pv_len : ∀ (ls : List Ty) (v : LDen ls), ls.all Ty.leaf = true → (leafPV ls v).length = ls.length
  | [], _, _ => rfl
  | t :: l, v, h => by
    rw [List.all_cons, Bool.and_eq_true] at h
    have : (t.pv v.1).length = 1 := by
      cases t with
      | st n => cases h.1
      | _ => rfl
    rw [leafPV, List.length_append, pv_len l v.2 h.2, this, List.length_cons, Nat.add_comm]
theorem leaf_good : ∀ (t : Ty) (v : t.den), t.leaf = true → ∀ y ∈ t.pv v, y.good = true ∧ (t.noSl = true → y.plain = true)
  | .i k, v, _, y, h => by simp only [Ty.pv, List.mem_singleton] at h; subst h; exact ⟨rfl, fun _ => rfl⟩
  | .bool, v, _, y, h => by simp only [Ty.pv, List.mem_singleton] at h; subst h; exact ⟨rfl, fun _ => rfl⟩
  | .str, v, _, y, h => by simp only [Ty.pv, List.mem_singleton] at h; subst h; exact ⟨rfl, fun _ => rfl⟩
  | .sl t, v, _, y, h => by simp only [Ty.pv, List.mem_singleton] at h; subst h; exact ⟨rfl, fun h => by cases h⟩
  | .mp a b, v, _, y, h => by simp only [Ty.pv, List.mem_singleton] at h; subst h; exact ⟨rfl, fun h => by cases h⟩
  | .st _, _, h, _, _ => by cases h
theorem leaves_good : ∀ (ls : List Ty) (v : LDen ls), ls.all Ty.leaf = true → ∀ y ∈ leafPV ls v, y.good = true ∧ (ls.all Ty.noSl = true → y.plain = true)
  | [], _, _, y, h => by cases h
  | t :: l, v, h, y, hy => by
    rw [List.all_cons, Bool.and_eq_true] at h
    rw [leafPV, List.mem_append] at hy
    rcases hy with hy | hy
    · obtain ⟨h1, h2⟩ := leaf_good t v.1 h.1 y hy
      exact ⟨h1, fun hp => by rw [List.all_cons, Bool.and_eq_true] at hp; exact h2 hp.1⟩
    · obtain ⟨h1, h2⟩ := leaves_good l v.2 h.2 y hy
      exact ⟨h1, fun hp => by rw [List.all_cons, Bool.and_eq_true] at hp; exact h2 hp.2⟩
/-- structs of two integers, which can be a map's keys -/
def key2 : SName → Option (IntKind × IntKind)
  | .Place => some (.i64, .i64)
  | _ => none
theorem key2_ok : ∀ (n : SName) (k l : IntKind), key2 n = some (k, l) → ∀ v, ∃ a b, encT (.st n) v = [.int k a, .int l b]
  | .Place, _, _, h => by injection h with h; injection h with h1 h2; subst h1 h2; exact fun v => ⟨_, _, rfl⟩
  | .Trust, _, _, h => by cases h
  | .Nomination, _, _, h => by cases h
  | .Ballot, _, _, h => by cases h
  | .Envelope, _, _, h => by cases h
  | .Letter, _, _, h => by cases h
  | .Sighting, _, _, h => by cases h
  | .Finding, _, _, h => by cases h
  | .Member, _, _, h => by cases h
  | .Config, _, _, h => by cases h
  | .Src, _, _, h => by cases h
  | .Right, _, _, h => by cases h
  | .Seen, _, _, h => by cases h
def tyTab : List (Nat × Ty) := [(3, (Ty.i .i64)), (9, Ty.str), (29, (Ty.st .Finding)), (34, (Ty.st .Trust)), (38, (Ty.st .Envelope)), (57, (Ty.st .Sighting)), (74, (Ty.st .Place)), (81, (Ty.st .Member)), (111, (Ty.st .Right))]
def tyFind (n : Nat) : List (Nat × Ty) → Option Ty
  | [] => none
  | (k, t) :: l => (match Nat.beq k n with | true => some t | false => tyFind n l)
@[reducible] def K : TK U where
  enc := encT
  dec := decT
  tyOf := fun n => tyFind n tyTab
  enc_pv := fun t v => by
    cases t with
    | st n => exact (leavesK_pv _ _ n.leaf_ok).trans (n.pv_eq v).symm
    | _ => rfl
  dec_ok := fun t lk cs v h => by
    cases t with
    | st n =>
      change (match decLeaves lk n.leaves cs with | some v => some (n.ofL v) | none => none) = some v at h
      split at h
      · rename_i u hu
        injection h with h
        subst h
        have := decLeaves_ok hu
        change CellsOk lk cs (n.pv (n.ofL u))
        rw [n.pv_eq, n.to_of]
        exact this
      · cases h
    | i k => obtain ⟨x, rfl, hx⟩ := dec1_ok h; exact decLeaf_ok hx
    | bool => obtain ⟨x, rfl, hx⟩ := dec1_ok h; exact decLeaf_ok hx
    | str => obtain ⟨x, rfl, hx⟩ := dec1_ok h; exact decLeaf_ok hx
    | sl t => obtain ⟨x, rfl, hx⟩ := dec1_ok h; exact decLeaf_ok hx
    | mp a b => obtain ⟨x, rfl, hx⟩ := dec1_ok h; exact decLeaf_ok hx
  len := fun t v => by
    cases t with
    | st n => exact (congrArg List.length (n.pv_eq v)).trans (pv_len _ _ n.leaf_ok)
    | _ => rfl
  good := fun t v y hy => by
    cases t with
    | st n => exact (leaves_good _ (n.toL v) n.leaf_ok y (Eq.mp (congrArg (y ∈ ·) (n.pv_eq v)) hy)).1
    | i k => exact (leaf_good (.i k) v rfl y hy).1
    | bool => exact (leaf_good .bool v rfl y hy).1
    | str => exact (leaf_good .str v rfl y hy).1
    | sl t => exact (leaf_good (.sl t) v rfl y hy).1
    | mp a b => exact (leaf_good (.mp a b) v rfl y hy).1
  one := fun t h => by
    cases t with
    | st n => cases h
    | _ => rfl
  plain := fun t h v y hy => by
    cases t with
    | st n => exact (leaves_good _ (n.toL v) n.leaf_ok y (Eq.mp (congrArg (y ∈ ·) (n.pv_eq v)) hy)).2 h
    | i k => exact (leaf_good (.i k) v rfl y hy).2 rfl
    | bool => exact (leaf_good .bool v rfl y hy).2 rfl
    | str => exact (leaf_good .str v rfl y hy).2 rfl
    | sl t => cases h
    | mp a b => cases h
  key2 := fun t => match t with | .st n => key2 n | _ => none
  key2_ok := fun t k l h => by
    cases t with
    | st n => exact ⟨rfl, key2_ok n k l h⟩
    | _ => cases h
end Go.TQ
