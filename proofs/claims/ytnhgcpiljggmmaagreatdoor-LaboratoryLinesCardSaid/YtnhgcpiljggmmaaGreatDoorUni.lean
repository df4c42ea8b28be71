/-
  The program's data as Lean structures, and the universe of them. Printed by a program.
-/
import Derived.Test.YtnhgcpiljggmmaaGreatDoorKdef
set_option linter.unusedVariables false
namespace Go.TQ

structure TTrust where
  Threshold : Int
  Nodes : (List Int)
  Inner : (List TTrust)
theorem TTrust.eta (x : TTrust) : TTrust.mk x.Threshold x.Nodes x.Inner = x := by cases x; rfl
@[reducible] def eTTrust (x : TTrust) : TTrust := TTrust.mk x.Threshold x.Nodes x.Inner
structure TNomination where
  Node : Int
  Seq : Int
  Trust : TTrust
  Votes : (List ByteArray)
  Accepts : (List ByteArray)
@[simp] theorem TNomination.eta (x : TNomination) : TNomination.mk x.Node x.Seq x.Trust x.Votes x.Accepts = x := rfl
structure TBallot where
  Counter : Int
  Value : ByteArray
@[simp] theorem TBallot.eta (x : TBallot) : TBallot.mk x.Counter x.Value = x := rfl
structure TEnvelope where
  Node : Int
  Slot : Int
  Seq : Int
  Trust : TTrust
  Kind : Int
  Ballot : TBallot
  Prepared : TBallot
  Prime : TBallot
  Low : Int
  High : Int
@[simp] theorem TEnvelope.eta (x : TEnvelope) : TEnvelope.mk x.Node x.Slot x.Seq x.Trust x.Kind x.Ballot x.Prepared x.Prime x.Low x.High = x := rfl
structure TLetter where
  Kind : Int
  Slot : Int
  Nomination : TNomination
  Envelope : TEnvelope
@[simp] theorem TLetter.eta (x : TLetter) : TLetter.mk x.Kind x.Slot x.Nomination x.Envelope = x := rfl
structure TStep where
  Kind : Int
  Node : Int
  To : Int
  Slot : Int
  Count : Int
  Value : ByteArray
  Trust : TTrust
  Letter : TLetter
  Parts : (List Int)
@[simp] theorem TStep.eta (x : TStep) : TStep.mk x.Kind x.Node x.To x.Slot x.Count x.Value x.Trust x.Letter x.Parts = x := rfl
structure TMember where
  Declared : Bool
  Trust : TTrust
@[simp] theorem TMember.eta (x : TMember) : TMember.mk x.Declared x.Trust = x := rfl
structure TConfig where
  Members : (List TMember)
@[simp] theorem TConfig.eta (x : TConfig) : TConfig.mk x.Members = x := rfl
structure TNominator where
  Node : Int
  Slot : Int
  Round : Int
  Seq : Int
  Trust : TTrust
  Own : ByteArray
  Votes : (List ByteArray)
  Accepts : (List ByteArray)
  Candidates : (List ByteArray)
  Heard : (List TNomination)
@[simp] theorem TNominator.eta (x : TNominator) : TNominator.mk x.Node x.Slot x.Round x.Seq x.Trust x.Own x.Votes x.Accepts x.Candidates x.Heard = x := rfl
structure TMachine where
  Node : Int
  Slot : Int
  Seq : Int
  Trust : TTrust
  Phase : Int
  Ballot : TBallot
  Prepared : TBallot
  Prime : TBallot
  Confirmed : TBallot
  Low : Int
  High : Int
  Proposed : ByteArray
  Heard : (List TEnvelope)
@[simp] theorem TMachine.eta (x : TMachine) : TMachine.mk x.Node x.Slot x.Seq x.Trust x.Phase x.Ballot x.Prepared x.Prime x.Confirmed x.Low x.High x.Proposed x.Heard = x := rfl
structure TTimer where
  Counter : Int
  Due : Int
@[simp] theorem TTimer.eta (x : TTimer) : TTimer.mk x.Counter x.Due = x := rfl
structure TSlot where
  Nominator : TNominator
  Machine : TMachine
  Timer : TTimer
  Round : Int
  Next : Int
  Done : Bool
  Value : ByteArray
@[simp] theorem TSlot.eta (x : TSlot) : TSlot.mk x.Nominator x.Machine x.Timer x.Round x.Next x.Done x.Value = x := rfl
structure TParticipant where
  Node : Int
  Stopped : Bool
  Trust : TTrust
  Slots : (List TSlot)
@[simp] theorem TParticipant.eta (x : TParticipant) : TParticipant.mk x.Node x.Stopped x.Trust x.Slots = x := rfl
structure TParcel where
  Due : Int
  From : Int
  To : Int
  Number : Int
  Letter : TLetter
@[simp] theorem TParcel.eta (x : TParcel) : TParcel.mk x.Due x.From x.To x.Number x.Letter = x := rfl
structure TNetwork where
  Parcels : (List TParcel)
  Next : Int
  Parts : (List Int)
  Delays : (List Int)
@[simp] theorem TNetwork.eta (x : TNetwork) : TNetwork.mk x.Parcels x.Next x.Parts x.Delays = x := rfl
structure TWorld where
  Time : Int
  Nodes : (List TParticipant)
  Ill : Int
  Net : TNetwork
  Trusts : (List (List TTrust))
@[simp] theorem TWorld.eta (x : TWorld) : TWorld.mk x.Time x.Nodes x.Ill x.Net x.Trusts = x := rfl
structure TSrc where
  L : (List Int)
  At : Int
@[simp] theorem TSrc.eta (x : TSrc) : TSrc.mk x.L x.At = x := rfl
structure TLaboratoryReader where
  l : (List ByteArray)
  bad : Bool
@[simp] theorem TLaboratoryReader.eta (x : TLaboratoryReader) : TLaboratoryReader.mk x.l x.bad = x := rfl
structure TNotationReader where
  text : ByteArray
  token : ByteArray
  at_ : Int
@[simp] theorem TNotationReader.eta (x : TNotationReader) : TNotationReader.mk x.text x.token x.at_ = x := rfl
structure TClaim where
  Topic : Int
  Value : Int
@[simp] theorem TClaim.eta (x : TClaim) : TClaim.mk x.Topic x.Value = x := rfl
structure TMessage where
  Node : Int
  Seq : Int
  Trust : TTrust
  Votes : (List TClaim)
  Accepts : (List TClaim)
@[simp] theorem TMessage.eta (x : TMessage) : TMessage.mk x.Node x.Seq x.Trust x.Votes x.Accepts = x := rfl
structure TArr2Ballot where
  c0 : TBallot
  c1 : TBallot
@[simp] theorem TArr2Ballot.eta (x : TArr2Ballot) : TArr2Ballot.mk x.c0 x.c1 = x := rfl
structure TArr2I64 where
  c0 : Int
  c1 : Int
@[simp] theorem TArr2I64.eta (x : TArr2I64) : TArr2I64.mk x.c0 x.c1 = x := rfl
structure TFrac where
  Num : Int
  Den : Int
@[simp] theorem TFrac.eta (x : TFrac) : TFrac.mk x.Num x.Den = x := rfl
attribute [simp] TTrust.eta
/-- an integer or a string behind an interface -/
structure TDyn where
  isS : Bool
  n : Int
  s : ByteArray
@[simp] theorem TDyn.eta (x : TDyn) : TDyn.mk x.isS x.n x.s = x := rfl
def tyI : Nat := 3
def tyS : Nat := 9
inductive SName where
  | Trust
  | Nomination
  | Ballot
  | Envelope
  | Letter
  | Step
  | Member
  | Config
  | Nominator
  | Machine
  | Timer
  | Slot
  | Participant
  | Parcel
  | Network
  | World
  | Src
  | LaboratoryReader
  | NotationReader
  | Claim
  | Message
  | Arr2Ballot
  | Arr2I64
  | Frac
 deriving DecidableEq
inductive Ty where
  | i (k : IntKind)
  | bool
  | dyn
  | err
  | str
  | sl (t : Ty)
  | mp (a b : Ty)
  | st (n : SName)
def SName.den : SName → Type
  | .Trust => TTrust
  | .Nomination => TNomination
  | .Ballot => TBallot
  | .Envelope => TEnvelope
  | .Letter => TLetter
  | .Step => TStep
  | .Member => TMember
  | .Config => TConfig
  | .Nominator => TNominator
  | .Machine => TMachine
  | .Timer => TTimer
  | .Slot => TSlot
  | .Participant => TParticipant
  | .Parcel => TParcel
  | .Network => TNetwork
  | .World => TWorld
  | .Src => TSrc
  | .LaboratoryReader => TLaboratoryReader
  | .NotationReader => TNotationReader
  | .Claim => TClaim
  | .Message => TMessage
  | .Arr2Ballot => TArr2Ballot
  | .Arr2I64 => TArr2I64
  | .Frac => TFrac
def Ty.den : Ty → Type
  | .i _ => Int
  | .dyn => TDyn
  | .err => Bool
  | .bool => Bool
  | .str => ByteArray
  | .sl t => List t.den
  | .mp a b => List (a.den × b.den)
  | .st n => n.den
def Ty.beq : Ty → Ty → Bool
  | .i k, .i k' => decide (k = k')
  | .dyn, .dyn => true
  | .err, .err => true
  | .bool, .bool => true
  | .str, .str => true
  | .sl t, .sl t' => Ty.beq t t'
  | .mp a b, .mp a' b' => Ty.beq a a' && Ty.beq b b'
  | .st n, .st n' => decide (n = n')
  | _, _ => false
theorem Ty.eq_of_beq : ∀ {a b : Ty}, Ty.beq a b = true → a = b
  | .i k, .i k', h => by rw [of_decide_eq_true h]
  | .dyn, .dyn, _ => rfl
  | .err, .err, _ => rfl
  | .i _, .dyn, h => by cases h
  | .i _, .err, h => by cases h
  | .bool, .dyn, h => by cases h
  | .bool, .err, h => by cases h
  | .str, .dyn, h => by cases h
  | .str, .err, h => by cases h
  | .sl _, .dyn, h => by cases h
  | .sl _, .err, h => by cases h
  | .mp _ _, .dyn, h => by cases h
  | .mp _ _, .err, h => by cases h
  | .st _, .dyn, h => by cases h
  | .st _, .err, h => by cases h
  | .dyn, .i _, h => by cases h
  | .dyn, .bool, h => by cases h
  | .dyn, .str, h => by cases h
  | .dyn, .sl _, h => by cases h
  | .dyn, .mp _ _, h => by cases h
  | .dyn, .st _, h => by cases h
  | .dyn, .err, h => by cases h
  | .err, .i _, h => by cases h
  | .err, .bool, h => by cases h
  | .err, .str, h => by cases h
  | .err, .sl _, h => by cases h
  | .err, .mp _ _, h => by cases h
  | .err, .st _, h => by cases h
  | .err, .dyn, h => by cases h
  | .bool, .bool, _ => rfl
  | .str, .str, _ => rfl
  | .sl t, .sl t', h => by rw [Ty.eq_of_beq (a := t) (b := t') h]
  | .mp a b, .mp a' b', h => by
    rw [Ty.beq, Bool.and_eq_true] at h
    rw [Ty.eq_of_beq (a := a) (b := a') h.1, Ty.eq_of_beq (a := b) (b := b') h.2]
  | .st n, .st n', h => by rw [of_decide_eq_true h]
  | .i _, .bool, h => by cases h
  | .i _, .str, h => by cases h
  | .i _, .sl _, h => by cases h
  | .i _, .st _, h => by cases h
  | .bool, .i _, h => by cases h
  | .bool, .str, h => by cases h
  | .bool, .sl _, h => by cases h
  | .bool, .st _, h => by cases h
  | .str, .i _, h => by cases h
  | .str, .bool, h => by cases h
  | .str, .sl _, h => by cases h
  | .str, .st _, h => by cases h
  | .sl _, .i _, h => by cases h
  | .sl _, .bool, h => by cases h
  | .sl _, .str, h => by cases h
  | .sl _, .st _, h => by cases h
  | .st _, .i _, h => by cases h
  | .st _, .bool, h => by cases h
  | .st _, .str, h => by cases h
  | .st _, .sl _, h => by cases h
  | .mp _ _, .i _, h => by cases h
  | .i _, .mp _ _, h => by cases h
  | .mp _ _, .bool, h => by cases h
  | .bool, .mp _ _, h => by cases h
  | .mp _ _, .str, h => by cases h
  | .str, .mp _ _, h => by cases h
  | .mp _ _, .sl _, h => by cases h
  | .sl _, .mp _ _, h => by cases h
  | .mp _ _, .st _, h => by cases h
  | .st _, .mp _ _, h => by cases h
theorem Ty.beq_self : ∀ (a : Ty), Ty.beq a a = true
  | .i k => decide_eq_true rfl
  | .dyn => rfl
  | .err => rfl
  | .bool => rfl
  | .str => rfl
  | .sl t => Ty.beq_self t
  | .mp a b => by rw [Ty.beq, Ty.beq_self a, Ty.beq_self b]; rfl
  | .st n => decide_eq_true rfl
def Ty.deq (a b : Ty) : Decidable (a = b) :=
  match h : Ty.beq a b with
  | true => isTrue (Ty.eq_of_beq h)
  | false => isFalse fun e => by rw [e, Ty.beq_self] at h; cases h
@[reducible] def LDen : List Ty → Type
  | [] => Unit
  | t :: l => t.den × LDen l
def SName.leaves : SName → List Ty
  | .Trust => [(Ty.i .i64), (Ty.sl (Ty.i .i64)), (Ty.sl (Ty.st .Trust))]
  | .Nomination => [(Ty.i .i64), (Ty.i .i64), (Ty.i .i64), (Ty.sl (Ty.i .i64)), (Ty.sl (Ty.st .Trust)), (Ty.sl Ty.str), (Ty.sl Ty.str)]
  | .Ballot => [(Ty.i .i64), Ty.str]
  | .Envelope => [(Ty.i .i64), (Ty.i .i64), (Ty.i .i64), (Ty.i .i64), (Ty.sl (Ty.i .i64)), (Ty.sl (Ty.st .Trust)), (Ty.i .i64), (Ty.i .i64), Ty.str, (Ty.i .i64), Ty.str, (Ty.i .i64), Ty.str, (Ty.i .i64), (Ty.i .i64)]
  | .Letter => [(Ty.i .i64), (Ty.i .i64), (Ty.i .i64), (Ty.i .i64), (Ty.i .i64), (Ty.sl (Ty.i .i64)), (Ty.sl (Ty.st .Trust)), (Ty.sl Ty.str), (Ty.sl Ty.str), (Ty.i .i64), (Ty.i .i64), (Ty.i .i64), (Ty.i .i64), (Ty.sl (Ty.i .i64)), (Ty.sl (Ty.st .Trust)), (Ty.i .i64), (Ty.i .i64), Ty.str, (Ty.i .i64), Ty.str, (Ty.i .i64), Ty.str, (Ty.i .i64), (Ty.i .i64)]
  | .Step => [(Ty.i .i64), (Ty.i .i64), (Ty.i .i64), (Ty.i .i64), (Ty.i .i64), Ty.str, (Ty.i .i64), (Ty.sl (Ty.i .i64)), (Ty.sl (Ty.st .Trust)), (Ty.i .i64), (Ty.i .i64), (Ty.i .i64), (Ty.i .i64), (Ty.i .i64), (Ty.sl (Ty.i .i64)), (Ty.sl (Ty.st .Trust)), (Ty.sl Ty.str), (Ty.sl Ty.str), (Ty.i .i64), (Ty.i .i64), (Ty.i .i64), (Ty.i .i64), (Ty.sl (Ty.i .i64)), (Ty.sl (Ty.st .Trust)), (Ty.i .i64), (Ty.i .i64), Ty.str, (Ty.i .i64), Ty.str, (Ty.i .i64), Ty.str, (Ty.i .i64), (Ty.i .i64), (Ty.sl (Ty.i .i64))]
  | .Member => [Ty.bool, (Ty.i .i64), (Ty.sl (Ty.i .i64)), (Ty.sl (Ty.st .Trust))]
  | .Config => [(Ty.sl (Ty.st .Member))]
  | .Nominator => [(Ty.i .i64), (Ty.i .i64), (Ty.i .i64), (Ty.i .i64), (Ty.i .i64), (Ty.sl (Ty.i .i64)), (Ty.sl (Ty.st .Trust)), Ty.str, (Ty.sl Ty.str), (Ty.sl Ty.str), (Ty.sl Ty.str), (Ty.sl (Ty.st .Nomination))]
  | .Machine => [(Ty.i .i64), (Ty.i .i64), (Ty.i .i64), (Ty.i .i64), (Ty.sl (Ty.i .i64)), (Ty.sl (Ty.st .Trust)), (Ty.i .i64), (Ty.i .i64), Ty.str, (Ty.i .i64), Ty.str, (Ty.i .i64), Ty.str, (Ty.i .i64), Ty.str, (Ty.i .i64), (Ty.i .i64), Ty.str, (Ty.sl (Ty.st .Envelope))]
  | .Timer => [(Ty.i .i64), (Ty.i .i64)]
  | .Slot => [(Ty.i .i64), (Ty.i .i64), (Ty.i .i64), (Ty.i .i64), (Ty.i .i64), (Ty.sl (Ty.i .i64)), (Ty.sl (Ty.st .Trust)), Ty.str, (Ty.sl Ty.str), (Ty.sl Ty.str), (Ty.sl Ty.str), (Ty.sl (Ty.st .Nomination)), (Ty.i .i64), (Ty.i .i64), (Ty.i .i64), (Ty.i .i64), (Ty.sl (Ty.i .i64)), (Ty.sl (Ty.st .Trust)), (Ty.i .i64), (Ty.i .i64), Ty.str, (Ty.i .i64), Ty.str, (Ty.i .i64), Ty.str, (Ty.i .i64), Ty.str, (Ty.i .i64), (Ty.i .i64), Ty.str, (Ty.sl (Ty.st .Envelope)), (Ty.i .i64), (Ty.i .i64), (Ty.i .i64), (Ty.i .i64), Ty.bool, Ty.str]
  | .Participant => [(Ty.i .i64), Ty.bool, (Ty.i .i64), (Ty.sl (Ty.i .i64)), (Ty.sl (Ty.st .Trust)), (Ty.sl (Ty.st .Slot))]
  | .Parcel => [(Ty.i .i64), (Ty.i .i64), (Ty.i .i64), (Ty.i .i64), (Ty.i .i64), (Ty.i .i64), (Ty.i .i64), (Ty.i .i64), (Ty.i .i64), (Ty.sl (Ty.i .i64)), (Ty.sl (Ty.st .Trust)), (Ty.sl Ty.str), (Ty.sl Ty.str), (Ty.i .i64), (Ty.i .i64), (Ty.i .i64), (Ty.i .i64), (Ty.sl (Ty.i .i64)), (Ty.sl (Ty.st .Trust)), (Ty.i .i64), (Ty.i .i64), Ty.str, (Ty.i .i64), Ty.str, (Ty.i .i64), Ty.str, (Ty.i .i64), (Ty.i .i64)]
  | .Network => [(Ty.sl (Ty.st .Parcel)), (Ty.i .i64), (Ty.sl (Ty.i .i64)), (Ty.sl (Ty.i .i64))]
  | .World => [(Ty.i .i64), (Ty.sl (Ty.st .Participant)), (Ty.i .i64), (Ty.sl (Ty.st .Parcel)), (Ty.i .i64), (Ty.sl (Ty.i .i64)), (Ty.sl (Ty.i .i64)), (Ty.sl (Ty.sl (Ty.st .Trust)))]
  | .Src => [(Ty.sl (Ty.i .i64)), (Ty.i .i64)]
  | .LaboratoryReader => [(Ty.sl Ty.str), Ty.bool]
  | .NotationReader => [Ty.str, Ty.str, (Ty.i .i64)]
  | .Claim => [(Ty.i .i64), (Ty.i .i64)]
  | .Message => [(Ty.i .i64), (Ty.i .i64), (Ty.i .i64), (Ty.sl (Ty.i .i64)), (Ty.sl (Ty.st .Trust)), (Ty.sl (Ty.st .Claim)), (Ty.sl (Ty.st .Claim))]
  | .Arr2Ballot => [(Ty.i .i64), Ty.str, (Ty.i .i64), Ty.str]
  | .Arr2I64 => [(Ty.i .i64), (Ty.i .i64)]
  | .Frac => [(Ty.i .i64), (Ty.i .i64)]
def SName.toL : (n : SName) → n.den → LDen n.leaves
  | .Trust, (v : TTrust) => (v.Threshold, v.Nodes, v.Inner, ())
  | .Nomination, (v : TNomination) => (v.Node, v.Seq, v.Trust.Threshold, v.Trust.Nodes, v.Trust.Inner, v.Votes, v.Accepts, ())
  | .Ballot, (v : TBallot) => (v.Counter, v.Value, ())
  | .Envelope, (v : TEnvelope) => (v.Node, v.Slot, v.Seq, v.Trust.Threshold, v.Trust.Nodes, v.Trust.Inner, v.Kind, v.Ballot.Counter, v.Ballot.Value, v.Prepared.Counter, v.Prepared.Value, v.Prime.Counter, v.Prime.Value, v.Low, v.High, ())
  | .Letter, (v : TLetter) => (v.Kind, v.Slot, v.Nomination.Node, v.Nomination.Seq, v.Nomination.Trust.Threshold, v.Nomination.Trust.Nodes, v.Nomination.Trust.Inner, v.Nomination.Votes, v.Nomination.Accepts, v.Envelope.Node, v.Envelope.Slot, v.Envelope.Seq, v.Envelope.Trust.Threshold, v.Envelope.Trust.Nodes, v.Envelope.Trust.Inner, v.Envelope.Kind, v.Envelope.Ballot.Counter, v.Envelope.Ballot.Value, v.Envelope.Prepared.Counter, v.Envelope.Prepared.Value, v.Envelope.Prime.Counter, v.Envelope.Prime.Value, v.Envelope.Low, v.Envelope.High, ())
  | .Step, (v : TStep) => (v.Kind, v.Node, v.To, v.Slot, v.Count, v.Value, v.Trust.Threshold, v.Trust.Nodes, v.Trust.Inner, v.Letter.Kind, v.Letter.Slot, v.Letter.Nomination.Node, v.Letter.Nomination.Seq, v.Letter.Nomination.Trust.Threshold, v.Letter.Nomination.Trust.Nodes, v.Letter.Nomination.Trust.Inner, v.Letter.Nomination.Votes, v.Letter.Nomination.Accepts, v.Letter.Envelope.Node, v.Letter.Envelope.Slot, v.Letter.Envelope.Seq, v.Letter.Envelope.Trust.Threshold, v.Letter.Envelope.Trust.Nodes, v.Letter.Envelope.Trust.Inner, v.Letter.Envelope.Kind, v.Letter.Envelope.Ballot.Counter, v.Letter.Envelope.Ballot.Value, v.Letter.Envelope.Prepared.Counter, v.Letter.Envelope.Prepared.Value, v.Letter.Envelope.Prime.Counter, v.Letter.Envelope.Prime.Value, v.Letter.Envelope.Low, v.Letter.Envelope.High, v.Parts, ())
  | .Member, (v : TMember) => (v.Declared, v.Trust.Threshold, v.Trust.Nodes, v.Trust.Inner, ())
  | .Config, (v : TConfig) => (v.Members, ())
  | .Nominator, (v : TNominator) => (v.Node, v.Slot, v.Round, v.Seq, v.Trust.Threshold, v.Trust.Nodes, v.Trust.Inner, v.Own, v.Votes, v.Accepts, v.Candidates, v.Heard, ())
  | .Machine, (v : TMachine) => (v.Node, v.Slot, v.Seq, v.Trust.Threshold, v.Trust.Nodes, v.Trust.Inner, v.Phase, v.Ballot.Counter, v.Ballot.Value, v.Prepared.Counter, v.Prepared.Value, v.Prime.Counter, v.Prime.Value, v.Confirmed.Counter, v.Confirmed.Value, v.Low, v.High, v.Proposed, v.Heard, ())
  | .Timer, (v : TTimer) => (v.Counter, v.Due, ())
  | .Slot, (v : TSlot) => (v.Nominator.Node, v.Nominator.Slot, v.Nominator.Round, v.Nominator.Seq, v.Nominator.Trust.Threshold, v.Nominator.Trust.Nodes, v.Nominator.Trust.Inner, v.Nominator.Own, v.Nominator.Votes, v.Nominator.Accepts, v.Nominator.Candidates, v.Nominator.Heard, v.Machine.Node, v.Machine.Slot, v.Machine.Seq, v.Machine.Trust.Threshold, v.Machine.Trust.Nodes, v.Machine.Trust.Inner, v.Machine.Phase, v.Machine.Ballot.Counter, v.Machine.Ballot.Value, v.Machine.Prepared.Counter, v.Machine.Prepared.Value, v.Machine.Prime.Counter, v.Machine.Prime.Value, v.Machine.Confirmed.Counter, v.Machine.Confirmed.Value, v.Machine.Low, v.Machine.High, v.Machine.Proposed, v.Machine.Heard, v.Timer.Counter, v.Timer.Due, v.Round, v.Next, v.Done, v.Value, ())
  | .Participant, (v : TParticipant) => (v.Node, v.Stopped, v.Trust.Threshold, v.Trust.Nodes, v.Trust.Inner, v.Slots, ())
  | .Parcel, (v : TParcel) => (v.Due, v.From, v.To, v.Number, v.Letter.Kind, v.Letter.Slot, v.Letter.Nomination.Node, v.Letter.Nomination.Seq, v.Letter.Nomination.Trust.Threshold, v.Letter.Nomination.Trust.Nodes, v.Letter.Nomination.Trust.Inner, v.Letter.Nomination.Votes, v.Letter.Nomination.Accepts, v.Letter.Envelope.Node, v.Letter.Envelope.Slot, v.Letter.Envelope.Seq, v.Letter.Envelope.Trust.Threshold, v.Letter.Envelope.Trust.Nodes, v.Letter.Envelope.Trust.Inner, v.Letter.Envelope.Kind, v.Letter.Envelope.Ballot.Counter, v.Letter.Envelope.Ballot.Value, v.Letter.Envelope.Prepared.Counter, v.Letter.Envelope.Prepared.Value, v.Letter.Envelope.Prime.Counter, v.Letter.Envelope.Prime.Value, v.Letter.Envelope.Low, v.Letter.Envelope.High, ())
  | .Network, (v : TNetwork) => (v.Parcels, v.Next, v.Parts, v.Delays, ())
  | .World, (v : TWorld) => (v.Time, v.Nodes, v.Ill, v.Net.Parcels, v.Net.Next, v.Net.Parts, v.Net.Delays, v.Trusts, ())
  | .Src, (v : TSrc) => (v.L, v.At, ())
  | .LaboratoryReader, (v : TLaboratoryReader) => (v.l, v.bad, ())
  | .NotationReader, (v : TNotationReader) => (v.text, v.token, v.at_, ())
  | .Claim, (v : TClaim) => (v.Topic, v.Value, ())
  | .Message, (v : TMessage) => (v.Node, v.Seq, v.Trust.Threshold, v.Trust.Nodes, v.Trust.Inner, v.Votes, v.Accepts, ())
  | .Arr2Ballot, (v : TArr2Ballot) => (v.c0.Counter, v.c0.Value, v.c1.Counter, v.c1.Value, ())
  | .Arr2I64, (v : TArr2I64) => (v.c0, v.c1, ())
  | .Frac, (v : TFrac) => (v.Num, v.Den, ())
def SName.ofL : (n : SName) → LDen n.leaves → n.den
  | .Trust, v => (TTrust.mk v.1 v.2.1 v.2.2.1)
  | .Nomination, v => (TNomination.mk v.1 v.2.1 (TTrust.mk v.2.2.1 v.2.2.2.1 v.2.2.2.2.1) v.2.2.2.2.2.1 v.2.2.2.2.2.2.1)
  | .Ballot, v => (TBallot.mk v.1 v.2.1)
  | .Envelope, v => (TEnvelope.mk v.1 v.2.1 v.2.2.1 (TTrust.mk v.2.2.2.1 v.2.2.2.2.1 v.2.2.2.2.2.1) v.2.2.2.2.2.2.1 (TBallot.mk v.2.2.2.2.2.2.2.1 v.2.2.2.2.2.2.2.2.1) (TBallot.mk v.2.2.2.2.2.2.2.2.2.1 v.2.2.2.2.2.2.2.2.2.2.1) (TBallot.mk v.2.2.2.2.2.2.2.2.2.2.2.1 v.2.2.2.2.2.2.2.2.2.2.2.2.1) v.2.2.2.2.2.2.2.2.2.2.2.2.2.1 v.2.2.2.2.2.2.2.2.2.2.2.2.2.2.1)
  | .Letter, v => (TLetter.mk v.1 v.2.1 (TNomination.mk v.2.2.1 v.2.2.2.1 (TTrust.mk v.2.2.2.2.1 v.2.2.2.2.2.1 v.2.2.2.2.2.2.1) v.2.2.2.2.2.2.2.1 v.2.2.2.2.2.2.2.2.1) (TEnvelope.mk v.2.2.2.2.2.2.2.2.2.1 v.2.2.2.2.2.2.2.2.2.2.1 v.2.2.2.2.2.2.2.2.2.2.2.1 (TTrust.mk v.2.2.2.2.2.2.2.2.2.2.2.2.1 v.2.2.2.2.2.2.2.2.2.2.2.2.2.1 v.2.2.2.2.2.2.2.2.2.2.2.2.2.2.1) v.2.2.2.2.2.2.2.2.2.2.2.2.2.2.2.1 (TBallot.mk v.2.2.2.2.2.2.2.2.2.2.2.2.2.2.2.2.1 v.2.2.2.2.2.2.2.2.2.2.2.2.2.2.2.2.2.1) (TBallot.mk v.2.2.2.2.2.2.2.2.2.2.2.2.2.2.2.2.2.2.1 v.2.2.2.2.2.2.2.2.2.2.2.2.2.2.2.2.2.2.2.1) (TBallot.mk v.2.2.2.2.2.2.2.2.2.2.2.2.2.2.2.2.2.2.2.2.1 v.2.2.2.2.2.2.2.2.2.2.2.2.2.2.2.2.2.2.2.2.2.1) v.2.2.2.2.2.2.2.2.2.2.2.2.2.2.2.2.2.2.2.2.2.2.1 v.2.2.2.2.2.2.2.2.2.2.2.2.2.2.2.2.2.2.2.2.2.2.2.1))
  | .Step, v => (TStep.mk v.1 v.2.1 v.2.2.1 v.2.2.2.1 v.2.2.2.2.1 v.2.2.2.2.2.1 (TTrust.mk v.2.2.2.2.2.2.1 v.2.2.2.2.2.2.2.1 v.2.2.2.2.2.2.2.2.1) (TLetter.mk v.2.2.2.2.2.2.2.2.2.1 v.2.2.2.2.2.2.2.2.2.2.1 (TNomination.mk v.2.2.2.2.2.2.2.2.2.2.2.1 v.2.2.2.2.2.2.2.2.2.2.2.2.1 (TTrust.mk v.2.2.2.2.2.2.2.2.2.2.2.2.2.1 v.2.2.2.2.2.2.2.2.2.2.2.2.2.2.1 v.2.2.2.2.2.2.2.2.2.2.2.2.2.2.2.1) v.2.2.2.2.2.2.2.2.2.2.2.2.2.2.2.2.1 v.2.2.2.2.2.2.2.2.2.2.2.2.2.2.2.2.2.1) (TEnvelope.mk v.2.2.2.2.2.2.2.2.2.2.2.2.2.2.2.2.2.2.1 v.2.2.2.2.2.2.2.2.2.2.2.2.2.2.2.2.2.2.2.1 v.2.2.2.2.2.2.2.2.2.2.2.2.2.2.2.2.2.2.2.2.1 (TTrust.mk v.2.2.2.2.2.2.2.2.2.2.2.2.2.2.2.2.2.2.2.2.2.1 v.2.2.2.2.2.2.2.2.2.2.2.2.2.2.2.2.2.2.2.2.2.2.1 v.2.2.2.2.2.2.2.2.2.2.2.2.2.2.2.2.2.2.2.2.2.2.2.1) v.2.2.2.2.2.2.2.2.2.2.2.2.2.2.2.2.2.2.2.2.2.2.2.2.1 (TBallot.mk v.2.2.2.2.2.2.2.2.2.2.2.2.2.2.2.2.2.2.2.2.2.2.2.2.2.1 v.2.2.2.2.2.2.2.2.2.2.2.2.2.2.2.2.2.2.2.2.2.2.2.2.2.2.1) (TBallot.mk v.2.2.2.2.2.2.2.2.2.2.2.2.2.2.2.2.2.2.2.2.2.2.2.2.2.2.2.1 v.2.2.2.2.2.2.2.2.2.2.2.2.2.2.2.2.2.2.2.2.2.2.2.2.2.2.2.2.1) (TBallot.mk v.2.2.2.2.2.2.2.2.2.2.2.2.2.2.2.2.2.2.2.2.2.2.2.2.2.2.2.2.2.1 v.2.2.2.2.2.2.2.2.2.2.2.2.2.2.2.2.2.2.2.2.2.2.2.2.2.2.2.2.2.2.1) v.2.2.2.2.2.2.2.2.2.2.2.2.2.2.2.2.2.2.2.2.2.2.2.2.2.2.2.2.2.2.2.1 v.2.2.2.2.2.2.2.2.2.2.2.2.2.2.2.2.2.2.2.2.2.2.2.2.2.2.2.2.2.2.2.2.1)) v.2.2.2.2.2.2.2.2.2.2.2.2.2.2.2.2.2.2.2.2.2.2.2.2.2.2.2.2.2.2.2.2.2.1)
  | .Member, v => (TMember.mk v.1 (TTrust.mk v.2.1 v.2.2.1 v.2.2.2.1))
  | .Config, v => (TConfig.mk v.1)
  | .Nominator, v => (TNominator.mk v.1 v.2.1 v.2.2.1 v.2.2.2.1 (TTrust.mk v.2.2.2.2.1 v.2.2.2.2.2.1 v.2.2.2.2.2.2.1) v.2.2.2.2.2.2.2.1 v.2.2.2.2.2.2.2.2.1 v.2.2.2.2.2.2.2.2.2.1 v.2.2.2.2.2.2.2.2.2.2.1 v.2.2.2.2.2.2.2.2.2.2.2.1)
  | .Machine, v => (TMachine.mk v.1 v.2.1 v.2.2.1 (TTrust.mk v.2.2.2.1 v.2.2.2.2.1 v.2.2.2.2.2.1) v.2.2.2.2.2.2.1 (TBallot.mk v.2.2.2.2.2.2.2.1 v.2.2.2.2.2.2.2.2.1) (TBallot.mk v.2.2.2.2.2.2.2.2.2.1 v.2.2.2.2.2.2.2.2.2.2.1) (TBallot.mk v.2.2.2.2.2.2.2.2.2.2.2.1 v.2.2.2.2.2.2.2.2.2.2.2.2.1) (TBallot.mk v.2.2.2.2.2.2.2.2.2.2.2.2.2.1 v.2.2.2.2.2.2.2.2.2.2.2.2.2.2.1) v.2.2.2.2.2.2.2.2.2.2.2.2.2.2.2.1 v.2.2.2.2.2.2.2.2.2.2.2.2.2.2.2.2.1 v.2.2.2.2.2.2.2.2.2.2.2.2.2.2.2.2.2.1 v.2.2.2.2.2.2.2.2.2.2.2.2.2.2.2.2.2.2.1)
  | .Timer, v => (TTimer.mk v.1 v.2.1)
  | .Slot, v => (TSlot.mk (TNominator.mk v.1 v.2.1 v.2.2.1 v.2.2.2.1 (TTrust.mk v.2.2.2.2.1 v.2.2.2.2.2.1 v.2.2.2.2.2.2.1) v.2.2.2.2.2.2.2.1 v.2.2.2.2.2.2.2.2.1 v.2.2.2.2.2.2.2.2.2.1 v.2.2.2.2.2.2.2.2.2.2.1 v.2.2.2.2.2.2.2.2.2.2.2.1) (TMachine.mk v.2.2.2.2.2.2.2.2.2.2.2.2.1 v.2.2.2.2.2.2.2.2.2.2.2.2.2.1 v.2.2.2.2.2.2.2.2.2.2.2.2.2.2.1 (TTrust.mk v.2.2.2.2.2.2.2.2.2.2.2.2.2.2.2.1 v.2.2.2.2.2.2.2.2.2.2.2.2.2.2.2.2.1 v.2.2.2.2.2.2.2.2.2.2.2.2.2.2.2.2.2.1) v.2.2.2.2.2.2.2.2.2.2.2.2.2.2.2.2.2.2.1 (TBallot.mk v.2.2.2.2.2.2.2.2.2.2.2.2.2.2.2.2.2.2.2.1 v.2.2.2.2.2.2.2.2.2.2.2.2.2.2.2.2.2.2.2.2.1) (TBallot.mk v.2.2.2.2.2.2.2.2.2.2.2.2.2.2.2.2.2.2.2.2.2.1 v.2.2.2.2.2.2.2.2.2.2.2.2.2.2.2.2.2.2.2.2.2.2.1) (TBallot.mk v.2.2.2.2.2.2.2.2.2.2.2.2.2.2.2.2.2.2.2.2.2.2.2.1 v.2.2.2.2.2.2.2.2.2.2.2.2.2.2.2.2.2.2.2.2.2.2.2.2.1) (TBallot.mk v.2.2.2.2.2.2.2.2.2.2.2.2.2.2.2.2.2.2.2.2.2.2.2.2.2.1 v.2.2.2.2.2.2.2.2.2.2.2.2.2.2.2.2.2.2.2.2.2.2.2.2.2.2.1) v.2.2.2.2.2.2.2.2.2.2.2.2.2.2.2.2.2.2.2.2.2.2.2.2.2.2.2.1 v.2.2.2.2.2.2.2.2.2.2.2.2.2.2.2.2.2.2.2.2.2.2.2.2.2.2.2.2.1 v.2.2.2.2.2.2.2.2.2.2.2.2.2.2.2.2.2.2.2.2.2.2.2.2.2.2.2.2.2.1 v.2.2.2.2.2.2.2.2.2.2.2.2.2.2.2.2.2.2.2.2.2.2.2.2.2.2.2.2.2.2.1) (TTimer.mk v.2.2.2.2.2.2.2.2.2.2.2.2.2.2.2.2.2.2.2.2.2.2.2.2.2.2.2.2.2.2.2.1 v.2.2.2.2.2.2.2.2.2.2.2.2.2.2.2.2.2.2.2.2.2.2.2.2.2.2.2.2.2.2.2.2.1) v.2.2.2.2.2.2.2.2.2.2.2.2.2.2.2.2.2.2.2.2.2.2.2.2.2.2.2.2.2.2.2.2.2.1 v.2.2.2.2.2.2.2.2.2.2.2.2.2.2.2.2.2.2.2.2.2.2.2.2.2.2.2.2.2.2.2.2.2.2.1 v.2.2.2.2.2.2.2.2.2.2.2.2.2.2.2.2.2.2.2.2.2.2.2.2.2.2.2.2.2.2.2.2.2.2.2.1 v.2.2.2.2.2.2.2.2.2.2.2.2.2.2.2.2.2.2.2.2.2.2.2.2.2.2.2.2.2.2.2.2.2.2.2.2.1)
  | .Participant, v => (TParticipant.mk v.1 v.2.1 (TTrust.mk v.2.2.1 v.2.2.2.1 v.2.2.2.2.1) v.2.2.2.2.2.1)
  | .Parcel, v => (TParcel.mk v.1 v.2.1 v.2.2.1 v.2.2.2.1 (TLetter.mk v.2.2.2.2.1 v.2.2.2.2.2.1 (TNomination.mk v.2.2.2.2.2.2.1 v.2.2.2.2.2.2.2.1 (TTrust.mk v.2.2.2.2.2.2.2.2.1 v.2.2.2.2.2.2.2.2.2.1 v.2.2.2.2.2.2.2.2.2.2.1) v.2.2.2.2.2.2.2.2.2.2.2.1 v.2.2.2.2.2.2.2.2.2.2.2.2.1) (TEnvelope.mk v.2.2.2.2.2.2.2.2.2.2.2.2.2.1 v.2.2.2.2.2.2.2.2.2.2.2.2.2.2.1 v.2.2.2.2.2.2.2.2.2.2.2.2.2.2.2.1 (TTrust.mk v.2.2.2.2.2.2.2.2.2.2.2.2.2.2.2.2.1 v.2.2.2.2.2.2.2.2.2.2.2.2.2.2.2.2.2.1 v.2.2.2.2.2.2.2.2.2.2.2.2.2.2.2.2.2.2.1) v.2.2.2.2.2.2.2.2.2.2.2.2.2.2.2.2.2.2.2.1 (TBallot.mk v.2.2.2.2.2.2.2.2.2.2.2.2.2.2.2.2.2.2.2.2.1 v.2.2.2.2.2.2.2.2.2.2.2.2.2.2.2.2.2.2.2.2.2.1) (TBallot.mk v.2.2.2.2.2.2.2.2.2.2.2.2.2.2.2.2.2.2.2.2.2.2.1 v.2.2.2.2.2.2.2.2.2.2.2.2.2.2.2.2.2.2.2.2.2.2.2.1) (TBallot.mk v.2.2.2.2.2.2.2.2.2.2.2.2.2.2.2.2.2.2.2.2.2.2.2.2.1 v.2.2.2.2.2.2.2.2.2.2.2.2.2.2.2.2.2.2.2.2.2.2.2.2.2.1) v.2.2.2.2.2.2.2.2.2.2.2.2.2.2.2.2.2.2.2.2.2.2.2.2.2.2.1 v.2.2.2.2.2.2.2.2.2.2.2.2.2.2.2.2.2.2.2.2.2.2.2.2.2.2.2.1)))
  | .Network, v => (TNetwork.mk v.1 v.2.1 v.2.2.1 v.2.2.2.1)
  | .World, v => (TWorld.mk v.1 v.2.1 v.2.2.1 (TNetwork.mk v.2.2.2.1 v.2.2.2.2.1 v.2.2.2.2.2.1 v.2.2.2.2.2.2.1) v.2.2.2.2.2.2.2.1)
  | .Src, v => (TSrc.mk v.1 v.2.1)
  | .LaboratoryReader, v => (TLaboratoryReader.mk v.1 v.2.1)
  | .NotationReader, v => (TNotationReader.mk v.1 v.2.1 v.2.2.1)
  | .Claim, v => (TClaim.mk v.1 v.2.1)
  | .Message, v => (TMessage.mk v.1 v.2.1 (TTrust.mk v.2.2.1 v.2.2.2.1 v.2.2.2.2.1) v.2.2.2.2.2.1 v.2.2.2.2.2.2.1)
  | .Arr2Ballot, v => (TArr2Ballot.mk (TBallot.mk v.1 v.2.1) (TBallot.mk v.2.2.1 v.2.2.2.1))
  | .Arr2I64, v => (TArr2I64.mk v.1 v.2.1)
  | .Frac, v => (TFrac.mk v.1 v.2.1)
mutual
def pv_TTrust : TTrust → List PV
  | ⟨a0, a1, a2⟩ => [.int .i64 a0, .sl (a1.map (fun x => [.int .i64 x])), .sl (pvs_TTrust a2)]
def pvs_TTrust : List TTrust → List (List PV)
  | [] => []
  | x :: l => pv_TTrust x :: pvs_TTrust l
end
theorem pvs_TTrust_map : ∀ (l : List TTrust), pvs_TTrust l = l.map pv_TTrust
  | [] => by rw [pvs_TTrust]; rfl
  | x :: l => by rw [pvs_TTrust, pvs_TTrust_map l]; rfl
def pv_TNomination (v : TNomination) : List PV := [.int .i64 v.Node, .int .i64 v.Seq, .int .i64 v.Trust.Threshold, .sl (v.Trust.Nodes.map (fun x => [.int .i64 x])), .sl (v.Trust.Inner.map pv_TTrust), .sl (v.Votes.map (fun x => [.str x])), .sl (v.Accepts.map (fun x => [.str x]))]
def pv_TBallot (v : TBallot) : List PV := [.int .i64 v.Counter, .str v.Value]
def pv_TEnvelope (v : TEnvelope) : List PV := [.int .i64 v.Node, .int .i64 v.Slot, .int .i64 v.Seq, .int .i64 v.Trust.Threshold, .sl (v.Trust.Nodes.map (fun x => [.int .i64 x])), .sl (v.Trust.Inner.map pv_TTrust), .int .i64 v.Kind, .int .i64 v.Ballot.Counter, .str v.Ballot.Value, .int .i64 v.Prepared.Counter, .str v.Prepared.Value, .int .i64 v.Prime.Counter, .str v.Prime.Value, .int .i64 v.Low, .int .i64 v.High]
def pv_TLetter (v : TLetter) : List PV := [.int .i64 v.Kind, .int .i64 v.Slot, .int .i64 v.Nomination.Node, .int .i64 v.Nomination.Seq, .int .i64 v.Nomination.Trust.Threshold, .sl (v.Nomination.Trust.Nodes.map (fun x => [.int .i64 x])), .sl (v.Nomination.Trust.Inner.map pv_TTrust), .sl (v.Nomination.Votes.map (fun x => [.str x])), .sl (v.Nomination.Accepts.map (fun x => [.str x])), .int .i64 v.Envelope.Node, .int .i64 v.Envelope.Slot, .int .i64 v.Envelope.Seq, .int .i64 v.Envelope.Trust.Threshold, .sl (v.Envelope.Trust.Nodes.map (fun x => [.int .i64 x])), .sl (v.Envelope.Trust.Inner.map pv_TTrust), .int .i64 v.Envelope.Kind, .int .i64 v.Envelope.Ballot.Counter, .str v.Envelope.Ballot.Value, .int .i64 v.Envelope.Prepared.Counter, .str v.Envelope.Prepared.Value, .int .i64 v.Envelope.Prime.Counter, .str v.Envelope.Prime.Value, .int .i64 v.Envelope.Low, .int .i64 v.Envelope.High]
def pv_TStep (v : TStep) : List PV := [.int .i64 v.Kind, .int .i64 v.Node, .int .i64 v.To, .int .i64 v.Slot, .int .i64 v.Count, .str v.Value, .int .i64 v.Trust.Threshold, .sl (v.Trust.Nodes.map (fun x => [.int .i64 x])), .sl (v.Trust.Inner.map pv_TTrust), .int .i64 v.Letter.Kind, .int .i64 v.Letter.Slot, .int .i64 v.Letter.Nomination.Node, .int .i64 v.Letter.Nomination.Seq, .int .i64 v.Letter.Nomination.Trust.Threshold, .sl (v.Letter.Nomination.Trust.Nodes.map (fun x => [.int .i64 x])), .sl (v.Letter.Nomination.Trust.Inner.map pv_TTrust), .sl (v.Letter.Nomination.Votes.map (fun x => [.str x])), .sl (v.Letter.Nomination.Accepts.map (fun x => [.str x])), .int .i64 v.Letter.Envelope.Node, .int .i64 v.Letter.Envelope.Slot, .int .i64 v.Letter.Envelope.Seq, .int .i64 v.Letter.Envelope.Trust.Threshold, .sl (v.Letter.Envelope.Trust.Nodes.map (fun x => [.int .i64 x])), .sl (v.Letter.Envelope.Trust.Inner.map pv_TTrust), .int .i64 v.Letter.Envelope.Kind, .int .i64 v.Letter.Envelope.Ballot.Counter, .str v.Letter.Envelope.Ballot.Value, .int .i64 v.Letter.Envelope.Prepared.Counter, .str v.Letter.Envelope.Prepared.Value, .int .i64 v.Letter.Envelope.Prime.Counter, .str v.Letter.Envelope.Prime.Value, .int .i64 v.Letter.Envelope.Low, .int .i64 v.Letter.Envelope.High, .sl (v.Parts.map (fun x => [.int .i64 x]))]
def pv_TMember (v : TMember) : List PV := [.bool v.Declared, .int .i64 v.Trust.Threshold, .sl (v.Trust.Nodes.map (fun x => [.int .i64 x])), .sl (v.Trust.Inner.map pv_TTrust)]
def pv_TConfig (v : TConfig) : List PV := [.sl (v.Members.map pv_TMember)]
def pv_TNominator (v : TNominator) : List PV := [.int .i64 v.Node, .int .i64 v.Slot, .int .i64 v.Round, .int .i64 v.Seq, .int .i64 v.Trust.Threshold, .sl (v.Trust.Nodes.map (fun x => [.int .i64 x])), .sl (v.Trust.Inner.map pv_TTrust), .str v.Own, .sl (v.Votes.map (fun x => [.str x])), .sl (v.Accepts.map (fun x => [.str x])), .sl (v.Candidates.map (fun x => [.str x])), .sl (v.Heard.map pv_TNomination)]
def pv_TMachine (v : TMachine) : List PV := [.int .i64 v.Node, .int .i64 v.Slot, .int .i64 v.Seq, .int .i64 v.Trust.Threshold, .sl (v.Trust.Nodes.map (fun x => [.int .i64 x])), .sl (v.Trust.Inner.map pv_TTrust), .int .i64 v.Phase, .int .i64 v.Ballot.Counter, .str v.Ballot.Value, .int .i64 v.Prepared.Counter, .str v.Prepared.Value, .int .i64 v.Prime.Counter, .str v.Prime.Value, .int .i64 v.Confirmed.Counter, .str v.Confirmed.Value, .int .i64 v.Low, .int .i64 v.High, .str v.Proposed, .sl (v.Heard.map pv_TEnvelope)]
def pv_TTimer (v : TTimer) : List PV := [.int .i64 v.Counter, .int .i64 v.Due]
def pv_TSlot (v : TSlot) : List PV := [.int .i64 v.Nominator.Node, .int .i64 v.Nominator.Slot, .int .i64 v.Nominator.Round, .int .i64 v.Nominator.Seq, .int .i64 v.Nominator.Trust.Threshold, .sl (v.Nominator.Trust.Nodes.map (fun x => [.int .i64 x])), .sl (v.Nominator.Trust.Inner.map pv_TTrust), .str v.Nominator.Own, .sl (v.Nominator.Votes.map (fun x => [.str x])), .sl (v.Nominator.Accepts.map (fun x => [.str x])), .sl (v.Nominator.Candidates.map (fun x => [.str x])), .sl (v.Nominator.Heard.map pv_TNomination), .int .i64 v.Machine.Node, .int .i64 v.Machine.Slot, .int .i64 v.Machine.Seq, .int .i64 v.Machine.Trust.Threshold, .sl (v.Machine.Trust.Nodes.map (fun x => [.int .i64 x])), .sl (v.Machine.Trust.Inner.map pv_TTrust), .int .i64 v.Machine.Phase, .int .i64 v.Machine.Ballot.Counter, .str v.Machine.Ballot.Value, .int .i64 v.Machine.Prepared.Counter, .str v.Machine.Prepared.Value, .int .i64 v.Machine.Prime.Counter, .str v.Machine.Prime.Value, .int .i64 v.Machine.Confirmed.Counter, .str v.Machine.Confirmed.Value, .int .i64 v.Machine.Low, .int .i64 v.Machine.High, .str v.Machine.Proposed, .sl (v.Machine.Heard.map pv_TEnvelope), .int .i64 v.Timer.Counter, .int .i64 v.Timer.Due, .int .i64 v.Round, .int .i64 v.Next, .bool v.Done, .str v.Value]
def pv_TParticipant (v : TParticipant) : List PV := [.int .i64 v.Node, .bool v.Stopped, .int .i64 v.Trust.Threshold, .sl (v.Trust.Nodes.map (fun x => [.int .i64 x])), .sl (v.Trust.Inner.map pv_TTrust), .sl (v.Slots.map pv_TSlot)]
def pv_TParcel (v : TParcel) : List PV := [.int .i64 v.Due, .int .i64 v.From, .int .i64 v.To, .int .i64 v.Number, .int .i64 v.Letter.Kind, .int .i64 v.Letter.Slot, .int .i64 v.Letter.Nomination.Node, .int .i64 v.Letter.Nomination.Seq, .int .i64 v.Letter.Nomination.Trust.Threshold, .sl (v.Letter.Nomination.Trust.Nodes.map (fun x => [.int .i64 x])), .sl (v.Letter.Nomination.Trust.Inner.map pv_TTrust), .sl (v.Letter.Nomination.Votes.map (fun x => [.str x])), .sl (v.Letter.Nomination.Accepts.map (fun x => [.str x])), .int .i64 v.Letter.Envelope.Node, .int .i64 v.Letter.Envelope.Slot, .int .i64 v.Letter.Envelope.Seq, .int .i64 v.Letter.Envelope.Trust.Threshold, .sl (v.Letter.Envelope.Trust.Nodes.map (fun x => [.int .i64 x])), .sl (v.Letter.Envelope.Trust.Inner.map pv_TTrust), .int .i64 v.Letter.Envelope.Kind, .int .i64 v.Letter.Envelope.Ballot.Counter, .str v.Letter.Envelope.Ballot.Value, .int .i64 v.Letter.Envelope.Prepared.Counter, .str v.Letter.Envelope.Prepared.Value, .int .i64 v.Letter.Envelope.Prime.Counter, .str v.Letter.Envelope.Prime.Value, .int .i64 v.Letter.Envelope.Low, .int .i64 v.Letter.Envelope.High]
def pv_TNetwork (v : TNetwork) : List PV := [.sl (v.Parcels.map pv_TParcel), .int .i64 v.Next, .sl (v.Parts.map (fun x => [.int .i64 x])), .sl (v.Delays.map (fun x => [.int .i64 x]))]
def pv_TWorld (v : TWorld) : List PV := [.int .i64 v.Time, .sl (v.Nodes.map pv_TParticipant), .int .i64 v.Ill, .sl (v.Net.Parcels.map pv_TParcel), .int .i64 v.Net.Next, .sl (v.Net.Parts.map (fun x => [.int .i64 x])), .sl (v.Net.Delays.map (fun x => [.int .i64 x])), .sl (v.Trusts.map (fun x => [.sl (x.map pv_TTrust)]))]
def pv_TSrc (v : TSrc) : List PV := [.sl (v.L.map (fun x => [.int .i64 x])), .int .i64 v.At]
def pv_TLaboratoryReader (v : TLaboratoryReader) : List PV := [.sl (v.l.map (fun x => [.str x])), .bool v.bad]
def pv_TNotationReader (v : TNotationReader) : List PV := [.str v.text, .str v.token, .int .i64 v.at_]
def pv_TClaim (v : TClaim) : List PV := [.int .i64 v.Topic, .int .i64 v.Value]
def pv_TMessage (v : TMessage) : List PV := [.int .i64 v.Node, .int .i64 v.Seq, .int .i64 v.Trust.Threshold, .sl (v.Trust.Nodes.map (fun x => [.int .i64 x])), .sl (v.Trust.Inner.map pv_TTrust), .sl (v.Votes.map pv_TClaim), .sl (v.Accepts.map pv_TClaim)]
def pv_TArr2Ballot (v : TArr2Ballot) : List PV := [.int .i64 v.c0.Counter, .str v.c0.Value, .int .i64 v.c1.Counter, .str v.c1.Value]
def pv_TArr2I64 (v : TArr2I64) : List PV := [.int .i64 v.c0, .int .i64 v.c1]
def pv_TFrac (v : TFrac) : List PV := [.int .i64 v.Num, .int .i64 v.Den]
def SName.pv : (n : SName) → n.den → List PV
  | .Trust, v => pv_TTrust v
  | .Nomination, v => pv_TNomination v
  | .Ballot, v => pv_TBallot v
  | .Envelope, v => pv_TEnvelope v
  | .Letter, v => pv_TLetter v
  | .Step, v => pv_TStep v
  | .Member, v => pv_TMember v
  | .Config, v => pv_TConfig v
  | .Nominator, v => pv_TNominator v
  | .Machine, v => pv_TMachine v
  | .Timer, v => pv_TTimer v
  | .Slot, v => pv_TSlot v
  | .Participant, v => pv_TParticipant v
  | .Parcel, v => pv_TParcel v
  | .Network, v => pv_TNetwork v
  | .World, v => pv_TWorld v
  | .Src, v => pv_TSrc v
  | .LaboratoryReader, v => pv_TLaboratoryReader v
  | .NotationReader, v => pv_TNotationReader v
  | .Claim, v => pv_TClaim v
  | .Message, v => pv_TMessage v
  | .Arr2Ballot, v => pv_TArr2Ballot v
  | .Arr2I64, v => pv_TArr2I64 v
  | .Frac, v => pv_TFrac v
def Ty.isAgg : Ty → Bool
  | .st _ => true
  | _ => false
def wrapA (t : Ty) (cs : List PV) : PV := match t.isAgg with | true => .agg cs | false => cs.headD .any
def Ty.pv : (t : Ty) → t.den → List PV
  | .i k, n => [.int k n]
  | .dyn, (v : TDyn) => [.ifc (cond v.isS tyS tyI) (cond v.isS (.str v.s) (.int .i64 v.n))]
  | .err, (b : Bool) => [.nili b]
  | .bool, b => [.bool b]
  | .str, s => [.str s]
  | .sl t, (xs : List t.den) => [.sl (xs.map (Ty.pv t))]
  | .mp a b, (xs : List (a.den × b.den)) => [.mapv (xs.map fun p => wrapA a (Ty.pv a p.1)) (xs.map fun p => wrapA b (Ty.pv b p.2))]
  | .st n, v => n.pv v
def leafPV : (ls : List Ty) → LDen ls → List PV
  | [], _ => []
  | t :: l, v => t.pv v.1 ++ leafPV l v.2
theorem SName.pv_eq : ∀ (n : SName) (v : n.den), n.pv v = leafPV n.leaves (n.toL v)
  | .Trust, v => by cases v; simp only [SName.pv, pv_TTrust, pvs_TTrust_map]; rfl
  | .Nomination, v => rfl
  | .Ballot, v => rfl
  | .Envelope, v => rfl
  | .Letter, v => rfl
  | .Step, v => rfl
  | .Member, v => rfl
  | .Config, v => rfl
  | .Nominator, v => rfl
  | .Machine, v => rfl
  | .Timer, v => rfl
  | .Slot, v => rfl
  | .Participant, v => rfl
  | .Parcel, v => rfl
  | .Network, v => rfl
  | .World, v => rfl
  | .Src, v => rfl
  | .LaboratoryReader, v => rfl
  | .NotationReader, v => rfl
  | .Claim, v => rfl
  | .Message, v => rfl
  | .Arr2Ballot, v => rfl
  | .Arr2I64, v => rfl
  | .Frac, v => rfl
def Ty.leaf : Ty → Bool
  | .st _ => false
  | _ => true
theorem SName.leaf_ok : ∀ (n : SName), n.leaves.all Ty.leaf = true
  | .Trust => rfl
  | .Nomination => rfl
  | .Ballot => rfl
  | .Envelope => rfl
  | .Letter => rfl
  | .Step => rfl
  | .Member => rfl
  | .Config => rfl
  | .Nominator => rfl
  | .Machine => rfl
  | .Timer => rfl
  | .Slot => rfl
  | .Participant => rfl
  | .Parcel => rfl
  | .Network => rfl
  | .World => rfl
  | .Src => rfl
  | .LaboratoryReader => rfl
  | .NotationReader => rfl
  | .Claim => rfl
  | .Message => rfl
  | .Arr2Ballot => rfl
  | .Arr2I64 => rfl
  | .Frac => rfl
theorem SName.to_of : ∀ (n : SName) (v : LDen n.leaves), n.toL (n.ofL v) = v
  | .Trust, v => rfl
  | .Nomination, v => rfl
  | .Ballot, v => rfl
  | .Envelope, v => rfl
  | .Letter, v => rfl
  | .Step, v => rfl
  | .Member, v => rfl
  | .Config, v => rfl
  | .Nominator, v => rfl
  | .Machine, v => rfl
  | .Timer, v => rfl
  | .Slot, v => rfl
  | .Participant, v => rfl
  | .Parcel, v => rfl
  | .Network, v => rfl
  | .World, v => rfl
  | .Src, v => rfl
  | .LaboratoryReader, v => rfl
  | .NotationReader, v => rfl
  | .Claim, v => rfl
  | .Message, v => rfl
  | .Arr2Ballot, v => rfl
  | .Arr2I64, v => rfl
  | .Frac, v => rfl
def Ty.noSl : Ty → Bool
  | .sl _ => false
  | .mp _ _ => false
  | _ => true
@[reducible] def U : TU where
  Ty := Ty
  deq := Ty.deq
  den := Ty.den
  pv := Ty.pv
  size := fun t => match t with | .st n => n.leaves.length | _ => 1
  agg := Ty.isAgg
  plain := fun t => match t with | .st n => n.leaves.all Ty.noSl | t => t.noSl

def leafK : (t : Ty) → t.den → KV U
  | .i k, n => .int k n
  | .dyn, (v : TDyn) => .dyn tyI tyS v.isS v.n v.s
  | .err, (b : Bool) => .nili b
  | .bool, b => .bool b
  | .str, s => .str s
  | .sl t, (xs : List t.den) => .sl t xs
  | .mp a b, (xs : List (a.den × b.den)) => .mapv a b xs
  | .st _, _ => .any
def leavesK : (ls : List Ty) → LDen ls → List (KV U)
  | [], _ => []
  | t :: l, v => leafK t v.1 :: leavesK l v.2
def encT : (t : Ty) → t.den → List (KV U)
  | .st n, v => leavesK n.leaves (n.toL v)
  | .i k, v => [leafK (.i k) v]
  | .dyn, v => [leafK .dyn v]
  | .err, v => [leafK .err v]
  | .bool, v => [leafK .bool v]
  | .str, v => [leafK .str v]
  | .sl t, v => [leafK (.sl t) v]
  | .mp a b, v => [leafK (.mp a b) v]
def decD : KV U → Option TDyn
  | .dyn Ti Ts b n s => (match Nat.beq Ti tyI && Nat.beq Ts tyS with | true => some ⟨b, n, s⟩ | false => none)
  | .ifc T (.int .i64 n) => (match Nat.beq T tyI with | true => some ⟨false, n, ⟨#[]⟩⟩ | false => none)
  | .ifc T (.str s) => (match Nat.beq T tyS with | true => some ⟨true, 0, s⟩ | false => none)
  | _ => none
def decE : KV U → Option Bool
  | .nili b => some b
  | _ => none
theorem decD_ok {lk : Lk U} {x : KV U} {v : TDyn} (h : decD x = some v) : CellOk lk x (.ifc (cond v.isS tyS tyI) (cond v.isS (.str v.s) (.int .i64 v.n))) := by
  unfold decD at h
  split at h
  · split at h
    · rename_i hq
      rw [Bool.and_eq_true] at hq
      have e1 := Nat.eq_of_beq_eq_true hq.1
      have e2 := Nat.eq_of_beq_eq_true hq.2
      injection h with h
      subst h e1 e2
      exact .dyn _ _ _ _ _
    · cases h
  · split at h
    · rename_i hq
      have e1 := Nat.eq_of_beq_eq_true hq
      injection h with h
      subst h e1
      exact .ifc _ _
    · cases h
  · split at h
    · rename_i hq
      have e1 := Nat.eq_of_beq_eq_true hq
      injection h with h
      subst h e1
      exact .ifc _ _
    · cases h
  · cases h
theorem decE_ok {lk : Lk U} {x : KV U} {v : Bool} (h : decE x = some v) : CellOk lk x (.nili v) := by
  unfold decE at h
  split at h
  · injection h with h; subst h; exact .nili _
  · cases h
def decLeaf (lk : Lk U) : (t : Ty) → KV U → Option t.den
  | .i k, x => decI k x
  | .dyn, x => decD x
  | .err, x => decE x
  | .bool, x => decB x
  | .str, x => decS x
  | .sl t, x => decL (U := U) lk t x
  | .mp a b, x => decM (U := U) a b x
  | .st _, _ => none
def decLeaves (lk : Lk U) : (ls : List Ty) → List (KV U) → Option (LDen ls)
  | [], cs => match cs with | [] => some () | _ => none
  | t :: l, cs => match cs with
    | c :: cs => (match decLeaf lk t c with
      | some v => (match decLeaves lk l cs with | some vs => some (v, vs) | none => none)
      | none => none)
    | [] => none
def dec1 {α : Type} (f : KV U → Option α) : List (KV U) → Option α
  | [x] => f x
  | _ => none
def decT : (t : Ty) → Lk U → List (KV U) → Option t.den
  | .st n, lk, cs => (match decLeaves lk n.leaves cs with | some v => some (n.ofL v) | none => none)
  | .i k, lk, cs => dec1 (decLeaf lk (.i k)) cs
  | .dyn, lk, cs => dec1 (decLeaf lk .dyn) cs
  | .err, lk, cs => dec1 (decLeaf lk .err) cs
  | .bool, lk, cs => dec1 (decLeaf lk .bool) cs
  | .str, lk, cs => dec1 (decLeaf lk .str) cs
  | .sl t, lk, cs => dec1 (decLeaf lk (.sl t)) cs
  | .mp a b, lk, cs => dec1 (decLeaf lk (.mp a b)) cs
theorem leafK_pv : ∀ (t : Ty) (v : t.den), t.leaf = true → [(leafK t v).pv] = t.pv v
  | .i k, v, _ => rfl
  | .dyn, v, _ => rfl
  | .err, v, _ => rfl
  | .bool, v, _ => rfl
  | .str, v, _ => rfl
  | .sl t, v, _ => rfl
  | .mp a b, v, _ => rfl
  | .st _, _, h => by cases h
theorem leavesK_pv : ∀ (ls : List Ty) (v : LDen ls), ls.all Ty.leaf = true → (leavesK ls v).map KV.pv = leafPV ls v
  | [], _, _ => rfl
  | t :: l, v, h => by
    rw [List.all_cons, Bool.and_eq_true] at h
    rw [leavesK, leafPV, List.map_cons, leavesK_pv l v.2 h.2, ← leafK_pv t v.1 h.1]
    rfl
theorem decLeaf_ok {lk : Lk U} : ∀ {t : Ty} {x : KV U} {v : t.den}, decLeaf lk t x = some v → CellsOk lk [x] (t.pv v)
  | .i k, x, v, h => .cons (decI_ok h) .nil
  | .dyn, x, v, h => .cons (decD_ok h) .nil
  | .err, x, v, h => .cons (decE_ok h) .nil
  | .bool, x, v, h => .cons (decB_ok h) .nil
  | .str, x, v, h => .cons (decS_ok h) .nil
  | .sl t, x, v, h => .cons (decL_ok (U := U) h) .nil
  | .mp a b, x, v, h => .cons (decM_ok (U := U) h) .nil
  | .st _, _, _, h => by cases h
theorem CellsOk.app {lk : Lk U} {x : KV U} {ys : List PV} {xs : List (KV U)} {zs : List PV} (h : CellsOk lk [x] ys) (k : CellsOk lk xs zs) : CellsOk lk (x :: xs) (ys ++ zs) := by
  cases h with
  | cons h1 h2 => cases h2 with | nil => exact .cons h1 k
theorem decLeaves_ok {lk : Lk U} : ∀ {ls : List Ty} {cs : List (KV U)} {v : LDen ls}, decLeaves lk ls cs = some v → CellsOk lk cs (leafPV ls v)
  | [], [], _, _ => .nil
  | [], _ :: _, _, h => by cases h
  | _ :: _, [], _, h => by cases h
  | t :: l, c :: cs, v, h => by
    rw [decLeaves] at h
    split at h
    · rename_i v1 h1
      split at h
      · rename_i vs h2
        injection h with h
        subst h
        exact (decLeaf_ok h1).app (decLeaves_ok h2)
      · cases h
    · cases h
theorem dec1_ok {α : Type} {f : KV U → Option α} {cs : List (KV U)} {v : α} (h : dec1 f cs = some v) : ∃ x, cs = [x] ∧ f x = some v := by
  unfold dec1 at h
  split at h
  · exact ⟨_, rfl, h⟩
  · cases h
theorem pv_len : ∀ (ls : List Ty) (v : LDen ls), ls.all Ty.leaf = true → (leafPV ls v).length = ls.length
  | [], _, _ => rfl
  | t :: l, v, h => by
    rw [List.all_cons, Bool.and_eq_true] at h
    have : (t.pv v.1).length = 1 := by
      cases t with
      | st n => cases h.1
      | _ => rfl
    rw [leafPV, List.length_append, pv_len l v.2 h.2, this, List.length_cons, Nat.add_comm]
theorem leaf_good : ∀ (t : Ty) (v : t.den), t.leaf = true → ∀ y ∈ t.pv v, y.good = true ∧ (t.noSl = true → y.plain = true)
  | .i k, v, _, y, h => by simp only [Ty.pv, List.mem_singleton] at h; subst h; exact ⟨rfl, fun _ => rfl⟩
  | .dyn, v, _, y, h => by simp only [Ty.pv, List.mem_singleton] at h; subst h; exact ⟨rfl, fun _ => rfl⟩
  | .err, v, _, y, h => by simp only [Ty.pv, List.mem_singleton] at h; subst h; exact ⟨rfl, fun _ => rfl⟩
  | .bool, v, _, y, h => by simp only [Ty.pv, List.mem_singleton] at h; subst h; exact ⟨rfl, fun _ => rfl⟩
  | .str, v, _, y, h => by simp only [Ty.pv, List.mem_singleton] at h; subst h; exact ⟨rfl, fun _ => rfl⟩
  | .sl t, v, _, y, h => by simp only [Ty.pv, List.mem_singleton] at h; subst h; exact ⟨rfl, fun h => by cases h⟩
  | .mp a b, v, _, y, h => by simp only [Ty.pv, List.mem_singleton] at h; subst h; exact ⟨rfl, fun h => by cases h⟩
  | .st _, _, h, _, _ => by cases h
theorem leaves_good : ∀ (ls : List Ty) (v : LDen ls), ls.all Ty.leaf = true → ∀ y ∈ leafPV ls v, y.good = true ∧ (ls.all Ty.noSl = true → y.plain = true)
  | [], _, _, y, h => by cases h
  | t :: l, v, h, y, hy => by
    rw [List.all_cons, Bool.and_eq_true] at h
    rw [leafPV, List.mem_append] at hy
    rcases hy with hy | hy
    · obtain ⟨h1, h2⟩ := leaf_good t v.1 h.1 y hy
      exact ⟨h1, fun hp => by rw [List.all_cons, Bool.and_eq_true] at hp; exact h2 hp.1⟩
    · obtain ⟨h1, h2⟩ := leaves_good l v.2 h.2 y hy
      exact ⟨h1, fun hp => by rw [List.all_cons, Bool.and_eq_true] at hp; exact h2 hp.2⟩
/-- structs of two integers, which can be a map's keys -/
def key2 : SName → Option (IntKind × IntKind)
  | .Timer => some (.i64, .i64)
  | .Claim => some (.i64, .i64)
  | .Arr2I64 => some (.i64, .i64)
  | .Frac => some (.i64, .i64)
  | _ => none
theorem key2_ok : ∀ (n : SName) (k l : IntKind), key2 n = some (k, l) → ∀ v, ∃ a b, encT (.st n) v = [.int k a, .int l b]
  | .Timer, _, _, h => by injection h with h; injection h with h1 h2; subst h1 h2; exact fun v => ⟨_, _, rfl⟩
  | .Claim, _, _, h => by injection h with h; injection h with h1 h2; subst h1 h2; exact fun v => ⟨_, _, rfl⟩
  | .Arr2I64, _, _, h => by injection h with h; injection h with h1 h2; subst h1 h2; exact fun v => ⟨_, _, rfl⟩
  | .Frac, _, _, h => by injection h with h; injection h with h1 h2; subst h1 h2; exact fun v => ⟨_, _, rfl⟩
  | .Trust, _, _, h => by cases h
  | .Nomination, _, _, h => by cases h
  | .Ballot, _, _, h => by cases h
  | .Envelope, _, _, h => by cases h
  | .Letter, _, _, h => by cases h
  | .Step, _, _, h => by cases h
  | .Member, _, _, h => by cases h
  | .Config, _, _, h => by cases h
  | .Nominator, _, _, h => by cases h
  | .Machine, _, _, h => by cases h
  | .Slot, _, _, h => by cases h
  | .Participant, _, _, h => by cases h
  | .Parcel, _, _, h => by cases h
  | .Network, _, _, h => by cases h
  | .World, _, _, h => by cases h
  | .Src, _, _, h => by cases h
  | .LaboratoryReader, _, _, h => by cases h
  | .NotationReader, _, _, h => by cases h
  | .Message, _, _, h => by cases h
  | .Arr2Ballot, _, _, h => by cases h
def tyTab : List (Nat × Ty) := [(3, (Ty.i .i64)), (4, Ty.bool), (5, (Ty.i .u8)), (9, Ty.str), (20, Ty.dyn), (39, (Ty.sl (Ty.st .Trust))), (41, (Ty.st .Trust)), (43, (Ty.st .Nomination)), (45, (Ty.st .Ballot)), (47, (Ty.st .Envelope)), (49, (Ty.st .Letter)), (51, (Ty.st .Step)), (97, (Ty.st .Member)), (105, (Ty.st .Participant)), (155, (Ty.st .Slot)), (180, (Ty.st .Parcel)), (198, (Ty.i .u64)), (314, (Ty.st .Message)), (356, (Ty.st .Claim))]
def tyFind (n : Nat) : List (Nat × Ty) → Option Ty
  | [] => none
  | (k, t) :: l => (match Nat.beq k n with | true => some t | false => tyFind n l)
@[reducible] def K : TK U where
  enc := encT
  dec := decT
  tyOf := fun n => tyFind n tyTab
  enc_pv := fun t v => by
    cases t with
    | st n => exact (leavesK_pv _ _ n.leaf_ok).trans (n.pv_eq v).symm
    | _ => rfl
  dec_ok := fun t lk cs v h => by
    cases t with
    | st n =>
      change (match decLeaves lk n.leaves cs with | some v => some (n.ofL v) | none => none) = some v at h
      split at h
      · rename_i u hu
        injection h with h
        subst h
        have := decLeaves_ok hu
        change CellsOk lk cs (n.pv (n.ofL u))
        rw [n.pv_eq, n.to_of]
        exact this
      · cases h
    | i k => obtain ⟨x, rfl, hx⟩ := dec1_ok h; exact decLeaf_ok hx
    | dyn => obtain ⟨x, rfl, hx⟩ := dec1_ok h; exact decLeaf_ok hx
    | err => obtain ⟨x, rfl, hx⟩ := dec1_ok h; exact decLeaf_ok hx
    | bool => obtain ⟨x, rfl, hx⟩ := dec1_ok h; exact decLeaf_ok hx
    | str => obtain ⟨x, rfl, hx⟩ := dec1_ok h; exact decLeaf_ok hx
    | sl t => obtain ⟨x, rfl, hx⟩ := dec1_ok h; exact decLeaf_ok hx
    | mp a b => obtain ⟨x, rfl, hx⟩ := dec1_ok h; exact decLeaf_ok hx
  len := fun t v => by
    cases t with
    | st n => exact (congrArg List.length (n.pv_eq v)).trans (pv_len _ _ n.leaf_ok)
    | _ => rfl
  good := fun t v y hy => by
    cases t with
    | st n => exact (leaves_good _ (n.toL v) n.leaf_ok y (Eq.mp (congrArg (y ∈ ·) (n.pv_eq v)) hy)).1
    | i k => exact (leaf_good (.i k) v rfl y hy).1
    | dyn => exact (leaf_good .dyn v rfl y hy).1
    | err => exact (leaf_good .err v rfl y hy).1
    | bool => exact (leaf_good .bool v rfl y hy).1
    | str => exact (leaf_good .str v rfl y hy).1
    | sl t => exact (leaf_good (.sl t) v rfl y hy).1
    | mp a b => exact (leaf_good (.mp a b) v rfl y hy).1
  one := fun t h => by
    cases t with
    | st n => cases h
    | _ => rfl
  plain := fun t h v y hy => by
    cases t with
    | st n => exact (leaves_good _ (n.toL v) n.leaf_ok y (Eq.mp (congrArg (y ∈ ·) (n.pv_eq v)) hy)).2 h
    | i k => exact (leaf_good (.i k) v rfl y hy).2 rfl
    | dyn => exact (leaf_good .dyn v rfl y hy).2 rfl
    | err => exact (leaf_good .err v rfl y hy).2 rfl
    | bool => exact (leaf_good .bool v rfl y hy).2 rfl
    | str => exact (leaf_good .str v rfl y hy).2 rfl
    | sl t => cases h
    | mp a b => cases h
  key2 := fun t => match t with | .st n => key2 n | _ => none
  key2_ok := fun t k l h => by
    cases t with
    | st n => exact ⟨rfl, key2_ok n k l h⟩
    | _ => cases h
end Go.TQ
