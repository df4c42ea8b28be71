/-
  The monitor's files: the envelopes of the sightings that count, by node and slot; the program's function against a plain one.
-/
import Derived.Test.YtaebanabjdmgfaaGreatUni
import Derived.Test.YtaebanabjdmgfaaGreatFil
import Derived.Test.YtaebanabjdmgfaaGreatProg
import Derived.KernelRfl
set_option linter.unusedVariables false
namespace Go.TQ
def eqp (p k : TPlace) : Bool := decide (p.node = k.node) && decide (p.slot = k.slot)
/-- what a sighting adds: nothing, or an envelope at a place -/
def filStep (V : TEnvelope → Option Bool) (x : TSighting) : Option (Option (TEnvelope × TPlace)) :=
  Option.bind (bif (!decide (x.Letter.Kind = (2 : Int))) then some true else some (!decide (x.From = x.Letter.Envelope.Node))) fun b2 =>
    Option.bind (bif b2 then some true else Option.bind (V (TEnvelope.mk x.Letter.Envelope.Node x.Letter.Envelope.Slot x.Letter.Envelope.Seq (TTrust.mk x.Letter.Envelope.Trust.Threshold x.Letter.Envelope.Trust.Nodes x.Letter.Envelope.Trust.Inner) x.Letter.Envelope.Kind x.Letter.Envelope.Ballot x.Letter.Envelope.Prepared x.Letter.Envelope.Prime x.Letter.Envelope.Low x.Letter.Envelope.High)) fun r3 => some (!r3)) fun b4 =>
      bif b4 then some none
      else some (some ((TEnvelope.mk x.Letter.Envelope.Node x.Letter.Envelope.Slot x.Letter.Envelope.Seq (TTrust.mk x.Letter.Envelope.Trust.Threshold x.Letter.Envelope.Trust.Nodes x.Letter.Envelope.Trust.Inner) x.Letter.Envelope.Kind x.Letter.Envelope.Ballot x.Letter.Envelope.Prepared x.Letter.Envelope.Prime x.Letter.Envelope.Low x.Letter.Envelope.High), (TPlace.mk x.Letter.Envelope.Node x.Letter.Envelope.Slot)))
def filPut (bE bK : Nat) (G : List (TPlace × List TEnvelope)) (ps : List TPlace) (o : Option (TEnvelope × TPlace)) : Option (List (TPlace × List TEnvelope) × List TPlace) :=
  match o with
  | none => some (G, ps)
  | some (e, p) => bif lenOk bE ((mget (eqp p) G []).length + 1) && lenOk bK (ps.length + 1) then some (gput (eqp p) p e G, bif (mget (eqp p) G []).isEmpty then ps ++ [p] else ps) else none
def filL (bE bK : Nat) (V : TEnvelope → Option Bool) : List TSighting → List (TPlace × List TEnvelope) → List TPlace → Option (List (TPlace × List TEnvelope) × List TPlace)
  | [], G, ps => some (G, ps)
  | x :: l, G, ps => Option.bind (filStep V x) fun o => Option.bind (filPut bE bK G ps o) fun q => filL bE bK V l q.1 q.2
def filesF (bE bK : Nat) (V : TEnvelope → Option Bool) (Srt : List TPlace → Option (Unit × List TPlace)) (l : List TSighting) : Option (List (TPlace × List TEnvelope) × List TPlace × Unit) :=
  Option.bind (filL bE bK V l [] []) fun q => Option.bind (Srt q.2) fun r => some (q.1, r.2, ())
end Go.TQ
namespace Go.Proofs.YtaebanabjdmgfaaGreat
open Go.RowKit Go.TQ
namespace fil26
def cl : Code → Code | .seq x _ => x | _ => .skip
def cr : Code → Code | .seq _ y => y | _ => .skip
def cb : Code → Code | .block _ c => c | .loop c => c | _ => .skip
def cx : Code → Code | .cond _ x _ => x | _ => .skip
def ro : Code → List Oper | .region _ ops _ => ops.toList | _ => []
def roa : Code → Array Oper | .region _ ops _ => ops | _ => #[]
noncomputable def c0 : Code := Tryz.f26.body.getD .skip
noncomputable def cL : Code := cb (cb (cr (cl (cr (cr (cr c0))))))
noncomputable def cB : Code := cb (cl (cr (cr cL)))
noncomputable def R0 := cl c0
noncomputable def R1 := cl (cr c0)
noncomputable def R2 := cl (cr (cr c0))
noncomputable def R3 := cl (cl (cr (cr (cr c0))))
noncomputable def R4 := cl cL
noncomputable def R12 := cr (cr (cr cL))
noncomputable def R5 := cl cB
noncomputable def R6 := cl (cr cB)
noncomputable def R7 := cl (cl (cr (cr cB)))
noncomputable def R8 := cl (cr (cr (cr cB)))
noncomputable def R9 := cl (cl (cr (cr (cr (cr cB)))))
noncomputable def R10 := cx (cr (cl (cr (cr (cr (cr cB))))))
noncomputable def R11 := cr (cr (cr (cr (cr cB))))
noncomputable def R13 := cl (cr (cr (cr (cr c0))))
noncomputable def R14 := cl (cr (cr (cr (cr (cr c0)))))
theorem hbody : Tryz.f26.body = some c0 := by kernel_rfl
theorem hB : cB = .seq R5 (.seq R6 (.seq (.seq R7 (.cond (.tmp 35) (.exit 1) .skip)) (.seq R8 (.seq (.seq R9 (.cond (.tmp 45) R10 .skip)) R11)))) := by kernel_rfl
theorem hL : cL = .seq R4 (.seq (.cond (.tmp 14) .skip (.exit 0)) (.seq (.block 1 cB) R12)) := by kernel_rfl
theorem hc0 : c0 = .seq R0 (.seq R1 (.seq R2 (.seq (.seq R3 (.block 0 (.loop cL))) (.seq R13 (.seq R14 .ret))))) := by kernel_rfl
theorem hR0 : R0 = .region 0 (roa R0) false := by kernel_rfl
theorem hR1 : R1 = .region 1 (roa R1) false := by kernel_rfl
theorem hR2 : R2 = .region 2 (roa R2) false := by kernel_rfl
theorem hR3 : R3 = .region 3 (roa R3) false := by kernel_rfl
theorem hR4 : R4 = .region 4 (roa R4) false := by kernel_rfl
theorem hR9 : R9 = .region 9 (roa R9) false := by kernel_rfl
theorem hR10 : R10 = .region 10 (roa R10) false := by kernel_rfl
theorem hR11 : R11 = .region 11 (roa R11) false := by kernel_rfl
theorem hR12 : R12 = .region 12 (roa R12) false := by kernel_rfl
theorem hR13 : R13 = .region 13 (roa R13) false := by kernel_rfl
theorem hR14 : R14 = .region 14 (roa R14) false := by kernel_rfl
def lenO (x t : Nat) : Op := .call { callee := .builtin .len, args := #[.tmp x], argTypes := #[t] }
def appO (s x t : Nat) : Op := .call { callee := .builtin .append, args := #[.tmp s, .tmp x], argTypes := #[t, t] }
def r0 : List (Option Nat × Op) := [(some 2, .assign (.const (.map none))), (some 3, .assign (.const (.slice none 0 0)))]
def r1 : List (Option Nat × Op) := [(some 10, .makeMap 68 none), (some 4, .assign (.tmp 10))]
def r2 : List (Option Nat × Op) := [(some 5, .assign (.const (.slice none 0 0)))]
def r3 : List (Option Nat × Op) := [(some 11, .move (.tmp 0)), (some 12, lenO 11 25), (some 13, .move (.const (.int .i64 0)))]
def r4 : List (Option Nat × Op) := [(some 14, .binOp .lss 3 (.tmp 13) (.tmp 12) 3)]
def r9 : List (Option Nat × Op) := [(some 41, .move (.tmp 4)), (some 42, .load 74 (.tmp 9)), (some 43, .lookup 68 (.tmp 41) (.tmp 42) false), (some 44, lenO 43 42), (some 45, .binOp .eql 3 (.tmp 44) (.const (.int .i64 0)) 3)]
def r10 : List (Option Nat × Op) := [(some 46, .move (.tmp 5)), (some 47, .load 74 (.tmp 9)), (some 48, .buildSlice 69 1 #[(0, .tmp 47)]), (some 49, appO 46 48 69), (some 5, .assign (.tmp 49))]
def r11 : List (Option Nat × Op) := [(some 50, .move (.tmp 4)), (some 51, .load 74 (.tmp 9)), (some 53, .load 38 (.tmp 8)), (some 54, .buildSlice 42 1 #[(0, .tmp 53)]), (some 55, .mapEntry 68 (.tmp 50) (.tmp 51)), (some 52, .extract (.tmp 55) 0), (some 56, appO 52 54 42), (some 57, .extract (.tmp 55) 1), (none, .entryStore 68 (.tmp 50) (.tmp 57) (.tmp 56))]
def r12 : List (Option Nat × Op) := [(some 58, .binOp .add 3 (.tmp 13) (.const (.int .i64 1)) 3), (some 13, .move (.tmp 58))]
def r14 : List (Option Nat × Op) := [(some 61, .move (.tmp 4)), (some 62, .move (.tmp 5)), (some 2, .assign (.tmp 61)), (some 3, .assign (.tmp 62))]
theorem i0 : Is (roa R0).toList r0 := by refine ⟨⟨?_, ?_, ?_, ?_⟩, ⟨?_, ?_, ?_, ?_⟩, trivial⟩ <;> first | kernel_rfl | (intro c h; cases h)
theorem i1 : Is (roa R1).toList r1 := by refine ⟨⟨?_, ?_, ?_, ?_⟩, ⟨?_, ?_, ?_, ?_⟩, trivial⟩ <;> first | kernel_rfl | (intro c h; cases h)
theorem i2 : Is (roa R2).toList r2 := by refine ⟨⟨?_, ?_, ?_, ?_⟩, trivial⟩ <;> first | kernel_rfl | (intro c h; cases h)
theorem i3 : Is (roa R3).toList r3 := by refine ⟨⟨?_, ?_, ?_, ?_⟩, ⟨?_, ?_, ?_, ?_⟩, ⟨?_, ?_, ?_, ?_⟩, trivial⟩ <;> first | kernel_rfl | (intro c h; cases h)
theorem i4 : Is (roa R4).toList r4 := by refine ⟨⟨?_, ?_, ?_, ?_⟩, trivial⟩ <;> first | kernel_rfl | (intro c h; cases h)
theorem i9 : Is (roa R9).toList r9 := by refine ⟨⟨?_, ?_, ?_, ?_⟩, ⟨?_, ?_, ?_, ?_⟩, ⟨?_, ?_, ?_, ?_⟩, ⟨?_, ?_, ?_, ?_⟩, ⟨?_, ?_, ?_, ?_⟩, trivial⟩ <;> first | kernel_rfl | (intro c h; cases h)
theorem i10 : Is (roa R10).toList r10 := by refine ⟨⟨?_, ?_, ?_, ?_⟩, ⟨?_, ?_, ?_, ?_⟩, ⟨?_, ?_, ?_, ?_⟩, ⟨?_, ?_, ?_, ?_⟩, ⟨?_, ?_, ?_, ?_⟩, trivial⟩ <;> first | kernel_rfl | (intro c h; cases h)
theorem i11 : Is (roa R11).toList r11 := by refine ⟨⟨?_, ?_, ?_, ?_⟩, ⟨?_, ?_, ?_, ?_⟩, ⟨?_, ?_, ?_, ?_⟩, ⟨?_, ?_, ?_, ?_⟩, ⟨?_, ?_, ?_, ?_⟩, ⟨?_, ?_, ?_, ?_⟩, ⟨?_, ?_, ?_, ?_⟩, ⟨?_, ?_, ?_, ?_⟩, ⟨?_, ?_, ?_, ?_⟩, trivial⟩ <;> first | kernel_rfl | (intro c h; cases h)
theorem i12 : Is (roa R12).toList r12 := by refine ⟨⟨?_, ?_, ?_, ?_⟩, ⟨?_, ?_, ?_, ?_⟩, trivial⟩ <;> first | kernel_rfl | (intro c h; cases h)
theorem i14 : Is (roa R14).toList r14 := by refine ⟨⟨?_, ?_, ?_, ?_⟩, ⟨?_, ?_, ?_, ?_⟩, ⟨?_, ?_, ?_, ?_⟩, ⟨?_, ?_, ?_, ?_⟩, trivial⟩ <;> first | kernel_rfl | (intro c h; cases h)
theorem i13 : ∃ o1 o2, (roa R13).toList = [o1, o2] ∧ (o1.dst = some 59 ∧ o1.op = .move (.tmp 5) ∧ o1.guard = none) ∧ (o2.dst = some 60 ∧ o2.op = .call { callee := .value (.func 61), args := #[.tmp 59, .func 62], argTypes := #[69, 102] } ∧ o2.guard = none) := by
  refine ⟨(roa R13)[0]!, (roa R13)[1]!, ?_, ⟨?_, ?_, ?_⟩, ⟨?_, ?_, ?_⟩⟩ <;> kernel_rfl
theorem aggE : aggN Tryz.prog 38 = some (some 15) := by kernel_rfl
theorem aggK : aggN Tryz.prog 74 = some (some 2) := by kernel_rfl
theorem ulT : Tryz.prog.underlying 25 = some (.slice 57) := by kernel_rfl
theorem types : FilT Tryz.prog 68 74 42 38 69 15 176 16 where
  hm := by kernel_rfl
  key := keyInfo (by kernel_rfl)
  hs := by kernel_rfl
  hp := by kernel_rfl
  hz := zeroInfo (by kernel_rfl)
  infoE := insInfo' (by kernel_rfl)
  infoK := insInfo' (by kernel_rfl)
  kpos := by decide
  small := by decide
end fil26
end Go.Proofs.YtaebanabjdmgfaaGreat
