/-
  Functions of the program as plain functions, each held against the program by the kernel. Printed by a program.
-/
import Derived.Test.YtaebanabjdmgfaaGreatMonitorLiarsFnA
import Derived.Test.YtaebanabjdmgfaaGreatProg
import Derived.KernelRfl
set_option linter.unusedVariables false
namespace Go.Proofs.YtaebanabjdmgfaaGreat
open Go.TQ

/-! ### trustquorum/trustquorumlaw44.MonitorLiars -/
noncomputable def sa_law44_MonitorLiars : SA U := annA (scOf Tryz.prog 77 [] Tryz.f5) .e
noncomputable def F_law44_MonitorLiars (a0 : (List Int)) : Option Bool :=
 Option.bind (F_play_New a0) fun r1 =>
 Option.bind (F_play_Src_Envelope r1 (2 : Int) (1 : Int) (4 : Int)) fun p2 =>
 Option.bind (F_play_Src_Envelope p2.2 (2 : Int) (1 : Int) (4 : Int)) fun p3 =>
 Option.bind (F_monitor_TwoFaced [(TSighting.mk (0 : Int) (2 : Int) (TLetter.mk (2 : Int) (1 : Int) (TNomination.mk (0 : Int) (0 : Int) (TTrust.mk (0 : Int) ([] : List Int) ([] : List TTrust)) ([] : List ByteArray) ([] : List ByteArray)) (TEnvelope.mk p2.1.Node p2.1.Slot p2.1.Seq (TTrust.mk p2.1.Trust.Threshold p2.1.Trust.Nodes p2.1.Trust.Inner) p2.1.Kind p2.1.Ballot p2.1.Prepared p2.1.Prime p2.1.Low p2.1.High))), (TSighting.mk (0 : Int) (2 : Int) (TLetter.mk (2 : Int) (1 : Int) (TNomination.mk (0 : Int) (0 : Int) (TTrust.mk (0 : Int) ([] : List Int) ([] : List TTrust)) ([] : List ByteArray) ([] : List ByteArray)) (TEnvelope.mk p2.1.Node p2.1.Slot p2.1.Seq (TTrust.mk p2.1.Trust.Threshold p2.1.Trust.Nodes p2.1.Trust.Inner) p2.1.Kind p2.1.Ballot p2.1.Prepared p2.1.Prime p2.1.Low p2.1.High)))]) fun r4 =>
 Option.bind (bif (!decide (((List.length r4 : Nat) : Int) = (0 : Int))) then some true
 else
 Option.bind (F_monitor_TwoFaced [(TSighting.mk (0 : Int) (2 : Int) (TLetter.mk (2 : Int) (1 : Int) (TNomination.mk (0 : Int) (0 : Int) (TTrust.mk (0 : Int) ([] : List Int) ([] : List TTrust)) ([] : List ByteArray) ([] : List ByteArray)) (TEnvelope.mk p3.1.Node p3.1.Slot p2.1.Seq (TTrust.mk p3.1.Trust.Threshold p3.1.Trust.Nodes p3.1.Trust.Inner) p3.1.Kind p3.1.Ballot p3.1.Prepared p3.1.Prime p3.1.Low p3.1.High)))]) fun r5 =>
 some (!decide (((List.length r5 : Nat) : Int) = (0 : Int)))) fun b6 =>
 bif b6 then
 some false
 else
 Option.bind (F_monitor_TwoFaced [(TSighting.mk (0 : Int) (2 : Int) (TLetter.mk (2 : Int) (1 : Int) (TNomination.mk (0 : Int) (0 : Int) (TTrust.mk (0 : Int) ([] : List Int) ([] : List TTrust)) ([] : List ByteArray) ([] : List ByteArray)) (TEnvelope.mk p2.1.Node p2.1.Slot p2.1.Seq (TTrust.mk p2.1.Trust.Threshold p2.1.Trust.Nodes p2.1.Trust.Inner) p2.1.Kind p2.1.Ballot p2.1.Prepared p2.1.Prime p2.1.Low p2.1.High))), (TSighting.mk (0 : Int) (2 : Int) (TLetter.mk (2 : Int) (1 : Int) (TNomination.mk (0 : Int) (0 : Int) (TTrust.mk (0 : Int) ([] : List Int) ([] : List TTrust)) ([] : List ByteArray) ([] : List ByteArray)) (TEnvelope.mk p3.1.Node p3.1.Slot p2.1.Seq (TTrust.mk p3.1.Trust.Threshold p3.1.Trust.Nodes p3.1.Trust.Inner) p3.1.Kind p3.1.Ballot p3.1.Prepared p3.1.Prime p3.1.Low p3.1.High)))]) fun r7 =>
 Option.bind (F_ref24_Same (TEnvelope.mk p2.1.Node p2.1.Slot p2.1.Seq (TTrust.mk p2.1.Trust.Threshold p2.1.Trust.Nodes p2.1.Trust.Inner) p2.1.Kind p2.1.Ballot p2.1.Prepared p2.1.Prime p2.1.Low p2.1.High) (TEnvelope.mk p3.1.Node p3.1.Slot p2.1.Seq (TTrust.mk p3.1.Trust.Threshold p3.1.Trust.Nodes p3.1.Trust.Inner) p3.1.Kind p3.1.Ballot p3.1.Prepared p3.1.Prime p3.1.Low p3.1.High)) fun r8 =>
 bif r8 then
 Option.bind (bif (decide (((List.length r7 : Nat) : Int) = (0 : Int))) then
 Option.bind (F_law44_sane) fun r9 =>
 some r9
 else some false) fun b10 =>
 some b10
 else
 Option.bind (bif (decide (((List.length r7 : Nat) : Int) = (1 : Int))) then
 Option.bind (idx r7 (0 : Int)) fun x11 =>
 some (decide (x11.Node = (2 : Int)))
 else some false) fun b12 =>
 Option.bind (bif b12 then
 Option.bind (idx r7 (0 : Int)) fun x13 =>
 some (decide (x13.Slot = (1 : Int)))
 else some false) fun b14 =>
 Option.bind (bif b14 then
 Option.bind (idx r7 (0 : Int)) fun x15 =>
 some (decide (x15.Kind = (3 : Int)))
 else some false) fun b16 =>
 Option.bind (bif b16 then
 Option.bind (F_law44_sane) fun r17 =>
 some r17
 else some false) fun b18 =>
 some b18
noncomputable def k_law44_MonitorLiars : KS U Tryz.prog := ⟨.fn 5 [.ty (Ty.sl (Ty.i .i64))] (.one Ty.bool) fun a => F_law44_MonitorLiars a.1, fnS (K := K) sa_law44_MonitorLiars 77 [.tmp 2] [k_play_New, k_play_Src_Envelope, k_monitor_TwoFaced, k_ref24_Same, k_law44_sane] (fk Tryz.f5 [] Tryz.func5)⟩

end Go.Proofs.YtaebanabjdmgfaaGreat
