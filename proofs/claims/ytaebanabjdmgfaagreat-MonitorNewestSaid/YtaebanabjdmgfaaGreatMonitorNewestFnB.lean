/-
  Functions of the program as plain functions, each held against the program by the kernel. Printed by a program.
-/
import Derived.Test.YtaebanabjdmgfaaGreatMonitorNewestFnA
import Derived.Test.YtaebanabjdmgfaaGreatProg
import Derived.KernelRfl
set_option linter.unusedVariables false
namespace Go.Proofs.YtaebanabjdmgfaaGreat
open Go.TQ

/-! ### trustquorum/trustquorumlaw44.MonitorNewest -/
noncomputable def sa_law44_MonitorNewest : SA U := annA (scOf Tryz.prog 111 [] Tryz.f4) (.r (.r (.r (.l (.r (.l (.j ⟨[.val 5 (Ty.i .i64)], [4]⟩ (.l (.r (.l (.l (.r (.r (.r (.b (.r (.l (.ps (.own 9 57 26 (Ty.st .Sighting)) (.j ⟨[.val 8 Ty.bool, .val 31 (Ty.i .i64), .own 9 24 1 57 26 (Ty.st .Sighting)], [4, 5, 6, 7, 29, 30]⟩ (.l (.r (.r (.j ⟨[.val 8 Ty.bool, .own 9 24 1 57 26 (Ty.st .Sighting)], [4, 5, 6, 7, 29, 30, 31]⟩ .e)))))))) (.l (.g [(0, .ps (.frz 9))])))))))))))))))))
noncomputable def F_law44_MonitorNewest (a0 : (List Int)) : Option Bool :=
 Option.bind (F_play_New a0) fun r1 =>
 Option.bind (F_law44_sightings r1) fun p2 =>
 loopO (fun (v3 : Int × Unit) =>
 bif (decide (v3.1 < (4 : Int))) then
 Option.bind (F_monitor_Newest p2.1 v3.1 (1 : Int)) fun r4 =>
 loopO (fun (v5 : Bool × Int × (List TSighting) × Unit) =>
 bif (decide (v5.2.1 < ((List.length p2.1 : Nat) : Int))) then
 letJ (fun (v6 : Bool × (List TSighting) × Unit) =>
 some (Sum.inl (v6.1, (addI .i64 v5.2.1 (1 : Int)), v6.2.1, ()))) fun j7 =>
 Option.bind (idx p2.1 v5.2.1) fun x8 =>
 Option.bind (bif (!decide (x8.Letter.Kind = (2 : Int))) then some true
 else
 Option.bind (F_ref24_Valid (TEnvelope.mk x8.Letter.Envelope.Node x8.Letter.Envelope.Slot x8.Letter.Envelope.Seq (TTrust.mk x8.Letter.Envelope.Trust.Threshold x8.Letter.Envelope.Trust.Nodes x8.Letter.Envelope.Trust.Inner) x8.Letter.Envelope.Kind x8.Letter.Envelope.Ballot x8.Letter.Envelope.Prepared x8.Letter.Envelope.Prime x8.Letter.Envelope.Low x8.Letter.Envelope.High)) fun r9 =>
 some (!r9)) fun b10 =>
 Option.bind (bif b10 then some true
 else
 some (!decide (x8.From = x8.Letter.Envelope.Node))) fun b11 =>
 Option.bind (bif b11 then some true
 else
 some (!decide (x8.Letter.Envelope.Node = v3.1))) fun b12 =>
 Option.bind (bif b12 then some true
 else
 some (!decide (x8.Letter.Envelope.Slot = (1 : Int)))) fun b13 =>
 bif b13 then
 j7 (v5.1, v5.2.2.1, ())
 else
 bif lenOk 328 (List.length v5.2.2.1 + List.length [(TSighting.mk x8.Time x8.From (TLetter.mk x8.Letter.Kind x8.Letter.Slot (TNomination.mk x8.Letter.Nomination.Node x8.Letter.Nomination.Seq (TTrust.mk x8.Letter.Nomination.Trust.Threshold x8.Letter.Nomination.Trust.Nodes x8.Letter.Nomination.Trust.Inner) x8.Letter.Nomination.Votes x8.Letter.Nomination.Accepts) (TEnvelope.mk x8.Letter.Envelope.Node x8.Letter.Envelope.Slot x8.Letter.Envelope.Seq (TTrust.mk x8.Letter.Envelope.Trust.Threshold x8.Letter.Envelope.Trust.Nodes x8.Letter.Envelope.Trust.Inner) x8.Letter.Envelope.Kind x8.Letter.Envelope.Ballot x8.Letter.Envelope.Prepared x8.Letter.Envelope.Prime x8.Letter.Envelope.Low x8.Letter.Envelope.High)))]) then
 Option.bind (bif v5.1 then some true
 else
 Option.bind (F_ref24_Same (TEnvelope.mk r4.1.Node r4.1.Slot r4.1.Seq (TTrust.mk r4.1.Trust.Threshold r4.1.Trust.Nodes r4.1.Trust.Inner) r4.1.Kind r4.1.Ballot r4.1.Prepared r4.1.Prime r4.1.Low r4.1.High) (TEnvelope.mk x8.Letter.Envelope.Node x8.Letter.Envelope.Slot x8.Letter.Envelope.Seq (TTrust.mk x8.Letter.Envelope.Trust.Threshold x8.Letter.Envelope.Trust.Nodes x8.Letter.Envelope.Trust.Inner) x8.Letter.Envelope.Kind x8.Letter.Envelope.Ballot x8.Letter.Envelope.Prepared x8.Letter.Envelope.Prime x8.Letter.Envelope.Low x8.Letter.Envelope.High)) fun r14 =>
 some r14) fun b15 =>
 bif (decide (r4.1.Seq < x8.Letter.Envelope.Seq)) then
 Option.map Sum.inr (Option.map Sum.inr (some false))
 else
 j7 (b15, (v5.2.2.1 ++ [(TSighting.mk x8.Time x8.From (TLetter.mk x8.Letter.Kind x8.Letter.Slot (TNomination.mk x8.Letter.Nomination.Node x8.Letter.Nomination.Seq (TTrust.mk x8.Letter.Nomination.Trust.Threshold x8.Letter.Nomination.Trust.Nodes x8.Letter.Nomination.Trust.Inner) x8.Letter.Nomination.Votes x8.Letter.Nomination.Accepts) (TEnvelope.mk x8.Letter.Envelope.Node x8.Letter.Envelope.Slot x8.Letter.Envelope.Seq (TTrust.mk x8.Letter.Envelope.Trust.Threshold x8.Letter.Envelope.Trust.Nodes x8.Letter.Envelope.Trust.Inner) x8.Letter.Envelope.Kind x8.Letter.Envelope.Ballot x8.Letter.Envelope.Prepared x8.Letter.Envelope.Prime x8.Letter.Envelope.Low x8.Letter.Envelope.High)))]), ())
 else none
 else
 Option.map Sum.inr (Option.bind (F_monitor_Newest v5.2.2.1 v3.1 (1 : Int)) fun r16 =>
 Option.bind (bif (xor true (decide (r4.2.1 = (decide ((0 : Int) < ((List.length v5.2.2.1 : Nat) : Int)))))) then some true
 else
 Option.bind (bif r4.2.1 then
 some (!v5.1)
 else some false) fun b17 =>
 some b17) fun b18 =>
 Option.bind (bif b18 then some true
 else
 some (xor true (decide (r16.2.1 = r4.2.1)))) fun b19 =>
 Option.bind (bif b19 then some true
 else
 Option.bind (F_ref24_Same (TEnvelope.mk r4.1.Node r4.1.Slot r4.1.Seq (TTrust.mk r4.1.Trust.Threshold r4.1.Trust.Nodes r4.1.Trust.Inner) r4.1.Kind r4.1.Ballot r4.1.Prepared r4.1.Prime r4.1.Low r4.1.High) (TEnvelope.mk r16.1.Node r16.1.Slot r16.1.Seq (TTrust.mk r16.1.Trust.Threshold r16.1.Trust.Nodes r16.1.Trust.Inner) r16.1.Kind r16.1.Ballot r16.1.Prepared r16.1.Prime r16.1.Low r16.1.High)) fun r20 =>
 some (!r20)) fun b21 =>
 bif b21 then
 Option.map Sum.inr (some false)
 else
 some (Sum.inl ((addI .i64 v3.1 (1 : Int)), ())))) (false, (0 : Int), ([] : List TSighting), ())
 else
 Option.map Sum.inr (Option.bind (F_law44_sane) fun r22 =>
 some r22)) ((0 : Int), ())
noncomputable def k_law44_MonitorNewest : KS U Tryz.prog := ⟨.fn 4 [.ty (Ty.sl (Ty.i .i64))] (.one Ty.bool) fun a => F_law44_MonitorNewest a.1, fnS (K := K) sa_law44_MonitorNewest 111 [.tmp 2] [k_play_New, k_law44_sightings, k_monitor_Newest, k_ref24_Valid, k_ref24_Same, k_law44_sane] (fk Tryz.f4 [] Tryz.func4)⟩

end Go.Proofs.YtaebanabjdmgfaaGreat
