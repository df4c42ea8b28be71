/-
  Functions of the program as plain functions, each held against the program by the kernel. Printed by a program.
-/
import Derived.Test.YtaebanabjdmgfaaGreatMonitorPartsFnA
import Derived.Test.YtaebanabjdmgfaaGreatProg
import Derived.KernelRfl
set_option linter.unusedVariables false
namespace Go.Proofs.YtaebanabjdmgfaaGreat
open Go.TQ

/-! ### trustquorum/monitor.TwoFaced$1$1 -/
noncomputable def sa_monitor_TwoFaced_1_1 : SA U := annA (scOf Tryz.prog 7 [] Tryz.f48) .e
noncomputable def F_monitor_TwoFaced_1_1 (a0 : TEnvelope) (a1 : (List TEnvelope)) : Option Bool :=
 Option.bind (F_slices_ContainsFunc_api_Envelope_api_Envelope_c49 a1 (TEnvelope.mk a0.Node a0.Slot a0.Seq (TTrust.mk a0.Trust.Threshold a0.Trust.Nodes a0.Trust.Inner) a0.Kind a0.Ballot a0.Prepared a0.Prime a0.Low a0.High)) fun r1 =>
 some r1
noncomputable def k_monitor_TwoFaced_1_1 : KS U Tryz.prog := ⟨.fn 48 [.ty (Ty.st .Envelope), .ref (.ty (Ty.sl (Ty.st .Envelope)))] (.one Ty.bool) fun a => F_monitor_TwoFaced_1_1 a.1 a.2.1, fnS (K := K) sa_monitor_TwoFaced_1_1 7 [.tmp 3] [k_slices_ContainsFunc_api_Envelope_api_Envelope_c49] (fk Tryz.f48 [] Tryz.func48)⟩

/-! ### slices.IndexFunc[[]trustquorum/api.Envelope,trustquorum/api.Envelope] -/
noncomputable def sa_slices_IndexFunc_api_Envelope_api_Envelope_c48 : SA U := annA (scOf Tryz.prog 19 [] Tryz.f53) (.r (.l (.r (.l (.j ⟨[.val 8 (Ty.i .i64)], [0, 1, 7]⟩ .e)))))
noncomputable def F_slices_IndexFunc_api_Envelope_api_Envelope_c48 (a0 : (List TEnvelope)) (a1 : (List TEnvelope)) : Option Int :=
 loopO (fun (v1 : Int × Unit) =>
 bif (decide (v1.1 < ((List.length a0 : Nat) : Int))) then
 Option.bind (idx a0 v1.1) fun x2 =>
 Option.bind (F_monitor_TwoFaced_1_1 (TEnvelope.mk x2.Node x2.Slot x2.Seq (TTrust.mk x2.Trust.Threshold x2.Trust.Nodes x2.Trust.Inner) x2.Kind x2.Ballot x2.Prepared x2.Prime x2.Low x2.High) a1) fun r3 =>
 bif r3 then
 Option.map Sum.inr (some v1.1)
 else
 some (Sum.inl ((addI .i64 v1.1 (1 : Int)), ()))
 else
 Option.map Sum.inr (some (-1 : Int))) ((0 : Int), ())
noncomputable def k_slices_IndexFunc_api_Envelope_api_Envelope_c48 : KS U Tryz.prog := ⟨.fn 53 [.ty (Ty.sl (Ty.st .Envelope)), .clo 48 [.ref (.ty (Ty.sl (Ty.st .Envelope)))]] (.one (Ty.i .i64)) fun a => F_slices_IndexFunc_api_Envelope_api_Envelope_c48 a.1 a.2.1.1, fnS (K := K) sa_slices_IndexFunc_api_Envelope_api_Envelope_c48 19 [.tmp 4] [k_monitor_TwoFaced_1_1] (fk Tryz.f53 [] Tryz.func53)⟩

/-! ### slices.ContainsFunc[[]trustquorum/api.Envelope,trustquorum/api.Envelope] -/
noncomputable def sa_slices_ContainsFunc_api_Envelope_api_Envelope_c48 : SA U := annA (scOf Tryz.prog 9 [] Tryz.f47) .e
noncomputable def F_slices_ContainsFunc_api_Envelope_api_Envelope_c48 (a0 : (List TEnvelope)) (a1 : (List TEnvelope)) : Option Bool :=
 Option.bind (F_slices_IndexFunc_api_Envelope_api_Envelope_c48 a0 a1) fun r1 =>
 some (decide ((0 : Int) ≤ r1))
noncomputable def k_slices_ContainsFunc_api_Envelope_api_Envelope_c48 : KS U Tryz.prog := ⟨.fn 47 [.ty (Ty.sl (Ty.st .Envelope)), .clo 48 [.ref (.ty (Ty.sl (Ty.st .Envelope)))]] (.one Ty.bool) fun a => F_slices_ContainsFunc_api_Envelope_api_Envelope_c48 a.1 a.2.1.1, fnS (K := K) sa_slices_ContainsFunc_api_Envelope_api_Envelope_c48 9 [.tmp 4] [k_slices_IndexFunc_api_Envelope_api_Envelope_c48] (fk Tryz.f47 [] Tryz.func47)⟩

/-! ### trustquorum/monitor.TwoFaced$1 -/
noncomputable def sa_monitor_TwoFaced_1 : SA U := annA (scOf Tryz.prog 7 [] Tryz.f46) .e
noncomputable def F_monitor_TwoFaced_1 (a0 : (List TEnvelope)) : Option (ByteArray × Bool × Unit) :=
 Option.bind (F_slices_ContainsFunc_api_Envelope_api_Envelope_c48 a0 a0) fun r1 =>
 some ((ByteArray.mk #[]), r1, ())
noncomputable def k_monitor_TwoFaced_1 : KS U Tryz.prog := ⟨.fn 46 [.ty (Ty.sl (Ty.st .Envelope))] (.many [Ty.str, Ty.bool]) fun a => F_monitor_TwoFaced_1 a.1, fnS (K := K) sa_monitor_TwoFaced_1 7 [.tmp 2, .tmp 3] [k_slices_ContainsFunc_api_Envelope_api_Envelope_c48] (fk Tryz.f46 [] Tryz.func46)⟩

/-! ### (trustquorum/monitor.look).each -/
noncomputable def sa_monitor_look_each_c46 : SA U := annA (scOf Tryz.prog 46 [] Tryz.f51) (.r (.r (.r (.l (.r (.l (.ps (.own 7 29 5 (Ty.st .Finding)) (.j ⟨[.val 19 (Ty.i .i64), .own 7 13 1 29 5 (Ty.st .Finding)], [2, 5, 17, 18]⟩ (.l (.r (.r (.j ⟨[.own 7 13 1 29 5 (Ty.st .Finding)], [2, 5, 17, 18, 19]⟩ .e))))))))))))
noncomputable def F_monitor_look_each_c46 (a0 : Int) (a1 : (List TSighting)) : Option (List TFinding) :=
 Option.bind (F_monitor_files a1) fun r1 =>
 loopO (fun (v2 : Int × (List TFinding) × Unit) =>
 bif (decide (v2.1 < ((List.length r1.2.1 : Nat) : Int))) then
 letJ (fun (v3 : (List TFinding) × Unit) =>
 some (Sum.inl ((addI .i64 v2.1 (1 : Int)), v3.1, ()))) fun j4 =>
 Option.bind (idx r1.2.1 v2.1) fun x5 =>
 Option.bind (F_monitor_TwoFaced_1 (mget (fun p : TPlace => decide (x5.node = p.node) && decide (x5.slot = p.slot)) r1.1 ([] : List TEnvelope))) fun r6 =>
 bif r6.2.1 then
 bif lenOk 64 (List.length v2.2.1 + List.length [(TFinding.mk x5.node x5.slot a0 r6.1 ([] : List Int))]) then
 j4 ((v2.2.1 ++ [(TFinding.mk x5.node x5.slot a0 r6.1 ([] : List Int))]), ())
 else none
 else
 j4 (v2.2.1, ())
 else
 Option.map Sum.inr (some v2.2.1)) ((0 : Int), ([] : List TFinding), ())
noncomputable def k_monitor_look_each_c46 : KS U Tryz.prog := ⟨.fn 51 [.agg [.ty (Ty.i .i64), .clo 46 []], .ty (Ty.sl (Ty.st .Sighting))] (.one (Ty.sl (Ty.st .Finding))) fun a => F_monitor_look_each_c46 a.1.1 a.2.1, fnS (K := K) sa_monitor_look_each_c46 46 [.tmp 4] [k_monitor_files, k_monitor_TwoFaced_1] (fk Tryz.f51 [] Tryz.func51)⟩

/-! ### trustquorum/monitor.TwoFaced -/
noncomputable def sa_monitor_TwoFaced : SA U := annA (scOf Tryz.prog 8 [] Tryz.f21) .e
noncomputable def F_monitor_TwoFaced (a0 : (List TSighting)) : Option (List TFinding) :=
 Option.bind (F_monitor_look_each_c46 (3 : Int) a0) fun r1 =>
 some r1
noncomputable def k_monitor_TwoFaced : KS U Tryz.prog := ⟨.fn 21 [.ty (Ty.sl (Ty.st .Sighting))] (.one (Ty.sl (Ty.st .Finding))) fun a => F_monitor_TwoFaced a.1, fnS (K := K) sa_monitor_TwoFaced 8 [.tmp 2] [k_monitor_look_each_c46] (fk Tryz.f21 [] Tryz.func21)⟩

/-! ### trustquorum/monitor.External$1$1 -/
noncomputable def sa_monitor_External_1_1 : SA U := annA (scOf Tryz.prog 6 [] Tryz.f54) .e
noncomputable def F_monitor_External_1_1 (a0 : TEnvelope) : Option Bool :=
 some (decide (a0.Kind = (3 : Int)))
noncomputable def k_monitor_External_1_1 : KS U Tryz.prog := ⟨.fn 54 [.ty (Ty.st .Envelope)] (.one Ty.bool) fun a => F_monitor_External_1_1 a.1, fnS (K := K) sa_monitor_External_1_1 6 [.tmp 2] [] (fk Tryz.f54 [] Tryz.func54)⟩

/-! ### slices.IndexFunc[[]trustquorum/api.Envelope,trustquorum/api.Envelope] -/
noncomputable def sa_slices_IndexFunc_api_Envelope_api_Envelope_c54 : SA U := annA (scOf Tryz.prog 19 [] Tryz.f53) (.r (.l (.r (.l (.j ⟨[.val 8 (Ty.i .i64)], [0, 1, 7]⟩ .e)))))
noncomputable def F_slices_IndexFunc_api_Envelope_api_Envelope_c54 (a0 : (List TEnvelope)) : Option Int :=
 loopO (fun (v1 : Int × Unit) =>
 bif (decide (v1.1 < ((List.length a0 : Nat) : Int))) then
 Option.bind (idx a0 v1.1) fun x2 =>
 Option.bind (F_monitor_External_1_1 (TEnvelope.mk x2.Node x2.Slot x2.Seq (TTrust.mk x2.Trust.Threshold x2.Trust.Nodes x2.Trust.Inner) x2.Kind x2.Ballot x2.Prepared x2.Prime x2.Low x2.High)) fun r3 =>
 bif r3 then
 Option.map Sum.inr (some v1.1)
 else
 some (Sum.inl ((addI .i64 v1.1 (1 : Int)), ()))
 else
 Option.map Sum.inr (some (-1 : Int))) ((0 : Int), ())
noncomputable def k_slices_IndexFunc_api_Envelope_api_Envelope_c54 : KS U Tryz.prog := ⟨.fn 53 [.ty (Ty.sl (Ty.st .Envelope)), .clo 54 []] (.one (Ty.i .i64)) fun a => F_slices_IndexFunc_api_Envelope_api_Envelope_c54 a.1, fnS (K := K) sa_slices_IndexFunc_api_Envelope_api_Envelope_c54 19 [.tmp 4] [k_monitor_External_1_1] (fk Tryz.f53 [] Tryz.func53)⟩

/-! ### trustquorum/monitor.External$1 -/
noncomputable def sa_monitor_External_1 : SA U := annA (scOf Tryz.prog 15 [] Tryz.f52) .e
noncomputable def F_monitor_External_1 (a0 : (List TEnvelope)) : Option (ByteArray × Bool × Unit) :=
 Option.bind (F_slices_IndexFunc_api_Envelope_api_Envelope_c54 a0) fun r1 =>
 bif (decide (r1 < (0 : Int))) then
 some ((ByteArray.mk #[]), false, ())
 else
 Option.bind (idx a0 r1) fun x2 =>
 some (x2.Ballot.Value, true, ())
noncomputable def k_monitor_External_1 : KS U Tryz.prog := ⟨.fn 52 [.ty (Ty.sl (Ty.st .Envelope))] (.many [Ty.str, Ty.bool]) fun a => F_monitor_External_1 a.1, fnS (K := K) sa_monitor_External_1 15 [.tmp 2, .tmp 3] [k_slices_IndexFunc_api_Envelope_api_Envelope_c54] (fk Tryz.f52 [] Tryz.func52)⟩

/-! ### (trustquorum/monitor.look).each -/
noncomputable def sa_monitor_look_each_c52 : SA U := annA (scOf Tryz.prog 46 [] Tryz.f51) (.r (.r (.r (.l (.r (.l (.ps (.own 7 29 5 (Ty.st .Finding)) (.j ⟨[.val 19 (Ty.i .i64), .own 7 13 1 29 5 (Ty.st .Finding)], [2, 5, 17, 18]⟩ (.l (.r (.r (.j ⟨[.own 7 13 1 29 5 (Ty.st .Finding)], [2, 5, 17, 18, 19]⟩ .e))))))))))))
noncomputable def F_monitor_look_each_c52 (a0 : Int) (a1 : (List TSighting)) : Option (List TFinding) :=
 Option.bind (F_monitor_files a1) fun r1 =>
 loopO (fun (v2 : Int × (List TFinding) × Unit) =>
 bif (decide (v2.1 < ((List.length r1.2.1 : Nat) : Int))) then
 letJ (fun (v3 : (List TFinding) × Unit) =>
 some (Sum.inl ((addI .i64 v2.1 (1 : Int)), v3.1, ()))) fun j4 =>
 Option.bind (idx r1.2.1 v2.1) fun x5 =>
 Option.bind (F_monitor_External_1 (mget (fun p : TPlace => decide (x5.node = p.node) && decide (x5.slot = p.slot)) r1.1 ([] : List TEnvelope))) fun r6 =>
 bif r6.2.1 then
 bif lenOk 64 (List.length v2.2.1 + List.length [(TFinding.mk x5.node x5.slot a0 r6.1 ([] : List Int))]) then
 j4 ((v2.2.1 ++ [(TFinding.mk x5.node x5.slot a0 r6.1 ([] : List Int))]), ())
 else none
 else
 j4 (v2.2.1, ())
 else
 Option.map Sum.inr (some v2.2.1)) ((0 : Int), ([] : List TFinding), ())
noncomputable def k_monitor_look_each_c52 : KS U Tryz.prog := ⟨.fn 51 [.agg [.ty (Ty.i .i64), .clo 52 []], .ty (Ty.sl (Ty.st .Sighting))] (.one (Ty.sl (Ty.st .Finding))) fun a => F_monitor_look_each_c52 a.1.1 a.2.1, fnS (K := K) sa_monitor_look_each_c52 46 [.tmp 4] [k_monitor_files, k_monitor_External_1] (fk Tryz.f51 [] Tryz.func51)⟩

/-! ### trustquorum/monitor.External -/
noncomputable def sa_monitor_External : SA U := annA (scOf Tryz.prog 8 [] Tryz.f22) .e
noncomputable def F_monitor_External (a0 : (List TSighting)) : Option (List TFinding) :=
 Option.bind (F_monitor_look_each_c52 (1 : Int) a0) fun r1 =>
 some r1
noncomputable def k_monitor_External : KS U Tryz.prog := ⟨.fn 22 [.ty (Ty.sl (Ty.st .Sighting))] (.one (Ty.sl (Ty.st .Finding))) fun a => F_monitor_External a.1, fnS (K := K) sa_monitor_External 8 [.tmp 2] [k_monitor_look_each_c52] (fk Tryz.f22 [] Tryz.func22)⟩

/-! ### trustquorum/trustquorumref31.Ints -/
noncomputable def sa_ref31_Ints : SA U := annA (scOf Tryz.prog 26 [] Tryz.f55) (.r (.r (.l (.r (.l (.j ⟨[.val 13 (Ty.i .i64)], [0, 1, 12]⟩ .e))))))
noncomputable def F_ref31_Ints (a0 : (List Int)) (a1 : (List Int)) : Option Bool :=
 bif (!decide (((List.length a0 : Nat) : Int) = ((List.length a1 : Nat) : Int))) then
 some false
 else
 loopO (fun (v1 : Int × Unit) =>
 bif (decide (v1.1 < ((List.length a0 : Nat) : Int))) then
 Option.bind (idx a0 v1.1) fun x2 =>
 Option.bind (idx a1 v1.1) fun x3 =>
 bif (!decide (x2 = x3)) then
 Option.map Sum.inr (some false)
 else
 some (Sum.inl ((addI .i64 v1.1 (1 : Int)), ()))
 else
 Option.map Sum.inr (some true)) ((0 : Int), ())
noncomputable def k_ref31_Ints : KS U Tryz.prog := ⟨.fn 55 [.ty (Ty.sl (Ty.i .i64)), .ty (Ty.sl (Ty.i .i64))] (.one Ty.bool) fun a => F_ref31_Ints a.1 a.2.1, fnS (K := K) sa_ref31_Ints 26 [.tmp 4] [] (fk Tryz.f55 [] Tryz.func55)⟩

/-! ### trustquorum/trustquorumref44.Findings -/
noncomputable def sa_ref44_Findings : SA U := annA (scOf Tryz.prog 61 [] Tryz.f23) (.r (.r (.l (.r (.l (.j ⟨[.val 15 (Ty.i .i64)], [0, 1, 14]⟩ .e))))))
noncomputable def F_ref44_Findings (a0 : (List TFinding)) (a1 : (List TFinding)) : Option Bool :=
 bif (!decide (((List.length a0 : Nat) : Int) = ((List.length a1 : Nat) : Int))) then
 some false
 else
 loopO (fun (v1 : Int × Unit) =>
 bif (decide (v1.1 < ((List.length a0 : Nat) : Int))) then
 Option.bind (idx a0 v1.1) fun x2 =>
 Option.bind (idx a1 v1.1) fun x3 =>
 Option.bind (bif (!decide (x2.Node = x3.Node)) then some true
 else
 some (!decide (x2.Slot = x3.Slot))) fun b4 =>
 Option.bind (bif b4 then some true
 else
 some (!decide (x2.Kind = x3.Kind))) fun b5 =>
 Option.bind (bif b5 then some true
 else
 some (!decide (x2.Value = x3.Value))) fun b6 =>
 Option.bind (bif b6 then some true
 else
 Option.bind (F_ref31_Ints x2.Needs x3.Needs) fun r7 =>
 some (!r7)) fun b8 =>
 bif b8 then
 Option.map Sum.inr (some false)
 else
 some (Sum.inl ((addI .i64 v1.1 (1 : Int)), ()))
 else
 Option.map Sum.inr (some true)) ((0 : Int), ())
noncomputable def k_ref44_Findings : KS U Tryz.prog := ⟨.fn 23 [.ty (Ty.sl (Ty.st .Finding)), .ty (Ty.sl (Ty.st .Finding))] (.one Ty.bool) fun a => F_ref44_Findings a.1 a.2.1, fnS (K := K) sa_ref44_Findings 61 [.tmp 4] [k_ref31_Ints] (fk Tryz.f23 [] Tryz.func23)⟩

/-! ### trustquorum/trustquorumlaw44.MonitorParts -/
noncomputable def sa_law44_MonitorParts : SA U := annA (scOf Tryz.prog 135 [] Tryz.f6) (.r (.r (.r (.r (.r (.b (.r (.l (.ps (.own 6 57 26 (Ty.st .Sighting)) (.j ⟨[.val 7 (Ty.i .i64), .own 6 20 1 57 26 (Ty.st .Sighting)], [4, 5]⟩ .e)))) (.r (.b (.r (.l (.j ⟨[.val 52 (Ty.i .i64)], [5, 6, 8, 9, 50, 51]⟩ (.l (.r (.r (.l (.l (.r (.r (.l (.r (.l (.j ⟨[.val 12 Ty.bool, .val 58 (Ty.i .i64)], [5, 6, 8, 9, 11, 50, 51, 52, 56, 57]⟩ .e)))))))))))))) (.b (.r (.l (.j ⟨[.val 91 (Ty.i .i64)], [6, 8, 9, 89, 90]⟩ (.l (.r (.r (.l (.l (.r (.r (.l (.r (.l (.j ⟨[.val 17 Ty.bool, .val 97 (Ty.i .i64)], [6, 8, 9, 16, 89, 90, 91, 95, 96]⟩ .e)))))))))))))) (.l (.g [(0, .ps (.frz 6))])))))))))))
noncomputable def F_law44_MonitorParts (a0 : (List Int)) : Option Bool :=
 Option.bind (F_play_New a0) fun r1 =>
 Option.bind (F_law44_sightings r1) fun p2 =>
 Option.bind (F_play_Src_N p2.2 (addI .i64 ((List.length p2.1 : Nat) : Int) (1 : Int))) fun p3 =>
 bif slcOk (0 : Int) p3.1 (List.length p2.1) then
 loopO (fun (v4 : Int × (List TSighting) × Unit) =>
 bif (decide ((0 : Int) ≤ v4.1)) then
 Option.bind (idx p2.1 v4.1) fun x5 =>
 bif lenOk 328 (List.length v4.2.1 + List.length [(TSighting.mk x5.Time x5.From (TLetter.mk x5.Letter.Kind x5.Letter.Slot (TNomination.mk x5.Letter.Nomination.Node x5.Letter.Nomination.Seq (TTrust.mk x5.Letter.Nomination.Trust.Threshold x5.Letter.Nomination.Trust.Nodes x5.Letter.Nomination.Trust.Inner) x5.Letter.Nomination.Votes x5.Letter.Nomination.Accepts) (TEnvelope.mk x5.Letter.Envelope.Node x5.Letter.Envelope.Slot x5.Letter.Envelope.Seq (TTrust.mk x5.Letter.Envelope.Trust.Threshold x5.Letter.Envelope.Trust.Nodes x5.Letter.Envelope.Trust.Inner) x5.Letter.Envelope.Kind x5.Letter.Envelope.Ballot x5.Letter.Envelope.Prepared x5.Letter.Envelope.Prime x5.Letter.Envelope.Low x5.Letter.Envelope.High)))]) then
 some (Sum.inl ((subI .i64 v4.1 (1 : Int)), (v4.2.1 ++ [(TSighting.mk x5.Time x5.From (TLetter.mk x5.Letter.Kind x5.Letter.Slot (TNomination.mk x5.Letter.Nomination.Node x5.Letter.Nomination.Seq (TTrust.mk x5.Letter.Nomination.Trust.Threshold x5.Letter.Nomination.Trust.Nodes x5.Letter.Nomination.Trust.Inner) x5.Letter.Nomination.Votes x5.Letter.Nomination.Accepts) (TEnvelope.mk x5.Letter.Envelope.Node x5.Letter.Envelope.Slot x5.Letter.Envelope.Seq (TTrust.mk x5.Letter.Envelope.Trust.Threshold x5.Letter.Envelope.Trust.Nodes x5.Letter.Envelope.Trust.Inner) x5.Letter.Envelope.Kind x5.Letter.Envelope.Ballot x5.Letter.Envelope.Prepared x5.Letter.Envelope.Prime x5.Letter.Envelope.Low x5.Letter.Envelope.High)))]), ()))
 else none
 else
 Option.map Sum.inr (Option.bind (F_monitor_External p2.1) fun r6 =>
 Option.bind (F_monitor_TwoFaced p2.1) fun r7 =>
 Option.bind (F_monitor_External ((p2.1.take (Int.toNat p3.1)).drop (Int.toNat (0 : Int)))) fun r8 =>
 loopO (fun (v9 : Int × Unit) =>
 bif (decide (v9.1 < ((List.length r8 : Nat) : Int))) then
 Option.bind (idx r8 v9.1) fun x10 =>
 loopO (fun (v11 : Bool × Int × Unit) =>
 bif (decide (v11.2.1 < ((List.length r6 : Nat) : Int))) then
 Option.bind (idx r6 v11.2.1) fun x12 =>
 Option.bind (bif v11.1 then some true
 else
 Option.bind (bif (decide (x12.Node = x10.Node)) then
 some (decide (x12.Slot = x10.Slot))
 else some false) fun b13 =>
 Option.bind (bif b13 then
 some (decide (x12.Value = x10.Value))
 else some false) fun b14 =>
 some b14) fun b15 =>
 some (Sum.inl (b15, (addI .i64 v11.2.1 (1 : Int)), ()))
 else
 Option.map Sum.inr (bif (!v11.1) then
 Option.map Sum.inr (some false)
 else
 some (Sum.inl ((addI .i64 v9.1 (1 : Int)), ())))) (false, (0 : Int), ())
 else
 Option.map Sum.inr (Option.bind (F_monitor_TwoFaced ((p2.1.take (Int.toNat p3.1)).drop (Int.toNat (0 : Int)))) fun r16 =>
 loopO (fun (v17 : Int × Unit) =>
 bif (decide (v17.1 < ((List.length r16 : Nat) : Int))) then
 Option.bind (idx r16 v17.1) fun x18 =>
 loopO (fun (v19 : Bool × Int × Unit) =>
 bif (decide (v19.2.1 < ((List.length r7 : Nat) : Int))) then
 Option.bind (idx r7 v19.2.1) fun x20 =>
 Option.bind (bif v19.1 then some true
 else
 Option.bind (bif (decide (x20.Node = x18.Node)) then
 some (decide (x20.Slot = x18.Slot))
 else some false) fun b21 =>
 some b21) fun b22 =>
 some (Sum.inl (b22, (addI .i64 v19.2.1 (1 : Int)), ()))
 else
 Option.map Sum.inr (bif (!v19.1) then
 Option.map Sum.inr (some false)
 else
 some (Sum.inl ((addI .i64 v17.1 (1 : Int)), ())))) (false, (0 : Int), ())
 else
 Option.map Sum.inr (Option.bind (F_monitor_TwoFaced v4.2.1) fun r23 =>
 Option.bind (F_ref44_Findings r23 r7) fun r24 =>
 Option.bind (bif r24 then
 Option.bind (F_monitor_External v4.2.1) fun r25 =>
 some (decide (((List.length r25 : Nat) : Int) = ((List.length r6 : Nat) : Int)))
 else some false) fun b26 =>
 Option.bind (bif b26 then
 Option.bind (F_law44_sane) fun r27 =>
 some r27
 else some false) fun b28 =>
 some b28)) ((0 : Int), ()))) ((0 : Int), ()))) ((subI .i64 ((List.length p2.1 : Nat) : Int) (1 : Int)), ([] : List TSighting), ())
 else none
noncomputable def k_law44_MonitorParts : KS U Tryz.prog := ⟨.fn 6 [.ty (Ty.sl (Ty.i .i64))] (.one Ty.bool) fun a => F_law44_MonitorParts a.1, fnS (K := K) sa_law44_MonitorParts 135 [.tmp 2] [k_play_New, k_law44_sightings, k_play_Src_N, k_monitor_External, k_monitor_TwoFaced, k_ref44_Findings, k_law44_sane] (fk Tryz.f6 [] Tryz.func6)⟩

end Go.Proofs.YtaebanabjdmgfaaGreat
