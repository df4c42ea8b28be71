/-
  Functions of the program as plain functions, each held against the program by the kernel. Printed by a program.
-/
import Derived.Test.YtncjalhhkmojlaaGreatEnvelopesExactFnA
import Derived.Test.YtncjalhhkmojlaaGreatProg
import Derived.KernelRfl
set_option linter.unusedVariables false
namespace Go.Proofs.YtncjalhhkmojlaaGreat
open Go.TQ

/-! ### (*trustquorum/trustquorumplay.Src).BentEnvelope -/
noncomputable def sa_play_Src_BentEnvelope : SA U := annA (scOf Tryz.prog 68 [] Tryz.f71) (.r (.j ⟨[.box 0 0 (Ty.st .Src) [], .box 1 1 (Ty.st .Envelope) []], [3, 4]⟩ .e))
noncomputable def F_play_Src_BentEnvelope (s : TSrc) (a0 : TEnvelope) : Option (TEnvelope × TSrc) :=
 letJ (fun (v1 : TSrc × TEnvelope × Unit) =>
 some ((TEnvelope.mk v1.2.1.Node v1.2.1.Slot v1.2.1.Seq (TTrust.mk v1.2.1.Trust.Threshold v1.2.1.Trust.Nodes v1.2.1.Trust.Inner) v1.2.1.Kind v1.2.1.Ballot v1.2.1.Prepared v1.2.1.Prime v1.2.1.Low v1.2.1.High), v1.1)) fun j2 =>
 Option.bind (F_play_Src_N s (10 : Int)) fun p3 =>
 bif (decide (p3.1 = (0 : Int))) then
 Option.bind (F_play_Src_Pick p3.2 [(-1 : Int), (10 : Int), (3 : Int)]) fun p4 =>
 j2 (p4.2, (TEnvelope.mk p4.1 a0.Slot a0.Seq (TTrust.mk a0.Trust.Threshold a0.Trust.Nodes a0.Trust.Inner) a0.Kind a0.Ballot a0.Prepared a0.Prime a0.Low a0.High), ())
 else
 bif (decide (p3.1 = (1 : Int))) then
 Option.bind (F_play_Src_Pick p3.2 [(0 : Int), (1000001 : Int), (2 : Int)]) fun p5 =>
 j2 (p5.2, (TEnvelope.mk a0.Node p5.1 a0.Seq (TTrust.mk a0.Trust.Threshold a0.Trust.Nodes a0.Trust.Inner) a0.Kind a0.Ballot a0.Prepared a0.Prime a0.Low a0.High), ())
 else
 bif (decide (p3.1 = (2 : Int))) then
 Option.bind (F_play_Src_Odd p3.2) fun p6 =>
 j2 (p6.2, (TEnvelope.mk a0.Node a0.Slot p6.1 (TTrust.mk a0.Trust.Threshold a0.Trust.Nodes a0.Trust.Inner) a0.Kind a0.Ballot a0.Prepared a0.Prime a0.Low a0.High), ())
 else
 bif (decide (p3.1 = (3 : Int))) then
 Option.bind (F_play_Src_Pick p3.2 [(0 : Int), (20 : Int)]) fun p7 =>
 j2 (p7.2, (TEnvelope.mk a0.Node a0.Slot a0.Seq (TTrust.mk p7.1 a0.Trust.Nodes a0.Trust.Inner) a0.Kind a0.Ballot a0.Prepared a0.Prime a0.Low a0.High), ())
 else
 bif (decide (p3.1 = (4 : Int))) then
 Option.bind (F_play_Src_Range p3.2 (0 : Int) (4 : Int)) fun p8 =>
 j2 (p8.2, (TEnvelope.mk a0.Node a0.Slot a0.Seq (TTrust.mk a0.Trust.Threshold a0.Trust.Nodes a0.Trust.Inner) p8.1 a0.Ballot a0.Prepared a0.Prime a0.Low a0.High), ())
 else
 bif (decide (p3.1 = (5 : Int))) then
 Option.bind (F_play_Src_Odd p3.2) fun p9 =>
 Option.bind (F_play_Src_Text p9.2 [(ByteArray.mk #[]), (ByteArray.mk #[97]), (ByteArray.mk #[98])]) fun p10 =>
 j2 (p10.2, (TEnvelope.mk a0.Node a0.Slot a0.Seq (TTrust.mk a0.Trust.Threshold a0.Trust.Nodes a0.Trust.Inner) a0.Kind (TBallot.mk p9.1 p10.1) a0.Prepared a0.Prime a0.Low a0.High), ())
 else
 bif (decide (p3.1 = (6 : Int))) then
 Option.bind (F_play_Src_Odd p3.2) fun p11 =>
 Option.bind (F_play_Src_Text p11.2 [(ByteArray.mk #[]), (ByteArray.mk #[97]), (ByteArray.mk #[98])]) fun p12 =>
 j2 (p12.2, (TEnvelope.mk a0.Node a0.Slot a0.Seq (TTrust.mk a0.Trust.Threshold a0.Trust.Nodes a0.Trust.Inner) a0.Kind a0.Ballot (TBallot.mk p11.1 p12.1) a0.Prime a0.Low a0.High), ())
 else
 bif (decide (p3.1 = (7 : Int))) then
 Option.bind (F_play_Src_Ballot p3.2) fun p13 =>
 j2 (p13.2, (TEnvelope.mk a0.Node a0.Slot a0.Seq (TTrust.mk a0.Trust.Threshold a0.Trust.Nodes a0.Trust.Inner) a0.Kind a0.Ballot a0.Prepared p13.1 a0.Low a0.High), ())
 else
 bif (decide (p3.1 = (8 : Int))) then
 Option.bind (F_play_Src_Odd p3.2) fun p14 =>
 j2 (p14.2, (TEnvelope.mk a0.Node a0.Slot a0.Seq (TTrust.mk a0.Trust.Threshold a0.Trust.Nodes a0.Trust.Inner) a0.Kind a0.Ballot a0.Prepared a0.Prime p14.1 a0.High), ())
 else
 Option.bind (F_play_Src_Odd p3.2) fun p15 =>
 j2 (p15.2, (TEnvelope.mk a0.Node a0.Slot a0.Seq (TTrust.mk a0.Trust.Threshold a0.Trust.Nodes a0.Trust.Inner) a0.Kind a0.Ballot a0.Prepared a0.Prime a0.Low p15.1), ())
noncomputable def k_play_Src_BentEnvelope : KS U Tryz.prog := ⟨.rc 71 0 (Ty.st .Src) [.ty (Ty.st .Envelope)] (.one (Ty.st .Envelope)) fun s a => F_play_Src_BentEnvelope s a.1, rcS (K := K) sa_play_Src_BentEnvelope 68 [.cell 4 (some 15)] [k_play_Src_N, k_play_Src_Pick, k_play_Src_Odd, k_play_Src_Range, k_play_Src_Text, k_play_Src_Ballot] (fk Tryz.f71 [] Tryz.func71)⟩

/-! ### trustquorum/copies.Envelope -/
noncomputable def sa_copies_Envelope : SA U := annA (scOf Tryz.prog 8 [] Tryz.f129) .e
noncomputable def F_copies_Envelope (a0 : TEnvelope) : Option TEnvelope :=
 Option.bind (F_copies_Trust (TTrust.mk a0.Trust.Threshold a0.Trust.Nodes a0.Trust.Inner)) fun r1 =>
 some (TEnvelope.mk a0.Node a0.Slot a0.Seq (TTrust.mk r1.Threshold r1.Nodes r1.Inner) a0.Kind a0.Ballot a0.Prepared a0.Prime a0.Low a0.High)
noncomputable def k_copies_Envelope : KS U Tryz.prog := ⟨.fn 129 [.ty (Ty.st .Envelope)] (.one (Ty.st .Envelope)) fun a => F_copies_Envelope a.1, fnS (K := K) sa_copies_Envelope 8 [.cell 2 (some 15)] [k_copies_Trust] (fk Tryz.f129 [] Tryz.func129)⟩

/-! ### trustquorum/copies.All[trustquorum/api.Envelope] -/
noncomputable def sa_copies_All_api_Envelope_c129 : SA U := annA (scOf Tryz.prog 22 [] Tryz.f128) (.r (.r (.l (.r (.l (.ps (.own 5 38 15 (Ty.st .Envelope)) (.j ⟨[.val 10 (Ty.i .i64), .own 5 5 1 38 15 (Ty.st .Envelope)], [1, 8, 9]⟩ .e)))))))
noncomputable def F_copies_All_api_Envelope_c129 (a0 : (List TEnvelope)) : Option (List TEnvelope) :=
 loopO (fun (v1 : Int × (List TEnvelope) × Unit) =>
 bif (decide (v1.1 < ((List.length a0 : Nat) : Int))) then
 Option.bind (idx a0 v1.1) fun x2 =>
 Option.bind (F_copies_Envelope (TEnvelope.mk x2.Node x2.Slot x2.Seq (TTrust.mk x2.Trust.Threshold x2.Trust.Nodes x2.Trust.Inner) x2.Kind x2.Ballot x2.Prepared x2.Prime x2.Low x2.High)) fun r3 =>
 bif lenOk 176 (List.length v1.2.1 + List.length [(TEnvelope.mk r3.Node r3.Slot r3.Seq (TTrust.mk r3.Trust.Threshold r3.Trust.Nodes r3.Trust.Inner) r3.Kind r3.Ballot r3.Prepared r3.Prime r3.Low r3.High)]) then
 some (Sum.inl ((addI .i64 v1.1 (1 : Int)), (v1.2.1 ++ [(TEnvelope.mk r3.Node r3.Slot r3.Seq (TTrust.mk r3.Trust.Threshold r3.Trust.Nodes r3.Trust.Inner) r3.Kind r3.Ballot r3.Prepared r3.Prime r3.Low r3.High)]), ()))
 else none
 else
 Option.map Sum.inr (some v1.2.1)) ((0 : Int), ([] : List TEnvelope), ())
noncomputable def k_copies_All_api_Envelope_c129 : KS U Tryz.prog := ⟨.fw 128 [.ty (Ty.sl (Ty.st .Envelope)), .clo 129 []] 38 15 (Ty.st .Envelope) fun a => F_copies_All_api_Envelope_c129 a.1, fwS (K := K) sa_copies_All_api_Envelope_c129 22 [.tmp 4] [k_copies_Envelope] (fk Tryz.f128 [] Tryz.func128)⟩

/-! ### trustquorum/envelopes.Put$1 -/
noncomputable def sa_envelopes_Put_1 : SA U := annA (scOf Tryz.prog 9 [] Tryz.f131) .e
noncomputable def F_envelopes_Put_1 (a0 : TEnvelope) (a1 : TEnvelope) : Option Bool :=
 some (decide (a0.Node = a1.Node))
noncomputable def k_envelopes_Put_1 : KS U Tryz.prog := ⟨.fn 131 [.ty (Ty.st .Envelope), .ref (.ty (Ty.st .Envelope))] (.one Ty.bool) fun a => F_envelopes_Put_1 a.1 a.2.1, fnS (K := K) sa_envelopes_Put_1 9 [.tmp 3] [] (fk Tryz.f131 [] Tryz.func131)⟩

/-! ### slices.IndexFunc[[]trustquorum/api.Envelope,trustquorum/api.Envelope] -/
noncomputable def sa_slices_IndexFunc_api_Envelope_api_Envelope_c131 : SA U := annA (scOf Tryz.prog 19 [] Tryz.f130) (.r (.l (.r (.l (.j ⟨[.val 8 (Ty.i .i64)], [0, 1, 7]⟩ .e)))))
noncomputable def F_slices_IndexFunc_api_Envelope_api_Envelope_c131 (a0 : (List TEnvelope)) (a1 : TEnvelope) : Option Int :=
 loopO (fun (v1 : Int × Unit) =>
 bif (decide (v1.1 < ((List.length a0 : Nat) : Int))) then
 Option.bind (idx a0 v1.1) fun x2 =>
 Option.bind (F_envelopes_Put_1 (TEnvelope.mk x2.Node x2.Slot x2.Seq (TTrust.mk x2.Trust.Threshold x2.Trust.Nodes x2.Trust.Inner) x2.Kind x2.Ballot x2.Prepared x2.Prime x2.Low x2.High) (TEnvelope.mk a1.Node a1.Slot a1.Seq (TTrust.mk a1.Trust.Threshold a1.Trust.Nodes a1.Trust.Inner) a1.Kind a1.Ballot a1.Prepared a1.Prime a1.Low a1.High)) fun r3 =>
 bif r3 then
 Option.map Sum.inr (some v1.1)
 else
 some (Sum.inl ((addI .i64 v1.1 (1 : Int)), ()))
 else
 Option.map Sum.inr (some (-1 : Int))) ((0 : Int), ())
noncomputable def k_slices_IndexFunc_api_Envelope_api_Envelope_c131 : KS U Tryz.prog := ⟨.fn 130 [.ty (Ty.sl (Ty.st .Envelope)), .clo 131 [.ref (.ty (Ty.st .Envelope))]] (.one (Ty.i .i64)) fun a => F_slices_IndexFunc_api_Envelope_api_Envelope_c131 a.1 a.2.1.1, fnS (K := K) sa_slices_IndexFunc_api_Envelope_api_Envelope_c131 19 [.tmp 4] [k_envelopes_Put_1] (fk Tryz.f130 [] Tryz.func130)⟩

/-! ### trustquorum/envelopes.Put$2 -/
noncomputable def sa_envelopes_Put_2 : SA U := annA (scOf Tryz.prog 9 [] Tryz.f132) .e
noncomputable def F_envelopes_Put_2 (a0 : TEnvelope) (a1 : TEnvelope) : Option Bool :=
 some (decide (a1.Node < a0.Node))
noncomputable def k_envelopes_Put_2 : KS U Tryz.prog := ⟨.fn 132 [.ty (Ty.st .Envelope), .ref (.ty (Ty.st .Envelope))] (.one Ty.bool) fun a => F_envelopes_Put_2 a.1 a.2.1, fnS (K := K) sa_envelopes_Put_2 9 [.tmp 3] [] (fk Tryz.f132 [] Tryz.func132)⟩

/-! ### slices.IndexFunc[[]trustquorum/api.Envelope,trustquorum/api.Envelope] -/
noncomputable def sa_slices_IndexFunc_api_Envelope_api_Envelope_c132 : SA U := annA (scOf Tryz.prog 19 [] Tryz.f130) (.r (.l (.r (.l (.j ⟨[.val 8 (Ty.i .i64)], [0, 1, 7]⟩ .e)))))
noncomputable def F_slices_IndexFunc_api_Envelope_api_Envelope_c132 (a0 : (List TEnvelope)) (a1 : TEnvelope) : Option Int :=
 loopO (fun (v1 : Int × Unit) =>
 bif (decide (v1.1 < ((List.length a0 : Nat) : Int))) then
 Option.bind (idx a0 v1.1) fun x2 =>
 Option.bind (F_envelopes_Put_2 (TEnvelope.mk x2.Node x2.Slot x2.Seq (TTrust.mk x2.Trust.Threshold x2.Trust.Nodes x2.Trust.Inner) x2.Kind x2.Ballot x2.Prepared x2.Prime x2.Low x2.High) (TEnvelope.mk a1.Node a1.Slot a1.Seq (TTrust.mk a1.Trust.Threshold a1.Trust.Nodes a1.Trust.Inner) a1.Kind a1.Ballot a1.Prepared a1.Prime a1.Low a1.High)) fun r3 =>
 bif r3 then
 Option.map Sum.inr (some v1.1)
 else
 some (Sum.inl ((addI .i64 v1.1 (1 : Int)), ()))
 else
 Option.map Sum.inr (some (-1 : Int))) ((0 : Int), ())
noncomputable def k_slices_IndexFunc_api_Envelope_api_Envelope_c132 : KS U Tryz.prog := ⟨.fn 130 [.ty (Ty.sl (Ty.st .Envelope)), .clo 132 [.ref (.ty (Ty.st .Envelope))]] (.one (Ty.i .i64)) fun a => F_slices_IndexFunc_api_Envelope_api_Envelope_c132 a.1 a.2.1.1, fnS (K := K) sa_slices_IndexFunc_api_Envelope_api_Envelope_c132 19 [.tmp 4] [k_envelopes_Put_2] (fk Tryz.f130 [] Tryz.func130)⟩

/-! ### slices.Insert[[]trustquorum/api.Envelope,trustquorum/api.Envelope] -/
noncomputable def F_slices_Insert_api_Envelope_api_Envelope (s : List TEnvelope) (a0 : Int) (a1 : List TEnvelope) : Option (List TEnvelope) := insF 176 s a0 a1
noncomputable def k_slices_Insert_api_Envelope_api_Envelope : KS U Tryz.prog := ⟨.cw 133 38 15 (Ty.st .Envelope) [.ty (Ty.i .i64), .ty (Ty.sl (Ty.st .Envelope))] fun s a => F_slices_Insert_api_Envelope_api_Envelope s a.1 a.2.1, insS ins133.ways ins133.enters (fun _ => rfl)⟩

/-! ### trustquorum/envelopes.Put -/
noncomputable def sa_envelopes_Put : SA U := annA (scOf Tryz.prog 48 [] Tryz.f72) (.r (.r (.r (.r (.r (.r (.j ⟨[.val 8 (Ty.i .i64)], [3, 6]⟩ .e)))))))
noncomputable def F_envelopes_Put (a0 : (List TEnvelope)) (a1 : TEnvelope) : Option ((List TEnvelope) × Bool × Unit) :=
 Option.bind (F_copies_All_api_Envelope_c129 a0) fun r1 =>
 Option.bind (F_envelopes_Valid (TEnvelope.mk a1.Node a1.Slot a1.Seq (TTrust.mk a1.Trust.Threshold a1.Trust.Nodes a1.Trust.Inner) a1.Kind a1.Ballot a1.Prepared a1.Prime a1.Low a1.High)) fun r2 =>
 bif (!r2) then
 some (r1, false, ())
 else
 Option.bind (F_copies_Envelope (TEnvelope.mk a1.Node a1.Slot a1.Seq (TTrust.mk a1.Trust.Threshold a1.Trust.Nodes a1.Trust.Inner) a1.Kind a1.Ballot a1.Prepared a1.Prime a1.Low a1.High)) fun r3 =>
 Option.bind (F_slices_IndexFunc_api_Envelope_api_Envelope_c131 r1 (TEnvelope.mk r3.Node r3.Slot r3.Seq (TTrust.mk r3.Trust.Threshold r3.Trust.Nodes r3.Trust.Inner) r3.Kind r3.Ballot r3.Prepared r3.Prime r3.Low r3.High)) fun r4 =>
 bif (decide ((0 : Int) ≤ r4)) then
 Option.bind (idx r1 r4) fun x5 =>
 Option.bind (r1[(Int.toNat r4)]?) fun x6 =>
 Option.bind (r1[(Int.toNat r4)]?) fun x7 =>
 bif (decide (r3.Seq ≤ x7.Seq)) then
 some (r1, false, ())
 else
 Option.bind (idx r1 r4) fun x8 =>
 Option.bind (r1[(Int.toNat r4)]?) fun x9 =>
 some ((r1.set (Int.toNat r4) (TEnvelope.mk r3.Node r3.Slot r3.Seq (TTrust.mk r3.Trust.Threshold r3.Trust.Nodes r3.Trust.Inner) r3.Kind r3.Ballot r3.Prepared r3.Prime r3.Low r3.High)), true, ())
 else
 Option.bind (F_slices_IndexFunc_api_Envelope_api_Envelope_c132 r1 (TEnvelope.mk r3.Node r3.Slot r3.Seq (TTrust.mk r3.Trust.Threshold r3.Trust.Nodes r3.Trust.Inner) r3.Kind r3.Ballot r3.Prepared r3.Prime r3.Low r3.High)) fun r10 =>
 letJ (fun (v11 : Int × Unit) =>
 Option.bind (F_slices_Insert_api_Envelope_api_Envelope r1 v11.1 [(TEnvelope.mk r3.Node r3.Slot r3.Seq (TTrust.mk r3.Trust.Threshold r3.Trust.Nodes r3.Trust.Inner) r3.Kind r3.Ballot r3.Prepared r3.Prime r3.Low r3.High)]) fun r13 =>
 some (r13, true, ())) fun j12 =>
 bif (decide (r10 < (0 : Int))) then
 j12 (((List.length r1 : Nat) : Int), ())
 else
 j12 (r10, ())
noncomputable def k_envelopes_Put : KS U Tryz.prog := ⟨.fn 72 [.ty (Ty.sl (Ty.st .Envelope)), .ty (Ty.st .Envelope)] (.many [(Ty.sl (Ty.st .Envelope)), Ty.bool]) fun a => F_envelopes_Put a.1 a.2.1, fnS (K := K) sa_envelopes_Put 48 [.tmp 4, .tmp 5] [k_copies_All_api_Envelope_c129, k_envelopes_Valid, k_copies_Envelope, k_slices_IndexFunc_api_Envelope_api_Envelope_c131, k_slices_IndexFunc_api_Envelope_api_Envelope_c132, k_slices_Insert_api_Envelope_api_Envelope] (fk Tryz.f72 [] Tryz.func72)⟩

/-! ### trustquorum/trustquorumref24.Put -/
noncomputable def sa_ref24_Put : SA U := annA (scOf Tryz.prog 71 [] Tryz.f73) (.r (.r (.b (.r (.l (.j ⟨[.val 15 (Ty.i .i64)], [0, 3, 13, 14]⟩ .e))) (.r (.l (.l (.j ⟨[.val 8 (Ty.i .i64)], [0, 3]⟩ (.l (.l (.j ⟨[.val 57 Ty.bool], [0, 3, 8]⟩ .e))))))))))
noncomputable def F_ref24_Put (a0 : (List TEnvelope)) (a1 : TEnvelope) : Option ((List TEnvelope) × Bool × Unit) :=
 Option.bind (F_ref24_Valid (TEnvelope.mk a1.Node a1.Slot a1.Seq (TTrust.mk a1.Trust.Threshold a1.Trust.Nodes a1.Trust.Inner) a1.Kind a1.Ballot a1.Prepared a1.Prime a1.Low a1.High)) fun r1 =>
 bif (!r1) then
 some (a0, false, ())
 else
 loopO (fun (v2 : Int × Unit) =>
 bif (decide (v2.1 < ((List.length a0 : Nat) : Int))) then
 Option.bind (idx a0 v2.1) fun x3 =>
 bif (decide (x3.Node = a1.Node)) then
 bif (decide (a1.Seq ≤ x3.Seq)) then
 Option.map Sum.inr (some (a0, false, ()))
 else
 bif slcOk (0 : Int) v2.1 (List.length a0) then
 bif lenOk 176 (List.length ((a0.take (Int.toNat v2.1)).drop (Int.toNat (0 : Int)))) then
 bif lenOk 176 (List.length ((a0.take (Int.toNat v2.1)).drop (Int.toNat (0 : Int))) + List.length [(TEnvelope.mk a1.Node a1.Slot a1.Seq (TTrust.mk a1.Trust.Threshold a1.Trust.Nodes a1.Trust.Inner) a1.Kind a1.Ballot a1.Prepared a1.Prime a1.Low a1.High)]) then
 bif slcOk (addI .i64 v2.1 (1 : Int)) (a0.length : Int) (List.length a0) then
 bif lenOk 176 (List.length (((a0.take (Int.toNat v2.1)).drop (Int.toNat (0 : Int))) ++ [(TEnvelope.mk a1.Node a1.Slot a1.Seq (TTrust.mk a1.Trust.Threshold a1.Trust.Nodes a1.Trust.Inner) a1.Kind a1.Ballot a1.Prepared a1.Prime a1.Low a1.High)]) + List.length ((a0.take (Int.toNat (a0.length : Int))).drop (Int.toNat (addI .i64 v2.1 (1 : Int))))) then
 Option.map Sum.inr (some (((((a0.take (Int.toNat v2.1)).drop (Int.toNat (0 : Int))) ++ [(TEnvelope.mk a1.Node a1.Slot a1.Seq (TTrust.mk a1.Trust.Threshold a1.Trust.Nodes a1.Trust.Inner) a1.Kind a1.Ballot a1.Prepared a1.Prime a1.Low a1.High)]) ++ ((a0.take (Int.toNat (a0.length : Int))).drop (Int.toNat (addI .i64 v2.1 (1 : Int))))), true, ()))
 else none
 else none
 else none
 else none
 else none
 else
 some (Sum.inl ((addI .i64 v2.1 (1 : Int)), ()))
 else
 Option.map Sum.inr (loopO (fun (v4 : Int × Unit) =>
 letJ (fun (v5 : Bool × Unit) =>
 bif v5.1 then
 some (Sum.inl ((addI .i64 v4.1 (1 : Int)), ()))
 else
 Option.map Sum.inr (bif slcOk (0 : Int) v4.1 (List.length a0) then
 bif lenOk 176 (List.length ((a0.take (Int.toNat v4.1)).drop (Int.toNat (0 : Int)))) then
 bif lenOk 176 (List.length ((a0.take (Int.toNat v4.1)).drop (Int.toNat (0 : Int))) + List.length [(TEnvelope.mk a1.Node a1.Slot a1.Seq (TTrust.mk a1.Trust.Threshold a1.Trust.Nodes a1.Trust.Inner) a1.Kind a1.Ballot a1.Prepared a1.Prime a1.Low a1.High)]) then
 bif slcOk v4.1 (a0.length : Int) (List.length a0) then
 bif lenOk 176 (List.length (((a0.take (Int.toNat v4.1)).drop (Int.toNat (0 : Int))) ++ [(TEnvelope.mk a1.Node a1.Slot a1.Seq (TTrust.mk a1.Trust.Threshold a1.Trust.Nodes a1.Trust.Inner) a1.Kind a1.Ballot a1.Prepared a1.Prime a1.Low a1.High)]) + List.length ((a0.take (Int.toNat (a0.length : Int))).drop (Int.toNat v4.1))) then
 some (((((a0.take (Int.toNat v4.1)).drop (Int.toNat (0 : Int))) ++ [(TEnvelope.mk a1.Node a1.Slot a1.Seq (TTrust.mk a1.Trust.Threshold a1.Trust.Nodes a1.Trust.Inner) a1.Kind a1.Ballot a1.Prepared a1.Prime a1.Low a1.High)]) ++ ((a0.take (Int.toNat (a0.length : Int))).drop (Int.toNat v4.1))), true, ())
 else none
 else none
 else none
 else none
 else none)) fun j6 =>
 bif (decide (v4.1 < ((List.length a0 : Nat) : Int))) then
 Option.bind (idx a0 v4.1) fun x7 =>
 j6 ((decide (x7.Node < a1.Node)), ())
 else
 j6 (false, ())) ((0 : Int), ()))) ((0 : Int), ())
noncomputable def k_ref24_Put : KS U Tryz.prog := ⟨.fn 73 [.ty (Ty.sl (Ty.st .Envelope)), .ty (Ty.st .Envelope)] (.many [(Ty.sl (Ty.st .Envelope)), Ty.bool]) fun a => F_ref24_Put a.1 a.2.1, fnS (K := K) sa_ref24_Put 71 [.tmp 4, .tmp 5] [k_ref24_Valid] (fk Tryz.f73 [] Tryz.func73)⟩

/-! ### trustquorum/trustquorumref24.Same -/
noncomputable def sa_ref24_Same : SA U := annA (scOf Tryz.prog 73 [] Tryz.f134) .e
noncomputable def F_ref24_Same (a0 : TEnvelope) (a1 : TEnvelope) : Option Bool :=
 Option.bind (bif (decide (a0.Node = a1.Node)) then
 some (decide (a0.Slot = a1.Slot))
 else some false) fun b1 =>
 Option.bind (bif b1 then
 some (decide (a0.Seq = a1.Seq))
 else some false) fun b2 =>
 Option.bind (bif b2 then
 Option.bind (F_ref02_Same (TTrust.mk a0.Trust.Threshold a0.Trust.Nodes a0.Trust.Inner) (TTrust.mk a1.Trust.Threshold a1.Trust.Nodes a1.Trust.Inner)) fun r3 =>
 some r3
 else some false) fun b4 =>
 Option.bind (bif b4 then
 some (decide (a0.Kind = a1.Kind))
 else some false) fun b5 =>
 Option.bind (bif b5 then
 some (eq2 false a0.Ballot.Counter a1.Ballot.Counter a0.Ballot.Value a1.Ballot.Value)
 else some false) fun b6 =>
 Option.bind (bif b6 then
 some (eq2 false a0.Prepared.Counter a1.Prepared.Counter a0.Prepared.Value a1.Prepared.Value)
 else some false) fun b7 =>
 Option.bind (bif b7 then
 some (eq2 false a0.Prime.Counter a1.Prime.Counter a0.Prime.Value a1.Prime.Value)
 else some false) fun b8 =>
 Option.bind (bif b8 then
 some (decide (a0.Low = a1.Low))
 else some false) fun b9 =>
 Option.bind (bif b9 then
 some (decide (a0.High = a1.High))
 else some false) fun b10 =>
 some b10
noncomputable def k_ref24_Same : KS U Tryz.prog := ⟨.fn 134 [.ty (Ty.st .Envelope), .ty (Ty.st .Envelope)] (.one Ty.bool) fun a => F_ref24_Same a.1 a.2.1, fnS (K := K) sa_ref24_Same 73 [.tmp 4] [k_ref02_Same] (fk Tryz.f134 [] Tryz.func134)⟩

/-! ### trustquorum/trustquorumref24.Envelopes -/
noncomputable def sa_ref24_Envelopes : SA U := annA (scOf Tryz.prog 27 [] Tryz.f74) (.r (.r (.l (.r (.l (.j ⟨[.val 13 (Ty.i .i64)], [0, 1, 12]⟩ .e))))))
noncomputable def F_ref24_Envelopes (a0 : (List TEnvelope)) (a1 : (List TEnvelope)) : Option Bool :=
 bif (!decide (((List.length a0 : Nat) : Int) = ((List.length a1 : Nat) : Int))) then
 some false
 else
 loopO (fun (v1 : Int × Unit) =>
 bif (decide (v1.1 < ((List.length a0 : Nat) : Int))) then
 Option.bind (idx a0 v1.1) fun x2 =>
 Option.bind (idx a1 v1.1) fun x3 =>
 Option.bind (F_ref24_Same (TEnvelope.mk x2.Node x2.Slot x2.Seq (TTrust.mk x2.Trust.Threshold x2.Trust.Nodes x2.Trust.Inner) x2.Kind x2.Ballot x2.Prepared x2.Prime x2.Low x2.High) (TEnvelope.mk x3.Node x3.Slot x3.Seq (TTrust.mk x3.Trust.Threshold x3.Trust.Nodes x3.Trust.Inner) x3.Kind x3.Ballot x3.Prepared x3.Prime x3.Low x3.High)) fun r4 =>
 bif (!r4) then
 Option.map Sum.inr (some false)
 else
 some (Sum.inl ((addI .i64 v1.1 (1 : Int)), ()))
 else
 Option.map Sum.inr (some true)) ((0 : Int), ())
noncomputable def k_ref24_Envelopes : KS U Tryz.prog := ⟨.fn 74 [.ty (Ty.sl (Ty.st .Envelope)), .ty (Ty.sl (Ty.st .Envelope))] (.one Ty.bool) fun a => F_ref24_Envelopes a.1 a.2.1, fnS (K := K) sa_ref24_Envelopes 27 [.tmp 4] [k_ref24_Same] (fk Tryz.f74 [] Tryz.func74)⟩

/-! ### trustquorum/trustquorumref24.Counter -/
noncomputable def sa_ref24_Counter : SA U := annA (scOf Tryz.prog 14 [] Tryz.f78) .e
noncomputable def F_ref24_Counter (a0 : TEnvelope) : Option Int :=
 Option.bind (F_ref24_Valid (TEnvelope.mk a0.Node a0.Slot a0.Seq (TTrust.mk a0.Trust.Threshold a0.Trust.Nodes a0.Trust.Inner) a0.Kind a0.Ballot a0.Prepared a0.Prime a0.Low a0.High)) fun r1 =>
 bif (!r1) then
 some (0 : Int)
 else
 bif (decide (a0.Kind = (3 : Int))) then
 some (1000000 : Int)
 else
 some a0.Ballot.Counter
noncomputable def k_ref24_Counter : KS U Tryz.prog := ⟨.fn 78 [.ty (Ty.st .Envelope)] (.one (Ty.i .i64)) fun a => F_ref24_Counter a.1, fnS (K := K) sa_ref24_Counter 14 [.tmp 2] [k_ref24_Valid] (fk Tryz.f78 [] Tryz.func78)⟩

/-! ### trustquorum/trustquorumlaw24.EnvelopesExact -/
noncomputable def sa_law24_EnvelopesExact : SA U := annA (scOf Tryz.prog 302 [144, 170] Tryz.f10) (.r (.r (.r (.r (.l (.r (.l (.j ⟨[.val 72 (Ty.i .i64), .box 27 1 (Ty.st .Src) []], [4, 5, 6, 7, 10, 11, 17, 71]⟩ (.l (.r (.r (.l (.l (.r (.r (.r (.r (.b (.r (.l (.j ⟨[.val 115 (Ty.i .i64)], [4, 5, 6, 7, 10, 11, 17, 20, 21, 22, 23, 24, 71, 72, 114]⟩ .e))) (.b (.r (.l (.j ⟨[.val 130 (Ty.i .i64)], [4, 5, 6, 7, 10, 11, 17, 20, 23, 24, 71, 72, 129]⟩ .e))) (.b (.r (.l (.j ⟨[.val 148 (Ty.i .i64)], [4, 5, 6, 7, 10, 11, 17, 20, 71, 72, 146, 147]⟩ .e))) (.r (.l (.j ⟨[.val 174 (Ty.i .i64), .box 27 1 (Ty.st .Src) []], [4, 5, 6, 7, 10, 11, 17, 20, 71, 72, 172, 173]⟩ (.l (.r (.r (.l (.l (.r (.r (.r (.b (.j ⟨[.val 212 Ty.bool], [4, 5, 6, 7, 10, 11, 17, 20, 30, 71, 72, 172, 173, 174]⟩ .e) (.b (.r (.l (.j ⟨[.val 220 (Ty.i .i64)], [4, 5, 6, 7, 10, 11, 17, 20, 30, 71, 72, 172, 173, 174, 219]⟩ (.l (.r (.r (.l (.l (.r (.j ⟨[.val 238 Ty.bool], [4, 5, 6, 7, 10, 11, 17, 20, 30, 71, 72, 172, 173, 174, 219, 220]⟩ .e)))))))))) (.r (.l (.j ⟨[.val 254 (Ty.i .i64)], [4, 5, 6, 7, 10, 11, 17, 20, 30, 71, 72, 172, 173, 174, 253]⟩ (.l (.r (.r (.l (.l (.r (.r (.l (.j ⟨[.val 262 (Ty.i .i64)], [4, 5, 6, 7, 10, 11, 17, 20, 30, 38, 71, 72, 172, 173, 174, 253, 254, 261]⟩ (.l (.r (.r (.l (.l (.r (.j ⟨[.val 296 Ty.bool], [4, 5, 6, 7, 10, 11, 17, 20, 30, 38, 71, 72, 172, 173, 174, 253, 254, 261, 262]⟩ .e))))))))))))))))))))))))))))))))))))))))))))))))))))
noncomputable def F_law24_EnvelopesExact (a0 : (List Int)) (a1 : (List TEnvelope)) (a2 : TEnvelope) (a3 : TBallot) (a4 : ByteArray) (a5 : Int) (a6 : Int) (a7 : (List Bool)) : Option Bool :=
 Option.bind (F_law24_few a1) fun r1 =>
 Option.bind (bif (!r1) then some true
 else
 Option.bind (F_law24_few [(TEnvelope.mk a2.Node a2.Slot a2.Seq (TTrust.mk a2.Trust.Threshold a2.Trust.Nodes a2.Trust.Inner) a2.Kind a2.Ballot a2.Prepared a2.Prime a2.Low a2.High)]) fun r2 =>
 some (!r2)) fun b3 =>
 Option.bind (bif b3 then some true
 else
 some (decide ((400 : Int) < (addI .i64 ((ByteArray.size a3.Value : Nat) : Int) ((ByteArray.size a4 : Nat) : Int))))) fun b4 =>
 Option.bind (bif b4 then some true
 else
 some (decide ((20 : Int) < ((List.length a7 : Nat) : Int)))) fun b5 =>
 bif b5 then
 Option.bind (F_law24_sane) fun r6 =>
 some r6
 else
 Option.bind (F_play_New a0) fun r7 =>
 Option.bind (F_play_Src_Envelopes r7 (5 : Int) (1 : Int)) fun p8 =>
 loopO (fun (v9 : Int × TSrc × Unit) =>
 bif (decide (v9.1 < (2 : Int))) then
 Option.bind (idx [p8.1, a1] v9.1) fun x10 =>
 Option.bind (F_envelopes_Ballots x10) fun r11 =>
 Option.bind (F_ref24_Ballots x10) fun r12 =>
 Option.bind (F_envelopes_Values x10) fun r13 =>
 Option.bind (F_ref24_Values x10) fun r14 =>
 Option.bind (bif (!decide (((List.length r11 : Nat) : Int) = ((List.length r12 : Nat) : Int))) then some true
 else
 some (!decide (((List.length r13 : Nat) : Int) = ((List.length r14 : Nat) : Int)))) fun b15 =>
 Option.bind (bif b15 then some true
 else
 Option.bind (F_envelopes_Set x10 a7) fun r16 =>
 Option.bind (F_ref24_Set x10 a7) fun r17 =>
 some (!decide (r16 = r17))) fun b18 =>
 Option.bind (bif b18 then some true
 else
 Option.bind (F_envelopes_Set x10 [true, false, true, true]) fun r19 =>
 Option.bind (F_ref24_Set x10 [true, false, true, true]) fun r20 =>
 some (!decide (r19 = r20))) fun b21 =>
 bif b21 then
 Option.map Sum.inr (some false)
 else
 loopO (fun (v22 : Int × Unit) =>
 bif (decide (v22.1 < ((List.length r11 : Nat) : Int))) then
 Option.bind (idx r11 v22.1) fun x23 =>
 Option.bind (idx r12 v22.1) fun x24 =>
 bif (eq2 true x23.Counter x24.Counter x23.Value x24.Value) then
 Option.map Sum.inr (Option.map Sum.inr (some false))
 else
 some (Sum.inl ((addI .i64 v22.1 (1 : Int)), ()))
 else
 Option.map Sum.inr (loopO (fun (v25 : Int × Unit) =>
 bif (decide (v25.1 < ((List.length r13 : Nat) : Int))) then
 Option.bind (idx r13 v25.1) fun x26 =>
 Option.bind (idx r14 v25.1) fun x27 =>
 bif (!decide (x26 = x27)) then
 Option.map Sum.inr (Option.map Sum.inr (some false))
 else
 some (Sum.inl ((addI .i64 v25.1 (1 : Int)), ()))
 else
 Option.map Sum.inr (bif lenOk 16 (List.length [a4, (ByteArray.mk #[97])] + List.length r14) then
 loopO (fun (v28 : Int × Unit) =>
 bif (decide (v28.1 < ((List.length ([a4, (ByteArray.mk #[97])] ++ r14) : Nat) : Int))) then
 Option.bind (idx ([a4, (ByteArray.mk #[97])] ++ r14) v28.1) fun x29 =>
 Option.bind (([a4, (ByteArray.mk #[97])] ++ r14)[(Int.toNat v28.1)]?) fun x30 =>
 Option.bind (F_envelopes_Bounds x10 x30) fun r31 =>
 Option.bind (F_ref24_Bounds x10 x30) fun r32 =>
 Option.bind (F_law24_ints r31 r32) fun r33 =>
 bif (!r33) then
 Option.map Sum.inr (Option.map Sum.inr (some false))
 else
 some (Sum.inl ((addI .i64 v28.1 (1 : Int)), ()))
 else
 Option.map Sum.inr (Option.bind (F_play_Src_N v9.2.1 (5 : Int)) fun p34 =>
 Option.bind (F_play_Src_Envelope p34.2 p34.1 (1 : Int) (5 : Int)) fun p35 =>
 Option.bind (F_play_Src_Envelope p35.2 (2 : Int) (1 : Int) (5 : Int)) fun p36 =>
 Option.bind (F_play_Src_BentEnvelope p36.2 (TEnvelope.mk p36.1.Node p36.1.Slot p36.1.Seq (TTrust.mk p36.1.Trust.Threshold p36.1.Trust.Nodes p36.1.Trust.Inner) p36.1.Kind p36.1.Ballot p36.1.Prepared p36.1.Prime p36.1.Low p36.1.High)) fun p37 =>
 bif lenOk 176 (List.length [(TEnvelope.mk a2.Node a2.Slot a2.Seq (TTrust.mk a2.Trust.Threshold a2.Trust.Nodes a2.Trust.Inner) a2.Kind a2.Ballot a2.Prepared a2.Prime a2.Low a2.High), (TEnvelope.mk p35.1.Node p35.1.Slot p35.1.Seq (TTrust.mk p35.1.Trust.Threshold p35.1.Trust.Nodes p35.1.Trust.Inner) p35.1.Kind p35.1.Ballot p35.1.Prepared p35.1.Prime p35.1.Low p35.1.High), (TEnvelope.mk p37.1.Node p37.1.Slot p37.1.Seq (TTrust.mk p37.1.Trust.Threshold p37.1.Trust.Nodes p37.1.Trust.Inner) p37.1.Kind p37.1.Ballot p37.1.Prepared p37.1.Prime p37.1.Low p37.1.High)] + List.length x10) then
 loopO (fun (v38 : Int × TSrc × Unit) =>
 bif (decide (v38.1 < ((List.length ([(TEnvelope.mk a2.Node a2.Slot a2.Seq (TTrust.mk a2.Trust.Threshold a2.Trust.Nodes a2.Trust.Inner) a2.Kind a2.Ballot a2.Prepared a2.Prime a2.Low a2.High), (TEnvelope.mk p35.1.Node p35.1.Slot p35.1.Seq (TTrust.mk p35.1.Trust.Threshold p35.1.Trust.Nodes p35.1.Trust.Inner) p35.1.Kind p35.1.Ballot p35.1.Prepared p35.1.Prime p35.1.Low p35.1.High), (TEnvelope.mk p37.1.Node p37.1.Slot p37.1.Seq (TTrust.mk p37.1.Trust.Threshold p37.1.Trust.Nodes p37.1.Trust.Inner) p37.1.Kind p37.1.Ballot p37.1.Prepared p37.1.Prime p37.1.Low p37.1.High)] ++ x10) : Nat) : Int))) then
 Option.bind (idx ([(TEnvelope.mk a2.Node a2.Slot a2.Seq (TTrust.mk a2.Trust.Threshold a2.Trust.Nodes a2.Trust.Inner) a2.Kind a2.Ballot a2.Prepared a2.Prime a2.Low a2.High), (TEnvelope.mk p35.1.Node p35.1.Slot p35.1.Seq (TTrust.mk p35.1.Trust.Threshold p35.1.Trust.Nodes p35.1.Trust.Inner) p35.1.Kind p35.1.Ballot p35.1.Prepared p35.1.Prime p35.1.Low p35.1.High), (TEnvelope.mk p37.1.Node p37.1.Slot p37.1.Seq (TTrust.mk p37.1.Trust.Threshold p37.1.Trust.Nodes p37.1.Trust.Inner) p37.1.Kind p37.1.Ballot p37.1.Prepared p37.1.Prime p37.1.Low p37.1.High)] ++ x10) v38.1) fun x39 =>
 Option.bind (([(TEnvelope.mk a2.Node a2.Slot a2.Seq (TTrust.mk a2.Trust.Threshold a2.Trust.Nodes a2.Trust.Inner) a2.Kind a2.Ballot a2.Prepared a2.Prime a2.Low a2.High), (TEnvelope.mk p35.1.Node p35.1.Slot p35.1.Seq (TTrust.mk p35.1.Trust.Threshold p35.1.Trust.Nodes p35.1.Trust.Inner) p35.1.Kind p35.1.Ballot p35.1.Prepared p35.1.Prime p35.1.Low p35.1.High), (TEnvelope.mk p37.1.Node p37.1.Slot p37.1.Seq (TTrust.mk p37.1.Trust.Threshold p37.1.Trust.Nodes p37.1.Trust.Inner) p37.1.Kind p37.1.Ballot p37.1.Prepared p37.1.Prime p37.1.Low p37.1.High)] ++ x10)[(Int.toNat v38.1)]?) fun x40 =>
 Option.bind (F_envelopes_Put x10 (TEnvelope.mk x40.Node x40.Slot x40.Seq (TTrust.mk x40.Trust.Threshold x40.Trust.Nodes x40.Trust.Inner) x40.Kind x40.Ballot x40.Prepared x40.Prime x40.Low x40.High)) fun r41 =>
 Option.bind (F_ref24_Put x10 (TEnvelope.mk x40.Node x40.Slot x40.Seq (TTrust.mk x40.Trust.Threshold x40.Trust.Nodes x40.Trust.Inner) x40.Kind x40.Ballot x40.Prepared x40.Prime x40.Low x40.High)) fun r42 =>
 letJ (fun (v43 : Bool × Unit) =>
 bif v43.1 then
 Option.map Sum.inr (Option.map Sum.inr (some false))
 else
 Option.bind (F_play_Src_Low v38.2.1) fun p45 =>
 loopO (fun (v46 : Int × Unit) =>
 bif (decide (v46.1 < (4 : Int))) then
 Option.bind (idx [a3, p45.1, x40.Ballot, (TBallot.mk (0 : Int) (ByteArray.mk #[]))] v46.1) fun x47 =>
 letJ (fun (v48 : Bool × Unit) =>
 bif v48.1 then
 Option.map Sum.inr (Option.map Sum.inr (Option.map Sum.inr (some false)))
 else
 some (Sum.inl ((addI .i64 v46.1 (1 : Int)), ()))) fun j49 =>
 Option.bind (F_envelopes_VotesPrepare (TEnvelope.mk x40.Node x40.Slot x40.Seq (TTrust.mk x40.Trust.Threshold x40.Trust.Nodes x40.Trust.Inner) x40.Kind x40.Ballot x40.Prepared x40.Prime x40.Low x40.High) x47) fun r50 =>
 Option.bind (F_ref24_VotesPrepare (TEnvelope.mk x40.Node x40.Slot x40.Seq (TTrust.mk x40.Trust.Threshold x40.Trust.Nodes x40.Trust.Inner) x40.Kind x40.Ballot x40.Prepared x40.Prime x40.Low x40.High) x47) fun r51 =>
 bif (xor true (decide (r50 = r51))) then
 j49 (true, ())
 else
 Option.bind (F_envelopes_AcceptsPrepare (TEnvelope.mk x40.Node x40.Slot x40.Seq (TTrust.mk x40.Trust.Threshold x40.Trust.Nodes x40.Trust.Inner) x40.Kind x40.Ballot x40.Prepared x40.Prime x40.Low x40.High) x47) fun r52 =>
 Option.bind (F_ref24_AcceptsPrepare (TEnvelope.mk x40.Node x40.Slot x40.Seq (TTrust.mk x40.Trust.Threshold x40.Trust.Nodes x40.Trust.Inner) x40.Kind x40.Ballot x40.Prepared x40.Prime x40.Low x40.High) x47) fun r53 =>
 j49 ((xor true (decide (r52 = r53))), ())
 else
 Option.map Sum.inr (Option.bind (F_play_Src_Range p45.2 (0 : Int) (5 : Int)) fun p54 =>
 Option.bind (F_play_Src_Range p54.2 (0 : Int) (6 : Int)) fun p55 =>
 loopO (fun (v56 : Int × Unit) =>
 bif (decide (v56.1 < (3 : Int))) then
 Option.bind (idx [(TArr2I64.mk a5 a6), (TArr2I64.mk p54.1 p55.1), (TArr2I64.mk x40.Low x40.High)] v56.1) fun x57 =>
 loopO (fun (v58 : Int × Unit) =>
 bif (decide (v58.1 < (2 : Int))) then
 Option.bind (idx [a4, x40.Ballot.Value] v58.1) fun x59 =>
 letJ (fun (v60 : Bool × Unit) =>
 bif v60.1 then
 Option.map Sum.inr (Option.map Sum.inr (Option.map Sum.inr (Option.map Sum.inr (some false))))
 else
 some (Sum.inl ((addI .i64 v58.1 (1 : Int)), ()))) fun j61 =>
 Option.bind (F_envelopes_VotesCommit (TEnvelope.mk x40.Node x40.Slot x40.Seq (TTrust.mk x40.Trust.Threshold x40.Trust.Nodes x40.Trust.Inner) x40.Kind x40.Ballot x40.Prepared x40.Prime x40.Low x40.High) x59 x57.c0 x57.c1) fun r62 =>
 Option.bind (F_ref24_VotesCommit (TEnvelope.mk x40.Node x40.Slot x40.Seq (TTrust.mk x40.Trust.Threshold x40.Trust.Nodes x40.Trust.Inner) x40.Kind x40.Ballot x40.Prepared x40.Prime x40.Low x40.High) x59 x57.c0 x57.c1) fun r63 =>
 bif (xor true (decide (r62 = r63))) then
 j61 (true, ())
 else
 Option.bind (F_envelopes_AcceptsCommit (TEnvelope.mk x40.Node x40.Slot x40.Seq (TTrust.mk x40.Trust.Threshold x40.Trust.Nodes x40.Trust.Inner) x40.Kind x40.Ballot x40.Prepared x40.Prime x40.Low x40.High) x59 x57.c0 x57.c1) fun r64 =>
 Option.bind (F_ref24_AcceptsCommit (TEnvelope.mk x40.Node x40.Slot x40.Seq (TTrust.mk x40.Trust.Threshold x40.Trust.Nodes x40.Trust.Inner) x40.Kind x40.Ballot x40.Prepared x40.Prime x40.Low x40.High) x59 x57.c0 x57.c1) fun r65 =>
 j61 ((xor true (decide (r64 = r65))), ())
 else
 Option.map Sum.inr (some (Sum.inl ((addI .i64 v56.1 (1 : Int)), ())))) ((0 : Int), ())
 else
 Option.map Sum.inr (some (Sum.inl ((addI .i64 v38.1 (1 : Int)), p55.2, ())))) ((0 : Int), ()))) ((0 : Int), ())) fun j44 =>
 Option.bind (F_ref24_Envelopes r41.1 r42.1) fun r66 =>
 bif (!r66) then
 j44 (true, ())
 else
 bif (xor true (decide (r41.2.1 = r42.2.1))) then
 j44 (true, ())
 else
 Option.bind (F_envelopes_Valid (TEnvelope.mk x40.Node x40.Slot x40.Seq (TTrust.mk x40.Trust.Threshold x40.Trust.Nodes x40.Trust.Inner) x40.Kind x40.Ballot x40.Prepared x40.Prime x40.Low x40.High)) fun r67 =>
 Option.bind (F_ref24_Valid (TEnvelope.mk x40.Node x40.Slot x40.Seq (TTrust.mk x40.Trust.Threshold x40.Trust.Nodes x40.Trust.Inner) x40.Kind x40.Ballot x40.Prepared x40.Prime x40.Low x40.High)) fun r68 =>
 bif (xor true (decide (r67 = r68))) then
 j44 (true, ())
 else
 Option.bind (F_envelopes_Counter (TEnvelope.mk x40.Node x40.Slot x40.Seq (TTrust.mk x40.Trust.Threshold x40.Trust.Nodes x40.Trust.Inner) x40.Kind x40.Ballot x40.Prepared x40.Prime x40.Low x40.High)) fun r69 =>
 Option.bind (F_ref24_Counter (TEnvelope.mk x40.Node x40.Slot x40.Seq (TTrust.mk x40.Trust.Threshold x40.Trust.Nodes x40.Trust.Inner) x40.Kind x40.Ballot x40.Prepared x40.Prime x40.Low x40.High)) fun r70 =>
 j44 ((!decide (r69 = r70)), ())
 else
 Option.map Sum.inr (some (Sum.inl ((addI .i64 v9.1 (1 : Int)), v38.2.1, ())))) ((0 : Int), p37.2, ())
 else none)) ((0 : Int), ())
 else none)) ((0 : Int), ()))) ((0 : Int), ())
 else
 Option.map Sum.inr (Option.bind (F_law24_sane) fun r71 =>
 some r71)) ((0 : Int), p8.2, ())
noncomputable def k_law24_EnvelopesExact : KS U Tryz.prog := ⟨.fn 10 [.ty (Ty.sl (Ty.i .i64)), .ty (Ty.sl (Ty.st .Envelope)), .ty (Ty.st .Envelope), .ty (Ty.st .Ballot), .ty Ty.str, .ty (Ty.i .i64), .ty (Ty.i .i64), .ty (Ty.sl Ty.bool)] (.one Ty.bool) fun a => F_law24_EnvelopesExact a.1 a.2.1 a.2.2.1 a.2.2.2.1 a.2.2.2.2.1 a.2.2.2.2.2.1 a.2.2.2.2.2.2.1 a.2.2.2.2.2.2.2.1, fnS (K := K) sa_law24_EnvelopesExact 302 [.tmp 16] [k_law24_few, k_law24_sane, k_play_New, k_play_Src_Envelopes, k_envelopes_Ballots, k_ref24_Ballots, k_envelopes_Values, k_ref24_Values, k_envelopes_Set, k_ref24_Set, k_envelopes_Bounds, k_ref24_Bounds, k_law24_ints, k_play_Src_N, k_play_Src_Envelope, k_play_Src_BentEnvelope, k_envelopes_Put, k_ref24_Put, k_ref24_Envelopes, k_envelopes_Valid, k_ref24_Valid, k_envelopes_Counter, k_ref24_Counter, k_play_Src_Low, k_envelopes_VotesPrepare, k_ref24_VotesPrepare, k_envelopes_AcceptsPrepare, k_ref24_AcceptsPrepare, k_play_Src_Range, k_envelopes_VotesCommit, k_ref24_VotesCommit, k_envelopes_AcceptsCommit, k_ref24_AcceptsCommit] (fk Tryz.f10 [144, 170] Tryz.func10)⟩

end Go.Proofs.YtncjalhhkmojlaaGreat
