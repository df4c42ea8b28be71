/-
  Functions of the program as plain functions, each held against the program by the kernel. Printed by a program.
-/
import Derived.Test.YtaebanabjdmgfaaGreatMonitorNeedsFnA
import Derived.Test.YtaebanabjdmgfaaGreatProg
import Derived.KernelRfl
set_option linter.unusedVariables false
namespace Go.Proofs.YtaebanabjdmgfaaGreat
open Go.TQ

/-! ### trustquorum/trustquorumref06.Declared -/
noncomputable def sa_ref06_Declared : SA U := annA (scOf Tryz.prog 26 [] Tryz.f35) (.r (.r (.l (.r (.l (.j ⟨[.val 3 (Ty.i .i64), .val 9 (Ty.i .i64)], [7, 8]⟩ (.l (.r (.r (.j ⟨[.val 3 (Ty.i .i64)], [7, 8, 9]⟩ .e))))))))))
noncomputable def F_ref06_Declared (a0 : TConfig) : Option Int :=
 loopO (fun (v1 : Int × Int × Unit) =>
 bif (decide (v1.2.1 < ((List.length a0.Members : Nat) : Int))) then
 letJ (fun (v2 : Int × Unit) =>
 some (Sum.inl (v2.1, (addI .i64 v1.2.1 (1 : Int)), ()))) fun j3 =>
 Option.bind (idx a0.Members v1.2.1) fun x4 =>
 Option.bind (bif (decide (v1.2.1 < (10 : Int))) then
 some x4.Declared
 else some false) fun b5 =>
 bif b5 then
 if v1.2.1 < 0 then none else
 j3 ((orI .i64 v1.1 (shlI .i64 (1 : Int) v1.2.1)), ())
 else
 j3 (v1.1, ())
 else
 Option.map Sum.inr (some v1.1)) ((0 : Int), (0 : Int), ())
noncomputable def k_ref06_Declared : KS U Tryz.prog := ⟨.fn 35 [.ty (Ty.st .Config)] (.one (Ty.i .i64)) fun a => F_ref06_Declared a.1, fnS (K := K) sa_ref06_Declared 26 [.tmp 2] [] (fk Tryz.f35 [] Tryz.func35)⟩

/-! ### trustquorum/trustquorumref01.Nodes -/
noncomputable def sa_ref01_Nodes : SA U := annA (scOf Tryz.prog 17 [] Tryz.f71) (.r (.r (.l (.r (.l (.ps (.own 3 3 1 (Ty.i .i64)) (.j ⟨[.val 4 (Ty.i .i64), .own 3 3 1 3 1 (Ty.i .i64)], [0]⟩ (.l (.r (.j ⟨[.own 3 3 1 3 1 (Ty.i .i64)], [0, 4]⟩ .e))))))))))
noncomputable def F_ref01_Nodes (a0 : Int) : Option (List Int) :=
 loopO (fun (v1 : Int × (List Int) × Unit) =>
 bif (decide (v1.1 < (10 : Int))) then
 letJ (fun (v2 : (List Int) × Unit) =>
 some (Sum.inl ((addI .i64 v1.1 (1 : Int)), v2.1, ()))) fun j3 =>
 Option.bind (F_ref01_Has a0 v1.1) fun r4 =>
 bif r4 then
 bif lenOk 8 (List.length v1.2.1 + List.length [v1.1]) then
 j3 ((v1.2.1 ++ [v1.1]), ())
 else none
 else
 j3 (v1.2.1, ())
 else
 Option.map Sum.inr (some v1.2.1)) ((0 : Int), ([] : List Int), ())
noncomputable def k_ref01_Nodes : KS U Tryz.prog := ⟨.fn 71 [.ty (Ty.i .i64)] (.one (Ty.sl (Ty.i .i64))) fun a => F_ref01_Nodes a.1, fnS (K := K) sa_ref01_Nodes 17 [.tmp 2] [k_ref01_Has] (fk Tryz.f71 [] Tryz.func71)⟩

/-! ### trustquorum/trustquorumref02.Satisfied -/
noncomputable def sa_ref02_Satisfied : SA U := annA (scOf Tryz.prog 43 [] Tryz.f72) (.r (.r (.r (.b (.r (.l (.j ⟨[.val 5 (Ty.i .i64), .val 16 (Ty.i .i64)], [1, 2, 14, 15]⟩ (.l (.r (.r (.j ⟨[.val 5 (Ty.i .i64)], [1, 2, 14, 15, 16]⟩ .e))))))) (.l (.r (.l (.j ⟨[.val 5 (Ty.i .i64), .val 29 (Ty.i .i64)], [1, 2, 27, 28]⟩ (.l (.r (.r (.j ⟨[.val 5 (Ty.i .i64)], [1, 2, 27, 28, 29]⟩ .e))))))))))))
noncomputable def B_ref02_Satisfied (rec : (TTrust × Int × Unit) → Option Bool) (a0 : TTrust) (a1 : Int) : Option Bool :=
 Option.bind (F_ref01_Valid a1) fun r1 =>
 bif (!r1) then
 some false
 else
 loopO (fun (v2 : Int × Int × Unit) =>
 bif (decide (v2.2.1 < ((List.length a0.Nodes : Nat) : Int))) then
 letJ (fun (v3 : Int × Unit) =>
 some (Sum.inl (v3.1, (addI .i64 v2.2.1 (1 : Int)), ()))) fun j4 =>
 Option.bind (idx a0.Nodes v2.2.1) fun x5 =>
 Option.bind (F_ref01_Has a1 x5) fun r6 =>
 bif r6 then
 j4 ((addI .i64 v2.1 (1 : Int)), ())
 else
 j4 (v2.1, ())
 else
 Option.map Sum.inr (loopO (fun (v7 : Int × Int × Unit) =>
 bif (decide (v7.2.1 < ((List.length a0.Inner : Nat) : Int))) then
 letJ (fun (v8 : Int × Unit) =>
 some (Sum.inl (v8.1, (addI .i64 v7.2.1 (1 : Int)), ()))) fun j9 =>
 Option.bind (idx a0.Inner v7.2.1) fun x10 =>
 Option.bind (rec ((TTrust.mk x10.Threshold x10.Nodes x10.Inner), a1, ())) fun r11 =>
 bif r11 then
 j9 ((addI .i64 v7.1 (1 : Int)), ())
 else
 j9 (v7.1, ())
 else
 Option.map Sum.inr (some (decide (a0.Threshold ≤ v7.1)))) (v2.1, (0 : Int), ()))) ((0 : Int), (0 : Int), ())
noncomputable def I_ref02_Satisfied : Nat → (TTrust × Int × Unit) → Option Bool := iterF (fun rec a => B_ref02_Satisfied rec a.1 a.2.1)
noncomputable def F_ref02_Satisfied (a0 : TTrust) (a1 : Int) : Option Bool := I_ref02_Satisfied (SizeOf.sizeOf a0 + SizeOf.sizeOf a1 + 1) (a0, a1, ())
noncomputable def k_ref02_Satisfied : KS U Tryz.prog := ⟨.fn 72 [.ty (Ty.st .Trust), .ty (Ty.i .i64)] (.one Ty.bool) fun a => F_ref02_Satisfied a.1 a.2.1, fnRS (K := K) («as» := [.ty (Ty.st .Trust), .ty (Ty.i .i64)]) (r := .one Ty.bool) (B := fun rec a => B_ref02_Satisfied rec a.1 a.2.1) sa_ref02_Satisfied 43 [.tmp 4] [k_ref01_Valid, k_ref01_Has] (fk Tryz.f72 [] Tryz.func72) (hF := fun a => ⟨_, rfl⟩)⟩

/-! ### trustquorum/trustquorumref09.Elimination -/
noncomputable def sa_ref09_Elimination : SA U := annA (scOf Tryz.prog 44 [] Tryz.f36) (.r (.r (.r (.r (.l (.r (.l (.ps (.own 6 3 1 (Ty.i .i64)) (.j ⟨[.val 5 (Ty.i .i64), .val 7 Ty.bool, .own 6 12 1 3 1 (Ty.i .i64)], [2]⟩ (.l (.r (.l (.r (.r (.l (.j ⟨[.val 5 (Ty.i .i64), .val 7 Ty.bool, .val 21 (Ty.i .i64), .own 6 12 1 3 1 (Ty.i .i64)], [2, 19, 20]⟩ .e))))))))))))))))
noncomputable def F_ref09_Elimination (a0 : TConfig) (a1 : Int) : Option (List Int) :=
 Option.bind (F_ref01_Valid a1) fun r1 =>
 bif (!r1) then
 some ([] : List Int)
 else
 Option.bind (F_ref06_Declared a0) fun r2 =>
 loopO (fun (v3 : Int × Bool × (List Int) × Unit) =>
 bif v3.2.1 then
 Option.bind (F_ref01_Nodes v3.1) fun r4 =>
 loopO (fun (v5 : Int × Bool × Int × (List Int) × Unit) =>
 bif (decide (v5.2.2.1 < ((List.length r4 : Nat) : Int))) then
 Option.bind (idx r4 v5.2.2.1) fun x6 =>
 Option.bind (idx a0.Members x6) fun x7 =>
 Option.bind (F_ref02_Satisfied (TTrust.mk x7.Trust.Threshold x7.Trust.Nodes x7.Trust.Inner) v5.1) fun r8 =>
 bif (!r8) then
 if x6 < 0 then none else
 bif lenOk 8 (List.length v5.2.2.2.1 + List.length [x6]) then
 Option.map Sum.inr (some (Sum.inl ((subI .i64 v5.1 (shlI .i64 (1 : Int) x6)), true, (v5.2.2.2.1 ++ [x6]), ())))
 else none
 else
 some (Sum.inl (v5.1, v5.2.1, (addI .i64 v5.2.2.1 (1 : Int)), v5.2.2.2.1, ()))
 else
 Option.map Sum.inr (some (Sum.inl (v5.1, v5.2.1, v5.2.2.2.1, ())))) (v3.1, false, (0 : Int), v3.2.2.1, ())
 else
 Option.map Sum.inr (some v3.2.2.1)) ((andI .i64 a1 r2), true, ([] : List Int), ())
noncomputable def k_ref09_Elimination : KS U Tryz.prog := ⟨.fn 36 [.ty (Ty.st .Config), .ty (Ty.i .i64)] (.one (Ty.sl (Ty.i .i64))) fun a => F_ref09_Elimination a.1 a.2.1, fnS (K := K) sa_ref09_Elimination 44 [.tmp 4] [k_ref01_Valid, k_ref06_Declared, k_ref01_Nodes, k_ref02_Satisfied] (fk Tryz.f36 [] Tryz.func36)⟩

/-! ### trustquorum/trustquorumref09.Greatest -/
noncomputable def sa_ref09_Greatest : SA U := annA (scOf Tryz.prog 29 [] Tryz.f16) (.r (.r (.r (.l (.r (.l (.j ⟨[.val 5 (Ty.i .i64), .val 19 (Ty.i .i64)], [17, 18]⟩ .e)))))))
noncomputable def F_ref09_Greatest (a0 : TConfig) (a1 : Int) : Option Int :=
 Option.bind (F_ref01_Valid a1) fun r1 =>
 bif (!r1) then
 some (0 : Int)
 else
 Option.bind (F_ref06_Declared a0) fun r2 =>
 Option.bind (F_ref09_Elimination a0 a1) fun r3 =>
 loopO (fun (v4 : Int × Int × Unit) =>
 bif (decide (v4.2.1 < ((List.length r3 : Nat) : Int))) then
 Option.bind (idx r3 v4.2.1) fun x5 =>
 if x5 < 0 then none else
 some (Sum.inl ((subI .i64 v4.1 (shlI .i64 (1 : Int) x5)), (addI .i64 v4.2.1 (1 : Int)), ()))
 else
 Option.map Sum.inr (some v4.1)) ((andI .i64 a1 r2), (0 : Int), ())
noncomputable def k_ref09_Greatest : KS U Tryz.prog := ⟨.fn 16 [.ty (Ty.st .Config), .ty (Ty.i .i64)] (.one (Ty.i .i64)) fun a => F_ref09_Greatest a.1 a.2.1, fnS (K := K) sa_ref09_Greatest 29 [.tmp 4] [k_ref01_Valid, k_ref06_Declared, k_ref09_Elimination] (fk Tryz.f16 [] Tryz.func16)⟩

/-! ### trustquorum/trustquorumlaw44.MonitorNeeds -/
noncomputable def sa_law44_MonitorNeeds : SA U := annA (scOf Tryz.prog 152 [] Tryz.f3) (.r (.r (.r (.r (.r (.r (.r (.r (.r (.r (.b (.r (.l (.ps (.own 11 38 15 (Ty.st .Envelope)) (.j ⟨[.val 12 (Ty.i .i64), .val 13 (Ty.i .i64), .own 11 58 1 38 15 (Ty.st .Envelope)], [4, 5, 6, 7, 9]⟩ (.l (.r (.j ⟨[.val 12 (Ty.i .i64), .own 11 58 1 38 15 (Ty.st .Envelope)], [4, 5, 6, 7, 9, 13]⟩ .e))))))) (.b (.g [(0, .ps (.frz 11))]) (.l (.r (.l (.j ⟨[.val 104 (Ty.i .i64)], [5, 12, 16, 102, 103]⟩ (.l (.r (.r (.l (.l (.r (.r (.r (.l (.j ⟨[.val 19 (Ty.i .i64)], [5, 12, 16, 18, 102, 103, 104]⟩ .e))))))))))))))))))))))))))
noncomputable def F_law44_MonitorNeeds (a0 : (List Int)) : Option Bool :=
 Option.bind (F_play_New a0) fun r1 =>
 Option.bind (F_law44_sightings r1) fun p2 =>
 Option.bind (F_play_Src_N p2.2 (4 : Int)) fun p3 =>
 Option.bind (F_monitor_Stuck p2.1 p3.1 (1 : Int)) fun r4 =>
 Option.bind (F_ref44_Newest p2.1 p3.1 (1 : Int)) fun r5 =>
 bif (!r4.2.1) then
 Option.bind (F_law44_sane) fun r6 =>
 some r6
 else
 Option.bind (bif (!r5.2.1) then some true
 else
 some (!decide (r4.1.Node = p3.1))) fun b7 =>
 Option.bind (bif b7 then some true
 else
 some (!decide (r4.1.Slot = (1 : Int)))) fun b8 =>
 Option.bind (bif b8 then some true
 else
 some (!decide (r4.1.Value = r5.1.Ballot.Value))) fun b9 =>
 bif b9 then
 some false
 else
 loopO (fun (v10 : Int × Int × (List TEnvelope) × Unit) =>
 bif (decide (v10.2.1 < (10 : Int))) then
 letJ (fun (v11 : Int × (List TEnvelope) × Unit) =>
 some (Sum.inl (v11.1, (addI .i64 v10.2.1 (1 : Int)), v11.2.1, ()))) fun j12 =>
 Option.bind (F_ref44_Newest p2.1 v10.2.1 (1 : Int)) fun r13 =>
 bif r13.2.1 then
 bif lenOk 176 (List.length v10.2.2.1 + List.length [(TEnvelope.mk r13.1.Node r13.1.Slot r13.1.Seq (TTrust.mk r13.1.Trust.Threshold r13.1.Trust.Nodes r13.1.Trust.Inner) r13.1.Kind r13.1.Ballot r13.1.Prepared r13.1.Prime r13.1.Low r13.1.High)]) then
 Option.bind (F_ref24_VotesPrepare (TEnvelope.mk r13.1.Node r13.1.Slot r13.1.Seq (TTrust.mk r13.1.Trust.Threshold r13.1.Trust.Nodes r13.1.Trust.Inner) r13.1.Kind r13.1.Ballot r13.1.Prepared r13.1.Prime r13.1.Low r13.1.High) r5.1.Ballot) fun r14 =>
 Option.bind (bif r14 then some true
 else
 Option.bind (F_ref24_AcceptsPrepare (TEnvelope.mk r13.1.Node r13.1.Slot r13.1.Seq (TTrust.mk r13.1.Trust.Threshold r13.1.Trust.Nodes r13.1.Trust.Inner) r13.1.Kind r13.1.Ballot r13.1.Prepared r13.1.Prime r13.1.Low r13.1.High) r5.1.Ballot) fun r15 =>
 some r15) fun b16 =>
 bif b16 then
 if (convI .u64 v10.2.1) < 0 then none else
 j12 ((orI .i64 v10.1 (shlI .i64 (1 : Int) (convI .u64 v10.2.1))), (v10.2.2.1 ++ [(TEnvelope.mk r13.1.Node r13.1.Slot r13.1.Seq (TTrust.mk r13.1.Trust.Threshold r13.1.Trust.Nodes r13.1.Trust.Inner) r13.1.Kind r13.1.Ballot r13.1.Prepared r13.1.Prime r13.1.Low r13.1.High)]), ())
 else
 j12 (v10.1, (v10.2.2.1 ++ [(TEnvelope.mk r13.1.Node r13.1.Slot r13.1.Seq (TTrust.mk r13.1.Trust.Threshold r13.1.Trust.Nodes r13.1.Trust.Inner) r13.1.Kind r13.1.Ballot r13.1.Prepared r13.1.Prime r13.1.Low r13.1.High)]), ())
 else none
 else
 j12 (v10.1, v10.2.2.1, ())
 else
 Option.map Sum.inr (Option.bind (F_ref25_View p3.1 (TTrust.mk r5.1.Trust.Threshold r5.1.Trust.Nodes r5.1.Trust.Inner) v10.2.2.1) fun r17 =>
 loopO (fun (v18 : Int × Unit) =>
 bif (decide (v18.1 < ((List.length r4.1.Needs : Nat) : Int))) then
 Option.bind (idx r4.1.Needs v18.1) fun x19 =>
 Option.bind (bif (!decide ((andI .i64 x19 v10.1) = (0 : Int))) then some true
 else
 Option.bind (F_ref09_Greatest r17 (orI .i64 x19 v10.1)) fun r20 =>
 if (convI .u64 p3.1) < 0 then none else
 some (decide ((andI .i64 (shrI .i64 r20 (convI .u64 p3.1)) (1 : Int)) = (0 : Int)))) fun b21 =>
 bif b21 then
 Option.map Sum.inr (some false)
 else
 loopO (fun (v22 : Int × Unit) =>
 bif (decide (v22.1 < (10 : Int))) then
 if (convI .u64 v22.1) < 0 then none else
 Option.bind (bif (decide ((andI .i64 (shrI .i64 x19 (convI .u64 v22.1)) (1 : Int)) = (1 : Int))) then
 if (convI .u64 v22.1) < 0 then none else
 Option.bind (F_ref09_Greatest r17 (orI .i64 (andNotI .i64 x19 (shlI .i64 (1 : Int) (convI .u64 v22.1))) v10.1)) fun r23 =>
 if (convI .u64 p3.1) < 0 then none else
 some (decide ((andI .i64 (shrI .i64 r23 (convI .u64 p3.1)) (1 : Int)) = (1 : Int)))
 else some false) fun b24 =>
 bif b24 then
 Option.map Sum.inr (Option.map Sum.inr (some false))
 else
 some (Sum.inl ((addI .i64 v22.1 (1 : Int)), ()))
 else
 Option.map Sum.inr (some (Sum.inl ((addI .i64 v18.1 (1 : Int)), ())))) ((0 : Int), ())
 else
 Option.map Sum.inr (Option.bind (F_law44_sane) fun r25 =>
 some r25)) ((0 : Int), ()))) ((0 : Int), (0 : Int), ([] : List TEnvelope), ())
noncomputable def k_law44_MonitorNeeds : KS U Tryz.prog := ⟨.fn 3 [.ty (Ty.sl (Ty.i .i64))] (.one Ty.bool) fun a => F_law44_MonitorNeeds a.1, fnS (K := K) sa_law44_MonitorNeeds 152 [.tmp 2] [k_play_New, k_law44_sightings, k_play_Src_N, k_monitor_Stuck, k_ref44_Newest, k_law44_sane, k_ref24_VotesPrepare, k_ref24_AcceptsPrepare, k_ref25_View, k_ref09_Greatest] (fk Tryz.f3 [] Tryz.func3)⟩

end Go.Proofs.YtaebanabjdmgfaaGreat
