/-
  Functions of the program as plain functions, each held against the program by the kernel. Printed by a program.
-/
import Derived.Test.YtncjalhhkmojlaaFnA
import Derived.Test.YtncjalhhkmojlaaProg
import Derived.KernelRfl
set_option linter.unusedVariables false
namespace Go.Proofs.Ytncjalhhkmojlaa
open Go.TQ

/-! ### trustquorum/envelopes.Rights -/
def sa_envelopes_Rights : SA U :=
 (.seq
 (.reg
 (op 2 (.mov (.cst (.nils)))
 .nil))
 (.seq
 (.reg
 (op 3 (.mov (.cst (.nils)))
 .nil))
 (.seq
 (.seq
 (.reg
 (op 6 (.mov (tm 0))
 (op 7 (.len false (tm 6))
 (op 8 (.mov (ci 0))
 .nil))))
 (.block 0
 (.ps (.own 3 76 15 (Ty.st .Right))
 (.loop ⟨[.val 8 (Ty.i .i64), .own 3 5 1 76 15 (Ty.st .Right)], [6, 7]⟩
 (.seq
 (.reg
 (op 9 (.bin .lss (tm 8) (tm 7))
 .nil))
 (.seq
 (.cond (tm 9)
 .skip
 (.exit 0))
 (.join ⟨[.own 3 5 1 76 15 (Ty.st .Right)], [6, 7, 8]⟩
 (.block 1
 (.seq
 (.reg
 (op 10 (.iaddr 15 (tm 6) (tm 8))
 (op 11 (.load (some 15) (tm 10))
 (op 5 (.alloc [.int .i64 0, .int .i64 0, .int .i64 0, .int .i64 0, .nils, .nils, .int .i64 0, .int .i64 0, .str ⟨#[]⟩, .int .i64 0, .str ⟨#[]⟩, .int .i64 0, .str ⟨#[]⟩, .int .i64 0, .int .i64 0])
 (ops (.store 15 (tm 5) (tm 11))
 .nil)))))
 (.seq
 (.reg
 (op 12 (.load (some 15) (tm 5))
 (op 13 (.call 25 [(tm 12)])
 .nil)))
 (.cond (tm 13)
 (.reg
 (op 14 (.mov (tm 3))
 (op 15 (.load (some 15) (tm 5))
 (op 16 (.build [.int .i64 0, .int .i64 0, .int .i64 0, .int .i64 0, .nils, .nils, .int .i64 0, .int .i64 0, .str ⟨#[]⟩, .int .i64 0, .str ⟨#[]⟩, .int .i64 0, .str ⟨#[]⟩, .int .i64 0, .int .i64 0] [(0, 15, (tm 15))])
 (op 17 (.bsl false 76 15 (List.replicate 1 [.int .i64 0, .int .i64 0, .int .i64 0, .int .i64 0, .nils, .nils, .int .i64 0, .int .i64 0, .str ⟨#[]⟩, .int .i64 0, .str ⟨#[]⟩, .int .i64 0, .str ⟨#[]⟩, .int .i64 0, .int .i64 0]) [(0, (tm 16))])
 (op 18 (.app 76 15 176 (tm 14) (tm 17))
 (op 3 (.mov (tm 18))
 .nil)))))))
 .skip))))
 (.reg
 (op 19 (.bin .add (tm 8) (ci 1))
 (op 8 (.mov (tm 19))
 .nil))))))))))
 (.seq
 (.reg
 (op 20 (.mov (tm 3))
 (op 2 (.mov (tm 20))
 .nil)))
 .ret))))
theorem ok_envelopes_Rights : FnOk Try.prog 100 21 (SA.erase sa_envelopes_Rights) [.tmp 2] := ⟨Try.f100, [], Try.func100, rfl, by kernel_rfl, by kernel_rfl, by kernel_rfl⟩
noncomputable def F_envelopes_Rights (a0 : (List TEnvelope)) : Option (List TRight) :=
 loopO (fun (v1 : Int × (List TRight) × Unit) =>
 bif (decide (v1.1 < ((List.length a0 : Nat) : Int))) then
 letJ (fun (v2 : (List TRight) × Unit) =>
 some (Sum.inl ((addI .i64 v1.1 (1 : Int)), v2.1, ()))) fun j3 =>
 Option.bind (idx a0 v1.1) fun x4 =>
 Option.bind (F_envelopes_Valid (TEnvelope.mk x4.Node x4.Slot x4.Seq (TTrust.mk x4.Trust.Threshold x4.Trust.Nodes x4.Trust.Inner) x4.Kind x4.Ballot x4.Prepared x4.Prime x4.Low x4.High)) fun r5 =>
 bif r5 then
 bif lenOk 176 (List.length v1.2.1 + List.length [(TRight.mk (TEnvelope.mk x4.Node x4.Slot x4.Seq (TTrust.mk x4.Trust.Threshold x4.Trust.Nodes x4.Trust.Inner) x4.Kind x4.Ballot x4.Prepared x4.Prime x4.Low x4.High))]) then
 j3 ((v1.2.1 ++ [(TRight.mk (TEnvelope.mk x4.Node x4.Slot x4.Seq (TTrust.mk x4.Trust.Threshold x4.Trust.Nodes x4.Trust.Inner) x4.Kind x4.Ballot x4.Prepared x4.Prime x4.Low x4.High))]), ())
 else none
 else
 j3 (v1.2.1, ())
 else
 Option.map Sum.inr (some v1.2.1)) ((0 : Int), ([] : List TRight), ())
noncomputable def k_envelopes_Rights : KFun U := .fn 100 [.ty (Ty.sl (Ty.st .Envelope))] (.one (Ty.sl (Ty.st .Right))) fun a => F_envelopes_Rights a.1
theorem e_envelopes_Rights : fnK K [k_envelopes_Valid] sa_envelopes_Rights [.tmp 2] [.ty (Ty.sl (Ty.st .Envelope))] (.one (Ty.sl (Ty.st .Right))) = fun a => F_envelopes_Rights a.1 := by kernel_rfl
theorem s_envelopes_Rights : KFun.Sound (U := U) Try.prog k_envelopes_Rights := fnK_sound (K := K) (Γ := [k_envelopes_Valid]) ok_envelopes_Rights (by kernel_rfl) (by decide) ⟨s_envelopes_Valid, trivial⟩ (fun a => congrFun e_envelopes_Rights a)

/-! ### trustquorum/prepare.Look -/
def sa_prepare_Look : SA U :=
 (.seq
 (.reg
 (op 4 (.box (tm 1))
 (op 6 (.alloc [.int .i64 0, .nils, .nils])
 .nil)))
 (.seq
 (.reg
 (op 7 (.mov (tm 0))
 (op 8 (.mov (tm 0))
 (op 9 (.load (some 3) (tm 4))
 (op 10 (.mov (tm 2))
 (op 11 (.call 52 [(tm 8), (tm 9), (tm 10)])
 (op 12 (.mov (tm 2))
 (op 13 (.call 100 [(tm 12)])
 (op 14 (.build [.int .i64 0, .nils, .nils] [(0, 1, (tm 7)), (1, 1, (tm 11)), (2, 1, (tm 13))])
 (ops (.store 3 (tm 6) (tm 14))
 .nil))))))))))
 .ret))
theorem ok_prepare_Look : FnOk Try.prog 65 15 (SA.erase sa_prepare_Look) [.cell 6 (some 3)] := ⟨Try.f65, [], Try.func65, rfl, by kernel_rfl, by kernel_rfl, by kernel_rfl⟩
noncomputable def F_prepare_Look (a0 : Int) (a1 : TTrust) (a2 : (List TEnvelope)) : Option TSeen :=
 Option.bind (F_prepare_View a0 (TTrust.mk a1.Threshold a1.Nodes a1.Inner) a2) fun r1 =>
 Option.bind (F_envelopes_Rights a2) fun r2 =>
 some (TSeen.mk a0 r1 r2)
noncomputable def k_prepare_Look : KFun U := .fn 65 [.ty (Ty.i .i64), .ty (Ty.st .Trust), .ty (Ty.sl (Ty.st .Envelope))] (.one (Ty.st .Seen)) fun a => F_prepare_Look a.1 a.2.1 a.2.2.1
theorem e_prepare_Look : fnK K [k_prepare_View, k_envelopes_Rights] sa_prepare_Look [.cell 6 (some 3)] [.ty (Ty.i .i64), .ty (Ty.st .Trust), .ty (Ty.sl (Ty.st .Envelope))] (.one (Ty.st .Seen)) = fun a => F_prepare_Look a.1 a.2.1 a.2.2.1 := by kernel_rfl
theorem s_prepare_Look : KFun.Sound (U := U) Try.prog k_prepare_Look := fnK_sound (K := K) (Γ := [k_prepare_View, k_envelopes_Rights]) ok_prepare_Look (by kernel_rfl) (by decide) ⟨s_prepare_View, s_envelopes_Rights, trivial⟩ (fun a => congrFun e_prepare_Look a)

/-! ### trustquorum/prepare.accepts -/
def sa_prepare_accepts : SA U :=
 (.seq
 (.reg
 (op 1 (.box (tm 0))
 (op 2 (.mov (.cst (.any)))
 .nil)))
 (.seq
 (.reg
 (op 3 (.mkf 109 [(tm 1)])
 (op 2 (.mov (tm 3))
 .nil)))
 .ret))
theorem ok_prepare_accepts : FnOk Try.prog 76 4 (SA.erase sa_prepare_accepts) [.tmp 2] := ⟨Try.f76, [], Try.func76, rfl, by kernel_rfl, by kernel_rfl, by kernel_rfl⟩
noncomputable def F_prepare_accepts (a0 : TBallot) : Option (TBallot × Unit) :=
 some (a0, ())
noncomputable def k_prepare_accepts : KFun U := .fn 76 [.ty (Ty.st .Ballot)] (.fn (.clo 109 [.ref (.ty (Ty.st .Ballot))])) fun a => F_prepare_accepts a.1
theorem e_prepare_accepts : fnK K [] sa_prepare_accepts [.tmp 2] [.ty (Ty.st .Ballot)] (.fn (.clo 109 [.ref (.ty (Ty.st .Ballot))])) = fun a => F_prepare_accepts a.1 := by kernel_rfl
theorem s_prepare_accepts : KFun.Sound (U := U) Try.prog k_prepare_accepts := fnK_sound (K := K) (Γ := []) ok_prepare_accepts (by kernel_rfl) (by decide) trivial (fun a => congrFun e_prepare_accepts a)

/-! ### (trustquorum/prepare.Seen).ready$1 -/
def sa_prepare_Seen_ready_1 : SA U :=
 (.seq
 (.reg
 (op 2 (.box (tm 0))
 (op 3 (.mov (.cst (.bool false)))
 .nil)))
 (.seq
 (.reg
 (op 4 (.load (some 15) (tm 2))
 (op 5 (.load (some 2) (tm 1))
 (op 6 (.call 59 [(tm 4), (tm 5)])
 (op 3 (.mov (tm 6))
 .nil)))))
 .ret))
theorem ok_prepare_Seen_ready_1 : FnOk Try.prog 102 7 (SA.erase sa_prepare_Seen_ready_1) [.tmp 3] := ⟨Try.f102, [], Try.func102, rfl, by kernel_rfl, by kernel_rfl, by kernel_rfl⟩
noncomputable def F_prepare_Seen_ready_1 (a0 : TRight) (a1 : TBallot) : Option Bool :=
 Option.bind (F_envelopes_Right_VotesPrepare (TRight.mk (TEnvelope.mk a0.Envelope.Node a0.Envelope.Slot a0.Envelope.Seq (TTrust.mk a0.Envelope.Trust.Threshold a0.Envelope.Trust.Nodes a0.Envelope.Trust.Inner) a0.Envelope.Kind a0.Envelope.Ballot a0.Envelope.Prepared a0.Envelope.Prime a0.Envelope.Low a0.Envelope.High)) a1) fun r1 =>
 some r1
noncomputable def k_prepare_Seen_ready_1 : KFun U := .fn 102 [.ty (Ty.st .Right), .ref (.ty (Ty.st .Ballot))] (.one Ty.bool) fun a => F_prepare_Seen_ready_1 a.1 a.2.1
theorem e_prepare_Seen_ready_1 : fnK K [k_envelopes_Right_VotesPrepare] sa_prepare_Seen_ready_1 [.tmp 3] [.ty (Ty.st .Right), .ref (.ty (Ty.st .Ballot))] (.one Ty.bool) = fun a => F_prepare_Seen_ready_1 a.1 a.2.1 := by kernel_rfl
theorem s_prepare_Seen_ready_1 : KFun.Sound (U := U) Try.prog k_prepare_Seen_ready_1 := fnK_sound (K := K) (Γ := [k_envelopes_Right_VotesPrepare]) ok_prepare_Seen_ready_1 (by kernel_rfl) (by decide) ⟨s_envelopes_Right_VotesPrepare, trivial⟩ (fun a => congrFun e_prepare_Seen_ready_1 a)

/-! ### trustquorum/prepare.accepts$1 -/
def sa_prepare_accepts_1 : SA U :=
 (.seq
 (.reg
 (op 2 (.box (tm 0))
 (op 3 (.mov (.cst (.bool false)))
 .nil)))
 (.seq
 (.reg
 (op 4 (.load (some 15) (tm 2))
 (op 5 (.load (some 2) (tm 1))
 (op 6 (.call 58 [(tm 4), (tm 5)])
 (op 3 (.mov (tm 6))
 .nil)))))
 .ret))
theorem ok_prepare_accepts_1 : FnOk Try.prog 109 7 (SA.erase sa_prepare_accepts_1) [.tmp 3] := ⟨Try.f109, [], Try.func109, rfl, by kernel_rfl, by kernel_rfl, by kernel_rfl⟩
noncomputable def F_prepare_accepts_1 (a0 : TRight) (a1 : TBallot) : Option Bool :=
 Option.bind (F_envelopes_Right_AcceptsPrepare (TRight.mk (TEnvelope.mk a0.Envelope.Node a0.Envelope.Slot a0.Envelope.Seq (TTrust.mk a0.Envelope.Trust.Threshold a0.Envelope.Trust.Nodes a0.Envelope.Trust.Inner) a0.Envelope.Kind a0.Envelope.Ballot a0.Envelope.Prepared a0.Envelope.Prime a0.Envelope.Low a0.Envelope.High)) a1) fun r1 =>
 some r1
noncomputable def k_prepare_accepts_1 : KFun U := .fn 109 [.ty (Ty.st .Right), .ref (.ty (Ty.st .Ballot))] (.one Ty.bool) fun a => F_prepare_accepts_1 a.1 a.2.1
theorem e_prepare_accepts_1 : fnK K [k_envelopes_Right_AcceptsPrepare] sa_prepare_accepts_1 [.tmp 3] [.ty (Ty.st .Right), .ref (.ty (Ty.st .Ballot))] (.one Ty.bool) = fun a => F_prepare_accepts_1 a.1 a.2.1 := by kernel_rfl
theorem s_prepare_accepts_1 : KFun.Sound (U := U) Try.prog k_prepare_accepts_1 := fnK_sound (K := K) (Γ := [k_envelopes_Right_AcceptsPrepare]) ok_prepare_accepts_1 (by kernel_rfl) (by decide) ⟨s_envelopes_Right_AcceptsPrepare, trivial⟩ (fun a => congrFun e_prepare_accepts_1 a)

/-! ### (trustquorum/prepare.Seen).Accepts$1 -/
def sa_prepare_Seen_Accepts_1_c102_c109 : SA U :=
 (.seq
 (.reg
 (op 3 (.box (tm 0))
 (op 4 (.mov (.cst (.bool false)))
 .nil)))
 (.seq
 (.reg
 (op 5 (.load none (tm 1))
 (op 6 (.load (some 15) (tm 3))
 (op 7 (.callv (tm 5) [(tm 6)])
 (op 8 (.mov (tm 7))
 (.ite 8 false
 (opg 9 8 false (.load none (tm 2))
 (opg 10 8 false (.load (some 15) (tm 3))
 (opg 11 8 false (.callv (tm 9) [(tm 10)])
 .nil)))
 12 none (.cst (.bool true)) (tm 11)
 (op 4 (.mov (tm 12))
 .nil)))))))
 .ret))
theorem ok_prepare_Seen_Accepts_1_c102_c109 : FnOk Try.prog 125 13 (SA.erase sa_prepare_Seen_Accepts_1_c102_c109) [.tmp 4] := ⟨Try.f125, [], Try.func125, rfl, by kernel_rfl, by kernel_rfl, by kernel_rfl⟩
noncomputable def F_prepare_Seen_Accepts_1_c102_c109 (a0 : TRight) (a1 : TBallot) (a2 : TBallot) : Option Bool :=
 Option.bind (F_prepare_Seen_ready_1 (TRight.mk (TEnvelope.mk a0.Envelope.Node a0.Envelope.Slot a0.Envelope.Seq (TTrust.mk a0.Envelope.Trust.Threshold a0.Envelope.Trust.Nodes a0.Envelope.Trust.Inner) a0.Envelope.Kind a0.Envelope.Ballot a0.Envelope.Prepared a0.Envelope.Prime a0.Envelope.Low a0.Envelope.High)) a1) fun r1 =>
 Option.bind (bif r1 then some true
 else
 Option.bind (F_prepare_accepts_1 (TRight.mk (TEnvelope.mk a0.Envelope.Node a0.Envelope.Slot a0.Envelope.Seq (TTrust.mk a0.Envelope.Trust.Threshold a0.Envelope.Trust.Nodes a0.Envelope.Trust.Inner) a0.Envelope.Kind a0.Envelope.Ballot a0.Envelope.Prepared a0.Envelope.Prime a0.Envelope.Low a0.Envelope.High)) a2) fun r2 =>
 some r2) fun b3 =>
 some b3
noncomputable def k_prepare_Seen_Accepts_1_c102_c109 : KFun U := .fn 125 [.ty (Ty.st .Right), .ref (.clo 102 [.ref (.ty (Ty.st .Ballot))]), .ref (.clo 109 [.ref (.ty (Ty.st .Ballot))])] (.one Ty.bool) fun a => F_prepare_Seen_Accepts_1_c102_c109 a.1 a.2.1.1 a.2.2.1.1
theorem e_prepare_Seen_Accepts_1_c102_c109 : fnK K [k_prepare_Seen_ready_1, k_prepare_accepts_1] sa_prepare_Seen_Accepts_1_c102_c109 [.tmp 4] [.ty (Ty.st .Right), .ref (.clo 102 [.ref (.ty (Ty.st .Ballot))]), .ref (.clo 109 [.ref (.ty (Ty.st .Ballot))])] (.one Ty.bool) = fun a => F_prepare_Seen_Accepts_1_c102_c109 a.1 a.2.1.1 a.2.2.1.1 := by kernel_rfl
theorem s_prepare_Seen_Accepts_1_c102_c109 : KFun.Sound (U := U) Try.prog k_prepare_Seen_Accepts_1_c102_c109 := fnK_sound (K := K) (Γ := [k_prepare_Seen_ready_1, k_prepare_accepts_1]) ok_prepare_Seen_Accepts_1_c102_c109 (by kernel_rfl) (by decide) ⟨s_prepare_Seen_ready_1, s_prepare_accepts_1, trivial⟩ (fun a => congrFun e_prepare_Seen_Accepts_1_c102_c109 a)

/-! ### (trustquorum/prepare.Seen).Who -/
def sa_prepare_Seen_Who_c125_c102_c109 : SA U :=
 (.seq
 (.reg
 (op 2 (.box (tm 0))
 (op 4 (.mov (ci 0))
 .nil)))
 (.seq
 (.reg
 (op 5 (.mov (ci 0))
 .nil))
 (.seq
 (.seq
 (.reg
 (op 8 (.faddr 2 (tm 2))
 (op 9 (.load none (tm 8))
 (op 10 (.len false (tm 9))
 (op 11 (.mov (ci 0))
 .nil)))))
 (.block 0
 (.loop ⟨[.val 5 (Ty.i .i64), .val 11 (Ty.i .i64)], [1, 9, 10]⟩
 (.seq
 (.reg
 (op 12 (.bin .lss (tm 11) (tm 10))
 .nil))
 (.seq
 (.cond (tm 12)
 .skip
 (.exit 0))
 (.join ⟨[.val 5 (Ty.i .i64)], [1, 9, 10, 11]⟩
 (.block 1
 (.seq
 (.reg
 (op 13 (.iaddr 15 (tm 9) (tm 11))
 (op 14 (.load (some 15) (tm 13))
 (op 7 (.alloc [.int .i64 0, .int .i64 0, .int .i64 0, .int .i64 0, .nils, .nils, .int .i64 0, .int .i64 0, .str ⟨#[]⟩, .int .i64 0, .str ⟨#[]⟩, .int .i64 0, .str ⟨#[]⟩, .int .i64 0, .int .i64 0])
 (ops (.store 15 (tm 7) (tm 14))
 .nil)))))
 (.seq
 (.reg
 (op 15 (.mov (tm 1))
 (op 16 (.load (some 15) (tm 7))
 (op 17 (.callv (tm 15) [(tm 16)])
 .nil))))
 (.cond (tm 17)
 (.reg
 (op 18 (.mov (tm 5))
 (op 19 (.faddr 0 (tm 7))
 (op 20 (.faddr 0 (tm 19))
 (op 21 (.load none (tm 20))
 (op 22 (.bin .shl (ci 1) (tm 21))
 (op 23 (.bin .or (tm 18) (tm 22))
 (op 5 (.mov (tm 23))
 .nil))))))))
 .skip))))
 (.reg
 (op 24 (.bin .add (tm 11) (ci 1))
 (op 11 (.mov (tm 24))
 .nil)))))))))
 (.seq
 (.reg
 (op 25 (.mov (tm 5))
 (op 4 (.mov (tm 25))
 .nil)))
 .ret))))
theorem ok_prepare_Seen_Who_c125_c102_c109 : FnOk Try.prog 108 26 (SA.erase sa_prepare_Seen_Who_c125_c102_c109) [.tmp 4] := ⟨Try.f108, [], Try.func108, rfl, by kernel_rfl, by kernel_rfl, by kernel_rfl⟩
noncomputable def F_prepare_Seen_Who_c125_c102_c109 (a0 : TSeen) (a1 : TBallot) (a2 : TBallot) : Option Int :=
 loopO (fun (v1 : Int × Int × Unit) =>
 bif (decide (v1.2.1 < ((List.length a0.Heard : Nat) : Int))) then
 letJ (fun (v2 : Int × Unit) =>
 some (Sum.inl (v2.1, (addI .i64 v1.2.1 (1 : Int)), ()))) fun j3 =>
 Option.bind (idx a0.Heard v1.2.1) fun x4 =>
 Option.bind (F_prepare_Seen_Accepts_1_c102_c109 (TRight.mk (TEnvelope.mk x4.Envelope.Node x4.Envelope.Slot x4.Envelope.Seq (TTrust.mk x4.Envelope.Trust.Threshold x4.Envelope.Trust.Nodes x4.Envelope.Trust.Inner) x4.Envelope.Kind x4.Envelope.Ballot x4.Envelope.Prepared x4.Envelope.Prime x4.Envelope.Low x4.Envelope.High)) a1 a2) fun r5 =>
 bif r5 then
 if x4.Envelope.Node < 0 then none else
 j3 ((orI .i64 v1.1 (shlI .i64 (1 : Int) x4.Envelope.Node)), ())
 else
 j3 (v1.1, ())
 else
 Option.map Sum.inr (some v1.1)) ((0 : Int), (0 : Int), ())
noncomputable def k_prepare_Seen_Who_c125_c102_c109 : KFun U := .fn 108 [.ty (Ty.st .Seen), .clo 125 [.ref (.clo 102 [.ref (.ty (Ty.st .Ballot))]), .ref (.clo 109 [.ref (.ty (Ty.st .Ballot))])]] (.one (Ty.i .i64)) fun a => F_prepare_Seen_Who_c125_c102_c109 a.1 a.2.1.1.1 a.2.1.2.1.1
theorem e_prepare_Seen_Who_c125_c102_c109 : fnK K [k_prepare_Seen_Accepts_1_c102_c109] sa_prepare_Seen_Who_c125_c102_c109 [.tmp 4] [.ty (Ty.st .Seen), .clo 125 [.ref (.clo 102 [.ref (.ty (Ty.st .Ballot))]), .ref (.clo 109 [.ref (.ty (Ty.st .Ballot))])]] (.one (Ty.i .i64)) = fun a => F_prepare_Seen_Who_c125_c102_c109 a.1 a.2.1.1.1 a.2.1.2.1.1 := by kernel_rfl
theorem s_prepare_Seen_Who_c125_c102_c109 : KFun.Sound (U := U) Try.prog k_prepare_Seen_Who_c125_c102_c109 := fnK_sound (K := K) (Γ := [k_prepare_Seen_Accepts_1_c102_c109]) ok_prepare_Seen_Who_c125_c102_c109 (by kernel_rfl) (by decide) ⟨s_prepare_Seen_Accepts_1_c102_c109, trivial⟩ (fun a => congrFun e_prepare_Seen_Who_c125_c102_c109 a)

/-! ### (trustquorum/prepare.Seen).Who -/
def sa_prepare_Seen_Who_c109 : SA U :=
 (.seq
 (.reg
 (op 2 (.box (tm 0))
 (op 4 (.mov (ci 0))
 .nil)))
 (.seq
 (.reg
 (op 5 (.mov (ci 0))
 .nil))
 (.seq
 (.seq
 (.reg
 (op 8 (.faddr 2 (tm 2))
 (op 9 (.load none (tm 8))
 (op 10 (.len false (tm 9))
 (op 11 (.mov (ci 0))
 .nil)))))
 (.block 0
 (.loop ⟨[.val 5 (Ty.i .i64), .val 11 (Ty.i .i64)], [1, 9, 10]⟩
 (.seq
 (.reg
 (op 12 (.bin .lss (tm 11) (tm 10))
 .nil))
 (.seq
 (.cond (tm 12)
 .skip
 (.exit 0))
 (.join ⟨[.val 5 (Ty.i .i64)], [1, 9, 10, 11]⟩
 (.block 1
 (.seq
 (.reg
 (op 13 (.iaddr 15 (tm 9) (tm 11))
 (op 14 (.load (some 15) (tm 13))
 (op 7 (.alloc [.int .i64 0, .int .i64 0, .int .i64 0, .int .i64 0, .nils, .nils, .int .i64 0, .int .i64 0, .str ⟨#[]⟩, .int .i64 0, .str ⟨#[]⟩, .int .i64 0, .str ⟨#[]⟩, .int .i64 0, .int .i64 0])
 (ops (.store 15 (tm 7) (tm 14))
 .nil)))))
 (.seq
 (.reg
 (op 15 (.mov (tm 1))
 (op 16 (.load (some 15) (tm 7))
 (op 17 (.callv (tm 15) [(tm 16)])
 .nil))))
 (.cond (tm 17)
 (.reg
 (op 18 (.mov (tm 5))
 (op 19 (.faddr 0 (tm 7))
 (op 20 (.faddr 0 (tm 19))
 (op 21 (.load none (tm 20))
 (op 22 (.bin .shl (ci 1) (tm 21))
 (op 23 (.bin .or (tm 18) (tm 22))
 (op 5 (.mov (tm 23))
 .nil))))))))
 .skip))))
 (.reg
 (op 24 (.bin .add (tm 11) (ci 1))
 (op 11 (.mov (tm 24))
 .nil)))))))))
 (.seq
 (.reg
 (op 25 (.mov (tm 5))
 (op 4 (.mov (tm 25))
 .nil)))
 .ret))))
theorem ok_prepare_Seen_Who_c109 : FnOk Try.prog 108 26 (SA.erase sa_prepare_Seen_Who_c109) [.tmp 4] := ⟨Try.f108, [], Try.func108, rfl, by kernel_rfl, by kernel_rfl, by kernel_rfl⟩
noncomputable def F_prepare_Seen_Who_c109 (a0 : TSeen) (a1 : TBallot) : Option Int :=
 loopO (fun (v1 : Int × Int × Unit) =>
 bif (decide (v1.2.1 < ((List.length a0.Heard : Nat) : Int))) then
 letJ (fun (v2 : Int × Unit) =>
 some (Sum.inl (v2.1, (addI .i64 v1.2.1 (1 : Int)), ()))) fun j3 =>
 Option.bind (idx a0.Heard v1.2.1) fun x4 =>
 Option.bind (F_prepare_accepts_1 (TRight.mk (TEnvelope.mk x4.Envelope.Node x4.Envelope.Slot x4.Envelope.Seq (TTrust.mk x4.Envelope.Trust.Threshold x4.Envelope.Trust.Nodes x4.Envelope.Trust.Inner) x4.Envelope.Kind x4.Envelope.Ballot x4.Envelope.Prepared x4.Envelope.Prime x4.Envelope.Low x4.Envelope.High)) a1) fun r5 =>
 bif r5 then
 if x4.Envelope.Node < 0 then none else
 j3 ((orI .i64 v1.1 (shlI .i64 (1 : Int) x4.Envelope.Node)), ())
 else
 j3 (v1.1, ())
 else
 Option.map Sum.inr (some v1.1)) ((0 : Int), (0 : Int), ())
noncomputable def k_prepare_Seen_Who_c109 : KFun U := .fn 108 [.ty (Ty.st .Seen), .clo 109 [.ref (.ty (Ty.st .Ballot))]] (.one (Ty.i .i64)) fun a => F_prepare_Seen_Who_c109 a.1 a.2.1.1
theorem e_prepare_Seen_Who_c109 : fnK K [k_prepare_accepts_1] sa_prepare_Seen_Who_c109 [.tmp 4] [.ty (Ty.st .Seen), .clo 109 [.ref (.ty (Ty.st .Ballot))]] (.one (Ty.i .i64)) = fun a => F_prepare_Seen_Who_c109 a.1 a.2.1.1 := by kernel_rfl
theorem s_prepare_Seen_Who_c109 : KFun.Sound (U := U) Try.prog k_prepare_Seen_Who_c109 := fnK_sound (K := K) (Γ := [k_prepare_accepts_1]) ok_prepare_Seen_Who_c109 (by kernel_rfl) (by decide) ⟨s_prepare_accepts_1, trivial⟩ (fun a => congrFun e_prepare_Seen_Who_c109 a)

/-! ### trustquorum/configuration.Declared -/
def sa_configuration_Declared : SA U :=
 (.seq
 (.reg
 (op 1 (.box (tm 0))
 (op 2 (.mov (ci 0))
 .nil)))
 (.seq
 (.reg
 (op 3 (.mov (ci 0))
 .nil))
 (.seq
 (.seq
 (.reg
 (op 6 (.faddr 0 (tm 1))
 (op 7 (.load none (tm 6))
 (op 8 (.len false (tm 7))
 (op 9 (.mov (ci 0))
 .nil)))))
 (.block 0
 (.loop ⟨[.val 3 (Ty.i .i64), .val 9 (Ty.i .i64)], [7, 8]⟩
 (.seq
 (.reg
 (op 10 (.bin .lss (tm 9) (tm 8))
 .nil))
 (.seq
 (.cond (tm 10)
 .skip
 (.exit 0))
 (.join ⟨[.val 3 (Ty.i .i64)], [7, 8, 9]⟩
 (.block 1
 (.seq
 (.reg
 (op 11 (.mov (tm 9))
 (op 12 (.iaddr 4 (tm 7) (tm 9))
 (op 13 (.load (some 4) (tm 12))
 (op 5 (.alloc [.bool false, .int .i64 0, .nils, .nils])
 (op 4 (.mov (tm 11))
 (ops (.store 4 (tm 5) (tm 13))
 .nil)))))))
 (.seq
 (.reg
 (op 14 (.faddr 0 (tm 5))
 (op 15 (.load none (tm 14))
 (op 16 (.mov (tm 15))
 (.ite 16 true
 (opg 17 16 true (.mov (tm 4))
 (opg 18 16 true (.bin .lss (tm 17) (ci 10))
 .nil))
 19 none (tm 18) (.cst (.bool false))
 .nil)))))
 (.cond (tm 19)
 (.reg
 (op 20 (.mov (tm 3))
 (op 21 (.mov (tm 4))
 (op 22 (.bin .shl (ci 1) (tm 21))
 (op 23 (.bin .or (tm 20) (tm 22))
 (op 3 (.mov (tm 23))
 .nil))))))
 .skip))))
 (.reg
 (op 24 (.bin .add (tm 9) (ci 1))
 (op 9 (.mov (tm 24))
 .nil)))))))))
 (.seq
 (.reg
 (op 25 (.mov (tm 3))
 (op 2 (.mov (tm 25))
 .nil)))
 .ret))))
theorem ok_configuration_Declared : FnOk Try.prog 146 26 (SA.erase sa_configuration_Declared) [.tmp 2] := ⟨Try.f146, [], Try.func146, rfl, by kernel_rfl, by kernel_rfl, by kernel_rfl⟩
noncomputable def F_configuration_Declared (a0 : TConfig) : Option Int :=
 loopO (fun (v1 : Int × Int × Unit) =>
 bif (decide (v1.2.1 < ((List.length a0.Members : Nat) : Int))) then
 letJ (fun (v2 : Int × Unit) =>
 some (Sum.inl (v2.1, (addI .i64 v1.2.1 (1 : Int)), ()))) fun j3 =>
 Option.bind (idx a0.Members v1.2.1) fun x4 =>
 Option.bind (bif x4.Declared then
 some (decide (v1.2.1 < (10 : Int)))
 else some false) fun b5 =>
 bif b5 then
 if v1.2.1 < 0 then none else
 j3 ((orI .i64 v1.1 (shlI .i64 (1 : Int) v1.2.1)), ())
 else
 j3 (v1.1, ())
 else
 Option.map Sum.inr (some v1.1)) ((0 : Int), (0 : Int), ())
noncomputable def k_configuration_Declared : KFun U := .fn 146 [.ty (Ty.st .Config)] (.one (Ty.i .i64)) fun a => F_configuration_Declared a.1
theorem e_configuration_Declared : fnK K [] sa_configuration_Declared [.tmp 2] [.ty (Ty.st .Config)] (.one (Ty.i .i64)) = fun a => F_configuration_Declared a.1 := by kernel_rfl
theorem s_configuration_Declared : KFun.Sound (U := U) Try.prog k_configuration_Declared := fnK_sound (K := K) (Γ := []) ok_configuration_Declared (by kernel_rfl) (by decide) trivial (fun a => congrFun e_configuration_Declared a)

/-! ### trustquorum/threshold.Satisfied -/
def sa_threshold_Satisfied : SA U :=
 (.seq
 (.reg
 (op 2 (.box (tm 0))
 (op 4 (.mov (.cst (.bool false)))
 .nil)))
 (.seq
 (.seq
 (.reg
 (op 10 (.mov (tm 1))
 (op 11 (.call 138 [(tm 10)])
 (op 12 (.not (tm 11))
 .nil))))
 (.cond (tm 12)
 (.seq
 (.reg
 (op 4 (.mov (.cst (.bool false)))
 .nil))
 .ret)
 .skip))
 (.seq
 (.reg
 (op 5 (.mov (ci 0))
 .nil))
 (.seq
 (.seq
 (.reg
 (op 13 (.faddr 1 (tm 2))
 (op 14 (.load none (tm 13))
 (op 15 (.len false (tm 14))
 (op 16 (.mov (ci 0))
 .nil)))))
 (.block 0
 (.loop ⟨[.val 5 (Ty.i .i64), .val 16 (Ty.i .i64)], [1, 2, 14, 15]⟩
 (.seq
 (.reg
 (op 17 (.bin .lss (tm 16) (tm 15))
 .nil))
 (.seq
 (.cond (tm 17)
 .skip
 (.exit 0))
 (.join ⟨[.val 5 (Ty.i .i64)], [1, 2, 14, 15, 16]⟩
 (.block 1
 (.seq
 (.reg
 (op 18 (.iaddr 1 (tm 14) (tm 16))
 (op 19 (.load none (tm 18))
 (op 7 (.mov (tm 19))
 .nil))))
 (.seq
 (.reg
 (op 20 (.mov (tm 1))
 (op 21 (.mov (tm 7))
 (op 22 (.call 129 [(tm 20), (tm 21)])
 .nil))))
 (.cond (tm 22)
 (.reg
 (op 23 (.mov (tm 5))
 (op 24 (.bin .add (tm 23) (ci 1))
 (op 5 (.mov (tm 24))
 .nil))))
 .skip))))
 (.reg
 (op 25 (.bin .add (tm 16) (ci 1))
 (op 16 (.mov (tm 25))
 .nil)))))))))
 (.seq
 (.seq
 (.reg
 (op 26 (.faddr 2 (tm 2))
 (op 27 (.load none (tm 26))
 (op 28 (.len false (tm 27))
 (op 29 (.mov (ci 0))
 .nil)))))
 (.block 2
 (.loop ⟨[.val 5 (Ty.i .i64), .val 29 (Ty.i .i64)], [1, 2, 27, 28]⟩
 (.seq
 (.reg
 (op 30 (.bin .lss (tm 29) (tm 28))
 .nil))
 (.seq
 (.cond (tm 30)
 .skip
 (.exit 2))
 (.join ⟨[.val 5 (Ty.i .i64)], [1, 2, 27, 28, 29]⟩
 (.block 3
 (.seq
 (.reg
 (op 31 (.iaddr 3 (tm 27) (tm 29))
 (op 32 (.load (some 3) (tm 31))
 (op 9 (.alloc [.int .i64 0, .nils, .nils])
 (ops (.store 3 (tm 9) (tm 32))
 .nil)))))
 (.seq
 (.reg
 (op 33 (.load (some 3) (tm 9))
 (op 34 (.mov (tm 1))
 (op 35 (.call 147 [(tm 33), (tm 34)])
 .nil))))
 (.cond (tm 35)
 (.reg
 (op 36 (.mov (tm 5))
 (op 37 (.bin .add (tm 36) (ci 1))
 (op 5 (.mov (tm 37))
 .nil))))
 .skip))))
 (.reg
 (op 38 (.bin .add (tm 29) (ci 1))
 (op 29 (.mov (tm 38))
 .nil)))))))))
 (.seq
 (.reg
 (op 39 (.mov (tm 5))
 (op 40 (.faddr 0 (tm 2))
 (op 41 (.load none (tm 40))
 (op 42 (.bin .geq (tm 39) (tm 41))
 (op 4 (.mov (tm 42))
 .nil))))))
 .ret))))))
theorem ok_threshold_Satisfied : FnOk Try.prog 147 43 (SA.erase sa_threshold_Satisfied) [.tmp 4] := ⟨Try.f147, [], Try.func147, rfl, by kernel_rfl, by kernel_rfl, by kernel_rfl⟩
noncomputable def B_threshold_Satisfied (rec : (TTrust × Int × Unit) → Option Bool) (a0 : TTrust) (a1 : Int) : Option Bool :=
 Option.bind (F_nodeset_Valid a1) fun r1 =>
 bif (!r1) then
 some false
 else
 loopO (fun (v2 : Int × Int × Unit) =>
 bif (decide (v2.2.1 < ((List.length a0.Nodes : Nat) : Int))) then
 letJ (fun (v3 : Int × Unit) =>
 some (Sum.inl (v3.1, (addI .i64 v2.2.1 (1 : Int)), ()))) fun j4 =>
 Option.bind (idx a0.Nodes v2.2.1) fun x5 =>
 Option.bind (F_nodeset_Has a1 x5) fun r6 =>
 bif r6 then
 j4 ((addI .i64 v2.1 (1 : Int)), ())
 else
 j4 (v2.1, ())
 else
 Option.map Sum.inr (loopO (fun (v7 : Int × Int × Unit) =>
 bif (decide (v7.2.1 < ((List.length a0.Inner : Nat) : Int))) then
 letJ (fun (v8 : Int × Unit) =>
 some (Sum.inl (v8.1, (addI .i64 v7.2.1 (1 : Int)), ()))) fun j9 =>
 Option.bind (idx a0.Inner v7.2.1) fun x10 =>
 Option.bind (rec ((TTrust.mk x10.Threshold x10.Nodes x10.Inner), a1, ())) fun r11 =>
 bif r11 then
 j9 ((addI .i64 v7.1 (1 : Int)), ())
 else
 j9 (v7.1, ())
 else
 Option.map Sum.inr (some (decide (a0.Threshold ≤ v7.1)))) (v2.1, (0 : Int), ()))) ((0 : Int), (0 : Int), ())
noncomputable def I_threshold_Satisfied : Nat → (TTrust × Int × Unit) → Option Bool := iterF (fun rec a => B_threshold_Satisfied rec a.1 a.2.1)
noncomputable def F_threshold_Satisfied (a0 : TTrust) (a1 : Int) : Option Bool := I_threshold_Satisfied (SizeOf.sizeOf a0 + SizeOf.sizeOf a1 + 1) (a0, a1, ())
noncomputable def k_threshold_Satisfied : KFun U := .fn 147 [.ty (Ty.st .Trust), .ty (Ty.i .i64)] (.one Ty.bool) fun a => F_threshold_Satisfied a.1 a.2.1
theorem e_threshold_Satisfied : (fun G => fnK K (.fn 147 [.ty (Ty.st .Trust), .ty (Ty.i .i64)] (.one Ty.bool) G :: [k_nodeset_Valid, k_nodeset_Has]) sa_threshold_Satisfied [.tmp 4] [.ty (Ty.st .Trust), .ty (Ty.i .i64)] (.one Ty.bool)) = (fun G a => B_threshold_Satisfied G a.1 a.2.1) := by kernel_rfl
theorem n_threshold_Satisfied : ∀ n, KFun.Sound (U := U) Try.prog (.fn 147 [.ty (Ty.st .Trust), .ty (Ty.i .i64)] (.one Ty.bool) (I_threshold_Satisfied n))
  | 0 => ⟨ok_threshold_Satisfied.enters, fun a r h => by cases h⟩
  | n + 1 => fnK_sound (K := K) (r := .one Ty.bool) (Γ := .fn 147 [.ty (Ty.st .Trust), .ty (Ty.i .i64)] (.one Ty.bool) (I_threshold_Satisfied n) :: [k_nodeset_Valid, k_nodeset_Has]) (F := I_threshold_Satisfied (n + 1)) ok_threshold_Satisfied (by kernel_rfl) (by decide) ⟨n_threshold_Satisfied n, s_nodeset_Valid, s_nodeset_Has, trivial⟩ (fun a => congrFun (congrFun e_threshold_Satisfied (I_threshold_Satisfied n)) a)
theorem s_threshold_Satisfied : KFun.Sound (U := U) Try.prog k_threshold_Satisfied := ⟨ok_threshold_Satisfied.enters, fun a r h => (n_threshold_Satisfied _).2 a r h⟩

/-! ### trustquorum/blocking.Blocks -/
def sa_blocking_Blocks : SA U :=
 (.seq
 (.reg
 (op 3 (.box (tm 0))
 (op 6 (.mov (.cst (.bool false)))
 .nil)))
 (.seq
 (.seq
 (.reg
 (op 7 (.mov (tm 2))
 (op 8 (.call 138 [(tm 7)])
 (op 9 (.not (tm 8))
 (op 10 (.mov (tm 9))
 (.ite 10 false
 (opg 11 10 false (.load (some 1) (tm 3))
 (opg 12 10 false (.call 146 [(tm 11)])
 (opg 13 10 false (.mov (tm 1))
 (opg 14 10 false (.call 129 [(tm 12), (tm 13)])
 (opg 15 10 false (.not (tm 14))
 .nil)))))
 16 none (.cst (.bool true)) (tm 15)
 .nil))))))
 (.cond (tm 16)
 (.seq
 (.reg
 (op 6 (.mov (.cst (.bool false)))
 .nil))
 .ret)
 .skip))
 (.seq
 (.drw []
 (op 17 (.faddr 0 (tm 3))
 (op 18 (.load none (tm 17))
 (op 19 (.mov (tm 1))
 (op 20 (.iaddr 4 (tm 18) (tm 19))
 (op 21 (.faddr 1 (tm 20))
 (op 22 (.load (some 3) (tm 21))
 (op 23 (.mov (tm 2))
 (op 24 (.bin .andNot (ci 1023) (tm 23))
 (op 25 (.mov (tm 1))
 (op 26 (.bin .shl (ci 1) (tm 25))
 (op 27 (.bin .or (tm 24) (tm 26))
 (op 28 (.call 147 [(tm 22), (tm 27)])
 (op 29 (.not (tm 28))
 (op 6 (.mov (tm 29))
 .nil)))))))))))))))
 .ret)))
theorem ok_blocking_Blocks : FnOk Try.prog 139 30 (SA.erase sa_blocking_Blocks) [.tmp 6] := ⟨Try.f139, [], Try.func139, rfl, by kernel_rfl, by kernel_rfl, by kernel_rfl⟩
noncomputable def F_blocking_Blocks (a0 : TConfig) (a1 : Int) (a2 : Int) : Option Bool :=
 Option.bind (F_nodeset_Valid a2) fun r1 =>
 Option.bind (bif (!r1) then some true
 else
 Option.bind (F_configuration_Declared a0) fun r2 =>
 Option.bind (F_nodeset_Has r2 a1) fun r3 =>
 some (!r3)) fun b4 =>
 bif b4 then
 some false
 else
 Option.bind (idx a0.Members a1) fun x5 =>
 if a1 < 0 then none else
 Option.bind (F_threshold_Satisfied (TTrust.mk x5.Trust.Threshold x5.Trust.Nodes x5.Trust.Inner) (orI .i64 (andNotI .i64 (1023 : Int) a2) (shlI .i64 (1 : Int) a1))) fun r6 =>
 some (!r6)
noncomputable def k_blocking_Blocks : KFun U := .fn 139 [.ty (Ty.st .Config), .ty (Ty.i .i64), .ty (Ty.i .i64)] (.one Ty.bool) fun a => F_blocking_Blocks a.1 a.2.1 a.2.2.1
theorem e_blocking_Blocks : fnK K [k_nodeset_Valid, k_configuration_Declared, k_nodeset_Has, k_threshold_Satisfied] sa_blocking_Blocks [.tmp 6] [.ty (Ty.st .Config), .ty (Ty.i .i64), .ty (Ty.i .i64)] (.one Ty.bool) = fun a => F_blocking_Blocks a.1 a.2.1 a.2.2.1 := by kernel_rfl
theorem s_blocking_Blocks : KFun.Sound (U := U) Try.prog k_blocking_Blocks := fnK_sound (K := K) (Γ := [k_nodeset_Valid, k_configuration_Declared, k_nodeset_Has, k_threshold_Satisfied]) ok_blocking_Blocks (by kernel_rfl) (by decide) ⟨s_nodeset_Valid, s_configuration_Declared, s_nodeset_Has, s_threshold_Satisfied, trivial⟩ (fun a => congrFun e_blocking_Blocks a)

/-! ### trustquorum/nodeset.Nodes -/
def sa_nodeset_Nodes : SA U :=
 (.seq
 (.reg
 (op 2 (.mov (.cst (.nils)))
 .nil))
 (.seq
 (.reg
 (op 3 (.mov (.cst (.nils)))
 .nil))
 (.seq
 (.seq
 (.reg
 (op 5 (.mov (ci 0))
 .nil))
 (.block 0
 (.ps (.own 3 3 1 (Ty.i .i64))
 (.loop ⟨[.val 5 (Ty.i .i64), .own 3 3 1 3 1 (Ty.i .i64)], [0]⟩
 (.seq
 (.reg
 (op 6 (.bin .lss (tm 5) (ci 10))
 .nil))
 (.seq
 (.cond (tm 6)
 .skip
 (.exit 0))
 (.join ⟨[.own 3 3 1 3 1 (Ty.i .i64)], [0, 5]⟩
 (.block 1
 (.seq
 (.reg
 (op 7 (.mov (tm 5))
 (op 4 (.mov (tm 7))
 .nil)))
 (.seq
 (.reg
 (op 8 (.mov (tm 0))
 (op 9 (.mov (tm 4))
 (op 10 (.call 129 [(tm 8), (tm 9)])
 .nil))))
 (.cond (tm 10)
 (.reg
 (op 11 (.mov (tm 3))
 (op 12 (.mov (tm 4))
 (op 13 (.bsl false 3 1 (List.replicate 1 [.int .i64 0]) [(0, (tm 12))])
 (op 14 (.app 3 1 8 (tm 11) (tm 13))
 (op 3 (.mov (tm 14))
 .nil))))))
 .skip))))
 (.reg
 (op 15 (.bin .add (tm 5) (ci 1))
 (op 5 (.mov (tm 15))
 .nil))))))))))
 (.seq
 (.reg
 (op 16 (.mov (tm 3))
 (op 2 (.mov (tm 16))
 .nil)))
 .ret))))
theorem ok_nodeset_Nodes : FnOk Try.prog 159 17 (SA.erase sa_nodeset_Nodes) [.tmp 2] := ⟨Try.f159, [], Try.func159, rfl, by kernel_rfl, by kernel_rfl, by kernel_rfl⟩
noncomputable def F_nodeset_Nodes (a0 : Int) : Option (List Int) :=
 loopO (fun (v1 : Int × (List Int) × Unit) =>
 bif (decide (v1.1 < (10 : Int))) then
 letJ (fun (v2 : (List Int) × Unit) =>
 some (Sum.inl ((addI .i64 v1.1 (1 : Int)), v2.1, ()))) fun j3 =>
 Option.bind (F_nodeset_Has a0 v1.1) fun r4 =>
 bif r4 then
 bif lenOk 8 (List.length v1.2.1 + List.length [v1.1]) then
 j3 ((v1.2.1 ++ [v1.1]), ())
 else none
 else
 j3 (v1.2.1, ())
 else
 Option.map Sum.inr (some v1.2.1)) ((0 : Int), ([] : List Int), ())
noncomputable def k_nodeset_Nodes : KFun U := .fn 159 [.ty (Ty.i .i64)] (.one (Ty.sl (Ty.i .i64))) fun a => F_nodeset_Nodes a.1
theorem e_nodeset_Nodes : fnK K [k_nodeset_Has] sa_nodeset_Nodes [.tmp 2] [.ty (Ty.i .i64)] (.one (Ty.sl (Ty.i .i64))) = fun a => F_nodeset_Nodes a.1 := by kernel_rfl
theorem s_nodeset_Nodes : KFun.Sound (U := U) Try.prog k_nodeset_Nodes := fnK_sound (K := K) (Γ := [k_nodeset_Has]) ok_nodeset_Nodes (by kernel_rfl) (by decide) ⟨s_nodeset_Has, trivial⟩ (fun a => congrFun e_nodeset_Nodes a)

/-! ### trustquorum/closure.content -/
def sa_closure_content : SA U :=
 (.seq
 (.reg
 (op 3 (.box (tm 0))
 (op 6 (.mov (.cst (.bool false)))
 .nil)))
 (.seq
 (.reg
 (op 7 (.faddr 0 (tm 3))
 (op 8 (.load none (tm 7))
 (op 9 (.mov (tm 1))
 (op 10 (.iaddr 4 (tm 8) (tm 9))
 (op 11 (.faddr 1 (tm 10))
 (op 12 (.load (some 3) (tm 11))
 (op 13 (.mov (tm 2))
 (op 14 (.call 147 [(tm 12), (tm 13)])
 (op 6 (.mov (tm 14))
 .nil))))))))))
 .ret))
theorem ok_closure_content : FnOk Try.prog 160 15 (SA.erase sa_closure_content) [.tmp 6] := ⟨Try.f160, [], Try.func160, rfl, by kernel_rfl, by kernel_rfl, by kernel_rfl⟩
noncomputable def F_closure_content (a0 : TConfig) (a1 : Int) (a2 : Int) : Option Bool :=
 Option.bind (idx a0.Members a1) fun x1 =>
 Option.bind (F_threshold_Satisfied (TTrust.mk x1.Trust.Threshold x1.Trust.Nodes x1.Trust.Inner) a2) fun r2 =>
 some r2
noncomputable def k_closure_content : KFun U := .fn 160 [.ty (Ty.st .Config), .ty (Ty.i .i64), .ty (Ty.i .i64)] (.one Ty.bool) fun a => F_closure_content a.1 a.2.1 a.2.2.1
theorem e_closure_content : fnK K [k_threshold_Satisfied] sa_closure_content [.tmp 6] [.ty (Ty.st .Config), .ty (Ty.i .i64), .ty (Ty.i .i64)] (.one Ty.bool) = fun a => F_closure_content a.1 a.2.1 a.2.2.1 := by kernel_rfl
theorem s_closure_content : KFun.Sound (U := U) Try.prog k_closure_content := fnK_sound (K := K) (Γ := [k_threshold_Satisfied]) ok_closure_content (by kernel_rfl) (by decide) ⟨s_threshold_Satisfied, trivial⟩ (fun a => congrFun e_closure_content a)

/-! ### trustquorum/closure.unhappy -/
def sa_closure_unhappy : SA U :=
 (.seq
 (.reg
 (op 2 (.box (tm 0))
 (op 4 (.mov (ci 0))
 (op 5 (.mov (.cst (.bool false)))
 .nil))))
 (.seq
 (.seq
 (.reg
 (op 8 (.mov (tm 1))
 (op 9 (.call 159 [(tm 8)])
 (op 10 (.len false (tm 9))
 (op 11 (.mov (ci 0))
 .nil)))))
 (.block 0
 (.loop ⟨[.val 11 (Ty.i .i64)], [1, 2, 9, 10]⟩
 (.seq
 (.reg
 (op 12 (.bin .lss (tm 11) (tm 10))
 .nil))
 (.seq
 (.cond (tm 12)
 .skip
 (.exit 0))
 (.seq
 (.block 1
 (.seq
 (.reg
 (op 13 (.iaddr 1 (tm 9) (tm 11))
 (op 14 (.load none (tm 13))
 (op 7 (.mov (tm 14))
 .nil))))
 (.seq
 (.reg
 (op 15 (.load (some 1) (tm 2))
 (op 16 (.mov (tm 7))
 (op 17 (.mov (tm 1))
 (op 18 (.call 160 [(tm 15), (tm 16), (tm 17)])
 (op 19 (.not (tm 18))
 .nil))))))
 (.cond (tm 19)
 (.seq
 (.reg
 (op 20 (.mov (tm 7))
 (op 4 (.mov (tm 20))
 (op 5 (.mov (.cst (.bool true)))
 .nil))))
 .ret)
 .skip))))
 (.reg
 (op 21 (.bin .add (tm 11) (ci 1))
 (op 11 (.mov (tm 21))
 .nil)))))))))
 (.seq
 (.reg
 (op 4 (.mov (ci 0))
 (op 5 (.mov (.cst (.bool false)))
 .nil)))
 .ret)))
theorem ok_closure_unhappy : FnOk Try.prog 148 22 (SA.erase sa_closure_unhappy) [.tmp 4, .tmp 5] := ⟨Try.f148, [], Try.func148, rfl, by kernel_rfl, by kernel_rfl, by kernel_rfl⟩
noncomputable def F_closure_unhappy (a0 : TConfig) (a1 : Int) : Option (Int × Bool × Unit) :=
 Option.bind (F_nodeset_Nodes a1) fun r1 =>
 loopO (fun (v2 : Int × Unit) =>
 bif (decide (v2.1 < ((List.length r1 : Nat) : Int))) then
 Option.bind (idx r1 v2.1) fun x3 =>
 Option.bind (F_closure_content a0 x3 a1) fun r4 =>
 bif (!r4) then
 Option.map Sum.inr (some (x3, true, ()))
 else
 some (Sum.inl ((addI .i64 v2.1 (1 : Int)), ()))
 else
 Option.map Sum.inr (some ((0 : Int), false, ()))) ((0 : Int), ())
noncomputable def k_closure_unhappy : KFun U := .fn 148 [.ty (Ty.st .Config), .ty (Ty.i .i64)] (.many [(Ty.i .i64), Ty.bool]) fun a => F_closure_unhappy a.1 a.2.1
theorem e_closure_unhappy : fnK K [k_nodeset_Nodes, k_closure_content] sa_closure_unhappy [.tmp 4, .tmp 5] [.ty (Ty.st .Config), .ty (Ty.i .i64)] (.many [(Ty.i .i64), Ty.bool]) = fun a => F_closure_unhappy a.1 a.2.1 := by kernel_rfl
theorem s_closure_unhappy : KFun.Sound (U := U) Try.prog k_closure_unhappy := fnK_sound (K := K) (Γ := [k_nodeset_Nodes, k_closure_content]) ok_closure_unhappy (by kernel_rfl) (by decide) ⟨s_nodeset_Nodes, s_closure_content, trivial⟩ (fun a => congrFun e_closure_unhappy a)

/-! ### trustquorum/closure.eliminate -/
def sa_closure_eliminate : SA U :=
 (.seq
 (.reg
 (op 2 (.box (tm 0))
 (op 4 (.mov (ci 0))
 (op 5 (.mov (.cst (.nils)))
 .nil))))
 (.seq
 (.seq
 (.reg
 (op 9 (.mov (tm 1))
 (op 10 (.call 138 [(tm 9)])
 (op 11 (.not (tm 10))
 .nil))))
 (.cond (tm 11)
 (.seq
 (.reg
 (op 4 (.mov (ci 0))
 (op 5 (.mov (.cst (.nils)))
 .nil)))
 .ret)
 .skip))
 (.seq
 (.reg
 (op 6 (.mov (.cst (.nils)))
 .nil))
 (.seq
 (.reg
 (op 12 (.mov (tm 1))
 (op 13 (.load (some 1) (tm 2))
 (op 14 (.call 146 [(tm 13)])
 (op 15 (.bin .and (tm 12) (tm 14))
 (op 1 (.mov (tm 15))
 .nil))))))
 (.block 0
 (.ps (.own 6 3 1 (Ty.i .i64))
 (.loop ⟨[.val 1 (Ty.i .i64), .own 6 12 1 3 1 (Ty.i .i64)], [2]⟩
 (.block 1
 (.seq
 (.reg
 (op 17 (.load (some 1) (tm 2))
 (op 18 (.mov (tm 1))
 (op 19 (.call 148 [(tm 17), (tm 18)])
 (op 16 (.mov (tm 19))
 (op 20 (.extr 0 (tm 16))
 (op 21 (.extr 1 (tm 16))
 (op 7 (.mov (tm 20))
 (op 8 (.mov (tm 21))
 .nil)))))))))
 (.seq
 (.seq
 (.reg
 (op 22 (.mov (tm 8))
 (op 23 (.not (tm 22))
 .nil)))
 (.cond (tm 23)
 (.seq
 (.reg
 (op 24 (.mov (tm 1))
 (op 25 (.mov (tm 6))
 (op 4 (.mov (tm 24))
 (op 5 (.mov (tm 25))
 .nil)))))
 .ret)
 .skip))
 (.seq
 (.reg
 (op 26 (.mov (tm 6))
 (op 27 (.mov (tm 7))
 (op 28 (.bsl false 3 1 (List.replicate 1 [.int .i64 0]) [(0, (tm 27))])
 (op 29 (.app 3 1 8 (tm 26) (tm 28))
 (op 6 (.mov (tm 29))
 .nil))))))
 (.reg
 (op 30 (.mov (tm 1))
 (op 31 (.mov (tm 7))
 (op 32 (.bin .shl (ci 1) (tm 31))
 (op 33 (.bin .andNot (tm 30) (tm 32))
 (op 1 (.mov (tm 33))
 .nil)))))))))))))))))
theorem ok_closure_eliminate : FnOk Try.prog 141 34 (SA.erase sa_closure_eliminate) [.tmp 4, .tmp 5] := ⟨Try.f141, [], Try.func141, rfl, by kernel_rfl, by kernel_rfl, by kernel_rfl⟩
noncomputable def F_closure_eliminate (a0 : TConfig) (a1 : Int) : Option (Int × (List Int) × Unit) :=
 Option.bind (F_nodeset_Valid a1) fun r1 =>
 bif (!r1) then
 some ((0 : Int), ([] : List Int), ())
 else
 Option.bind (F_configuration_Declared a0) fun r2 =>
 loopO (fun (v3 : Int × (List Int) × Unit) =>
 Option.bind (F_closure_unhappy a0 v3.1) fun r4 =>
 bif (!r4.2.1) then
 Option.map Sum.inr (some (v3.1, v3.2.1, ()))
 else
 bif lenOk 8 (List.length v3.2.1 + List.length [r4.1]) then
 if r4.1 < 0 then none else
 some (Sum.inl ((andNotI .i64 v3.1 (shlI .i64 (1 : Int) r4.1)), (v3.2.1 ++ [r4.1]), ()))
 else none) ((andI .i64 a1 r2), ([] : List Int), ())
noncomputable def k_closure_eliminate : KFun U := .fn 141 [.ty (Ty.st .Config), .ty (Ty.i .i64)] (.many [(Ty.i .i64), (Ty.sl (Ty.i .i64))]) fun a => F_closure_eliminate a.1 a.2.1
theorem e_closure_eliminate : fnK K [k_nodeset_Valid, k_configuration_Declared, k_closure_unhappy] sa_closure_eliminate [.tmp 4, .tmp 5] [.ty (Ty.st .Config), .ty (Ty.i .i64)] (.many [(Ty.i .i64), (Ty.sl (Ty.i .i64))]) = fun a => F_closure_eliminate a.1 a.2.1 := by kernel_rfl
theorem s_closure_eliminate : KFun.Sound (U := U) Try.prog k_closure_eliminate := fnK_sound (K := K) (Γ := [k_nodeset_Valid, k_configuration_Declared, k_closure_unhappy]) ok_closure_eliminate (by kernel_rfl) (by decide) ⟨s_nodeset_Valid, s_configuration_Declared, s_closure_unhappy, trivial⟩ (fun a => congrFun e_closure_eliminate a)

/-! ### trustquorum/closure.Greatest -/
def sa_closure_Greatest : SA U :=
 (.seq
 (.reg
 (op 2 (.box (tm 0))
 (op 4 (.mov (ci 0))
 .nil)))
 (.seq
 (.reg
 (op 8 (.load (some 1) (tm 2))
 (op 9 (.mov (tm 1))
 (op 10 (.call 141 [(tm 8), (tm 9)])
 (op 7 (.mov (tm 10))
 (op 11 (.extr 0 (tm 7))
 (op 12 (.extr 1 (tm 7))
 (op 5 (.mov (tm 11))
 (op 6 (.mov (tm 12))
 .nil)))))))))
 (.seq
 (.reg
 (op 13 (.mov (tm 5))
 (op 4 (.mov (tm 13))
 .nil)))
 .ret)))
theorem ok_closure_Greatest : FnOk Try.prog 130 14 (SA.erase sa_closure_Greatest) [.tmp 4] := ⟨Try.f130, [], Try.func130, rfl, by kernel_rfl, by kernel_rfl, by kernel_rfl⟩
noncomputable def F_closure_Greatest (a0 : TConfig) (a1 : Int) : Option Int :=
 Option.bind (F_closure_eliminate a0 a1) fun r1 =>
 some r1.1
noncomputable def k_closure_Greatest : KFun U := .fn 130 [.ty (Ty.st .Config), .ty (Ty.i .i64)] (.one (Ty.i .i64)) fun a => F_closure_Greatest a.1 a.2.1
theorem e_closure_Greatest : fnK K [k_closure_eliminate] sa_closure_Greatest [.tmp 4] [.ty (Ty.st .Config), .ty (Ty.i .i64)] (.one (Ty.i .i64)) = fun a => F_closure_Greatest a.1 a.2.1 := by kernel_rfl
theorem s_closure_Greatest : KFun.Sound (U := U) Try.prog k_closure_Greatest := fnK_sound (K := K) (Γ := [k_closure_eliminate]) ok_closure_Greatest (by kernel_rfl) (by decide) ⟨s_closure_eliminate, trivial⟩ (fun a => congrFun e_closure_Greatest a)

/-! ### trustquorum/federated.Accepts -/
def sa_federated_Accepts : SA U :=
 (.seq
 (.reg
 (op 4 (.box (tm 0))
 (op 8 (.mov (.cst (.bool false)))
 .nil)))
 (.seq
 (.seq
 (.reg
 (op 9 (.mov (tm 2))
 (op 10 (.call 138 [(tm 9)])
 (op 11 (.not (tm 10))
 (op 12 (.mov (tm 11))
 (.ite 12 false
 (opg 13 12 false (.mov (tm 3))
 (opg 14 12 false (.call 138 [(tm 13)])
 (opg 15 12 false (.not (tm 14))
 .nil)))
 16 none (.cst (.bool true)) (tm 15)
 .nil))))))
 (.cond (tm 16)
 (.seq
 (.reg
 (op 8 (.mov (.cst (.bool false)))
 .nil))
 .ret)
 .skip))
 (.seq
 (.reg
 (op 17 (.load (some 1) (tm 4))
 (op 18 (.mov (tm 1))
 (op 19 (.mov (tm 3))
 (op 20 (.call 139 [(tm 17), (tm 18), (tm 19)])
 (op 21 (.mov (tm 20))
 (.ite 21 false
 (opg 22 21 false (.load (some 1) (tm 4))
 (opg 23 21 false (.mov (tm 2))
 (opg 24 21 false (.mov (tm 3))
 (opg 25 21 false (.bin .or (tm 23) (tm 24))
 (opg 26 21 false (.call 130 [(tm 22), (tm 25)])
 (opg 27 21 false (.mov (tm 1))
 (opg 28 21 false (.call 129 [(tm 26), (tm 27)])
 .nil)))))))
 29 none (.cst (.bool true)) (tm 28)
 (op 8 (.mov (tm 29))
 .nil))))))))
 .ret)))
theorem ok_federated_Accepts : FnOk Try.prog 126 30 (SA.erase sa_federated_Accepts) [.tmp 8] := ⟨Try.f126, [], Try.func126, rfl, by kernel_rfl, by kernel_rfl, by kernel_rfl⟩
noncomputable def F_federated_Accepts (a0 : TConfig) (a1 : Int) (a2 : Int) (a3 : Int) : Option Bool :=
 Option.bind (F_nodeset_Valid a2) fun r1 =>
 Option.bind (bif (!r1) then some true
 else
 Option.bind (F_nodeset_Valid a3) fun r2 =>
 some (!r2)) fun b3 =>
 bif b3 then
 some false
 else
 Option.bind (F_blocking_Blocks a0 a1 a3) fun r4 =>
 Option.bind (bif r4 then some true
 else
 Option.bind (F_closure_Greatest a0 (orI .i64 a2 a3)) fun r5 =>
 Option.bind (F_nodeset_Has r5 a1) fun r6 =>
 some r6) fun b7 =>
 some b7
noncomputable def k_federated_Accepts : KFun U := .fn 126 [.ty (Ty.st .Config), .ty (Ty.i .i64), .ty (Ty.i .i64), .ty (Ty.i .i64)] (.one Ty.bool) fun a => F_federated_Accepts a.1 a.2.1 a.2.2.1 a.2.2.2.1
theorem e_federated_Accepts : fnK K [k_nodeset_Valid, k_blocking_Blocks, k_closure_Greatest, k_nodeset_Has] sa_federated_Accepts [.tmp 8] [.ty (Ty.st .Config), .ty (Ty.i .i64), .ty (Ty.i .i64), .ty (Ty.i .i64)] (.one Ty.bool) = fun a => F_federated_Accepts a.1 a.2.1 a.2.2.1 a.2.2.2.1 := by kernel_rfl
theorem s_federated_Accepts : KFun.Sound (U := U) Try.prog k_federated_Accepts := fnK_sound (K := K) (Γ := [k_nodeset_Valid, k_blocking_Blocks, k_closure_Greatest, k_nodeset_Has]) ok_federated_Accepts (by kernel_rfl) (by decide) ⟨s_nodeset_Valid, s_blocking_Blocks, s_closure_Greatest, s_nodeset_Has, trivial⟩ (fun a => congrFun e_federated_Accepts a)

/-! ### (trustquorum/prepare.Seen).Accepts -/
def sa_prepare_Seen_Accepts_c102_c109 : SA U :=
 (.seq
 (.reg
 (op 3 (.box (tm 0))
 (op 4 (.box (tm 1))
 (op 5 (.box (tm 2))
 (op 6 (.mov (.cst (.bool false)))
 .nil)))))
 (.seq
 (.reg
 (op 8 (.load (some 3) (tm 3))
 (op 9 (.mkf 125 [(tm 4), (tm 5)])
 (op 10 (.call 108 [(tm 8), (tm 9)])
 (op 7 (.mov (tm 10))
 .nil)))))
 (.seq
 (.drw [(0, 2), (1, 2), (0, 3), (1, 3), (0, 5), (1, 5), (2, 5), (3, 5), (0, 6), (1, 6), (2, 6), (3, 6), (5, 6), (0, 7), (1, 7), (2, 7), (3, 7)]
 (op 11 (.faddr 1 (tm 3))
 (op 12 (.load (some 1) (tm 11))
 (op 13 (.faddr 0 (tm 3))
 (op 14 (.load none (tm 13))
 (op 15 (.mov (tm 7))
 (op 16 (.load (some 3) (tm 3))
 (op 17 (.load none (tm 5))
 (op 18 (.call 108 [(tm 16), (tm 17)])
 (op 19 (.call 126 [(tm 12), (tm 14), (tm 15), (tm 18)])
 (op 6 (.mov (tm 19))
 .nil)))))))))))
 .ret)))
theorem ok_prepare_Seen_Accepts_c102_c109 : FnOk Try.prog 101 20 (SA.erase sa_prepare_Seen_Accepts_c102_c109) [.tmp 6] := ⟨Try.f101, [], Try.func101, rfl, by kernel_rfl, by kernel_rfl, by kernel_rfl⟩
noncomputable def F_prepare_Seen_Accepts_c102_c109 (a0 : TSeen) (a1 : TBallot) (a2 : TBallot) : Option Bool :=
 Option.bind (F_prepare_Seen_Who_c125_c102_c109 a0 a1 a2) fun r1 =>
 Option.bind (F_prepare_Seen_Who_c109 a0 a2) fun r2 =>
 Option.bind (F_federated_Accepts a0.View a0.Node r1 r2) fun r3 =>
 some r3
noncomputable def k_prepare_Seen_Accepts_c102_c109 : KFun U := .fn 101 [.ty (Ty.st .Seen), .clo 102 [.ref (.ty (Ty.st .Ballot))], .clo 109 [.ref (.ty (Ty.st .Ballot))]] (.one Ty.bool) fun a => F_prepare_Seen_Accepts_c102_c109 a.1 a.2.1.1 a.2.2.1.1
theorem e_prepare_Seen_Accepts_c102_c109 : fnK K [k_prepare_Seen_Who_c125_c102_c109, k_prepare_Seen_Who_c109, k_federated_Accepts] sa_prepare_Seen_Accepts_c102_c109 [.tmp 6] [.ty (Ty.st .Seen), .clo 102 [.ref (.ty (Ty.st .Ballot))], .clo 109 [.ref (.ty (Ty.st .Ballot))]] (.one Ty.bool) = fun a => F_prepare_Seen_Accepts_c102_c109 a.1 a.2.1.1 a.2.2.1.1 := by kernel_rfl
theorem s_prepare_Seen_Accepts_c102_c109 : KFun.Sound (U := U) Try.prog k_prepare_Seen_Accepts_c102_c109 := fnK_sound (K := K) (Γ := [k_prepare_Seen_Who_c125_c102_c109, k_prepare_Seen_Who_c109, k_federated_Accepts]) ok_prepare_Seen_Accepts_c102_c109 (by kernel_rfl) (by decide) ⟨s_prepare_Seen_Who_c125_c102_c109, s_prepare_Seen_Who_c109, s_federated_Accepts, trivial⟩ (fun a => congrFun e_prepare_Seen_Accepts_c102_c109 a)

/-! ### (trustquorum/prepare.Seen).ready -/
def sa_prepare_Seen_ready : SA U :=
 (.seq
 (.reg
 (op 2 (.box (tm 0))
 (op 3 (.box (tm 1))
 (op 4 (.mov (.cst (.bool false)))
 .nil))))
 (.seq
 (.drw [(0, 2), (0, 3)]
 (op 5 (.load (some 3) (tm 2))
 (op 6 (.mkf 102 [(tm 3)])
 (op 7 (.load (some 2) (tm 3))
 (op 8 (.call 76 [(tm 7)])
 (op 9 (.call 101 [(tm 5), (tm 6), (tm 8)])
 (op 4 (.mov (tm 9))
 .nil)))))))
 .ret))
theorem ok_prepare_Seen_ready : FnOk Try.prog 66 10 (SA.erase sa_prepare_Seen_ready) [.tmp 4] := ⟨Try.f66, [], Try.func66, rfl, by kernel_rfl, by kernel_rfl, by kernel_rfl⟩
noncomputable def F_prepare_Seen_ready (a0 : TSeen) (a1 : TBallot) : Option Bool :=
 Option.bind (F_prepare_accepts a1) fun r1 =>
 Option.bind (F_prepare_Seen_Accepts_c102_c109 a0 a1 r1.1) fun r2 =>
 some r2
noncomputable def k_prepare_Seen_ready : KFun U := .fn 66 [.ty (Ty.st .Seen), .ty (Ty.st .Ballot)] (.one Ty.bool) fun a => F_prepare_Seen_ready a.1 a.2.1
theorem e_prepare_Seen_ready : fnK K [k_prepare_accepts, k_prepare_Seen_Accepts_c102_c109] sa_prepare_Seen_ready [.tmp 4] [.ty (Ty.st .Seen), .ty (Ty.st .Ballot)] (.one Ty.bool) = fun a => F_prepare_Seen_ready a.1 a.2.1 := by kernel_rfl
theorem s_prepare_Seen_ready : KFun.Sound (U := U) Try.prog k_prepare_Seen_ready := fnK_sound (K := K) (Γ := [k_prepare_accepts, k_prepare_Seen_Accepts_c102_c109]) ok_prepare_Seen_ready (by kernel_rfl) (by decide) ⟨s_prepare_accepts, s_prepare_Seen_Accepts_c102_c109, trivial⟩ (fun a => congrFun e_prepare_Seen_ready a)

/-! ### trustquorum/prepare.Accepts -/
def sa_prepare_Accepts : SA U :=
 (.seq
 (.reg
 (op 5 (.box (tm 1))
 (op 7 (.box (tm 3))
 (op 8 (.mov (.cst (.bool false)))
 .nil))))
 (.seq
 (.drw [(1, 4), (3, 4)]
 (op 9 (.mov (tm 0))
 (op 10 (.load (some 3) (tm 5))
 (op 11 (.mov (tm 2))
 (op 12 (.call 65 [(tm 9), (tm 10), (tm 11)])
 (op 13 (.load (some 2) (tm 7))
 (op 14 (.call 66 [(tm 12), (tm 13)])
 (op 8 (.mov (tm 14))
 .nil))))))))
 .ret))
theorem ok_prepare_Accepts : FnOk Try.prog 36 15 (SA.erase sa_prepare_Accepts) [.tmp 8] := ⟨Try.f36, [], Try.func36, rfl, by kernel_rfl, by kernel_rfl, by kernel_rfl⟩
noncomputable def F_prepare_Accepts (a0 : Int) (a1 : TTrust) (a2 : (List TEnvelope)) (a3 : TBallot) : Option Bool :=
 Option.bind (F_prepare_Look a0 (TTrust.mk a1.Threshold a1.Nodes a1.Inner) a2) fun r1 =>
 Option.bind (F_prepare_Seen_ready r1 a3) fun r2 =>
 some r2
noncomputable def k_prepare_Accepts : KFun U := .fn 36 [.ty (Ty.i .i64), .ty (Ty.st .Trust), .ty (Ty.sl (Ty.st .Envelope)), .ty (Ty.st .Ballot)] (.one Ty.bool) fun a => F_prepare_Accepts a.1 a.2.1 a.2.2.1 a.2.2.2.1
theorem e_prepare_Accepts : fnK K [k_prepare_Look, k_prepare_Seen_ready] sa_prepare_Accepts [.tmp 8] [.ty (Ty.i .i64), .ty (Ty.st .Trust), .ty (Ty.sl (Ty.st .Envelope)), .ty (Ty.st .Ballot)] (.one Ty.bool) = fun a => F_prepare_Accepts a.1 a.2.1 a.2.2.1 a.2.2.2.1 := by kernel_rfl
theorem s_prepare_Accepts : KFun.Sound (U := U) Try.prog k_prepare_Accepts := fnK_sound (K := K) (Γ := [k_prepare_Look, k_prepare_Seen_ready]) ok_prepare_Accepts (by kernel_rfl) (by decide) ⟨s_prepare_Look, s_prepare_Seen_ready, trivial⟩ (fun a => congrFun e_prepare_Accepts a)

/-! ### trustquorum/trustquorumlaw25.PrepareBlocked -/
def sa_law25_PrepareBlocked : SA U :=
 (.seq
 (.reg
 (op 2 (.mov (.cst (.bool false)))
 .nil))
 (.seq
 (.reg
 (op 10 (.mov (tm 0))
 (op 11 (.call 11 [(tm 10)])
 (op 3 (.mov (tm 11))
 .nil))))
 (.seq
 (.reg
 (op 12 (.mov (tm 3))
 (op 13 (.call 31 [(tm 12), (ci 5)])
 (op 14 (.mov (tm 3))
 (op 15 (.call 18 [(tm 14)])
 (op 4 (.alloc [.int .i64 0, .nils, .nils])
 (op 5 (.alloc [.int .i64 0, .str ⟨#[]⟩])
 (ops (.store 3 (tm 4) (tm 13))
 (ops (.store 2 (tm 5) (tm 15))
 .nil)))))))))
 (.seq
 (.reg
 (op 16 (.mov (tm 3))
 (op 17 (.call 33 [(tm 16), (ci 5)])
 (op 18 (.bin .andNot (tm 17) (ci 1))
 (op 6 (.mov (tm 18))
 .nil)))))
 (.seq
 (.reg
 (op 7 (.mov (.cst (.nils)))
 .nil))
 (.ps (.own 7 31 15 (Ty.st .Envelope))
 (.join ⟨[.own 7 17 1 31 15 (Ty.st .Envelope), .box 2 1 (Ty.st .Src) []], [3, 4, 5, 6]⟩
 (.seq
 (.reg
 (op 19 (.mov (tm 3))
 (op 20 (.call 13 [(tm 19), (ci 2)])
 (op 21 (.bin .eql (tm 20) (ci 1))
 .nil))))
 (.cond (tm 21)
 (.drw [(1, 3)]
 (op 22 (.mov (tm 7))
 (op 23 (.load (some 3) (tm 4))
 (op 24 (.mov (tm 3))
 (op 25 (.call 18 [(tm 24)])
 (op 26 (.build [.int .i64 0, .int .i64 0, .int .i64 0, .int .i64 0, .nils, .nils, .int .i64 0, .int .i64 0, .str ⟨#[]⟩, .int .i64 0, .str ⟨#[]⟩, .int .i64 0, .str ⟨#[]⟩, .int .i64 0, .int .i64 0] [(1, 1, (ci 1)), (2, 1, (ci 1)), (3, 3, (tm 23)), (6, 1, (ci 1)), (7, 2, (tm 25))])
 (op 27 (.bsl false 31 15 (List.replicate 1 [.int .i64 0, .int .i64 0, .int .i64 0, .int .i64 0, .nils, .nils, .int .i64 0, .int .i64 0, .str ⟨#[]⟩, .int .i64 0, .str ⟨#[]⟩, .int .i64 0, .str ⟨#[]⟩, .int .i64 0, .int .i64 0]) [(0, (tm 26))])
 (op 28 (.app 31 15 176 (tm 22) (tm 27))
 (op 7 (.mov (tm 28))
 .nil)))))))))
 .skip))
 (.seq
 (.seq
 (.reg
 (op 8 (.mov (ci 1))
 .nil))
 (.block 0
 (.loop ⟨[.val 8 (Ty.i .i64), .own 7 17 1 31 15 (Ty.st .Envelope), .box 2 1 (Ty.st .Src) []], [3, 4, 5, 6]⟩
 (.seq
 (.seq
 (.reg
 (op 29 (.mov (tm 8))
 (op 30 (.bin .lss (tm 29) (ci 5))
 .nil)))
 (.cond (tm 30)
 .skip
 (.exit 0)))
 (.join ⟨[.own 7 17 1 31 15 (Ty.st .Envelope), .box 2 1 (Ty.st .Src) []], [3, 4, 5, 6, 8]⟩
 (.block 1
 (.seq
 (.reg
 (op 33 (.mov (tm 6))
 (op 34 (.mov (tm 8))
 (op 35 (.conv .u64 (tm 34))
 (op 36 (.bin .shr (tm 33) (tm 35))
 (op 37 (.bin .and (tm 36) (ci 1))
 (op 38 (.bin .eql (tm 37) (ci 1))
 .nil)))))))
 (.cond (tm 38)
 (.drw [(3, 4), (3, 5), (4, 5)]
 (op 39 (.mov (tm 7))
 (op 40 (.mov (tm 8))
 (op 41 (.mov (tm 3))
 (op 42 (.call 31 [(tm 41), (ci 5)])
 (op 43 (.load (some 2) (tm 5))
 (op 44 (.load (some 2) (tm 5))
 (op 45 (.build [.int .i64 0, .int .i64 0, .int .i64 0, .int .i64 0, .nils, .nils, .int .i64 0, .int .i64 0, .str ⟨#[]⟩, .int .i64 0, .str ⟨#[]⟩, .int .i64 0, .str ⟨#[]⟩, .int .i64 0, .int .i64 0] [(0, 1, (tm 40)), (1, 1, (ci 1)), (2, 1, (ci 1)), (3, 3, (tm 42)), (6, 1, (ci 1)), (7, 2, (tm 43)), (9, 2, (tm 44))])
 (op 46 (.bsl false 31 15 (List.replicate 1 [.int .i64 0, .int .i64 0, .int .i64 0, .int .i64 0, .nils, .nils, .int .i64 0, .int .i64 0, .str ⟨#[]⟩, .int .i64 0, .str ⟨#[]⟩, .int .i64 0, .str ⟨#[]⟩, .int .i64 0, .int .i64 0]) [(0, (tm 45))])
 (op 47 (.app 31 15 176 (tm 39) (tm 46))
 (op 7 (.mov (tm 47))
 .nil)))))))))))
 .skip)))
 (.reg
 (op 31 (.mov (tm 8))
 (op 32 (.bin .add (tm 31) (ci 1))
 (op 8 (.mov (tm 32))
 .nil)))))))))
 (.seq
 (.reg
 (.ps (.frz 7)
 (op 48 (.load (some 3) (tm 4))
 (op 49 (.mov (tm 7))
 (op 50 (.call 35 [(ci 0), (tm 48), (tm 49)])
 (op 51 (.mov (tm 6))
 (op 52 (.call 34 [(tm 50), (ci 0), (tm 51)])
 (op 9 (.mov (tm 52))
 .nil))))))))
 (.seq
 (.reg
 (op 53 (.mov (tm 9))
 (op 54 (.not (tm 53))
 (op 55 (.mov (tm 54))
 (.ite 55 false
 (opg 56 55 false (.load (some 3) (tm 4))
 (opg 57 55 false (.mov (tm 7))
 (opg 58 55 false (.load (some 2) (tm 5))
 (opg 59 55 false (.call 36 [(ci 0), (tm 56), (tm 57), (tm 58)])
 .nil))))
 60 none (.cst (.bool true)) (tm 59)
 (op 61 (.mov (tm 60))
 (.ite 61 true
 (opg 62 61 true (.call 24 [])
 .nil)
 63 none (tm 62) (.cst (.bool false))
 (op 2 (.mov (tm 63))
 .nil))))))))
 .ret))))))))))
theorem ok_law25_PrepareBlocked : FnOk Try.prog 7 64 (SA.erase sa_law25_PrepareBlocked) [.tmp 2] := ⟨Try.f7, [], Try.func7, rfl, by kernel_rfl, by kernel_rfl, by kernel_rfl⟩
noncomputable def F_law25_PrepareBlocked (a0 : (List Int)) : Option Bool :=
 Option.bind (F_play_New a0) fun r1 =>
 Option.bind (F_play_Src_Trust r1 (5 : Int)) fun p2 =>
 Option.bind (F_play_Src_Low p2.2) fun p3 =>
 Option.bind (F_play_Src_Some p3.2 (5 : Int)) fun p4 =>
 letJ (fun (v5 : (List TEnvelope) × TSrc × Unit) =>
 loopO (fun (v7 : Int × (List TEnvelope) × TSrc × Unit) =>
 bif (decide (v7.1 < (5 : Int))) then
 letJ (fun (v8 : (List TEnvelope) × TSrc × Unit) =>
 some (Sum.inl ((addI .i64 v7.1 (1 : Int)), v8.1, v8.2.1, ()))) fun j9 =>
 if (convI .u64 v7.1) < 0 then none else
 bif (decide ((andI .i64 (shrI .i64 (andNotI .i64 p4.1 (1 : Int)) (convI .u64 v7.1)) (1 : Int)) = (1 : Int))) then
 Option.bind (F_play_Src_Trust v7.2.2.1 (5 : Int)) fun p10 =>
 bif lenOk 176 (List.length v7.2.1 + List.length [(TEnvelope.mk v7.1 (1 : Int) (1 : Int) (TTrust.mk p10.1.Threshold p10.1.Nodes p10.1.Inner) (1 : Int) p3.1 p3.1 (TBallot.mk (0 : Int) (ByteArray.mk #[])) (0 : Int) (0 : Int))]) then
 j9 ((v7.2.1 ++ [(TEnvelope.mk v7.1 (1 : Int) (1 : Int) (TTrust.mk p10.1.Threshold p10.1.Nodes p10.1.Inner) (1 : Int) p3.1 p3.1 (TBallot.mk (0 : Int) (ByteArray.mk #[])) (0 : Int) (0 : Int))]), p10.2, ())
 else none
 else
 j9 (v7.2.1, v7.2.2.1, ())
 else
 Option.map Sum.inr (Option.bind (F_ref25_View (0 : Int) (TTrust.mk p2.1.Threshold p2.1.Nodes p2.1.Inner) v7.2.1) fun r11 =>
 Option.bind (F_ref11_Blocks r11 (0 : Int) (andNotI .i64 p4.1 (1 : Int))) fun r12 =>
 Option.bind (bif (!r12) then some true
 else
 Option.bind (F_prepare_Accepts (0 : Int) (TTrust.mk p2.1.Threshold p2.1.Nodes p2.1.Inner) v7.2.1 p3.1) fun r13 =>
 some r13) fun b14 =>
 Option.bind (bif b14 then
 Option.bind (F_law25_sane) fun r15 =>
 some r15
 else some false) fun b16 =>
 some b16)) ((1 : Int), v5.1, v5.2.1, ())) fun j6 =>
 Option.bind (F_play_Src_N p4.2 (2 : Int)) fun p17 =>
 bif (decide (p17.1 = (1 : Int))) then
 Option.bind (F_play_Src_Low p17.2) fun p18 =>
 bif lenOk 176 (List.length ([] : List TEnvelope) + List.length [(TEnvelope.mk (0 : Int) (1 : Int) (1 : Int) (TTrust.mk p2.1.Threshold p2.1.Nodes p2.1.Inner) (1 : Int) p18.1 (TBallot.mk (0 : Int) (ByteArray.mk #[])) (TBallot.mk (0 : Int) (ByteArray.mk #[])) (0 : Int) (0 : Int))]) then
 j6 ((([] : List TEnvelope) ++ [(TEnvelope.mk (0 : Int) (1 : Int) (1 : Int) (TTrust.mk p2.1.Threshold p2.1.Nodes p2.1.Inner) (1 : Int) p18.1 (TBallot.mk (0 : Int) (ByteArray.mk #[])) (TBallot.mk (0 : Int) (ByteArray.mk #[])) (0 : Int) (0 : Int))]), p18.2, ())
 else none
 else
 j6 (([] : List TEnvelope), p17.2, ())
noncomputable def k_law25_PrepareBlocked : KFun U := .fn 7 [.ty (Ty.sl (Ty.i .i64))] (.one Ty.bool) fun a => F_law25_PrepareBlocked a.1
theorem e_law25_PrepareBlocked : fnK K [k_play_New, k_play_Src_Trust, k_play_Src_Low, k_play_Src_Some, k_play_Src_N, k_ref25_View, k_ref11_Blocks, k_prepare_Accepts, k_law25_sane] sa_law25_PrepareBlocked [.tmp 2] [.ty (Ty.sl (Ty.i .i64))] (.one Ty.bool) = fun a => F_law25_PrepareBlocked a.1 := by kernel_rfl
theorem s_law25_PrepareBlocked : KFun.Sound (U := U) Try.prog k_law25_PrepareBlocked := fnK_sound (K := K) (Γ := [k_play_New, k_play_Src_Trust, k_play_Src_Low, k_play_Src_Some, k_play_Src_N, k_ref25_View, k_ref11_Blocks, k_prepare_Accepts, k_law25_sane]) ok_law25_PrepareBlocked (by kernel_rfl) (by decide) ⟨s_play_New, s_play_Src_Trust, s_play_Src_Low, s_play_Src_Some, s_play_Src_N, s_ref25_View, s_ref11_Blocks, s_prepare_Accepts, s_law25_sane, trivial⟩ (fun a => congrFun e_law25_PrepareBlocked a)

/-! ### trustquorum/trustquorumref01.Nodes -/
def sa_ref01_Nodes : SA U :=
 (.seq
 (.reg
 (op 2 (.mov (.cst (.nils)))
 .nil))
 (.seq
 (.reg
 (op 3 (.mov (.cst (.nils)))
 .nil))
 (.seq
 (.seq
 (.reg
 (op 4 (.mov (ci 0))
 .nil))
 (.block 0
 (.ps (.own 3 3 1 (Ty.i .i64))
 (.loop ⟨[.val 4 (Ty.i .i64), .own 3 3 1 3 1 (Ty.i .i64)], [0]⟩
 (.seq
 (.seq
 (.reg
 (op 5 (.mov (tm 4))
 (op 6 (.bin .lss (tm 5) (ci 10))
 .nil)))
 (.cond (tm 6)
 .skip
 (.exit 0)))
 (.join ⟨[.own 3 3 1 3 1 (Ty.i .i64)], [0, 4]⟩
 (.block 1
 (.seq
 (.reg
 (op 9 (.mov (tm 0))
 (op 10 (.mov (tm 4))
 (op 11 (.call 62 [(tm 9), (tm 10)])
 .nil))))
 (.cond (tm 11)
 (.reg
 (op 12 (.mov (tm 3))
 (op 13 (.mov (tm 4))
 (op 14 (.bsl false 3 1 (List.replicate 1 [.int .i64 0]) [(0, (tm 13))])
 (op 15 (.app 3 1 8 (tm 12) (tm 14))
 (op 3 (.mov (tm 15))
 .nil))))))
 .skip)))
 (.reg
 (op 7 (.mov (tm 4))
 (op 8 (.bin .add (tm 7) (ci 1))
 (op 4 (.mov (tm 8))
 .nil))))))))))
 (.seq
 (.reg
 (op 16 (.mov (tm 3))
 (op 2 (.mov (tm 16))
 .nil)))
 .ret))))
theorem ok_ref01_Nodes : FnOk Try.prog 106 17 (SA.erase sa_ref01_Nodes) [.tmp 2] := ⟨Try.f106, [], Try.func106, rfl, by kernel_rfl, by kernel_rfl, by kernel_rfl⟩
noncomputable def F_ref01_Nodes (a0 : Int) : Option (List Int) :=
 loopO (fun (v1 : Int × (List Int) × Unit) =>
 bif (decide (v1.1 < (10 : Int))) then
 letJ (fun (v2 : (List Int) × Unit) =>
 some (Sum.inl ((addI .i64 v1.1 (1 : Int)), v2.1, ()))) fun j3 =>
 Option.bind (F_ref01_Has a0 v1.1) fun r4 =>
 bif r4 then
 bif lenOk 8 (List.length v1.2.1 + List.length [v1.1]) then
 j3 ((v1.2.1 ++ [v1.1]), ())
 else none
 else
 j3 (v1.2.1, ())
 else
 Option.map Sum.inr (some v1.2.1)) ((0 : Int), ([] : List Int), ())
noncomputable def k_ref01_Nodes : KFun U := .fn 106 [.ty (Ty.i .i64)] (.one (Ty.sl (Ty.i .i64))) fun a => F_ref01_Nodes a.1
theorem e_ref01_Nodes : fnK K [k_ref01_Has] sa_ref01_Nodes [.tmp 2] [.ty (Ty.i .i64)] (.one (Ty.sl (Ty.i .i64))) = fun a => F_ref01_Nodes a.1 := by kernel_rfl
theorem s_ref01_Nodes : KFun.Sound (U := U) Try.prog k_ref01_Nodes := fnK_sound (K := K) (Γ := [k_ref01_Has]) ok_ref01_Nodes (by kernel_rfl) (by decide) ⟨s_ref01_Has, trivial⟩ (fun a => congrFun e_ref01_Nodes a)

/-! ### trustquorum/trustquorumref09.Elimination -/
def sa_ref09_Elimination : SA U :=
 (.seq
 (.reg
 (op 2 (.box (tm 0))
 (op 4 (.mov (.cst (.nils)))
 .nil)))
 (.seq
 (.seq
 (.reg
 (op 10 (.mov (tm 1))
 (op 11 (.call 61 [(tm 10)])
 (op 12 (.not (tm 11))
 .nil))))
 (.cond (tm 12)
 (.seq
 (.reg
 (op 4 (.mov (.cst (.nils)))
 .nil))
 .ret)
 .skip))
 (.seq
 (.reg
 (op 13 (.mov (tm 1))
 (op 14 (.load (some 1) (tm 2))
 (op 15 (.call 63 [(tm 14)])
 (op 16 (.bin .and (tm 13) (tm 15))
 (op 5 (.mov (tm 16))
 .nil))))))
 (.seq
 (.reg
 (op 6 (.mov (.cst (.nils)))
 .nil))
 (.seq
 (.seq
 (.reg
 (op 7 (.mov (.cst (.bool true)))
 .nil))
 (.block 0
 (.ps (.own 6 3 1 (Ty.i .i64))
 (.loop ⟨[.val 5 (Ty.i .i64), .val 7 Ty.bool, .own 6 12 1 3 1 (Ty.i .i64)], [2]⟩
 (.seq
 (.seq
 (.reg
 (op 17 (.mov (tm 7))
 .nil))
 (.cond (tm 17)
 .skip
 (.exit 0)))
 (.block 1
 (.seq
 (.reg
 (op 7 (.mov (.cst (.bool false)))
 .nil))
 (.seq
 (.reg
 (op 18 (.mov (tm 5))
 (op 19 (.call 106 [(tm 18)])
 (op 20 (.len false (tm 19))
 (op 21 (.mov (ci 0))
 .nil)))))
 (.block 2
 (.loop ⟨[.val 5 (Ty.i .i64), .val 7 Ty.bool, .val 21 (Ty.i .i64), .own 6 12 1 3 1 (Ty.i .i64)], [2, 19, 20]⟩
 (.seq
 (.reg
 (op 22 (.bin .lss (tm 21) (tm 20))
 .nil))
 (.seq
 (.cond (tm 22)
 .skip
 (.exit 2))
 (.seq
 (.block 3
 (.seq
 (.reg
 (op 23 (.iaddr 1 (tm 19) (tm 21))
 (op 24 (.load none (tm 23))
 (op 9 (.mov (tm 24))
 .nil))))
 (.seq
 (.reg
 (op 25 (.faddr 0 (tm 2))
 (op 26 (.load none (tm 25))
 (op 27 (.mov (tm 9))
 (op 28 (.iaddr 4 (tm 26) (tm 27))
 (op 29 (.faddr 1 (tm 28))
 (op 30 (.load (some 3) (tm 29))
 (op 31 (.mov (tm 5))
 (op 32 (.call 64 [(tm 30), (tm 31)])
 (op 33 (.not (tm 32))
 .nil))))))))))
 (.cond (tm 33)
 (.seq
 (.reg
 (op 34 (.mov (tm 5))
 (op 35 (.mov (tm 9))
 (op 36 (.bin .shl (ci 1) (tm 35))
 (op 37 (.bin .sub (tm 34) (tm 36))
 (op 5 (.mov (tm 37))
 .nil))))))
 (.seq
 (.reg
 (op 38 (.mov (tm 6))
 (op 39 (.mov (tm 9))
 (op 40 (.bsl false 3 1 (List.replicate 1 [.int .i64 0]) [(0, (tm 39))])
 (op 41 (.app 3 1 8 (tm 38) (tm 40))
 (op 6 (.mov (tm 41))
 .nil))))))
 (.seq
 (.reg
 (op 7 (.mov (.cst (.bool true)))
 .nil))
 (.exit 2))))
 .skip))))
 (.reg
 (op 42 (.bin .add (tm 21) (ci 1))
 (op 21 (.mov (tm 42))
 .nil))))))))))))))))
 (.seq
 (.reg
 (op 43 (.mov (tm 6))
 (op 4 (.mov (tm 43))
 .nil)))
 .ret))))))
theorem ok_ref09_Elimination : FnOk Try.prog 74 44 (SA.erase sa_ref09_Elimination) [.tmp 4] := ⟨Try.f74, [], Try.func74, rfl, by kernel_rfl, by kernel_rfl, by kernel_rfl⟩
noncomputable def F_ref09_Elimination (a0 : TConfig) (a1 : Int) : Option (List Int) :=
 Option.bind (F_ref01_Valid a1) fun r1 =>
 bif (!r1) then
 some ([] : List Int)
 else
 Option.bind (F_ref06_Declared a0) fun r2 =>
 loopO (fun (v3 : Int × Bool × (List Int) × Unit) =>
 bif v3.2.1 then
 Option.bind (F_ref01_Nodes v3.1) fun r4 =>
 loopO (fun (v5 : Int × Bool × Int × (List Int) × Unit) =>
 bif (decide (v5.2.2.1 < ((List.length r4 : Nat) : Int))) then
 Option.bind (idx r4 v5.2.2.1) fun x6 =>
 Option.bind (idx a0.Members x6) fun x7 =>
 Option.bind (F_ref02_Satisfied (TTrust.mk x7.Trust.Threshold x7.Trust.Nodes x7.Trust.Inner) v5.1) fun r8 =>
 bif (!r8) then
 if x6 < 0 then none else
 bif lenOk 8 (List.length v5.2.2.2.1 + List.length [x6]) then
 Option.map Sum.inr (some (Sum.inl ((subI .i64 v5.1 (shlI .i64 (1 : Int) x6)), true, (v5.2.2.2.1 ++ [x6]), ())))
 else none
 else
 some (Sum.inl (v5.1, v5.2.1, (addI .i64 v5.2.2.1 (1 : Int)), v5.2.2.2.1, ()))
 else
 Option.map Sum.inr (some (Sum.inl (v5.1, v5.2.1, v5.2.2.2.1, ())))) (v3.1, false, (0 : Int), v3.2.2.1, ())
 else
 Option.map Sum.inr (some v3.2.2.1)) ((andI .i64 a1 r2), true, ([] : List Int), ())
noncomputable def k_ref09_Elimination : KFun U := .fn 74 [.ty (Ty.st .Config), .ty (Ty.i .i64)] (.one (Ty.sl (Ty.i .i64))) fun a => F_ref09_Elimination a.1 a.2.1
theorem e_ref09_Elimination : fnK K [k_ref01_Valid, k_ref06_Declared, k_ref01_Nodes, k_ref02_Satisfied] sa_ref09_Elimination [.tmp 4] [.ty (Ty.st .Config), .ty (Ty.i .i64)] (.one (Ty.sl (Ty.i .i64))) = fun a => F_ref09_Elimination a.1 a.2.1 := by kernel_rfl
theorem s_ref09_Elimination : KFun.Sound (U := U) Try.prog k_ref09_Elimination := fnK_sound (K := K) (Γ := [k_ref01_Valid, k_ref06_Declared, k_ref01_Nodes, k_ref02_Satisfied]) ok_ref09_Elimination (by kernel_rfl) (by decide) ⟨s_ref01_Valid, s_ref06_Declared, s_ref01_Nodes, s_ref02_Satisfied, trivial⟩ (fun a => congrFun e_ref09_Elimination a)

/-! ### trustquorum/trustquorumref09.Greatest -/
def sa_ref09_Greatest : SA U :=
 (.seq
 (.reg
 (op 2 (.box (tm 0))
 (op 4 (.mov (ci 0))
 .nil)))
 (.seq
 (.seq
 (.reg
 (op 8 (.mov (tm 1))
 (op 9 (.call 61 [(tm 8)])
 (op 10 (.not (tm 9))
 .nil))))
 (.cond (tm 10)
 (.seq
 (.reg
 (op 4 (.mov (ci 0))
 .nil))
 .ret)
 .skip))
 (.seq
 (.reg
 (op 11 (.mov (tm 1))
 (op 12 (.load (some 1) (tm 2))
 (op 13 (.call 63 [(tm 12)])
 (op 14 (.bin .and (tm 11) (tm 13))
 (op 5 (.mov (tm 14))
 .nil))))))
 (.seq
 (.seq
 (.reg
 (op 15 (.load (some 1) (tm 2))
 (op 16 (.mov (tm 1))
 (op 17 (.call 74 [(tm 15), (tm 16)])
 (op 18 (.len false (tm 17))
 (op 19 (.mov (ci 0))
 .nil))))))
 (.block 0
 (.loop ⟨[.val 5 (Ty.i .i64), .val 19 (Ty.i .i64)], [17, 18]⟩
 (.seq
 (.reg
 (op 20 (.bin .lss (tm 19) (tm 18))
 .nil))
 (.seq
 (.cond (tm 20)
 .skip
 (.exit 0))
 (.seq
 (.block 1
 (.seq
 (.reg
 (op 21 (.iaddr 1 (tm 17) (tm 19))
 (op 22 (.load none (tm 21))
 (op 7 (.mov (tm 22))
 .nil))))
 (.reg
 (op 23 (.mov (tm 5))
 (op 24 (.mov (tm 7))
 (op 25 (.bin .shl (ci 1) (tm 24))
 (op 26 (.bin .sub (tm 23) (tm 25))
 (op 5 (.mov (tm 26))
 .nil))))))))
 (.reg
 (op 27 (.bin .add (tm 19) (ci 1))
 (op 19 (.mov (tm 27))
 .nil)))))))))
 (.seq
 (.reg
 (op 28 (.mov (tm 5))
 (op 4 (.mov (tm 28))
 .nil)))
 .ret)))))
theorem ok_ref09_Greatest : FnOk Try.prog 39 29 (SA.erase sa_ref09_Greatest) [.tmp 4] := ⟨Try.f39, [], Try.func39, rfl, by kernel_rfl, by kernel_rfl, by kernel_rfl⟩
noncomputable def F_ref09_Greatest (a0 : TConfig) (a1 : Int) : Option Int :=
 Option.bind (F_ref01_Valid a1) fun r1 =>
 bif (!r1) then
 some (0 : Int)
 else
 Option.bind (F_ref06_Declared a0) fun r2 =>
 Option.bind (F_ref09_Elimination a0 a1) fun r3 =>
 loopO (fun (v4 : Int × Int × Unit) =>
 bif (decide (v4.2.1 < ((List.length r3 : Nat) : Int))) then
 Option.bind (idx r3 v4.2.1) fun x5 =>
 if x5 < 0 then none else
 some (Sum.inl ((subI .i64 v4.1 (shlI .i64 (1 : Int) x5)), (addI .i64 v4.2.1 (1 : Int)), ()))
 else
 Option.map Sum.inr (some v4.1)) ((andI .i64 a1 r2), (0 : Int), ())
noncomputable def k_ref09_Greatest : KFun U := .fn 39 [.ty (Ty.st .Config), .ty (Ty.i .i64)] (.one (Ty.i .i64)) fun a => F_ref09_Greatest a.1 a.2.1
theorem e_ref09_Greatest : fnK K [k_ref01_Valid, k_ref06_Declared, k_ref09_Elimination] sa_ref09_Greatest [.tmp 4] [.ty (Ty.st .Config), .ty (Ty.i .i64)] (.one (Ty.i .i64)) = fun a => F_ref09_Greatest a.1 a.2.1 := by kernel_rfl
theorem s_ref09_Greatest : KFun.Sound (U := U) Try.prog k_ref09_Greatest := fnK_sound (K := K) (Γ := [k_ref01_Valid, k_ref06_Declared, k_ref09_Elimination]) ok_ref09_Greatest (by kernel_rfl) (by decide) ⟨s_ref01_Valid, s_ref06_Declared, s_ref09_Elimination, trivial⟩ (fun a => congrFun e_ref09_Greatest a)

/-! ### trustquorum/federated.Confirms -/
def sa_federated_Confirms : SA U :=
 (.seq
 (.reg
 (op 3 (.box (tm 0))
 (op 6 (.mov (.cst (.bool false)))
 .nil)))
 (.seq
 (.reg
 (op 7 (.load (some 1) (tm 3))
 (op 8 (.mov (tm 2))
 (op 9 (.call 130 [(tm 7), (tm 8)])
 (op 10 (.mov (tm 1))
 (op 11 (.call 129 [(tm 9), (tm 10)])
 (op 6 (.mov (tm 11))
 .nil)))))))
 .ret))
theorem ok_federated_Confirms : FnOk Try.prog 107 12 (SA.erase sa_federated_Confirms) [.tmp 6] := ⟨Try.f107, [], Try.func107, rfl, by kernel_rfl, by kernel_rfl, by kernel_rfl⟩
noncomputable def F_federated_Confirms (a0 : TConfig) (a1 : Int) (a2 : Int) : Option Bool :=
 Option.bind (F_closure_Greatest a0 a2) fun r1 =>
 Option.bind (F_nodeset_Has r1 a1) fun r2 =>
 some r2
noncomputable def k_federated_Confirms : KFun U := .fn 107 [.ty (Ty.st .Config), .ty (Ty.i .i64), .ty (Ty.i .i64)] (.one Ty.bool) fun a => F_federated_Confirms a.1 a.2.1 a.2.2.1
theorem e_federated_Confirms : fnK K [k_closure_Greatest, k_nodeset_Has] sa_federated_Confirms [.tmp 6] [.ty (Ty.st .Config), .ty (Ty.i .i64), .ty (Ty.i .i64)] (.one Ty.bool) = fun a => F_federated_Confirms a.1 a.2.1 a.2.2.1 := by kernel_rfl
theorem s_federated_Confirms : KFun.Sound (U := U) Try.prog k_federated_Confirms := fnK_sound (K := K) (Γ := [k_closure_Greatest, k_nodeset_Has]) ok_federated_Confirms (by kernel_rfl) (by decide) ⟨s_closure_Greatest, s_nodeset_Has, trivial⟩ (fun a => congrFun e_federated_Confirms a)

/-! ### (trustquorum/prepare.Seen).Confirms -/
def sa_prepare_Seen_Confirms_c109 : SA U :=
 (.seq
 (.reg
 (op 2 (.box (tm 0))
 (op 4 (.mov (.cst (.bool false)))
 .nil)))
 (.seq
 (.drw [(0, 2), (1, 2), (0, 3), (1, 3), (0, 4), (1, 4), (2, 4), (3, 4), (0, 6), (1, 6), (2, 6), (3, 6)]
 (op 5 (.faddr 1 (tm 2))
 (op 6 (.load (some 1) (tm 5))
 (op 7 (.faddr 0 (tm 2))
 (op 8 (.load none (tm 7))
 (op 9 (.load (some 3) (tm 2))
 (op 10 (.mov (tm 1))
 (op 11 (.call 108 [(tm 9), (tm 10)])
 (op 12 (.call 107 [(tm 6), (tm 8), (tm 11)])
 (op 4 (.mov (tm 12))
 .nil))))))))))
 .ret))
theorem ok_prepare_Seen_Confirms_c109 : FnOk Try.prog 75 13 (SA.erase sa_prepare_Seen_Confirms_c109) [.tmp 4] := ⟨Try.f75, [], Try.func75, rfl, by kernel_rfl, by kernel_rfl, by kernel_rfl⟩
noncomputable def F_prepare_Seen_Confirms_c109 (a0 : TSeen) (a1 : TBallot) : Option Bool :=
 Option.bind (F_prepare_Seen_Who_c109 a0 a1) fun r1 =>
 Option.bind (F_federated_Confirms a0.View a0.Node r1) fun r2 =>
 some r2
noncomputable def k_prepare_Seen_Confirms_c109 : KFun U := .fn 75 [.ty (Ty.st .Seen), .clo 109 [.ref (.ty (Ty.st .Ballot))]] (.one Ty.bool) fun a => F_prepare_Seen_Confirms_c109 a.1 a.2.1.1
theorem e_prepare_Seen_Confirms_c109 : fnK K [k_prepare_Seen_Who_c109, k_federated_Confirms] sa_prepare_Seen_Confirms_c109 [.tmp 4] [.ty (Ty.st .Seen), .clo 109 [.ref (.ty (Ty.st .Ballot))]] (.one Ty.bool) = fun a => F_prepare_Seen_Confirms_c109 a.1 a.2.1.1 := by kernel_rfl
theorem s_prepare_Seen_Confirms_c109 : KFun.Sound (U := U) Try.prog k_prepare_Seen_Confirms_c109 := fnK_sound (K := K) (Γ := [k_prepare_Seen_Who_c109, k_federated_Confirms]) ok_prepare_Seen_Confirms_c109 (by kernel_rfl) (by decide) ⟨s_prepare_Seen_Who_c109, s_federated_Confirms, trivial⟩ (fun a => congrFun e_prepare_Seen_Confirms_c109 a)

/-! ### trustquorum/prepare.Confirms -/
def sa_prepare_Confirms : SA U :=
 (.seq
 (.reg
 (op 5 (.box (tm 1))
 (op 7 (.box (tm 3))
 (op 8 (.mov (.cst (.bool false)))
 .nil))))
 (.seq
 (.drw [(1, 4), (3, 4)]
 (op 9 (.mov (tm 0))
 (op 10 (.load (some 3) (tm 5))
 (op 11 (.mov (tm 2))
 (op 12 (.call 65 [(tm 9), (tm 10), (tm 11)])
 (op 13 (.load (some 2) (tm 7))
 (op 14 (.call 76 [(tm 13)])
 (op 15 (.call 75 [(tm 12), (tm 14)])
 (op 8 (.mov (tm 15))
 .nil)))))))))
 .ret))
theorem ok_prepare_Confirms : FnOk Try.prog 40 16 (SA.erase sa_prepare_Confirms) [.tmp 8] := ⟨Try.f40, [], Try.func40, rfl, by kernel_rfl, by kernel_rfl, by kernel_rfl⟩
noncomputable def F_prepare_Confirms (a0 : Int) (a1 : TTrust) (a2 : (List TEnvelope)) (a3 : TBallot) : Option Bool :=
 Option.bind (F_prepare_Look a0 (TTrust.mk a1.Threshold a1.Nodes a1.Inner) a2) fun r1 =>
 Option.bind (F_prepare_accepts a3) fun r2 =>
 Option.bind (F_prepare_Seen_Confirms_c109 r1 r2.1) fun r3 =>
 some r3
noncomputable def k_prepare_Confirms : KFun U := .fn 40 [.ty (Ty.i .i64), .ty (Ty.st .Trust), .ty (Ty.sl (Ty.st .Envelope)), .ty (Ty.st .Ballot)] (.one Ty.bool) fun a => F_prepare_Confirms a.1 a.2.1 a.2.2.1 a.2.2.2.1
theorem e_prepare_Confirms : fnK K [k_prepare_Look, k_prepare_accepts, k_prepare_Seen_Confirms_c109] sa_prepare_Confirms [.tmp 8] [.ty (Ty.i .i64), .ty (Ty.st .Trust), .ty (Ty.sl (Ty.st .Envelope)), .ty (Ty.st .Ballot)] (.one Ty.bool) = fun a => F_prepare_Confirms a.1 a.2.1 a.2.2.1 a.2.2.2.1 := by kernel_rfl
theorem s_prepare_Confirms : KFun.Sound (U := U) Try.prog k_prepare_Confirms := fnK_sound (K := K) (Γ := [k_prepare_Look, k_prepare_accepts, k_prepare_Seen_Confirms_c109]) ok_prepare_Confirms (by kernel_rfl) (by decide) ⟨s_prepare_Look, s_prepare_accepts, s_prepare_Seen_Confirms_c109, trivial⟩ (fun a => congrFun e_prepare_Confirms a)

/-! ### trustquorum/trustquorumlaw25.PrepareQuorum -/
def sa_law25_PrepareQuorum : SA U :=
 (.seq
 (.reg
 (op 2 (.mov (.cst (.bool false)))
 .nil))
 (.seq
 (.reg
 (op 18 (.mov (tm 0))
 (op 19 (.call 11 [(tm 18)])
 (op 3 (.mov (tm 19))
 .nil))))
 (.seq
 (.reg
 (op 20 (.mov (tm 3))
 (op 21 (.call 26 [(tm 20), (ci 1), (ci 5)])
 (op 4 (.mov (tm 21))
 .nil))))
 (.seq
 (.reg
 (op 22 (.mov (tm 3))
 (op 23 (.call 18 [(tm 22)])
 (op 5 (.alloc [.int .i64 0, .str ⟨#[]⟩])
 (ops (.store 2 (tm 5) (tm 23))
 .nil)))))
 (.seq
 (.reg
 (op 6 (.alloc [.nils])
 .nil))
 (.seq
 (.reg
 (op 7 (.mov (.cst (.nils)))
 (op 8 (.mov (.cst (.nils)))
 .nil)))
 (.seq
 (.seq
 (.reg
 (op 9 (.mov (ci 0))
 .nil))
 (.block 0
 (.ps (.own 7 31 15 (Ty.st .Envelope))
 (.ps (.own 8 31 15 (Ty.st .Envelope))
 (.ps (.ownB 6 0 64 4 (Ty.st .Member))
 (.loop ⟨[.val 9 (Ty.i .i64), .own 7 15 1 31 15 (Ty.st .Envelope), .own 8 16 1 31 15 (Ty.st .Envelope), .box 2 1 (Ty.st .Src) [], .box 11 1 (Ty.st .Config) [(0, 17, 1)], .rowb 17 1 64 4 (Ty.st .Member)], [3, 4, 5, 6]⟩
 (.seq
 (.seq
 (.reg
 (op 24 (.mov (tm 9))
 (op 25 (.mov (tm 4))
 (op 26 (.bin .lss (tm 24) (tm 25))
 .nil))))
 (.cond (tm 26)
 .skip
 (.exit 0)))
 (.seq
 (.block 1
 (.seq
 (.reg
 (op 29 (.mov (tm 3))
 (op 30 (.mov (tm 4))
 (op 31 (.call 31 [(tm 29), (tm 30)])
 (op 10 (.alloc [.int .i64 0, .nils, .nils])
 (ops (.store 3 (tm 10) (tm 31))
 .nil))))))
 (.seq
 (.reg
 (op 32 (.faddr 0 (tm 6))
 (op 33 (.load none (tm 32))
 (op 34 (.load (some 3) (tm 10))
 (op 35 (.build [.bool false, .int .i64 0, .nils, .nils] [(0, 1, (.cst (.bool true))), (1, 3, (tm 34))])
 (op 36 (.bsl false 64 4 (List.replicate 1 [.bool false, .int .i64 0, .nils, .nils]) [(0, (tm 35))])
 (op 37 (.app 64 4 64 (tm 33) (tm 36))
 (op 38 (.faddr 0 (tm 6))
 (ops (.store 1 (tm 38) (tm 37))
 .nil)))))))))
 (.seq
 (.reg
 (op 39 (.mov (tm 9))
 (op 40 (.load (some 3) (tm 10))
 (op 41 (.load (some 2) (tm 5))
 (op 42 (.build [.int .i64 0, .int .i64 0, .int .i64 0, .int .i64 0, .nils, .nils, .int .i64 0, .int .i64 0, .str ⟨#[]⟩, .int .i64 0, .str ⟨#[]⟩, .int .i64 0, .str ⟨#[]⟩, .int .i64 0, .int .i64 0] [(0, 1, (tm 39)), (1, 1, (ci 1)), (2, 1, (ci 1)), (3, 3, (tm 40)), (6, 1, (ci 1)), (7, 2, (tm 41))])
 (op 11 (.alloc [.int .i64 0, .int .i64 0, .int .i64 0, .int .i64 0, .nils, .nils, .int .i64 0, .int .i64 0, .str ⟨#[]⟩, .int .i64 0, .str ⟨#[]⟩, .int .i64 0, .str ⟨#[]⟩, .int .i64 0, .int .i64 0])
 (ops (.store 15 (tm 11) (tm 42))
 .nil)))))))
 (.seq
 (.reg
 (op 43 (.mov (tm 7))
 (op 44 (.load (some 15) (tm 11))
 (op 45 (.bsl false 31 15 (List.replicate 1 [.int .i64 0, .int .i64 0, .int .i64 0, .int .i64 0, .nils, .nils, .int .i64 0, .int .i64 0, .str ⟨#[]⟩, .int .i64 0, .str ⟨#[]⟩, .int .i64 0, .str ⟨#[]⟩, .int .i64 0, .int .i64 0]) [(0, (tm 44))])
 (op 46 (.app 31 15 176 (tm 43) (tm 45))
 (op 7 (.mov (tm 46))
 .nil))))))
 (.seq
 (.reg
 (op 47 (.load (some 2) (tm 5))
 (op 48 (.faddr 9 (tm 11))
 (ops (.store 2 (tm 48) (tm 47))
 .nil))))
 (.reg
 (op 49 (.mov (tm 8))
 (op 50 (.load (some 15) (tm 11))
 (op 51 (.bsl false 31 15 (List.replicate 1 [.int .i64 0, .int .i64 0, .int .i64 0, .int .i64 0, .nils, .nils, .int .i64 0, .int .i64 0, .str ⟨#[]⟩, .int .i64 0, .str ⟨#[]⟩, .int .i64 0, .str ⟨#[]⟩, .int .i64 0, .int .i64 0]) [(0, (tm 50))])
 (op 52 (.app 31 15 176 (tm 49) (tm 51))
 (op 8 (.mov (tm 52))
 .nil))))))))))))
 (.reg
 (op 27 (.mov (tm 9))
 (op 28 (.bin .add (tm 27) (ci 1))
 (op 9 (.mov (tm 28))
 .nil))))))))))))
 (.seq
 (.reg
 (op 53 (.load (some 1) (tm 6))
 (op 54 (.mov (tm 4))
 (op 55 (.conv .u64 (tm 54))
 (op 56 (.bin .shl (ci 1) (tm 55))
 (op 57 (.bin .sub (tm 56) (ci 1))
 (op 58 (.call 39 [(tm 53), (tm 57)])
 (op 12 (.mov (tm 58))
 .nil))))))))
 (.seq
 (.reg
 (op 13 (.mov (.cst (.nils)))
 (op 14 (.mov (.cst (.nils)))
 .nil)))
 (.seq
 (.seq
 (.reg
 (op 15 (.mov (ci 0))
 .nil))
 (.block 2
 (.ps (.own 13 31 15 (Ty.st .Envelope))
 (.ps (.own 14 31 15 (Ty.st .Envelope))
 (.loop ⟨[.val 15 (Ty.i .i64), .own 13 31 1 31 15 (Ty.st .Envelope), .own 14 32 1 31 15 (Ty.st .Envelope)], [4, 5, 6, 7, 8, 12]⟩
 (.seq
 (.seq
 (.reg
 (op 59 (.mov (tm 15))
 (op 60 (.mov (tm 4))
 (op 61 (.bin .lss (tm 59) (tm 60))
 .nil))))
 (.cond (tm 61)
 .skip
 (.exit 2)))
 (.join ⟨[.own 13 31 1 31 15 (Ty.st .Envelope), .own 14 32 1 31 15 (Ty.st .Envelope)], [4, 5, 6, 7, 8, 12, 15]⟩
 (.block 3
 (.seq
 (.reg
 (op 64 (.mov (tm 12))
 (op 65 (.mov (tm 15))
 (op 66 (.conv .u64 (tm 65))
 (op 67 (.bin .shr (tm 64) (tm 66))
 (op 68 (.bin .and (tm 67) (ci 1))
 (op 69 (.bin .eql (tm 68) (ci 1))
 .nil)))))))
 (.cond (tm 69)
 (.drw [(3, 10), (4, 10), (5, 10), (6, 10), (3, 11), (4, 11), (5, 11), (6, 11), (3, 12), (4, 12), (5, 12), (6, 12)]
 (op 70 (.mov (tm 13))
 (op 71 (.mov (tm 7))
 (op 72 (.mov (tm 15))
 (op 73 (.iaddr 15 (tm 71) (tm 72))
 (op 74 (.load (some 15) (tm 73))
 (op 75 (.bsl false 31 15 (List.replicate 1 [.int .i64 0, .int .i64 0, .int .i64 0, .int .i64 0, .nils, .nils, .int .i64 0, .int .i64 0, .str ⟨#[]⟩, .int .i64 0, .str ⟨#[]⟩, .int .i64 0, .str ⟨#[]⟩, .int .i64 0, .int .i64 0]) [(0, (tm 74))])
 (op 76 (.app 31 15 176 (tm 70) (tm 75))
 (op 77 (.mov (tm 14))
 (op 78 (.mov (tm 8))
 (op 79 (.mov (tm 15))
 (op 80 (.iaddr 15 (tm 78) (tm 79))
 (op 81 (.load (some 15) (tm 80))
 (op 82 (.bsl false 31 15 (List.replicate 1 [.int .i64 0, .int .i64 0, .int .i64 0, .int .i64 0, .nils, .nils, .int .i64 0, .int .i64 0, .str ⟨#[]⟩, .int .i64 0, .str ⟨#[]⟩, .int .i64 0, .str ⟨#[]⟩, .int .i64 0, .int .i64 0]) [(0, (tm 81))])
 (op 83 (.app 31 15 176 (tm 77) (tm 82))
 (op 13 (.mov (tm 76))
 (op 14 (.mov (tm 83))
 .nil)))))))))))))))))
 .skip)))
 (.reg
 (op 62 (.mov (tm 15))
 (op 63 (.bin .add (tm 62) (ci 1))
 (op 15 (.mov (tm 63))
 .nil)))))))))))
 (.seq
 (.seq
 (.reg
 (op 16 (.mov (ci 0))
 .nil))
 (.block 4
 (.loop ⟨[.val 16 (Ty.i .i64)], [4, 5, 6, 12, 13, 14]⟩
 (.seq
 (.seq
 (.reg
 (op 84 (.mov (tm 16))
 (op 85 (.mov (tm 4))
 (op 86 (.bin .lss (tm 84) (tm 85))
 .nil))))
 (.cond (tm 86)
 .skip
 (.exit 4)))
 (.join ⟨[], [4, 5, 6, 12, 13, 14, 16]⟩
 (.block 5
 (.seq
 (.seq
 (.reg
 (op 89 (.mov (tm 12))
 (op 90 (.mov (tm 16))
 (op 91 (.conv .u64 (tm 90))
 (op 92 (.bin .shr (tm 89) (tm 91))
 (op 93 (.bin .and (tm 92) (ci 1))
 (op 94 (.bin .eql (tm 93) (ci 0))
 .nil)))))))
 (.cond (tm 94)
 (.exit 5)
 .skip))
 (.seq
 (.reg
 (op 95 (.faddr 0 (tm 6))
 (op 96 (.load none (tm 95))
 (op 97 (.mov (tm 16))
 (op 98 (.iaddr 4 (tm 96) (tm 97))
 (op 99 (.faddr 1 (tm 98))
 (op 100 (.load (some 3) (tm 99))
 (op 17 (.alloc [.int .i64 0, .nils, .nils])
 (ops (.store 3 (tm 17) (tm 100))
 .nil)))))))))
 (.seq
 (.reg
 (op 101 (.mov (tm 16))
 (op 102 (.load (some 3) (tm 17))
 (op 103 (.mov (tm 13))
 (op 104 (.load (some 2) (tm 5))
 (op 105 (.call 36 [(tm 101), (tm 102), (tm 103), (tm 104)])
 (op 106 (.not (tm 105))
 (op 107 (.mov (tm 106))
 (.ite 107 false
 (opg 108 107 false (.mov (tm 16))
 (opg 109 107 false (.load (some 3) (tm 17))
 (opg 110 107 false (.mov (tm 14))
 (opg 111 107 false (.load (some 2) (tm 5))
 (opg 112 107 false (.call 40 [(tm 108), (tm 109), (tm 110), (tm 111)])
 (opg 113 107 false (.not (tm 112))
 .nil))))))
 114 none (.cst (.bool true)) (tm 113)
 (op 115 (.mov (tm 114))
 (.ite 115 false
 (opg 116 115 false (.mov (tm 16))
 (opg 117 115 false (.load (some 3) (tm 17))
 (opg 118 115 false (.mov (tm 13))
 (opg 119 115 false (.load (some 2) (tm 5))
 (opg 120 115 false (.call 40 [(tm 116), (tm 117), (tm 118), (tm 119)])
 .nil)))))
 121 none (.cst (.bool true)) (tm 120)
 .nil)))))))))))
 (.cond (tm 121)
 (.seq
 (.reg
 (op 2 (.mov (.cst (.bool false)))
 .nil))
 .ret)
 .skip)))))
 (.reg
 (op 87 (.mov (tm 16))
 (op 88 (.bin .add (tm 87) (ci 1))
 (op 16 (.mov (tm 88))
 .nil)))))))))
 (.seq
 (.reg
 (op 122 (.call 24 [])
 (op 2 (.mov (tm 122))
 .nil)))
 .ret))))))))))))
theorem ok_law25_PrepareQuorum : FnOk Try.prog 9 123 (SA.erase sa_law25_PrepareQuorum) [.tmp 2] := ⟨Try.f9, [], Try.func9, rfl, by kernel_rfl, by kernel_rfl, by kernel_rfl⟩
noncomputable def F_law25_PrepareQuorum (a0 : (List Int)) : Option Bool :=
 Option.bind (F_play_New a0) fun r1 =>
 Option.bind (F_play_Src_Range r1 (1 : Int) (5 : Int)) fun p2 =>
 Option.bind (F_play_Src_Low p2.2) fun p3 =>
 loopO (fun (v4 : Int × (List TEnvelope) × (List TEnvelope) × TSrc × TConfig × (List TMember) × Unit) =>
 bif (decide (v4.1 < p2.1)) then
 Option.bind (F_play_Src_Trust v4.2.2.2.1 p2.1) fun p5 =>
 bif lenOk 64 (List.length v4.2.2.2.2.2.1 + List.length [(TMember.mk true (TTrust.mk p5.1.Threshold p5.1.Nodes p5.1.Inner))]) then
 bif lenOk 176 (List.length v4.2.1 + List.length [(TEnvelope.mk v4.1 (1 : Int) (1 : Int) (TTrust.mk p5.1.Threshold p5.1.Nodes p5.1.Inner) (1 : Int) p3.1 (TBallot.mk (0 : Int) (ByteArray.mk #[])) (TBallot.mk (0 : Int) (ByteArray.mk #[])) (0 : Int) (0 : Int))]) then
 bif lenOk 176 (List.length v4.2.2.1 + List.length [(TEnvelope.mk v4.1 (1 : Int) (1 : Int) (TTrust.mk p5.1.Threshold p5.1.Nodes p5.1.Inner) (1 : Int) p3.1 p3.1 (TBallot.mk (0 : Int) (ByteArray.mk #[])) (0 : Int) (0 : Int))]) then
 some (Sum.inl ((addI .i64 v4.1 (1 : Int)), (v4.2.1 ++ [(TEnvelope.mk v4.1 (1 : Int) (1 : Int) (TTrust.mk p5.1.Threshold p5.1.Nodes p5.1.Inner) (1 : Int) p3.1 (TBallot.mk (0 : Int) (ByteArray.mk #[])) (TBallot.mk (0 : Int) (ByteArray.mk #[])) (0 : Int) (0 : Int))]), (v4.2.2.1 ++ [(TEnvelope.mk v4.1 (1 : Int) (1 : Int) (TTrust.mk p5.1.Threshold p5.1.Nodes p5.1.Inner) (1 : Int) p3.1 p3.1 (TBallot.mk (0 : Int) (ByteArray.mk #[])) (0 : Int) (0 : Int))]), p5.2, (TConfig.mk ([] : List TMember)), (v4.2.2.2.2.2.1 ++ [(TMember.mk true (TTrust.mk p5.1.Threshold p5.1.Nodes p5.1.Inner))]), ()))
 else none
 else none
 else none
 else
 Option.map Sum.inr (if (convI .u64 p2.1) < 0 then none else
 Option.bind (F_ref09_Greatest (TConfig.mk v4.2.2.2.2.2.1) (subI .i64 (shlI .i64 (1 : Int) (convI .u64 p2.1)) (1 : Int))) fun r6 =>
 loopO (fun (v7 : Int × (List TEnvelope) × (List TEnvelope) × Unit) =>
 bif (decide (v7.1 < p2.1)) then
 letJ (fun (v8 : (List TEnvelope) × (List TEnvelope) × Unit) =>
 some (Sum.inl ((addI .i64 v7.1 (1 : Int)), v8.1, v8.2.1, ()))) fun j9 =>
 if (convI .u64 v7.1) < 0 then none else
 bif (decide ((andI .i64 (shrI .i64 r6 (convI .u64 v7.1)) (1 : Int)) = (1 : Int))) then
 Option.bind (idx v4.2.1 v7.1) fun x10 =>
 Option.bind (v4.2.1[(Int.toNat v7.1)]?) fun x11 =>
 bif lenOk 176 (List.length v7.2.1 + List.length [(TEnvelope.mk x11.Node x11.Slot x11.Seq (TTrust.mk x11.Trust.Threshold x11.Trust.Nodes x11.Trust.Inner) x11.Kind x11.Ballot x11.Prepared x11.Prime x11.Low x11.High)]) then
 Option.bind (idx v4.2.2.1 v7.1) fun x12 =>
 Option.bind (v4.2.2.1[(Int.toNat v7.1)]?) fun x13 =>
 bif lenOk 176 (List.length v7.2.2.1 + List.length [(TEnvelope.mk x13.Node x13.Slot x13.Seq (TTrust.mk x13.Trust.Threshold x13.Trust.Nodes x13.Trust.Inner) x13.Kind x13.Ballot x13.Prepared x13.Prime x13.Low x13.High)]) then
 j9 ((v7.2.1 ++ [(TEnvelope.mk x11.Node x11.Slot x11.Seq (TTrust.mk x11.Trust.Threshold x11.Trust.Nodes x11.Trust.Inner) x11.Kind x11.Ballot x11.Prepared x11.Prime x11.Low x11.High)]), (v7.2.2.1 ++ [(TEnvelope.mk x13.Node x13.Slot x13.Seq (TTrust.mk x13.Trust.Threshold x13.Trust.Nodes x13.Trust.Inner) x13.Kind x13.Ballot x13.Prepared x13.Prime x13.Low x13.High)]), ())
 else none
 else none
 else
 j9 (v7.2.1, v7.2.2.1, ())
 else
 Option.map Sum.inr (loopO (fun (v14 : Int × Unit) =>
 bif (decide (v14.1 < p2.1)) then
 letJ (fun (v15 : Unit) =>
 some (Sum.inl ((addI .i64 v14.1 (1 : Int)), ()))) fun j16 =>
 if (convI .u64 v14.1) < 0 then none else
 bif (decide ((andI .i64 (shrI .i64 r6 (convI .u64 v14.1)) (1 : Int)) = (0 : Int))) then
 j16 (())
 else
 Option.bind (idx v4.2.2.2.2.2.1 v14.1) fun x17 =>
 Option.bind (v4.2.2.2.2.2.1[(Int.toNat v14.1)]?) fun x18 =>
 Option.bind (v4.2.2.2.2.2.1[(Int.toNat v14.1)]?) fun x19 =>
 Option.bind (F_prepare_Accepts v14.1 (TTrust.mk x19.Trust.Threshold x19.Trust.Nodes x19.Trust.Inner) v7.2.1 p3.1) fun r20 =>
 Option.bind (bif (!r20) then some true
 else
 Option.bind (F_prepare_Confirms v14.1 (TTrust.mk x19.Trust.Threshold x19.Trust.Nodes x19.Trust.Inner) v7.2.2.1 p3.1) fun r21 =>
 some (!r21)) fun b22 =>
 Option.bind (bif b22 then some true
 else
 Option.bind (F_prepare_Confirms v14.1 (TTrust.mk x19.Trust.Threshold x19.Trust.Nodes x19.Trust.Inner) v7.2.1 p3.1) fun r23 =>
 some r23) fun b24 =>
 bif b24 then
 Option.map Sum.inr (some false)
 else
 j16 (())
 else
 Option.map Sum.inr (Option.bind (F_law25_sane) fun r25 =>
 some r25)) ((0 : Int), ()))) ((0 : Int), ([] : List TEnvelope), ([] : List TEnvelope), ()))) ((0 : Int), ([] : List TEnvelope), ([] : List TEnvelope), p3.2, (TConfig.mk ([] : List TMember)), ([] : List TMember), ())
noncomputable def k_law25_PrepareQuorum : KFun U := .fn 9 [.ty (Ty.sl (Ty.i .i64))] (.one Ty.bool) fun a => F_law25_PrepareQuorum a.1
theorem e_law25_PrepareQuorum : fnK K [k_play_New, k_play_Src_Range, k_play_Src_Low, k_play_Src_Trust, k_ref09_Greatest, k_prepare_Accepts, k_prepare_Confirms, k_law25_sane] sa_law25_PrepareQuorum [.tmp 2] [.ty (Ty.sl (Ty.i .i64))] (.one Ty.bool) = fun a => F_law25_PrepareQuorum a.1 := by kernel_rfl
theorem s_law25_PrepareQuorum : KFun.Sound (U := U) Try.prog k_law25_PrepareQuorum := fnK_sound (K := K) (Γ := [k_play_New, k_play_Src_Range, k_play_Src_Low, k_play_Src_Trust, k_ref09_Greatest, k_prepare_Accepts, k_prepare_Confirms, k_law25_sane]) ok_law25_PrepareQuorum (by kernel_rfl) (by decide) ⟨s_play_New, s_play_Src_Range, s_play_Src_Low, s_play_Src_Trust, s_ref09_Greatest, s_prepare_Accepts, s_prepare_Confirms, s_law25_sane, trivial⟩ (fun a => congrFun e_law25_PrepareQuorum a)

/-! ### math/bits.Len64 -/
def sa_math_bits_Len64 : SA U :=
 (.seq
 (.reg
 (op 2 (.mov (ci 0))
 .nil))
 (.join ⟨[.val 0 (Ty.i .u64), .val 2 (Ty.i .i64)], []⟩
 (.seq
 (.reg
 (op 3 (.mov (tm 0))
 (op 4 (.bin .geq (tm 3) (.cst (.int .u64 4294967296)))
 .nil)))
 (.cond (tm 4)
 (.seq
 (.reg
 (op 5 (.mov (tm 0))
 (op 6 (.bin .shr (tm 5) (.cst (.int .u64 32)))
 (op 0 (.mov (tm 6))
 .nil))))
 (.reg
 (op 2 (.mov (ci 32))
 .nil)))
 .skip))
 (.join ⟨[.val 0 (Ty.i .u64), .val 2 (Ty.i .i64)], []⟩
 (.seq
 (.reg
 (op 7 (.mov (tm 0))
 (op 8 (.bin .geq (tm 7) (.cst (.int .u64 65536)))
 .nil)))
 (.cond (tm 8)
 (.seq
 (.reg
 (op 9 (.mov (tm 0))
 (op 10 (.bin .shr (tm 9) (.cst (.int .u64 16)))
 (op 0 (.mov (tm 10))
 .nil))))
 (.reg
 (op 11 (.mov (tm 2))
 (op 12 (.bin .add (tm 11) (ci 16))
 (op 2 (.mov (tm 12))
 .nil)))))
 .skip))
 (.join ⟨[.val 0 (Ty.i .u64), .val 2 (Ty.i .i64)], []⟩
 (.seq
 (.reg
 (op 13 (.mov (tm 0))
 (op 14 (.bin .geq (tm 13) (.cst (.int .u64 256)))
 .nil)))
 (.cond (tm 14)
 (.seq
 (.reg
 (op 15 (.mov (tm 0))
 (op 16 (.bin .shr (tm 15) (.cst (.int .u64 8)))
 (op 0 (.mov (tm 16))
 .nil))))
 (.reg
 (op 17 (.mov (tm 2))
 (op 18 (.bin .add (tm 17) (ci 8))
 (op 2 (.mov (tm 18))
 .nil)))))
 .skip))
 (.seq
 (.reg
 (op 19 (.mov (tm 2))
 (op 20 (.mov (tm 0))
 (op 21 (.conv .u8 (tm 20))
 (op 22 (.sidx (.cst (.str ⟨#[0, 1, 2, 2, 3, 3, 3, 3, 4, 4, 4, 4, 4, 4, 4, 4, 5, 5, 5, 5, 5, 5, 5, 5, 5, 5, 5, 5, 5, 5, 5, 5, 6, 6, 6, 6, 6, 6, 6, 6, 6, 6, 6, 6, 6, 6, 6, 6, 6, 6, 6, 6, 6, 6, 6, 6, 6, 6, 6, 6, 6, 6, 6, 6, 7, 7, 7, 7, 7, 7, 7, 7, 7, 7, 7, 7, 7, 7, 7, 7, 7, 7, 7, 7, 7, 7, 7, 7, 7, 7, 7, 7, 7, 7, 7, 7, 7, 7, 7, 7, 7, 7, 7, 7, 7, 7, 7, 7, 7, 7, 7, 7, 7, 7, 7, 7, 7, 7, 7, 7, 7, 7, 7, 7, 7, 7, 7, 7, 8, 8, 8, 8, 8, 8, 8, 8, 8, 8, 8, 8, 8, 8, 8, 8, 8, 8, 8, 8, 8, 8, 8, 8, 8, 8, 8, 8, 8, 8, 8, 8, 8, 8, 8, 8, 8, 8, 8, 8, 8, 8, 8, 8, 8, 8, 8, 8, 8, 8, 8, 8, 8, 8, 8, 8, 8, 8, 8, 8, 8, 8, 8, 8, 8, 8, 8, 8, 8, 8, 8, 8, 8, 8, 8, 8, 8, 8, 8, 8, 8, 8, 8, 8, 8, 8, 8, 8, 8, 8, 8, 8, 8, 8, 8, 8, 8, 8, 8, 8, 8, 8, 8, 8, 8, 8, 8, 8, 8, 8, 8, 8, 8, 8, 8, 8, 8, 8, 8, 8, 8, 8, 8, 8, 8, 8, 8, 8]⟩)) (tm 21))
 (op 23 (.conv .i64 (tm 22))
 (op 24 (.bin .add (tm 19) (tm 23))
 (op 2 (.mov (tm 24))
 .nil))))))))
 .ret)))))
theorem ok_math_bits_Len64 : FnOk Try.prog 158 25 (SA.erase sa_math_bits_Len64) [.tmp 2] := ⟨Try.f158, [], Try.func158, rfl, by kernel_rfl, by kernel_rfl, by kernel_rfl⟩
noncomputable def F_math_bits_Len64 (a0 : Int) : Option Int :=
 letJ (fun (v1 : Int × Int × Unit) =>
 letJ (fun (v3 : Int × Int × Unit) =>
 letJ (fun (v5 : Int × Int × Unit) =>
 Option.bind (sidx (ByteArray.mk #[0, 1, 2, 2, 3, 3, 3, 3, 4, 4, 4, 4, 4, 4, 4, 4, 5, 5, 5, 5, 5, 5, 5, 5, 5, 5, 5, 5, 5, 5, 5, 5, 6, 6, 6, 6, 6, 6, 6, 6, 6, 6, 6, 6, 6, 6, 6, 6, 6, 6, 6, 6, 6, 6, 6, 6, 6, 6, 6, 6, 6, 6, 6, 6, 7, 7, 7, 7, 7, 7, 7, 7, 7, 7, 7, 7, 7, 7, 7, 7, 7, 7, 7, 7, 7, 7, 7, 7, 7, 7, 7, 7, 7, 7, 7, 7, 7, 7, 7, 7, 7, 7, 7, 7, 7, 7, 7, 7, 7, 7, 7, 7, 7, 7, 7, 7, 7, 7, 7, 7, 7, 7, 7, 7, 7, 7, 7, 7, 8, 8, 8, 8, 8, 8, 8, 8, 8, 8, 8, 8, 8, 8, 8, 8, 8, 8, 8, 8, 8, 8, 8, 8, 8, 8, 8, 8, 8, 8, 8, 8, 8, 8, 8, 8, 8, 8, 8, 8, 8, 8, 8, 8, 8, 8, 8, 8, 8, 8, 8, 8, 8, 8, 8, 8, 8, 8, 8, 8, 8, 8, 8, 8, 8, 8, 8, 8, 8, 8, 8, 8, 8, 8, 8, 8, 8, 8, 8, 8, 8, 8, 8, 8, 8, 8, 8, 8, 8, 8, 8, 8, 8, 8, 8, 8, 8, 8, 8, 8, 8, 8, 8, 8, 8, 8, 8, 8, 8, 8, 8, 8, 8, 8, 8, 8, 8, 8, 8, 8, 8, 8, 8, 8, 8, 8, 8, 8]) (convI .u8 v5.1)) fun x7 =>
 some (addI .i64 v5.2.1 (convI .i64 x7))) fun j6 =>
 bif (decide ((256 : Int) ≤ v3.1)) then
 j6 ((shrI .u64 v3.1 (8 : Int)), (addI .i64 v3.2.1 (8 : Int)), ())
 else
 j6 (v3.1, v3.2.1, ())) fun j4 =>
 bif (decide ((65536 : Int) ≤ v1.1)) then
 j4 ((shrI .u64 v1.1 (16 : Int)), (addI .i64 v1.2.1 (16 : Int)), ())
 else
 j4 (v1.1, v1.2.1, ())) fun j2 =>
 bif (decide ((4294967296 : Int) ≤ a0)) then
 j2 ((shrI .u64 a0 (32 : Int)), (32 : Int), ())
 else
 j2 (a0, (0 : Int), ())
noncomputable def k_math_bits_Len64 : KFun U := .fn 158 [.ty (Ty.i .u64)] (.one (Ty.i .i64)) fun a => F_math_bits_Len64 a.1
theorem e_math_bits_Len64 : fnK K [] sa_math_bits_Len64 [.tmp 2] [.ty (Ty.i .u64)] (.one (Ty.i .i64)) = fun a => F_math_bits_Len64 a.1 := by kernel_rfl
theorem s_math_bits_Len64 : KFun.Sound (U := U) Try.prog k_math_bits_Len64 := fnK_sound (K := K) (Γ := []) ok_math_bits_Len64 (by kernel_rfl) (by decide) trivial (fun a => congrFun e_math_bits_Len64 a)

/-! ### math/bits.Len -/
def sa_math_bits_Len : SA U :=
 (.seq
 (.reg
 (op 2 (.mov (ci 0))
 .nil))
 (.seq
 (.cond (.cst (.bool false))
 (.seq
 (.reg
 (op 3 (.mov (tm 0))
 (op 4 (.conv .u32 (tm 3))
 (op 5 (.call 157 [(tm 4)])
 (op 2 (.mov (tm 5))
 .nil)))))
 .ret)
 .skip)
 (.seq
 (.reg
 (op 6 (.mov (tm 0))
 (op 7 (.call 158 [(tm 6)])
 (op 2 (.mov (tm 7))
 .nil))))
 .ret)))
theorem ok_math_bits_Len : FnOk Try.prog 143 8 (SA.erase sa_math_bits_Len) [.tmp 2] := ⟨Try.f143, [], Try.func143, rfl, by kernel_rfl, by kernel_rfl, by kernel_rfl⟩
noncomputable def F_math_bits_Len (a0 : Int) : Option Int :=
 Option.bind (F_math_bits_Len64 a0) fun r1 =>
 some r1
noncomputable def k_math_bits_Len : KFun U := .fn 143 [.ty (Ty.i .u64)] (.one (Ty.i .i64)) fun a => F_math_bits_Len a.1
theorem e_math_bits_Len : fnK K [k_math_bits_Len64] sa_math_bits_Len [.tmp 2] [.ty (Ty.i .u64)] (.one (Ty.i .i64)) = fun a => F_math_bits_Len a.1 := by kernel_rfl
theorem s_math_bits_Len : KFun.Sound (U := U) Try.prog k_math_bits_Len := fnK_sound (K := K) (Γ := [k_math_bits_Len64]) ok_math_bits_Len (by kernel_rfl) (by decide) ⟨s_math_bits_Len64, trivial⟩ (fun a => congrFun e_math_bits_Len a)

/-! ### slices.insertionSortCmpFunc[int] -/
def sa_slices_insertionSortCmpFunc_int_c111 : SA U :=
 (.seq
 (.reg
 (op 10 (.mov (tm 1))
 (op 11 (.bin .add (tm 10) (ci 1))
 (op 8 (.mov (tm 11))
 .nil))))
 (.block 0
 (.loop ⟨[.val 8 (Ty.i .i64), .own 0 0 0 3 1 (Ty.i .i64)], [1, 2, 3]⟩
 (.seq
 (.seq
 (.reg
 (op 12 (.mov (tm 8))
 (op 13 (.mov (tm 2))
 (op 14 (.bin .lss (tm 12) (tm 13))
 .nil))))
 (.cond (tm 14)
 .skip
 (.exit 0)))
 (.seq
 (.block 1
 (.seq
 (.reg
 (op 17 (.mov (tm 8))
 (op 9 (.mov (tm 17))
 .nil)))
 (.block 2
 (.loop ⟨[.val 9 (Ty.i .i64), .own 0 0 0 3 1 (Ty.i .i64)], [1, 2, 3, 8]⟩
 (.seq
 (.join ⟨[.val 34 Ty.bool], [0, 1, 2, 3, 8, 9]⟩
 (.drw [(7, 12), (8, 12), (7, 13), (8, 13)]
 (op 18 (.mov (tm 9))
 (op 19 (.mov (tm 1))
 (op 20 (.bin .gtr (tm 18) (tm 19))
 (op 21 (.mov (tm 20))
 (.spl 21
 (opg 22 21 true (.mov (tm 3))
 (opg 23 21 true (.mov (tm 0))
 (opg 24 21 true (.mov (tm 9))
 (opg 25 21 true (.iaddr 1 (tm 23) (tm 24))
 (opg 26 21 true (.load none (tm 25))
 (opg 27 21 true (.mov (tm 0))
 (opg 28 21 true (.mov (tm 9))
 (opg 29 21 true (.bin .sub (tm 28) (ci 1))
 (opg 30 21 true (.iaddr 1 (tm 27) (tm 29))
 (opg 31 21 true (.load none (tm 30))
 (opg 32 21 true (.callv (tm 22) [(tm 26), (tm 31)])
 (opg 33 21 true (.bin .lss (tm 32) (ci 0))
 (op 34 (.pick (tm 21) (tm 33) (.cst (.bool false)))
 .nil)))))))))))))))))))
 (.cond (tm 34)
 .skip
 (.exit 2)))
 (.seq
 (.block 3
 (.drw [(8, 12), (9, 12), (8, 13), (9, 13)]
 (op 37 (.mov (tm 0))
 (op 38 (.mov (tm 9))
 (op 39 (.mov (tm 0))
 (op 40 (.mov (tm 9))
 (op 41 (.bin .sub (tm 40) (ci 1))
 (op 42 (.mov (tm 0))
 (op 43 (.mov (tm 9))
 (op 44 (.bin .sub (tm 43) (ci 1))
 (op 45 (.iaddr 1 (tm 42) (tm 44))
 (op 46 (.load none (tm 45))
 (op 47 (.mov (tm 0))
 (op 48 (.mov (tm 9))
 (op 49 (.iaddr 1 (tm 47) (tm 48))
 (op 50 (.load none (tm 49))
 (op 51 (.iaddr 1 (tm 37) (tm 38))
 (ops (.store 1 (tm 51) (tm 46))
 (op 52 (.iaddr 1 (tm 39) (tm 41))
 (ops (.store 1 (tm 52) (tm 50))
 .nil))))))))))))))))))))
 (.reg
 (op 35 (.mov (tm 9))
 (op 36 (.bin .sub (tm 35) (ci 1))
 (op 9 (.mov (tm 36))
 .nil))))))))))
 (.reg
 (op 15 (.mov (tm 8))
 (op 16 (.bin .add (tm 15) (ci 1))
 (op 8 (.mov (tm 16))
 .nil)))))))))
theorem ok_slices_insertionSortCmpFunc_int_c111 : FnOk Try.prog 149 53 (SA.erase sa_slices_insertionSortCmpFunc_int_c111) [] := ⟨Try.f149, [], Try.func149, rfl, by kernel_rfl, by kernel_rfl, by kernel_rfl⟩
noncomputable def F_slices_insertionSortCmpFunc_int_c111 (s : List Int) (a0 : Int) (a1 : Int) : Option ((Unit) × List Int) :=
 loopO (fun (v1 : Int × (List Int) × Unit) =>
 bif (decide (v1.1 < a1)) then
 loopO (fun (v2 : Int × (List Int) × Unit) =>
 letJ (fun (v3 : Bool × Unit) =>
 bif v3.1 then
 Option.bind (idx v2.2.1 (subI .i64 v2.1 (1 : Int))) fun x5 =>
 Option.bind (v2.2.1[(Int.toNat (subI .i64 v2.1 (1 : Int)))]?) fun x6 =>
 Option.bind (idx v2.2.1 v2.1) fun x7 =>
 Option.bind (v2.2.1[(Int.toNat v2.1)]?) fun x8 =>
 Option.bind (idx v2.2.1 v2.1) fun x9 =>
 Option.bind (v2.2.1[(Int.toNat v2.1)]?) fun x10 =>
 Option.bind (idx (v2.2.1.set (Int.toNat v2.1) x6) (subI .i64 v2.1 (1 : Int))) fun x11 =>
 Option.bind ((v2.2.1.set (Int.toNat v2.1) x6)[(Int.toNat (subI .i64 v2.1 (1 : Int)))]?) fun x12 =>
 some (Sum.inl ((subI .i64 v2.1 (1 : Int)), ((v2.2.1.set (Int.toNat v2.1) x6).set (Int.toNat (subI .i64 v2.1 (1 : Int))) x8), ()))
 else
 Option.map Sum.inr (some (Sum.inl ((addI .i64 v1.1 (1 : Int)), v2.2.1, ())))) fun j4 =>
 bif (decide (a0 < v2.1)) then
 Option.bind (idx v2.2.1 v2.1) fun x13 =>
 Option.bind (v2.2.1[(Int.toNat v2.1)]?) fun x14 =>
 Option.bind (idx v2.2.1 (subI .i64 v2.1 (1 : Int))) fun x15 =>
 Option.bind (v2.2.1[(Int.toNat (subI .i64 v2.1 (1 : Int)))]?) fun x16 =>
 Option.bind (F_cmp_Compare_int x14 x16) fun r17 =>
 j4 ((decide (r17 < (0 : Int))), ())
 else
 j4 (false, ())) (v1.1, v1.2.1, ())
 else
 Option.map Sum.inr (some ((()), v1.2.1))) ((addI .i64 a0 (1 : Int)), s, ())
noncomputable def k_slices_insertionSortCmpFunc_int_c111 : KFun U := .rw 149 3 1 (Ty.i .i64) [.ty (Ty.i .i64), .ty (Ty.i .i64), .clo 111 []] (.many []) fun s a => F_slices_insertionSortCmpFunc_int_c111 s a.1 a.2.1
theorem e_slices_insertionSortCmpFunc_int_c111 : rwK K [k_cmp_Compare_int] sa_slices_insertionSortCmpFunc_int_c111 [] 3 1 (Ty.i .i64) [.ty (Ty.i .i64), .ty (Ty.i .i64), .clo 111 []] (.many []) = fun s a => F_slices_insertionSortCmpFunc_int_c111 s a.1 a.2.1 := by kernel_rfl
theorem s_slices_insertionSortCmpFunc_int_c111 : KFun.Sound (U := U) Try.prog k_slices_insertionSortCmpFunc_int_c111 := rwK_sound (K := K) (Γ := [k_cmp_Compare_int]) ok_slices_insertionSortCmpFunc_int_c111 (by kernel_rfl) (by decide) ⟨s_cmp_Compare_int, trivial⟩ (fun s a => congrFun (congrFun e_slices_insertionSortCmpFunc_int_c111 s) a)

/-! ### slices.siftDownCmpFunc[int] -/
def sa_slices_siftDownCmpFunc_int_c111 : SA U :=
 (.seq
 (.reg
 (op 12 (.mov (tm 1))
 (op 10 (.mov (tm 12))
 .nil)))
 (.block 0
 (.loop ⟨[.val 10 (Ty.i .i64), .own 0 0 0 3 1 (Ty.i .i64)], [2, 3, 4]⟩
 (.block 1
 (.seq
 (.reg
 (op 13 (.mov (tm 10))
 (op 14 (.bin .mul (ci 2) (tm 13))
 (op 15 (.bin .add (tm 14) (ci 1))
 (op 11 (.mov (tm 15))
 .nil)))))
 (.seq
 (.seq
 (.reg
 (op 16 (.mov (tm 11))
 (op 17 (.mov (tm 2))
 (op 18 (.bin .geq (tm 16) (tm 17))
 .nil))))
 (.cond (tm 18)
 (.exit 0)
 .skip))
 (.join ⟨[.val 11 (Ty.i .i64)], [0, 2, 3, 4, 10]⟩
 (.join ⟨[.val 40 Ty.bool], [0, 2, 3, 4, 10, 11]⟩
 (.drw [(10, 17), (11, 17), (10, 18), (11, 18)]
 (op 19 (.mov (tm 11))
 (op 20 (.bin .add (tm 19) (ci 1))
 (op 21 (.mov (tm 2))
 (op 22 (.bin .lss (tm 20) (tm 21))
 (op 23 (.mov (tm 22))
 (.spl 23
 (opg 24 23 true (.mov (tm 4))
 (opg 25 23 true (.mov (tm 0))
 (opg 26 23 true (.mov (tm 3))
 (opg 27 23 true (.mov (tm 11))
 (opg 28 23 true (.bin .add (tm 26) (tm 27))
 (opg 29 23 true (.iaddr 1 (tm 25) (tm 28))
 (opg 30 23 true (.load none (tm 29))
 (opg 31 23 true (.mov (tm 0))
 (opg 32 23 true (.mov (tm 3))
 (opg 33 23 true (.mov (tm 11))
 (opg 34 23 true (.bin .add (tm 32) (tm 33))
 (opg 35 23 true (.bin .add (tm 34) (ci 1))
 (opg 36 23 true (.iaddr 1 (tm 31) (tm 35))
 (opg 37 23 true (.load none (tm 36))
 (opg 38 23 true (.callv (tm 24) [(tm 30), (tm 37)])
 (opg 39 23 true (.bin .lss (tm 38) (ci 0))
 (op 40 (.pick (tm 23) (tm 39) (.cst (.bool false)))
 .nil))))))))))))))))))))))))
 (.cond (tm 40)
 (.reg
 (op 41 (.mov (tm 11))
 (op 42 (.bin .add (tm 41) (ci 1))
 (op 11 (.mov (tm 42))
 .nil))))
 .skip))
 (.seq
 (.seq
 (.drw [(5, 11), (6, 11), (5, 12), (6, 12)]
 (op 43 (.mov (tm 4))
 (op 44 (.mov (tm 0))
 (op 45 (.mov (tm 3))
 (op 46 (.mov (tm 10))
 (op 47 (.bin .add (tm 45) (tm 46))
 (op 48 (.iaddr 1 (tm 44) (tm 47))
 (op 49 (.load none (tm 48))
 (op 50 (.mov (tm 0))
 (op 51 (.mov (tm 3))
 (op 52 (.mov (tm 11))
 (op 53 (.bin .add (tm 51) (tm 52))
 (op 54 (.iaddr 1 (tm 50) (tm 53))
 (op 55 (.load none (tm 54))
 (op 56 (.callv (tm 43) [(tm 49), (tm 55)])
 (op 57 (.bin .lss (tm 56) (ci 0))
 (op 58 (.not (tm 57))
 .nil)))))))))))))))))
 (.cond (tm 58)
 .ret
 .skip))
 (.seq
 (.drw [(12, 18), (13, 18), (12, 19), (13, 19)]
 (op 59 (.mov (tm 0))
 (op 60 (.mov (tm 3))
 (op 61 (.mov (tm 10))
 (op 62 (.bin .add (tm 60) (tm 61))
 (op 63 (.mov (tm 0))
 (op 64 (.mov (tm 3))
 (op 65 (.mov (tm 11))
 (op 66 (.bin .add (tm 64) (tm 65))
 (op 67 (.mov (tm 0))
 (op 68 (.mov (tm 3))
 (op 69 (.mov (tm 11))
 (op 70 (.bin .add (tm 68) (tm 69))
 (op 71 (.iaddr 1 (tm 67) (tm 70))
 (op 72 (.load none (tm 71))
 (op 73 (.mov (tm 0))
 (op 74 (.mov (tm 3))
 (op 75 (.mov (tm 10))
 (op 76 (.bin .add (tm 74) (tm 75))
 (op 77 (.iaddr 1 (tm 73) (tm 76))
 (op 78 (.load none (tm 77))
 (op 79 (.iaddr 1 (tm 59) (tm 62))
 (ops (.store 1 (tm 79) (tm 72))
 (op 80 (.iaddr 1 (tm 63) (tm 66))
 (ops (.store 1 (tm 80) (tm 78))
 .nil)))))))))))))))))))))))))
 (.reg
 (op 81 (.mov (tm 11))
 (op 10 (.mov (tm 81))
 .nil))))))))))))
theorem ok_slices_siftDownCmpFunc_int_c111 : FnOk Try.prog 161 82 (SA.erase sa_slices_siftDownCmpFunc_int_c111) [] := ⟨Try.f161, [], Try.func161, rfl, by kernel_rfl, by kernel_rfl, by kernel_rfl⟩
noncomputable def F_slices_siftDownCmpFunc_int_c111 (s : List Int) (a0 : Int) (a1 : Int) (a2 : Int) : Option ((Unit) × List Int) :=
 loopO (fun (v1 : Int × (List Int) × Unit) =>
 bif (decide (a1 ≤ (addI .i64 (mulI .i64 (2 : Int) v1.1) (1 : Int)))) then
 Option.map Sum.inr (some ((()), v1.2.1))
 else
 letJ (fun (v2 : Int × Unit) =>
 Option.bind (idx v1.2.1 (addI .i64 a2 v1.1)) fun x4 =>
 Option.bind (v1.2.1[(Int.toNat (addI .i64 a2 v1.1))]?) fun x5 =>
 Option.bind (idx v1.2.1 (addI .i64 a2 v2.1)) fun x6 =>
 Option.bind (v1.2.1[(Int.toNat (addI .i64 a2 v2.1))]?) fun x7 =>
 Option.bind (F_cmp_Compare_int x5 x7) fun r8 =>
 bif (!(decide (r8 < (0 : Int)))) then
 Option.map Sum.inr (some ((()), v1.2.1))
 else
 Option.bind (idx v1.2.1 (addI .i64 a2 v2.1)) fun x9 =>
 Option.bind (v1.2.1[(Int.toNat (addI .i64 a2 v2.1))]?) fun x10 =>
 Option.bind (idx v1.2.1 (addI .i64 a2 v1.1)) fun x11 =>
 Option.bind (v1.2.1[(Int.toNat (addI .i64 a2 v1.1))]?) fun x12 =>
 Option.bind (idx v1.2.1 (addI .i64 a2 v1.1)) fun x13 =>
 Option.bind (v1.2.1[(Int.toNat (addI .i64 a2 v1.1))]?) fun x14 =>
 Option.bind (idx (v1.2.1.set (Int.toNat (addI .i64 a2 v1.1)) x10) (addI .i64 a2 v2.1)) fun x15 =>
 Option.bind ((v1.2.1.set (Int.toNat (addI .i64 a2 v1.1)) x10)[(Int.toNat (addI .i64 a2 v2.1))]?) fun x16 =>
 some (Sum.inl (v2.1, ((v1.2.1.set (Int.toNat (addI .i64 a2 v1.1)) x10).set (Int.toNat (addI .i64 a2 v2.1)) x12), ()))) fun j3 =>
 letJ (fun (v17 : Bool × Unit) =>
 bif v17.1 then
 j3 ((addI .i64 (addI .i64 (mulI .i64 (2 : Int) v1.1) (1 : Int)) (1 : Int)), ())
 else
 j3 ((addI .i64 (mulI .i64 (2 : Int) v1.1) (1 : Int)), ())) fun j18 =>
 bif (decide ((addI .i64 (addI .i64 (mulI .i64 (2 : Int) v1.1) (1 : Int)) (1 : Int)) < a1)) then
 Option.bind (idx v1.2.1 (addI .i64 a2 (addI .i64 (mulI .i64 (2 : Int) v1.1) (1 : Int)))) fun x19 =>
 Option.bind (v1.2.1[(Int.toNat (addI .i64 a2 (addI .i64 (mulI .i64 (2 : Int) v1.1) (1 : Int))))]?) fun x20 =>
 Option.bind (idx v1.2.1 (addI .i64 (addI .i64 a2 (addI .i64 (mulI .i64 (2 : Int) v1.1) (1 : Int))) (1 : Int))) fun x21 =>
 Option.bind (v1.2.1[(Int.toNat (addI .i64 (addI .i64 a2 (addI .i64 (mulI .i64 (2 : Int) v1.1) (1 : Int))) (1 : Int)))]?) fun x22 =>
 Option.bind (F_cmp_Compare_int x20 x22) fun r23 =>
 j18 ((decide (r23 < (0 : Int))), ())
 else
 j18 (false, ())) (a0, s, ())
noncomputable def k_slices_siftDownCmpFunc_int_c111 : KFun U := .rw 161 3 1 (Ty.i .i64) [.ty (Ty.i .i64), .ty (Ty.i .i64), .ty (Ty.i .i64), .clo 111 []] (.many []) fun s a => F_slices_siftDownCmpFunc_int_c111 s a.1 a.2.1 a.2.2.1
theorem e_slices_siftDownCmpFunc_int_c111 : rwK K [k_cmp_Compare_int] sa_slices_siftDownCmpFunc_int_c111 [] 3 1 (Ty.i .i64) [.ty (Ty.i .i64), .ty (Ty.i .i64), .ty (Ty.i .i64), .clo 111 []] (.many []) = fun s a => F_slices_siftDownCmpFunc_int_c111 s a.1 a.2.1 a.2.2.1 := by kernel_rfl
theorem s_slices_siftDownCmpFunc_int_c111 : KFun.Sound (U := U) Try.prog k_slices_siftDownCmpFunc_int_c111 := rwK_sound (K := K) (Γ := [k_cmp_Compare_int]) ok_slices_siftDownCmpFunc_int_c111 (by kernel_rfl) (by decide) ⟨s_cmp_Compare_int, trivial⟩ (fun s a => congrFun (congrFun e_slices_siftDownCmpFunc_int_c111 s) a)

/-! ### slices.heapSortCmpFunc[int] -/
def sa_slices_heapSortCmpFunc_int_c111 : SA U :=
 (.seq
 (.reg
 (op 13 (.mov (tm 1))
 (op 8 (.mov (tm 13))
 .nil)))
 (.seq
 (.reg
 (op 9 (.mov (ci 0))
 .nil))
 (.seq
 (.reg
 (op 14 (.mov (tm 2))
 (op 15 (.mov (tm 1))
 (op 16 (.bin .sub (tm 14) (tm 15))
 (op 10 (.mov (tm 16))
 .nil)))))
 (.seq
 (.seq
 (.reg
 (op 17 (.mov (tm 10))
 (op 18 (.bin .sub (tm 17) (ci 1))
 (op 19 (.bin .quo (tm 18) (ci 2))
 (op 11 (.mov (tm 19))
 .nil)))))
 (.block 0
 (.loop ⟨[.val 11 (Ty.i .i64), .own 0 0 0 3 1 (Ty.i .i64)], [3, 8, 9, 10]⟩
 (.seq
 (.seq
 (.reg
 (op 20 (.mov (tm 11))
 (op 21 (.bin .geq (tm 20) (ci 0))
 .nil)))
 (.cond (tm 21)
 .skip
 (.exit 0)))
 (.seq
 (.block 1
 (.reg
 (op 24 (.mov (tm 0))
 (op 25 (.mov (tm 11))
 (op 26 (.mov (tm 10))
 (op 27 (.mov (tm 8))
 (op 28 (.mov (tm 3))
 (op 29 (.call 161 [(tm 24), (tm 25), (tm 26), (tm 27), (tm 28)])
 .nil))))))))
 (.reg
 (op 22 (.mov (tm 11))
 (op 23 (.bin .sub (tm 22) (ci 1))
 (op 11 (.mov (tm 23))
 .nil)))))))))
 (.seq
 (.reg
 (op 30 (.mov (tm 10))
 (op 31 (.bin .sub (tm 30) (ci 1))
 (op 12 (.mov (tm 31))
 .nil))))
 (.block 2
 (.loop ⟨[.val 12 (Ty.i .i64), .own 0 0 0 3 1 (Ty.i .i64)], [3, 8, 9]⟩
 (.seq
 (.seq
 (.reg
 (op 32 (.mov (tm 12))
 (op 33 (.bin .geq (tm 32) (ci 0))
 .nil)))
 (.cond (tm 33)
 .skip
 (.exit 2)))
 (.seq
 (.block 3
 (.seq
 (.drw [(10, 14), (11, 14), (10, 15), (11, 15)]
 (op 36 (.mov (tm 0))
 (op 37 (.mov (tm 8))
 (op 38 (.mov (tm 0))
 (op 39 (.mov (tm 8))
 (op 40 (.mov (tm 12))
 (op 41 (.bin .add (tm 39) (tm 40))
 (op 42 (.mov (tm 0))
 (op 43 (.mov (tm 8))
 (op 44 (.mov (tm 12))
 (op 45 (.bin .add (tm 43) (tm 44))
 (op 46 (.iaddr 1 (tm 42) (tm 45))
 (op 47 (.load none (tm 46))
 (op 48 (.mov (tm 0))
 (op 49 (.mov (tm 8))
 (op 50 (.iaddr 1 (tm 48) (tm 49))
 (op 51 (.load none (tm 50))
 (op 52 (.iaddr 1 (tm 36) (tm 37))
 (ops (.store 1 (tm 52) (tm 47))
 (op 53 (.iaddr 1 (tm 38) (tm 41))
 (ops (.store 1 (tm 53) (tm 51))
 .nil)))))))))))))))))))))
 (.reg
 (op 54 (.mov (tm 0))
 (op 55 (.mov (tm 9))
 (op 56 (.mov (tm 12))
 (op 57 (.mov (tm 8))
 (op 58 (.mov (tm 3))
 (op 59 (.call 161 [(tm 54), (tm 55), (tm 56), (tm 57), (tm 58)])
 .nil)))))))))
 (.reg
 (op 34 (.mov (tm 12))
 (op 35 (.bin .sub (tm 34) (ci 1))
 (op 12 (.mov (tm 35))
 .nil)))))))))))))
theorem ok_slices_heapSortCmpFunc_int_c111 : FnOk Try.prog 150 60 (SA.erase sa_slices_heapSortCmpFunc_int_c111) [] := ⟨Try.f150, [], Try.func150, rfl, by kernel_rfl, by kernel_rfl, by kernel_rfl⟩
noncomputable def F_slices_heapSortCmpFunc_int_c111 (s : List Int) (a0 : Int) (a1 : Int) : Option ((Unit) × List Int) :=
 loopO (fun (v1 : Int × (List Int) × Unit) =>
 bif (decide ((0 : Int) ≤ v1.1)) then
 Option.bind (F_slices_siftDownCmpFunc_int_c111 v1.2.1 v1.1 (subI .i64 a1 a0) a0) fun p2 =>
 some (Sum.inl ((subI .i64 v1.1 (1 : Int)), p2.2, ()))
 else
 Option.map Sum.inr (loopO (fun (v3 : Int × (List Int) × Unit) =>
 bif (decide ((0 : Int) ≤ v3.1)) then
 Option.bind (idx v3.2.1 (addI .i64 a0 v3.1)) fun x4 =>
 Option.bind (v3.2.1[(Int.toNat (addI .i64 a0 v3.1))]?) fun x5 =>
 Option.bind (idx v3.2.1 a0) fun x6 =>
 Option.bind (v3.2.1[(Int.toNat a0)]?) fun x7 =>
 Option.bind (idx v3.2.1 a0) fun x8 =>
 Option.bind (v3.2.1[(Int.toNat a0)]?) fun x9 =>
 Option.bind (idx (v3.2.1.set (Int.toNat a0) x5) (addI .i64 a0 v3.1)) fun x10 =>
 Option.bind ((v3.2.1.set (Int.toNat a0) x5)[(Int.toNat (addI .i64 a0 v3.1))]?) fun x11 =>
 Option.bind (F_slices_siftDownCmpFunc_int_c111 ((v3.2.1.set (Int.toNat a0) x5).set (Int.toNat (addI .i64 a0 v3.1)) x7) (0 : Int) v3.1 a0) fun p12 =>
 some (Sum.inl ((subI .i64 v3.1 (1 : Int)), p12.2, ()))
 else
 Option.map Sum.inr (some ((()), v3.2.1))) ((subI .i64 (subI .i64 a1 a0) (1 : Int)), v1.2.1, ()))) ((quoI .i64 (subI .i64 (subI .i64 a1 a0) (1 : Int)) (2 : Int)), s, ())
noncomputable def k_slices_heapSortCmpFunc_int_c111 : KFun U := .rw 150 3 1 (Ty.i .i64) [.ty (Ty.i .i64), .ty (Ty.i .i64), .clo 111 []] (.many []) fun s a => F_slices_heapSortCmpFunc_int_c111 s a.1 a.2.1
theorem e_slices_heapSortCmpFunc_int_c111 : rwK K [k_slices_siftDownCmpFunc_int_c111] sa_slices_heapSortCmpFunc_int_c111 [] 3 1 (Ty.i .i64) [.ty (Ty.i .i64), .ty (Ty.i .i64), .clo 111 []] (.many []) = fun s a => F_slices_heapSortCmpFunc_int_c111 s a.1 a.2.1 := by kernel_rfl
theorem s_slices_heapSortCmpFunc_int_c111 : KFun.Sound (U := U) Try.prog k_slices_heapSortCmpFunc_int_c111 := rwK_sound (K := K) (Γ := [k_slices_siftDownCmpFunc_int_c111]) ok_slices_heapSortCmpFunc_int_c111 (by kernel_rfl) (by decide) ⟨s_slices_siftDownCmpFunc_int_c111, trivial⟩ (fun s a => congrFun (congrFun e_slices_heapSortCmpFunc_int_c111 s) a)

/-! ### slices.nextPowerOfTwo -/
def sa_slices_nextPowerOfTwo : SA U :=
 (.seq
 (.reg
 (op 2 (.mov (.cst (.int .u64 0)))
 .nil))
 (.seq
 (.reg
 (op 3 (.mov (tm 0))
 (op 4 (.conv .u64 (tm 3))
 (op 5 (.call 143 [(tm 4)])
 (op 6 (.bin .shl (.cst (.int .u64 1)) (tm 5))
 (op 2 (.mov (tm 6))
 .nil))))))
 .ret))
theorem ok_slices_nextPowerOfTwo : FnOk Try.prog 162 7 (SA.erase sa_slices_nextPowerOfTwo) [.tmp 2] := ⟨Try.f162, [], Try.func162, rfl, by kernel_rfl, by kernel_rfl, by kernel_rfl⟩
noncomputable def F_slices_nextPowerOfTwo (a0 : Int) : Option Int :=
 Option.bind (F_math_bits_Len (convI .u64 a0)) fun r1 =>
 if r1 < 0 then none else
 some (shlI .u64 (1 : Int) r1)
noncomputable def k_slices_nextPowerOfTwo : KFun U := .fn 162 [.ty (Ty.i .i64)] (.one (Ty.i .u64)) fun a => F_slices_nextPowerOfTwo a.1
theorem e_slices_nextPowerOfTwo : fnK K [k_math_bits_Len] sa_slices_nextPowerOfTwo [.tmp 2] [.ty (Ty.i .i64)] (.one (Ty.i .u64)) = fun a => F_slices_nextPowerOfTwo a.1 := by kernel_rfl
theorem s_slices_nextPowerOfTwo : KFun.Sound (U := U) Try.prog k_slices_nextPowerOfTwo := fnK_sound (K := K) (Γ := [k_math_bits_Len]) ok_slices_nextPowerOfTwo (by kernel_rfl) (by decide) ⟨s_math_bits_Len, trivial⟩ (fun a => congrFun e_slices_nextPowerOfTwo a)

/-! ### (*slices.xorshift).Next -/
def sa_slices_xorshift_Next : SA U :=
 (.seq
 (.reg
 (op 2 (.mov (.cst (.int .u64 0)))
 .nil))
 (.seq
 (.drw [(1, 4), (2, 4), (1, 5), (2, 5)]
 (op 3 (.mov (tm 0))
 (op 4 (.nilck (tm 3))
 (op 5 (.load none (tm 4))
 (op 6 (.mov (tm 0))
 (op 7 (.nilck (tm 6))
 (op 8 (.load none (tm 7))
 (op 9 (.bin .shl (tm 8) (.cst (.int .u64 13)))
 (op 10 (.bin .xor (tm 5) (tm 9))
 (op 11 (.nilck (tm 3))
 (ops (.store 1 (tm 11) (tm 10))
 .nil)))))))))))
 (.seq
 (.drw [(1, 4), (2, 4), (1, 5), (2, 5)]
 (op 12 (.mov (tm 0))
 (op 13 (.nilck (tm 12))
 (op 14 (.load none (tm 13))
 (op 15 (.mov (tm 0))
 (op 16 (.nilck (tm 15))
 (op 17 (.load none (tm 16))
 (op 18 (.bin .shr (tm 17) (.cst (.int .u64 7)))
 (op 19 (.bin .xor (tm 14) (tm 18))
 (op 20 (.nilck (tm 12))
 (ops (.store 1 (tm 20) (tm 19))
 .nil)))))))))))
 (.seq
 (.drw [(1, 4), (2, 4), (1, 5), (2, 5)]
 (op 21 (.mov (tm 0))
 (op 22 (.nilck (tm 21))
 (op 23 (.load none (tm 22))
 (op 24 (.mov (tm 0))
 (op 25 (.nilck (tm 24))
 (op 26 (.load none (tm 25))
 (op 27 (.bin .shl (tm 26) (.cst (.int .u64 17)))
 (op 28 (.bin .xor (tm 23) (tm 27))
 (op 29 (.nilck (tm 21))
 (ops (.store 1 (tm 29) (tm 28))
 .nil)))))))))))
 (.seq
 (.reg
 (op 30 (.mov (tm 0))
 (op 31 (.nilck (tm 30))
 (op 32 (.load none (tm 31))
 (op 2 (.mov (tm 32))
 .nil)))))
 .ret)))))
theorem ok_slices_xorshift_Next : FnOk Try.prog 163 33 (SA.erase sa_slices_xorshift_Next) [.tmp 2] := ⟨Try.f163, [], Try.func163, rfl, by kernel_rfl, by kernel_rfl, by kernel_rfl⟩
noncomputable def F_slices_xorshift_Next (s : Int)  : Option (Int × Int) :=
 some ((xorI .u64 (xorI .u64 (xorI .u64 s (shlI .u64 s (13 : Int))) (shrI .u64 (xorI .u64 s (shlI .u64 s (13 : Int))) (7 : Int))) (shlI .u64 (xorI .u64 (xorI .u64 s (shlI .u64 s (13 : Int))) (shrI .u64 (xorI .u64 s (shlI .u64 s (13 : Int))) (7 : Int))) (17 : Int))), (xorI .u64 (xorI .u64 (xorI .u64 s (shlI .u64 s (13 : Int))) (shrI .u64 (xorI .u64 s (shlI .u64 s (13 : Int))) (7 : Int))) (shlI .u64 (xorI .u64 (xorI .u64 s (shlI .u64 s (13 : Int))) (shrI .u64 (xorI .u64 s (shlI .u64 s (13 : Int))) (7 : Int))) (17 : Int))))
noncomputable def k_slices_xorshift_Next : KFun U := .rc 163 0 (Ty.i .u64) [] (.one (Ty.i .u64)) fun s a => F_slices_xorshift_Next s 
theorem e_slices_xorshift_Next : rcK K [] sa_slices_xorshift_Next [.tmp 2] 0 (Ty.i .u64) [] (.one (Ty.i .u64)) = fun s a => F_slices_xorshift_Next s  := by kernel_rfl
theorem s_slices_xorshift_Next : KFun.Sound (U := U) Try.prog k_slices_xorshift_Next := rcK_sound (K := K) (Γ := []) ok_slices_xorshift_Next (by kernel_rfl) (by decide) trivial (fun s a => congrFun (congrFun e_slices_xorshift_Next s) a)

/-! ### slices.breakPatternsCmpFunc[int] -/
def sa_slices_breakPatternsCmpFunc_int_c111 : SA U :=
 (.seq
 (.reg
 (op 13 (.mov (tm 2))
 (op 14 (.mov (tm 1))
 (op 15 (.bin .sub (tm 13) (tm 14))
 (op 8 (.mov (tm 15))
 .nil)))))
 (.seq
 (.reg
 (op 16 (.mov (tm 8))
 (op 17 (.bin .geq (tm 16) (ci 8))
 .nil)))
 (.cond (tm 17)
 (.seq
 (.reg
 (op 18 (.mov (tm 8))
 (op 19 (.conv .u64 (tm 18))
 (op 9 (.alloc [.int .u64 0])
 (ops (.store 1 (tm 9) (tm 19))
 .nil)))))
 (.seq
 (.reg
 (op 20 (.mov (tm 8))
 (op 21 (.call 162 [(tm 20)])
 (op 10 (.mov (tm 21))
 .nil))))
 (.seq
 (.reg
 (op 22 (.mov (tm 1))
 (op 23 (.mov (tm 8))
 (op 24 (.bin .quo (tm 23) (ci 4))
 (op 25 (.bin .mul (tm 24) (ci 2))
 (op 26 (.bin .add (tm 22) (tm 25))
 (op 27 (.bin .sub (tm 26) (ci 1))
 (op 11 (.mov (tm 27))
 .nil))))))))
 (.block 0
 (.loop ⟨[.val 11 (Ty.i .i64), .own 0 0 0 3 1 (Ty.i .i64), .box 9 1 (Ty.i .u64) []], [1, 8, 9, 10]⟩
 (.seq
 (.seq
 (.reg
 (op 28 (.mov (tm 11))
 (op 29 (.mov (tm 1))
 (op 30 (.mov (tm 8))
 (op 31 (.bin .quo (tm 30) (ci 4))
 (op 32 (.bin .mul (tm 31) (ci 2))
 (op 33 (.bin .add (tm 29) (tm 32))
 (op 34 (.bin .add (tm 33) (ci 1))
 (op 35 (.bin .leq (tm 28) (tm 34))
 .nil)))))))))
 (.cond (tm 35)
 .skip
 (.exit 0)))
 (.seq
 (.block 1
 (.seq
 (.reg
 (op 38 (.call 163 [(tm 9)])
 (op 39 (.mov (tm 10))
 (op 40 (.bin .sub (tm 39) (.cst (.int .u64 1)))
 (op 41 (.bin .and (tm 38) (tm 40))
 (op 42 (.conv .i64 (tm 41))
 (op 12 (.mov (tm 42))
 .nil)))))))
 (.join ⟨[.val 12 (Ty.i .i64)], [0, 1, 8, 9, 10, 11]⟩
 (.seq
 (.reg
 (op 43 (.mov (tm 12))
 (op 44 (.mov (tm 8))
 (op 45 (.bin .geq (tm 43) (tm 44))
 .nil))))
 (.cond (tm 45)
 (.reg
 (op 46 (.mov (tm 12))
 (op 47 (.mov (tm 8))
 (op 48 (.bin .sub (tm 46) (tm 47))
 (op 12 (.mov (tm 48))
 .nil)))))
 .skip))
 (.drw [(10, 14), (11, 14), (10, 15), (11, 15)]
 (op 49 (.mov (tm 0))
 (op 50 (.mov (tm 11))
 (op 51 (.mov (tm 0))
 (op 52 (.mov (tm 1))
 (op 53 (.mov (tm 12))
 (op 54 (.bin .add (tm 52) (tm 53))
 (op 55 (.mov (tm 0))
 (op 56 (.mov (tm 1))
 (op 57 (.mov (tm 12))
 (op 58 (.bin .add (tm 56) (tm 57))
 (op 59 (.iaddr 1 (tm 55) (tm 58))
 (op 60 (.load none (tm 59))
 (op 61 (.mov (tm 0))
 (op 62 (.mov (tm 11))
 (op 63 (.iaddr 1 (tm 61) (tm 62))
 (op 64 (.load none (tm 63))
 (op 65 (.iaddr 1 (tm 49) (tm 50))
 (ops (.store 1 (tm 65) (tm 60))
 (op 66 (.iaddr 1 (tm 51) (tm 54))
 (ops (.store 1 (tm 66) (tm 64))
 .nil))))))))))))))))))))))))
 (.reg
 (op 36 (.mov (tm 11))
 (op 37 (.bin .add (tm 36) (ci 1))
 (op 11 (.mov (tm 37))
 .nil)))))))))))
 .skip)))
theorem ok_slices_breakPatternsCmpFunc_int_c111 : FnOk Try.prog 151 67 (SA.erase sa_slices_breakPatternsCmpFunc_int_c111) [] := ⟨Try.f151, [], Try.func151, rfl, by kernel_rfl, by kernel_rfl, by kernel_rfl⟩
noncomputable def F_slices_breakPatternsCmpFunc_int_c111 (s : List Int) (a0 : Int) (a1 : Int) : Option ((Unit) × List Int) :=
 bif (decide ((8 : Int) ≤ (subI .i64 a1 a0))) then
 Option.bind (F_slices_nextPowerOfTwo (subI .i64 a1 a0)) fun r1 =>
 loopO (fun (v2 : Int × (List Int) × Int × Unit) =>
 bif (decide (v2.1 ≤ (addI .i64 (addI .i64 a0 (mulI .i64 (quoI .i64 (subI .i64 a1 a0) (4 : Int)) (2 : Int))) (1 : Int)))) then
 Option.bind (F_slices_xorshift_Next v2.2.2.1) fun p3 =>
 letJ (fun (v4 : Int × Unit) =>
 Option.bind (idx v2.2.1 (addI .i64 a0 v4.1)) fun x6 =>
 Option.bind (v2.2.1[(Int.toNat (addI .i64 a0 v4.1))]?) fun x7 =>
 Option.bind (idx v2.2.1 v2.1) fun x8 =>
 Option.bind (v2.2.1[(Int.toNat v2.1)]?) fun x9 =>
 Option.bind (idx v2.2.1 v2.1) fun x10 =>
 Option.bind (v2.2.1[(Int.toNat v2.1)]?) fun x11 =>
 Option.bind (idx (v2.2.1.set (Int.toNat v2.1) x7) (addI .i64 a0 v4.1)) fun x12 =>
 Option.bind ((v2.2.1.set (Int.toNat v2.1) x7)[(Int.toNat (addI .i64 a0 v4.1))]?) fun x13 =>
 some (Sum.inl ((addI .i64 v2.1 (1 : Int)), ((v2.2.1.set (Int.toNat v2.1) x7).set (Int.toNat (addI .i64 a0 v4.1)) x9), p3.2, ()))) fun j5 =>
 bif (decide ((subI .i64 a1 a0) ≤ (convI .i64 (andI .u64 p3.1 (subI .u64 r1 (1 : Int)))))) then
 j5 ((subI .i64 (convI .i64 (andI .u64 p3.1 (subI .u64 r1 (1 : Int)))) (subI .i64 a1 a0)), ())
 else
 j5 ((convI .i64 (andI .u64 p3.1 (subI .u64 r1 (1 : Int)))), ())
 else
 Option.map Sum.inr (some ((()), v2.2.1))) ((subI .i64 (addI .i64 a0 (mulI .i64 (quoI .i64 (subI .i64 a1 a0) (4 : Int)) (2 : Int))) (1 : Int)), s, (convI .u64 (subI .i64 a1 a0)), ())
 else
 some ((()), s)
noncomputable def k_slices_breakPatternsCmpFunc_int_c111 : KFun U := .rw 151 3 1 (Ty.i .i64) [.ty (Ty.i .i64), .ty (Ty.i .i64), .clo 111 []] (.many []) fun s a => F_slices_breakPatternsCmpFunc_int_c111 s a.1 a.2.1
theorem e_slices_breakPatternsCmpFunc_int_c111 : rwK K [k_slices_nextPowerOfTwo, k_slices_xorshift_Next] sa_slices_breakPatternsCmpFunc_int_c111 [] 3 1 (Ty.i .i64) [.ty (Ty.i .i64), .ty (Ty.i .i64), .clo 111 []] (.many []) = fun s a => F_slices_breakPatternsCmpFunc_int_c111 s a.1 a.2.1 := by kernel_rfl
theorem s_slices_breakPatternsCmpFunc_int_c111 : KFun.Sound (U := U) Try.prog k_slices_breakPatternsCmpFunc_int_c111 := rwK_sound (K := K) (Γ := [k_slices_nextPowerOfTwo, k_slices_xorshift_Next]) ok_slices_breakPatternsCmpFunc_int_c111 (by kernel_rfl) (by decide) ⟨s_slices_nextPowerOfTwo, s_slices_xorshift_Next, trivial⟩ (fun s a => congrFun (congrFun e_slices_breakPatternsCmpFunc_int_c111 s) a)

/-! ### slices.order2CmpFunc[int] -/
def sa_slices_order2CmpFunc_int_c111 : SA U :=
 (.seq
 (.reg
 (op 10 (.mov (ci 0))
 (op 11 (.mov (ci 0))
 .nil)))
 (.seq
 (.seq
 (.drw [(3, 7), (4, 7), (3, 8), (4, 8)]
 (op 12 (.mov (tm 4))
 (op 13 (.mov (tm 0))
 (op 14 (.mov (tm 2))
 (op 15 (.iaddr 1 (tm 13) (tm 14))
 (op 16 (.load none (tm 15))
 (op 17 (.mov (tm 0))
 (op 18 (.mov (tm 1))
 (op 19 (.iaddr 1 (tm 17) (tm 18))
 (op 20 (.load none (tm 19))
 (op 21 (.callv (tm 12) [(tm 16), (tm 20)])
 (op 22 (.bin .lss (tm 21) (ci 0))
 .nil))))))))))))
 (.cond (tm 22)
 (.seq
 (.reg
 (op 23 (.mov (tm 3))
 (op 24 (.nilck (tm 23))
 (op 25 (.load none (tm 24))
 (op 26 (.bin .add (tm 25) (ci 1))
 (op 27 (.nilck (tm 23))
 (ops (.store 1 (tm 27) (tm 26))
 .nil)))))))
 (.seq
 (.reg
 (op 28 (.mov (tm 2))
 (op 29 (.mov (tm 1))
 (op 10 (.mov (tm 28))
 (op 11 (.mov (tm 29))
 .nil)))))
 .ret))
 .skip))
 (.seq
 (.reg
 (op 30 (.mov (tm 1))
 (op 31 (.mov (tm 2))
 (op 10 (.mov (tm 30))
 (op 11 (.mov (tm 31))
 .nil)))))
 .ret)))
theorem ok_slices_order2CmpFunc_int_c111 : FnOk Try.prog 166 32 (SA.erase sa_slices_order2CmpFunc_int_c111) [.tmp 10, .tmp 11] := ⟨Try.f166, [], Try.func166, rfl, by kernel_rfl, by kernel_rfl, by kernel_rfl⟩
noncomputable def F_slices_order2CmpFunc_int_c111 (s : Int) (a0 : (List Int)) (a1 : Int) (a2 : Int) : Option ((Int × Int × Unit) × Int) :=
 Option.bind (idx a0 a2) fun x1 =>
 Option.bind (idx a0 a1) fun x2 =>
 Option.bind (F_cmp_Compare_int x1 x2) fun r3 =>
 bif (decide (r3 < (0 : Int))) then
 some ((a2, a1, ()), (addI .i64 s (1 : Int)))
 else
 some ((a1, a2, ()), s)
noncomputable def k_slices_order2CmpFunc_int_c111 : KFun U := .rc 166 3 (Ty.i .i64) [.ty (Ty.sl (Ty.i .i64)), .ty (Ty.i .i64), .ty (Ty.i .i64), .clo 111 []] (.many [(Ty.i .i64), (Ty.i .i64)]) fun s a => F_slices_order2CmpFunc_int_c111 s a.1 a.2.1 a.2.2.1
theorem e_slices_order2CmpFunc_int_c111 : rcK K [k_cmp_Compare_int] sa_slices_order2CmpFunc_int_c111 [.tmp 10, .tmp 11] 3 (Ty.i .i64) [.ty (Ty.sl (Ty.i .i64)), .ty (Ty.i .i64), .ty (Ty.i .i64), .clo 111 []] (.many [(Ty.i .i64), (Ty.i .i64)]) = fun s a => F_slices_order2CmpFunc_int_c111 s a.1 a.2.1 a.2.2.1 := by kernel_rfl
theorem s_slices_order2CmpFunc_int_c111 : KFun.Sound (U := U) Try.prog k_slices_order2CmpFunc_int_c111 := rcK_sound (K := K) (Γ := [k_cmp_Compare_int]) ok_slices_order2CmpFunc_int_c111 (by kernel_rfl) (by decide) ⟨s_cmp_Compare_int, trivial⟩ (fun s a => congrFun (congrFun e_slices_order2CmpFunc_int_c111 s) a)

/-! ### slices.medianCmpFunc[int] -/
def sa_slices_medianCmpFunc_int_c111 : SA U :=
 (.seq
 (.reg
 (op 12 (.mov (ci 0))
 .nil))
 (.seq
 (.reg
 (op 14 (.mov (tm 0))
 (op 15 (.mov (tm 1))
 (op 16 (.mov (tm 2))
 (op 17 (.mov (tm 4))
 (op 18 (.mov (tm 5))
 (op 19 (.call 166 [(tm 14), (tm 15), (tm 16), (tm 17), (tm 18)])
 (op 13 (.mov (tm 19))
 (op 20 (.extr 0 (tm 13))
 (op 21 (.extr 1 (tm 13))
 (op 1 (.mov (tm 20))
 (op 2 (.mov (tm 21))
 .nil))))))))))))
 (.seq
 (.reg
 (op 23 (.mov (tm 0))
 (op 24 (.mov (tm 2))
 (op 25 (.mov (tm 3))
 (op 26 (.mov (tm 4))
 (op 27 (.mov (tm 5))
 (op 28 (.call 166 [(tm 23), (tm 24), (tm 25), (tm 26), (tm 27)])
 (op 22 (.mov (tm 28))
 (op 29 (.extr 0 (tm 22))
 (op 30 (.extr 1 (tm 22))
 (op 2 (.mov (tm 29))
 (op 3 (.mov (tm 30))
 .nil))))))))))))
 (.seq
 (.reg
 (op 32 (.mov (tm 0))
 (op 33 (.mov (tm 1))
 (op 34 (.mov (tm 2))
 (op 35 (.mov (tm 4))
 (op 36 (.mov (tm 5))
 (op 37 (.call 166 [(tm 32), (tm 33), (tm 34), (tm 35), (tm 36)])
 (op 31 (.mov (tm 37))
 (op 38 (.extr 0 (tm 31))
 (op 39 (.extr 1 (tm 31))
 (op 1 (.mov (tm 38))
 (op 2 (.mov (tm 39))
 .nil))))))))))))
 (.seq
 (.reg
 (op 40 (.mov (tm 2))
 (op 12 (.mov (tm 40))
 .nil)))
 .ret)))))
theorem ok_slices_medianCmpFunc_int_c111 : FnOk Try.prog 165 41 (SA.erase sa_slices_medianCmpFunc_int_c111) [.tmp 12] := ⟨Try.f165, [], Try.func165, rfl, by kernel_rfl, by kernel_rfl, by kernel_rfl⟩
noncomputable def F_slices_medianCmpFunc_int_c111 (s : Int) (a0 : (List Int)) (a1 : Int) (a2 : Int) (a3 : Int) : Option (Int × Int) :=
 Option.bind (F_slices_order2CmpFunc_int_c111 s a0 a1 a2) fun p1 =>
 Option.bind (F_slices_order2CmpFunc_int_c111 p1.2 a0 p1.1.2.1 a3) fun p2 =>
 Option.bind (F_slices_order2CmpFunc_int_c111 p2.2 a0 p1.1.1 p2.1.1) fun p3 =>
 some (p3.1.2.1, p3.2)
noncomputable def k_slices_medianCmpFunc_int_c111 : KFun U := .rc 165 4 (Ty.i .i64) [.ty (Ty.sl (Ty.i .i64)), .ty (Ty.i .i64), .ty (Ty.i .i64), .ty (Ty.i .i64), .clo 111 []] (.one (Ty.i .i64)) fun s a => F_slices_medianCmpFunc_int_c111 s a.1 a.2.1 a.2.2.1 a.2.2.2.1
theorem e_slices_medianCmpFunc_int_c111 : rcK K [k_slices_order2CmpFunc_int_c111] sa_slices_medianCmpFunc_int_c111 [.tmp 12] 4 (Ty.i .i64) [.ty (Ty.sl (Ty.i .i64)), .ty (Ty.i .i64), .ty (Ty.i .i64), .ty (Ty.i .i64), .clo 111 []] (.one (Ty.i .i64)) = fun s a => F_slices_medianCmpFunc_int_c111 s a.1 a.2.1 a.2.2.1 a.2.2.2.1 := by kernel_rfl
theorem s_slices_medianCmpFunc_int_c111 : KFun.Sound (U := U) Try.prog k_slices_medianCmpFunc_int_c111 := rcK_sound (K := K) (Γ := [k_slices_order2CmpFunc_int_c111]) ok_slices_medianCmpFunc_int_c111 (by kernel_rfl) (by decide) ⟨s_slices_order2CmpFunc_int_c111, trivial⟩ (fun s a => congrFun (congrFun e_slices_medianCmpFunc_int_c111 s) a)

/-! ### slices.medianAdjacentCmpFunc[int] -/
def sa_slices_medianAdjacentCmpFunc_int_c111 : SA U :=
 (.seq
 (.reg
 (op 8 (.mov (ci 0))
 .nil))
 (.seq
 (.reg
 (op 9 (.mov (tm 0))
 (op 10 (.mov (tm 1))
 (op 11 (.bin .sub (tm 10) (ci 1))
 (op 12 (.mov (tm 1))
 (op 13 (.mov (tm 1))
 (op 14 (.bin .add (tm 13) (ci 1))
 (op 15 (.mov (tm 2))
 (op 16 (.mov (tm 3))
 (op 17 (.call 165 [(tm 9), (tm 11), (tm 12), (tm 14), (tm 15), (tm 16)])
 (op 8 (.mov (tm 17))
 .nil)))))))))))
 .ret))
theorem ok_slices_medianAdjacentCmpFunc_int_c111 : FnOk Try.prog 164 18 (SA.erase sa_slices_medianAdjacentCmpFunc_int_c111) [.tmp 8] := ⟨Try.f164, [], Try.func164, rfl, by kernel_rfl, by kernel_rfl, by kernel_rfl⟩
noncomputable def F_slices_medianAdjacentCmpFunc_int_c111 (s : Int) (a0 : (List Int)) (a1 : Int) : Option (Int × Int) :=
 Option.bind (F_slices_medianCmpFunc_int_c111 s a0 (subI .i64 a1 (1 : Int)) a1 (addI .i64 a1 (1 : Int))) fun p1 =>
 some (p1.1, p1.2)
noncomputable def k_slices_medianAdjacentCmpFunc_int_c111 : KFun U := .rc 164 2 (Ty.i .i64) [.ty (Ty.sl (Ty.i .i64)), .ty (Ty.i .i64), .clo 111 []] (.one (Ty.i .i64)) fun s a => F_slices_medianAdjacentCmpFunc_int_c111 s a.1 a.2.1
theorem e_slices_medianAdjacentCmpFunc_int_c111 : rcK K [k_slices_medianCmpFunc_int_c111] sa_slices_medianAdjacentCmpFunc_int_c111 [.tmp 8] 2 (Ty.i .i64) [.ty (Ty.sl (Ty.i .i64)), .ty (Ty.i .i64), .clo 111 []] (.one (Ty.i .i64)) = fun s a => F_slices_medianAdjacentCmpFunc_int_c111 s a.1 a.2.1 := by kernel_rfl
theorem s_slices_medianAdjacentCmpFunc_int_c111 : KFun.Sound (U := U) Try.prog k_slices_medianAdjacentCmpFunc_int_c111 := rcK_sound (K := K) (Γ := [k_slices_medianCmpFunc_int_c111]) ok_slices_medianAdjacentCmpFunc_int_c111 (by kernel_rfl) (by decide) ⟨s_slices_medianCmpFunc_int_c111, trivial⟩ (fun s a => congrFun (congrFun e_slices_medianAdjacentCmpFunc_int_c111 s) a)

/-! ### slices.choosePivotCmpFunc[int] -/
def sa_slices_choosePivotCmpFunc_int_c111 : SA U :=
 (.seq
 (.reg
 (op 8 (.mov (ci 0))
 (op 9 (.mov (ci 0))
 .nil)))
 (.seq
 (.reg
 (op 15 (.mov (tm 2))
 (op 16 (.mov (tm 1))
 (op 17 (.bin .sub (tm 15) (tm 16))
 (op 10 (.mov (tm 17))
 .nil)))))
 (.seq
 (.reg
 (op 11 (.alloc [.int .i64 0])
 .nil))
 (.seq
 (.reg
 (op 18 (.mov (tm 1))
 (op 19 (.mov (tm 10))
 (op 20 (.bin .quo (tm 19) (ci 4))
 (op 21 (.bin .mul (tm 20) (ci 1))
 (op 22 (.bin .add (tm 18) (tm 21))
 (op 12 (.mov (tm 22))
 .nil)))))))
 (.seq
 (.reg
 (op 23 (.mov (tm 1))
 (op 24 (.mov (tm 10))
 (op 25 (.bin .quo (tm 24) (ci 4))
 (op 26 (.bin .mul (tm 25) (ci 2))
 (op 27 (.bin .add (tm 23) (tm 26))
 (op 13 (.mov (tm 27))
 .nil)))))))
 (.seq
 (.reg
 (op 28 (.mov (tm 1))
 (op 29 (.mov (tm 10))
 (op 30 (.bin .quo (tm 29) (ci 4))
 (op 31 (.bin .mul (tm 30) (ci 3))
 (op 32 (.bin .add (tm 28) (tm 31))
 (op 14 (.mov (tm 32))
 .nil)))))))
 (.join ⟨[.val 13 (Ty.i .i64), .box 6 1 (Ty.i .i64) []], [11]⟩
 (.seq
 (.reg
 (op 33 (.mov (tm 10))
 (op 34 (.bin .geq (tm 33) (ci 8))
 .nil)))
 (.cond (tm 34)
 (.join ⟨[.val 12 (Ty.i .i64), .val 13 (Ty.i .i64), .val 14 (Ty.i .i64), .box 6 1 (Ty.i .i64) []], [0, 3, 11]⟩
 (.seq
 (.reg
 (op 35 (.mov (tm 10))
 (op 36 (.bin .geq (tm 35) (ci 50))
 .nil)))
 (.cond (tm 36)
 (.seq
 (.reg
 (op 37 (.mov (tm 0))
 (op 38 (.mov (tm 12))
 (op 39 (.mov (tm 3))
 (op 40 (.call 164 [(tm 37), (tm 38), (tm 11), (tm 39)])
 (op 12 (.mov (tm 40))
 .nil))))))
 (.seq
 (.reg
 (op 41 (.mov (tm 0))
 (op 42 (.mov (tm 13))
 (op 43 (.mov (tm 3))
 (op 44 (.call 164 [(tm 41), (tm 42), (tm 11), (tm 43)])
 (op 13 (.mov (tm 44))
 .nil))))))
 (.reg
 (op 45 (.mov (tm 0))
 (op 46 (.mov (tm 14))
 (op 47 (.mov (tm 3))
 (op 48 (.call 164 [(tm 45), (tm 46), (tm 11), (tm 47)])
 (op 14 (.mov (tm 48))
 .nil))))))))
 .skip))
 (.reg
 (op 49 (.mov (tm 0))
 (op 50 (.mov (tm 12))
 (op 51 (.mov (tm 13))
 (op 52 (.mov (tm 14))
 (op 53 (.mov (tm 3))
 (op 54 (.call 165 [(tm 49), (tm 50), (tm 51), (tm 52), (tm 11), (tm 53)])
 (op 13 (.mov (tm 54))
 .nil)))))))))
 .skip))
 (.seq
 (.reg
 (op 55 (.load none (tm 11))
 .nil))
 (.block 0
 (.seq
 (.reg
 (op 58 (.bin .eql (tm 55) (ci 0))
 (op 57 (.mov (tm 58))
 .nil)))
 (.cond (tm 57)
 (.seq
 (.reg
 (op 59 (.mov (tm 13))
 (op 8 (.mov (tm 59))
 (op 9 (.mov (ci 1))
 .nil))))
 .ret)
 (.seq
 (.reg
 (op 61 (.bin .eql (tm 55) (ci 12))
 (op 60 (.mov (tm 61))
 .nil)))
 (.cond (tm 60)
 (.seq
 (.reg
 (op 62 (.mov (tm 13))
 (op 8 (.mov (tm 62))
 (op 9 (.mov (ci 2))
 .nil))))
 .ret)
 (.seq
 (.reg
 (op 56 (.mov (tm 13))
 (op 8 (.mov (tm 56))
 (op 9 (.mov (ci 0))
 .nil))))
 .ret))))))))))))))
theorem ok_slices_choosePivotCmpFunc_int_c111 : FnOk Try.prog 152 63 (SA.erase sa_slices_choosePivotCmpFunc_int_c111) [.tmp 8, .tmp 9] := ⟨Try.f152, [], Try.func152, rfl, by kernel_rfl, by kernel_rfl, by kernel_rfl⟩
noncomputable def F_slices_choosePivotCmpFunc_int_c111 (a0 : (List Int)) (a1 : Int) (a2 : Int) : Option (Int × Int × Unit) :=
 letJ (fun (v1 : Int × Int × Unit) =>
 bif (decide (v1.2.1 = (0 : Int))) then
 some (v1.1, (1 : Int), ())
 else
 bif (decide (v1.2.1 = (12 : Int))) then
 some (v1.1, (2 : Int), ())
 else
 some (v1.1, (0 : Int), ())) fun j2 =>
 bif (decide ((8 : Int) ≤ (subI .i64 a2 a1))) then
 letJ (fun (v3 : Int × Int × Int × Int × Unit) =>
 Option.bind (F_slices_medianCmpFunc_int_c111 v3.2.2.2.1 a0 v3.1 v3.2.1 v3.2.2.1) fun p5 =>
 j2 (p5.1, p5.2, ())) fun j4 =>
 bif (decide ((50 : Int) ≤ (subI .i64 a2 a1))) then
 Option.bind (F_slices_medianAdjacentCmpFunc_int_c111 (0 : Int) a0 (addI .i64 a1 (mulI .i64 (quoI .i64 (subI .i64 a2 a1) (4 : Int)) (1 : Int)))) fun p6 =>
 Option.bind (F_slices_medianAdjacentCmpFunc_int_c111 p6.2 a0 (addI .i64 a1 (mulI .i64 (quoI .i64 (subI .i64 a2 a1) (4 : Int)) (2 : Int)))) fun p7 =>
 Option.bind (F_slices_medianAdjacentCmpFunc_int_c111 p7.2 a0 (addI .i64 a1 (mulI .i64 (quoI .i64 (subI .i64 a2 a1) (4 : Int)) (3 : Int)))) fun p8 =>
 j4 (p6.1, p7.1, p8.1, p8.2, ())
 else
 j4 ((addI .i64 a1 (mulI .i64 (quoI .i64 (subI .i64 a2 a1) (4 : Int)) (1 : Int))), (addI .i64 a1 (mulI .i64 (quoI .i64 (subI .i64 a2 a1) (4 : Int)) (2 : Int))), (addI .i64 a1 (mulI .i64 (quoI .i64 (subI .i64 a2 a1) (4 : Int)) (3 : Int))), (0 : Int), ())
 else
 j2 ((addI .i64 a1 (mulI .i64 (quoI .i64 (subI .i64 a2 a1) (4 : Int)) (2 : Int))), (0 : Int), ())
noncomputable def k_slices_choosePivotCmpFunc_int_c111 : KFun U := .fn 152 [.ty (Ty.sl (Ty.i .i64)), .ty (Ty.i .i64), .ty (Ty.i .i64), .clo 111 []] (.many [(Ty.i .i64), (Ty.i .i64)]) fun a => F_slices_choosePivotCmpFunc_int_c111 a.1 a.2.1 a.2.2.1
theorem e_slices_choosePivotCmpFunc_int_c111 : fnK K [k_slices_medianAdjacentCmpFunc_int_c111, k_slices_medianCmpFunc_int_c111] sa_slices_choosePivotCmpFunc_int_c111 [.tmp 8, .tmp 9] [.ty (Ty.sl (Ty.i .i64)), .ty (Ty.i .i64), .ty (Ty.i .i64), .clo 111 []] (.many [(Ty.i .i64), (Ty.i .i64)]) = fun a => F_slices_choosePivotCmpFunc_int_c111 a.1 a.2.1 a.2.2.1 := by kernel_rfl
theorem s_slices_choosePivotCmpFunc_int_c111 : KFun.Sound (U := U) Try.prog k_slices_choosePivotCmpFunc_int_c111 := fnK_sound (K := K) (Γ := [k_slices_medianAdjacentCmpFunc_int_c111, k_slices_medianCmpFunc_int_c111]) ok_slices_choosePivotCmpFunc_int_c111 (by kernel_rfl) (by decide) ⟨s_slices_medianAdjacentCmpFunc_int_c111, s_slices_medianCmpFunc_int_c111, trivial⟩ (fun a => congrFun e_slices_choosePivotCmpFunc_int_c111 a)

/-! ### slices.reverseRangeCmpFunc[int] -/
def sa_slices_reverseRangeCmpFunc_int_c111 : SA U :=
 (.seq
 (.reg
 (op 10 (.mov (tm 1))
 (op 8 (.mov (tm 10))
 .nil)))
 (.seq
 (.reg
 (op 11 (.mov (tm 2))
 (op 12 (.bin .sub (tm 11) (ci 1))
 (op 9 (.mov (tm 12))
 .nil))))
 (.block 0
 (.loop ⟨[.val 8 (Ty.i .i64), .val 9 (Ty.i .i64), .own 0 0 0 3 1 (Ty.i .i64)], []⟩
 (.seq
 (.seq
 (.reg
 (op 13 (.mov (tm 8))
 (op 14 (.mov (tm 9))
 (op 15 (.bin .lss (tm 13) (tm 14))
 .nil))))
 (.cond (tm 15)
 .skip
 (.exit 0)))
 (.block 1
 (.seq
 (.drw [(6, 10), (7, 10), (6, 11), (7, 11)]
 (op 16 (.mov (tm 0))
 (op 17 (.mov (tm 8))
 (op 18 (.mov (tm 0))
 (op 19 (.mov (tm 9))
 (op 20 (.mov (tm 0))
 (op 21 (.mov (tm 9))
 (op 22 (.iaddr 1 (tm 20) (tm 21))
 (op 23 (.load none (tm 22))
 (op 24 (.mov (tm 0))
 (op 25 (.mov (tm 8))
 (op 26 (.iaddr 1 (tm 24) (tm 25))
 (op 27 (.load none (tm 26))
 (op 28 (.iaddr 1 (tm 16) (tm 17))
 (ops (.store 1 (tm 28) (tm 23))
 (op 29 (.iaddr 1 (tm 18) (tm 19))
 (ops (.store 1 (tm 29) (tm 27))
 .nil)))))))))))))))))
 (.seq
 (.reg
 (op 30 (.mov (tm 8))
 (op 31 (.bin .add (tm 30) (ci 1))
 (op 8 (.mov (tm 31))
 .nil))))
 (.reg
 (op 32 (.mov (tm 9))
 (op 33 (.bin .sub (tm 32) (ci 1))
 (op 9 (.mov (tm 33))
 .nil))))))))))))
theorem ok_slices_reverseRangeCmpFunc_int_c111 : FnOk Try.prog 153 34 (SA.erase sa_slices_reverseRangeCmpFunc_int_c111) [] := ⟨Try.f153, [], Try.func153, rfl, by kernel_rfl, by kernel_rfl, by kernel_rfl⟩
noncomputable def F_slices_reverseRangeCmpFunc_int_c111 (s : List Int) (a0 : Int) (a1 : Int) : Option ((Unit) × List Int) :=
 loopO (fun (v1 : Int × Int × (List Int) × Unit) =>
 bif (decide (v1.1 < v1.2.1)) then
 Option.bind (idx v1.2.2.1 v1.2.1) fun x2 =>
 Option.bind (v1.2.2.1[(Int.toNat v1.2.1)]?) fun x3 =>
 Option.bind (idx v1.2.2.1 v1.1) fun x4 =>
 Option.bind (v1.2.2.1[(Int.toNat v1.1)]?) fun x5 =>
 Option.bind (idx v1.2.2.1 v1.1) fun x6 =>
 Option.bind (v1.2.2.1[(Int.toNat v1.1)]?) fun x7 =>
 Option.bind (idx (v1.2.2.1.set (Int.toNat v1.1) x3) v1.2.1) fun x8 =>
 Option.bind ((v1.2.2.1.set (Int.toNat v1.1) x3)[(Int.toNat v1.2.1)]?) fun x9 =>
 some (Sum.inl ((addI .i64 v1.1 (1 : Int)), (subI .i64 v1.2.1 (1 : Int)), ((v1.2.2.1.set (Int.toNat v1.1) x3).set (Int.toNat v1.2.1) x5), ()))
 else
 Option.map Sum.inr (some ((()), v1.2.2.1))) (a0, (subI .i64 a1 (1 : Int)), s, ())
noncomputable def k_slices_reverseRangeCmpFunc_int_c111 : KFun U := .rw 153 3 1 (Ty.i .i64) [.ty (Ty.i .i64), .ty (Ty.i .i64), .clo 111 []] (.many []) fun s a => F_slices_reverseRangeCmpFunc_int_c111 s a.1 a.2.1
theorem e_slices_reverseRangeCmpFunc_int_c111 : rwK K [] sa_slices_reverseRangeCmpFunc_int_c111 [] 3 1 (Ty.i .i64) [.ty (Ty.i .i64), .ty (Ty.i .i64), .clo 111 []] (.many []) = fun s a => F_slices_reverseRangeCmpFunc_int_c111 s a.1 a.2.1 := by kernel_rfl
theorem s_slices_reverseRangeCmpFunc_int_c111 : KFun.Sound (U := U) Try.prog k_slices_reverseRangeCmpFunc_int_c111 := rwK_sound (K := K) (Γ := []) ok_slices_reverseRangeCmpFunc_int_c111 (by kernel_rfl) (by decide) trivial (fun s a => congrFun (congrFun e_slices_reverseRangeCmpFunc_int_c111 s) a)

/-! ### slices.partialInsertionSortCmpFunc[int] -/
def sa_slices_partialInsertionSortCmpFunc_int_c111 : SA U :=
 (.seq
 (.reg
 (op 8 (.mov (.cst (.bool false)))
 .nil))
 (.seq
 (.reg
 (op 13 (.mov (tm 1))
 (op 14 (.bin .add (tm 13) (ci 1))
 (op 9 (.mov (tm 14))
 .nil))))
 (.seq
 (.seq
 (.reg
 (op 10 (.mov (ci 0))
 .nil))
 (.block 0
 (.loop ⟨[.val 9 (Ty.i .i64), .val 10 (Ty.i .i64), .own 0 0 0 3 1 (Ty.i .i64)], [1, 2, 3]⟩
 (.seq
 (.seq
 (.reg
 (op 15 (.mov (tm 10))
 (op 16 (.bin .lss (tm 15) (ci 5))
 .nil)))
 (.cond (tm 16)
 .skip
 (.exit 0)))
 (.join ⟨[.val 9 (Ty.i .i64), .own 0 0 0 3 1 (Ty.i .i64)], [1, 2, 3, 10]⟩
 (.block 1
 (.seq
 (.block 2
 (.loop ⟨[.val 9 (Ty.i .i64)], [0, 1, 2, 3, 10]⟩
 (.seq
 (.join ⟨[.val 36 Ty.bool], [0, 1, 2, 3, 9, 10]⟩
 (.drw [(7, 12), (8, 12), (7, 13), (8, 13)]
 (op 19 (.mov (tm 9))
 (op 20 (.mov (tm 2))
 (op 21 (.bin .lss (tm 19) (tm 20))
 (op 22 (.mov (tm 21))
 (.spl 22
 (opg 23 22 true (.mov (tm 3))
 (opg 24 22 true (.mov (tm 0))
 (opg 25 22 true (.mov (tm 9))
 (opg 26 22 true (.iaddr 1 (tm 24) (tm 25))
 (opg 27 22 true (.load none (tm 26))
 (opg 28 22 true (.mov (tm 0))
 (opg 29 22 true (.mov (tm 9))
 (opg 30 22 true (.bin .sub (tm 29) (ci 1))
 (opg 31 22 true (.iaddr 1 (tm 28) (tm 30))
 (opg 32 22 true (.load none (tm 31))
 (opg 33 22 true (.callv (tm 23) [(tm 27), (tm 32)])
 (opg 34 22 true (.bin .lss (tm 33) (ci 0))
 (opg 35 22 true (.not (tm 34))
 (op 36 (.pick (tm 22) (tm 35) (.cst (.bool false)))
 .nil))))))))))))))))))))
 (.cond (tm 36)
 .skip
 (.exit 2)))
 (.block 3
 (.reg
 (op 37 (.mov (tm 9))
 (op 38 (.bin .add (tm 37) (ci 1))
 (op 9 (.mov (tm 38))
 .nil))))))))
 (.seq
 (.seq
 (.reg
 (op 39 (.mov (tm 9))
 (op 40 (.mov (tm 2))
 (op 41 (.bin .eql (tm 39) (tm 40))
 .nil))))
 (.cond (tm 41)
 (.seq
 (.reg
 (op 8 (.mov (.cst (.bool true)))
 .nil))
 .ret)
 .skip))
 (.seq
 (.seq
 (.reg
 (op 42 (.mov (tm 2))
 (op 43 (.mov (tm 1))
 (op 44 (.bin .sub (tm 42) (tm 43))
 (op 45 (.bin .lss (tm 44) (ci 50))
 .nil)))))
 (.cond (tm 45)
 (.seq
 (.reg
 (op 8 (.mov (.cst (.bool false)))
 .nil))
 .ret)
 .skip))
 (.seq
 (.drw [(8, 12), (9, 12), (8, 13), (9, 13)]
 (op 46 (.mov (tm 0))
 (op 47 (.mov (tm 9))
 (op 48 (.mov (tm 0))
 (op 49 (.mov (tm 9))
 (op 50 (.bin .sub (tm 49) (ci 1))
 (op 51 (.mov (tm 0))
 (op 52 (.mov (tm 9))
 (op 53 (.bin .sub (tm 52) (ci 1))
 (op 54 (.iaddr 1 (tm 51) (tm 53))
 (op 55 (.load none (tm 54))
 (op 56 (.mov (tm 0))
 (op 57 (.mov (tm 9))
 (op 58 (.iaddr 1 (tm 56) (tm 57))
 (op 59 (.load none (tm 58))
 (op 60 (.iaddr 1 (tm 46) (tm 47))
 (ops (.store 1 (tm 60) (tm 55))
 (op 61 (.iaddr 1 (tm 48) (tm 50))
 (ops (.store 1 (tm 61) (tm 59))
 .nil)))))))))))))))))))
 (.join ⟨[.own 0 0 0 3 1 (Ty.i .i64)], [1, 2, 3, 9, 10]⟩
 (.seq
 (.reg
 (op 62 (.mov (tm 9))
 (op 63 (.mov (tm 1))
 (op 64 (.bin .sub (tm 62) (tm 63))
 (op 65 (.bin .geq (tm 64) (ci 2))
 .nil)))))
 (.cond (tm 65)
 (.seq
 (.reg
 (op 66 (.mov (tm 9))
 (op 67 (.bin .sub (tm 66) (ci 1))
 (op 11 (.mov (tm 67))
 .nil))))
 (.block 4
 (.loop ⟨[.val 11 (Ty.i .i64), .own 0 0 0 3 1 (Ty.i .i64)], [1, 2, 3, 9, 10]⟩
 (.seq
 (.seq
 (.reg
 (op 68 (.mov (tm 11))
 (op 69 (.bin .geq (tm 68) (ci 1))
 .nil)))
 (.cond (tm 69)
 .skip
 (.exit 4)))
 (.seq
 (.block 5
 (.seq
 (.seq
 (.drw [(3, 8), (4, 8), (3, 9), (4, 9)]
 (op 72 (.mov (tm 3))
 (op 73 (.mov (tm 0))
 (op 74 (.mov (tm 11))
 (op 75 (.iaddr 1 (tm 73) (tm 74))
 (op 76 (.load none (tm 75))
 (op 77 (.mov (tm 0))
 (op 78 (.mov (tm 11))
 (op 79 (.bin .sub (tm 78) (ci 1))
 (op 80 (.iaddr 1 (tm 77) (tm 79))
 (op 81 (.load none (tm 80))
 (op 82 (.callv (tm 72) [(tm 76), (tm 81)])
 (op 83 (.bin .lss (tm 82) (ci 0))
 (op 84 (.not (tm 83))
 .nil))))))))))))))
 (.cond (tm 84)
 (.exit 4)
 .skip))
 (.drw [(8, 12), (9, 12), (8, 13), (9, 13)]
 (op 85 (.mov (tm 0))
 (op 86 (.mov (tm 11))
 (op 87 (.mov (tm 0))
 (op 88 (.mov (tm 11))
 (op 89 (.bin .sub (tm 88) (ci 1))
 (op 90 (.mov (tm 0))
 (op 91 (.mov (tm 11))
 (op 92 (.bin .sub (tm 91) (ci 1))
 (op 93 (.iaddr 1 (tm 90) (tm 92))
 (op 94 (.load none (tm 93))
 (op 95 (.mov (tm 0))
 (op 96 (.mov (tm 11))
 (op 97 (.iaddr 1 (tm 95) (tm 96))
 (op 98 (.load none (tm 97))
 (op 99 (.iaddr 1 (tm 85) (tm 86))
 (ops (.store 1 (tm 99) (tm 94))
 (op 100 (.iaddr 1 (tm 87) (tm 89))
 (ops (.store 1 (tm 100) (tm 98))
 .nil)))))))))))))))))))))
 (.reg
 (op 70 (.mov (tm 11))
 (op 71 (.bin .sub (tm 70) (ci 1))
 (op 11 (.mov (tm 71))
 .nil)))))))))
 .skip))
 (.seq
 (.reg
 (op 101 (.mov (tm 2))
 (op 102 (.mov (tm 9))
 (op 103 (.bin .sub (tm 101) (tm 102))
 (op 104 (.bin .geq (tm 103) (ci 2))
 .nil)))))
 (.cond (tm 104)
 (.seq
 (.reg
 (op 105 (.mov (tm 9))
 (op 106 (.bin .add (tm 105) (ci 1))
 (op 12 (.mov (tm 106))
 .nil))))
 (.block 6
 (.loop ⟨[.val 12 (Ty.i .i64), .own 0 0 0 3 1 (Ty.i .i64)], [1, 2, 3, 9, 10]⟩
 (.seq
 (.seq
 (.reg
 (op 107 (.mov (tm 12))
 (op 108 (.mov (tm 2))
 (op 109 (.bin .lss (tm 107) (tm 108))
 .nil))))
 (.cond (tm 109)
 .skip
 (.exit 6)))
 (.seq
 (.block 7
 (.seq
 (.seq
 (.drw [(3, 8), (4, 8), (3, 9), (4, 9)]
 (op 112 (.mov (tm 3))
 (op 113 (.mov (tm 0))
 (op 114 (.mov (tm 12))
 (op 115 (.iaddr 1 (tm 113) (tm 114))
 (op 116 (.load none (tm 115))
 (op 117 (.mov (tm 0))
 (op 118 (.mov (tm 12))
 (op 119 (.bin .sub (tm 118) (ci 1))
 (op 120 (.iaddr 1 (tm 117) (tm 119))
 (op 121 (.load none (tm 120))
 (op 122 (.callv (tm 112) [(tm 116), (tm 121)])
 (op 123 (.bin .lss (tm 122) (ci 0))
 (op 124 (.not (tm 123))
 .nil))))))))))))))
 (.cond (tm 124)
 (.exit 6)
 .skip))
 (.drw [(8, 12), (9, 12), (8, 13), (9, 13)]
 (op 125 (.mov (tm 0))
 (op 126 (.mov (tm 12))
 (op 127 (.mov (tm 0))
 (op 128 (.mov (tm 12))
 (op 129 (.bin .sub (tm 128) (ci 1))
 (op 130 (.mov (tm 0))
 (op 131 (.mov (tm 12))
 (op 132 (.bin .sub (tm 131) (ci 1))
 (op 133 (.iaddr 1 (tm 130) (tm 132))
 (op 134 (.load none (tm 133))
 (op 135 (.mov (tm 0))
 (op 136 (.mov (tm 12))
 (op 137 (.iaddr 1 (tm 135) (tm 136))
 (op 138 (.load none (tm 137))
 (op 139 (.iaddr 1 (tm 125) (tm 126))
 (ops (.store 1 (tm 139) (tm 134))
 (op 140 (.iaddr 1 (tm 127) (tm 129))
 (ops (.store 1 (tm 140) (tm 138))
 .nil)))))))))))))))))))))
 (.reg
 (op 110 (.mov (tm 12))
 (op 111 (.bin .add (tm 110) (ci 1))
 (op 12 (.mov (tm 111))
 .nil)))))))))
 .skip))))))))
 (.reg
 (op 17 (.mov (tm 10))
 (op 18 (.bin .add (tm 17) (ci 1))
 (op 10 (.mov (tm 18))
 .nil)))))))))
 (.seq
 (.reg
 (op 8 (.mov (.cst (.bool false)))
 .nil))
 .ret))))
theorem ok_slices_partialInsertionSortCmpFunc_int_c111 : FnOk Try.prog 154 141 (SA.erase sa_slices_partialInsertionSortCmpFunc_int_c111) [.tmp 8] := ⟨Try.f154, [], Try.func154, rfl, by kernel_rfl, by kernel_rfl, by kernel_rfl⟩
noncomputable def F_slices_partialInsertionSortCmpFunc_int_c111 (s : List Int) (a0 : Int) (a1 : Int) : Option (Bool × List Int) :=
 loopO (fun (v1 : Int × Int × (List Int) × Unit) =>
 bif (decide (v1.2.1 < (5 : Int))) then
 letJ (fun (v2 : Int × (List Int) × Unit) =>
 some (Sum.inl (v2.1, (addI .i64 v1.2.1 (1 : Int)), v2.2.1, ()))) fun j3 =>
 loopO (fun (v4 : Int × Unit) =>
 letJ (fun (v5 : Bool × Unit) =>
 bif v5.1 then
 some (Sum.inl ((addI .i64 v4.1 (1 : Int)), ()))
 else
 Option.map Sum.inr (bif (decide (v4.1 = a1)) then
 Option.map Sum.inr (some (true, v1.2.2.1))
 else
 bif (decide ((subI .i64 a1 a0) < (50 : Int))) then
 Option.map Sum.inr (some (false, v1.2.2.1))
 else
 Option.bind (idx v1.2.2.1 (subI .i64 v4.1 (1 : Int))) fun x7 =>
 Option.bind (v1.2.2.1[(Int.toNat (subI .i64 v4.1 (1 : Int)))]?) fun x8 =>
 Option.bind (idx v1.2.2.1 v4.1) fun x9 =>
 Option.bind (v1.2.2.1[(Int.toNat v4.1)]?) fun x10 =>
 Option.bind (idx v1.2.2.1 v4.1) fun x11 =>
 Option.bind (v1.2.2.1[(Int.toNat v4.1)]?) fun x12 =>
 Option.bind (idx (v1.2.2.1.set (Int.toNat v4.1) x8) (subI .i64 v4.1 (1 : Int))) fun x13 =>
 Option.bind ((v1.2.2.1.set (Int.toNat v4.1) x8)[(Int.toNat (subI .i64 v4.1 (1 : Int)))]?) fun x14 =>
 letJ (fun (v15 : (List Int) × Unit) =>
 bif (decide ((2 : Int) ≤ (subI .i64 a1 v4.1))) then
 loopO (fun (v17 : Int × (List Int) × Unit) =>
 bif (decide (v17.1 < a1)) then
 Option.bind (idx v17.2.1 v17.1) fun x18 =>
 Option.bind (v17.2.1[(Int.toNat v17.1)]?) fun x19 =>
 Option.bind (idx v17.2.1 (subI .i64 v17.1 (1 : Int))) fun x20 =>
 Option.bind (v17.2.1[(Int.toNat (subI .i64 v17.1 (1 : Int)))]?) fun x21 =>
 Option.bind (F_cmp_Compare_int x19 x21) fun r22 =>
 bif (!(decide (r22 < (0 : Int)))) then
 Option.map Sum.inr (j3 (v4.1, v17.2.1, ()))
 else
 Option.bind (idx v17.2.1 (subI .i64 v17.1 (1 : Int))) fun x23 =>
 Option.bind (v17.2.1[(Int.toNat (subI .i64 v17.1 (1 : Int)))]?) fun x24 =>
 Option.bind (idx v17.2.1 v17.1) fun x25 =>
 Option.bind (v17.2.1[(Int.toNat v17.1)]?) fun x26 =>
 Option.bind (idx v17.2.1 v17.1) fun x27 =>
 Option.bind (v17.2.1[(Int.toNat v17.1)]?) fun x28 =>
 Option.bind (idx (v17.2.1.set (Int.toNat v17.1) x24) (subI .i64 v17.1 (1 : Int))) fun x29 =>
 Option.bind ((v17.2.1.set (Int.toNat v17.1) x24)[(Int.toNat (subI .i64 v17.1 (1 : Int)))]?) fun x30 =>
 some (Sum.inl ((addI .i64 v17.1 (1 : Int)), ((v17.2.1.set (Int.toNat v17.1) x24).set (Int.toNat (subI .i64 v17.1 (1 : Int))) x26), ()))
 else
 Option.map Sum.inr (j3 (v4.1, v17.2.1, ()))) ((addI .i64 v4.1 (1 : Int)), v15.1, ())
 else
 j3 (v4.1, v15.1, ())) fun j16 =>
 bif (decide ((2 : Int) ≤ (subI .i64 v4.1 a0))) then
 loopO (fun (v31 : Int × (List Int) × Unit) =>
 bif (decide ((1 : Int) ≤ v31.1)) then
 Option.bind (idx v31.2.1 v31.1) fun x32 =>
 Option.bind (v31.2.1[(Int.toNat v31.1)]?) fun x33 =>
 Option.bind (idx v31.2.1 (subI .i64 v31.1 (1 : Int))) fun x34 =>
 Option.bind (v31.2.1[(Int.toNat (subI .i64 v31.1 (1 : Int)))]?) fun x35 =>
 Option.bind (F_cmp_Compare_int x33 x35) fun r36 =>
 bif (!(decide (r36 < (0 : Int)))) then
 Option.map Sum.inr (j16 (v31.2.1, ()))
 else
 Option.bind (idx v31.2.1 (subI .i64 v31.1 (1 : Int))) fun x37 =>
 Option.bind (v31.2.1[(Int.toNat (subI .i64 v31.1 (1 : Int)))]?) fun x38 =>
 Option.bind (idx v31.2.1 v31.1) fun x39 =>
 Option.bind (v31.2.1[(Int.toNat v31.1)]?) fun x40 =>
 Option.bind (idx v31.2.1 v31.1) fun x41 =>
 Option.bind (v31.2.1[(Int.toNat v31.1)]?) fun x42 =>
 Option.bind (idx (v31.2.1.set (Int.toNat v31.1) x38) (subI .i64 v31.1 (1 : Int))) fun x43 =>
 Option.bind ((v31.2.1.set (Int.toNat v31.1) x38)[(Int.toNat (subI .i64 v31.1 (1 : Int)))]?) fun x44 =>
 some (Sum.inl ((subI .i64 v31.1 (1 : Int)), ((v31.2.1.set (Int.toNat v31.1) x38).set (Int.toNat (subI .i64 v31.1 (1 : Int))) x40), ()))
 else
 Option.map Sum.inr (j16 (v31.2.1, ()))) ((subI .i64 v4.1 (1 : Int)), ((v1.2.2.1.set (Int.toNat v4.1) x8).set (Int.toNat (subI .i64 v4.1 (1 : Int))) x10), ())
 else
 j16 (((v1.2.2.1.set (Int.toNat v4.1) x8).set (Int.toNat (subI .i64 v4.1 (1 : Int))) x10), ()))) fun j6 =>
 bif (decide (v4.1 < a1)) then
 Option.bind (idx v1.2.2.1 v4.1) fun x45 =>
 Option.bind (v1.2.2.1[(Int.toNat v4.1)]?) fun x46 =>
 Option.bind (idx v1.2.2.1 (subI .i64 v4.1 (1 : Int))) fun x47 =>
 Option.bind (v1.2.2.1[(Int.toNat (subI .i64 v4.1 (1 : Int)))]?) fun x48 =>
 Option.bind (F_cmp_Compare_int x46 x48) fun r49 =>
 j6 ((!(decide (r49 < (0 : Int)))), ())
 else
 j6 (false, ())) (v1.1, ())
 else
 Option.map Sum.inr (some (false, v1.2.2.1))) ((addI .i64 a0 (1 : Int)), (0 : Int), s, ())
noncomputable def k_slices_partialInsertionSortCmpFunc_int_c111 : KFun U := .rw 154 3 1 (Ty.i .i64) [.ty (Ty.i .i64), .ty (Ty.i .i64), .clo 111 []] (.one Ty.bool) fun s a => F_slices_partialInsertionSortCmpFunc_int_c111 s a.1 a.2.1
theorem e_slices_partialInsertionSortCmpFunc_int_c111 : rwK K [k_cmp_Compare_int] sa_slices_partialInsertionSortCmpFunc_int_c111 [.tmp 8] 3 1 (Ty.i .i64) [.ty (Ty.i .i64), .ty (Ty.i .i64), .clo 111 []] (.one Ty.bool) = fun s a => F_slices_partialInsertionSortCmpFunc_int_c111 s a.1 a.2.1 := by kernel_rfl
theorem s_slices_partialInsertionSortCmpFunc_int_c111 : KFun.Sound (U := U) Try.prog k_slices_partialInsertionSortCmpFunc_int_c111 := rwK_sound (K := K) (Γ := [k_cmp_Compare_int]) ok_slices_partialInsertionSortCmpFunc_int_c111 (by kernel_rfl) (by decide) ⟨s_cmp_Compare_int, trivial⟩ (fun s a => congrFun (congrFun e_slices_partialInsertionSortCmpFunc_int_c111 s) a)

/-! ### slices.partitionEqualCmpFunc[int] -/
def sa_slices_partitionEqualCmpFunc_int_c111 : SA U :=
 (.seq
 (.reg
 (op 10 (.mov (ci 0))
 .nil))
 (.seq
 (.drw [(6, 10), (7, 10), (6, 11), (7, 11)]
 (op 13 (.mov (tm 0))
 (op 14 (.mov (tm 1))
 (op 15 (.mov (tm 0))
 (op 16 (.mov (tm 3))
 (op 17 (.mov (tm 0))
 (op 18 (.mov (tm 3))
 (op 19 (.iaddr 1 (tm 17) (tm 18))
 (op 20 (.load none (tm 19))
 (op 21 (.mov (tm 0))
 (op 22 (.mov (tm 1))
 (op 23 (.iaddr 1 (tm 21) (tm 22))
 (op 24 (.load none (tm 23))
 (op 25 (.iaddr 1 (tm 13) (tm 14))
 (ops (.store 1 (tm 25) (tm 20))
 (op 26 (.iaddr 1 (tm 15) (tm 16))
 (ops (.store 1 (tm 26) (tm 24))
 .nil)))))))))))))))))
 (.seq
 (.reg
 (op 27 (.mov (tm 1))
 (op 28 (.bin .add (tm 27) (ci 1))
 (op 29 (.mov (tm 2))
 (op 30 (.bin .sub (tm 29) (ci 1))
 (op 11 (.mov (tm 28))
 (op 12 (.mov (tm 30))
 .nil)))))))
 (.seq
 (.block 0
 (.loop ⟨[.val 11 (Ty.i .i64), .val 12 (Ty.i .i64), .own 0 0 0 3 1 (Ty.i .i64)], [1, 4]⟩
 (.block 1
 (.seq
 (.block 2
 (.loop ⟨[.val 11 (Ty.i .i64)], [0, 1, 4, 12]⟩
 (.seq
 (.join ⟨[.val 47 Ty.bool], [0, 1, 4, 11, 12]⟩
 (.drw [(7, 11), (8, 11), (7, 12), (8, 12)]
 (op 31 (.mov (tm 11))
 (op 32 (.mov (tm 12))
 (op 33 (.bin .leq (tm 31) (tm 32))
 (op 34 (.mov (tm 33))
 (.spl 34
 (opg 35 34 true (.mov (tm 4))
 (opg 36 34 true (.mov (tm 0))
 (opg 37 34 true (.mov (tm 1))
 (opg 38 34 true (.iaddr 1 (tm 36) (tm 37))
 (opg 39 34 true (.load none (tm 38))
 (opg 40 34 true (.mov (tm 0))
 (opg 41 34 true (.mov (tm 11))
 (opg 42 34 true (.iaddr 1 (tm 40) (tm 41))
 (opg 43 34 true (.load none (tm 42))
 (opg 44 34 true (.callv (tm 35) [(tm 39), (tm 43)])
 (opg 45 34 true (.bin .lss (tm 44) (ci 0))
 (opg 46 34 true (.not (tm 45))
 (op 47 (.pick (tm 34) (tm 46) (.cst (.bool false)))
 .nil)))))))))))))))))))
 (.cond (tm 47)
 .skip
 (.exit 2)))
 (.block 3
 (.reg
 (op 48 (.mov (tm 11))
 (op 49 (.bin .add (tm 48) (ci 1))
 (op 11 (.mov (tm 49))
 .nil))))))))
 (.seq
 (.block 4
 (.loop ⟨[.val 12 (Ty.i .i64)], [0, 1, 4, 11]⟩
 (.seq
 (.join ⟨[.val 65 Ty.bool], [0, 1, 4, 11, 12]⟩
 (.drw [(7, 11), (8, 11), (7, 12), (8, 12)]
 (op 50 (.mov (tm 11))
 (op 51 (.mov (tm 12))
 (op 52 (.bin .leq (tm 50) (tm 51))
 (op 53 (.mov (tm 52))
 (.spl 53
 (opg 54 53 true (.mov (tm 4))
 (opg 55 53 true (.mov (tm 0))
 (opg 56 53 true (.mov (tm 1))
 (opg 57 53 true (.iaddr 1 (tm 55) (tm 56))
 (opg 58 53 true (.load none (tm 57))
 (opg 59 53 true (.mov (tm 0))
 (opg 60 53 true (.mov (tm 12))
 (opg 61 53 true (.iaddr 1 (tm 59) (tm 60))
 (opg 62 53 true (.load none (tm 61))
 (opg 63 53 true (.callv (tm 54) [(tm 58), (tm 62)])
 (opg 64 53 true (.bin .lss (tm 63) (ci 0))
 (op 65 (.pick (tm 53) (tm 64) (.cst (.bool false)))
 .nil))))))))))))))))))
 (.cond (tm 65)
 .skip
 (.exit 4)))
 (.block 5
 (.reg
 (op 66 (.mov (tm 12))
 (op 67 (.bin .sub (tm 66) (ci 1))
 (op 12 (.mov (tm 67))
 .nil))))))))
 (.seq
 (.seq
 (.reg
 (op 68 (.mov (tm 11))
 (op 69 (.mov (tm 12))
 (op 70 (.bin .gtr (tm 68) (tm 69))
 .nil))))
 (.cond (tm 70)
 (.exit 0)
 .skip))
 (.seq
 (.drw [(6, 10), (7, 10), (6, 11), (7, 11)]
 (op 71 (.mov (tm 0))
 (op 72 (.mov (tm 11))
 (op 73 (.mov (tm 0))
 (op 74 (.mov (tm 12))
 (op 75 (.mov (tm 0))
 (op 76 (.mov (tm 12))
 (op 77 (.iaddr 1 (tm 75) (tm 76))
 (op 78 (.load none (tm 77))
 (op 79 (.mov (tm 0))
 (op 80 (.mov (tm 11))
 (op 81 (.iaddr 1 (tm 79) (tm 80))
 (op 82 (.load none (tm 81))
 (op 83 (.iaddr 1 (tm 71) (tm 72))
 (ops (.store 1 (tm 83) (tm 78))
 (op 84 (.iaddr 1 (tm 73) (tm 74))
 (ops (.store 1 (tm 84) (tm 82))
 .nil)))))))))))))))))
 (.seq
 (.reg
 (op 85 (.mov (tm 11))
 (op 86 (.bin .add (tm 85) (ci 1))
 (op 11 (.mov (tm 86))
 .nil))))
 (.reg
 (op 87 (.mov (tm 12))
 (op 88 (.bin .sub (tm 87) (ci 1))
 (op 12 (.mov (tm 88))
 .nil))))))))))))
 (.seq
 (.reg
 (op 89 (.mov (tm 11))
 (op 10 (.mov (tm 89))
 .nil)))
 .ret)))))
theorem ok_slices_partitionEqualCmpFunc_int_c111 : FnOk Try.prog 155 90 (SA.erase sa_slices_partitionEqualCmpFunc_int_c111) [.tmp 10] := ⟨Try.f155, [], Try.func155, rfl, by kernel_rfl, by kernel_rfl, by kernel_rfl⟩
noncomputable def F_slices_partitionEqualCmpFunc_int_c111 (s : List Int) (a0 : Int) (a1 : Int) (a2 : Int) : Option (Int × List Int) :=
 Option.bind (idx s a2) fun x1 =>
 Option.bind (s[(Int.toNat a2)]?) fun x2 =>
 Option.bind (idx s a0) fun x3 =>
 Option.bind (s[(Int.toNat a0)]?) fun x4 =>
 Option.bind (idx s a0) fun x5 =>
 Option.bind (s[(Int.toNat a0)]?) fun x6 =>
 Option.bind (idx (s.set (Int.toNat a0) x2) a2) fun x7 =>
 Option.bind ((s.set (Int.toNat a0) x2)[(Int.toNat a2)]?) fun x8 =>
 loopO (fun (v9 : Int × Int × (List Int) × Unit) =>
 loopO (fun (v10 : Int × Unit) =>
 letJ (fun (v11 : Bool × Unit) =>
 bif v11.1 then
 some (Sum.inl ((addI .i64 v10.1 (1 : Int)), ()))
 else
 Option.map Sum.inr (loopO (fun (v13 : Int × Unit) =>
 letJ (fun (v14 : Bool × Unit) =>
 bif v14.1 then
 some (Sum.inl ((subI .i64 v13.1 (1 : Int)), ()))
 else
 Option.map Sum.inr (bif (decide (v13.1 < v10.1)) then
 Option.map Sum.inr (some (v10.1, v9.2.2.1))
 else
 Option.bind (idx v9.2.2.1 v13.1) fun x16 =>
 Option.bind (v9.2.2.1[(Int.toNat v13.1)]?) fun x17 =>
 Option.bind (idx v9.2.2.1 v10.1) fun x18 =>
 Option.bind (v9.2.2.1[(Int.toNat v10.1)]?) fun x19 =>
 Option.bind (idx v9.2.2.1 v10.1) fun x20 =>
 Option.bind (v9.2.2.1[(Int.toNat v10.1)]?) fun x21 =>
 Option.bind (idx (v9.2.2.1.set (Int.toNat v10.1) x17) v13.1) fun x22 =>
 Option.bind ((v9.2.2.1.set (Int.toNat v10.1) x17)[(Int.toNat v13.1)]?) fun x23 =>
 some (Sum.inl ((addI .i64 v10.1 (1 : Int)), (subI .i64 v13.1 (1 : Int)), ((v9.2.2.1.set (Int.toNat v10.1) x17).set (Int.toNat v13.1) x19), ())))) fun j15 =>
 bif (decide (v10.1 ≤ v13.1)) then
 Option.bind (idx v9.2.2.1 a0) fun x24 =>
 Option.bind (v9.2.2.1[(Int.toNat a0)]?) fun x25 =>
 Option.bind (idx v9.2.2.1 v13.1) fun x26 =>
 Option.bind (v9.2.2.1[(Int.toNat v13.1)]?) fun x27 =>
 Option.bind (F_cmp_Compare_int x25 x27) fun r28 =>
 j15 ((decide (r28 < (0 : Int))), ())
 else
 j15 (false, ())) (v9.2.1, ()))) fun j12 =>
 bif (decide (v10.1 ≤ v9.2.1)) then
 Option.bind (idx v9.2.2.1 a0) fun x29 =>
 Option.bind (v9.2.2.1[(Int.toNat a0)]?) fun x30 =>
 Option.bind (idx v9.2.2.1 v10.1) fun x31 =>
 Option.bind (v9.2.2.1[(Int.toNat v10.1)]?) fun x32 =>
 Option.bind (F_cmp_Compare_int x30 x32) fun r33 =>
 j12 ((!(decide (r33 < (0 : Int)))), ())
 else
 j12 (false, ())) (v9.1, ())) ((addI .i64 a0 (1 : Int)), (subI .i64 a1 (1 : Int)), ((s.set (Int.toNat a0) x2).set (Int.toNat a2) x4), ())
noncomputable def k_slices_partitionEqualCmpFunc_int_c111 : KFun U := .rw 155 3 1 (Ty.i .i64) [.ty (Ty.i .i64), .ty (Ty.i .i64), .ty (Ty.i .i64), .clo 111 []] (.one (Ty.i .i64)) fun s a => F_slices_partitionEqualCmpFunc_int_c111 s a.1 a.2.1 a.2.2.1
theorem e_slices_partitionEqualCmpFunc_int_c111 : rwK K [k_cmp_Compare_int] sa_slices_partitionEqualCmpFunc_int_c111 [.tmp 10] 3 1 (Ty.i .i64) [.ty (Ty.i .i64), .ty (Ty.i .i64), .ty (Ty.i .i64), .clo 111 []] (.one (Ty.i .i64)) = fun s a => F_slices_partitionEqualCmpFunc_int_c111 s a.1 a.2.1 a.2.2.1 := by kernel_rfl
theorem s_slices_partitionEqualCmpFunc_int_c111 : KFun.Sound (U := U) Try.prog k_slices_partitionEqualCmpFunc_int_c111 := rwK_sound (K := K) (Γ := [k_cmp_Compare_int]) ok_slices_partitionEqualCmpFunc_int_c111 (by kernel_rfl) (by decide) ⟨s_cmp_Compare_int, trivial⟩ (fun s a => congrFun (congrFun e_slices_partitionEqualCmpFunc_int_c111 s) a)

/-! ### slices.partitionCmpFunc[int] -/
def sa_slices_partitionCmpFunc_int_c111 : SA U :=
 (.seq
 (.reg
 (op 10 (.mov (ci 0))
 (op 11 (.mov (.cst (.bool false)))
 .nil)))
 (.seq
 (.drw [(6, 10), (7, 10), (6, 11), (7, 11)]
 (op 14 (.mov (tm 0))
 (op 15 (.mov (tm 1))
 (op 16 (.mov (tm 0))
 (op 17 (.mov (tm 3))
 (op 18 (.mov (tm 0))
 (op 19 (.mov (tm 3))
 (op 20 (.iaddr 1 (tm 18) (tm 19))
 (op 21 (.load none (tm 20))
 (op 22 (.mov (tm 0))
 (op 23 (.mov (tm 1))
 (op 24 (.iaddr 1 (tm 22) (tm 23))
 (op 25 (.load none (tm 24))
 (op 26 (.iaddr 1 (tm 14) (tm 15))
 (ops (.store 1 (tm 26) (tm 21))
 (op 27 (.iaddr 1 (tm 16) (tm 17))
 (ops (.store 1 (tm 27) (tm 25))
 .nil)))))))))))))))))
 (.seq
 (.reg
 (op 28 (.mov (tm 1))
 (op 29 (.bin .add (tm 28) (ci 1))
 (op 30 (.mov (tm 2))
 (op 31 (.bin .sub (tm 30) (ci 1))
 (op 12 (.mov (tm 29))
 (op 13 (.mov (tm 31))
 .nil)))))))
 (.seq
 (.block 0
 (.loop ⟨[.val 12 (Ty.i .i64)], [0, 1, 4, 13]⟩
 (.seq
 (.join ⟨[.val 47 Ty.bool], [0, 1, 4, 12, 13]⟩
 (.drw [(7, 11), (8, 11), (7, 12), (8, 12)]
 (op 32 (.mov (tm 12))
 (op 33 (.mov (tm 13))
 (op 34 (.bin .leq (tm 32) (tm 33))
 (op 35 (.mov (tm 34))
 (.spl 35
 (opg 36 35 true (.mov (tm 4))
 (opg 37 35 true (.mov (tm 0))
 (opg 38 35 true (.mov (tm 12))
 (opg 39 35 true (.iaddr 1 (tm 37) (tm 38))
 (opg 40 35 true (.load none (tm 39))
 (opg 41 35 true (.mov (tm 0))
 (opg 42 35 true (.mov (tm 1))
 (opg 43 35 true (.iaddr 1 (tm 41) (tm 42))
 (opg 44 35 true (.load none (tm 43))
 (opg 45 35 true (.callv (tm 36) [(tm 40), (tm 44)])
 (opg 46 35 true (.bin .lss (tm 45) (ci 0))
 (op 47 (.pick (tm 35) (tm 46) (.cst (.bool false)))
 .nil))))))))))))))))))
 (.cond (tm 47)
 .skip
 (.exit 0)))
 (.block 1
 (.reg
 (op 48 (.mov (tm 12))
 (op 49 (.bin .add (tm 48) (ci 1))
 (op 12 (.mov (tm 49))
 .nil))))))))
 (.seq
 (.block 2
 (.loop ⟨[.val 13 (Ty.i .i64)], [0, 1, 4, 12]⟩
 (.seq
 (.join ⟨[.val 66 Ty.bool], [0, 1, 4, 12, 13]⟩
 (.drw [(7, 11), (8, 11), (7, 12), (8, 12)]
 (op 50 (.mov (tm 12))
 (op 51 (.mov (tm 13))
 (op 52 (.bin .leq (tm 50) (tm 51))
 (op 53 (.mov (tm 52))
 (.spl 53
 (opg 54 53 true (.mov (tm 4))
 (opg 55 53 true (.mov (tm 0))
 (opg 56 53 true (.mov (tm 13))
 (opg 57 53 true (.iaddr 1 (tm 55) (tm 56))
 (opg 58 53 true (.load none (tm 57))
 (opg 59 53 true (.mov (tm 0))
 (opg 60 53 true (.mov (tm 1))
 (opg 61 53 true (.iaddr 1 (tm 59) (tm 60))
 (opg 62 53 true (.load none (tm 61))
 (opg 63 53 true (.callv (tm 54) [(tm 58), (tm 62)])
 (opg 64 53 true (.bin .lss (tm 63) (ci 0))
 (opg 65 53 true (.not (tm 64))
 (op 66 (.pick (tm 53) (tm 65) (.cst (.bool false)))
 .nil)))))))))))))))))))
 (.cond (tm 66)
 .skip
 (.exit 2)))
 (.block 3
 (.reg
 (op 67 (.mov (tm 13))
 (op 68 (.bin .sub (tm 67) (ci 1))
 (op 13 (.mov (tm 68))
 .nil))))))))
 (.seq
 (.seq
 (.reg
 (op 69 (.mov (tm 12))
 (op 70 (.mov (tm 13))
 (op 71 (.bin .gtr (tm 69) (tm 70))
 .nil))))
 (.cond (tm 71)
 (.seq
 (.drw [(6, 10), (7, 10), (6, 11), (7, 11)]
 (op 72 (.mov (tm 0))
 (op 73 (.mov (tm 13))
 (op 74 (.mov (tm 0))
 (op 75 (.mov (tm 1))
 (op 76 (.mov (tm 0))
 (op 77 (.mov (tm 1))
 (op 78 (.iaddr 1 (tm 76) (tm 77))
 (op 79 (.load none (tm 78))
 (op 80 (.mov (tm 0))
 (op 81 (.mov (tm 13))
 (op 82 (.iaddr 1 (tm 80) (tm 81))
 (op 83 (.load none (tm 82))
 (op 84 (.iaddr 1 (tm 72) (tm 73))
 (ops (.store 1 (tm 84) (tm 79))
 (op 85 (.iaddr 1 (tm 74) (tm 75))
 (ops (.store 1 (tm 85) (tm 83))
 .nil)))))))))))))))))
 (.seq
 (.reg
 (op 86 (.mov (tm 13))
 (op 10 (.mov (tm 86))
 (op 11 (.mov (.cst (.bool true)))
 .nil))))
 .ret))
 .skip))
 (.seq
 (.drw [(6, 10), (7, 10), (6, 11), (7, 11)]
 (op 87 (.mov (tm 0))
 (op 88 (.mov (tm 12))
 (op 89 (.mov (tm 0))
 (op 90 (.mov (tm 13))
 (op 91 (.mov (tm 0))
 (op 92 (.mov (tm 13))
 (op 93 (.iaddr 1 (tm 91) (tm 92))
 (op 94 (.load none (tm 93))
 (op 95 (.mov (tm 0))
 (op 96 (.mov (tm 12))
 (op 97 (.iaddr 1 (tm 95) (tm 96))
 (op 98 (.load none (tm 97))
 (op 99 (.iaddr 1 (tm 87) (tm 88))
 (ops (.store 1 (tm 99) (tm 94))
 (op 100 (.iaddr 1 (tm 89) (tm 90))
 (ops (.store 1 (tm 100) (tm 98))
 .nil)))))))))))))))))
 (.seq
 (.reg
 (op 101 (.mov (tm 12))
 (op 102 (.bin .add (tm 101) (ci 1))
 (op 12 (.mov (tm 102))
 .nil))))
 (.seq
 (.reg
 (op 103 (.mov (tm 13))
 (op 104 (.bin .sub (tm 103) (ci 1))
 (op 13 (.mov (tm 104))
 .nil))))
 (.seq
 (.block 4
 (.loop ⟨[.val 12 (Ty.i .i64), .val 13 (Ty.i .i64), .own 0 0 0 3 1 (Ty.i .i64)], [1, 4]⟩
 (.block 5
 (.seq
 (.block 6
 (.loop ⟨[.val 12 (Ty.i .i64)], [0, 1, 4, 13]⟩
 (.seq
 (.join ⟨[.val 120 Ty.bool], [0, 1, 4, 12, 13]⟩
 (.drw [(7, 11), (8, 11), (7, 12), (8, 12)]
 (op 105 (.mov (tm 12))
 (op 106 (.mov (tm 13))
 (op 107 (.bin .leq (tm 105) (tm 106))
 (op 108 (.mov (tm 107))
 (.spl 108
 (opg 109 108 true (.mov (tm 4))
 (opg 110 108 true (.mov (tm 0))
 (opg 111 108 true (.mov (tm 12))
 (opg 112 108 true (.iaddr 1 (tm 110) (tm 111))
 (opg 113 108 true (.load none (tm 112))
 (opg 114 108 true (.mov (tm 0))
 (opg 115 108 true (.mov (tm 1))
 (opg 116 108 true (.iaddr 1 (tm 114) (tm 115))
 (opg 117 108 true (.load none (tm 116))
 (opg 118 108 true (.callv (tm 109) [(tm 113), (tm 117)])
 (opg 119 108 true (.bin .lss (tm 118) (ci 0))
 (op 120 (.pick (tm 108) (tm 119) (.cst (.bool false)))
 .nil))))))))))))))))))
 (.cond (tm 120)
 .skip
 (.exit 6)))
 (.block 7
 (.reg
 (op 121 (.mov (tm 12))
 (op 122 (.bin .add (tm 121) (ci 1))
 (op 12 (.mov (tm 122))
 .nil))))))))
 (.seq
 (.block 8
 (.loop ⟨[.val 13 (Ty.i .i64)], [0, 1, 4, 12]⟩
 (.seq
 (.join ⟨[.val 139 Ty.bool], [0, 1, 4, 12, 13]⟩
 (.drw [(7, 11), (8, 11), (7, 12), (8, 12)]
 (op 123 (.mov (tm 12))
 (op 124 (.mov (tm 13))
 (op 125 (.bin .leq (tm 123) (tm 124))
 (op 126 (.mov (tm 125))
 (.spl 126
 (opg 127 126 true (.mov (tm 4))
 (opg 128 126 true (.mov (tm 0))
 (opg 129 126 true (.mov (tm 13))
 (opg 130 126 true (.iaddr 1 (tm 128) (tm 129))
 (opg 131 126 true (.load none (tm 130))
 (opg 132 126 true (.mov (tm 0))
 (opg 133 126 true (.mov (tm 1))
 (opg 134 126 true (.iaddr 1 (tm 132) (tm 133))
 (opg 135 126 true (.load none (tm 134))
 (opg 136 126 true (.callv (tm 127) [(tm 131), (tm 135)])
 (opg 137 126 true (.bin .lss (tm 136) (ci 0))
 (opg 138 126 true (.not (tm 137))
 (op 139 (.pick (tm 126) (tm 138) (.cst (.bool false)))
 .nil)))))))))))))))))))
 (.cond (tm 139)
 .skip
 (.exit 8)))
 (.block 9
 (.reg
 (op 140 (.mov (tm 13))
 (op 141 (.bin .sub (tm 140) (ci 1))
 (op 13 (.mov (tm 141))
 .nil))))))))
 (.seq
 (.seq
 (.reg
 (op 142 (.mov (tm 12))
 (op 143 (.mov (tm 13))
 (op 144 (.bin .gtr (tm 142) (tm 143))
 .nil))))
 (.cond (tm 144)
 (.exit 4)
 .skip))
 (.seq
 (.drw [(6, 10), (7, 10), (6, 11), (7, 11)]
 (op 145 (.mov (tm 0))
 (op 146 (.mov (tm 12))
 (op 147 (.mov (tm 0))
 (op 148 (.mov (tm 13))
 (op 149 (.mov (tm 0))
 (op 150 (.mov (tm 13))
 (op 151 (.iaddr 1 (tm 149) (tm 150))
 (op 152 (.load none (tm 151))
 (op 153 (.mov (tm 0))
 (op 154 (.mov (tm 12))
 (op 155 (.iaddr 1 (tm 153) (tm 154))
 (op 156 (.load none (tm 155))
 (op 157 (.iaddr 1 (tm 145) (tm 146))
 (ops (.store 1 (tm 157) (tm 152))
 (op 158 (.iaddr 1 (tm 147) (tm 148))
 (ops (.store 1 (tm 158) (tm 156))
 .nil)))))))))))))))))
 (.seq
 (.reg
 (op 159 (.mov (tm 12))
 (op 160 (.bin .add (tm 159) (ci 1))
 (op 12 (.mov (tm 160))
 .nil))))
 (.reg
 (op 161 (.mov (tm 13))
 (op 162 (.bin .sub (tm 161) (ci 1))
 (op 13 (.mov (tm 162))
 .nil))))))))))))
 (.seq
 (.drw [(6, 10), (7, 10), (6, 11), (7, 11)]
 (op 163 (.mov (tm 0))
 (op 164 (.mov (tm 13))
 (op 165 (.mov (tm 0))
 (op 166 (.mov (tm 1))
 (op 167 (.mov (tm 0))
 (op 168 (.mov (tm 1))
 (op 169 (.iaddr 1 (tm 167) (tm 168))
 (op 170 (.load none (tm 169))
 (op 171 (.mov (tm 0))
 (op 172 (.mov (tm 13))
 (op 173 (.iaddr 1 (tm 171) (tm 172))
 (op 174 (.load none (tm 173))
 (op 175 (.iaddr 1 (tm 163) (tm 164))
 (ops (.store 1 (tm 175) (tm 170))
 (op 176 (.iaddr 1 (tm 165) (tm 166))
 (ops (.store 1 (tm 176) (tm 174))
 .nil)))))))))))))))))
 (.seq
 (.reg
 (op 177 (.mov (tm 13))
 (op 10 (.mov (tm 177))
 (op 11 (.mov (.cst (.bool false)))
 .nil))))
 .ret))))))))))))
theorem ok_slices_partitionCmpFunc_int_c111 : FnOk Try.prog 156 178 (SA.erase sa_slices_partitionCmpFunc_int_c111) [.tmp 10, .tmp 11] := ⟨Try.f156, [], Try.func156, rfl, by kernel_rfl, by kernel_rfl, by kernel_rfl⟩
noncomputable def F_slices_partitionCmpFunc_int_c111 (s : List Int) (a0 : Int) (a1 : Int) (a2 : Int) : Option ((Int × Bool × Unit) × List Int) :=
 Option.bind (idx s a2) fun x1 =>
 Option.bind (s[(Int.toNat a2)]?) fun x2 =>
 Option.bind (idx s a0) fun x3 =>
 Option.bind (s[(Int.toNat a0)]?) fun x4 =>
 Option.bind (idx s a0) fun x5 =>
 Option.bind (s[(Int.toNat a0)]?) fun x6 =>
 Option.bind (idx (s.set (Int.toNat a0) x2) a2) fun x7 =>
 Option.bind ((s.set (Int.toNat a0) x2)[(Int.toNat a2)]?) fun x8 =>
 loopO (fun (v9 : Int × Unit) =>
 letJ (fun (v10 : Bool × Unit) =>
 bif v10.1 then
 some (Sum.inl ((addI .i64 v9.1 (1 : Int)), ()))
 else
 Option.map Sum.inr (loopO (fun (v12 : Int × Unit) =>
 letJ (fun (v13 : Bool × Unit) =>
 bif v13.1 then
 some (Sum.inl ((subI .i64 v12.1 (1 : Int)), ()))
 else
 Option.map Sum.inr (bif (decide (v12.1 < v9.1)) then
 Option.bind (idx ((s.set (Int.toNat a0) x2).set (Int.toNat a2) x4) a0) fun x15 =>
 Option.bind (((s.set (Int.toNat a0) x2).set (Int.toNat a2) x4)[(Int.toNat a0)]?) fun x16 =>
 Option.bind (idx ((s.set (Int.toNat a0) x2).set (Int.toNat a2) x4) v12.1) fun x17 =>
 Option.bind (((s.set (Int.toNat a0) x2).set (Int.toNat a2) x4)[(Int.toNat v12.1)]?) fun x18 =>
 Option.bind (idx ((s.set (Int.toNat a0) x2).set (Int.toNat a2) x4) v12.1) fun x19 =>
 Option.bind (((s.set (Int.toNat a0) x2).set (Int.toNat a2) x4)[(Int.toNat v12.1)]?) fun x20 =>
 Option.bind (idx (((s.set (Int.toNat a0) x2).set (Int.toNat a2) x4).set (Int.toNat v12.1) x16) a0) fun x21 =>
 Option.bind ((((s.set (Int.toNat a0) x2).set (Int.toNat a2) x4).set (Int.toNat v12.1) x16)[(Int.toNat a0)]?) fun x22 =>
 some ((v12.1, true, ()), ((((s.set (Int.toNat a0) x2).set (Int.toNat a2) x4).set (Int.toNat v12.1) x16).set (Int.toNat a0) x18))
 else
 Option.bind (idx ((s.set (Int.toNat a0) x2).set (Int.toNat a2) x4) v12.1) fun x23 =>
 Option.bind (((s.set (Int.toNat a0) x2).set (Int.toNat a2) x4)[(Int.toNat v12.1)]?) fun x24 =>
 Option.bind (idx ((s.set (Int.toNat a0) x2).set (Int.toNat a2) x4) v9.1) fun x25 =>
 Option.bind (((s.set (Int.toNat a0) x2).set (Int.toNat a2) x4)[(Int.toNat v9.1)]?) fun x26 =>
 Option.bind (idx ((s.set (Int.toNat a0) x2).set (Int.toNat a2) x4) v9.1) fun x27 =>
 Option.bind (((s.set (Int.toNat a0) x2).set (Int.toNat a2) x4)[(Int.toNat v9.1)]?) fun x28 =>
 Option.bind (idx (((s.set (Int.toNat a0) x2).set (Int.toNat a2) x4).set (Int.toNat v9.1) x24) v12.1) fun x29 =>
 Option.bind ((((s.set (Int.toNat a0) x2).set (Int.toNat a2) x4).set (Int.toNat v9.1) x24)[(Int.toNat v12.1)]?) fun x30 =>
 loopO (fun (v31 : Int × Int × (List Int) × Unit) =>
 loopO (fun (v32 : Int × Unit) =>
 letJ (fun (v33 : Bool × Unit) =>
 bif v33.1 then
 some (Sum.inl ((addI .i64 v32.1 (1 : Int)), ()))
 else
 Option.map Sum.inr (loopO (fun (v35 : Int × Unit) =>
 letJ (fun (v36 : Bool × Unit) =>
 bif v36.1 then
 some (Sum.inl ((subI .i64 v35.1 (1 : Int)), ()))
 else
 Option.map Sum.inr (bif (decide (v35.1 < v32.1)) then
 Option.map Sum.inr (Option.bind (idx v31.2.2.1 a0) fun x38 =>
 Option.bind (v31.2.2.1[(Int.toNat a0)]?) fun x39 =>
 Option.bind (idx v31.2.2.1 v35.1) fun x40 =>
 Option.bind (v31.2.2.1[(Int.toNat v35.1)]?) fun x41 =>
 Option.bind (idx v31.2.2.1 v35.1) fun x42 =>
 Option.bind (v31.2.2.1[(Int.toNat v35.1)]?) fun x43 =>
 Option.bind (idx (v31.2.2.1.set (Int.toNat v35.1) x39) a0) fun x44 =>
 Option.bind ((v31.2.2.1.set (Int.toNat v35.1) x39)[(Int.toNat a0)]?) fun x45 =>
 some ((v35.1, false, ()), ((v31.2.2.1.set (Int.toNat v35.1) x39).set (Int.toNat a0) x41)))
 else
 Option.bind (idx v31.2.2.1 v35.1) fun x46 =>
 Option.bind (v31.2.2.1[(Int.toNat v35.1)]?) fun x47 =>
 Option.bind (idx v31.2.2.1 v32.1) fun x48 =>
 Option.bind (v31.2.2.1[(Int.toNat v32.1)]?) fun x49 =>
 Option.bind (idx v31.2.2.1 v32.1) fun x50 =>
 Option.bind (v31.2.2.1[(Int.toNat v32.1)]?) fun x51 =>
 Option.bind (idx (v31.2.2.1.set (Int.toNat v32.1) x47) v35.1) fun x52 =>
 Option.bind ((v31.2.2.1.set (Int.toNat v32.1) x47)[(Int.toNat v35.1)]?) fun x53 =>
 some (Sum.inl ((addI .i64 v32.1 (1 : Int)), (subI .i64 v35.1 (1 : Int)), ((v31.2.2.1.set (Int.toNat v32.1) x47).set (Int.toNat v35.1) x49), ())))) fun j37 =>
 bif (decide (v32.1 ≤ v35.1)) then
 Option.bind (idx v31.2.2.1 v35.1) fun x54 =>
 Option.bind (v31.2.2.1[(Int.toNat v35.1)]?) fun x55 =>
 Option.bind (idx v31.2.2.1 a0) fun x56 =>
 Option.bind (v31.2.2.1[(Int.toNat a0)]?) fun x57 =>
 Option.bind (F_cmp_Compare_int x55 x57) fun r58 =>
 j37 ((!(decide (r58 < (0 : Int)))), ())
 else
 j37 (false, ())) (v31.2.1, ()))) fun j34 =>
 bif (decide (v32.1 ≤ v31.2.1)) then
 Option.bind (idx v31.2.2.1 v32.1) fun x59 =>
 Option.bind (v31.2.2.1[(Int.toNat v32.1)]?) fun x60 =>
 Option.bind (idx v31.2.2.1 a0) fun x61 =>
 Option.bind (v31.2.2.1[(Int.toNat a0)]?) fun x62 =>
 Option.bind (F_cmp_Compare_int x60 x62) fun r63 =>
 j34 ((decide (r63 < (0 : Int))), ())
 else
 j34 (false, ())) (v31.1, ())) ((addI .i64 v9.1 (1 : Int)), (subI .i64 v12.1 (1 : Int)), ((((s.set (Int.toNat a0) x2).set (Int.toNat a2) x4).set (Int.toNat v9.1) x24).set (Int.toNat v12.1) x26), ()))) fun j14 =>
 bif (decide (v9.1 ≤ v12.1)) then
 Option.bind (idx ((s.set (Int.toNat a0) x2).set (Int.toNat a2) x4) v12.1) fun x64 =>
 Option.bind (((s.set (Int.toNat a0) x2).set (Int.toNat a2) x4)[(Int.toNat v12.1)]?) fun x65 =>
 Option.bind (idx ((s.set (Int.toNat a0) x2).set (Int.toNat a2) x4) a0) fun x66 =>
 Option.bind (((s.set (Int.toNat a0) x2).set (Int.toNat a2) x4)[(Int.toNat a0)]?) fun x67 =>
 Option.bind (F_cmp_Compare_int x65 x67) fun r68 =>
 j14 ((!(decide (r68 < (0 : Int)))), ())
 else
 j14 (false, ())) ((subI .i64 a1 (1 : Int)), ()))) fun j11 =>
 bif (decide (v9.1 ≤ (subI .i64 a1 (1 : Int)))) then
 Option.bind (idx ((s.set (Int.toNat a0) x2).set (Int.toNat a2) x4) v9.1) fun x69 =>
 Option.bind (((s.set (Int.toNat a0) x2).set (Int.toNat a2) x4)[(Int.toNat v9.1)]?) fun x70 =>
 Option.bind (idx ((s.set (Int.toNat a0) x2).set (Int.toNat a2) x4) a0) fun x71 =>
 Option.bind (((s.set (Int.toNat a0) x2).set (Int.toNat a2) x4)[(Int.toNat a0)]?) fun x72 =>
 Option.bind (F_cmp_Compare_int x70 x72) fun r73 =>
 j11 ((decide (r73 < (0 : Int))), ())
 else
 j11 (false, ())) ((addI .i64 a0 (1 : Int)), ())
noncomputable def k_slices_partitionCmpFunc_int_c111 : KFun U := .rw 156 3 1 (Ty.i .i64) [.ty (Ty.i .i64), .ty (Ty.i .i64), .ty (Ty.i .i64), .clo 111 []] (.many [(Ty.i .i64), Ty.bool]) fun s a => F_slices_partitionCmpFunc_int_c111 s a.1 a.2.1 a.2.2.1
theorem e_slices_partitionCmpFunc_int_c111 : rwK K [k_cmp_Compare_int] sa_slices_partitionCmpFunc_int_c111 [.tmp 10, .tmp 11] 3 1 (Ty.i .i64) [.ty (Ty.i .i64), .ty (Ty.i .i64), .ty (Ty.i .i64), .clo 111 []] (.many [(Ty.i .i64), Ty.bool]) = fun s a => F_slices_partitionCmpFunc_int_c111 s a.1 a.2.1 a.2.2.1 := by kernel_rfl
theorem s_slices_partitionCmpFunc_int_c111 : KFun.Sound (U := U) Try.prog k_slices_partitionCmpFunc_int_c111 := rwK_sound (K := K) (Γ := [k_cmp_Compare_int]) ok_slices_partitionCmpFunc_int_c111 (by kernel_rfl) (by decide) ⟨s_cmp_Compare_int, trivial⟩ (fun s a => congrFun (congrFun e_slices_partitionCmpFunc_int_c111 s) a)

/-! ### slices.pdqsortCmpFunc[int] -/
def sa_slices_pdqsortCmpFunc_int_c111 : SA U :=
 (.seq
 (.reg
 (op 10 (.mov (.cst (.bool true)))
 .nil))
 (.seq
 (.reg
 (op 11 (.mov (.cst (.bool true)))
 .nil))
 (.block 0
 (.loop ⟨[.val 1 (Ty.i .i64), .val 2 (Ty.i .i64), .val 3 (Ty.i .i64), .val 10 Ty.bool, .val 11 Ty.bool, .own 0 0 0 3 1 (Ty.i .i64)], [4]⟩
 (.block 1
 (.seq
 (.reg
 (op 21 (.mov (tm 2))
 (op 22 (.mov (tm 1))
 (op 23 (.bin .sub (tm 21) (tm 22))
 (op 12 (.mov (tm 23))
 .nil)))))
 (.seq
 (.seq
 (.reg
 (op 24 (.mov (tm 12))
 (op 25 (.bin .leq (tm 24) (ci 12))
 .nil)))
 (.cond (tm 25)
 (.seq
 (.reg
 (op 26 (.mov (tm 0))
 (op 27 (.mov (tm 1))
 (op 28 (.mov (tm 2))
 (op 29 (.mov (tm 4))
 (op 30 (.call 149 [(tm 26), (tm 27), (tm 28), (tm 29)])
 .nil))))))
 .ret)
 .skip))
 (.seq
 (.seq
 (.reg
 (op 31 (.mov (tm 3))
 (op 32 (.bin .eql (tm 31) (ci 0))
 .nil)))
 (.cond (tm 32)
 (.seq
 (.reg
 (op 33 (.mov (tm 0))
 (op 34 (.mov (tm 1))
 (op 35 (.mov (tm 2))
 (op 36 (.mov (tm 4))
 (op 37 (.call 150 [(tm 33), (tm 34), (tm 35), (tm 36)])
 .nil))))))
 .ret)
 .skip))
 (.join ⟨[.val 3 (Ty.i .i64), .own 0 0 0 3 1 (Ty.i .i64)], [1, 2, 4, 10, 11, 12]⟩
 (.seq
 (.reg
 (op 38 (.mov (tm 10))
 (op 39 (.not (tm 38))
 .nil)))
 (.cond (tm 39)
 (.seq
 (.reg
 (op 40 (.mov (tm 0))
 (op 41 (.mov (tm 1))
 (op 42 (.mov (tm 2))
 (op 43 (.mov (tm 4))
 (op 44 (.call 151 [(tm 40), (tm 41), (tm 42), (tm 43)])
 .nil))))))
 (.reg
 (op 45 (.mov (tm 3))
 (op 46 (.bin .sub (tm 45) (ci 1))
 (op 3 (.mov (tm 46))
 .nil)))))
 .skip))
 (.seq
 (.reg
 (op 48 (.mov (tm 0))
 (op 49 (.mov (tm 1))
 (op 50 (.mov (tm 2))
 (op 51 (.mov (tm 4))
 (op 52 (.call 152 [(tm 48), (tm 49), (tm 50), (tm 51)])
 (op 47 (.mov (tm 52))
 (op 53 (.extr 0 (tm 47))
 (op 54 (.extr 1 (tm 47))
 (op 13 (.mov (tm 53))
 (op 14 (.mov (tm 54))
 .nil)))))))))))
 (.join ⟨[.val 13 (Ty.i .i64), .val 14 (Ty.i .i64), .own 0 0 0 3 1 (Ty.i .i64)], [1, 2, 3, 4, 10, 11, 12]⟩
 (.seq
 (.reg
 (op 55 (.mov (tm 14))
 (op 56 (.bin .eql (tm 55) (ci 2))
 .nil)))
 (.cond (tm 56)
 (.seq
 (.reg
 (op 57 (.mov (tm 0))
 (op 58 (.mov (tm 1))
 (op 59 (.mov (tm 2))
 (op 60 (.mov (tm 4))
 (op 61 (.call 153 [(tm 57), (tm 58), (tm 59), (tm 60)])
 .nil))))))
 (.seq
 (.reg
 (op 62 (.mov (tm 2))
 (op 63 (.bin .sub (tm 62) (ci 1))
 (op 64 (.mov (tm 13))
 (op 65 (.mov (tm 1))
 (op 66 (.bin .sub (tm 64) (tm 65))
 (op 67 (.bin .sub (tm 63) (tm 66))
 (op 13 (.mov (tm 67))
 .nil))))))))
 (.reg
 (op 14 (.mov (ci 1))
 .nil))))
 .skip))
 (.join ⟨[.own 0 0 0 3 1 (Ty.i .i64)], [1, 2, 3, 4, 10, 11, 12, 13]⟩
 (.seq
 (.reg
 (op 68 (.mov (tm 10))
 (op 69 (.mov (tm 68))
 (.ite 69 true
 (opg 70 69 true (.mov (tm 11))
 .nil)
 71 none (tm 70) (.cst (.bool false))
 (op 72 (.mov (tm 71))
 (.ite 72 true
 (opg 73 72 true (.mov (tm 14))
 (opg 74 72 true (.bin .eql (tm 73) (ci 1))
 .nil))
 75 none (tm 74) (.cst (.bool false))
 .nil))))))
 (.cond (tm 75)
 (.seq
 (.reg
 (op 76 (.mov (tm 0))
 (op 77 (.mov (tm 1))
 (op 78 (.mov (tm 2))
 (op 79 (.mov (tm 4))
 (op 80 (.call 154 [(tm 76), (tm 77), (tm 78), (tm 79)])
 .nil))))))
 (.cond (tm 80)
 .ret
 .skip))
 .skip))
 (.seq
 (.join ⟨[.val 97 Ty.bool], [0, 1, 2, 3, 4, 10, 11, 12, 13]⟩
 (.drw [(7, 11), (8, 11), (7, 12), (8, 12)]
 (op 81 (.mov (tm 1))
 (op 82 (.bin .gtr (tm 81) (ci 0))
 (op 83 (.mov (tm 82))
 (.spl 83
 (opg 84 83 true (.mov (tm 4))
 (opg 85 83 true (.mov (tm 0))
 (opg 86 83 true (.mov (tm 1))
 (opg 87 83 true (.bin .sub (tm 86) (ci 1))
 (opg 88 83 true (.iaddr 1 (tm 85) (tm 87))
 (opg 89 83 true (.load none (tm 88))
 (opg 90 83 true (.mov (tm 0))
 (opg 91 83 true (.mov (tm 13))
 (opg 92 83 true (.iaddr 1 (tm 90) (tm 91))
 (opg 93 83 true (.load none (tm 92))
 (opg 94 83 true (.callv (tm 84) [(tm 89), (tm 93)])
 (opg 95 83 true (.bin .lss (tm 94) (ci 0))
 (opg 96 83 true (.not (tm 95))
 (op 97 (.pick (tm 83) (tm 96) (.cst (.bool false)))
 .nil)))))))))))))))))))
 (.cond (tm 97)
 (.seq
 (.reg
 (op 98 (.mov (tm 0))
 (op 99 (.mov (tm 1))
 (op 100 (.mov (tm 2))
 (op 101 (.mov (tm 13))
 (op 102 (.mov (tm 4))
 (op 103 (.call 155 [(tm 98), (tm 99), (tm 100), (tm 101), (tm 102)])
 (op 15 (.mov (tm 103))
 .nil))))))))
 (.seq
 (.reg
 (op 104 (.mov (tm 15))
 (op 1 (.mov (tm 104))
 .nil)))
 (.exit 1)))
 .skip))
 (.seq
 (.reg
 (op 106 (.mov (tm 0))
 (op 107 (.mov (tm 1))
 (op 108 (.mov (tm 2))
 (op 109 (.mov (tm 13))
 (op 110 (.mov (tm 4))
 (op 111 (.call 156 [(tm 106), (tm 107), (tm 108), (tm 109), (tm 110)])
 (op 105 (.mov (tm 111))
 (op 112 (.extr 0 (tm 105))
 (op 113 (.extr 1 (tm 105))
 (op 16 (.mov (tm 112))
 (op 17 (.mov (tm 113))
 .nil))))))))))))
 (.seq
 (.reg
 (op 114 (.mov (tm 17))
 (op 11 (.mov (tm 114))
 .nil)))
 (.seq
 (.reg
 (op 115 (.mov (tm 16))
 (op 116 (.mov (tm 1))
 (op 117 (.bin .sub (tm 115) (tm 116))
 (op 118 (.mov (tm 2))
 (op 119 (.mov (tm 16))
 (op 120 (.bin .sub (tm 118) (tm 119))
 (op 18 (.mov (tm 117))
 (op 19 (.mov (tm 120))
 .nil)))))))))
 (.seq
 (.reg
 (op 121 (.mov (tm 12))
 (op 122 (.bin .quo (tm 121) (ci 8))
 (op 20 (.mov (tm 122))
 .nil))))
 (.seq
 (.reg
 (op 123 (.mov (tm 18))
 (op 124 (.mov (tm 19))
 (op 125 (.bin .lss (tm 123) (tm 124))
 .nil))))
 (.cond (tm 125)
 (.seq
 (.reg
 (op 126 (.mov (tm 18))
 (op 127 (.mov (tm 20))
 (op 128 (.bin .geq (tm 126) (tm 127))
 (op 10 (.mov (tm 128))
 .nil)))))
 (.seq
 (.reg
 (op 129 (.mov (tm 0))
 (op 130 (.mov (tm 1))
 (op 131 (.mov (tm 16))
 (op 132 (.mov (tm 3))
 (op 133 (.mov (tm 4))
 (op 134 (.call 142 [(tm 129), (tm 130), (tm 131), (tm 132), (tm 133)])
 .nil)))))))
 (.reg
 (op 135 (.mov (tm 16))
 (op 136 (.bin .add (tm 135) (ci 1))
 (op 1 (.mov (tm 136))
 .nil))))))
 (.seq
 (.reg
 (op 137 (.mov (tm 19))
 (op 138 (.mov (tm 20))
 (op 139 (.bin .geq (tm 137) (tm 138))
 (op 10 (.mov (tm 139))
 .nil)))))
 (.seq
 (.reg
 (op 140 (.mov (tm 0))
 (op 141 (.mov (tm 16))
 (op 142 (.bin .add (tm 141) (ci 1))
 (op 143 (.mov (tm 2))
 (op 144 (.mov (tm 3))
 (op 145 (.mov (tm 4))
 (op 146 (.call 142 [(tm 140), (tm 142), (tm 143), (tm 144), (tm 145)])
 .nil))))))))
 (.reg
 (op 147 (.mov (tm 16))
 (op 2 (.mov (tm 147))
 .nil))))))))))))))))))))))))
theorem ok_slices_pdqsortCmpFunc_int_c111 : FnOk Try.prog 142 148 (SA.erase sa_slices_pdqsortCmpFunc_int_c111) [] := ⟨Try.f142, [], Try.func142, rfl, by kernel_rfl, by kernel_rfl, by kernel_rfl⟩
noncomputable def B_slices_pdqsortCmpFunc_int_c111 (rec : List Int → (Int × Int × Int × (Unit) × Unit) → Option ((Unit) × List Int)) (s : List Int) (a0 : Int) (a1 : Int) (a2 : Int) : Option ((Unit) × List Int) :=
 loopO (fun (v1 : Int × Int × Int × Bool × Bool × (List Int) × Unit) =>
 bif (decide ((subI .i64 v1.2.1 v1.1) ≤ (12 : Int))) then
 Option.bind (F_slices_insertionSortCmpFunc_int_c111 v1.2.2.2.2.2.1 v1.1 v1.2.1) fun p2 =>
 Option.map Sum.inr (some ((()), p2.2))
 else
 bif (decide (v1.2.2.1 = (0 : Int))) then
 Option.bind (F_slices_heapSortCmpFunc_int_c111 v1.2.2.2.2.2.1 v1.1 v1.2.1) fun p3 =>
 Option.map Sum.inr (some ((()), p3.2))
 else
 letJ (fun (v4 : Int × (List Int) × Unit) =>
 Option.bind (F_slices_choosePivotCmpFunc_int_c111 v4.2.1 v1.1 v1.2.1) fun r6 =>
 letJ (fun (v7 : Int × Int × (List Int) × Unit) =>
 letJ (fun (v9 : (List Int) × Unit) =>
 letJ (fun (v11 : Bool × Unit) =>
 bif v11.1 then
 Option.bind (F_slices_partitionEqualCmpFunc_int_c111 v9.1 v1.1 v1.2.1 v7.1) fun p13 =>
 some (Sum.inl (p13.1, v1.2.1, v4.1, v1.2.2.2.1, v1.2.2.2.2.1, p13.2, ()))
 else
 Option.bind (F_slices_partitionCmpFunc_int_c111 v9.1 v1.1 v1.2.1 v7.1) fun p14 =>
 bif (decide ((subI .i64 p14.1.1 v1.1) < (subI .i64 v1.2.1 p14.1.1))) then
 Option.bind (rec p14.2 (v1.1, p14.1.1, v4.1, (()), ())) fun p15 =>
 some (Sum.inl ((addI .i64 p14.1.1 (1 : Int)), v1.2.1, v4.1, (decide ((quoI .i64 (subI .i64 v1.2.1 v1.1) (8 : Int)) ≤ (subI .i64 p14.1.1 v1.1))), p14.1.2.1, p15.2, ()))
 else
 Option.bind (rec p14.2 ((addI .i64 p14.1.1 (1 : Int)), v1.2.1, v4.1, (()), ())) fun p16 =>
 some (Sum.inl (v1.1, p14.1.1, v4.1, (decide ((quoI .i64 (subI .i64 v1.2.1 v1.1) (8 : Int)) ≤ (subI .i64 v1.2.1 p14.1.1))), p14.1.2.1, p16.2, ()))) fun j12 =>
 bif (decide ((0 : Int) < v1.1)) then
 Option.bind (idx v9.1 (subI .i64 v1.1 (1 : Int))) fun x17 =>
 Option.bind (v9.1[(Int.toNat (subI .i64 v1.1 (1 : Int)))]?) fun x18 =>
 Option.bind (idx v9.1 v7.1) fun x19 =>
 Option.bind (v9.1[(Int.toNat v7.1)]?) fun x20 =>
 Option.bind (F_cmp_Compare_int x18 x20) fun r21 =>
 j12 ((!(decide (r21 < (0 : Int)))), ())
 else
 j12 (false, ())) fun j10 =>
 Option.bind (bif v1.2.2.2.1 then
 some v1.2.2.2.2.1
 else some false) fun b22 =>
 Option.bind (bif b22 then
 some (decide (v7.2.1 = (1 : Int)))
 else some false) fun b23 =>
 bif b23 then
 Option.bind (F_slices_partialInsertionSortCmpFunc_int_c111 v7.2.2.1 v1.1 v1.2.1) fun p24 =>
 bif p24.1 then
 Option.map Sum.inr (some ((()), p24.2))
 else
 j10 (p24.2, ())
 else
 j10 (v7.2.2.1, ())) fun j8 =>
 bif (decide (r6.2.1 = (2 : Int))) then
 Option.bind (F_slices_reverseRangeCmpFunc_int_c111 v4.2.1 v1.1 v1.2.1) fun p25 =>
 j8 ((subI .i64 (subI .i64 v1.2.1 (1 : Int)) (subI .i64 r6.1 v1.1)), (1 : Int), p25.2, ())
 else
 j8 (r6.1, r6.2.1, v4.2.1, ())) fun j5 =>
 bif (!v1.2.2.2.1) then
 Option.bind (F_slices_breakPatternsCmpFunc_int_c111 v1.2.2.2.2.2.1 v1.1 v1.2.1) fun p26 =>
 j5 ((subI .i64 v1.2.2.1 (1 : Int)), p26.2, ())
 else
 j5 (v1.2.2.1, v1.2.2.2.2.2.1, ())) (a0, a1, a2, true, true, s, ())
noncomputable def I_slices_pdqsortCmpFunc_int_c111 : Nat → List Int → (Int × Int × Int × (Unit) × Unit) → Option ((Unit) × List Int) := iterF2 (fun rec s a => B_slices_pdqsortCmpFunc_int_c111 rec s a.1 a.2.1 a.2.2.1)
noncomputable def F_slices_pdqsortCmpFunc_int_c111 (s : List Int) (a0 : Int) (a1 : Int) (a2 : Int) : Option ((Unit) × List Int) := I_slices_pdqsortCmpFunc_int_c111 (List.length s + 1) s (a0, a1, a2, (()), ())
noncomputable def k_slices_pdqsortCmpFunc_int_c111 : KFun U := .rw 142 3 1 (Ty.i .i64) [.ty (Ty.i .i64), .ty (Ty.i .i64), .ty (Ty.i .i64), .clo 111 []] (.many []) fun s a => F_slices_pdqsortCmpFunc_int_c111 s a.1 a.2.1 a.2.2.1
theorem e_slices_pdqsortCmpFunc_int_c111 : (fun G => rwK K (.rw 142 3 1 (Ty.i .i64) [.ty (Ty.i .i64), .ty (Ty.i .i64), .ty (Ty.i .i64), .clo 111 []] (.many []) G :: [k_slices_insertionSortCmpFunc_int_c111, k_slices_heapSortCmpFunc_int_c111, k_slices_breakPatternsCmpFunc_int_c111, k_slices_choosePivotCmpFunc_int_c111, k_slices_reverseRangeCmpFunc_int_c111, k_slices_partialInsertionSortCmpFunc_int_c111, k_cmp_Compare_int, k_slices_partitionEqualCmpFunc_int_c111, k_slices_partitionCmpFunc_int_c111]) sa_slices_pdqsortCmpFunc_int_c111 [] 3 1 (Ty.i .i64) [.ty (Ty.i .i64), .ty (Ty.i .i64), .ty (Ty.i .i64), .clo 111 []] (.many [])) = (fun G s a => B_slices_pdqsortCmpFunc_int_c111 G s a.1 a.2.1 a.2.2.1) := by kernel_rfl
theorem n_slices_pdqsortCmpFunc_int_c111 : ∀ n, KFun.Sound (U := U) Try.prog (.rw 142 3 1 (Ty.i .i64) [.ty (Ty.i .i64), .ty (Ty.i .i64), .ty (Ty.i .i64), .clo 111 []] (.many []) (I_slices_pdqsortCmpFunc_int_c111 n))
  | 0 => ⟨ok_slices_pdqsortCmpFunc_int_c111.enters, fun s a r ys h => by cases h⟩
  | n + 1 => rwK_sound (K := K) (r := .many []) (e := 3) (k := 1) (T := (Ty.i .i64)) («as» := [.ty (Ty.i .i64), .ty (Ty.i .i64), .ty (Ty.i .i64), .clo 111 []]) (Γ := .rw 142 3 1 (Ty.i .i64) [.ty (Ty.i .i64), .ty (Ty.i .i64), .ty (Ty.i .i64), .clo 111 []] (.many []) (I_slices_pdqsortCmpFunc_int_c111 n) :: [k_slices_insertionSortCmpFunc_int_c111, k_slices_heapSortCmpFunc_int_c111, k_slices_breakPatternsCmpFunc_int_c111, k_slices_choosePivotCmpFunc_int_c111, k_slices_reverseRangeCmpFunc_int_c111, k_slices_partialInsertionSortCmpFunc_int_c111, k_cmp_Compare_int, k_slices_partitionEqualCmpFunc_int_c111, k_slices_partitionCmpFunc_int_c111]) (F := I_slices_pdqsortCmpFunc_int_c111 (n + 1)) ok_slices_pdqsortCmpFunc_int_c111 (by kernel_rfl) (by decide) ⟨n_slices_pdqsortCmpFunc_int_c111 n, s_slices_insertionSortCmpFunc_int_c111, s_slices_heapSortCmpFunc_int_c111, s_slices_breakPatternsCmpFunc_int_c111, s_slices_choosePivotCmpFunc_int_c111, s_slices_reverseRangeCmpFunc_int_c111, s_slices_partialInsertionSortCmpFunc_int_c111, s_cmp_Compare_int, s_slices_partitionEqualCmpFunc_int_c111, s_slices_partitionCmpFunc_int_c111, trivial⟩ (fun s a => congrFun (congrFun (congrFun e_slices_pdqsortCmpFunc_int_c111 (I_slices_pdqsortCmpFunc_int_c111 n)) s) a)
theorem s_slices_pdqsortCmpFunc_int_c111 : KFun.Sound (U := U) Try.prog k_slices_pdqsortCmpFunc_int_c111 := ⟨ok_slices_pdqsortCmpFunc_int_c111.enters, fun s a r ys h => (n_slices_pdqsortCmpFunc_int_c111 _).2 s a r ys h⟩

/-! ### slices.SortFunc[[]int,int] -/
def sa_slices_SortFunc_int_int_c111 : SA U :=
 (.seq
 (.reg
 (op 5 (.mov (tm 0))
 (op 6 (.len false (tm 5))
 (op 4 (.mov (tm 6))
 .nil))))
 (.reg
 (op 7 (.mov (tm 0))
 (op 8 (.mov (tm 4))
 (op 9 (.mov (tm 4))
 (op 10 (.conv .u64 (tm 9))
 (op 11 (.call 143 [(tm 10)])
 (op 12 (.mov (tm 1))
 (op 13 (.call 142 [(tm 7), (ci 0), (tm 8), (tm 11), (tm 12)])
 .nil)))))))))
theorem ok_slices_SortFunc_int_int_c111 : FnOk Try.prog 131 14 (SA.erase sa_slices_SortFunc_int_int_c111) [] := ⟨Try.f131, [], Try.func131, rfl, by kernel_rfl, by kernel_rfl, by kernel_rfl⟩
noncomputable def F_slices_SortFunc_int_int_c111 (s : List Int)  : Option ((Unit) × List Int) :=
 Option.bind (F_math_bits_Len (convI .u64 ((List.length s : Nat) : Int))) fun r1 =>
 Option.bind (F_slices_pdqsortCmpFunc_int_c111 s (0 : Int) ((List.length s : Nat) : Int) r1) fun p2 =>
 some ((()), p2.2)
noncomputable def k_slices_SortFunc_int_int_c111 : KFun U := .rw 131 3 1 (Ty.i .i64) [.clo 111 []] (.many []) fun s a => F_slices_SortFunc_int_int_c111 s 
theorem e_slices_SortFunc_int_int_c111 : rwK K [k_math_bits_Len, k_slices_pdqsortCmpFunc_int_c111] sa_slices_SortFunc_int_int_c111 [] 3 1 (Ty.i .i64) [.clo 111 []] (.many []) = fun s a => F_slices_SortFunc_int_int_c111 s  := by kernel_rfl
theorem s_slices_SortFunc_int_int_c111 : KFun.Sound (U := U) Try.prog k_slices_SortFunc_int_int_c111 := rwK_sound (K := K) (Γ := [k_math_bits_Len, k_slices_pdqsortCmpFunc_int_c111]) ok_slices_SortFunc_int_int_c111 (by kernel_rfl) (by decide) ⟨s_math_bits_Len, s_slices_pdqsortCmpFunc_int_c111, trivial⟩ (fun s a => congrFun (congrFun e_slices_SortFunc_int_int_c111 s) a)

/-! ### slices.Compact[[]int,int] -/
def sa_slices_Compact_int_int : SA U :=
 (.seq
 (.reg
 (op 2 (.mov (.cst (.nils)))
 .nil))
 (.seq
 (.seq
 (.reg
 (op 6 (.mov (tm 0))
 (op 7 (.len false (tm 6))
 (op 8 (.bin .lss (tm 7) (ci 2))
 .nil))))
 (.cond (tm 8)
 (.seq
 (.reg
 (op 9 (.mov (tm 0))
 (op 2 (.mov (tm 9))
 .nil)))
 .ret)
 .skip))
 (.seq
 (.seq
 (.reg
 (op 3 (.mov (ci 1))
 .nil))
 (.block 0
 (.loop ⟨[.val 3 (Ty.i .i64), .own 0 0 0 3 1 (Ty.i .i64)], []⟩
 (.seq
 (.seq
 (.reg
 (op 10 (.mov (tm 3))
 (op 11 (.mov (tm 0))
 (op 12 (.len false (tm 11))
 (op 13 (.bin .lss (tm 10) (tm 12))
 .nil)))))
 (.cond (tm 13)
 .skip
 (.exit 0)))
 (.seq
 (.block 1
 (.seq
 (.drw [(2, 7), (3, 7), (2, 8), (3, 8)]
 (op 16 (.mov (tm 0))
 (op 17 (.mov (tm 3))
 (op 18 (.iaddr 1 (tm 16) (tm 17))
 (op 19 (.load none (tm 18))
 (op 20 (.mov (tm 0))
 (op 21 (.mov (tm 3))
 (op 22 (.bin .sub (tm 21) (ci 1))
 (op 23 (.iaddr 1 (tm 20) (tm 22))
 (op 24 (.load none (tm 23))
 (op 25 (.bin .eql (tm 19) (tm 24))
 .nil)))))))))))
 (.cond (tm 25)
 (.seq
 (.reg
 (op 26 (.mov (tm 0))
 (op 27 (.mov (tm 3))
 (op 28 (.slc 1 (tm 26) (some (tm 27)) none)
 (op 4 (.mov (tm 28))
 .nil)))))
 (.seq
 (.seq
 (.reg
 (op 5 (.mov (ci 1))
 .nil))
 (.block 2
 (.loop ⟨[.val 3 (Ty.i .i64), .val 5 (Ty.i .i64), .own 0 0 0 3 1 (Ty.i .i64)], [4]⟩
 (.seq
 (.seq
 (.reg
 (op 29 (.mov (tm 5))
 (op 30 (.mov (tm 4))
 (op 31 (.len false (tm 30))
 (op 32 (.bin .lss (tm 29) (tm 31))
 .nil)))))
 (.cond (tm 32)
 .skip
 (.exit 2)))
 (.join ⟨[.val 3 (Ty.i .i64), .own 0 0 0 3 1 (Ty.i .i64)], [4, 5]⟩
 (.block 3
 (.seq
 (.drw [(2, 7), (3, 7), (2, 8), (3, 8)]
 (op 35 (.mov (tm 4))
 (op 36 (.mov (tm 5))
 (op 37 (.iaddr 1 (tm 35) (tm 36))
 (op 38 (.load none (tm 37))
 (op 39 (.mov (tm 4))
 (op 40 (.mov (tm 5))
 (op 41 (.bin .sub (tm 40) (ci 1))
 (op 42 (.iaddr 1 (tm 39) (tm 41))
 (op 43 (.load none (tm 42))
 (op 44 (.bin .neq (tm 38) (tm 43))
 .nil)))))))))))
 (.cond (tm 44)
 (.seq
 (.reg
 (op 45 (.mov (tm 0))
 (op 46 (.mov (tm 3))
 (op 47 (.mov (tm 4))
 (op 48 (.mov (tm 5))
 (op 49 (.iaddr 1 (tm 47) (tm 48))
 (op 50 (.load none (tm 49))
 (op 51 (.iaddr 1 (tm 45) (tm 46))
 (ops (.store 1 (tm 51) (tm 50))
 .nil)))))))))
 (.reg
 (op 52 (.mov (tm 3))
 (op 53 (.bin .add (tm 52) (ci 1))
 (op 3 (.mov (tm 53))
 .nil)))))
 .skip)))
 (.reg
 (op 33 (.mov (tm 5))
 (op 34 (.bin .add (tm 33) (ci 1))
 (op 5 (.mov (tm 34))
 .nil)))))))))
 (.seq
 (.reg
 (op 54 (.mov (tm 0))
 (op 55 (.mov (tm 3))
 (op 56 (.slc 1 (tm 54) (some (tm 55)) none)
 (ops (.clear 1 [.int .i64 0] (tm 56))
 .nil)))))
 (.seq
 (.reg
 (op 57 (.mov (tm 0))
 (op 58 (.mov (tm 3))
 (op 59 (.slc 1 (tm 57) none (some (tm 58)))
 (op 2 (.mov (tm 59))
 (.ps (.cut 2)
 .nil))))))
 .ret))))
 .skip)))
 (.reg
 (op 14 (.mov (tm 3))
 (op 15 (.bin .add (tm 14) (ci 1))
 (op 3 (.mov (tm 15))
 .nil)))))))))
 (.seq
 (.reg
 (op 60 (.mov (tm 0))
 (op 2 (.mov (tm 60))
 .nil)))
 .ret))))
theorem ok_slices_Compact_int_int : FnOk Try.prog 132 61 (SA.erase sa_slices_Compact_int_int) [.tmp 2] := ⟨Try.f132, [], Try.func132, rfl, by kernel_rfl, by kernel_rfl, by kernel_rfl⟩
noncomputable def F_slices_Compact_int_int (s : List Int)  : Option (List Int) :=
 bif (decide (((List.length s : Nat) : Int) < (2 : Int))) then
 some s
 else
 loopO (fun (v1 : Int × (List Int) × Unit) =>
 bif (decide (v1.1 < ((List.length v1.2.1 : Nat) : Int))) then
 Option.bind (idx v1.2.1 v1.1) fun x2 =>
 Option.bind (v1.2.1[(Int.toNat v1.1)]?) fun x3 =>
 Option.bind (idx v1.2.1 (subI .i64 v1.1 (1 : Int))) fun x4 =>
 Option.bind (v1.2.1[(Int.toNat (subI .i64 v1.1 (1 : Int)))]?) fun x5 =>
 bif (decide (x3 = x5)) then
 bif slcOk v1.1 ((List.length v1.2.1) : Int) (List.length v1.2.1) then
 loopO (fun (v6 : Int × Int × (List Int) × Unit) =>
 bif (decide (v6.2.1 < ((List.length ((v6.2.2.1.drop (Int.toNat v1.1)).take (Int.toNat ((List.length v1.2.1) : Int) - Int.toNat v1.1)) : Nat) : Int))) then
 letJ (fun (v7 : Int × (List Int) × Unit) =>
 some (Sum.inl (v7.1, (addI .i64 v6.2.1 (1 : Int)), v7.2.1, ()))) fun j8 =>
 Option.bind (idx ((v6.2.2.1.drop (Int.toNat v1.1)).take (Int.toNat ((List.length v1.2.1) : Int) - Int.toNat v1.1)) v6.2.1) fun x9 =>
 Option.bind (v6.2.2.1[((Int.toNat v1.1) + Int.toNat v6.2.1)]?) fun x10 =>
 Option.bind (idx ((v6.2.2.1.drop (Int.toNat v1.1)).take (Int.toNat ((List.length v1.2.1) : Int) - Int.toNat v1.1)) (subI .i64 v6.2.1 (1 : Int))) fun x11 =>
 Option.bind (v6.2.2.1[((Int.toNat v1.1) + Int.toNat (subI .i64 v6.2.1 (1 : Int)))]?) fun x12 =>
 bif (!decide (x10 = x12)) then
 Option.bind (idx ((v6.2.2.1.drop (Int.toNat v1.1)).take (Int.toNat ((List.length v1.2.1) : Int) - Int.toNat v1.1)) v6.2.1) fun x13 =>
 Option.bind (v6.2.2.1[((Int.toNat v1.1) + Int.toNat v6.2.1)]?) fun x14 =>
 Option.bind (idx v6.2.2.1 v6.1) fun x15 =>
 Option.bind (v6.2.2.1[(Int.toNat v6.1)]?) fun x16 =>
 j8 ((addI .i64 v6.1 (1 : Int)), (v6.2.2.1.set (Int.toNat v6.1) x14), ())
 else
 j8 (v6.1, v6.2.2.1, ())
 else
 Option.map Sum.inr (bif slcOk v6.1 ((List.length v6.2.2.1) : Int) (List.length v6.2.2.1) then
 bif slcOk (0 : Int) v6.1 (List.length (v6.2.2.1.take (Int.toNat v6.1) ++ List.replicate (Int.toNat ((List.length v6.2.2.1) : Int) - Int.toNat v6.1) (0 : Int) ++ v6.2.2.1.drop ((Int.toNat v6.1) + (Int.toNat ((List.length v6.2.2.1) : Int) - Int.toNat v6.1)))) then
 Option.map Sum.inr (some ((v6.2.2.1.take (Int.toNat v6.1) ++ List.replicate (Int.toNat ((List.length v6.2.2.1) : Int) - Int.toNat v6.1) (0 : Int) ++ v6.2.2.1.drop ((Int.toNat v6.1) + (Int.toNat ((List.length v6.2.2.1) : Int) - Int.toNat v6.1))).take (Int.toNat v6.1 - Int.toNat (0 : Int))))
 else none
 else none)) (v1.1, (1 : Int), v1.2.1, ())
 else none
 else
 some (Sum.inl ((addI .i64 v1.1 (1 : Int)), v1.2.1, ()))
 else
 Option.map Sum.inr (some v1.2.1)) ((1 : Int), s, ())
noncomputable def k_slices_Compact_int_int : KFun U := .cw 132 3 1 (Ty.i .i64) [] fun s a => F_slices_Compact_int_int s 
theorem e_slices_Compact_int_int : cwK K [] sa_slices_Compact_int_int [.tmp 2] 3 1 (Ty.i .i64) [] = fun s a => F_slices_Compact_int_int s  := by kernel_rfl
theorem s_slices_Compact_int_int : KFun.Sound (U := U) Try.prog k_slices_Compact_int_int := cwK_sound (K := K) (Γ := []) ok_slices_Compact_int_int (by kernel_rfl) (by decide) trivial (fun s a => congrFun (congrFun e_slices_Compact_int_int s) a)

/-! ### trustquorum/envelopes.unique[int] -/
def sa_envelopes_unique_int_c111 : SA U :=
 (.seq
 (.reg
 (op 4 (.mov (.cst (.nils)))
 .nil))
 (.seq
 (.reg
 (op 5 (.mov (tm 0))
 (op 6 (.mov (tm 1))
 (op 7 (.call 131 [(tm 5), (tm 6)])
 .nil))))
 (.seq
 (.reg
 (op 8 (.mov (tm 0))
 (op 9 (.call 132 [(tm 8)])
 (op 4 (.mov (tm 9))
 .nil))))
 .ret)))
theorem ok_envelopes_unique_int_c111 : FnOk Try.prog 110 10 (SA.erase sa_envelopes_unique_int_c111) [.tmp 4] := ⟨Try.f110, [], Try.func110, rfl, by kernel_rfl, by kernel_rfl, by kernel_rfl⟩
noncomputable def F_envelopes_unique_int_c111 (s : List Int)  : Option (List Int) :=
 Option.bind (F_slices_SortFunc_int_int_c111 s) fun p1 =>
 Option.bind (F_slices_Compact_int_int p1.2) fun r2 =>
 some r2
noncomputable def k_envelopes_unique_int_c111 : KFun U := .cw 110 3 1 (Ty.i .i64) [.clo 111 []] fun s a => F_envelopes_unique_int_c111 s 
theorem e_envelopes_unique_int_c111 : cwK K [k_slices_SortFunc_int_int_c111, k_slices_Compact_int_int] sa_envelopes_unique_int_c111 [.tmp 4] 3 1 (Ty.i .i64) [.clo 111 []] = fun s a => F_envelopes_unique_int_c111 s  := by kernel_rfl
theorem s_envelopes_unique_int_c111 : KFun.Sound (U := U) Try.prog k_envelopes_unique_int_c111 := cwK_sound (K := K) (Γ := [k_slices_SortFunc_int_int_c111, k_slices_Compact_int_int]) ok_envelopes_unique_int_c111 (by kernel_rfl) (by decide) ⟨s_slices_SortFunc_int_int_c111, s_slices_Compact_int_int, trivial⟩ (fun s a => congrFun (congrFun e_envelopes_unique_int_c111 s) a)

/-! ### trustquorum/envelopes.Bounds -/
def sa_envelopes_Bounds : SA U :=
 (.seq
 (.reg
 (op 4 (.mov (.cst (.nils)))
 .nil))
 (.seq
 (.reg
 (op 5 (.mov (.cst (.nils)))
 .nil))
 (.seq
 (.seq
 (.reg
 (op 8 (.mov (tm 0))
 (op 9 (.len false (tm 8))
 (op 10 (.mov (ci 0))
 .nil))))
 (.block 0
 (.ps (.own 5 3 1 (Ty.i .i64))
 (.loop ⟨[.val 10 (Ty.i .i64), .own 5 5 1 3 1 (Ty.i .i64)], [1, 8, 9]⟩
 (.seq
 (.reg
 (op 11 (.bin .lss (tm 10) (tm 9))
 .nil))
 (.seq
 (.cond (tm 11)
 .skip
 (.exit 0))
 (.join ⟨[.own 5 5 1 3 1 (Ty.i .i64)], [1, 8, 9, 10]⟩
 (.block 1
 (.seq
 (.reg
 (op 12 (.iaddr 15 (tm 8) (tm 10))
 (op 13 (.load (some 15) (tm 12))
 (op 7 (.alloc [.int .i64 0, .int .i64 0, .int .i64 0, .int .i64 0, .nils, .nils, .int .i64 0, .int .i64 0, .str ⟨#[]⟩, .int .i64 0, .str ⟨#[]⟩, .int .i64 0, .str ⟨#[]⟩, .int .i64 0, .int .i64 0])
 (ops (.store 15 (tm 7) (tm 13))
 .nil)))))
 (.seq
 (.reg
 (op 14 (.load (some 15) (tm 7))
 (op 15 (.call 25 [(tm 14)])
 (op 16 (.mov (tm 15))
 (.ite 16 true
 (opg 17 16 true (.faddr 7 (tm 7))
 (opg 18 16 true (.faddr 1 (tm 17))
 (opg 19 16 true (.load none (tm 18))
 (opg 20 16 true (.mov (tm 1))
 (opg 21 16 true (.bin .eql (tm 19) (tm 20))
 .nil)))))
 22 none (tm 21) (.cst (.bool false))
 (op 23 (.mov (tm 22))
 (.ite 23 true
 (opg 24 23 true (.faddr 13 (tm 7))
 (opg 25 23 true (.load none (tm 24))
 (opg 26 23 true (.bin .neq (tm 25) (ci 0))
 .nil)))
 27 none (tm 26) (.cst (.bool false))
 .nil)))))))
 (.cond (tm 27)
 (.reg
 (op 28 (.mov (tm 5))
 (op 29 (.faddr 13 (tm 7))
 (op 30 (.load none (tm 29))
 (op 31 (.faddr 14 (tm 7))
 (op 32 (.load none (tm 31))
 (op 33 (.bsl false 3 1 (List.replicate 2 [.int .i64 0]) [(0, (tm 30)), (1, (tm 32))])
 (op 34 (.app 3 1 8 (tm 28) (tm 33))
 (op 5 (.mov (tm 34))
 .nil)))))))))
 .skip))))
 (.reg
 (op 35 (.bin .add (tm 10) (ci 1))
 (op 10 (.mov (tm 35))
 .nil))))))))))
 (.seq
 (.reg
 (op 36 (.mov (tm 5))
 (op 37 (.call 110 [(tm 36), (.cst (.clo 111 []))])
 (op 4 (.mov (tm 37))
 .nil))))
 .ret))))
theorem ok_envelopes_Bounds : FnOk Try.prog 77 38 (SA.erase sa_envelopes_Bounds) [.tmp 4] := ⟨Try.f77, [], Try.func77, rfl, by kernel_rfl, by kernel_rfl, by kernel_rfl⟩
noncomputable def F_envelopes_Bounds (a0 : (List TEnvelope)) (a1 : ByteArray) : Option (List Int) :=
 loopO (fun (v1 : Int × (List Int) × Unit) =>
 bif (decide (v1.1 < ((List.length a0 : Nat) : Int))) then
 letJ (fun (v2 : (List Int) × Unit) =>
 some (Sum.inl ((addI .i64 v1.1 (1 : Int)), v2.1, ()))) fun j3 =>
 Option.bind (idx a0 v1.1) fun x4 =>
 Option.bind (F_envelopes_Valid (TEnvelope.mk x4.Node x4.Slot x4.Seq (TTrust.mk x4.Trust.Threshold x4.Trust.Nodes x4.Trust.Inner) x4.Kind x4.Ballot x4.Prepared x4.Prime x4.Low x4.High)) fun r5 =>
 Option.bind (bif r5 then
 some (decide (x4.Ballot.Value = a1))
 else some false) fun b6 =>
 Option.bind (bif b6 then
 some (!decide (x4.Low = (0 : Int)))
 else some false) fun b7 =>
 bif b7 then
 bif lenOk 8 (List.length v1.2.1 + List.length [x4.Low, x4.High]) then
 j3 ((v1.2.1 ++ [x4.Low, x4.High]), ())
 else none
 else
 j3 (v1.2.1, ())
 else
 Option.map Sum.inr (Option.bind (F_envelopes_unique_int_c111 v1.2.1) fun r8 =>
 some r8)) ((0 : Int), ([] : List Int), ())
noncomputable def k_envelopes_Bounds : KFun U := .fn 77 [.ty (Ty.sl (Ty.st .Envelope)), .ty Ty.str] (.one (Ty.sl (Ty.i .i64))) fun a => F_envelopes_Bounds a.1 a.2.1
theorem e_envelopes_Bounds : fnK K [k_envelopes_Valid, k_envelopes_unique_int_c111] sa_envelopes_Bounds [.tmp 4] [.ty (Ty.sl (Ty.st .Envelope)), .ty Ty.str] (.one (Ty.sl (Ty.i .i64))) = fun a => F_envelopes_Bounds a.1 a.2.1 := by kernel_rfl
theorem s_envelopes_Bounds : KFun.Sound (U := U) Try.prog k_envelopes_Bounds := fnK_sound (K := K) (Γ := [k_envelopes_Valid, k_envelopes_unique_int_c111]) ok_envelopes_Bounds (by kernel_rfl) (by decide) ⟨s_envelopes_Valid, s_envelopes_unique_int_c111, trivial⟩ (fun a => congrFun e_envelopes_Bounds a)

/-! ### slices.Backward[[]int,int] -/
def sa_slices_Backward_int_int : SA U :=
 (.seq
 (.reg
 (op 1 (.box (tm 0))
 (op 2 (.mov (.cst (.any)))
 .nil)))
 (.seq
 (.reg
 (op 3 (.mkf 112 [(tm 1)])
 (op 2 (.mov (tm 3))
 .nil)))
 .ret))
theorem ok_slices_Backward_int_int : FnOk Try.prog 78 4 (SA.erase sa_slices_Backward_int_int) [.tmp 2] := ⟨Try.f78, [], Try.func78, rfl, by kernel_rfl, by kernel_rfl, by kernel_rfl⟩
noncomputable def F_slices_Backward_int_int (a0 : (List Int)) : Option ((List Int) × Unit) :=
 some (a0, ())
noncomputable def k_slices_Backward_int_int : KFun U := .fn 78 [.ty (Ty.sl (Ty.i .i64))] (.fn (.clo 112 [.ref (.ty (Ty.sl (Ty.i .i64)))])) fun a => F_slices_Backward_int_int a.1
theorem e_slices_Backward_int_int : fnK K [] sa_slices_Backward_int_int [.tmp 2] [.ty (Ty.sl (Ty.i .i64))] (.fn (.clo 112 [.ref (.ty (Ty.sl (Ty.i .i64)))])) = fun a => F_slices_Backward_int_int a.1 := by kernel_rfl
theorem s_slices_Backward_int_int : KFun.Sound (U := U) Try.prog k_slices_Backward_int_int := fnK_sound (K := K) (Γ := []) ok_slices_Backward_int_int (by kernel_rfl) (by decide) trivial (fun a => congrFun e_slices_Backward_int_int a)

/-! ### an iterator of slices.Backward -/
def k_bk_112 : KFun U := .bk 112 1 none
theorem s_bk_112 : KFun.Sound (U := U) Try.prog k_bk_112 := (⟨Try.f112, [], Try.func112, rfl, by kernel_rfl, by kernel_rfl, by kernel_rfl⟩ : FnOk Try.prog 112 19 (backSC 1 none) [])

/-! ### trustquorum/commit.accepts -/
def sa_commit_accepts : SA U :=
 (.seq
 (.reg
 (op 3 (.box (tm 0))
 (op 4 (.box (tm 1))
 (op 5 (.box (tm 2))
 (op 6 (.mov (.cst (.any)))
 .nil)))))
 (.seq
 (.reg
 (op 7 (.mkf 134 [(tm 3), (tm 4), (tm 5)])
 (op 6 (.mov (tm 7))
 .nil)))
 .ret))
theorem ok_commit_accepts : FnOk Try.prog 114 8 (SA.erase sa_commit_accepts) [.tmp 6] := ⟨Try.f114, [], Try.func114, rfl, by kernel_rfl, by kernel_rfl, by kernel_rfl⟩
noncomputable def F_commit_accepts (a0 : ByteArray) (a1 : Int) (a2 : Int) : Option (ByteArray × Int × Int × Unit) :=
 some (a0, a1, a2, ())
noncomputable def k_commit_accepts : KFun U := .fn 114 [.ty Ty.str, .ty (Ty.i .i64), .ty (Ty.i .i64)] (.fn (.clo 134 [.ref (.ty Ty.str), .ref (.ty (Ty.i .i64)), .ref (.ty (Ty.i .i64))])) fun a => F_commit_accepts a.1 a.2.1 a.2.2.1
theorem e_commit_accepts : fnK K [] sa_commit_accepts [.tmp 6] [.ty Ty.str, .ty (Ty.i .i64), .ty (Ty.i .i64)] (.fn (.clo 134 [.ref (.ty Ty.str), .ref (.ty (Ty.i .i64)), .ref (.ty (Ty.i .i64))])) = fun a => F_commit_accepts a.1 a.2.1 a.2.2.1 := by kernel_rfl
theorem s_commit_accepts : KFun.Sound (U := U) Try.prog k_commit_accepts := fnK_sound (K := K) (Γ := []) ok_commit_accepts (by kernel_rfl) (by decide) trivial (fun a => congrFun e_commit_accepts a)

/-! ### trustquorum/commit.ready$1 -/
def sa_commit_ready_1 : SA U :=
 (.seq
 (.reg
 (op 4 (.box (tm 0))
 (op 5 (.mov (.cst (.bool false)))
 .nil)))
 (.seq
 (.reg
 (op 6 (.load (some 15) (tm 4))
 (op 7 (.load none (tm 1))
 (op 8 (.load none (tm 2))
 (op 9 (.load none (tm 3))
 (op 10 (.call 47 [(tm 6), (tm 7), (tm 8), (tm 9)])
 (op 5 (.mov (tm 10))
 .nil)))))))
 .ret))
theorem ok_commit_ready_1 : FnOk Try.prog 113 11 (SA.erase sa_commit_ready_1) [.tmp 5] := ⟨Try.f113, [], Try.func113, rfl, by kernel_rfl, by kernel_rfl, by kernel_rfl⟩
noncomputable def F_commit_ready_1 (a0 : TRight) (a1 : ByteArray) (a2 : Int) (a3 : Int) : Option Bool :=
 Option.bind (F_envelopes_Right_VotesCommit (TRight.mk (TEnvelope.mk a0.Envelope.Node a0.Envelope.Slot a0.Envelope.Seq (TTrust.mk a0.Envelope.Trust.Threshold a0.Envelope.Trust.Nodes a0.Envelope.Trust.Inner) a0.Envelope.Kind a0.Envelope.Ballot a0.Envelope.Prepared a0.Envelope.Prime a0.Envelope.Low a0.Envelope.High)) a1 a2 a3) fun r1 =>
 some r1
noncomputable def k_commit_ready_1 : KFun U := .fn 113 [.ty (Ty.st .Right), .ref (.ty Ty.str), .ref (.ty (Ty.i .i64)), .ref (.ty (Ty.i .i64))] (.one Ty.bool) fun a => F_commit_ready_1 a.1 a.2.1 a.2.2.1 a.2.2.2.1
theorem e_commit_ready_1 : fnK K [k_envelopes_Right_VotesCommit] sa_commit_ready_1 [.tmp 5] [.ty (Ty.st .Right), .ref (.ty Ty.str), .ref (.ty (Ty.i .i64)), .ref (.ty (Ty.i .i64))] (.one Ty.bool) = fun a => F_commit_ready_1 a.1 a.2.1 a.2.2.1 a.2.2.2.1 := by kernel_rfl
theorem s_commit_ready_1 : KFun.Sound (U := U) Try.prog k_commit_ready_1 := fnK_sound (K := K) (Γ := [k_envelopes_Right_VotesCommit]) ok_commit_ready_1 (by kernel_rfl) (by decide) ⟨s_envelopes_Right_VotesCommit, trivial⟩ (fun a => congrFun e_commit_ready_1 a)

/-! ### trustquorum/commit.accepts$1 -/
def sa_commit_accepts_1 : SA U :=
 (.seq
 (.reg
 (op 4 (.box (tm 0))
 (op 5 (.mov (.cst (.bool false)))
 .nil)))
 (.seq
 (.reg
 (op 6 (.load (some 15) (tm 4))
 (op 7 (.load none (tm 1))
 (op 8 (.load none (tm 2))
 (op 9 (.load none (tm 3))
 (op 10 (.call 57 [(tm 6), (tm 7), (tm 8), (tm 9)])
 (op 5 (.mov (tm 10))
 .nil)))))))
 .ret))
theorem ok_commit_accepts_1 : FnOk Try.prog 134 11 (SA.erase sa_commit_accepts_1) [.tmp 5] := ⟨Try.f134, [], Try.func134, rfl, by kernel_rfl, by kernel_rfl, by kernel_rfl⟩
noncomputable def F_commit_accepts_1 (a0 : TRight) (a1 : ByteArray) (a2 : Int) (a3 : Int) : Option Bool :=
 Option.bind (F_envelopes_Right_AcceptsCommit (TRight.mk (TEnvelope.mk a0.Envelope.Node a0.Envelope.Slot a0.Envelope.Seq (TTrust.mk a0.Envelope.Trust.Threshold a0.Envelope.Trust.Nodes a0.Envelope.Trust.Inner) a0.Envelope.Kind a0.Envelope.Ballot a0.Envelope.Prepared a0.Envelope.Prime a0.Envelope.Low a0.Envelope.High)) a1 a2 a3) fun r1 =>
 some r1
noncomputable def k_commit_accepts_1 : KFun U := .fn 134 [.ty (Ty.st .Right), .ref (.ty Ty.str), .ref (.ty (Ty.i .i64)), .ref (.ty (Ty.i .i64))] (.one Ty.bool) fun a => F_commit_accepts_1 a.1 a.2.1 a.2.2.1 a.2.2.2.1
theorem e_commit_accepts_1 : fnK K [k_envelopes_Right_AcceptsCommit] sa_commit_accepts_1 [.tmp 5] [.ty (Ty.st .Right), .ref (.ty Ty.str), .ref (.ty (Ty.i .i64)), .ref (.ty (Ty.i .i64))] (.one Ty.bool) = fun a => F_commit_accepts_1 a.1 a.2.1 a.2.2.1 a.2.2.2.1 := by kernel_rfl
theorem s_commit_accepts_1 : KFun.Sound (U := U) Try.prog k_commit_accepts_1 := fnK_sound (K := K) (Γ := [k_envelopes_Right_AcceptsCommit]) ok_commit_accepts_1 (by kernel_rfl) (by decide) ⟨s_envelopes_Right_AcceptsCommit, trivial⟩ (fun a => congrFun e_commit_accepts_1 a)

/-! ### (trustquorum/prepare.Seen).Accepts$1 -/
def sa_prepare_Seen_Accepts_1_c113_c134 : SA U :=
 (.seq
 (.reg
 (op 3 (.box (tm 0))
 (op 4 (.mov (.cst (.bool false)))
 .nil)))
 (.seq
 (.reg
 (op 5 (.load none (tm 1))
 (op 6 (.load (some 15) (tm 3))
 (op 7 (.callv (tm 5) [(tm 6)])
 (op 8 (.mov (tm 7))
 (.ite 8 false
 (opg 9 8 false (.load none (tm 2))
 (opg 10 8 false (.load (some 15) (tm 3))
 (opg 11 8 false (.callv (tm 9) [(tm 10)])
 .nil)))
 12 none (.cst (.bool true)) (tm 11)
 (op 4 (.mov (tm 12))
 .nil)))))))
 .ret))
theorem ok_prepare_Seen_Accepts_1_c113_c134 : FnOk Try.prog 125 13 (SA.erase sa_prepare_Seen_Accepts_1_c113_c134) [.tmp 4] := ⟨Try.f125, [], Try.func125, rfl, by kernel_rfl, by kernel_rfl, by kernel_rfl⟩
noncomputable def F_prepare_Seen_Accepts_1_c113_c134 (a0 : TRight) (a1 : ByteArray) (a2 : Int) (a3 : Int) (a4 : ByteArray) (a5 : Int) (a6 : Int) : Option Bool :=
 Option.bind (F_commit_ready_1 (TRight.mk (TEnvelope.mk a0.Envelope.Node a0.Envelope.Slot a0.Envelope.Seq (TTrust.mk a0.Envelope.Trust.Threshold a0.Envelope.Trust.Nodes a0.Envelope.Trust.Inner) a0.Envelope.Kind a0.Envelope.Ballot a0.Envelope.Prepared a0.Envelope.Prime a0.Envelope.Low a0.Envelope.High)) a1 a2 a3) fun r1 =>
 Option.bind (bif r1 then some true
 else
 Option.bind (F_commit_accepts_1 (TRight.mk (TEnvelope.mk a0.Envelope.Node a0.Envelope.Slot a0.Envelope.Seq (TTrust.mk a0.Envelope.Trust.Threshold a0.Envelope.Trust.Nodes a0.Envelope.Trust.Inner) a0.Envelope.Kind a0.Envelope.Ballot a0.Envelope.Prepared a0.Envelope.Prime a0.Envelope.Low a0.Envelope.High)) a4 a5 a6) fun r2 =>
 some r2) fun b3 =>
 some b3
noncomputable def k_prepare_Seen_Accepts_1_c113_c134 : KFun U := .fn 125 [.ty (Ty.st .Right), .ref (.clo 113 [.ref (.ty Ty.str), .ref (.ty (Ty.i .i64)), .ref (.ty (Ty.i .i64))]), .ref (.clo 134 [.ref (.ty Ty.str), .ref (.ty (Ty.i .i64)), .ref (.ty (Ty.i .i64))])] (.one Ty.bool) fun a => F_prepare_Seen_Accepts_1_c113_c134 a.1 a.2.1.1 a.2.1.2.1 a.2.1.2.2.1 a.2.2.1.1 a.2.2.1.2.1 a.2.2.1.2.2.1
theorem e_prepare_Seen_Accepts_1_c113_c134 : fnK K [k_commit_ready_1, k_commit_accepts_1] sa_prepare_Seen_Accepts_1_c113_c134 [.tmp 4] [.ty (Ty.st .Right), .ref (.clo 113 [.ref (.ty Ty.str), .ref (.ty (Ty.i .i64)), .ref (.ty (Ty.i .i64))]), .ref (.clo 134 [.ref (.ty Ty.str), .ref (.ty (Ty.i .i64)), .ref (.ty (Ty.i .i64))])] (.one Ty.bool) = fun a => F_prepare_Seen_Accepts_1_c113_c134 a.1 a.2.1.1 a.2.1.2.1 a.2.1.2.2.1 a.2.2.1.1 a.2.2.1.2.1 a.2.2.1.2.2.1 := by kernel_rfl
theorem s_prepare_Seen_Accepts_1_c113_c134 : KFun.Sound (U := U) Try.prog k_prepare_Seen_Accepts_1_c113_c134 := fnK_sound (K := K) (Γ := [k_commit_ready_1, k_commit_accepts_1]) ok_prepare_Seen_Accepts_1_c113_c134 (by kernel_rfl) (by decide) ⟨s_commit_ready_1, s_commit_accepts_1, trivial⟩ (fun a => congrFun e_prepare_Seen_Accepts_1_c113_c134 a)

/-! ### (trustquorum/prepare.Seen).Who -/
def sa_prepare_Seen_Who_c125_c113_c134 : SA U :=
 (.seq
 (.reg
 (op 2 (.box (tm 0))
 (op 4 (.mov (ci 0))
 .nil)))
 (.seq
 (.reg
 (op 5 (.mov (ci 0))
 .nil))
 (.seq
 (.seq
 (.reg
 (op 8 (.faddr 2 (tm 2))
 (op 9 (.load none (tm 8))
 (op 10 (.len false (tm 9))
 (op 11 (.mov (ci 0))
 .nil)))))
 (.block 0
 (.loop ⟨[.val 5 (Ty.i .i64), .val 11 (Ty.i .i64)], [1, 9, 10]⟩
 (.seq
 (.reg
 (op 12 (.bin .lss (tm 11) (tm 10))
 .nil))
 (.seq
 (.cond (tm 12)
 .skip
 (.exit 0))
 (.join ⟨[.val 5 (Ty.i .i64)], [1, 9, 10, 11]⟩
 (.block 1
 (.seq
 (.reg
 (op 13 (.iaddr 15 (tm 9) (tm 11))
 (op 14 (.load (some 15) (tm 13))
 (op 7 (.alloc [.int .i64 0, .int .i64 0, .int .i64 0, .int .i64 0, .nils, .nils, .int .i64 0, .int .i64 0, .str ⟨#[]⟩, .int .i64 0, .str ⟨#[]⟩, .int .i64 0, .str ⟨#[]⟩, .int .i64 0, .int .i64 0])
 (ops (.store 15 (tm 7) (tm 14))
 .nil)))))
 (.seq
 (.reg
 (op 15 (.mov (tm 1))
 (op 16 (.load (some 15) (tm 7))
 (op 17 (.callv (tm 15) [(tm 16)])
 .nil))))
 (.cond (tm 17)
 (.reg
 (op 18 (.mov (tm 5))
 (op 19 (.faddr 0 (tm 7))
 (op 20 (.faddr 0 (tm 19))
 (op 21 (.load none (tm 20))
 (op 22 (.bin .shl (ci 1) (tm 21))
 (op 23 (.bin .or (tm 18) (tm 22))
 (op 5 (.mov (tm 23))
 .nil))))))))
 .skip))))
 (.reg
 (op 24 (.bin .add (tm 11) (ci 1))
 (op 11 (.mov (tm 24))
 .nil)))))))))
 (.seq
 (.reg
 (op 25 (.mov (tm 5))
 (op 4 (.mov (tm 25))
 .nil)))
 .ret))))
theorem ok_prepare_Seen_Who_c125_c113_c134 : FnOk Try.prog 108 26 (SA.erase sa_prepare_Seen_Who_c125_c113_c134) [.tmp 4] := ⟨Try.f108, [], Try.func108, rfl, by kernel_rfl, by kernel_rfl, by kernel_rfl⟩
noncomputable def F_prepare_Seen_Who_c125_c113_c134 (a0 : TSeen) (a1 : ByteArray) (a2 : Int) (a3 : Int) (a4 : ByteArray) (a5 : Int) (a6 : Int) : Option Int :=
 loopO (fun (v1 : Int × Int × Unit) =>
 bif (decide (v1.2.1 < ((List.length a0.Heard : Nat) : Int))) then
 letJ (fun (v2 : Int × Unit) =>
 some (Sum.inl (v2.1, (addI .i64 v1.2.1 (1 : Int)), ()))) fun j3 =>
 Option.bind (idx a0.Heard v1.2.1) fun x4 =>
 Option.bind (F_prepare_Seen_Accepts_1_c113_c134 (TRight.mk (TEnvelope.mk x4.Envelope.Node x4.Envelope.Slot x4.Envelope.Seq (TTrust.mk x4.Envelope.Trust.Threshold x4.Envelope.Trust.Nodes x4.Envelope.Trust.Inner) x4.Envelope.Kind x4.Envelope.Ballot x4.Envelope.Prepared x4.Envelope.Prime x4.Envelope.Low x4.Envelope.High)) a1 a2 a3 a4 a5 a6) fun r5 =>
 bif r5 then
 if x4.Envelope.Node < 0 then none else
 j3 ((orI .i64 v1.1 (shlI .i64 (1 : Int) x4.Envelope.Node)), ())
 else
 j3 (v1.1, ())
 else
 Option.map Sum.inr (some v1.1)) ((0 : Int), (0 : Int), ())
noncomputable def k_prepare_Seen_Who_c125_c113_c134 : KFun U := .fn 108 [.ty (Ty.st .Seen), .clo 125 [.ref (.clo 113 [.ref (.ty Ty.str), .ref (.ty (Ty.i .i64)), .ref (.ty (Ty.i .i64))]), .ref (.clo 134 [.ref (.ty Ty.str), .ref (.ty (Ty.i .i64)), .ref (.ty (Ty.i .i64))])]] (.one (Ty.i .i64)) fun a => F_prepare_Seen_Who_c125_c113_c134 a.1 a.2.1.1.1 a.2.1.1.2.1 a.2.1.1.2.2.1 a.2.1.2.1.1 a.2.1.2.1.2.1 a.2.1.2.1.2.2.1
theorem e_prepare_Seen_Who_c125_c113_c134 : fnK K [k_prepare_Seen_Accepts_1_c113_c134] sa_prepare_Seen_Who_c125_c113_c134 [.tmp 4] [.ty (Ty.st .Seen), .clo 125 [.ref (.clo 113 [.ref (.ty Ty.str), .ref (.ty (Ty.i .i64)), .ref (.ty (Ty.i .i64))]), .ref (.clo 134 [.ref (.ty Ty.str), .ref (.ty (Ty.i .i64)), .ref (.ty (Ty.i .i64))])]] (.one (Ty.i .i64)) = fun a => F_prepare_Seen_Who_c125_c113_c134 a.1 a.2.1.1.1 a.2.1.1.2.1 a.2.1.1.2.2.1 a.2.1.2.1.1 a.2.1.2.1.2.1 a.2.1.2.1.2.2.1 := by kernel_rfl
theorem s_prepare_Seen_Who_c125_c113_c134 : KFun.Sound (U := U) Try.prog k_prepare_Seen_Who_c125_c113_c134 := fnK_sound (K := K) (Γ := [k_prepare_Seen_Accepts_1_c113_c134]) ok_prepare_Seen_Who_c125_c113_c134 (by kernel_rfl) (by decide) ⟨s_prepare_Seen_Accepts_1_c113_c134, trivial⟩ (fun a => congrFun e_prepare_Seen_Who_c125_c113_c134 a)

/-! ### (trustquorum/prepare.Seen).Who -/
def sa_prepare_Seen_Who_c134 : SA U :=
 (.seq
 (.reg
 (op 2 (.box (tm 0))
 (op 4 (.mov (ci 0))
 .nil)))
 (.seq
 (.reg
 (op 5 (.mov (ci 0))
 .nil))
 (.seq
 (.seq
 (.reg
 (op 8 (.faddr 2 (tm 2))
 (op 9 (.load none (tm 8))
 (op 10 (.len false (tm 9))
 (op 11 (.mov (ci 0))
 .nil)))))
 (.block 0
 (.loop ⟨[.val 5 (Ty.i .i64), .val 11 (Ty.i .i64)], [1, 9, 10]⟩
 (.seq
 (.reg
 (op 12 (.bin .lss (tm 11) (tm 10))
 .nil))
 (.seq
 (.cond (tm 12)
 .skip
 (.exit 0))
 (.join ⟨[.val 5 (Ty.i .i64)], [1, 9, 10, 11]⟩
 (.block 1
 (.seq
 (.reg
 (op 13 (.iaddr 15 (tm 9) (tm 11))
 (op 14 (.load (some 15) (tm 13))
 (op 7 (.alloc [.int .i64 0, .int .i64 0, .int .i64 0, .int .i64 0, .nils, .nils, .int .i64 0, .int .i64 0, .str ⟨#[]⟩, .int .i64 0, .str ⟨#[]⟩, .int .i64 0, .str ⟨#[]⟩, .int .i64 0, .int .i64 0])
 (ops (.store 15 (tm 7) (tm 14))
 .nil)))))
 (.seq
 (.reg
 (op 15 (.mov (tm 1))
 (op 16 (.load (some 15) (tm 7))
 (op 17 (.callv (tm 15) [(tm 16)])
 .nil))))
 (.cond (tm 17)
 (.reg
 (op 18 (.mov (tm 5))
 (op 19 (.faddr 0 (tm 7))
 (op 20 (.faddr 0 (tm 19))
 (op 21 (.load none (tm 20))
 (op 22 (.bin .shl (ci 1) (tm 21))
 (op 23 (.bin .or (tm 18) (tm 22))
 (op 5 (.mov (tm 23))
 .nil))))))))
 .skip))))
 (.reg
 (op 24 (.bin .add (tm 11) (ci 1))
 (op 11 (.mov (tm 24))
 .nil)))))))))
 (.seq
 (.reg
 (op 25 (.mov (tm 5))
 (op 4 (.mov (tm 25))
 .nil)))
 .ret))))
theorem ok_prepare_Seen_Who_c134 : FnOk Try.prog 108 26 (SA.erase sa_prepare_Seen_Who_c134) [.tmp 4] := ⟨Try.f108, [], Try.func108, rfl, by kernel_rfl, by kernel_rfl, by kernel_rfl⟩
noncomputable def F_prepare_Seen_Who_c134 (a0 : TSeen) (a1 : ByteArray) (a2 : Int) (a3 : Int) : Option Int :=
 loopO (fun (v1 : Int × Int × Unit) =>
 bif (decide (v1.2.1 < ((List.length a0.Heard : Nat) : Int))) then
 letJ (fun (v2 : Int × Unit) =>
 some (Sum.inl (v2.1, (addI .i64 v1.2.1 (1 : Int)), ()))) fun j3 =>
 Option.bind (idx a0.Heard v1.2.1) fun x4 =>
 Option.bind (F_commit_accepts_1 (TRight.mk (TEnvelope.mk x4.Envelope.Node x4.Envelope.Slot x4.Envelope.Seq (TTrust.mk x4.Envelope.Trust.Threshold x4.Envelope.Trust.Nodes x4.Envelope.Trust.Inner) x4.Envelope.Kind x4.Envelope.Ballot x4.Envelope.Prepared x4.Envelope.Prime x4.Envelope.Low x4.Envelope.High)) a1 a2 a3) fun r5 =>
 bif r5 then
 if x4.Envelope.Node < 0 then none else
 j3 ((orI .i64 v1.1 (shlI .i64 (1 : Int) x4.Envelope.Node)), ())
 else
 j3 (v1.1, ())
 else
 Option.map Sum.inr (some v1.1)) ((0 : Int), (0 : Int), ())
noncomputable def k_prepare_Seen_Who_c134 : KFun U := .fn 108 [.ty (Ty.st .Seen), .clo 134 [.ref (.ty Ty.str), .ref (.ty (Ty.i .i64)), .ref (.ty (Ty.i .i64))]] (.one (Ty.i .i64)) fun a => F_prepare_Seen_Who_c134 a.1 a.2.1.1 a.2.1.2.1 a.2.1.2.2.1
theorem e_prepare_Seen_Who_c134 : fnK K [k_commit_accepts_1] sa_prepare_Seen_Who_c134 [.tmp 4] [.ty (Ty.st .Seen), .clo 134 [.ref (.ty Ty.str), .ref (.ty (Ty.i .i64)), .ref (.ty (Ty.i .i64))]] (.one (Ty.i .i64)) = fun a => F_prepare_Seen_Who_c134 a.1 a.2.1.1 a.2.1.2.1 a.2.1.2.2.1 := by kernel_rfl
theorem s_prepare_Seen_Who_c134 : KFun.Sound (U := U) Try.prog k_prepare_Seen_Who_c134 := fnK_sound (K := K) (Γ := [k_commit_accepts_1]) ok_prepare_Seen_Who_c134 (by kernel_rfl) (by decide) ⟨s_commit_accepts_1, trivial⟩ (fun a => congrFun e_prepare_Seen_Who_c134 a)

/-! ### (trustquorum/prepare.Seen).Accepts -/
def sa_prepare_Seen_Accepts_c113_c134 : SA U :=
 (.seq
 (.reg
 (op 3 (.box (tm 0))
 (op 4 (.box (tm 1))
 (op 5 (.box (tm 2))
 (op 6 (.mov (.cst (.bool false)))
 .nil)))))
 (.seq
 (.reg
 (op 8 (.load (some 3) (tm 3))
 (op 9 (.mkf 125 [(tm 4), (tm 5)])
 (op 10 (.call 108 [(tm 8), (tm 9)])
 (op 7 (.mov (tm 10))
 .nil)))))
 (.seq
 (.drw [(0, 2), (1, 2), (0, 3), (1, 3), (0, 5), (1, 5), (2, 5), (3, 5), (0, 6), (1, 6), (2, 6), (3, 6), (5, 6), (0, 7), (1, 7), (2, 7), (3, 7)]
 (op 11 (.faddr 1 (tm 3))
 (op 12 (.load (some 1) (tm 11))
 (op 13 (.faddr 0 (tm 3))
 (op 14 (.load none (tm 13))
 (op 15 (.mov (tm 7))
 (op 16 (.load (some 3) (tm 3))
 (op 17 (.load none (tm 5))
 (op 18 (.call 108 [(tm 16), (tm 17)])
 (op 19 (.call 126 [(tm 12), (tm 14), (tm 15), (tm 18)])
 (op 6 (.mov (tm 19))
 .nil)))))))))))
 .ret)))
theorem ok_prepare_Seen_Accepts_c113_c134 : FnOk Try.prog 101 20 (SA.erase sa_prepare_Seen_Accepts_c113_c134) [.tmp 6] := ⟨Try.f101, [], Try.func101, rfl, by kernel_rfl, by kernel_rfl, by kernel_rfl⟩
noncomputable def F_prepare_Seen_Accepts_c113_c134 (a0 : TSeen) (a1 : ByteArray) (a2 : Int) (a3 : Int) (a4 : ByteArray) (a5 : Int) (a6 : Int) : Option Bool :=
 Option.bind (F_prepare_Seen_Who_c125_c113_c134 a0 a1 a2 a3 a4 a5 a6) fun r1 =>
 Option.bind (F_prepare_Seen_Who_c134 a0 a4 a5 a6) fun r2 =>
 Option.bind (F_federated_Accepts a0.View a0.Node r1 r2) fun r3 =>
 some r3
noncomputable def k_prepare_Seen_Accepts_c113_c134 : KFun U := .fn 101 [.ty (Ty.st .Seen), .clo 113 [.ref (.ty Ty.str), .ref (.ty (Ty.i .i64)), .ref (.ty (Ty.i .i64))], .clo 134 [.ref (.ty Ty.str), .ref (.ty (Ty.i .i64)), .ref (.ty (Ty.i .i64))]] (.one Ty.bool) fun a => F_prepare_Seen_Accepts_c113_c134 a.1 a.2.1.1 a.2.1.2.1 a.2.1.2.2.1 a.2.2.1.1 a.2.2.1.2.1 a.2.2.1.2.2.1
theorem e_prepare_Seen_Accepts_c113_c134 : fnK K [k_prepare_Seen_Who_c125_c113_c134, k_prepare_Seen_Who_c134, k_federated_Accepts] sa_prepare_Seen_Accepts_c113_c134 [.tmp 6] [.ty (Ty.st .Seen), .clo 113 [.ref (.ty Ty.str), .ref (.ty (Ty.i .i64)), .ref (.ty (Ty.i .i64))], .clo 134 [.ref (.ty Ty.str), .ref (.ty (Ty.i .i64)), .ref (.ty (Ty.i .i64))]] (.one Ty.bool) = fun a => F_prepare_Seen_Accepts_c113_c134 a.1 a.2.1.1 a.2.1.2.1 a.2.1.2.2.1 a.2.2.1.1 a.2.2.1.2.1 a.2.2.1.2.2.1 := by kernel_rfl
theorem s_prepare_Seen_Accepts_c113_c134 : KFun.Sound (U := U) Try.prog k_prepare_Seen_Accepts_c113_c134 := fnK_sound (K := K) (Γ := [k_prepare_Seen_Who_c125_c113_c134, k_prepare_Seen_Who_c134, k_federated_Accepts]) ok_prepare_Seen_Accepts_c113_c134 (by kernel_rfl) (by decide) ⟨s_prepare_Seen_Who_c125_c113_c134, s_prepare_Seen_Who_c134, s_federated_Accepts, trivial⟩ (fun a => congrFun e_prepare_Seen_Accepts_c113_c134 a)

/-! ### trustquorum/commit.ready -/
def sa_commit_ready : SA U :=
 (.seq
 (.reg
 (op 4 (.box (tm 0))
 (op 5 (.box (tm 1))
 (op 6 (.box (tm 2))
 (op 7 (.box (tm 3))
 (op 8 (.mov (.cst (.bool false)))
 .nil))))))
 (.seq
 (.drw [(0, 2), (0, 3), (2, 3), (0, 4), (2, 4), (3, 4), (0, 5)]
 (op 9 (.load (some 3) (tm 4))
 (op 10 (.mkf 113 [(tm 5), (tm 6), (tm 7)])
 (op 11 (.load none (tm 5))
 (op 12 (.load none (tm 6))
 (op 13 (.load none (tm 7))
 (op 14 (.call 114 [(tm 11), (tm 12), (tm 13)])
 (op 15 (.call 101 [(tm 9), (tm 10), (tm 14)])
 (op 8 (.mov (tm 15))
 .nil)))))))))
 .ret))
theorem ok_commit_ready : FnOk Try.prog 79 16 (SA.erase sa_commit_ready) [.tmp 8] := ⟨Try.f79, [], Try.func79, rfl, by kernel_rfl, by kernel_rfl, by kernel_rfl⟩
noncomputable def F_commit_ready (a0 : TSeen) (a1 : ByteArray) (a2 : Int) (a3 : Int) : Option Bool :=
 Option.bind (F_commit_accepts a1 a2 a3) fun r1 =>
 Option.bind (F_prepare_Seen_Accepts_c113_c134 a0 a1 a2 a3 r1.1 r1.2.1 r1.2.2.1) fun r2 =>
 some r2
noncomputable def k_commit_ready : KFun U := .fn 79 [.ty (Ty.st .Seen), .ty Ty.str, .ty (Ty.i .i64), .ty (Ty.i .i64)] (.one Ty.bool) fun a => F_commit_ready a.1 a.2.1 a.2.2.1 a.2.2.2.1
theorem e_commit_ready : fnK K [k_commit_accepts, k_prepare_Seen_Accepts_c113_c134] sa_commit_ready [.tmp 8] [.ty (Ty.st .Seen), .ty Ty.str, .ty (Ty.i .i64), .ty (Ty.i .i64)] (.one Ty.bool) = fun a => F_commit_ready a.1 a.2.1 a.2.2.1 a.2.2.2.1 := by kernel_rfl
theorem s_commit_ready : KFun.Sound (U := U) Try.prog k_commit_ready := fnK_sound (K := K) (Γ := [k_commit_accepts, k_prepare_Seen_Accepts_c113_c134]) ok_commit_ready (by kernel_rfl) (by decide) ⟨s_commit_accepts, s_prepare_Seen_Accepts_c113_c134, trivial⟩ (fun a => congrFun e_commit_ready a)

/-! ### trustquorum/commit.Extend$1 -/
def sa_commit_Extend_1 : SA U :=
 (.seq
 (.reg
 (op 5 (.mov (.cst (.bool false)))
 .nil))
 (.seq
 (.reg
 (op 6 (.load (some 3) (tm 1))
 (op 7 (.load none (tm 2))
 (op 8 (.mov (tm 0))
 (op 9 (.load none (tm 3))
 (op 10 (.call 79 [(tm 6), (tm 7), (tm 8), (tm 9)])
 (op 5 (.mov (tm 10))
 .nil)))))))
 .ret))
theorem ok_commit_Extend_1 : FnOk Try.prog 81 11 (SA.erase sa_commit_Extend_1) [.tmp 5] := ⟨Try.f81, [], Try.func81, rfl, by kernel_rfl, by kernel_rfl, by kernel_rfl⟩
noncomputable def F_commit_Extend_1 (a0 : Int) (a1 : TSeen) (a2 : ByteArray) (a3 : Int) : Option Bool :=
 Option.bind (F_commit_ready a1 a2 a0 a3) fun r1 =>
 some r1
noncomputable def k_commit_Extend_1 : KFun U := .fn 81 [.ty (Ty.i .i64), .ref (.ty (Ty.st .Seen)), .ref (.ty Ty.str), .ref (.ty (Ty.i .i64))] (.one Ty.bool) fun a => F_commit_Extend_1 a.1 a.2.1 a.2.2.1 a.2.2.2.1
theorem e_commit_Extend_1 : fnK K [k_commit_ready] sa_commit_Extend_1 [.tmp 5] [.ty (Ty.i .i64), .ref (.ty (Ty.st .Seen)), .ref (.ty Ty.str), .ref (.ty (Ty.i .i64))] (.one Ty.bool) = fun a => F_commit_Extend_1 a.1 a.2.1 a.2.2.1 a.2.2.2.1 := by kernel_rfl
theorem s_commit_Extend_1 : KFun.Sound (U := U) Try.prog k_commit_Extend_1 := fnK_sound (K := K) (Γ := [k_commit_ready]) ok_commit_Extend_1 (by kernel_rfl) (by decide) ⟨s_commit_ready, trivial⟩ (fun a => congrFun e_commit_Extend_1 a)

/-! ### trustquorum/commit.downward -/
def sa_commit_downward_c81 : SA U :=
 (.seq
 (.reg
 (op 4 (.box (tm 1))
 (op 5 (.box (tm 2))
 (op 6 (.mov (ci 0))
 .nil))))
 (.join ⟨[.box 0 1 (Ty.i .i64) []], [4]⟩
 (.seq
 (.reg
 (op 9 (.mov (tm 0))
 (op 10 (.call 78 [(tm 9)])
 .nil)))
 (.block 0
 (.back ⟨[.box 0 1 (Ty.i .i64) []], [4, 5, 10]⟩ 112 1 none (Ty.i .i64) 10 11 12
 (.reg
 (op 8 (.mov (tm 12))
 .nil))
 (.block 1
 (.seq
 (.seq
 (.reg
 (op 13 (.mov (tm 8))
 (op 14 (.load none (tm 4))
 (op 15 (.bin .geq (tm 13) (tm 14))
 .nil))))
 (.cond (tm 15)
 (.exit 1)
 .skip))
 (.seq
 (.seq
 (.reg
 (op 16 (.load none (tm 5))
 (op 17 (.mov (tm 8))
 (op 18 (.callv (tm 16) [(tm 17)])
 (op 19 (.not (tm 18))
 .nil)))))
 (.cond (tm 19)
 (.exit 0)
 .skip))
 (.reg
 (op 20 (.mov (tm 8))
 (ops (.store 1 (tm 4) (tm 20))
 .nil)))))))))
 (.seq
 (.reg
 (op 21 (.load none (tm 4))
 (op 6 (.mov (tm 21))
 .nil)))
 .ret)))
theorem ok_commit_downward_c81 : FnOk Try.prog 80 22 (SA.erase sa_commit_downward_c81) [.tmp 6] := ⟨Try.f80, [], Try.func80, rfl, by kernel_rfl, by kernel_rfl, by kernel_rfl⟩
noncomputable def F_commit_downward_c81 (a0 : (List Int)) (a1 : Int) (a2 : TSeen) (a3 : ByteArray) (a4 : Int) : Option Int :=
 letJ (fun (v1 : Int × Unit) =>
 some v1.1) fun j2 =>
 Option.bind (F_slices_Backward_int_int a0) fun r3 =>
 backO (fun (m5 : Nat) (e6 : Int) (v4 : Int × Unit) =>
 bif (decide (v4.1 ≤ e6)) then
 some (Sum.inl (v4.1, ()))
 else
 Option.bind (F_commit_Extend_1 e6 a2 a3 a4) fun r7 =>
 bif (!r7) then
 Option.map Sum.inr (j2 (v4.1, ()))
 else
 some (Sum.inl (e6, ()))) (fun (v8 : Int × Unit) =>
 j2 (v8.1, ())) (List.reverse r3.1) (a1, ())
noncomputable def k_commit_downward_c81 : KFun U := .fn 80 [.ty (Ty.sl (Ty.i .i64)), .ty (Ty.i .i64), .clo 81 [.ref (.ty (Ty.st .Seen)), .ref (.ty Ty.str), .ref (.ty (Ty.i .i64))]] (.one (Ty.i .i64)) fun a => F_commit_downward_c81 a.1 a.2.1 a.2.2.1.1 a.2.2.1.2.1 a.2.2.1.2.2.1
theorem e_commit_downward_c81 : fnK K [k_slices_Backward_int_int, k_bk_112, k_commit_Extend_1] sa_commit_downward_c81 [.tmp 6] [.ty (Ty.sl (Ty.i .i64)), .ty (Ty.i .i64), .clo 81 [.ref (.ty (Ty.st .Seen)), .ref (.ty Ty.str), .ref (.ty (Ty.i .i64))]] (.one (Ty.i .i64)) = fun a => F_commit_downward_c81 a.1 a.2.1 a.2.2.1.1 a.2.2.1.2.1 a.2.2.1.2.2.1 := by kernel_rfl
theorem s_commit_downward_c81 : KFun.Sound (U := U) Try.prog k_commit_downward_c81 := fnK_sound (K := K) (Γ := [k_slices_Backward_int_int, k_bk_112, k_commit_Extend_1]) ok_commit_downward_c81 (by kernel_rfl) (by decide) ⟨s_slices_Backward_int_int, s_bk_112, s_commit_Extend_1, trivial⟩ (fun a => congrFun e_commit_downward_c81 a)

/-! ### trustquorum/commit.Extend$2 -/
def sa_commit_Extend_2 : SA U :=
 (.seq
 (.reg
 (op 5 (.mov (.cst (.bool false)))
 .nil))
 (.seq
 (.reg
 (op 6 (.load (some 3) (tm 1))
 (op 7 (.load none (tm 2))
 (op 8 (.mov (tm 0))
 (op 9 (.load none (tm 3))
 (op 10 (.call 79 [(tm 6), (tm 7), (tm 8), (tm 9)])
 (op 5 (.mov (tm 10))
 .nil)))))))
 .ret))
theorem ok_commit_Extend_2 : FnOk Try.prog 82 11 (SA.erase sa_commit_Extend_2) [.tmp 5] := ⟨Try.f82, [], Try.func82, rfl, by kernel_rfl, by kernel_rfl, by kernel_rfl⟩
noncomputable def F_commit_Extend_2 (a0 : Int) (a1 : TSeen) (a2 : ByteArray) (a3 : Int) : Option Bool :=
 Option.bind (F_commit_ready a1 a2 a0 a3) fun r1 =>
 some r1
noncomputable def k_commit_Extend_2 : KFun U := .fn 82 [.ty (Ty.i .i64), .ref (.ty (Ty.st .Seen)), .ref (.ty Ty.str), .ref (.ty (Ty.i .i64))] (.one Ty.bool) fun a => F_commit_Extend_2 a.1 a.2.1 a.2.2.1 a.2.2.2.1
theorem e_commit_Extend_2 : fnK K [k_commit_ready] sa_commit_Extend_2 [.tmp 5] [.ty (Ty.i .i64), .ref (.ty (Ty.st .Seen)), .ref (.ty Ty.str), .ref (.ty (Ty.i .i64))] (.one Ty.bool) = fun a => F_commit_Extend_2 a.1 a.2.1 a.2.2.1 a.2.2.2.1 := by kernel_rfl
theorem s_commit_Extend_2 : KFun.Sound (U := U) Try.prog k_commit_Extend_2 := fnK_sound (K := K) (Γ := [k_commit_ready]) ok_commit_Extend_2 (by kernel_rfl) (by decide) ⟨s_commit_ready, trivial⟩ (fun a => congrFun e_commit_Extend_2 a)

/-! ### trustquorum/commit.downward -/
def sa_commit_downward_c82 : SA U :=
 (.seq
 (.reg
 (op 4 (.box (tm 1))
 (op 5 (.box (tm 2))
 (op 6 (.mov (ci 0))
 .nil))))
 (.join ⟨[.box 0 1 (Ty.i .i64) []], [4]⟩
 (.seq
 (.reg
 (op 9 (.mov (tm 0))
 (op 10 (.call 78 [(tm 9)])
 .nil)))
 (.block 0
 (.back ⟨[.box 0 1 (Ty.i .i64) []], [4, 5, 10]⟩ 112 1 none (Ty.i .i64) 10 11 12
 (.reg
 (op 8 (.mov (tm 12))
 .nil))
 (.block 1
 (.seq
 (.seq
 (.reg
 (op 13 (.mov (tm 8))
 (op 14 (.load none (tm 4))
 (op 15 (.bin .geq (tm 13) (tm 14))
 .nil))))
 (.cond (tm 15)
 (.exit 1)
 .skip))
 (.seq
 (.seq
 (.reg
 (op 16 (.load none (tm 5))
 (op 17 (.mov (tm 8))
 (op 18 (.callv (tm 16) [(tm 17)])
 (op 19 (.not (tm 18))
 .nil)))))
 (.cond (tm 19)
 (.exit 0)
 .skip))
 (.reg
 (op 20 (.mov (tm 8))
 (ops (.store 1 (tm 4) (tm 20))
 .nil)))))))))
 (.seq
 (.reg
 (op 21 (.load none (tm 4))
 (op 6 (.mov (tm 21))
 .nil)))
 .ret)))
theorem ok_commit_downward_c82 : FnOk Try.prog 80 22 (SA.erase sa_commit_downward_c82) [.tmp 6] := ⟨Try.f80, [], Try.func80, rfl, by kernel_rfl, by kernel_rfl, by kernel_rfl⟩
noncomputable def F_commit_downward_c82 (a0 : (List Int)) (a1 : Int) (a2 : TSeen) (a3 : ByteArray) (a4 : Int) : Option Int :=
 letJ (fun (v1 : Int × Unit) =>
 some v1.1) fun j2 =>
 Option.bind (F_slices_Backward_int_int a0) fun r3 =>
 backO (fun (m5 : Nat) (e6 : Int) (v4 : Int × Unit) =>
 bif (decide (v4.1 ≤ e6)) then
 some (Sum.inl (v4.1, ()))
 else
 Option.bind (F_commit_Extend_2 e6 a2 a3 a4) fun r7 =>
 bif (!r7) then
 Option.map Sum.inr (j2 (v4.1, ()))
 else
 some (Sum.inl (e6, ()))) (fun (v8 : Int × Unit) =>
 j2 (v8.1, ())) (List.reverse r3.1) (a1, ())
noncomputable def k_commit_downward_c82 : KFun U := .fn 80 [.ty (Ty.sl (Ty.i .i64)), .ty (Ty.i .i64), .clo 82 [.ref (.ty (Ty.st .Seen)), .ref (.ty Ty.str), .ref (.ty (Ty.i .i64))]] (.one (Ty.i .i64)) fun a => F_commit_downward_c82 a.1 a.2.1 a.2.2.1.1 a.2.2.1.2.1 a.2.2.1.2.2.1
theorem e_commit_downward_c82 : fnK K [k_slices_Backward_int_int, k_bk_112, k_commit_Extend_2] sa_commit_downward_c82 [.tmp 6] [.ty (Ty.sl (Ty.i .i64)), .ty (Ty.i .i64), .clo 82 [.ref (.ty (Ty.st .Seen)), .ref (.ty Ty.str), .ref (.ty (Ty.i .i64))]] (.one (Ty.i .i64)) = fun a => F_commit_downward_c82 a.1 a.2.1 a.2.2.1.1 a.2.2.1.2.1 a.2.2.1.2.2.1 := by kernel_rfl
theorem s_commit_downward_c82 : KFun.Sound (U := U) Try.prog k_commit_downward_c82 := fnK_sound (K := K) (Γ := [k_slices_Backward_int_int, k_bk_112, k_commit_Extend_2]) ok_commit_downward_c82 (by kernel_rfl) (by decide) ⟨s_slices_Backward_int_int, s_bk_112, s_commit_Extend_2, trivial⟩ (fun a => congrFun e_commit_downward_c82 a)

/-! ### trustquorum/commit.Extend -/
def sa_commit_Extend : SA U :=
 (.seq
 (.reg
 (op 7 (.box (tm 1))
 (op 9 (.box (tm 3))
 (op 10 (.box (tm 4))
 (op 11 (.box (tm 5))
 (op 12 (.mov (ci 0))
 (op 13 (.mov (ci 0))
 .nil)))))))
 (.seq
 (.reg
 (op 19 (.mov (tm 0))
 (op 20 (.load (some 3) (tm 7))
 (op 21 (.mov (tm 2))
 (op 22 (.call 65 [(tm 19), (tm 20), (tm 21)])
 (op 14 (.alloc [.int .i64 0, .nils, .nils])
 (ops (.store 3 (tm 14) (tm 22))
 .nil)))))))
 (.seq
 (.reg
 (op 23 (.mov (tm 2))
 (op 24 (.load none (tm 9))
 (op 25 (.call 77 [(tm 23), (tm 24)])
 (op 15 (.alloc [.nils])
 (ops (.store 1 (tm 15) (tm 25))
 .nil))))))
 (.join ⟨[.box 2 1 (Ty.i .i64) [], .box 3 1 (Ty.i .i64) []], [9, 10, 11, 14, 15]⟩
 (.seq
 (.reg
 (op 26 (.load none (tm 15))
 (op 27 (.call 78 [(tm 26)])
 .nil)))
 (.block 0
 (.back ⟨[.box 2 1 (Ty.i .i64) [], .box 3 1 (Ty.i .i64) []], [9, 10, 11, 14, 15, 27]⟩ 112 1 none (Ty.i .i64) 27 28 29
 (.reg
 (op 17 (.alloc [.int .i64 0])
 (ops (.store 1 (tm 17) (tm 29))
 .nil)))
 (.block 1
 (.seq
 (.seq
 (.reg
 (op 30 (.load none (tm 17))
 (op 31 (.load none (tm 11))
 (op 32 (.bin .leq (tm 30) (tm 31))
 (op 33 (.mov (tm 32))
 (.ite 33 false
 (opg 34 33 false (.load (some 3) (tm 14))
 (opg 35 33 false (.load none (tm 9))
 (opg 36 33 false (.load none (tm 17))
 (opg 37 33 false (.load none (tm 17))
 (opg 38 33 false (.call 79 [(tm 34), (tm 35), (tm 36), (tm 37)])
 (opg 39 33 false (.not (tm 38))
 .nil))))))
 40 none (.cst (.bool true)) (tm 39)
 .nil))))))
 (.cond (tm 40)
 (.exit 1)
 .skip))
 (.seq
 (.reg
 (op 41 (.load none (tm 15))
 (op 42 (.load none (tm 17))
 (op 43 (.mkf 81 [(tm 14), (tm 9), (tm 17)])
 (op 44 (.call 80 [(tm 41), (tm 42), (tm 43)])
 (op 18 (.mov (tm 44))
 .nil))))))
 (.join ⟨[.box 2 1 (Ty.i .i64) []], [9, 10, 11, 14, 15, 17, 27]⟩
 (.seq
 (.reg
 (op 45 (.mov (tm 18))
 (op 46 (.bin .sub (tm 45) (ci 1))
 (op 47 (.load none (tm 11))
 (op 48 (.bin .gtr (tm 46) (tm 47))
 (op 49 (.mov (tm 48))
 (.ite 49 false
 (opg 50 49 false (.mov (tm 18))
 (opg 51 49 false (.load none (tm 10))
 (opg 52 49 false (.bin .lss (tm 50) (tm 51))
 .nil)))
 53 none (.cst (.bool true)) (tm 52)
 .nil)))))))
 (.cond (tm 53)
 (.reg
 (op 54 (.mov (tm 18))
 (ops (.store 1 (tm 10) (tm 54))
 .nil)))
 .skip))
 (.seq
 (.reg
 (op 55 (.load none (tm 17))
 (ops (.store 1 (tm 11) (tm 55))
 .nil)))
 (.exit 0)))))))))
 (.seq
 (.drw [(0, 1), (0, 4), (1, 4), (3, 4)]
 (op 56 (.load none (tm 15))
 (op 57 (.load none (tm 10))
 (op 58 (.mkf 82 [(tm 14), (tm 9), (tm 11)])
 (op 59 (.call 80 [(tm 56), (tm 57), (tm 58)])
 (op 60 (.load none (tm 11))
 (op 12 (.mov (tm 59))
 (op 13 (.mov (tm 60))
 .nil))))))))
 .ret)))))
theorem ok_commit_Extend : FnOk Try.prog 42 61 (SA.erase sa_commit_Extend) [.tmp 12, .tmp 13] := ⟨Try.f42, [], Try.func42, rfl, by kernel_rfl, by kernel_rfl, by kernel_rfl⟩
noncomputable def F_commit_Extend (a0 : Int) (a1 : TTrust) (a2 : (List TEnvelope)) (a3 : ByteArray) (a4 : Int) (a5 : Int) : Option (Int × Int × Unit) :=
 Option.bind (F_prepare_Look a0 (TTrust.mk a1.Threshold a1.Nodes a1.Inner) a2) fun r1 =>
 Option.bind (F_envelopes_Bounds a2 a3) fun r2 =>
 letJ (fun (v3 : Int × Int × Unit) =>
 Option.bind (F_commit_downward_c82 r2 v3.1 r1 a3 v3.2.1) fun r5 =>
 some (r5, v3.2.1, ())) fun j4 =>
 Option.bind (F_slices_Backward_int_int r2) fun r6 =>
 backO (fun (m8 : Nat) (e9 : Int) (v7 : Int × Int × Unit) =>
 Option.bind (bif (decide (e9 ≤ v7.2.1)) then some true
 else
 Option.bind (F_commit_ready r1 a3 e9 e9) fun r10 =>
 some (!r10)) fun b11 =>
 bif b11 then
 some (Sum.inl (v7.1, v7.2.1, ()))
 else
 Option.bind (F_commit_downward_c81 r2 e9 r1 a3 e9) fun r12 =>
 letJ (fun (v13 : Int × Unit) =>
 Option.map Sum.inr (j4 (v13.1, e9, ()))) fun j14 =>
 Option.bind (bif (decide (v7.2.1 < (subI .i64 r12 (1 : Int)))) then some true
 else
 some (decide (r12 < v7.1))) fun b15 =>
 bif b15 then
 j14 (r12, ())
 else
 j14 (v7.1, ())) (fun (v16 : Int × Int × Unit) =>
 j4 (v16.1, v16.2.1, ())) (List.reverse r6.1) (a4, a5, ())
noncomputable def k_commit_Extend : KFun U := .fn 42 [.ty (Ty.i .i64), .ty (Ty.st .Trust), .ty (Ty.sl (Ty.st .Envelope)), .ty Ty.str, .ty (Ty.i .i64), .ty (Ty.i .i64)] (.many [(Ty.i .i64), (Ty.i .i64)]) fun a => F_commit_Extend a.1 a.2.1 a.2.2.1 a.2.2.2.1 a.2.2.2.2.1 a.2.2.2.2.2.1
theorem e_commit_Extend : fnK K [k_prepare_Look, k_envelopes_Bounds, k_slices_Backward_int_int, k_bk_112, k_commit_ready, k_commit_downward_c81, k_commit_downward_c82] sa_commit_Extend [.tmp 12, .tmp 13] [.ty (Ty.i .i64), .ty (Ty.st .Trust), .ty (Ty.sl (Ty.st .Envelope)), .ty Ty.str, .ty (Ty.i .i64), .ty (Ty.i .i64)] (.many [(Ty.i .i64), (Ty.i .i64)]) = fun a => F_commit_Extend a.1 a.2.1 a.2.2.1 a.2.2.2.1 a.2.2.2.2.1 a.2.2.2.2.2.1 := by kernel_rfl
theorem s_commit_Extend : KFun.Sound (U := U) Try.prog k_commit_Extend := fnK_sound (K := K) (Γ := [k_prepare_Look, k_envelopes_Bounds, k_slices_Backward_int_int, k_bk_112, k_commit_ready, k_commit_downward_c81, k_commit_downward_c82]) ok_commit_Extend (by kernel_rfl) (by decide) ⟨s_prepare_Look, s_envelopes_Bounds, s_slices_Backward_int_int, s_bk_112, s_commit_ready, s_commit_downward_c81, s_commit_downward_c82, trivial⟩ (fun a => congrFun e_commit_Extend a)

/-! ### (trustquorum/prepare.Seen).Confirms -/
def sa_prepare_Seen_Confirms_c134 : SA U :=
 (.seq
 (.reg
 (op 2 (.box (tm 0))
 (op 4 (.mov (.cst (.bool false)))
 .nil)))
 (.seq
 (.drw [(0, 2), (1, 2), (0, 3), (1, 3), (0, 4), (1, 4), (2, 4), (3, 4), (0, 6), (1, 6), (2, 6), (3, 6)]
 (op 5 (.faddr 1 (tm 2))
 (op 6 (.load (some 1) (tm 5))
 (op 7 (.faddr 0 (tm 2))
 (op 8 (.load none (tm 7))
 (op 9 (.load (some 3) (tm 2))
 (op 10 (.mov (tm 1))
 (op 11 (.call 108 [(tm 9), (tm 10)])
 (op 12 (.call 107 [(tm 6), (tm 8), (tm 11)])
 (op 4 (.mov (tm 12))
 .nil))))))))))
 .ret))
theorem ok_prepare_Seen_Confirms_c134 : FnOk Try.prog 75 13 (SA.erase sa_prepare_Seen_Confirms_c134) [.tmp 4] := ⟨Try.f75, [], Try.func75, rfl, by kernel_rfl, by kernel_rfl, by kernel_rfl⟩
noncomputable def F_prepare_Seen_Confirms_c134 (a0 : TSeen) (a1 : ByteArray) (a2 : Int) (a3 : Int) : Option Bool :=
 Option.bind (F_prepare_Seen_Who_c134 a0 a1 a2 a3) fun r1 =>
 Option.bind (F_federated_Confirms a0.View a0.Node r1) fun r2 =>
 some r2
noncomputable def k_prepare_Seen_Confirms_c134 : KFun U := .fn 75 [.ty (Ty.st .Seen), .clo 134 [.ref (.ty Ty.str), .ref (.ty (Ty.i .i64)), .ref (.ty (Ty.i .i64))]] (.one Ty.bool) fun a => F_prepare_Seen_Confirms_c134 a.1 a.2.1.1 a.2.1.2.1 a.2.1.2.2.1
theorem e_prepare_Seen_Confirms_c134 : fnK K [k_prepare_Seen_Who_c134, k_federated_Confirms] sa_prepare_Seen_Confirms_c134 [.tmp 4] [.ty (Ty.st .Seen), .clo 134 [.ref (.ty Ty.str), .ref (.ty (Ty.i .i64)), .ref (.ty (Ty.i .i64))]] (.one Ty.bool) = fun a => F_prepare_Seen_Confirms_c134 a.1 a.2.1.1 a.2.1.2.1 a.2.1.2.2.1 := by kernel_rfl
theorem s_prepare_Seen_Confirms_c134 : KFun.Sound (U := U) Try.prog k_prepare_Seen_Confirms_c134 := fnK_sound (K := K) (Γ := [k_prepare_Seen_Who_c134, k_federated_Confirms]) ok_prepare_Seen_Confirms_c134 (by kernel_rfl) (by decide) ⟨s_prepare_Seen_Who_c134, s_federated_Confirms, trivial⟩ (fun a => congrFun e_prepare_Seen_Confirms_c134 a)

/-! ### trustquorum/commit.sure -/
def sa_commit_sure : SA U :=
 (.seq
 (.reg
 (op 4 (.box (tm 0))
 (op 8 (.mov (.cst (.bool false)))
 .nil)))
 (.seq
 (.drw [(0, 4)]
 (op 9 (.load (some 3) (tm 4))
 (op 10 (.mov (tm 1))
 (op 11 (.mov (tm 2))
 (op 12 (.mov (tm 3))
 (op 13 (.call 114 [(tm 10), (tm 11), (tm 12)])
 (op 14 (.call 75 [(tm 9), (tm 13)])
 (op 8 (.mov (tm 14))
 .nil))))))))
 .ret))
theorem ok_commit_sure : FnOk Try.prog 83 15 (SA.erase sa_commit_sure) [.tmp 8] := ⟨Try.f83, [], Try.func83, rfl, by kernel_rfl, by kernel_rfl, by kernel_rfl⟩
noncomputable def F_commit_sure (a0 : TSeen) (a1 : ByteArray) (a2 : Int) (a3 : Int) : Option Bool :=
 Option.bind (F_commit_accepts a1 a2 a3) fun r1 =>
 Option.bind (F_prepare_Seen_Confirms_c134 a0 r1.1 r1.2.1 r1.2.2.1) fun r2 =>
 some r2
noncomputable def k_commit_sure : KFun U := .fn 83 [.ty (Ty.st .Seen), .ty Ty.str, .ty (Ty.i .i64), .ty (Ty.i .i64)] (.one Ty.bool) fun a => F_commit_sure a.1 a.2.1 a.2.2.1 a.2.2.2.1
theorem e_commit_sure : fnK K [k_commit_accepts, k_prepare_Seen_Confirms_c134] sa_commit_sure [.tmp 8] [.ty (Ty.st .Seen), .ty Ty.str, .ty (Ty.i .i64), .ty (Ty.i .i64)] (.one Ty.bool) = fun a => F_commit_sure a.1 a.2.1 a.2.2.1 a.2.2.2.1 := by kernel_rfl
theorem s_commit_sure : KFun.Sound (U := U) Try.prog k_commit_sure := fnK_sound (K := K) (Γ := [k_commit_accepts, k_prepare_Seen_Confirms_c134]) ok_commit_sure (by kernel_rfl) (by decide) ⟨s_commit_accepts, s_prepare_Seen_Confirms_c134, trivial⟩ (fun a => congrFun e_commit_sure a)

/-! ### trustquorum/commit.Final$1 -/
def sa_commit_Final_1 : SA U :=
 (.seq
 (.reg
 (op 5 (.mov (.cst (.bool false)))
 .nil))
 (.seq
 (.reg
 (op 6 (.load (some 3) (tm 1))
 (op 7 (.load none (tm 2))
 (op 8 (.mov (tm 0))
 (op 9 (.load none (tm 3))
 (op 10 (.call 83 [(tm 6), (tm 7), (tm 8), (tm 9)])
 (op 5 (.mov (tm 10))
 .nil)))))))
 .ret))
theorem ok_commit_Final_1 : FnOk Try.prog 84 11 (SA.erase sa_commit_Final_1) [.tmp 5] := ⟨Try.f84, [], Try.func84, rfl, by kernel_rfl, by kernel_rfl, by kernel_rfl⟩
noncomputable def F_commit_Final_1 (a0 : Int) (a1 : TSeen) (a2 : ByteArray) (a3 : Int) : Option Bool :=
 Option.bind (F_commit_sure a1 a2 a0 a3) fun r1 =>
 some r1
noncomputable def k_commit_Final_1 : KFun U := .fn 84 [.ty (Ty.i .i64), .ref (.ty (Ty.st .Seen)), .ref (.ty Ty.str), .ref (.ty (Ty.i .i64))] (.one Ty.bool) fun a => F_commit_Final_1 a.1 a.2.1 a.2.2.1 a.2.2.2.1
theorem e_commit_Final_1 : fnK K [k_commit_sure] sa_commit_Final_1 [.tmp 5] [.ty (Ty.i .i64), .ref (.ty (Ty.st .Seen)), .ref (.ty Ty.str), .ref (.ty (Ty.i .i64))] (.one Ty.bool) = fun a => F_commit_Final_1 a.1 a.2.1 a.2.2.1 a.2.2.2.1 := by kernel_rfl
theorem s_commit_Final_1 : KFun.Sound (U := U) Try.prog k_commit_Final_1 := fnK_sound (K := K) (Γ := [k_commit_sure]) ok_commit_Final_1 (by kernel_rfl) (by decide) ⟨s_commit_sure, trivial⟩ (fun a => congrFun e_commit_Final_1 a)

/-! ### trustquorum/commit.downward -/
def sa_commit_downward_c84 : SA U :=
 (.seq
 (.reg
 (op 4 (.box (tm 1))
 (op 5 (.box (tm 2))
 (op 6 (.mov (ci 0))
 .nil))))
 (.join ⟨[.box 0 1 (Ty.i .i64) []], [4]⟩
 (.seq
 (.reg
 (op 9 (.mov (tm 0))
 (op 10 (.call 78 [(tm 9)])
 .nil)))
 (.block 0
 (.back ⟨[.box 0 1 (Ty.i .i64) []], [4, 5, 10]⟩ 112 1 none (Ty.i .i64) 10 11 12
 (.reg
 (op 8 (.mov (tm 12))
 .nil))
 (.block 1
 (.seq
 (.seq
 (.reg
 (op 13 (.mov (tm 8))
 (op 14 (.load none (tm 4))
 (op 15 (.bin .geq (tm 13) (tm 14))
 .nil))))
 (.cond (tm 15)
 (.exit 1)
 .skip))
 (.seq
 (.seq
 (.reg
 (op 16 (.load none (tm 5))
 (op 17 (.mov (tm 8))
 (op 18 (.callv (tm 16) [(tm 17)])
 (op 19 (.not (tm 18))
 .nil)))))
 (.cond (tm 19)
 (.exit 0)
 .skip))
 (.reg
 (op 20 (.mov (tm 8))
 (ops (.store 1 (tm 4) (tm 20))
 .nil)))))))))
 (.seq
 (.reg
 (op 21 (.load none (tm 4))
 (op 6 (.mov (tm 21))
 .nil)))
 .ret)))
theorem ok_commit_downward_c84 : FnOk Try.prog 80 22 (SA.erase sa_commit_downward_c84) [.tmp 6] := ⟨Try.f80, [], Try.func80, rfl, by kernel_rfl, by kernel_rfl, by kernel_rfl⟩
noncomputable def F_commit_downward_c84 (a0 : (List Int)) (a1 : Int) (a2 : TSeen) (a3 : ByteArray) (a4 : Int) : Option Int :=
 letJ (fun (v1 : Int × Unit) =>
 some v1.1) fun j2 =>
 Option.bind (F_slices_Backward_int_int a0) fun r3 =>
 backO (fun (m5 : Nat) (e6 : Int) (v4 : Int × Unit) =>
 bif (decide (v4.1 ≤ e6)) then
 some (Sum.inl (v4.1, ()))
 else
 Option.bind (F_commit_Final_1 e6 a2 a3 a4) fun r7 =>
 bif (!r7) then
 Option.map Sum.inr (j2 (v4.1, ()))
 else
 some (Sum.inl (e6, ()))) (fun (v8 : Int × Unit) =>
 j2 (v8.1, ())) (List.reverse r3.1) (a1, ())
noncomputable def k_commit_downward_c84 : KFun U := .fn 80 [.ty (Ty.sl (Ty.i .i64)), .ty (Ty.i .i64), .clo 84 [.ref (.ty (Ty.st .Seen)), .ref (.ty Ty.str), .ref (.ty (Ty.i .i64))]] (.one (Ty.i .i64)) fun a => F_commit_downward_c84 a.1 a.2.1 a.2.2.1.1 a.2.2.1.2.1 a.2.2.1.2.2.1
theorem e_commit_downward_c84 : fnK K [k_slices_Backward_int_int, k_bk_112, k_commit_Final_1] sa_commit_downward_c84 [.tmp 6] [.ty (Ty.sl (Ty.i .i64)), .ty (Ty.i .i64), .clo 84 [.ref (.ty (Ty.st .Seen)), .ref (.ty Ty.str), .ref (.ty (Ty.i .i64))]] (.one (Ty.i .i64)) = fun a => F_commit_downward_c84 a.1 a.2.1 a.2.2.1.1 a.2.2.1.2.1 a.2.2.1.2.2.1 := by kernel_rfl
theorem s_commit_downward_c84 : KFun.Sound (U := U) Try.prog k_commit_downward_c84 := fnK_sound (K := K) (Γ := [k_slices_Backward_int_int, k_bk_112, k_commit_Final_1]) ok_commit_downward_c84 (by kernel_rfl) (by decide) ⟨s_slices_Backward_int_int, s_bk_112, s_commit_Final_1, trivial⟩ (fun a => congrFun e_commit_downward_c84 a)

/-! ### trustquorum/commit.Final -/
def sa_commit_Final : SA U :=
 (.seq
 (.reg
 (op 5 (.box (tm 1))
 (op 7 (.box (tm 3))
 (op 8 (.alloc [.int .i64 0])
 (op 9 (.alloc [.int .i64 0])
 (op 10 (.alloc [.bool false])
 .nil))))))
 (.seq
 (.reg
 (op 15 (.mov (tm 0))
 (op 16 (.load (some 3) (tm 5))
 (op 17 (.mov (tm 2))
 (op 18 (.call 65 [(tm 15), (tm 16), (tm 17)])
 (op 11 (.alloc [.int .i64 0, .nils, .nils])
 (ops (.store 3 (tm 11) (tm 18))
 .nil)))))))
 (.seq
 (.reg
 (op 19 (.mov (tm 2))
 (op 20 (.load none (tm 7))
 (op 21 (.call 77 [(tm 19), (tm 20)])
 (op 12 (.alloc [.nils])
 (ops (.store 1 (tm 12) (tm 21))
 .nil))))))
 (.seq
 (.seq
 (.reg
 (op 22 (.load none (tm 12))
 (op 23 (.call 78 [(tm 22)])
 .nil)))
 (.block 0
 (.back ⟨[.box 2 1 (Ty.i .i64) [], .box 3 1 (Ty.i .i64) [], .box 4 1 Ty.bool []], [7, 8, 9, 10, 11, 12, 23]⟩ 112 1 none (Ty.i .i64) 23 24 25
 (.reg
 (op 14 (.alloc [.int .i64 0])
 (ops (.store 1 (tm 14) (tm 25))
 .nil)))
 (.block 1
 (.seq
 (.reg
 (op 26 (.load (some 3) (tm 11))
 (op 27 (.load none (tm 7))
 (op 28 (.load none (tm 14))
 (op 29 (.load none (tm 14))
 (op 30 (.call 83 [(tm 26), (tm 27), (tm 28), (tm 29)])
 .nil))))))
 (.cond (tm 30)
 (.seq
 (.drw [(0, 1), (0, 4), (1, 4), (3, 4), (4, 5)]
 (op 31 (.load none (tm 12))
 (op 32 (.load none (tm 14))
 (op 33 (.mkf 84 [(tm 11), (tm 7), (tm 14)])
 (op 34 (.call 80 [(tm 31), (tm 32), (tm 33)])
 (op 35 (.load none (tm 14))
 (ops (.store 1 (tm 8) (tm 34))
 (ops (.store 1 (tm 9) (tm 35))
 (ops (.store 1 (tm 10) (.cst (.bool true)))
 .nil)))))))))
 .ret)
 .skip))))))
 (.seq
 (.reg
 (ops (.store 1 (tm 8) (ci 0))
 (ops (.store 1 (tm 9) (ci 0))
 (ops (.store 1 (tm 10) (.cst (.bool false)))
 .nil))))
 .ret)))))
theorem ok_commit_Final : FnOk Try.prog 43 36 (SA.erase sa_commit_Final) [.cell 8 none, .cell 9 none, .cell 10 none] := ⟨Try.f43, [], Try.func43, rfl, by kernel_rfl, by kernel_rfl, by kernel_rfl⟩
noncomputable def F_commit_Final (a0 : Int) (a1 : TTrust) (a2 : (List TEnvelope)) (a3 : ByteArray) : Option (Int × Int × Bool × Unit) :=
 Option.bind (F_prepare_Look a0 (TTrust.mk a1.Threshold a1.Nodes a1.Inner) a2) fun r1 =>
 Option.bind (F_envelopes_Bounds a2 a3) fun r2 =>
 Option.bind (F_slices_Backward_int_int r2) fun r3 =>
 backO (fun (m5 : Nat) (e6 : Int) (v4 : Int × Int × Bool × Unit) =>
 Option.bind (F_commit_sure r1 a3 e6 e6) fun r7 =>
 bif r7 then
 Option.bind (F_commit_downward_c84 r2 e6 r1 a3 e6) fun r8 =>
 Option.map Sum.inr (some (r8, e6, true, ()))
 else
 some (Sum.inl (v4.1, v4.2.1, v4.2.2.1, ()))) (fun (v9 : Int × Int × Bool × Unit) =>
 some ((0 : Int), (0 : Int), false, ())) (List.reverse r3.1) ((0 : Int), (0 : Int), false, ())
noncomputable def k_commit_Final : KFun U := .fn 43 [.ty (Ty.i .i64), .ty (Ty.st .Trust), .ty (Ty.sl (Ty.st .Envelope)), .ty Ty.str] (.many [(Ty.i .i64), (Ty.i .i64), Ty.bool]) fun a => F_commit_Final a.1 a.2.1 a.2.2.1 a.2.2.2.1
theorem e_commit_Final : fnK K [k_prepare_Look, k_envelopes_Bounds, k_slices_Backward_int_int, k_bk_112, k_commit_sure, k_commit_downward_c84] sa_commit_Final [.cell 8 none, .cell 9 none, .cell 10 none] [.ty (Ty.i .i64), .ty (Ty.st .Trust), .ty (Ty.sl (Ty.st .Envelope)), .ty Ty.str] (.many [(Ty.i .i64), (Ty.i .i64), Ty.bool]) = fun a => F_commit_Final a.1 a.2.1 a.2.2.1 a.2.2.2.1 := by kernel_rfl
theorem s_commit_Final : KFun.Sound (U := U) Try.prog k_commit_Final := fnK_sound (K := K) (Γ := [k_prepare_Look, k_envelopes_Bounds, k_slices_Backward_int_int, k_bk_112, k_commit_sure, k_commit_downward_c84]) ok_commit_Final (by kernel_rfl) (by decide) ⟨s_prepare_Look, s_envelopes_Bounds, s_slices_Backward_int_int, s_bk_112, s_commit_sure, s_commit_downward_c84, trivial⟩ (fun a => congrFun e_commit_Final a)

/-! ### trustquorum/trustquorumlaw26.commits -/
def sa_law26_commits : SA U :=
 (.seq
 (.reg
 (op 0 (.mov (.cst (.nils)))
 .nil))
 (.seq
 (.reg
 (op 1 (.mov (.cst (.nils)))
 .nil))
 (.seq
 (.seq
 (.reg
 (op 2 (.mov (ci 0))
 .nil))
 (.block 0
 (.ps (.own 1 31 15 (Ty.st .Envelope))
 (.loop ⟨[.val 2 (Ty.i .i64), .own 1 3 1 31 15 (Ty.st .Envelope)], []⟩
 (.seq
 (.seq
 (.reg
 (op 4 (.mov (tm 2))
 (op 5 (.bin .lss (tm 4) (ci 3))
 .nil)))
 (.cond (tm 5)
 .skip
 (.exit 0)))
 (.seq
 (.block 1
 (.seq
 (.reg
 (op 8 (.mov (tm 2))
 (op 9 (.call 41 [(ci 3), (ci 3)])
 (op 10 (.build [.int .i64 0, .str ⟨#[]⟩] [(0, 1, (ci 5)), (1, 1, (.cst (.str ⟨#[97]⟩)))])
 (op 11 (.build [.int .i64 0, .str ⟨#[]⟩] [(0, 1, (ci 5)), (1, 1, (.cst (.str ⟨#[97]⟩)))])
 (op 12 (.build [.int .i64 0, .int .i64 0, .int .i64 0, .int .i64 0, .nils, .nils, .int .i64 0, .int .i64 0, .str ⟨#[]⟩, .int .i64 0, .str ⟨#[]⟩, .int .i64 0, .str ⟨#[]⟩, .int .i64 0, .int .i64 0] [(0, 1, (tm 8)), (1, 1, (ci 1)), (2, 1, (ci 1)), (3, 3, (tm 9)), (6, 1, (ci 2)), (7, 2, (tm 10)), (9, 2, (tm 11)), (13, 1, (ci 2)), (14, 1, (ci 5))])
 (op 3 (.alloc [.int .i64 0, .int .i64 0, .int .i64 0, .int .i64 0, .nils, .nils, .int .i64 0, .int .i64 0, .str ⟨#[]⟩, .int .i64 0, .str ⟨#[]⟩, .int .i64 0, .str ⟨#[]⟩, .int .i64 0, .int .i64 0])
 (ops (.store 15 (tm 3) (tm 12))
 .nil))))))))
 (.join ⟨[.box 11 1 (Ty.st .Envelope) []], [1, 2, 3]⟩
 (.seq
 (.reg
 (op 13 (.mov (tm 2))
 (op 14 (.bin .eql (tm 13) (ci 1))
 .nil)))
 (.cond (tm 14)
 (.reg
 (op 15 (.faddr 13 (tm 3))
 (ops (.store 1 (tm 15) (ci 3))
 .nil)))
 .skip))
 (.reg
 (op 16 (.mov (tm 1))
 (op 17 (.load (some 15) (tm 3))
 (op 18 (.bsl false 31 15 (List.replicate 1 [.int .i64 0, .int .i64 0, .int .i64 0, .int .i64 0, .nils, .nils, .int .i64 0, .int .i64 0, .str ⟨#[]⟩, .int .i64 0, .str ⟨#[]⟩, .int .i64 0, .str ⟨#[]⟩, .int .i64 0, .int .i64 0]) [(0, (tm 17))])
 (op 19 (.app 31 15 176 (tm 16) (tm 18))
 (op 1 (.mov (tm 19))
 .nil)))))))))
 (.reg
 (op 6 (.mov (tm 2))
 (op 7 (.bin .add (tm 6) (ci 1))
 (op 2 (.mov (tm 7))
 .nil))))))))))
 (.seq
 (.reg
 (op 20 (.mov (tm 1))
 (op 0 (.mov (tm 20))
 .nil)))
 .ret))))
theorem ok_law26_commits : FnOk Try.prog 85 21 (SA.erase sa_law26_commits) [.tmp 0] := ⟨Try.f85, [], Try.func85, rfl, by kernel_rfl, by kernel_rfl, by kernel_rfl⟩
noncomputable def F_law26_commits  : Option (List TEnvelope) :=
 loopO (fun (v1 : Int × (List TEnvelope) × Unit) =>
 bif (decide (v1.1 < (3 : Int))) then
 Option.bind (F_play_Flat (3 : Int) (3 : Int)) fun r2 =>
 letJ (fun (v3 : TEnvelope × Unit) =>
 bif lenOk 176 (List.length v1.2.1 + List.length [(TEnvelope.mk v3.1.Node v3.1.Slot v3.1.Seq (TTrust.mk v3.1.Trust.Threshold v3.1.Trust.Nodes v3.1.Trust.Inner) v3.1.Kind v3.1.Ballot v3.1.Prepared v3.1.Prime v3.1.Low v3.1.High)]) then
 some (Sum.inl ((addI .i64 v1.1 (1 : Int)), (v1.2.1 ++ [(TEnvelope.mk v3.1.Node v3.1.Slot v3.1.Seq (TTrust.mk v3.1.Trust.Threshold v3.1.Trust.Nodes v3.1.Trust.Inner) v3.1.Kind v3.1.Ballot v3.1.Prepared v3.1.Prime v3.1.Low v3.1.High)]), ()))
 else none) fun j4 =>
 bif (decide (v1.1 = (1 : Int))) then
 j4 ((TEnvelope.mk v1.1 (1 : Int) (1 : Int) (TTrust.mk r2.Threshold r2.Nodes r2.Inner) (2 : Int) (TBallot.mk (5 : Int) (ByteArray.mk #[97])) (TBallot.mk (5 : Int) (ByteArray.mk #[97])) (TBallot.mk (0 : Int) (ByteArray.mk #[])) (3 : Int) (5 : Int)), ())
 else
 j4 ((TEnvelope.mk v1.1 (1 : Int) (1 : Int) (TTrust.mk r2.Threshold r2.Nodes r2.Inner) (2 : Int) (TBallot.mk (5 : Int) (ByteArray.mk #[97])) (TBallot.mk (5 : Int) (ByteArray.mk #[97])) (TBallot.mk (0 : Int) (ByteArray.mk #[])) (2 : Int) (5 : Int)), ())
 else
 Option.map Sum.inr (some v1.2.1)) ((0 : Int), ([] : List TEnvelope), ())
noncomputable def k_law26_commits : KFun U := .fn 85 [] (.one (Ty.sl (Ty.st .Envelope))) fun a => F_law26_commits 
theorem e_law26_commits : fnK K [k_play_Flat] sa_law26_commits [.tmp 0] [] (.one (Ty.sl (Ty.st .Envelope))) = fun a => F_law26_commits  := by kernel_rfl
theorem s_law26_commits : KFun.Sound (U := U) Try.prog k_law26_commits := fnK_sound (K := K) (Γ := [k_play_Flat]) ok_law26_commits (by kernel_rfl) (by decide) ⟨s_play_Flat, trivial⟩ (fun a => congrFun e_law26_commits a)

/-! ### trustquorum/commit.Accepts -/
def sa_commit_Accepts : SA U :=
 (.seq
 (.reg
 (op 7 (.box (tm 1))
 (op 12 (.mov (.cst (.bool false)))
 .nil)))
 (.seq
 (.reg
 (op 13 (.mov (tm 0))
 (op 14 (.load (some 3) (tm 7))
 (op 15 (.mov (tm 2))
 (op 16 (.call 65 [(tm 13), (tm 14), (tm 15)])
 (op 17 (.mov (tm 3))
 (op 18 (.mov (tm 4))
 (op 19 (.mov (tm 5))
 (op 20 (.call 79 [(tm 16), (tm 17), (tm 18), (tm 19)])
 (op 12 (.mov (tm 20))
 .nil))))))))))
 .ret))
theorem ok_commit_Accepts : FnOk Try.prog 86 21 (SA.erase sa_commit_Accepts) [.tmp 12] := ⟨Try.f86, [], Try.func86, rfl, by kernel_rfl, by kernel_rfl, by kernel_rfl⟩
noncomputable def F_commit_Accepts (a0 : Int) (a1 : TTrust) (a2 : (List TEnvelope)) (a3 : ByteArray) (a4 : Int) (a5 : Int) : Option Bool :=
 Option.bind (F_prepare_Look a0 (TTrust.mk a1.Threshold a1.Nodes a1.Inner) a2) fun r1 =>
 Option.bind (F_commit_ready r1 a3 a4 a5) fun r2 =>
 some r2
noncomputable def k_commit_Accepts : KFun U := .fn 86 [.ty (Ty.i .i64), .ty (Ty.st .Trust), .ty (Ty.sl (Ty.st .Envelope)), .ty Ty.str, .ty (Ty.i .i64), .ty (Ty.i .i64)] (.one Ty.bool) fun a => F_commit_Accepts a.1 a.2.1 a.2.2.1 a.2.2.2.1 a.2.2.2.2.1 a.2.2.2.2.2.1
theorem e_commit_Accepts : fnK K [k_prepare_Look, k_commit_ready] sa_commit_Accepts [.tmp 12] [.ty (Ty.i .i64), .ty (Ty.st .Trust), .ty (Ty.sl (Ty.st .Envelope)), .ty Ty.str, .ty (Ty.i .i64), .ty (Ty.i .i64)] (.one Ty.bool) = fun a => F_commit_Accepts a.1 a.2.1 a.2.2.1 a.2.2.2.1 a.2.2.2.2.1 a.2.2.2.2.2.1 := by kernel_rfl
theorem s_commit_Accepts : KFun.Sound (U := U) Try.prog k_commit_Accepts := fnK_sound (K := K) (Γ := [k_prepare_Look, k_commit_ready]) ok_commit_Accepts (by kernel_rfl) (by decide) ⟨s_prepare_Look, s_commit_ready, trivial⟩ (fun a => congrFun e_commit_Accepts a)

/-! ### trustquorum/trustquorumlaw26.sane -/
def sa_law26_sane : SA U :=
 (.seq
 (.reg
 (op 0 (.mov (.cst (.bool false)))
 .nil))
 (.seq
 (.reg
 (op 5 (.call 41 [(ci 3), (ci 3)])
 (op 6 (.call 85 [])
 (op 7 (.call 43 [(ci 0), (tm 5), (tm 6), (.cst (.str ⟨#[97]⟩))])
 (op 4 (.mov (tm 7))
 (op 8 (.extr 0 (tm 4))
 (op 9 (.extr 1 (tm 4))
 (op 10 (.extr 2 (tm 4))
 (op 1 (.mov (tm 8))
 (op 2 (.mov (tm 9))
 (op 3 (.mov (tm 10))
 .nil)))))))))))
 (.seq
 (.reg
 (op 11 (.mov (tm 3))
 (op 12 (.mov (tm 11))
 (.ite 12 true
 (opg 13 12 true (.mov (tm 1))
 (opg 14 12 true (.bin .eql (tm 13) (ci 3))
 .nil))
 15 none (tm 14) (.cst (.bool false))
 (op 16 (.mov (tm 15))
 (.ite 16 true
 (opg 17 16 true (.mov (tm 2))
 (opg 18 16 true (.bin .eql (tm 17) (ci 5))
 .nil))
 19 none (tm 18) (.cst (.bool false))
 (op 20 (.mov (tm 19))
 (.ite 20 true
 (opg 21 20 true (.call 41 [(ci 3), (ci 3)])
 (opg 22 20 true (.call 85 [])
 (opg 23 20 true (.call 86 [(ci 0), (tm 21), (tm 22), (.cst (.str ⟨#[97]⟩)), (ci 3), (ci 5)])
 .nil)))
 24 none (tm 23) (.cst (.bool false))
 (op 0 (.mov (tm 24))
 .nil)))))))))
 .ret)))
theorem ok_law26_sane : FnOk Try.prog 44 25 (SA.erase sa_law26_sane) [.tmp 0] := ⟨Try.f44, [], Try.func44, rfl, by kernel_rfl, by kernel_rfl, by kernel_rfl⟩
noncomputable def F_law26_sane  : Option Bool :=
 Option.bind (F_play_Flat (3 : Int) (3 : Int)) fun r1 =>
 Option.bind (F_law26_commits) fun r2 =>
 Option.bind (F_commit_Final (0 : Int) (TTrust.mk r1.Threshold r1.Nodes r1.Inner) r2 (ByteArray.mk #[97])) fun r3 =>
 Option.bind (bif r3.2.2.1 then
 some (decide (r3.1 = (3 : Int)))
 else some false) fun b4 =>
 Option.bind (bif b4 then
 some (decide (r3.2.1 = (5 : Int)))
 else some false) fun b5 =>
 Option.bind (bif b5 then
 Option.bind (F_play_Flat (3 : Int) (3 : Int)) fun r6 =>
 Option.bind (F_law26_commits) fun r7 =>
 Option.bind (F_commit_Accepts (0 : Int) (TTrust.mk r6.Threshold r6.Nodes r6.Inner) r7 (ByteArray.mk #[97]) (3 : Int) (5 : Int)) fun r8 =>
 some r8
 else some false) fun b9 =>
 some b9
noncomputable def k_law26_sane : KFun U := .fn 44 [] (.one Ty.bool) fun a => F_law26_sane 
theorem e_law26_sane : fnK K [k_play_Flat, k_law26_commits, k_commit_Final, k_commit_Accepts] sa_law26_sane [.tmp 0] [] (.one Ty.bool) = fun a => F_law26_sane  := by kernel_rfl
theorem s_law26_sane : KFun.Sound (U := U) Try.prog k_law26_sane := fnK_sound (K := K) (Γ := [k_play_Flat, k_law26_commits, k_commit_Final, k_commit_Accepts]) ok_law26_sane (by kernel_rfl) (by decide) ⟨s_play_Flat, s_law26_commits, s_commit_Final, s_commit_Accepts, trivial⟩ (fun a => congrFun e_law26_sane a)

end Go.Proofs.Ytncjalhhkmojlaa
