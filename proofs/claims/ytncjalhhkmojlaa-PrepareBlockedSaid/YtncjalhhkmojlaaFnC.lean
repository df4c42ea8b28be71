/-
  Functions of the program as plain functions, each held against the program by the kernel. Printed by a program.
-/
import Derived.Test.YtncjalhhkmojlaaFnB
import Derived.Test.YtncjalhhkmojlaaProg
import Derived.KernelRfl
set_option linter.unusedVariables false
namespace Go.Proofs.Ytncjalhhkmojlaa
open Go.TQ

/-! ### trustquorum/trustquorumlaw26.CommitJumps -/
def sa_law26_CommitJumps : SA U :=
 (.seq
 (.reg
 (op 6 (.mov (.cst (.bool false)))
 .nil))
 (.seq
 (.reg
 (op 22 (.mov (tm 0))
 (op 23 (.call 11 [(tm 22)])
 (op 7 (.mov (tm 23))
 .nil))))
 (.seq
 (.reg
 (op 24 (.mov (tm 7))
 (op 25 (.call 26 [(tm 24), (ci 3), (ci 5)])
 (op 8 (.mov (tm 25))
 .nil))))
 (.seq
 (.reg
 (op 26 (.mov (tm 8))
 (op 27 (.mov (tm 8))
 (op 28 (.bin .sub (tm 27) (ci 1))
 (op 29 (.call 41 [(tm 26), (tm 28)])
 (op 9 (.alloc [.int .i64 0, .nils, .nils])
 (ops (.store 3 (tm 9) (tm 29))
 .nil)))))))
 (.seq
 (.reg
 (op 30 (.mov (tm 7))
 (op 31 (.call 14 [(tm 30)])
 (op 10 (.mov (tm 31))
 .nil))))
 (.seq
 (.reg
 (op 32 (.mov (tm 1))
 (op 33 (.conv .i64 (tm 32))
 (op 34 (.bin .rem (tm 33) (ci 4))
 (op 35 (.bin .add (ci 1) (tm 34))
 (op 11 (.mov (tm 35))
 .nil))))))
 (.seq
 (.reg
 (op 36 (.mov (tm 11))
 (op 37 (.bin .add (tm 36) (ci 2))
 (op 38 (.mov (tm 2))
 (op 39 (.conv .i64 (tm 38))
 (op 40 (.bin .rem (tm 39) (ci 4))
 (op 41 (.bin .add (tm 37) (tm 40))
 (op 12 (.mov (tm 41))
 .nil))))))))
 (.seq
 (.reg
 (op 13 (.mov (.cst (.nils)))
 .nil))
 (.seq
 (.seq
 (.reg
 (op 14 (.mov (ci 0))
 .nil))
 (.block 0
 (.ps (.own 13 31 15 (Ty.st .Envelope))
 (.loop ⟨[.val 14 (Ty.i .i64), .own 13 30 1 31 15 (Ty.st .Envelope)], [8, 9, 10, 11, 12]⟩
 (.seq
 (.seq
 (.reg
 (op 42 (.mov (tm 14))
 (op 43 (.mov (tm 8))
 (op 44 (.bin .lss (tm 42) (tm 43))
 .nil))))
 (.cond (tm 44)
 .skip
 (.exit 0)))
 (.seq
 (.block 1
 (.seq
 (.reg
 (op 47 (.mov (tm 12))
 (op 48 (.mov (tm 10))
 (op 49 (.build [.int .i64 0, .str ⟨#[]⟩] [(0, 1, (tm 47)), (1, 1, (tm 48))])
 (op 15 (.alloc [.int .i64 0, .str ⟨#[]⟩])
 (ops (.store 2 (tm 15) (tm 49))
 .nil))))))
 (.seq
 (.reg
 (op 50 (.mov (tm 14))
 (op 51 (.load (some 3) (tm 9))
 (op 52 (.load (some 2) (tm 15))
 (op 53 (.load (some 2) (tm 15))
 (op 54 (.mov (tm 12))
 (op 55 (.mov (tm 12))
 (op 56 (.build [.int .i64 0, .int .i64 0, .int .i64 0, .int .i64 0, .nils, .nils, .int .i64 0, .int .i64 0, .str ⟨#[]⟩, .int .i64 0, .str ⟨#[]⟩, .int .i64 0, .str ⟨#[]⟩, .int .i64 0, .int .i64 0] [(0, 1, (tm 50)), (1, 1, (ci 1)), (2, 1, (ci 1)), (3, 3, (tm 51)), (6, 1, (ci 2)), (7, 2, (tm 52)), (9, 2, (tm 53)), (13, 1, (tm 54)), (14, 1, (tm 55))])
 (op 16 (.alloc [.int .i64 0, .int .i64 0, .int .i64 0, .int .i64 0, .nils, .nils, .int .i64 0, .int .i64 0, .str ⟨#[]⟩, .int .i64 0, .str ⟨#[]⟩, .int .i64 0, .str ⟨#[]⟩, .int .i64 0, .int .i64 0])
 (ops (.store 15 (tm 16) (tm 56))
 .nil))))))))))
 (.join ⟨[.box 46 1 (Ty.st .Envelope) []], [8, 9, 10, 11, 12, 13, 14, 16]⟩
 (.seq
 (.reg
 (op 57 (.mov (tm 14))
 (op 58 (.bin .eql (tm 57) (ci 0))
 .nil)))
 (.cond (tm 58)
 (.reg
 (op 59 (.mov (tm 11))
 (op 60 (.mov (tm 11))
 (op 61 (.faddr 13 (tm 16))
 (ops (.store 1 (tm 61) (tm 59))
 (op 62 (.faddr 14 (tm 16))
 (ops (.store 1 (tm 62) (tm 60))
 .nil)))))))
 .skip))
 (.reg
 (op 63 (.mov (tm 13))
 (op 64 (.load (some 15) (tm 16))
 (op 65 (.bsl false 31 15 (List.replicate 1 [.int .i64 0, .int .i64 0, .int .i64 0, .int .i64 0, .nils, .nils, .int .i64 0, .int .i64 0, .str ⟨#[]⟩, .int .i64 0, .str ⟨#[]⟩, .int .i64 0, .str ⟨#[]⟩, .int .i64 0, .int .i64 0]) [(0, (tm 64))])
 (op 66 (.app 31 15 176 (tm 63) (tm 65))
 (op 13 (.mov (tm 66))
 .nil))))))))))
 (.reg
 (op 45 (.mov (tm 14))
 (op 46 (.bin .add (tm 45) (ci 1))
 (op 14 (.mov (tm 46))
 .nil))))))))))
 (.seq
 (.reg
 (op 68 (.load (some 3) (tm 9))
 (op 69 (.mov (tm 13))
 (op 70 (.mov (tm 10))
 (op 71 (.mov (tm 11))
 (op 72 (.mov (tm 11))
 (op 73 (.call 42 [(ci 0), (tm 68), (tm 69), (tm 70), (tm 71), (tm 72)])
 (op 67 (.mov (tm 73))
 (op 74 (.extr 0 (tm 67))
 (op 75 (.extr 1 (tm 67))
 (op 17 (.mov (tm 74))
 (op 18 (.mov (tm 75))
 .nil))))))))))))
 (.seq
 (.reg
 (op 76 (.mov (tm 13))
 (op 77 (.mov (tm 13))
 (op 78 (.mov (tm 17))
 (op 79 (.mov (tm 18))
 (op 80 (.iaddr 15 (tm 76) (ci 0))
 (op 81 (.faddr 13 (tm 80))
 (ops (.store 1 (tm 81) (tm 78))
 (op 82 (.iaddr 15 (tm 77) (ci 0))
 (op 83 (.faddr 14 (tm 82))
 (ops (.store 1 (tm 83) (tm 79))
 .nil)))))))))))
 (.seq
 (.reg
 (op 85 (.load (some 3) (tm 9))
 (op 86 (.mov (tm 13))
 (op 87 (.mov (tm 10))
 (op 88 (.call 43 [(ci 0), (tm 85), (tm 86), (tm 87)])
 (op 84 (.mov (tm 88))
 (op 89 (.extr 0 (tm 84))
 (op 90 (.extr 1 (tm 84))
 (op 91 (.extr 2 (tm 84))
 (op 19 (.mov (tm 89))
 (op 20 (.mov (tm 90))
 (op 21 (.mov (tm 91))
 .nil))))))))))))
 (.seq
 (.reg
 (op 92 (.mov (tm 17))
 (op 93 (.mov (tm 12))
 (op 94 (.bin .eql (tm 92) (tm 93))
 (op 95 (.mov (tm 94))
 (.ite 95 true
 (opg 96 95 true (.mov (tm 18))
 (opg 97 95 true (.mov (tm 12))
 (opg 98 95 true (.bin .eql (tm 96) (tm 97))
 .nil)))
 99 none (tm 98) (.cst (.bool false))
 (op 100 (.mov (tm 99))
 (.ite 100 true
 (opg 101 100 true (.mov (tm 21))
 .nil)
 102 none (tm 101) (.cst (.bool false))
 (op 103 (.mov (tm 102))
 (.ite 103 true
 (opg 104 103 true (.mov (tm 19))
 (opg 105 103 true (.mov (tm 12))
 (opg 106 103 true (.bin .eql (tm 104) (tm 105))
 .nil)))
 107 none (tm 106) (.cst (.bool false))
 (op 108 (.mov (tm 107))
 (.ite 108 true
 (opg 109 108 true (.mov (tm 20))
 (opg 110 108 true (.mov (tm 12))
 (opg 111 108 true (.bin .eql (tm 109) (tm 110))
 .nil)))
 112 none (tm 111) (.cst (.bool false))
 (op 113 (.mov (tm 112))
 (.ite 113 true
 (opg 114 113 true (.call 44 [])
 .nil)
 115 none (tm 114) (.cst (.bool false))
 (op 6 (.mov (tm 115))
 .nil)))))))))))))))
 .ret)))))))))))))
theorem ok_law26_CommitJumps : FnOk Try.prog 10 116 (SA.erase sa_law26_CommitJumps) [.tmp 6] := ⟨Try.f10, [], Try.func10, rfl, by kernel_rfl, by kernel_rfl, by kernel_rfl⟩
noncomputable def F_law26_CommitJumps (a0 : (List Int)) (a1 : Int) (a2 : Int) : Option Bool :=
 Option.bind (F_play_New a0) fun r1 =>
 Option.bind (F_play_Src_Range r1 (3 : Int) (5 : Int)) fun p2 =>
 Option.bind (F_play_Flat p2.1 (subI .i64 p2.1 (1 : Int))) fun r3 =>
 Option.bind (F_play_Src_Value p2.2) fun p4 =>
 loopO (fun (v5 : Int × (List TEnvelope) × Unit) =>
 bif (decide (v5.1 < p2.1)) then
 letJ (fun (v6 : TEnvelope × Unit) =>
 bif lenOk 176 (List.length v5.2.1 + List.length [(TEnvelope.mk v6.1.Node v6.1.Slot v6.1.Seq (TTrust.mk v6.1.Trust.Threshold v6.1.Trust.Nodes v6.1.Trust.Inner) v6.1.Kind v6.1.Ballot v6.1.Prepared v6.1.Prime v6.1.Low v6.1.High)]) then
 some (Sum.inl ((addI .i64 v5.1 (1 : Int)), (v5.2.1 ++ [(TEnvelope.mk v6.1.Node v6.1.Slot v6.1.Seq (TTrust.mk v6.1.Trust.Threshold v6.1.Trust.Nodes v6.1.Trust.Inner) v6.1.Kind v6.1.Ballot v6.1.Prepared v6.1.Prime v6.1.Low v6.1.High)]), ()))
 else none) fun j7 =>
 bif (decide (v5.1 = (0 : Int))) then
 j7 ((TEnvelope.mk v5.1 (1 : Int) (1 : Int) (TTrust.mk r3.Threshold r3.Nodes r3.Inner) (2 : Int) (TBallot.mk (addI .i64 (addI .i64 (addI .i64 (1 : Int) (remI .i64 (convI .i64 a1) (4 : Int))) (2 : Int)) (remI .i64 (convI .i64 a2) (4 : Int))) p4.1) (TBallot.mk (addI .i64 (addI .i64 (addI .i64 (1 : Int) (remI .i64 (convI .i64 a1) (4 : Int))) (2 : Int)) (remI .i64 (convI .i64 a2) (4 : Int))) p4.1) (TBallot.mk (0 : Int) (ByteArray.mk #[])) (addI .i64 (1 : Int) (remI .i64 (convI .i64 a1) (4 : Int))) (addI .i64 (1 : Int) (remI .i64 (convI .i64 a1) (4 : Int)))), ())
 else
 j7 ((TEnvelope.mk v5.1 (1 : Int) (1 : Int) (TTrust.mk r3.Threshold r3.Nodes r3.Inner) (2 : Int) (TBallot.mk (addI .i64 (addI .i64 (addI .i64 (1 : Int) (remI .i64 (convI .i64 a1) (4 : Int))) (2 : Int)) (remI .i64 (convI .i64 a2) (4 : Int))) p4.1) (TBallot.mk (addI .i64 (addI .i64 (addI .i64 (1 : Int) (remI .i64 (convI .i64 a1) (4 : Int))) (2 : Int)) (remI .i64 (convI .i64 a2) (4 : Int))) p4.1) (TBallot.mk (0 : Int) (ByteArray.mk #[])) (addI .i64 (addI .i64 (addI .i64 (1 : Int) (remI .i64 (convI .i64 a1) (4 : Int))) (2 : Int)) (remI .i64 (convI .i64 a2) (4 : Int))) (addI .i64 (addI .i64 (addI .i64 (1 : Int) (remI .i64 (convI .i64 a1) (4 : Int))) (2 : Int)) (remI .i64 (convI .i64 a2) (4 : Int)))), ())
 else
 Option.map Sum.inr (Option.bind (F_commit_Extend (0 : Int) (TTrust.mk r3.Threshold r3.Nodes r3.Inner) v5.2.1 p4.1 (addI .i64 (1 : Int) (remI .i64 (convI .i64 a1) (4 : Int))) (addI .i64 (1 : Int) (remI .i64 (convI .i64 a1) (4 : Int)))) fun r8 =>
 Option.bind (idx v5.2.1 (0 : Int)) fun x9 =>
 Option.bind (v5.2.1[(Int.toNat (0 : Int))]?) fun x10 =>
 Option.bind (v5.2.1[(Int.toNat (0 : Int))]?) fun x11 =>
 Option.bind (idx (v5.2.1.set (Int.toNat (0 : Int)) (TEnvelope.mk x11.Node x11.Slot x11.Seq (TTrust.mk x11.Trust.Threshold x11.Trust.Nodes x11.Trust.Inner) x11.Kind x11.Ballot x11.Prepared x11.Prime r8.1 x11.High)) (0 : Int)) fun x12 =>
 Option.bind ((v5.2.1.set (Int.toNat (0 : Int)) (TEnvelope.mk x11.Node x11.Slot x11.Seq (TTrust.mk x11.Trust.Threshold x11.Trust.Nodes x11.Trust.Inner) x11.Kind x11.Ballot x11.Prepared x11.Prime r8.1 x11.High))[(Int.toNat (0 : Int))]?) fun x13 =>
 Option.bind ((v5.2.1.set (Int.toNat (0 : Int)) (TEnvelope.mk x11.Node x11.Slot x11.Seq (TTrust.mk x11.Trust.Threshold x11.Trust.Nodes x11.Trust.Inner) x11.Kind x11.Ballot x11.Prepared x11.Prime r8.1 x11.High))[(Int.toNat (0 : Int))]?) fun x14 =>
 Option.bind (F_commit_Final (0 : Int) (TTrust.mk r3.Threshold r3.Nodes r3.Inner) ((v5.2.1.set (Int.toNat (0 : Int)) (TEnvelope.mk x11.Node x11.Slot x11.Seq (TTrust.mk x11.Trust.Threshold x11.Trust.Nodes x11.Trust.Inner) x11.Kind x11.Ballot x11.Prepared x11.Prime r8.1 x11.High)).set (Int.toNat (0 : Int)) (TEnvelope.mk x14.Node x14.Slot x14.Seq (TTrust.mk x14.Trust.Threshold x14.Trust.Nodes x14.Trust.Inner) x14.Kind x14.Ballot x14.Prepared x14.Prime x14.Low r8.2.1)) p4.1) fun r15 =>
 Option.bind (bif (decide (r8.1 = (addI .i64 (addI .i64 (addI .i64 (1 : Int) (remI .i64 (convI .i64 a1) (4 : Int))) (2 : Int)) (remI .i64 (convI .i64 a2) (4 : Int))))) then
 some (decide (r8.2.1 = (addI .i64 (addI .i64 (addI .i64 (1 : Int) (remI .i64 (convI .i64 a1) (4 : Int))) (2 : Int)) (remI .i64 (convI .i64 a2) (4 : Int)))))
 else some false) fun b16 =>
 Option.bind (bif b16 then
 some r15.2.2.1
 else some false) fun b17 =>
 Option.bind (bif b17 then
 some (decide (r15.1 = (addI .i64 (addI .i64 (addI .i64 (1 : Int) (remI .i64 (convI .i64 a1) (4 : Int))) (2 : Int)) (remI .i64 (convI .i64 a2) (4 : Int)))))
 else some false) fun b18 =>
 Option.bind (bif b18 then
 some (decide (r15.2.1 = (addI .i64 (addI .i64 (addI .i64 (1 : Int) (remI .i64 (convI .i64 a1) (4 : Int))) (2 : Int)) (remI .i64 (convI .i64 a2) (4 : Int)))))
 else some false) fun b19 =>
 Option.bind (bif b19 then
 Option.bind (F_law26_sane) fun r20 =>
 some r20
 else some false) fun b21 =>
 some b21)) ((0 : Int), ([] : List TEnvelope), ())
noncomputable def k_law26_CommitJumps : KFun U := .fn 10 [.ty (Ty.sl (Ty.i .i64)), .ty (Ty.i .u8), .ty (Ty.i .u8)] (.one Ty.bool) fun a => F_law26_CommitJumps a.1 a.2.1 a.2.2.1
theorem e_law26_CommitJumps : fnK K [k_play_New, k_play_Src_Range, k_play_Flat, k_play_Src_Value, k_commit_Extend, k_commit_Final, k_law26_sane] sa_law26_CommitJumps [.tmp 6] [.ty (Ty.sl (Ty.i .i64)), .ty (Ty.i .u8), .ty (Ty.i .u8)] (.one Ty.bool) = fun a => F_law26_CommitJumps a.1 a.2.1 a.2.2.1 := by kernel_rfl
theorem s_law26_CommitJumps : KFun.Sound (U := U) Try.prog k_law26_CommitJumps := fnK_sound (K := K) (Γ := [k_play_New, k_play_Src_Range, k_play_Flat, k_play_Src_Value, k_commit_Extend, k_commit_Final, k_law26_sane]) ok_law26_CommitJumps (by kernel_rfl) (by decide) ⟨s_play_New, s_play_Src_Range, s_play_Flat, s_play_Src_Value, s_commit_Extend, s_commit_Final, s_law26_sane, trivial⟩ (fun a => congrFun e_law26_CommitJumps a)

end Go.Proofs.Ytncjalhhkmojlaa
