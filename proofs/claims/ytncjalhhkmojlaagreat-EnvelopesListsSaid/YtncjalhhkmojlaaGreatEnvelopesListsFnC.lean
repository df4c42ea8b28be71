/-
  Functions of the program as plain functions, each held against the program by the kernel. Printed by a program.
-/
import Derived.Test.YtncjalhhkmojlaaGreatEnvelopesListsFnB
import Derived.Test.YtncjalhhkmojlaaGreatProg
import Derived.KernelRfl
set_option linter.unusedVariables false
namespace Go.Proofs.YtncjalhhkmojlaaGreat
open Go.TQ

/-! ### (trustquorum/envelopes.Right).Count -/
def sa_envelopes_Right_Count : SA U :=
 (.seq
 (.reg
 (op 1 (.box (tm 0))
 (op 2 (.mov (ci 0))
 .nil)))
 (.seq
 (.seq
 (.reg
 (op 3 (.faddr 0 (tm 1))
 (op 4 (.faddr 6 (tm 3))
 (op 5 (.load none (tm 4))
 (op 6 (.bin .eql (tm 5) (ci 3))
 .nil)))))
 (.cond (tm 6)
 (.seq
 (.reg
 (op 2 (.mov (ci 1000000))
 .nil))
 .ret)
 .skip))
 (.seq
 (.reg
 (op 7 (.faddr 0 (tm 1))
 (op 8 (.faddr 7 (tm 7))
 (op 9 (.faddr 0 (tm 8))
 (op 10 (.load none (tm 9))
 (op 2 (.mov (tm 10))
 .nil))))))
 .ret)))
theorem ok_envelopes_Right_Count : FnOk Tryz.prog 142 11 (SA.erase sa_envelopes_Right_Count) [.tmp 2] := ⟨Tryz.f142, [], Tryz.func142, rfl, by kernel_rfl, by kernel_rfl, by kernel_rfl⟩
noncomputable def F_envelopes_Right_Count (a0 : TRight) : Option Int :=
 bif (decide (a0.Envelope.Kind = (3 : Int))) then
 some (1000000 : Int)
 else
 some a0.Envelope.Ballot.Counter
noncomputable def k_envelopes_Right_Count : KFun U := .fn 142 [.ty (Ty.st .Right)] (.one (Ty.i .i64)) fun a => F_envelopes_Right_Count a.1
theorem e_envelopes_Right_Count : fnK K [] sa_envelopes_Right_Count [.tmp 2] [.ty (Ty.st .Right)] (.one (Ty.i .i64)) = fun a => F_envelopes_Right_Count a.1 := by kernel_rfl
theorem s_envelopes_Right_Count : KFun.Sound (U := U) Tryz.prog k_envelopes_Right_Count := fnK_sound (K := K) (Γ := []) ok_envelopes_Right_Count (by kernel_rfl) (by decide) trivial (fun a => congrFun e_envelopes_Right_Count a)

/-! ### trustquorum/envelopes.Counter -/
def sa_envelopes_Counter : SA U :=
 (.seq
 (.reg
 (op 1 (.box (tm 0))
 (op 2 (.mov (ci 0))
 .nil)))
 (.seq
 (.seq
 (.reg
 (op 3 (.load (some 15) (tm 1))
 (op 4 (.call 75 [(tm 3)])
 (op 5 (.not (tm 4))
 .nil))))
 (.cond (tm 5)
 (.seq
 (.reg
 (op 2 (.mov (ci 0))
 .nil))
 .ret)
 .skip))
 (.seq
 (.reg
 (op 6 (.load (some 15) (tm 1))
 (op 7 (.build [.int .i64 0, .int .i64 0, .int .i64 0, .int .i64 0, .nils, .nils, .int .i64 0, .int .i64 0, .str ⟨#[]⟩, .int .i64 0, .str ⟨#[]⟩, .int .i64 0, .str ⟨#[]⟩, .int .i64 0, .int .i64 0] [(0, 15, (tm 6))])
 (op 8 (.call 142 [(tm 7)])
 (op 2 (.mov (tm 8))
 .nil)))))
 .ret)))
theorem ok_envelopes_Counter : FnOk Tryz.prog 77 9 (SA.erase sa_envelopes_Counter) [.tmp 2] := ⟨Tryz.f77, [], Tryz.func77, rfl, by kernel_rfl, by kernel_rfl, by kernel_rfl⟩
noncomputable def F_envelopes_Counter (a0 : TEnvelope) : Option Int :=
 Option.bind (F_envelopes_Valid (TEnvelope.mk a0.Node a0.Slot a0.Seq (TTrust.mk a0.Trust.Threshold a0.Trust.Nodes a0.Trust.Inner) a0.Kind a0.Ballot a0.Prepared a0.Prime a0.Low a0.High)) fun r1 =>
 bif (!r1) then
 some (0 : Int)
 else
 Option.bind (F_envelopes_Right_Count (TRight.mk (TEnvelope.mk a0.Node a0.Slot a0.Seq (TTrust.mk a0.Trust.Threshold a0.Trust.Nodes a0.Trust.Inner) a0.Kind a0.Ballot a0.Prepared a0.Prime a0.Low a0.High))) fun r2 =>
 some r2
noncomputable def k_envelopes_Counter : KFun U := .fn 77 [.ty (Ty.st .Envelope)] (.one (Ty.i .i64)) fun a => F_envelopes_Counter a.1
theorem e_envelopes_Counter : fnK K [k_envelopes_Valid, k_envelopes_Right_Count] sa_envelopes_Counter [.tmp 2] [.ty (Ty.st .Envelope)] (.one (Ty.i .i64)) = fun a => F_envelopes_Counter a.1 := by kernel_rfl
theorem s_envelopes_Counter : KFun.Sound (U := U) Tryz.prog k_envelopes_Counter := fnK_sound (K := K) (Γ := [k_envelopes_Valid, k_envelopes_Right_Count]) ok_envelopes_Counter (by kernel_rfl) (by decide) ⟨s_envelopes_Valid, s_envelopes_Right_Count, trivial⟩ (fun a => congrFun e_envelopes_Counter a)

/-! ### trustquorum/trustquorumlaw24.sane -/
def sa_law24_sane : SA U :=
 (.seq
 (.reg
 (op 0 (.mov (.cst (.bool false)))
 .nil))
 (.seq
 (.reg
 (op 2 (.call 30 [(ci 3), (ci 2)])
 (op 3 (.build [.int .i64 0, .str ⟨#[]⟩] [(0, 1, (ci 3)), (1, 1, (.cst (.str ⟨#[97]⟩)))])
 (op 4 (.build [.int .i64 0, .str ⟨#[]⟩] [(0, 1, (ci 3)), (1, 1, (.cst (.str ⟨#[97]⟩)))])
 (op 5 (.build [.int .i64 0, .int .i64 0, .int .i64 0, .int .i64 0, .nils, .nils, .int .i64 0, .int .i64 0, .str ⟨#[]⟩, .int .i64 0, .str ⟨#[]⟩, .int .i64 0, .str ⟨#[]⟩, .int .i64 0, .int .i64 0] [(1, 1, (ci 1)), (2, 1, (ci 1)), (3, 3, (tm 2)), (6, 1, (ci 1)), (7, 2, (tm 3)), (9, 2, (tm 4)), (13, 1, (ci 2)), (14, 1, (ci 3))])
 (op 1 (.alloc [.int .i64 0, .int .i64 0, .int .i64 0, .int .i64 0, .nils, .nils, .int .i64 0, .int .i64 0, .str ⟨#[]⟩, .int .i64 0, .str ⟨#[]⟩, .int .i64 0, .str ⟨#[]⟩, .int .i64 0, .int .i64 0])
 (ops (.store 15 (tm 1) (tm 5))
 .nil)))))))
 (.seq
 (.reg
 (op 6 (.load (some 15) (tm 1))
 (op 7 (.call 75 [(tm 6)])
 (op 8 (.mov (tm 7))
 (.ite 8 true
 (opg 9 8 true (.load (some 15) (tm 1))
 (opg 10 8 true (.call 20 [(tm 9), (.cst (.str ⟨#[97]⟩)), (ci 2), (ci 3)])
 .nil))
 11 none (tm 10) (.cst (.bool false))
 (op 12 (.mov (tm 11))
 (.ite 12 true
 (opg 13 12 true (.load (some 15) (tm 1))
 (opg 14 12 true (.call 81 [(tm 13), (.cst (.str ⟨#[97]⟩)), (ci 2), (ci 3)])
 (opg 15 12 true (.not (tm 14))
 .nil)))
 16 none (tm 15) (.cst (.bool false))
 (op 17 (.mov (tm 16))
 (.ite 17 true
 (opg 18 17 true (.load (some 15) (tm 1))
 (opg 19 17 true (.call 77 [(tm 18)])
 (opg 20 17 true (.bin .eql (tm 19) (ci 3))
 .nil)))
 21 none (tm 20) (.cst (.bool false))
 (op 0 (.mov (tm 21))
 .nil))))))))))
 .ret)))
theorem ok_law24_sane : FnOk Tryz.prog 21 22 (SA.erase sa_law24_sane) [.tmp 0] := ⟨Tryz.f21, [], Tryz.func21, rfl, by kernel_rfl, by kernel_rfl, by kernel_rfl⟩
noncomputable def F_law24_sane  : Option Bool :=
 Option.bind (F_play_Flat (3 : Int) (2 : Int)) fun r1 =>
 Option.bind (F_envelopes_Valid (TEnvelope.mk (0 : Int) (1 : Int) (1 : Int) (TTrust.mk r1.Threshold r1.Nodes r1.Inner) (1 : Int) (TBallot.mk (3 : Int) (ByteArray.mk #[97])) (TBallot.mk (3 : Int) (ByteArray.mk #[97])) (TBallot.mk (0 : Int) (ByteArray.mk #[])) (2 : Int) (3 : Int))) fun r2 =>
 Option.bind (bif r2 then
 Option.bind (F_envelopes_VotesCommit (TEnvelope.mk (0 : Int) (1 : Int) (1 : Int) (TTrust.mk r1.Threshold r1.Nodes r1.Inner) (1 : Int) (TBallot.mk (3 : Int) (ByteArray.mk #[97])) (TBallot.mk (3 : Int) (ByteArray.mk #[97])) (TBallot.mk (0 : Int) (ByteArray.mk #[])) (2 : Int) (3 : Int)) (ByteArray.mk #[97]) (2 : Int) (3 : Int)) fun r3 =>
 some r3
 else some false) fun b4 =>
 Option.bind (bif b4 then
 Option.bind (F_envelopes_AcceptsCommit (TEnvelope.mk (0 : Int) (1 : Int) (1 : Int) (TTrust.mk r1.Threshold r1.Nodes r1.Inner) (1 : Int) (TBallot.mk (3 : Int) (ByteArray.mk #[97])) (TBallot.mk (3 : Int) (ByteArray.mk #[97])) (TBallot.mk (0 : Int) (ByteArray.mk #[])) (2 : Int) (3 : Int)) (ByteArray.mk #[97]) (2 : Int) (3 : Int)) fun r5 =>
 some (!r5)
 else some false) fun b6 =>
 Option.bind (bif b6 then
 Option.bind (F_envelopes_Counter (TEnvelope.mk (0 : Int) (1 : Int) (1 : Int) (TTrust.mk r1.Threshold r1.Nodes r1.Inner) (1 : Int) (TBallot.mk (3 : Int) (ByteArray.mk #[97])) (TBallot.mk (3 : Int) (ByteArray.mk #[97])) (TBallot.mk (0 : Int) (ByteArray.mk #[])) (2 : Int) (3 : Int))) fun r7 =>
 some (decide (r7 = (3 : Int)))
 else some false) fun b8 =>
 some b8
noncomputable def k_law24_sane : KFun U := .fn 21 [] (.one Ty.bool) fun a => F_law24_sane 
theorem e_law24_sane : fnK K [k_play_Flat, k_envelopes_Valid, k_envelopes_VotesCommit, k_envelopes_AcceptsCommit, k_envelopes_Counter] sa_law24_sane [.tmp 0] [] (.one Ty.bool) = fun a => F_law24_sane  := by kernel_rfl
theorem s_law24_sane : KFun.Sound (U := U) Tryz.prog k_law24_sane := fnK_sound (K := K) (Γ := [k_play_Flat, k_envelopes_Valid, k_envelopes_VotesCommit, k_envelopes_AcceptsCommit, k_envelopes_Counter]) ok_law24_sane (by kernel_rfl) (by decide) ⟨s_play_Flat, s_envelopes_Valid, s_envelopes_VotesCommit, s_envelopes_AcceptsCommit, s_envelopes_Counter, trivial⟩ (fun a => congrFun e_law24_sane a)

/-! ### trustquorum/trustquorumlaw24.EnvelopesLists -/
def sa_law24_EnvelopesLists : SA U :=
 (.seq
 (.reg
 (op 2 (.mov (.cst (.bool false)))
 .nil))
 (.seq
 (.reg
 (op 20 (.mov (tm 0))
 (op 21 (.call 11 [(tm 20)])
 (op 3 (.mov (tm 21))
 .nil))))
 (.seq
 (.reg
 (op 22 (.mov (tm 3))
 (op 23 (.call 12 [(tm 22), (ci 5), (ci 1)])
 (op 4 (.mov (tm 23))
 .nil))))
 (.seq
 (.reg
 (op 24 (.mov (tm 4))
 (op 25 (.call 13 [(tm 24)])
 (op 26 (.mov (tm 4))
 (op 27 (.call 14 [(tm 26)])
 (op 5 (.mov (tm 25))
 (op 6 (.mov (tm 27))
 .nil)))))))
 (.seq
 (.seq
 (.reg
 (op 28 (.mov (tm 5))
 (op 29 (.len false (tm 28))
 (op 30 (.mov (ci 0))
 .nil))))
 (.block 0
 (.loop ⟨[.val 30 (Ty.i .i64)], [4, 5, 6, 28, 29]⟩
 (.seq
 (.reg
 (op 31 (.bin .lss (tm 30) (tm 29))
 .nil))
 (.seq
 (.cond (tm 31)
 .skip
 (.exit 0))
 (.seq
 (.block 1
 (.seq
 (.reg
 (op 32 (.mov (tm 30))
 (op 33 (.iaddr 2 (tm 28) (tm 30))
 (op 34 (.load (some 2) (tm 33))
 (op 8 (.alloc [.int .i64 0, .str ⟨#[]⟩])
 (op 7 (.mov (tm 32))
 (ops (.store 2 (tm 8) (tm 34))
 .nil)))))))
 (.seq
 (.join ⟨[.val 46 Ty.bool], [4, 5, 6, 8, 28, 29, 30]⟩
 (.drw [(3, 7), (3, 8)]
 (op 35 (.mov (tm 7))
 (op 36 (.bin .gtr (tm 35) (ci 0))
 (op 37 (.mov (tm 36))
 (.spl 37
 (opg 38 37 true (.load (some 2) (tm 8))
 (opg 39 37 true (.mov (tm 5))
 (opg 40 37 true (.mov (tm 7))
 (opg 41 37 true (.bin .sub (tm 40) (ci 1))
 (opg 42 37 true (.iaddr 2 (tm 39) (tm 41))
 (opg 43 37 true (.load (some 2) (tm 42))
 (opg 44 37 true (.call 15 [(tm 38), (tm 43)])
 (opg 45 37 true (.not (tm 44))
 (op 46 (.pick (tm 37) (tm 45) (.cst (.bool false)))
 .nil))))))))))))))
 (.cond (tm 46)
 (.seq
 (.reg
 (op 2 (.mov (.cst (.bool false)))
 .nil))
 .ret)
 .skip))
 (.seq
 (.reg
 (op 9 (.mov (.cst (.bool false)))
 .nil))
 (.seq
 (.seq
 (.reg
 (op 47 (.mov (tm 4))
 (op 48 (.len false (tm 47))
 (op 49 (.mov (ci 0))
 .nil))))
 (.block 2
 (.loop ⟨[.val 9 Ty.bool, .val 49 (Ty.i .i64)], [4, 5, 6, 8, 28, 29, 30, 47, 48]⟩
 (.seq
 (.reg
 (op 50 (.bin .lss (tm 49) (tm 48))
 .nil))
 (.seq
 (.cond (tm 50)
 .skip
 (.exit 2))
 (.seq
 (.block 3
 (.seq
 (.reg
 (op 51 (.iaddr 15 (tm 47) (tm 49))
 (op 52 (.load (some 15) (tm 51))
 (op 11 (.alloc [.int .i64 0, .int .i64 0, .int .i64 0, .int .i64 0, .nils, .nils, .int .i64 0, .int .i64 0, .str ⟨#[]⟩, .int .i64 0, .str ⟨#[]⟩, .int .i64 0, .str ⟨#[]⟩, .int .i64 0, .int .i64 0])
 (ops (.store 15 (tm 11) (tm 52))
 .nil)))))
 (.reg
 (op 53 (.mov (tm 9))
 (op 54 (.mov (tm 53))
 (.ite 54 false
 (opg 55 54 false (.load (some 15) (tm 11))
 (opg 56 54 false (.load (some 2) (tm 8))
 (opg 57 54 false (.call 16 [(tm 55), (tm 56)])
 .nil)))
 58 none (.cst (.bool true)) (tm 57)
 (op 59 (.mov (tm 58))
 (.ite 59 false
 (opg 60 59 false (.load (some 15) (tm 11))
 (opg 61 59 false (.load (some 2) (tm 8))
 (opg 62 59 false (.call 17 [(tm 60), (tm 61)])
 .nil)))
 63 none (.cst (.bool true)) (tm 62)
 (op 9 (.mov (tm 63))
 .nil)))))))))
 (.reg
 (op 64 (.bin .add (tm 49) (ci 1))
 (op 49 (.mov (tm 64))
 .nil)))))))))
 (.seq
 (.reg
 (op 65 (.mov (tm 9))
 (op 66 (.not (tm 65))
 .nil)))
 (.cond (tm 66)
 (.seq
 (.reg
 (op 2 (.mov (.cst (.bool false)))
 .nil))
 .ret)
 .skip)))))))
 (.reg
 (op 67 (.bin .add (tm 30) (ci 1))
 (op 30 (.mov (tm 67))
 .nil)))))))))
 (.seq
 (.seq
 (.reg
 (op 68 (.mov (tm 6))
 (op 69 (.len false (tm 68))
 (op 70 (.mov (ci 0))
 .nil))))
 (.block 4
 (.loop ⟨[.val 70 (Ty.i .i64)], [4, 6, 68, 69]⟩
 (.seq
 (.reg
 (op 71 (.bin .lss (tm 70) (tm 69))
 .nil))
 (.seq
 (.cond (tm 71)
 .skip
 (.exit 4))
 (.seq
 (.block 5
 (.seq
 (.reg
 (op 72 (.mov (tm 70))
 (op 73 (.iaddr 1 (tm 68) (tm 70))
 (op 74 (.load none (tm 73))
 (op 12 (.mov (tm 72))
 (op 13 (.mov (tm 74))
 .nil))))))
 (.seq
 (.seq
 (.reg
 (op 75 (.mov (tm 12))
 (op 76 (.bin .gtr (tm 75) (ci 0))
 (op 77 (.mov (tm 76))
 (.ite 77 true
 (opg 78 77 true (.mov (tm 6))
 (opg 79 77 true (.mov (tm 12))
 (opg 80 77 true (.bin .sub (tm 79) (ci 1))
 (opg 81 77 true (.iaddr 1 (tm 78) (tm 80))
 (opg 82 77 true (.load none (tm 81))
 (opg 83 77 true (.mov (tm 13))
 (opg 84 77 true (.call 18 [(tm 82), (tm 83)])
 (opg 85 77 true (.not (tm 84))
 .nil))))))))
 86 none (tm 85) (.cst (.bool false))
 .nil)))))
 (.cond (tm 86)
 (.seq
 (.reg
 (op 2 (.mov (.cst (.bool false)))
 .nil))
 .ret)
 .skip))
 (.seq
 (.reg
 (op 87 (.mov (tm 4))
 (op 88 (.mov (tm 13))
 (op 89 (.call 19 [(tm 87), (tm 88)])
 (op 14 (.mov (tm 89))
 .nil)))))
 (.seq
 (.reg
 (op 90 (.mov (tm 14))
 (op 91 (.len false (tm 90))
 (op 92 (.mov (ci 0))
 .nil))))
 (.block 6
 (.loop ⟨[.val 92 (Ty.i .i64)], [4, 6, 13, 14, 68, 69, 70, 90, 91]⟩
 (.seq
 (.reg
 (op 93 (.bin .lss (tm 92) (tm 91))
 .nil))
 (.seq
 (.cond (tm 93)
 .skip
 (.exit 6))
 (.seq
 (.block 7
 (.seq
 (.reg
 (op 94 (.mov (tm 92))
 (op 95 (.iaddr 1 (tm 90) (tm 92))
 (op 96 (.load none (tm 95))
 (op 15 (.mov (tm 94))
 (op 16 (.mov (tm 96))
 .nil))))))
 (.seq
 (.seq
 (.reg
 (op 97 (.mov (tm 15))
 (op 98 (.bin .gtr (tm 97) (ci 0))
 (op 99 (.mov (tm 98))
 (.ite 99 true
 (opg 100 99 true (.mov (tm 14))
 (opg 101 99 true (.mov (tm 15))
 (opg 102 99 true (.bin .sub (tm 101) (ci 1))
 (opg 103 99 true (.iaddr 1 (tm 100) (tm 102))
 (opg 104 99 true (.load none (tm 103))
 (opg 105 99 true (.mov (tm 16))
 (opg 106 99 true (.bin .geq (tm 104) (tm 105))
 .nil)))))))
 107 none (tm 106) (.cst (.bool false))
 .nil)))))
 (.cond (tm 107)
 (.seq
 (.reg
 (op 2 (.mov (.cst (.bool false)))
 .nil))
 .ret)
 .skip))
 (.seq
 (.reg
 (op 17 (.mov (.cst (.bool false)))
 .nil))
 (.seq
 (.seq
 (.reg
 (op 108 (.mov (tm 4))
 (op 109 (.len false (tm 108))
 (op 110 (.mov (ci 0))
 .nil))))
 (.block 8
 (.loop ⟨[.val 17 Ty.bool, .val 110 (Ty.i .i64)], [4, 6, 13, 14, 16, 68, 69, 70, 90, 91, 92, 108, 109]⟩
 (.seq
 (.reg
 (op 111 (.bin .lss (tm 110) (tm 109))
 .nil))
 (.seq
 (.cond (tm 111)
 .skip
 (.exit 8))
 (.seq
 (.block 9
 (.seq
 (.reg
 (op 112 (.iaddr 15 (tm 108) (tm 110))
 (op 113 (.load (some 15) (tm 112))
 (op 19 (.alloc [.int .i64 0, .int .i64 0, .int .i64 0, .int .i64 0, .nils, .nils, .int .i64 0, .int .i64 0, .str ⟨#[]⟩, .int .i64 0, .str ⟨#[]⟩, .int .i64 0, .str ⟨#[]⟩, .int .i64 0, .int .i64 0])
 (ops (.store 15 (tm 19) (tm 113))
 .nil)))))
 (.reg
 (op 114 (.mov (tm 17))
 (op 115 (.mov (tm 114))
 (.ite 115 false
 (opg 116 115 false (.load (some 15) (tm 19))
 (opg 117 115 false (.mov (tm 13))
 (opg 118 115 false (.mov (tm 16))
 (opg 119 115 false (.mov (tm 16))
 (opg 120 115 false (.call 20 [(tm 116), (tm 117), (tm 118), (tm 119)])
 .nil)))))
 121 none (.cst (.bool true)) (tm 120)
 (op 17 (.mov (tm 121))
 .nil)))))))
 (.reg
 (op 122 (.bin .add (tm 110) (ci 1))
 (op 110 (.mov (tm 122))
 .nil)))))))))
 (.seq
 (.reg
 (op 123 (.mov (tm 17))
 (op 124 (.not (tm 123))
 .nil)))
 (.cond (tm 124)
 (.seq
 (.reg
 (op 2 (.mov (.cst (.bool false)))
 .nil))
 .ret)
 .skip)))))))
 (.reg
 (op 125 (.bin .add (tm 92) (ci 1))
 (op 92 (.mov (tm 125))
 .nil)))))))))))))
 (.reg
 (op 126 (.bin .add (tm 70) (ci 1))
 (op 70 (.mov (tm 126))
 .nil)))))))))
 (.seq
 (.reg
 (op 127 (.mov (tm 4))
 (op 128 (.len false (tm 127))
 (op 129 (.bin .eql (tm 128) (ci 0))
 (op 130 (.mov (tm 6))
 (op 131 (.len false (tm 130))
 (op 132 (.bin .eql (tm 131) (ci 0))
 (op 133 (.eqb false (tm 129) (tm 132))
 (op 134 (.mov (tm 133))
 (.ite 134 true
 (opg 135 134 true (.call 21 [])
 .nil)
 136 none (tm 135) (.cst (.bool false))
 (op 2 (.mov (tm 136))
 .nil)))))))))))
 .ret)))))))
theorem ok_law24_EnvelopesLists : FnOk Tryz.prog 3 137 (SA.erase sa_law24_EnvelopesLists) [.tmp 2] := ⟨Tryz.f3, [], Tryz.func3, rfl, by kernel_rfl, by kernel_rfl, by kernel_rfl⟩
noncomputable def F_law24_EnvelopesLists (a0 : (List Int)) : Option Bool :=
 Option.bind (F_play_New a0) fun r1 =>
 Option.bind (F_play_Src_Envelopes r1 (5 : Int) (1 : Int)) fun p2 =>
 Option.bind (F_envelopes_Ballots p2.1) fun r3 =>
 Option.bind (F_envelopes_Values p2.1) fun r4 =>
 loopO (fun (v5 : Int × Unit) =>
 bif (decide (v5.1 < ((List.length r3 : Nat) : Int))) then
 Option.bind (idx r3 v5.1) fun x6 =>
 letJ (fun (v7 : Bool × Unit) =>
 bif v7.1 then
 Option.map Sum.inr (some false)
 else
 loopO (fun (v9 : Bool × Int × Unit) =>
 bif (decide (v9.2.1 < ((List.length p2.1 : Nat) : Int))) then
 Option.bind (idx p2.1 v9.2.1) fun x10 =>
 Option.bind (bif v9.1 then some true
 else
 Option.bind (F_envelopes_VotesPrepare (TEnvelope.mk x10.Node x10.Slot x10.Seq (TTrust.mk x10.Trust.Threshold x10.Trust.Nodes x10.Trust.Inner) x10.Kind x10.Ballot x10.Prepared x10.Prime x10.Low x10.High) x6) fun r11 =>
 some r11) fun b12 =>
 Option.bind (bif b12 then some true
 else
 Option.bind (F_envelopes_AcceptsPrepare (TEnvelope.mk x10.Node x10.Slot x10.Seq (TTrust.mk x10.Trust.Threshold x10.Trust.Nodes x10.Trust.Inner) x10.Kind x10.Ballot x10.Prepared x10.Prime x10.Low x10.High) x6) fun r13 =>
 some r13) fun b14 =>
 some (Sum.inl (b14, (addI .i64 v9.2.1 (1 : Int)), ()))
 else
 Option.map Sum.inr (bif (!v9.1) then
 Option.map Sum.inr (some false)
 else
 some (Sum.inl ((addI .i64 v5.1 (1 : Int)), ())))) (false, (0 : Int), ())) fun j8 =>
 bif (decide ((0 : Int) < v5.1)) then
 Option.bind (idx r3 (subI .i64 v5.1 (1 : Int))) fun x15 =>
 Option.bind (F_ref23_Less x6 x15) fun r16 =>
 j8 ((!r16), ())
 else
 j8 (false, ())
 else
 Option.map Sum.inr (loopO (fun (v17 : Int × Unit) =>
 bif (decide (v17.1 < ((List.length r4 : Nat) : Int))) then
 Option.bind (idx r4 v17.1) fun x18 =>
 Option.bind (bif (decide ((0 : Int) < v17.1)) then
 Option.bind (idx r4 (subI .i64 v17.1 (1 : Int))) fun x19 =>
 Option.bind (F_ref23_LessValue x19 x18) fun r20 =>
 some (!r20)
 else some false) fun b21 =>
 bif b21 then
 Option.map Sum.inr (some false)
 else
 Option.bind (F_envelopes_Bounds p2.1 x18) fun r22 =>
 loopO (fun (v23 : Int × Unit) =>
 bif (decide (v23.1 < ((List.length r22 : Nat) : Int))) then
 Option.bind (idx r22 v23.1) fun x24 =>
 Option.bind (bif (decide ((0 : Int) < v23.1)) then
 Option.bind (idx r22 (subI .i64 v23.1 (1 : Int))) fun x25 =>
 some (decide (x24 ≤ x25))
 else some false) fun b26 =>
 bif b26 then
 Option.map Sum.inr (Option.map Sum.inr (some false))
 else
 loopO (fun (v27 : Bool × Int × Unit) =>
 bif (decide (v27.2.1 < ((List.length p2.1 : Nat) : Int))) then
 Option.bind (idx p2.1 v27.2.1) fun x28 =>
 Option.bind (bif v27.1 then some true
 else
 Option.bind (F_envelopes_VotesCommit (TEnvelope.mk x28.Node x28.Slot x28.Seq (TTrust.mk x28.Trust.Threshold x28.Trust.Nodes x28.Trust.Inner) x28.Kind x28.Ballot x28.Prepared x28.Prime x28.Low x28.High) x18 x24 x24) fun r29 =>
 some r29) fun b30 =>
 some (Sum.inl (b30, (addI .i64 v27.2.1 (1 : Int)), ()))
 else
 Option.map Sum.inr (bif (!v27.1) then
 Option.map Sum.inr (Option.map Sum.inr (some false))
 else
 some (Sum.inl ((addI .i64 v23.1 (1 : Int)), ())))) (false, (0 : Int), ())
 else
 Option.map Sum.inr (some (Sum.inl ((addI .i64 v17.1 (1 : Int)), ())))) ((0 : Int), ())
 else
 Option.map Sum.inr (Option.bind (bif (xor false (decide ((decide (((List.length p2.1 : Nat) : Int) = (0 : Int))) = (decide (((List.length r4 : Nat) : Int) = (0 : Int)))))) then
 Option.bind (F_law24_sane) fun r31 =>
 some r31
 else some false) fun b32 =>
 some b32)) ((0 : Int), ()))) ((0 : Int), ())
noncomputable def k_law24_EnvelopesLists : KFun U := .fn 3 [.ty (Ty.sl (Ty.i .i64))] (.one Ty.bool) fun a => F_law24_EnvelopesLists a.1
theorem e_law24_EnvelopesLists : fnK K [k_play_New, k_play_Src_Envelopes, k_envelopes_Ballots, k_envelopes_Values, k_ref23_Less, k_envelopes_VotesPrepare, k_envelopes_AcceptsPrepare, k_ref23_LessValue, k_envelopes_Bounds, k_envelopes_VotesCommit, k_law24_sane] sa_law24_EnvelopesLists [.tmp 2] [.ty (Ty.sl (Ty.i .i64))] (.one Ty.bool) = fun a => F_law24_EnvelopesLists a.1 := by kernel_rfl
theorem s_law24_EnvelopesLists : KFun.Sound (U := U) Tryz.prog k_law24_EnvelopesLists := fnK_sound (K := K) (Γ := [k_play_New, k_play_Src_Envelopes, k_envelopes_Ballots, k_envelopes_Values, k_ref23_Less, k_envelopes_VotesPrepare, k_envelopes_AcceptsPrepare, k_ref23_LessValue, k_envelopes_Bounds, k_envelopes_VotesCommit, k_law24_sane]) ok_law24_EnvelopesLists (by kernel_rfl) (by decide) ⟨s_play_New, s_play_Src_Envelopes, s_envelopes_Ballots, s_envelopes_Values, s_ref23_Less, s_envelopes_VotesPrepare, s_envelopes_AcceptsPrepare, s_ref23_LessValue, s_envelopes_Bounds, s_envelopes_VotesCommit, s_law24_sane, trivial⟩ (fun a => congrFun e_law24_EnvelopesLists a)

end Go.Proofs.YtncjalhhkmojlaaGreat
