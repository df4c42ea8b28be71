/-
  Functions of the program as plain functions, each held against the program by the kernel. Printed by a program.
-/
import Derived.Test.YtncjalhhkmojlaaGreatCommitRangesFnA
import Derived.Test.YtncjalhhkmojlaaGreatProg
import Derived.KernelRfl
set_option linter.unusedVariables false
namespace Go.Proofs.YtncjalhhkmojlaaGreat
open Go.TQ

/-! ### slices.choosePivotCmpFunc[int] -/
def sa_slices_choosePivotCmpFunc_int_c93 : SA U :=
 (.seq
 (.reg
 (op 8 (.mov (ci 0))
 (op 9 (.mov (ci 0))
 .nil)))
 (.seq
 (.reg
 (op 15 (.mov (tm 2))
 (op 16 (.mov (tm 1))
 (op 17 (.bin .sub (tm 15) (tm 16))
 (op 10 (.mov (tm 17))
 .nil)))))
 (.seq
 (.reg
 (op 11 (.alloc [.int .i64 0])
 .nil))
 (.seq
 (.reg
 (op 18 (.mov (tm 1))
 (op 19 (.mov (tm 10))
 (op 20 (.bin .quo (tm 19) (ci 4))
 (op 21 (.bin .mul (tm 20) (ci 1))
 (op 22 (.bin .add (tm 18) (tm 21))
 (op 12 (.mov (tm 22))
 .nil)))))))
 (.seq
 (.reg
 (op 23 (.mov (tm 1))
 (op 24 (.mov (tm 10))
 (op 25 (.bin .quo (tm 24) (ci 4))
 (op 26 (.bin .mul (tm 25) (ci 2))
 (op 27 (.bin .add (tm 23) (tm 26))
 (op 13 (.mov (tm 27))
 .nil)))))))
 (.seq
 (.reg
 (op 28 (.mov (tm 1))
 (op 29 (.mov (tm 10))
 (op 30 (.bin .quo (tm 29) (ci 4))
 (op 31 (.bin .mul (tm 30) (ci 3))
 (op 32 (.bin .add (tm 28) (tm 31))
 (op 14 (.mov (tm 32))
 .nil)))))))
 (.join ⟨[.val 13 (Ty.i .i64), .box 6 1 (Ty.i .i64) []], [11]⟩
 (.seq
 (.reg
 (op 33 (.mov (tm 10))
 (op 34 (.bin .geq (tm 33) (ci 8))
 .nil)))
 (.cond (tm 34)
 (.join ⟨[.val 12 (Ty.i .i64), .val 13 (Ty.i .i64), .val 14 (Ty.i .i64), .box 6 1 (Ty.i .i64) []], [0, 3, 11]⟩
 (.seq
 (.reg
 (op 35 (.mov (tm 10))
 (op 36 (.bin .geq (tm 35) (ci 50))
 .nil)))
 (.cond (tm 36)
 (.seq
 (.reg
 (op 37 (.mov (tm 0))
 (op 38 (.mov (tm 12))
 (op 39 (.mov (tm 3))
 (op 40 (.call 241 [(tm 37), (tm 38), (tm 11), (tm 39)])
 (op 12 (.mov (tm 40))
 .nil))))))
 (.seq
 (.reg
 (op 41 (.mov (tm 0))
 (op 42 (.mov (tm 13))
 (op 43 (.mov (tm 3))
 (op 44 (.call 241 [(tm 41), (tm 42), (tm 11), (tm 43)])
 (op 13 (.mov (tm 44))
 .nil))))))
 (.reg
 (op 45 (.mov (tm 0))
 (op 46 (.mov (tm 14))
 (op 47 (.mov (tm 3))
 (op 48 (.call 241 [(tm 45), (tm 46), (tm 11), (tm 47)])
 (op 14 (.mov (tm 48))
 .nil))))))))
 .skip))
 (.reg
 (op 49 (.mov (tm 0))
 (op 50 (.mov (tm 12))
 (op 51 (.mov (tm 13))
 (op 52 (.mov (tm 14))
 (op 53 (.mov (tm 3))
 (op 54 (.call 242 [(tm 49), (tm 50), (tm 51), (tm 52), (tm 11), (tm 53)])
 (op 13 (.mov (tm 54))
 .nil)))))))))
 .skip))
 (.seq
 (.reg
 (op 55 (.load none (tm 11))
 .nil))
 (.block 0
 (.seq
 (.reg
 (op 58 (.bin .eql (tm 55) (ci 0))
 (op 57 (.mov (tm 58))
 .nil)))
 (.cond (tm 57)
 (.seq
 (.reg
 (op 59 (.mov (tm 13))
 (op 8 (.mov (tm 59))
 (op 9 (.mov (ci 1))
 .nil))))
 .ret)
 (.seq
 (.reg
 (op 61 (.bin .eql (tm 55) (ci 12))
 (op 60 (.mov (tm 61))
 .nil)))
 (.cond (tm 60)
 (.seq
 (.reg
 (op 62 (.mov (tm 13))
 (op 8 (.mov (tm 62))
 (op 9 (.mov (ci 2))
 .nil))))
 .ret)
 (.seq
 (.reg
 (op 56 (.mov (tm 13))
 (op 8 (.mov (tm 56))
 (op 9 (.mov (ci 0))
 .nil))))
 .ret))))))))))))))
noncomputable def F_slices_choosePivotCmpFunc_int_c93 (a0 : (List Int)) (a1 : Int) (a2 : Int) : Option (Int × Int × Unit) :=
 letJ (fun (v1 : Int × Int × Unit) =>
 bif (decide (v1.2.1 = (0 : Int))) then
 some (v1.1, (1 : Int), ())
 else
 bif (decide (v1.2.1 = (12 : Int))) then
 some (v1.1, (2 : Int), ())
 else
 some (v1.1, (0 : Int), ())) fun j2 =>
 bif (decide ((8 : Int) ≤ (subI .i64 a2 a1))) then
 letJ (fun (v3 : Int × Int × Int × Int × Unit) =>
 Option.bind (F_slices_medianCmpFunc_int_c93 v3.2.2.2.1 a0 v3.1 v3.2.1 v3.2.2.1) fun p5 =>
 j2 (p5.1, p5.2, ())) fun j4 =>
 bif (decide ((50 : Int) ≤ (subI .i64 a2 a1))) then
 Option.bind (F_slices_medianAdjacentCmpFunc_int_c93 (0 : Int) a0 (addI .i64 a1 (mulI .i64 (quoI .i64 (subI .i64 a2 a1) (4 : Int)) (1 : Int)))) fun p6 =>
 Option.bind (F_slices_medianAdjacentCmpFunc_int_c93 p6.2 a0 (addI .i64 a1 (mulI .i64 (quoI .i64 (subI .i64 a2 a1) (4 : Int)) (2 : Int)))) fun p7 =>
 Option.bind (F_slices_medianAdjacentCmpFunc_int_c93 p7.2 a0 (addI .i64 a1 (mulI .i64 (quoI .i64 (subI .i64 a2 a1) (4 : Int)) (3 : Int)))) fun p8 =>
 j4 (p6.1, p7.1, p8.1, p8.2, ())
 else
 j4 ((addI .i64 a1 (mulI .i64 (quoI .i64 (subI .i64 a2 a1) (4 : Int)) (1 : Int))), (addI .i64 a1 (mulI .i64 (quoI .i64 (subI .i64 a2 a1) (4 : Int)) (2 : Int))), (addI .i64 a1 (mulI .i64 (quoI .i64 (subI .i64 a2 a1) (4 : Int)) (3 : Int))), (0 : Int), ())
 else
 j2 ((addI .i64 a1 (mulI .i64 (quoI .i64 (subI .i64 a2 a1) (4 : Int)) (2 : Int))), (0 : Int), ())
noncomputable def k_slices_choosePivotCmpFunc_int_c93 : KS U Tryz.prog := ⟨.fn 221 [.ty (Ty.sl (Ty.i .i64)), .ty (Ty.i .i64), .ty (Ty.i .i64), .clo 93 []] (.many [(Ty.i .i64), (Ty.i .i64)]) fun a => F_slices_choosePivotCmpFunc_int_c93 a.1 a.2.1 a.2.2.1, fnS (K := K) sa_slices_choosePivotCmpFunc_int_c93 63 [.tmp 8, .tmp 9] [k_slices_medianAdjacentCmpFunc_int_c93, k_slices_medianCmpFunc_int_c93] ⟨Tryz.f221, [], Tryz.func221, rfl, by kernel_rfl, by kernel_rfl, by kernel_rfl⟩ (by kernel_rfl) (by decide) (by kernel_rfl)⟩

/-! ### slices.reverseRangeCmpFunc[int] -/
def sa_slices_reverseRangeCmpFunc_int_c93 : SA U :=
 (.seq
 (.reg
 (op 10 (.mov (tm 1))
 (op 8 (.mov (tm 10))
 .nil)))
 (.seq
 (.reg
 (op 11 (.mov (tm 2))
 (op 12 (.bin .sub (tm 11) (ci 1))
 (op 9 (.mov (tm 12))
 .nil))))
 (.block 0
 (.loop ⟨[.val 8 (Ty.i .i64), .val 9 (Ty.i .i64), .own 0 0 0 3 1 (Ty.i .i64)], []⟩
 (.seq
 (.seq
 (.reg
 (op 13 (.mov (tm 8))
 (op 14 (.mov (tm 9))
 (op 15 (.bin .lss (tm 13) (tm 14))
 .nil))))
 (.cond (tm 15)
 .skip
 (.exit 0)))
 (.block 1
 (.seq
 (.drw [(6, 10), (7, 10), (6, 11), (7, 11)]
 (op 16 (.mov (tm 0))
 (op 17 (.mov (tm 8))
 (op 18 (.mov (tm 0))
 (op 19 (.mov (tm 9))
 (op 20 (.mov (tm 0))
 (op 21 (.mov (tm 9))
 (op 22 (.iaddr 1 (tm 20) (tm 21))
 (op 23 (.load none (tm 22))
 (op 24 (.mov (tm 0))
 (op 25 (.mov (tm 8))
 (op 26 (.iaddr 1 (tm 24) (tm 25))
 (op 27 (.load none (tm 26))
 (op 28 (.iaddr 1 (tm 16) (tm 17))
 (ops (.store 1 (tm 28) (tm 23))
 (op 29 (.iaddr 1 (tm 18) (tm 19))
 (ops (.store 1 (tm 29) (tm 27))
 .nil)))))))))))))))))
 (.seq
 (.reg
 (op 30 (.mov (tm 8))
 (op 31 (.bin .add (tm 30) (ci 1))
 (op 8 (.mov (tm 31))
 .nil))))
 (.reg
 (op 32 (.mov (tm 9))
 (op 33 (.bin .sub (tm 32) (ci 1))
 (op 9 (.mov (tm 33))
 .nil))))))))))))
noncomputable def F_slices_reverseRangeCmpFunc_int_c93 (s : List Int) (a0 : Int) (a1 : Int) : Option ((Unit) × List Int) :=
 loopO (fun (v1 : Int × Int × (List Int) × Unit) =>
 bif (decide (v1.1 < v1.2.1)) then
 Option.bind (idx v1.2.2.1 v1.2.1) fun x2 =>
 Option.bind (v1.2.2.1[(Int.toNat v1.2.1)]?) fun x3 =>
 Option.bind (idx v1.2.2.1 v1.1) fun x4 =>
 Option.bind (v1.2.2.1[(Int.toNat v1.1)]?) fun x5 =>
 Option.bind (idx v1.2.2.1 v1.1) fun x6 =>
 Option.bind (v1.2.2.1[(Int.toNat v1.1)]?) fun x7 =>
 Option.bind (idx (v1.2.2.1.set (Int.toNat v1.1) x3) v1.2.1) fun x8 =>
 Option.bind ((v1.2.2.1.set (Int.toNat v1.1) x3)[(Int.toNat v1.2.1)]?) fun x9 =>
 some (Sum.inl ((addI .i64 v1.1 (1 : Int)), (subI .i64 v1.2.1 (1 : Int)), ((v1.2.2.1.set (Int.toNat v1.1) x3).set (Int.toNat v1.2.1) x5), ()))
 else
 Option.map Sum.inr (some ((()), v1.2.2.1))) (a0, (subI .i64 a1 (1 : Int)), s, ())
noncomputable def k_slices_reverseRangeCmpFunc_int_c93 : KS U Tryz.prog := ⟨.rw 222 3 1 (Ty.i .i64) [.ty (Ty.i .i64), .ty (Ty.i .i64), .clo 93 []] (.many []) fun s a => F_slices_reverseRangeCmpFunc_int_c93 s a.1 a.2.1, rwS (K := K) sa_slices_reverseRangeCmpFunc_int_c93 34 [] [] ⟨Tryz.f222, [], Tryz.func222, rfl, by kernel_rfl, by kernel_rfl, by kernel_rfl⟩ (by kernel_rfl) (by decide) (by kernel_rfl)⟩

/-! ### slices.partialInsertionSortCmpFunc[int] -/
def sa_slices_partialInsertionSortCmpFunc_int_c93 : SA U :=
 (.seq
 (.reg
 (op 8 (.mov (.cst (.bool false)))
 .nil))
 (.seq
 (.reg
 (op 13 (.mov (tm 1))
 (op 14 (.bin .add (tm 13) (ci 1))
 (op 9 (.mov (tm 14))
 .nil))))
 (.seq
 (.seq
 (.reg
 (op 10 (.mov (ci 0))
 .nil))
 (.block 0
 (.loop ⟨[.val 9 (Ty.i .i64), .val 10 (Ty.i .i64), .own 0 0 0 3 1 (Ty.i .i64)], [1, 2, 3]⟩
 (.seq
 (.seq
 (.reg
 (op 15 (.mov (tm 10))
 (op 16 (.bin .lss (tm 15) (ci 5))
 .nil)))
 (.cond (tm 16)
 .skip
 (.exit 0)))
 (.join ⟨[.val 9 (Ty.i .i64), .own 0 0 0 3 1 (Ty.i .i64)], [1, 2, 3, 10]⟩
 (.block 1
 (.seq
 (.block 2
 (.loop ⟨[.val 9 (Ty.i .i64)], [0, 1, 2, 3, 10]⟩
 (.seq
 (.join ⟨[.val 36 Ty.bool], [0, 1, 2, 3, 9, 10]⟩
 (.drw [(7, 12), (8, 12), (7, 13), (8, 13)]
 (op 19 (.mov (tm 9))
 (op 20 (.mov (tm 2))
 (op 21 (.bin .lss (tm 19) (tm 20))
 (op 22 (.mov (tm 21))
 (.spl 22
 (opg 23 22 true (.mov (tm 3))
 (opg 24 22 true (.mov (tm 0))
 (opg 25 22 true (.mov (tm 9))
 (opg 26 22 true (.iaddr 1 (tm 24) (tm 25))
 (opg 27 22 true (.load none (tm 26))
 (opg 28 22 true (.mov (tm 0))
 (opg 29 22 true (.mov (tm 9))
 (opg 30 22 true (.bin .sub (tm 29) (ci 1))
 (opg 31 22 true (.iaddr 1 (tm 28) (tm 30))
 (opg 32 22 true (.load none (tm 31))
 (opg 33 22 true (.callv (tm 23) [(tm 27), (tm 32)])
 (opg 34 22 true (.bin .lss (tm 33) (ci 0))
 (opg 35 22 true (.not (tm 34))
 (op 36 (.pick (tm 22) (tm 35) (.cst (.bool false)))
 .nil))))))))))))))))))))
 (.cond (tm 36)
 .skip
 (.exit 2)))
 (.block 3
 (.reg
 (op 37 (.mov (tm 9))
 (op 38 (.bin .add (tm 37) (ci 1))
 (op 9 (.mov (tm 38))
 .nil))))))))
 (.seq
 (.seq
 (.reg
 (op 39 (.mov (tm 9))
 (op 40 (.mov (tm 2))
 (op 41 (.bin .eql (tm 39) (tm 40))
 .nil))))
 (.cond (tm 41)
 (.seq
 (.reg
 (op 8 (.mov (.cst (.bool true)))
 .nil))
 .ret)
 .skip))
 (.seq
 (.seq
 (.reg
 (op 42 (.mov (tm 2))
 (op 43 (.mov (tm 1))
 (op 44 (.bin .sub (tm 42) (tm 43))
 (op 45 (.bin .lss (tm 44) (ci 50))
 .nil)))))
 (.cond (tm 45)
 (.seq
 (.reg
 (op 8 (.mov (.cst (.bool false)))
 .nil))
 .ret)
 .skip))
 (.seq
 (.drw [(8, 12), (9, 12), (8, 13), (9, 13)]
 (op 46 (.mov (tm 0))
 (op 47 (.mov (tm 9))
 (op 48 (.mov (tm 0))
 (op 49 (.mov (tm 9))
 (op 50 (.bin .sub (tm 49) (ci 1))
 (op 51 (.mov (tm 0))
 (op 52 (.mov (tm 9))
 (op 53 (.bin .sub (tm 52) (ci 1))
 (op 54 (.iaddr 1 (tm 51) (tm 53))
 (op 55 (.load none (tm 54))
 (op 56 (.mov (tm 0))
 (op 57 (.mov (tm 9))
 (op 58 (.iaddr 1 (tm 56) (tm 57))
 (op 59 (.load none (tm 58))
 (op 60 (.iaddr 1 (tm 46) (tm 47))
 (ops (.store 1 (tm 60) (tm 55))
 (op 61 (.iaddr 1 (tm 48) (tm 50))
 (ops (.store 1 (tm 61) (tm 59))
 .nil)))))))))))))))))))
 (.join ⟨[.own 0 0 0 3 1 (Ty.i .i64)], [1, 2, 3, 9, 10]⟩
 (.seq
 (.reg
 (op 62 (.mov (tm 9))
 (op 63 (.mov (tm 1))
 (op 64 (.bin .sub (tm 62) (tm 63))
 (op 65 (.bin .geq (tm 64) (ci 2))
 .nil)))))
 (.cond (tm 65)
 (.seq
 (.reg
 (op 66 (.mov (tm 9))
 (op 67 (.bin .sub (tm 66) (ci 1))
 (op 11 (.mov (tm 67))
 .nil))))
 (.block 4
 (.loop ⟨[.val 11 (Ty.i .i64), .own 0 0 0 3 1 (Ty.i .i64)], [1, 2, 3, 9, 10]⟩
 (.seq
 (.seq
 (.reg
 (op 68 (.mov (tm 11))
 (op 69 (.bin .geq (tm 68) (ci 1))
 .nil)))
 (.cond (tm 69)
 .skip
 (.exit 4)))
 (.seq
 (.block 5
 (.seq
 (.seq
 (.drw [(3, 8), (4, 8), (3, 9), (4, 9)]
 (op 72 (.mov (tm 3))
 (op 73 (.mov (tm 0))
 (op 74 (.mov (tm 11))
 (op 75 (.iaddr 1 (tm 73) (tm 74))
 (op 76 (.load none (tm 75))
 (op 77 (.mov (tm 0))
 (op 78 (.mov (tm 11))
 (op 79 (.bin .sub (tm 78) (ci 1))
 (op 80 (.iaddr 1 (tm 77) (tm 79))
 (op 81 (.load none (tm 80))
 (op 82 (.callv (tm 72) [(tm 76), (tm 81)])
 (op 83 (.bin .lss (tm 82) (ci 0))
 (op 84 (.not (tm 83))
 .nil))))))))))))))
 (.cond (tm 84)
 (.exit 4)
 .skip))
 (.drw [(8, 12), (9, 12), (8, 13), (9, 13)]
 (op 85 (.mov (tm 0))
 (op 86 (.mov (tm 11))
 (op 87 (.mov (tm 0))
 (op 88 (.mov (tm 11))
 (op 89 (.bin .sub (tm 88) (ci 1))
 (op 90 (.mov (tm 0))
 (op 91 (.mov (tm 11))
 (op 92 (.bin .sub (tm 91) (ci 1))
 (op 93 (.iaddr 1 (tm 90) (tm 92))
 (op 94 (.load none (tm 93))
 (op 95 (.mov (tm 0))
 (op 96 (.mov (tm 11))
 (op 97 (.iaddr 1 (tm 95) (tm 96))
 (op 98 (.load none (tm 97))
 (op 99 (.iaddr 1 (tm 85) (tm 86))
 (ops (.store 1 (tm 99) (tm 94))
 (op 100 (.iaddr 1 (tm 87) (tm 89))
 (ops (.store 1 (tm 100) (tm 98))
 .nil)))))))))))))))))))))
 (.reg
 (op 70 (.mov (tm 11))
 (op 71 (.bin .sub (tm 70) (ci 1))
 (op 11 (.mov (tm 71))
 .nil)))))))))
 .skip))
 (.seq
 (.reg
 (op 101 (.mov (tm 2))
 (op 102 (.mov (tm 9))
 (op 103 (.bin .sub (tm 101) (tm 102))
 (op 104 (.bin .geq (tm 103) (ci 2))
 .nil)))))
 (.cond (tm 104)
 (.seq
 (.reg
 (op 105 (.mov (tm 9))
 (op 106 (.bin .add (tm 105) (ci 1))
 (op 12 (.mov (tm 106))
 .nil))))
 (.block 6
 (.loop ⟨[.val 12 (Ty.i .i64), .own 0 0 0 3 1 (Ty.i .i64)], [1, 2, 3, 9, 10]⟩
 (.seq
 (.seq
 (.reg
 (op 107 (.mov (tm 12))
 (op 108 (.mov (tm 2))
 (op 109 (.bin .lss (tm 107) (tm 108))
 .nil))))
 (.cond (tm 109)
 .skip
 (.exit 6)))
 (.seq
 (.block 7
 (.seq
 (.seq
 (.drw [(3, 8), (4, 8), (3, 9), (4, 9)]
 (op 112 (.mov (tm 3))
 (op 113 (.mov (tm 0))
 (op 114 (.mov (tm 12))
 (op 115 (.iaddr 1 (tm 113) (tm 114))
 (op 116 (.load none (tm 115))
 (op 117 (.mov (tm 0))
 (op 118 (.mov (tm 12))
 (op 119 (.bin .sub (tm 118) (ci 1))
 (op 120 (.iaddr 1 (tm 117) (tm 119))
 (op 121 (.load none (tm 120))
 (op 122 (.callv (tm 112) [(tm 116), (tm 121)])
 (op 123 (.bin .lss (tm 122) (ci 0))
 (op 124 (.not (tm 123))
 .nil))))))))))))))
 (.cond (tm 124)
 (.exit 6)
 .skip))
 (.drw [(8, 12), (9, 12), (8, 13), (9, 13)]
 (op 125 (.mov (tm 0))
 (op 126 (.mov (tm 12))
 (op 127 (.mov (tm 0))
 (op 128 (.mov (tm 12))
 (op 129 (.bin .sub (tm 128) (ci 1))
 (op 130 (.mov (tm 0))
 (op 131 (.mov (tm 12))
 (op 132 (.bin .sub (tm 131) (ci 1))
 (op 133 (.iaddr 1 (tm 130) (tm 132))
 (op 134 (.load none (tm 133))
 (op 135 (.mov (tm 0))
 (op 136 (.mov (tm 12))
 (op 137 (.iaddr 1 (tm 135) (tm 136))
 (op 138 (.load none (tm 137))
 (op 139 (.iaddr 1 (tm 125) (tm 126))
 (ops (.store 1 (tm 139) (tm 134))
 (op 140 (.iaddr 1 (tm 127) (tm 129))
 (ops (.store 1 (tm 140) (tm 138))
 .nil)))))))))))))))))))))
 (.reg
 (op 110 (.mov (tm 12))
 (op 111 (.bin .add (tm 110) (ci 1))
 (op 12 (.mov (tm 111))
 .nil)))))))))
 .skip))))))))
 (.reg
 (op 17 (.mov (tm 10))
 (op 18 (.bin .add (tm 17) (ci 1))
 (op 10 (.mov (tm 18))
 .nil)))))))))
 (.seq
 (.reg
 (op 8 (.mov (.cst (.bool false)))
 .nil))
 .ret))))
noncomputable def F_slices_partialInsertionSortCmpFunc_int_c93 (s : List Int) (a0 : Int) (a1 : Int) : Option (Bool × List Int) :=
 loopO (fun (v1 : Int × Int × (List Int) × Unit) =>
 bif (decide (v1.2.1 < (5 : Int))) then
 letJ (fun (v2 : Int × (List Int) × Unit) =>
 some (Sum.inl (v2.1, (addI .i64 v1.2.1 (1 : Int)), v2.2.1, ()))) fun j3 =>
 loopO (fun (v4 : Int × Unit) =>
 letJ (fun (v5 : Bool × Unit) =>
 bif v5.1 then
 some (Sum.inl ((addI .i64 v4.1 (1 : Int)), ()))
 else
 Option.map Sum.inr (bif (decide (v4.1 = a1)) then
 Option.map Sum.inr (some (true, v1.2.2.1))
 else
 bif (decide ((subI .i64 a1 a0) < (50 : Int))) then
 Option.map Sum.inr (some (false, v1.2.2.1))
 else
 Option.bind (idx v1.2.2.1 (subI .i64 v4.1 (1 : Int))) fun x7 =>
 Option.bind (v1.2.2.1[(Int.toNat (subI .i64 v4.1 (1 : Int)))]?) fun x8 =>
 Option.bind (idx v1.2.2.1 v4.1) fun x9 =>
 Option.bind (v1.2.2.1[(Int.toNat v4.1)]?) fun x10 =>
 Option.bind (idx v1.2.2.1 v4.1) fun x11 =>
 Option.bind (v1.2.2.1[(Int.toNat v4.1)]?) fun x12 =>
 Option.bind (idx (v1.2.2.1.set (Int.toNat v4.1) x8) (subI .i64 v4.1 (1 : Int))) fun x13 =>
 Option.bind ((v1.2.2.1.set (Int.toNat v4.1) x8)[(Int.toNat (subI .i64 v4.1 (1 : Int)))]?) fun x14 =>
 letJ (fun (v15 : (List Int) × Unit) =>
 bif (decide ((2 : Int) ≤ (subI .i64 a1 v4.1))) then
 loopO (fun (v17 : Int × (List Int) × Unit) =>
 bif (decide (v17.1 < a1)) then
 Option.bind (idx v17.2.1 v17.1) fun x18 =>
 Option.bind (v17.2.1[(Int.toNat v17.1)]?) fun x19 =>
 Option.bind (idx v17.2.1 (subI .i64 v17.1 (1 : Int))) fun x20 =>
 Option.bind (v17.2.1[(Int.toNat (subI .i64 v17.1 (1 : Int)))]?) fun x21 =>
 Option.bind (F_cmp_Compare_int x19 x21) fun r22 =>
 bif (!(decide (r22 < (0 : Int)))) then
 Option.map Sum.inr (j3 (v4.1, v17.2.1, ()))
 else
 Option.bind (idx v17.2.1 (subI .i64 v17.1 (1 : Int))) fun x23 =>
 Option.bind (v17.2.1[(Int.toNat (subI .i64 v17.1 (1 : Int)))]?) fun x24 =>
 Option.bind (idx v17.2.1 v17.1) fun x25 =>
 Option.bind (v17.2.1[(Int.toNat v17.1)]?) fun x26 =>
 Option.bind (idx v17.2.1 v17.1) fun x27 =>
 Option.bind (v17.2.1[(Int.toNat v17.1)]?) fun x28 =>
 Option.bind (idx (v17.2.1.set (Int.toNat v17.1) x24) (subI .i64 v17.1 (1 : Int))) fun x29 =>
 Option.bind ((v17.2.1.set (Int.toNat v17.1) x24)[(Int.toNat (subI .i64 v17.1 (1 : Int)))]?) fun x30 =>
 some (Sum.inl ((addI .i64 v17.1 (1 : Int)), ((v17.2.1.set (Int.toNat v17.1) x24).set (Int.toNat (subI .i64 v17.1 (1 : Int))) x26), ()))
 else
 Option.map Sum.inr (j3 (v4.1, v17.2.1, ()))) ((addI .i64 v4.1 (1 : Int)), v15.1, ())
 else
 j3 (v4.1, v15.1, ())) fun j16 =>
 bif (decide ((2 : Int) ≤ (subI .i64 v4.1 a0))) then
 loopO (fun (v31 : Int × (List Int) × Unit) =>
 bif (decide ((1 : Int) ≤ v31.1)) then
 Option.bind (idx v31.2.1 v31.1) fun x32 =>
 Option.bind (v31.2.1[(Int.toNat v31.1)]?) fun x33 =>
 Option.bind (idx v31.2.1 (subI .i64 v31.1 (1 : Int))) fun x34 =>
 Option.bind (v31.2.1[(Int.toNat (subI .i64 v31.1 (1 : Int)))]?) fun x35 =>
 Option.bind (F_cmp_Compare_int x33 x35) fun r36 =>
 bif (!(decide (r36 < (0 : Int)))) then
 Option.map Sum.inr (j16 (v31.2.1, ()))
 else
 Option.bind (idx v31.2.1 (subI .i64 v31.1 (1 : Int))) fun x37 =>
 Option.bind (v31.2.1[(Int.toNat (subI .i64 v31.1 (1 : Int)))]?) fun x38 =>
 Option.bind (idx v31.2.1 v31.1) fun x39 =>
 Option.bind (v31.2.1[(Int.toNat v31.1)]?) fun x40 =>
 Option.bind (idx v31.2.1 v31.1) fun x41 =>
 Option.bind (v31.2.1[(Int.toNat v31.1)]?) fun x42 =>
 Option.bind (idx (v31.2.1.set (Int.toNat v31.1) x38) (subI .i64 v31.1 (1 : Int))) fun x43 =>
 Option.bind ((v31.2.1.set (Int.toNat v31.1) x38)[(Int.toNat (subI .i64 v31.1 (1 : Int)))]?) fun x44 =>
 some (Sum.inl ((subI .i64 v31.1 (1 : Int)), ((v31.2.1.set (Int.toNat v31.1) x38).set (Int.toNat (subI .i64 v31.1 (1 : Int))) x40), ()))
 else
 Option.map Sum.inr (j16 (v31.2.1, ()))) ((subI .i64 v4.1 (1 : Int)), ((v1.2.2.1.set (Int.toNat v4.1) x8).set (Int.toNat (subI .i64 v4.1 (1 : Int))) x10), ())
 else
 j16 (((v1.2.2.1.set (Int.toNat v4.1) x8).set (Int.toNat (subI .i64 v4.1 (1 : Int))) x10), ()))) fun j6 =>
 bif (decide (v4.1 < a1)) then
 Option.bind (idx v1.2.2.1 v4.1) fun x45 =>
 Option.bind (v1.2.2.1[(Int.toNat v4.1)]?) fun x46 =>
 Option.bind (idx v1.2.2.1 (subI .i64 v4.1 (1 : Int))) fun x47 =>
 Option.bind (v1.2.2.1[(Int.toNat (subI .i64 v4.1 (1 : Int)))]?) fun x48 =>
 Option.bind (F_cmp_Compare_int x46 x48) fun r49 =>
 j6 ((!(decide (r49 < (0 : Int)))), ())
 else
 j6 (false, ())) (v1.1, ())
 else
 Option.map Sum.inr (some (false, v1.2.2.1))) ((addI .i64 a0 (1 : Int)), (0 : Int), s, ())
noncomputable def k_slices_partialInsertionSortCmpFunc_int_c93 : KS U Tryz.prog := ⟨.rw 223 3 1 (Ty.i .i64) [.ty (Ty.i .i64), .ty (Ty.i .i64), .clo 93 []] (.one Ty.bool) fun s a => F_slices_partialInsertionSortCmpFunc_int_c93 s a.1 a.2.1, rwS (K := K) sa_slices_partialInsertionSortCmpFunc_int_c93 141 [.tmp 8] [k_cmp_Compare_int] ⟨Tryz.f223, [], Tryz.func223, rfl, by kernel_rfl, by kernel_rfl, by kernel_rfl⟩ (by kernel_rfl) (by decide) (by kernel_rfl)⟩

/-! ### slices.partitionEqualCmpFunc[int] -/
def sa_slices_partitionEqualCmpFunc_int_c93 : SA U :=
 (.seq
 (.reg
 (op 10 (.mov (ci 0))
 .nil))
 (.seq
 (.drw [(6, 10), (7, 10), (6, 11), (7, 11)]
 (op 13 (.mov (tm 0))
 (op 14 (.mov (tm 1))
 (op 15 (.mov (tm 0))
 (op 16 (.mov (tm 3))
 (op 17 (.mov (tm 0))
 (op 18 (.mov (tm 3))
 (op 19 (.iaddr 1 (tm 17) (tm 18))
 (op 20 (.load none (tm 19))
 (op 21 (.mov (tm 0))
 (op 22 (.mov (tm 1))
 (op 23 (.iaddr 1 (tm 21) (tm 22))
 (op 24 (.load none (tm 23))
 (op 25 (.iaddr 1 (tm 13) (tm 14))
 (ops (.store 1 (tm 25) (tm 20))
 (op 26 (.iaddr 1 (tm 15) (tm 16))
 (ops (.store 1 (tm 26) (tm 24))
 .nil)))))))))))))))))
 (.seq
 (.reg
 (op 27 (.mov (tm 1))
 (op 28 (.bin .add (tm 27) (ci 1))
 (op 29 (.mov (tm 2))
 (op 30 (.bin .sub (tm 29) (ci 1))
 (op 11 (.mov (tm 28))
 (op 12 (.mov (tm 30))
 .nil)))))))
 (.seq
 (.block 0
 (.loop ⟨[.val 11 (Ty.i .i64), .val 12 (Ty.i .i64), .own 0 0 0 3 1 (Ty.i .i64)], [1, 4]⟩
 (.block 1
 (.seq
 (.block 2
 (.loop ⟨[.val 11 (Ty.i .i64)], [0, 1, 4, 12]⟩
 (.seq
 (.join ⟨[.val 47 Ty.bool], [0, 1, 4, 11, 12]⟩
 (.drw [(7, 11), (8, 11), (7, 12), (8, 12)]
 (op 31 (.mov (tm 11))
 (op 32 (.mov (tm 12))
 (op 33 (.bin .leq (tm 31) (tm 32))
 (op 34 (.mov (tm 33))
 (.spl 34
 (opg 35 34 true (.mov (tm 4))
 (opg 36 34 true (.mov (tm 0))
 (opg 37 34 true (.mov (tm 1))
 (opg 38 34 true (.iaddr 1 (tm 36) (tm 37))
 (opg 39 34 true (.load none (tm 38))
 (opg 40 34 true (.mov (tm 0))
 (opg 41 34 true (.mov (tm 11))
 (opg 42 34 true (.iaddr 1 (tm 40) (tm 41))
 (opg 43 34 true (.load none (tm 42))
 (opg 44 34 true (.callv (tm 35) [(tm 39), (tm 43)])
 (opg 45 34 true (.bin .lss (tm 44) (ci 0))
 (opg 46 34 true (.not (tm 45))
 (op 47 (.pick (tm 34) (tm 46) (.cst (.bool false)))
 .nil)))))))))))))))))))
 (.cond (tm 47)
 .skip
 (.exit 2)))
 (.block 3
 (.reg
 (op 48 (.mov (tm 11))
 (op 49 (.bin .add (tm 48) (ci 1))
 (op 11 (.mov (tm 49))
 .nil))))))))
 (.seq
 (.block 4
 (.loop ⟨[.val 12 (Ty.i .i64)], [0, 1, 4, 11]⟩
 (.seq
 (.join ⟨[.val 65 Ty.bool], [0, 1, 4, 11, 12]⟩
 (.drw [(7, 11), (8, 11), (7, 12), (8, 12)]
 (op 50 (.mov (tm 11))
 (op 51 (.mov (tm 12))
 (op 52 (.bin .leq (tm 50) (tm 51))
 (op 53 (.mov (tm 52))
 (.spl 53
 (opg 54 53 true (.mov (tm 4))
 (opg 55 53 true (.mov (tm 0))
 (opg 56 53 true (.mov (tm 1))
 (opg 57 53 true (.iaddr 1 (tm 55) (tm 56))
 (opg 58 53 true (.load none (tm 57))
 (opg 59 53 true (.mov (tm 0))
 (opg 60 53 true (.mov (tm 12))
 (opg 61 53 true (.iaddr 1 (tm 59) (tm 60))
 (opg 62 53 true (.load none (tm 61))
 (opg 63 53 true (.callv (tm 54) [(tm 58), (tm 62)])
 (opg 64 53 true (.bin .lss (tm 63) (ci 0))
 (op 65 (.pick (tm 53) (tm 64) (.cst (.bool false)))
 .nil))))))))))))))))))
 (.cond (tm 65)
 .skip
 (.exit 4)))
 (.block 5
 (.reg
 (op 66 (.mov (tm 12))
 (op 67 (.bin .sub (tm 66) (ci 1))
 (op 12 (.mov (tm 67))
 .nil))))))))
 (.seq
 (.seq
 (.reg
 (op 68 (.mov (tm 11))
 (op 69 (.mov (tm 12))
 (op 70 (.bin .gtr (tm 68) (tm 69))
 .nil))))
 (.cond (tm 70)
 (.exit 0)
 .skip))
 (.seq
 (.drw [(6, 10), (7, 10), (6, 11), (7, 11)]
 (op 71 (.mov (tm 0))
 (op 72 (.mov (tm 11))
 (op 73 (.mov (tm 0))
 (op 74 (.mov (tm 12))
 (op 75 (.mov (tm 0))
 (op 76 (.mov (tm 12))
 (op 77 (.iaddr 1 (tm 75) (tm 76))
 (op 78 (.load none (tm 77))
 (op 79 (.mov (tm 0))
 (op 80 (.mov (tm 11))
 (op 81 (.iaddr 1 (tm 79) (tm 80))
 (op 82 (.load none (tm 81))
 (op 83 (.iaddr 1 (tm 71) (tm 72))
 (ops (.store 1 (tm 83) (tm 78))
 (op 84 (.iaddr 1 (tm 73) (tm 74))
 (ops (.store 1 (tm 84) (tm 82))
 .nil)))))))))))))))))
 (.seq
 (.reg
 (op 85 (.mov (tm 11))
 (op 86 (.bin .add (tm 85) (ci 1))
 (op 11 (.mov (tm 86))
 .nil))))
 (.reg
 (op 87 (.mov (tm 12))
 (op 88 (.bin .sub (tm 87) (ci 1))
 (op 12 (.mov (tm 88))
 .nil))))))))))))
 (.seq
 (.reg
 (op 89 (.mov (tm 11))
 (op 10 (.mov (tm 89))
 .nil)))
 .ret)))))
noncomputable def F_slices_partitionEqualCmpFunc_int_c93 (s : List Int) (a0 : Int) (a1 : Int) (a2 : Int) : Option (Int × List Int) :=
 Option.bind (idx s a2) fun x1 =>
 Option.bind (s[(Int.toNat a2)]?) fun x2 =>
 Option.bind (idx s a0) fun x3 =>
 Option.bind (s[(Int.toNat a0)]?) fun x4 =>
 Option.bind (idx s a0) fun x5 =>
 Option.bind (s[(Int.toNat a0)]?) fun x6 =>
 Option.bind (idx (s.set (Int.toNat a0) x2) a2) fun x7 =>
 Option.bind ((s.set (Int.toNat a0) x2)[(Int.toNat a2)]?) fun x8 =>
 loopO (fun (v9 : Int × Int × (List Int) × Unit) =>
 loopO (fun (v10 : Int × Unit) =>
 letJ (fun (v11 : Bool × Unit) =>
 bif v11.1 then
 some (Sum.inl ((addI .i64 v10.1 (1 : Int)), ()))
 else
 Option.map Sum.inr (loopO (fun (v13 : Int × Unit) =>
 letJ (fun (v14 : Bool × Unit) =>
 bif v14.1 then
 some (Sum.inl ((subI .i64 v13.1 (1 : Int)), ()))
 else
 Option.map Sum.inr (bif (decide (v13.1 < v10.1)) then
 Option.map Sum.inr (some (v10.1, v9.2.2.1))
 else
 Option.bind (idx v9.2.2.1 v13.1) fun x16 =>
 Option.bind (v9.2.2.1[(Int.toNat v13.1)]?) fun x17 =>
 Option.bind (idx v9.2.2.1 v10.1) fun x18 =>
 Option.bind (v9.2.2.1[(Int.toNat v10.1)]?) fun x19 =>
 Option.bind (idx v9.2.2.1 v10.1) fun x20 =>
 Option.bind (v9.2.2.1[(Int.toNat v10.1)]?) fun x21 =>
 Option.bind (idx (v9.2.2.1.set (Int.toNat v10.1) x17) v13.1) fun x22 =>
 Option.bind ((v9.2.2.1.set (Int.toNat v10.1) x17)[(Int.toNat v13.1)]?) fun x23 =>
 some (Sum.inl ((addI .i64 v10.1 (1 : Int)), (subI .i64 v13.1 (1 : Int)), ((v9.2.2.1.set (Int.toNat v10.1) x17).set (Int.toNat v13.1) x19), ())))) fun j15 =>
 bif (decide (v10.1 ≤ v13.1)) then
 Option.bind (idx v9.2.2.1 a0) fun x24 =>
 Option.bind (v9.2.2.1[(Int.toNat a0)]?) fun x25 =>
 Option.bind (idx v9.2.2.1 v13.1) fun x26 =>
 Option.bind (v9.2.2.1[(Int.toNat v13.1)]?) fun x27 =>
 Option.bind (F_cmp_Compare_int x25 x27) fun r28 =>
 j15 ((decide (r28 < (0 : Int))), ())
 else
 j15 (false, ())) (v9.2.1, ()))) fun j12 =>
 bif (decide (v10.1 ≤ v9.2.1)) then
 Option.bind (idx v9.2.2.1 a0) fun x29 =>
 Option.bind (v9.2.2.1[(Int.toNat a0)]?) fun x30 =>
 Option.bind (idx v9.2.2.1 v10.1) fun x31 =>
 Option.bind (v9.2.2.1[(Int.toNat v10.1)]?) fun x32 =>
 Option.bind (F_cmp_Compare_int x30 x32) fun r33 =>
 j12 ((!(decide (r33 < (0 : Int)))), ())
 else
 j12 (false, ())) (v9.1, ())) ((addI .i64 a0 (1 : Int)), (subI .i64 a1 (1 : Int)), ((s.set (Int.toNat a0) x2).set (Int.toNat a2) x4), ())
noncomputable def k_slices_partitionEqualCmpFunc_int_c93 : KS U Tryz.prog := ⟨.rw 224 3 1 (Ty.i .i64) [.ty (Ty.i .i64), .ty (Ty.i .i64), .ty (Ty.i .i64), .clo 93 []] (.one (Ty.i .i64)) fun s a => F_slices_partitionEqualCmpFunc_int_c93 s a.1 a.2.1 a.2.2.1, rwS (K := K) sa_slices_partitionEqualCmpFunc_int_c93 90 [.tmp 10] [k_cmp_Compare_int] ⟨Tryz.f224, [], Tryz.func224, rfl, by kernel_rfl, by kernel_rfl, by kernel_rfl⟩ (by kernel_rfl) (by decide) (by kernel_rfl)⟩

/-! ### slices.partitionCmpFunc[int] -/
def sa_slices_partitionCmpFunc_int_c93 : SA U :=
 (.seq
 (.reg
 (op 10 (.mov (ci 0))
 (op 11 (.mov (.cst (.bool false)))
 .nil)))
 (.seq
 (.drw [(6, 10), (7, 10), (6, 11), (7, 11)]
 (op 14 (.mov (tm 0))
 (op 15 (.mov (tm 1))
 (op 16 (.mov (tm 0))
 (op 17 (.mov (tm 3))
 (op 18 (.mov (tm 0))
 (op 19 (.mov (tm 3))
 (op 20 (.iaddr 1 (tm 18) (tm 19))
 (op 21 (.load none (tm 20))
 (op 22 (.mov (tm 0))
 (op 23 (.mov (tm 1))
 (op 24 (.iaddr 1 (tm 22) (tm 23))
 (op 25 (.load none (tm 24))
 (op 26 (.iaddr 1 (tm 14) (tm 15))
 (ops (.store 1 (tm 26) (tm 21))
 (op 27 (.iaddr 1 (tm 16) (tm 17))
 (ops (.store 1 (tm 27) (tm 25))
 .nil)))))))))))))))))
 (.seq
 (.reg
 (op 28 (.mov (tm 1))
 (op 29 (.bin .add (tm 28) (ci 1))
 (op 30 (.mov (tm 2))
 (op 31 (.bin .sub (tm 30) (ci 1))
 (op 12 (.mov (tm 29))
 (op 13 (.mov (tm 31))
 .nil)))))))
 (.seq
 (.block 0
 (.loop ⟨[.val 12 (Ty.i .i64)], [0, 1, 4, 13]⟩
 (.seq
 (.join ⟨[.val 47 Ty.bool], [0, 1, 4, 12, 13]⟩
 (.drw [(7, 11), (8, 11), (7, 12), (8, 12)]
 (op 32 (.mov (tm 12))
 (op 33 (.mov (tm 13))
 (op 34 (.bin .leq (tm 32) (tm 33))
 (op 35 (.mov (tm 34))
 (.spl 35
 (opg 36 35 true (.mov (tm 4))
 (opg 37 35 true (.mov (tm 0))
 (opg 38 35 true (.mov (tm 12))
 (opg 39 35 true (.iaddr 1 (tm 37) (tm 38))
 (opg 40 35 true (.load none (tm 39))
 (opg 41 35 true (.mov (tm 0))
 (opg 42 35 true (.mov (tm 1))
 (opg 43 35 true (.iaddr 1 (tm 41) (tm 42))
 (opg 44 35 true (.load none (tm 43))
 (opg 45 35 true (.callv (tm 36) [(tm 40), (tm 44)])
 (opg 46 35 true (.bin .lss (tm 45) (ci 0))
 (op 47 (.pick (tm 35) (tm 46) (.cst (.bool false)))
 .nil))))))))))))))))))
 (.cond (tm 47)
 .skip
 (.exit 0)))
 (.block 1
 (.reg
 (op 48 (.mov (tm 12))
 (op 49 (.bin .add (tm 48) (ci 1))
 (op 12 (.mov (tm 49))
 .nil))))))))
 (.seq
 (.block 2
 (.loop ⟨[.val 13 (Ty.i .i64)], [0, 1, 4, 12]⟩
 (.seq
 (.join ⟨[.val 66 Ty.bool], [0, 1, 4, 12, 13]⟩
 (.drw [(7, 11), (8, 11), (7, 12), (8, 12)]
 (op 50 (.mov (tm 12))
 (op 51 (.mov (tm 13))
 (op 52 (.bin .leq (tm 50) (tm 51))
 (op 53 (.mov (tm 52))
 (.spl 53
 (opg 54 53 true (.mov (tm 4))
 (opg 55 53 true (.mov (tm 0))
 (opg 56 53 true (.mov (tm 13))
 (opg 57 53 true (.iaddr 1 (tm 55) (tm 56))
 (opg 58 53 true (.load none (tm 57))
 (opg 59 53 true (.mov (tm 0))
 (opg 60 53 true (.mov (tm 1))
 (opg 61 53 true (.iaddr 1 (tm 59) (tm 60))
 (opg 62 53 true (.load none (tm 61))
 (opg 63 53 true (.callv (tm 54) [(tm 58), (tm 62)])
 (opg 64 53 true (.bin .lss (tm 63) (ci 0))
 (opg 65 53 true (.not (tm 64))
 (op 66 (.pick (tm 53) (tm 65) (.cst (.bool false)))
 .nil)))))))))))))))))))
 (.cond (tm 66)
 .skip
 (.exit 2)))
 (.block 3
 (.reg
 (op 67 (.mov (tm 13))
 (op 68 (.bin .sub (tm 67) (ci 1))
 (op 13 (.mov (tm 68))
 .nil))))))))
 (.seq
 (.seq
 (.reg
 (op 69 (.mov (tm 12))
 (op 70 (.mov (tm 13))
 (op 71 (.bin .gtr (tm 69) (tm 70))
 .nil))))
 (.cond (tm 71)
 (.seq
 (.drw [(6, 10), (7, 10), (6, 11), (7, 11)]
 (op 72 (.mov (tm 0))
 (op 73 (.mov (tm 13))
 (op 74 (.mov (tm 0))
 (op 75 (.mov (tm 1))
 (op 76 (.mov (tm 0))
 (op 77 (.mov (tm 1))
 (op 78 (.iaddr 1 (tm 76) (tm 77))
 (op 79 (.load none (tm 78))
 (op 80 (.mov (tm 0))
 (op 81 (.mov (tm 13))
 (op 82 (.iaddr 1 (tm 80) (tm 81))
 (op 83 (.load none (tm 82))
 (op 84 (.iaddr 1 (tm 72) (tm 73))
 (ops (.store 1 (tm 84) (tm 79))
 (op 85 (.iaddr 1 (tm 74) (tm 75))
 (ops (.store 1 (tm 85) (tm 83))
 .nil)))))))))))))))))
 (.seq
 (.reg
 (op 86 (.mov (tm 13))
 (op 10 (.mov (tm 86))
 (op 11 (.mov (.cst (.bool true)))
 .nil))))
 .ret))
 .skip))
 (.seq
 (.drw [(6, 10), (7, 10), (6, 11), (7, 11)]
 (op 87 (.mov (tm 0))
 (op 88 (.mov (tm 12))
 (op 89 (.mov (tm 0))
 (op 90 (.mov (tm 13))
 (op 91 (.mov (tm 0))
 (op 92 (.mov (tm 13))
 (op 93 (.iaddr 1 (tm 91) (tm 92))
 (op 94 (.load none (tm 93))
 (op 95 (.mov (tm 0))
 (op 96 (.mov (tm 12))
 (op 97 (.iaddr 1 (tm 95) (tm 96))
 (op 98 (.load none (tm 97))
 (op 99 (.iaddr 1 (tm 87) (tm 88))
 (ops (.store 1 (tm 99) (tm 94))
 (op 100 (.iaddr 1 (tm 89) (tm 90))
 (ops (.store 1 (tm 100) (tm 98))
 .nil)))))))))))))))))
 (.seq
 (.reg
 (op 101 (.mov (tm 12))
 (op 102 (.bin .add (tm 101) (ci 1))
 (op 12 (.mov (tm 102))
 .nil))))
 (.seq
 (.reg
 (op 103 (.mov (tm 13))
 (op 104 (.bin .sub (tm 103) (ci 1))
 (op 13 (.mov (tm 104))
 .nil))))
 (.seq
 (.block 4
 (.loop ⟨[.val 12 (Ty.i .i64), .val 13 (Ty.i .i64), .own 0 0 0 3 1 (Ty.i .i64)], [1, 4]⟩
 (.block 5
 (.seq
 (.block 6
 (.loop ⟨[.val 12 (Ty.i .i64)], [0, 1, 4, 13]⟩
 (.seq
 (.join ⟨[.val 120 Ty.bool], [0, 1, 4, 12, 13]⟩
 (.drw [(7, 11), (8, 11), (7, 12), (8, 12)]
 (op 105 (.mov (tm 12))
 (op 106 (.mov (tm 13))
 (op 107 (.bin .leq (tm 105) (tm 106))
 (op 108 (.mov (tm 107))
 (.spl 108
 (opg 109 108 true (.mov (tm 4))
 (opg 110 108 true (.mov (tm 0))
 (opg 111 108 true (.mov (tm 12))
 (opg 112 108 true (.iaddr 1 (tm 110) (tm 111))
 (opg 113 108 true (.load none (tm 112))
 (opg 114 108 true (.mov (tm 0))
 (opg 115 108 true (.mov (tm 1))
 (opg 116 108 true (.iaddr 1 (tm 114) (tm 115))
 (opg 117 108 true (.load none (tm 116))
 (opg 118 108 true (.callv (tm 109) [(tm 113), (tm 117)])
 (opg 119 108 true (.bin .lss (tm 118) (ci 0))
 (op 120 (.pick (tm 108) (tm 119) (.cst (.bool false)))
 .nil))))))))))))))))))
 (.cond (tm 120)
 .skip
 (.exit 6)))
 (.block 7
 (.reg
 (op 121 (.mov (tm 12))
 (op 122 (.bin .add (tm 121) (ci 1))
 (op 12 (.mov (tm 122))
 .nil))))))))
 (.seq
 (.block 8
 (.loop ⟨[.val 13 (Ty.i .i64)], [0, 1, 4, 12]⟩
 (.seq
 (.join ⟨[.val 139 Ty.bool], [0, 1, 4, 12, 13]⟩
 (.drw [(7, 11), (8, 11), (7, 12), (8, 12)]
 (op 123 (.mov (tm 12))
 (op 124 (.mov (tm 13))
 (op 125 (.bin .leq (tm 123) (tm 124))
 (op 126 (.mov (tm 125))
 (.spl 126
 (opg 127 126 true (.mov (tm 4))
 (opg 128 126 true (.mov (tm 0))
 (opg 129 126 true (.mov (tm 13))
 (opg 130 126 true (.iaddr 1 (tm 128) (tm 129))
 (opg 131 126 true (.load none (tm 130))
 (opg 132 126 true (.mov (tm 0))
 (opg 133 126 true (.mov (tm 1))
 (opg 134 126 true (.iaddr 1 (tm 132) (tm 133))
 (opg 135 126 true (.load none (tm 134))
 (opg 136 126 true (.callv (tm 127) [(tm 131), (tm 135)])
 (opg 137 126 true (.bin .lss (tm 136) (ci 0))
 (opg 138 126 true (.not (tm 137))
 (op 139 (.pick (tm 126) (tm 138) (.cst (.bool false)))
 .nil)))))))))))))))))))
 (.cond (tm 139)
 .skip
 (.exit 8)))
 (.block 9
 (.reg
 (op 140 (.mov (tm 13))
 (op 141 (.bin .sub (tm 140) (ci 1))
 (op 13 (.mov (tm 141))
 .nil))))))))
 (.seq
 (.seq
 (.reg
 (op 142 (.mov (tm 12))
 (op 143 (.mov (tm 13))
 (op 144 (.bin .gtr (tm 142) (tm 143))
 .nil))))
 (.cond (tm 144)
 (.exit 4)
 .skip))
 (.seq
 (.drw [(6, 10), (7, 10), (6, 11), (7, 11)]
 (op 145 (.mov (tm 0))
 (op 146 (.mov (tm 12))
 (op 147 (.mov (tm 0))
 (op 148 (.mov (tm 13))
 (op 149 (.mov (tm 0))
 (op 150 (.mov (tm 13))
 (op 151 (.iaddr 1 (tm 149) (tm 150))
 (op 152 (.load none (tm 151))
 (op 153 (.mov (tm 0))
 (op 154 (.mov (tm 12))
 (op 155 (.iaddr 1 (tm 153) (tm 154))
 (op 156 (.load none (tm 155))
 (op 157 (.iaddr 1 (tm 145) (tm 146))
 (ops (.store 1 (tm 157) (tm 152))
 (op 158 (.iaddr 1 (tm 147) (tm 148))
 (ops (.store 1 (tm 158) (tm 156))
 .nil)))))))))))))))))
 (.seq
 (.reg
 (op 159 (.mov (tm 12))
 (op 160 (.bin .add (tm 159) (ci 1))
 (op 12 (.mov (tm 160))
 .nil))))
 (.reg
 (op 161 (.mov (tm 13))
 (op 162 (.bin .sub (tm 161) (ci 1))
 (op 13 (.mov (tm 162))
 .nil))))))))))))
 (.seq
 (.drw [(6, 10), (7, 10), (6, 11), (7, 11)]
 (op 163 (.mov (tm 0))
 (op 164 (.mov (tm 13))
 (op 165 (.mov (tm 0))
 (op 166 (.mov (tm 1))
 (op 167 (.mov (tm 0))
 (op 168 (.mov (tm 1))
 (op 169 (.iaddr 1 (tm 167) (tm 168))
 (op 170 (.load none (tm 169))
 (op 171 (.mov (tm 0))
 (op 172 (.mov (tm 13))
 (op 173 (.iaddr 1 (tm 171) (tm 172))
 (op 174 (.load none (tm 173))
 (op 175 (.iaddr 1 (tm 163) (tm 164))
 (ops (.store 1 (tm 175) (tm 170))
 (op 176 (.iaddr 1 (tm 165) (tm 166))
 (ops (.store 1 (tm 176) (tm 174))
 .nil)))))))))))))))))
 (.seq
 (.reg
 (op 177 (.mov (tm 13))
 (op 10 (.mov (tm 177))
 (op 11 (.mov (.cst (.bool false)))
 .nil))))
 .ret))))))))))))
noncomputable def F_slices_partitionCmpFunc_int_c93 (s : List Int) (a0 : Int) (a1 : Int) (a2 : Int) : Option ((Int × Bool × Unit) × List Int) :=
 Option.bind (idx s a2) fun x1 =>
 Option.bind (s[(Int.toNat a2)]?) fun x2 =>
 Option.bind (idx s a0) fun x3 =>
 Option.bind (s[(Int.toNat a0)]?) fun x4 =>
 Option.bind (idx s a0) fun x5 =>
 Option.bind (s[(Int.toNat a0)]?) fun x6 =>
 Option.bind (idx (s.set (Int.toNat a0) x2) a2) fun x7 =>
 Option.bind ((s.set (Int.toNat a0) x2)[(Int.toNat a2)]?) fun x8 =>
 loopO (fun (v9 : Int × Unit) =>
 letJ (fun (v10 : Bool × Unit) =>
 bif v10.1 then
 some (Sum.inl ((addI .i64 v9.1 (1 : Int)), ()))
 else
 Option.map Sum.inr (loopO (fun (v12 : Int × Unit) =>
 letJ (fun (v13 : Bool × Unit) =>
 bif v13.1 then
 some (Sum.inl ((subI .i64 v12.1 (1 : Int)), ()))
 else
 Option.map Sum.inr (bif (decide (v12.1 < v9.1)) then
 Option.bind (idx ((s.set (Int.toNat a0) x2).set (Int.toNat a2) x4) a0) fun x15 =>
 Option.bind (((s.set (Int.toNat a0) x2).set (Int.toNat a2) x4)[(Int.toNat a0)]?) fun x16 =>
 Option.bind (idx ((s.set (Int.toNat a0) x2).set (Int.toNat a2) x4) v12.1) fun x17 =>
 Option.bind (((s.set (Int.toNat a0) x2).set (Int.toNat a2) x4)[(Int.toNat v12.1)]?) fun x18 =>
 Option.bind (idx ((s.set (Int.toNat a0) x2).set (Int.toNat a2) x4) v12.1) fun x19 =>
 Option.bind (((s.set (Int.toNat a0) x2).set (Int.toNat a2) x4)[(Int.toNat v12.1)]?) fun x20 =>
 Option.bind (idx (((s.set (Int.toNat a0) x2).set (Int.toNat a2) x4).set (Int.toNat v12.1) x16) a0) fun x21 =>
 Option.bind ((((s.set (Int.toNat a0) x2).set (Int.toNat a2) x4).set (Int.toNat v12.1) x16)[(Int.toNat a0)]?) fun x22 =>
 some ((v12.1, true, ()), ((((s.set (Int.toNat a0) x2).set (Int.toNat a2) x4).set (Int.toNat v12.1) x16).set (Int.toNat a0) x18))
 else
 Option.bind (idx ((s.set (Int.toNat a0) x2).set (Int.toNat a2) x4) v12.1) fun x23 =>
 Option.bind (((s.set (Int.toNat a0) x2).set (Int.toNat a2) x4)[(Int.toNat v12.1)]?) fun x24 =>
 Option.bind (idx ((s.set (Int.toNat a0) x2).set (Int.toNat a2) x4) v9.1) fun x25 =>
 Option.bind (((s.set (Int.toNat a0) x2).set (Int.toNat a2) x4)[(Int.toNat v9.1)]?) fun x26 =>
 Option.bind (idx ((s.set (Int.toNat a0) x2).set (Int.toNat a2) x4) v9.1) fun x27 =>
 Option.bind (((s.set (Int.toNat a0) x2).set (Int.toNat a2) x4)[(Int.toNat v9.1)]?) fun x28 =>
 Option.bind (idx (((s.set (Int.toNat a0) x2).set (Int.toNat a2) x4).set (Int.toNat v9.1) x24) v12.1) fun x29 =>
 Option.bind ((((s.set (Int.toNat a0) x2).set (Int.toNat a2) x4).set (Int.toNat v9.1) x24)[(Int.toNat v12.1)]?) fun x30 =>
 loopO (fun (v31 : Int × Int × (List Int) × Unit) =>
 loopO (fun (v32 : Int × Unit) =>
 letJ (fun (v33 : Bool × Unit) =>
 bif v33.1 then
 some (Sum.inl ((addI .i64 v32.1 (1 : Int)), ()))
 else
 Option.map Sum.inr (loopO (fun (v35 : Int × Unit) =>
 letJ (fun (v36 : Bool × Unit) =>
 bif v36.1 then
 some (Sum.inl ((subI .i64 v35.1 (1 : Int)), ()))
 else
 Option.map Sum.inr (bif (decide (v35.1 < v32.1)) then
 Option.map Sum.inr (Option.bind (idx v31.2.2.1 a0) fun x38 =>
 Option.bind (v31.2.2.1[(Int.toNat a0)]?) fun x39 =>
 Option.bind (idx v31.2.2.1 v35.1) fun x40 =>
 Option.bind (v31.2.2.1[(Int.toNat v35.1)]?) fun x41 =>
 Option.bind (idx v31.2.2.1 v35.1) fun x42 =>
 Option.bind (v31.2.2.1[(Int.toNat v35.1)]?) fun x43 =>
 Option.bind (idx (v31.2.2.1.set (Int.toNat v35.1) x39) a0) fun x44 =>
 Option.bind ((v31.2.2.1.set (Int.toNat v35.1) x39)[(Int.toNat a0)]?) fun x45 =>
 some ((v35.1, false, ()), ((v31.2.2.1.set (Int.toNat v35.1) x39).set (Int.toNat a0) x41)))
 else
 Option.bind (idx v31.2.2.1 v35.1) fun x46 =>
 Option.bind (v31.2.2.1[(Int.toNat v35.1)]?) fun x47 =>
 Option.bind (idx v31.2.2.1 v32.1) fun x48 =>
 Option.bind (v31.2.2.1[(Int.toNat v32.1)]?) fun x49 =>
 Option.bind (idx v31.2.2.1 v32.1) fun x50 =>
 Option.bind (v31.2.2.1[(Int.toNat v32.1)]?) fun x51 =>
 Option.bind (idx (v31.2.2.1.set (Int.toNat v32.1) x47) v35.1) fun x52 =>
 Option.bind ((v31.2.2.1.set (Int.toNat v32.1) x47)[(Int.toNat v35.1)]?) fun x53 =>
 some (Sum.inl ((addI .i64 v32.1 (1 : Int)), (subI .i64 v35.1 (1 : Int)), ((v31.2.2.1.set (Int.toNat v32.1) x47).set (Int.toNat v35.1) x49), ())))) fun j37 =>
 bif (decide (v32.1 ≤ v35.1)) then
 Option.bind (idx v31.2.2.1 v35.1) fun x54 =>
 Option.bind (v31.2.2.1[(Int.toNat v35.1)]?) fun x55 =>
 Option.bind (idx v31.2.2.1 a0) fun x56 =>
 Option.bind (v31.2.2.1[(Int.toNat a0)]?) fun x57 =>
 Option.bind (F_cmp_Compare_int x55 x57) fun r58 =>
 j37 ((!(decide (r58 < (0 : Int)))), ())
 else
 j37 (false, ())) (v31.2.1, ()))) fun j34 =>
 bif (decide (v32.1 ≤ v31.2.1)) then
 Option.bind (idx v31.2.2.1 v32.1) fun x59 =>
 Option.bind (v31.2.2.1[(Int.toNat v32.1)]?) fun x60 =>
 Option.bind (idx v31.2.2.1 a0) fun x61 =>
 Option.bind (v31.2.2.1[(Int.toNat a0)]?) fun x62 =>
 Option.bind (F_cmp_Compare_int x60 x62) fun r63 =>
 j34 ((decide (r63 < (0 : Int))), ())
 else
 j34 (false, ())) (v31.1, ())) ((addI .i64 v9.1 (1 : Int)), (subI .i64 v12.1 (1 : Int)), ((((s.set (Int.toNat a0) x2).set (Int.toNat a2) x4).set (Int.toNat v9.1) x24).set (Int.toNat v12.1) x26), ()))) fun j14 =>
 bif (decide (v9.1 ≤ v12.1)) then
 Option.bind (idx ((s.set (Int.toNat a0) x2).set (Int.toNat a2) x4) v12.1) fun x64 =>
 Option.bind (((s.set (Int.toNat a0) x2).set (Int.toNat a2) x4)[(Int.toNat v12.1)]?) fun x65 =>
 Option.bind (idx ((s.set (Int.toNat a0) x2).set (Int.toNat a2) x4) a0) fun x66 =>
 Option.bind (((s.set (Int.toNat a0) x2).set (Int.toNat a2) x4)[(Int.toNat a0)]?) fun x67 =>
 Option.bind (F_cmp_Compare_int x65 x67) fun r68 =>
 j14 ((!(decide (r68 < (0 : Int)))), ())
 else
 j14 (false, ())) ((subI .i64 a1 (1 : Int)), ()))) fun j11 =>
 bif (decide (v9.1 ≤ (subI .i64 a1 (1 : Int)))) then
 Option.bind (idx ((s.set (Int.toNat a0) x2).set (Int.toNat a2) x4) v9.1) fun x69 =>
 Option.bind (((s.set (Int.toNat a0) x2).set (Int.toNat a2) x4)[(Int.toNat v9.1)]?) fun x70 =>
 Option.bind (idx ((s.set (Int.toNat a0) x2).set (Int.toNat a2) x4) a0) fun x71 =>
 Option.bind (((s.set (Int.toNat a0) x2).set (Int.toNat a2) x4)[(Int.toNat a0)]?) fun x72 =>
 Option.bind (F_cmp_Compare_int x70 x72) fun r73 =>
 j11 ((decide (r73 < (0 : Int))), ())
 else
 j11 (false, ())) ((addI .i64 a0 (1 : Int)), ())
noncomputable def k_slices_partitionCmpFunc_int_c93 : KS U Tryz.prog := ⟨.rw 225 3 1 (Ty.i .i64) [.ty (Ty.i .i64), .ty (Ty.i .i64), .ty (Ty.i .i64), .clo 93 []] (.many [(Ty.i .i64), Ty.bool]) fun s a => F_slices_partitionCmpFunc_int_c93 s a.1 a.2.1 a.2.2.1, rwS (K := K) sa_slices_partitionCmpFunc_int_c93 178 [.tmp 10, .tmp 11] [k_cmp_Compare_int] ⟨Tryz.f225, [], Tryz.func225, rfl, by kernel_rfl, by kernel_rfl, by kernel_rfl⟩ (by kernel_rfl) (by decide) (by kernel_rfl)⟩

/-! ### slices.pdqsortCmpFunc[int] -/
def sa_slices_pdqsortCmpFunc_int_c93 : SA U :=
 (.seq
 (.reg
 (op 10 (.mov (.cst (.bool true)))
 .nil))
 (.seq
 (.reg
 (op 11 (.mov (.cst (.bool true)))
 .nil))
 (.block 0
 (.loop ⟨[.val 1 (Ty.i .i64), .val 2 (Ty.i .i64), .val 3 (Ty.i .i64), .val 10 Ty.bool, .val 11 Ty.bool, .own 0 0 0 3 1 (Ty.i .i64)], [4]⟩
 (.block 1
 (.seq
 (.reg
 (op 21 (.mov (tm 2))
 (op 22 (.mov (tm 1))
 (op 23 (.bin .sub (tm 21) (tm 22))
 (op 12 (.mov (tm 23))
 .nil)))))
 (.seq
 (.seq
 (.reg
 (op 24 (.mov (tm 12))
 (op 25 (.bin .leq (tm 24) (ci 12))
 .nil)))
 (.cond (tm 25)
 (.seq
 (.reg
 (op 26 (.mov (tm 0))
 (op 27 (.mov (tm 1))
 (op 28 (.mov (tm 2))
 (op 29 (.mov (tm 4))
 (op 30 (.call 218 [(tm 26), (tm 27), (tm 28), (tm 29)])
 .nil))))))
 .ret)
 .skip))
 (.seq
 (.seq
 (.reg
 (op 31 (.mov (tm 3))
 (op 32 (.bin .eql (tm 31) (ci 0))
 .nil)))
 (.cond (tm 32)
 (.seq
 (.reg
 (op 33 (.mov (tm 0))
 (op 34 (.mov (tm 1))
 (op 35 (.mov (tm 2))
 (op 36 (.mov (tm 4))
 (op 37 (.call 219 [(tm 33), (tm 34), (tm 35), (tm 36)])
 .nil))))))
 .ret)
 .skip))
 (.join ⟨[.val 3 (Ty.i .i64), .own 0 0 0 3 1 (Ty.i .i64)], [1, 2, 4, 10, 11, 12]⟩
 (.seq
 (.reg
 (op 38 (.mov (tm 10))
 (op 39 (.not (tm 38))
 .nil)))
 (.cond (tm 39)
 (.seq
 (.reg
 (op 40 (.mov (tm 0))
 (op 41 (.mov (tm 1))
 (op 42 (.mov (tm 2))
 (op 43 (.mov (tm 4))
 (op 44 (.call 220 [(tm 40), (tm 41), (tm 42), (tm 43)])
 .nil))))))
 (.reg
 (op 45 (.mov (tm 3))
 (op 46 (.bin .sub (tm 45) (ci 1))
 (op 3 (.mov (tm 46))
 .nil)))))
 .skip))
 (.seq
 (.reg
 (op 48 (.mov (tm 0))
 (op 49 (.mov (tm 1))
 (op 50 (.mov (tm 2))
 (op 51 (.mov (tm 4))
 (op 52 (.call 221 [(tm 48), (tm 49), (tm 50), (tm 51)])
 (op 47 (.mov (tm 52))
 (op 53 (.extr 0 (tm 47))
 (op 54 (.extr 1 (tm 47))
 (op 13 (.mov (tm 53))
 (op 14 (.mov (tm 54))
 .nil)))))))))))
 (.join ⟨[.val 13 (Ty.i .i64), .val 14 (Ty.i .i64), .own 0 0 0 3 1 (Ty.i .i64)], [1, 2, 3, 4, 10, 11, 12]⟩
 (.seq
 (.reg
 (op 55 (.mov (tm 14))
 (op 56 (.bin .eql (tm 55) (ci 2))
 .nil)))
 (.cond (tm 56)
 (.seq
 (.reg
 (op 57 (.mov (tm 0))
 (op 58 (.mov (tm 1))
 (op 59 (.mov (tm 2))
 (op 60 (.mov (tm 4))
 (op 61 (.call 222 [(tm 57), (tm 58), (tm 59), (tm 60)])
 .nil))))))
 (.seq
 (.reg
 (op 62 (.mov (tm 2))
 (op 63 (.bin .sub (tm 62) (ci 1))
 (op 64 (.mov (tm 13))
 (op 65 (.mov (tm 1))
 (op 66 (.bin .sub (tm 64) (tm 65))
 (op 67 (.bin .sub (tm 63) (tm 66))
 (op 13 (.mov (tm 67))
 .nil))))))))
 (.reg
 (op 14 (.mov (ci 1))
 .nil))))
 .skip))
 (.join ⟨[.own 0 0 0 3 1 (Ty.i .i64)], [1, 2, 3, 4, 10, 11, 12, 13]⟩
 (.seq
 (.reg
 (op 68 (.mov (tm 10))
 (op 69 (.mov (tm 68))
 (.ite 69 true
 (opg 70 69 true (.mov (tm 11))
 .nil)
 71 none (tm 70) (.cst (.bool false))
 (op 72 (.mov (tm 71))
 (.ite 72 true
 (opg 73 72 true (.mov (tm 14))
 (opg 74 72 true (.bin .eql (tm 73) (ci 1))
 .nil))
 75 none (tm 74) (.cst (.bool false))
 .nil))))))
 (.cond (tm 75)
 (.seq
 (.reg
 (op 76 (.mov (tm 0))
 (op 77 (.mov (tm 1))
 (op 78 (.mov (tm 2))
 (op 79 (.mov (tm 4))
 (op 80 (.call 223 [(tm 76), (tm 77), (tm 78), (tm 79)])
 .nil))))))
 (.cond (tm 80)
 .ret
 .skip))
 .skip))
 (.seq
 (.join ⟨[.val 97 Ty.bool], [0, 1, 2, 3, 4, 10, 11, 12, 13]⟩
 (.drw [(7, 11), (8, 11), (7, 12), (8, 12)]
 (op 81 (.mov (tm 1))
 (op 82 (.bin .gtr (tm 81) (ci 0))
 (op 83 (.mov (tm 82))
 (.spl 83
 (opg 84 83 true (.mov (tm 4))
 (opg 85 83 true (.mov (tm 0))
 (opg 86 83 true (.mov (tm 1))
 (opg 87 83 true (.bin .sub (tm 86) (ci 1))
 (opg 88 83 true (.iaddr 1 (tm 85) (tm 87))
 (opg 89 83 true (.load none (tm 88))
 (opg 90 83 true (.mov (tm 0))
 (opg 91 83 true (.mov (tm 13))
 (opg 92 83 true (.iaddr 1 (tm 90) (tm 91))
 (opg 93 83 true (.load none (tm 92))
 (opg 94 83 true (.callv (tm 84) [(tm 89), (tm 93)])
 (opg 95 83 true (.bin .lss (tm 94) (ci 0))
 (opg 96 83 true (.not (tm 95))
 (op 97 (.pick (tm 83) (tm 96) (.cst (.bool false)))
 .nil)))))))))))))))))))
 (.cond (tm 97)
 (.seq
 (.reg
 (op 98 (.mov (tm 0))
 (op 99 (.mov (tm 1))
 (op 100 (.mov (tm 2))
 (op 101 (.mov (tm 13))
 (op 102 (.mov (tm 4))
 (op 103 (.call 224 [(tm 98), (tm 99), (tm 100), (tm 101), (tm 102)])
 (op 15 (.mov (tm 103))
 .nil))))))))
 (.seq
 (.reg
 (op 104 (.mov (tm 15))
 (op 1 (.mov (tm 104))
 .nil)))
 (.exit 1)))
 .skip))
 (.seq
 (.reg
 (op 106 (.mov (tm 0))
 (op 107 (.mov (tm 1))
 (op 108 (.mov (tm 2))
 (op 109 (.mov (tm 13))
 (op 110 (.mov (tm 4))
 (op 111 (.call 225 [(tm 106), (tm 107), (tm 108), (tm 109), (tm 110)])
 (op 105 (.mov (tm 111))
 (op 112 (.extr 0 (tm 105))
 (op 113 (.extr 1 (tm 105))
 (op 16 (.mov (tm 112))
 (op 17 (.mov (tm 113))
 .nil))))))))))))
 (.seq
 (.reg
 (op 114 (.mov (tm 17))
 (op 11 (.mov (tm 114))
 .nil)))
 (.seq
 (.reg
 (op 115 (.mov (tm 16))
 (op 116 (.mov (tm 1))
 (op 117 (.bin .sub (tm 115) (tm 116))
 (op 118 (.mov (tm 2))
 (op 119 (.mov (tm 16))
 (op 120 (.bin .sub (tm 118) (tm 119))
 (op 18 (.mov (tm 117))
 (op 19 (.mov (tm 120))
 .nil)))))))))
 (.seq
 (.reg
 (op 121 (.mov (tm 12))
 (op 122 (.bin .quo (tm 121) (ci 8))
 (op 20 (.mov (tm 122))
 .nil))))
 (.seq
 (.reg
 (op 123 (.mov (tm 18))
 (op 124 (.mov (tm 19))
 (op 125 (.bin .lss (tm 123) (tm 124))
 .nil))))
 (.cond (tm 125)
 (.seq
 (.reg
 (op 126 (.mov (tm 18))
 (op 127 (.mov (tm 20))
 (op 128 (.bin .geq (tm 126) (tm 127))
 (op 10 (.mov (tm 128))
 .nil)))))
 (.seq
 (.reg
 (op 129 (.mov (tm 0))
 (op 130 (.mov (tm 1))
 (op 131 (.mov (tm 16))
 (op 132 (.mov (tm 3))
 (op 133 (.mov (tm 4))
 (op 134 (.call 184 [(tm 129), (tm 130), (tm 131), (tm 132), (tm 133)])
 .nil)))))))
 (.reg
 (op 135 (.mov (tm 16))
 (op 136 (.bin .add (tm 135) (ci 1))
 (op 1 (.mov (tm 136))
 .nil))))))
 (.seq
 (.reg
 (op 137 (.mov (tm 19))
 (op 138 (.mov (tm 20))
 (op 139 (.bin .geq (tm 137) (tm 138))
 (op 10 (.mov (tm 139))
 .nil)))))
 (.seq
 (.reg
 (op 140 (.mov (tm 0))
 (op 141 (.mov (tm 16))
 (op 142 (.bin .add (tm 141) (ci 1))
 (op 143 (.mov (tm 2))
 (op 144 (.mov (tm 3))
 (op 145 (.mov (tm 4))
 (op 146 (.call 184 [(tm 140), (tm 142), (tm 143), (tm 144), (tm 145)])
 .nil))))))))
 (.reg
 (op 147 (.mov (tm 16))
 (op 2 (.mov (tm 147))
 .nil))))))))))))))))))))))))
noncomputable def B_slices_pdqsortCmpFunc_int_c93 (rec : List Int → (Int × Int × Int × (Unit) × Unit) → Option ((Unit) × List Int)) (s : List Int) (a0 : Int) (a1 : Int) (a2 : Int) : Option ((Unit) × List Int) :=
 loopO (fun (v1 : Int × Int × Int × Bool × Bool × (List Int) × Unit) =>
 bif (decide ((subI .i64 v1.2.1 v1.1) ≤ (12 : Int))) then
 Option.bind (F_slices_insertionSortCmpFunc_int_c93 v1.2.2.2.2.2.1 v1.1 v1.2.1) fun p2 =>
 Option.map Sum.inr (some ((()), p2.2))
 else
 bif (decide (v1.2.2.1 = (0 : Int))) then
 Option.bind (F_slices_heapSortCmpFunc_int_c93 v1.2.2.2.2.2.1 v1.1 v1.2.1) fun p3 =>
 Option.map Sum.inr (some ((()), p3.2))
 else
 letJ (fun (v4 : Int × (List Int) × Unit) =>
 Option.bind (F_slices_choosePivotCmpFunc_int_c93 v4.2.1 v1.1 v1.2.1) fun r6 =>
 letJ (fun (v7 : Int × Int × (List Int) × Unit) =>
 letJ (fun (v9 : (List Int) × Unit) =>
 letJ (fun (v11 : Bool × Unit) =>
 bif v11.1 then
 Option.bind (F_slices_partitionEqualCmpFunc_int_c93 v9.1 v1.1 v1.2.1 v7.1) fun p13 =>
 some (Sum.inl (p13.1, v1.2.1, v4.1, v1.2.2.2.1, v1.2.2.2.2.1, p13.2, ()))
 else
 Option.bind (F_slices_partitionCmpFunc_int_c93 v9.1 v1.1 v1.2.1 v7.1) fun p14 =>
 bif (decide ((subI .i64 p14.1.1 v1.1) < (subI .i64 v1.2.1 p14.1.1))) then
 Option.bind (rec p14.2 (v1.1, p14.1.1, v4.1, (()), ())) fun p15 =>
 some (Sum.inl ((addI .i64 p14.1.1 (1 : Int)), v1.2.1, v4.1, (decide ((quoI .i64 (subI .i64 v1.2.1 v1.1) (8 : Int)) ≤ (subI .i64 p14.1.1 v1.1))), p14.1.2.1, p15.2, ()))
 else
 Option.bind (rec p14.2 ((addI .i64 p14.1.1 (1 : Int)), v1.2.1, v4.1, (()), ())) fun p16 =>
 some (Sum.inl (v1.1, p14.1.1, v4.1, (decide ((quoI .i64 (subI .i64 v1.2.1 v1.1) (8 : Int)) ≤ (subI .i64 v1.2.1 p14.1.1))), p14.1.2.1, p16.2, ()))) fun j12 =>
 bif (decide ((0 : Int) < v1.1)) then
 Option.bind (idx v9.1 (subI .i64 v1.1 (1 : Int))) fun x17 =>
 Option.bind (v9.1[(Int.toNat (subI .i64 v1.1 (1 : Int)))]?) fun x18 =>
 Option.bind (idx v9.1 v7.1) fun x19 =>
 Option.bind (v9.1[(Int.toNat v7.1)]?) fun x20 =>
 Option.bind (F_cmp_Compare_int x18 x20) fun r21 =>
 j12 ((!(decide (r21 < (0 : Int)))), ())
 else
 j12 (false, ())) fun j10 =>
 Option.bind (bif v1.2.2.2.1 then
 some v1.2.2.2.2.1
 else some false) fun b22 =>
 Option.bind (bif b22 then
 some (decide (v7.2.1 = (1 : Int)))
 else some false) fun b23 =>
 bif b23 then
 Option.bind (F_slices_partialInsertionSortCmpFunc_int_c93 v7.2.2.1 v1.1 v1.2.1) fun p24 =>
 bif p24.1 then
 Option.map Sum.inr (some ((()), p24.2))
 else
 j10 (p24.2, ())
 else
 j10 (v7.2.2.1, ())) fun j8 =>
 bif (decide (r6.2.1 = (2 : Int))) then
 Option.bind (F_slices_reverseRangeCmpFunc_int_c93 v4.2.1 v1.1 v1.2.1) fun p25 =>
 j8 ((subI .i64 (subI .i64 v1.2.1 (1 : Int)) (subI .i64 r6.1 v1.1)), (1 : Int), p25.2, ())
 else
 j8 (r6.1, r6.2.1, v4.2.1, ())) fun j5 =>
 bif (!v1.2.2.2.1) then
 Option.bind (F_slices_breakPatternsCmpFunc_int_c93 v1.2.2.2.2.2.1 v1.1 v1.2.1) fun p26 =>
 j5 ((subI .i64 v1.2.2.1 (1 : Int)), p26.2, ())
 else
 j5 (v1.2.2.1, v1.2.2.2.2.2.1, ())) (a0, a1, a2, true, true, s, ())
noncomputable def I_slices_pdqsortCmpFunc_int_c93 : Nat → List Int → (Int × Int × Int × (Unit) × Unit) → Option ((Unit) × List Int) := iterF2 (fun rec s a => B_slices_pdqsortCmpFunc_int_c93 rec s a.1 a.2.1 a.2.2.1)
noncomputable def F_slices_pdqsortCmpFunc_int_c93 (s : List Int) (a0 : Int) (a1 : Int) (a2 : Int) : Option ((Unit) × List Int) := I_slices_pdqsortCmpFunc_int_c93 (List.length s + 1) s (a0, a1, a2, (()), ())
noncomputable def k_slices_pdqsortCmpFunc_int_c93 : KS U Tryz.prog := ⟨.rw 184 3 1 (Ty.i .i64) [.ty (Ty.i .i64), .ty (Ty.i .i64), .ty (Ty.i .i64), .clo 93 []] (.many []) fun s a => F_slices_pdqsortCmpFunc_int_c93 s a.1 a.2.1 a.2.2.1, rwRS (K := K) («as» := [.ty (Ty.i .i64), .ty (Ty.i .i64), .ty (Ty.i .i64), .clo 93 []]) (r := .many []) (T := (Ty.i .i64)) (B := fun rec s a => B_slices_pdqsortCmpFunc_int_c93 rec s a.1 a.2.1 a.2.2.1) sa_slices_pdqsortCmpFunc_int_c93 148 [] [k_slices_insertionSortCmpFunc_int_c93, k_slices_heapSortCmpFunc_int_c93, k_slices_breakPatternsCmpFunc_int_c93, k_slices_choosePivotCmpFunc_int_c93, k_slices_reverseRangeCmpFunc_int_c93, k_slices_partialInsertionSortCmpFunc_int_c93, k_cmp_Compare_int, k_slices_partitionEqualCmpFunc_int_c93, k_slices_partitionCmpFunc_int_c93] ⟨Tryz.f184, [], Tryz.func184, rfl, by kernel_rfl, by kernel_rfl, by kernel_rfl⟩ (by kernel_rfl) (by decide) (by kernel_rfl) fun s a => ⟨_, rfl⟩⟩

/-! ### slices.SortFunc[[]int,int] -/
def sa_slices_SortFunc_int_int_c93 : SA U :=
 (.seq
 (.reg
 (op 5 (.mov (tm 0))
 (op 6 (.len false (tm 5))
 (op 4 (.mov (tm 6))
 .nil))))
 (.reg
 (op 7 (.mov (tm 0))
 (op 8 (.mov (tm 4))
 (op 9 (.mov (tm 4))
 (op 10 (.conv .u64 (tm 9))
 (op 11 (.call 181 [(tm 10)])
 (op 12 (.mov (tm 1))
 (op 13 (.call 184 [(tm 7), (ci 0), (tm 8), (tm 11), (tm 12)])
 .nil)))))))))
noncomputable def F_slices_SortFunc_int_int_c93 (s : List Int)  : Option ((Unit) × List Int) :=
 Option.bind (F_math_bits_Len (convI .u64 ((List.length s : Nat) : Int))) fun r1 =>
 Option.bind (F_slices_pdqsortCmpFunc_int_c93 s (0 : Int) ((List.length s : Nat) : Int) r1) fun p2 =>
 some ((()), p2.2)
noncomputable def k_slices_SortFunc_int_int_c93 : KS U Tryz.prog := ⟨.rw 152 3 1 (Ty.i .i64) [.clo 93 []] (.many []) fun s a => F_slices_SortFunc_int_int_c93 s , rwS (K := K) sa_slices_SortFunc_int_int_c93 14 [] [k_math_bits_Len, k_slices_pdqsortCmpFunc_int_c93] ⟨Tryz.f152, [], Tryz.func152, rfl, by kernel_rfl, by kernel_rfl, by kernel_rfl⟩ (by kernel_rfl) (by decide) (by kernel_rfl)⟩

/-! ### slices.Compact[[]int,int] -/
def sa_slices_Compact_int_int : SA U :=
 (.seq
 (.reg
 (op 2 (.mov (.cst (.nils)))
 .nil))
 (.seq
 (.seq
 (.reg
 (op 6 (.mov (tm 0))
 (op 7 (.len false (tm 6))
 (op 8 (.bin .lss (tm 7) (ci 2))
 .nil))))
 (.cond (tm 8)
 (.seq
 (.reg
 (op 9 (.mov (tm 0))
 (op 2 (.mov (tm 9))
 .nil)))
 .ret)
 .skip))
 (.seq
 (.seq
 (.reg
 (op 3 (.mov (ci 1))
 .nil))
 (.block 0
 (.loop ⟨[.val 3 (Ty.i .i64), .own 0 0 0 3 1 (Ty.i .i64)], []⟩
 (.seq
 (.seq
 (.reg
 (op 10 (.mov (tm 3))
 (op 11 (.mov (tm 0))
 (op 12 (.len false (tm 11))
 (op 13 (.bin .lss (tm 10) (tm 12))
 .nil)))))
 (.cond (tm 13)
 .skip
 (.exit 0)))
 (.seq
 (.block 1
 (.seq
 (.drw [(2, 7), (3, 7), (2, 8), (3, 8)]
 (op 16 (.mov (tm 0))
 (op 17 (.mov (tm 3))
 (op 18 (.iaddr 1 (tm 16) (tm 17))
 (op 19 (.load none (tm 18))
 (op 20 (.mov (tm 0))
 (op 21 (.mov (tm 3))
 (op 22 (.bin .sub (tm 21) (ci 1))
 (op 23 (.iaddr 1 (tm 20) (tm 22))
 (op 24 (.load none (tm 23))
 (op 25 (.bin .eql (tm 19) (tm 24))
 .nil)))))))))))
 (.cond (tm 25)
 (.seq
 (.reg
 (op 26 (.mov (tm 0))
 (op 27 (.mov (tm 3))
 (op 28 (.slc 1 (tm 26) (some (tm 27)) none)
 (op 4 (.mov (tm 28))
 .nil)))))
 (.seq
 (.seq
 (.reg
 (op 5 (.mov (ci 1))
 .nil))
 (.block 2
 (.loop ⟨[.val 3 (Ty.i .i64), .val 5 (Ty.i .i64), .own 0 0 0 3 1 (Ty.i .i64)], [4]⟩
 (.seq
 (.seq
 (.reg
 (op 29 (.mov (tm 5))
 (op 30 (.mov (tm 4))
 (op 31 (.len false (tm 30))
 (op 32 (.bin .lss (tm 29) (tm 31))
 .nil)))))
 (.cond (tm 32)
 .skip
 (.exit 2)))
 (.join ⟨[.val 3 (Ty.i .i64), .own 0 0 0 3 1 (Ty.i .i64)], [4, 5]⟩
 (.block 3
 (.seq
 (.drw [(2, 7), (3, 7), (2, 8), (3, 8)]
 (op 35 (.mov (tm 4))
 (op 36 (.mov (tm 5))
 (op 37 (.iaddr 1 (tm 35) (tm 36))
 (op 38 (.load none (tm 37))
 (op 39 (.mov (tm 4))
 (op 40 (.mov (tm 5))
 (op 41 (.bin .sub (tm 40) (ci 1))
 (op 42 (.iaddr 1 (tm 39) (tm 41))
 (op 43 (.load none (tm 42))
 (op 44 (.bin .neq (tm 38) (tm 43))
 .nil)))))))))))
 (.cond (tm 44)
 (.seq
 (.reg
 (op 45 (.mov (tm 0))
 (op 46 (.mov (tm 3))
 (op 47 (.mov (tm 4))
 (op 48 (.mov (tm 5))
 (op 49 (.iaddr 1 (tm 47) (tm 48))
 (op 50 (.load none (tm 49))
 (op 51 (.iaddr 1 (tm 45) (tm 46))
 (ops (.store 1 (tm 51) (tm 50))
 .nil)))))))))
 (.reg
 (op 52 (.mov (tm 3))
 (op 53 (.bin .add (tm 52) (ci 1))
 (op 3 (.mov (tm 53))
 .nil)))))
 .skip)))
 (.reg
 (op 33 (.mov (tm 5))
 (op 34 (.bin .add (tm 33) (ci 1))
 (op 5 (.mov (tm 34))
 .nil)))))))))
 (.seq
 (.reg
 (op 54 (.mov (tm 0))
 (op 55 (.mov (tm 3))
 (op 56 (.slc 1 (tm 54) (some (tm 55)) none)
 (ops (.clear 1 [.int .i64 0] (tm 56))
 .nil)))))
 (.seq
 (.reg
 (op 57 (.mov (tm 0))
 (op 58 (.mov (tm 3))
 (op 59 (.slc 1 (tm 57) none (some (tm 58)))
 (op 2 (.mov (tm 59))
 (.ps (.cut 2)
 .nil))))))
 .ret))))
 .skip)))
 (.reg
 (op 14 (.mov (tm 3))
 (op 15 (.bin .add (tm 14) (ci 1))
 (op 3 (.mov (tm 15))
 .nil)))))))))
 (.seq
 (.reg
 (op 60 (.mov (tm 0))
 (op 2 (.mov (tm 60))
 .nil)))
 .ret))))
noncomputable def F_slices_Compact_int_int (s : List Int)  : Option (List Int) :=
 bif (decide (((List.length s : Nat) : Int) < (2 : Int))) then
 some s
 else
 loopO (fun (v1 : Int × (List Int) × Unit) =>
 bif (decide (v1.1 < ((List.length v1.2.1 : Nat) : Int))) then
 Option.bind (idx v1.2.1 v1.1) fun x2 =>
 Option.bind (v1.2.1[(Int.toNat v1.1)]?) fun x3 =>
 Option.bind (idx v1.2.1 (subI .i64 v1.1 (1 : Int))) fun x4 =>
 Option.bind (v1.2.1[(Int.toNat (subI .i64 v1.1 (1 : Int)))]?) fun x5 =>
 bif (decide (x3 = x5)) then
 bif slcOk v1.1 ((List.length v1.2.1) : Int) (List.length v1.2.1) then
 loopO (fun (v6 : Int × Int × (List Int) × Unit) =>
 bif (decide (v6.2.1 < ((List.length ((v6.2.2.1.drop (Int.toNat v1.1)).take (Int.toNat ((List.length v1.2.1) : Int) - Int.toNat v1.1)) : Nat) : Int))) then
 letJ (fun (v7 : Int × (List Int) × Unit) =>
 some (Sum.inl (v7.1, (addI .i64 v6.2.1 (1 : Int)), v7.2.1, ()))) fun j8 =>
 Option.bind (idx ((v6.2.2.1.drop (Int.toNat v1.1)).take (Int.toNat ((List.length v1.2.1) : Int) - Int.toNat v1.1)) v6.2.1) fun x9 =>
 Option.bind (v6.2.2.1[((Int.toNat v1.1) + Int.toNat v6.2.1)]?) fun x10 =>
 Option.bind (idx ((v6.2.2.1.drop (Int.toNat v1.1)).take (Int.toNat ((List.length v1.2.1) : Int) - Int.toNat v1.1)) (subI .i64 v6.2.1 (1 : Int))) fun x11 =>
 Option.bind (v6.2.2.1[((Int.toNat v1.1) + Int.toNat (subI .i64 v6.2.1 (1 : Int)))]?) fun x12 =>
 bif (!decide (x10 = x12)) then
 Option.bind (idx ((v6.2.2.1.drop (Int.toNat v1.1)).take (Int.toNat ((List.length v1.2.1) : Int) - Int.toNat v1.1)) v6.2.1) fun x13 =>
 Option.bind (v6.2.2.1[((Int.toNat v1.1) + Int.toNat v6.2.1)]?) fun x14 =>
 Option.bind (idx v6.2.2.1 v6.1) fun x15 =>
 Option.bind (v6.2.2.1[(Int.toNat v6.1)]?) fun x16 =>
 j8 ((addI .i64 v6.1 (1 : Int)), (v6.2.2.1.set (Int.toNat v6.1) x14), ())
 else
 j8 (v6.1, v6.2.2.1, ())
 else
 Option.map Sum.inr (bif slcOk v6.1 ((List.length v6.2.2.1) : Int) (List.length v6.2.2.1) then
 bif slcOk (0 : Int) v6.1 (List.length (v6.2.2.1.take (Int.toNat v6.1) ++ List.replicate (Int.toNat ((List.length v6.2.2.1) : Int) - Int.toNat v6.1) (0 : Int) ++ v6.2.2.1.drop ((Int.toNat v6.1) + (Int.toNat ((List.length v6.2.2.1) : Int) - Int.toNat v6.1)))) then
 Option.map Sum.inr (some ((v6.2.2.1.take (Int.toNat v6.1) ++ List.replicate (Int.toNat ((List.length v6.2.2.1) : Int) - Int.toNat v6.1) (0 : Int) ++ v6.2.2.1.drop ((Int.toNat v6.1) + (Int.toNat ((List.length v6.2.2.1) : Int) - Int.toNat v6.1))).take (Int.toNat v6.1 - Int.toNat (0 : Int))))
 else none
 else none)) (v1.1, (1 : Int), v1.2.1, ())
 else none
 else
 some (Sum.inl ((addI .i64 v1.1 (1 : Int)), v1.2.1, ()))
 else
 Option.map Sum.inr (some v1.2.1)) ((1 : Int), s, ())
noncomputable def k_slices_Compact_int_int : KS U Tryz.prog := ⟨.cw 153 3 1 (Ty.i .i64) [] fun s a => F_slices_Compact_int_int s , cwS (K := K) sa_slices_Compact_int_int 61 [.tmp 2] [] ⟨Tryz.f153, [], Tryz.func153, rfl, by kernel_rfl, by kernel_rfl, by kernel_rfl⟩ (by kernel_rfl) (by decide) (by kernel_rfl)⟩

/-! ### trustquorum/envelopes.unique[int] -/
def sa_envelopes_unique_int_c93 : SA U :=
 (.seq
 (.reg
 (op 4 (.mov (.cst (.nils)))
 .nil))
 (.seq
 (.reg
 (op 5 (.mov (tm 0))
 (op 6 (.mov (tm 1))
 (op 7 (.call 152 [(tm 5), (tm 6)])
 .nil))))
 (.seq
 (.reg
 (op 8 (.mov (tm 0))
 (op 9 (.call 153 [(tm 8)])
 (op 4 (.mov (tm 9))
 .nil))))
 .ret)))
noncomputable def F_envelopes_unique_int_c93 (s : List Int)  : Option (List Int) :=
 Option.bind (F_slices_SortFunc_int_int_c93 s) fun p1 =>
 Option.bind (F_slices_Compact_int_int p1.2) fun r2 =>
 some r2
noncomputable def k_envelopes_unique_int_c93 : KS U Tryz.prog := ⟨.cw 92 3 1 (Ty.i .i64) [.clo 93 []] fun s a => F_envelopes_unique_int_c93 s , cwS (K := K) sa_envelopes_unique_int_c93 10 [.tmp 4] [k_slices_SortFunc_int_int_c93, k_slices_Compact_int_int] ⟨Tryz.f92, [], Tryz.func92, rfl, by kernel_rfl, by kernel_rfl, by kernel_rfl⟩ (by kernel_rfl) (by decide) (by kernel_rfl)⟩

/-! ### trustquorum/envelopes.Bounds -/
def sa_envelopes_Bounds : SA U :=
 (.seq
 (.reg
 (op 4 (.mov (.cst (.nils)))
 .nil))
 (.seq
 (.reg
 (op 5 (.mov (.cst (.nils)))
 .nil))
 (.seq
 (.seq
 (.reg
 (op 8 (.mov (tm 0))
 (op 9 (.len false (tm 8))
 (op 10 (.mov (ci 0))
 .nil))))
 (.block 0
 (.ps (.own 5 3 1 (Ty.i .i64))
 (.loop ⟨[.val 10 (Ty.i .i64), .own 5 5 1 3 1 (Ty.i .i64)], [1, 8, 9]⟩
 (.seq
 (.reg
 (op 11 (.bin .lss (tm 10) (tm 9))
 .nil))
 (.seq
 (.cond (tm 11)
 .skip
 (.exit 0))
 (.join ⟨[.own 5 5 1 3 1 (Ty.i .i64)], [1, 8, 9, 10]⟩
 (.block 1
 (.seq
 (.reg
 (op 12 (.iaddr 15 (tm 8) (tm 10))
 (op 13 (.load (some 15) (tm 12))
 (op 7 (.alloc [.int .i64 0, .int .i64 0, .int .i64 0, .int .i64 0, .nils, .nils, .int .i64 0, .int .i64 0, .str ⟨#[]⟩, .int .i64 0, .str ⟨#[]⟩, .int .i64 0, .str ⟨#[]⟩, .int .i64 0, .int .i64 0])
 (ops (.store 15 (tm 7) (tm 13))
 .nil)))))
 (.seq
 (.reg
 (op 14 (.load (some 15) (tm 7))
 (op 15 (.call 75 [(tm 14)])
 (op 16 (.mov (tm 15))
 (.ite 16 true
 (opg 17 16 true (.faddr 7 (tm 7))
 (opg 18 16 true (.faddr 1 (tm 17))
 (opg 19 16 true (.load none (tm 18))
 (opg 20 16 true (.mov (tm 1))
 (opg 21 16 true (.bin .eql (tm 19) (tm 20))
 .nil)))))
 22 none (tm 21) (.cst (.bool false))
 (op 23 (.mov (tm 22))
 (.ite 23 true
 (opg 24 23 true (.faddr 13 (tm 7))
 (opg 25 23 true (.load none (tm 24))
 (opg 26 23 true (.bin .neq (tm 25) (ci 0))
 .nil)))
 27 none (tm 26) (.cst (.bool false))
 .nil)))))))
 (.cond (tm 27)
 (.reg
 (op 28 (.mov (tm 5))
 (op 29 (.faddr 13 (tm 7))
 (op 30 (.load none (tm 29))
 (op 31 (.faddr 14 (tm 7))
 (op 32 (.load none (tm 31))
 (op 33 (.bsl false 3 1 (List.replicate 2 [.int .i64 0]) [(0, (tm 30)), (1, (tm 32))])
 (op 34 (.app 3 1 8 (tm 28) (tm 33))
 (op 5 (.mov (tm 34))
 .nil)))))))))
 .skip))))
 (.reg
 (op 35 (.bin .add (tm 10) (ci 1))
 (op 10 (.mov (tm 35))
 .nil))))))))))
 (.seq
 (.reg
 (op 36 (.mov (tm 5))
 (op 37 (.call 92 [(tm 36), (.cst (.clo 93 []))])
 (op 4 (.mov (tm 37))
 .nil))))
 .ret))))
noncomputable def F_envelopes_Bounds (a0 : (List TEnvelope)) (a1 : ByteArray) : Option (List Int) :=
 loopO (fun (v1 : Int × (List Int) × Unit) =>
 bif (decide (v1.1 < ((List.length a0 : Nat) : Int))) then
 letJ (fun (v2 : (List Int) × Unit) =>
 some (Sum.inl ((addI .i64 v1.1 (1 : Int)), v2.1, ()))) fun j3 =>
 Option.bind (idx a0 v1.1) fun x4 =>
 Option.bind (F_envelopes_Valid (TEnvelope.mk x4.Node x4.Slot x4.Seq (TTrust.mk x4.Trust.Threshold x4.Trust.Nodes x4.Trust.Inner) x4.Kind x4.Ballot x4.Prepared x4.Prime x4.Low x4.High)) fun r5 =>
 Option.bind (bif r5 then
 some (decide (x4.Ballot.Value = a1))
 else some false) fun b6 =>
 Option.bind (bif b6 then
 some (!decide (x4.Low = (0 : Int)))
 else some false) fun b7 =>
 bif b7 then
 bif lenOk 8 (List.length v1.2.1 + List.length [x4.Low, x4.High]) then
 j3 ((v1.2.1 ++ [x4.Low, x4.High]), ())
 else none
 else
 j3 (v1.2.1, ())
 else
 Option.map Sum.inr (Option.bind (F_envelopes_unique_int_c93 v1.2.1) fun r8 =>
 some r8)) ((0 : Int), ([] : List Int), ())
noncomputable def k_envelopes_Bounds : KS U Tryz.prog := ⟨.fn 19 [.ty (Ty.sl (Ty.st .Envelope)), .ty Ty.str] (.one (Ty.sl (Ty.i .i64))) fun a => F_envelopes_Bounds a.1 a.2.1, fnS (K := K) sa_envelopes_Bounds 38 [.tmp 4] [k_envelopes_Valid, k_envelopes_unique_int_c93] ⟨Tryz.f19, [], Tryz.func19, rfl, by kernel_rfl, by kernel_rfl, by kernel_rfl⟩ (by kernel_rfl) (by decide) (by kernel_rfl)⟩

/-! ### (trustquorum/envelopes.Right).from -/
def sa_envelopes_Right_from : SA U :=
 (.seq
 (.reg
 (op 4 (.box (tm 0))
 (op 8 (.mov (.cst (.bool false)))
 .nil)))
 (.seq
 (.reg
 (op 9 (.mov (tm 2))
 (op 10 (.bin .geq (tm 9) (ci 1))
 (op 11 (.mov (tm 10))
 (.ite 11 true
 (opg 12 11 true (.mov (tm 2))
 (opg 13 11 true (.mov (tm 3))
 (opg 14 11 true (.bin .leq (tm 12) (tm 13))
 .nil)))
 15 none (tm 14) (.cst (.bool false))
 (op 16 (.mov (tm 15))
 (.ite 16 true
 (opg 17 16 true (.faddr 0 (tm 4))
 (opg 18 16 true (.faddr 7 (tm 17))
 (opg 19 16 true (.faddr 1 (tm 18))
 (opg 20 16 true (.load none (tm 19))
 (opg 21 16 true (.mov (tm 1))
 (opg 22 16 true (.bin .eql (tm 20) (tm 21))
 .nil))))))
 23 none (tm 22) (.cst (.bool false))
 (op 24 (.mov (tm 23))
 (.ite 24 true
 (opg 25 24 true (.faddr 0 (tm 4))
 (opg 26 24 true (.faddr 13 (tm 25))
 (opg 27 24 true (.load none (tm 26))
 (opg 28 24 true (.mov (tm 2))
 (opg 29 24 true (.bin .leq (tm 27) (tm 28))
 .nil)))))
 30 none (tm 29) (.cst (.bool false))
 (op 8 (.mov (tm 30))
 .nil))))))))))
 .ret))
noncomputable def F_envelopes_Right_from (a0 : TRight) (a1 : ByteArray) (a2 : Int) (a3 : Int) : Option Bool :=
 Option.bind (bif (decide ((1 : Int) ≤ a2)) then
 some (decide (a2 ≤ a3))
 else some false) fun b1 =>
 Option.bind (bif b1 then
 some (decide (a0.Envelope.Ballot.Value = a1))
 else some false) fun b2 =>
 Option.bind (bif b2 then
 some (decide (a0.Envelope.Low ≤ a2))
 else some false) fun b3 =>
 some b3
noncomputable def k_envelopes_Right_from : KS U Tryz.prog := ⟨.fn 155 [.ty (Ty.st .Right), .ty Ty.str, .ty (Ty.i .i64), .ty (Ty.i .i64)] (.one Ty.bool) fun a => F_envelopes_Right_from a.1 a.2.1 a.2.2.1 a.2.2.2.1, fnS (K := K) sa_envelopes_Right_from 31 [.tmp 8] [] ⟨Tryz.f155, [], Tryz.func155, rfl, by kernel_rfl, by kernel_rfl, by kernel_rfl⟩ (by kernel_rfl) (by decide) (by kernel_rfl)⟩

/-! ### (trustquorum/envelopes.Right).VotesCommit -/
def sa_envelopes_Right_VotesCommit : SA U :=
 (.seq
 (.reg
 (op 4 (.box (tm 0))
 (op 8 (.mov (.cst (.bool false)))
 .nil)))
 (.seq
 (.reg
 (op 9 (.load (some 15) (tm 4))
 (op 10 (.mov (tm 1))
 (op 11 (.mov (tm 2))
 (op 12 (.mov (tm 3))
 (op 13 (.call 155 [(tm 9), (tm 10), (tm 11), (tm 12)])
 (op 14 (.mov (tm 13))
 (.ite 14 true
 (opg 15 14 true (.faddr 0 (tm 4))
 (opg 16 14 true (.faddr 6 (tm 15))
 (opg 17 14 true (.load none (tm 16))
 (opg 18 14 true (.bin .neq (tm 17) (ci 1))
 (opg 19 14 true (.mov (tm 18))
 (.ite 19 false
 (opg 20 19 false (.faddr 0 (tm 4))
 (opg 21 19 false (.faddr 13 (tm 20))
 (opg 22 19 false (.load none (tm 21))
 (opg 23 19 false (.bin .neq (tm 22) (ci 0))
 (opg 24 19 false (.mov (tm 23))
 (.ite 24 true
 (opg 25 24 true (.mov (tm 3))
 (opg 26 24 true (.faddr 0 (tm 4))
 (opg 27 24 true (.faddr 14 (tm 26))
 (opg 28 24 true (.load none (tm 27))
 (opg 29 24 true (.bin .leq (tm 25) (tm 28))
 .nil)))))
 30 (some (19, false)) (tm 29) (.cst (.bool false))
 .nil))))))
 31 (some (14, true)) (.cst (.bool true)) (tm 30)
 .nil))))))
 32 none (tm 31) (.cst (.bool false))
 (op 8 (.mov (tm 32))
 .nil)))))))))
 .ret))
noncomputable def F_envelopes_Right_VotesCommit (a0 : TRight) (a1 : ByteArray) (a2 : Int) (a3 : Int) : Option Bool :=
 Option.bind (F_envelopes_Right_from (TRight.mk (TEnvelope.mk a0.Envelope.Node a0.Envelope.Slot a0.Envelope.Seq (TTrust.mk a0.Envelope.Trust.Threshold a0.Envelope.Trust.Nodes a0.Envelope.Trust.Inner) a0.Envelope.Kind a0.Envelope.Ballot a0.Envelope.Prepared a0.Envelope.Prime a0.Envelope.Low a0.Envelope.High)) a1 a2 a3) fun r1 =>
 Option.bind (bif r1 then
 Option.bind (bif (!decide (a0.Envelope.Kind = (1 : Int))) then some true
 else
 Option.bind (bif (!decide (a0.Envelope.Low = (0 : Int))) then
 some (decide (a3 ≤ a0.Envelope.High))
 else some false) fun b2 =>
 some b2) fun b3 =>
 some b3
 else some false) fun b4 =>
 some b4
noncomputable def k_envelopes_Right_VotesCommit : KS U Tryz.prog := ⟨.fn 94 [.ty (Ty.st .Right), .ty Ty.str, .ty (Ty.i .i64), .ty (Ty.i .i64)] (.one Ty.bool) fun a => F_envelopes_Right_VotesCommit a.1 a.2.1 a.2.2.1 a.2.2.2.1, fnS (K := K) sa_envelopes_Right_VotesCommit 33 [.tmp 8] [k_envelopes_Right_from] ⟨Tryz.f94, [], Tryz.func94, rfl, by kernel_rfl, by kernel_rfl, by kernel_rfl⟩ (by kernel_rfl) (by decide) (by kernel_rfl)⟩

/-! ### trustquorum/trustquorumplay.Flat -/
def sa_play_Flat : SA U :=
 (.seq
 (.reg
 (op 4 (.alloc [.int .i64 0, .nils, .nils])
 .nil))
 (.seq
 (.reg
 (op 7 (.mov (tm 1))
 (op 8 (.build [.int .i64 0, .nils, .nils] [(0, 1, (tm 7))])
 (op 5 (.alloc [.int .i64 0, .nils, .nils])
 (ops (.store 3 (tm 5) (tm 8))
 .nil)))))
 (.seq
 (.seq
 (.reg
 (op 6 (.mov (ci 0))
 .nil))
 (.block 0
 (.ps (.ownB 5 1 3 1 (Ty.i .i64))
 (.loop ⟨[.val 6 (Ty.i .i64), .box 3 1 (Ty.st .Trust) [(1, 6, 1)], .rowb 6 1 3 1 (Ty.i .i64)], [0, 4, 5]⟩
 (.seq
 (.seq
 (.reg
 (op 9 (.mov (tm 6))
 (op 10 (.mov (tm 0))
 (op 11 (.bin .lss (tm 9) (tm 10))
 .nil))))
 (.cond (tm 11)
 .skip
 (.exit 0)))
 (.seq
 (.block 1
 (.reg
 (op 14 (.faddr 1 (tm 5))
 (op 15 (.load none (tm 14))
 (op 16 (.mov (tm 6))
 (op 17 (.bsl false 3 1 (List.replicate 1 [.int .i64 0]) [(0, (tm 16))])
 (op 18 (.app 3 1 8 (tm 15) (tm 17))
 (op 19 (.faddr 1 (tm 5))
 (ops (.store 1 (tm 19) (tm 18))
 .nil)))))))))
 (.reg
 (op 12 (.mov (tm 6))
 (op 13 (.bin .add (tm 12) (ci 1))
 (op 6 (.mov (tm 13))
 .nil))))))))))
 (.seq
 (.reg
 (op 20 (.load (some 3) (tm 5))
 (ops (.store 3 (tm 4) (tm 20))
 .nil)))
 .ret))))
noncomputable def F_play_Flat (a0 : Int) (a1 : Int) : Option TTrust :=
 loopO (fun (v1 : Int × TTrust × (List Int) × Unit) =>
 bif (decide (v1.1 < a0)) then
 bif lenOk 8 (List.length v1.2.2.1 + List.length [v1.1]) then
 some (Sum.inl ((addI .i64 v1.1 (1 : Int)), (TTrust.mk v1.2.1.Threshold ([] : List Int) v1.2.1.Inner), (v1.2.2.1 ++ [v1.1]), ()))
 else none
 else
 Option.map Sum.inr (some (TTrust.mk v1.2.1.Threshold v1.2.2.1 v1.2.1.Inner))) ((0 : Int), (TTrust.mk a1 ([] : List Int) ([] : List TTrust)), ([] : List Int), ())
noncomputable def k_play_Flat : KS U Tryz.prog := ⟨.fn 30 [.ty (Ty.i .i64), .ty (Ty.i .i64)] (.one (Ty.st .Trust)) fun a => F_play_Flat a.1 a.2.1, fnS (K := K) sa_play_Flat 21 [.cell 4 (some 3)] [] ⟨Tryz.f30, [], Tryz.func30, rfl, by kernel_rfl, by kernel_rfl, by kernel_rfl⟩ (by kernel_rfl) (by decide) (by kernel_rfl)⟩

/-! ### (trustquorum/envelopes.Right).AcceptsCommit -/
def sa_envelopes_Right_AcceptsCommit : SA U :=
 (.seq
 (.reg
 (op 4 (.box (tm 0))
 (op 8 (.mov (.cst (.bool false)))
 .nil)))
 (.seq
 (.reg
 (op 9 (.load (some 15) (tm 4))
 (op 10 (.mov (tm 1))
 (op 11 (.mov (tm 2))
 (op 12 (.mov (tm 3))
 (op 13 (.call 155 [(tm 9), (tm 10), (tm 11), (tm 12)])
 (op 14 (.mov (tm 13))
 (.ite 14 true
 (opg 15 14 true (.faddr 0 (tm 4))
 (opg 16 14 true (.faddr 6 (tm 15))
 (opg 17 14 true (.load none (tm 16))
 (opg 18 14 true (.bin .eql (tm 17) (ci 3))
 (opg 19 14 true (.mov (tm 18))
 (.ite 19 false
 (opg 20 19 false (.faddr 0 (tm 4))
 (opg 21 19 false (.faddr 6 (tm 20))
 (opg 22 19 false (.load none (tm 21))
 (opg 23 19 false (.bin .eql (tm 22) (ci 2))
 (opg 24 19 false (.mov (tm 23))
 (.ite 24 true
 (opg 25 24 true (.mov (tm 3))
 (opg 26 24 true (.faddr 0 (tm 4))
 (opg 27 24 true (.faddr 14 (tm 26))
 (opg 28 24 true (.load none (tm 27))
 (opg 29 24 true (.bin .leq (tm 25) (tm 28))
 .nil)))))
 30 (some (19, false)) (tm 29) (.cst (.bool false))
 .nil))))))
 31 (some (14, true)) (.cst (.bool true)) (tm 30)
 .nil))))))
 32 none (tm 31) (.cst (.bool false))
 (op 8 (.mov (tm 32))
 .nil)))))))))
 .ret))
noncomputable def F_envelopes_Right_AcceptsCommit (a0 : TRight) (a1 : ByteArray) (a2 : Int) (a3 : Int) : Option Bool :=
 Option.bind (F_envelopes_Right_from (TRight.mk (TEnvelope.mk a0.Envelope.Node a0.Envelope.Slot a0.Envelope.Seq (TTrust.mk a0.Envelope.Trust.Threshold a0.Envelope.Trust.Nodes a0.Envelope.Trust.Inner) a0.Envelope.Kind a0.Envelope.Ballot a0.Envelope.Prepared a0.Envelope.Prime a0.Envelope.Low a0.Envelope.High)) a1 a2 a3) fun r1 =>
 Option.bind (bif r1 then
 Option.bind (bif (decide (a0.Envelope.Kind = (3 : Int))) then some true
 else
 Option.bind (bif (decide (a0.Envelope.Kind = (2 : Int))) then
 some (decide (a3 ≤ a0.Envelope.High))
 else some false) fun b2 =>
 some b2) fun b3 =>
 some b3
 else some false) fun b4 =>
 some b4
noncomputable def k_envelopes_Right_AcceptsCommit : KS U Tryz.prog := ⟨.fn 143 [.ty (Ty.st .Right), .ty Ty.str, .ty (Ty.i .i64), .ty (Ty.i .i64)] (.one Ty.bool) fun a => F_envelopes_Right_AcceptsCommit a.1 a.2.1 a.2.2.1 a.2.2.2.1, fnS (K := K) sa_envelopes_Right_AcceptsCommit 33 [.tmp 8] [k_envelopes_Right_from] ⟨Tryz.f143, [], Tryz.func143, rfl, by kernel_rfl, by kernel_rfl, by kernel_rfl⟩ (by kernel_rfl) (by decide) (by kernel_rfl)⟩

/-! ### slices.Clone[[]int,int] -/
def sa_slices_Clone_int_int : SA U :=
 (.seq
 (.reg
 (op 2 (.mov (.cst (.nils)))
 .nil))
 (.seq
 (.seq
 (.reg
 (op 3 (.mov (tm 0))
 (op 4 (.isnil false (tm 3))
 .nil)))
 (.cond (tm 4)
 (.seq
 (.reg
 (op 2 (.mov (.cst (.nils)))
 .nil))
 .ret)
 .skip))
 (.seq
 (.reg
 (op 5 (.bsl true 3 1 (List.replicate 0 [.int .i64 0]) [])
 (op 6 (.mov (tm 0))
 (op 7 (.app 3 1 8 (tm 5) (tm 6))
 (op 2 (.mov (tm 7))
 .nil)))))
 .ret)))
noncomputable def F_slices_Clone_int_int (a0 : (List Int)) : Option (List Int) :=
 bif List.isEmpty a0 then
 both (some ([] : List Int)) (bif lenOk 8 (List.length ([] : List Int) + List.length a0) then
 some (([] : List Int) ++ a0)
 else none)
 else
 bif lenOk 8 (List.length ([] : List Int) + List.length a0) then
 some (([] : List Int) ++ a0)
 else none
noncomputable def k_slices_Clone_int_int : KS U Tryz.prog := ⟨.fn 166 [.ty (Ty.sl (Ty.i .i64))] (.one (Ty.sl (Ty.i .i64))) fun a => F_slices_Clone_int_int a.1, fnS (K := K) sa_slices_Clone_int_int 8 [.tmp 2] [] ⟨Tryz.f166, [5], Tryz.func166, rfl, by kernel_rfl, by kernel_rfl, by kernel_rfl⟩ (by kernel_rfl) (by decide) (by kernel_rfl)⟩

/-! ### trustquorum/copies.Trust -/
def sa_copies_Trust : SA U :=
 (.seq
 (.reg
 (op 1 (.box (tm 0))
 (op 2 (.alloc [.int .i64 0, .nils, .nils])
 .nil)))
 (.seq
 (.drw [(0, 2), (1, 2), (0, 3), (1, 3), (0, 4), (1, 4), (0, 6), (1, 6), (2, 6), (3, 6), (4, 6)]
 (op 6 (.faddr 0 (tm 1))
 (op 7 (.load none (tm 6))
 (op 8 (.faddr 1 (tm 1))
 (op 9 (.load none (tm 8))
 (op 10 (.call 166 [(tm 9)])
 (op 11 (.build [.int .i64 0, .nils, .nils] [(0, 1, (tm 7)), (1, 1, (tm 10))])
 (op 3 (.alloc [.int .i64 0, .nils, .nils])
 (ops (.store 3 (tm 3) (tm 11))
 .nil)))))))))
 (.seq
 (.seq
 (.reg
 (op 12 (.faddr 2 (tm 1))
 (op 13 (.load none (tm 12))
 (op 14 (.len false (tm 13))
 (op 15 (.mov (ci 0))
 .nil)))))
 (.block 0
 (.ps (.ownB 3 2 36 3 (Ty.st .Trust))
 (.loop ⟨[.val 15 (Ty.i .i64), .box 8 1 (Ty.st .Trust) [(2, 14, 1)], .rowb 14 1 36 3 (Ty.st .Trust)], [2, 3, 13, 14]⟩
 (.seq
 (.reg
 (op 16 (.bin .lss (tm 15) (tm 14))
 .nil))
 (.seq
 (.cond (tm 16)
 .skip
 (.exit 0))
 (.seq
 (.block 1
 (.seq
 (.reg
 (op 17 (.iaddr 3 (tm 13) (tm 15))
 (op 18 (.load (some 3) (tm 17))
 (op 5 (.alloc [.int .i64 0, .nils, .nils])
 (ops (.store 3 (tm 5) (tm 18))
 .nil)))))
 (.drw [(0, 2), (1, 2), (0, 3), (1, 3), (0, 4), (1, 4)]
 (op 19 (.faddr 2 (tm 3))
 (op 20 (.load none (tm 19))
 (op 21 (.load (some 3) (tm 5))
 (op 22 (.call 116 [(tm 21)])
 (op 23 (.bsl false 36 3 (List.replicate 1 [.int .i64 0, .nils, .nils]) [(0, (tm 22))])
 (op 24 (.app 36 3 56 (tm 20) (tm 23))
 (op 25 (.faddr 2 (tm 3))
 (ops (.store 1 (tm 25) (tm 24))
 .nil)))))))))))
 (.reg
 (op 26 (.bin .add (tm 15) (ci 1))
 (op 15 (.mov (tm 26))
 .nil))))))))))
 (.seq
 (.reg
 (op 27 (.load (some 3) (tm 3))
 (ops (.store 3 (tm 2) (tm 27))
 .nil)))
 .ret))))
noncomputable def B_copies_Trust (rec : (TTrust × Unit) → Option TTrust) (a0 : TTrust) : Option TTrust :=
 Option.bind (F_slices_Clone_int_int a0.Nodes) fun r1 =>
 loopO (fun (v2 : Int × TTrust × (List TTrust) × Unit) =>
 bif (decide (v2.1 < ((List.length a0.Inner : Nat) : Int))) then
 Option.bind (idx a0.Inner v2.1) fun x3 =>
 Option.bind (rec ((TTrust.mk x3.Threshold x3.Nodes x3.Inner), ())) fun r4 =>
 bif lenOk 56 (List.length v2.2.2.1 + List.length [(TTrust.mk r4.Threshold r4.Nodes r4.Inner)]) then
 some (Sum.inl ((addI .i64 v2.1 (1 : Int)), (TTrust.mk v2.2.1.Threshold v2.2.1.Nodes ([] : List TTrust)), (v2.2.2.1 ++ [(TTrust.mk r4.Threshold r4.Nodes r4.Inner)]), ()))
 else none
 else
 Option.map Sum.inr (some (TTrust.mk v2.2.1.Threshold v2.2.1.Nodes v2.2.2.1))) ((0 : Int), (TTrust.mk a0.Threshold r1 ([] : List TTrust)), ([] : List TTrust), ())
noncomputable def I_copies_Trust : Nat → (TTrust × Unit) → Option TTrust := iterF (fun rec a => B_copies_Trust rec a.1)
noncomputable def F_copies_Trust (a0 : TTrust) : Option TTrust := I_copies_Trust (SizeOf.sizeOf a0 + 1) (a0, ())
noncomputable def k_copies_Trust : KS U Tryz.prog := ⟨.fn 116 [.ty (Ty.st .Trust)] (.one (Ty.st .Trust)) fun a => F_copies_Trust a.1, fnRS (K := K) («as» := [.ty (Ty.st .Trust)]) (r := .one (Ty.st .Trust)) (B := fun rec a => B_copies_Trust rec a.1) sa_copies_Trust 28 [.cell 2 (some 3)] [k_slices_Clone_int_int] ⟨Tryz.f116, [], Tryz.func116, rfl, by kernel_rfl, by kernel_rfl, by kernel_rfl⟩ (by kernel_rfl) (by decide) (by kernel_rfl) fun a => ⟨_, rfl⟩⟩

/-! ### trustquorum/prepare.View -/
def sa_prepare_View : SA U :=
 (.seq
 (.reg
 (op 4 (.box (tm 1))
 (op 6 (.alloc [.nils])
 .nil)))
 (.seq
 (.reg
 (op 10 (.mks 126 4 64 [.bool false, .int .i64 0, .nils, .nils] (ci 10) (ci 10))
 (op 11 (.build [.nils] [(0, 1, (tm 10))])
 (op 7 (.alloc [.nils])
 (ops (.store 1 (tm 7) (tm 11))
 .nil)))))
 (.seq
 (.seq
 (.reg
 (op 12 (.mov (tm 0))
 (op 13 (.bin .lss (tm 12) (ci 0))
 (op 14 (.mov (tm 13))
 (.ite 14 false
 (opg 15 14 false (.mov (tm 0))
 (opg 16 14 false (.bin .geq (tm 15) (ci 10))
 .nil))
 17 none (.cst (.bool true)) (tm 16)
 .nil)))))
 (.cond (tm 17)
 (.seq
 (.reg
 (op 18 (.load (some 1) (tm 7))
 (ops (.store 1 (tm 6) (tm 18))
 .nil)))
 .ret)
 .skip))
 (.seq
 (.drw [(0, 3), (1, 3), (0, 4), (1, 4)]
 (op 19 (.faddr 0 (tm 7))
 (op 20 (.load none (tm 19))
 (op 21 (.mov (tm 0))
 (op 22 (.load (some 3) (tm 4))
 (op 23 (.call 116 [(tm 22)])
 (op 24 (.build [.bool false, .int .i64 0, .nils, .nils] [(0, 1, (.cst (.bool true))), (1, 3, (tm 23))])
 (op 25 (.iaddr 4 (tm 20) (tm 21))
 (ops (.store 4 (tm 25) (tm 24))
 .nil)))))))))
 (.seq
 (.seq
 (.reg
 (op 26 (.mov (tm 2))
 (op 27 (.len false (tm 26))
 (op 28 (.mov (ci 0))
 .nil))))
 (.block 0
 (.loop ⟨[.val 28 (Ty.i .i64), .box 4 1 (Ty.st .Config) [(0, 2, 1)], .rowb 2 1 126 4 (Ty.st .Member)], [6, 7, 26, 27]⟩
 (.seq
 (.reg
 (op 29 (.bin .lss (tm 28) (tm 27))
 .nil))
 (.seq
 (.cond (tm 29)
 .skip
 (.exit 0))
 (.join ⟨[.box 4 1 (Ty.st .Config) [(0, 2, 1)], .rowb 2 1 126 4 (Ty.st .Member)], [6, 7, 26, 27, 28]⟩
 (.block 1
 (.seq
 (.reg
 (op 30 (.iaddr 15 (tm 26) (tm 28))
 (op 31 (.load (some 15) (tm 30))
 (op 9 (.alloc [.int .i64 0, .int .i64 0, .int .i64 0, .int .i64 0, .nils, .nils, .int .i64 0, .int .i64 0, .str ⟨#[]⟩, .int .i64 0, .str ⟨#[]⟩, .int .i64 0, .str ⟨#[]⟩, .int .i64 0, .int .i64 0])
 (ops (.store 15 (tm 9) (tm 31))
 .nil)))))
 (.seq
 (.reg
 (op 32 (.load (some 15) (tm 9))
 (op 33 (.call 75 [(tm 32)])
 (op 34 (.mov (tm 33))
 (.ite 34 true
 (opg 35 34 true (.faddr 0 (tm 7))
 (opg 36 34 true (.load none (tm 35))
 (opg 37 34 true (.faddr 0 (tm 9))
 (opg 38 34 true (.load none (tm 37))
 (opg 39 34 true (.iaddr 4 (tm 36) (tm 38))
 (opg 40 34 true (.faddr 0 (tm 39))
 (opg 41 34 true (.load none (tm 40))
 (opg 42 34 true (.not (tm 41))
 .nil))))))))
 43 none (tm 42) (.cst (.bool false))
 .nil)))))
 (.cond (tm 43)
 (.drw [(0, 2), (1, 2), (0, 3), (1, 3), (0, 4), (1, 4), (2, 4), (3, 4), (0, 5), (1, 5), (2, 5), (3, 5), (0, 6), (1, 6), (2, 6), (3, 6)]
 (op 44 (.faddr 0 (tm 7))
 (op 45 (.load none (tm 44))
 (op 46 (.faddr 0 (tm 9))
 (op 47 (.load none (tm 46))
 (op 48 (.faddr 3 (tm 9))
 (op 49 (.load (some 3) (tm 48))
 (op 50 (.call 116 [(tm 49)])
 (op 51 (.build [.bool false, .int .i64 0, .nils, .nils] [(0, 1, (.cst (.bool true))), (1, 3, (tm 50))])
 (op 52 (.iaddr 4 (tm 45) (tm 47))
 (ops (.store 4 (tm 52) (tm 51))
 .nil)))))))))))
 .skip))))
 (.reg
 (op 53 (.bin .add (tm 28) (ci 1))
 (op 28 (.mov (tm 53))
 .nil)))))))))
 (.seq
 (.reg
 (op 54 (.load (some 1) (tm 7))
 (ops (.store 1 (tm 6) (tm 54))
 .nil)))
 .ret))))))
noncomputable def F_prepare_View (a0 : Int) (a1 : TTrust) (a2 : (List TEnvelope)) : Option TConfig :=
 bif decide ((10 : Int) = (10 : Int)) && decide (0 ≤ (10 : Int)) && lenOk 64 (Int.toNat (10 : Int)) then
 Option.bind (bif (decide (a0 < (0 : Int))) then some true
 else
 some (decide ((10 : Int) ≤ a0))) fun b1 =>
 bif b1 then
 some (TConfig.mk (List.replicate (Int.toNat (10 : Int)) (TMember.mk false (TTrust.mk (0 : Int) ([] : List Int) ([] : List TTrust)))))
 else
 Option.bind (F_copies_Trust (TTrust.mk a1.Threshold a1.Nodes a1.Inner)) fun r2 =>
 Option.bind (idx (List.replicate (Int.toNat (10 : Int)) (TMember.mk false (TTrust.mk (0 : Int) ([] : List Int) ([] : List TTrust)))) a0) fun x3 =>
 Option.bind ((List.replicate (Int.toNat (10 : Int)) (TMember.mk false (TTrust.mk (0 : Int) ([] : List Int) ([] : List TTrust))))[(Int.toNat a0)]?) fun x4 =>
 loopO (fun (v5 : Int × TConfig × (List TMember) × Unit) =>
 bif (decide (v5.1 < ((List.length a2 : Nat) : Int))) then
 letJ (fun (v6 : TConfig × (List TMember) × Unit) =>
 some (Sum.inl ((addI .i64 v5.1 (1 : Int)), (TConfig.mk ([] : List TMember)), v6.2.1, ()))) fun j7 =>
 Option.bind (idx a2 v5.1) fun x8 =>
 Option.bind (F_envelopes_Valid (TEnvelope.mk x8.Node x8.Slot x8.Seq (TTrust.mk x8.Trust.Threshold x8.Trust.Nodes x8.Trust.Inner) x8.Kind x8.Ballot x8.Prepared x8.Prime x8.Low x8.High)) fun r9 =>
 Option.bind (bif r9 then
 Option.bind (idx v5.2.2.1 x8.Node) fun x10 =>
 Option.bind (v5.2.2.1[(Int.toNat x8.Node)]?) fun x11 =>
 Option.bind (v5.2.2.1[(Int.toNat x8.Node)]?) fun x12 =>
 some (!x12.Declared)
 else some false) fun b13 =>
 bif b13 then
 Option.bind (F_copies_Trust (TTrust.mk x8.Trust.Threshold x8.Trust.Nodes x8.Trust.Inner)) fun r14 =>
 Option.bind (idx v5.2.2.1 x8.Node) fun x15 =>
 Option.bind (v5.2.2.1[(Int.toNat x8.Node)]?) fun x16 =>
 j7 ((TConfig.mk ([] : List TMember)), (v5.2.2.1.set (Int.toNat x8.Node) (TMember.mk true (TTrust.mk r14.Threshold r14.Nodes r14.Inner))), ())
 else
 j7 ((TConfig.mk ([] : List TMember)), v5.2.2.1, ())
 else
 Option.map Sum.inr (some (TConfig.mk v5.2.2.1))) ((0 : Int), (TConfig.mk ([] : List TMember)), ((List.replicate (Int.toNat (10 : Int)) (TMember.mk false (TTrust.mk (0 : Int) ([] : List Int) ([] : List TTrust)))).set (Int.toNat a0) (TMember.mk true (TTrust.mk r2.Threshold r2.Nodes r2.Inner))), ())
 else none
noncomputable def k_prepare_View : KS U Tryz.prog := ⟨.fn 47 [.ty (Ty.i .i64), .ty (Ty.st .Trust), .ty (Ty.sl (Ty.st .Envelope))] (.one (Ty.st .Config)) fun a => F_prepare_View a.1 a.2.1 a.2.2.1, fnS (K := K) sa_prepare_View 55 [.cell 6 (some 1)] [k_copies_Trust, k_envelopes_Valid] ⟨Tryz.f47, [], Tryz.func47, rfl, by kernel_rfl, by kernel_rfl, by kernel_rfl⟩ (by kernel_rfl) (by decide) (by kernel_rfl)⟩

/-! ### trustquorum/envelopes.Rights -/
def sa_envelopes_Rights : SA U :=
 (.seq
 (.reg
 (op 2 (.mov (.cst (.nils)))
 .nil))
 (.seq
 (.reg
 (op 3 (.mov (.cst (.nils)))
 .nil))
 (.seq
 (.seq
 (.reg
 (op 6 (.mov (tm 0))
 (op 7 (.len false (tm 6))
 (op 8 (.mov (ci 0))
 .nil))))
 (.block 0
 (.ps (.own 3 106 15 (Ty.st .Right))
 (.loop ⟨[.val 8 (Ty.i .i64), .own 3 5 1 106 15 (Ty.st .Right)], [6, 7]⟩
 (.seq
 (.reg
 (op 9 (.bin .lss (tm 8) (tm 7))
 .nil))
 (.seq
 (.cond (tm 9)
 .skip
 (.exit 0))
 (.join ⟨[.own 3 5 1 106 15 (Ty.st .Right)], [6, 7, 8]⟩
 (.block 1
 (.seq
 (.reg
 (op 10 (.iaddr 15 (tm 6) (tm 8))
 (op 11 (.load (some 15) (tm 10))
 (op 5 (.alloc [.int .i64 0, .int .i64 0, .int .i64 0, .int .i64 0, .nils, .nils, .int .i64 0, .int .i64 0, .str ⟨#[]⟩, .int .i64 0, .str ⟨#[]⟩, .int .i64 0, .str ⟨#[]⟩, .int .i64 0, .int .i64 0])
 (ops (.store 15 (tm 5) (tm 11))
 .nil)))))
 (.seq
 (.reg
 (op 12 (.load (some 15) (tm 5))
 (op 13 (.call 75 [(tm 12)])
 .nil)))
 (.cond (tm 13)
 (.reg
 (op 14 (.mov (tm 3))
 (op 15 (.load (some 15) (tm 5))
 (op 16 (.build [.int .i64 0, .int .i64 0, .int .i64 0, .int .i64 0, .nils, .nils, .int .i64 0, .int .i64 0, .str ⟨#[]⟩, .int .i64 0, .str ⟨#[]⟩, .int .i64 0, .str ⟨#[]⟩, .int .i64 0, .int .i64 0] [(0, 15, (tm 15))])
 (op 17 (.bsl false 106 15 (List.replicate 1 [.int .i64 0, .int .i64 0, .int .i64 0, .int .i64 0, .nils, .nils, .int .i64 0, .int .i64 0, .str ⟨#[]⟩, .int .i64 0, .str ⟨#[]⟩, .int .i64 0, .str ⟨#[]⟩, .int .i64 0, .int .i64 0]) [(0, (tm 16))])
 (op 18 (.app 106 15 176 (tm 14) (tm 17))
 (op 3 (.mov (tm 18))
 .nil)))))))
 .skip))))
 (.reg
 (op 19 (.bin .add (tm 8) (ci 1))
 (op 8 (.mov (tm 19))
 .nil))))))))))
 (.seq
 (.reg
 (op 20 (.mov (tm 3))
 (op 2 (.mov (tm 20))
 .nil)))
 .ret))))
noncomputable def F_envelopes_Rights (a0 : (List TEnvelope)) : Option (List TRight) :=
 loopO (fun (v1 : Int × (List TRight) × Unit) =>
 bif (decide (v1.1 < ((List.length a0 : Nat) : Int))) then
 letJ (fun (v2 : (List TRight) × Unit) =>
 some (Sum.inl ((addI .i64 v1.1 (1 : Int)), v2.1, ()))) fun j3 =>
 Option.bind (idx a0 v1.1) fun x4 =>
 Option.bind (F_envelopes_Valid (TEnvelope.mk x4.Node x4.Slot x4.Seq (TTrust.mk x4.Trust.Threshold x4.Trust.Nodes x4.Trust.Inner) x4.Kind x4.Ballot x4.Prepared x4.Prime x4.Low x4.High)) fun r5 =>
 bif r5 then
 bif lenOk 176 (List.length v1.2.1 + List.length [(TRight.mk (TEnvelope.mk x4.Node x4.Slot x4.Seq (TTrust.mk x4.Trust.Threshold x4.Trust.Nodes x4.Trust.Inner) x4.Kind x4.Ballot x4.Prepared x4.Prime x4.Low x4.High))]) then
 j3 ((v1.2.1 ++ [(TRight.mk (TEnvelope.mk x4.Node x4.Slot x4.Seq (TTrust.mk x4.Trust.Threshold x4.Trust.Nodes x4.Trust.Inner) x4.Kind x4.Ballot x4.Prepared x4.Prime x4.Low x4.High))]), ())
 else none
 else
 j3 (v1.2.1, ())
 else
 Option.map Sum.inr (some v1.2.1)) ((0 : Int), ([] : List TRight), ())
noncomputable def k_envelopes_Rights : KS U Tryz.prog := ⟨.fn 159 [.ty (Ty.sl (Ty.st .Envelope))] (.one (Ty.sl (Ty.st .Right))) fun a => F_envelopes_Rights a.1, fnS (K := K) sa_envelopes_Rights 21 [.tmp 2] [k_envelopes_Valid] ⟨Tryz.f159, [], Tryz.func159, rfl, by kernel_rfl, by kernel_rfl, by kernel_rfl⟩ (by kernel_rfl) (by decide) (by kernel_rfl)⟩

/-! ### trustquorum/prepare.Look -/
def sa_prepare_Look : SA U :=
 (.seq
 (.reg
 (op 4 (.box (tm 1))
 (op 6 (.alloc [.int .i64 0, .nils, .nils])
 .nil)))
 (.seq
 (.reg
 (op 7 (.mov (tm 0))
 (op 8 (.mov (tm 0))
 (op 9 (.load (some 3) (tm 4))
 (op 10 (.mov (tm 2))
 (op 11 (.call 47 [(tm 8), (tm 9), (tm 10)])
 (op 12 (.mov (tm 2))
 (op 13 (.call 159 [(tm 12)])
 (op 14 (.build [.int .i64 0, .nils, .nils] [(0, 1, (tm 7)), (1, 1, (tm 11)), (2, 1, (tm 13))])
 (ops (.store 3 (tm 6) (tm 14))
 .nil))))))))))
 .ret))
noncomputable def F_prepare_Look (a0 : Int) (a1 : TTrust) (a2 : (List TEnvelope)) : Option TSeen :=
 Option.bind (F_prepare_View a0 (TTrust.mk a1.Threshold a1.Nodes a1.Inner) a2) fun r1 =>
 Option.bind (F_envelopes_Rights a2) fun r2 =>
 some (TSeen.mk a0 r1 r2)
noncomputable def k_prepare_Look : KS U Tryz.prog := ⟨.fn 97 [.ty (Ty.i .i64), .ty (Ty.st .Trust), .ty (Ty.sl (Ty.st .Envelope))] (.one (Ty.st .Seen)) fun a => F_prepare_Look a.1 a.2.1 a.2.2.1, fnS (K := K) sa_prepare_Look 15 [.cell 6 (some 3)] [k_prepare_View, k_envelopes_Rights] ⟨Tryz.f97, [], Tryz.func97, rfl, by kernel_rfl, by kernel_rfl, by kernel_rfl⟩ (by kernel_rfl) (by decide) (by kernel_rfl)⟩

/-! ### trustquorum/commit.accepts -/
def sa_commit_accepts : SA U :=
 (.seq
 (.reg
 (op 3 (.box (tm 0))
 (op 4 (.box (tm 1))
 (op 5 (.box (tm 2))
 (op 6 (.mov (.cst (.any)))
 .nil)))))
 (.seq
 (.reg
 (op 7 (.mkf 187 [(tm 3), (tm 4), (tm 5)])
 (op 6 (.mov (tm 7))
 .nil)))
 .ret))
noncomputable def F_commit_accepts (a0 : ByteArray) (a1 : Int) (a2 : Int) : Option (ByteArray × Int × Int × Unit) :=
 some (a0, a1, a2, ())
noncomputable def k_commit_accepts : KS U Tryz.prog := ⟨.fn 158 [.ty Ty.str, .ty (Ty.i .i64), .ty (Ty.i .i64)] (.fn (.clo 187 [.ref (.ty Ty.str), .ref (.ty (Ty.i .i64)), .ref (.ty (Ty.i .i64))])) fun a => F_commit_accepts a.1 a.2.1 a.2.2.1, fnS (K := K) sa_commit_accepts 8 [.tmp 6] [] ⟨Tryz.f158, [], Tryz.func158, rfl, by kernel_rfl, by kernel_rfl, by kernel_rfl⟩ (by kernel_rfl) (by decide) (by kernel_rfl)⟩

/-! ### trustquorum/commit.ready$1 -/
def sa_commit_ready_1 : SA U :=
 (.seq
 (.reg
 (op 4 (.box (tm 0))
 (op 5 (.mov (.cst (.bool false)))
 .nil)))
 (.seq
 (.reg
 (op 6 (.load (some 15) (tm 4))
 (op 7 (.load none (tm 1))
 (op 8 (.load none (tm 2))
 (op 9 (.load none (tm 3))
 (op 10 (.call 94 [(tm 6), (tm 7), (tm 8), (tm 9)])
 (op 5 (.mov (tm 10))
 .nil)))))))
 .ret))
noncomputable def F_commit_ready_1 (a0 : TRight) (a1 : ByteArray) (a2 : Int) (a3 : Int) : Option Bool :=
 Option.bind (F_envelopes_Right_VotesCommit (TRight.mk (TEnvelope.mk a0.Envelope.Node a0.Envelope.Slot a0.Envelope.Seq (TTrust.mk a0.Envelope.Trust.Threshold a0.Envelope.Trust.Nodes a0.Envelope.Trust.Inner) a0.Envelope.Kind a0.Envelope.Ballot a0.Envelope.Prepared a0.Envelope.Prime a0.Envelope.Low a0.Envelope.High)) a1 a2 a3) fun r1 =>
 some r1
noncomputable def k_commit_ready_1 : KS U Tryz.prog := ⟨.fn 157 [.ty (Ty.st .Right), .ref (.ty Ty.str), .ref (.ty (Ty.i .i64)), .ref (.ty (Ty.i .i64))] (.one Ty.bool) fun a => F_commit_ready_1 a.1 a.2.1 a.2.2.1 a.2.2.2.1, fnS (K := K) sa_commit_ready_1 11 [.tmp 5] [k_envelopes_Right_VotesCommit] ⟨Tryz.f157, [], Tryz.func157, rfl, by kernel_rfl, by kernel_rfl, by kernel_rfl⟩ (by kernel_rfl) (by decide) (by kernel_rfl)⟩

/-! ### trustquorum/commit.accepts$1 -/
def sa_commit_accepts_1 : SA U :=
 (.seq
 (.reg
 (op 4 (.box (tm 0))
 (op 5 (.mov (.cst (.bool false)))
 .nil)))
 (.seq
 (.reg
 (op 6 (.load (some 15) (tm 4))
 (op 7 (.load none (tm 1))
 (op 8 (.load none (tm 2))
 (op 9 (.load none (tm 3))
 (op 10 (.call 143 [(tm 6), (tm 7), (tm 8), (tm 9)])
 (op 5 (.mov (tm 10))
 .nil)))))))
 .ret))
noncomputable def F_commit_accepts_1 (a0 : TRight) (a1 : ByteArray) (a2 : Int) (a3 : Int) : Option Bool :=
 Option.bind (F_envelopes_Right_AcceptsCommit (TRight.mk (TEnvelope.mk a0.Envelope.Node a0.Envelope.Slot a0.Envelope.Seq (TTrust.mk a0.Envelope.Trust.Threshold a0.Envelope.Trust.Nodes a0.Envelope.Trust.Inner) a0.Envelope.Kind a0.Envelope.Ballot a0.Envelope.Prepared a0.Envelope.Prime a0.Envelope.Low a0.Envelope.High)) a1 a2 a3) fun r1 =>
 some r1
noncomputable def k_commit_accepts_1 : KS U Tryz.prog := ⟨.fn 187 [.ty (Ty.st .Right), .ref (.ty Ty.str), .ref (.ty (Ty.i .i64)), .ref (.ty (Ty.i .i64))] (.one Ty.bool) fun a => F_commit_accepts_1 a.1 a.2.1 a.2.2.1 a.2.2.2.1, fnS (K := K) sa_commit_accepts_1 11 [.tmp 5] [k_envelopes_Right_AcceptsCommit] ⟨Tryz.f187, [], Tryz.func187, rfl, by kernel_rfl, by kernel_rfl, by kernel_rfl⟩ (by kernel_rfl) (by decide) (by kernel_rfl)⟩

/-! ### (trustquorum/prepare.Seen).Accepts$1 -/
def sa_prepare_Seen_Accepts_1_c157_c187 : SA U :=
 (.seq
 (.reg
 (op 3 (.box (tm 0))
 (op 4 (.mov (.cst (.bool false)))
 .nil)))
 (.seq
 (.reg
 (op 5 (.load none (tm 1))
 (op 6 (.load (some 15) (tm 3))
 (op 7 (.callv (tm 5) [(tm 6)])
 (op 8 (.mov (tm 7))
 (.ite 8 false
 (opg 9 8 false (.load none (tm 2))
 (opg 10 8 false (.load (some 15) (tm 3))
 (opg 11 8 false (.callv (tm 9) [(tm 10)])
 .nil)))
 12 none (.cst (.bool true)) (tm 11)
 (op 4 (.mov (tm 12))
 .nil)))))))
 .ret))
noncomputable def F_prepare_Seen_Accepts_1_c157_c187 (a0 : TRight) (a1 : ByteArray) (a2 : Int) (a3 : Int) (a4 : ByteArray) (a5 : Int) (a6 : Int) : Option Bool :=
 Option.bind (F_commit_ready_1 (TRight.mk (TEnvelope.mk a0.Envelope.Node a0.Envelope.Slot a0.Envelope.Seq (TTrust.mk a0.Envelope.Trust.Threshold a0.Envelope.Trust.Nodes a0.Envelope.Trust.Inner) a0.Envelope.Kind a0.Envelope.Ballot a0.Envelope.Prepared a0.Envelope.Prime a0.Envelope.Low a0.Envelope.High)) a1 a2 a3) fun r1 =>
 Option.bind (bif r1 then some true
 else
 Option.bind (F_commit_accepts_1 (TRight.mk (TEnvelope.mk a0.Envelope.Node a0.Envelope.Slot a0.Envelope.Seq (TTrust.mk a0.Envelope.Trust.Threshold a0.Envelope.Trust.Nodes a0.Envelope.Trust.Inner) a0.Envelope.Kind a0.Envelope.Ballot a0.Envelope.Prepared a0.Envelope.Prime a0.Envelope.Low a0.Envelope.High)) a4 a5 a6) fun r2 =>
 some r2) fun b3 =>
 some b3
noncomputable def k_prepare_Seen_Accepts_1_c157_c187 : KS U Tryz.prog := ⟨.fn 185 [.ty (Ty.st .Right), .ref (.clo 157 [.ref (.ty Ty.str), .ref (.ty (Ty.i .i64)), .ref (.ty (Ty.i .i64))]), .ref (.clo 187 [.ref (.ty Ty.str), .ref (.ty (Ty.i .i64)), .ref (.ty (Ty.i .i64))])] (.one Ty.bool) fun a => F_prepare_Seen_Accepts_1_c157_c187 a.1 a.2.1.1 a.2.1.2.1 a.2.1.2.2.1 a.2.2.1.1 a.2.2.1.2.1 a.2.2.1.2.2.1, fnS (K := K) sa_prepare_Seen_Accepts_1_c157_c187 13 [.tmp 4] [k_commit_ready_1, k_commit_accepts_1] ⟨Tryz.f185, [], Tryz.func185, rfl, by kernel_rfl, by kernel_rfl, by kernel_rfl⟩ (by kernel_rfl) (by decide) (by kernel_rfl)⟩

/-! ### (trustquorum/prepare.Seen).Who -/
def sa_prepare_Seen_Who_c185_c157_c187 : SA U :=
 (.seq
 (.reg
 (op 2 (.box (tm 0))
 (op 4 (.mov (ci 0))
 .nil)))
 (.seq
 (.reg
 (op 5 (.mov (ci 0))
 .nil))
 (.seq
 (.seq
 (.reg
 (op 8 (.faddr 2 (tm 2))
 (op 9 (.load none (tm 8))
 (op 10 (.len false (tm 9))
 (op 11 (.mov (ci 0))
 .nil)))))
 (.block 0
 (.loop ⟨[.val 5 (Ty.i .i64), .val 11 (Ty.i .i64)], [1, 9, 10]⟩
 (.seq
 (.reg
 (op 12 (.bin .lss (tm 11) (tm 10))
 .nil))
 (.seq
 (.cond (tm 12)
 .skip
 (.exit 0))
 (.join ⟨[.val 5 (Ty.i .i64)], [1, 9, 10, 11]⟩
 (.block 1
 (.seq
 (.reg
 (op 13 (.iaddr 15 (tm 9) (tm 11))
 (op 14 (.load (some 15) (tm 13))
 (op 7 (.alloc [.int .i64 0, .int .i64 0, .int .i64 0, .int .i64 0, .nils, .nils, .int .i64 0, .int .i64 0, .str ⟨#[]⟩, .int .i64 0, .str ⟨#[]⟩, .int .i64 0, .str ⟨#[]⟩, .int .i64 0, .int .i64 0])
 (ops (.store 15 (tm 7) (tm 14))
 .nil)))))
 (.seq
 (.reg
 (op 15 (.mov (tm 1))
 (op 16 (.load (some 15) (tm 7))
 (op 17 (.callv (tm 15) [(tm 16)])
 .nil))))
 (.cond (tm 17)
 (.reg
 (op 18 (.mov (tm 5))
 (op 19 (.faddr 0 (tm 7))
 (op 20 (.faddr 0 (tm 19))
 (op 21 (.load none (tm 20))
 (op 22 (.bin .shl (ci 1) (tm 21))
 (op 23 (.bin .or (tm 18) (tm 22))
 (op 5 (.mov (tm 23))
 .nil))))))))
 .skip))))
 (.reg
 (op 24 (.bin .add (tm 11) (ci 1))
 (op 11 (.mov (tm 24))
 .nil)))))))))
 (.seq
 (.reg
 (op 25 (.mov (tm 5))
 (op 4 (.mov (tm 25))
 .nil)))
 .ret))))
noncomputable def F_prepare_Seen_Who_c185_c157_c187 (a0 : TSeen) (a1 : ByteArray) (a2 : Int) (a3 : Int) (a4 : ByteArray) (a5 : Int) (a6 : Int) : Option Int :=
 loopO (fun (v1 : Int × Int × Unit) =>
 bif (decide (v1.2.1 < ((List.length a0.Heard : Nat) : Int))) then
 letJ (fun (v2 : Int × Unit) =>
 some (Sum.inl (v2.1, (addI .i64 v1.2.1 (1 : Int)), ()))) fun j3 =>
 Option.bind (idx a0.Heard v1.2.1) fun x4 =>
 Option.bind (F_prepare_Seen_Accepts_1_c157_c187 (TRight.mk (TEnvelope.mk x4.Envelope.Node x4.Envelope.Slot x4.Envelope.Seq (TTrust.mk x4.Envelope.Trust.Threshold x4.Envelope.Trust.Nodes x4.Envelope.Trust.Inner) x4.Envelope.Kind x4.Envelope.Ballot x4.Envelope.Prepared x4.Envelope.Prime x4.Envelope.Low x4.Envelope.High)) a1 a2 a3 a4 a5 a6) fun r5 =>
 bif r5 then
 if x4.Envelope.Node < 0 then none else
 j3 ((orI .i64 v1.1 (shlI .i64 (1 : Int) x4.Envelope.Node)), ())
 else
 j3 (v1.1, ())
 else
 Option.map Sum.inr (some v1.1)) ((0 : Int), (0 : Int), ())
noncomputable def k_prepare_Seen_Who_c185_c157_c187 : KS U Tryz.prog := ⟨.fn 163 [.ty (Ty.st .Seen), .clo 185 [.ref (.clo 157 [.ref (.ty Ty.str), .ref (.ty (Ty.i .i64)), .ref (.ty (Ty.i .i64))]), .ref (.clo 187 [.ref (.ty Ty.str), .ref (.ty (Ty.i .i64)), .ref (.ty (Ty.i .i64))])]] (.one (Ty.i .i64)) fun a => F_prepare_Seen_Who_c185_c157_c187 a.1 a.2.1.1.1 a.2.1.1.2.1 a.2.1.1.2.2.1 a.2.1.2.1.1 a.2.1.2.1.2.1 a.2.1.2.1.2.2.1, fnS (K := K) sa_prepare_Seen_Who_c185_c157_c187 26 [.tmp 4] [k_prepare_Seen_Accepts_1_c157_c187] ⟨Tryz.f163, [], Tryz.func163, rfl, by kernel_rfl, by kernel_rfl, by kernel_rfl⟩ (by kernel_rfl) (by decide) (by kernel_rfl)⟩

/-! ### (trustquorum/prepare.Seen).Who -/
def sa_prepare_Seen_Who_c187 : SA U :=
 (.seq
 (.reg
 (op 2 (.box (tm 0))
 (op 4 (.mov (ci 0))
 .nil)))
 (.seq
 (.reg
 (op 5 (.mov (ci 0))
 .nil))
 (.seq
 (.seq
 (.reg
 (op 8 (.faddr 2 (tm 2))
 (op 9 (.load none (tm 8))
 (op 10 (.len false (tm 9))
 (op 11 (.mov (ci 0))
 .nil)))))
 (.block 0
 (.loop ⟨[.val 5 (Ty.i .i64), .val 11 (Ty.i .i64)], [1, 9, 10]⟩
 (.seq
 (.reg
 (op 12 (.bin .lss (tm 11) (tm 10))
 .nil))
 (.seq
 (.cond (tm 12)
 .skip
 (.exit 0))
 (.join ⟨[.val 5 (Ty.i .i64)], [1, 9, 10, 11]⟩
 (.block 1
 (.seq
 (.reg
 (op 13 (.iaddr 15 (tm 9) (tm 11))
 (op 14 (.load (some 15) (tm 13))
 (op 7 (.alloc [.int .i64 0, .int .i64 0, .int .i64 0, .int .i64 0, .nils, .nils, .int .i64 0, .int .i64 0, .str ⟨#[]⟩, .int .i64 0, .str ⟨#[]⟩, .int .i64 0, .str ⟨#[]⟩, .int .i64 0, .int .i64 0])
 (ops (.store 15 (tm 7) (tm 14))
 .nil)))))
 (.seq
 (.reg
 (op 15 (.mov (tm 1))
 (op 16 (.load (some 15) (tm 7))
 (op 17 (.callv (tm 15) [(tm 16)])
 .nil))))
 (.cond (tm 17)
 (.reg
 (op 18 (.mov (tm 5))
 (op 19 (.faddr 0 (tm 7))
 (op 20 (.faddr 0 (tm 19))
 (op 21 (.load none (tm 20))
 (op 22 (.bin .shl (ci 1) (tm 21))
 (op 23 (.bin .or (tm 18) (tm 22))
 (op 5 (.mov (tm 23))
 .nil))))))))
 .skip))))
 (.reg
 (op 24 (.bin .add (tm 11) (ci 1))
 (op 11 (.mov (tm 24))
 .nil)))))))))
 (.seq
 (.reg
 (op 25 (.mov (tm 5))
 (op 4 (.mov (tm 25))
 .nil)))
 .ret))))
noncomputable def F_prepare_Seen_Who_c187 (a0 : TSeen) (a1 : ByteArray) (a2 : Int) (a3 : Int) : Option Int :=
 loopO (fun (v1 : Int × Int × Unit) =>
 bif (decide (v1.2.1 < ((List.length a0.Heard : Nat) : Int))) then
 letJ (fun (v2 : Int × Unit) =>
 some (Sum.inl (v2.1, (addI .i64 v1.2.1 (1 : Int)), ()))) fun j3 =>
 Option.bind (idx a0.Heard v1.2.1) fun x4 =>
 Option.bind (F_commit_accepts_1 (TRight.mk (TEnvelope.mk x4.Envelope.Node x4.Envelope.Slot x4.Envelope.Seq (TTrust.mk x4.Envelope.Trust.Threshold x4.Envelope.Trust.Nodes x4.Envelope.Trust.Inner) x4.Envelope.Kind x4.Envelope.Ballot x4.Envelope.Prepared x4.Envelope.Prime x4.Envelope.Low x4.Envelope.High)) a1 a2 a3) fun r5 =>
 bif r5 then
 if x4.Envelope.Node < 0 then none else
 j3 ((orI .i64 v1.1 (shlI .i64 (1 : Int) x4.Envelope.Node)), ())
 else
 j3 (v1.1, ())
 else
 Option.map Sum.inr (some v1.1)) ((0 : Int), (0 : Int), ())
noncomputable def k_prepare_Seen_Who_c187 : KS U Tryz.prog := ⟨.fn 163 [.ty (Ty.st .Seen), .clo 187 [.ref (.ty Ty.str), .ref (.ty (Ty.i .i64)), .ref (.ty (Ty.i .i64))]] (.one (Ty.i .i64)) fun a => F_prepare_Seen_Who_c187 a.1 a.2.1.1 a.2.1.2.1 a.2.1.2.2.1, fnS (K := K) sa_prepare_Seen_Who_c187 26 [.tmp 4] [k_commit_accepts_1] ⟨Tryz.f163, [], Tryz.func163, rfl, by kernel_rfl, by kernel_rfl, by kernel_rfl⟩ (by kernel_rfl) (by decide) (by kernel_rfl)⟩

/-! ### trustquorum/configuration.Declared -/
def sa_configuration_Declared : SA U :=
 (.seq
 (.reg
 (op 1 (.box (tm 0))
 (op 2 (.mov (ci 0))
 .nil)))
 (.seq
 (.reg
 (op 3 (.mov (ci 0))
 .nil))
 (.seq
 (.seq
 (.reg
 (op 6 (.faddr 0 (tm 1))
 (op 7 (.load none (tm 6))
 (op 8 (.len false (tm 7))
 (op 9 (.mov (ci 0))
 .nil)))))
 (.block 0
 (.loop ⟨[.val 3 (Ty.i .i64), .val 9 (Ty.i .i64)], [7, 8]⟩
 (.seq
 (.reg
 (op 10 (.bin .lss (tm 9) (tm 8))
 .nil))
 (.seq
 (.cond (tm 10)
 .skip
 (.exit 0))
 (.join ⟨[.val 3 (Ty.i .i64)], [7, 8, 9]⟩
 (.block 1
 (.seq
 (.reg
 (op 11 (.mov (tm 9))
 (op 12 (.iaddr 4 (tm 7) (tm 9))
 (op 13 (.load (some 4) (tm 12))
 (op 5 (.alloc [.bool false, .int .i64 0, .nils, .nils])
 (op 4 (.mov (tm 11))
 (ops (.store 4 (tm 5) (tm 13))
 .nil)))))))
 (.seq
 (.reg
 (op 14 (.faddr 0 (tm 5))
 (op 15 (.load none (tm 14))
 (op 16 (.mov (tm 15))
 (.ite 16 true
 (opg 17 16 true (.mov (tm 4))
 (opg 18 16 true (.bin .lss (tm 17) (ci 10))
 .nil))
 19 none (tm 18) (.cst (.bool false))
 .nil)))))
 (.cond (tm 19)
 (.reg
 (op 20 (.mov (tm 3))
 (op 21 (.mov (tm 4))
 (op 22 (.bin .shl (ci 1) (tm 21))
 (op 23 (.bin .or (tm 20) (tm 22))
 (op 3 (.mov (tm 23))
 .nil))))))
 .skip))))
 (.reg
 (op 24 (.bin .add (tm 9) (ci 1))
 (op 9 (.mov (tm 24))
 .nil)))))))))
 (.seq
 (.reg
 (op 25 (.mov (tm 3))
 (op 2 (.mov (tm 25))
 .nil)))
 .ret))))
noncomputable def F_configuration_Declared (a0 : TConfig) : Option Int :=
 loopO (fun (v1 : Int × Int × Unit) =>
 bif (decide (v1.2.1 < ((List.length a0.Members : Nat) : Int))) then
 letJ (fun (v2 : Int × Unit) =>
 some (Sum.inl (v2.1, (addI .i64 v1.2.1 (1 : Int)), ()))) fun j3 =>
 Option.bind (idx a0.Members v1.2.1) fun x4 =>
 Option.bind (bif x4.Declared then
 some (decide (v1.2.1 < (10 : Int)))
 else some false) fun b5 =>
 bif b5 then
 if v1.2.1 < 0 then none else
 j3 ((orI .i64 v1.1 (shlI .i64 (1 : Int) v1.2.1)), ())
 else
 j3 (v1.1, ())
 else
 Option.map Sum.inr (some v1.1)) ((0 : Int), (0 : Int), ())
noncomputable def k_configuration_Declared : KS U Tryz.prog := ⟨.fn 244 [.ty (Ty.st .Config)] (.one (Ty.i .i64)) fun a => F_configuration_Declared a.1, fnS (K := K) sa_configuration_Declared 26 [.tmp 2] [] ⟨Tryz.f244, [], Tryz.func244, rfl, by kernel_rfl, by kernel_rfl, by kernel_rfl⟩ (by kernel_rfl) (by decide) (by kernel_rfl)⟩

/-! ### trustquorum/threshold.Satisfied -/
def sa_threshold_Satisfied : SA U :=
 (.seq
 (.reg
 (op 2 (.box (tm 0))
 (op 4 (.mov (.cst (.bool false)))
 .nil)))
 (.seq
 (.seq
 (.reg
 (op 10 (.mov (tm 1))
 (op 11 (.call 226 [(tm 10)])
 (op 12 (.not (tm 11))
 .nil))))
 (.cond (tm 12)
 (.seq
 (.reg
 (op 4 (.mov (.cst (.bool false)))
 .nil))
 .ret)
 .skip))
 (.seq
 (.reg
 (op 5 (.mov (ci 0))
 .nil))
 (.seq
 (.seq
 (.reg
 (op 13 (.faddr 1 (tm 2))
 (op 14 (.load none (tm 13))
 (op 15 (.len false (tm 14))
 (op 16 (.mov (ci 0))
 .nil)))))
 (.block 0
 (.loop ⟨[.val 5 (Ty.i .i64), .val 16 (Ty.i .i64)], [1, 2, 14, 15]⟩
 (.seq
 (.reg
 (op 17 (.bin .lss (tm 16) (tm 15))
 .nil))
 (.seq
 (.cond (tm 17)
 .skip
 (.exit 0))
 (.join ⟨[.val 5 (Ty.i .i64)], [1, 2, 14, 15, 16]⟩
 (.block 1
 (.seq
 (.reg
 (op 18 (.iaddr 1 (tm 14) (tm 16))
 (op 19 (.load none (tm 18))
 (op 7 (.mov (tm 19))
 .nil))))
 (.seq
 (.reg
 (op 20 (.mov (tm 1))
 (op 21 (.mov (tm 7))
 (op 22 (.call 188 [(tm 20), (tm 21)])
 .nil))))
 (.cond (tm 22)
 (.reg
 (op 23 (.mov (tm 5))
 (op 24 (.bin .add (tm 23) (ci 1))
 (op 5 (.mov (tm 24))
 .nil))))
 .skip))))
 (.reg
 (op 25 (.bin .add (tm 16) (ci 1))
 (op 16 (.mov (tm 25))
 .nil)))))))))
 (.seq
 (.seq
 (.reg
 (op 26 (.faddr 2 (tm 2))
 (op 27 (.load none (tm 26))
 (op 28 (.len false (tm 27))
 (op 29 (.mov (ci 0))
 .nil)))))
 (.block 2
 (.loop ⟨[.val 5 (Ty.i .i64), .val 29 (Ty.i .i64)], [1, 2, 27, 28]⟩
 (.seq
 (.reg
 (op 30 (.bin .lss (tm 29) (tm 28))
 .nil))
 (.seq
 (.cond (tm 30)
 .skip
 (.exit 2))
 (.join ⟨[.val 5 (Ty.i .i64)], [1, 2, 27, 28, 29]⟩
 (.block 3
 (.seq
 (.reg
 (op 31 (.iaddr 3 (tm 27) (tm 29))
 (op 32 (.load (some 3) (tm 31))
 (op 9 (.alloc [.int .i64 0, .nils, .nils])
 (ops (.store 3 (tm 9) (tm 32))
 .nil)))))
 (.seq
 (.reg
 (op 33 (.load (some 3) (tm 9))
 (op 34 (.mov (tm 1))
 (op 35 (.call 245 [(tm 33), (tm 34)])
 .nil))))
 (.cond (tm 35)
 (.reg
 (op 36 (.mov (tm 5))
 (op 37 (.bin .add (tm 36) (ci 1))
 (op 5 (.mov (tm 37))
 .nil))))
 .skip))))
 (.reg
 (op 38 (.bin .add (tm 29) (ci 1))
 (op 29 (.mov (tm 38))
 .nil)))))))))
 (.seq
 (.reg
 (op 39 (.mov (tm 5))
 (op 40 (.faddr 0 (tm 2))
 (op 41 (.load none (tm 40))
 (op 42 (.bin .geq (tm 39) (tm 41))
 (op 4 (.mov (tm 42))
 .nil))))))
 .ret))))))
noncomputable def B_threshold_Satisfied (rec : (TTrust × Int × Unit) → Option Bool) (a0 : TTrust) (a1 : Int) : Option Bool :=
 Option.bind (F_nodeset_Valid a1) fun r1 =>
 bif (!r1) then
 some false
 else
 loopO (fun (v2 : Int × Int × Unit) =>
 bif (decide (v2.2.1 < ((List.length a0.Nodes : Nat) : Int))) then
 letJ (fun (v3 : Int × Unit) =>
 some (Sum.inl (v3.1, (addI .i64 v2.2.1 (1 : Int)), ()))) fun j4 =>
 Option.bind (idx a0.Nodes v2.2.1) fun x5 =>
 Option.bind (F_nodeset_Has a1 x5) fun r6 =>
 bif r6 then
 j4 ((addI .i64 v2.1 (1 : Int)), ())
 else
 j4 (v2.1, ())
 else
 Option.map Sum.inr (loopO (fun (v7 : Int × Int × Unit) =>
 bif (decide (v7.2.1 < ((List.length a0.Inner : Nat) : Int))) then
 letJ (fun (v8 : Int × Unit) =>
 some (Sum.inl (v8.1, (addI .i64 v7.2.1 (1 : Int)), ()))) fun j9 =>
 Option.bind (idx a0.Inner v7.2.1) fun x10 =>
 Option.bind (rec ((TTrust.mk x10.Threshold x10.Nodes x10.Inner), a1, ())) fun r11 =>
 bif r11 then
 j9 ((addI .i64 v7.1 (1 : Int)), ())
 else
 j9 (v7.1, ())
 else
 Option.map Sum.inr (some (decide (a0.Threshold ≤ v7.1)))) (v2.1, (0 : Int), ()))) ((0 : Int), (0 : Int), ())
noncomputable def I_threshold_Satisfied : Nat → (TTrust × Int × Unit) → Option Bool := iterF (fun rec a => B_threshold_Satisfied rec a.1 a.2.1)
noncomputable def F_threshold_Satisfied (a0 : TTrust) (a1 : Int) : Option Bool := I_threshold_Satisfied (SizeOf.sizeOf a0 + SizeOf.sizeOf a1 + 1) (a0, a1, ())
noncomputable def k_threshold_Satisfied : KS U Tryz.prog := ⟨.fn 245 [.ty (Ty.st .Trust), .ty (Ty.i .i64)] (.one Ty.bool) fun a => F_threshold_Satisfied a.1 a.2.1, fnRS (K := K) («as» := [.ty (Ty.st .Trust), .ty (Ty.i .i64)]) (r := .one Ty.bool) (B := fun rec a => B_threshold_Satisfied rec a.1 a.2.1) sa_threshold_Satisfied 43 [.tmp 4] [k_nodeset_Valid, k_nodeset_Has] ⟨Tryz.f245, [], Tryz.func245, rfl, by kernel_rfl, by kernel_rfl, by kernel_rfl⟩ (by kernel_rfl) (by decide) (by kernel_rfl) fun a => ⟨_, rfl⟩⟩

/-! ### trustquorum/blocking.Blocks -/
def sa_blocking_Blocks : SA U :=
 (.seq
 (.reg
 (op 3 (.box (tm 0))
 (op 6 (.mov (.cst (.bool false)))
 .nil)))
 (.seq
 (.seq
 (.reg
 (op 7 (.mov (tm 2))
 (op 8 (.call 226 [(tm 7)])
 (op 9 (.not (tm 8))
 (op 10 (.mov (tm 9))
 (.ite 10 false
 (opg 11 10 false (.load (some 1) (tm 3))
 (opg 12 10 false (.call 244 [(tm 11)])
 (opg 13 10 false (.mov (tm 1))
 (opg 14 10 false (.call 188 [(tm 12), (tm 13)])
 (opg 15 10 false (.not (tm 14))
 .nil)))))
 16 none (.cst (.bool true)) (tm 15)
 .nil))))))
 (.cond (tm 16)
 (.seq
 (.reg
 (op 6 (.mov (.cst (.bool false)))
 .nil))
 .ret)
 .skip))
 (.seq
 (.drw []
 (op 17 (.faddr 0 (tm 3))
 (op 18 (.load none (tm 17))
 (op 19 (.mov (tm 1))
 (op 20 (.iaddr 4 (tm 18) (tm 19))
 (op 21 (.faddr 1 (tm 20))
 (op 22 (.load (some 3) (tm 21))
 (op 23 (.mov (tm 2))
 (op 24 (.bin .andNot (ci 1023) (tm 23))
 (op 25 (.mov (tm 1))
 (op 26 (.bin .shl (ci 1) (tm 25))
 (op 27 (.bin .or (tm 24) (tm 26))
 (op 28 (.call 245 [(tm 22), (tm 27)])
 (op 29 (.not (tm 28))
 (op 6 (.mov (tm 29))
 .nil)))))))))))))))
 .ret)))
noncomputable def F_blocking_Blocks (a0 : TConfig) (a1 : Int) (a2 : Int) : Option Bool :=
 Option.bind (F_nodeset_Valid a2) fun r1 =>
 Option.bind (bif (!r1) then some true
 else
 Option.bind (F_configuration_Declared a0) fun r2 =>
 Option.bind (F_nodeset_Has r2 a1) fun r3 =>
 some (!r3)) fun b4 =>
 bif b4 then
 some false
 else
 Option.bind (idx a0.Members a1) fun x5 =>
 if a1 < 0 then none else
 Option.bind (F_threshold_Satisfied (TTrust.mk x5.Trust.Threshold x5.Trust.Nodes x5.Trust.Inner) (orI .i64 (andNotI .i64 (1023 : Int) a2) (shlI .i64 (1 : Int) a1))) fun r6 =>
 some (!r6)
noncomputable def k_blocking_Blocks : KS U Tryz.prog := ⟨.fn 227 [.ty (Ty.st .Config), .ty (Ty.i .i64), .ty (Ty.i .i64)] (.one Ty.bool) fun a => F_blocking_Blocks a.1 a.2.1 a.2.2.1, fnS (K := K) sa_blocking_Blocks 30 [.tmp 6] [k_nodeset_Valid, k_configuration_Declared, k_nodeset_Has, k_threshold_Satisfied] ⟨Tryz.f227, [], Tryz.func227, rfl, by kernel_rfl, by kernel_rfl, by kernel_rfl⟩ (by kernel_rfl) (by decide) (by kernel_rfl)⟩

/-! ### trustquorum/nodeset.Nodes -/
def sa_nodeset_Nodes : SA U :=
 (.seq
 (.reg
 (op 2 (.mov (.cst (.nils)))
 .nil))
 (.seq
 (.reg
 (op 3 (.mov (.cst (.nils)))
 .nil))
 (.seq
 (.seq
 (.reg
 (op 5 (.mov (ci 0))
 .nil))
 (.block 0
 (.ps (.own 3 3 1 (Ty.i .i64))
 (.loop ⟨[.val 5 (Ty.i .i64), .own 3 3 1 3 1 (Ty.i .i64)], [0]⟩
 (.seq
 (.reg
 (op 6 (.bin .lss (tm 5) (ci 10))
 .nil))
 (.seq
 (.cond (tm 6)
 .skip
 (.exit 0))
 (.join ⟨[.own 3 3 1 3 1 (Ty.i .i64)], [0, 5]⟩
 (.block 1
 (.seq
 (.reg
 (op 7 (.mov (tm 5))
 (op 4 (.mov (tm 7))
 .nil)))
 (.seq
 (.reg
 (op 8 (.mov (tm 0))
 (op 9 (.mov (tm 4))
 (op 10 (.call 188 [(tm 8), (tm 9)])
 .nil))))
 (.cond (tm 10)
 (.reg
 (op 11 (.mov (tm 3))
 (op 12 (.mov (tm 4))
 (op 13 (.bsl false 3 1 (List.replicate 1 [.int .i64 0]) [(0, (tm 12))])
 (op 14 (.app 3 1 8 (tm 11) (tm 13))
 (op 3 (.mov (tm 14))
 .nil))))))
 .skip))))
 (.reg
 (op 15 (.bin .add (tm 5) (ci 1))
 (op 5 (.mov (tm 15))
 .nil))))))))))
 (.seq
 (.reg
 (op 16 (.mov (tm 3))
 (op 2 (.mov (tm 16))
 .nil)))
 .ret))))
noncomputable def F_nodeset_Nodes (a0 : Int) : Option (List Int) :=
 loopO (fun (v1 : Int × (List Int) × Unit) =>
 bif (decide (v1.1 < (10 : Int))) then
 letJ (fun (v2 : (List Int) × Unit) =>
 some (Sum.inl ((addI .i64 v1.1 (1 : Int)), v2.1, ()))) fun j3 =>
 Option.bind (F_nodeset_Has a0 v1.1) fun r4 =>
 bif r4 then
 bif lenOk 8 (List.length v1.2.1 + List.length [v1.1]) then
 j3 ((v1.2.1 ++ [v1.1]), ())
 else none
 else
 j3 (v1.2.1, ())
 else
 Option.map Sum.inr (some v1.2.1)) ((0 : Int), ([] : List Int), ())
noncomputable def k_nodeset_Nodes : KS U Tryz.prog := ⟨.fn 250 [.ty (Ty.i .i64)] (.one (Ty.sl (Ty.i .i64))) fun a => F_nodeset_Nodes a.1, fnS (K := K) sa_nodeset_Nodes 17 [.tmp 2] [k_nodeset_Has] ⟨Tryz.f250, [], Tryz.func250, rfl, by kernel_rfl, by kernel_rfl, by kernel_rfl⟩ (by kernel_rfl) (by decide) (by kernel_rfl)⟩

/-! ### trustquorum/closure.content -/
def sa_closure_content : SA U :=
 (.seq
 (.reg
 (op 3 (.box (tm 0))
 (op 6 (.mov (.cst (.bool false)))
 .nil)))
 (.seq
 (.reg
 (op 7 (.faddr 0 (tm 3))
 (op 8 (.load none (tm 7))
 (op 9 (.mov (tm 1))
 (op 10 (.iaddr 4 (tm 8) (tm 9))
 (op 11 (.faddr 1 (tm 10))
 (op 12 (.load (some 3) (tm 11))
 (op 13 (.mov (tm 2))
 (op 14 (.call 245 [(tm 12), (tm 13)])
 (op 6 (.mov (tm 14))
 .nil))))))))))
 .ret))
noncomputable def F_closure_content (a0 : TConfig) (a1 : Int) (a2 : Int) : Option Bool :=
 Option.bind (idx a0.Members a1) fun x1 =>
 Option.bind (F_threshold_Satisfied (TTrust.mk x1.Trust.Threshold x1.Trust.Nodes x1.Trust.Inner) a2) fun r2 =>
 some r2
noncomputable def k_closure_content : KS U Tryz.prog := ⟨.fn 251 [.ty (Ty.st .Config), .ty (Ty.i .i64), .ty (Ty.i .i64)] (.one Ty.bool) fun a => F_closure_content a.1 a.2.1 a.2.2.1, fnS (K := K) sa_closure_content 15 [.tmp 6] [k_threshold_Satisfied] ⟨Tryz.f251, [], Tryz.func251, rfl, by kernel_rfl, by kernel_rfl, by kernel_rfl⟩ (by kernel_rfl) (by decide) (by kernel_rfl)⟩

/-! ### trustquorum/closure.unhappy -/
def sa_closure_unhappy : SA U :=
 (.seq
 (.reg
 (op 2 (.box (tm 0))
 (op 4 (.mov (ci 0))
 (op 5 (.mov (.cst (.bool false)))
 .nil))))
 (.seq
 (.seq
 (.reg
 (op 8 (.mov (tm 1))
 (op 9 (.call 250 [(tm 8)])
 (op 10 (.len false (tm 9))
 (op 11 (.mov (ci 0))
 .nil)))))
 (.block 0
 (.loop ⟨[.val 11 (Ty.i .i64)], [1, 2, 9, 10]⟩
 (.seq
 (.reg
 (op 12 (.bin .lss (tm 11) (tm 10))
 .nil))
 (.seq
 (.cond (tm 12)
 .skip
 (.exit 0))
 (.seq
 (.block 1
 (.seq
 (.reg
 (op 13 (.iaddr 1 (tm 9) (tm 11))
 (op 14 (.load none (tm 13))
 (op 7 (.mov (tm 14))
 .nil))))
 (.seq
 (.reg
 (op 15 (.load (some 1) (tm 2))
 (op 16 (.mov (tm 7))
 (op 17 (.mov (tm 1))
 (op 18 (.call 251 [(tm 15), (tm 16), (tm 17)])
 (op 19 (.not (tm 18))
 .nil))))))
 (.cond (tm 19)
 (.seq
 (.reg
 (op 20 (.mov (tm 7))
 (op 4 (.mov (tm 20))
 (op 5 (.mov (.cst (.bool true)))
 .nil))))
 .ret)
 .skip))))
 (.reg
 (op 21 (.bin .add (tm 11) (ci 1))
 (op 11 (.mov (tm 21))
 .nil)))))))))
 (.seq
 (.reg
 (op 4 (.mov (ci 0))
 (op 5 (.mov (.cst (.bool false)))
 .nil)))
 .ret)))
noncomputable def F_closure_unhappy (a0 : TConfig) (a1 : Int) : Option (Int × Bool × Unit) :=
 Option.bind (F_nodeset_Nodes a1) fun r1 =>
 loopO (fun (v2 : Int × Unit) =>
 bif (decide (v2.1 < ((List.length r1 : Nat) : Int))) then
 Option.bind (idx r1 v2.1) fun x3 =>
 Option.bind (F_closure_content a0 x3 a1) fun r4 =>
 bif (!r4) then
 Option.map Sum.inr (some (x3, true, ()))
 else
 some (Sum.inl ((addI .i64 v2.1 (1 : Int)), ()))
 else
 Option.map Sum.inr (some ((0 : Int), false, ()))) ((0 : Int), ())
noncomputable def k_closure_unhappy : KS U Tryz.prog := ⟨.fn 246 [.ty (Ty.st .Config), .ty (Ty.i .i64)] (.many [(Ty.i .i64), Ty.bool]) fun a => F_closure_unhappy a.1 a.2.1, fnS (K := K) sa_closure_unhappy 22 [.tmp 4, .tmp 5] [k_nodeset_Nodes, k_closure_content] ⟨Tryz.f246, [], Tryz.func246, rfl, by kernel_rfl, by kernel_rfl, by kernel_rfl⟩ (by kernel_rfl) (by decide) (by kernel_rfl)⟩

/-! ### trustquorum/closure.eliminate -/
def sa_closure_eliminate : SA U :=
 (.seq
 (.reg
 (op 2 (.box (tm 0))
 (op 4 (.mov (ci 0))
 (op 5 (.mov (.cst (.nils)))
 .nil))))
 (.seq
 (.seq
 (.reg
 (op 9 (.mov (tm 1))
 (op 10 (.call 226 [(tm 9)])
 (op 11 (.not (tm 10))
 .nil))))
 (.cond (tm 11)
 (.seq
 (.reg
 (op 4 (.mov (ci 0))
 (op 5 (.mov (.cst (.nils)))
 .nil)))
 .ret)
 .skip))
 (.seq
 (.reg
 (op 6 (.mov (.cst (.nils)))
 .nil))
 (.seq
 (.reg
 (op 12 (.mov (tm 1))
 (op 13 (.load (some 1) (tm 2))
 (op 14 (.call 244 [(tm 13)])
 (op 15 (.bin .and (tm 12) (tm 14))
 (op 1 (.mov (tm 15))
 .nil))))))
 (.block 0
 (.ps (.own 6 3 1 (Ty.i .i64))
 (.loop ⟨[.val 1 (Ty.i .i64), .own 6 12 1 3 1 (Ty.i .i64)], [2]⟩
 (.block 1
 (.seq
 (.reg
 (op 17 (.load (some 1) (tm 2))
 (op 18 (.mov (tm 1))
 (op 19 (.call 246 [(tm 17), (tm 18)])
 (op 16 (.mov (tm 19))
 (op 20 (.extr 0 (tm 16))
 (op 21 (.extr 1 (tm 16))
 (op 7 (.mov (tm 20))
 (op 8 (.mov (tm 21))
 .nil)))))))))
 (.seq
 (.seq
 (.reg
 (op 22 (.mov (tm 8))
 (op 23 (.not (tm 22))
 .nil)))
 (.cond (tm 23)
 (.seq
 (.reg
 (op 24 (.mov (tm 1))
 (op 25 (.mov (tm 6))
 (op 4 (.mov (tm 24))
 (op 5 (.mov (tm 25))
 .nil)))))
 .ret)
 .skip))
 (.seq
 (.reg
 (op 26 (.mov (tm 6))
 (op 27 (.mov (tm 7))
 (op 28 (.bsl false 3 1 (List.replicate 1 [.int .i64 0]) [(0, (tm 27))])
 (op 29 (.app 3 1 8 (tm 26) (tm 28))
 (op 6 (.mov (tm 29))
 .nil))))))
 (.reg
 (op 30 (.mov (tm 1))
 (op 31 (.mov (tm 7))
 (op 32 (.bin .shl (ci 1) (tm 31))
 (op 33 (.bin .andNot (tm 30) (tm 32))
 (op 1 (.mov (tm 33))
 .nil)))))))))))))))))
noncomputable def F_closure_eliminate (a0 : TConfig) (a1 : Int) : Option (Int × (List Int) × Unit) :=
 Option.bind (F_nodeset_Valid a1) fun r1 =>
 bif (!r1) then
 some ((0 : Int), ([] : List Int), ())
 else
 Option.bind (F_configuration_Declared a0) fun r2 =>
 loopO (fun (v3 : Int × (List Int) × Unit) =>
 Option.bind (F_closure_unhappy a0 v3.1) fun r4 =>
 bif (!r4.2.1) then
 Option.map Sum.inr (some (v3.1, v3.2.1, ()))
 else
 bif lenOk 8 (List.length v3.2.1 + List.length [r4.1]) then
 if r4.1 < 0 then none else
 some (Sum.inl ((andNotI .i64 v3.1 (shlI .i64 (1 : Int) r4.1)), (v3.2.1 ++ [r4.1]), ()))
 else none) ((andI .i64 a1 r2), ([] : List Int), ())
noncomputable def k_closure_eliminate : KS U Tryz.prog := ⟨.fn 228 [.ty (Ty.st .Config), .ty (Ty.i .i64)] (.many [(Ty.i .i64), (Ty.sl (Ty.i .i64))]) fun a => F_closure_eliminate a.1 a.2.1, fnS (K := K) sa_closure_eliminate 34 [.tmp 4, .tmp 5] [k_nodeset_Valid, k_configuration_Declared, k_closure_unhappy] ⟨Tryz.f228, [], Tryz.func228, rfl, by kernel_rfl, by kernel_rfl, by kernel_rfl⟩ (by kernel_rfl) (by decide) (by kernel_rfl)⟩

/-! ### trustquorum/closure.Greatest -/
def sa_closure_Greatest : SA U :=
 (.seq
 (.reg
 (op 2 (.box (tm 0))
 (op 4 (.mov (ci 0))
 .nil)))
 (.seq
 (.reg
 (op 8 (.load (some 1) (tm 2))
 (op 9 (.mov (tm 1))
 (op 10 (.call 228 [(tm 8), (tm 9)])
 (op 7 (.mov (tm 10))
 (op 11 (.extr 0 (tm 7))
 (op 12 (.extr 1 (tm 7))
 (op 5 (.mov (tm 11))
 (op 6 (.mov (tm 12))
 .nil)))))))))
 (.seq
 (.reg
 (op 13 (.mov (tm 5))
 (op 4 (.mov (tm 13))
 .nil)))
 .ret)))
noncomputable def F_closure_Greatest (a0 : TConfig) (a1 : Int) : Option Int :=
 Option.bind (F_closure_eliminate a0 a1) fun r1 =>
 some r1.1
noncomputable def k_closure_Greatest : KS U Tryz.prog := ⟨.fn 189 [.ty (Ty.st .Config), .ty (Ty.i .i64)] (.one (Ty.i .i64)) fun a => F_closure_Greatest a.1 a.2.1, fnS (K := K) sa_closure_Greatest 14 [.tmp 4] [k_closure_eliminate] ⟨Tryz.f189, [], Tryz.func189, rfl, by kernel_rfl, by kernel_rfl, by kernel_rfl⟩ (by kernel_rfl) (by decide) (by kernel_rfl)⟩

/-! ### trustquorum/federated.Accepts -/
def sa_federated_Accepts : SA U :=
 (.seq
 (.reg
 (op 4 (.box (tm 0))
 (op 8 (.mov (.cst (.bool false)))
 .nil)))
 (.seq
 (.seq
 (.reg
 (op 9 (.mov (tm 2))
 (op 10 (.call 226 [(tm 9)])
 (op 11 (.not (tm 10))
 (op 12 (.mov (tm 11))
 (.ite 12 false
 (opg 13 12 false (.mov (tm 3))
 (opg 14 12 false (.call 226 [(tm 13)])
 (opg 15 12 false (.not (tm 14))
 .nil)))
 16 none (.cst (.bool true)) (tm 15)
 .nil))))))
 (.cond (tm 16)
 (.seq
 (.reg
 (op 8 (.mov (.cst (.bool false)))
 .nil))
 .ret)
 .skip))
 (.seq
 (.reg
 (op 17 (.load (some 1) (tm 4))
 (op 18 (.mov (tm 1))
 (op 19 (.mov (tm 3))
 (op 20 (.call 227 [(tm 17), (tm 18), (tm 19)])
 (op 21 (.mov (tm 20))
 (.ite 21 false
 (opg 22 21 false (.load (some 1) (tm 4))
 (opg 23 21 false (.mov (tm 2))
 (opg 24 21 false (.mov (tm 3))
 (opg 25 21 false (.bin .or (tm 23) (tm 24))
 (opg 26 21 false (.call 189 [(tm 22), (tm 25)])
 (opg 27 21 false (.mov (tm 1))
 (opg 28 21 false (.call 188 [(tm 26), (tm 27)])
 .nil)))))))
 29 none (.cst (.bool true)) (tm 28)
 (op 8 (.mov (tm 29))
 .nil))))))))
 .ret)))
noncomputable def F_federated_Accepts (a0 : TConfig) (a1 : Int) (a2 : Int) (a3 : Int) : Option Bool :=
 Option.bind (F_nodeset_Valid a2) fun r1 =>
 Option.bind (bif (!r1) then some true
 else
 Option.bind (F_nodeset_Valid a3) fun r2 =>
 some (!r2)) fun b3 =>
 bif b3 then
 some false
 else
 Option.bind (F_blocking_Blocks a0 a1 a3) fun r4 =>
 Option.bind (bif r4 then some true
 else
 Option.bind (F_closure_Greatest a0 (orI .i64 a2 a3)) fun r5 =>
 Option.bind (F_nodeset_Has r5 a1) fun r6 =>
 some r6) fun b7 =>
 some b7
noncomputable def k_federated_Accepts : KS U Tryz.prog := ⟨.fn 186 [.ty (Ty.st .Config), .ty (Ty.i .i64), .ty (Ty.i .i64), .ty (Ty.i .i64)] (.one Ty.bool) fun a => F_federated_Accepts a.1 a.2.1 a.2.2.1 a.2.2.2.1, fnS (K := K) sa_federated_Accepts 30 [.tmp 8] [k_nodeset_Valid, k_blocking_Blocks, k_closure_Greatest, k_nodeset_Has] ⟨Tryz.f186, [], Tryz.func186, rfl, by kernel_rfl, by kernel_rfl, by kernel_rfl⟩ (by kernel_rfl) (by decide) (by kernel_rfl)⟩

/-! ### (trustquorum/prepare.Seen).Accepts -/
def sa_prepare_Seen_Accepts_c157_c187 : SA U :=
 (.seq
 (.reg
 (op 3 (.box (tm 0))
 (op 4 (.box (tm 1))
 (op 5 (.box (tm 2))
 (op 6 (.mov (.cst (.bool false)))
 .nil)))))
 (.seq
 (.reg
 (op 8 (.load (some 3) (tm 3))
 (op 9 (.mkf 185 [(tm 4), (tm 5)])
 (op 10 (.call 163 [(tm 8), (tm 9)])
 (op 7 (.mov (tm 10))
 .nil)))))
 (.seq
 (.drw [(0, 2), (1, 2), (0, 3), (1, 3), (0, 5), (1, 5), (2, 5), (3, 5), (0, 6), (1, 6), (2, 6), (3, 6), (5, 6), (0, 7), (1, 7), (2, 7), (3, 7)]
 (op 11 (.faddr 1 (tm 3))
 (op 12 (.load (some 1) (tm 11))
 (op 13 (.faddr 0 (tm 3))
 (op 14 (.load none (tm 13))
 (op 15 (.mov (tm 7))
 (op 16 (.load (some 3) (tm 3))
 (op 17 (.load none (tm 5))
 (op 18 (.call 163 [(tm 16), (tm 17)])
 (op 19 (.call 186 [(tm 12), (tm 14), (tm 15), (tm 18)])
 (op 6 (.mov (tm 19))
 .nil)))))))))))
 .ret)))
noncomputable def F_prepare_Seen_Accepts_c157_c187 (a0 : TSeen) (a1 : ByteArray) (a2 : Int) (a3 : Int) (a4 : ByteArray) (a5 : Int) (a6 : Int) : Option Bool :=
 Option.bind (F_prepare_Seen_Who_c185_c157_c187 a0 a1 a2 a3 a4 a5 a6) fun r1 =>
 Option.bind (F_prepare_Seen_Who_c187 a0 a4 a5 a6) fun r2 =>
 Option.bind (F_federated_Accepts a0.View a0.Node r1 r2) fun r3 =>
 some r3
noncomputable def k_prepare_Seen_Accepts_c157_c187 : KS U Tryz.prog := ⟨.fn 156 [.ty (Ty.st .Seen), .clo 157 [.ref (.ty Ty.str), .ref (.ty (Ty.i .i64)), .ref (.ty (Ty.i .i64))], .clo 187 [.ref (.ty Ty.str), .ref (.ty (Ty.i .i64)), .ref (.ty (Ty.i .i64))]] (.one Ty.bool) fun a => F_prepare_Seen_Accepts_c157_c187 a.1 a.2.1.1 a.2.1.2.1 a.2.1.2.2.1 a.2.2.1.1 a.2.2.1.2.1 a.2.2.1.2.2.1, fnS (K := K) sa_prepare_Seen_Accepts_c157_c187 20 [.tmp 6] [k_prepare_Seen_Who_c185_c157_c187, k_prepare_Seen_Who_c187, k_federated_Accepts] ⟨Tryz.f156, [], Tryz.func156, rfl, by kernel_rfl, by kernel_rfl, by kernel_rfl⟩ (by kernel_rfl) (by decide) (by kernel_rfl)⟩

/-! ### trustquorum/commit.ready -/
def sa_commit_ready : SA U :=
 (.seq
 (.reg
 (op 4 (.box (tm 0))
 (op 5 (.box (tm 1))
 (op 6 (.box (tm 2))
 (op 7 (.box (tm 3))
 (op 8 (.mov (.cst (.bool false)))
 .nil))))))
 (.seq
 (.drw [(0, 2), (0, 3), (2, 3), (0, 4), (2, 4), (3, 4), (0, 5)]
 (op 9 (.load (some 3) (tm 4))
 (op 10 (.mkf 157 [(tm 5), (tm 6), (tm 7)])
 (op 11 (.load none (tm 5))
 (op 12 (.load none (tm 6))
 (op 13 (.load none (tm 7))
 (op 14 (.call 158 [(tm 11), (tm 12), (tm 13)])
 (op 15 (.call 156 [(tm 9), (tm 10), (tm 14)])
 (op 8 (.mov (tm 15))
 .nil)))))))))
 .ret))
noncomputable def F_commit_ready (a0 : TSeen) (a1 : ByteArray) (a2 : Int) (a3 : Int) : Option Bool :=
 Option.bind (F_commit_accepts a1 a2 a3) fun r1 =>
 Option.bind (F_prepare_Seen_Accepts_c157_c187 a0 a1 a2 a3 r1.1 r1.2.1 r1.2.2.1) fun r2 =>
 some r2
noncomputable def k_commit_ready : KS U Tryz.prog := ⟨.fn 96 [.ty (Ty.st .Seen), .ty Ty.str, .ty (Ty.i .i64), .ty (Ty.i .i64)] (.one Ty.bool) fun a => F_commit_ready a.1 a.2.1 a.2.2.1 a.2.2.2.1, fnS (K := K) sa_commit_ready 16 [.tmp 8] [k_commit_accepts, k_prepare_Seen_Accepts_c157_c187] ⟨Tryz.f96, [], Tryz.func96, rfl, by kernel_rfl, by kernel_rfl, by kernel_rfl⟩ (by kernel_rfl) (by decide) (by kernel_rfl)⟩

/-! ### trustquorum/commit.Accepts -/
def sa_commit_Accepts : SA U :=
 (.seq
 (.reg
 (op 7 (.box (tm 1))
 (op 12 (.mov (.cst (.bool false)))
 .nil)))
 (.seq
 (.reg
 (op 13 (.mov (tm 0))
 (op 14 (.load (some 3) (tm 7))
 (op 15 (.mov (tm 2))
 (op 16 (.call 97 [(tm 13), (tm 14), (tm 15)])
 (op 17 (.mov (tm 3))
 (op 18 (.mov (tm 4))
 (op 19 (.mov (tm 5))
 (op 20 (.call 96 [(tm 16), (tm 17), (tm 18), (tm 19)])
 (op 12 (.mov (tm 20))
 .nil))))))))))
 .ret))
noncomputable def F_commit_Accepts (a0 : Int) (a1 : TTrust) (a2 : (List TEnvelope)) (a3 : ByteArray) (a4 : Int) (a5 : Int) : Option Bool :=
 Option.bind (F_prepare_Look a0 (TTrust.mk a1.Threshold a1.Nodes a1.Inner) a2) fun r1 =>
 Option.bind (F_commit_ready r1 a3 a4 a5) fun r2 =>
 some r2
noncomputable def k_commit_Accepts : KS U Tryz.prog := ⟨.fn 26 [.ty (Ty.i .i64), .ty (Ty.st .Trust), .ty (Ty.sl (Ty.st .Envelope)), .ty Ty.str, .ty (Ty.i .i64), .ty (Ty.i .i64)] (.one Ty.bool) fun a => F_commit_Accepts a.1 a.2.1 a.2.2.1 a.2.2.2.1 a.2.2.2.2.1 a.2.2.2.2.2.1, fnS (K := K) sa_commit_Accepts 21 [.tmp 12] [k_prepare_Look, k_commit_ready] ⟨Tryz.f26, [], Tryz.func26, rfl, by kernel_rfl, by kernel_rfl, by kernel_rfl⟩ (by kernel_rfl) (by decide) (by kernel_rfl)⟩

/-! ### trustquorum/federated.Confirms -/
def sa_federated_Confirms : SA U :=
 (.seq
 (.reg
 (op 3 (.box (tm 0))
 (op 6 (.mov (.cst (.bool false)))
 .nil)))
 (.seq
 (.reg
 (op 7 (.load (some 1) (tm 3))
 (op 8 (.mov (tm 2))
 (op 9 (.call 189 [(tm 7), (tm 8)])
 (op 10 (.mov (tm 1))
 (op 11 (.call 188 [(tm 9), (tm 10)])
 (op 6 (.mov (tm 11))
 .nil)))))))
 .ret))
noncomputable def F_federated_Confirms (a0 : TConfig) (a1 : Int) (a2 : Int) : Option Bool :=
 Option.bind (F_closure_Greatest a0 a2) fun r1 =>
 Option.bind (F_nodeset_Has r1 a1) fun r2 =>
 some r2
noncomputable def k_federated_Confirms : KS U Tryz.prog := ⟨.fn 162 [.ty (Ty.st .Config), .ty (Ty.i .i64), .ty (Ty.i .i64)] (.one Ty.bool) fun a => F_federated_Confirms a.1 a.2.1 a.2.2.1, fnS (K := K) sa_federated_Confirms 12 [.tmp 6] [k_closure_Greatest, k_nodeset_Has] ⟨Tryz.f162, [], Tryz.func162, rfl, by kernel_rfl, by kernel_rfl, by kernel_rfl⟩ (by kernel_rfl) (by decide) (by kernel_rfl)⟩

/-! ### (trustquorum/prepare.Seen).Confirms -/
def sa_prepare_Seen_Confirms_c187 : SA U :=
 (.seq
 (.reg
 (op 2 (.box (tm 0))
 (op 4 (.mov (.cst (.bool false)))
 .nil)))
 (.seq
 (.drw [(0, 2), (1, 2), (0, 3), (1, 3), (0, 4), (1, 4), (2, 4), (3, 4), (0, 6), (1, 6), (2, 6), (3, 6)]
 (op 5 (.faddr 1 (tm 2))
 (op 6 (.load (some 1) (tm 5))
 (op 7 (.faddr 0 (tm 2))
 (op 8 (.load none (tm 7))
 (op 9 (.load (some 3) (tm 2))
 (op 10 (.mov (tm 1))
 (op 11 (.call 163 [(tm 9), (tm 10)])
 (op 12 (.call 162 [(tm 6), (tm 8), (tm 11)])
 (op 4 (.mov (tm 12))
 .nil))))))))))
 .ret))
noncomputable def F_prepare_Seen_Confirms_c187 (a0 : TSeen) (a1 : ByteArray) (a2 : Int) (a3 : Int) : Option Bool :=
 Option.bind (F_prepare_Seen_Who_c187 a0 a1 a2 a3) fun r1 =>
 Option.bind (F_federated_Confirms a0.View a0.Node r1) fun r2 =>
 some r2
noncomputable def k_prepare_Seen_Confirms_c187 : KS U Tryz.prog := ⟨.fn 108 [.ty (Ty.st .Seen), .clo 187 [.ref (.ty Ty.str), .ref (.ty (Ty.i .i64)), .ref (.ty (Ty.i .i64))]] (.one Ty.bool) fun a => F_prepare_Seen_Confirms_c187 a.1 a.2.1.1 a.2.1.2.1 a.2.1.2.2.1, fnS (K := K) sa_prepare_Seen_Confirms_c187 13 [.tmp 4] [k_prepare_Seen_Who_c187, k_federated_Confirms] ⟨Tryz.f108, [], Tryz.func108, rfl, by kernel_rfl, by kernel_rfl, by kernel_rfl⟩ (by kernel_rfl) (by decide) (by kernel_rfl)⟩

/-! ### trustquorum/commit.sure -/
def sa_commit_sure : SA U :=
 (.seq
 (.reg
 (op 4 (.box (tm 0))
 (op 8 (.mov (.cst (.bool false)))
 .nil)))
 (.seq
 (.drw [(0, 4)]
 (op 9 (.load (some 3) (tm 4))
 (op 10 (.mov (tm 1))
 (op 11 (.mov (tm 2))
 (op 12 (.mov (tm 3))
 (op 13 (.call 158 [(tm 10), (tm 11), (tm 12)])
 (op 14 (.call 108 [(tm 9), (tm 13)])
 (op 8 (.mov (tm 14))
 .nil))))))))
 .ret))
noncomputable def F_commit_sure (a0 : TSeen) (a1 : ByteArray) (a2 : Int) (a3 : Int) : Option Bool :=
 Option.bind (F_commit_accepts a1 a2 a3) fun r1 =>
 Option.bind (F_prepare_Seen_Confirms_c187 a0 r1.1 r1.2.1 r1.2.2.1) fun r2 =>
 some r2
noncomputable def k_commit_sure : KS U Tryz.prog := ⟨.fn 98 [.ty (Ty.st .Seen), .ty Ty.str, .ty (Ty.i .i64), .ty (Ty.i .i64)] (.one Ty.bool) fun a => F_commit_sure a.1 a.2.1 a.2.2.1 a.2.2.2.1, fnS (K := K) sa_commit_sure 15 [.tmp 8] [k_commit_accepts, k_prepare_Seen_Confirms_c187] ⟨Tryz.f98, [], Tryz.func98, rfl, by kernel_rfl, by kernel_rfl, by kernel_rfl⟩ (by kernel_rfl) (by decide) (by kernel_rfl)⟩

/-! ### trustquorum/commit.Confirms -/
def sa_commit_Confirms : SA U :=
 (.seq
 (.reg
 (op 7 (.box (tm 1))
 (op 12 (.mov (.cst (.bool false)))
 .nil)))
 (.seq
 (.reg
 (op 13 (.mov (tm 0))
 (op 14 (.load (some 3) (tm 7))
 (op 15 (.mov (tm 2))
 (op 16 (.call 97 [(tm 13), (tm 14), (tm 15)])
 (op 17 (.mov (tm 3))
 (op 18 (.mov (tm 4))
 (op 19 (.mov (tm 5))
 (op 20 (.call 98 [(tm 16), (tm 17), (tm 18), (tm 19)])
 (op 12 (.mov (tm 20))
 .nil))))))))))
 .ret))
noncomputable def F_commit_Confirms (a0 : Int) (a1 : TTrust) (a2 : (List TEnvelope)) (a3 : ByteArray) (a4 : Int) (a5 : Int) : Option Bool :=
 Option.bind (F_prepare_Look a0 (TTrust.mk a1.Threshold a1.Nodes a1.Inner) a2) fun r1 =>
 Option.bind (F_commit_sure r1 a3 a4 a5) fun r2 =>
 some r2
noncomputable def k_commit_Confirms : KS U Tryz.prog := ⟨.fn 27 [.ty (Ty.i .i64), .ty (Ty.st .Trust), .ty (Ty.sl (Ty.st .Envelope)), .ty Ty.str, .ty (Ty.i .i64), .ty (Ty.i .i64)] (.one Ty.bool) fun a => F_commit_Confirms a.1 a.2.1 a.2.2.1 a.2.2.2.1 a.2.2.2.2.1 a.2.2.2.2.2.1, fnS (K := K) sa_commit_Confirms 21 [.tmp 12] [k_prepare_Look, k_commit_sure] ⟨Tryz.f27, [], Tryz.func27, rfl, by kernel_rfl, by kernel_rfl, by kernel_rfl⟩ (by kernel_rfl) (by decide) (by kernel_rfl)⟩

/-! ### trustquorum/trustquorumlaw26.commits -/
def sa_law26_commits : SA U :=
 (.seq
 (.reg
 (op 0 (.mov (.cst (.nils)))
 .nil))
 (.seq
 (.reg
 (op 1 (.mov (.cst (.nils)))
 .nil))
 (.seq
 (.seq
 (.reg
 (op 2 (.mov (ci 0))
 .nil))
 (.block 0
 (.ps (.own 1 38 15 (Ty.st .Envelope))
 (.loop ⟨[.val 2 (Ty.i .i64), .own 1 3 1 38 15 (Ty.st .Envelope)], []⟩
 (.seq
 (.seq
 (.reg
 (op 4 (.mov (tm 2))
 (op 5 (.bin .lss (tm 4) (ci 3))
 .nil)))
 (.cond (tm 5)
 .skip
 (.exit 0)))
 (.seq
 (.block 1
 (.seq
 (.reg
 (op 8 (.mov (tm 2))
 (op 9 (.call 30 [(ci 3), (ci 3)])
 (op 10 (.build [.int .i64 0, .str ⟨#[]⟩] [(0, 1, (ci 5)), (1, 1, (.cst (.str ⟨#[97]⟩)))])
 (op 11 (.build [.int .i64 0, .str ⟨#[]⟩] [(0, 1, (ci 5)), (1, 1, (.cst (.str ⟨#[97]⟩)))])
 (op 12 (.build [.int .i64 0, .int .i64 0, .int .i64 0, .int .i64 0, .nils, .nils, .int .i64 0, .int .i64 0, .str ⟨#[]⟩, .int .i64 0, .str ⟨#[]⟩, .int .i64 0, .str ⟨#[]⟩, .int .i64 0, .int .i64 0] [(0, 1, (tm 8)), (1, 1, (ci 1)), (2, 1, (ci 1)), (3, 3, (tm 9)), (6, 1, (ci 2)), (7, 2, (tm 10)), (9, 2, (tm 11)), (13, 1, (ci 2)), (14, 1, (ci 5))])
 (op 3 (.alloc [.int .i64 0, .int .i64 0, .int .i64 0, .int .i64 0, .nils, .nils, .int .i64 0, .int .i64 0, .str ⟨#[]⟩, .int .i64 0, .str ⟨#[]⟩, .int .i64 0, .str ⟨#[]⟩, .int .i64 0, .int .i64 0])
 (ops (.store 15 (tm 3) (tm 12))
 .nil))))))))
 (.join ⟨[.box 11 1 (Ty.st .Envelope) []], [1, 2, 3]⟩
 (.seq
 (.reg
 (op 13 (.mov (tm 2))
 (op 14 (.bin .eql (tm 13) (ci 1))
 .nil)))
 (.cond (tm 14)
 (.reg
 (op 15 (.faddr 13 (tm 3))
 (ops (.store 1 (tm 15) (ci 3))
 .nil)))
 .skip))
 (.reg
 (op 16 (.mov (tm 1))
 (op 17 (.load (some 15) (tm 3))
 (op 18 (.bsl false 38 15 (List.replicate 1 [.int .i64 0, .int .i64 0, .int .i64 0, .int .i64 0, .nils, .nils, .int .i64 0, .int .i64 0, .str ⟨#[]⟩, .int .i64 0, .str ⟨#[]⟩, .int .i64 0, .str ⟨#[]⟩, .int .i64 0, .int .i64 0]) [(0, (tm 17))])
 (op 19 (.app 38 15 176 (tm 16) (tm 18))
 (op 1 (.mov (tm 19))
 .nil)))))))))
 (.reg
 (op 6 (.mov (tm 2))
 (op 7 (.bin .add (tm 6) (ci 1))
 (op 2 (.mov (tm 7))
 .nil))))))))))
 (.seq
 (.reg
 (op 20 (.mov (tm 1))
 (op 0 (.mov (tm 20))
 .nil)))
 .ret))))
noncomputable def F_law26_commits  : Option (List TEnvelope) :=
 loopO (fun (v1 : Int × (List TEnvelope) × Unit) =>
 bif (decide (v1.1 < (3 : Int))) then
 Option.bind (F_play_Flat (3 : Int) (3 : Int)) fun r2 =>
 letJ (fun (v3 : TEnvelope × Unit) =>
 bif lenOk 176 (List.length v1.2.1 + List.length [(TEnvelope.mk v3.1.Node v3.1.Slot v3.1.Seq (TTrust.mk v3.1.Trust.Threshold v3.1.Trust.Nodes v3.1.Trust.Inner) v3.1.Kind v3.1.Ballot v3.1.Prepared v3.1.Prime v3.1.Low v3.1.High)]) then
 some (Sum.inl ((addI .i64 v1.1 (1 : Int)), (v1.2.1 ++ [(TEnvelope.mk v3.1.Node v3.1.Slot v3.1.Seq (TTrust.mk v3.1.Trust.Threshold v3.1.Trust.Nodes v3.1.Trust.Inner) v3.1.Kind v3.1.Ballot v3.1.Prepared v3.1.Prime v3.1.Low v3.1.High)]), ()))
 else none) fun j4 =>
 bif (decide (v1.1 = (1 : Int))) then
 j4 ((TEnvelope.mk v1.1 (1 : Int) (1 : Int) (TTrust.mk r2.Threshold r2.Nodes r2.Inner) (2 : Int) (TBallot.mk (5 : Int) (ByteArray.mk #[97])) (TBallot.mk (5 : Int) (ByteArray.mk #[97])) (TBallot.mk (0 : Int) (ByteArray.mk #[])) (3 : Int) (5 : Int)), ())
 else
 j4 ((TEnvelope.mk v1.1 (1 : Int) (1 : Int) (TTrust.mk r2.Threshold r2.Nodes r2.Inner) (2 : Int) (TBallot.mk (5 : Int) (ByteArray.mk #[97])) (TBallot.mk (5 : Int) (ByteArray.mk #[97])) (TBallot.mk (0 : Int) (ByteArray.mk #[])) (2 : Int) (5 : Int)), ())
 else
 Option.map Sum.inr (some v1.2.1)) ((0 : Int), ([] : List TEnvelope), ())
noncomputable def k_law26_commits : KS U Tryz.prog := ⟨.fn 56 [] (.one (Ty.sl (Ty.st .Envelope))) fun a => F_law26_commits , fnS (K := K) sa_law26_commits 21 [.tmp 0] [k_play_Flat] ⟨Tryz.f56, [], Tryz.func56, rfl, by kernel_rfl, by kernel_rfl, by kernel_rfl⟩ (by kernel_rfl) (by decide) (by kernel_rfl)⟩

/-! ### slices.Backward[[]int,int] -/
def sa_slices_Backward_int_int : SA U :=
 (.seq
 (.reg
 (op 1 (.box (tm 0))
 (op 2 (.mov (.cst (.any)))
 .nil)))
 (.seq
 (.reg
 (op 3 (.mkf 160 [(tm 1)])
 (op 2 (.mov (tm 3))
 .nil)))
 .ret))
noncomputable def F_slices_Backward_int_int (a0 : (List Int)) : Option ((List Int) × Unit) :=
 some (a0, ())
noncomputable def k_slices_Backward_int_int : KS U Tryz.prog := ⟨.fn 104 [.ty (Ty.sl (Ty.i .i64))] (.fn (.clo 160 [.ref (.ty (Ty.sl (Ty.i .i64)))])) fun a => F_slices_Backward_int_int a.1, fnS (K := K) sa_slices_Backward_int_int 4 [.tmp 2] [] ⟨Tryz.f104, [], Tryz.func104, rfl, by kernel_rfl, by kernel_rfl, by kernel_rfl⟩ (by kernel_rfl) (by decide) (by kernel_rfl)⟩

/-! ### an iterator of slices.Backward -/
def k_bk_160 : KS U Tryz.prog := ⟨.bk 160 1 none, (⟨Tryz.f160, [], Tryz.func160, rfl, by kernel_rfl, by kernel_rfl, by kernel_rfl⟩ : FnOk Tryz.prog 160 19 (backSC 1 none) [])⟩

/-! ### trustquorum/commit.Final$1 -/
def sa_commit_Final_1 : SA U :=
 (.seq
 (.reg
 (op 5 (.mov (.cst (.bool false)))
 .nil))
 (.seq
 (.reg
 (op 6 (.load (some 3) (tm 1))
 (op 7 (.load none (tm 2))
 (op 8 (.mov (tm 0))
 (op 9 (.load none (tm 3))
 (op 10 (.call 98 [(tm 6), (tm 7), (tm 8), (tm 9)])
 (op 5 (.mov (tm 10))
 .nil)))))))
 .ret))
noncomputable def F_commit_Final_1 (a0 : Int) (a1 : TSeen) (a2 : ByteArray) (a3 : Int) : Option Bool :=
 Option.bind (F_commit_sure a1 a2 a0 a3) fun r1 =>
 some r1
noncomputable def k_commit_Final_1 : KS U Tryz.prog := ⟨.fn 105 [.ty (Ty.i .i64), .ref (.ty (Ty.st .Seen)), .ref (.ty Ty.str), .ref (.ty (Ty.i .i64))] (.one Ty.bool) fun a => F_commit_Final_1 a.1 a.2.1 a.2.2.1 a.2.2.2.1, fnS (K := K) sa_commit_Final_1 11 [.tmp 5] [k_commit_sure] ⟨Tryz.f105, [], Tryz.func105, rfl, by kernel_rfl, by kernel_rfl, by kernel_rfl⟩ (by kernel_rfl) (by decide) (by kernel_rfl)⟩

/-! ### trustquorum/commit.downward -/
def sa_commit_downward_c105 : SA U :=
 (.seq
 (.reg
 (op 4 (.box (tm 1))
 (op 5 (.box (tm 2))
 (op 6 (.mov (ci 0))
 .nil))))
 (.join ⟨[.box 0 1 (Ty.i .i64) []], [4]⟩
 (.seq
 (.reg
 (op 9 (.mov (tm 0))
 (op 10 (.call 104 [(tm 9)])
 .nil)))
 (.block 0
 (.back ⟨[.box 0 1 (Ty.i .i64) []], [4, 5, 10]⟩ 160 1 none (Ty.i .i64) 10 11 12
 (.reg
 (op 8 (.mov (tm 12))
 .nil))
 (.block 1
 (.seq
 (.seq
 (.reg
 (op 13 (.mov (tm 8))
 (op 14 (.load none (tm 4))
 (op 15 (.bin .geq (tm 13) (tm 14))
 .nil))))
 (.cond (tm 15)
 (.exit 1)
 .skip))
 (.seq
 (.seq
 (.reg
 (op 16 (.load none (tm 5))
 (op 17 (.mov (tm 8))
 (op 18 (.callv (tm 16) [(tm 17)])
 (op 19 (.not (tm 18))
 .nil)))))
 (.cond (tm 19)
 (.exit 0)
 .skip))
 (.reg
 (op 20 (.mov (tm 8))
 (ops (.store 1 (tm 4) (tm 20))
 .nil)))))))))
 (.seq
 (.reg
 (op 21 (.load none (tm 4))
 (op 6 (.mov (tm 21))
 .nil)))
 .ret)))
noncomputable def F_commit_downward_c105 (a0 : (List Int)) (a1 : Int) (a2 : TSeen) (a3 : ByteArray) (a4 : Int) : Option Int :=
 letJ (fun (v1 : Int × Unit) =>
 some v1.1) fun j2 =>
 Option.bind (F_slices_Backward_int_int a0) fun r3 =>
 backO (fun (m5 : Nat) (e6 : Int) (v4 : Int × Unit) =>
 bif (decide (v4.1 ≤ e6)) then
 some (Sum.inl (v4.1, ()))
 else
 Option.bind (F_commit_Final_1 e6 a2 a3 a4) fun r7 =>
 bif (!r7) then
 Option.map Sum.inr (j2 (v4.1, ()))
 else
 some (Sum.inl (e6, ()))) (fun (v8 : Int × Unit) =>
 j2 (v8.1, ())) (List.reverse r3.1) (a1, ())
noncomputable def k_commit_downward_c105 : KS U Tryz.prog := ⟨.fn 102 [.ty (Ty.sl (Ty.i .i64)), .ty (Ty.i .i64), .clo 105 [.ref (.ty (Ty.st .Seen)), .ref (.ty Ty.str), .ref (.ty (Ty.i .i64))]] (.one (Ty.i .i64)) fun a => F_commit_downward_c105 a.1 a.2.1 a.2.2.1.1 a.2.2.1.2.1 a.2.2.1.2.2.1, fnS (K := K) sa_commit_downward_c105 22 [.tmp 6] [k_slices_Backward_int_int, k_bk_160, k_commit_Final_1] ⟨Tryz.f102, [], Tryz.func102, rfl, by kernel_rfl, by kernel_rfl, by kernel_rfl⟩ (by kernel_rfl) (by decide) (by kernel_rfl)⟩

/-! ### trustquorum/commit.Final -/
def sa_commit_Final : SA U :=
 (.seq
 (.reg
 (op 5 (.box (tm 1))
 (op 7 (.box (tm 3))
 (op 8 (.alloc [.int .i64 0])
 (op 9 (.alloc [.int .i64 0])
 (op 10 (.alloc [.bool false])
 .nil))))))
 (.seq
 (.reg
 (op 15 (.mov (tm 0))
 (op 16 (.load (some 3) (tm 5))
 (op 17 (.mov (tm 2))
 (op 18 (.call 97 [(tm 15), (tm 16), (tm 17)])
 (op 11 (.alloc [.int .i64 0, .nils, .nils])
 (ops (.store 3 (tm 11) (tm 18))
 .nil)))))))
 (.seq
 (.reg
 (op 19 (.mov (tm 2))
 (op 20 (.load none (tm 7))
 (op 21 (.call 19 [(tm 19), (tm 20)])
 (op 12 (.alloc [.nils])
 (ops (.store 1 (tm 12) (tm 21))
 .nil))))))
 (.seq
 (.seq
 (.reg
 (op 22 (.load none (tm 12))
 (op 23 (.call 104 [(tm 22)])
 .nil)))
 (.block 0
 (.back ⟨[.box 2 1 (Ty.i .i64) [], .box 3 1 (Ty.i .i64) [], .box 4 1 Ty.bool []], [7, 8, 9, 10, 11, 12, 23]⟩ 160 1 none (Ty.i .i64) 23 24 25
 (.reg
 (op 14 (.alloc [.int .i64 0])
 (ops (.store 1 (tm 14) (tm 25))
 .nil)))
 (.block 1
 (.seq
 (.reg
 (op 26 (.load (some 3) (tm 11))
 (op 27 (.load none (tm 7))
 (op 28 (.load none (tm 14))
 (op 29 (.load none (tm 14))
 (op 30 (.call 98 [(tm 26), (tm 27), (tm 28), (tm 29)])
 .nil))))))
 (.cond (tm 30)
 (.seq
 (.drw [(0, 1), (0, 4), (1, 4), (3, 4), (4, 5)]
 (op 31 (.load none (tm 12))
 (op 32 (.load none (tm 14))
 (op 33 (.mkf 105 [(tm 11), (tm 7), (tm 14)])
 (op 34 (.call 102 [(tm 31), (tm 32), (tm 33)])
 (op 35 (.load none (tm 14))
 (ops (.store 1 (tm 8) (tm 34))
 (ops (.store 1 (tm 9) (tm 35))
 (ops (.store 1 (tm 10) (.cst (.bool true)))
 .nil)))))))))
 .ret)
 .skip))))))
 (.seq
 (.reg
 (ops (.store 1 (tm 8) (ci 0))
 (ops (.store 1 (tm 9) (ci 0))
 (ops (.store 1 (tm 10) (.cst (.bool false)))
 .nil))))
 .ret)))))
noncomputable def F_commit_Final (a0 : Int) (a1 : TTrust) (a2 : (List TEnvelope)) (a3 : ByteArray) : Option (Int × Int × Bool × Unit) :=
 Option.bind (F_prepare_Look a0 (TTrust.mk a1.Threshold a1.Nodes a1.Inner) a2) fun r1 =>
 Option.bind (F_envelopes_Bounds a2 a3) fun r2 =>
 Option.bind (F_slices_Backward_int_int r2) fun r3 =>
 backO (fun (m5 : Nat) (e6 : Int) (v4 : Int × Int × Bool × Unit) =>
 Option.bind (F_commit_sure r1 a3 e6 e6) fun r7 =>
 bif r7 then
 Option.bind (F_commit_downward_c105 r2 e6 r1 a3 e6) fun r8 =>
 Option.map Sum.inr (some (r8, e6, true, ()))
 else
 some (Sum.inl (v4.1, v4.2.1, v4.2.2.1, ()))) (fun (v9 : Int × Int × Bool × Unit) =>
 some ((0 : Int), (0 : Int), false, ())) (List.reverse r3.1) ((0 : Int), (0 : Int), false, ())
noncomputable def k_commit_Final : KS U Tryz.prog := ⟨.fn 32 [.ty (Ty.i .i64), .ty (Ty.st .Trust), .ty (Ty.sl (Ty.st .Envelope)), .ty Ty.str] (.many [(Ty.i .i64), (Ty.i .i64), Ty.bool]) fun a => F_commit_Final a.1 a.2.1 a.2.2.1 a.2.2.2.1, fnS (K := K) sa_commit_Final 36 [.cell 8 none, .cell 9 none, .cell 10 none] [k_prepare_Look, k_envelopes_Bounds, k_slices_Backward_int_int, k_bk_160, k_commit_sure, k_commit_downward_c105] ⟨Tryz.f32, [], Tryz.func32, rfl, by kernel_rfl, by kernel_rfl, by kernel_rfl⟩ (by kernel_rfl) (by decide) (by kernel_rfl)⟩

/-! ### trustquorum/trustquorumlaw26.sane -/
def sa_law26_sane : SA U :=
 (.seq
 (.reg
 (op 0 (.mov (.cst (.bool false)))
 .nil))
 (.seq
 (.reg
 (op 5 (.call 30 [(ci 3), (ci 3)])
 (op 6 (.call 56 [])
 (op 7 (.call 32 [(ci 0), (tm 5), (tm 6), (.cst (.str ⟨#[97]⟩))])
 (op 4 (.mov (tm 7))
 (op 8 (.extr 0 (tm 4))
 (op 9 (.extr 1 (tm 4))
 (op 10 (.extr 2 (tm 4))
 (op 1 (.mov (tm 8))
 (op 2 (.mov (tm 9))
 (op 3 (.mov (tm 10))
 .nil)))))))))))
 (.seq
 (.reg
 (op 11 (.mov (tm 3))
 (op 12 (.mov (tm 11))
 (.ite 12 true
 (opg 13 12 true (.mov (tm 1))
 (opg 14 12 true (.bin .eql (tm 13) (ci 3))
 .nil))
 15 none (tm 14) (.cst (.bool false))
 (op 16 (.mov (tm 15))
 (.ite 16 true
 (opg 17 16 true (.mov (tm 2))
 (opg 18 16 true (.bin .eql (tm 17) (ci 5))
 .nil))
 19 none (tm 18) (.cst (.bool false))
 (op 20 (.mov (tm 19))
 (.ite 20 true
 (opg 21 20 true (.call 30 [(ci 3), (ci 3)])
 (opg 22 20 true (.call 56 [])
 (opg 23 20 true (.call 26 [(ci 0), (tm 21), (tm 22), (.cst (.str ⟨#[97]⟩)), (ci 3), (ci 5)])
 .nil)))
 24 none (tm 23) (.cst (.bool false))
 (op 0 (.mov (tm 24))
 .nil)))))))))
 .ret)))
noncomputable def F_law26_sane  : Option Bool :=
 Option.bind (F_play_Flat (3 : Int) (3 : Int)) fun r1 =>
 Option.bind (F_law26_commits) fun r2 =>
 Option.bind (F_commit_Final (0 : Int) (TTrust.mk r1.Threshold r1.Nodes r1.Inner) r2 (ByteArray.mk #[97])) fun r3 =>
 Option.bind (bif r3.2.2.1 then
 some (decide (r3.1 = (3 : Int)))
 else some false) fun b4 =>
 Option.bind (bif b4 then
 some (decide (r3.2.1 = (5 : Int)))
 else some false) fun b5 =>
 Option.bind (bif b5 then
 Option.bind (F_play_Flat (3 : Int) (3 : Int)) fun r6 =>
 Option.bind (F_law26_commits) fun r7 =>
 Option.bind (F_commit_Accepts (0 : Int) (TTrust.mk r6.Threshold r6.Nodes r6.Inner) r7 (ByteArray.mk #[97]) (3 : Int) (5 : Int)) fun r8 =>
 some r8
 else some false) fun b9 =>
 some b9
noncomputable def k_law26_sane : KS U Tryz.prog := ⟨.fn 29 [] (.one Ty.bool) fun a => F_law26_sane , fnS (K := K) sa_law26_sane 25 [.tmp 0] [k_play_Flat, k_law26_commits, k_commit_Final, k_commit_Accepts] ⟨Tryz.f29, [], Tryz.func29, rfl, by kernel_rfl, by kernel_rfl, by kernel_rfl⟩ (by kernel_rfl) (by decide) (by kernel_rfl)⟩

/-! ### trustquorum/commit.First$1 -/
def sa_commit_First_1 : SA U :=
 (.seq
 (.reg
 (op 6 (.mov (.cst (.bool false)))
 .nil))
 (.seq
 (.reg
 (op 8 (.mov (tm 1))
 (op 9 (.mov (tm 0))
 (op 10 (.build [.int .i64 0, .str ⟨#[]⟩] [(0, 1, (tm 8)), (1, 1, (tm 9))])
 (op 7 (.alloc [.int .i64 0, .str ⟨#[]⟩])
 (ops (.store 2 (tm 7) (tm 10))
 .nil))))))
 (.seq
 (.reg
 (op 11 (.load (some 2) (tm 2))
 (op 12 (.load (some 2) (tm 7))
 (op 13 (.call 100 [(tm 11), (tm 12)])
 (op 14 (.mov (tm 13))
 (.ite 14 false
 (opg 15 14 false (.load (some 2) (tm 3))
 (opg 16 14 false (.load (some 2) (tm 7))
 (opg 17 14 false (.call 100 [(tm 15), (tm 16)])
 .nil)))
 18 none (.cst (.bool true)) (tm 17)
 (op 6 (.mov (tm 18))
 .nil)))))))
 .ret)))
noncomputable def F_commit_First_1 (a0 : ByteArray) (a1 : Int) (a2 : TBallot) (a3 : TBallot) : Option Bool :=
 Option.bind (F_ballots_Aborts a2 (TBallot.mk a1 a0)) fun r1 =>
 Option.bind (bif r1 then some true
 else
 Option.bind (F_ballots_Aborts a3 (TBallot.mk a1 a0)) fun r2 =>
 some r2) fun b3 =>
 some b3
noncomputable def k_commit_First_1 : KS U Tryz.prog := ⟨.fn 99 [.ty Ty.str, .ty (Ty.i .i64), .ref (.ty (Ty.st .Ballot)), .ref (.ty (Ty.st .Ballot))] (.one Ty.bool) fun a => F_commit_First_1 a.1 a.2.1 a.2.2.1 a.2.2.2.1, fnS (K := K) sa_commit_First_1 19 [.tmp 6] [k_ballots_Aborts] ⟨Tryz.f99, [], Tryz.func99, rfl, by kernel_rfl, by kernel_rfl, by kernel_rfl⟩ (by kernel_rfl) (by decide) (by kernel_rfl)⟩

/-! ### trustquorum/commit.First$2 -/
def sa_commit_First_2_c99 : SA U :=
 (.seq
 (.reg
 (op 5 (.mov (.cst (.bool false)))
 .nil))
 (.seq
 (.reg
 (op 6 (.load none (tm 1))
 (op 7 (.faddr 1 (tm 2))
 (op 8 (.load none (tm 7))
 (op 9 (.mov (tm 0))
 (op 10 (.callv (tm 6) [(tm 8), (tm 9)])
 (op 11 (.not (tm 10))
 (op 12 (.mov (tm 11))
 (.ite 12 true
 (opg 13 12 true (.load (some 3) (tm 3))
 (opg 14 12 true (.faddr 1 (tm 2))
 (opg 15 12 true (.load none (tm 14))
 (opg 16 12 true (.mov (tm 0))
 (opg 17 12 true (.faddr 0 (tm 2))
 (opg 18 12 true (.load none (tm 17))
 (opg 19 12 true (.call 96 [(tm 13), (tm 15), (tm 16), (tm 18)])
 .nil)))))))
 20 none (tm 19) (.cst (.bool false))
 (op 5 (.mov (tm 20))
 .nil))))))))))
 .ret))
noncomputable def F_commit_First_2_c99 (a0 : Int) (a1 : TBallot) (a2 : TBallot) (a3 : TBallot) (a4 : TSeen) : Option Bool :=
 Option.bind (F_commit_First_1 a3.Value a0 a1 a2) fun r1 =>
 Option.bind (bif (!r1) then
 Option.bind (F_commit_ready a4 a3.Value a0 a3.Counter) fun r2 =>
 some r2
 else some false) fun b3 =>
 some b3
noncomputable def k_commit_First_2_c99 : KS U Tryz.prog := ⟨.fn 103 [.ty (Ty.i .i64), .ref (.clo 99 [.ref (.ty (Ty.st .Ballot)), .ref (.ty (Ty.st .Ballot))]), .ref (.ty (Ty.st .Ballot)), .ref (.ty (Ty.st .Seen))] (.one Ty.bool) fun a => F_commit_First_2_c99 a.1 a.2.1.1 a.2.1.2.1 a.2.2.1 a.2.2.2.1, fnS (K := K) sa_commit_First_2_c99 21 [.tmp 5] [k_commit_First_1, k_commit_ready] ⟨Tryz.f103, [], Tryz.func103, rfl, by kernel_rfl, by kernel_rfl, by kernel_rfl⟩ (by kernel_rfl) (by decide) (by kernel_rfl)⟩

/-! ### trustquorum/commit.downward -/
def sa_commit_downward_c103_c99 : SA U :=
 (.seq
 (.reg
 (op 4 (.box (tm 1))
 (op 5 (.box (tm 2))
 (op 6 (.mov (ci 0))
 .nil))))
 (.join ⟨[.box 0 1 (Ty.i .i64) []], [4]⟩
 (.seq
 (.reg
 (op 9 (.mov (tm 0))
 (op 10 (.call 104 [(tm 9)])
 .nil)))
 (.block 0
 (.back ⟨[.box 0 1 (Ty.i .i64) []], [4, 5, 10]⟩ 160 1 none (Ty.i .i64) 10 11 12
 (.reg
 (op 8 (.mov (tm 12))
 .nil))
 (.block 1
 (.seq
 (.seq
 (.reg
 (op 13 (.mov (tm 8))
 (op 14 (.load none (tm 4))
 (op 15 (.bin .geq (tm 13) (tm 14))
 .nil))))
 (.cond (tm 15)
 (.exit 1)
 .skip))
 (.seq
 (.seq
 (.reg
 (op 16 (.load none (tm 5))
 (op 17 (.mov (tm 8))
 (op 18 (.callv (tm 16) [(tm 17)])
 (op 19 (.not (tm 18))
 .nil)))))
 (.cond (tm 19)
 (.exit 0)
 .skip))
 (.reg
 (op 20 (.mov (tm 8))
 (ops (.store 1 (tm 4) (tm 20))
 .nil)))))))))
 (.seq
 (.reg
 (op 21 (.load none (tm 4))
 (op 6 (.mov (tm 21))
 .nil)))
 .ret)))
noncomputable def F_commit_downward_c103_c99 (a0 : (List Int)) (a1 : Int) (a2 : TBallot) (a3 : TBallot) (a4 : TBallot) (a5 : TSeen) : Option Int :=
 letJ (fun (v1 : Int × Unit) =>
 some v1.1) fun j2 =>
 Option.bind (F_slices_Backward_int_int a0) fun r3 =>
 backO (fun (m5 : Nat) (e6 : Int) (v4 : Int × Unit) =>
 bif (decide (v4.1 ≤ e6)) then
 some (Sum.inl (v4.1, ()))
 else
 Option.bind (F_commit_First_2_c99 e6 a2 a3 a4 a5) fun r7 =>
 bif (!r7) then
 Option.map Sum.inr (j2 (v4.1, ()))
 else
 some (Sum.inl (e6, ()))) (fun (v8 : Int × Unit) =>
 j2 (v8.1, ())) (List.reverse r3.1) (a1, ())
noncomputable def k_commit_downward_c103_c99 : KS U Tryz.prog := ⟨.fn 102 [.ty (Ty.sl (Ty.i .i64)), .ty (Ty.i .i64), .clo 103 [.ref (.clo 99 [.ref (.ty (Ty.st .Ballot)), .ref (.ty (Ty.st .Ballot))]), .ref (.ty (Ty.st .Ballot)), .ref (.ty (Ty.st .Seen))]] (.one (Ty.i .i64)) fun a => F_commit_downward_c103_c99 a.1 a.2.1 a.2.2.1.1.1 a.2.2.1.1.2.1 a.2.2.1.2.1 a.2.2.1.2.2.1, fnS (K := K) sa_commit_downward_c103_c99 22 [.tmp 6] [k_slices_Backward_int_int, k_bk_160, k_commit_First_2_c99] ⟨Tryz.f102, [], Tryz.func102, rfl, by kernel_rfl, by kernel_rfl, by kernel_rfl⟩ (by kernel_rfl) (by decide) (by kernel_rfl)⟩

/-! ### trustquorum/commit.First -/
def sa_commit_First : SA U :=
 (.seq
 (.reg
 (op 6 (.box (tm 1))
 (op 8 (.box (tm 3))
 (op 9 (.box (tm 4))
 (op 10 (.mov (.cst (.str ⟨#[]⟩)))
 (op 11 (.mov (ci 0))
 (op 12 (.mov (ci 0))
 (op 13 (.mov (.cst (.bool false)))
 .nil))))))))
 (.seq
 (.reg
 (op 22 (.mov (tm 0))
 (op 23 (.load (some 3) (tm 6))
 (op 24 (.mov (tm 2))
 (op 25 (.call 97 [(tm 22), (tm 23), (tm 24)])
 (op 14 (.alloc [.int .i64 0, .nils, .nils])
 (ops (.store 3 (tm 14) (tm 25))
 .nil)))))))
 (.seq
 (.reg
 (op 26 (.mkf 99 [(tm 8), (tm 9)])
 (op 15 (.alloc [.any])
 (ops (.store 1 (tm 15) (tm 26))
 .nil))))
 (.seq
 (.reg
 (op 16 (.alloc [.int .i64 0, .str ⟨#[]⟩])
 .nil))
 (.seq
 (.seq
 (.reg
 (op 27 (.mov (tm 2))
 (op 28 (.call 14 [(tm 27)])
 (op 29 (.len false (tm 28))
 (op 30 (.mov (ci 0))
 .nil)))))
 (.block 0
 (.loop ⟨[.val 13 Ty.bool, .val 30 (Ty.i .i64), .box 16 1 (Ty.st .Ballot) []], [2, 14, 15, 16, 28, 29]⟩
 (.seq
 (.reg
 (op 31 (.bin .lss (tm 30) (tm 29))
 .nil))
 (.seq
 (.cond (tm 31)
 .skip
 (.exit 0))
 (.seq
 (.block 1
 (.seq
 (.reg
 (op 32 (.iaddr 1 (tm 28) (tm 30))
 (op 33 (.load none (tm 32))
 (op 18 (.mov (tm 33))
 .nil))))
 (.seq
 (.reg
 (op 34 (.mov (tm 2))
 (op 35 (.mov (tm 18))
 (op 36 (.call 19 [(tm 34), (tm 35)])
 (op 37 (.len false (tm 36))
 (op 38 (.mov (ci 0))
 .nil))))))
 (.block 2
 (.loop ⟨[.val 13 Ty.bool, .val 38 (Ty.i .i64), .box 16 1 (Ty.st .Ballot) []], [2, 14, 15, 16, 18, 28, 29, 30, 36, 37]⟩
 (.seq
 (.reg
 (op 39 (.bin .lss (tm 38) (tm 37))
 .nil))
 (.seq
 (.cond (tm 39)
 .skip
 (.exit 2))
 (.join ⟨[.val 13 Ty.bool, .box 16 1 (Ty.st .Ballot) []], [2, 14, 15, 16, 18, 28, 29, 30, 36, 37, 38]⟩
 (.block 3
 (.seq
 (.reg
 (op 40 (.iaddr 1 (tm 36) (tm 38))
 (op 41 (.load none (tm 40))
 (op 20 (.mov (tm 41))
 .nil))))
 (.seq
 (.reg
 (op 42 (.mov (tm 20))
 (op 43 (.mov (tm 18))
 (op 44 (.build [.int .i64 0, .str ⟨#[]⟩] [(0, 1, (tm 42)), (1, 1, (tm 43))])
 (op 21 (.alloc [.int .i64 0, .str ⟨#[]⟩])
 (ops (.store 2 (tm 21) (tm 44))
 .nil))))))
 (.seq
 (.reg
 (op 45 (.load (some 2) (tm 16))
 (op 46 (.load (some 2) (tm 21))
 (op 47 (.call 101 [(tm 45), (tm 46)])
 (op 48 (.mov (tm 47))
 (.ite 48 true
 (opg 49 48 true (.load none (tm 15))
 (opg 50 48 true (.mov (tm 18))
 (opg 51 48 true (.mov (tm 20))
 (opg 52 48 true (.callv (tm 49) [(tm 50), (tm 51)])
 (opg 53 48 true (.not (tm 52))
 .nil)))))
 54 none (tm 53) (.cst (.bool false))
 (op 55 (.mov (tm 54))
 (.ite 55 true
 (opg 56 55 true (.load (some 3) (tm 14))
 (opg 57 55 true (.mov (tm 18))
 (opg 58 55 true (.mov (tm 20))
 (opg 59 55 true (.mov (tm 20))
 (opg 60 55 true (.call 96 [(tm 56), (tm 57), (tm 58), (tm 59)])
 .nil)))))
 61 none (tm 60) (.cst (.bool false))
 .nil))))))))
 (.cond (tm 61)
 (.reg
 (op 62 (.load (some 2) (tm 21))
 (ops (.store 2 (tm 16) (tm 62))
 (op 13 (.mov (.cst (.bool true)))
 .nil))))
 .skip)))))
 (.reg
 (op 63 (.bin .add (tm 38) (ci 1))
 (op 38 (.mov (tm 63))
 .nil)))))))))))
 (.reg
 (op 64 (.bin .add (tm 30) (ci 1))
 (op 30 (.mov (tm 64))
 .nil)))))))))
 (.seq
 (.seq
 (.reg
 (op 65 (.mov (tm 13))
 (op 66 (.not (tm 65))
 .nil)))
 (.cond (tm 66)
 (.seq
 (.reg
 (op 10 (.mov (.cst (.str ⟨#[]⟩)))
 (op 11 (.mov (ci 0))
 (op 12 (.mov (ci 0))
 (op 13 (.mov (.cst (.bool false)))
 .nil)))))
 .ret)
 .skip))
 (.seq
 (.drw [(1, 4), (2, 4), (3, 4), (1, 5), (2, 5), (3, 5)]
 (op 67 (.mov (tm 2))
 (op 68 (.faddr 1 (tm 16))
 (op 69 (.load none (tm 68))
 (op 70 (.call 19 [(tm 67), (tm 69)])
 (op 71 (.faddr 0 (tm 16))
 (op 72 (.load none (tm 71))
 (op 73 (.mkf 103 [(tm 15), (tm 16), (tm 14)])
 (op 74 (.call 102 [(tm 70), (tm 72), (tm 73)])
 (op 11 (.mov (tm 74))
 .nil))))))))))
 (.seq
 (.drw [(0, 3), (1, 3), (0, 4), (1, 4)]
 (op 75 (.faddr 1 (tm 16))
 (op 76 (.load none (tm 75))
 (op 77 (.mov (tm 11))
 (op 78 (.faddr 0 (tm 16))
 (op 79 (.load none (tm 78))
 (op 10 (.mov (tm 76))
 (op 11 (.mov (tm 77))
 (op 12 (.mov (tm 79))
 (op 13 (.mov (.cst (.bool true)))
 .nil))))))))))
 .ret))))))))
noncomputable def F_commit_First (a0 : Int) (a1 : TTrust) (a2 : (List TEnvelope)) (a3 : TBallot) (a4 : TBallot) : Option (ByteArray × Int × Int × Bool × Unit) :=
 Option.bind (F_prepare_Look a0 (TTrust.mk a1.Threshold a1.Nodes a1.Inner) a2) fun r1 =>
 Option.bind (F_envelopes_Values a2) fun r2 =>
 loopO (fun (v3 : Bool × Int × TBallot × Unit) =>
 bif (decide (v3.2.1 < ((List.length r2 : Nat) : Int))) then
 Option.bind (idx r2 v3.2.1) fun x4 =>
 Option.bind (F_envelopes_Bounds a2 x4) fun r5 =>
 loopO (fun (v6 : Bool × Int × TBallot × Unit) =>
 bif (decide (v6.2.1 < ((List.length r5 : Nat) : Int))) then
 letJ (fun (v7 : Bool × TBallot × Unit) =>
 some (Sum.inl (v7.1, (addI .i64 v6.2.1 (1 : Int)), v7.2.1, ()))) fun j8 =>
 Option.bind (idx r5 v6.2.1) fun x9 =>
 Option.bind (F_ballots_Less v6.2.2.1 (TBallot.mk x9 x4)) fun r10 =>
 Option.bind (bif r10 then
 Option.bind (F_commit_First_1 x4 x9 a3 a4) fun r11 =>
 some (!r11)
 else some false) fun b12 =>
 Option.bind (bif b12 then
 Option.bind (F_commit_ready r1 x4 x9 x9) fun r13 =>
 some r13
 else some false) fun b14 =>
 bif b14 then
 j8 (true, (TBallot.mk x9 x4), ())
 else
 j8 (v6.1, v6.2.2.1, ())
 else
 Option.map Sum.inr (some (Sum.inl (v6.1, (addI .i64 v3.2.1 (1 : Int)), v6.2.2.1, ())))) (v3.1, (0 : Int), v3.2.2.1, ())
 else
 Option.map Sum.inr (bif (!v3.1) then
 some ((ByteArray.mk #[]), (0 : Int), (0 : Int), false, ())
 else
 Option.bind (F_envelopes_Bounds a2 v3.2.2.1.Value) fun r15 =>
 Option.bind (F_commit_downward_c103_c99 r15 v3.2.2.1.Counter a3 a4 v3.2.2.1 r1) fun r16 =>
 some (v3.2.2.1.Value, r16, v3.2.2.1.Counter, true, ()))) (false, (0 : Int), (TBallot.mk (0 : Int) (ByteArray.mk #[])), ())
noncomputable def k_commit_First : KS U Tryz.prog := ⟨.fn 31 [.ty (Ty.i .i64), .ty (Ty.st .Trust), .ty (Ty.sl (Ty.st .Envelope)), .ty (Ty.st .Ballot), .ty (Ty.st .Ballot)] (.many [Ty.str, (Ty.i .i64), (Ty.i .i64), Ty.bool]) fun a => F_commit_First a.1 a.2.1 a.2.2.1 a.2.2.2.1 a.2.2.2.2.1, fnS (K := K) sa_commit_First 80 [.tmp 10, .tmp 11, .tmp 12, .tmp 13] [k_prepare_Look, k_envelopes_Values, k_envelopes_Bounds, k_ballots_Less, k_commit_First_1, k_commit_ready, k_commit_downward_c103_c99] ⟨Tryz.f31, [], Tryz.func31, rfl, by kernel_rfl, by kernel_rfl, by kernel_rfl⟩ (by kernel_rfl) (by decide) (by kernel_rfl)⟩

/-! ### trustquorum/commit.Extend$1 -/
def sa_commit_Extend_1 : SA U :=
 (.seq
 (.reg
 (op 5 (.mov (.cst (.bool false)))
 .nil))
 (.seq
 (.reg
 (op 6 (.load (some 3) (tm 1))
 (op 7 (.load none (tm 2))
 (op 8 (.mov (tm 0))
 (op 9 (.load none (tm 3))
 (op 10 (.call 96 [(tm 6), (tm 7), (tm 8), (tm 9)])
 (op 5 (.mov (tm 10))
 .nil)))))))
 .ret))
noncomputable def F_commit_Extend_1 (a0 : Int) (a1 : TSeen) (a2 : ByteArray) (a3 : Int) : Option Bool :=
 Option.bind (F_commit_ready a1 a2 a0 a3) fun r1 =>
 some r1
noncomputable def k_commit_Extend_1 : KS U Tryz.prog := ⟨.fn 122 [.ty (Ty.i .i64), .ref (.ty (Ty.st .Seen)), .ref (.ty Ty.str), .ref (.ty (Ty.i .i64))] (.one Ty.bool) fun a => F_commit_Extend_1 a.1 a.2.1 a.2.2.1 a.2.2.2.1, fnS (K := K) sa_commit_Extend_1 11 [.tmp 5] [k_commit_ready] ⟨Tryz.f122, [], Tryz.func122, rfl, by kernel_rfl, by kernel_rfl, by kernel_rfl⟩ (by kernel_rfl) (by decide) (by kernel_rfl)⟩

/-! ### trustquorum/commit.downward -/
def sa_commit_downward_c122 : SA U :=
 (.seq
 (.reg
 (op 4 (.box (tm 1))
 (op 5 (.box (tm 2))
 (op 6 (.mov (ci 0))
 .nil))))
 (.join ⟨[.box 0 1 (Ty.i .i64) []], [4]⟩
 (.seq
 (.reg
 (op 9 (.mov (tm 0))
 (op 10 (.call 104 [(tm 9)])
 .nil)))
 (.block 0
 (.back ⟨[.box 0 1 (Ty.i .i64) []], [4, 5, 10]⟩ 160 1 none (Ty.i .i64) 10 11 12
 (.reg
 (op 8 (.mov (tm 12))
 .nil))
 (.block 1
 (.seq
 (.seq
 (.reg
 (op 13 (.mov (tm 8))
 (op 14 (.load none (tm 4))
 (op 15 (.bin .geq (tm 13) (tm 14))
 .nil))))
 (.cond (tm 15)
 (.exit 1)
 .skip))
 (.seq
 (.seq
 (.reg
 (op 16 (.load none (tm 5))
 (op 17 (.mov (tm 8))
 (op 18 (.callv (tm 16) [(tm 17)])
 (op 19 (.not (tm 18))
 .nil)))))
 (.cond (tm 19)
 (.exit 0)
 .skip))
 (.reg
 (op 20 (.mov (tm 8))
 (ops (.store 1 (tm 4) (tm 20))
 .nil)))))))))
 (.seq
 (.reg
 (op 21 (.load none (tm 4))
 (op 6 (.mov (tm 21))
 .nil)))
 .ret)))
noncomputable def F_commit_downward_c122 (a0 : (List Int)) (a1 : Int) (a2 : TSeen) (a3 : ByteArray) (a4 : Int) : Option Int :=
 letJ (fun (v1 : Int × Unit) =>
 some v1.1) fun j2 =>
 Option.bind (F_slices_Backward_int_int a0) fun r3 =>
 backO (fun (m5 : Nat) (e6 : Int) (v4 : Int × Unit) =>
 bif (decide (v4.1 ≤ e6)) then
 some (Sum.inl (v4.1, ()))
 else
 Option.bind (F_commit_Extend_1 e6 a2 a3 a4) fun r7 =>
 bif (!r7) then
 Option.map Sum.inr (j2 (v4.1, ()))
 else
 some (Sum.inl (e6, ()))) (fun (v8 : Int × Unit) =>
 j2 (v8.1, ())) (List.reverse r3.1) (a1, ())
noncomputable def k_commit_downward_c122 : KS U Tryz.prog := ⟨.fn 102 [.ty (Ty.sl (Ty.i .i64)), .ty (Ty.i .i64), .clo 122 [.ref (.ty (Ty.st .Seen)), .ref (.ty Ty.str), .ref (.ty (Ty.i .i64))]] (.one (Ty.i .i64)) fun a => F_commit_downward_c122 a.1 a.2.1 a.2.2.1.1 a.2.2.1.2.1 a.2.2.1.2.2.1, fnS (K := K) sa_commit_downward_c122 22 [.tmp 6] [k_slices_Backward_int_int, k_bk_160, k_commit_Extend_1] ⟨Tryz.f102, [], Tryz.func102, rfl, by kernel_rfl, by kernel_rfl, by kernel_rfl⟩ (by kernel_rfl) (by decide) (by kernel_rfl)⟩

/-! ### trustquorum/commit.Extend$2 -/
def sa_commit_Extend_2 : SA U :=
 (.seq
 (.reg
 (op 5 (.mov (.cst (.bool false)))
 .nil))
 (.seq
 (.reg
 (op 6 (.load (some 3) (tm 1))
 (op 7 (.load none (tm 2))
 (op 8 (.mov (tm 0))
 (op 9 (.load none (tm 3))
 (op 10 (.call 96 [(tm 6), (tm 7), (tm 8), (tm 9)])
 (op 5 (.mov (tm 10))
 .nil)))))))
 .ret))
noncomputable def F_commit_Extend_2 (a0 : Int) (a1 : TSeen) (a2 : ByteArray) (a3 : Int) : Option Bool :=
 Option.bind (F_commit_ready a1 a2 a0 a3) fun r1 =>
 some r1
noncomputable def k_commit_Extend_2 : KS U Tryz.prog := ⟨.fn 123 [.ty (Ty.i .i64), .ref (.ty (Ty.st .Seen)), .ref (.ty Ty.str), .ref (.ty (Ty.i .i64))] (.one Ty.bool) fun a => F_commit_Extend_2 a.1 a.2.1 a.2.2.1 a.2.2.2.1, fnS (K := K) sa_commit_Extend_2 11 [.tmp 5] [k_commit_ready] ⟨Tryz.f123, [], Tryz.func123, rfl, by kernel_rfl, by kernel_rfl, by kernel_rfl⟩ (by kernel_rfl) (by decide) (by kernel_rfl)⟩

/-! ### trustquorum/commit.downward -/
def sa_commit_downward_c123 : SA U :=
 (.seq
 (.reg
 (op 4 (.box (tm 1))
 (op 5 (.box (tm 2))
 (op 6 (.mov (ci 0))
 .nil))))
 (.join ⟨[.box 0 1 (Ty.i .i64) []], [4]⟩
 (.seq
 (.reg
 (op 9 (.mov (tm 0))
 (op 10 (.call 104 [(tm 9)])
 .nil)))
 (.block 0
 (.back ⟨[.box 0 1 (Ty.i .i64) []], [4, 5, 10]⟩ 160 1 none (Ty.i .i64) 10 11 12
 (.reg
 (op 8 (.mov (tm 12))
 .nil))
 (.block 1
 (.seq
 (.seq
 (.reg
 (op 13 (.mov (tm 8))
 (op 14 (.load none (tm 4))
 (op 15 (.bin .geq (tm 13) (tm 14))
 .nil))))
 (.cond (tm 15)
 (.exit 1)
 .skip))
 (.seq
 (.seq
 (.reg
 (op 16 (.load none (tm 5))
 (op 17 (.mov (tm 8))
 (op 18 (.callv (tm 16) [(tm 17)])
 (op 19 (.not (tm 18))
 .nil)))))
 (.cond (tm 19)
 (.exit 0)
 .skip))
 (.reg
 (op 20 (.mov (tm 8))
 (ops (.store 1 (tm 4) (tm 20))
 .nil)))))))))
 (.seq
 (.reg
 (op 21 (.load none (tm 4))
 (op 6 (.mov (tm 21))
 .nil)))
 .ret)))
noncomputable def F_commit_downward_c123 (a0 : (List Int)) (a1 : Int) (a2 : TSeen) (a3 : ByteArray) (a4 : Int) : Option Int :=
 letJ (fun (v1 : Int × Unit) =>
 some v1.1) fun j2 =>
 Option.bind (F_slices_Backward_int_int a0) fun r3 =>
 backO (fun (m5 : Nat) (e6 : Int) (v4 : Int × Unit) =>
 bif (decide (v4.1 ≤ e6)) then
 some (Sum.inl (v4.1, ()))
 else
 Option.bind (F_commit_Extend_2 e6 a2 a3 a4) fun r7 =>
 bif (!r7) then
 Option.map Sum.inr (j2 (v4.1, ()))
 else
 some (Sum.inl (e6, ()))) (fun (v8 : Int × Unit) =>
 j2 (v8.1, ())) (List.reverse r3.1) (a1, ())
noncomputable def k_commit_downward_c123 : KS U Tryz.prog := ⟨.fn 102 [.ty (Ty.sl (Ty.i .i64)), .ty (Ty.i .i64), .clo 123 [.ref (.ty (Ty.st .Seen)), .ref (.ty Ty.str), .ref (.ty (Ty.i .i64))]] (.one (Ty.i .i64)) fun a => F_commit_downward_c123 a.1 a.2.1 a.2.2.1.1 a.2.2.1.2.1 a.2.2.1.2.2.1, fnS (K := K) sa_commit_downward_c123 22 [.tmp 6] [k_slices_Backward_int_int, k_bk_160, k_commit_Extend_2] ⟨Tryz.f102, [], Tryz.func102, rfl, by kernel_rfl, by kernel_rfl, by kernel_rfl⟩ (by kernel_rfl) (by decide) (by kernel_rfl)⟩

/-! ### trustquorum/commit.Extend -/
def sa_commit_Extend : SA U :=
 (.seq
 (.reg
 (op 7 (.box (tm 1))
 (op 9 (.box (tm 3))
 (op 10 (.box (tm 4))
 (op 11 (.box (tm 5))
 (op 12 (.mov (ci 0))
 (op 13 (.mov (ci 0))
 .nil)))))))
 (.seq
 (.reg
 (op 19 (.mov (tm 0))
 (op 20 (.load (some 3) (tm 7))
 (op 21 (.mov (tm 2))
 (op 22 (.call 97 [(tm 19), (tm 20), (tm 21)])
 (op 14 (.alloc [.int .i64 0, .nils, .nils])
 (ops (.store 3 (tm 14) (tm 22))
 .nil)))))))
 (.seq
 (.reg
 (op 23 (.mov (tm 2))
 (op 24 (.load none (tm 9))
 (op 25 (.call 19 [(tm 23), (tm 24)])
 (op 15 (.alloc [.nils])
 (ops (.store 1 (tm 15) (tm 25))
 .nil))))))
 (.join ⟨[.box 2 1 (Ty.i .i64) [], .box 3 1 (Ty.i .i64) []], [9, 10, 11, 14, 15]⟩
 (.seq
 (.reg
 (op 26 (.load none (tm 15))
 (op 27 (.call 104 [(tm 26)])
 .nil)))
 (.block 0
 (.back ⟨[.box 2 1 (Ty.i .i64) [], .box 3 1 (Ty.i .i64) []], [9, 10, 11, 14, 15, 27]⟩ 160 1 none (Ty.i .i64) 27 28 29
 (.reg
 (op 17 (.alloc [.int .i64 0])
 (ops (.store 1 (tm 17) (tm 29))
 .nil)))
 (.block 1
 (.seq
 (.seq
 (.reg
 (op 30 (.load none (tm 17))
 (op 31 (.load none (tm 11))
 (op 32 (.bin .leq (tm 30) (tm 31))
 (op 33 (.mov (tm 32))
 (.ite 33 false
 (opg 34 33 false (.load (some 3) (tm 14))
 (opg 35 33 false (.load none (tm 9))
 (opg 36 33 false (.load none (tm 17))
 (opg 37 33 false (.load none (tm 17))
 (opg 38 33 false (.call 96 [(tm 34), (tm 35), (tm 36), (tm 37)])
 (opg 39 33 false (.not (tm 38))
 .nil))))))
 40 none (.cst (.bool true)) (tm 39)
 .nil))))))
 (.cond (tm 40)
 (.exit 1)
 .skip))
 (.seq
 (.reg
 (op 41 (.load none (tm 15))
 (op 42 (.load none (tm 17))
 (op 43 (.mkf 122 [(tm 14), (tm 9), (tm 17)])
 (op 44 (.call 102 [(tm 41), (tm 42), (tm 43)])
 (op 18 (.mov (tm 44))
 .nil))))))
 (.join ⟨[.box 2 1 (Ty.i .i64) []], [9, 10, 11, 14, 15, 17, 27]⟩
 (.seq
 (.reg
 (op 45 (.mov (tm 18))
 (op 46 (.bin .sub (tm 45) (ci 1))
 (op 47 (.load none (tm 11))
 (op 48 (.bin .gtr (tm 46) (tm 47))
 (op 49 (.mov (tm 48))
 (.ite 49 false
 (opg 50 49 false (.mov (tm 18))
 (opg 51 49 false (.load none (tm 10))
 (opg 52 49 false (.bin .lss (tm 50) (tm 51))
 .nil)))
 53 none (.cst (.bool true)) (tm 52)
 .nil)))))))
 (.cond (tm 53)
 (.reg
 (op 54 (.mov (tm 18))
 (ops (.store 1 (tm 10) (tm 54))
 .nil)))
 .skip))
 (.seq
 (.reg
 (op 55 (.load none (tm 17))
 (ops (.store 1 (tm 11) (tm 55))
 .nil)))
 (.exit 0)))))))))
 (.seq
 (.drw [(0, 1), (0, 4), (1, 4), (3, 4)]
 (op 56 (.load none (tm 15))
 (op 57 (.load none (tm 10))
 (op 58 (.mkf 123 [(tm 14), (tm 9), (tm 11)])
 (op 59 (.call 102 [(tm 56), (tm 57), (tm 58)])
 (op 60 (.load none (tm 11))
 (op 12 (.mov (tm 59))
 (op 13 (.mov (tm 60))
 .nil))))))))
 .ret)))))
noncomputable def F_commit_Extend (a0 : Int) (a1 : TTrust) (a2 : (List TEnvelope)) (a3 : ByteArray) (a4 : Int) (a5 : Int) : Option (Int × Int × Unit) :=
 Option.bind (F_prepare_Look a0 (TTrust.mk a1.Threshold a1.Nodes a1.Inner) a2) fun r1 =>
 Option.bind (F_envelopes_Bounds a2 a3) fun r2 =>
 letJ (fun (v3 : Int × Int × Unit) =>
 Option.bind (F_commit_downward_c123 r2 v3.1 r1 a3 v3.2.1) fun r5 =>
 some (r5, v3.2.1, ())) fun j4 =>
 Option.bind (F_slices_Backward_int_int r2) fun r6 =>
 backO (fun (m8 : Nat) (e9 : Int) (v7 : Int × Int × Unit) =>
 Option.bind (bif (decide (e9 ≤ v7.2.1)) then some true
 else
 Option.bind (F_commit_ready r1 a3 e9 e9) fun r10 =>
 some (!r10)) fun b11 =>
 bif b11 then
 some (Sum.inl (v7.1, v7.2.1, ()))
 else
 Option.bind (F_commit_downward_c122 r2 e9 r1 a3 e9) fun r12 =>
 letJ (fun (v13 : Int × Unit) =>
 Option.map Sum.inr (j4 (v13.1, e9, ()))) fun j14 =>
 Option.bind (bif (decide (v7.2.1 < (subI .i64 r12 (1 : Int)))) then some true
 else
 some (decide (r12 < v7.1))) fun b15 =>
 bif b15 then
 j14 (r12, ())
 else
 j14 (v7.1, ())) (fun (v16 : Int × Int × Unit) =>
 j4 (v16.1, v16.2.1, ())) (List.reverse r6.1) (a4, a5, ())
noncomputable def k_commit_Extend : KS U Tryz.prog := ⟨.fn 59 [.ty (Ty.i .i64), .ty (Ty.st .Trust), .ty (Ty.sl (Ty.st .Envelope)), .ty Ty.str, .ty (Ty.i .i64), .ty (Ty.i .i64)] (.many [(Ty.i .i64), (Ty.i .i64)]) fun a => F_commit_Extend a.1 a.2.1 a.2.2.1 a.2.2.2.1 a.2.2.2.2.1 a.2.2.2.2.2.1, fnS (K := K) sa_commit_Extend 61 [.tmp 12, .tmp 13] [k_prepare_Look, k_envelopes_Bounds, k_slices_Backward_int_int, k_bk_160, k_commit_ready, k_commit_downward_c122, k_commit_downward_c123] ⟨Tryz.f59, [], Tryz.func59, rfl, by kernel_rfl, by kernel_rfl, by kernel_rfl⟩ (by kernel_rfl) (by decide) (by kernel_rfl)⟩

/-! ### trustquorum/trustquorumlaw26.CommitRanges -/
def sa_law26_CommitRanges : SA U :=
 (.seq
 (.reg
 (op 2 (.mov (.cst (.bool false)))
 .nil))
 (.seq
 (.reg
 (op 18 (.mov (tm 0))
 (op 19 (.call 11 [(tm 18)])
 (op 3 (.mov (tm 19))
 .nil))))
 (.seq
 (.reg
 (op 20 (.mov (tm 3))
 (op 21 (.call 12 [(tm 20), (ci 5), (ci 1)])
 (op 4 (.mov (tm 21))
 .nil))))
 (.seq
 (.reg
 (op 22 (.mov (tm 3))
 (op 23 (.call 22 [(tm 22), (ci 5)])
 (op 24 (.mov (tm 3))
 (op 25 (.call 23 [(tm 24), (ci 5)])
 (op 6 (.alloc [.int .i64 0, .nils, .nils])
 (op 5 (.mov (tm 23))
 (ops (.store 3 (tm 6) (tm 25))
 .nil))))))))
 (.seq
 (.reg
 (op 27 (.mov (tm 5))
 (op 28 (.load (some 3) (tm 6))
 (op 29 (.mov (tm 4))
 (op 30 (.build [.int .i64 0, .str ⟨#[]⟩] [])
 (op 31 (.build [.int .i64 0, .str ⟨#[]⟩] [])
 (op 32 (.call 31 [(tm 27), (tm 28), (tm 29), (tm 30), (tm 31)])
 (op 26 (.mov (tm 32))
 (op 33 (.extr 0 (tm 26))
 (op 34 (.extr 1 (tm 26))
 (op 35 (.extr 2 (tm 26))
 (op 36 (.extr 3 (tm 26))
 (op 7 (.mov (tm 33))
 (op 8 (.mov (tm 34))
 (op 9 (.mov (tm 35))
 (op 10 (.mov (tm 36))
 .nil))))))))))))))))
 (.join ⟨[], [3, 4, 5, 6]⟩
 (.seq
 (.reg
 (op 37 (.mov (tm 10))
 .nil))
 (.cond (tm 37)
 (.seq
 (.seq
 (.reg
 (op 38 (.mov (tm 8))
 (op 39 (.bin .lss (tm 38) (ci 1))
 (op 40 (.mov (tm 39))
 (.ite 40 false
 (opg 41 40 false (.mov (tm 8))
 (opg 42 40 false (.mov (tm 9))
 (opg 43 40 false (.bin .gtr (tm 41) (tm 42))
 .nil)))
 44 none (.cst (.bool true)) (tm 43)
 (op 45 (.mov (tm 44))
 (.ite 45 false
 (opg 46 45 false (.mov (tm 5))
 (opg 47 45 false (.load (some 3) (tm 6))
 (opg 48 45 false (.mov (tm 4))
 (opg 49 45 false (.mov (tm 7))
 (opg 50 45 false (.mov (tm 8))
 (opg 51 45 false (.mov (tm 9))
 (opg 52 45 false (.call 26 [(tm 46), (tm 47), (tm 48), (tm 49), (tm 50), (tm 51)])
 (opg 53 45 false (.not (tm 52))
 .nil))))))))
 54 none (.cst (.bool true)) (tm 53)
 .nil)))))))
 (.cond (tm 54)
 (.seq
 (.reg
 (op 2 (.mov (.cst (.bool false)))
 .nil))
 .ret)
 .skip))
 (.seq
 (.reg
 (op 56 (.mov (tm 5))
 (op 57 (.load (some 3) (tm 6))
 (op 58 (.mov (tm 4))
 (op 59 (.mov (tm 7))
 (op 60 (.mov (tm 8))
 (op 61 (.mov (tm 9))
 (op 62 (.call 59 [(tm 56), (tm 57), (tm 58), (tm 59), (tm 60), (tm 61)])
 (op 55 (.mov (tm 62))
 (op 63 (.extr 0 (tm 55))
 (op 64 (.extr 1 (tm 55))
 (op 11 (.mov (tm 63))
 (op 12 (.mov (tm 64))
 .nil)))))))))))))
 (.seq
 (.seq
 (.reg
 (op 65 (.mov (tm 12))
 (op 66 (.mov (tm 9))
 (op 67 (.bin .lss (tm 65) (tm 66))
 (op 68 (.mov (tm 67))
 (.ite 68 false
 (opg 69 68 false (.mov (tm 11))
 (opg 70 68 false (.mov (tm 8))
 (opg 71 68 false (.bin .gtr (tm 69) (tm 70))
 (opg 72 68 false (.mov (tm 71))
 (.ite 72 true
 (opg 73 72 true (.mov (tm 11))
 (opg 74 72 true (.mov (tm 9))
 (opg 75 72 true (.bin .leq (tm 73) (tm 74))
 .nil)))
 76 (some (68, false)) (tm 75) (.cst (.bool false))
 .nil)))))
 77 none (.cst (.bool true)) (tm 76)
 .nil))))))
 (.cond (tm 77)
 (.seq
 (.reg
 (op 2 (.mov (.cst (.bool false)))
 .nil))
 .ret)
 .skip))
 (.seq
 (.reg
 (op 78 (.mov (tm 11))
 (op 13 (.mov (tm 78))
 .nil)))
 (.block 0
 (.loop ⟨[.val 13 (Ty.i .i64)], [3, 4, 5, 6, 7, 11, 12]⟩
 (.seq
 (.seq
 (.reg
 (op 79 (.mov (tm 13))
 (op 80 (.mov (tm 12))
 (op 81 (.bin .leq (tm 79) (tm 80))
 (op 82 (.mov (tm 81))
 (.ite 82 true
 (opg 83 82 true (.mov (tm 13))
 (opg 84 82 true (.mov (tm 11))
 (opg 85 82 true (.bin .add (tm 84) (ci 20))
 (opg 86 82 true (.bin .lss (tm 83) (tm 85))
 .nil))))
 87 none (tm 86) (.cst (.bool false))
 .nil))))))
 (.cond (tm 87)
 .skip
 (.exit 0)))
 (.seq
 (.block 1
 (.seq
 (.reg
 (op 90 (.mov (tm 5))
 (op 91 (.load (some 3) (tm 6))
 (op 92 (.mov (tm 4))
 (op 93 (.mov (tm 7))
 (op 94 (.mov (tm 13))
 (op 95 (.mov (tm 13))
 (op 96 (.call 26 [(tm 90), (tm 91), (tm 92), (tm 93), (tm 94), (tm 95)])
 (op 97 (.not (tm 96))
 .nil)))))))))
 (.cond (tm 97)
 (.seq
 (.reg
 (op 2 (.mov (.cst (.bool false)))
 .nil))
 .ret)
 .skip)))
 (.reg
 (op 88 (.mov (tm 13))
 (op 89 (.bin .add (tm 88) (ci 1))
 (op 13 (.mov (tm 89))
 .nil))))))))))))
 .skip))
 (.seq
 (.reg
 (op 98 (.mov (tm 3))
 (op 99 (.call 24 [(tm 98)])
 (op 14 (.mov (tm 99))
 .nil))))
 (.seq
 (.reg
 (op 101 (.mov (tm 5))
 (op 102 (.load (some 3) (tm 6))
 (op 103 (.mov (tm 4))
 (op 104 (.mov (tm 14))
 (op 105 (.call 32 [(tm 101), (tm 102), (tm 103), (tm 104)])
 (op 100 (.mov (tm 105))
 (op 106 (.extr 0 (tm 100))
 (op 107 (.extr 1 (tm 100))
 (op 108 (.extr 2 (tm 100))
 (op 15 (.mov (tm 106))
 (op 16 (.mov (tm 107))
 (op 17 (.mov (tm 108))
 .nil)))))))))))))
 (.seq
 (.seq
 (.reg
 (op 109 (.mov (tm 17))
 (op 110 (.mov (tm 109))
 (.ite 110 true
 (opg 111 110 true (.mov (tm 15))
 (opg 112 110 true (.mov (tm 16))
 (opg 113 110 true (.bin .gtr (tm 111) (tm 112))
 (opg 114 110 true (.mov (tm 113))
 (.ite 114 false
 (opg 115 114 false (.mov (tm 5))
 (opg 116 114 false (.load (some 3) (tm 6))
 (opg 117 114 false (.mov (tm 4))
 (opg 118 114 false (.mov (tm 14))
 (opg 119 114 false (.mov (tm 15))
 (opg 120 114 false (.mov (tm 16))
 (opg 121 114 false (.call 27 [(tm 115), (tm 116), (tm 117), (tm 118), (tm 119), (tm 120)])
 (opg 122 114 false (.not (tm 121))
 .nil))))))))
 123 (some (110, true)) (.cst (.bool true)) (tm 122)
 (opg 124 110 true (.mov (tm 123))
 (.ite 124 false
 (opg 125 124 false (.mov (tm 5))
 (opg 126 124 false (.load (some 3) (tm 6))
 (opg 127 124 false (.mov (tm 4))
 (opg 128 124 false (.mov (tm 14))
 (opg 129 124 false (.mov (tm 16))
 (opg 130 124 false (.mov (tm 16))
 (opg 131 124 false (.call 27 [(tm 125), (tm 126), (tm 127), (tm 128), (tm 129), (tm 130)])
 (opg 132 124 false (.not (tm 131))
 .nil))))))))
 133 (some (110, true)) (.cst (.bool true)) (tm 132)
 .nil)))))))
 134 none (tm 133) (.cst (.bool false))
 .nil))))
 (.cond (tm 134)
 (.seq
 (.reg
 (op 2 (.mov (.cst (.bool false)))
 .nil))
 .ret)
 .skip))
 (.seq
 (.reg
 (op 135 (.call 29 [])
 (op 2 (.mov (tm 135))
 .nil)))
 .ret))))))))))
noncomputable def F_law26_CommitRanges (a0 : (List Int)) : Option Bool :=
 Option.bind (F_play_New a0) fun r1 =>
 Option.bind (F_play_Src_Envelopes r1 (5 : Int) (1 : Int)) fun p2 =>
 Option.bind (F_play_Src_N p2.2 (5 : Int)) fun p3 =>
 Option.bind (F_play_Src_Trust p3.2 (5 : Int)) fun p4 =>
 Option.bind (F_commit_First p3.1 (TTrust.mk p4.1.Threshold p4.1.Nodes p4.1.Inner) p2.1 (TBallot.mk (0 : Int) (ByteArray.mk #[])) (TBallot.mk (0 : Int) (ByteArray.mk #[]))) fun r5 =>
 letJ (fun (v6 : Unit) =>
 Option.bind (F_play_Src_Value p4.2) fun p8 =>
 Option.bind (F_commit_Final p3.1 (TTrust.mk p4.1.Threshold p4.1.Nodes p4.1.Inner) p2.1 p8.1) fun r9 =>
 Option.bind (bif r9.2.2.1 then
 Option.bind (bif (decide (r9.2.1 < r9.1)) then some true
 else
 Option.bind (F_commit_Confirms p3.1 (TTrust.mk p4.1.Threshold p4.1.Nodes p4.1.Inner) p2.1 p8.1 r9.1 r9.2.1) fun r10 =>
 some (!r10)) fun b11 =>
 Option.bind (bif b11 then some true
 else
 Option.bind (F_commit_Confirms p3.1 (TTrust.mk p4.1.Threshold p4.1.Nodes p4.1.Inner) p2.1 p8.1 r9.2.1 r9.2.1) fun r12 =>
 some (!r12)) fun b13 =>
 some b13
 else some false) fun b14 =>
 bif b14 then
 some false
 else
 Option.bind (F_law26_sane) fun r15 =>
 some r15) fun j7 =>
 bif r5.2.2.2.1 then
 Option.bind (bif (decide (r5.2.1 < (1 : Int))) then some true
 else
 some (decide (r5.2.2.1 < r5.2.1))) fun b16 =>
 Option.bind (bif b16 then some true
 else
 Option.bind (F_commit_Accepts p3.1 (TTrust.mk p4.1.Threshold p4.1.Nodes p4.1.Inner) p2.1 r5.1 r5.2.1 r5.2.2.1) fun r17 =>
 some (!r17)) fun b18 =>
 bif b18 then
 some false
 else
 Option.bind (F_commit_Extend p3.1 (TTrust.mk p4.1.Threshold p4.1.Nodes p4.1.Inner) p2.1 r5.1 r5.2.1 r5.2.2.1) fun r19 =>
 Option.bind (bif (decide (r19.2.1 < r5.2.2.1)) then some true
 else
 Option.bind (bif (decide (r5.2.1 < r19.1)) then
 some (decide (r19.1 ≤ r5.2.2.1))
 else some false) fun b20 =>
 some b20) fun b21 =>
 bif b21 then
 some false
 else
 loopO (fun (v22 : Int × Unit) =>
 Option.bind (bif (decide (v22.1 ≤ r19.2.1)) then
 some (decide (v22.1 < (addI .i64 r19.1 (20 : Int))))
 else some false) fun b23 =>
 bif b23 then
 Option.bind (F_commit_Accepts p3.1 (TTrust.mk p4.1.Threshold p4.1.Nodes p4.1.Inner) p2.1 r5.1 v22.1 v22.1) fun r24 =>
 bif (!r24) then
 Option.map Sum.inr (some false)
 else
 some (Sum.inl ((addI .i64 v22.1 (1 : Int)), ()))
 else
 Option.map Sum.inr (j7 (()))) (r19.1, ())
 else
 j7 (())
noncomputable def k_law26_CommitRanges : KS U Tryz.prog := ⟨.fn 9 [.ty (Ty.sl (Ty.i .i64))] (.one Ty.bool) fun a => F_law26_CommitRanges a.1, fnS (K := K) sa_law26_CommitRanges 136 [.tmp 2] [k_play_New, k_play_Src_Envelopes, k_play_Src_N, k_play_Src_Trust, k_commit_First, k_commit_Accepts, k_commit_Extend, k_play_Src_Value, k_commit_Final, k_commit_Confirms, k_law26_sane] ⟨Tryz.f9, [], Tryz.func9, rfl, by kernel_rfl, by kernel_rfl, by kernel_rfl⟩ (by kernel_rfl) (by decide) (by kernel_rfl)⟩

end Go.Proofs.YtncjalhhkmojlaaGreat
