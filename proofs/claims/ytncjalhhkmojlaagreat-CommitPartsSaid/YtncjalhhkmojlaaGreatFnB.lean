/-
  Functions of the program as plain functions, each held against the program by the kernel. Printed by a program.
-/
import Derived.Test.YtncjalhhkmojlaaGreatFnA
import Derived.Test.YtncjalhhkmojlaaGreatProg
import Derived.KernelRfl
set_option linter.unusedVariables false
namespace Go.Proofs.YtncjalhhkmojlaaGreat
open Go.TQ

/-! ### slices.pdqsortCmpFunc[int] -/
def sa_slices_pdqsortCmpFunc_int_c93 : SA U :=
 (.seq
 (.reg
 (op 10 (.mov (.cst (.bool true)))
 .nil))
 (.seq
 (.reg
 (op 11 (.mov (.cst (.bool true)))
 .nil))
 (.block 0
 (.loop ⟨[.val 1 (Ty.i .i64), .val 2 (Ty.i .i64), .val 3 (Ty.i .i64), .val 10 Ty.bool, .val 11 Ty.bool, .own 0 0 0 3 1 (Ty.i .i64)], [4]⟩
 (.block 1
 (.seq
 (.reg
 (op 21 (.mov (tm 2))
 (op 22 (.mov (tm 1))
 (op 23 (.bin .sub (tm 21) (tm 22))
 (op 12 (.mov (tm 23))
 .nil)))))
 (.seq
 (.seq
 (.reg
 (op 24 (.mov (tm 12))
 (op 25 (.bin .leq (tm 24) (ci 12))
 .nil)))
 (.cond (tm 25)
 (.seq
 (.reg
 (op 26 (.mov (tm 0))
 (op 27 (.mov (tm 1))
 (op 28 (.mov (tm 2))
 (op 29 (.mov (tm 4))
 (op 30 (.call 218 [(tm 26), (tm 27), (tm 28), (tm 29)])
 .nil))))))
 .ret)
 .skip))
 (.seq
 (.seq
 (.reg
 (op 31 (.mov (tm 3))
 (op 32 (.bin .eql (tm 31) (ci 0))
 .nil)))
 (.cond (tm 32)
 (.seq
 (.reg
 (op 33 (.mov (tm 0))
 (op 34 (.mov (tm 1))
 (op 35 (.mov (tm 2))
 (op 36 (.mov (tm 4))
 (op 37 (.call 219 [(tm 33), (tm 34), (tm 35), (tm 36)])
 .nil))))))
 .ret)
 .skip))
 (.join ⟨[.val 3 (Ty.i .i64), .own 0 0 0 3 1 (Ty.i .i64)], [1, 2, 4, 10, 11, 12]⟩
 (.seq
 (.reg
 (op 38 (.mov (tm 10))
 (op 39 (.not (tm 38))
 .nil)))
 (.cond (tm 39)
 (.seq
 (.reg
 (op 40 (.mov (tm 0))
 (op 41 (.mov (tm 1))
 (op 42 (.mov (tm 2))
 (op 43 (.mov (tm 4))
 (op 44 (.call 220 [(tm 40), (tm 41), (tm 42), (tm 43)])
 .nil))))))
 (.reg
 (op 45 (.mov (tm 3))
 (op 46 (.bin .sub (tm 45) (ci 1))
 (op 3 (.mov (tm 46))
 .nil)))))
 .skip))
 (.seq
 (.reg
 (op 48 (.mov (tm 0))
 (op 49 (.mov (tm 1))
 (op 50 (.mov (tm 2))
 (op 51 (.mov (tm 4))
 (op 52 (.call 221 [(tm 48), (tm 49), (tm 50), (tm 51)])
 (op 47 (.mov (tm 52))
 (op 53 (.extr 0 (tm 47))
 (op 54 (.extr 1 (tm 47))
 (op 13 (.mov (tm 53))
 (op 14 (.mov (tm 54))
 .nil)))))))))))
 (.join ⟨[.val 13 (Ty.i .i64), .val 14 (Ty.i .i64), .own 0 0 0 3 1 (Ty.i .i64)], [1, 2, 3, 4, 10, 11, 12]⟩
 (.seq
 (.reg
 (op 55 (.mov (tm 14))
 (op 56 (.bin .eql (tm 55) (ci 2))
 .nil)))
 (.cond (tm 56)
 (.seq
 (.reg
 (op 57 (.mov (tm 0))
 (op 58 (.mov (tm 1))
 (op 59 (.mov (tm 2))
 (op 60 (.mov (tm 4))
 (op 61 (.call 222 [(tm 57), (tm 58), (tm 59), (tm 60)])
 .nil))))))
 (.seq
 (.reg
 (op 62 (.mov (tm 2))
 (op 63 (.bin .sub (tm 62) (ci 1))
 (op 64 (.mov (tm 13))
 (op 65 (.mov (tm 1))
 (op 66 (.bin .sub (tm 64) (tm 65))
 (op 67 (.bin .sub (tm 63) (tm 66))
 (op 13 (.mov (tm 67))
 .nil))))))))
 (.reg
 (op 14 (.mov (ci 1))
 .nil))))
 .skip))
 (.join ⟨[.own 0 0 0 3 1 (Ty.i .i64)], [1, 2, 3, 4, 10, 11, 12, 13]⟩
 (.seq
 (.reg
 (op 68 (.mov (tm 10))
 (op 69 (.mov (tm 68))
 (.ite 69 true
 (opg 70 69 true (.mov (tm 11))
 .nil)
 71 none (tm 70) (.cst (.bool false))
 (op 72 (.mov (tm 71))
 (.ite 72 true
 (opg 73 72 true (.mov (tm 14))
 (opg 74 72 true (.bin .eql (tm 73) (ci 1))
 .nil))
 75 none (tm 74) (.cst (.bool false))
 .nil))))))
 (.cond (tm 75)
 (.seq
 (.reg
 (op 76 (.mov (tm 0))
 (op 77 (.mov (tm 1))
 (op 78 (.mov (tm 2))
 (op 79 (.mov (tm 4))
 (op 80 (.call 223 [(tm 76), (tm 77), (tm 78), (tm 79)])
 .nil))))))
 (.cond (tm 80)
 .ret
 .skip))
 .skip))
 (.seq
 (.join ⟨[.val 97 Ty.bool], [0, 1, 2, 3, 4, 10, 11, 12, 13]⟩
 (.drw [(7, 11), (8, 11), (7, 12), (8, 12)]
 (op 81 (.mov (tm 1))
 (op 82 (.bin .gtr (tm 81) (ci 0))
 (op 83 (.mov (tm 82))
 (.spl 83
 (opg 84 83 true (.mov (tm 4))
 (opg 85 83 true (.mov (tm 0))
 (opg 86 83 true (.mov (tm 1))
 (opg 87 83 true (.bin .sub (tm 86) (ci 1))
 (opg 88 83 true (.iaddr 1 (tm 85) (tm 87))
 (opg 89 83 true (.load none (tm 88))
 (opg 90 83 true (.mov (tm 0))
 (opg 91 83 true (.mov (tm 13))
 (opg 92 83 true (.iaddr 1 (tm 90) (tm 91))
 (opg 93 83 true (.load none (tm 92))
 (opg 94 83 true (.callv (tm 84) [(tm 89), (tm 93)])
 (opg 95 83 true (.bin .lss (tm 94) (ci 0))
 (opg 96 83 true (.not (tm 95))
 (op 97 (.pick (tm 83) (tm 96) (.cst (.bool false)))
 .nil)))))))))))))))))))
 (.cond (tm 97)
 (.seq
 (.reg
 (op 98 (.mov (tm 0))
 (op 99 (.mov (tm 1))
 (op 100 (.mov (tm 2))
 (op 101 (.mov (tm 13))
 (op 102 (.mov (tm 4))
 (op 103 (.call 224 [(tm 98), (tm 99), (tm 100), (tm 101), (tm 102)])
 (op 15 (.mov (tm 103))
 .nil))))))))
 (.seq
 (.reg
 (op 104 (.mov (tm 15))
 (op 1 (.mov (tm 104))
 .nil)))
 (.exit 1)))
 .skip))
 (.seq
 (.reg
 (op 106 (.mov (tm 0))
 (op 107 (.mov (tm 1))
 (op 108 (.mov (tm 2))
 (op 109 (.mov (tm 13))
 (op 110 (.mov (tm 4))
 (op 111 (.call 225 [(tm 106), (tm 107), (tm 108), (tm 109), (tm 110)])
 (op 105 (.mov (tm 111))
 (op 112 (.extr 0 (tm 105))
 (op 113 (.extr 1 (tm 105))
 (op 16 (.mov (tm 112))
 (op 17 (.mov (tm 113))
 .nil))))))))))))
 (.seq
 (.reg
 (op 114 (.mov (tm 17))
 (op 11 (.mov (tm 114))
 .nil)))
 (.seq
 (.reg
 (op 115 (.mov (tm 16))
 (op 116 (.mov (tm 1))
 (op 117 (.bin .sub (tm 115) (tm 116))
 (op 118 (.mov (tm 2))
 (op 119 (.mov (tm 16))
 (op 120 (.bin .sub (tm 118) (tm 119))
 (op 18 (.mov (tm 117))
 (op 19 (.mov (tm 120))
 .nil)))))))))
 (.seq
 (.reg
 (op 121 (.mov (tm 12))
 (op 122 (.bin .quo (tm 121) (ci 8))
 (op 20 (.mov (tm 122))
 .nil))))
 (.seq
 (.reg
 (op 123 (.mov (tm 18))
 (op 124 (.mov (tm 19))
 (op 125 (.bin .lss (tm 123) (tm 124))
 .nil))))
 (.cond (tm 125)
 (.seq
 (.reg
 (op 126 (.mov (tm 18))
 (op 127 (.mov (tm 20))
 (op 128 (.bin .geq (tm 126) (tm 127))
 (op 10 (.mov (tm 128))
 .nil)))))
 (.seq
 (.reg
 (op 129 (.mov (tm 0))
 (op 130 (.mov (tm 1))
 (op 131 (.mov (tm 16))
 (op 132 (.mov (tm 3))
 (op 133 (.mov (tm 4))
 (op 134 (.call 184 [(tm 129), (tm 130), (tm 131), (tm 132), (tm 133)])
 .nil)))))))
 (.reg
 (op 135 (.mov (tm 16))
 (op 136 (.bin .add (tm 135) (ci 1))
 (op 1 (.mov (tm 136))
 .nil))))))
 (.seq
 (.reg
 (op 137 (.mov (tm 19))
 (op 138 (.mov (tm 20))
 (op 139 (.bin .geq (tm 137) (tm 138))
 (op 10 (.mov (tm 139))
 .nil)))))
 (.seq
 (.reg
 (op 140 (.mov (tm 0))
 (op 141 (.mov (tm 16))
 (op 142 (.bin .add (tm 141) (ci 1))
 (op 143 (.mov (tm 2))
 (op 144 (.mov (tm 3))
 (op 145 (.mov (tm 4))
 (op 146 (.call 184 [(tm 140), (tm 142), (tm 143), (tm 144), (tm 145)])
 .nil))))))))
 (.reg
 (op 147 (.mov (tm 16))
 (op 2 (.mov (tm 147))
 .nil))))))))))))))))))))))))
theorem ok_slices_pdqsortCmpFunc_int_c93 : FnOk Tryz.prog 184 148 (SA.erase sa_slices_pdqsortCmpFunc_int_c93) [] := ⟨Tryz.f184, [], Tryz.func184, rfl, by kernel_rfl, by kernel_rfl, by kernel_rfl⟩
noncomputable def B_slices_pdqsortCmpFunc_int_c93 (rec : List Int → (Int × Int × Int × (Unit) × Unit) → Option ((Unit) × List Int)) (s : List Int) (a0 : Int) (a1 : Int) (a2 : Int) : Option ((Unit) × List Int) :=
 loopO (fun (v1 : Int × Int × Int × Bool × Bool × (List Int) × Unit) =>
 bif (decide ((subI .i64 v1.2.1 v1.1) ≤ (12 : Int))) then
 Option.bind (F_slices_insertionSortCmpFunc_int_c93 v1.2.2.2.2.2.1 v1.1 v1.2.1) fun p2 =>
 Option.map Sum.inr (some ((()), p2.2))
 else
 bif (decide (v1.2.2.1 = (0 : Int))) then
 Option.bind (F_slices_heapSortCmpFunc_int_c93 v1.2.2.2.2.2.1 v1.1 v1.2.1) fun p3 =>
 Option.map Sum.inr (some ((()), p3.2))
 else
 letJ (fun (v4 : Int × (List Int) × Unit) =>
 Option.bind (F_slices_choosePivotCmpFunc_int_c93 v4.2.1 v1.1 v1.2.1) fun r6 =>
 letJ (fun (v7 : Int × Int × (List Int) × Unit) =>
 letJ (fun (v9 : (List Int) × Unit) =>
 letJ (fun (v11 : Bool × Unit) =>
 bif v11.1 then
 Option.bind (F_slices_partitionEqualCmpFunc_int_c93 v9.1 v1.1 v1.2.1 v7.1) fun p13 =>
 some (Sum.inl (p13.1, v1.2.1, v4.1, v1.2.2.2.1, v1.2.2.2.2.1, p13.2, ()))
 else
 Option.bind (F_slices_partitionCmpFunc_int_c93 v9.1 v1.1 v1.2.1 v7.1) fun p14 =>
 bif (decide ((subI .i64 p14.1.1 v1.1) < (subI .i64 v1.2.1 p14.1.1))) then
 Option.bind (rec p14.2 (v1.1, p14.1.1, v4.1, (()), ())) fun p15 =>
 some (Sum.inl ((addI .i64 p14.1.1 (1 : Int)), v1.2.1, v4.1, (decide ((quoI .i64 (subI .i64 v1.2.1 v1.1) (8 : Int)) ≤ (subI .i64 p14.1.1 v1.1))), p14.1.2.1, p15.2, ()))
 else
 Option.bind (rec p14.2 ((addI .i64 p14.1.1 (1 : Int)), v1.2.1, v4.1, (()), ())) fun p16 =>
 some (Sum.inl (v1.1, p14.1.1, v4.1, (decide ((quoI .i64 (subI .i64 v1.2.1 v1.1) (8 : Int)) ≤ (subI .i64 v1.2.1 p14.1.1))), p14.1.2.1, p16.2, ()))) fun j12 =>
 bif (decide ((0 : Int) < v1.1)) then
 Option.bind (idx v9.1 (subI .i64 v1.1 (1 : Int))) fun x17 =>
 Option.bind (v9.1[(Int.toNat (subI .i64 v1.1 (1 : Int)))]?) fun x18 =>
 Option.bind (idx v9.1 v7.1) fun x19 =>
 Option.bind (v9.1[(Int.toNat v7.1)]?) fun x20 =>
 Option.bind (F_cmp_Compare_int x18 x20) fun r21 =>
 j12 ((!(decide (r21 < (0 : Int)))), ())
 else
 j12 (false, ())) fun j10 =>
 Option.bind (bif v1.2.2.2.1 then
 some v1.2.2.2.2.1
 else some false) fun b22 =>
 Option.bind (bif b22 then
 some (decide (v7.2.1 = (1 : Int)))
 else some false) fun b23 =>
 bif b23 then
 Option.bind (F_slices_partialInsertionSortCmpFunc_int_c93 v7.2.2.1 v1.1 v1.2.1) fun p24 =>
 bif p24.1 then
 Option.map Sum.inr (some ((()), p24.2))
 else
 j10 (p24.2, ())
 else
 j10 (v7.2.2.1, ())) fun j8 =>
 bif (decide (r6.2.1 = (2 : Int))) then
 Option.bind (F_slices_reverseRangeCmpFunc_int_c93 v4.2.1 v1.1 v1.2.1) fun p25 =>
 j8 ((subI .i64 (subI .i64 v1.2.1 (1 : Int)) (subI .i64 r6.1 v1.1)), (1 : Int), p25.2, ())
 else
 j8 (r6.1, r6.2.1, v4.2.1, ())) fun j5 =>
 bif (!v1.2.2.2.1) then
 Option.bind (F_slices_breakPatternsCmpFunc_int_c93 v1.2.2.2.2.2.1 v1.1 v1.2.1) fun p26 =>
 j5 ((subI .i64 v1.2.2.1 (1 : Int)), p26.2, ())
 else
 j5 (v1.2.2.1, v1.2.2.2.2.2.1, ())) (a0, a1, a2, true, true, s, ())
noncomputable def I_slices_pdqsortCmpFunc_int_c93 : Nat → List Int → (Int × Int × Int × (Unit) × Unit) → Option ((Unit) × List Int) := iterF2 (fun rec s a => B_slices_pdqsortCmpFunc_int_c93 rec s a.1 a.2.1 a.2.2.1)
noncomputable def F_slices_pdqsortCmpFunc_int_c93 (s : List Int) (a0 : Int) (a1 : Int) (a2 : Int) : Option ((Unit) × List Int) := I_slices_pdqsortCmpFunc_int_c93 (List.length s + 1) s (a0, a1, a2, (()), ())
noncomputable def k_slices_pdqsortCmpFunc_int_c93 : KFun U := .rw 184 3 1 (Ty.i .i64) [.ty (Ty.i .i64), .ty (Ty.i .i64), .ty (Ty.i .i64), .clo 93 []] (.many []) fun s a => F_slices_pdqsortCmpFunc_int_c93 s a.1 a.2.1 a.2.2.1
theorem e_slices_pdqsortCmpFunc_int_c93 : (fun G => rwK K (.rw 184 3 1 (Ty.i .i64) [.ty (Ty.i .i64), .ty (Ty.i .i64), .ty (Ty.i .i64), .clo 93 []] (.many []) G :: [k_slices_insertionSortCmpFunc_int_c93, k_slices_heapSortCmpFunc_int_c93, k_slices_breakPatternsCmpFunc_int_c93, k_slices_choosePivotCmpFunc_int_c93, k_slices_reverseRangeCmpFunc_int_c93, k_slices_partialInsertionSortCmpFunc_int_c93, k_cmp_Compare_int, k_slices_partitionEqualCmpFunc_int_c93, k_slices_partitionCmpFunc_int_c93]) sa_slices_pdqsortCmpFunc_int_c93 [] 3 1 (Ty.i .i64) [.ty (Ty.i .i64), .ty (Ty.i .i64), .ty (Ty.i .i64), .clo 93 []] (.many [])) = (fun G s a => B_slices_pdqsortCmpFunc_int_c93 G s a.1 a.2.1 a.2.2.1) := by kernel_rfl
theorem n_slices_pdqsortCmpFunc_int_c93 : ∀ n, KFun.Sound (U := U) Tryz.prog (.rw 184 3 1 (Ty.i .i64) [.ty (Ty.i .i64), .ty (Ty.i .i64), .ty (Ty.i .i64), .clo 93 []] (.many []) (I_slices_pdqsortCmpFunc_int_c93 n))
  | 0 => ⟨ok_slices_pdqsortCmpFunc_int_c93.enters, fun s a r ys h => by cases h⟩
  | n + 1 => rwK_sound (K := K) (r := .many []) (e := 3) (k := 1) (T := (Ty.i .i64)) («as» := [.ty (Ty.i .i64), .ty (Ty.i .i64), .ty (Ty.i .i64), .clo 93 []]) (Γ := .rw 184 3 1 (Ty.i .i64) [.ty (Ty.i .i64), .ty (Ty.i .i64), .ty (Ty.i .i64), .clo 93 []] (.many []) (I_slices_pdqsortCmpFunc_int_c93 n) :: [k_slices_insertionSortCmpFunc_int_c93, k_slices_heapSortCmpFunc_int_c93, k_slices_breakPatternsCmpFunc_int_c93, k_slices_choosePivotCmpFunc_int_c93, k_slices_reverseRangeCmpFunc_int_c93, k_slices_partialInsertionSortCmpFunc_int_c93, k_cmp_Compare_int, k_slices_partitionEqualCmpFunc_int_c93, k_slices_partitionCmpFunc_int_c93]) (F := I_slices_pdqsortCmpFunc_int_c93 (n + 1)) ok_slices_pdqsortCmpFunc_int_c93 (by kernel_rfl) (by decide) ⟨n_slices_pdqsortCmpFunc_int_c93 n, s_slices_insertionSortCmpFunc_int_c93, s_slices_heapSortCmpFunc_int_c93, s_slices_breakPatternsCmpFunc_int_c93, s_slices_choosePivotCmpFunc_int_c93, s_slices_reverseRangeCmpFunc_int_c93, s_slices_partialInsertionSortCmpFunc_int_c93, s_cmp_Compare_int, s_slices_partitionEqualCmpFunc_int_c93, s_slices_partitionCmpFunc_int_c93, trivial⟩ (fun s a => congrFun (congrFun (congrFun e_slices_pdqsortCmpFunc_int_c93 (I_slices_pdqsortCmpFunc_int_c93 n)) s) a)
theorem s_slices_pdqsortCmpFunc_int_c93 : KFun.Sound (U := U) Tryz.prog k_slices_pdqsortCmpFunc_int_c93 := ⟨ok_slices_pdqsortCmpFunc_int_c93.enters, fun s a r ys h => (n_slices_pdqsortCmpFunc_int_c93 _).2 s a r ys h⟩

/-! ### slices.SortFunc[[]int,int] -/
def sa_slices_SortFunc_int_int_c93 : SA U :=
 (.seq
 (.reg
 (op 5 (.mov (tm 0))
 (op 6 (.len false (tm 5))
 (op 4 (.mov (tm 6))
 .nil))))
 (.reg
 (op 7 (.mov (tm 0))
 (op 8 (.mov (tm 4))
 (op 9 (.mov (tm 4))
 (op 10 (.conv .u64 (tm 9))
 (op 11 (.call 181 [(tm 10)])
 (op 12 (.mov (tm 1))
 (op 13 (.call 184 [(tm 7), (ci 0), (tm 8), (tm 11), (tm 12)])
 .nil)))))))))
theorem ok_slices_SortFunc_int_int_c93 : FnOk Tryz.prog 152 14 (SA.erase sa_slices_SortFunc_int_int_c93) [] := ⟨Tryz.f152, [], Tryz.func152, rfl, by kernel_rfl, by kernel_rfl, by kernel_rfl⟩
noncomputable def F_slices_SortFunc_int_int_c93 (s : List Int)  : Option ((Unit) × List Int) :=
 Option.bind (F_math_bits_Len (convI .u64 ((List.length s : Nat) : Int))) fun r1 =>
 Option.bind (F_slices_pdqsortCmpFunc_int_c93 s (0 : Int) ((List.length s : Nat) : Int) r1) fun p2 =>
 some ((()), p2.2)
noncomputable def k_slices_SortFunc_int_int_c93 : KFun U := .rw 152 3 1 (Ty.i .i64) [.clo 93 []] (.many []) fun s a => F_slices_SortFunc_int_int_c93 s 
theorem e_slices_SortFunc_int_int_c93 : rwK K [k_math_bits_Len, k_slices_pdqsortCmpFunc_int_c93] sa_slices_SortFunc_int_int_c93 [] 3 1 (Ty.i .i64) [.clo 93 []] (.many []) = fun s a => F_slices_SortFunc_int_int_c93 s  := by kernel_rfl
theorem s_slices_SortFunc_int_int_c93 : KFun.Sound (U := U) Tryz.prog k_slices_SortFunc_int_int_c93 := rwK_sound (K := K) (Γ := [k_math_bits_Len, k_slices_pdqsortCmpFunc_int_c93]) ok_slices_SortFunc_int_int_c93 (by kernel_rfl) (by decide) ⟨s_math_bits_Len, s_slices_pdqsortCmpFunc_int_c93, trivial⟩ (fun s a => congrFun (congrFun e_slices_SortFunc_int_int_c93 s) a)

/-! ### slices.Compact[[]int,int] -/
def sa_slices_Compact_int_int : SA U :=
 (.seq
 (.reg
 (op 2 (.mov (.cst (.nils)))
 .nil))
 (.seq
 (.seq
 (.reg
 (op 6 (.mov (tm 0))
 (op 7 (.len false (tm 6))
 (op 8 (.bin .lss (tm 7) (ci 2))
 .nil))))
 (.cond (tm 8)
 (.seq
 (.reg
 (op 9 (.mov (tm 0))
 (op 2 (.mov (tm 9))
 .nil)))
 .ret)
 .skip))
 (.seq
 (.seq
 (.reg
 (op 3 (.mov (ci 1))
 .nil))
 (.block 0
 (.loop ⟨[.val 3 (Ty.i .i64), .own 0 0 0 3 1 (Ty.i .i64)], []⟩
 (.seq
 (.seq
 (.reg
 (op 10 (.mov (tm 3))
 (op 11 (.mov (tm 0))
 (op 12 (.len false (tm 11))
 (op 13 (.bin .lss (tm 10) (tm 12))
 .nil)))))
 (.cond (tm 13)
 .skip
 (.exit 0)))
 (.seq
 (.block 1
 (.seq
 (.drw [(2, 7), (3, 7), (2, 8), (3, 8)]
 (op 16 (.mov (tm 0))
 (op 17 (.mov (tm 3))
 (op 18 (.iaddr 1 (tm 16) (tm 17))
 (op 19 (.load none (tm 18))
 (op 20 (.mov (tm 0))
 (op 21 (.mov (tm 3))
 (op 22 (.bin .sub (tm 21) (ci 1))
 (op 23 (.iaddr 1 (tm 20) (tm 22))
 (op 24 (.load none (tm 23))
 (op 25 (.bin .eql (tm 19) (tm 24))
 .nil)))))))))))
 (.cond (tm 25)
 (.seq
 (.reg
 (op 26 (.mov (tm 0))
 (op 27 (.mov (tm 3))
 (op 28 (.slc 1 (tm 26) (some (tm 27)) none)
 (op 4 (.mov (tm 28))
 .nil)))))
 (.seq
 (.seq
 (.reg
 (op 5 (.mov (ci 1))
 .nil))
 (.block 2
 (.loop ⟨[.val 3 (Ty.i .i64), .val 5 (Ty.i .i64), .own 0 0 0 3 1 (Ty.i .i64)], [4]⟩
 (.seq
 (.seq
 (.reg
 (op 29 (.mov (tm 5))
 (op 30 (.mov (tm 4))
 (op 31 (.len false (tm 30))
 (op 32 (.bin .lss (tm 29) (tm 31))
 .nil)))))
 (.cond (tm 32)
 .skip
 (.exit 2)))
 (.join ⟨[.val 3 (Ty.i .i64), .own 0 0 0 3 1 (Ty.i .i64)], [4, 5]⟩
 (.block 3
 (.seq
 (.drw [(2, 7), (3, 7), (2, 8), (3, 8)]
 (op 35 (.mov (tm 4))
 (op 36 (.mov (tm 5))
 (op 37 (.iaddr 1 (tm 35) (tm 36))
 (op 38 (.load none (tm 37))
 (op 39 (.mov (tm 4))
 (op 40 (.mov (tm 5))
 (op 41 (.bin .sub (tm 40) (ci 1))
 (op 42 (.iaddr 1 (tm 39) (tm 41))
 (op 43 (.load none (tm 42))
 (op 44 (.bin .neq (tm 38) (tm 43))
 .nil)))))))))))
 (.cond (tm 44)
 (.seq
 (.reg
 (op 45 (.mov (tm 0))
 (op 46 (.mov (tm 3))
 (op 47 (.mov (tm 4))
 (op 48 (.mov (tm 5))
 (op 49 (.iaddr 1 (tm 47) (tm 48))
 (op 50 (.load none (tm 49))
 (op 51 (.iaddr 1 (tm 45) (tm 46))
 (ops (.store 1 (tm 51) (tm 50))
 .nil)))))))))
 (.reg
 (op 52 (.mov (tm 3))
 (op 53 (.bin .add (tm 52) (ci 1))
 (op 3 (.mov (tm 53))
 .nil)))))
 .skip)))
 (.reg
 (op 33 (.mov (tm 5))
 (op 34 (.bin .add (tm 33) (ci 1))
 (op 5 (.mov (tm 34))
 .nil)))))))))
 (.seq
 (.reg
 (op 54 (.mov (tm 0))
 (op 55 (.mov (tm 3))
 (op 56 (.slc 1 (tm 54) (some (tm 55)) none)
 (ops (.clear 1 [.int .i64 0] (tm 56))
 .nil)))))
 (.seq
 (.reg
 (op 57 (.mov (tm 0))
 (op 58 (.mov (tm 3))
 (op 59 (.slc 1 (tm 57) none (some (tm 58)))
 (op 2 (.mov (tm 59))
 (.ps (.cut 2)
 .nil))))))
 .ret))))
 .skip)))
 (.reg
 (op 14 (.mov (tm 3))
 (op 15 (.bin .add (tm 14) (ci 1))
 (op 3 (.mov (tm 15))
 .nil)))))))))
 (.seq
 (.reg
 (op 60 (.mov (tm 0))
 (op 2 (.mov (tm 60))
 .nil)))
 .ret))))
theorem ok_slices_Compact_int_int : FnOk Tryz.prog 153 61 (SA.erase sa_slices_Compact_int_int) [.tmp 2] := ⟨Tryz.f153, [], Tryz.func153, rfl, by kernel_rfl, by kernel_rfl, by kernel_rfl⟩
noncomputable def F_slices_Compact_int_int (s : List Int)  : Option (List Int) :=
 bif (decide (((List.length s : Nat) : Int) < (2 : Int))) then
 some s
 else
 loopO (fun (v1 : Int × (List Int) × Unit) =>
 bif (decide (v1.1 < ((List.length v1.2.1 : Nat) : Int))) then
 Option.bind (idx v1.2.1 v1.1) fun x2 =>
 Option.bind (v1.2.1[(Int.toNat v1.1)]?) fun x3 =>
 Option.bind (idx v1.2.1 (subI .i64 v1.1 (1 : Int))) fun x4 =>
 Option.bind (v1.2.1[(Int.toNat (subI .i64 v1.1 (1 : Int)))]?) fun x5 =>
 bif (decide (x3 = x5)) then
 bif slcOk v1.1 ((List.length v1.2.1) : Int) (List.length v1.2.1) then
 loopO (fun (v6 : Int × Int × (List Int) × Unit) =>
 bif (decide (v6.2.1 < ((List.length ((v6.2.2.1.drop (Int.toNat v1.1)).take (Int.toNat ((List.length v1.2.1) : Int) - Int.toNat v1.1)) : Nat) : Int))) then
 letJ (fun (v7 : Int × (List Int) × Unit) =>
 some (Sum.inl (v7.1, (addI .i64 v6.2.1 (1 : Int)), v7.2.1, ()))) fun j8 =>
 Option.bind (idx ((v6.2.2.1.drop (Int.toNat v1.1)).take (Int.toNat ((List.length v1.2.1) : Int) - Int.toNat v1.1)) v6.2.1) fun x9 =>
 Option.bind (v6.2.2.1[((Int.toNat v1.1) + Int.toNat v6.2.1)]?) fun x10 =>
 Option.bind (idx ((v6.2.2.1.drop (Int.toNat v1.1)).take (Int.toNat ((List.length v1.2.1) : Int) - Int.toNat v1.1)) (subI .i64 v6.2.1 (1 : Int))) fun x11 =>
 Option.bind (v6.2.2.1[((Int.toNat v1.1) + Int.toNat (subI .i64 v6.2.1 (1 : Int)))]?) fun x12 =>
 bif (!decide (x10 = x12)) then
 Option.bind (idx ((v6.2.2.1.drop (Int.toNat v1.1)).take (Int.toNat ((List.length v1.2.1) : Int) - Int.toNat v1.1)) v6.2.1) fun x13 =>
 Option.bind (v6.2.2.1[((Int.toNat v1.1) + Int.toNat v6.2.1)]?) fun x14 =>
 Option.bind (idx v6.2.2.1 v6.1) fun x15 =>
 Option.bind (v6.2.2.1[(Int.toNat v6.1)]?) fun x16 =>
 j8 ((addI .i64 v6.1 (1 : Int)), (v6.2.2.1.set (Int.toNat v6.1) x14), ())
 else
 j8 (v6.1, v6.2.2.1, ())
 else
 Option.map Sum.inr (bif slcOk v6.1 ((List.length v6.2.2.1) : Int) (List.length v6.2.2.1) then
 bif slcOk (0 : Int) v6.1 (List.length (v6.2.2.1.take (Int.toNat v6.1) ++ List.replicate (Int.toNat ((List.length v6.2.2.1) : Int) - Int.toNat v6.1) (0 : Int) ++ v6.2.2.1.drop ((Int.toNat v6.1) + (Int.toNat ((List.length v6.2.2.1) : Int) - Int.toNat v6.1)))) then
 Option.map Sum.inr (some ((v6.2.2.1.take (Int.toNat v6.1) ++ List.replicate (Int.toNat ((List.length v6.2.2.1) : Int) - Int.toNat v6.1) (0 : Int) ++ v6.2.2.1.drop ((Int.toNat v6.1) + (Int.toNat ((List.length v6.2.2.1) : Int) - Int.toNat v6.1))).take (Int.toNat v6.1 - Int.toNat (0 : Int))))
 else none
 else none)) (v1.1, (1 : Int), v1.2.1, ())
 else none
 else
 some (Sum.inl ((addI .i64 v1.1 (1 : Int)), v1.2.1, ()))
 else
 Option.map Sum.inr (some v1.2.1)) ((1 : Int), s, ())
noncomputable def k_slices_Compact_int_int : KFun U := .cw 153 3 1 (Ty.i .i64) [] fun s a => F_slices_Compact_int_int s 
theorem e_slices_Compact_int_int : cwK K [] sa_slices_Compact_int_int [.tmp 2] 3 1 (Ty.i .i64) [] = fun s a => F_slices_Compact_int_int s  := by kernel_rfl
theorem s_slices_Compact_int_int : KFun.Sound (U := U) Tryz.prog k_slices_Compact_int_int := cwK_sound (K := K) (Γ := []) ok_slices_Compact_int_int (by kernel_rfl) (by decide) trivial (fun s a => congrFun (congrFun e_slices_Compact_int_int s) a)

/-! ### trustquorum/envelopes.unique[int] -/
def sa_envelopes_unique_int_c93 : SA U :=
 (.seq
 (.reg
 (op 4 (.mov (.cst (.nils)))
 .nil))
 (.seq
 (.reg
 (op 5 (.mov (tm 0))
 (op 6 (.mov (tm 1))
 (op 7 (.call 152 [(tm 5), (tm 6)])
 .nil))))
 (.seq
 (.reg
 (op 8 (.mov (tm 0))
 (op 9 (.call 153 [(tm 8)])
 (op 4 (.mov (tm 9))
 .nil))))
 .ret)))
theorem ok_envelopes_unique_int_c93 : FnOk Tryz.prog 92 10 (SA.erase sa_envelopes_unique_int_c93) [.tmp 4] := ⟨Tryz.f92, [], Tryz.func92, rfl, by kernel_rfl, by kernel_rfl, by kernel_rfl⟩
noncomputable def F_envelopes_unique_int_c93 (s : List Int)  : Option (List Int) :=
 Option.bind (F_slices_SortFunc_int_int_c93 s) fun p1 =>
 Option.bind (F_slices_Compact_int_int p1.2) fun r2 =>
 some r2
noncomputable def k_envelopes_unique_int_c93 : KFun U := .cw 92 3 1 (Ty.i .i64) [.clo 93 []] fun s a => F_envelopes_unique_int_c93 s 
theorem e_envelopes_unique_int_c93 : cwK K [k_slices_SortFunc_int_int_c93, k_slices_Compact_int_int] sa_envelopes_unique_int_c93 [.tmp 4] 3 1 (Ty.i .i64) [.clo 93 []] = fun s a => F_envelopes_unique_int_c93 s  := by kernel_rfl
theorem s_envelopes_unique_int_c93 : KFun.Sound (U := U) Tryz.prog k_envelopes_unique_int_c93 := cwK_sound (K := K) (Γ := [k_slices_SortFunc_int_int_c93, k_slices_Compact_int_int]) ok_envelopes_unique_int_c93 (by kernel_rfl) (by decide) ⟨s_slices_SortFunc_int_int_c93, s_slices_Compact_int_int, trivial⟩ (fun s a => congrFun (congrFun e_envelopes_unique_int_c93 s) a)

/-! ### trustquorum/envelopes.Bounds -/
def sa_envelopes_Bounds : SA U :=
 (.seq
 (.reg
 (op 4 (.mov (.cst (.nils)))
 .nil))
 (.seq
 (.reg
 (op 5 (.mov (.cst (.nils)))
 .nil))
 (.seq
 (.seq
 (.reg
 (op 8 (.mov (tm 0))
 (op 9 (.len false (tm 8))
 (op 10 (.mov (ci 0))
 .nil))))
 (.block 0
 (.ps (.own 5 3 1 (Ty.i .i64))
 (.loop ⟨[.val 10 (Ty.i .i64), .own 5 5 1 3 1 (Ty.i .i64)], [1, 8, 9]⟩
 (.seq
 (.reg
 (op 11 (.bin .lss (tm 10) (tm 9))
 .nil))
 (.seq
 (.cond (tm 11)
 .skip
 (.exit 0))
 (.join ⟨[.own 5 5 1 3 1 (Ty.i .i64)], [1, 8, 9, 10]⟩
 (.block 1
 (.seq
 (.reg
 (op 12 (.iaddr 15 (tm 8) (tm 10))
 (op 13 (.load (some 15) (tm 12))
 (op 7 (.alloc [.int .i64 0, .int .i64 0, .int .i64 0, .int .i64 0, .nils, .nils, .int .i64 0, .int .i64 0, .str ⟨#[]⟩, .int .i64 0, .str ⟨#[]⟩, .int .i64 0, .str ⟨#[]⟩, .int .i64 0, .int .i64 0])
 (ops (.store 15 (tm 7) (tm 13))
 .nil)))))
 (.seq
 (.reg
 (op 14 (.load (some 15) (tm 7))
 (op 15 (.call 75 [(tm 14)])
 (op 16 (.mov (tm 15))
 (.ite 16 true
 (opg 17 16 true (.faddr 7 (tm 7))
 (opg 18 16 true (.faddr 1 (tm 17))
 (opg 19 16 true (.load none (tm 18))
 (opg 20 16 true (.mov (tm 1))
 (opg 21 16 true (.bin .eql (tm 19) (tm 20))
 .nil)))))
 22 none (tm 21) (.cst (.bool false))
 (op 23 (.mov (tm 22))
 (.ite 23 true
 (opg 24 23 true (.faddr 13 (tm 7))
 (opg 25 23 true (.load none (tm 24))
 (opg 26 23 true (.bin .neq (tm 25) (ci 0))
 .nil)))
 27 none (tm 26) (.cst (.bool false))
 .nil)))))))
 (.cond (tm 27)
 (.reg
 (op 28 (.mov (tm 5))
 (op 29 (.faddr 13 (tm 7))
 (op 30 (.load none (tm 29))
 (op 31 (.faddr 14 (tm 7))
 (op 32 (.load none (tm 31))
 (op 33 (.bsl false 3 1 (List.replicate 2 [.int .i64 0]) [(0, (tm 30)), (1, (tm 32))])
 (op 34 (.app 3 1 8 (tm 28) (tm 33))
 (op 5 (.mov (tm 34))
 .nil)))))))))
 .skip))))
 (.reg
 (op 35 (.bin .add (tm 10) (ci 1))
 (op 10 (.mov (tm 35))
 .nil))))))))))
 (.seq
 (.reg
 (op 36 (.mov (tm 5))
 (op 37 (.call 92 [(tm 36), (.cst (.clo 93 []))])
 (op 4 (.mov (tm 37))
 .nil))))
 .ret))))
theorem ok_envelopes_Bounds : FnOk Tryz.prog 19 38 (SA.erase sa_envelopes_Bounds) [.tmp 4] := ⟨Tryz.f19, [], Tryz.func19, rfl, by kernel_rfl, by kernel_rfl, by kernel_rfl⟩
noncomputable def F_envelopes_Bounds (a0 : (List TEnvelope)) (a1 : ByteArray) : Option (List Int) :=
 loopO (fun (v1 : Int × (List Int) × Unit) =>
 bif (decide (v1.1 < ((List.length a0 : Nat) : Int))) then
 letJ (fun (v2 : (List Int) × Unit) =>
 some (Sum.inl ((addI .i64 v1.1 (1 : Int)), v2.1, ()))) fun j3 =>
 Option.bind (idx a0 v1.1) fun x4 =>
 Option.bind (F_envelopes_Valid (TEnvelope.mk x4.Node x4.Slot x4.Seq (TTrust.mk x4.Trust.Threshold x4.Trust.Nodes x4.Trust.Inner) x4.Kind x4.Ballot x4.Prepared x4.Prime x4.Low x4.High)) fun r5 =>
 Option.bind (bif r5 then
 some (decide (x4.Ballot.Value = a1))
 else some false) fun b6 =>
 Option.bind (bif b6 then
 some (!decide (x4.Low = (0 : Int)))
 else some false) fun b7 =>
 bif b7 then
 bif lenOk 8 (List.length v1.2.1 + List.length [x4.Low, x4.High]) then
 j3 ((v1.2.1 ++ [x4.Low, x4.High]), ())
 else none
 else
 j3 (v1.2.1, ())
 else
 Option.map Sum.inr (Option.bind (F_envelopes_unique_int_c93 v1.2.1) fun r8 =>
 some r8)) ((0 : Int), ([] : List Int), ())
noncomputable def k_envelopes_Bounds : KFun U := .fn 19 [.ty (Ty.sl (Ty.st .Envelope)), .ty Ty.str] (.one (Ty.sl (Ty.i .i64))) fun a => F_envelopes_Bounds a.1 a.2.1
theorem e_envelopes_Bounds : fnK K [k_envelopes_Valid, k_envelopes_unique_int_c93] sa_envelopes_Bounds [.tmp 4] [.ty (Ty.sl (Ty.st .Envelope)), .ty Ty.str] (.one (Ty.sl (Ty.i .i64))) = fun a => F_envelopes_Bounds a.1 a.2.1 := by kernel_rfl
theorem s_envelopes_Bounds : KFun.Sound (U := U) Tryz.prog k_envelopes_Bounds := fnK_sound (K := K) (Γ := [k_envelopes_Valid, k_envelopes_unique_int_c93]) ok_envelopes_Bounds (by kernel_rfl) (by decide) ⟨s_envelopes_Valid, s_envelopes_unique_int_c93, trivial⟩ (fun a => congrFun e_envelopes_Bounds a)

/-! ### (trustquorum/envelopes.Right).from -/
def sa_envelopes_Right_from : SA U :=
 (.seq
 (.reg
 (op 4 (.box (tm 0))
 (op 8 (.mov (.cst (.bool false)))
 .nil)))
 (.seq
 (.reg
 (op 9 (.mov (tm 2))
 (op 10 (.bin .geq (tm 9) (ci 1))
 (op 11 (.mov (tm 10))
 (.ite 11 true
 (opg 12 11 true (.mov (tm 2))
 (opg 13 11 true (.mov (tm 3))
 (opg 14 11 true (.bin .leq (tm 12) (tm 13))
 .nil)))
 15 none (tm 14) (.cst (.bool false))
 (op 16 (.mov (tm 15))
 (.ite 16 true
 (opg 17 16 true (.faddr 0 (tm 4))
 (opg 18 16 true (.faddr 7 (tm 17))
 (opg 19 16 true (.faddr 1 (tm 18))
 (opg 20 16 true (.load none (tm 19))
 (opg 21 16 true (.mov (tm 1))
 (opg 22 16 true (.bin .eql (tm 20) (tm 21))
 .nil))))))
 23 none (tm 22) (.cst (.bool false))
 (op 24 (.mov (tm 23))
 (.ite 24 true
 (opg 25 24 true (.faddr 0 (tm 4))
 (opg 26 24 true (.faddr 13 (tm 25))
 (opg 27 24 true (.load none (tm 26))
 (opg 28 24 true (.mov (tm 2))
 (opg 29 24 true (.bin .leq (tm 27) (tm 28))
 .nil)))))
 30 none (tm 29) (.cst (.bool false))
 (op 8 (.mov (tm 30))
 .nil))))))))))
 .ret))
theorem ok_envelopes_Right_from : FnOk Tryz.prog 155 31 (SA.erase sa_envelopes_Right_from) [.tmp 8] := ⟨Tryz.f155, [], Tryz.func155, rfl, by kernel_rfl, by kernel_rfl, by kernel_rfl⟩
noncomputable def F_envelopes_Right_from (a0 : TRight) (a1 : ByteArray) (a2 : Int) (a3 : Int) : Option Bool :=
 Option.bind (bif (decide ((1 : Int) ≤ a2)) then
 some (decide (a2 ≤ a3))
 else some false) fun b1 =>
 Option.bind (bif b1 then
 some (decide (a0.Envelope.Ballot.Value = a1))
 else some false) fun b2 =>
 Option.bind (bif b2 then
 some (decide (a0.Envelope.Low ≤ a2))
 else some false) fun b3 =>
 some b3
noncomputable def k_envelopes_Right_from : KFun U := .fn 155 [.ty (Ty.st .Right), .ty Ty.str, .ty (Ty.i .i64), .ty (Ty.i .i64)] (.one Ty.bool) fun a => F_envelopes_Right_from a.1 a.2.1 a.2.2.1 a.2.2.2.1
theorem e_envelopes_Right_from : fnK K [] sa_envelopes_Right_from [.tmp 8] [.ty (Ty.st .Right), .ty Ty.str, .ty (Ty.i .i64), .ty (Ty.i .i64)] (.one Ty.bool) = fun a => F_envelopes_Right_from a.1 a.2.1 a.2.2.1 a.2.2.2.1 := by kernel_rfl
theorem s_envelopes_Right_from : KFun.Sound (U := U) Tryz.prog k_envelopes_Right_from := fnK_sound (K := K) (Γ := []) ok_envelopes_Right_from (by kernel_rfl) (by decide) trivial (fun a => congrFun e_envelopes_Right_from a)

/-! ### (trustquorum/envelopes.Right).VotesCommit -/
def sa_envelopes_Right_VotesCommit : SA U :=
 (.seq
 (.reg
 (op 4 (.box (tm 0))
 (op 8 (.mov (.cst (.bool false)))
 .nil)))
 (.seq
 (.reg
 (op 9 (.load (some 15) (tm 4))
 (op 10 (.mov (tm 1))
 (op 11 (.mov (tm 2))
 (op 12 (.mov (tm 3))
 (op 13 (.call 155 [(tm 9), (tm 10), (tm 11), (tm 12)])
 (op 14 (.mov (tm 13))
 (.ite 14 true
 (opg 15 14 true (.faddr 0 (tm 4))
 (opg 16 14 true (.faddr 6 (tm 15))
 (opg 17 14 true (.load none (tm 16))
 (opg 18 14 true (.bin .neq (tm 17) (ci 1))
 (opg 19 14 true (.mov (tm 18))
 (.ite 19 false
 (opg 20 19 false (.faddr 0 (tm 4))
 (opg 21 19 false (.faddr 13 (tm 20))
 (opg 22 19 false (.load none (tm 21))
 (opg 23 19 false (.bin .neq (tm 22) (ci 0))
 (opg 24 19 false (.mov (tm 23))
 (.ite 24 true
 (opg 25 24 true (.mov (tm 3))
 (opg 26 24 true (.faddr 0 (tm 4))
 (opg 27 24 true (.faddr 14 (tm 26))
 (opg 28 24 true (.load none (tm 27))
 (opg 29 24 true (.bin .leq (tm 25) (tm 28))
 .nil)))))
 30 (some (19, false)) (tm 29) (.cst (.bool false))
 .nil))))))
 31 (some (14, true)) (.cst (.bool true)) (tm 30)
 .nil))))))
 32 none (tm 31) (.cst (.bool false))
 (op 8 (.mov (tm 32))
 .nil)))))))))
 .ret))
theorem ok_envelopes_Right_VotesCommit : FnOk Tryz.prog 94 33 (SA.erase sa_envelopes_Right_VotesCommit) [.tmp 8] := ⟨Tryz.f94, [], Tryz.func94, rfl, by kernel_rfl, by kernel_rfl, by kernel_rfl⟩
noncomputable def F_envelopes_Right_VotesCommit (a0 : TRight) (a1 : ByteArray) (a2 : Int) (a3 : Int) : Option Bool :=
 Option.bind (F_envelopes_Right_from (TRight.mk (TEnvelope.mk a0.Envelope.Node a0.Envelope.Slot a0.Envelope.Seq (TTrust.mk a0.Envelope.Trust.Threshold a0.Envelope.Trust.Nodes a0.Envelope.Trust.Inner) a0.Envelope.Kind a0.Envelope.Ballot a0.Envelope.Prepared a0.Envelope.Prime a0.Envelope.Low a0.Envelope.High)) a1 a2 a3) fun r1 =>
 Option.bind (bif r1 then
 Option.bind (bif (!decide (a0.Envelope.Kind = (1 : Int))) then some true
 else
 Option.bind (bif (!decide (a0.Envelope.Low = (0 : Int))) then
 some (decide (a3 ≤ a0.Envelope.High))
 else some false) fun b2 =>
 some b2) fun b3 =>
 some b3
 else some false) fun b4 =>
 some b4
noncomputable def k_envelopes_Right_VotesCommit : KFun U := .fn 94 [.ty (Ty.st .Right), .ty Ty.str, .ty (Ty.i .i64), .ty (Ty.i .i64)] (.one Ty.bool) fun a => F_envelopes_Right_VotesCommit a.1 a.2.1 a.2.2.1 a.2.2.2.1
theorem e_envelopes_Right_VotesCommit : fnK K [k_envelopes_Right_from] sa_envelopes_Right_VotesCommit [.tmp 8] [.ty (Ty.st .Right), .ty Ty.str, .ty (Ty.i .i64), .ty (Ty.i .i64)] (.one Ty.bool) = fun a => F_envelopes_Right_VotesCommit a.1 a.2.1 a.2.2.1 a.2.2.2.1 := by kernel_rfl
theorem s_envelopes_Right_VotesCommit : KFun.Sound (U := U) Tryz.prog k_envelopes_Right_VotesCommit := fnK_sound (K := K) (Γ := [k_envelopes_Right_from]) ok_envelopes_Right_VotesCommit (by kernel_rfl) (by decide) ⟨s_envelopes_Right_from, trivial⟩ (fun a => congrFun e_envelopes_Right_VotesCommit a)

/-! ### trustquorum/trustquorumplay.Flat -/
def sa_play_Flat : SA U :=
 (.seq
 (.reg
 (op 4 (.alloc [.int .i64 0, .nils, .nils])
 .nil))
 (.seq
 (.reg
 (op 7 (.mov (tm 1))
 (op 8 (.build [.int .i64 0, .nils, .nils] [(0, 1, (tm 7))])
 (op 5 (.alloc [.int .i64 0, .nils, .nils])
 (ops (.store 3 (tm 5) (tm 8))
 .nil)))))
 (.seq
 (.seq
 (.reg
 (op 6 (.mov (ci 0))
 .nil))
 (.block 0
 (.ps (.ownB 5 1 3 1 (Ty.i .i64))
 (.loop ⟨[.val 6 (Ty.i .i64), .box 3 1 (Ty.st .Trust) [(1, 6, 1)], .rowb 6 1 3 1 (Ty.i .i64)], [0, 4, 5]⟩
 (.seq
 (.seq
 (.reg
 (op 9 (.mov (tm 6))
 (op 10 (.mov (tm 0))
 (op 11 (.bin .lss (tm 9) (tm 10))
 .nil))))
 (.cond (tm 11)
 .skip
 (.exit 0)))
 (.seq
 (.block 1
 (.reg
 (op 14 (.faddr 1 (tm 5))
 (op 15 (.load none (tm 14))
 (op 16 (.mov (tm 6))
 (op 17 (.bsl false 3 1 (List.replicate 1 [.int .i64 0]) [(0, (tm 16))])
 (op 18 (.app 3 1 8 (tm 15) (tm 17))
 (op 19 (.faddr 1 (tm 5))
 (ops (.store 1 (tm 19) (tm 18))
 .nil)))))))))
 (.reg
 (op 12 (.mov (tm 6))
 (op 13 (.bin .add (tm 12) (ci 1))
 (op 6 (.mov (tm 13))
 .nil))))))))))
 (.seq
 (.reg
 (op 20 (.load (some 3) (tm 5))
 (ops (.store 3 (tm 4) (tm 20))
 .nil)))
 .ret))))
theorem ok_play_Flat : FnOk Tryz.prog 30 21 (SA.erase sa_play_Flat) [.cell 4 (some 3)] := ⟨Tryz.f30, [], Tryz.func30, rfl, by kernel_rfl, by kernel_rfl, by kernel_rfl⟩
noncomputable def F_play_Flat (a0 : Int) (a1 : Int) : Option TTrust :=
 loopO (fun (v1 : Int × TTrust × (List Int) × Unit) =>
 bif (decide (v1.1 < a0)) then
 bif lenOk 8 (List.length v1.2.2.1 + List.length [v1.1]) then
 some (Sum.inl ((addI .i64 v1.1 (1 : Int)), (TTrust.mk v1.2.1.Threshold ([] : List Int) v1.2.1.Inner), (v1.2.2.1 ++ [v1.1]), ()))
 else none
 else
 Option.map Sum.inr (some (TTrust.mk v1.2.1.Threshold v1.2.2.1 v1.2.1.Inner))) ((0 : Int), (TTrust.mk a1 ([] : List Int) ([] : List TTrust)), ([] : List Int), ())
noncomputable def k_play_Flat : KFun U := .fn 30 [.ty (Ty.i .i64), .ty (Ty.i .i64)] (.one (Ty.st .Trust)) fun a => F_play_Flat a.1 a.2.1
theorem e_play_Flat : fnK K [] sa_play_Flat [.cell 4 (some 3)] [.ty (Ty.i .i64), .ty (Ty.i .i64)] (.one (Ty.st .Trust)) = fun a => F_play_Flat a.1 a.2.1 := by kernel_rfl
theorem s_play_Flat : KFun.Sound (U := U) Tryz.prog k_play_Flat := fnK_sound (K := K) (Γ := []) ok_play_Flat (by kernel_rfl) (by decide) trivial (fun a => congrFun e_play_Flat a)

/-! ### (trustquorum/envelopes.Right).AcceptsCommit -/
def sa_envelopes_Right_AcceptsCommit : SA U :=
 (.seq
 (.reg
 (op 4 (.box (tm 0))
 (op 8 (.mov (.cst (.bool false)))
 .nil)))
 (.seq
 (.reg
 (op 9 (.load (some 15) (tm 4))
 (op 10 (.mov (tm 1))
 (op 11 (.mov (tm 2))
 (op 12 (.mov (tm 3))
 (op 13 (.call 155 [(tm 9), (tm 10), (tm 11), (tm 12)])
 (op 14 (.mov (tm 13))
 (.ite 14 true
 (opg 15 14 true (.faddr 0 (tm 4))
 (opg 16 14 true (.faddr 6 (tm 15))
 (opg 17 14 true (.load none (tm 16))
 (opg 18 14 true (.bin .eql (tm 17) (ci 3))
 (opg 19 14 true (.mov (tm 18))
 (.ite 19 false
 (opg 20 19 false (.faddr 0 (tm 4))
 (opg 21 19 false (.faddr 6 (tm 20))
 (opg 22 19 false (.load none (tm 21))
 (opg 23 19 false (.bin .eql (tm 22) (ci 2))
 (opg 24 19 false (.mov (tm 23))
 (.ite 24 true
 (opg 25 24 true (.mov (tm 3))
 (opg 26 24 true (.faddr 0 (tm 4))
 (opg 27 24 true (.faddr 14 (tm 26))
 (opg 28 24 true (.load none (tm 27))
 (opg 29 24 true (.bin .leq (tm 25) (tm 28))
 .nil)))))
 30 (some (19, false)) (tm 29) (.cst (.bool false))
 .nil))))))
 31 (some (14, true)) (.cst (.bool true)) (tm 30)
 .nil))))))
 32 none (tm 31) (.cst (.bool false))
 (op 8 (.mov (tm 32))
 .nil)))))))))
 .ret))
theorem ok_envelopes_Right_AcceptsCommit : FnOk Tryz.prog 143 33 (SA.erase sa_envelopes_Right_AcceptsCommit) [.tmp 8] := ⟨Tryz.f143, [], Tryz.func143, rfl, by kernel_rfl, by kernel_rfl, by kernel_rfl⟩
noncomputable def F_envelopes_Right_AcceptsCommit (a0 : TRight) (a1 : ByteArray) (a2 : Int) (a3 : Int) : Option Bool :=
 Option.bind (F_envelopes_Right_from (TRight.mk (TEnvelope.mk a0.Envelope.Node a0.Envelope.Slot a0.Envelope.Seq (TTrust.mk a0.Envelope.Trust.Threshold a0.Envelope.Trust.Nodes a0.Envelope.Trust.Inner) a0.Envelope.Kind a0.Envelope.Ballot a0.Envelope.Prepared a0.Envelope.Prime a0.Envelope.Low a0.Envelope.High)) a1 a2 a3) fun r1 =>
 Option.bind (bif r1 then
 Option.bind (bif (decide (a0.Envelope.Kind = (3 : Int))) then some true
 else
 Option.bind (bif (decide (a0.Envelope.Kind = (2 : Int))) then
 some (decide (a3 ≤ a0.Envelope.High))
 else some false) fun b2 =>
 some b2) fun b3 =>
 some b3
 else some false) fun b4 =>
 some b4
noncomputable def k_envelopes_Right_AcceptsCommit : KFun U := .fn 143 [.ty (Ty.st .Right), .ty Ty.str, .ty (Ty.i .i64), .ty (Ty.i .i64)] (.one Ty.bool) fun a => F_envelopes_Right_AcceptsCommit a.1 a.2.1 a.2.2.1 a.2.2.2.1
theorem e_envelopes_Right_AcceptsCommit : fnK K [k_envelopes_Right_from] sa_envelopes_Right_AcceptsCommit [.tmp 8] [.ty (Ty.st .Right), .ty Ty.str, .ty (Ty.i .i64), .ty (Ty.i .i64)] (.one Ty.bool) = fun a => F_envelopes_Right_AcceptsCommit a.1 a.2.1 a.2.2.1 a.2.2.2.1 := by kernel_rfl
theorem s_envelopes_Right_AcceptsCommit : KFun.Sound (U := U) Tryz.prog k_envelopes_Right_AcceptsCommit := fnK_sound (K := K) (Γ := [k_envelopes_Right_from]) ok_envelopes_Right_AcceptsCommit (by kernel_rfl) (by decide) ⟨s_envelopes_Right_from, trivial⟩ (fun a => congrFun e_envelopes_Right_AcceptsCommit a)

/-! ### (trustquorum/envelopes.Right).Count -/
def sa_envelopes_Right_Count : SA U :=
 (.seq
 (.reg
 (op 1 (.box (tm 0))
 (op 2 (.mov (ci 0))
 .nil)))
 (.seq
 (.seq
 (.reg
 (op 3 (.faddr 0 (tm 1))
 (op 4 (.faddr 6 (tm 3))
 (op 5 (.load none (tm 4))
 (op 6 (.bin .eql (tm 5) (ci 3))
 .nil)))))
 (.cond (tm 6)
 (.seq
 (.reg
 (op 2 (.mov (ci 1000000))
 .nil))
 .ret)
 .skip))
 (.seq
 (.reg
 (op 7 (.faddr 0 (tm 1))
 (op 8 (.faddr 7 (tm 7))
 (op 9 (.faddr 0 (tm 8))
 (op 10 (.load none (tm 9))
 (op 2 (.mov (tm 10))
 .nil))))))
 .ret)))
theorem ok_envelopes_Right_Count : FnOk Tryz.prog 142 11 (SA.erase sa_envelopes_Right_Count) [.tmp 2] := ⟨Tryz.f142, [], Tryz.func142, rfl, by kernel_rfl, by kernel_rfl, by kernel_rfl⟩
noncomputable def F_envelopes_Right_Count (a0 : TRight) : Option Int :=
 bif (decide (a0.Envelope.Kind = (3 : Int))) then
 some (1000000 : Int)
 else
 some a0.Envelope.Ballot.Counter
noncomputable def k_envelopes_Right_Count : KFun U := .fn 142 [.ty (Ty.st .Right)] (.one (Ty.i .i64)) fun a => F_envelopes_Right_Count a.1
theorem e_envelopes_Right_Count : fnK K [] sa_envelopes_Right_Count [.tmp 2] [.ty (Ty.st .Right)] (.one (Ty.i .i64)) = fun a => F_envelopes_Right_Count a.1 := by kernel_rfl
theorem s_envelopes_Right_Count : KFun.Sound (U := U) Tryz.prog k_envelopes_Right_Count := fnK_sound (K := K) (Γ := []) ok_envelopes_Right_Count (by kernel_rfl) (by decide) trivial (fun a => congrFun e_envelopes_Right_Count a)

/-! ### slices.Clone[[]int,int] -/
def sa_slices_Clone_int_int : SA U :=
 (.seq
 (.reg
 (op 2 (.mov (.cst (.nils)))
 .nil))
 (.seq
 (.seq
 (.reg
 (op 3 (.mov (tm 0))
 (op 4 (.isnil false (tm 3))
 .nil)))
 (.cond (tm 4)
 (.seq
 (.reg
 (op 2 (.mov (.cst (.nils)))
 .nil))
 .ret)
 .skip))
 (.seq
 (.reg
 (op 5 (.bsl true 3 1 (List.replicate 0 [.int .i64 0]) [])
 (op 6 (.mov (tm 0))
 (op 7 (.app 3 1 8 (tm 5) (tm 6))
 (op 2 (.mov (tm 7))
 .nil)))))
 .ret)))
theorem ok_slices_Clone_int_int : FnOk Tryz.prog 166 8 (SA.erase sa_slices_Clone_int_int) [.tmp 2] := ⟨Tryz.f166, [5], Tryz.func166, rfl, by kernel_rfl, by kernel_rfl, by kernel_rfl⟩
noncomputable def F_slices_Clone_int_int (a0 : (List Int)) : Option (List Int) :=
 bif List.isEmpty a0 then
 both (some ([] : List Int)) (bif lenOk 8 (List.length ([] : List Int) + List.length a0) then
 some (([] : List Int) ++ a0)
 else none)
 else
 bif lenOk 8 (List.length ([] : List Int) + List.length a0) then
 some (([] : List Int) ++ a0)
 else none
noncomputable def k_slices_Clone_int_int : KFun U := .fn 166 [.ty (Ty.sl (Ty.i .i64))] (.one (Ty.sl (Ty.i .i64))) fun a => F_slices_Clone_int_int a.1
theorem e_slices_Clone_int_int : fnK K [] sa_slices_Clone_int_int [.tmp 2] [.ty (Ty.sl (Ty.i .i64))] (.one (Ty.sl (Ty.i .i64))) = fun a => F_slices_Clone_int_int a.1 := by kernel_rfl
theorem s_slices_Clone_int_int : KFun.Sound (U := U) Tryz.prog k_slices_Clone_int_int := fnK_sound (K := K) (Γ := []) ok_slices_Clone_int_int (by kernel_rfl) (by decide) trivial (fun a => congrFun e_slices_Clone_int_int a)

/-! ### trustquorum/copies.Trust -/
def sa_copies_Trust : SA U :=
 (.seq
 (.reg
 (op 1 (.box (tm 0))
 (op 2 (.alloc [.int .i64 0, .nils, .nils])
 .nil)))
 (.seq
 (.drw [(0, 2), (1, 2), (0, 3), (1, 3), (0, 4), (1, 4), (0, 6), (1, 6), (2, 6), (3, 6), (4, 6)]
 (op 6 (.faddr 0 (tm 1))
 (op 7 (.load none (tm 6))
 (op 8 (.faddr 1 (tm 1))
 (op 9 (.load none (tm 8))
 (op 10 (.call 166 [(tm 9)])
 (op 11 (.build [.int .i64 0, .nils, .nils] [(0, 1, (tm 7)), (1, 1, (tm 10))])
 (op 3 (.alloc [.int .i64 0, .nils, .nils])
 (ops (.store 3 (tm 3) (tm 11))
 .nil)))))))))
 (.seq
 (.seq
 (.reg
 (op 12 (.faddr 2 (tm 1))
 (op 13 (.load none (tm 12))
 (op 14 (.len false (tm 13))
 (op 15 (.mov (ci 0))
 .nil)))))
 (.block 0
 (.ps (.ownB 3 2 36 3 (Ty.st .Trust))
 (.loop ⟨[.val 15 (Ty.i .i64), .box 8 1 (Ty.st .Trust) [(2, 14, 1)], .rowb 14 1 36 3 (Ty.st .Trust)], [2, 3, 13, 14]⟩
 (.seq
 (.reg
 (op 16 (.bin .lss (tm 15) (tm 14))
 .nil))
 (.seq
 (.cond (tm 16)
 .skip
 (.exit 0))
 (.seq
 (.block 1
 (.seq
 (.reg
 (op 17 (.iaddr 3 (tm 13) (tm 15))
 (op 18 (.load (some 3) (tm 17))
 (op 5 (.alloc [.int .i64 0, .nils, .nils])
 (ops (.store 3 (tm 5) (tm 18))
 .nil)))))
 (.drw [(0, 2), (1, 2), (0, 3), (1, 3), (0, 4), (1, 4)]
 (op 19 (.faddr 2 (tm 3))
 (op 20 (.load none (tm 19))
 (op 21 (.load (some 3) (tm 5))
 (op 22 (.call 116 [(tm 21)])
 (op 23 (.bsl false 36 3 (List.replicate 1 [.int .i64 0, .nils, .nils]) [(0, (tm 22))])
 (op 24 (.app 36 3 56 (tm 20) (tm 23))
 (op 25 (.faddr 2 (tm 3))
 (ops (.store 1 (tm 25) (tm 24))
 .nil)))))))))))
 (.reg
 (op 26 (.bin .add (tm 15) (ci 1))
 (op 15 (.mov (tm 26))
 .nil))))))))))
 (.seq
 (.reg
 (op 27 (.load (some 3) (tm 3))
 (ops (.store 3 (tm 2) (tm 27))
 .nil)))
 .ret))))
theorem ok_copies_Trust : FnOk Tryz.prog 116 28 (SA.erase sa_copies_Trust) [.cell 2 (some 3)] := ⟨Tryz.f116, [], Tryz.func116, rfl, by kernel_rfl, by kernel_rfl, by kernel_rfl⟩
noncomputable def B_copies_Trust (rec : (TTrust × Unit) → Option TTrust) (a0 : TTrust) : Option TTrust :=
 Option.bind (F_slices_Clone_int_int a0.Nodes) fun r1 =>
 loopO (fun (v2 : Int × TTrust × (List TTrust) × Unit) =>
 bif (decide (v2.1 < ((List.length a0.Inner : Nat) : Int))) then
 Option.bind (idx a0.Inner v2.1) fun x3 =>
 Option.bind (rec ((TTrust.mk x3.Threshold x3.Nodes x3.Inner), ())) fun r4 =>
 bif lenOk 56 (List.length v2.2.2.1 + List.length [(TTrust.mk r4.Threshold r4.Nodes r4.Inner)]) then
 some (Sum.inl ((addI .i64 v2.1 (1 : Int)), (TTrust.mk v2.2.1.Threshold v2.2.1.Nodes ([] : List TTrust)), (v2.2.2.1 ++ [(TTrust.mk r4.Threshold r4.Nodes r4.Inner)]), ()))
 else none
 else
 Option.map Sum.inr (some (TTrust.mk v2.2.1.Threshold v2.2.1.Nodes v2.2.2.1))) ((0 : Int), (TTrust.mk a0.Threshold r1 ([] : List TTrust)), ([] : List TTrust), ())
noncomputable def I_copies_Trust : Nat → (TTrust × Unit) → Option TTrust := iterF (fun rec a => B_copies_Trust rec a.1)
noncomputable def F_copies_Trust (a0 : TTrust) : Option TTrust := I_copies_Trust (SizeOf.sizeOf a0 + 1) (a0, ())
noncomputable def k_copies_Trust : KFun U := .fn 116 [.ty (Ty.st .Trust)] (.one (Ty.st .Trust)) fun a => F_copies_Trust a.1
theorem e_copies_Trust : (fun G => fnK K (.fn 116 [.ty (Ty.st .Trust)] (.one (Ty.st .Trust)) G :: [k_slices_Clone_int_int]) sa_copies_Trust [.cell 2 (some 3)] [.ty (Ty.st .Trust)] (.one (Ty.st .Trust))) = (fun G a => B_copies_Trust G a.1) := by kernel_rfl
theorem n_copies_Trust : ∀ n, KFun.Sound (U := U) Tryz.prog (.fn 116 [.ty (Ty.st .Trust)] (.one (Ty.st .Trust)) (I_copies_Trust n))
  | 0 => ⟨ok_copies_Trust.enters, fun a r h => by cases h⟩
  | n + 1 => fnK_sound (K := K) (r := .one (Ty.st .Trust)) (Γ := .fn 116 [.ty (Ty.st .Trust)] (.one (Ty.st .Trust)) (I_copies_Trust n) :: [k_slices_Clone_int_int]) (F := I_copies_Trust (n + 1)) ok_copies_Trust (by kernel_rfl) (by decide) ⟨n_copies_Trust n, s_slices_Clone_int_int, trivial⟩ (fun a => congrFun (congrFun e_copies_Trust (I_copies_Trust n)) a)
theorem s_copies_Trust : KFun.Sound (U := U) Tryz.prog k_copies_Trust := ⟨ok_copies_Trust.enters, fun a r h => (n_copies_Trust _).2 a r h⟩

/-! ### trustquorum/prepare.View -/
def sa_prepare_View : SA U :=
 (.seq
 (.reg
 (op 4 (.box (tm 1))
 (op 6 (.alloc [.nils])
 .nil)))
 (.seq
 (.reg
 (op 10 (.mks 126 4 64 [.bool false, .int .i64 0, .nils, .nils] (ci 10) (ci 10))
 (op 11 (.build [.nils] [(0, 1, (tm 10))])
 (op 7 (.alloc [.nils])
 (ops (.store 1 (tm 7) (tm 11))
 .nil)))))
 (.seq
 (.seq
 (.reg
 (op 12 (.mov (tm 0))
 (op 13 (.bin .lss (tm 12) (ci 0))
 (op 14 (.mov (tm 13))
 (.ite 14 false
 (opg 15 14 false (.mov (tm 0))
 (opg 16 14 false (.bin .geq (tm 15) (ci 10))
 .nil))
 17 none (.cst (.bool true)) (tm 16)
 .nil)))))
 (.cond (tm 17)
 (.seq
 (.reg
 (op 18 (.load (some 1) (tm 7))
 (ops (.store 1 (tm 6) (tm 18))
 .nil)))
 .ret)
 .skip))
 (.seq
 (.drw [(0, 3), (1, 3), (0, 4), (1, 4)]
 (op 19 (.faddr 0 (tm 7))
 (op 20 (.load none (tm 19))
 (op 21 (.mov (tm 0))
 (op 22 (.load (some 3) (tm 4))
 (op 23 (.call 116 [(tm 22)])
 (op 24 (.build [.bool false, .int .i64 0, .nils, .nils] [(0, 1, (.cst (.bool true))), (1, 3, (tm 23))])
 (op 25 (.iaddr 4 (tm 20) (tm 21))
 (ops (.store 4 (tm 25) (tm 24))
 .nil)))))))))
 (.seq
 (.seq
 (.reg
 (op 26 (.mov (tm 2))
 (op 27 (.len false (tm 26))
 (op 28 (.mov (ci 0))
 .nil))))
 (.block 0
 (.loop ⟨[.val 28 (Ty.i .i64), .box 4 1 (Ty.st .Config) [(0, 2, 1)], .rowb 2 1 126 4 (Ty.st .Member)], [6, 7, 26, 27]⟩
 (.seq
 (.reg
 (op 29 (.bin .lss (tm 28) (tm 27))
 .nil))
 (.seq
 (.cond (tm 29)
 .skip
 (.exit 0))
 (.join ⟨[.box 4 1 (Ty.st .Config) [(0, 2, 1)], .rowb 2 1 126 4 (Ty.st .Member)], [6, 7, 26, 27, 28]⟩
 (.block 1
 (.seq
 (.reg
 (op 30 (.iaddr 15 (tm 26) (tm 28))
 (op 31 (.load (some 15) (tm 30))
 (op 9 (.alloc [.int .i64 0, .int .i64 0, .int .i64 0, .int .i64 0, .nils, .nils, .int .i64 0, .int .i64 0, .str ⟨#[]⟩, .int .i64 0, .str ⟨#[]⟩, .int .i64 0, .str ⟨#[]⟩, .int .i64 0, .int .i64 0])
 (ops (.store 15 (tm 9) (tm 31))
 .nil)))))
 (.seq
 (.reg
 (op 32 (.load (some 15) (tm 9))
 (op 33 (.call 75 [(tm 32)])
 (op 34 (.mov (tm 33))
 (.ite 34 true
 (opg 35 34 true (.faddr 0 (tm 7))
 (opg 36 34 true (.load none (tm 35))
 (opg 37 34 true (.faddr 0 (tm 9))
 (opg 38 34 true (.load none (tm 37))
 (opg 39 34 true (.iaddr 4 (tm 36) (tm 38))
 (opg 40 34 true (.faddr 0 (tm 39))
 (opg 41 34 true (.load none (tm 40))
 (opg 42 34 true (.not (tm 41))
 .nil))))))))
 43 none (tm 42) (.cst (.bool false))
 .nil)))))
 (.cond (tm 43)
 (.drw [(0, 2), (1, 2), (0, 3), (1, 3), (0, 4), (1, 4), (2, 4), (3, 4), (0, 5), (1, 5), (2, 5), (3, 5), (0, 6), (1, 6), (2, 6), (3, 6)]
 (op 44 (.faddr 0 (tm 7))
 (op 45 (.load none (tm 44))
 (op 46 (.faddr 0 (tm 9))
 (op 47 (.load none (tm 46))
 (op 48 (.faddr 3 (tm 9))
 (op 49 (.load (some 3) (tm 48))
 (op 50 (.call 116 [(tm 49)])
 (op 51 (.build [.bool false, .int .i64 0, .nils, .nils] [(0, 1, (.cst (.bool true))), (1, 3, (tm 50))])
 (op 52 (.iaddr 4 (tm 45) (tm 47))
 (ops (.store 4 (tm 52) (tm 51))
 .nil)))))))))))
 .skip))))
 (.reg
 (op 53 (.bin .add (tm 28) (ci 1))
 (op 28 (.mov (tm 53))
 .nil)))))))))
 (.seq
 (.reg
 (op 54 (.load (some 1) (tm 7))
 (ops (.store 1 (tm 6) (tm 54))
 .nil)))
 .ret))))))
theorem ok_prepare_View : FnOk Tryz.prog 47 55 (SA.erase sa_prepare_View) [.cell 6 (some 1)] := ⟨Tryz.f47, [], Tryz.func47, rfl, by kernel_rfl, by kernel_rfl, by kernel_rfl⟩
noncomputable def F_prepare_View (a0 : Int) (a1 : TTrust) (a2 : (List TEnvelope)) : Option TConfig :=
 bif decide ((10 : Int) = (10 : Int)) && decide (0 ≤ (10 : Int)) && lenOk 64 (Int.toNat (10 : Int)) then
 Option.bind (bif (decide (a0 < (0 : Int))) then some true
 else
 some (decide ((10 : Int) ≤ a0))) fun b1 =>
 bif b1 then
 some (TConfig.mk (List.replicate (Int.toNat (10 : Int)) (TMember.mk false (TTrust.mk (0 : Int) ([] : List Int) ([] : List TTrust)))))
 else
 Option.bind (F_copies_Trust (TTrust.mk a1.Threshold a1.Nodes a1.Inner)) fun r2 =>
 Option.bind (idx (List.replicate (Int.toNat (10 : Int)) (TMember.mk false (TTrust.mk (0 : Int) ([] : List Int) ([] : List TTrust)))) a0) fun x3 =>
 Option.bind ((List.replicate (Int.toNat (10 : Int)) (TMember.mk false (TTrust.mk (0 : Int) ([] : List Int) ([] : List TTrust))))[(Int.toNat a0)]?) fun x4 =>
 loopO (fun (v5 : Int × TConfig × (List TMember) × Unit) =>
 bif (decide (v5.1 < ((List.length a2 : Nat) : Int))) then
 letJ (fun (v6 : TConfig × (List TMember) × Unit) =>
 some (Sum.inl ((addI .i64 v5.1 (1 : Int)), (TConfig.mk ([] : List TMember)), v6.2.1, ()))) fun j7 =>
 Option.bind (idx a2 v5.1) fun x8 =>
 Option.bind (F_envelopes_Valid (TEnvelope.mk x8.Node x8.Slot x8.Seq (TTrust.mk x8.Trust.Threshold x8.Trust.Nodes x8.Trust.Inner) x8.Kind x8.Ballot x8.Prepared x8.Prime x8.Low x8.High)) fun r9 =>
 Option.bind (bif r9 then
 Option.bind (idx v5.2.2.1 x8.Node) fun x10 =>
 Option.bind (v5.2.2.1[(Int.toNat x8.Node)]?) fun x11 =>
 Option.bind (v5.2.2.1[(Int.toNat x8.Node)]?) fun x12 =>
 some (!x12.Declared)
 else some false) fun b13 =>
 bif b13 then
 Option.bind (F_copies_Trust (TTrust.mk x8.Trust.Threshold x8.Trust.Nodes x8.Trust.Inner)) fun r14 =>
 Option.bind (idx v5.2.2.1 x8.Node) fun x15 =>
 Option.bind (v5.2.2.1[(Int.toNat x8.Node)]?) fun x16 =>
 j7 ((TConfig.mk ([] : List TMember)), (v5.2.2.1.set (Int.toNat x8.Node) (TMember.mk true (TTrust.mk r14.Threshold r14.Nodes r14.Inner))), ())
 else
 j7 ((TConfig.mk ([] : List TMember)), v5.2.2.1, ())
 else
 Option.map Sum.inr (some (TConfig.mk v5.2.2.1))) ((0 : Int), (TConfig.mk ([] : List TMember)), ((List.replicate (Int.toNat (10 : Int)) (TMember.mk false (TTrust.mk (0 : Int) ([] : List Int) ([] : List TTrust)))).set (Int.toNat a0) (TMember.mk true (TTrust.mk r2.Threshold r2.Nodes r2.Inner))), ())
 else none
noncomputable def k_prepare_View : KFun U := .fn 47 [.ty (Ty.i .i64), .ty (Ty.st .Trust), .ty (Ty.sl (Ty.st .Envelope))] (.one (Ty.st .Config)) fun a => F_prepare_View a.1 a.2.1 a.2.2.1
theorem e_prepare_View : fnK K [k_copies_Trust, k_envelopes_Valid] sa_prepare_View [.cell 6 (some 1)] [.ty (Ty.i .i64), .ty (Ty.st .Trust), .ty (Ty.sl (Ty.st .Envelope))] (.one (Ty.st .Config)) = fun a => F_prepare_View a.1 a.2.1 a.2.2.1 := by kernel_rfl
theorem s_prepare_View : KFun.Sound (U := U) Tryz.prog k_prepare_View := fnK_sound (K := K) (Γ := [k_copies_Trust, k_envelopes_Valid]) ok_prepare_View (by kernel_rfl) (by decide) ⟨s_copies_Trust, s_envelopes_Valid, trivial⟩ (fun a => congrFun e_prepare_View a)

/-! ### trustquorum/envelopes.Rights -/
def sa_envelopes_Rights : SA U :=
 (.seq
 (.reg
 (op 2 (.mov (.cst (.nils)))
 .nil))
 (.seq
 (.reg
 (op 3 (.mov (.cst (.nils)))
 .nil))
 (.seq
 (.seq
 (.reg
 (op 6 (.mov (tm 0))
 (op 7 (.len false (tm 6))
 (op 8 (.mov (ci 0))
 .nil))))
 (.block 0
 (.ps (.own 3 106 15 (Ty.st .Right))
 (.loop ⟨[.val 8 (Ty.i .i64), .own 3 5 1 106 15 (Ty.st .Right)], [6, 7]⟩
 (.seq
 (.reg
 (op 9 (.bin .lss (tm 8) (tm 7))
 .nil))
 (.seq
 (.cond (tm 9)
 .skip
 (.exit 0))
 (.join ⟨[.own 3 5 1 106 15 (Ty.st .Right)], [6, 7, 8]⟩
 (.block 1
 (.seq
 (.reg
 (op 10 (.iaddr 15 (tm 6) (tm 8))
 (op 11 (.load (some 15) (tm 10))
 (op 5 (.alloc [.int .i64 0, .int .i64 0, .int .i64 0, .int .i64 0, .nils, .nils, .int .i64 0, .int .i64 0, .str ⟨#[]⟩, .int .i64 0, .str ⟨#[]⟩, .int .i64 0, .str ⟨#[]⟩, .int .i64 0, .int .i64 0])
 (ops (.store 15 (tm 5) (tm 11))
 .nil)))))
 (.seq
 (.reg
 (op 12 (.load (some 15) (tm 5))
 (op 13 (.call 75 [(tm 12)])
 .nil)))
 (.cond (tm 13)
 (.reg
 (op 14 (.mov (tm 3))
 (op 15 (.load (some 15) (tm 5))
 (op 16 (.build [.int .i64 0, .int .i64 0, .int .i64 0, .int .i64 0, .nils, .nils, .int .i64 0, .int .i64 0, .str ⟨#[]⟩, .int .i64 0, .str ⟨#[]⟩, .int .i64 0, .str ⟨#[]⟩, .int .i64 0, .int .i64 0] [(0, 15, (tm 15))])
 (op 17 (.bsl false 106 15 (List.replicate 1 [.int .i64 0, .int .i64 0, .int .i64 0, .int .i64 0, .nils, .nils, .int .i64 0, .int .i64 0, .str ⟨#[]⟩, .int .i64 0, .str ⟨#[]⟩, .int .i64 0, .str ⟨#[]⟩, .int .i64 0, .int .i64 0]) [(0, (tm 16))])
 (op 18 (.app 106 15 176 (tm 14) (tm 17))
 (op 3 (.mov (tm 18))
 .nil)))))))
 .skip))))
 (.reg
 (op 19 (.bin .add (tm 8) (ci 1))
 (op 8 (.mov (tm 19))
 .nil))))))))))
 (.seq
 (.reg
 (op 20 (.mov (tm 3))
 (op 2 (.mov (tm 20))
 .nil)))
 .ret))))
theorem ok_envelopes_Rights : FnOk Tryz.prog 159 21 (SA.erase sa_envelopes_Rights) [.tmp 2] := ⟨Tryz.f159, [], Tryz.func159, rfl, by kernel_rfl, by kernel_rfl, by kernel_rfl⟩
noncomputable def F_envelopes_Rights (a0 : (List TEnvelope)) : Option (List TRight) :=
 loopO (fun (v1 : Int × (List TRight) × Unit) =>
 bif (decide (v1.1 < ((List.length a0 : Nat) : Int))) then
 letJ (fun (v2 : (List TRight) × Unit) =>
 some (Sum.inl ((addI .i64 v1.1 (1 : Int)), v2.1, ()))) fun j3 =>
 Option.bind (idx a0 v1.1) fun x4 =>
 Option.bind (F_envelopes_Valid (TEnvelope.mk x4.Node x4.Slot x4.Seq (TTrust.mk x4.Trust.Threshold x4.Trust.Nodes x4.Trust.Inner) x4.Kind x4.Ballot x4.Prepared x4.Prime x4.Low x4.High)) fun r5 =>
 bif r5 then
 bif lenOk 176 (List.length v1.2.1 + List.length [(TRight.mk (TEnvelope.mk x4.Node x4.Slot x4.Seq (TTrust.mk x4.Trust.Threshold x4.Trust.Nodes x4.Trust.Inner) x4.Kind x4.Ballot x4.Prepared x4.Prime x4.Low x4.High))]) then
 j3 ((v1.2.1 ++ [(TRight.mk (TEnvelope.mk x4.Node x4.Slot x4.Seq (TTrust.mk x4.Trust.Threshold x4.Trust.Nodes x4.Trust.Inner) x4.Kind x4.Ballot x4.Prepared x4.Prime x4.Low x4.High))]), ())
 else none
 else
 j3 (v1.2.1, ())
 else
 Option.map Sum.inr (some v1.2.1)) ((0 : Int), ([] : List TRight), ())
noncomputable def k_envelopes_Rights : KFun U := .fn 159 [.ty (Ty.sl (Ty.st .Envelope))] (.one (Ty.sl (Ty.st .Right))) fun a => F_envelopes_Rights a.1
theorem e_envelopes_Rights : fnK K [k_envelopes_Valid] sa_envelopes_Rights [.tmp 2] [.ty (Ty.sl (Ty.st .Envelope))] (.one (Ty.sl (Ty.st .Right))) = fun a => F_envelopes_Rights a.1 := by kernel_rfl
theorem s_envelopes_Rights : KFun.Sound (U := U) Tryz.prog k_envelopes_Rights := fnK_sound (K := K) (Γ := [k_envelopes_Valid]) ok_envelopes_Rights (by kernel_rfl) (by decide) ⟨s_envelopes_Valid, trivial⟩ (fun a => congrFun e_envelopes_Rights a)

/-! ### trustquorum/prepare.Look -/
def sa_prepare_Look : SA U :=
 (.seq
 (.reg
 (op 4 (.box (tm 1))
 (op 6 (.alloc [.int .i64 0, .nils, .nils])
 .nil)))
 (.seq
 (.reg
 (op 7 (.mov (tm 0))
 (op 8 (.mov (tm 0))
 (op 9 (.load (some 3) (tm 4))
 (op 10 (.mov (tm 2))
 (op 11 (.call 47 [(tm 8), (tm 9), (tm 10)])
 (op 12 (.mov (tm 2))
 (op 13 (.call 159 [(tm 12)])
 (op 14 (.build [.int .i64 0, .nils, .nils] [(0, 1, (tm 7)), (1, 1, (tm 11)), (2, 1, (tm 13))])
 (ops (.store 3 (tm 6) (tm 14))
 .nil))))))))))
 .ret))
theorem ok_prepare_Look : FnOk Tryz.prog 97 15 (SA.erase sa_prepare_Look) [.cell 6 (some 3)] := ⟨Tryz.f97, [], Tryz.func97, rfl, by kernel_rfl, by kernel_rfl, by kernel_rfl⟩
noncomputable def F_prepare_Look (a0 : Int) (a1 : TTrust) (a2 : (List TEnvelope)) : Option TSeen :=
 Option.bind (F_prepare_View a0 (TTrust.mk a1.Threshold a1.Nodes a1.Inner) a2) fun r1 =>
 Option.bind (F_envelopes_Rights a2) fun r2 =>
 some (TSeen.mk a0 r1 r2)
noncomputable def k_prepare_Look : KFun U := .fn 97 [.ty (Ty.i .i64), .ty (Ty.st .Trust), .ty (Ty.sl (Ty.st .Envelope))] (.one (Ty.st .Seen)) fun a => F_prepare_Look a.1 a.2.1 a.2.2.1
theorem e_prepare_Look : fnK K [k_prepare_View, k_envelopes_Rights] sa_prepare_Look [.cell 6 (some 3)] [.ty (Ty.i .i64), .ty (Ty.st .Trust), .ty (Ty.sl (Ty.st .Envelope))] (.one (Ty.st .Seen)) = fun a => F_prepare_Look a.1 a.2.1 a.2.2.1 := by kernel_rfl
theorem s_prepare_Look : KFun.Sound (U := U) Tryz.prog k_prepare_Look := fnK_sound (K := K) (Γ := [k_prepare_View, k_envelopes_Rights]) ok_prepare_Look (by kernel_rfl) (by decide) ⟨s_prepare_View, s_envelopes_Rights, trivial⟩ (fun a => congrFun e_prepare_Look a)

/-! ### trustquorum/commit.accepts -/
def sa_commit_accepts : SA U :=
 (.seq
 (.reg
 (op 3 (.box (tm 0))
 (op 4 (.box (tm 1))
 (op 5 (.box (tm 2))
 (op 6 (.mov (.cst (.any)))
 .nil)))))
 (.seq
 (.reg
 (op 7 (.mkf 187 [(tm 3), (tm 4), (tm 5)])
 (op 6 (.mov (tm 7))
 .nil)))
 .ret))
theorem ok_commit_accepts : FnOk Tryz.prog 158 8 (SA.erase sa_commit_accepts) [.tmp 6] := ⟨Tryz.f158, [], Tryz.func158, rfl, by kernel_rfl, by kernel_rfl, by kernel_rfl⟩
noncomputable def F_commit_accepts (a0 : ByteArray) (a1 : Int) (a2 : Int) : Option (ByteArray × Int × Int × Unit) :=
 some (a0, a1, a2, ())
noncomputable def k_commit_accepts : KFun U := .fn 158 [.ty Ty.str, .ty (Ty.i .i64), .ty (Ty.i .i64)] (.fn (.clo 187 [.ref (.ty Ty.str), .ref (.ty (Ty.i .i64)), .ref (.ty (Ty.i .i64))])) fun a => F_commit_accepts a.1 a.2.1 a.2.2.1
theorem e_commit_accepts : fnK K [] sa_commit_accepts [.tmp 6] [.ty Ty.str, .ty (Ty.i .i64), .ty (Ty.i .i64)] (.fn (.clo 187 [.ref (.ty Ty.str), .ref (.ty (Ty.i .i64)), .ref (.ty (Ty.i .i64))])) = fun a => F_commit_accepts a.1 a.2.1 a.2.2.1 := by kernel_rfl
theorem s_commit_accepts : KFun.Sound (U := U) Tryz.prog k_commit_accepts := fnK_sound (K := K) (Γ := []) ok_commit_accepts (by kernel_rfl) (by decide) trivial (fun a => congrFun e_commit_accepts a)

/-! ### trustquorum/commit.ready$1 -/
def sa_commit_ready_1 : SA U :=
 (.seq
 (.reg
 (op 4 (.box (tm 0))
 (op 5 (.mov (.cst (.bool false)))
 .nil)))
 (.seq
 (.reg
 (op 6 (.load (some 15) (tm 4))
 (op 7 (.load none (tm 1))
 (op 8 (.load none (tm 2))
 (op 9 (.load none (tm 3))
 (op 10 (.call 94 [(tm 6), (tm 7), (tm 8), (tm 9)])
 (op 5 (.mov (tm 10))
 .nil)))))))
 .ret))
theorem ok_commit_ready_1 : FnOk Tryz.prog 157 11 (SA.erase sa_commit_ready_1) [.tmp 5] := ⟨Tryz.f157, [], Tryz.func157, rfl, by kernel_rfl, by kernel_rfl, by kernel_rfl⟩
noncomputable def F_commit_ready_1 (a0 : TRight) (a1 : ByteArray) (a2 : Int) (a3 : Int) : Option Bool :=
 Option.bind (F_envelopes_Right_VotesCommit (TRight.mk (TEnvelope.mk a0.Envelope.Node a0.Envelope.Slot a0.Envelope.Seq (TTrust.mk a0.Envelope.Trust.Threshold a0.Envelope.Trust.Nodes a0.Envelope.Trust.Inner) a0.Envelope.Kind a0.Envelope.Ballot a0.Envelope.Prepared a0.Envelope.Prime a0.Envelope.Low a0.Envelope.High)) a1 a2 a3) fun r1 =>
 some r1
noncomputable def k_commit_ready_1 : KFun U := .fn 157 [.ty (Ty.st .Right), .ref (.ty Ty.str), .ref (.ty (Ty.i .i64)), .ref (.ty (Ty.i .i64))] (.one Ty.bool) fun a => F_commit_ready_1 a.1 a.2.1 a.2.2.1 a.2.2.2.1
theorem e_commit_ready_1 : fnK K [k_envelopes_Right_VotesCommit] sa_commit_ready_1 [.tmp 5] [.ty (Ty.st .Right), .ref (.ty Ty.str), .ref (.ty (Ty.i .i64)), .ref (.ty (Ty.i .i64))] (.one Ty.bool) = fun a => F_commit_ready_1 a.1 a.2.1 a.2.2.1 a.2.2.2.1 := by kernel_rfl
theorem s_commit_ready_1 : KFun.Sound (U := U) Tryz.prog k_commit_ready_1 := fnK_sound (K := K) (Γ := [k_envelopes_Right_VotesCommit]) ok_commit_ready_1 (by kernel_rfl) (by decide) ⟨s_envelopes_Right_VotesCommit, trivial⟩ (fun a => congrFun e_commit_ready_1 a)

/-! ### trustquorum/commit.accepts$1 -/
def sa_commit_accepts_1 : SA U :=
 (.seq
 (.reg
 (op 4 (.box (tm 0))
 (op 5 (.mov (.cst (.bool false)))
 .nil)))
 (.seq
 (.reg
 (op 6 (.load (some 15) (tm 4))
 (op 7 (.load none (tm 1))
 (op 8 (.load none (tm 2))
 (op 9 (.load none (tm 3))
 (op 10 (.call 143 [(tm 6), (tm 7), (tm 8), (tm 9)])
 (op 5 (.mov (tm 10))
 .nil)))))))
 .ret))
theorem ok_commit_accepts_1 : FnOk Tryz.prog 187 11 (SA.erase sa_commit_accepts_1) [.tmp 5] := ⟨Tryz.f187, [], Tryz.func187, rfl, by kernel_rfl, by kernel_rfl, by kernel_rfl⟩
noncomputable def F_commit_accepts_1 (a0 : TRight) (a1 : ByteArray) (a2 : Int) (a3 : Int) : Option Bool :=
 Option.bind (F_envelopes_Right_AcceptsCommit (TRight.mk (TEnvelope.mk a0.Envelope.Node a0.Envelope.Slot a0.Envelope.Seq (TTrust.mk a0.Envelope.Trust.Threshold a0.Envelope.Trust.Nodes a0.Envelope.Trust.Inner) a0.Envelope.Kind a0.Envelope.Ballot a0.Envelope.Prepared a0.Envelope.Prime a0.Envelope.Low a0.Envelope.High)) a1 a2 a3) fun r1 =>
 some r1
noncomputable def k_commit_accepts_1 : KFun U := .fn 187 [.ty (Ty.st .Right), .ref (.ty Ty.str), .ref (.ty (Ty.i .i64)), .ref (.ty (Ty.i .i64))] (.one Ty.bool) fun a => F_commit_accepts_1 a.1 a.2.1 a.2.2.1 a.2.2.2.1
theorem e_commit_accepts_1 : fnK K [k_envelopes_Right_AcceptsCommit] sa_commit_accepts_1 [.tmp 5] [.ty (Ty.st .Right), .ref (.ty Ty.str), .ref (.ty (Ty.i .i64)), .ref (.ty (Ty.i .i64))] (.one Ty.bool) = fun a => F_commit_accepts_1 a.1 a.2.1 a.2.2.1 a.2.2.2.1 := by kernel_rfl
theorem s_commit_accepts_1 : KFun.Sound (U := U) Tryz.prog k_commit_accepts_1 := fnK_sound (K := K) (Γ := [k_envelopes_Right_AcceptsCommit]) ok_commit_accepts_1 (by kernel_rfl) (by decide) ⟨s_envelopes_Right_AcceptsCommit, trivial⟩ (fun a => congrFun e_commit_accepts_1 a)

/-! ### (trustquorum/prepare.Seen).Accepts$1 -/
def sa_prepare_Seen_Accepts_1_c157_c187 : SA U :=
 (.seq
 (.reg
 (op 3 (.box (tm 0))
 (op 4 (.mov (.cst (.bool false)))
 .nil)))
 (.seq
 (.reg
 (op 5 (.load none (tm 1))
 (op 6 (.load (some 15) (tm 3))
 (op 7 (.callv (tm 5) [(tm 6)])
 (op 8 (.mov (tm 7))
 (.ite 8 false
 (opg 9 8 false (.load none (tm 2))
 (opg 10 8 false (.load (some 15) (tm 3))
 (opg 11 8 false (.callv (tm 9) [(tm 10)])
 .nil)))
 12 none (.cst (.bool true)) (tm 11)
 (op 4 (.mov (tm 12))
 .nil)))))))
 .ret))
theorem ok_prepare_Seen_Accepts_1_c157_c187 : FnOk Tryz.prog 185 13 (SA.erase sa_prepare_Seen_Accepts_1_c157_c187) [.tmp 4] := ⟨Tryz.f185, [], Tryz.func185, rfl, by kernel_rfl, by kernel_rfl, by kernel_rfl⟩
noncomputable def F_prepare_Seen_Accepts_1_c157_c187 (a0 : TRight) (a1 : ByteArray) (a2 : Int) (a3 : Int) (a4 : ByteArray) (a5 : Int) (a6 : Int) : Option Bool :=
 Option.bind (F_commit_ready_1 (TRight.mk (TEnvelope.mk a0.Envelope.Node a0.Envelope.Slot a0.Envelope.Seq (TTrust.mk a0.Envelope.Trust.Threshold a0.Envelope.Trust.Nodes a0.Envelope.Trust.Inner) a0.Envelope.Kind a0.Envelope.Ballot a0.Envelope.Prepared a0.Envelope.Prime a0.Envelope.Low a0.Envelope.High)) a1 a2 a3) fun r1 =>
 Option.bind (bif r1 then some true
 else
 Option.bind (F_commit_accepts_1 (TRight.mk (TEnvelope.mk a0.Envelope.Node a0.Envelope.Slot a0.Envelope.Seq (TTrust.mk a0.Envelope.Trust.Threshold a0.Envelope.Trust.Nodes a0.Envelope.Trust.Inner) a0.Envelope.Kind a0.Envelope.Ballot a0.Envelope.Prepared a0.Envelope.Prime a0.Envelope.Low a0.Envelope.High)) a4 a5 a6) fun r2 =>
 some r2) fun b3 =>
 some b3
noncomputable def k_prepare_Seen_Accepts_1_c157_c187 : KFun U := .fn 185 [.ty (Ty.st .Right), .ref (.clo 157 [.ref (.ty Ty.str), .ref (.ty (Ty.i .i64)), .ref (.ty (Ty.i .i64))]), .ref (.clo 187 [.ref (.ty Ty.str), .ref (.ty (Ty.i .i64)), .ref (.ty (Ty.i .i64))])] (.one Ty.bool) fun a => F_prepare_Seen_Accepts_1_c157_c187 a.1 a.2.1.1 a.2.1.2.1 a.2.1.2.2.1 a.2.2.1.1 a.2.2.1.2.1 a.2.2.1.2.2.1
theorem e_prepare_Seen_Accepts_1_c157_c187 : fnK K [k_commit_ready_1, k_commit_accepts_1] sa_prepare_Seen_Accepts_1_c157_c187 [.tmp 4] [.ty (Ty.st .Right), .ref (.clo 157 [.ref (.ty Ty.str), .ref (.ty (Ty.i .i64)), .ref (.ty (Ty.i .i64))]), .ref (.clo 187 [.ref (.ty Ty.str), .ref (.ty (Ty.i .i64)), .ref (.ty (Ty.i .i64))])] (.one Ty.bool) = fun a => F_prepare_Seen_Accepts_1_c157_c187 a.1 a.2.1.1 a.2.1.2.1 a.2.1.2.2.1 a.2.2.1.1 a.2.2.1.2.1 a.2.2.1.2.2.1 := by kernel_rfl
theorem s_prepare_Seen_Accepts_1_c157_c187 : KFun.Sound (U := U) Tryz.prog k_prepare_Seen_Accepts_1_c157_c187 := fnK_sound (K := K) (Γ := [k_commit_ready_1, k_commit_accepts_1]) ok_prepare_Seen_Accepts_1_c157_c187 (by kernel_rfl) (by decide) ⟨s_commit_ready_1, s_commit_accepts_1, trivial⟩ (fun a => congrFun e_prepare_Seen_Accepts_1_c157_c187 a)

/-! ### (trustquorum/prepare.Seen).Who -/
def sa_prepare_Seen_Who_c185_c157_c187 : SA U :=
 (.seq
 (.reg
 (op 2 (.box (tm 0))
 (op 4 (.mov (ci 0))
 .nil)))
 (.seq
 (.reg
 (op 5 (.mov (ci 0))
 .nil))
 (.seq
 (.seq
 (.reg
 (op 8 (.faddr 2 (tm 2))
 (op 9 (.load none (tm 8))
 (op 10 (.len false (tm 9))
 (op 11 (.mov (ci 0))
 .nil)))))
 (.block 0
 (.loop ⟨[.val 5 (Ty.i .i64), .val 11 (Ty.i .i64)], [1, 9, 10]⟩
 (.seq
 (.reg
 (op 12 (.bin .lss (tm 11) (tm 10))
 .nil))
 (.seq
 (.cond (tm 12)
 .skip
 (.exit 0))
 (.join ⟨[.val 5 (Ty.i .i64)], [1, 9, 10, 11]⟩
 (.block 1
 (.seq
 (.reg
 (op 13 (.iaddr 15 (tm 9) (tm 11))
 (op 14 (.load (some 15) (tm 13))
 (op 7 (.alloc [.int .i64 0, .int .i64 0, .int .i64 0, .int .i64 0, .nils, .nils, .int .i64 0, .int .i64 0, .str ⟨#[]⟩, .int .i64 0, .str ⟨#[]⟩, .int .i64 0, .str ⟨#[]⟩, .int .i64 0, .int .i64 0])
 (ops (.store 15 (tm 7) (tm 14))
 .nil)))))
 (.seq
 (.reg
 (op 15 (.mov (tm 1))
 (op 16 (.load (some 15) (tm 7))
 (op 17 (.callv (tm 15) [(tm 16)])
 .nil))))
 (.cond (tm 17)
 (.reg
 (op 18 (.mov (tm 5))
 (op 19 (.faddr 0 (tm 7))
 (op 20 (.faddr 0 (tm 19))
 (op 21 (.load none (tm 20))
 (op 22 (.bin .shl (ci 1) (tm 21))
 (op 23 (.bin .or (tm 18) (tm 22))
 (op 5 (.mov (tm 23))
 .nil))))))))
 .skip))))
 (.reg
 (op 24 (.bin .add (tm 11) (ci 1))
 (op 11 (.mov (tm 24))
 .nil)))))))))
 (.seq
 (.reg
 (op 25 (.mov (tm 5))
 (op 4 (.mov (tm 25))
 .nil)))
 .ret))))
theorem ok_prepare_Seen_Who_c185_c157_c187 : FnOk Tryz.prog 163 26 (SA.erase sa_prepare_Seen_Who_c185_c157_c187) [.tmp 4] := ⟨Tryz.f163, [], Tryz.func163, rfl, by kernel_rfl, by kernel_rfl, by kernel_rfl⟩
noncomputable def F_prepare_Seen_Who_c185_c157_c187 (a0 : TSeen) (a1 : ByteArray) (a2 : Int) (a3 : Int) (a4 : ByteArray) (a5 : Int) (a6 : Int) : Option Int :=
 loopO (fun (v1 : Int × Int × Unit) =>
 bif (decide (v1.2.1 < ((List.length a0.Heard : Nat) : Int))) then
 letJ (fun (v2 : Int × Unit) =>
 some (Sum.inl (v2.1, (addI .i64 v1.2.1 (1 : Int)), ()))) fun j3 =>
 Option.bind (idx a0.Heard v1.2.1) fun x4 =>
 Option.bind (F_prepare_Seen_Accepts_1_c157_c187 (TRight.mk (TEnvelope.mk x4.Envelope.Node x4.Envelope.Slot x4.Envelope.Seq (TTrust.mk x4.Envelope.Trust.Threshold x4.Envelope.Trust.Nodes x4.Envelope.Trust.Inner) x4.Envelope.Kind x4.Envelope.Ballot x4.Envelope.Prepared x4.Envelope.Prime x4.Envelope.Low x4.Envelope.High)) a1 a2 a3 a4 a5 a6) fun r5 =>
 bif r5 then
 if x4.Envelope.Node < 0 then none else
 j3 ((orI .i64 v1.1 (shlI .i64 (1 : Int) x4.Envelope.Node)), ())
 else
 j3 (v1.1, ())
 else
 Option.map Sum.inr (some v1.1)) ((0 : Int), (0 : Int), ())
noncomputable def k_prepare_Seen_Who_c185_c157_c187 : KFun U := .fn 163 [.ty (Ty.st .Seen), .clo 185 [.ref (.clo 157 [.ref (.ty Ty.str), .ref (.ty (Ty.i .i64)), .ref (.ty (Ty.i .i64))]), .ref (.clo 187 [.ref (.ty Ty.str), .ref (.ty (Ty.i .i64)), .ref (.ty (Ty.i .i64))])]] (.one (Ty.i .i64)) fun a => F_prepare_Seen_Who_c185_c157_c187 a.1 a.2.1.1.1 a.2.1.1.2.1 a.2.1.1.2.2.1 a.2.1.2.1.1 a.2.1.2.1.2.1 a.2.1.2.1.2.2.1
theorem e_prepare_Seen_Who_c185_c157_c187 : fnK K [k_prepare_Seen_Accepts_1_c157_c187] sa_prepare_Seen_Who_c185_c157_c187 [.tmp 4] [.ty (Ty.st .Seen), .clo 185 [.ref (.clo 157 [.ref (.ty Ty.str), .ref (.ty (Ty.i .i64)), .ref (.ty (Ty.i .i64))]), .ref (.clo 187 [.ref (.ty Ty.str), .ref (.ty (Ty.i .i64)), .ref (.ty (Ty.i .i64))])]] (.one (Ty.i .i64)) = fun a => F_prepare_Seen_Who_c185_c157_c187 a.1 a.2.1.1.1 a.2.1.1.2.1 a.2.1.1.2.2.1 a.2.1.2.1.1 a.2.1.2.1.2.1 a.2.1.2.1.2.2.1 := by kernel_rfl
theorem s_prepare_Seen_Who_c185_c157_c187 : KFun.Sound (U := U) Tryz.prog k_prepare_Seen_Who_c185_c157_c187 := fnK_sound (K := K) (Γ := [k_prepare_Seen_Accepts_1_c157_c187]) ok_prepare_Seen_Who_c185_c157_c187 (by kernel_rfl) (by decide) ⟨s_prepare_Seen_Accepts_1_c157_c187, trivial⟩ (fun a => congrFun e_prepare_Seen_Who_c185_c157_c187 a)

/-! ### (trustquorum/prepare.Seen).Who -/
def sa_prepare_Seen_Who_c187 : SA U :=
 (.seq
 (.reg
 (op 2 (.box (tm 0))
 (op 4 (.mov (ci 0))
 .nil)))
 (.seq
 (.reg
 (op 5 (.mov (ci 0))
 .nil))
 (.seq
 (.seq
 (.reg
 (op 8 (.faddr 2 (tm 2))
 (op 9 (.load none (tm 8))
 (op 10 (.len false (tm 9))
 (op 11 (.mov (ci 0))
 .nil)))))
 (.block 0
 (.loop ⟨[.val 5 (Ty.i .i64), .val 11 (Ty.i .i64)], [1, 9, 10]⟩
 (.seq
 (.reg
 (op 12 (.bin .lss (tm 11) (tm 10))
 .nil))
 (.seq
 (.cond (tm 12)
 .skip
 (.exit 0))
 (.join ⟨[.val 5 (Ty.i .i64)], [1, 9, 10, 11]⟩
 (.block 1
 (.seq
 (.reg
 (op 13 (.iaddr 15 (tm 9) (tm 11))
 (op 14 (.load (some 15) (tm 13))
 (op 7 (.alloc [.int .i64 0, .int .i64 0, .int .i64 0, .int .i64 0, .nils, .nils, .int .i64 0, .int .i64 0, .str ⟨#[]⟩, .int .i64 0, .str ⟨#[]⟩, .int .i64 0, .str ⟨#[]⟩, .int .i64 0, .int .i64 0])
 (ops (.store 15 (tm 7) (tm 14))
 .nil)))))
 (.seq
 (.reg
 (op 15 (.mov (tm 1))
 (op 16 (.load (some 15) (tm 7))
 (op 17 (.callv (tm 15) [(tm 16)])
 .nil))))
 (.cond (tm 17)
 (.reg
 (op 18 (.mov (tm 5))
 (op 19 (.faddr 0 (tm 7))
 (op 20 (.faddr 0 (tm 19))
 (op 21 (.load none (tm 20))
 (op 22 (.bin .shl (ci 1) (tm 21))
 (op 23 (.bin .or (tm 18) (tm 22))
 (op 5 (.mov (tm 23))
 .nil))))))))
 .skip))))
 (.reg
 (op 24 (.bin .add (tm 11) (ci 1))
 (op 11 (.mov (tm 24))
 .nil)))))))))
 (.seq
 (.reg
 (op 25 (.mov (tm 5))
 (op 4 (.mov (tm 25))
 .nil)))
 .ret))))
theorem ok_prepare_Seen_Who_c187 : FnOk Tryz.prog 163 26 (SA.erase sa_prepare_Seen_Who_c187) [.tmp 4] := ⟨Tryz.f163, [], Tryz.func163, rfl, by kernel_rfl, by kernel_rfl, by kernel_rfl⟩
noncomputable def F_prepare_Seen_Who_c187 (a0 : TSeen) (a1 : ByteArray) (a2 : Int) (a3 : Int) : Option Int :=
 loopO (fun (v1 : Int × Int × Unit) =>
 bif (decide (v1.2.1 < ((List.length a0.Heard : Nat) : Int))) then
 letJ (fun (v2 : Int × Unit) =>
 some (Sum.inl (v2.1, (addI .i64 v1.2.1 (1 : Int)), ()))) fun j3 =>
 Option.bind (idx a0.Heard v1.2.1) fun x4 =>
 Option.bind (F_commit_accepts_1 (TRight.mk (TEnvelope.mk x4.Envelope.Node x4.Envelope.Slot x4.Envelope.Seq (TTrust.mk x4.Envelope.Trust.Threshold x4.Envelope.Trust.Nodes x4.Envelope.Trust.Inner) x4.Envelope.Kind x4.Envelope.Ballot x4.Envelope.Prepared x4.Envelope.Prime x4.Envelope.Low x4.Envelope.High)) a1 a2 a3) fun r5 =>
 bif r5 then
 if x4.Envelope.Node < 0 then none else
 j3 ((orI .i64 v1.1 (shlI .i64 (1 : Int) x4.Envelope.Node)), ())
 else
 j3 (v1.1, ())
 else
 Option.map Sum.inr (some v1.1)) ((0 : Int), (0 : Int), ())
noncomputable def k_prepare_Seen_Who_c187 : KFun U := .fn 163 [.ty (Ty.st .Seen), .clo 187 [.ref (.ty Ty.str), .ref (.ty (Ty.i .i64)), .ref (.ty (Ty.i .i64))]] (.one (Ty.i .i64)) fun a => F_prepare_Seen_Who_c187 a.1 a.2.1.1 a.2.1.2.1 a.2.1.2.2.1
theorem e_prepare_Seen_Who_c187 : fnK K [k_commit_accepts_1] sa_prepare_Seen_Who_c187 [.tmp 4] [.ty (Ty.st .Seen), .clo 187 [.ref (.ty Ty.str), .ref (.ty (Ty.i .i64)), .ref (.ty (Ty.i .i64))]] (.one (Ty.i .i64)) = fun a => F_prepare_Seen_Who_c187 a.1 a.2.1.1 a.2.1.2.1 a.2.1.2.2.1 := by kernel_rfl
theorem s_prepare_Seen_Who_c187 : KFun.Sound (U := U) Tryz.prog k_prepare_Seen_Who_c187 := fnK_sound (K := K) (Γ := [k_commit_accepts_1]) ok_prepare_Seen_Who_c187 (by kernel_rfl) (by decide) ⟨s_commit_accepts_1, trivial⟩ (fun a => congrFun e_prepare_Seen_Who_c187 a)

/-! ### trustquorum/configuration.Declared -/
def sa_configuration_Declared : SA U :=
 (.seq
 (.reg
 (op 1 (.box (tm 0))
 (op 2 (.mov (ci 0))
 .nil)))
 (.seq
 (.reg
 (op 3 (.mov (ci 0))
 .nil))
 (.seq
 (.seq
 (.reg
 (op 6 (.faddr 0 (tm 1))
 (op 7 (.load none (tm 6))
 (op 8 (.len false (tm 7))
 (op 9 (.mov (ci 0))
 .nil)))))
 (.block 0
 (.loop ⟨[.val 3 (Ty.i .i64), .val 9 (Ty.i .i64)], [7, 8]⟩
 (.seq
 (.reg
 (op 10 (.bin .lss (tm 9) (tm 8))
 .nil))
 (.seq
 (.cond (tm 10)
 .skip
 (.exit 0))
 (.join ⟨[.val 3 (Ty.i .i64)], [7, 8, 9]⟩
 (.block 1
 (.seq
 (.reg
 (op 11 (.mov (tm 9))
 (op 12 (.iaddr 4 (tm 7) (tm 9))
 (op 13 (.load (some 4) (tm 12))
 (op 5 (.alloc [.bool false, .int .i64 0, .nils, .nils])
 (op 4 (.mov (tm 11))
 (ops (.store 4 (tm 5) (tm 13))
 .nil)))))))
 (.seq
 (.reg
 (op 14 (.faddr 0 (tm 5))
 (op 15 (.load none (tm 14))
 (op 16 (.mov (tm 15))
 (.ite 16 true
 (opg 17 16 true (.mov (tm 4))
 (opg 18 16 true (.bin .lss (tm 17) (ci 10))
 .nil))
 19 none (tm 18) (.cst (.bool false))
 .nil)))))
 (.cond (tm 19)
 (.reg
 (op 20 (.mov (tm 3))
 (op 21 (.mov (tm 4))
 (op 22 (.bin .shl (ci 1) (tm 21))
 (op 23 (.bin .or (tm 20) (tm 22))
 (op 3 (.mov (tm 23))
 .nil))))))
 .skip))))
 (.reg
 (op 24 (.bin .add (tm 9) (ci 1))
 (op 9 (.mov (tm 24))
 .nil)))))))))
 (.seq
 (.reg
 (op 25 (.mov (tm 3))
 (op 2 (.mov (tm 25))
 .nil)))
 .ret))))
theorem ok_configuration_Declared : FnOk Tryz.prog 244 26 (SA.erase sa_configuration_Declared) [.tmp 2] := ⟨Tryz.f244, [], Tryz.func244, rfl, by kernel_rfl, by kernel_rfl, by kernel_rfl⟩
noncomputable def F_configuration_Declared (a0 : TConfig) : Option Int :=
 loopO (fun (v1 : Int × Int × Unit) =>
 bif (decide (v1.2.1 < ((List.length a0.Members : Nat) : Int))) then
 letJ (fun (v2 : Int × Unit) =>
 some (Sum.inl (v2.1, (addI .i64 v1.2.1 (1 : Int)), ()))) fun j3 =>
 Option.bind (idx a0.Members v1.2.1) fun x4 =>
 Option.bind (bif x4.Declared then
 some (decide (v1.2.1 < (10 : Int)))
 else some false) fun b5 =>
 bif b5 then
 if v1.2.1 < 0 then none else
 j3 ((orI .i64 v1.1 (shlI .i64 (1 : Int) v1.2.1)), ())
 else
 j3 (v1.1, ())
 else
 Option.map Sum.inr (some v1.1)) ((0 : Int), (0 : Int), ())
noncomputable def k_configuration_Declared : KFun U := .fn 244 [.ty (Ty.st .Config)] (.one (Ty.i .i64)) fun a => F_configuration_Declared a.1
theorem e_configuration_Declared : fnK K [] sa_configuration_Declared [.tmp 2] [.ty (Ty.st .Config)] (.one (Ty.i .i64)) = fun a => F_configuration_Declared a.1 := by kernel_rfl
theorem s_configuration_Declared : KFun.Sound (U := U) Tryz.prog k_configuration_Declared := fnK_sound (K := K) (Γ := []) ok_configuration_Declared (by kernel_rfl) (by decide) trivial (fun a => congrFun e_configuration_Declared a)

/-! ### trustquorum/threshold.Satisfied -/
def sa_threshold_Satisfied : SA U :=
 (.seq
 (.reg
 (op 2 (.box (tm 0))
 (op 4 (.mov (.cst (.bool false)))
 .nil)))
 (.seq
 (.seq
 (.reg
 (op 10 (.mov (tm 1))
 (op 11 (.call 226 [(tm 10)])
 (op 12 (.not (tm 11))
 .nil))))
 (.cond (tm 12)
 (.seq
 (.reg
 (op 4 (.mov (.cst (.bool false)))
 .nil))
 .ret)
 .skip))
 (.seq
 (.reg
 (op 5 (.mov (ci 0))
 .nil))
 (.seq
 (.seq
 (.reg
 (op 13 (.faddr 1 (tm 2))
 (op 14 (.load none (tm 13))
 (op 15 (.len false (tm 14))
 (op 16 (.mov (ci 0))
 .nil)))))
 (.block 0
 (.loop ⟨[.val 5 (Ty.i .i64), .val 16 (Ty.i .i64)], [1, 2, 14, 15]⟩
 (.seq
 (.reg
 (op 17 (.bin .lss (tm 16) (tm 15))
 .nil))
 (.seq
 (.cond (tm 17)
 .skip
 (.exit 0))
 (.join ⟨[.val 5 (Ty.i .i64)], [1, 2, 14, 15, 16]⟩
 (.block 1
 (.seq
 (.reg
 (op 18 (.iaddr 1 (tm 14) (tm 16))
 (op 19 (.load none (tm 18))
 (op 7 (.mov (tm 19))
 .nil))))
 (.seq
 (.reg
 (op 20 (.mov (tm 1))
 (op 21 (.mov (tm 7))
 (op 22 (.call 188 [(tm 20), (tm 21)])
 .nil))))
 (.cond (tm 22)
 (.reg
 (op 23 (.mov (tm 5))
 (op 24 (.bin .add (tm 23) (ci 1))
 (op 5 (.mov (tm 24))
 .nil))))
 .skip))))
 (.reg
 (op 25 (.bin .add (tm 16) (ci 1))
 (op 16 (.mov (tm 25))
 .nil)))))))))
 (.seq
 (.seq
 (.reg
 (op 26 (.faddr 2 (tm 2))
 (op 27 (.load none (tm 26))
 (op 28 (.len false (tm 27))
 (op 29 (.mov (ci 0))
 .nil)))))
 (.block 2
 (.loop ⟨[.val 5 (Ty.i .i64), .val 29 (Ty.i .i64)], [1, 2, 27, 28]⟩
 (.seq
 (.reg
 (op 30 (.bin .lss (tm 29) (tm 28))
 .nil))
 (.seq
 (.cond (tm 30)
 .skip
 (.exit 2))
 (.join ⟨[.val 5 (Ty.i .i64)], [1, 2, 27, 28, 29]⟩
 (.block 3
 (.seq
 (.reg
 (op 31 (.iaddr 3 (tm 27) (tm 29))
 (op 32 (.load (some 3) (tm 31))
 (op 9 (.alloc [.int .i64 0, .nils, .nils])
 (ops (.store 3 (tm 9) (tm 32))
 .nil)))))
 (.seq
 (.reg
 (op 33 (.load (some 3) (tm 9))
 (op 34 (.mov (tm 1))
 (op 35 (.call 245 [(tm 33), (tm 34)])
 .nil))))
 (.cond (tm 35)
 (.reg
 (op 36 (.mov (tm 5))
 (op 37 (.bin .add (tm 36) (ci 1))
 (op 5 (.mov (tm 37))
 .nil))))
 .skip))))
 (.reg
 (op 38 (.bin .add (tm 29) (ci 1))
 (op 29 (.mov (tm 38))
 .nil)))))))))
 (.seq
 (.reg
 (op 39 (.mov (tm 5))
 (op 40 (.faddr 0 (tm 2))
 (op 41 (.load none (tm 40))
 (op 42 (.bin .geq (tm 39) (tm 41))
 (op 4 (.mov (tm 42))
 .nil))))))
 .ret))))))
theorem ok_threshold_Satisfied : FnOk Tryz.prog 245 43 (SA.erase sa_threshold_Satisfied) [.tmp 4] := ⟨Tryz.f245, [], Tryz.func245, rfl, by kernel_rfl, by kernel_rfl, by kernel_rfl⟩
noncomputable def B_threshold_Satisfied (rec : (TTrust × Int × Unit) → Option Bool) (a0 : TTrust) (a1 : Int) : Option Bool :=
 Option.bind (F_nodeset_Valid a1) fun r1 =>
 bif (!r1) then
 some false
 else
 loopO (fun (v2 : Int × Int × Unit) =>
 bif (decide (v2.2.1 < ((List.length a0.Nodes : Nat) : Int))) then
 letJ (fun (v3 : Int × Unit) =>
 some (Sum.inl (v3.1, (addI .i64 v2.2.1 (1 : Int)), ()))) fun j4 =>
 Option.bind (idx a0.Nodes v2.2.1) fun x5 =>
 Option.bind (F_nodeset_Has a1 x5) fun r6 =>
 bif r6 then
 j4 ((addI .i64 v2.1 (1 : Int)), ())
 else
 j4 (v2.1, ())
 else
 Option.map Sum.inr (loopO (fun (v7 : Int × Int × Unit) =>
 bif (decide (v7.2.1 < ((List.length a0.Inner : Nat) : Int))) then
 letJ (fun (v8 : Int × Unit) =>
 some (Sum.inl (v8.1, (addI .i64 v7.2.1 (1 : Int)), ()))) fun j9 =>
 Option.bind (idx a0.Inner v7.2.1) fun x10 =>
 Option.bind (rec ((TTrust.mk x10.Threshold x10.Nodes x10.Inner), a1, ())) fun r11 =>
 bif r11 then
 j9 ((addI .i64 v7.1 (1 : Int)), ())
 else
 j9 (v7.1, ())
 else
 Option.map Sum.inr (some (decide (a0.Threshold ≤ v7.1)))) (v2.1, (0 : Int), ()))) ((0 : Int), (0 : Int), ())
noncomputable def I_threshold_Satisfied : Nat → (TTrust × Int × Unit) → Option Bool := iterF (fun rec a => B_threshold_Satisfied rec a.1 a.2.1)
noncomputable def F_threshold_Satisfied (a0 : TTrust) (a1 : Int) : Option Bool := I_threshold_Satisfied (SizeOf.sizeOf a0 + SizeOf.sizeOf a1 + 1) (a0, a1, ())
noncomputable def k_threshold_Satisfied : KFun U := .fn 245 [.ty (Ty.st .Trust), .ty (Ty.i .i64)] (.one Ty.bool) fun a => F_threshold_Satisfied a.1 a.2.1
theorem e_threshold_Satisfied : (fun G => fnK K (.fn 245 [.ty (Ty.st .Trust), .ty (Ty.i .i64)] (.one Ty.bool) G :: [k_nodeset_Valid, k_nodeset_Has]) sa_threshold_Satisfied [.tmp 4] [.ty (Ty.st .Trust), .ty (Ty.i .i64)] (.one Ty.bool)) = (fun G a => B_threshold_Satisfied G a.1 a.2.1) := by kernel_rfl
theorem n_threshold_Satisfied : ∀ n, KFun.Sound (U := U) Tryz.prog (.fn 245 [.ty (Ty.st .Trust), .ty (Ty.i .i64)] (.one Ty.bool) (I_threshold_Satisfied n))
  | 0 => ⟨ok_threshold_Satisfied.enters, fun a r h => by cases h⟩
  | n + 1 => fnK_sound (K := K) (r := .one Ty.bool) (Γ := .fn 245 [.ty (Ty.st .Trust), .ty (Ty.i .i64)] (.one Ty.bool) (I_threshold_Satisfied n) :: [k_nodeset_Valid, k_nodeset_Has]) (F := I_threshold_Satisfied (n + 1)) ok_threshold_Satisfied (by kernel_rfl) (by decide) ⟨n_threshold_Satisfied n, s_nodeset_Valid, s_nodeset_Has, trivial⟩ (fun a => congrFun (congrFun e_threshold_Satisfied (I_threshold_Satisfied n)) a)
theorem s_threshold_Satisfied : KFun.Sound (U := U) Tryz.prog k_threshold_Satisfied := ⟨ok_threshold_Satisfied.enters, fun a r h => (n_threshold_Satisfied _).2 a r h⟩

/-! ### trustquorum/blocking.Blocks -/
def sa_blocking_Blocks : SA U :=
 (.seq
 (.reg
 (op 3 (.box (tm 0))
 (op 6 (.mov (.cst (.bool false)))
 .nil)))
 (.seq
 (.seq
 (.reg
 (op 7 (.mov (tm 2))
 (op 8 (.call 226 [(tm 7)])
 (op 9 (.not (tm 8))
 (op 10 (.mov (tm 9))
 (.ite 10 false
 (opg 11 10 false (.load (some 1) (tm 3))
 (opg 12 10 false (.call 244 [(tm 11)])
 (opg 13 10 false (.mov (tm 1))
 (opg 14 10 false (.call 188 [(tm 12), (tm 13)])
 (opg 15 10 false (.not (tm 14))
 .nil)))))
 16 none (.cst (.bool true)) (tm 15)
 .nil))))))
 (.cond (tm 16)
 (.seq
 (.reg
 (op 6 (.mov (.cst (.bool false)))
 .nil))
 .ret)
 .skip))
 (.seq
 (.drw []
 (op 17 (.faddr 0 (tm 3))
 (op 18 (.load none (tm 17))
 (op 19 (.mov (tm 1))
 (op 20 (.iaddr 4 (tm 18) (tm 19))
 (op 21 (.faddr 1 (tm 20))
 (op 22 (.load (some 3) (tm 21))
 (op 23 (.mov (tm 2))
 (op 24 (.bin .andNot (ci 1023) (tm 23))
 (op 25 (.mov (tm 1))
 (op 26 (.bin .shl (ci 1) (tm 25))
 (op 27 (.bin .or (tm 24) (tm 26))
 (op 28 (.call 245 [(tm 22), (tm 27)])
 (op 29 (.not (tm 28))
 (op 6 (.mov (tm 29))
 .nil)))))))))))))))
 .ret)))
theorem ok_blocking_Blocks : FnOk Tryz.prog 227 30 (SA.erase sa_blocking_Blocks) [.tmp 6] := ⟨Tryz.f227, [], Tryz.func227, rfl, by kernel_rfl, by kernel_rfl, by kernel_rfl⟩
noncomputable def F_blocking_Blocks (a0 : TConfig) (a1 : Int) (a2 : Int) : Option Bool :=
 Option.bind (F_nodeset_Valid a2) fun r1 =>
 Option.bind (bif (!r1) then some true
 else
 Option.bind (F_configuration_Declared a0) fun r2 =>
 Option.bind (F_nodeset_Has r2 a1) fun r3 =>
 some (!r3)) fun b4 =>
 bif b4 then
 some false
 else
 Option.bind (idx a0.Members a1) fun x5 =>
 if a1 < 0 then none else
 Option.bind (F_threshold_Satisfied (TTrust.mk x5.Trust.Threshold x5.Trust.Nodes x5.Trust.Inner) (orI .i64 (andNotI .i64 (1023 : Int) a2) (shlI .i64 (1 : Int) a1))) fun r6 =>
 some (!r6)
noncomputable def k_blocking_Blocks : KFun U := .fn 227 [.ty (Ty.st .Config), .ty (Ty.i .i64), .ty (Ty.i .i64)] (.one Ty.bool) fun a => F_blocking_Blocks a.1 a.2.1 a.2.2.1
theorem e_blocking_Blocks : fnK K [k_nodeset_Valid, k_configuration_Declared, k_nodeset_Has, k_threshold_Satisfied] sa_blocking_Blocks [.tmp 6] [.ty (Ty.st .Config), .ty (Ty.i .i64), .ty (Ty.i .i64)] (.one Ty.bool) = fun a => F_blocking_Blocks a.1 a.2.1 a.2.2.1 := by kernel_rfl
theorem s_blocking_Blocks : KFun.Sound (U := U) Tryz.prog k_blocking_Blocks := fnK_sound (K := K) (Γ := [k_nodeset_Valid, k_configuration_Declared, k_nodeset_Has, k_threshold_Satisfied]) ok_blocking_Blocks (by kernel_rfl) (by decide) ⟨s_nodeset_Valid, s_configuration_Declared, s_nodeset_Has, s_threshold_Satisfied, trivial⟩ (fun a => congrFun e_blocking_Blocks a)

/-! ### trustquorum/nodeset.Nodes -/
def sa_nodeset_Nodes : SA U :=
 (.seq
 (.reg
 (op 2 (.mov (.cst (.nils)))
 .nil))
 (.seq
 (.reg
 (op 3 (.mov (.cst (.nils)))
 .nil))
 (.seq
 (.seq
 (.reg
 (op 5 (.mov (ci 0))
 .nil))
 (.block 0
 (.ps (.own 3 3 1 (Ty.i .i64))
 (.loop ⟨[.val 5 (Ty.i .i64), .own 3 3 1 3 1 (Ty.i .i64)], [0]⟩
 (.seq
 (.reg
 (op 6 (.bin .lss (tm 5) (ci 10))
 .nil))
 (.seq
 (.cond (tm 6)
 .skip
 (.exit 0))
 (.join ⟨[.own 3 3 1 3 1 (Ty.i .i64)], [0, 5]⟩
 (.block 1
 (.seq
 (.reg
 (op 7 (.mov (tm 5))
 (op 4 (.mov (tm 7))
 .nil)))
 (.seq
 (.reg
 (op 8 (.mov (tm 0))
 (op 9 (.mov (tm 4))
 (op 10 (.call 188 [(tm 8), (tm 9)])
 .nil))))
 (.cond (tm 10)
 (.reg
 (op 11 (.mov (tm 3))
 (op 12 (.mov (tm 4))
 (op 13 (.bsl false 3 1 (List.replicate 1 [.int .i64 0]) [(0, (tm 12))])
 (op 14 (.app 3 1 8 (tm 11) (tm 13))
 (op 3 (.mov (tm 14))
 .nil))))))
 .skip))))
 (.reg
 (op 15 (.bin .add (tm 5) (ci 1))
 (op 5 (.mov (tm 15))
 .nil))))))))))
 (.seq
 (.reg
 (op 16 (.mov (tm 3))
 (op 2 (.mov (tm 16))
 .nil)))
 .ret))))
theorem ok_nodeset_Nodes : FnOk Tryz.prog 250 17 (SA.erase sa_nodeset_Nodes) [.tmp 2] := ⟨Tryz.f250, [], Tryz.func250, rfl, by kernel_rfl, by kernel_rfl, by kernel_rfl⟩
noncomputable def F_nodeset_Nodes (a0 : Int) : Option (List Int) :=
 loopO (fun (v1 : Int × (List Int) × Unit) =>
 bif (decide (v1.1 < (10 : Int))) then
 letJ (fun (v2 : (List Int) × Unit) =>
 some (Sum.inl ((addI .i64 v1.1 (1 : Int)), v2.1, ()))) fun j3 =>
 Option.bind (F_nodeset_Has a0 v1.1) fun r4 =>
 bif r4 then
 bif lenOk 8 (List.length v1.2.1 + List.length [v1.1]) then
 j3 ((v1.2.1 ++ [v1.1]), ())
 else none
 else
 j3 (v1.2.1, ())
 else
 Option.map Sum.inr (some v1.2.1)) ((0 : Int), ([] : List Int), ())
noncomputable def k_nodeset_Nodes : KFun U := .fn 250 [.ty (Ty.i .i64)] (.one (Ty.sl (Ty.i .i64))) fun a => F_nodeset_Nodes a.1
theorem e_nodeset_Nodes : fnK K [k_nodeset_Has] sa_nodeset_Nodes [.tmp 2] [.ty (Ty.i .i64)] (.one (Ty.sl (Ty.i .i64))) = fun a => F_nodeset_Nodes a.1 := by kernel_rfl
theorem s_nodeset_Nodes : KFun.Sound (U := U) Tryz.prog k_nodeset_Nodes := fnK_sound (K := K) (Γ := [k_nodeset_Has]) ok_nodeset_Nodes (by kernel_rfl) (by decide) ⟨s_nodeset_Has, trivial⟩ (fun a => congrFun e_nodeset_Nodes a)

/-! ### trustquorum/closure.content -/
def sa_closure_content : SA U :=
 (.seq
 (.reg
 (op 3 (.box (tm 0))
 (op 6 (.mov (.cst (.bool false)))
 .nil)))
 (.seq
 (.reg
 (op 7 (.faddr 0 (tm 3))
 (op 8 (.load none (tm 7))
 (op 9 (.mov (tm 1))
 (op 10 (.iaddr 4 (tm 8) (tm 9))
 (op 11 (.faddr 1 (tm 10))
 (op 12 (.load (some 3) (tm 11))
 (op 13 (.mov (tm 2))
 (op 14 (.call 245 [(tm 12), (tm 13)])
 (op 6 (.mov (tm 14))
 .nil))))))))))
 .ret))
theorem ok_closure_content : FnOk Tryz.prog 251 15 (SA.erase sa_closure_content) [.tmp 6] := ⟨Tryz.f251, [], Tryz.func251, rfl, by kernel_rfl, by kernel_rfl, by kernel_rfl⟩
noncomputable def F_closure_content (a0 : TConfig) (a1 : Int) (a2 : Int) : Option Bool :=
 Option.bind (idx a0.Members a1) fun x1 =>
 Option.bind (F_threshold_Satisfied (TTrust.mk x1.Trust.Threshold x1.Trust.Nodes x1.Trust.Inner) a2) fun r2 =>
 some r2
noncomputable def k_closure_content : KFun U := .fn 251 [.ty (Ty.st .Config), .ty (Ty.i .i64), .ty (Ty.i .i64)] (.one Ty.bool) fun a => F_closure_content a.1 a.2.1 a.2.2.1
theorem e_closure_content : fnK K [k_threshold_Satisfied] sa_closure_content [.tmp 6] [.ty (Ty.st .Config), .ty (Ty.i .i64), .ty (Ty.i .i64)] (.one Ty.bool) = fun a => F_closure_content a.1 a.2.1 a.2.2.1 := by kernel_rfl
theorem s_closure_content : KFun.Sound (U := U) Tryz.prog k_closure_content := fnK_sound (K := K) (Γ := [k_threshold_Satisfied]) ok_closure_content (by kernel_rfl) (by decide) ⟨s_threshold_Satisfied, trivial⟩ (fun a => congrFun e_closure_content a)

/-! ### trustquorum/closure.unhappy -/
def sa_closure_unhappy : SA U :=
 (.seq
 (.reg
 (op 2 (.box (tm 0))
 (op 4 (.mov (ci 0))
 (op 5 (.mov (.cst (.bool false)))
 .nil))))
 (.seq
 (.seq
 (.reg
 (op 8 (.mov (tm 1))
 (op 9 (.call 250 [(tm 8)])
 (op 10 (.len false (tm 9))
 (op 11 (.mov (ci 0))
 .nil)))))
 (.block 0
 (.loop ⟨[.val 11 (Ty.i .i64)], [1, 2, 9, 10]⟩
 (.seq
 (.reg
 (op 12 (.bin .lss (tm 11) (tm 10))
 .nil))
 (.seq
 (.cond (tm 12)
 .skip
 (.exit 0))
 (.seq
 (.block 1
 (.seq
 (.reg
 (op 13 (.iaddr 1 (tm 9) (tm 11))
 (op 14 (.load none (tm 13))
 (op 7 (.mov (tm 14))
 .nil))))
 (.seq
 (.reg
 (op 15 (.load (some 1) (tm 2))
 (op 16 (.mov (tm 7))
 (op 17 (.mov (tm 1))
 (op 18 (.call 251 [(tm 15), (tm 16), (tm 17)])
 (op 19 (.not (tm 18))
 .nil))))))
 (.cond (tm 19)
 (.seq
 (.reg
 (op 20 (.mov (tm 7))
 (op 4 (.mov (tm 20))
 (op 5 (.mov (.cst (.bool true)))
 .nil))))
 .ret)
 .skip))))
 (.reg
 (op 21 (.bin .add (tm 11) (ci 1))
 (op 11 (.mov (tm 21))
 .nil)))))))))
 (.seq
 (.reg
 (op 4 (.mov (ci 0))
 (op 5 (.mov (.cst (.bool false)))
 .nil)))
 .ret)))
theorem ok_closure_unhappy : FnOk Tryz.prog 246 22 (SA.erase sa_closure_unhappy) [.tmp 4, .tmp 5] := ⟨Tryz.f246, [], Tryz.func246, rfl, by kernel_rfl, by kernel_rfl, by kernel_rfl⟩
noncomputable def F_closure_unhappy (a0 : TConfig) (a1 : Int) : Option (Int × Bool × Unit) :=
 Option.bind (F_nodeset_Nodes a1) fun r1 =>
 loopO (fun (v2 : Int × Unit) =>
 bif (decide (v2.1 < ((List.length r1 : Nat) : Int))) then
 Option.bind (idx r1 v2.1) fun x3 =>
 Option.bind (F_closure_content a0 x3 a1) fun r4 =>
 bif (!r4) then
 Option.map Sum.inr (some (x3, true, ()))
 else
 some (Sum.inl ((addI .i64 v2.1 (1 : Int)), ()))
 else
 Option.map Sum.inr (some ((0 : Int), false, ()))) ((0 : Int), ())
noncomputable def k_closure_unhappy : KFun U := .fn 246 [.ty (Ty.st .Config), .ty (Ty.i .i64)] (.many [(Ty.i .i64), Ty.bool]) fun a => F_closure_unhappy a.1 a.2.1
theorem e_closure_unhappy : fnK K [k_nodeset_Nodes, k_closure_content] sa_closure_unhappy [.tmp 4, .tmp 5] [.ty (Ty.st .Config), .ty (Ty.i .i64)] (.many [(Ty.i .i64), Ty.bool]) = fun a => F_closure_unhappy a.1 a.2.1 := by kernel_rfl
theorem s_closure_unhappy : KFun.Sound (U := U) Tryz.prog k_closure_unhappy := fnK_sound (K := K) (Γ := [k_nodeset_Nodes, k_closure_content]) ok_closure_unhappy (by kernel_rfl) (by decide) ⟨s_nodeset_Nodes, s_closure_content, trivial⟩ (fun a => congrFun e_closure_unhappy a)

/-! ### trustquorum/closure.eliminate -/
def sa_closure_eliminate : SA U :=
 (.seq
 (.reg
 (op 2 (.box (tm 0))
 (op 4 (.mov (ci 0))
 (op 5 (.mov (.cst (.nils)))
 .nil))))
 (.seq
 (.seq
 (.reg
 (op 9 (.mov (tm 1))
 (op 10 (.call 226 [(tm 9)])
 (op 11 (.not (tm 10))
 .nil))))
 (.cond (tm 11)
 (.seq
 (.reg
 (op 4 (.mov (ci 0))
 (op 5 (.mov (.cst (.nils)))
 .nil)))
 .ret)
 .skip))
 (.seq
 (.reg
 (op 6 (.mov (.cst (.nils)))
 .nil))
 (.seq
 (.reg
 (op 12 (.mov (tm 1))
 (op 13 (.load (some 1) (tm 2))
 (op 14 (.call 244 [(tm 13)])
 (op 15 (.bin .and (tm 12) (tm 14))
 (op 1 (.mov (tm 15))
 .nil))))))
 (.block 0
 (.ps (.own 6 3 1 (Ty.i .i64))
 (.loop ⟨[.val 1 (Ty.i .i64), .own 6 12 1 3 1 (Ty.i .i64)], [2]⟩
 (.block 1
 (.seq
 (.reg
 (op 17 (.load (some 1) (tm 2))
 (op 18 (.mov (tm 1))
 (op 19 (.call 246 [(tm 17), (tm 18)])
 (op 16 (.mov (tm 19))
 (op 20 (.extr 0 (tm 16))
 (op 21 (.extr 1 (tm 16))
 (op 7 (.mov (tm 20))
 (op 8 (.mov (tm 21))
 .nil)))))))))
 (.seq
 (.seq
 (.reg
 (op 22 (.mov (tm 8))
 (op 23 (.not (tm 22))
 .nil)))
 (.cond (tm 23)
 (.seq
 (.reg
 (op 24 (.mov (tm 1))
 (op 25 (.mov (tm 6))
 (op 4 (.mov (tm 24))
 (op 5 (.mov (tm 25))
 .nil)))))
 .ret)
 .skip))
 (.seq
 (.reg
 (op 26 (.mov (tm 6))
 (op 27 (.mov (tm 7))
 (op 28 (.bsl false 3 1 (List.replicate 1 [.int .i64 0]) [(0, (tm 27))])
 (op 29 (.app 3 1 8 (tm 26) (tm 28))
 (op 6 (.mov (tm 29))
 .nil))))))
 (.reg
 (op 30 (.mov (tm 1))
 (op 31 (.mov (tm 7))
 (op 32 (.bin .shl (ci 1) (tm 31))
 (op 33 (.bin .andNot (tm 30) (tm 32))
 (op 1 (.mov (tm 33))
 .nil)))))))))))))))))
theorem ok_closure_eliminate : FnOk Tryz.prog 228 34 (SA.erase sa_closure_eliminate) [.tmp 4, .tmp 5] := ⟨Tryz.f228, [], Tryz.func228, rfl, by kernel_rfl, by kernel_rfl, by kernel_rfl⟩
noncomputable def F_closure_eliminate (a0 : TConfig) (a1 : Int) : Option (Int × (List Int) × Unit) :=
 Option.bind (F_nodeset_Valid a1) fun r1 =>
 bif (!r1) then
 some ((0 : Int), ([] : List Int), ())
 else
 Option.bind (F_configuration_Declared a0) fun r2 =>
 loopO (fun (v3 : Int × (List Int) × Unit) =>
 Option.bind (F_closure_unhappy a0 v3.1) fun r4 =>
 bif (!r4.2.1) then
 Option.map Sum.inr (some (v3.1, v3.2.1, ()))
 else
 bif lenOk 8 (List.length v3.2.1 + List.length [r4.1]) then
 if r4.1 < 0 then none else
 some (Sum.inl ((andNotI .i64 v3.1 (shlI .i64 (1 : Int) r4.1)), (v3.2.1 ++ [r4.1]), ()))
 else none) ((andI .i64 a1 r2), ([] : List Int), ())
noncomputable def k_closure_eliminate : KFun U := .fn 228 [.ty (Ty.st .Config), .ty (Ty.i .i64)] (.many [(Ty.i .i64), (Ty.sl (Ty.i .i64))]) fun a => F_closure_eliminate a.1 a.2.1
theorem e_closure_eliminate : fnK K [k_nodeset_Valid, k_configuration_Declared, k_closure_unhappy] sa_closure_eliminate [.tmp 4, .tmp 5] [.ty (Ty.st .Config), .ty (Ty.i .i64)] (.many [(Ty.i .i64), (Ty.sl (Ty.i .i64))]) = fun a => F_closure_eliminate a.1 a.2.1 := by kernel_rfl
theorem s_closure_eliminate : KFun.Sound (U := U) Tryz.prog k_closure_eliminate := fnK_sound (K := K) (Γ := [k_nodeset_Valid, k_configuration_Declared, k_closure_unhappy]) ok_closure_eliminate (by kernel_rfl) (by decide) ⟨s_nodeset_Valid, s_configuration_Declared, s_closure_unhappy, trivial⟩ (fun a => congrFun e_closure_eliminate a)

/-! ### trustquorum/closure.Greatest -/
def sa_closure_Greatest : SA U :=
 (.seq
 (.reg
 (op 2 (.box (tm 0))
 (op 4 (.mov (ci 0))
 .nil)))
 (.seq
 (.reg
 (op 8 (.load (some 1) (tm 2))
 (op 9 (.mov (tm 1))
 (op 10 (.call 228 [(tm 8), (tm 9)])
 (op 7 (.mov (tm 10))
 (op 11 (.extr 0 (tm 7))
 (op 12 (.extr 1 (tm 7))
 (op 5 (.mov (tm 11))
 (op 6 (.mov (tm 12))
 .nil)))))))))
 (.seq
 (.reg
 (op 13 (.mov (tm 5))
 (op 4 (.mov (tm 13))
 .nil)))
 .ret)))
theorem ok_closure_Greatest : FnOk Tryz.prog 189 14 (SA.erase sa_closure_Greatest) [.tmp 4] := ⟨Tryz.f189, [], Tryz.func189, rfl, by kernel_rfl, by kernel_rfl, by kernel_rfl⟩
noncomputable def F_closure_Greatest (a0 : TConfig) (a1 : Int) : Option Int :=
 Option.bind (F_closure_eliminate a0 a1) fun r1 =>
 some r1.1
noncomputable def k_closure_Greatest : KFun U := .fn 189 [.ty (Ty.st .Config), .ty (Ty.i .i64)] (.one (Ty.i .i64)) fun a => F_closure_Greatest a.1 a.2.1
theorem e_closure_Greatest : fnK K [k_closure_eliminate] sa_closure_Greatest [.tmp 4] [.ty (Ty.st .Config), .ty (Ty.i .i64)] (.one (Ty.i .i64)) = fun a => F_closure_Greatest a.1 a.2.1 := by kernel_rfl
theorem s_closure_Greatest : KFun.Sound (U := U) Tryz.prog k_closure_Greatest := fnK_sound (K := K) (Γ := [k_closure_eliminate]) ok_closure_Greatest (by kernel_rfl) (by decide) ⟨s_closure_eliminate, trivial⟩ (fun a => congrFun e_closure_Greatest a)

/-! ### trustquorum/federated.Accepts -/
def sa_federated_Accepts : SA U :=
 (.seq
 (.reg
 (op 4 (.box (tm 0))
 (op 8 (.mov (.cst (.bool false)))
 .nil)))
 (.seq
 (.seq
 (.reg
 (op 9 (.mov (tm 2))
 (op 10 (.call 226 [(tm 9)])
 (op 11 (.not (tm 10))
 (op 12 (.mov (tm 11))
 (.ite 12 false
 (opg 13 12 false (.mov (tm 3))
 (opg 14 12 false (.call 226 [(tm 13)])
 (opg 15 12 false (.not (tm 14))
 .nil)))
 16 none (.cst (.bool true)) (tm 15)
 .nil))))))
 (.cond (tm 16)
 (.seq
 (.reg
 (op 8 (.mov (.cst (.bool false)))
 .nil))
 .ret)
 .skip))
 (.seq
 (.reg
 (op 17 (.load (some 1) (tm 4))
 (op 18 (.mov (tm 1))
 (op 19 (.mov (tm 3))
 (op 20 (.call 227 [(tm 17), (tm 18), (tm 19)])
 (op 21 (.mov (tm 20))
 (.ite 21 false
 (opg 22 21 false (.load (some 1) (tm 4))
 (opg 23 21 false (.mov (tm 2))
 (opg 24 21 false (.mov (tm 3))
 (opg 25 21 false (.bin .or (tm 23) (tm 24))
 (opg 26 21 false (.call 189 [(tm 22), (tm 25)])
 (opg 27 21 false (.mov (tm 1))
 (opg 28 21 false (.call 188 [(tm 26), (tm 27)])
 .nil)))))))
 29 none (.cst (.bool true)) (tm 28)
 (op 8 (.mov (tm 29))
 .nil))))))))
 .ret)))
theorem ok_federated_Accepts : FnOk Tryz.prog 186 30 (SA.erase sa_federated_Accepts) [.tmp 8] := ⟨Tryz.f186, [], Tryz.func186, rfl, by kernel_rfl, by kernel_rfl, by kernel_rfl⟩
noncomputable def F_federated_Accepts (a0 : TConfig) (a1 : Int) (a2 : Int) (a3 : Int) : Option Bool :=
 Option.bind (F_nodeset_Valid a2) fun r1 =>
 Option.bind (bif (!r1) then some true
 else
 Option.bind (F_nodeset_Valid a3) fun r2 =>
 some (!r2)) fun b3 =>
 bif b3 then
 some false
 else
 Option.bind (F_blocking_Blocks a0 a1 a3) fun r4 =>
 Option.bind (bif r4 then some true
 else
 Option.bind (F_closure_Greatest a0 (orI .i64 a2 a3)) fun r5 =>
 Option.bind (F_nodeset_Has r5 a1) fun r6 =>
 some r6) fun b7 =>
 some b7
noncomputable def k_federated_Accepts : KFun U := .fn 186 [.ty (Ty.st .Config), .ty (Ty.i .i64), .ty (Ty.i .i64), .ty (Ty.i .i64)] (.one Ty.bool) fun a => F_federated_Accepts a.1 a.2.1 a.2.2.1 a.2.2.2.1
theorem e_federated_Accepts : fnK K [k_nodeset_Valid, k_blocking_Blocks, k_closure_Greatest, k_nodeset_Has] sa_federated_Accepts [.tmp 8] [.ty (Ty.st .Config), .ty (Ty.i .i64), .ty (Ty.i .i64), .ty (Ty.i .i64)] (.one Ty.bool) = fun a => F_federated_Accepts a.1 a.2.1 a.2.2.1 a.2.2.2.1 := by kernel_rfl
theorem s_federated_Accepts : KFun.Sound (U := U) Tryz.prog k_federated_Accepts := fnK_sound (K := K) (Γ := [k_nodeset_Valid, k_blocking_Blocks, k_closure_Greatest, k_nodeset_Has]) ok_federated_Accepts (by kernel_rfl) (by decide) ⟨s_nodeset_Valid, s_blocking_Blocks, s_closure_Greatest, s_nodeset_Has, trivial⟩ (fun a => congrFun e_federated_Accepts a)

/-! ### (trustquorum/prepare.Seen).Accepts -/
def sa_prepare_Seen_Accepts_c157_c187 : SA U :=
 (.seq
 (.reg
 (op 3 (.box (tm 0))
 (op 4 (.box (tm 1))
 (op 5 (.box (tm 2))
 (op 6 (.mov (.cst (.bool false)))
 .nil)))))
 (.seq
 (.reg
 (op 8 (.load (some 3) (tm 3))
 (op 9 (.mkf 185 [(tm 4), (tm 5)])
 (op 10 (.call 163 [(tm 8), (tm 9)])
 (op 7 (.mov (tm 10))
 .nil)))))
 (.seq
 (.drw [(0, 2), (1, 2), (0, 3), (1, 3), (0, 5), (1, 5), (2, 5), (3, 5), (0, 6), (1, 6), (2, 6), (3, 6), (5, 6), (0, 7), (1, 7), (2, 7), (3, 7)]
 (op 11 (.faddr 1 (tm 3))
 (op 12 (.load (some 1) (tm 11))
 (op 13 (.faddr 0 (tm 3))
 (op 14 (.load none (tm 13))
 (op 15 (.mov (tm 7))
 (op 16 (.load (some 3) (tm 3))
 (op 17 (.load none (tm 5))
 (op 18 (.call 163 [(tm 16), (tm 17)])
 (op 19 (.call 186 [(tm 12), (tm 14), (tm 15), (tm 18)])
 (op 6 (.mov (tm 19))
 .nil)))))))))))
 .ret)))
theorem ok_prepare_Seen_Accepts_c157_c187 : FnOk Tryz.prog 156 20 (SA.erase sa_prepare_Seen_Accepts_c157_c187) [.tmp 6] := ⟨Tryz.f156, [], Tryz.func156, rfl, by kernel_rfl, by kernel_rfl, by kernel_rfl⟩
noncomputable def F_prepare_Seen_Accepts_c157_c187 (a0 : TSeen) (a1 : ByteArray) (a2 : Int) (a3 : Int) (a4 : ByteArray) (a5 : Int) (a6 : Int) : Option Bool :=
 Option.bind (F_prepare_Seen_Who_c185_c157_c187 a0 a1 a2 a3 a4 a5 a6) fun r1 =>
 Option.bind (F_prepare_Seen_Who_c187 a0 a4 a5 a6) fun r2 =>
 Option.bind (F_federated_Accepts a0.View a0.Node r1 r2) fun r3 =>
 some r3
noncomputable def k_prepare_Seen_Accepts_c157_c187 : KFun U := .fn 156 [.ty (Ty.st .Seen), .clo 157 [.ref (.ty Ty.str), .ref (.ty (Ty.i .i64)), .ref (.ty (Ty.i .i64))], .clo 187 [.ref (.ty Ty.str), .ref (.ty (Ty.i .i64)), .ref (.ty (Ty.i .i64))]] (.one Ty.bool) fun a => F_prepare_Seen_Accepts_c157_c187 a.1 a.2.1.1 a.2.1.2.1 a.2.1.2.2.1 a.2.2.1.1 a.2.2.1.2.1 a.2.2.1.2.2.1
theorem e_prepare_Seen_Accepts_c157_c187 : fnK K [k_prepare_Seen_Who_c185_c157_c187, k_prepare_Seen_Who_c187, k_federated_Accepts] sa_prepare_Seen_Accepts_c157_c187 [.tmp 6] [.ty (Ty.st .Seen), .clo 157 [.ref (.ty Ty.str), .ref (.ty (Ty.i .i64)), .ref (.ty (Ty.i .i64))], .clo 187 [.ref (.ty Ty.str), .ref (.ty (Ty.i .i64)), .ref (.ty (Ty.i .i64))]] (.one Ty.bool) = fun a => F_prepare_Seen_Accepts_c157_c187 a.1 a.2.1.1 a.2.1.2.1 a.2.1.2.2.1 a.2.2.1.1 a.2.2.1.2.1 a.2.2.1.2.2.1 := by kernel_rfl
theorem s_prepare_Seen_Accepts_c157_c187 : KFun.Sound (U := U) Tryz.prog k_prepare_Seen_Accepts_c157_c187 := fnK_sound (K := K) (Γ := [k_prepare_Seen_Who_c185_c157_c187, k_prepare_Seen_Who_c187, k_federated_Accepts]) ok_prepare_Seen_Accepts_c157_c187 (by kernel_rfl) (by decide) ⟨s_prepare_Seen_Who_c185_c157_c187, s_prepare_Seen_Who_c187, s_federated_Accepts, trivial⟩ (fun a => congrFun e_prepare_Seen_Accepts_c157_c187 a)

/-! ### trustquorum/commit.ready -/
def sa_commit_ready : SA U :=
 (.seq
 (.reg
 (op 4 (.box (tm 0))
 (op 5 (.box (tm 1))
 (op 6 (.box (tm 2))
 (op 7 (.box (tm 3))
 (op 8 (.mov (.cst (.bool false)))
 .nil))))))
 (.seq
 (.drw [(0, 2), (0, 3), (2, 3), (0, 4), (2, 4), (3, 4), (0, 5)]
 (op 9 (.load (some 3) (tm 4))
 (op 10 (.mkf 157 [(tm 5), (tm 6), (tm 7)])
 (op 11 (.load none (tm 5))
 (op 12 (.load none (tm 6))
 (op 13 (.load none (tm 7))
 (op 14 (.call 158 [(tm 11), (tm 12), (tm 13)])
 (op 15 (.call 156 [(tm 9), (tm 10), (tm 14)])
 (op 8 (.mov (tm 15))
 .nil)))))))))
 .ret))
theorem ok_commit_ready : FnOk Tryz.prog 96 16 (SA.erase sa_commit_ready) [.tmp 8] := ⟨Tryz.f96, [], Tryz.func96, rfl, by kernel_rfl, by kernel_rfl, by kernel_rfl⟩
noncomputable def F_commit_ready (a0 : TSeen) (a1 : ByteArray) (a2 : Int) (a3 : Int) : Option Bool :=
 Option.bind (F_commit_accepts a1 a2 a3) fun r1 =>
 Option.bind (F_prepare_Seen_Accepts_c157_c187 a0 a1 a2 a3 r1.1 r1.2.1 r1.2.2.1) fun r2 =>
 some r2
noncomputable def k_commit_ready : KFun U := .fn 96 [.ty (Ty.st .Seen), .ty Ty.str, .ty (Ty.i .i64), .ty (Ty.i .i64)] (.one Ty.bool) fun a => F_commit_ready a.1 a.2.1 a.2.2.1 a.2.2.2.1
theorem e_commit_ready : fnK K [k_commit_accepts, k_prepare_Seen_Accepts_c157_c187] sa_commit_ready [.tmp 8] [.ty (Ty.st .Seen), .ty Ty.str, .ty (Ty.i .i64), .ty (Ty.i .i64)] (.one Ty.bool) = fun a => F_commit_ready a.1 a.2.1 a.2.2.1 a.2.2.2.1 := by kernel_rfl
theorem s_commit_ready : KFun.Sound (U := U) Tryz.prog k_commit_ready := fnK_sound (K := K) (Γ := [k_commit_accepts, k_prepare_Seen_Accepts_c157_c187]) ok_commit_ready (by kernel_rfl) (by decide) ⟨s_commit_accepts, s_prepare_Seen_Accepts_c157_c187, trivial⟩ (fun a => congrFun e_commit_ready a)

/-! ### trustquorum/commit.Accepts -/
def sa_commit_Accepts : SA U :=
 (.seq
 (.reg
 (op 7 (.box (tm 1))
 (op 12 (.mov (.cst (.bool false)))
 .nil)))
 (.seq
 (.reg
 (op 13 (.mov (tm 0))
 (op 14 (.load (some 3) (tm 7))
 (op 15 (.mov (tm 2))
 (op 16 (.call 97 [(tm 13), (tm 14), (tm 15)])
 (op 17 (.mov (tm 3))
 (op 18 (.mov (tm 4))
 (op 19 (.mov (tm 5))
 (op 20 (.call 96 [(tm 16), (tm 17), (tm 18), (tm 19)])
 (op 12 (.mov (tm 20))
 .nil))))))))))
 .ret))
theorem ok_commit_Accepts : FnOk Tryz.prog 26 21 (SA.erase sa_commit_Accepts) [.tmp 12] := ⟨Tryz.f26, [], Tryz.func26, rfl, by kernel_rfl, by kernel_rfl, by kernel_rfl⟩
noncomputable def F_commit_Accepts (a0 : Int) (a1 : TTrust) (a2 : (List TEnvelope)) (a3 : ByteArray) (a4 : Int) (a5 : Int) : Option Bool :=
 Option.bind (F_prepare_Look a0 (TTrust.mk a1.Threshold a1.Nodes a1.Inner) a2) fun r1 =>
 Option.bind (F_commit_ready r1 a3 a4 a5) fun r2 =>
 some r2
noncomputable def k_commit_Accepts : KFun U := .fn 26 [.ty (Ty.i .i64), .ty (Ty.st .Trust), .ty (Ty.sl (Ty.st .Envelope)), .ty Ty.str, .ty (Ty.i .i64), .ty (Ty.i .i64)] (.one Ty.bool) fun a => F_commit_Accepts a.1 a.2.1 a.2.2.1 a.2.2.2.1 a.2.2.2.2.1 a.2.2.2.2.2.1
theorem e_commit_Accepts : fnK K [k_prepare_Look, k_commit_ready] sa_commit_Accepts [.tmp 12] [.ty (Ty.i .i64), .ty (Ty.st .Trust), .ty (Ty.sl (Ty.st .Envelope)), .ty Ty.str, .ty (Ty.i .i64), .ty (Ty.i .i64)] (.one Ty.bool) = fun a => F_commit_Accepts a.1 a.2.1 a.2.2.1 a.2.2.2.1 a.2.2.2.2.1 a.2.2.2.2.2.1 := by kernel_rfl
theorem s_commit_Accepts : KFun.Sound (U := U) Tryz.prog k_commit_Accepts := fnK_sound (K := K) (Γ := [k_prepare_Look, k_commit_ready]) ok_commit_Accepts (by kernel_rfl) (by decide) ⟨s_prepare_Look, s_commit_ready, trivial⟩ (fun a => congrFun e_commit_Accepts a)

/-! ### trustquorum/federated.Confirms -/
def sa_federated_Confirms : SA U :=
 (.seq
 (.reg
 (op 3 (.box (tm 0))
 (op 6 (.mov (.cst (.bool false)))
 .nil)))
 (.seq
 (.reg
 (op 7 (.load (some 1) (tm 3))
 (op 8 (.mov (tm 2))
 (op 9 (.call 189 [(tm 7), (tm 8)])
 (op 10 (.mov (tm 1))
 (op 11 (.call 188 [(tm 9), (tm 10)])
 (op 6 (.mov (tm 11))
 .nil)))))))
 .ret))
theorem ok_federated_Confirms : FnOk Tryz.prog 162 12 (SA.erase sa_federated_Confirms) [.tmp 6] := ⟨Tryz.f162, [], Tryz.func162, rfl, by kernel_rfl, by kernel_rfl, by kernel_rfl⟩
noncomputable def F_federated_Confirms (a0 : TConfig) (a1 : Int) (a2 : Int) : Option Bool :=
 Option.bind (F_closure_Greatest a0 a2) fun r1 =>
 Option.bind (F_nodeset_Has r1 a1) fun r2 =>
 some r2
noncomputable def k_federated_Confirms : KFun U := .fn 162 [.ty (Ty.st .Config), .ty (Ty.i .i64), .ty (Ty.i .i64)] (.one Ty.bool) fun a => F_federated_Confirms a.1 a.2.1 a.2.2.1
theorem e_federated_Confirms : fnK K [k_closure_Greatest, k_nodeset_Has] sa_federated_Confirms [.tmp 6] [.ty (Ty.st .Config), .ty (Ty.i .i64), .ty (Ty.i .i64)] (.one Ty.bool) = fun a => F_federated_Confirms a.1 a.2.1 a.2.2.1 := by kernel_rfl
theorem s_federated_Confirms : KFun.Sound (U := U) Tryz.prog k_federated_Confirms := fnK_sound (K := K) (Γ := [k_closure_Greatest, k_nodeset_Has]) ok_federated_Confirms (by kernel_rfl) (by decide) ⟨s_closure_Greatest, s_nodeset_Has, trivial⟩ (fun a => congrFun e_federated_Confirms a)

/-! ### (trustquorum/prepare.Seen).Confirms -/
def sa_prepare_Seen_Confirms_c187 : SA U :=
 (.seq
 (.reg
 (op 2 (.box (tm 0))
 (op 4 (.mov (.cst (.bool false)))
 .nil)))
 (.seq
 (.drw [(0, 2), (1, 2), (0, 3), (1, 3), (0, 4), (1, 4), (2, 4), (3, 4), (0, 6), (1, 6), (2, 6), (3, 6)]
 (op 5 (.faddr 1 (tm 2))
 (op 6 (.load (some 1) (tm 5))
 (op 7 (.faddr 0 (tm 2))
 (op 8 (.load none (tm 7))
 (op 9 (.load (some 3) (tm 2))
 (op 10 (.mov (tm 1))
 (op 11 (.call 163 [(tm 9), (tm 10)])
 (op 12 (.call 162 [(tm 6), (tm 8), (tm 11)])
 (op 4 (.mov (tm 12))
 .nil))))))))))
 .ret))
theorem ok_prepare_Seen_Confirms_c187 : FnOk Tryz.prog 108 13 (SA.erase sa_prepare_Seen_Confirms_c187) [.tmp 4] := ⟨Tryz.f108, [], Tryz.func108, rfl, by kernel_rfl, by kernel_rfl, by kernel_rfl⟩
noncomputable def F_prepare_Seen_Confirms_c187 (a0 : TSeen) (a1 : ByteArray) (a2 : Int) (a3 : Int) : Option Bool :=
 Option.bind (F_prepare_Seen_Who_c187 a0 a1 a2 a3) fun r1 =>
 Option.bind (F_federated_Confirms a0.View a0.Node r1) fun r2 =>
 some r2
noncomputable def k_prepare_Seen_Confirms_c187 : KFun U := .fn 108 [.ty (Ty.st .Seen), .clo 187 [.ref (.ty Ty.str), .ref (.ty (Ty.i .i64)), .ref (.ty (Ty.i .i64))]] (.one Ty.bool) fun a => F_prepare_Seen_Confirms_c187 a.1 a.2.1.1 a.2.1.2.1 a.2.1.2.2.1
theorem e_prepare_Seen_Confirms_c187 : fnK K [k_prepare_Seen_Who_c187, k_federated_Confirms] sa_prepare_Seen_Confirms_c187 [.tmp 4] [.ty (Ty.st .Seen), .clo 187 [.ref (.ty Ty.str), .ref (.ty (Ty.i .i64)), .ref (.ty (Ty.i .i64))]] (.one Ty.bool) = fun a => F_prepare_Seen_Confirms_c187 a.1 a.2.1.1 a.2.1.2.1 a.2.1.2.2.1 := by kernel_rfl
theorem s_prepare_Seen_Confirms_c187 : KFun.Sound (U := U) Tryz.prog k_prepare_Seen_Confirms_c187 := fnK_sound (K := K) (Γ := [k_prepare_Seen_Who_c187, k_federated_Confirms]) ok_prepare_Seen_Confirms_c187 (by kernel_rfl) (by decide) ⟨s_prepare_Seen_Who_c187, s_federated_Confirms, trivial⟩ (fun a => congrFun e_prepare_Seen_Confirms_c187 a)

/-! ### trustquorum/commit.sure -/
def sa_commit_sure : SA U :=
 (.seq
 (.reg
 (op 4 (.box (tm 0))
 (op 8 (.mov (.cst (.bool false)))
 .nil)))
 (.seq
 (.drw [(0, 4)]
 (op 9 (.load (some 3) (tm 4))
 (op 10 (.mov (tm 1))
 (op 11 (.mov (tm 2))
 (op 12 (.mov (tm 3))
 (op 13 (.call 158 [(tm 10), (tm 11), (tm 12)])
 (op 14 (.call 108 [(tm 9), (tm 13)])
 (op 8 (.mov (tm 14))
 .nil))))))))
 .ret))
theorem ok_commit_sure : FnOk Tryz.prog 98 15 (SA.erase sa_commit_sure) [.tmp 8] := ⟨Tryz.f98, [], Tryz.func98, rfl, by kernel_rfl, by kernel_rfl, by kernel_rfl⟩
noncomputable def F_commit_sure (a0 : TSeen) (a1 : ByteArray) (a2 : Int) (a3 : Int) : Option Bool :=
 Option.bind (F_commit_accepts a1 a2 a3) fun r1 =>
 Option.bind (F_prepare_Seen_Confirms_c187 a0 r1.1 r1.2.1 r1.2.2.1) fun r2 =>
 some r2
noncomputable def k_commit_sure : KFun U := .fn 98 [.ty (Ty.st .Seen), .ty Ty.str, .ty (Ty.i .i64), .ty (Ty.i .i64)] (.one Ty.bool) fun a => F_commit_sure a.1 a.2.1 a.2.2.1 a.2.2.2.1
theorem e_commit_sure : fnK K [k_commit_accepts, k_prepare_Seen_Confirms_c187] sa_commit_sure [.tmp 8] [.ty (Ty.st .Seen), .ty Ty.str, .ty (Ty.i .i64), .ty (Ty.i .i64)] (.one Ty.bool) = fun a => F_commit_sure a.1 a.2.1 a.2.2.1 a.2.2.2.1 := by kernel_rfl
theorem s_commit_sure : KFun.Sound (U := U) Tryz.prog k_commit_sure := fnK_sound (K := K) (Γ := [k_commit_accepts, k_prepare_Seen_Confirms_c187]) ok_commit_sure (by kernel_rfl) (by decide) ⟨s_commit_accepts, s_prepare_Seen_Confirms_c187, trivial⟩ (fun a => congrFun e_commit_sure a)

/-! ### trustquorum/commit.Confirms -/
def sa_commit_Confirms : SA U :=
 (.seq
 (.reg
 (op 7 (.box (tm 1))
 (op 12 (.mov (.cst (.bool false)))
 .nil)))
 (.seq
 (.reg
 (op 13 (.mov (tm 0))
 (op 14 (.load (some 3) (tm 7))
 (op 15 (.mov (tm 2))
 (op 16 (.call 97 [(tm 13), (tm 14), (tm 15)])
 (op 17 (.mov (tm 3))
 (op 18 (.mov (tm 4))
 (op 19 (.mov (tm 5))
 (op 20 (.call 98 [(tm 16), (tm 17), (tm 18), (tm 19)])
 (op 12 (.mov (tm 20))
 .nil))))))))))
 .ret))
theorem ok_commit_Confirms : FnOk Tryz.prog 27 21 (SA.erase sa_commit_Confirms) [.tmp 12] := ⟨Tryz.f27, [], Tryz.func27, rfl, by kernel_rfl, by kernel_rfl, by kernel_rfl⟩
noncomputable def F_commit_Confirms (a0 : Int) (a1 : TTrust) (a2 : (List TEnvelope)) (a3 : ByteArray) (a4 : Int) (a5 : Int) : Option Bool :=
 Option.bind (F_prepare_Look a0 (TTrust.mk a1.Threshold a1.Nodes a1.Inner) a2) fun r1 =>
 Option.bind (F_commit_sure r1 a3 a4 a5) fun r2 =>
 some r2
noncomputable def k_commit_Confirms : KFun U := .fn 27 [.ty (Ty.i .i64), .ty (Ty.st .Trust), .ty (Ty.sl (Ty.st .Envelope)), .ty Ty.str, .ty (Ty.i .i64), .ty (Ty.i .i64)] (.one Ty.bool) fun a => F_commit_Confirms a.1 a.2.1 a.2.2.1 a.2.2.2.1 a.2.2.2.2.1 a.2.2.2.2.2.1
theorem e_commit_Confirms : fnK K [k_prepare_Look, k_commit_sure] sa_commit_Confirms [.tmp 12] [.ty (Ty.i .i64), .ty (Ty.st .Trust), .ty (Ty.sl (Ty.st .Envelope)), .ty Ty.str, .ty (Ty.i .i64), .ty (Ty.i .i64)] (.one Ty.bool) = fun a => F_commit_Confirms a.1 a.2.1 a.2.2.1 a.2.2.2.1 a.2.2.2.2.1 a.2.2.2.2.2.1 := by kernel_rfl
theorem s_commit_Confirms : KFun.Sound (U := U) Tryz.prog k_commit_Confirms := fnK_sound (K := K) (Γ := [k_prepare_Look, k_commit_sure]) ok_commit_Confirms (by kernel_rfl) (by decide) ⟨s_prepare_Look, s_commit_sure, trivial⟩ (fun a => congrFun e_commit_Confirms a)

/-! ### trustquorum/trustquorumref24.AcceptsCommit -/
def sa_ref24_AcceptsCommit : SA U :=
 (.seq
 (.reg
 (op 4 (.box (tm 0))
 (op 8 (.mov (.cst (.bool false)))
 .nil)))
 (.seq
 (.seq
 (.reg
 (op 9 (.load (some 15) (tm 4))
 (op 10 (.call 76 [(tm 9)])
 (op 11 (.not (tm 10))
 (op 12 (.mov (tm 11))
 (.ite 12 false
 (opg 13 12 false (.mov (tm 2))
 (opg 14 12 false (.bin .lss (tm 13) (ci 1))
 .nil))
 15 none (.cst (.bool true)) (tm 14)
 (op 16 (.mov (tm 15))
 (.ite 16 false
 (opg 17 16 false (.mov (tm 2))
 (opg 18 16 false (.mov (tm 3))
 (opg 19 16 false (.bin .gtr (tm 17) (tm 18))
 .nil)))
 20 none (.cst (.bool true)) (tm 19)
 (op 21 (.mov (tm 20))
 (.ite 21 false
 (opg 22 21 false (.faddr 6 (tm 4))
 (opg 23 21 false (.load none (tm 22))
 (opg 24 21 false (.bin .eql (tm 23) (ci 1))
 .nil)))
 25 none (.cst (.bool true)) (tm 24)
 (op 26 (.mov (tm 25))
 (.ite 26 false
 (opg 27 26 false (.faddr 7 (tm 4))
 (opg 28 26 false (.faddr 1 (tm 27))
 (opg 29 26 false (.load none (tm 28))
 (opg 30 26 false (.mov (tm 1))
 (opg 31 26 false (.bin .neq (tm 29) (tm 30))
 .nil)))))
 32 none (.cst (.bool true)) (tm 31)
 (op 33 (.mov (tm 32))
 (.ite 33 false
 (opg 34 33 false (.faddr 13 (tm 4))
 (opg 35 33 false (.load none (tm 34))
 (opg 36 33 false (.mov (tm 2))
 (opg 37 33 false (.bin .gtr (tm 35) (tm 36))
 .nil))))
 38 none (.cst (.bool true)) (tm 37)
 .nil))))))))))))))
 (.cond (tm 38)
 (.seq
 (.reg
 (op 8 (.mov (.cst (.bool false)))
 .nil))
 .ret)
 .skip))
 (.seq
 (.reg
 (op 39 (.faddr 6 (tm 4))
 (op 40 (.load none (tm 39))
 (op 41 (.bin .eql (tm 40) (ci 3))
 (op 42 (.mov (tm 41))
 (.ite 42 false
 (opg 43 42 false (.mov (tm 3))
 (opg 44 42 false (.faddr 14 (tm 4))
 (opg 45 42 false (.load none (tm 44))
 (opg 46 42 false (.bin .leq (tm 43) (tm 45))
 .nil))))
 47 none (.cst (.bool true)) (tm 46)
 (op 8 (.mov (tm 47))
 .nil)))))))
 .ret)))
theorem ok_ref24_AcceptsCommit : FnOk Tryz.prog 28 48 (SA.erase sa_ref24_AcceptsCommit) [.tmp 8] := ⟨Tryz.f28, [], Tryz.func28, rfl, by kernel_rfl, by kernel_rfl, by kernel_rfl⟩
noncomputable def F_ref24_AcceptsCommit (a0 : TEnvelope) (a1 : ByteArray) (a2 : Int) (a3 : Int) : Option Bool :=
 Option.bind (F_ref24_Valid (TEnvelope.mk a0.Node a0.Slot a0.Seq (TTrust.mk a0.Trust.Threshold a0.Trust.Nodes a0.Trust.Inner) a0.Kind a0.Ballot a0.Prepared a0.Prime a0.Low a0.High)) fun r1 =>
 Option.bind (bif (!r1) then some true
 else
 some (decide (a2 < (1 : Int)))) fun b2 =>
 Option.bind (bif b2 then some true
 else
 some (decide (a3 < a2))) fun b3 =>
 Option.bind (bif b3 then some true
 else
 some (decide (a0.Kind = (1 : Int)))) fun b4 =>
 Option.bind (bif b4 then some true
 else
 some (!decide (a0.Ballot.Value = a1))) fun b5 =>
 Option.bind (bif b5 then some true
 else
 some (decide (a2 < a0.Low))) fun b6 =>
 bif b6 then
 some false
 else
 Option.bind (bif (decide (a0.Kind = (3 : Int))) then some true
 else
 some (decide (a3 ≤ a0.High))) fun b7 =>
 some b7
noncomputable def k_ref24_AcceptsCommit : KFun U := .fn 28 [.ty (Ty.st .Envelope), .ty Ty.str, .ty (Ty.i .i64), .ty (Ty.i .i64)] (.one Ty.bool) fun a => F_ref24_AcceptsCommit a.1 a.2.1 a.2.2.1 a.2.2.2.1
theorem e_ref24_AcceptsCommit : fnK K [k_ref24_Valid] sa_ref24_AcceptsCommit [.tmp 8] [.ty (Ty.st .Envelope), .ty Ty.str, .ty (Ty.i .i64), .ty (Ty.i .i64)] (.one Ty.bool) = fun a => F_ref24_AcceptsCommit a.1 a.2.1 a.2.2.1 a.2.2.2.1 := by kernel_rfl
theorem s_ref24_AcceptsCommit : KFun.Sound (U := U) Tryz.prog k_ref24_AcceptsCommit := fnK_sound (K := K) (Γ := [k_ref24_Valid]) ok_ref24_AcceptsCommit (by kernel_rfl) (by decide) ⟨s_ref24_Valid, trivial⟩ (fun a => congrFun e_ref24_AcceptsCommit a)

/-! ### trustquorum/trustquorumlaw26.commits -/
def sa_law26_commits : SA U :=
 (.seq
 (.reg
 (op 0 (.mov (.cst (.nils)))
 .nil))
 (.seq
 (.reg
 (op 1 (.mov (.cst (.nils)))
 .nil))
 (.seq
 (.seq
 (.reg
 (op 2 (.mov (ci 0))
 .nil))
 (.block 0
 (.ps (.own 1 38 15 (Ty.st .Envelope))
 (.loop ⟨[.val 2 (Ty.i .i64), .own 1 3 1 38 15 (Ty.st .Envelope)], []⟩
 (.seq
 (.seq
 (.reg
 (op 4 (.mov (tm 2))
 (op 5 (.bin .lss (tm 4) (ci 3))
 .nil)))
 (.cond (tm 5)
 .skip
 (.exit 0)))
 (.seq
 (.block 1
 (.seq
 (.reg
 (op 8 (.mov (tm 2))
 (op 9 (.call 30 [(ci 3), (ci 3)])
 (op 10 (.build [.int .i64 0, .str ⟨#[]⟩] [(0, 1, (ci 5)), (1, 1, (.cst (.str ⟨#[97]⟩)))])
 (op 11 (.build [.int .i64 0, .str ⟨#[]⟩] [(0, 1, (ci 5)), (1, 1, (.cst (.str ⟨#[97]⟩)))])
 (op 12 (.build [.int .i64 0, .int .i64 0, .int .i64 0, .int .i64 0, .nils, .nils, .int .i64 0, .int .i64 0, .str ⟨#[]⟩, .int .i64 0, .str ⟨#[]⟩, .int .i64 0, .str ⟨#[]⟩, .int .i64 0, .int .i64 0] [(0, 1, (tm 8)), (1, 1, (ci 1)), (2, 1, (ci 1)), (3, 3, (tm 9)), (6, 1, (ci 2)), (7, 2, (tm 10)), (9, 2, (tm 11)), (13, 1, (ci 2)), (14, 1, (ci 5))])
 (op 3 (.alloc [.int .i64 0, .int .i64 0, .int .i64 0, .int .i64 0, .nils, .nils, .int .i64 0, .int .i64 0, .str ⟨#[]⟩, .int .i64 0, .str ⟨#[]⟩, .int .i64 0, .str ⟨#[]⟩, .int .i64 0, .int .i64 0])
 (ops (.store 15 (tm 3) (tm 12))
 .nil))))))))
 (.join ⟨[.box 11 1 (Ty.st .Envelope) []], [1, 2, 3]⟩
 (.seq
 (.reg
 (op 13 (.mov (tm 2))
 (op 14 (.bin .eql (tm 13) (ci 1))
 .nil)))
 (.cond (tm 14)
 (.reg
 (op 15 (.faddr 13 (tm 3))
 (ops (.store 1 (tm 15) (ci 3))
 .nil)))
 .skip))
 (.reg
 (op 16 (.mov (tm 1))
 (op 17 (.load (some 15) (tm 3))
 (op 18 (.bsl false 38 15 (List.replicate 1 [.int .i64 0, .int .i64 0, .int .i64 0, .int .i64 0, .nils, .nils, .int .i64 0, .int .i64 0, .str ⟨#[]⟩, .int .i64 0, .str ⟨#[]⟩, .int .i64 0, .str ⟨#[]⟩, .int .i64 0, .int .i64 0]) [(0, (tm 17))])
 (op 19 (.app 38 15 176 (tm 16) (tm 18))
 (op 1 (.mov (tm 19))
 .nil)))))))))
 (.reg
 (op 6 (.mov (tm 2))
 (op 7 (.bin .add (tm 6) (ci 1))
 (op 2 (.mov (tm 7))
 .nil))))))))))
 (.seq
 (.reg
 (op 20 (.mov (tm 1))
 (op 0 (.mov (tm 20))
 .nil)))
 .ret))))
theorem ok_law26_commits : FnOk Tryz.prog 56 21 (SA.erase sa_law26_commits) [.tmp 0] := ⟨Tryz.f56, [], Tryz.func56, rfl, by kernel_rfl, by kernel_rfl, by kernel_rfl⟩
noncomputable def F_law26_commits  : Option (List TEnvelope) :=
 loopO (fun (v1 : Int × (List TEnvelope) × Unit) =>
 bif (decide (v1.1 < (3 : Int))) then
 Option.bind (F_play_Flat (3 : Int) (3 : Int)) fun r2 =>
 letJ (fun (v3 : TEnvelope × Unit) =>
 bif lenOk 176 (List.length v1.2.1 + List.length [(TEnvelope.mk v3.1.Node v3.1.Slot v3.1.Seq (TTrust.mk v3.1.Trust.Threshold v3.1.Trust.Nodes v3.1.Trust.Inner) v3.1.Kind v3.1.Ballot v3.1.Prepared v3.1.Prime v3.1.Low v3.1.High)]) then
 some (Sum.inl ((addI .i64 v1.1 (1 : Int)), (v1.2.1 ++ [(TEnvelope.mk v3.1.Node v3.1.Slot v3.1.Seq (TTrust.mk v3.1.Trust.Threshold v3.1.Trust.Nodes v3.1.Trust.Inner) v3.1.Kind v3.1.Ballot v3.1.Prepared v3.1.Prime v3.1.Low v3.1.High)]), ()))
 else none) fun j4 =>
 bif (decide (v1.1 = (1 : Int))) then
 j4 ((TEnvelope.mk v1.1 (1 : Int) (1 : Int) (TTrust.mk r2.Threshold r2.Nodes r2.Inner) (2 : Int) (TBallot.mk (5 : Int) (ByteArray.mk #[97])) (TBallot.mk (5 : Int) (ByteArray.mk #[97])) (TBallot.mk (0 : Int) (ByteArray.mk #[])) (3 : Int) (5 : Int)), ())
 else
 j4 ((TEnvelope.mk v1.1 (1 : Int) (1 : Int) (TTrust.mk r2.Threshold r2.Nodes r2.Inner) (2 : Int) (TBallot.mk (5 : Int) (ByteArray.mk #[97])) (TBallot.mk (5 : Int) (ByteArray.mk #[97])) (TBallot.mk (0 : Int) (ByteArray.mk #[])) (2 : Int) (5 : Int)), ())
 else
 Option.map Sum.inr (some v1.2.1)) ((0 : Int), ([] : List TEnvelope), ())
noncomputable def k_law26_commits : KFun U := .fn 56 [] (.one (Ty.sl (Ty.st .Envelope))) fun a => F_law26_commits 
theorem e_law26_commits : fnK K [k_play_Flat] sa_law26_commits [.tmp 0] [] (.one (Ty.sl (Ty.st .Envelope))) = fun a => F_law26_commits  := by kernel_rfl
theorem s_law26_commits : KFun.Sound (U := U) Tryz.prog k_law26_commits := fnK_sound (K := K) (Γ := [k_play_Flat]) ok_law26_commits (by kernel_rfl) (by decide) ⟨s_play_Flat, trivial⟩ (fun a => congrFun e_law26_commits a)

/-! ### slices.Backward[[]int,int] -/
def sa_slices_Backward_int_int : SA U :=
 (.seq
 (.reg
 (op 1 (.box (tm 0))
 (op 2 (.mov (.cst (.any)))
 .nil)))
 (.seq
 (.reg
 (op 3 (.mkf 160 [(tm 1)])
 (op 2 (.mov (tm 3))
 .nil)))
 .ret))
theorem ok_slices_Backward_int_int : FnOk Tryz.prog 104 4 (SA.erase sa_slices_Backward_int_int) [.tmp 2] := ⟨Tryz.f104, [], Tryz.func104, rfl, by kernel_rfl, by kernel_rfl, by kernel_rfl⟩
noncomputable def F_slices_Backward_int_int (a0 : (List Int)) : Option ((List Int) × Unit) :=
 some (a0, ())
noncomputable def k_slices_Backward_int_int : KFun U := .fn 104 [.ty (Ty.sl (Ty.i .i64))] (.fn (.clo 160 [.ref (.ty (Ty.sl (Ty.i .i64)))])) fun a => F_slices_Backward_int_int a.1
theorem e_slices_Backward_int_int : fnK K [] sa_slices_Backward_int_int [.tmp 2] [.ty (Ty.sl (Ty.i .i64))] (.fn (.clo 160 [.ref (.ty (Ty.sl (Ty.i .i64)))])) = fun a => F_slices_Backward_int_int a.1 := by kernel_rfl
theorem s_slices_Backward_int_int : KFun.Sound (U := U) Tryz.prog k_slices_Backward_int_int := fnK_sound (K := K) (Γ := []) ok_slices_Backward_int_int (by kernel_rfl) (by decide) trivial (fun a => congrFun e_slices_Backward_int_int a)

/-! ### an iterator of slices.Backward -/
def k_bk_160 : KFun U := .bk 160 1 none
theorem s_bk_160 : KFun.Sound (U := U) Tryz.prog k_bk_160 := (⟨Tryz.f160, [], Tryz.func160, rfl, by kernel_rfl, by kernel_rfl, by kernel_rfl⟩ : FnOk Tryz.prog 160 19 (backSC 1 none) [])

/-! ### trustquorum/commit.Final$1 -/
def sa_commit_Final_1 : SA U :=
 (.seq
 (.reg
 (op 5 (.mov (.cst (.bool false)))
 .nil))
 (.seq
 (.reg
 (op 6 (.load (some 3) (tm 1))
 (op 7 (.load none (tm 2))
 (op 8 (.mov (tm 0))
 (op 9 (.load none (tm 3))
 (op 10 (.call 98 [(tm 6), (tm 7), (tm 8), (tm 9)])
 (op 5 (.mov (tm 10))
 .nil)))))))
 .ret))
theorem ok_commit_Final_1 : FnOk Tryz.prog 105 11 (SA.erase sa_commit_Final_1) [.tmp 5] := ⟨Tryz.f105, [], Tryz.func105, rfl, by kernel_rfl, by kernel_rfl, by kernel_rfl⟩
noncomputable def F_commit_Final_1 (a0 : Int) (a1 : TSeen) (a2 : ByteArray) (a3 : Int) : Option Bool :=
 Option.bind (F_commit_sure a1 a2 a0 a3) fun r1 =>
 some r1
noncomputable def k_commit_Final_1 : KFun U := .fn 105 [.ty (Ty.i .i64), .ref (.ty (Ty.st .Seen)), .ref (.ty Ty.str), .ref (.ty (Ty.i .i64))] (.one Ty.bool) fun a => F_commit_Final_1 a.1 a.2.1 a.2.2.1 a.2.2.2.1
theorem e_commit_Final_1 : fnK K [k_commit_sure] sa_commit_Final_1 [.tmp 5] [.ty (Ty.i .i64), .ref (.ty (Ty.st .Seen)), .ref (.ty Ty.str), .ref (.ty (Ty.i .i64))] (.one Ty.bool) = fun a => F_commit_Final_1 a.1 a.2.1 a.2.2.1 a.2.2.2.1 := by kernel_rfl
theorem s_commit_Final_1 : KFun.Sound (U := U) Tryz.prog k_commit_Final_1 := fnK_sound (K := K) (Γ := [k_commit_sure]) ok_commit_Final_1 (by kernel_rfl) (by decide) ⟨s_commit_sure, trivial⟩ (fun a => congrFun e_commit_Final_1 a)

/-! ### trustquorum/commit.downward -/
def sa_commit_downward_c105 : SA U :=
 (.seq
 (.reg
 (op 4 (.box (tm 1))
 (op 5 (.box (tm 2))
 (op 6 (.mov (ci 0))
 .nil))))
 (.join ⟨[.box 0 1 (Ty.i .i64) []], [4]⟩
 (.seq
 (.reg
 (op 9 (.mov (tm 0))
 (op 10 (.call 104 [(tm 9)])
 .nil)))
 (.block 0
 (.back ⟨[.box 0 1 (Ty.i .i64) []], [4, 5, 10]⟩ 160 1 none (Ty.i .i64) 10 11 12
 (.reg
 (op 8 (.mov (tm 12))
 .nil))
 (.block 1
 (.seq
 (.seq
 (.reg
 (op 13 (.mov (tm 8))
 (op 14 (.load none (tm 4))
 (op 15 (.bin .geq (tm 13) (tm 14))
 .nil))))
 (.cond (tm 15)
 (.exit 1)
 .skip))
 (.seq
 (.seq
 (.reg
 (op 16 (.load none (tm 5))
 (op 17 (.mov (tm 8))
 (op 18 (.callv (tm 16) [(tm 17)])
 (op 19 (.not (tm 18))
 .nil)))))
 (.cond (tm 19)
 (.exit 0)
 .skip))
 (.reg
 (op 20 (.mov (tm 8))
 (ops (.store 1 (tm 4) (tm 20))
 .nil)))))))))
 (.seq
 (.reg
 (op 21 (.load none (tm 4))
 (op 6 (.mov (tm 21))
 .nil)))
 .ret)))
theorem ok_commit_downward_c105 : FnOk Tryz.prog 102 22 (SA.erase sa_commit_downward_c105) [.tmp 6] := ⟨Tryz.f102, [], Tryz.func102, rfl, by kernel_rfl, by kernel_rfl, by kernel_rfl⟩
noncomputable def F_commit_downward_c105 (a0 : (List Int)) (a1 : Int) (a2 : TSeen) (a3 : ByteArray) (a4 : Int) : Option Int :=
 letJ (fun (v1 : Int × Unit) =>
 some v1.1) fun j2 =>
 Option.bind (F_slices_Backward_int_int a0) fun r3 =>
 backO (fun (m5 : Nat) (e6 : Int) (v4 : Int × Unit) =>
 bif (decide (v4.1 ≤ e6)) then
 some (Sum.inl (v4.1, ()))
 else
 Option.bind (F_commit_Final_1 e6 a2 a3 a4) fun r7 =>
 bif (!r7) then
 Option.map Sum.inr (j2 (v4.1, ()))
 else
 some (Sum.inl (e6, ()))) (fun (v8 : Int × Unit) =>
 j2 (v8.1, ())) (List.reverse r3.1) (a1, ())
noncomputable def k_commit_downward_c105 : KFun U := .fn 102 [.ty (Ty.sl (Ty.i .i64)), .ty (Ty.i .i64), .clo 105 [.ref (.ty (Ty.st .Seen)), .ref (.ty Ty.str), .ref (.ty (Ty.i .i64))]] (.one (Ty.i .i64)) fun a => F_commit_downward_c105 a.1 a.2.1 a.2.2.1.1 a.2.2.1.2.1 a.2.2.1.2.2.1
theorem e_commit_downward_c105 : fnK K [k_slices_Backward_int_int, k_bk_160, k_commit_Final_1] sa_commit_downward_c105 [.tmp 6] [.ty (Ty.sl (Ty.i .i64)), .ty (Ty.i .i64), .clo 105 [.ref (.ty (Ty.st .Seen)), .ref (.ty Ty.str), .ref (.ty (Ty.i .i64))]] (.one (Ty.i .i64)) = fun a => F_commit_downward_c105 a.1 a.2.1 a.2.2.1.1 a.2.2.1.2.1 a.2.2.1.2.2.1 := by kernel_rfl
theorem s_commit_downward_c105 : KFun.Sound (U := U) Tryz.prog k_commit_downward_c105 := fnK_sound (K := K) (Γ := [k_slices_Backward_int_int, k_bk_160, k_commit_Final_1]) ok_commit_downward_c105 (by kernel_rfl) (by decide) ⟨s_slices_Backward_int_int, s_bk_160, s_commit_Final_1, trivial⟩ (fun a => congrFun e_commit_downward_c105 a)

/-! ### trustquorum/commit.Final -/
def sa_commit_Final : SA U :=
 (.seq
 (.reg
 (op 5 (.box (tm 1))
 (op 7 (.box (tm 3))
 (op 8 (.alloc [.int .i64 0])
 (op 9 (.alloc [.int .i64 0])
 (op 10 (.alloc [.bool false])
 .nil))))))
 (.seq
 (.reg
 (op 15 (.mov (tm 0))
 (op 16 (.load (some 3) (tm 5))
 (op 17 (.mov (tm 2))
 (op 18 (.call 97 [(tm 15), (tm 16), (tm 17)])
 (op 11 (.alloc [.int .i64 0, .nils, .nils])
 (ops (.store 3 (tm 11) (tm 18))
 .nil)))))))
 (.seq
 (.reg
 (op 19 (.mov (tm 2))
 (op 20 (.load none (tm 7))
 (op 21 (.call 19 [(tm 19), (tm 20)])
 (op 12 (.alloc [.nils])
 (ops (.store 1 (tm 12) (tm 21))
 .nil))))))
 (.seq
 (.seq
 (.reg
 (op 22 (.load none (tm 12))
 (op 23 (.call 104 [(tm 22)])
 .nil)))
 (.block 0
 (.back ⟨[.box 2 1 (Ty.i .i64) [], .box 3 1 (Ty.i .i64) [], .box 4 1 Ty.bool []], [7, 8, 9, 10, 11, 12, 23]⟩ 160 1 none (Ty.i .i64) 23 24 25
 (.reg
 (op 14 (.alloc [.int .i64 0])
 (ops (.store 1 (tm 14) (tm 25))
 .nil)))
 (.block 1
 (.seq
 (.reg
 (op 26 (.load (some 3) (tm 11))
 (op 27 (.load none (tm 7))
 (op 28 (.load none (tm 14))
 (op 29 (.load none (tm 14))
 (op 30 (.call 98 [(tm 26), (tm 27), (tm 28), (tm 29)])
 .nil))))))
 (.cond (tm 30)
 (.seq
 (.drw [(0, 1), (0, 4), (1, 4), (3, 4), (4, 5)]
 (op 31 (.load none (tm 12))
 (op 32 (.load none (tm 14))
 (op 33 (.mkf 105 [(tm 11), (tm 7), (tm 14)])
 (op 34 (.call 102 [(tm 31), (tm 32), (tm 33)])
 (op 35 (.load none (tm 14))
 (ops (.store 1 (tm 8) (tm 34))
 (ops (.store 1 (tm 9) (tm 35))
 (ops (.store 1 (tm 10) (.cst (.bool true)))
 .nil)))))))))
 .ret)
 .skip))))))
 (.seq
 (.reg
 (ops (.store 1 (tm 8) (ci 0))
 (ops (.store 1 (tm 9) (ci 0))
 (ops (.store 1 (tm 10) (.cst (.bool false)))
 .nil))))
 .ret)))))
theorem ok_commit_Final : FnOk Tryz.prog 32 36 (SA.erase sa_commit_Final) [.cell 8 none, .cell 9 none, .cell 10 none] := ⟨Tryz.f32, [], Tryz.func32, rfl, by kernel_rfl, by kernel_rfl, by kernel_rfl⟩
noncomputable def F_commit_Final (a0 : Int) (a1 : TTrust) (a2 : (List TEnvelope)) (a3 : ByteArray) : Option (Int × Int × Bool × Unit) :=
 Option.bind (F_prepare_Look a0 (TTrust.mk a1.Threshold a1.Nodes a1.Inner) a2) fun r1 =>
 Option.bind (F_envelopes_Bounds a2 a3) fun r2 =>
 Option.bind (F_slices_Backward_int_int r2) fun r3 =>
 backO (fun (m5 : Nat) (e6 : Int) (v4 : Int × Int × Bool × Unit) =>
 Option.bind (F_commit_sure r1 a3 e6 e6) fun r7 =>
 bif r7 then
 Option.bind (F_commit_downward_c105 r2 e6 r1 a3 e6) fun r8 =>
 Option.map Sum.inr (some (r8, e6, true, ()))
 else
 some (Sum.inl (v4.1, v4.2.1, v4.2.2.1, ()))) (fun (v9 : Int × Int × Bool × Unit) =>
 some ((0 : Int), (0 : Int), false, ())) (List.reverse r3.1) ((0 : Int), (0 : Int), false, ())
noncomputable def k_commit_Final : KFun U := .fn 32 [.ty (Ty.i .i64), .ty (Ty.st .Trust), .ty (Ty.sl (Ty.st .Envelope)), .ty Ty.str] (.many [(Ty.i .i64), (Ty.i .i64), Ty.bool]) fun a => F_commit_Final a.1 a.2.1 a.2.2.1 a.2.2.2.1
theorem e_commit_Final : fnK K [k_prepare_Look, k_envelopes_Bounds, k_slices_Backward_int_int, k_bk_160, k_commit_sure, k_commit_downward_c105] sa_commit_Final [.cell 8 none, .cell 9 none, .cell 10 none] [.ty (Ty.i .i64), .ty (Ty.st .Trust), .ty (Ty.sl (Ty.st .Envelope)), .ty Ty.str] (.many [(Ty.i .i64), (Ty.i .i64), Ty.bool]) = fun a => F_commit_Final a.1 a.2.1 a.2.2.1 a.2.2.2.1 := by kernel_rfl
theorem s_commit_Final : KFun.Sound (U := U) Tryz.prog k_commit_Final := fnK_sound (K := K) (Γ := [k_prepare_Look, k_envelopes_Bounds, k_slices_Backward_int_int, k_bk_160, k_commit_sure, k_commit_downward_c105]) ok_commit_Final (by kernel_rfl) (by decide) ⟨s_prepare_Look, s_envelopes_Bounds, s_slices_Backward_int_int, s_bk_160, s_commit_sure, s_commit_downward_c105, trivial⟩ (fun a => congrFun e_commit_Final a)

/-! ### trustquorum/trustquorumlaw26.sane -/
def sa_law26_sane : SA U :=
 (.seq
 (.reg
 (op 0 (.mov (.cst (.bool false)))
 .nil))
 (.seq
 (.reg
 (op 5 (.call 30 [(ci 3), (ci 3)])
 (op 6 (.call 56 [])
 (op 7 (.call 32 [(ci 0), (tm 5), (tm 6), (.cst (.str ⟨#[97]⟩))])
 (op 4 (.mov (tm 7))
 (op 8 (.extr 0 (tm 4))
 (op 9 (.extr 1 (tm 4))
 (op 10 (.extr 2 (tm 4))
 (op 1 (.mov (tm 8))
 (op 2 (.mov (tm 9))
 (op 3 (.mov (tm 10))
 .nil)))))))))))
 (.seq
 (.reg
 (op 11 (.mov (tm 3))
 (op 12 (.mov (tm 11))
 (.ite 12 true
 (opg 13 12 true (.mov (tm 1))
 (opg 14 12 true (.bin .eql (tm 13) (ci 3))
 .nil))
 15 none (tm 14) (.cst (.bool false))
 (op 16 (.mov (tm 15))
 (.ite 16 true
 (opg 17 16 true (.mov (tm 2))
 (opg 18 16 true (.bin .eql (tm 17) (ci 5))
 .nil))
 19 none (tm 18) (.cst (.bool false))
 (op 20 (.mov (tm 19))
 (.ite 20 true
 (opg 21 20 true (.call 30 [(ci 3), (ci 3)])
 (opg 22 20 true (.call 56 [])
 (opg 23 20 true (.call 26 [(ci 0), (tm 21), (tm 22), (.cst (.str ⟨#[97]⟩)), (ci 3), (ci 5)])
 .nil)))
 24 none (tm 23) (.cst (.bool false))
 (op 0 (.mov (tm 24))
 .nil)))))))))
 .ret)))
theorem ok_law26_sane : FnOk Tryz.prog 29 25 (SA.erase sa_law26_sane) [.tmp 0] := ⟨Tryz.f29, [], Tryz.func29, rfl, by kernel_rfl, by kernel_rfl, by kernel_rfl⟩
noncomputable def F_law26_sane  : Option Bool :=
 Option.bind (F_play_Flat (3 : Int) (3 : Int)) fun r1 =>
 Option.bind (F_law26_commits) fun r2 =>
 Option.bind (F_commit_Final (0 : Int) (TTrust.mk r1.Threshold r1.Nodes r1.Inner) r2 (ByteArray.mk #[97])) fun r3 =>
 Option.bind (bif r3.2.2.1 then
 some (decide (r3.1 = (3 : Int)))
 else some false) fun b4 =>
 Option.bind (bif b4 then
 some (decide (r3.2.1 = (5 : Int)))
 else some false) fun b5 =>
 Option.bind (bif b5 then
 Option.bind (F_play_Flat (3 : Int) (3 : Int)) fun r6 =>
 Option.bind (F_law26_commits) fun r7 =>
 Option.bind (F_commit_Accepts (0 : Int) (TTrust.mk r6.Threshold r6.Nodes r6.Inner) r7 (ByteArray.mk #[97]) (3 : Int) (5 : Int)) fun r8 =>
 some r8
 else some false) fun b9 =>
 some b9
noncomputable def k_law26_sane : KFun U := .fn 29 [] (.one Ty.bool) fun a => F_law26_sane 
theorem e_law26_sane : fnK K [k_play_Flat, k_law26_commits, k_commit_Final, k_commit_Accepts] sa_law26_sane [.tmp 0] [] (.one Ty.bool) = fun a => F_law26_sane  := by kernel_rfl
theorem s_law26_sane : KFun.Sound (U := U) Tryz.prog k_law26_sane := fnK_sound (K := K) (Γ := [k_play_Flat, k_law26_commits, k_commit_Final, k_commit_Accepts]) ok_law26_sane (by kernel_rfl) (by decide) ⟨s_play_Flat, s_law26_commits, s_commit_Final, s_commit_Accepts, trivial⟩ (fun a => congrFun e_law26_sane a)

/-! ### trustquorum/trustquorumlaw26.CommitParts -/
def sa_law26_CommitParts : SA U :=
 (.seq
 (.reg
 (op 2 (.mov (.cst (.bool false)))
 .nil))
 (.seq
 (.reg
 (op 14 (.mov (tm 0))
 (op 15 (.call 11 [(tm 14)])
 (op 3 (.mov (tm 15))
 .nil))))
 (.seq
 (.reg
 (op 16 (.mov (tm 3))
 (op 17 (.call 12 [(tm 16), (ci 5), (ci 1)])
 (op 4 (.mov (tm 17))
 .nil))))
 (.seq
 (.reg
 (op 18 (.mov (tm 3))
 (op 19 (.call 22 [(tm 18), (ci 5)])
 (op 20 (.mov (tm 3))
 (op 21 (.call 23 [(tm 20), (ci 5)])
 (op 22 (.mov (tm 3))
 (op 23 (.call 24 [(tm 22)])
 (op 24 (.mov (tm 3))
 (op 25 (.call 24 [(tm 24)])
 (op 6 (.alloc [.int .i64 0, .nils, .nils])
 (op 5 (.mov (tm 19))
 (ops (.store 3 (tm 6) (tm 21))
 (op 7 (.mov (tm 23))
 (op 8 (.mov (tm 25))
 .nil))))))))))))))
 (.seq
 (.reg
 (op 26 (.mov (tm 3))
 (op 27 (.call 25 [(tm 26), (ci 1), (ci 5)])
 (op 9 (.mov (tm 27))
 .nil))))
 (.seq
 (.reg
 (op 28 (.mov (tm 9))
 (op 29 (.mov (tm 3))
 (op 30 (.call 22 [(tm 29), (ci 3)])
 (op 31 (.bin .add (tm 28) (tm 30))
 (op 10 (.mov (tm 31))
 .nil))))))
 (.seq
 (.reg
 (op 32 (.mov (tm 3))
 (op 33 (.mov (tm 9))
 (op 34 (.mov (tm 10))
 (op 35 (.call 25 [(tm 32), (tm 33), (tm 34)])
 (op 11 (.mov (tm 35))
 .nil))))))
 (.seq
 (.seq
 (.reg
 (op 36 (.mov (tm 5))
 (op 37 (.load (some 3) (tm 6))
 (op 38 (.mov (tm 4))
 (op 39 (.mov (tm 7))
 (op 40 (.mov (tm 9))
 (op 41 (.mov (tm 10))
 (op 42 (.call 26 [(tm 36), (tm 37), (tm 38), (tm 39), (tm 40), (tm 41)])
 (op 43 (.mov (tm 42))
 (.ite 43 true
 (opg 44 43 true (.mov (tm 5))
 (opg 45 43 true (.load (some 3) (tm 6))
 (opg 46 43 true (.mov (tm 4))
 (opg 47 43 true (.mov (tm 7))
 (opg 48 43 true (.mov (tm 11))
 (opg 49 43 true (.mov (tm 11))
 (opg 50 43 true (.call 26 [(tm 44), (tm 45), (tm 46), (tm 47), (tm 48), (tm 49)])
 (opg 51 43 true (.not (tm 50))
 .nil))))))))
 52 none (tm 51) (.cst (.bool false))
 (op 53 (.mov (tm 52))
 (.ite 53 false
 (opg 54 53 false (.mov (tm 5))
 (opg 55 53 false (.load (some 3) (tm 6))
 (opg 56 53 false (.mov (tm 4))
 (opg 57 53 false (.mov (tm 7))
 (opg 58 53 false (.mov (tm 9))
 (opg 59 53 false (.mov (tm 10))
 (opg 60 53 false (.call 27 [(tm 54), (tm 55), (tm 56), (tm 57), (tm 58), (tm 59)])
 (opg 61 53 false (.mov (tm 60))
 (.ite 61 true
 (opg 62 61 true (.mov (tm 5))
 (opg 63 61 true (.load (some 3) (tm 6))
 (opg 64 61 true (.mov (tm 4))
 (opg 65 61 true (.mov (tm 7))
 (opg 66 61 true (.mov (tm 11))
 (opg 67 61 true (.mov (tm 11))
 (opg 68 61 true (.call 27 [(tm 62), (tm 63), (tm 64), (tm 65), (tm 66), (tm 67)])
 (opg 69 61 true (.not (tm 68))
 .nil))))))))
 70 (some (53, false)) (tm 69) (.cst (.bool false))
 .nil)))))))))
 71 none (.cst (.bool true)) (tm 70)
 .nil))))))))))))
 (.cond (tm 71)
 (.seq
 (.reg
 (op 2 (.mov (.cst (.bool false)))
 .nil))
 .ret)
 .skip))
 (.seq
 (.seq
 (.reg
 (op 72 (.mov (tm 4))
 (op 73 (.len false (tm 72))
 (op 74 (.mov (ci 0))
 .nil))))
 (.block 0
 (.loop ⟨[.val 74 (Ty.i .i64)], [7, 8, 11, 72, 73]⟩
 (.seq
 (.reg
 (op 75 (.bin .lss (tm 74) (tm 73))
 .nil))
 (.seq
 (.cond (tm 75)
 .skip
 (.exit 0))
 (.seq
 (.block 1
 (.seq
 (.reg
 (op 76 (.iaddr 15 (tm 72) (tm 74))
 (op 77 (.load (some 15) (tm 76))
 (op 13 (.alloc [.int .i64 0, .int .i64 0, .int .i64 0, .int .i64 0, .nils, .nils, .int .i64 0, .int .i64 0, .str ⟨#[]⟩, .int .i64 0, .str ⟨#[]⟩, .int .i64 0, .str ⟨#[]⟩, .int .i64 0, .int .i64 0])
 (ops (.store 15 (tm 13) (tm 77))
 .nil)))))
 (.seq
 (.reg
 (op 78 (.mov (tm 7))
 (op 79 (.mov (tm 8))
 (op 80 (.bin .neq (tm 78) (tm 79))
 (op 81 (.mov (tm 80))
 (.ite 81 true
 (opg 82 81 true (.load (some 15) (tm 13))
 (opg 83 81 true (.mov (tm 7))
 (opg 84 81 true (.mov (tm 11))
 (opg 85 81 true (.mov (tm 11))
 (opg 86 81 true (.call 28 [(tm 82), (tm 83), (tm 84), (tm 85)])
 .nil)))))
 87 none (tm 86) (.cst (.bool false))
 (op 88 (.mov (tm 87))
 (.ite 88 true
 (opg 89 88 true (.load (some 15) (tm 13))
 (opg 90 88 true (.mov (tm 8))
 (opg 91 88 true (.mov (tm 11))
 (opg 92 88 true (.mov (tm 11))
 (opg 93 88 true (.call 28 [(tm 89), (tm 90), (tm 91), (tm 92)])
 .nil)))))
 94 none (tm 93) (.cst (.bool false))
 .nil))))))))
 (.cond (tm 94)
 (.seq
 (.reg
 (op 2 (.mov (.cst (.bool false)))
 .nil))
 .ret)
 .skip))))
 (.reg
 (op 95 (.bin .add (tm 74) (ci 1))
 (op 74 (.mov (tm 95))
 .nil)))))))))
 (.seq
 (.reg
 (op 96 (.call 29 [])
 (op 2 (.mov (tm 96))
 .nil)))
 .ret))))))))))
theorem ok_law26_CommitParts : FnOk Tryz.prog 4 97 (SA.erase sa_law26_CommitParts) [.tmp 2] := ⟨Tryz.f4, [], Tryz.func4, rfl, by kernel_rfl, by kernel_rfl, by kernel_rfl⟩
noncomputable def F_law26_CommitParts (a0 : (List Int)) : Option Bool :=
 Option.bind (F_play_New a0) fun r1 =>
 Option.bind (F_play_Src_Envelopes r1 (5 : Int) (1 : Int)) fun p2 =>
 Option.bind (F_play_Src_N p2.2 (5 : Int)) fun p3 =>
 Option.bind (F_play_Src_Trust p3.2 (5 : Int)) fun p4 =>
 Option.bind (F_play_Src_Value p4.2) fun p5 =>
 Option.bind (F_play_Src_Value p5.2) fun p6 =>
 Option.bind (F_play_Src_Range p6.2 (1 : Int) (5 : Int)) fun p7 =>
 Option.bind (F_play_Src_N p7.2 (3 : Int)) fun p8 =>
 Option.bind (F_play_Src_Range p8.2 p7.1 (addI .i64 p7.1 p8.1)) fun p9 =>
 Option.bind (F_commit_Accepts p3.1 (TTrust.mk p4.1.Threshold p4.1.Nodes p4.1.Inner) p2.1 p5.1 p7.1 (addI .i64 p7.1 p8.1)) fun r10 =>
 Option.bind (bif r10 then
 Option.bind (F_commit_Accepts p3.1 (TTrust.mk p4.1.Threshold p4.1.Nodes p4.1.Inner) p2.1 p5.1 p9.1 p9.1) fun r11 =>
 some (!r11)
 else some false) fun b12 =>
 Option.bind (bif b12 then some true
 else
 Option.bind (F_commit_Confirms p3.1 (TTrust.mk p4.1.Threshold p4.1.Nodes p4.1.Inner) p2.1 p5.1 p7.1 (addI .i64 p7.1 p8.1)) fun r13 =>
 Option.bind (bif r13 then
 Option.bind (F_commit_Confirms p3.1 (TTrust.mk p4.1.Threshold p4.1.Nodes p4.1.Inner) p2.1 p5.1 p9.1 p9.1) fun r14 =>
 some (!r14)
 else some false) fun b15 =>
 some b15) fun b16 =>
 bif b16 then
 some false
 else
 loopO (fun (v17 : Int × Unit) =>
 bif (decide (v17.1 < ((List.length p2.1 : Nat) : Int))) then
 Option.bind (idx p2.1 v17.1) fun x18 =>
 Option.bind (bif (!decide (p5.1 = p6.1)) then
 Option.bind (F_ref24_AcceptsCommit (TEnvelope.mk x18.Node x18.Slot x18.Seq (TTrust.mk x18.Trust.Threshold x18.Trust.Nodes x18.Trust.Inner) x18.Kind x18.Ballot x18.Prepared x18.Prime x18.Low x18.High) p5.1 p9.1 p9.1) fun r19 =>
 some r19
 else some false) fun b20 =>
 Option.bind (bif b20 then
 Option.bind (F_ref24_AcceptsCommit (TEnvelope.mk x18.Node x18.Slot x18.Seq (TTrust.mk x18.Trust.Threshold x18.Trust.Nodes x18.Trust.Inner) x18.Kind x18.Ballot x18.Prepared x18.Prime x18.Low x18.High) p6.1 p9.1 p9.1) fun r21 =>
 some r21
 else some false) fun b22 =>
 bif b22 then
 Option.map Sum.inr (some false)
 else
 some (Sum.inl ((addI .i64 v17.1 (1 : Int)), ()))
 else
 Option.map Sum.inr (Option.bind (F_law26_sane) fun r23 =>
 some r23)) ((0 : Int), ())
noncomputable def k_law26_CommitParts : KFun U := .fn 4 [.ty (Ty.sl (Ty.i .i64))] (.one Ty.bool) fun a => F_law26_CommitParts a.1
theorem e_law26_CommitParts : fnK K [k_play_New, k_play_Src_Envelopes, k_play_Src_N, k_play_Src_Trust, k_play_Src_Value, k_play_Src_Range, k_commit_Accepts, k_commit_Confirms, k_ref24_AcceptsCommit, k_law26_sane] sa_law26_CommitParts [.tmp 2] [.ty (Ty.sl (Ty.i .i64))] (.one Ty.bool) = fun a => F_law26_CommitParts a.1 := by kernel_rfl
theorem s_law26_CommitParts : KFun.Sound (U := U) Tryz.prog k_law26_CommitParts := fnK_sound (K := K) (Γ := [k_play_New, k_play_Src_Envelopes, k_play_Src_N, k_play_Src_Trust, k_play_Src_Value, k_play_Src_Range, k_commit_Accepts, k_commit_Confirms, k_ref24_AcceptsCommit, k_law26_sane]) ok_law26_CommitParts (by kernel_rfl) (by decide) ⟨s_play_New, s_play_Src_Envelopes, s_play_Src_N, s_play_Src_Trust, s_play_Src_Value, s_play_Src_Range, s_commit_Accepts, s_commit_Confirms, s_ref24_AcceptsCommit, s_law26_sane, trivial⟩ (fun a => congrFun e_law26_CommitParts a)

end Go.Proofs.YtncjalhhkmojlaaGreat
