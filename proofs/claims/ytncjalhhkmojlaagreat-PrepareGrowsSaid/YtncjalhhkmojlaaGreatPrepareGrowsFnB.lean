/-
  Functions of the program as plain functions, each held against the program by the kernel. Printed by a program.
-/
import Derived.Test.YtncjalhhkmojlaaGreatPrepareGrowsFnA
import Derived.Test.YtncjalhhkmojlaaGreatProg
import Derived.KernelRfl
set_option linter.unusedVariables false
namespace Go.Proofs.YtncjalhhkmojlaaGreat
open Go.TQ

/-! ### slices.pdqsortCmpFunc[trustquorum/api.Ballot] -/
def sa_slices_pdqsortCmpFunc_api_Ballot_c86 : SA U :=
 (.seq
 (.reg
 (op 10 (.mov (.cst (.bool true)))
 .nil))
 (.seq
 (.reg
 (op 11 (.mov (.cst (.bool true)))
 .nil))
 (.block 0
 (.loop ⟨[.val 1 (Ty.i .i64), .val 2 (Ty.i .i64), .val 3 (Ty.i .i64), .val 10 Ty.bool, .val 11 Ty.bool, .own 0 0 0 32 2 (Ty.st .Ballot)], [4]⟩
 (.block 1
 (.seq
 (.reg
 (op 21 (.mov (tm 2))
 (op 22 (.mov (tm 1))
 (op 23 (.bin .sub (tm 21) (tm 22))
 (op 12 (.mov (tm 23))
 .nil)))))
 (.seq
 (.seq
 (.reg
 (op 24 (.mov (tm 12))
 (op 25 (.bin .leq (tm 24) (ci 12))
 .nil)))
 (.cond (tm 25)
 (.seq
 (.reg
 (op 26 (.mov (tm 0))
 (op 27 (.mov (tm 1))
 (op 28 (.mov (tm 2))
 (op 29 (.mov (tm 4))
 (op 30 (.call 200 [(tm 26), (tm 27), (tm 28), (tm 29)])
 .nil))))))
 .ret)
 .skip))
 (.seq
 (.seq
 (.reg
 (op 31 (.mov (tm 3))
 (op 32 (.bin .eql (tm 31) (ci 0))
 .nil)))
 (.cond (tm 32)
 (.seq
 (.reg
 (op 33 (.mov (tm 0))
 (op 34 (.mov (tm 1))
 (op 35 (.mov (tm 2))
 (op 36 (.mov (tm 4))
 (op 37 (.call 201 [(tm 33), (tm 34), (tm 35), (tm 36)])
 .nil))))))
 .ret)
 .skip))
 (.join ⟨[.val 3 (Ty.i .i64), .own 0 0 0 32 2 (Ty.st .Ballot)], [1, 2, 4, 10, 11, 12]⟩
 (.seq
 (.reg
 (op 38 (.mov (tm 10))
 (op 39 (.not (tm 38))
 .nil)))
 (.cond (tm 39)
 (.seq
 (.reg
 (op 40 (.mov (tm 0))
 (op 41 (.mov (tm 1))
 (op 42 (.mov (tm 2))
 (op 43 (.mov (tm 4))
 (op 44 (.call 202 [(tm 40), (tm 41), (tm 42), (tm 43)])
 .nil))))))
 (.reg
 (op 45 (.mov (tm 3))
 (op 46 (.bin .sub (tm 45) (ci 1))
 (op 3 (.mov (tm 46))
 .nil)))))
 .skip))
 (.seq
 (.reg
 (op 48 (.mov (tm 0))
 (op 49 (.mov (tm 1))
 (op 50 (.mov (tm 2))
 (op 51 (.mov (tm 4))
 (op 52 (.call 203 [(tm 48), (tm 49), (tm 50), (tm 51)])
 (op 47 (.mov (tm 52))
 (op 53 (.extr 0 (tm 47))
 (op 54 (.extr 1 (tm 47))
 (op 13 (.mov (tm 53))
 (op 14 (.mov (tm 54))
 .nil)))))))))))
 (.join ⟨[.val 13 (Ty.i .i64), .val 14 (Ty.i .i64), .own 0 0 0 32 2 (Ty.st .Ballot)], [1, 2, 3, 4, 10, 11, 12]⟩
 (.seq
 (.reg
 (op 55 (.mov (tm 14))
 (op 56 (.bin .eql (tm 55) (ci 2))
 .nil)))
 (.cond (tm 56)
 (.seq
 (.reg
 (op 57 (.mov (tm 0))
 (op 58 (.mov (tm 1))
 (op 59 (.mov (tm 2))
 (op 60 (.mov (tm 4))
 (op 61 (.call 204 [(tm 57), (tm 58), (tm 59), (tm 60)])
 .nil))))))
 (.seq
 (.reg
 (op 62 (.mov (tm 2))
 (op 63 (.bin .sub (tm 62) (ci 1))
 (op 64 (.mov (tm 13))
 (op 65 (.mov (tm 1))
 (op 66 (.bin .sub (tm 64) (tm 65))
 (op 67 (.bin .sub (tm 63) (tm 66))
 (op 13 (.mov (tm 67))
 .nil))))))))
 (.reg
 (op 14 (.mov (ci 1))
 .nil))))
 .skip))
 (.join ⟨[.own 0 0 0 32 2 (Ty.st .Ballot)], [1, 2, 3, 4, 10, 11, 12, 13]⟩
 (.seq
 (.reg
 (op 68 (.mov (tm 10))
 (op 69 (.mov (tm 68))
 (.ite 69 true
 (opg 70 69 true (.mov (tm 11))
 .nil)
 71 none (tm 70) (.cst (.bool false))
 (op 72 (.mov (tm 71))
 (.ite 72 true
 (opg 73 72 true (.mov (tm 14))
 (opg 74 72 true (.bin .eql (tm 73) (ci 1))
 .nil))
 75 none (tm 74) (.cst (.bool false))
 .nil))))))
 (.cond (tm 75)
 (.seq
 (.reg
 (op 76 (.mov (tm 0))
 (op 77 (.mov (tm 1))
 (op 78 (.mov (tm 2))
 (op 79 (.mov (tm 4))
 (op 80 (.call 205 [(tm 76), (tm 77), (tm 78), (tm 79)])
 .nil))))))
 (.cond (tm 80)
 .ret
 .skip))
 .skip))
 (.seq
 (.join ⟨[.val 97 Ty.bool], [0, 1, 2, 3, 4, 10, 11, 12, 13]⟩
 (.drw [(7, 11), (8, 11), (7, 12), (8, 12)]
 (op 81 (.mov (tm 1))
 (op 82 (.bin .gtr (tm 81) (ci 0))
 (op 83 (.mov (tm 82))
 (.spl 83
 (opg 84 83 true (.mov (tm 4))
 (opg 85 83 true (.mov (tm 0))
 (opg 86 83 true (.mov (tm 1))
 (opg 87 83 true (.bin .sub (tm 86) (ci 1))
 (opg 88 83 true (.iaddr 2 (tm 85) (tm 87))
 (opg 89 83 true (.load (some 2) (tm 88))
 (opg 90 83 true (.mov (tm 0))
 (opg 91 83 true (.mov (tm 13))
 (opg 92 83 true (.iaddr 2 (tm 90) (tm 91))
 (opg 93 83 true (.load (some 2) (tm 92))
 (opg 94 83 true (.callv (tm 84) [(tm 89), (tm 93)])
 (opg 95 83 true (.bin .lss (tm 94) (ci 0))
 (opg 96 83 true (.not (tm 95))
 (op 97 (.pick (tm 83) (tm 96) (.cst (.bool false)))
 .nil)))))))))))))))))))
 (.cond (tm 97)
 (.seq
 (.reg
 (op 98 (.mov (tm 0))
 (op 99 (.mov (tm 1))
 (op 100 (.mov (tm 2))
 (op 101 (.mov (tm 13))
 (op 102 (.mov (tm 4))
 (op 103 (.call 206 [(tm 98), (tm 99), (tm 100), (tm 101), (tm 102)])
 (op 15 (.mov (tm 103))
 .nil))))))))
 (.seq
 (.reg
 (op 104 (.mov (tm 15))
 (op 1 (.mov (tm 104))
 .nil)))
 (.exit 1)))
 .skip))
 (.seq
 (.reg
 (op 106 (.mov (tm 0))
 (op 107 (.mov (tm 1))
 (op 108 (.mov (tm 2))
 (op 109 (.mov (tm 13))
 (op 110 (.mov (tm 4))
 (op 111 (.call 207 [(tm 106), (tm 107), (tm 108), (tm 109), (tm 110)])
 (op 105 (.mov (tm 111))
 (op 112 (.extr 0 (tm 105))
 (op 113 (.extr 1 (tm 105))
 (op 16 (.mov (tm 112))
 (op 17 (.mov (tm 113))
 .nil))))))))))))
 (.seq
 (.reg
 (op 114 (.mov (tm 17))
 (op 11 (.mov (tm 114))
 .nil)))
 (.seq
 (.reg
 (op 115 (.mov (tm 16))
 (op 116 (.mov (tm 1))
 (op 117 (.bin .sub (tm 115) (tm 116))
 (op 118 (.mov (tm 2))
 (op 119 (.mov (tm 16))
 (op 120 (.bin .sub (tm 118) (tm 119))
 (op 18 (.mov (tm 117))
 (op 19 (.mov (tm 120))
 .nil)))))))))
 (.seq
 (.reg
 (op 121 (.mov (tm 12))
 (op 122 (.bin .quo (tm 121) (ci 8))
 (op 20 (.mov (tm 122))
 .nil))))
 (.seq
 (.reg
 (op 123 (.mov (tm 18))
 (op 124 (.mov (tm 19))
 (op 125 (.bin .lss (tm 123) (tm 124))
 .nil))))
 (.cond (tm 125)
 (.seq
 (.reg
 (op 126 (.mov (tm 18))
 (op 127 (.mov (tm 20))
 (op 128 (.bin .geq (tm 126) (tm 127))
 (op 10 (.mov (tm 128))
 .nil)))))
 (.seq
 (.reg
 (op 129 (.mov (tm 0))
 (op 130 (.mov (tm 1))
 (op 131 (.mov (tm 16))
 (op 132 (.mov (tm 3))
 (op 133 (.mov (tm 4))
 (op 134 (.call 180 [(tm 129), (tm 130), (tm 131), (tm 132), (tm 133)])
 .nil)))))))
 (.reg
 (op 135 (.mov (tm 16))
 (op 136 (.bin .add (tm 135) (ci 1))
 (op 1 (.mov (tm 136))
 .nil))))))
 (.seq
 (.reg
 (op 137 (.mov (tm 19))
 (op 138 (.mov (tm 20))
 (op 139 (.bin .geq (tm 137) (tm 138))
 (op 10 (.mov (tm 139))
 .nil)))))
 (.seq
 (.reg
 (op 140 (.mov (tm 0))
 (op 141 (.mov (tm 16))
 (op 142 (.bin .add (tm 141) (ci 1))
 (op 143 (.mov (tm 2))
 (op 144 (.mov (tm 3))
 (op 145 (.mov (tm 4))
 (op 146 (.call 180 [(tm 140), (tm 142), (tm 143), (tm 144), (tm 145)])
 .nil))))))))
 (.reg
 (op 147 (.mov (tm 16))
 (op 2 (.mov (tm 147))
 .nil))))))))))))))))))))))))
theorem ok_slices_pdqsortCmpFunc_api_Ballot_c86 : FnOk Tryz.prog 180 148 (SA.erase sa_slices_pdqsortCmpFunc_api_Ballot_c86) [] := ⟨Tryz.f180, [], Tryz.func180, rfl, by kernel_rfl, by kernel_rfl, by kernel_rfl⟩
noncomputable def B_slices_pdqsortCmpFunc_api_Ballot_c86 (rec : List TBallot → (Int × Int × Int × (Unit) × Unit) → Option ((Unit) × List TBallot)) (s : List TBallot) (a0 : Int) (a1 : Int) (a2 : Int) : Option ((Unit) × List TBallot) :=
 loopO (fun (v1 : Int × Int × Int × Bool × Bool × (List TBallot) × Unit) =>
 bif (decide ((subI .i64 v1.2.1 v1.1) ≤ (12 : Int))) then
 Option.bind (F_slices_insertionSortCmpFunc_api_Ballot_c86 v1.2.2.2.2.2.1 v1.1 v1.2.1) fun p2 =>
 Option.map Sum.inr (some ((()), p2.2))
 else
 bif (decide (v1.2.2.1 = (0 : Int))) then
 Option.bind (F_slices_heapSortCmpFunc_api_Ballot_c86 v1.2.2.2.2.2.1 v1.1 v1.2.1) fun p3 =>
 Option.map Sum.inr (some ((()), p3.2))
 else
 letJ (fun (v4 : Int × (List TBallot) × Unit) =>
 Option.bind (F_slices_choosePivotCmpFunc_api_Ballot_c86 v4.2.1 v1.1 v1.2.1) fun r6 =>
 letJ (fun (v7 : Int × Int × (List TBallot) × Unit) =>
 letJ (fun (v9 : (List TBallot) × Unit) =>
 letJ (fun (v11 : Bool × Unit) =>
 bif v11.1 then
 Option.bind (F_slices_partitionEqualCmpFunc_api_Ballot_c86 v9.1 v1.1 v1.2.1 v7.1) fun p13 =>
 some (Sum.inl (p13.1, v1.2.1, v4.1, v1.2.2.2.1, v1.2.2.2.2.1, p13.2, ()))
 else
 Option.bind (F_slices_partitionCmpFunc_api_Ballot_c86 v9.1 v1.1 v1.2.1 v7.1) fun p14 =>
 bif (decide ((subI .i64 p14.1.1 v1.1) < (subI .i64 v1.2.1 p14.1.1))) then
 Option.bind (rec p14.2 (v1.1, p14.1.1, v4.1, (()), ())) fun p15 =>
 some (Sum.inl ((addI .i64 p14.1.1 (1 : Int)), v1.2.1, v4.1, (decide ((quoI .i64 (subI .i64 v1.2.1 v1.1) (8 : Int)) ≤ (subI .i64 p14.1.1 v1.1))), p14.1.2.1, p15.2, ()))
 else
 Option.bind (rec p14.2 ((addI .i64 p14.1.1 (1 : Int)), v1.2.1, v4.1, (()), ())) fun p16 =>
 some (Sum.inl (v1.1, p14.1.1, v4.1, (decide ((quoI .i64 (subI .i64 v1.2.1 v1.1) (8 : Int)) ≤ (subI .i64 v1.2.1 p14.1.1))), p14.1.2.1, p16.2, ()))) fun j12 =>
 bif (decide ((0 : Int) < v1.1)) then
 Option.bind (idx v9.1 (subI .i64 v1.1 (1 : Int))) fun x17 =>
 Option.bind (v9.1[(Int.toNat (subI .i64 v1.1 (1 : Int)))]?) fun x18 =>
 Option.bind (idx v9.1 v7.1) fun x19 =>
 Option.bind (v9.1[(Int.toNat v7.1)]?) fun x20 =>
 Option.bind (F_envelopes_Ballots_1 x18 x20) fun r21 =>
 j12 ((!(decide (r21 < (0 : Int)))), ())
 else
 j12 (false, ())) fun j10 =>
 Option.bind (bif v1.2.2.2.1 then
 some v1.2.2.2.2.1
 else some false) fun b22 =>
 Option.bind (bif b22 then
 some (decide (v7.2.1 = (1 : Int)))
 else some false) fun b23 =>
 bif b23 then
 Option.bind (F_slices_partialInsertionSortCmpFunc_api_Ballot_c86 v7.2.2.1 v1.1 v1.2.1) fun p24 =>
 bif p24.1 then
 Option.map Sum.inr (some ((()), p24.2))
 else
 j10 (p24.2, ())
 else
 j10 (v7.2.2.1, ())) fun j8 =>
 bif (decide (r6.2.1 = (2 : Int))) then
 Option.bind (F_slices_reverseRangeCmpFunc_api_Ballot_c86 v4.2.1 v1.1 v1.2.1) fun p25 =>
 j8 ((subI .i64 (subI .i64 v1.2.1 (1 : Int)) (subI .i64 r6.1 v1.1)), (1 : Int), p25.2, ())
 else
 j8 (r6.1, r6.2.1, v4.2.1, ())) fun j5 =>
 bif (!v1.2.2.2.1) then
 Option.bind (F_slices_breakPatternsCmpFunc_api_Ballot_c86 v1.2.2.2.2.2.1 v1.1 v1.2.1) fun p26 =>
 j5 ((subI .i64 v1.2.2.1 (1 : Int)), p26.2, ())
 else
 j5 (v1.2.2.1, v1.2.2.2.2.2.1, ())) (a0, a1, a2, true, true, s, ())
noncomputable def I_slices_pdqsortCmpFunc_api_Ballot_c86 : Nat → List TBallot → (Int × Int × Int × (Unit) × Unit) → Option ((Unit) × List TBallot) := iterF2 (fun rec s a => B_slices_pdqsortCmpFunc_api_Ballot_c86 rec s a.1 a.2.1 a.2.2.1)
noncomputable def F_slices_pdqsortCmpFunc_api_Ballot_c86 (s : List TBallot) (a0 : Int) (a1 : Int) (a2 : Int) : Option ((Unit) × List TBallot) := I_slices_pdqsortCmpFunc_api_Ballot_c86 (List.length s + 1) s (a0, a1, a2, (()), ())
noncomputable def k_slices_pdqsortCmpFunc_api_Ballot_c86 : KFun U := .rw 180 32 2 (Ty.st .Ballot) [.ty (Ty.i .i64), .ty (Ty.i .i64), .ty (Ty.i .i64), .clo 86 []] (.many []) fun s a => F_slices_pdqsortCmpFunc_api_Ballot_c86 s a.1 a.2.1 a.2.2.1
theorem e_slices_pdqsortCmpFunc_api_Ballot_c86 : (fun G => rwK K (.rw 180 32 2 (Ty.st .Ballot) [.ty (Ty.i .i64), .ty (Ty.i .i64), .ty (Ty.i .i64), .clo 86 []] (.many []) G :: [k_slices_insertionSortCmpFunc_api_Ballot_c86, k_slices_heapSortCmpFunc_api_Ballot_c86, k_slices_breakPatternsCmpFunc_api_Ballot_c86, k_slices_choosePivotCmpFunc_api_Ballot_c86, k_slices_reverseRangeCmpFunc_api_Ballot_c86, k_slices_partialInsertionSortCmpFunc_api_Ballot_c86, k_envelopes_Ballots_1, k_slices_partitionEqualCmpFunc_api_Ballot_c86, k_slices_partitionCmpFunc_api_Ballot_c86]) sa_slices_pdqsortCmpFunc_api_Ballot_c86 [] 32 2 (Ty.st .Ballot) [.ty (Ty.i .i64), .ty (Ty.i .i64), .ty (Ty.i .i64), .clo 86 []] (.many [])) = (fun G s a => B_slices_pdqsortCmpFunc_api_Ballot_c86 G s a.1 a.2.1 a.2.2.1) := by kernel_rfl
theorem n_slices_pdqsortCmpFunc_api_Ballot_c86 : ∀ n, KFun.Sound (U := U) Tryz.prog (.rw 180 32 2 (Ty.st .Ballot) [.ty (Ty.i .i64), .ty (Ty.i .i64), .ty (Ty.i .i64), .clo 86 []] (.many []) (I_slices_pdqsortCmpFunc_api_Ballot_c86 n))
  | 0 => ⟨ok_slices_pdqsortCmpFunc_api_Ballot_c86.enters, fun s a r ys h => by cases h⟩
  | n + 1 => rwK_sound (K := K) (r := .many []) (e := 32) (k := 2) (T := (Ty.st .Ballot)) («as» := [.ty (Ty.i .i64), .ty (Ty.i .i64), .ty (Ty.i .i64), .clo 86 []]) (Γ := .rw 180 32 2 (Ty.st .Ballot) [.ty (Ty.i .i64), .ty (Ty.i .i64), .ty (Ty.i .i64), .clo 86 []] (.many []) (I_slices_pdqsortCmpFunc_api_Ballot_c86 n) :: [k_slices_insertionSortCmpFunc_api_Ballot_c86, k_slices_heapSortCmpFunc_api_Ballot_c86, k_slices_breakPatternsCmpFunc_api_Ballot_c86, k_slices_choosePivotCmpFunc_api_Ballot_c86, k_slices_reverseRangeCmpFunc_api_Ballot_c86, k_slices_partialInsertionSortCmpFunc_api_Ballot_c86, k_envelopes_Ballots_1, k_slices_partitionEqualCmpFunc_api_Ballot_c86, k_slices_partitionCmpFunc_api_Ballot_c86]) (F := I_slices_pdqsortCmpFunc_api_Ballot_c86 (n + 1)) ok_slices_pdqsortCmpFunc_api_Ballot_c86 (by kernel_rfl) (by decide) ⟨n_slices_pdqsortCmpFunc_api_Ballot_c86 n, s_slices_insertionSortCmpFunc_api_Ballot_c86, s_slices_heapSortCmpFunc_api_Ballot_c86, s_slices_breakPatternsCmpFunc_api_Ballot_c86, s_slices_choosePivotCmpFunc_api_Ballot_c86, s_slices_reverseRangeCmpFunc_api_Ballot_c86, s_slices_partialInsertionSortCmpFunc_api_Ballot_c86, s_envelopes_Ballots_1, s_slices_partitionEqualCmpFunc_api_Ballot_c86, s_slices_partitionCmpFunc_api_Ballot_c86, trivial⟩ (fun s a => congrFun (congrFun (congrFun e_slices_pdqsortCmpFunc_api_Ballot_c86 (I_slices_pdqsortCmpFunc_api_Ballot_c86 n)) s) a)
theorem s_slices_pdqsortCmpFunc_api_Ballot_c86 : KFun.Sound (U := U) Tryz.prog k_slices_pdqsortCmpFunc_api_Ballot_c86 := ⟨ok_slices_pdqsortCmpFunc_api_Ballot_c86.enters, fun s a r ys h => (n_slices_pdqsortCmpFunc_api_Ballot_c86 _).2 s a r ys h⟩

/-! ### slices.SortFunc[[]trustquorum/api.Ballot,trustquorum/api.Ballot] -/
def sa_slices_SortFunc_api_Ballot_api_Ballot_c86 : SA U :=
 (.seq
 (.reg
 (op 5 (.mov (tm 0))
 (op 6 (.len false (tm 5))
 (op 4 (.mov (tm 6))
 .nil))))
 (.reg
 (op 7 (.mov (tm 0))
 (op 8 (.mov (tm 4))
 (op 9 (.mov (tm 4))
 (op 10 (.conv .u64 (tm 9))
 (op 11 (.call 181 [(tm 10)])
 (op 12 (.mov (tm 1))
 (op 13 (.call 180 [(tm 7), (ci 0), (tm 8), (tm 11), (tm 12)])
 .nil)))))))))
theorem ok_slices_SortFunc_api_Ballot_api_Ballot_c86 : FnOk Tryz.prog 144 14 (SA.erase sa_slices_SortFunc_api_Ballot_api_Ballot_c86) [] := ⟨Tryz.f144, [], Tryz.func144, rfl, by kernel_rfl, by kernel_rfl, by kernel_rfl⟩
noncomputable def F_slices_SortFunc_api_Ballot_api_Ballot_c86 (s : List TBallot)  : Option ((Unit) × List TBallot) :=
 Option.bind (F_math_bits_Len (convI .u64 ((List.length s : Nat) : Int))) fun r1 =>
 Option.bind (F_slices_pdqsortCmpFunc_api_Ballot_c86 s (0 : Int) ((List.length s : Nat) : Int) r1) fun p2 =>
 some ((()), p2.2)
noncomputable def k_slices_SortFunc_api_Ballot_api_Ballot_c86 : KFun U := .rw 144 32 2 (Ty.st .Ballot) [.clo 86 []] (.many []) fun s a => F_slices_SortFunc_api_Ballot_api_Ballot_c86 s 
theorem e_slices_SortFunc_api_Ballot_api_Ballot_c86 : rwK K [k_math_bits_Len, k_slices_pdqsortCmpFunc_api_Ballot_c86] sa_slices_SortFunc_api_Ballot_api_Ballot_c86 [] 32 2 (Ty.st .Ballot) [.clo 86 []] (.many []) = fun s a => F_slices_SortFunc_api_Ballot_api_Ballot_c86 s  := by kernel_rfl
theorem s_slices_SortFunc_api_Ballot_api_Ballot_c86 : KFun.Sound (U := U) Tryz.prog k_slices_SortFunc_api_Ballot_api_Ballot_c86 := rwK_sound (K := K) (Γ := [k_math_bits_Len, k_slices_pdqsortCmpFunc_api_Ballot_c86]) ok_slices_SortFunc_api_Ballot_api_Ballot_c86 (by kernel_rfl) (by decide) ⟨s_math_bits_Len, s_slices_pdqsortCmpFunc_api_Ballot_c86, trivial⟩ (fun s a => congrFun (congrFun e_slices_SortFunc_api_Ballot_api_Ballot_c86 s) a)

/-! ### slices.Compact[[]trustquorum/api.Ballot,trustquorum/api.Ballot] -/
def sa_slices_Compact_api_Ballot_api_Ballot : SA U :=
 (.seq
 (.reg
 (op 2 (.mov (.cst (.nils)))
 .nil))
 (.seq
 (.seq
 (.reg
 (op 6 (.mov (tm 0))
 (op 7 (.len false (tm 6))
 (op 8 (.bin .lss (tm 7) (ci 2))
 .nil))))
 (.cond (tm 8)
 (.seq
 (.reg
 (op 9 (.mov (tm 0))
 (op 2 (.mov (tm 9))
 .nil)))
 .ret)
 .skip))
 (.seq
 (.seq
 (.reg
 (op 3 (.mov (ci 1))
 .nil))
 (.block 0
 (.loop ⟨[.val 3 (Ty.i .i64), .own 0 0 0 32 2 (Ty.st .Ballot)], []⟩
 (.seq
 (.seq
 (.reg
 (op 10 (.mov (tm 3))
 (op 11 (.mov (tm 0))
 (op 12 (.len false (tm 11))
 (op 13 (.bin .lss (tm 10) (tm 12))
 .nil)))))
 (.cond (tm 13)
 .skip
 (.exit 0)))
 (.seq
 (.block 1
 (.seq
 (.drw [(2, 7), (3, 7), (2, 8), (3, 8)]
 (op 16 (.mov (tm 0))
 (op 17 (.mov (tm 3))
 (op 18 (.iaddr 2 (tm 16) (tm 17))
 (op 19 (.load (some 2) (tm 18))
 (op 20 (.mov (tm 0))
 (op 21 (.mov (tm 3))
 (op 22 (.bin .sub (tm 21) (ci 1))
 (op 23 (.iaddr 2 (tm 20) (tm 22))
 (op 24 (.load (some 2) (tm 23))
 (op 25 (.eq2 false (tm 19) (tm 24))
 .nil)))))))))))
 (.cond (tm 25)
 (.seq
 (.reg
 (op 26 (.mov (tm 0))
 (op 27 (.mov (tm 3))
 (op 28 (.slc 2 (tm 26) (some (tm 27)) none)
 (op 4 (.mov (tm 28))
 .nil)))))
 (.seq
 (.seq
 (.reg
 (op 5 (.mov (ci 1))
 .nil))
 (.block 2
 (.loop ⟨[.val 3 (Ty.i .i64), .val 5 (Ty.i .i64), .own 0 0 0 32 2 (Ty.st .Ballot)], [4]⟩
 (.seq
 (.seq
 (.reg
 (op 29 (.mov (tm 5))
 (op 30 (.mov (tm 4))
 (op 31 (.len false (tm 30))
 (op 32 (.bin .lss (tm 29) (tm 31))
 .nil)))))
 (.cond (tm 32)
 .skip
 (.exit 2)))
 (.join ⟨[.val 3 (Ty.i .i64), .own 0 0 0 32 2 (Ty.st .Ballot)], [4, 5]⟩
 (.block 3
 (.seq
 (.drw [(2, 7), (3, 7), (2, 8), (3, 8)]
 (op 35 (.mov (tm 4))
 (op 36 (.mov (tm 5))
 (op 37 (.iaddr 2 (tm 35) (tm 36))
 (op 38 (.load (some 2) (tm 37))
 (op 39 (.mov (tm 4))
 (op 40 (.mov (tm 5))
 (op 41 (.bin .sub (tm 40) (ci 1))
 (op 42 (.iaddr 2 (tm 39) (tm 41))
 (op 43 (.load (some 2) (tm 42))
 (op 44 (.eq2 true (tm 38) (tm 43))
 .nil)))))))))))
 (.cond (tm 44)
 (.seq
 (.reg
 (op 45 (.mov (tm 0))
 (op 46 (.mov (tm 3))
 (op 47 (.mov (tm 4))
 (op 48 (.mov (tm 5))
 (op 49 (.iaddr 2 (tm 47) (tm 48))
 (op 50 (.load (some 2) (tm 49))
 (op 51 (.iaddr 2 (tm 45) (tm 46))
 (ops (.store 2 (tm 51) (tm 50))
 .nil)))))))))
 (.reg
 (op 52 (.mov (tm 3))
 (op 53 (.bin .add (tm 52) (ci 1))
 (op 3 (.mov (tm 53))
 .nil)))))
 .skip)))
 (.reg
 (op 33 (.mov (tm 5))
 (op 34 (.bin .add (tm 33) (ci 1))
 (op 5 (.mov (tm 34))
 .nil)))))))))
 (.seq
 (.reg
 (op 54 (.mov (tm 0))
 (op 55 (.mov (tm 3))
 (op 56 (.slc 2 (tm 54) (some (tm 55)) none)
 (ops (.clear 2 [.int .i64 0, .str ⟨#[]⟩] (tm 56))
 .nil)))))
 (.seq
 (.reg
 (op 57 (.mov (tm 0))
 (op 58 (.mov (tm 3))
 (op 59 (.slc 2 (tm 57) none (some (tm 58)))
 (op 2 (.mov (tm 59))
 (.ps (.cut 2)
 .nil))))))
 .ret))))
 .skip)))
 (.reg
 (op 14 (.mov (tm 3))
 (op 15 (.bin .add (tm 14) (ci 1))
 (op 3 (.mov (tm 15))
 .nil)))))))))
 (.seq
 (.reg
 (op 60 (.mov (tm 0))
 (op 2 (.mov (tm 60))
 .nil)))
 .ret))))
theorem ok_slices_Compact_api_Ballot_api_Ballot : FnOk Tryz.prog 145 61 (SA.erase sa_slices_Compact_api_Ballot_api_Ballot) [.tmp 2] := ⟨Tryz.f145, [], Tryz.func145, rfl, by kernel_rfl, by kernel_rfl, by kernel_rfl⟩
noncomputable def F_slices_Compact_api_Ballot_api_Ballot (s : List TBallot)  : Option (List TBallot) :=
 bif (decide (((List.length s : Nat) : Int) < (2 : Int))) then
 some s
 else
 loopO (fun (v1 : Int × (List TBallot) × Unit) =>
 bif (decide (v1.1 < ((List.length v1.2.1 : Nat) : Int))) then
 Option.bind (idx v1.2.1 v1.1) fun x2 =>
 Option.bind (v1.2.1[(Int.toNat v1.1)]?) fun x3 =>
 Option.bind (idx v1.2.1 (subI .i64 v1.1 (1 : Int))) fun x4 =>
 Option.bind (v1.2.1[(Int.toNat (subI .i64 v1.1 (1 : Int)))]?) fun x5 =>
 bif (eq2 false x3.Counter x5.Counter x3.Value x5.Value) then
 bif slcOk v1.1 ((List.length v1.2.1) : Int) (List.length v1.2.1) then
 loopO (fun (v6 : Int × Int × (List TBallot) × Unit) =>
 bif (decide (v6.2.1 < ((List.length ((v6.2.2.1.drop (Int.toNat v1.1)).take (Int.toNat ((List.length v1.2.1) : Int) - Int.toNat v1.1)) : Nat) : Int))) then
 letJ (fun (v7 : Int × (List TBallot) × Unit) =>
 some (Sum.inl (v7.1, (addI .i64 v6.2.1 (1 : Int)), v7.2.1, ()))) fun j8 =>
 Option.bind (idx ((v6.2.2.1.drop (Int.toNat v1.1)).take (Int.toNat ((List.length v1.2.1) : Int) - Int.toNat v1.1)) v6.2.1) fun x9 =>
 Option.bind (v6.2.2.1[((Int.toNat v1.1) + Int.toNat v6.2.1)]?) fun x10 =>
 Option.bind (idx ((v6.2.2.1.drop (Int.toNat v1.1)).take (Int.toNat ((List.length v1.2.1) : Int) - Int.toNat v1.1)) (subI .i64 v6.2.1 (1 : Int))) fun x11 =>
 Option.bind (v6.2.2.1[((Int.toNat v1.1) + Int.toNat (subI .i64 v6.2.1 (1 : Int)))]?) fun x12 =>
 bif (eq2 true x10.Counter x12.Counter x10.Value x12.Value) then
 Option.bind (idx ((v6.2.2.1.drop (Int.toNat v1.1)).take (Int.toNat ((List.length v1.2.1) : Int) - Int.toNat v1.1)) v6.2.1) fun x13 =>
 Option.bind (v6.2.2.1[((Int.toNat v1.1) + Int.toNat v6.2.1)]?) fun x14 =>
 Option.bind (idx v6.2.2.1 v6.1) fun x15 =>
 Option.bind (v6.2.2.1[(Int.toNat v6.1)]?) fun x16 =>
 j8 ((addI .i64 v6.1 (1 : Int)), (v6.2.2.1.set (Int.toNat v6.1) x14), ())
 else
 j8 (v6.1, v6.2.2.1, ())
 else
 Option.map Sum.inr (bif slcOk v6.1 ((List.length v6.2.2.1) : Int) (List.length v6.2.2.1) then
 bif slcOk (0 : Int) v6.1 (List.length (v6.2.2.1.take (Int.toNat v6.1) ++ List.replicate (Int.toNat ((List.length v6.2.2.1) : Int) - Int.toNat v6.1) (TBallot.mk (0 : Int) (ByteArray.mk #[])) ++ v6.2.2.1.drop ((Int.toNat v6.1) + (Int.toNat ((List.length v6.2.2.1) : Int) - Int.toNat v6.1)))) then
 Option.map Sum.inr (some ((v6.2.2.1.take (Int.toNat v6.1) ++ List.replicate (Int.toNat ((List.length v6.2.2.1) : Int) - Int.toNat v6.1) (TBallot.mk (0 : Int) (ByteArray.mk #[])) ++ v6.2.2.1.drop ((Int.toNat v6.1) + (Int.toNat ((List.length v6.2.2.1) : Int) - Int.toNat v6.1))).take (Int.toNat v6.1 - Int.toNat (0 : Int))))
 else none
 else none)) (v1.1, (1 : Int), v1.2.1, ())
 else none
 else
 some (Sum.inl ((addI .i64 v1.1 (1 : Int)), v1.2.1, ()))
 else
 Option.map Sum.inr (some v1.2.1)) ((1 : Int), s, ())
noncomputable def k_slices_Compact_api_Ballot_api_Ballot : KFun U := .cw 145 32 2 (Ty.st .Ballot) [] fun s a => F_slices_Compact_api_Ballot_api_Ballot s 
theorem e_slices_Compact_api_Ballot_api_Ballot : cwK K [] sa_slices_Compact_api_Ballot_api_Ballot [.tmp 2] 32 2 (Ty.st .Ballot) [] = fun s a => F_slices_Compact_api_Ballot_api_Ballot s  := by kernel_rfl
theorem s_slices_Compact_api_Ballot_api_Ballot : KFun.Sound (U := U) Tryz.prog k_slices_Compact_api_Ballot_api_Ballot := cwK_sound (K := K) (Γ := []) ok_slices_Compact_api_Ballot_api_Ballot (by kernel_rfl) (by decide) trivial (fun s a => congrFun (congrFun e_slices_Compact_api_Ballot_api_Ballot s) a)

/-! ### trustquorum/envelopes.unique[trustquorum/api.Ballot] -/
def sa_envelopes_unique_api_Ballot_c86 : SA U :=
 (.seq
 (.reg
 (op 4 (.mov (.cst (.nils)))
 .nil))
 (.seq
 (.reg
 (op 5 (.mov (tm 0))
 (op 6 (.mov (tm 1))
 (op 7 (.call 144 [(tm 5), (tm 6)])
 .nil))))
 (.seq
 (.reg
 (op 8 (.mov (tm 0))
 (op 9 (.call 145 [(tm 8)])
 (op 4 (.mov (tm 9))
 .nil))))
 .ret)))
theorem ok_envelopes_unique_api_Ballot_c86 : FnOk Tryz.prog 83 10 (SA.erase sa_envelopes_unique_api_Ballot_c86) [.tmp 4] := ⟨Tryz.f83, [], Tryz.func83, rfl, by kernel_rfl, by kernel_rfl, by kernel_rfl⟩
noncomputable def F_envelopes_unique_api_Ballot_c86 (s : List TBallot)  : Option (List TBallot) :=
 Option.bind (F_slices_SortFunc_api_Ballot_api_Ballot_c86 s) fun p1 =>
 Option.bind (F_slices_Compact_api_Ballot_api_Ballot p1.2) fun r2 =>
 some r2
noncomputable def k_envelopes_unique_api_Ballot_c86 : KFun U := .cw 83 32 2 (Ty.st .Ballot) [.clo 86 []] fun s a => F_envelopes_unique_api_Ballot_c86 s 
theorem e_envelopes_unique_api_Ballot_c86 : cwK K [k_slices_SortFunc_api_Ballot_api_Ballot_c86, k_slices_Compact_api_Ballot_api_Ballot] sa_envelopes_unique_api_Ballot_c86 [.tmp 4] 32 2 (Ty.st .Ballot) [.clo 86 []] = fun s a => F_envelopes_unique_api_Ballot_c86 s  := by kernel_rfl
theorem s_envelopes_unique_api_Ballot_c86 : KFun.Sound (U := U) Tryz.prog k_envelopes_unique_api_Ballot_c86 := cwK_sound (K := K) (Γ := [k_slices_SortFunc_api_Ballot_api_Ballot_c86, k_slices_Compact_api_Ballot_api_Ballot]) ok_envelopes_unique_api_Ballot_c86 (by kernel_rfl) (by decide) ⟨s_slices_SortFunc_api_Ballot_api_Ballot_c86, s_slices_Compact_api_Ballot_api_Ballot, trivial⟩ (fun s a => congrFun (congrFun e_envelopes_unique_api_Ballot_c86 s) a)

/-! ### trustquorum/envelopes.Ballots -/
def sa_envelopes_Ballots : SA U :=
 (.seq
 (.reg
 (op 2 (.mov (.cst (.nils)))
 .nil))
 (.seq
 (.reg
 (op 3 (.mov (.cst (.nils)))
 .nil))
 (.seq
 (.seq
 (.reg
 (op 6 (.mov (tm 0))
 (op 7 (.len false (tm 6))
 (op 8 (.mov (ci 0))
 .nil))))
 (.block 0
 (.ps (.own 3 32 2 (Ty.st .Ballot))
 (.loop ⟨[.val 8 (Ty.i .i64), .own 3 5 1 32 2 (Ty.st .Ballot)], [6, 7]⟩
 (.seq
 (.reg
 (op 9 (.bin .lss (tm 8) (tm 7))
 .nil))
 (.seq
 (.cond (tm 9)
 .skip
 (.exit 0))
 (.join ⟨[.own 3 5 1 32 2 (Ty.st .Ballot)], [6, 7, 8]⟩
 (.block 1
 (.seq
 (.reg
 (op 10 (.iaddr 15 (tm 6) (tm 8))
 (op 11 (.load (some 15) (tm 10))
 (op 5 (.alloc [.int .i64 0, .int .i64 0, .int .i64 0, .int .i64 0, .nils, .nils, .int .i64 0, .int .i64 0, .str ⟨#[]⟩, .int .i64 0, .str ⟨#[]⟩, .int .i64 0, .str ⟨#[]⟩, .int .i64 0, .int .i64 0])
 (ops (.store 15 (tm 5) (tm 11))
 .nil)))))
 (.seq
 (.seq
 (.reg
 (op 12 (.load (some 15) (tm 5))
 (op 13 (.call 75 [(tm 12)])
 (op 14 (.not (tm 13))
 .nil))))
 (.cond (tm 14)
 (.exit 1)
 .skip))
 (.seq
 (.reg
 (op 15 (.faddr 6 (tm 5))
 (op 16 (.load none (tm 15))
 .nil)))
 (.block 2
 (.seq
 (.reg
 (op 23 (.bin .eql (tm 16) (ci 1))
 (op 22 (.mov (tm 23))
 .nil)))
 (.cond (tm 22)
 (.reg
 (op 24 (.mov (tm 3))
 (op 25 (.faddr 7 (tm 5))
 (op 26 (.load (some 2) (tm 25))
 (op 27 (.faddr 9 (tm 5))
 (op 28 (.load (some 2) (tm 27))
 (op 29 (.faddr 11 (tm 5))
 (op 30 (.load (some 2) (tm 29))
 (op 31 (.bsl false 32 2 (List.replicate 3 [.int .i64 0, .str ⟨#[]⟩]) [(0, (tm 26)), (1, (tm 28)), (2, (tm 30))])
 (op 32 (.app 32 2 24 (tm 24) (tm 31))
 (op 3 (.mov (tm 32))
 .nil)))))))))))
 (.seq
 (.reg
 (op 34 (.bin .eql (tm 16) (ci 2))
 (op 33 (.mov (tm 34))
 .nil)))
 (.cond (tm 33)
 (.drw [(1, 3), (2, 3), (1, 4), (2, 4)]
 (op 35 (.mov (tm 3))
 (op 36 (.faddr 9 (tm 5))
 (op 37 (.load (some 2) (tm 36))
 (op 38 (.load (some 15) (tm 5))
 (op 39 (.call 82 [(tm 38), (ci 1000000)])
 (op 40 (.bsl false 32 2 (List.replicate 2 [.int .i64 0, .str ⟨#[]⟩]) [(0, (tm 37)), (1, (tm 39))])
 (op 41 (.app 32 2 24 (tm 35) (tm 40))
 (op 3 (.mov (tm 41))
 .nil)))))))))
 (.reg
 (op 17 (.mov (tm 3))
 (op 18 (.load (some 15) (tm 5))
 (op 19 (.call 82 [(tm 18), (ci 1000000)])
 (op 20 (.bsl false 32 2 (List.replicate 1 [.int .i64 0, .str ⟨#[]⟩]) [(0, (tm 19))])
 (op 21 (.app 32 2 24 (tm 17) (tm 20))
 (op 3 (.mov (tm 21))
 .nil))))))))))))))))
 (.reg
 (op 42 (.bin .add (tm 8) (ci 1))
 (op 8 (.mov (tm 42))
 .nil))))))))))
 (.seq
 (.reg
 (op 43 (.mov (tm 3))
 (op 44 (.call 84 [(tm 43), (.cst (.clo 85 []))])
 (op 45 (.call 83 [(tm 44), (.cst (.clo 86 []))])
 (op 2 (.mov (tm 45))
 .nil)))))
 .ret))))
theorem ok_envelopes_Ballots : FnOk Tryz.prog 13 46 (SA.erase sa_envelopes_Ballots) [.tmp 2] := ⟨Tryz.f13, [], Tryz.func13, rfl, by kernel_rfl, by kernel_rfl, by kernel_rfl⟩
noncomputable def F_envelopes_Ballots (a0 : (List TEnvelope)) : Option (List TBallot) :=
 loopO (fun (v1 : Int × (List TBallot) × Unit) =>
 bif (decide (v1.1 < ((List.length a0 : Nat) : Int))) then
 letJ (fun (v2 : (List TBallot) × Unit) =>
 some (Sum.inl ((addI .i64 v1.1 (1 : Int)), v2.1, ()))) fun j3 =>
 Option.bind (idx a0 v1.1) fun x4 =>
 Option.bind (F_envelopes_Valid (TEnvelope.mk x4.Node x4.Slot x4.Seq (TTrust.mk x4.Trust.Threshold x4.Trust.Nodes x4.Trust.Inner) x4.Kind x4.Ballot x4.Prepared x4.Prime x4.Low x4.High)) fun r5 =>
 bif (!r5) then
 j3 (v1.2.1, ())
 else
 bif (decide (x4.Kind = (1 : Int))) then
 bif lenOk 24 (List.length v1.2.1 + List.length [x4.Ballot, x4.Prepared, x4.Prime]) then
 j3 ((v1.2.1 ++ [x4.Ballot, x4.Prepared, x4.Prime]), ())
 else none
 else
 bif (decide (x4.Kind = (2 : Int))) then
 Option.bind (F_envelopes_at (TEnvelope.mk x4.Node x4.Slot x4.Seq (TTrust.mk x4.Trust.Threshold x4.Trust.Nodes x4.Trust.Inner) x4.Kind x4.Ballot x4.Prepared x4.Prime x4.Low x4.High) (1000000 : Int)) fun r6 =>
 bif lenOk 24 (List.length v1.2.1 + List.length [x4.Prepared, r6]) then
 j3 ((v1.2.1 ++ [x4.Prepared, r6]), ())
 else none
 else
 Option.bind (F_envelopes_at (TEnvelope.mk x4.Node x4.Slot x4.Seq (TTrust.mk x4.Trust.Threshold x4.Trust.Nodes x4.Trust.Inner) x4.Kind x4.Ballot x4.Prepared x4.Prime x4.Low x4.High) (1000000 : Int)) fun r7 =>
 bif lenOk 24 (List.length v1.2.1 + List.length [r7]) then
 j3 ((v1.2.1 ++ [r7]), ())
 else none
 else
 Option.map Sum.inr (Option.bind (F_slices_DeleteFunc_api_Ballot_api_Ballot_c85 v1.2.1) fun r8 =>
 Option.bind (F_envelopes_unique_api_Ballot_c86 r8) fun r9 =>
 some r9)) ((0 : Int), ([] : List TBallot), ())
noncomputable def k_envelopes_Ballots : KFun U := .fn 13 [.ty (Ty.sl (Ty.st .Envelope))] (.one (Ty.sl (Ty.st .Ballot))) fun a => F_envelopes_Ballots a.1
theorem e_envelopes_Ballots : fnK K [k_envelopes_Valid, k_envelopes_at, k_slices_DeleteFunc_api_Ballot_api_Ballot_c85, k_envelopes_unique_api_Ballot_c86] sa_envelopes_Ballots [.tmp 2] [.ty (Ty.sl (Ty.st .Envelope))] (.one (Ty.sl (Ty.st .Ballot))) = fun a => F_envelopes_Ballots a.1 := by kernel_rfl
theorem s_envelopes_Ballots : KFun.Sound (U := U) Tryz.prog k_envelopes_Ballots := fnK_sound (K := K) (Γ := [k_envelopes_Valid, k_envelopes_at, k_slices_DeleteFunc_api_Ballot_api_Ballot_c85, k_envelopes_unique_api_Ballot_c86]) ok_envelopes_Ballots (by kernel_rfl) (by decide) ⟨s_envelopes_Valid, s_envelopes_at, s_slices_DeleteFunc_api_Ballot_api_Ballot_c85, s_envelopes_unique_api_Ballot_c86, trivial⟩ (fun a => congrFun e_envelopes_Ballots a)

/-! ### (trustquorum/envelopes.Right).VotesPrepare -/
def sa_envelopes_Right_VotesPrepare : SA U :=
 (.seq
 (.reg
 (op 2 (.box (tm 0))
 (op 3 (.box (tm 1))
 (op 4 (.mov (.cst (.bool false)))
 .nil))))
 (.seq
 (.block 0
 (.seq
 (.reg
 (op 6 (.load (some 2) (tm 3))
 (op 7 (.call 85 [(tm 6)])
 (op 5 (.mov (tm 7))
 .nil))))
 (.cond (tm 5)
 (.seq
 (.reg
 (op 4 (.mov (.cst (.bool false)))
 .nil))
 .ret)
 (.seq
 (.reg
 (op 9 (.faddr 0 (tm 2))
 (op 10 (.faddr 6 (tm 9))
 (op 11 (.load none (tm 10))
 (op 12 (.bin .eql (tm 11) (ci 1))
 (op 8 (.mov (tm 12))
 .nil))))))
 (.cond (tm 8)
 (.seq
 (.reg
 (op 13 (.faddr 0 (tm 2))
 (op 14 (.faddr 7 (tm 13))
 (op 15 (.load (some 2) (tm 14))
 (op 16 (.load (some 2) (tm 3))
 (op 17 (.call 151 [(tm 15), (tm 16)])
 (op 4 (.mov (tm 17))
 .nil)))))))
 .ret)
 .skip)))))
 (.seq
 (.reg
 (op 18 (.faddr 0 (tm 2))
 (op 19 (.faddr 7 (tm 18))
 (op 20 (.load (some 2) (tm 19))
 (op 21 (.load (some 2) (tm 3))
 (op 22 (.call 114 [(tm 20), (tm 21)])
 (op 4 (.mov (tm 22))
 .nil)))))))
 .ret)))
theorem ok_envelopes_Right_VotesPrepare : FnOk Tryz.prog 90 23 (SA.erase sa_envelopes_Right_VotesPrepare) [.tmp 4] := ⟨Tryz.f90, [], Tryz.func90, rfl, by kernel_rfl, by kernel_rfl, by kernel_rfl⟩
noncomputable def F_envelopes_Right_VotesPrepare (a0 : TRight) (a1 : TBallot) : Option Bool :=
 Option.bind (F_ballots_Zero a1) fun r1 =>
 bif r1 then
 some false
 else
 bif (decide (a0.Envelope.Kind = (1 : Int))) then
 Option.bind (F_ballots_Covers a0.Envelope.Ballot a1) fun r2 =>
 some r2
 else
 Option.bind (F_ballots_Compatible a0.Envelope.Ballot a1) fun r3 =>
 some r3
noncomputable def k_envelopes_Right_VotesPrepare : KFun U := .fn 90 [.ty (Ty.st .Right), .ty (Ty.st .Ballot)] (.one Ty.bool) fun a => F_envelopes_Right_VotesPrepare a.1 a.2.1
theorem e_envelopes_Right_VotesPrepare : fnK K [k_ballots_Zero, k_ballots_Covers, k_ballots_Compatible] sa_envelopes_Right_VotesPrepare [.tmp 4] [.ty (Ty.st .Right), .ty (Ty.st .Ballot)] (.one Ty.bool) = fun a => F_envelopes_Right_VotesPrepare a.1 a.2.1 := by kernel_rfl
theorem s_envelopes_Right_VotesPrepare : KFun.Sound (U := U) Tryz.prog k_envelopes_Right_VotesPrepare := fnK_sound (K := K) (Γ := [k_ballots_Zero, k_ballots_Covers, k_ballots_Compatible]) ok_envelopes_Right_VotesPrepare (by kernel_rfl) (by decide) ⟨s_ballots_Zero, s_ballots_Covers, s_ballots_Compatible, trivial⟩ (fun a => congrFun e_envelopes_Right_VotesPrepare a)

/-! ### (trustquorum/envelopes.Right).AcceptsPrepare -/
def sa_envelopes_Right_AcceptsPrepare : SA U :=
 (.seq
 (.reg
 (op 2 (.box (tm 0))
 (op 3 (.box (tm 1))
 (op 4 (.mov (.cst (.bool false)))
 .nil))))
 (.seq
 (.block 0
 (.seq
 (.reg
 (op 6 (.load (some 2) (tm 3))
 (op 7 (.call 85 [(tm 6)])
 (op 5 (.mov (tm 7))
 .nil))))
 (.cond (tm 5)
 (.seq
 (.reg
 (op 4 (.mov (.cst (.bool false)))
 .nil))
 .ret)
 (.seq
 (.reg
 (op 9 (.faddr 0 (tm 2))
 (op 10 (.faddr 6 (tm 9))
 (op 11 (.load none (tm 10))
 (op 12 (.bin .eql (tm 11) (ci 1))
 (op 8 (.mov (tm 12))
 .nil))))))
 (.cond (tm 8)
 (.seq
 (.reg
 (op 13 (.faddr 0 (tm 2))
 (op 14 (.faddr 9 (tm 13))
 (op 15 (.load (some 2) (tm 14))
 (op 16 (.faddr 0 (tm 2))
 (op 17 (.faddr 11 (tm 16))
 (op 18 (.load (some 2) (tm 17))
 (op 19 (.load (some 2) (tm 3))
 (op 20 (.call 110 [(tm 15), (tm 18), (tm 19)])
 (op 4 (.mov (tm 20))
 .nil))))))))))
 .ret)
 (.seq
 (.reg
 (op 22 (.faddr 0 (tm 2))
 (op 23 (.faddr 6 (tm 22))
 (op 24 (.load none (tm 23))
 (op 25 (.bin .eql (tm 24) (ci 2))
 (op 21 (.mov (tm 25))
 .nil))))))
 (.cond (tm 21)
 (.seq
 (.reg
 (op 26 (.faddr 0 (tm 2))
 (op 27 (.faddr 9 (tm 26))
 (op 28 (.load (some 2) (tm 27))
 (op 29 (.load (some 2) (tm 3))
 (op 30 (.call 151 [(tm 28), (tm 29)])
 (op 4 (.mov (tm 30))
 .nil)))))))
 .ret)
 .skip)))))))
 (.seq
 (.reg
 (op 31 (.faddr 0 (tm 2))
 (op 32 (.faddr 7 (tm 31))
 (op 33 (.load (some 2) (tm 32))
 (op 34 (.load (some 2) (tm 3))
 (op 35 (.call 114 [(tm 33), (tm 34)])
 (op 4 (.mov (tm 35))
 .nil)))))))
 .ret)))
theorem ok_envelopes_Right_AcceptsPrepare : FnOk Tryz.prog 91 36 (SA.erase sa_envelopes_Right_AcceptsPrepare) [.tmp 4] := ⟨Tryz.f91, [], Tryz.func91, rfl, by kernel_rfl, by kernel_rfl, by kernel_rfl⟩
noncomputable def F_envelopes_Right_AcceptsPrepare (a0 : TRight) (a1 : TBallot) : Option Bool :=
 Option.bind (F_ballots_Zero a1) fun r1 =>
 bif r1 then
 some false
 else
 bif (decide (a0.Envelope.Kind = (1 : Int))) then
 Option.bind (F_ballots_Prepares a0.Envelope.Prepared a0.Envelope.Prime a1) fun r2 =>
 some r2
 else
 bif (decide (a0.Envelope.Kind = (2 : Int))) then
 Option.bind (F_ballots_Covers a0.Envelope.Prepared a1) fun r3 =>
 some r3
 else
 Option.bind (F_ballots_Compatible a0.Envelope.Ballot a1) fun r4 =>
 some r4
noncomputable def k_envelopes_Right_AcceptsPrepare : KFun U := .fn 91 [.ty (Ty.st .Right), .ty (Ty.st .Ballot)] (.one Ty.bool) fun a => F_envelopes_Right_AcceptsPrepare a.1 a.2.1
theorem e_envelopes_Right_AcceptsPrepare : fnK K [k_ballots_Zero, k_ballots_Prepares, k_ballots_Covers, k_ballots_Compatible] sa_envelopes_Right_AcceptsPrepare [.tmp 4] [.ty (Ty.st .Right), .ty (Ty.st .Ballot)] (.one Ty.bool) = fun a => F_envelopes_Right_AcceptsPrepare a.1 a.2.1 := by kernel_rfl
theorem s_envelopes_Right_AcceptsPrepare : KFun.Sound (U := U) Tryz.prog k_envelopes_Right_AcceptsPrepare := fnK_sound (K := K) (Γ := [k_ballots_Zero, k_ballots_Prepares, k_ballots_Covers, k_ballots_Compatible]) ok_envelopes_Right_AcceptsPrepare (by kernel_rfl) (by decide) ⟨s_ballots_Zero, s_ballots_Prepares, s_ballots_Covers, s_ballots_Compatible, trivial⟩ (fun a => congrFun e_envelopes_Right_AcceptsPrepare a)

/-! ### trustquorum/trustquorumplay.Flat -/
def sa_play_Flat : SA U :=
 (.seq
 (.reg
 (op 4 (.alloc [.int .i64 0, .nils, .nils])
 .nil))
 (.seq
 (.reg
 (op 7 (.mov (tm 1))
 (op 8 (.build [.int .i64 0, .nils, .nils] [(0, 1, (tm 7))])
 (op 5 (.alloc [.int .i64 0, .nils, .nils])
 (ops (.store 3 (tm 5) (tm 8))
 .nil)))))
 (.seq
 (.seq
 (.reg
 (op 6 (.mov (ci 0))
 .nil))
 (.block 0
 (.ps (.ownB 5 1 3 1 (Ty.i .i64))
 (.loop ⟨[.val 6 (Ty.i .i64), .box 3 1 (Ty.st .Trust) [(1, 6, 1)], .rowb 6 1 3 1 (Ty.i .i64)], [0, 4, 5]⟩
 (.seq
 (.seq
 (.reg
 (op 9 (.mov (tm 6))
 (op 10 (.mov (tm 0))
 (op 11 (.bin .lss (tm 9) (tm 10))
 .nil))))
 (.cond (tm 11)
 .skip
 (.exit 0)))
 (.seq
 (.block 1
 (.reg
 (op 14 (.faddr 1 (tm 5))
 (op 15 (.load none (tm 14))
 (op 16 (.mov (tm 6))
 (op 17 (.bsl false 3 1 (List.replicate 1 [.int .i64 0]) [(0, (tm 16))])
 (op 18 (.app 3 1 8 (tm 15) (tm 17))
 (op 19 (.faddr 1 (tm 5))
 (ops (.store 1 (tm 19) (tm 18))
 .nil)))))))))
 (.reg
 (op 12 (.mov (tm 6))
 (op 13 (.bin .add (tm 12) (ci 1))
 (op 6 (.mov (tm 13))
 .nil))))))))))
 (.seq
 (.reg
 (op 20 (.load (some 3) (tm 5))
 (ops (.store 3 (tm 4) (tm 20))
 .nil)))
 .ret))))
theorem ok_play_Flat : FnOk Tryz.prog 30 21 (SA.erase sa_play_Flat) [.cell 4 (some 3)] := ⟨Tryz.f30, [], Tryz.func30, rfl, by kernel_rfl, by kernel_rfl, by kernel_rfl⟩
noncomputable def F_play_Flat (a0 : Int) (a1 : Int) : Option TTrust :=
 loopO (fun (v1 : Int × TTrust × (List Int) × Unit) =>
 bif (decide (v1.1 < a0)) then
 bif lenOk 8 (List.length v1.2.2.1 + List.length [v1.1]) then
 some (Sum.inl ((addI .i64 v1.1 (1 : Int)), (TTrust.mk v1.2.1.Threshold ([] : List Int) v1.2.1.Inner), (v1.2.2.1 ++ [v1.1]), ()))
 else none
 else
 Option.map Sum.inr (some (TTrust.mk v1.2.1.Threshold v1.2.2.1 v1.2.1.Inner))) ((0 : Int), (TTrust.mk a1 ([] : List Int) ([] : List TTrust)), ([] : List Int), ())
noncomputable def k_play_Flat : KFun U := .fn 30 [.ty (Ty.i .i64), .ty (Ty.i .i64)] (.one (Ty.st .Trust)) fun a => F_play_Flat a.1 a.2.1
theorem e_play_Flat : fnK K [] sa_play_Flat [.cell 4 (some 3)] [.ty (Ty.i .i64), .ty (Ty.i .i64)] (.one (Ty.st .Trust)) = fun a => F_play_Flat a.1 a.2.1 := by kernel_rfl
theorem s_play_Flat : KFun.Sound (U := U) Tryz.prog k_play_Flat := fnK_sound (K := K) (Γ := []) ok_play_Flat (by kernel_rfl) (by decide) trivial (fun a => congrFun e_play_Flat a)

/-! ### slices.Clone[[]int,int] -/
def sa_slices_Clone_int_int : SA U :=
 (.seq
 (.reg
 (op 2 (.mov (.cst (.nils)))
 .nil))
 (.seq
 (.seq
 (.reg
 (op 3 (.mov (tm 0))
 (op 4 (.isnil false (tm 3))
 .nil)))
 (.cond (tm 4)
 (.seq
 (.reg
 (op 2 (.mov (.cst (.nils)))
 .nil))
 .ret)
 .skip))
 (.seq
 (.reg
 (op 5 (.bsl true 3 1 (List.replicate 0 [.int .i64 0]) [])
 (op 6 (.mov (tm 0))
 (op 7 (.app 3 1 8 (tm 5) (tm 6))
 (op 2 (.mov (tm 7))
 .nil)))))
 .ret)))
theorem ok_slices_Clone_int_int : FnOk Tryz.prog 166 8 (SA.erase sa_slices_Clone_int_int) [.tmp 2] := ⟨Tryz.f166, [5], Tryz.func166, rfl, by kernel_rfl, by kernel_rfl, by kernel_rfl⟩
noncomputable def F_slices_Clone_int_int (a0 : (List Int)) : Option (List Int) :=
 bif List.isEmpty a0 then
 both (some ([] : List Int)) (bif lenOk 8 (List.length ([] : List Int) + List.length a0) then
 some (([] : List Int) ++ a0)
 else none)
 else
 bif lenOk 8 (List.length ([] : List Int) + List.length a0) then
 some (([] : List Int) ++ a0)
 else none
noncomputable def k_slices_Clone_int_int : KFun U := .fn 166 [.ty (Ty.sl (Ty.i .i64))] (.one (Ty.sl (Ty.i .i64))) fun a => F_slices_Clone_int_int a.1
theorem e_slices_Clone_int_int : fnK K [] sa_slices_Clone_int_int [.tmp 2] [.ty (Ty.sl (Ty.i .i64))] (.one (Ty.sl (Ty.i .i64))) = fun a => F_slices_Clone_int_int a.1 := by kernel_rfl
theorem s_slices_Clone_int_int : KFun.Sound (U := U) Tryz.prog k_slices_Clone_int_int := fnK_sound (K := K) (Γ := []) ok_slices_Clone_int_int (by kernel_rfl) (by decide) trivial (fun a => congrFun e_slices_Clone_int_int a)

/-! ### trustquorum/copies.Trust -/
def sa_copies_Trust : SA U :=
 (.seq
 (.reg
 (op 1 (.box (tm 0))
 (op 2 (.alloc [.int .i64 0, .nils, .nils])
 .nil)))
 (.seq
 (.drw [(0, 2), (1, 2), (0, 3), (1, 3), (0, 4), (1, 4), (0, 6), (1, 6), (2, 6), (3, 6), (4, 6)]
 (op 6 (.faddr 0 (tm 1))
 (op 7 (.load none (tm 6))
 (op 8 (.faddr 1 (tm 1))
 (op 9 (.load none (tm 8))
 (op 10 (.call 166 [(tm 9)])
 (op 11 (.build [.int .i64 0, .nils, .nils] [(0, 1, (tm 7)), (1, 1, (tm 10))])
 (op 3 (.alloc [.int .i64 0, .nils, .nils])
 (ops (.store 3 (tm 3) (tm 11))
 .nil)))))))))
 (.seq
 (.seq
 (.reg
 (op 12 (.faddr 2 (tm 1))
 (op 13 (.load none (tm 12))
 (op 14 (.len false (tm 13))
 (op 15 (.mov (ci 0))
 .nil)))))
 (.block 0
 (.ps (.ownB 3 2 36 3 (Ty.st .Trust))
 (.loop ⟨[.val 15 (Ty.i .i64), .box 8 1 (Ty.st .Trust) [(2, 14, 1)], .rowb 14 1 36 3 (Ty.st .Trust)], [2, 3, 13, 14]⟩
 (.seq
 (.reg
 (op 16 (.bin .lss (tm 15) (tm 14))
 .nil))
 (.seq
 (.cond (tm 16)
 .skip
 (.exit 0))
 (.seq
 (.block 1
 (.seq
 (.reg
 (op 17 (.iaddr 3 (tm 13) (tm 15))
 (op 18 (.load (some 3) (tm 17))
 (op 5 (.alloc [.int .i64 0, .nils, .nils])
 (ops (.store 3 (tm 5) (tm 18))
 .nil)))))
 (.drw [(0, 2), (1, 2), (0, 3), (1, 3), (0, 4), (1, 4)]
 (op 19 (.faddr 2 (tm 3))
 (op 20 (.load none (tm 19))
 (op 21 (.load (some 3) (tm 5))
 (op 22 (.call 116 [(tm 21)])
 (op 23 (.bsl false 36 3 (List.replicate 1 [.int .i64 0, .nils, .nils]) [(0, (tm 22))])
 (op 24 (.app 36 3 56 (tm 20) (tm 23))
 (op 25 (.faddr 2 (tm 3))
 (ops (.store 1 (tm 25) (tm 24))
 .nil)))))))))))
 (.reg
 (op 26 (.bin .add (tm 15) (ci 1))
 (op 15 (.mov (tm 26))
 .nil))))))))))
 (.seq
 (.reg
 (op 27 (.load (some 3) (tm 3))
 (ops (.store 3 (tm 2) (tm 27))
 .nil)))
 .ret))))
theorem ok_copies_Trust : FnOk Tryz.prog 116 28 (SA.erase sa_copies_Trust) [.cell 2 (some 3)] := ⟨Tryz.f116, [], Tryz.func116, rfl, by kernel_rfl, by kernel_rfl, by kernel_rfl⟩
noncomputable def B_copies_Trust (rec : (TTrust × Unit) → Option TTrust) (a0 : TTrust) : Option TTrust :=
 Option.bind (F_slices_Clone_int_int a0.Nodes) fun r1 =>
 loopO (fun (v2 : Int × TTrust × (List TTrust) × Unit) =>
 bif (decide (v2.1 < ((List.length a0.Inner : Nat) : Int))) then
 Option.bind (idx a0.Inner v2.1) fun x3 =>
 Option.bind (rec ((TTrust.mk x3.Threshold x3.Nodes x3.Inner), ())) fun r4 =>
 bif lenOk 56 (List.length v2.2.2.1 + List.length [(TTrust.mk r4.Threshold r4.Nodes r4.Inner)]) then
 some (Sum.inl ((addI .i64 v2.1 (1 : Int)), (TTrust.mk v2.2.1.Threshold v2.2.1.Nodes ([] : List TTrust)), (v2.2.2.1 ++ [(TTrust.mk r4.Threshold r4.Nodes r4.Inner)]), ()))
 else none
 else
 Option.map Sum.inr (some (TTrust.mk v2.2.1.Threshold v2.2.1.Nodes v2.2.2.1))) ((0 : Int), (TTrust.mk a0.Threshold r1 ([] : List TTrust)), ([] : List TTrust), ())
noncomputable def I_copies_Trust : Nat → (TTrust × Unit) → Option TTrust := iterF (fun rec a => B_copies_Trust rec a.1)
noncomputable def F_copies_Trust (a0 : TTrust) : Option TTrust := I_copies_Trust (SizeOf.sizeOf a0 + 1) (a0, ())
noncomputable def k_copies_Trust : KFun U := .fn 116 [.ty (Ty.st .Trust)] (.one (Ty.st .Trust)) fun a => F_copies_Trust a.1
theorem e_copies_Trust : (fun G => fnK K (.fn 116 [.ty (Ty.st .Trust)] (.one (Ty.st .Trust)) G :: [k_slices_Clone_int_int]) sa_copies_Trust [.cell 2 (some 3)] [.ty (Ty.st .Trust)] (.one (Ty.st .Trust))) = (fun G a => B_copies_Trust G a.1) := by kernel_rfl
theorem n_copies_Trust : ∀ n, KFun.Sound (U := U) Tryz.prog (.fn 116 [.ty (Ty.st .Trust)] (.one (Ty.st .Trust)) (I_copies_Trust n))
  | 0 => ⟨ok_copies_Trust.enters, fun a r h => by cases h⟩
  | n + 1 => fnK_sound (K := K) (r := .one (Ty.st .Trust)) (Γ := .fn 116 [.ty (Ty.st .Trust)] (.one (Ty.st .Trust)) (I_copies_Trust n) :: [k_slices_Clone_int_int]) (F := I_copies_Trust (n + 1)) ok_copies_Trust (by kernel_rfl) (by decide) ⟨n_copies_Trust n, s_slices_Clone_int_int, trivial⟩ (fun a => congrFun (congrFun e_copies_Trust (I_copies_Trust n)) a)
theorem s_copies_Trust : KFun.Sound (U := U) Tryz.prog k_copies_Trust := ⟨ok_copies_Trust.enters, fun a r h => (n_copies_Trust _).2 a r h⟩

/-! ### trustquorum/prepare.View -/
def sa_prepare_View : SA U :=
 (.seq
 (.reg
 (op 4 (.box (tm 1))
 (op 6 (.alloc [.nils])
 .nil)))
 (.seq
 (.reg
 (op 10 (.mks 126 4 64 [.bool false, .int .i64 0, .nils, .nils] (ci 10) (ci 10))
 (op 11 (.build [.nils] [(0, 1, (tm 10))])
 (op 7 (.alloc [.nils])
 (ops (.store 1 (tm 7) (tm 11))
 .nil)))))
 (.seq
 (.seq
 (.reg
 (op 12 (.mov (tm 0))
 (op 13 (.bin .lss (tm 12) (ci 0))
 (op 14 (.mov (tm 13))
 (.ite 14 false
 (opg 15 14 false (.mov (tm 0))
 (opg 16 14 false (.bin .geq (tm 15) (ci 10))
 .nil))
 17 none (.cst (.bool true)) (tm 16)
 .nil)))))
 (.cond (tm 17)
 (.seq
 (.reg
 (op 18 (.load (some 1) (tm 7))
 (ops (.store 1 (tm 6) (tm 18))
 .nil)))
 .ret)
 .skip))
 (.seq
 (.drw [(0, 3), (1, 3), (0, 4), (1, 4)]
 (op 19 (.faddr 0 (tm 7))
 (op 20 (.load none (tm 19))
 (op 21 (.mov (tm 0))
 (op 22 (.load (some 3) (tm 4))
 (op 23 (.call 116 [(tm 22)])
 (op 24 (.build [.bool false, .int .i64 0, .nils, .nils] [(0, 1, (.cst (.bool true))), (1, 3, (tm 23))])
 (op 25 (.iaddr 4 (tm 20) (tm 21))
 (ops (.store 4 (tm 25) (tm 24))
 .nil)))))))))
 (.seq
 (.seq
 (.reg
 (op 26 (.mov (tm 2))
 (op 27 (.len false (tm 26))
 (op 28 (.mov (ci 0))
 .nil))))
 (.block 0
 (.loop ⟨[.val 28 (Ty.i .i64), .box 4 1 (Ty.st .Config) [(0, 2, 1)], .rowb 2 1 126 4 (Ty.st .Member)], [6, 7, 26, 27]⟩
 (.seq
 (.reg
 (op 29 (.bin .lss (tm 28) (tm 27))
 .nil))
 (.seq
 (.cond (tm 29)
 .skip
 (.exit 0))
 (.join ⟨[.box 4 1 (Ty.st .Config) [(0, 2, 1)], .rowb 2 1 126 4 (Ty.st .Member)], [6, 7, 26, 27, 28]⟩
 (.block 1
 (.seq
 (.reg
 (op 30 (.iaddr 15 (tm 26) (tm 28))
 (op 31 (.load (some 15) (tm 30))
 (op 9 (.alloc [.int .i64 0, .int .i64 0, .int .i64 0, .int .i64 0, .nils, .nils, .int .i64 0, .int .i64 0, .str ⟨#[]⟩, .int .i64 0, .str ⟨#[]⟩, .int .i64 0, .str ⟨#[]⟩, .int .i64 0, .int .i64 0])
 (ops (.store 15 (tm 9) (tm 31))
 .nil)))))
 (.seq
 (.reg
 (op 32 (.load (some 15) (tm 9))
 (op 33 (.call 75 [(tm 32)])
 (op 34 (.mov (tm 33))
 (.ite 34 true
 (opg 35 34 true (.faddr 0 (tm 7))
 (opg 36 34 true (.load none (tm 35))
 (opg 37 34 true (.faddr 0 (tm 9))
 (opg 38 34 true (.load none (tm 37))
 (opg 39 34 true (.iaddr 4 (tm 36) (tm 38))
 (opg 40 34 true (.faddr 0 (tm 39))
 (opg 41 34 true (.load none (tm 40))
 (opg 42 34 true (.not (tm 41))
 .nil))))))))
 43 none (tm 42) (.cst (.bool false))
 .nil)))))
 (.cond (tm 43)
 (.drw [(0, 2), (1, 2), (0, 3), (1, 3), (0, 4), (1, 4), (2, 4), (3, 4), (0, 5), (1, 5), (2, 5), (3, 5), (0, 6), (1, 6), (2, 6), (3, 6)]
 (op 44 (.faddr 0 (tm 7))
 (op 45 (.load none (tm 44))
 (op 46 (.faddr 0 (tm 9))
 (op 47 (.load none (tm 46))
 (op 48 (.faddr 3 (tm 9))
 (op 49 (.load (some 3) (tm 48))
 (op 50 (.call 116 [(tm 49)])
 (op 51 (.build [.bool false, .int .i64 0, .nils, .nils] [(0, 1, (.cst (.bool true))), (1, 3, (tm 50))])
 (op 52 (.iaddr 4 (tm 45) (tm 47))
 (ops (.store 4 (tm 52) (tm 51))
 .nil)))))))))))
 .skip))))
 (.reg
 (op 53 (.bin .add (tm 28) (ci 1))
 (op 28 (.mov (tm 53))
 .nil)))))))))
 (.seq
 (.reg
 (op 54 (.load (some 1) (tm 7))
 (ops (.store 1 (tm 6) (tm 54))
 .nil)))
 .ret))))))
theorem ok_prepare_View : FnOk Tryz.prog 47 55 (SA.erase sa_prepare_View) [.cell 6 (some 1)] := ⟨Tryz.f47, [], Tryz.func47, rfl, by kernel_rfl, by kernel_rfl, by kernel_rfl⟩
noncomputable def F_prepare_View (a0 : Int) (a1 : TTrust) (a2 : (List TEnvelope)) : Option TConfig :=
 bif decide ((10 : Int) = (10 : Int)) && decide (0 ≤ (10 : Int)) && lenOk 64 (Int.toNat (10 : Int)) then
 Option.bind (bif (decide (a0 < (0 : Int))) then some true
 else
 some (decide ((10 : Int) ≤ a0))) fun b1 =>
 bif b1 then
 some (TConfig.mk (List.replicate (Int.toNat (10 : Int)) (TMember.mk false (TTrust.mk (0 : Int) ([] : List Int) ([] : List TTrust)))))
 else
 Option.bind (F_copies_Trust (TTrust.mk a1.Threshold a1.Nodes a1.Inner)) fun r2 =>
 Option.bind (idx (List.replicate (Int.toNat (10 : Int)) (TMember.mk false (TTrust.mk (0 : Int) ([] : List Int) ([] : List TTrust)))) a0) fun x3 =>
 Option.bind ((List.replicate (Int.toNat (10 : Int)) (TMember.mk false (TTrust.mk (0 : Int) ([] : List Int) ([] : List TTrust))))[(Int.toNat a0)]?) fun x4 =>
 loopO (fun (v5 : Int × TConfig × (List TMember) × Unit) =>
 bif (decide (v5.1 < ((List.length a2 : Nat) : Int))) then
 letJ (fun (v6 : TConfig × (List TMember) × Unit) =>
 some (Sum.inl ((addI .i64 v5.1 (1 : Int)), (TConfig.mk ([] : List TMember)), v6.2.1, ()))) fun j7 =>
 Option.bind (idx a2 v5.1) fun x8 =>
 Option.bind (F_envelopes_Valid (TEnvelope.mk x8.Node x8.Slot x8.Seq (TTrust.mk x8.Trust.Threshold x8.Trust.Nodes x8.Trust.Inner) x8.Kind x8.Ballot x8.Prepared x8.Prime x8.Low x8.High)) fun r9 =>
 Option.bind (bif r9 then
 Option.bind (idx v5.2.2.1 x8.Node) fun x10 =>
 Option.bind (v5.2.2.1[(Int.toNat x8.Node)]?) fun x11 =>
 Option.bind (v5.2.2.1[(Int.toNat x8.Node)]?) fun x12 =>
 some (!x12.Declared)
 else some false) fun b13 =>
 bif b13 then
 Option.bind (F_copies_Trust (TTrust.mk x8.Trust.Threshold x8.Trust.Nodes x8.Trust.Inner)) fun r14 =>
 Option.bind (idx v5.2.2.1 x8.Node) fun x15 =>
 Option.bind (v5.2.2.1[(Int.toNat x8.Node)]?) fun x16 =>
 j7 ((TConfig.mk ([] : List TMember)), (v5.2.2.1.set (Int.toNat x8.Node) (TMember.mk true (TTrust.mk r14.Threshold r14.Nodes r14.Inner))), ())
 else
 j7 ((TConfig.mk ([] : List TMember)), v5.2.2.1, ())
 else
 Option.map Sum.inr (some (TConfig.mk v5.2.2.1))) ((0 : Int), (TConfig.mk ([] : List TMember)), ((List.replicate (Int.toNat (10 : Int)) (TMember.mk false (TTrust.mk (0 : Int) ([] : List Int) ([] : List TTrust)))).set (Int.toNat a0) (TMember.mk true (TTrust.mk r2.Threshold r2.Nodes r2.Inner))), ())
 else none
noncomputable def k_prepare_View : KFun U := .fn 47 [.ty (Ty.i .i64), .ty (Ty.st .Trust), .ty (Ty.sl (Ty.st .Envelope))] (.one (Ty.st .Config)) fun a => F_prepare_View a.1 a.2.1 a.2.2.1
theorem e_prepare_View : fnK K [k_copies_Trust, k_envelopes_Valid] sa_prepare_View [.cell 6 (some 1)] [.ty (Ty.i .i64), .ty (Ty.st .Trust), .ty (Ty.sl (Ty.st .Envelope))] (.one (Ty.st .Config)) = fun a => F_prepare_View a.1 a.2.1 a.2.2.1 := by kernel_rfl
theorem s_prepare_View : KFun.Sound (U := U) Tryz.prog k_prepare_View := fnK_sound (K := K) (Γ := [k_copies_Trust, k_envelopes_Valid]) ok_prepare_View (by kernel_rfl) (by decide) ⟨s_copies_Trust, s_envelopes_Valid, trivial⟩ (fun a => congrFun e_prepare_View a)

/-! ### trustquorum/envelopes.Rights -/
def sa_envelopes_Rights : SA U :=
 (.seq
 (.reg
 (op 2 (.mov (.cst (.nils)))
 .nil))
 (.seq
 (.reg
 (op 3 (.mov (.cst (.nils)))
 .nil))
 (.seq
 (.seq
 (.reg
 (op 6 (.mov (tm 0))
 (op 7 (.len false (tm 6))
 (op 8 (.mov (ci 0))
 .nil))))
 (.block 0
 (.ps (.own 3 106 15 (Ty.st .Right))
 (.loop ⟨[.val 8 (Ty.i .i64), .own 3 5 1 106 15 (Ty.st .Right)], [6, 7]⟩
 (.seq
 (.reg
 (op 9 (.bin .lss (tm 8) (tm 7))
 .nil))
 (.seq
 (.cond (tm 9)
 .skip
 (.exit 0))
 (.join ⟨[.own 3 5 1 106 15 (Ty.st .Right)], [6, 7, 8]⟩
 (.block 1
 (.seq
 (.reg
 (op 10 (.iaddr 15 (tm 6) (tm 8))
 (op 11 (.load (some 15) (tm 10))
 (op 5 (.alloc [.int .i64 0, .int .i64 0, .int .i64 0, .int .i64 0, .nils, .nils, .int .i64 0, .int .i64 0, .str ⟨#[]⟩, .int .i64 0, .str ⟨#[]⟩, .int .i64 0, .str ⟨#[]⟩, .int .i64 0, .int .i64 0])
 (ops (.store 15 (tm 5) (tm 11))
 .nil)))))
 (.seq
 (.reg
 (op 12 (.load (some 15) (tm 5))
 (op 13 (.call 75 [(tm 12)])
 .nil)))
 (.cond (tm 13)
 (.reg
 (op 14 (.mov (tm 3))
 (op 15 (.load (some 15) (tm 5))
 (op 16 (.build [.int .i64 0, .int .i64 0, .int .i64 0, .int .i64 0, .nils, .nils, .int .i64 0, .int .i64 0, .str ⟨#[]⟩, .int .i64 0, .str ⟨#[]⟩, .int .i64 0, .str ⟨#[]⟩, .int .i64 0, .int .i64 0] [(0, 15, (tm 15))])
 (op 17 (.bsl false 106 15 (List.replicate 1 [.int .i64 0, .int .i64 0, .int .i64 0, .int .i64 0, .nils, .nils, .int .i64 0, .int .i64 0, .str ⟨#[]⟩, .int .i64 0, .str ⟨#[]⟩, .int .i64 0, .str ⟨#[]⟩, .int .i64 0, .int .i64 0]) [(0, (tm 16))])
 (op 18 (.app 106 15 176 (tm 14) (tm 17))
 (op 3 (.mov (tm 18))
 .nil)))))))
 .skip))))
 (.reg
 (op 19 (.bin .add (tm 8) (ci 1))
 (op 8 (.mov (tm 19))
 .nil))))))))))
 (.seq
 (.reg
 (op 20 (.mov (tm 3))
 (op 2 (.mov (tm 20))
 .nil)))
 .ret))))
theorem ok_envelopes_Rights : FnOk Tryz.prog 159 21 (SA.erase sa_envelopes_Rights) [.tmp 2] := ⟨Tryz.f159, [], Tryz.func159, rfl, by kernel_rfl, by kernel_rfl, by kernel_rfl⟩
noncomputable def F_envelopes_Rights (a0 : (List TEnvelope)) : Option (List TRight) :=
 loopO (fun (v1 : Int × (List TRight) × Unit) =>
 bif (decide (v1.1 < ((List.length a0 : Nat) : Int))) then
 letJ (fun (v2 : (List TRight) × Unit) =>
 some (Sum.inl ((addI .i64 v1.1 (1 : Int)), v2.1, ()))) fun j3 =>
 Option.bind (idx a0 v1.1) fun x4 =>
 Option.bind (F_envelopes_Valid (TEnvelope.mk x4.Node x4.Slot x4.Seq (TTrust.mk x4.Trust.Threshold x4.Trust.Nodes x4.Trust.Inner) x4.Kind x4.Ballot x4.Prepared x4.Prime x4.Low x4.High)) fun r5 =>
 bif r5 then
 bif lenOk 176 (List.length v1.2.1 + List.length [(TRight.mk (TEnvelope.mk x4.Node x4.Slot x4.Seq (TTrust.mk x4.Trust.Threshold x4.Trust.Nodes x4.Trust.Inner) x4.Kind x4.Ballot x4.Prepared x4.Prime x4.Low x4.High))]) then
 j3 ((v1.2.1 ++ [(TRight.mk (TEnvelope.mk x4.Node x4.Slot x4.Seq (TTrust.mk x4.Trust.Threshold x4.Trust.Nodes x4.Trust.Inner) x4.Kind x4.Ballot x4.Prepared x4.Prime x4.Low x4.High))]), ())
 else none
 else
 j3 (v1.2.1, ())
 else
 Option.map Sum.inr (some v1.2.1)) ((0 : Int), ([] : List TRight), ())
noncomputable def k_envelopes_Rights : KFun U := .fn 159 [.ty (Ty.sl (Ty.st .Envelope))] (.one (Ty.sl (Ty.st .Right))) fun a => F_envelopes_Rights a.1
theorem e_envelopes_Rights : fnK K [k_envelopes_Valid] sa_envelopes_Rights [.tmp 2] [.ty (Ty.sl (Ty.st .Envelope))] (.one (Ty.sl (Ty.st .Right))) = fun a => F_envelopes_Rights a.1 := by kernel_rfl
theorem s_envelopes_Rights : KFun.Sound (U := U) Tryz.prog k_envelopes_Rights := fnK_sound (K := K) (Γ := [k_envelopes_Valid]) ok_envelopes_Rights (by kernel_rfl) (by decide) ⟨s_envelopes_Valid, trivial⟩ (fun a => congrFun e_envelopes_Rights a)

/-! ### trustquorum/prepare.Look -/
def sa_prepare_Look : SA U :=
 (.seq
 (.reg
 (op 4 (.box (tm 1))
 (op 6 (.alloc [.int .i64 0, .nils, .nils])
 .nil)))
 (.seq
 (.reg
 (op 7 (.mov (tm 0))
 (op 8 (.mov (tm 0))
 (op 9 (.load (some 3) (tm 4))
 (op 10 (.mov (tm 2))
 (op 11 (.call 47 [(tm 8), (tm 9), (tm 10)])
 (op 12 (.mov (tm 2))
 (op 13 (.call 159 [(tm 12)])
 (op 14 (.build [.int .i64 0, .nils, .nils] [(0, 1, (tm 7)), (1, 1, (tm 11)), (2, 1, (tm 13))])
 (ops (.store 3 (tm 6) (tm 14))
 .nil))))))))))
 .ret))
theorem ok_prepare_Look : FnOk Tryz.prog 97 15 (SA.erase sa_prepare_Look) [.cell 6 (some 3)] := ⟨Tryz.f97, [], Tryz.func97, rfl, by kernel_rfl, by kernel_rfl, by kernel_rfl⟩
noncomputable def F_prepare_Look (a0 : Int) (a1 : TTrust) (a2 : (List TEnvelope)) : Option TSeen :=
 Option.bind (F_prepare_View a0 (TTrust.mk a1.Threshold a1.Nodes a1.Inner) a2) fun r1 =>
 Option.bind (F_envelopes_Rights a2) fun r2 =>
 some (TSeen.mk a0 r1 r2)
noncomputable def k_prepare_Look : KFun U := .fn 97 [.ty (Ty.i .i64), .ty (Ty.st .Trust), .ty (Ty.sl (Ty.st .Envelope))] (.one (Ty.st .Seen)) fun a => F_prepare_Look a.1 a.2.1 a.2.2.1
theorem e_prepare_Look : fnK K [k_prepare_View, k_envelopes_Rights] sa_prepare_Look [.cell 6 (some 3)] [.ty (Ty.i .i64), .ty (Ty.st .Trust), .ty (Ty.sl (Ty.st .Envelope))] (.one (Ty.st .Seen)) = fun a => F_prepare_Look a.1 a.2.1 a.2.2.1 := by kernel_rfl
theorem s_prepare_Look : KFun.Sound (U := U) Tryz.prog k_prepare_Look := fnK_sound (K := K) (Γ := [k_prepare_View, k_envelopes_Rights]) ok_prepare_Look (by kernel_rfl) (by decide) ⟨s_prepare_View, s_envelopes_Rights, trivial⟩ (fun a => congrFun e_prepare_Look a)

/-! ### trustquorum/configuration.Declared -/
def sa_configuration_Declared : SA U :=
 (.seq
 (.reg
 (op 1 (.box (tm 0))
 (op 2 (.mov (ci 0))
 .nil)))
 (.seq
 (.reg
 (op 3 (.mov (ci 0))
 .nil))
 (.seq
 (.seq
 (.reg
 (op 6 (.faddr 0 (tm 1))
 (op 7 (.load none (tm 6))
 (op 8 (.len false (tm 7))
 (op 9 (.mov (ci 0))
 .nil)))))
 (.block 0
 (.loop ⟨[.val 3 (Ty.i .i64), .val 9 (Ty.i .i64)], [7, 8]⟩
 (.seq
 (.reg
 (op 10 (.bin .lss (tm 9) (tm 8))
 .nil))
 (.seq
 (.cond (tm 10)
 .skip
 (.exit 0))
 (.join ⟨[.val 3 (Ty.i .i64)], [7, 8, 9]⟩
 (.block 1
 (.seq
 (.reg
 (op 11 (.mov (tm 9))
 (op 12 (.iaddr 4 (tm 7) (tm 9))
 (op 13 (.load (some 4) (tm 12))
 (op 5 (.alloc [.bool false, .int .i64 0, .nils, .nils])
 (op 4 (.mov (tm 11))
 (ops (.store 4 (tm 5) (tm 13))
 .nil)))))))
 (.seq
 (.reg
 (op 14 (.faddr 0 (tm 5))
 (op 15 (.load none (tm 14))
 (op 16 (.mov (tm 15))
 (.ite 16 true
 (opg 17 16 true (.mov (tm 4))
 (opg 18 16 true (.bin .lss (tm 17) (ci 10))
 .nil))
 19 none (tm 18) (.cst (.bool false))
 .nil)))))
 (.cond (tm 19)
 (.reg
 (op 20 (.mov (tm 3))
 (op 21 (.mov (tm 4))
 (op 22 (.bin .shl (ci 1) (tm 21))
 (op 23 (.bin .or (tm 20) (tm 22))
 (op 3 (.mov (tm 23))
 .nil))))))
 .skip))))
 (.reg
 (op 24 (.bin .add (tm 9) (ci 1))
 (op 9 (.mov (tm 24))
 .nil)))))))))
 (.seq
 (.reg
 (op 25 (.mov (tm 3))
 (op 2 (.mov (tm 25))
 .nil)))
 .ret))))
theorem ok_configuration_Declared : FnOk Tryz.prog 244 26 (SA.erase sa_configuration_Declared) [.tmp 2] := ⟨Tryz.f244, [], Tryz.func244, rfl, by kernel_rfl, by kernel_rfl, by kernel_rfl⟩
noncomputable def F_configuration_Declared (a0 : TConfig) : Option Int :=
 loopO (fun (v1 : Int × Int × Unit) =>
 bif (decide (v1.2.1 < ((List.length a0.Members : Nat) : Int))) then
 letJ (fun (v2 : Int × Unit) =>
 some (Sum.inl (v2.1, (addI .i64 v1.2.1 (1 : Int)), ()))) fun j3 =>
 Option.bind (idx a0.Members v1.2.1) fun x4 =>
 Option.bind (bif x4.Declared then
 some (decide (v1.2.1 < (10 : Int)))
 else some false) fun b5 =>
 bif b5 then
 if v1.2.1 < 0 then none else
 j3 ((orI .i64 v1.1 (shlI .i64 (1 : Int) v1.2.1)), ())
 else
 j3 (v1.1, ())
 else
 Option.map Sum.inr (some v1.1)) ((0 : Int), (0 : Int), ())
noncomputable def k_configuration_Declared : KFun U := .fn 244 [.ty (Ty.st .Config)] (.one (Ty.i .i64)) fun a => F_configuration_Declared a.1
theorem e_configuration_Declared : fnK K [] sa_configuration_Declared [.tmp 2] [.ty (Ty.st .Config)] (.one (Ty.i .i64)) = fun a => F_configuration_Declared a.1 := by kernel_rfl
theorem s_configuration_Declared : KFun.Sound (U := U) Tryz.prog k_configuration_Declared := fnK_sound (K := K) (Γ := []) ok_configuration_Declared (by kernel_rfl) (by decide) trivial (fun a => congrFun e_configuration_Declared a)

/-! ### trustquorum/threshold.Satisfied -/
def sa_threshold_Satisfied : SA U :=
 (.seq
 (.reg
 (op 2 (.box (tm 0))
 (op 4 (.mov (.cst (.bool false)))
 .nil)))
 (.seq
 (.seq
 (.reg
 (op 10 (.mov (tm 1))
 (op 11 (.call 226 [(tm 10)])
 (op 12 (.not (tm 11))
 .nil))))
 (.cond (tm 12)
 (.seq
 (.reg
 (op 4 (.mov (.cst (.bool false)))
 .nil))
 .ret)
 .skip))
 (.seq
 (.reg
 (op 5 (.mov (ci 0))
 .nil))
 (.seq
 (.seq
 (.reg
 (op 13 (.faddr 1 (tm 2))
 (op 14 (.load none (tm 13))
 (op 15 (.len false (tm 14))
 (op 16 (.mov (ci 0))
 .nil)))))
 (.block 0
 (.loop ⟨[.val 5 (Ty.i .i64), .val 16 (Ty.i .i64)], [1, 2, 14, 15]⟩
 (.seq
 (.reg
 (op 17 (.bin .lss (tm 16) (tm 15))
 .nil))
 (.seq
 (.cond (tm 17)
 .skip
 (.exit 0))
 (.join ⟨[.val 5 (Ty.i .i64)], [1, 2, 14, 15, 16]⟩
 (.block 1
 (.seq
 (.reg
 (op 18 (.iaddr 1 (tm 14) (tm 16))
 (op 19 (.load none (tm 18))
 (op 7 (.mov (tm 19))
 .nil))))
 (.seq
 (.reg
 (op 20 (.mov (tm 1))
 (op 21 (.mov (tm 7))
 (op 22 (.call 188 [(tm 20), (tm 21)])
 .nil))))
 (.cond (tm 22)
 (.reg
 (op 23 (.mov (tm 5))
 (op 24 (.bin .add (tm 23) (ci 1))
 (op 5 (.mov (tm 24))
 .nil))))
 .skip))))
 (.reg
 (op 25 (.bin .add (tm 16) (ci 1))
 (op 16 (.mov (tm 25))
 .nil)))))))))
 (.seq
 (.seq
 (.reg
 (op 26 (.faddr 2 (tm 2))
 (op 27 (.load none (tm 26))
 (op 28 (.len false (tm 27))
 (op 29 (.mov (ci 0))
 .nil)))))
 (.block 2
 (.loop ⟨[.val 5 (Ty.i .i64), .val 29 (Ty.i .i64)], [1, 2, 27, 28]⟩
 (.seq
 (.reg
 (op 30 (.bin .lss (tm 29) (tm 28))
 .nil))
 (.seq
 (.cond (tm 30)
 .skip
 (.exit 2))
 (.join ⟨[.val 5 (Ty.i .i64)], [1, 2, 27, 28, 29]⟩
 (.block 3
 (.seq
 (.reg
 (op 31 (.iaddr 3 (tm 27) (tm 29))
 (op 32 (.load (some 3) (tm 31))
 (op 9 (.alloc [.int .i64 0, .nils, .nils])
 (ops (.store 3 (tm 9) (tm 32))
 .nil)))))
 (.seq
 (.reg
 (op 33 (.load (some 3) (tm 9))
 (op 34 (.mov (tm 1))
 (op 35 (.call 245 [(tm 33), (tm 34)])
 .nil))))
 (.cond (tm 35)
 (.reg
 (op 36 (.mov (tm 5))
 (op 37 (.bin .add (tm 36) (ci 1))
 (op 5 (.mov (tm 37))
 .nil))))
 .skip))))
 (.reg
 (op 38 (.bin .add (tm 29) (ci 1))
 (op 29 (.mov (tm 38))
 .nil)))))))))
 (.seq
 (.reg
 (op 39 (.mov (tm 5))
 (op 40 (.faddr 0 (tm 2))
 (op 41 (.load none (tm 40))
 (op 42 (.bin .geq (tm 39) (tm 41))
 (op 4 (.mov (tm 42))
 .nil))))))
 .ret))))))
theorem ok_threshold_Satisfied : FnOk Tryz.prog 245 43 (SA.erase sa_threshold_Satisfied) [.tmp 4] := ⟨Tryz.f245, [], Tryz.func245, rfl, by kernel_rfl, by kernel_rfl, by kernel_rfl⟩
noncomputable def B_threshold_Satisfied (rec : (TTrust × Int × Unit) → Option Bool) (a0 : TTrust) (a1 : Int) : Option Bool :=
 Option.bind (F_nodeset_Valid a1) fun r1 =>
 bif (!r1) then
 some false
 else
 loopO (fun (v2 : Int × Int × Unit) =>
 bif (decide (v2.2.1 < ((List.length a0.Nodes : Nat) : Int))) then
 letJ (fun (v3 : Int × Unit) =>
 some (Sum.inl (v3.1, (addI .i64 v2.2.1 (1 : Int)), ()))) fun j4 =>
 Option.bind (idx a0.Nodes v2.2.1) fun x5 =>
 Option.bind (F_nodeset_Has a1 x5) fun r6 =>
 bif r6 then
 j4 ((addI .i64 v2.1 (1 : Int)), ())
 else
 j4 (v2.1, ())
 else
 Option.map Sum.inr (loopO (fun (v7 : Int × Int × Unit) =>
 bif (decide (v7.2.1 < ((List.length a0.Inner : Nat) : Int))) then
 letJ (fun (v8 : Int × Unit) =>
 some (Sum.inl (v8.1, (addI .i64 v7.2.1 (1 : Int)), ()))) fun j9 =>
 Option.bind (idx a0.Inner v7.2.1) fun x10 =>
 Option.bind (rec ((TTrust.mk x10.Threshold x10.Nodes x10.Inner), a1, ())) fun r11 =>
 bif r11 then
 j9 ((addI .i64 v7.1 (1 : Int)), ())
 else
 j9 (v7.1, ())
 else
 Option.map Sum.inr (some (decide (a0.Threshold ≤ v7.1)))) (v2.1, (0 : Int), ()))) ((0 : Int), (0 : Int), ())
noncomputable def I_threshold_Satisfied : Nat → (TTrust × Int × Unit) → Option Bool := iterF (fun rec a => B_threshold_Satisfied rec a.1 a.2.1)
noncomputable def F_threshold_Satisfied (a0 : TTrust) (a1 : Int) : Option Bool := I_threshold_Satisfied (SizeOf.sizeOf a0 + SizeOf.sizeOf a1 + 1) (a0, a1, ())
noncomputable def k_threshold_Satisfied : KFun U := .fn 245 [.ty (Ty.st .Trust), .ty (Ty.i .i64)] (.one Ty.bool) fun a => F_threshold_Satisfied a.1 a.2.1
theorem e_threshold_Satisfied : (fun G => fnK K (.fn 245 [.ty (Ty.st .Trust), .ty (Ty.i .i64)] (.one Ty.bool) G :: [k_nodeset_Valid, k_nodeset_Has]) sa_threshold_Satisfied [.tmp 4] [.ty (Ty.st .Trust), .ty (Ty.i .i64)] (.one Ty.bool)) = (fun G a => B_threshold_Satisfied G a.1 a.2.1) := by kernel_rfl
theorem n_threshold_Satisfied : ∀ n, KFun.Sound (U := U) Tryz.prog (.fn 245 [.ty (Ty.st .Trust), .ty (Ty.i .i64)] (.one Ty.bool) (I_threshold_Satisfied n))
  | 0 => ⟨ok_threshold_Satisfied.enters, fun a r h => by cases h⟩
  | n + 1 => fnK_sound (K := K) (r := .one Ty.bool) (Γ := .fn 245 [.ty (Ty.st .Trust), .ty (Ty.i .i64)] (.one Ty.bool) (I_threshold_Satisfied n) :: [k_nodeset_Valid, k_nodeset_Has]) (F := I_threshold_Satisfied (n + 1)) ok_threshold_Satisfied (by kernel_rfl) (by decide) ⟨n_threshold_Satisfied n, s_nodeset_Valid, s_nodeset_Has, trivial⟩ (fun a => congrFun (congrFun e_threshold_Satisfied (I_threshold_Satisfied n)) a)
theorem s_threshold_Satisfied : KFun.Sound (U := U) Tryz.prog k_threshold_Satisfied := ⟨ok_threshold_Satisfied.enters, fun a r h => (n_threshold_Satisfied _).2 a r h⟩

/-! ### trustquorum/blocking.Blocks -/
def sa_blocking_Blocks : SA U :=
 (.seq
 (.reg
 (op 3 (.box (tm 0))
 (op 6 (.mov (.cst (.bool false)))
 .nil)))
 (.seq
 (.seq
 (.reg
 (op 7 (.mov (tm 2))
 (op 8 (.call 226 [(tm 7)])
 (op 9 (.not (tm 8))
 (op 10 (.mov (tm 9))
 (.ite 10 false
 (opg 11 10 false (.load (some 1) (tm 3))
 (opg 12 10 false (.call 244 [(tm 11)])
 (opg 13 10 false (.mov (tm 1))
 (opg 14 10 false (.call 188 [(tm 12), (tm 13)])
 (opg 15 10 false (.not (tm 14))
 .nil)))))
 16 none (.cst (.bool true)) (tm 15)
 .nil))))))
 (.cond (tm 16)
 (.seq
 (.reg
 (op 6 (.mov (.cst (.bool false)))
 .nil))
 .ret)
 .skip))
 (.seq
 (.drw []
 (op 17 (.faddr 0 (tm 3))
 (op 18 (.load none (tm 17))
 (op 19 (.mov (tm 1))
 (op 20 (.iaddr 4 (tm 18) (tm 19))
 (op 21 (.faddr 1 (tm 20))
 (op 22 (.load (some 3) (tm 21))
 (op 23 (.mov (tm 2))
 (op 24 (.bin .andNot (ci 1023) (tm 23))
 (op 25 (.mov (tm 1))
 (op 26 (.bin .shl (ci 1) (tm 25))
 (op 27 (.bin .or (tm 24) (tm 26))
 (op 28 (.call 245 [(tm 22), (tm 27)])
 (op 29 (.not (tm 28))
 (op 6 (.mov (tm 29))
 .nil)))))))))))))))
 .ret)))
theorem ok_blocking_Blocks : FnOk Tryz.prog 227 30 (SA.erase sa_blocking_Blocks) [.tmp 6] := ⟨Tryz.f227, [], Tryz.func227, rfl, by kernel_rfl, by kernel_rfl, by kernel_rfl⟩
noncomputable def F_blocking_Blocks (a0 : TConfig) (a1 : Int) (a2 : Int) : Option Bool :=
 Option.bind (F_nodeset_Valid a2) fun r1 =>
 Option.bind (bif (!r1) then some true
 else
 Option.bind (F_configuration_Declared a0) fun r2 =>
 Option.bind (F_nodeset_Has r2 a1) fun r3 =>
 some (!r3)) fun b4 =>
 bif b4 then
 some false
 else
 Option.bind (idx a0.Members a1) fun x5 =>
 if a1 < 0 then none else
 Option.bind (F_threshold_Satisfied (TTrust.mk x5.Trust.Threshold x5.Trust.Nodes x5.Trust.Inner) (orI .i64 (andNotI .i64 (1023 : Int) a2) (shlI .i64 (1 : Int) a1))) fun r6 =>
 some (!r6)
noncomputable def k_blocking_Blocks : KFun U := .fn 227 [.ty (Ty.st .Config), .ty (Ty.i .i64), .ty (Ty.i .i64)] (.one Ty.bool) fun a => F_blocking_Blocks a.1 a.2.1 a.2.2.1
theorem e_blocking_Blocks : fnK K [k_nodeset_Valid, k_configuration_Declared, k_nodeset_Has, k_threshold_Satisfied] sa_blocking_Blocks [.tmp 6] [.ty (Ty.st .Config), .ty (Ty.i .i64), .ty (Ty.i .i64)] (.one Ty.bool) = fun a => F_blocking_Blocks a.1 a.2.1 a.2.2.1 := by kernel_rfl
theorem s_blocking_Blocks : KFun.Sound (U := U) Tryz.prog k_blocking_Blocks := fnK_sound (K := K) (Γ := [k_nodeset_Valid, k_configuration_Declared, k_nodeset_Has, k_threshold_Satisfied]) ok_blocking_Blocks (by kernel_rfl) (by decide) ⟨s_nodeset_Valid, s_configuration_Declared, s_nodeset_Has, s_threshold_Satisfied, trivial⟩ (fun a => congrFun e_blocking_Blocks a)

/-! ### trustquorum/nodeset.Nodes -/
def sa_nodeset_Nodes : SA U :=
 (.seq
 (.reg
 (op 2 (.mov (.cst (.nils)))
 .nil))
 (.seq
 (.reg
 (op 3 (.mov (.cst (.nils)))
 .nil))
 (.seq
 (.seq
 (.reg
 (op 5 (.mov (ci 0))
 .nil))
 (.block 0
 (.ps (.own 3 3 1 (Ty.i .i64))
 (.loop ⟨[.val 5 (Ty.i .i64), .own 3 3 1 3 1 (Ty.i .i64)], [0]⟩
 (.seq
 (.reg
 (op 6 (.bin .lss (tm 5) (ci 10))
 .nil))
 (.seq
 (.cond (tm 6)
 .skip
 (.exit 0))
 (.join ⟨[.own 3 3 1 3 1 (Ty.i .i64)], [0, 5]⟩
 (.block 1
 (.seq
 (.reg
 (op 7 (.mov (tm 5))
 (op 4 (.mov (tm 7))
 .nil)))
 (.seq
 (.reg
 (op 8 (.mov (tm 0))
 (op 9 (.mov (tm 4))
 (op 10 (.call 188 [(tm 8), (tm 9)])
 .nil))))
 (.cond (tm 10)
 (.reg
 (op 11 (.mov (tm 3))
 (op 12 (.mov (tm 4))
 (op 13 (.bsl false 3 1 (List.replicate 1 [.int .i64 0]) [(0, (tm 12))])
 (op 14 (.app 3 1 8 (tm 11) (tm 13))
 (op 3 (.mov (tm 14))
 .nil))))))
 .skip))))
 (.reg
 (op 15 (.bin .add (tm 5) (ci 1))
 (op 5 (.mov (tm 15))
 .nil))))))))))
 (.seq
 (.reg
 (op 16 (.mov (tm 3))
 (op 2 (.mov (tm 16))
 .nil)))
 .ret))))
theorem ok_nodeset_Nodes : FnOk Tryz.prog 250 17 (SA.erase sa_nodeset_Nodes) [.tmp 2] := ⟨Tryz.f250, [], Tryz.func250, rfl, by kernel_rfl, by kernel_rfl, by kernel_rfl⟩
noncomputable def F_nodeset_Nodes (a0 : Int) : Option (List Int) :=
 loopO (fun (v1 : Int × (List Int) × Unit) =>
 bif (decide (v1.1 < (10 : Int))) then
 letJ (fun (v2 : (List Int) × Unit) =>
 some (Sum.inl ((addI .i64 v1.1 (1 : Int)), v2.1, ()))) fun j3 =>
 Option.bind (F_nodeset_Has a0 v1.1) fun r4 =>
 bif r4 then
 bif lenOk 8 (List.length v1.2.1 + List.length [v1.1]) then
 j3 ((v1.2.1 ++ [v1.1]), ())
 else none
 else
 j3 (v1.2.1, ())
 else
 Option.map Sum.inr (some v1.2.1)) ((0 : Int), ([] : List Int), ())
noncomputable def k_nodeset_Nodes : KFun U := .fn 250 [.ty (Ty.i .i64)] (.one (Ty.sl (Ty.i .i64))) fun a => F_nodeset_Nodes a.1
theorem e_nodeset_Nodes : fnK K [k_nodeset_Has] sa_nodeset_Nodes [.tmp 2] [.ty (Ty.i .i64)] (.one (Ty.sl (Ty.i .i64))) = fun a => F_nodeset_Nodes a.1 := by kernel_rfl
theorem s_nodeset_Nodes : KFun.Sound (U := U) Tryz.prog k_nodeset_Nodes := fnK_sound (K := K) (Γ := [k_nodeset_Has]) ok_nodeset_Nodes (by kernel_rfl) (by decide) ⟨s_nodeset_Has, trivial⟩ (fun a => congrFun e_nodeset_Nodes a)

/-! ### trustquorum/closure.content -/
def sa_closure_content : SA U :=
 (.seq
 (.reg
 (op 3 (.box (tm 0))
 (op 6 (.mov (.cst (.bool false)))
 .nil)))
 (.seq
 (.reg
 (op 7 (.faddr 0 (tm 3))
 (op 8 (.load none (tm 7))
 (op 9 (.mov (tm 1))
 (op 10 (.iaddr 4 (tm 8) (tm 9))
 (op 11 (.faddr 1 (tm 10))
 (op 12 (.load (some 3) (tm 11))
 (op 13 (.mov (tm 2))
 (op 14 (.call 245 [(tm 12), (tm 13)])
 (op 6 (.mov (tm 14))
 .nil))))))))))
 .ret))
theorem ok_closure_content : FnOk Tryz.prog 251 15 (SA.erase sa_closure_content) [.tmp 6] := ⟨Tryz.f251, [], Tryz.func251, rfl, by kernel_rfl, by kernel_rfl, by kernel_rfl⟩
noncomputable def F_closure_content (a0 : TConfig) (a1 : Int) (a2 : Int) : Option Bool :=
 Option.bind (idx a0.Members a1) fun x1 =>
 Option.bind (F_threshold_Satisfied (TTrust.mk x1.Trust.Threshold x1.Trust.Nodes x1.Trust.Inner) a2) fun r2 =>
 some r2
noncomputable def k_closure_content : KFun U := .fn 251 [.ty (Ty.st .Config), .ty (Ty.i .i64), .ty (Ty.i .i64)] (.one Ty.bool) fun a => F_closure_content a.1 a.2.1 a.2.2.1
theorem e_closure_content : fnK K [k_threshold_Satisfied] sa_closure_content [.tmp 6] [.ty (Ty.st .Config), .ty (Ty.i .i64), .ty (Ty.i .i64)] (.one Ty.bool) = fun a => F_closure_content a.1 a.2.1 a.2.2.1 := by kernel_rfl
theorem s_closure_content : KFun.Sound (U := U) Tryz.prog k_closure_content := fnK_sound (K := K) (Γ := [k_threshold_Satisfied]) ok_closure_content (by kernel_rfl) (by decide) ⟨s_threshold_Satisfied, trivial⟩ (fun a => congrFun e_closure_content a)

/-! ### trustquorum/closure.unhappy -/
def sa_closure_unhappy : SA U :=
 (.seq
 (.reg
 (op 2 (.box (tm 0))
 (op 4 (.mov (ci 0))
 (op 5 (.mov (.cst (.bool false)))
 .nil))))
 (.seq
 (.seq
 (.reg
 (op 8 (.mov (tm 1))
 (op 9 (.call 250 [(tm 8)])
 (op 10 (.len false (tm 9))
 (op 11 (.mov (ci 0))
 .nil)))))
 (.block 0
 (.loop ⟨[.val 11 (Ty.i .i64)], [1, 2, 9, 10]⟩
 (.seq
 (.reg
 (op 12 (.bin .lss (tm 11) (tm 10))
 .nil))
 (.seq
 (.cond (tm 12)
 .skip
 (.exit 0))
 (.seq
 (.block 1
 (.seq
 (.reg
 (op 13 (.iaddr 1 (tm 9) (tm 11))
 (op 14 (.load none (tm 13))
 (op 7 (.mov (tm 14))
 .nil))))
 (.seq
 (.reg
 (op 15 (.load (some 1) (tm 2))
 (op 16 (.mov (tm 7))
 (op 17 (.mov (tm 1))
 (op 18 (.call 251 [(tm 15), (tm 16), (tm 17)])
 (op 19 (.not (tm 18))
 .nil))))))
 (.cond (tm 19)
 (.seq
 (.reg
 (op 20 (.mov (tm 7))
 (op 4 (.mov (tm 20))
 (op 5 (.mov (.cst (.bool true)))
 .nil))))
 .ret)
 .skip))))
 (.reg
 (op 21 (.bin .add (tm 11) (ci 1))
 (op 11 (.mov (tm 21))
 .nil)))))))))
 (.seq
 (.reg
 (op 4 (.mov (ci 0))
 (op 5 (.mov (.cst (.bool false)))
 .nil)))
 .ret)))
theorem ok_closure_unhappy : FnOk Tryz.prog 246 22 (SA.erase sa_closure_unhappy) [.tmp 4, .tmp 5] := ⟨Tryz.f246, [], Tryz.func246, rfl, by kernel_rfl, by kernel_rfl, by kernel_rfl⟩
noncomputable def F_closure_unhappy (a0 : TConfig) (a1 : Int) : Option (Int × Bool × Unit) :=
 Option.bind (F_nodeset_Nodes a1) fun r1 =>
 loopO (fun (v2 : Int × Unit) =>
 bif (decide (v2.1 < ((List.length r1 : Nat) : Int))) then
 Option.bind (idx r1 v2.1) fun x3 =>
 Option.bind (F_closure_content a0 x3 a1) fun r4 =>
 bif (!r4) then
 Option.map Sum.inr (some (x3, true, ()))
 else
 some (Sum.inl ((addI .i64 v2.1 (1 : Int)), ()))
 else
 Option.map Sum.inr (some ((0 : Int), false, ()))) ((0 : Int), ())
noncomputable def k_closure_unhappy : KFun U := .fn 246 [.ty (Ty.st .Config), .ty (Ty.i .i64)] (.many [(Ty.i .i64), Ty.bool]) fun a => F_closure_unhappy a.1 a.2.1
theorem e_closure_unhappy : fnK K [k_nodeset_Nodes, k_closure_content] sa_closure_unhappy [.tmp 4, .tmp 5] [.ty (Ty.st .Config), .ty (Ty.i .i64)] (.many [(Ty.i .i64), Ty.bool]) = fun a => F_closure_unhappy a.1 a.2.1 := by kernel_rfl
theorem s_closure_unhappy : KFun.Sound (U := U) Tryz.prog k_closure_unhappy := fnK_sound (K := K) (Γ := [k_nodeset_Nodes, k_closure_content]) ok_closure_unhappy (by kernel_rfl) (by decide) ⟨s_nodeset_Nodes, s_closure_content, trivial⟩ (fun a => congrFun e_closure_unhappy a)

/-! ### trustquorum/closure.eliminate -/
def sa_closure_eliminate : SA U :=
 (.seq
 (.reg
 (op 2 (.box (tm 0))
 (op 4 (.mov (ci 0))
 (op 5 (.mov (.cst (.nils)))
 .nil))))
 (.seq
 (.seq
 (.reg
 (op 9 (.mov (tm 1))
 (op 10 (.call 226 [(tm 9)])
 (op 11 (.not (tm 10))
 .nil))))
 (.cond (tm 11)
 (.seq
 (.reg
 (op 4 (.mov (ci 0))
 (op 5 (.mov (.cst (.nils)))
 .nil)))
 .ret)
 .skip))
 (.seq
 (.reg
 (op 6 (.mov (.cst (.nils)))
 .nil))
 (.seq
 (.reg
 (op 12 (.mov (tm 1))
 (op 13 (.load (some 1) (tm 2))
 (op 14 (.call 244 [(tm 13)])
 (op 15 (.bin .and (tm 12) (tm 14))
 (op 1 (.mov (tm 15))
 .nil))))))
 (.block 0
 (.ps (.own 6 3 1 (Ty.i .i64))
 (.loop ⟨[.val 1 (Ty.i .i64), .own 6 12 1 3 1 (Ty.i .i64)], [2]⟩
 (.block 1
 (.seq
 (.reg
 (op 17 (.load (some 1) (tm 2))
 (op 18 (.mov (tm 1))
 (op 19 (.call 246 [(tm 17), (tm 18)])
 (op 16 (.mov (tm 19))
 (op 20 (.extr 0 (tm 16))
 (op 21 (.extr 1 (tm 16))
 (op 7 (.mov (tm 20))
 (op 8 (.mov (tm 21))
 .nil)))))))))
 (.seq
 (.seq
 (.reg
 (op 22 (.mov (tm 8))
 (op 23 (.not (tm 22))
 .nil)))
 (.cond (tm 23)
 (.seq
 (.reg
 (op 24 (.mov (tm 1))
 (op 25 (.mov (tm 6))
 (op 4 (.mov (tm 24))
 (op 5 (.mov (tm 25))
 .nil)))))
 .ret)
 .skip))
 (.seq
 (.reg
 (op 26 (.mov (tm 6))
 (op 27 (.mov (tm 7))
 (op 28 (.bsl false 3 1 (List.replicate 1 [.int .i64 0]) [(0, (tm 27))])
 (op 29 (.app 3 1 8 (tm 26) (tm 28))
 (op 6 (.mov (tm 29))
 .nil))))))
 (.reg
 (op 30 (.mov (tm 1))
 (op 31 (.mov (tm 7))
 (op 32 (.bin .shl (ci 1) (tm 31))
 (op 33 (.bin .andNot (tm 30) (tm 32))
 (op 1 (.mov (tm 33))
 .nil)))))))))))))))))
theorem ok_closure_eliminate : FnOk Tryz.prog 228 34 (SA.erase sa_closure_eliminate) [.tmp 4, .tmp 5] := ⟨Tryz.f228, [], Tryz.func228, rfl, by kernel_rfl, by kernel_rfl, by kernel_rfl⟩
noncomputable def F_closure_eliminate (a0 : TConfig) (a1 : Int) : Option (Int × (List Int) × Unit) :=
 Option.bind (F_nodeset_Valid a1) fun r1 =>
 bif (!r1) then
 some ((0 : Int), ([] : List Int), ())
 else
 Option.bind (F_configuration_Declared a0) fun r2 =>
 loopO (fun (v3 : Int × (List Int) × Unit) =>
 Option.bind (F_closure_unhappy a0 v3.1) fun r4 =>
 bif (!r4.2.1) then
 Option.map Sum.inr (some (v3.1, v3.2.1, ()))
 else
 bif lenOk 8 (List.length v3.2.1 + List.length [r4.1]) then
 if r4.1 < 0 then none else
 some (Sum.inl ((andNotI .i64 v3.1 (shlI .i64 (1 : Int) r4.1)), (v3.2.1 ++ [r4.1]), ()))
 else none) ((andI .i64 a1 r2), ([] : List Int), ())
noncomputable def k_closure_eliminate : KFun U := .fn 228 [.ty (Ty.st .Config), .ty (Ty.i .i64)] (.many [(Ty.i .i64), (Ty.sl (Ty.i .i64))]) fun a => F_closure_eliminate a.1 a.2.1
theorem e_closure_eliminate : fnK K [k_nodeset_Valid, k_configuration_Declared, k_closure_unhappy] sa_closure_eliminate [.tmp 4, .tmp 5] [.ty (Ty.st .Config), .ty (Ty.i .i64)] (.many [(Ty.i .i64), (Ty.sl (Ty.i .i64))]) = fun a => F_closure_eliminate a.1 a.2.1 := by kernel_rfl
theorem s_closure_eliminate : KFun.Sound (U := U) Tryz.prog k_closure_eliminate := fnK_sound (K := K) (Γ := [k_nodeset_Valid, k_configuration_Declared, k_closure_unhappy]) ok_closure_eliminate (by kernel_rfl) (by decide) ⟨s_nodeset_Valid, s_configuration_Declared, s_closure_unhappy, trivial⟩ (fun a => congrFun e_closure_eliminate a)

/-! ### trustquorum/closure.Greatest -/
def sa_closure_Greatest : SA U :=
 (.seq
 (.reg
 (op 2 (.box (tm 0))
 (op 4 (.mov (ci 0))
 .nil)))
 (.seq
 (.reg
 (op 8 (.load (some 1) (tm 2))
 (op 9 (.mov (tm 1))
 (op 10 (.call 228 [(tm 8), (tm 9)])
 (op 7 (.mov (tm 10))
 (op 11 (.extr 0 (tm 7))
 (op 12 (.extr 1 (tm 7))
 (op 5 (.mov (tm 11))
 (op 6 (.mov (tm 12))
 .nil)))))))))
 (.seq
 (.reg
 (op 13 (.mov (tm 5))
 (op 4 (.mov (tm 13))
 .nil)))
 .ret)))
theorem ok_closure_Greatest : FnOk Tryz.prog 189 14 (SA.erase sa_closure_Greatest) [.tmp 4] := ⟨Tryz.f189, [], Tryz.func189, rfl, by kernel_rfl, by kernel_rfl, by kernel_rfl⟩
noncomputable def F_closure_Greatest (a0 : TConfig) (a1 : Int) : Option Int :=
 Option.bind (F_closure_eliminate a0 a1) fun r1 =>
 some r1.1
noncomputable def k_closure_Greatest : KFun U := .fn 189 [.ty (Ty.st .Config), .ty (Ty.i .i64)] (.one (Ty.i .i64)) fun a => F_closure_Greatest a.1 a.2.1
theorem e_closure_Greatest : fnK K [k_closure_eliminate] sa_closure_Greatest [.tmp 4] [.ty (Ty.st .Config), .ty (Ty.i .i64)] (.one (Ty.i .i64)) = fun a => F_closure_Greatest a.1 a.2.1 := by kernel_rfl
theorem s_closure_Greatest : KFun.Sound (U := U) Tryz.prog k_closure_Greatest := fnK_sound (K := K) (Γ := [k_closure_eliminate]) ok_closure_Greatest (by kernel_rfl) (by decide) ⟨s_closure_eliminate, trivial⟩ (fun a => congrFun e_closure_Greatest a)

/-! ### trustquorum/federated.Accepts -/
def sa_federated_Accepts : SA U :=
 (.seq
 (.reg
 (op 4 (.box (tm 0))
 (op 8 (.mov (.cst (.bool false)))
 .nil)))
 (.seq
 (.seq
 (.reg
 (op 9 (.mov (tm 2))
 (op 10 (.call 226 [(tm 9)])
 (op 11 (.not (tm 10))
 (op 12 (.mov (tm 11))
 (.ite 12 false
 (opg 13 12 false (.mov (tm 3))
 (opg 14 12 false (.call 226 [(tm 13)])
 (opg 15 12 false (.not (tm 14))
 .nil)))
 16 none (.cst (.bool true)) (tm 15)
 .nil))))))
 (.cond (tm 16)
 (.seq
 (.reg
 (op 8 (.mov (.cst (.bool false)))
 .nil))
 .ret)
 .skip))
 (.seq
 (.reg
 (op 17 (.load (some 1) (tm 4))
 (op 18 (.mov (tm 1))
 (op 19 (.mov (tm 3))
 (op 20 (.call 227 [(tm 17), (tm 18), (tm 19)])
 (op 21 (.mov (tm 20))
 (.ite 21 false
 (opg 22 21 false (.load (some 1) (tm 4))
 (opg 23 21 false (.mov (tm 2))
 (opg 24 21 false (.mov (tm 3))
 (opg 25 21 false (.bin .or (tm 23) (tm 24))
 (opg 26 21 false (.call 189 [(tm 22), (tm 25)])
 (opg 27 21 false (.mov (tm 1))
 (opg 28 21 false (.call 188 [(tm 26), (tm 27)])
 .nil)))))))
 29 none (.cst (.bool true)) (tm 28)
 (op 8 (.mov (tm 29))
 .nil))))))))
 .ret)))
theorem ok_federated_Accepts : FnOk Tryz.prog 186 30 (SA.erase sa_federated_Accepts) [.tmp 8] := ⟨Tryz.f186, [], Tryz.func186, rfl, by kernel_rfl, by kernel_rfl, by kernel_rfl⟩
noncomputable def F_federated_Accepts (a0 : TConfig) (a1 : Int) (a2 : Int) (a3 : Int) : Option Bool :=
 Option.bind (F_nodeset_Valid a2) fun r1 =>
 Option.bind (bif (!r1) then some true
 else
 Option.bind (F_nodeset_Valid a3) fun r2 =>
 some (!r2)) fun b3 =>
 bif b3 then
 some false
 else
 Option.bind (F_blocking_Blocks a0 a1 a3) fun r4 =>
 Option.bind (bif r4 then some true
 else
 Option.bind (F_closure_Greatest a0 (orI .i64 a2 a3)) fun r5 =>
 Option.bind (F_nodeset_Has r5 a1) fun r6 =>
 some r6) fun b7 =>
 some b7
noncomputable def k_federated_Accepts : KFun U := .fn 186 [.ty (Ty.st .Config), .ty (Ty.i .i64), .ty (Ty.i .i64), .ty (Ty.i .i64)] (.one Ty.bool) fun a => F_federated_Accepts a.1 a.2.1 a.2.2.1 a.2.2.2.1
theorem e_federated_Accepts : fnK K [k_nodeset_Valid, k_blocking_Blocks, k_closure_Greatest, k_nodeset_Has] sa_federated_Accepts [.tmp 8] [.ty (Ty.st .Config), .ty (Ty.i .i64), .ty (Ty.i .i64), .ty (Ty.i .i64)] (.one Ty.bool) = fun a => F_federated_Accepts a.1 a.2.1 a.2.2.1 a.2.2.2.1 := by kernel_rfl
theorem s_federated_Accepts : KFun.Sound (U := U) Tryz.prog k_federated_Accepts := fnK_sound (K := K) (Γ := [k_nodeset_Valid, k_blocking_Blocks, k_closure_Greatest, k_nodeset_Has]) ok_federated_Accepts (by kernel_rfl) (by decide) ⟨s_nodeset_Valid, s_blocking_Blocks, s_closure_Greatest, s_nodeset_Has, trivial⟩ (fun a => congrFun e_federated_Accepts a)

/-! ### trustquorum/federated.Confirms -/
def sa_federated_Confirms : SA U :=
 (.seq
 (.reg
 (op 3 (.box (tm 0))
 (op 6 (.mov (.cst (.bool false)))
 .nil)))
 (.seq
 (.reg
 (op 7 (.load (some 1) (tm 3))
 (op 8 (.mov (tm 2))
 (op 9 (.call 189 [(tm 7), (tm 8)])
 (op 10 (.mov (tm 1))
 (op 11 (.call 188 [(tm 9), (tm 10)])
 (op 6 (.mov (tm 11))
 .nil)))))))
 .ret))
theorem ok_federated_Confirms : FnOk Tryz.prog 162 12 (SA.erase sa_federated_Confirms) [.tmp 6] := ⟨Tryz.f162, [], Tryz.func162, rfl, by kernel_rfl, by kernel_rfl, by kernel_rfl⟩
noncomputable def F_federated_Confirms (a0 : TConfig) (a1 : Int) (a2 : Int) : Option Bool :=
 Option.bind (F_closure_Greatest a0 a2) fun r1 =>
 Option.bind (F_nodeset_Has r1 a1) fun r2 =>
 some r2
noncomputable def k_federated_Confirms : KFun U := .fn 162 [.ty (Ty.st .Config), .ty (Ty.i .i64), .ty (Ty.i .i64)] (.one Ty.bool) fun a => F_federated_Confirms a.1 a.2.1 a.2.2.1
theorem e_federated_Confirms : fnK K [k_closure_Greatest, k_nodeset_Has] sa_federated_Confirms [.tmp 6] [.ty (Ty.st .Config), .ty (Ty.i .i64), .ty (Ty.i .i64)] (.one Ty.bool) = fun a => F_federated_Confirms a.1 a.2.1 a.2.2.1 := by kernel_rfl
theorem s_federated_Confirms : KFun.Sound (U := U) Tryz.prog k_federated_Confirms := fnK_sound (K := K) (Γ := [k_closure_Greatest, k_nodeset_Has]) ok_federated_Confirms (by kernel_rfl) (by decide) ⟨s_closure_Greatest, s_nodeset_Has, trivial⟩ (fun a => congrFun e_federated_Confirms a)

/-! ### trustquorum/trustquorumref24.AcceptsPrepare -/
def sa_ref24_AcceptsPrepare : SA U :=
 (.seq
 (.reg
 (op 2 (.box (tm 0))
 (op 3 (.box (tm 1))
 (op 4 (.mov (.cst (.bool false)))
 .nil))))
 (.seq
 (.seq
 (.reg
 (op 5 (.load (some 15) (tm 2))
 (op 6 (.call 76 [(tm 5)])
 (op 7 (.not (tm 6))
 (op 8 (.mov (tm 7))
 (.ite 8 false
 (opg 9 8 false (.load (some 2) (tm 3))
 (opg 10 8 false (.call 39 [(tm 9)])
 .nil))
 11 none (.cst (.bool true)) (tm 10)
 .nil))))))
 (.cond (tm 11)
 (.seq
 (.reg
 (op 4 (.mov (.cst (.bool false)))
 .nil))
 .ret)
 .skip))
 (.seq
 (.seq
 (.reg
 (op 12 (.faddr 6 (tm 2))
 (op 13 (.load none (tm 12))
 (op 14 (.bin .eql (tm 13) (ci 3))
 .nil))))
 (.cond (tm 14)
 (.seq
 (.reg
 (op 15 (.faddr 7 (tm 2))
 (op 16 (.load (some 2) (tm 15))
 (op 17 (.load (some 2) (tm 3))
 (op 18 (.call 106 [(tm 16), (tm 17)])
 (op 4 (.mov (tm 18))
 .nil))))))
 .ret)
 .skip))
 (.seq
 (.reg
 (op 19 (.faddr 9 (tm 2))
 (op 20 (.load (some 2) (tm 19))
 (op 21 (.faddr 11 (tm 2))
 (op 22 (.load (some 2) (tm 21))
 (op 23 (.load (some 2) (tm 3))
 (op 24 (.call 40 [(tm 20), (tm 22), (tm 23)])
 (op 4 (.mov (tm 24))
 .nil))))))))
 .ret))))
theorem ok_ref24_AcceptsPrepare : FnOk Tryz.prog 34 25 (SA.erase sa_ref24_AcceptsPrepare) [.tmp 4] := ⟨Tryz.f34, [], Tryz.func34, rfl, by kernel_rfl, by kernel_rfl, by kernel_rfl⟩
noncomputable def F_ref24_AcceptsPrepare (a0 : TEnvelope) (a1 : TBallot) : Option Bool :=
 Option.bind (F_ref24_Valid (TEnvelope.mk a0.Node a0.Slot a0.Seq (TTrust.mk a0.Trust.Threshold a0.Trust.Nodes a0.Trust.Inner) a0.Kind a0.Ballot a0.Prepared a0.Prime a0.Low a0.High)) fun r1 =>
 Option.bind (bif (!r1) then some true
 else
 Option.bind (F_ref23_Zero a1) fun r2 =>
 some r2) fun b3 =>
 bif b3 then
 some false
 else
 bif (decide (a0.Kind = (3 : Int))) then
 Option.bind (F_ref23_Compatible a0.Ballot a1) fun r4 =>
 some r4
 else
 Option.bind (F_ref23_Prepares a0.Prepared a0.Prime a1) fun r5 =>
 some r5
noncomputable def k_ref24_AcceptsPrepare : KFun U := .fn 34 [.ty (Ty.st .Envelope), .ty (Ty.st .Ballot)] (.one Ty.bool) fun a => F_ref24_AcceptsPrepare a.1 a.2.1
theorem e_ref24_AcceptsPrepare : fnK K [k_ref24_Valid, k_ref23_Zero, k_ref23_Compatible, k_ref23_Prepares] sa_ref24_AcceptsPrepare [.tmp 4] [.ty (Ty.st .Envelope), .ty (Ty.st .Ballot)] (.one Ty.bool) = fun a => F_ref24_AcceptsPrepare a.1 a.2.1 := by kernel_rfl
theorem s_ref24_AcceptsPrepare : KFun.Sound (U := U) Tryz.prog k_ref24_AcceptsPrepare := fnK_sound (K := K) (Γ := [k_ref24_Valid, k_ref23_Zero, k_ref23_Compatible, k_ref23_Prepares]) ok_ref24_AcceptsPrepare (by kernel_rfl) (by decide) ⟨s_ref24_Valid, s_ref23_Zero, s_ref23_Compatible, s_ref23_Prepares, trivial⟩ (fun a => congrFun e_ref24_AcceptsPrepare a)

/-! ### trustquorum/prepare.accepts -/
def sa_prepare_accepts : SA U :=
 (.seq
 (.reg
 (op 1 (.box (tm 0))
 (op 2 (.mov (.cst (.any)))
 .nil)))
 (.seq
 (.reg
 (op 3 (.mkf 164 [(tm 1)])
 (op 2 (.mov (tm 3))
 .nil)))
 .ret))
theorem ok_prepare_accepts : FnOk Tryz.prog 109 4 (SA.erase sa_prepare_accepts) [.tmp 2] := ⟨Tryz.f109, [], Tryz.func109, rfl, by kernel_rfl, by kernel_rfl, by kernel_rfl⟩
noncomputable def F_prepare_accepts (a0 : TBallot) : Option (TBallot × Unit) :=
 some (a0, ())
noncomputable def k_prepare_accepts : KFun U := .fn 109 [.ty (Ty.st .Ballot)] (.fn (.clo 164 [.ref (.ty (Ty.st .Ballot))])) fun a => F_prepare_accepts a.1
theorem e_prepare_accepts : fnK K [] sa_prepare_accepts [.tmp 2] [.ty (Ty.st .Ballot)] (.fn (.clo 164 [.ref (.ty (Ty.st .Ballot))])) = fun a => F_prepare_accepts a.1 := by kernel_rfl
theorem s_prepare_accepts : KFun.Sound (U := U) Tryz.prog k_prepare_accepts := fnK_sound (K := K) (Γ := []) ok_prepare_accepts (by kernel_rfl) (by decide) trivial (fun a => congrFun e_prepare_accepts a)

/-! ### (trustquorum/prepare.Seen).ready$1 -/
def sa_prepare_Seen_ready_1 : SA U :=
 (.seq
 (.reg
 (op 2 (.box (tm 0))
 (op 3 (.mov (.cst (.bool false)))
 .nil)))
 (.seq
 (.reg
 (op 4 (.load (some 15) (tm 2))
 (op 5 (.load (some 2) (tm 1))
 (op 6 (.call 90 [(tm 4), (tm 5)])
 (op 3 (.mov (tm 6))
 .nil)))))
 .ret))
theorem ok_prepare_Seen_ready_1 : FnOk Tryz.prog 161 7 (SA.erase sa_prepare_Seen_ready_1) [.tmp 3] := ⟨Tryz.f161, [], Tryz.func161, rfl, by kernel_rfl, by kernel_rfl, by kernel_rfl⟩
noncomputable def F_prepare_Seen_ready_1 (a0 : TRight) (a1 : TBallot) : Option Bool :=
 Option.bind (F_envelopes_Right_VotesPrepare (TRight.mk (TEnvelope.mk a0.Envelope.Node a0.Envelope.Slot a0.Envelope.Seq (TTrust.mk a0.Envelope.Trust.Threshold a0.Envelope.Trust.Nodes a0.Envelope.Trust.Inner) a0.Envelope.Kind a0.Envelope.Ballot a0.Envelope.Prepared a0.Envelope.Prime a0.Envelope.Low a0.Envelope.High)) a1) fun r1 =>
 some r1
noncomputable def k_prepare_Seen_ready_1 : KFun U := .fn 161 [.ty (Ty.st .Right), .ref (.ty (Ty.st .Ballot))] (.one Ty.bool) fun a => F_prepare_Seen_ready_1 a.1 a.2.1
theorem e_prepare_Seen_ready_1 : fnK K [k_envelopes_Right_VotesPrepare] sa_prepare_Seen_ready_1 [.tmp 3] [.ty (Ty.st .Right), .ref (.ty (Ty.st .Ballot))] (.one Ty.bool) = fun a => F_prepare_Seen_ready_1 a.1 a.2.1 := by kernel_rfl
theorem s_prepare_Seen_ready_1 : KFun.Sound (U := U) Tryz.prog k_prepare_Seen_ready_1 := fnK_sound (K := K) (Γ := [k_envelopes_Right_VotesPrepare]) ok_prepare_Seen_ready_1 (by kernel_rfl) (by decide) ⟨s_envelopes_Right_VotesPrepare, trivial⟩ (fun a => congrFun e_prepare_Seen_ready_1 a)

/-! ### trustquorum/prepare.accepts$1 -/
def sa_prepare_accepts_1 : SA U :=
 (.seq
 (.reg
 (op 2 (.box (tm 0))
 (op 3 (.mov (.cst (.bool false)))
 .nil)))
 (.seq
 (.reg
 (op 4 (.load (some 15) (tm 2))
 (op 5 (.load (some 2) (tm 1))
 (op 6 (.call 91 [(tm 4), (tm 5)])
 (op 3 (.mov (tm 6))
 .nil)))))
 .ret))
theorem ok_prepare_accepts_1 : FnOk Tryz.prog 164 7 (SA.erase sa_prepare_accepts_1) [.tmp 3] := ⟨Tryz.f164, [], Tryz.func164, rfl, by kernel_rfl, by kernel_rfl, by kernel_rfl⟩
noncomputable def F_prepare_accepts_1 (a0 : TRight) (a1 : TBallot) : Option Bool :=
 Option.bind (F_envelopes_Right_AcceptsPrepare (TRight.mk (TEnvelope.mk a0.Envelope.Node a0.Envelope.Slot a0.Envelope.Seq (TTrust.mk a0.Envelope.Trust.Threshold a0.Envelope.Trust.Nodes a0.Envelope.Trust.Inner) a0.Envelope.Kind a0.Envelope.Ballot a0.Envelope.Prepared a0.Envelope.Prime a0.Envelope.Low a0.Envelope.High)) a1) fun r1 =>
 some r1
noncomputable def k_prepare_accepts_1 : KFun U := .fn 164 [.ty (Ty.st .Right), .ref (.ty (Ty.st .Ballot))] (.one Ty.bool) fun a => F_prepare_accepts_1 a.1 a.2.1
theorem e_prepare_accepts_1 : fnK K [k_envelopes_Right_AcceptsPrepare] sa_prepare_accepts_1 [.tmp 3] [.ty (Ty.st .Right), .ref (.ty (Ty.st .Ballot))] (.one Ty.bool) = fun a => F_prepare_accepts_1 a.1 a.2.1 := by kernel_rfl
theorem s_prepare_accepts_1 : KFun.Sound (U := U) Tryz.prog k_prepare_accepts_1 := fnK_sound (K := K) (Γ := [k_envelopes_Right_AcceptsPrepare]) ok_prepare_accepts_1 (by kernel_rfl) (by decide) ⟨s_envelopes_Right_AcceptsPrepare, trivial⟩ (fun a => congrFun e_prepare_accepts_1 a)

/-! ### (trustquorum/prepare.Seen).Accepts$1 -/
def sa_prepare_Seen_Accepts_1_c161_c164 : SA U :=
 (.seq
 (.reg
 (op 3 (.box (tm 0))
 (op 4 (.mov (.cst (.bool false)))
 .nil)))
 (.seq
 (.reg
 (op 5 (.load none (tm 1))
 (op 6 (.load (some 15) (tm 3))
 (op 7 (.callv (tm 5) [(tm 6)])
 (op 8 (.mov (tm 7))
 (.ite 8 false
 (opg 9 8 false (.load none (tm 2))
 (opg 10 8 false (.load (some 15) (tm 3))
 (opg 11 8 false (.callv (tm 9) [(tm 10)])
 .nil)))
 12 none (.cst (.bool true)) (tm 11)
 (op 4 (.mov (tm 12))
 .nil)))))))
 .ret))
theorem ok_prepare_Seen_Accepts_1_c161_c164 : FnOk Tryz.prog 185 13 (SA.erase sa_prepare_Seen_Accepts_1_c161_c164) [.tmp 4] := ⟨Tryz.f185, [], Tryz.func185, rfl, by kernel_rfl, by kernel_rfl, by kernel_rfl⟩
noncomputable def F_prepare_Seen_Accepts_1_c161_c164 (a0 : TRight) (a1 : TBallot) (a2 : TBallot) : Option Bool :=
 Option.bind (F_prepare_Seen_ready_1 (TRight.mk (TEnvelope.mk a0.Envelope.Node a0.Envelope.Slot a0.Envelope.Seq (TTrust.mk a0.Envelope.Trust.Threshold a0.Envelope.Trust.Nodes a0.Envelope.Trust.Inner) a0.Envelope.Kind a0.Envelope.Ballot a0.Envelope.Prepared a0.Envelope.Prime a0.Envelope.Low a0.Envelope.High)) a1) fun r1 =>
 Option.bind (bif r1 then some true
 else
 Option.bind (F_prepare_accepts_1 (TRight.mk (TEnvelope.mk a0.Envelope.Node a0.Envelope.Slot a0.Envelope.Seq (TTrust.mk a0.Envelope.Trust.Threshold a0.Envelope.Trust.Nodes a0.Envelope.Trust.Inner) a0.Envelope.Kind a0.Envelope.Ballot a0.Envelope.Prepared a0.Envelope.Prime a0.Envelope.Low a0.Envelope.High)) a2) fun r2 =>
 some r2) fun b3 =>
 some b3
noncomputable def k_prepare_Seen_Accepts_1_c161_c164 : KFun U := .fn 185 [.ty (Ty.st .Right), .ref (.clo 161 [.ref (.ty (Ty.st .Ballot))]), .ref (.clo 164 [.ref (.ty (Ty.st .Ballot))])] (.one Ty.bool) fun a => F_prepare_Seen_Accepts_1_c161_c164 a.1 a.2.1.1 a.2.2.1.1
theorem e_prepare_Seen_Accepts_1_c161_c164 : fnK K [k_prepare_Seen_ready_1, k_prepare_accepts_1] sa_prepare_Seen_Accepts_1_c161_c164 [.tmp 4] [.ty (Ty.st .Right), .ref (.clo 161 [.ref (.ty (Ty.st .Ballot))]), .ref (.clo 164 [.ref (.ty (Ty.st .Ballot))])] (.one Ty.bool) = fun a => F_prepare_Seen_Accepts_1_c161_c164 a.1 a.2.1.1 a.2.2.1.1 := by kernel_rfl
theorem s_prepare_Seen_Accepts_1_c161_c164 : KFun.Sound (U := U) Tryz.prog k_prepare_Seen_Accepts_1_c161_c164 := fnK_sound (K := K) (Γ := [k_prepare_Seen_ready_1, k_prepare_accepts_1]) ok_prepare_Seen_Accepts_1_c161_c164 (by kernel_rfl) (by decide) ⟨s_prepare_Seen_ready_1, s_prepare_accepts_1, trivial⟩ (fun a => congrFun e_prepare_Seen_Accepts_1_c161_c164 a)

/-! ### (trustquorum/prepare.Seen).Who -/
def sa_prepare_Seen_Who_c185_c161_c164 : SA U :=
 (.seq
 (.reg
 (op 2 (.box (tm 0))
 (op 4 (.mov (ci 0))
 .nil)))
 (.seq
 (.reg
 (op 5 (.mov (ci 0))
 .nil))
 (.seq
 (.seq
 (.reg
 (op 8 (.faddr 2 (tm 2))
 (op 9 (.load none (tm 8))
 (op 10 (.len false (tm 9))
 (op 11 (.mov (ci 0))
 .nil)))))
 (.block 0
 (.loop ⟨[.val 5 (Ty.i .i64), .val 11 (Ty.i .i64)], [1, 9, 10]⟩
 (.seq
 (.reg
 (op 12 (.bin .lss (tm 11) (tm 10))
 .nil))
 (.seq
 (.cond (tm 12)
 .skip
 (.exit 0))
 (.join ⟨[.val 5 (Ty.i .i64)], [1, 9, 10, 11]⟩
 (.block 1
 (.seq
 (.reg
 (op 13 (.iaddr 15 (tm 9) (tm 11))
 (op 14 (.load (some 15) (tm 13))
 (op 7 (.alloc [.int .i64 0, .int .i64 0, .int .i64 0, .int .i64 0, .nils, .nils, .int .i64 0, .int .i64 0, .str ⟨#[]⟩, .int .i64 0, .str ⟨#[]⟩, .int .i64 0, .str ⟨#[]⟩, .int .i64 0, .int .i64 0])
 (ops (.store 15 (tm 7) (tm 14))
 .nil)))))
 (.seq
 (.reg
 (op 15 (.mov (tm 1))
 (op 16 (.load (some 15) (tm 7))
 (op 17 (.callv (tm 15) [(tm 16)])
 .nil))))
 (.cond (tm 17)
 (.reg
 (op 18 (.mov (tm 5))
 (op 19 (.faddr 0 (tm 7))
 (op 20 (.faddr 0 (tm 19))
 (op 21 (.load none (tm 20))
 (op 22 (.bin .shl (ci 1) (tm 21))
 (op 23 (.bin .or (tm 18) (tm 22))
 (op 5 (.mov (tm 23))
 .nil))))))))
 .skip))))
 (.reg
 (op 24 (.bin .add (tm 11) (ci 1))
 (op 11 (.mov (tm 24))
 .nil)))))))))
 (.seq
 (.reg
 (op 25 (.mov (tm 5))
 (op 4 (.mov (tm 25))
 .nil)))
 .ret))))
theorem ok_prepare_Seen_Who_c185_c161_c164 : FnOk Tryz.prog 163 26 (SA.erase sa_prepare_Seen_Who_c185_c161_c164) [.tmp 4] := ⟨Tryz.f163, [], Tryz.func163, rfl, by kernel_rfl, by kernel_rfl, by kernel_rfl⟩
noncomputable def F_prepare_Seen_Who_c185_c161_c164 (a0 : TSeen) (a1 : TBallot) (a2 : TBallot) : Option Int :=
 loopO (fun (v1 : Int × Int × Unit) =>
 bif (decide (v1.2.1 < ((List.length a0.Heard : Nat) : Int))) then
 letJ (fun (v2 : Int × Unit) =>
 some (Sum.inl (v2.1, (addI .i64 v1.2.1 (1 : Int)), ()))) fun j3 =>
 Option.bind (idx a0.Heard v1.2.1) fun x4 =>
 Option.bind (F_prepare_Seen_Accepts_1_c161_c164 (TRight.mk (TEnvelope.mk x4.Envelope.Node x4.Envelope.Slot x4.Envelope.Seq (TTrust.mk x4.Envelope.Trust.Threshold x4.Envelope.Trust.Nodes x4.Envelope.Trust.Inner) x4.Envelope.Kind x4.Envelope.Ballot x4.Envelope.Prepared x4.Envelope.Prime x4.Envelope.Low x4.Envelope.High)) a1 a2) fun r5 =>
 bif r5 then
 if x4.Envelope.Node < 0 then none else
 j3 ((orI .i64 v1.1 (shlI .i64 (1 : Int) x4.Envelope.Node)), ())
 else
 j3 (v1.1, ())
 else
 Option.map Sum.inr (some v1.1)) ((0 : Int), (0 : Int), ())
noncomputable def k_prepare_Seen_Who_c185_c161_c164 : KFun U := .fn 163 [.ty (Ty.st .Seen), .clo 185 [.ref (.clo 161 [.ref (.ty (Ty.st .Ballot))]), .ref (.clo 164 [.ref (.ty (Ty.st .Ballot))])]] (.one (Ty.i .i64)) fun a => F_prepare_Seen_Who_c185_c161_c164 a.1 a.2.1.1.1 a.2.1.2.1.1
theorem e_prepare_Seen_Who_c185_c161_c164 : fnK K [k_prepare_Seen_Accepts_1_c161_c164] sa_prepare_Seen_Who_c185_c161_c164 [.tmp 4] [.ty (Ty.st .Seen), .clo 185 [.ref (.clo 161 [.ref (.ty (Ty.st .Ballot))]), .ref (.clo 164 [.ref (.ty (Ty.st .Ballot))])]] (.one (Ty.i .i64)) = fun a => F_prepare_Seen_Who_c185_c161_c164 a.1 a.2.1.1.1 a.2.1.2.1.1 := by kernel_rfl
theorem s_prepare_Seen_Who_c185_c161_c164 : KFun.Sound (U := U) Tryz.prog k_prepare_Seen_Who_c185_c161_c164 := fnK_sound (K := K) (Γ := [k_prepare_Seen_Accepts_1_c161_c164]) ok_prepare_Seen_Who_c185_c161_c164 (by kernel_rfl) (by decide) ⟨s_prepare_Seen_Accepts_1_c161_c164, trivial⟩ (fun a => congrFun e_prepare_Seen_Who_c185_c161_c164 a)

/-! ### (trustquorum/prepare.Seen).Who -/
def sa_prepare_Seen_Who_c164 : SA U :=
 (.seq
 (.reg
 (op 2 (.box (tm 0))
 (op 4 (.mov (ci 0))
 .nil)))
 (.seq
 (.reg
 (op 5 (.mov (ci 0))
 .nil))
 (.seq
 (.seq
 (.reg
 (op 8 (.faddr 2 (tm 2))
 (op 9 (.load none (tm 8))
 (op 10 (.len false (tm 9))
 (op 11 (.mov (ci 0))
 .nil)))))
 (.block 0
 (.loop ⟨[.val 5 (Ty.i .i64), .val 11 (Ty.i .i64)], [1, 9, 10]⟩
 (.seq
 (.reg
 (op 12 (.bin .lss (tm 11) (tm 10))
 .nil))
 (.seq
 (.cond (tm 12)
 .skip
 (.exit 0))
 (.join ⟨[.val 5 (Ty.i .i64)], [1, 9, 10, 11]⟩
 (.block 1
 (.seq
 (.reg
 (op 13 (.iaddr 15 (tm 9) (tm 11))
 (op 14 (.load (some 15) (tm 13))
 (op 7 (.alloc [.int .i64 0, .int .i64 0, .int .i64 0, .int .i64 0, .nils, .nils, .int .i64 0, .int .i64 0, .str ⟨#[]⟩, .int .i64 0, .str ⟨#[]⟩, .int .i64 0, .str ⟨#[]⟩, .int .i64 0, .int .i64 0])
 (ops (.store 15 (tm 7) (tm 14))
 .nil)))))
 (.seq
 (.reg
 (op 15 (.mov (tm 1))
 (op 16 (.load (some 15) (tm 7))
 (op 17 (.callv (tm 15) [(tm 16)])
 .nil))))
 (.cond (tm 17)
 (.reg
 (op 18 (.mov (tm 5))
 (op 19 (.faddr 0 (tm 7))
 (op 20 (.faddr 0 (tm 19))
 (op 21 (.load none (tm 20))
 (op 22 (.bin .shl (ci 1) (tm 21))
 (op 23 (.bin .or (tm 18) (tm 22))
 (op 5 (.mov (tm 23))
 .nil))))))))
 .skip))))
 (.reg
 (op 24 (.bin .add (tm 11) (ci 1))
 (op 11 (.mov (tm 24))
 .nil)))))))))
 (.seq
 (.reg
 (op 25 (.mov (tm 5))
 (op 4 (.mov (tm 25))
 .nil)))
 .ret))))
theorem ok_prepare_Seen_Who_c164 : FnOk Tryz.prog 163 26 (SA.erase sa_prepare_Seen_Who_c164) [.tmp 4] := ⟨Tryz.f163, [], Tryz.func163, rfl, by kernel_rfl, by kernel_rfl, by kernel_rfl⟩
noncomputable def F_prepare_Seen_Who_c164 (a0 : TSeen) (a1 : TBallot) : Option Int :=
 loopO (fun (v1 : Int × Int × Unit) =>
 bif (decide (v1.2.1 < ((List.length a0.Heard : Nat) : Int))) then
 letJ (fun (v2 : Int × Unit) =>
 some (Sum.inl (v2.1, (addI .i64 v1.2.1 (1 : Int)), ()))) fun j3 =>
 Option.bind (idx a0.Heard v1.2.1) fun x4 =>
 Option.bind (F_prepare_accepts_1 (TRight.mk (TEnvelope.mk x4.Envelope.Node x4.Envelope.Slot x4.Envelope.Seq (TTrust.mk x4.Envelope.Trust.Threshold x4.Envelope.Trust.Nodes x4.Envelope.Trust.Inner) x4.Envelope.Kind x4.Envelope.Ballot x4.Envelope.Prepared x4.Envelope.Prime x4.Envelope.Low x4.Envelope.High)) a1) fun r5 =>
 bif r5 then
 if x4.Envelope.Node < 0 then none else
 j3 ((orI .i64 v1.1 (shlI .i64 (1 : Int) x4.Envelope.Node)), ())
 else
 j3 (v1.1, ())
 else
 Option.map Sum.inr (some v1.1)) ((0 : Int), (0 : Int), ())
noncomputable def k_prepare_Seen_Who_c164 : KFun U := .fn 163 [.ty (Ty.st .Seen), .clo 164 [.ref (.ty (Ty.st .Ballot))]] (.one (Ty.i .i64)) fun a => F_prepare_Seen_Who_c164 a.1 a.2.1.1
theorem e_prepare_Seen_Who_c164 : fnK K [k_prepare_accepts_1] sa_prepare_Seen_Who_c164 [.tmp 4] [.ty (Ty.st .Seen), .clo 164 [.ref (.ty (Ty.st .Ballot))]] (.one (Ty.i .i64)) = fun a => F_prepare_Seen_Who_c164 a.1 a.2.1.1 := by kernel_rfl
theorem s_prepare_Seen_Who_c164 : KFun.Sound (U := U) Tryz.prog k_prepare_Seen_Who_c164 := fnK_sound (K := K) (Γ := [k_prepare_accepts_1]) ok_prepare_Seen_Who_c164 (by kernel_rfl) (by decide) ⟨s_prepare_accepts_1, trivial⟩ (fun a => congrFun e_prepare_Seen_Who_c164 a)

/-! ### (trustquorum/prepare.Seen).Accepts -/
def sa_prepare_Seen_Accepts_c161_c164 : SA U :=
 (.seq
 (.reg
 (op 3 (.box (tm 0))
 (op 4 (.box (tm 1))
 (op 5 (.box (tm 2))
 (op 6 (.mov (.cst (.bool false)))
 .nil)))))
 (.seq
 (.reg
 (op 8 (.load (some 3) (tm 3))
 (op 9 (.mkf 185 [(tm 4), (tm 5)])
 (op 10 (.call 163 [(tm 8), (tm 9)])
 (op 7 (.mov (tm 10))
 .nil)))))
 (.seq
 (.drw [(0, 2), (1, 2), (0, 3), (1, 3), (0, 5), (1, 5), (2, 5), (3, 5), (0, 6), (1, 6), (2, 6), (3, 6), (5, 6), (0, 7), (1, 7), (2, 7), (3, 7)]
 (op 11 (.faddr 1 (tm 3))
 (op 12 (.load (some 1) (tm 11))
 (op 13 (.faddr 0 (tm 3))
 (op 14 (.load none (tm 13))
 (op 15 (.mov (tm 7))
 (op 16 (.load (some 3) (tm 3))
 (op 17 (.load none (tm 5))
 (op 18 (.call 163 [(tm 16), (tm 17)])
 (op 19 (.call 186 [(tm 12), (tm 14), (tm 15), (tm 18)])
 (op 6 (.mov (tm 19))
 .nil)))))))))))
 .ret)))
theorem ok_prepare_Seen_Accepts_c161_c164 : FnOk Tryz.prog 156 20 (SA.erase sa_prepare_Seen_Accepts_c161_c164) [.tmp 6] := ⟨Tryz.f156, [], Tryz.func156, rfl, by kernel_rfl, by kernel_rfl, by kernel_rfl⟩
noncomputable def F_prepare_Seen_Accepts_c161_c164 (a0 : TSeen) (a1 : TBallot) (a2 : TBallot) : Option Bool :=
 Option.bind (F_prepare_Seen_Who_c185_c161_c164 a0 a1 a2) fun r1 =>
 Option.bind (F_prepare_Seen_Who_c164 a0 a2) fun r2 =>
 Option.bind (F_federated_Accepts a0.View a0.Node r1 r2) fun r3 =>
 some r3
noncomputable def k_prepare_Seen_Accepts_c161_c164 : KFun U := .fn 156 [.ty (Ty.st .Seen), .clo 161 [.ref (.ty (Ty.st .Ballot))], .clo 164 [.ref (.ty (Ty.st .Ballot))]] (.one Ty.bool) fun a => F_prepare_Seen_Accepts_c161_c164 a.1 a.2.1.1 a.2.2.1.1
theorem e_prepare_Seen_Accepts_c161_c164 : fnK K [k_prepare_Seen_Who_c185_c161_c164, k_prepare_Seen_Who_c164, k_federated_Accepts] sa_prepare_Seen_Accepts_c161_c164 [.tmp 6] [.ty (Ty.st .Seen), .clo 161 [.ref (.ty (Ty.st .Ballot))], .clo 164 [.ref (.ty (Ty.st .Ballot))]] (.one Ty.bool) = fun a => F_prepare_Seen_Accepts_c161_c164 a.1 a.2.1.1 a.2.2.1.1 := by kernel_rfl
theorem s_prepare_Seen_Accepts_c161_c164 : KFun.Sound (U := U) Tryz.prog k_prepare_Seen_Accepts_c161_c164 := fnK_sound (K := K) (Γ := [k_prepare_Seen_Who_c185_c161_c164, k_prepare_Seen_Who_c164, k_federated_Accepts]) ok_prepare_Seen_Accepts_c161_c164 (by kernel_rfl) (by decide) ⟨s_prepare_Seen_Who_c185_c161_c164, s_prepare_Seen_Who_c164, s_federated_Accepts, trivial⟩ (fun a => congrFun e_prepare_Seen_Accepts_c161_c164 a)

/-! ### (trustquorum/prepare.Seen).ready -/
def sa_prepare_Seen_ready : SA U :=
 (.seq
 (.reg
 (op 2 (.box (tm 0))
 (op 3 (.box (tm 1))
 (op 4 (.mov (.cst (.bool false)))
 .nil))))
 (.seq
 (.drw [(0, 2), (0, 3)]
 (op 5 (.load (some 3) (tm 2))
 (op 6 (.mkf 161 [(tm 3)])
 (op 7 (.load (some 2) (tm 3))
 (op 8 (.call 109 [(tm 7)])
 (op 9 (.call 156 [(tm 5), (tm 6), (tm 8)])
 (op 4 (.mov (tm 9))
 .nil)))))))
 .ret))
theorem ok_prepare_Seen_ready : FnOk Tryz.prog 107 10 (SA.erase sa_prepare_Seen_ready) [.tmp 4] := ⟨Tryz.f107, [], Tryz.func107, rfl, by kernel_rfl, by kernel_rfl, by kernel_rfl⟩
noncomputable def F_prepare_Seen_ready (a0 : TSeen) (a1 : TBallot) : Option Bool :=
 Option.bind (F_prepare_accepts a1) fun r1 =>
 Option.bind (F_prepare_Seen_Accepts_c161_c164 a0 a1 r1.1) fun r2 =>
 some r2
noncomputable def k_prepare_Seen_ready : KFun U := .fn 107 [.ty (Ty.st .Seen), .ty (Ty.st .Ballot)] (.one Ty.bool) fun a => F_prepare_Seen_ready a.1 a.2.1
theorem e_prepare_Seen_ready : fnK K [k_prepare_accepts, k_prepare_Seen_Accepts_c161_c164] sa_prepare_Seen_ready [.tmp 4] [.ty (Ty.st .Seen), .ty (Ty.st .Ballot)] (.one Ty.bool) = fun a => F_prepare_Seen_ready a.1 a.2.1 := by kernel_rfl
theorem s_prepare_Seen_ready : KFun.Sound (U := U) Tryz.prog k_prepare_Seen_ready := fnK_sound (K := K) (Γ := [k_prepare_accepts, k_prepare_Seen_Accepts_c161_c164]) ok_prepare_Seen_ready (by kernel_rfl) (by decide) ⟨s_prepare_accepts, s_prepare_Seen_Accepts_c161_c164, trivial⟩ (fun a => congrFun e_prepare_Seen_ready a)

/-! ### trustquorum/prepare.Accepts -/
def sa_prepare_Accepts : SA U :=
 (.seq
 (.reg
 (op 5 (.box (tm 1))
 (op 7 (.box (tm 3))
 (op 8 (.mov (.cst (.bool false)))
 .nil))))
 (.seq
 (.drw [(1, 4), (3, 4)]
 (op 9 (.mov (tm 0))
 (op 10 (.load (some 3) (tm 5))
 (op 11 (.mov (tm 2))
 (op 12 (.call 97 [(tm 9), (tm 10), (tm 11)])
 (op 13 (.load (some 2) (tm 7))
 (op 14 (.call 107 [(tm 12), (tm 13)])
 (op 8 (.mov (tm 14))
 .nil))))))))
 .ret))
theorem ok_prepare_Accepts : FnOk Tryz.prog 35 15 (SA.erase sa_prepare_Accepts) [.tmp 8] := ⟨Tryz.f35, [], Tryz.func35, rfl, by kernel_rfl, by kernel_rfl, by kernel_rfl⟩
noncomputable def F_prepare_Accepts (a0 : Int) (a1 : TTrust) (a2 : (List TEnvelope)) (a3 : TBallot) : Option Bool :=
 Option.bind (F_prepare_Look a0 (TTrust.mk a1.Threshold a1.Nodes a1.Inner) a2) fun r1 =>
 Option.bind (F_prepare_Seen_ready r1 a3) fun r2 =>
 some r2
noncomputable def k_prepare_Accepts : KFun U := .fn 35 [.ty (Ty.i .i64), .ty (Ty.st .Trust), .ty (Ty.sl (Ty.st .Envelope)), .ty (Ty.st .Ballot)] (.one Ty.bool) fun a => F_prepare_Accepts a.1 a.2.1 a.2.2.1 a.2.2.2.1
theorem e_prepare_Accepts : fnK K [k_prepare_Look, k_prepare_Seen_ready] sa_prepare_Accepts [.tmp 8] [.ty (Ty.i .i64), .ty (Ty.st .Trust), .ty (Ty.sl (Ty.st .Envelope)), .ty (Ty.st .Ballot)] (.one Ty.bool) = fun a => F_prepare_Accepts a.1 a.2.1 a.2.2.1 a.2.2.2.1 := by kernel_rfl
theorem s_prepare_Accepts : KFun.Sound (U := U) Tryz.prog k_prepare_Accepts := fnK_sound (K := K) (Γ := [k_prepare_Look, k_prepare_Seen_ready]) ok_prepare_Accepts (by kernel_rfl) (by decide) ⟨s_prepare_Look, s_prepare_Seen_ready, trivial⟩ (fun a => congrFun e_prepare_Accepts a)

/-! ### (trustquorum/prepare.Seen).Confirms -/
def sa_prepare_Seen_Confirms_c164 : SA U :=
 (.seq
 (.reg
 (op 2 (.box (tm 0))
 (op 4 (.mov (.cst (.bool false)))
 .nil)))
 (.seq
 (.drw [(0, 2), (1, 2), (0, 3), (1, 3), (0, 4), (1, 4), (2, 4), (3, 4), (0, 6), (1, 6), (2, 6), (3, 6)]
 (op 5 (.faddr 1 (tm 2))
 (op 6 (.load (some 1) (tm 5))
 (op 7 (.faddr 0 (tm 2))
 (op 8 (.load none (tm 7))
 (op 9 (.load (some 3) (tm 2))
 (op 10 (.mov (tm 1))
 (op 11 (.call 163 [(tm 9), (tm 10)])
 (op 12 (.call 162 [(tm 6), (tm 8), (tm 11)])
 (op 4 (.mov (tm 12))
 .nil))))))))))
 .ret))
theorem ok_prepare_Seen_Confirms_c164 : FnOk Tryz.prog 108 13 (SA.erase sa_prepare_Seen_Confirms_c164) [.tmp 4] := ⟨Tryz.f108, [], Tryz.func108, rfl, by kernel_rfl, by kernel_rfl, by kernel_rfl⟩
noncomputable def F_prepare_Seen_Confirms_c164 (a0 : TSeen) (a1 : TBallot) : Option Bool :=
 Option.bind (F_prepare_Seen_Who_c164 a0 a1) fun r1 =>
 Option.bind (F_federated_Confirms a0.View a0.Node r1) fun r2 =>
 some r2
noncomputable def k_prepare_Seen_Confirms_c164 : KFun U := .fn 108 [.ty (Ty.st .Seen), .clo 164 [.ref (.ty (Ty.st .Ballot))]] (.one Ty.bool) fun a => F_prepare_Seen_Confirms_c164 a.1 a.2.1.1
theorem e_prepare_Seen_Confirms_c164 : fnK K [k_prepare_Seen_Who_c164, k_federated_Confirms] sa_prepare_Seen_Confirms_c164 [.tmp 4] [.ty (Ty.st .Seen), .clo 164 [.ref (.ty (Ty.st .Ballot))]] (.one Ty.bool) = fun a => F_prepare_Seen_Confirms_c164 a.1 a.2.1.1 := by kernel_rfl
theorem s_prepare_Seen_Confirms_c164 : KFun.Sound (U := U) Tryz.prog k_prepare_Seen_Confirms_c164 := fnK_sound (K := K) (Γ := [k_prepare_Seen_Who_c164, k_federated_Confirms]) ok_prepare_Seen_Confirms_c164 (by kernel_rfl) (by decide) ⟨s_prepare_Seen_Who_c164, s_federated_Confirms, trivial⟩ (fun a => congrFun e_prepare_Seen_Confirms_c164 a)

/-! ### trustquorum/prepare.Confirms -/
def sa_prepare_Confirms : SA U :=
 (.seq
 (.reg
 (op 5 (.box (tm 1))
 (op 7 (.box (tm 3))
 (op 8 (.mov (.cst (.bool false)))
 .nil))))
 (.seq
 (.drw [(1, 4), (3, 4)]
 (op 9 (.mov (tm 0))
 (op 10 (.load (some 3) (tm 5))
 (op 11 (.mov (tm 2))
 (op 12 (.call 97 [(tm 9), (tm 10), (tm 11)])
 (op 13 (.load (some 2) (tm 7))
 (op 14 (.call 109 [(tm 13)])
 (op 15 (.call 108 [(tm 12), (tm 14)])
 (op 8 (.mov (tm 15))
 .nil)))))))))
 .ret))
theorem ok_prepare_Confirms : FnOk Tryz.prog 36 16 (SA.erase sa_prepare_Confirms) [.tmp 8] := ⟨Tryz.f36, [], Tryz.func36, rfl, by kernel_rfl, by kernel_rfl, by kernel_rfl⟩
noncomputable def F_prepare_Confirms (a0 : Int) (a1 : TTrust) (a2 : (List TEnvelope)) (a3 : TBallot) : Option Bool :=
 Option.bind (F_prepare_Look a0 (TTrust.mk a1.Threshold a1.Nodes a1.Inner) a2) fun r1 =>
 Option.bind (F_prepare_accepts a3) fun r2 =>
 Option.bind (F_prepare_Seen_Confirms_c164 r1 r2.1) fun r3 =>
 some r3
noncomputable def k_prepare_Confirms : KFun U := .fn 36 [.ty (Ty.i .i64), .ty (Ty.st .Trust), .ty (Ty.sl (Ty.st .Envelope)), .ty (Ty.st .Ballot)] (.one Ty.bool) fun a => F_prepare_Confirms a.1 a.2.1 a.2.2.1 a.2.2.2.1
theorem e_prepare_Confirms : fnK K [k_prepare_Look, k_prepare_accepts, k_prepare_Seen_Confirms_c164] sa_prepare_Confirms [.tmp 8] [.ty (Ty.i .i64), .ty (Ty.st .Trust), .ty (Ty.sl (Ty.st .Envelope)), .ty (Ty.st .Ballot)] (.one Ty.bool) = fun a => F_prepare_Confirms a.1 a.2.1 a.2.2.1 a.2.2.2.1 := by kernel_rfl
theorem s_prepare_Confirms : KFun.Sound (U := U) Tryz.prog k_prepare_Confirms := fnK_sound (K := K) (Γ := [k_prepare_Look, k_prepare_accepts, k_prepare_Seen_Confirms_c164]) ok_prepare_Confirms (by kernel_rfl) (by decide) ⟨s_prepare_Look, s_prepare_accepts, s_prepare_Seen_Confirms_c164, trivial⟩ (fun a => congrFun e_prepare_Confirms a)

/-! ### trustquorum/trustquorumref25.Join -/
def sa_ref25_Join : SA U :=
 (.seq
 (.reg
 (op 3 (.box (tm 0))
 (op 4 (.box (tm 1))
 (op 5 (.box (tm 2))
 (op 6 (.alloc [.int .i64 0, .str ⟨#[]⟩])
 (op 7 (.alloc [.int .i64 0, .str ⟨#[]⟩])
 .nil))))))
 (.seq
 (.block 0
 (.seq
 (.reg
 (op 9 (.load (some 2) (tm 5))
 (op 10 (.call 39 [(tm 9)])
 (op 8 (.mov (tm 10))
 .nil))))
 (.cond (tm 8)
 (.seq
 (.drw [(0, 1), (1, 2)]
 (op 11 (.load (some 2) (tm 3))
 (op 12 (.load (some 2) (tm 4))
 (ops (.store 2 (tm 6) (tm 11))
 (ops (.store 2 (tm 7) (tm 12))
 .nil)))))
 .ret)
 (.seq
 (.reg
 (op 14 (.load (some 2) (tm 3))
 (op 15 (.call 39 [(tm 14)])
 (op 13 (.mov (tm 15))
 .nil))))
 (.cond (tm 13)
 (.seq
 (.drw [(0, 1), (1, 2)]
 (op 16 (.load (some 2) (tm 5))
 (op 17 (.load (some 2) (tm 4))
 (ops (.store 2 (tm 6) (tm 16))
 (ops (.store 2 (tm 7) (tm 17))
 .nil)))))
 .ret)
 (.seq
 (.reg
 (op 19 (.load (some 2) (tm 3))
 (op 20 (.load (some 2) (tm 5))
 (op 21 (.call 15 [(tm 19), (tm 20)])
 (op 18 (.mov (tm 21))
 .nil)))))
 (.cond (tm 18)
 (.seq
 (.seq
 (.reg
 (op 22 (.load (some 2) (tm 3))
 (op 23 (.load (some 2) (tm 5))
 (op 24 (.call 106 [(tm 22), (tm 23)])
 (op 25 (.not (tm 24))
 .nil)))))
 (.cond (tm 25)
 (.seq
 (.drw [(0, 1), (1, 2)]
 (op 26 (.load (some 2) (tm 5))
 (op 27 (.load (some 2) (tm 3))
 (ops (.store 2 (tm 6) (tm 26))
 (ops (.store 2 (tm 7) (tm 27))
 .nil)))))
 .ret)
 .skip))
 (.join ⟨[.box 1 1 (Ty.st .Ballot) []], [4, 5, 6, 7]⟩
 (.seq
 (.reg
 (op 28 (.load (some 2) (tm 4))
 (op 29 (.load (some 2) (tm 5))
 (op 30 (.call 106 [(tm 28), (tm 29)])
 .nil))))
 (.cond (tm 30)
 (.reg
 (op 31 (.build [.int .i64 0, .str ⟨#[]⟩] [])
 (ops (.store 2 (tm 4) (tm 31))
 .nil)))
 .skip))
 (.seq
 (.drw [(0, 1), (1, 2)]
 (op 32 (.load (some 2) (tm 5))
 (op 33 (.load (some 2) (tm 4))
 (ops (.store 2 (tm 6) (tm 32))
 (ops (.store 2 (tm 7) (tm 33))
 .nil)))))
 .ret)))
 (.seq
 (.reg
 (op 35 (.load (some 2) (tm 5))
 (op 36 (.load (some 2) (tm 3))
 (op 37 (.call 15 [(tm 35), (tm 36)])
 (op 38 (.mov (tm 37))
 (.ite 38 true
 (opg 39 38 true (.load (some 2) (tm 5))
 (opg 40 38 true (.load (some 2) (tm 3))
 (opg 41 38 true (.call 106 [(tm 39), (tm 40)])
 (opg 42 38 true (.not (tm 41))
 .nil))))
 43 none (tm 42) (.cst (.bool false))
 (op 44 (.mov (tm 43))
 (.ite 44 true
 (opg 45 44 true (.load (some 2) (tm 4))
 (opg 46 44 true (.call 39 [(tm 45)])
 (opg 47 44 true (.mov (tm 46))
 (.ite 47 false
 (opg 48 47 false (.load (some 2) (tm 4))
 (opg 49 47 false (.load (some 2) (tm 5))
 (opg 50 47 false (.call 15 [(tm 48), (tm 49)])
 .nil)))
 51 (some (44, true)) (.cst (.bool true)) (tm 50)
 .nil))))
 52 none (tm 51) (.cst (.bool false))
 (op 34 (.mov (tm 52))
 .nil)))))))))
 (.cond (tm 34)
 (.seq
 (.drw [(0, 1), (1, 2)]
 (op 53 (.load (some 2) (tm 3))
 (op 54 (.load (some 2) (tm 5))
 (ops (.store 2 (tm 6) (tm 53))
 (ops (.store 2 (tm 7) (tm 54))
 .nil)))))
 .ret)
 .skip)))))))))
 (.seq
 (.drw [(0, 1), (1, 2)]
 (op 55 (.load (some 2) (tm 3))
 (op 56 (.load (some 2) (tm 4))
 (ops (.store 2 (tm 6) (tm 55))
 (ops (.store 2 (tm 7) (tm 56))
 .nil)))))
 .ret)))
theorem ok_ref25_Join : FnOk Tryz.prog 37 57 (SA.erase sa_ref25_Join) [.cell 6 (some 2), .cell 7 (some 2)] := ⟨Tryz.f37, [], Tryz.func37, rfl, by kernel_rfl, by kernel_rfl, by kernel_rfl⟩
noncomputable def F_ref25_Join (a0 : TBallot) (a1 : TBallot) (a2 : TBallot) : Option (TBallot × TBallot × Unit) :=
 Option.bind (F_ref23_Zero a2) fun r1 =>
 bif r1 then
 some (a0, a1, ())
 else
 Option.bind (F_ref23_Zero a0) fun r2 =>
 bif r2 then
 some (a2, a1, ())
 else
 Option.bind (F_ref23_Less a0 a2) fun r3 =>
 bif r3 then
 Option.bind (F_ref23_Compatible a0 a2) fun r4 =>
 bif (!r4) then
 some (a2, a0, ())
 else
 letJ (fun (v5 : TBallot × Unit) =>
 some (a2, v5.1, ())) fun j6 =>
 Option.bind (F_ref23_Compatible a1 a2) fun r7 =>
 bif r7 then
 j6 ((TBallot.mk (0 : Int) (ByteArray.mk #[])), ())
 else
 j6 (a1, ())
 else
 Option.bind (F_ref23_Less a2 a0) fun r8 =>
 Option.bind (bif r8 then
 Option.bind (F_ref23_Compatible a2 a0) fun r9 =>
 some (!r9)
 else some false) fun b10 =>
 Option.bind (bif b10 then
 Option.bind (F_ref23_Zero a1) fun r11 =>
 Option.bind (bif r11 then some true
 else
 Option.bind (F_ref23_Less a1 a2) fun r12 =>
 some r12) fun b13 =>
 some b13
 else some false) fun b14 =>
 bif b14 then
 some (a0, a2, ())
 else
 some (a0, a1, ())
noncomputable def k_ref25_Join : KFun U := .fn 37 [.ty (Ty.st .Ballot), .ty (Ty.st .Ballot), .ty (Ty.st .Ballot)] (.many [(Ty.st .Ballot), (Ty.st .Ballot)]) fun a => F_ref25_Join a.1 a.2.1 a.2.2.1
theorem e_ref25_Join : fnK K [k_ref23_Zero, k_ref23_Less, k_ref23_Compatible] sa_ref25_Join [.cell 6 (some 2), .cell 7 (some 2)] [.ty (Ty.st .Ballot), .ty (Ty.st .Ballot), .ty (Ty.st .Ballot)] (.many [(Ty.st .Ballot), (Ty.st .Ballot)]) = fun a => F_ref25_Join a.1 a.2.1 a.2.2.1 := by kernel_rfl
theorem s_ref25_Join : KFun.Sound (U := U) Tryz.prog k_ref25_Join := fnK_sound (K := K) (Γ := [k_ref23_Zero, k_ref23_Less, k_ref23_Compatible]) ok_ref25_Join (by kernel_rfl) (by decide) ⟨s_ref23_Zero, s_ref23_Less, s_ref23_Compatible, trivial⟩ (fun a => congrFun e_ref25_Join a)

/-! ### trustquorum/prepare.endless -/
def sa_prepare_endless : SA U :=
 (.seq
 (.reg
 (op 1 (.box (tm 0))
 (op 2 (.alloc [.int .i64 0, .str ⟨#[]⟩])
 .nil)))
 (.join ⟨[.box 0 1 (Ty.st .Ballot) []], [1, 2]⟩
 (.seq
 (.reg
 (op 3 (.faddr 0 (tm 1))
 (op 4 (.load none (tm 3))
 (op 5 (.bin .geq (tm 4) (ci 1000))
 .nil))))
 (.cond (tm 5)
 (.reg
 (op 6 (.faddr 0 (tm 1))
 (ops (.store 1 (tm 6) (ci 1000000))
 .nil)))
 .skip))
 (.seq
 (.reg
 (op 7 (.load (some 2) (tm 1))
 (ops (.store 2 (tm 2) (tm 7))
 .nil)))
 .ret)))
theorem ok_prepare_endless : FnOk Tryz.prog 111 8 (SA.erase sa_prepare_endless) [.cell 2 (some 2)] := ⟨Tryz.f111, [], Tryz.func111, rfl, by kernel_rfl, by kernel_rfl, by kernel_rfl⟩
noncomputable def F_prepare_endless (a0 : TBallot) : Option TBallot :=
 letJ (fun (v1 : TBallot × Unit) =>
 some v1.1) fun j2 =>
 bif (decide ((1000 : Int) ≤ a0.Counter)) then
 j2 ((TBallot.mk (1000000 : Int) a0.Value), ())
 else
 j2 (a0, ())
noncomputable def k_prepare_endless : KFun U := .fn 111 [.ty (Ty.st .Ballot)] (.one (Ty.st .Ballot)) fun a => F_prepare_endless a.1
theorem e_prepare_endless : fnK K [] sa_prepare_endless [.cell 2 (some 2)] [.ty (Ty.st .Ballot)] (.one (Ty.st .Ballot)) = fun a => F_prepare_endless a.1 := by kernel_rfl
theorem s_prepare_endless : KFun.Sound (U := U) Tryz.prog k_prepare_endless := fnK_sound (K := K) (Γ := []) ok_prepare_endless (by kernel_rfl) (by decide) trivial (fun a => congrFun e_prepare_endless a)

/-! ### trustquorum/prepare.Next -/
def sa_prepare_Next : SA U :=
 (.seq
 (.reg
 (op 7 (.box (tm 1))
 (op 9 (.box (tm 3))
 (op 10 (.box (tm 4))
 (op 12 (.alloc [.int .i64 0, .str ⟨#[]⟩])
 .nil)))))
 (.seq
 (.reg
 (op 16 (.mov (tm 0))
 (op 17 (.load (some 3) (tm 7))
 (op 18 (.mov (tm 2))
 (op 19 (.call 97 [(tm 16), (tm 17), (tm 18)])
 (op 13 (.alloc [.int .i64 0, .nils, .nils])
 (ops (.store 3 (tm 13) (tm 19))
 .nil)))))))
 (.seq
 (.seq
 (.reg
 (op 20 (.mov (tm 2))
 (op 21 (.call 13 [(tm 20)])
 (op 22 (.len false (tm 21))
 (op 23 (.mov (ci 0))
 .nil)))))
 (.block 0
 (.loop ⟨[.val 23 (Ty.i .i64), .box 3 1 (Ty.st .Ballot) []], [5, 9, 10, 12, 13, 21, 22]⟩
 (.seq
 (.reg
 (op 24 (.bin .lss (tm 23) (tm 22))
 .nil))
 (.seq
 (.cond (tm 24)
 .skip
 (.exit 0))
 (.seq
 (.block 1
 (.seq
 (.reg
 (op 25 (.iaddr 2 (tm 21) (tm 23))
 (op 26 (.load (some 2) (tm 25))
 (op 15 (.alloc [.int .i64 0, .str ⟨#[]⟩])
 (ops (.store 2 (tm 15) (tm 26))
 .nil)))))
 (.join ⟨[.val 48 Ty.bool], [5, 9, 10, 12, 13, 15, 21, 22, 23]⟩
 (.drw [(9, 11), (10, 11), (9, 13), (10, 13), (11, 13), (12, 13), (18, 19)]
 (op 27 (.mov (tm 5))
 (op 28 (.bin .eql (tm 27) (.cst (.str ⟨#[]⟩)))
 (op 29 (.mov (tm 28))
 (.spl 29
 (opg 30 29 false (.faddr 1 (tm 15))
 (opg 31 29 false (.load none (tm 30))
 (opg 32 29 false (.mov (tm 5))
 (opg 33 29 false (.bin .eql (tm 31) (tm 32))
 (op 34 (.pick (tm 29) (.cst (.bool true)) (tm 33))
 (op 35 (.mov (tm 34))
 (.spl 35
 (opg 36 35 true (.load (some 2) (tm 9))
 (opg 37 35 true (.call 111 [(tm 36)])
 (opg 38 35 true (.load (some 2) (tm 10))
 (opg 39 35 true (.call 111 [(tm 38)])
 (opg 40 35 true (.load (some 2) (tm 15))
 (opg 41 35 true (.call 110 [(tm 37), (tm 39), (tm 40)])
 (opg 42 35 true (.not (tm 41))
 (op 43 (.pick (tm 35) (tm 42) (.cst (.bool false)))
 (op 44 (.mov (tm 43))
 (.spl 44
 (opg 45 44 true (.load (some 3) (tm 13))
 (opg 46 44 true (.load (some 2) (tm 15))
 (opg 47 44 true (.call 107 [(tm 45), (tm 46)])
 (op 48 (.pick (tm 44) (tm 47) (.cst (.bool false)))
 .nil))))))))))))))))))))))))))
 (.cond (tm 48)
 (.seq
 (.reg
 (op 49 (.load (some 2) (tm 15))
 (ops (.store 2 (tm 12) (tm 49))
 .nil)))
 .ret)
 .skip))))
 (.reg
 (op 50 (.bin .add (tm 23) (ci 1))
 (op 23 (.mov (tm 50))
 .nil)))))))))
 (.seq
 (.reg
 (op 51 (.build [.int .i64 0, .str ⟨#[]⟩] [])
 (ops (.store 2 (tm 12) (tm 51))
 .nil)))
 .ret))))
theorem ok_prepare_Next : FnOk Tryz.prog 38 52 (SA.erase sa_prepare_Next) [.cell 12 (some 2)] := ⟨Tryz.f38, [], Tryz.func38, rfl, by kernel_rfl, by kernel_rfl, by kernel_rfl⟩
noncomputable def F_prepare_Next (a0 : Int) (a1 : TTrust) (a2 : (List TEnvelope)) (a3 : TBallot) (a4 : TBallot) (a5 : ByteArray) : Option TBallot :=
 Option.bind (F_prepare_Look a0 (TTrust.mk a1.Threshold a1.Nodes a1.Inner) a2) fun r1 =>
 Option.bind (F_envelopes_Ballots a2) fun r2 =>
 loopO (fun (v3 : Int × TBallot × Unit) =>
 bif (decide (v3.1 < ((List.length r2 : Nat) : Int))) then
 Option.bind (idx r2 v3.1) fun x4 =>
 letJ (fun (v5 : Bool × Unit) =>
 bif v5.1 then
 Option.map Sum.inr (some x4)
 else
 some (Sum.inl ((addI .i64 v3.1 (1 : Int)), v3.2.1, ()))) fun j6 =>
 bif (decide (a5 = (ByteArray.mk #[]))) then
 Option.bind (F_prepare_endless a3) fun r7 =>
 Option.bind (F_prepare_endless a4) fun r8 =>
 Option.bind (F_ballots_Prepares r7 r8 x4) fun r9 =>
 bif (!r9) then
 Option.bind (F_prepare_Seen_ready r1 x4) fun r10 =>
 j6 (r10, ())
 else
 j6 (false, ())
 else
 bif (decide (x4.Value = a5)) then
 Option.bind (F_prepare_endless a3) fun r11 =>
 Option.bind (F_prepare_endless a4) fun r12 =>
 Option.bind (F_ballots_Prepares r11 r12 x4) fun r13 =>
 bif (!r13) then
 Option.bind (F_prepare_Seen_ready r1 x4) fun r14 =>
 j6 (r14, ())
 else
 j6 (false, ())
 else
 j6 (false, ())
 else
 Option.map Sum.inr (some (TBallot.mk (0 : Int) (ByteArray.mk #[])))) ((0 : Int), (TBallot.mk (0 : Int) (ByteArray.mk #[])), ())
noncomputable def k_prepare_Next : KFun U := .fn 38 [.ty (Ty.i .i64), .ty (Ty.st .Trust), .ty (Ty.sl (Ty.st .Envelope)), .ty (Ty.st .Ballot), .ty (Ty.st .Ballot), .ty Ty.str] (.one (Ty.st .Ballot)) fun a => F_prepare_Next a.1 a.2.1 a.2.2.1 a.2.2.2.1 a.2.2.2.2.1 a.2.2.2.2.2.1
theorem e_prepare_Next : fnK K [k_prepare_Look, k_envelopes_Ballots, k_prepare_endless, k_ballots_Prepares, k_prepare_Seen_ready] sa_prepare_Next [.cell 12 (some 2)] [.ty (Ty.i .i64), .ty (Ty.st .Trust), .ty (Ty.sl (Ty.st .Envelope)), .ty (Ty.st .Ballot), .ty (Ty.st .Ballot), .ty Ty.str] (.one (Ty.st .Ballot)) = fun a => F_prepare_Next a.1 a.2.1 a.2.2.1 a.2.2.2.1 a.2.2.2.2.1 a.2.2.2.2.2.1 := by kernel_rfl
theorem s_prepare_Next : KFun.Sound (U := U) Tryz.prog k_prepare_Next := fnK_sound (K := K) (Γ := [k_prepare_Look, k_envelopes_Ballots, k_prepare_endless, k_ballots_Prepares, k_prepare_Seen_ready]) ok_prepare_Next (by kernel_rfl) (by decide) ⟨s_prepare_Look, s_envelopes_Ballots, s_prepare_endless, s_ballots_Prepares, s_prepare_Seen_ready, trivial⟩ (fun a => congrFun e_prepare_Next a)

/-! ### trustquorum/prepare.Join -/
def sa_prepare_Join : SA U :=
 (.seq
 (.reg
 (op 3 (.box (tm 0))
 (op 4 (.box (tm 1))
 (op 5 (.box (tm 2))
 (op 6 (.alloc [.int .i64 0, .str ⟨#[]⟩])
 (op 7 (.alloc [.int .i64 0, .str ⟨#[]⟩])
 .nil))))))
 (.join ⟨[.box 1 1 (Ty.st .Ballot) [], .box 3 1 (Ty.st .Ballot) [], .box 4 1 (Ty.st .Ballot) []], [3, 4, 6, 7]⟩
 (.block 0
 (.seq
 (.reg
 (op 9 (.load (some 2) (tm 5))
 (op 10 (.call 85 [(tm 9)])
 (op 8 (.mov (tm 10))
 .nil))))
 (.cond (tm 8)
 .skip
 (.seq
 (.reg
 (op 12 (.load (some 2) (tm 3))
 (op 13 (.call 85 [(tm 12)])
 (op 11 (.mov (tm 13))
 .nil))))
 (.cond (tm 11)
 (.seq
 (.drw [(0, 1), (1, 2)]
 (op 14 (.load (some 2) (tm 5))
 (op 15 (.load (some 2) (tm 4))
 (ops (.store 2 (tm 6) (tm 14))
 (ops (.store 2 (tm 7) (tm 15))
 .nil)))))
 .ret)
 (.seq
 (.reg
 (op 17 (.load (some 2) (tm 3))
 (op 18 (.load (some 2) (tm 5))
 (op 19 (.call 101 [(tm 17), (tm 18)])
 (op 16 (.mov (tm 19))
 .nil)))))
 (.cond (tm 16)
 (.join ⟨[.box 1 1 (Ty.st .Ballot) []], [3, 4, 5, 6, 7]⟩
 (.block 1
 (.seq
 (.reg
 (op 21 (.load (some 2) (tm 3))
 (op 22 (.load (some 2) (tm 5))
 (op 23 (.call 114 [(tm 21), (tm 22)])
 (op 24 (.not (tm 23))
 (op 20 (.mov (tm 24))
 .nil))))))
 (.cond (tm 20)
 (.reg
 (op 25 (.load (some 2) (tm 3))
 (ops (.store 2 (tm 4) (tm 25))
 .nil)))
 (.seq
 (.reg
 (op 27 (.load (some 2) (tm 4))
 (op 28 (.load (some 2) (tm 5))
 (op 29 (.call 114 [(tm 27), (tm 28)])
 (op 26 (.mov (tm 29))
 .nil)))))
 (.cond (tm 26)
 (.reg
 (op 30 (.build [.int .i64 0, .str ⟨#[]⟩] [])
 (ops (.store 2 (tm 4) (tm 30))
 .nil)))
 .skip)))))
 (.seq
 (.drw [(0, 1), (1, 2)]
 (op 31 (.load (some 2) (tm 5))
 (op 32 (.load (some 2) (tm 4))
 (ops (.store 2 (tm 6) (tm 31))
 (ops (.store 2 (tm 7) (tm 32))
 .nil)))))
 .ret))
 (.seq
 (.reg
 (op 34 (.load (some 2) (tm 5))
 (op 35 (.load (some 2) (tm 3))
 (op 36 (.call 101 [(tm 34), (tm 35)])
 (op 37 (.mov (tm 36))
 (.ite 37 true
 (opg 38 37 true (.load (some 2) (tm 3))
 (opg 39 37 true (.load (some 2) (tm 5))
 (opg 40 37 true (.call 114 [(tm 38), (tm 39)])
 (opg 41 37 true (.not (tm 40))
 .nil))))
 42 none (tm 41) (.cst (.bool false))
 (op 43 (.mov (tm 42))
 (.ite 43 true
 (opg 44 43 true (.load (some 2) (tm 4))
 (opg 45 43 true (.call 85 [(tm 44)])
 (opg 46 43 true (.mov (tm 45))
 (.ite 46 false
 (opg 47 46 false (.load (some 2) (tm 4))
 (opg 48 46 false (.load (some 2) (tm 5))
 (opg 49 46 false (.call 101 [(tm 47), (tm 48)])
 .nil)))
 50 (some (43, true)) (.cst (.bool true)) (tm 49)
 .nil))))
 51 none (tm 50) (.cst (.bool false))
 (op 33 (.mov (tm 51))
 .nil)))))))))
 (.cond (tm 33)
 (.seq
 (.drw [(0, 1), (1, 2)]
 (op 52 (.load (some 2) (tm 3))
 (op 53 (.load (some 2) (tm 5))
 (ops (.store 2 (tm 6) (tm 52))
 (ops (.store 2 (tm 7) (tm 53))
 .nil)))))
 .ret)
 .skip)))))))))
 (.seq
 (.drw [(0, 1), (1, 2)]
 (op 54 (.load (some 2) (tm 3))
 (op 55 (.load (some 2) (tm 4))
 (ops (.store 2 (tm 6) (tm 54))
 (ops (.store 2 (tm 7) (tm 55))
 .nil)))))
 .ret)))
theorem ok_prepare_Join : FnOk Tryz.prog 45 56 (SA.erase sa_prepare_Join) [.cell 6 (some 2), .cell 7 (some 2)] := ⟨Tryz.f45, [], Tryz.func45, rfl, by kernel_rfl, by kernel_rfl, by kernel_rfl⟩
noncomputable def F_prepare_Join (a0 : TBallot) (a1 : TBallot) (a2 : TBallot) : Option (TBallot × TBallot × Unit) :=
 letJ (fun (v1 : TBallot × TBallot × TBallot × Unit) =>
 some (a0, v1.1, ())) fun j2 =>
 Option.bind (F_ballots_Zero a2) fun r3 =>
 bif r3 then
 j2 (a1, (TBallot.mk (0 : Int) (ByteArray.mk #[])), (TBallot.mk (0 : Int) (ByteArray.mk #[])), ())
 else
 Option.bind (F_ballots_Zero a0) fun r4 =>
 bif r4 then
 some (a2, a1, ())
 else
 Option.bind (F_ballots_Less a0 a2) fun r5 =>
 bif r5 then
 letJ (fun (v6 : TBallot × Unit) =>
 some (a2, v6.1, ())) fun j7 =>
 Option.bind (F_ballots_Compatible a0 a2) fun r8 =>
 bif (!r8) then
 j7 (a0, ())
 else
 Option.bind (F_ballots_Compatible a1 a2) fun r9 =>
 bif r9 then
 j7 ((TBallot.mk (0 : Int) (ByteArray.mk #[])), ())
 else
 j7 (a1, ())
 else
 Option.bind (F_ballots_Less a2 a0) fun r10 =>
 Option.bind (bif r10 then
 Option.bind (F_ballots_Compatible a0 a2) fun r11 =>
 some (!r11)
 else some false) fun b12 =>
 Option.bind (bif b12 then
 Option.bind (F_ballots_Zero a1) fun r13 =>
 Option.bind (bif r13 then some true
 else
 Option.bind (F_ballots_Less a1 a2) fun r14 =>
 some r14) fun b15 =>
 some b15
 else some false) fun b16 =>
 bif b16 then
 some (a0, a2, ())
 else
 j2 (a1, (TBallot.mk (0 : Int) (ByteArray.mk #[])), (TBallot.mk (0 : Int) (ByteArray.mk #[])), ())
noncomputable def k_prepare_Join : KFun U := .fn 45 [.ty (Ty.st .Ballot), .ty (Ty.st .Ballot), .ty (Ty.st .Ballot)] (.many [(Ty.st .Ballot), (Ty.st .Ballot)]) fun a => F_prepare_Join a.1 a.2.1 a.2.2.1
theorem e_prepare_Join : fnK K [k_ballots_Zero, k_ballots_Less, k_ballots_Compatible] sa_prepare_Join [.cell 6 (some 2), .cell 7 (some 2)] [.ty (Ty.st .Ballot), .ty (Ty.st .Ballot), .ty (Ty.st .Ballot)] (.many [(Ty.st .Ballot), (Ty.st .Ballot)]) = fun a => F_prepare_Join a.1 a.2.1 a.2.2.1 := by kernel_rfl
theorem s_prepare_Join : KFun.Sound (U := U) Tryz.prog k_prepare_Join := fnK_sound (K := K) (Γ := [k_ballots_Zero, k_ballots_Less, k_ballots_Compatible]) ok_prepare_Join (by kernel_rfl) (by decide) ⟨s_ballots_Zero, s_ballots_Less, s_ballots_Compatible, trivial⟩ (fun a => congrFun e_prepare_Join a)

/-! ### trustquorum/trustquorumlaw25.sane -/
def sa_law25_sane : SA U :=
 (.seq
 (.reg
 (op 0 (.mov (.cst (.bool false)))
 .nil))
 (.seq
 (.reg
 (op 5 (.build [.int .i64 0, .str ⟨#[]⟩] [(0, 1, (ci 2)), (1, 1, (.cst (.str ⟨#[97]⟩)))])
 (op 6 (.build [.int .i64 0, .str ⟨#[]⟩] [])
 (op 7 (.build [.int .i64 0, .str ⟨#[]⟩] [(0, 1, (ci 3)), (1, 1, (.cst (.str ⟨#[98]⟩)))])
 (op 8 (.call 45 [(tm 5), (tm 6), (tm 7)])
 (op 4 (.mov (tm 8))
 (op 9 (.extr 0 (tm 4))
 (op 10 (.extr 1 (tm 4))
 (op 1 (.alloc [.int .i64 0, .str ⟨#[]⟩])
 (op 2 (.alloc [.int .i64 0, .str ⟨#[]⟩])
 (ops (.store 2 (tm 1) (tm 9))
 (ops (.store 2 (tm 2) (tm 10))
 .nil))))))))))))
 (.seq
 (.reg
 (op 11 (.call 30 [(ci 2), (ci 1)])
 (op 12 (.call 47 [(ci 0), (tm 11), (.cst (.nils))])
 (op 3 (.alloc [.nils])
 (ops (.store 1 (tm 3) (tm 12))
 .nil)))))
 (.seq
 (.reg
 (op 13 (.load (some 2) (tm 1))
 (op 14 (.build [.int .i64 0, .str ⟨#[]⟩] [(0, 1, (ci 3)), (1, 1, (.cst (.str ⟨#[98]⟩)))])
 (op 15 (.eq2 false (tm 13) (tm 14))
 (op 16 (.mov (tm 15))
 (.ite 16 true
 (opg 17 16 true (.load (some 2) (tm 2))
 (opg 18 16 true (.build [.int .i64 0, .str ⟨#[]⟩] [(0, 1, (ci 2)), (1, 1, (.cst (.str ⟨#[97]⟩)))])
 (opg 19 16 true (.eq2 false (tm 17) (tm 18))
 .nil)))
 20 none (tm 19) (.cst (.bool false))
 (op 21 (.mov (tm 20))
 (.ite 21 true
 (opg 22 21 true (.faddr 0 (tm 3))
 (opg 23 21 true (.load none (tm 22))
 (opg 24 21 true (.len false (tm 23))
 (opg 25 21 true (.bin .eql (tm 24) (ci 10))
 .nil))))
 26 none (tm 25) (.cst (.bool false))
 (op 27 (.mov (tm 26))
 (.ite 27 true
 (opg 28 27 true (.faddr 0 (tm 3))
 (opg 29 27 true (.load none (tm 28))
 (opg 30 27 true (.iaddr 4 (tm 29) (ci 0))
 (opg 31 27 true (.faddr 0 (tm 30))
 (opg 32 27 true (.load none (tm 31))
 .nil)))))
 33 none (tm 32) (.cst (.bool false))
 (op 0 (.mov (tm 33))
 .nil)))))))))))
 .ret))))
theorem ok_law25_sane : FnOk Tryz.prog 41 34 (SA.erase sa_law25_sane) [.tmp 0] := ⟨Tryz.f41, [], Tryz.func41, rfl, by kernel_rfl, by kernel_rfl, by kernel_rfl⟩
noncomputable def F_law25_sane  : Option Bool :=
 Option.bind (F_prepare_Join (TBallot.mk (2 : Int) (ByteArray.mk #[97])) (TBallot.mk (0 : Int) (ByteArray.mk #[])) (TBallot.mk (3 : Int) (ByteArray.mk #[98]))) fun r1 =>
 Option.bind (F_play_Flat (2 : Int) (1 : Int)) fun r2 =>
 Option.bind (F_prepare_View (0 : Int) (TTrust.mk r2.Threshold r2.Nodes r2.Inner) ([] : List TEnvelope)) fun r3 =>
 Option.bind (bif (eq2 false r1.1.Counter (3 : Int) r1.1.Value (ByteArray.mk #[98])) then
 some (eq2 false r1.2.1.Counter (2 : Int) r1.2.1.Value (ByteArray.mk #[97]))
 else some false) fun b4 =>
 Option.bind (bif b4 then
 some (decide (((List.length r3.Members : Nat) : Int) = (10 : Int)))
 else some false) fun b5 =>
 Option.bind (bif b5 then
 Option.bind (idx r3.Members (0 : Int)) fun x6 =>
 some x6.Declared
 else some false) fun b7 =>
 some b7
noncomputable def k_law25_sane : KFun U := .fn 41 [] (.one Ty.bool) fun a => F_law25_sane 
theorem e_law25_sane : fnK K [k_prepare_Join, k_play_Flat, k_prepare_View] sa_law25_sane [.tmp 0] [] (.one Ty.bool) = fun a => F_law25_sane  := by kernel_rfl
theorem s_law25_sane : KFun.Sound (U := U) Tryz.prog k_law25_sane := fnK_sound (K := K) (Γ := [k_prepare_Join, k_play_Flat, k_prepare_View]) ok_law25_sane (by kernel_rfl) (by decide) ⟨s_prepare_Join, s_play_Flat, s_prepare_View, trivial⟩ (fun a => congrFun e_law25_sane a)

/-! ### trustquorum/trustquorumlaw25.PrepareGrows -/
def sa_law25_PrepareGrows : SA U :=
 (.seq
 (.reg
 (op 2 (.mov (.cst (.bool false)))
 .nil))
 (.seq
 (.reg
 (op 20 (.mov (tm 0))
 (op 21 (.call 11 [(tm 20)])
 (op 3 (.mov (tm 21))
 .nil))))
 (.seq
 (.reg
 (op 22 (.mov (tm 3))
 (op 23 (.call 12 [(tm 22), (ci 5), (ci 1)])
 (op 4 (.mov (tm 23))
 .nil))))
 (.seq
 (.reg
 (op 24 (.mov (tm 3))
 (op 25 (.call 22 [(tm 24), (ci 5)])
 (op 26 (.mov (tm 3))
 (op 27 (.call 23 [(tm 26), (ci 5)])
 (op 28 (.mov (tm 3))
 (op 29 (.call 33 [(tm 28)])
 (op 6 (.alloc [.int .i64 0, .nils, .nils])
 (op 7 (.alloc [.int .i64 0, .str ⟨#[]⟩])
 (op 5 (.mov (tm 25))
 (ops (.store 3 (tm 6) (tm 27))
 (ops (.store 2 (tm 7) (tm 29))
 .nil))))))))))))
 (.seq
 (.reg
 (op 8 (.mov (.cst (.nils)))
 .nil))
 (.seq
 (.seq
 (.reg
 (op 9 (.mov (ci 0))
 .nil))
 (.block 0
 (.ps (.own 8 38 15 (Ty.st .Envelope))
 (.loop ⟨[.val 9 (Ty.i .i64), .own 8 20 1 38 15 (Ty.st .Envelope)], [3, 4, 5, 6, 7]⟩
 (.seq
 (.seq
 (.reg
 (op 30 (.mov (tm 9))
 (op 31 (.bin .lss (tm 30) (ci 5))
 .nil)))
 (.cond (tm 31)
 .skip
 (.exit 0)))
 (.join ⟨[.own 8 20 1 38 15 (Ty.st .Envelope)], [3, 4, 5, 6, 7, 9]⟩
 (.block 1
 (.seq
 (.reg
 (op 34 (.build [.int .i64 0, .int .i64 0, .int .i64 0, .int .i64 0, .nils, .nils, .int .i64 0, .int .i64 0, .str ⟨#[]⟩, .int .i64 0, .str ⟨#[]⟩, .int .i64 0, .str ⟨#[]⟩, .int .i64 0, .int .i64 0] [])
 (op 10 (.alloc [.int .i64 0, .int .i64 0, .int .i64 0, .int .i64 0, .nils, .nils, .int .i64 0, .int .i64 0, .str ⟨#[]⟩, .int .i64 0, .str ⟨#[]⟩, .int .i64 0, .str ⟨#[]⟩, .int .i64 0, .int .i64 0])
 (ops (.store 15 (tm 10) (tm 34))
 .nil))))
 (.seq
 (.seq
 (.reg
 (op 35 (.mov (tm 4))
 (op 36 (.len false (tm 35))
 (op 37 (.mov (ci 0))
 .nil))))
 (.block 2
 (.loop ⟨[.val 37 (Ty.i .i64), .box 24 1 (Ty.st .Envelope) []], [3, 4, 5, 6, 7, 8, 9, 10, 35, 36]⟩
 (.seq
 (.reg
 (op 38 (.bin .lss (tm 37) (tm 36))
 .nil))
 (.seq
 (.cond (tm 38)
 .skip
 (.exit 2))
 (.join ⟨[.box 24 1 (Ty.st .Envelope) []], [3, 4, 5, 6, 7, 8, 9, 10, 35, 36, 37]⟩
 (.block 3
 (.seq
 (.reg
 (op 39 (.iaddr 15 (tm 35) (tm 37))
 (op 40 (.load (some 15) (tm 39))
 (op 12 (.alloc [.int .i64 0, .int .i64 0, .int .i64 0, .int .i64 0, .nils, .nils, .int .i64 0, .int .i64 0, .str ⟨#[]⟩, .int .i64 0, .str ⟨#[]⟩, .int .i64 0, .str ⟨#[]⟩, .int .i64 0, .int .i64 0])
 (ops (.store 15 (tm 12) (tm 40))
 .nil)))))
 (.seq
 (.reg
 (op 41 (.faddr 0 (tm 12))
 (op 42 (.load none (tm 41))
 (op 43 (.mov (tm 9))
 (op 44 (.bin .eql (tm 42) (tm 43))
 .nil)))))
 (.cond (tm 44)
 (.reg
 (op 45 (.load (some 15) (tm 12))
 (ops (.store 15 (tm 10) (tm 45))
 .nil)))
 .skip))))
 (.reg
 (op 46 (.bin .add (tm 37) (ci 1))
 (op 37 (.mov (tm 46))
 .nil)))))))))
 (.seq
 (.seq
 (.reg
 (op 47 (.faddr 2 (tm 10))
 (op 48 (.load none (tm 47))
 (op 49 (.bin .eql (tm 48) (ci 0))
 (op 50 (.mov (tm 49))
 (.ite 50 false
 (opg 51 50 false (.mov (tm 9))
 (opg 52 50 false (.mov (tm 5))
 (opg 53 50 false (.bin .eql (tm 51) (tm 52))
 .nil)))
 54 none (.cst (.bool true)) (tm 53)
 .nil))))))
 (.cond (tm 54)
 (.join ⟨[.own 8 20 1 38 15 (Ty.st .Envelope)], [3, 4, 5, 6, 7, 9]⟩
 (.seq
 (.reg
 (op 55 (.faddr 2 (tm 10))
 (op 56 (.load none (tm 55))
 (op 57 (.bin .neq (tm 56) (ci 0))
 .nil))))
 (.cond (tm 57)
 (.reg
 (op 58 (.mov (tm 8))
 (op 59 (.load (some 15) (tm 10))
 (op 60 (.bsl false 38 15 (List.replicate 1 [.int .i64 0, .int .i64 0, .int .i64 0, .int .i64 0, .nils, .nils, .int .i64 0, .int .i64 0, .str ⟨#[]⟩, .int .i64 0, .str ⟨#[]⟩, .int .i64 0, .str ⟨#[]⟩, .int .i64 0, .int .i64 0]) [(0, (tm 59))])
 (op 61 (.app 38 15 176 (tm 58) (tm 60))
 (op 8 (.mov (tm 61))
 .nil))))))
 .skip))
 (.exit 1))
 .skip))
 (.seq
 (.reg
 (op 62 (.load (some 15) (tm 10))
 (op 13 (.alloc [.int .i64 0, .int .i64 0, .int .i64 0, .int .i64 0, .nils, .nils, .int .i64 0, .int .i64 0, .str ⟨#[]⟩, .int .i64 0, .str ⟨#[]⟩, .int .i64 0, .str ⟨#[]⟩, .int .i64 0, .int .i64 0])
 (ops (.store 15 (tm 13) (tm 62))
 .nil))))
 (.join ⟨[.box 39 1 (Ty.st .Envelope) []], [3, 4, 5, 6, 7, 8, 9, 13]⟩
 (.seq
 (.reg
 (op 63 (.load (some 15) (tm 13))
 (op 64 (.load (some 2) (tm 7))
 (op 65 (.call 34 [(tm 63), (tm 64)])
 (op 66 (.not (tm 65))
 .nil)))))
 (.cond (tm 66)
 (.reg
 (op 67 (.mov (tm 9))
 (op 68 (.faddr 3 (tm 10))
 (op 69 (.load (some 3) (tm 68))
 (op 70 (.load (some 2) (tm 7))
 (op 71 (.load (some 2) (tm 7))
 (op 72 (.build [.int .i64 0, .int .i64 0, .int .i64 0, .int .i64 0, .nils, .nils, .int .i64 0, .int .i64 0, .str ⟨#[]⟩, .int .i64 0, .str ⟨#[]⟩, .int .i64 0, .str ⟨#[]⟩, .int .i64 0, .int .i64 0] [(0, 1, (tm 67)), (1, 1, (ci 1)), (2, 1, (ci 20)), (3, 3, (tm 69)), (6, 1, (ci 1)), (7, 2, (tm 70)), (9, 2, (tm 71))])
 (ops (.store 15 (tm 13) (tm 72))
 .nil))))))))
 .skip))
 (.reg
 (op 73 (.mov (tm 8))
 (op 74 (.load (some 15) (tm 13))
 (op 75 (.bsl false 38 15 (List.replicate 1 [.int .i64 0, .int .i64 0, .int .i64 0, .int .i64 0, .nils, .nils, .int .i64 0, .int .i64 0, .str ⟨#[]⟩, .int .i64 0, .str ⟨#[]⟩, .int .i64 0, .str ⟨#[]⟩, .int .i64 0, .int .i64 0]) [(0, (tm 74))])
 (op 76 (.app 38 15 176 (tm 73) (tm 75))
 (op 8 (.mov (tm 76))
 .nil))))))))))))
 (.reg
 (op 32 (.mov (tm 9))
 (op 33 (.bin .add (tm 32) (ci 1))
 (op 9 (.mov (tm 33))
 .nil))))))))))
 (.seq
 (.seq
 (.reg
 (op 77 (.mov (tm 5))
 (op 78 (.load (some 3) (tm 6))
 (op 79 (.mov (tm 4))
 (op 80 (.load (some 2) (tm 7))
 (op 81 (.call 35 [(tm 77), (tm 78), (tm 79), (tm 80)])
 (op 82 (.mov (tm 81))
 (.ite 82 true
 (opg 83 82 true (.mov (tm 5))
 (opg 84 82 true (.load (some 3) (tm 6))
 (opg 85 82 true (.mov (tm 8))
 (opg 86 82 true (.load (some 2) (tm 7))
 (opg 87 82 true (.call 35 [(tm 83), (tm 84), (tm 85), (tm 86)])
 (opg 88 82 true (.not (tm 87))
 .nil))))))
 89 none (tm 88) (.cst (.bool false))
 .nil))))))))
 (.cond (tm 89)
 (.seq
 (.reg
 (op 2 (.mov (.cst (.bool false)))
 .nil))
 .ret)
 .skip))
 (.join ⟨[], [3, 4, 5, 6]⟩
 (.seq
 (.reg
 (op 90 (.mov (tm 5))
 (op 91 (.load (some 3) (tm 6))
 (op 92 (.mov (tm 4))
 (op 93 (.load (some 2) (tm 7))
 (op 94 (.call 36 [(tm 90), (tm 91), (tm 92), (tm 93)])
 .nil))))))
 (.cond (tm 94)
 (.seq
 (.reg
 (op 14 (.mov (.cst (.bool false)))
 .nil))
 (.seq
 (.seq
 (.reg
 (op 95 (.mov (tm 4))
 (op 96 (.len false (tm 95))
 (op 97 (.mov (ci 0))
 .nil))))
 (.block 4
 (.loop ⟨[.val 14 Ty.bool, .val 97 (Ty.i .i64)], [3, 4, 5, 6, 7, 95, 96]⟩
 (.seq
 (.reg
 (op 98 (.bin .lss (tm 97) (tm 96))
 .nil))
 (.seq
 (.cond (tm 98)
 .skip
 (.exit 4))
 (.seq
 (.block 5
 (.seq
 (.reg
 (op 99 (.iaddr 15 (tm 95) (tm 97))
 (op 100 (.load (some 15) (tm 99))
 (op 16 (.alloc [.int .i64 0, .int .i64 0, .int .i64 0, .int .i64 0, .nils, .nils, .int .i64 0, .int .i64 0, .str ⟨#[]⟩, .int .i64 0, .str ⟨#[]⟩, .int .i64 0, .str ⟨#[]⟩, .int .i64 0, .int .i64 0])
 (ops (.store 15 (tm 16) (tm 100))
 .nil)))))
 (.reg
 (op 101 (.mov (tm 14))
 (op 102 (.mov (tm 101))
 (.ite 102 false
 (opg 103 102 false (.faddr 0 (tm 16))
 (opg 104 102 false (.load none (tm 103))
 (opg 105 102 false (.mov (tm 5))
 (opg 106 102 false (.bin .eql (tm 104) (tm 105))
 (opg 107 102 false (.mov (tm 106))
 (.ite 107 true
 (opg 108 107 true (.load (some 15) (tm 16))
 (opg 109 107 true (.load (some 2) (tm 7))
 (opg 110 107 true (.call 34 [(tm 108), (tm 109)])
 .nil)))
 111 (some (102, false)) (tm 110) (.cst (.bool false))
 .nil))))))
 112 none (.cst (.bool true)) (tm 111)
 (op 14 (.mov (tm 112))
 .nil)))))))
 (.reg
 (op 113 (.bin .add (tm 97) (ci 1))
 (op 97 (.mov (tm 113))
 .nil)))))))))
 (.seq
 (.reg
 (op 114 (.mov (tm 14))
 (op 115 (.not (tm 114))
 .nil)))
 (.cond (tm 115)
 (.seq
 (.reg
 (op 2 (.mov (.cst (.bool false)))
 .nil))
 .ret)
 .skip))))
 .skip))
 (.seq
 (.reg
 (op 117 (.mov (tm 3))
 (op 118 (.call 33 [(tm 117)])
 (op 119 (.build [.int .i64 0, .str ⟨#[]⟩] [])
 (op 120 (.mov (tm 3))
 (op 121 (.call 33 [(tm 120)])
 (op 122 (.call 37 [(tm 118), (tm 119), (tm 121)])
 (op 116 (.mov (tm 122))
 (op 123 (.extr 0 (tm 116))
 (op 124 (.extr 1 (tm 116))
 (op 17 (.alloc [.int .i64 0, .str ⟨#[]⟩])
 (op 18 (.alloc [.int .i64 0, .str ⟨#[]⟩])
 (ops (.store 2 (tm 17) (tm 123))
 (ops (.store 2 (tm 18) (tm 124))
 .nil))))))))))))))
 (.seq
 (.reg
 (op 125 (.mov (tm 5))
 (op 126 (.load (some 3) (tm 6))
 (op 127 (.mov (tm 4))
 (op 128 (.load (some 2) (tm 17))
 (op 129 (.load (some 2) (tm 18))
 (op 130 (.call 38 [(tm 125), (tm 126), (tm 127), (tm 128), (tm 129), (.cst (.str ⟨#[]⟩))])
 (op 19 (.alloc [.int .i64 0, .str ⟨#[]⟩])
 (ops (.store 2 (tm 19) (tm 130))
 .nil)))))))))
 (.seq
 (.reg
 (op 131 (.load (some 2) (tm 19))
 (op 132 (.call 39 [(tm 131)])
 (op 133 (.mov (tm 132))
 (.ite 133 false
 (opg 134 133 false (.load (some 2) (tm 17))
 (opg 135 133 false (.load (some 2) (tm 18))
 (opg 136 133 false (.load (some 2) (tm 19))
 (opg 137 133 false (.call 40 [(tm 134), (tm 135), (tm 136)])
 (opg 138 133 false (.not (tm 137))
 (opg 139 133 false (.mov (tm 138))
 (.ite 139 true
 (opg 140 139 true (.mov (tm 5))
 (opg 141 139 true (.load (some 3) (tm 6))
 (opg 142 139 true (.mov (tm 4))
 (opg 143 139 true (.load (some 2) (tm 19))
 (opg 144 139 true (.call 35 [(tm 140), (tm 141), (tm 142), (tm 143)])
 .nil)))))
 145 (some (133, false)) (tm 144) (.cst (.bool false))
 .nil)))))))
 146 none (.cst (.bool true)) (tm 145)
 (op 147 (.mov (tm 146))
 (.ite 147 true
 (opg 148 147 true (.call 41 [])
 .nil)
 149 none (tm 148) (.cst (.bool false))
 (op 2 (.mov (tm 149))
 .nil))))))))
 .ret)))))))))))
theorem ok_law25_PrepareGrows : FnOk Tryz.prog 6 150 (SA.erase sa_law25_PrepareGrows) [.tmp 2] := ⟨Tryz.f6, [], Tryz.func6, rfl, by kernel_rfl, by kernel_rfl, by kernel_rfl⟩
noncomputable def F_law25_PrepareGrows (a0 : (List Int)) : Option Bool :=
 Option.bind (F_play_New a0) fun r1 =>
 Option.bind (F_play_Src_Envelopes r1 (5 : Int) (1 : Int)) fun p2 =>
 Option.bind (F_play_Src_N p2.2 (5 : Int)) fun p3 =>
 Option.bind (F_play_Src_Trust p3.2 (5 : Int)) fun p4 =>
 Option.bind (F_play_Src_Low p4.2) fun p5 =>
 loopO (fun (v6 : Int × (List TEnvelope) × Unit) =>
 bif (decide (v6.1 < (5 : Int))) then
 letJ (fun (v7 : (List TEnvelope) × Unit) =>
 some (Sum.inl ((addI .i64 v6.1 (1 : Int)), v7.1, ()))) fun j8 =>
 loopO (fun (v9 : Int × TEnvelope × Unit) =>
 bif (decide (v9.1 < ((List.length p2.1 : Nat) : Int))) then
 letJ (fun (v10 : TEnvelope × Unit) =>
 some (Sum.inl ((addI .i64 v9.1 (1 : Int)), (TEnvelope.mk v10.1.Node v10.1.Slot v10.1.Seq (TTrust.mk v10.1.Trust.Threshold v10.1.Trust.Nodes v10.1.Trust.Inner) v10.1.Kind v10.1.Ballot v10.1.Prepared v10.1.Prime v10.1.Low v10.1.High), ()))) fun j11 =>
 Option.bind (idx p2.1 v9.1) fun x12 =>
 bif (decide (x12.Node = v6.1)) then
 j11 ((TEnvelope.mk x12.Node x12.Slot x12.Seq (TTrust.mk x12.Trust.Threshold x12.Trust.Nodes x12.Trust.Inner) x12.Kind x12.Ballot x12.Prepared x12.Prime x12.Low x12.High), ())
 else
 j11 ((TEnvelope.mk v9.2.1.Node v9.2.1.Slot v9.2.1.Seq (TTrust.mk v9.2.1.Trust.Threshold v9.2.1.Trust.Nodes v9.2.1.Trust.Inner) v9.2.1.Kind v9.2.1.Ballot v9.2.1.Prepared v9.2.1.Prime v9.2.1.Low v9.2.1.High), ())
 else
 Option.map Sum.inr (Option.bind (bif (decide (v9.2.1.Seq = (0 : Int))) then some true
 else
 some (decide (v6.1 = p3.1))) fun b13 =>
 bif b13 then
 letJ (fun (v14 : (List TEnvelope) × Unit) =>
 j8 (v14.1, ())) fun j15 =>
 bif (!decide (v9.2.1.Seq = (0 : Int))) then
 bif lenOk 176 (List.length v6.2.1 + List.length [(TEnvelope.mk v9.2.1.Node v9.2.1.Slot v9.2.1.Seq (TTrust.mk v9.2.1.Trust.Threshold v9.2.1.Trust.Nodes v9.2.1.Trust.Inner) v9.2.1.Kind v9.2.1.Ballot v9.2.1.Prepared v9.2.1.Prime v9.2.1.Low v9.2.1.High)]) then
 j15 ((v6.2.1 ++ [(TEnvelope.mk v9.2.1.Node v9.2.1.Slot v9.2.1.Seq (TTrust.mk v9.2.1.Trust.Threshold v9.2.1.Trust.Nodes v9.2.1.Trust.Inner) v9.2.1.Kind v9.2.1.Ballot v9.2.1.Prepared v9.2.1.Prime v9.2.1.Low v9.2.1.High)]), ())
 else none
 else
 j15 (v6.2.1, ())
 else
 letJ (fun (v16 : TEnvelope × Unit) =>
 bif lenOk 176 (List.length v6.2.1 + List.length [(TEnvelope.mk v16.1.Node v16.1.Slot v16.1.Seq (TTrust.mk v16.1.Trust.Threshold v16.1.Trust.Nodes v16.1.Trust.Inner) v16.1.Kind v16.1.Ballot v16.1.Prepared v16.1.Prime v16.1.Low v16.1.High)]) then
 j8 ((v6.2.1 ++ [(TEnvelope.mk v16.1.Node v16.1.Slot v16.1.Seq (TTrust.mk v16.1.Trust.Threshold v16.1.Trust.Nodes v16.1.Trust.Inner) v16.1.Kind v16.1.Ballot v16.1.Prepared v16.1.Prime v16.1.Low v16.1.High)]), ())
 else none) fun j17 =>
 Option.bind (F_ref24_AcceptsPrepare (TEnvelope.mk v9.2.1.Node v9.2.1.Slot v9.2.1.Seq (TTrust.mk v9.2.1.Trust.Threshold v9.2.1.Trust.Nodes v9.2.1.Trust.Inner) v9.2.1.Kind v9.2.1.Ballot v9.2.1.Prepared v9.2.1.Prime v9.2.1.Low v9.2.1.High) p5.1) fun r18 =>
 bif (!r18) then
 j17 ((TEnvelope.mk v6.1 (1 : Int) (20 : Int) (TTrust.mk v9.2.1.Trust.Threshold v9.2.1.Trust.Nodes v9.2.1.Trust.Inner) (1 : Int) p5.1 p5.1 (TBallot.mk (0 : Int) (ByteArray.mk #[])) (0 : Int) (0 : Int)), ())
 else
 j17 ((TEnvelope.mk v9.2.1.Node v9.2.1.Slot v9.2.1.Seq (TTrust.mk v9.2.1.Trust.Threshold v9.2.1.Trust.Nodes v9.2.1.Trust.Inner) v9.2.1.Kind v9.2.1.Ballot v9.2.1.Prepared v9.2.1.Prime v9.2.1.Low v9.2.1.High), ()))) ((0 : Int), (TEnvelope.mk (0 : Int) (0 : Int) (0 : Int) (TTrust.mk (0 : Int) ([] : List Int) ([] : List TTrust)) (0 : Int) (TBallot.mk (0 : Int) (ByteArray.mk #[])) (TBallot.mk (0 : Int) (ByteArray.mk #[])) (TBallot.mk (0 : Int) (ByteArray.mk #[])) (0 : Int) (0 : Int)), ())
 else
 Option.map Sum.inr (Option.bind (F_prepare_Accepts p3.1 (TTrust.mk p4.1.Threshold p4.1.Nodes p4.1.Inner) p2.1 p5.1) fun r19 =>
 Option.bind (bif r19 then
 Option.bind (F_prepare_Accepts p3.1 (TTrust.mk p4.1.Threshold p4.1.Nodes p4.1.Inner) v6.2.1 p5.1) fun r20 =>
 some (!r20)
 else some false) fun b21 =>
 bif b21 then
 some false
 else
 letJ (fun (v22 : Unit) =>
 Option.bind (F_play_Src_Low p5.2) fun p24 =>
 Option.bind (F_play_Src_Low p24.2) fun p25 =>
 Option.bind (F_ref25_Join p24.1 (TBallot.mk (0 : Int) (ByteArray.mk #[])) p25.1) fun r26 =>
 Option.bind (F_prepare_Next p3.1 (TTrust.mk p4.1.Threshold p4.1.Nodes p4.1.Inner) p2.1 r26.1 r26.2.1 (ByteArray.mk #[])) fun r27 =>
 Option.bind (F_ref23_Zero r27) fun r28 =>
 Option.bind (bif r28 then some true
 else
 Option.bind (F_ref23_Prepares r26.1 r26.2.1 r27) fun r29 =>
 Option.bind (bif (!r29) then
 Option.bind (F_prepare_Accepts p3.1 (TTrust.mk p4.1.Threshold p4.1.Nodes p4.1.Inner) p2.1 r27) fun r30 =>
 some r30
 else some false) fun b31 =>
 some b31) fun b32 =>
 Option.bind (bif b32 then
 Option.bind (F_law25_sane) fun r33 =>
 some r33
 else some false) fun b34 =>
 some b34) fun j23 =>
 Option.bind (F_prepare_Confirms p3.1 (TTrust.mk p4.1.Threshold p4.1.Nodes p4.1.Inner) p2.1 p5.1) fun r35 =>
 bif r35 then
 loopO (fun (v36 : Bool × Int × Unit) =>
 bif (decide (v36.2.1 < ((List.length p2.1 : Nat) : Int))) then
 Option.bind (idx p2.1 v36.2.1) fun x37 =>
 Option.bind (bif v36.1 then some true
 else
 Option.bind (bif (decide (x37.Node = p3.1)) then
 Option.bind (F_ref24_AcceptsPrepare (TEnvelope.mk x37.Node x37.Slot x37.Seq (TTrust.mk x37.Trust.Threshold x37.Trust.Nodes x37.Trust.Inner) x37.Kind x37.Ballot x37.Prepared x37.Prime x37.Low x37.High) p5.1) fun r38 =>
 some r38
 else some false) fun b39 =>
 some b39) fun b40 =>
 some (Sum.inl (b40, (addI .i64 v36.2.1 (1 : Int)), ()))
 else
 Option.map Sum.inr (bif (!v36.1) then
 some false
 else
 j23 (()))) (false, (0 : Int), ())
 else
 j23 (()))) ((0 : Int), ([] : List TEnvelope), ())
noncomputable def k_law25_PrepareGrows : KFun U := .fn 6 [.ty (Ty.sl (Ty.i .i64))] (.one Ty.bool) fun a => F_law25_PrepareGrows a.1
theorem e_law25_PrepareGrows : fnK K [k_play_New, k_play_Src_Envelopes, k_play_Src_N, k_play_Src_Trust, k_play_Src_Low, k_ref24_AcceptsPrepare, k_prepare_Accepts, k_prepare_Confirms, k_ref25_Join, k_prepare_Next, k_ref23_Zero, k_ref23_Prepares, k_law25_sane] sa_law25_PrepareGrows [.tmp 2] [.ty (Ty.sl (Ty.i .i64))] (.one Ty.bool) = fun a => F_law25_PrepareGrows a.1 := by kernel_rfl
theorem s_law25_PrepareGrows : KFun.Sound (U := U) Tryz.prog k_law25_PrepareGrows := fnK_sound (K := K) (Γ := [k_play_New, k_play_Src_Envelopes, k_play_Src_N, k_play_Src_Trust, k_play_Src_Low, k_ref24_AcceptsPrepare, k_prepare_Accepts, k_prepare_Confirms, k_ref25_Join, k_prepare_Next, k_ref23_Zero, k_ref23_Prepares, k_law25_sane]) ok_law25_PrepareGrows (by kernel_rfl) (by decide) ⟨s_play_New, s_play_Src_Envelopes, s_play_Src_N, s_play_Src_Trust, s_play_Src_Low, s_ref24_AcceptsPrepare, s_prepare_Accepts, s_prepare_Confirms, s_ref25_Join, s_prepare_Next, s_ref23_Zero, s_ref23_Prepares, s_law25_sane, trivial⟩ (fun a => congrFun e_law25_PrepareGrows a)

end Go.Proofs.YtncjalhhkmojlaaGreat
