/-
  Functions of the program as plain functions, each held against the program by the kernel. Printed by a program.
-/
import Derived.Test.YtncjalhhkmojlaaGreatEnvelopesListsFnA
import Derived.Test.YtncjalhhkmojlaaGreatProg
import Derived.KernelRfl
set_option linter.unusedVariables false
namespace Go.Proofs.YtncjalhhkmojlaaGreat
open Go.TQ

/-! ### slices.pdqsortCmpFunc[trustquorum/api.Ballot] -/
def sa_slices_pdqsortCmpFunc_api_Ballot_c86 : SA U :=
 (.seq
 (.reg
 (op 10 (.mov (.cst (.bool true)))
 .nil))
 (.seq
 (.reg
 (op 11 (.mov (.cst (.bool true)))
 .nil))
 (.block 0
 (.loop ⟨[.val 1 (Ty.i .i64), .val 2 (Ty.i .i64), .val 3 (Ty.i .i64), .val 10 Ty.bool, .val 11 Ty.bool, .own 0 0 0 32 2 (Ty.st .Ballot)], [4]⟩
 (.block 1
 (.seq
 (.reg
 (op 21 (.mov (tm 2))
 (op 22 (.mov (tm 1))
 (op 23 (.bin .sub (tm 21) (tm 22))
 (op 12 (.mov (tm 23))
 .nil)))))
 (.seq
 (.seq
 (.reg
 (op 24 (.mov (tm 12))
 (op 25 (.bin .leq (tm 24) (ci 12))
 .nil)))
 (.cond (tm 25)
 (.seq
 (.reg
 (op 26 (.mov (tm 0))
 (op 27 (.mov (tm 1))
 (op 28 (.mov (tm 2))
 (op 29 (.mov (tm 4))
 (op 30 (.call 200 [(tm 26), (tm 27), (tm 28), (tm 29)])
 .nil))))))
 .ret)
 .skip))
 (.seq
 (.seq
 (.reg
 (op 31 (.mov (tm 3))
 (op 32 (.bin .eql (tm 31) (ci 0))
 .nil)))
 (.cond (tm 32)
 (.seq
 (.reg
 (op 33 (.mov (tm 0))
 (op 34 (.mov (tm 1))
 (op 35 (.mov (tm 2))
 (op 36 (.mov (tm 4))
 (op 37 (.call 201 [(tm 33), (tm 34), (tm 35), (tm 36)])
 .nil))))))
 .ret)
 .skip))
 (.join ⟨[.val 3 (Ty.i .i64), .own 0 0 0 32 2 (Ty.st .Ballot)], [1, 2, 4, 10, 11, 12]⟩
 (.seq
 (.reg
 (op 38 (.mov (tm 10))
 (op 39 (.not (tm 38))
 .nil)))
 (.cond (tm 39)
 (.seq
 (.reg
 (op 40 (.mov (tm 0))
 (op 41 (.mov (tm 1))
 (op 42 (.mov (tm 2))
 (op 43 (.mov (tm 4))
 (op 44 (.call 202 [(tm 40), (tm 41), (tm 42), (tm 43)])
 .nil))))))
 (.reg
 (op 45 (.mov (tm 3))
 (op 46 (.bin .sub (tm 45) (ci 1))
 (op 3 (.mov (tm 46))
 .nil)))))
 .skip))
 (.seq
 (.reg
 (op 48 (.mov (tm 0))
 (op 49 (.mov (tm 1))
 (op 50 (.mov (tm 2))
 (op 51 (.mov (tm 4))
 (op 52 (.call 203 [(tm 48), (tm 49), (tm 50), (tm 51)])
 (op 47 (.mov (tm 52))
 (op 53 (.extr 0 (tm 47))
 (op 54 (.extr 1 (tm 47))
 (op 13 (.mov (tm 53))
 (op 14 (.mov (tm 54))
 .nil)))))))))))
 (.join ⟨[.val 13 (Ty.i .i64), .val 14 (Ty.i .i64), .own 0 0 0 32 2 (Ty.st .Ballot)], [1, 2, 3, 4, 10, 11, 12]⟩
 (.seq
 (.reg
 (op 55 (.mov (tm 14))
 (op 56 (.bin .eql (tm 55) (ci 2))
 .nil)))
 (.cond (tm 56)
 (.seq
 (.reg
 (op 57 (.mov (tm 0))
 (op 58 (.mov (tm 1))
 (op 59 (.mov (tm 2))
 (op 60 (.mov (tm 4))
 (op 61 (.call 204 [(tm 57), (tm 58), (tm 59), (tm 60)])
 .nil))))))
 (.seq
 (.reg
 (op 62 (.mov (tm 2))
 (op 63 (.bin .sub (tm 62) (ci 1))
 (op 64 (.mov (tm 13))
 (op 65 (.mov (tm 1))
 (op 66 (.bin .sub (tm 64) (tm 65))
 (op 67 (.bin .sub (tm 63) (tm 66))
 (op 13 (.mov (tm 67))
 .nil))))))))
 (.reg
 (op 14 (.mov (ci 1))
 .nil))))
 .skip))
 (.join ⟨[.own 0 0 0 32 2 (Ty.st .Ballot)], [1, 2, 3, 4, 10, 11, 12, 13]⟩
 (.seq
 (.reg
 (op 68 (.mov (tm 10))
 (op 69 (.mov (tm 68))
 (.ite 69 true
 (opg 70 69 true (.mov (tm 11))
 .nil)
 71 none (tm 70) (.cst (.bool false))
 (op 72 (.mov (tm 71))
 (.ite 72 true
 (opg 73 72 true (.mov (tm 14))
 (opg 74 72 true (.bin .eql (tm 73) (ci 1))
 .nil))
 75 none (tm 74) (.cst (.bool false))
 .nil))))))
 (.cond (tm 75)
 (.seq
 (.reg
 (op 76 (.mov (tm 0))
 (op 77 (.mov (tm 1))
 (op 78 (.mov (tm 2))
 (op 79 (.mov (tm 4))
 (op 80 (.call 205 [(tm 76), (tm 77), (tm 78), (tm 79)])
 .nil))))))
 (.cond (tm 80)
 .ret
 .skip))
 .skip))
 (.seq
 (.join ⟨[.val 97 Ty.bool], [0, 1, 2, 3, 4, 10, 11, 12, 13]⟩
 (.drw [(7, 11), (8, 11), (7, 12), (8, 12)]
 (op 81 (.mov (tm 1))
 (op 82 (.bin .gtr (tm 81) (ci 0))
 (op 83 (.mov (tm 82))
 (.spl 83
 (opg 84 83 true (.mov (tm 4))
 (opg 85 83 true (.mov (tm 0))
 (opg 86 83 true (.mov (tm 1))
 (opg 87 83 true (.bin .sub (tm 86) (ci 1))
 (opg 88 83 true (.iaddr 2 (tm 85) (tm 87))
 (opg 89 83 true (.load (some 2) (tm 88))
 (opg 90 83 true (.mov (tm 0))
 (opg 91 83 true (.mov (tm 13))
 (opg 92 83 true (.iaddr 2 (tm 90) (tm 91))
 (opg 93 83 true (.load (some 2) (tm 92))
 (opg 94 83 true (.callv (tm 84) [(tm 89), (tm 93)])
 (opg 95 83 true (.bin .lss (tm 94) (ci 0))
 (opg 96 83 true (.not (tm 95))
 (op 97 (.pick (tm 83) (tm 96) (.cst (.bool false)))
 .nil)))))))))))))))))))
 (.cond (tm 97)
 (.seq
 (.reg
 (op 98 (.mov (tm 0))
 (op 99 (.mov (tm 1))
 (op 100 (.mov (tm 2))
 (op 101 (.mov (tm 13))
 (op 102 (.mov (tm 4))
 (op 103 (.call 206 [(tm 98), (tm 99), (tm 100), (tm 101), (tm 102)])
 (op 15 (.mov (tm 103))
 .nil))))))))
 (.seq
 (.reg
 (op 104 (.mov (tm 15))
 (op 1 (.mov (tm 104))
 .nil)))
 (.exit 1)))
 .skip))
 (.seq
 (.reg
 (op 106 (.mov (tm 0))
 (op 107 (.mov (tm 1))
 (op 108 (.mov (tm 2))
 (op 109 (.mov (tm 13))
 (op 110 (.mov (tm 4))
 (op 111 (.call 207 [(tm 106), (tm 107), (tm 108), (tm 109), (tm 110)])
 (op 105 (.mov (tm 111))
 (op 112 (.extr 0 (tm 105))
 (op 113 (.extr 1 (tm 105))
 (op 16 (.mov (tm 112))
 (op 17 (.mov (tm 113))
 .nil))))))))))))
 (.seq
 (.reg
 (op 114 (.mov (tm 17))
 (op 11 (.mov (tm 114))
 .nil)))
 (.seq
 (.reg
 (op 115 (.mov (tm 16))
 (op 116 (.mov (tm 1))
 (op 117 (.bin .sub (tm 115) (tm 116))
 (op 118 (.mov (tm 2))
 (op 119 (.mov (tm 16))
 (op 120 (.bin .sub (tm 118) (tm 119))
 (op 18 (.mov (tm 117))
 (op 19 (.mov (tm 120))
 .nil)))))))))
 (.seq
 (.reg
 (op 121 (.mov (tm 12))
 (op 122 (.bin .quo (tm 121) (ci 8))
 (op 20 (.mov (tm 122))
 .nil))))
 (.seq
 (.reg
 (op 123 (.mov (tm 18))
 (op 124 (.mov (tm 19))
 (op 125 (.bin .lss (tm 123) (tm 124))
 .nil))))
 (.cond (tm 125)
 (.seq
 (.reg
 (op 126 (.mov (tm 18))
 (op 127 (.mov (tm 20))
 (op 128 (.bin .geq (tm 126) (tm 127))
 (op 10 (.mov (tm 128))
 .nil)))))
 (.seq
 (.reg
 (op 129 (.mov (tm 0))
 (op 130 (.mov (tm 1))
 (op 131 (.mov (tm 16))
 (op 132 (.mov (tm 3))
 (op 133 (.mov (tm 4))
 (op 134 (.call 180 [(tm 129), (tm 130), (tm 131), (tm 132), (tm 133)])
 .nil)))))))
 (.reg
 (op 135 (.mov (tm 16))
 (op 136 (.bin .add (tm 135) (ci 1))
 (op 1 (.mov (tm 136))
 .nil))))))
 (.seq
 (.reg
 (op 137 (.mov (tm 19))
 (op 138 (.mov (tm 20))
 (op 139 (.bin .geq (tm 137) (tm 138))
 (op 10 (.mov (tm 139))
 .nil)))))
 (.seq
 (.reg
 (op 140 (.mov (tm 0))
 (op 141 (.mov (tm 16))
 (op 142 (.bin .add (tm 141) (ci 1))
 (op 143 (.mov (tm 2))
 (op 144 (.mov (tm 3))
 (op 145 (.mov (tm 4))
 (op 146 (.call 180 [(tm 140), (tm 142), (tm 143), (tm 144), (tm 145)])
 .nil))))))))
 (.reg
 (op 147 (.mov (tm 16))
 (op 2 (.mov (tm 147))
 .nil))))))))))))))))))))))))
theorem ok_slices_pdqsortCmpFunc_api_Ballot_c86 : FnOk Tryz.prog 180 148 (SA.erase sa_slices_pdqsortCmpFunc_api_Ballot_c86) [] := ⟨Tryz.f180, [], Tryz.func180, rfl, by kernel_rfl, by kernel_rfl, by kernel_rfl⟩
noncomputable def B_slices_pdqsortCmpFunc_api_Ballot_c86 (rec : List TBallot → (Int × Int × Int × (Unit) × Unit) → Option ((Unit) × List TBallot)) (s : List TBallot) (a0 : Int) (a1 : Int) (a2 : Int) : Option ((Unit) × List TBallot) :=
 loopO (fun (v1 : Int × Int × Int × Bool × Bool × (List TBallot) × Unit) =>
 bif (decide ((subI .i64 v1.2.1 v1.1) ≤ (12 : Int))) then
 Option.bind (F_slices_insertionSortCmpFunc_api_Ballot_c86 v1.2.2.2.2.2.1 v1.1 v1.2.1) fun p2 =>
 Option.map Sum.inr (some ((()), p2.2))
 else
 bif (decide (v1.2.2.1 = (0 : Int))) then
 Option.bind (F_slices_heapSortCmpFunc_api_Ballot_c86 v1.2.2.2.2.2.1 v1.1 v1.2.1) fun p3 =>
 Option.map Sum.inr (some ((()), p3.2))
 else
 letJ (fun (v4 : Int × (List TBallot) × Unit) =>
 Option.bind (F_slices_choosePivotCmpFunc_api_Ballot_c86 v4.2.1 v1.1 v1.2.1) fun r6 =>
 letJ (fun (v7 : Int × Int × (List TBallot) × Unit) =>
 letJ (fun (v9 : (List TBallot) × Unit) =>
 letJ (fun (v11 : Bool × Unit) =>
 bif v11.1 then
 Option.bind (F_slices_partitionEqualCmpFunc_api_Ballot_c86 v9.1 v1.1 v1.2.1 v7.1) fun p13 =>
 some (Sum.inl (p13.1, v1.2.1, v4.1, v1.2.2.2.1, v1.2.2.2.2.1, p13.2, ()))
 else
 Option.bind (F_slices_partitionCmpFunc_api_Ballot_c86 v9.1 v1.1 v1.2.1 v7.1) fun p14 =>
 bif (decide ((subI .i64 p14.1.1 v1.1) < (subI .i64 v1.2.1 p14.1.1))) then
 Option.bind (rec p14.2 (v1.1, p14.1.1, v4.1, (()), ())) fun p15 =>
 some (Sum.inl ((addI .i64 p14.1.1 (1 : Int)), v1.2.1, v4.1, (decide ((quoI .i64 (subI .i64 v1.2.1 v1.1) (8 : Int)) ≤ (subI .i64 p14.1.1 v1.1))), p14.1.2.1, p15.2, ()))
 else
 Option.bind (rec p14.2 ((addI .i64 p14.1.1 (1 : Int)), v1.2.1, v4.1, (()), ())) fun p16 =>
 some (Sum.inl (v1.1, p14.1.1, v4.1, (decide ((quoI .i64 (subI .i64 v1.2.1 v1.1) (8 : Int)) ≤ (subI .i64 v1.2.1 p14.1.1))), p14.1.2.1, p16.2, ()))) fun j12 =>
 bif (decide ((0 : Int) < v1.1)) then
 Option.bind (idx v9.1 (subI .i64 v1.1 (1 : Int))) fun x17 =>
 Option.bind (v9.1[(Int.toNat (subI .i64 v1.1 (1 : Int)))]?) fun x18 =>
 Option.bind (idx v9.1 v7.1) fun x19 =>
 Option.bind (v9.1[(Int.toNat v7.1)]?) fun x20 =>
 Option.bind (F_envelopes_Ballots_1 x18 x20) fun r21 =>
 j12 ((!(decide (r21 < (0 : Int)))), ())
 else
 j12 (false, ())) fun j10 =>
 Option.bind (bif v1.2.2.2.1 then
 some v1.2.2.2.2.1
 else some false) fun b22 =>
 Option.bind (bif b22 then
 some (decide (v7.2.1 = (1 : Int)))
 else some false) fun b23 =>
 bif b23 then
 Option.bind (F_slices_partialInsertionSortCmpFunc_api_Ballot_c86 v7.2.2.1 v1.1 v1.2.1) fun p24 =>
 bif p24.1 then
 Option.map Sum.inr (some ((()), p24.2))
 else
 j10 (p24.2, ())
 else
 j10 (v7.2.2.1, ())) fun j8 =>
 bif (decide (r6.2.1 = (2 : Int))) then
 Option.bind (F_slices_reverseRangeCmpFunc_api_Ballot_c86 v4.2.1 v1.1 v1.2.1) fun p25 =>
 j8 ((subI .i64 (subI .i64 v1.2.1 (1 : Int)) (subI .i64 r6.1 v1.1)), (1 : Int), p25.2, ())
 else
 j8 (r6.1, r6.2.1, v4.2.1, ())) fun j5 =>
 bif (!v1.2.2.2.1) then
 Option.bind (F_slices_breakPatternsCmpFunc_api_Ballot_c86 v1.2.2.2.2.2.1 v1.1 v1.2.1) fun p26 =>
 j5 ((subI .i64 v1.2.2.1 (1 : Int)), p26.2, ())
 else
 j5 (v1.2.2.1, v1.2.2.2.2.2.1, ())) (a0, a1, a2, true, true, s, ())
noncomputable def I_slices_pdqsortCmpFunc_api_Ballot_c86 : Nat → List TBallot → (Int × Int × Int × (Unit) × Unit) → Option ((Unit) × List TBallot) := iterF2 (fun rec s a => B_slices_pdqsortCmpFunc_api_Ballot_c86 rec s a.1 a.2.1 a.2.2.1)
noncomputable def F_slices_pdqsortCmpFunc_api_Ballot_c86 (s : List TBallot) (a0 : Int) (a1 : Int) (a2 : Int) : Option ((Unit) × List TBallot) := I_slices_pdqsortCmpFunc_api_Ballot_c86 (List.length s + 1) s (a0, a1, a2, (()), ())
noncomputable def k_slices_pdqsortCmpFunc_api_Ballot_c86 : KFun U := .rw 180 32 2 (Ty.st .Ballot) [.ty (Ty.i .i64), .ty (Ty.i .i64), .ty (Ty.i .i64), .clo 86 []] (.many []) fun s a => F_slices_pdqsortCmpFunc_api_Ballot_c86 s a.1 a.2.1 a.2.2.1
theorem e_slices_pdqsortCmpFunc_api_Ballot_c86 : (fun G => rwK K (.rw 180 32 2 (Ty.st .Ballot) [.ty (Ty.i .i64), .ty (Ty.i .i64), .ty (Ty.i .i64), .clo 86 []] (.many []) G :: [k_slices_insertionSortCmpFunc_api_Ballot_c86, k_slices_heapSortCmpFunc_api_Ballot_c86, k_slices_breakPatternsCmpFunc_api_Ballot_c86, k_slices_choosePivotCmpFunc_api_Ballot_c86, k_slices_reverseRangeCmpFunc_api_Ballot_c86, k_slices_partialInsertionSortCmpFunc_api_Ballot_c86, k_envelopes_Ballots_1, k_slices_partitionEqualCmpFunc_api_Ballot_c86, k_slices_partitionCmpFunc_api_Ballot_c86]) sa_slices_pdqsortCmpFunc_api_Ballot_c86 [] 32 2 (Ty.st .Ballot) [.ty (Ty.i .i64), .ty (Ty.i .i64), .ty (Ty.i .i64), .clo 86 []] (.many [])) = (fun G s a => B_slices_pdqsortCmpFunc_api_Ballot_c86 G s a.1 a.2.1 a.2.2.1) := by kernel_rfl
theorem n_slices_pdqsortCmpFunc_api_Ballot_c86 : ∀ n, KFun.Sound (U := U) Tryz.prog (.rw 180 32 2 (Ty.st .Ballot) [.ty (Ty.i .i64), .ty (Ty.i .i64), .ty (Ty.i .i64), .clo 86 []] (.many []) (I_slices_pdqsortCmpFunc_api_Ballot_c86 n))
  | 0 => ⟨ok_slices_pdqsortCmpFunc_api_Ballot_c86.enters, fun s a r ys h => by cases h⟩
  | n + 1 => rwK_sound (K := K) (r := .many []) (e := 32) (k := 2) (T := (Ty.st .Ballot)) («as» := [.ty (Ty.i .i64), .ty (Ty.i .i64), .ty (Ty.i .i64), .clo 86 []]) (Γ := .rw 180 32 2 (Ty.st .Ballot) [.ty (Ty.i .i64), .ty (Ty.i .i64), .ty (Ty.i .i64), .clo 86 []] (.many []) (I_slices_pdqsortCmpFunc_api_Ballot_c86 n) :: [k_slices_insertionSortCmpFunc_api_Ballot_c86, k_slices_heapSortCmpFunc_api_Ballot_c86, k_slices_breakPatternsCmpFunc_api_Ballot_c86, k_slices_choosePivotCmpFunc_api_Ballot_c86, k_slices_reverseRangeCmpFunc_api_Ballot_c86, k_slices_partialInsertionSortCmpFunc_api_Ballot_c86, k_envelopes_Ballots_1, k_slices_partitionEqualCmpFunc_api_Ballot_c86, k_slices_partitionCmpFunc_api_Ballot_c86]) (F := I_slices_pdqsortCmpFunc_api_Ballot_c86 (n + 1)) ok_slices_pdqsortCmpFunc_api_Ballot_c86 (by kernel_rfl) (by decide) ⟨n_slices_pdqsortCmpFunc_api_Ballot_c86 n, s_slices_insertionSortCmpFunc_api_Ballot_c86, s_slices_heapSortCmpFunc_api_Ballot_c86, s_slices_breakPatternsCmpFunc_api_Ballot_c86, s_slices_choosePivotCmpFunc_api_Ballot_c86, s_slices_reverseRangeCmpFunc_api_Ballot_c86, s_slices_partialInsertionSortCmpFunc_api_Ballot_c86, s_envelopes_Ballots_1, s_slices_partitionEqualCmpFunc_api_Ballot_c86, s_slices_partitionCmpFunc_api_Ballot_c86, trivial⟩ (fun s a => congrFun (congrFun (congrFun e_slices_pdqsortCmpFunc_api_Ballot_c86 (I_slices_pdqsortCmpFunc_api_Ballot_c86 n)) s) a)
theorem s_slices_pdqsortCmpFunc_api_Ballot_c86 : KFun.Sound (U := U) Tryz.prog k_slices_pdqsortCmpFunc_api_Ballot_c86 := ⟨ok_slices_pdqsortCmpFunc_api_Ballot_c86.enters, fun s a r ys h => (n_slices_pdqsortCmpFunc_api_Ballot_c86 _).2 s a r ys h⟩

/-! ### slices.SortFunc[[]trustquorum/api.Ballot,trustquorum/api.Ballot] -/
def sa_slices_SortFunc_api_Ballot_api_Ballot_c86 : SA U :=
 (.seq
 (.reg
 (op 5 (.mov (tm 0))
 (op 6 (.len false (tm 5))
 (op 4 (.mov (tm 6))
 .nil))))
 (.reg
 (op 7 (.mov (tm 0))
 (op 8 (.mov (tm 4))
 (op 9 (.mov (tm 4))
 (op 10 (.conv .u64 (tm 9))
 (op 11 (.call 181 [(tm 10)])
 (op 12 (.mov (tm 1))
 (op 13 (.call 180 [(tm 7), (ci 0), (tm 8), (tm 11), (tm 12)])
 .nil)))))))))
theorem ok_slices_SortFunc_api_Ballot_api_Ballot_c86 : FnOk Tryz.prog 144 14 (SA.erase sa_slices_SortFunc_api_Ballot_api_Ballot_c86) [] := ⟨Tryz.f144, [], Tryz.func144, rfl, by kernel_rfl, by kernel_rfl, by kernel_rfl⟩
noncomputable def F_slices_SortFunc_api_Ballot_api_Ballot_c86 (s : List TBallot)  : Option ((Unit) × List TBallot) :=
 Option.bind (F_math_bits_Len (convI .u64 ((List.length s : Nat) : Int))) fun r1 =>
 Option.bind (F_slices_pdqsortCmpFunc_api_Ballot_c86 s (0 : Int) ((List.length s : Nat) : Int) r1) fun p2 =>
 some ((()), p2.2)
noncomputable def k_slices_SortFunc_api_Ballot_api_Ballot_c86 : KFun U := .rw 144 32 2 (Ty.st .Ballot) [.clo 86 []] (.many []) fun s a => F_slices_SortFunc_api_Ballot_api_Ballot_c86 s 
theorem e_slices_SortFunc_api_Ballot_api_Ballot_c86 : rwK K [k_math_bits_Len, k_slices_pdqsortCmpFunc_api_Ballot_c86] sa_slices_SortFunc_api_Ballot_api_Ballot_c86 [] 32 2 (Ty.st .Ballot) [.clo 86 []] (.many []) = fun s a => F_slices_SortFunc_api_Ballot_api_Ballot_c86 s  := by kernel_rfl
theorem s_slices_SortFunc_api_Ballot_api_Ballot_c86 : KFun.Sound (U := U) Tryz.prog k_slices_SortFunc_api_Ballot_api_Ballot_c86 := rwK_sound (K := K) (Γ := [k_math_bits_Len, k_slices_pdqsortCmpFunc_api_Ballot_c86]) ok_slices_SortFunc_api_Ballot_api_Ballot_c86 (by kernel_rfl) (by decide) ⟨s_math_bits_Len, s_slices_pdqsortCmpFunc_api_Ballot_c86, trivial⟩ (fun s a => congrFun (congrFun e_slices_SortFunc_api_Ballot_api_Ballot_c86 s) a)

/-! ### slices.Compact[[]trustquorum/api.Ballot,trustquorum/api.Ballot] -/
def sa_slices_Compact_api_Ballot_api_Ballot : SA U :=
 (.seq
 (.reg
 (op 2 (.mov (.cst (.nils)))
 .nil))
 (.seq
 (.seq
 (.reg
 (op 6 (.mov (tm 0))
 (op 7 (.len false (tm 6))
 (op 8 (.bin .lss (tm 7) (ci 2))
 .nil))))
 (.cond (tm 8)
 (.seq
 (.reg
 (op 9 (.mov (tm 0))
 (op 2 (.mov (tm 9))
 .nil)))
 .ret)
 .skip))
 (.seq
 (.seq
 (.reg
 (op 3 (.mov (ci 1))
 .nil))
 (.block 0
 (.loop ⟨[.val 3 (Ty.i .i64), .own 0 0 0 32 2 (Ty.st .Ballot)], []⟩
 (.seq
 (.seq
 (.reg
 (op 10 (.mov (tm 3))
 (op 11 (.mov (tm 0))
 (op 12 (.len false (tm 11))
 (op 13 (.bin .lss (tm 10) (tm 12))
 .nil)))))
 (.cond (tm 13)
 .skip
 (.exit 0)))
 (.seq
 (.block 1
 (.seq
 (.drw [(2, 7), (3, 7), (2, 8), (3, 8)]
 (op 16 (.mov (tm 0))
 (op 17 (.mov (tm 3))
 (op 18 (.iaddr 2 (tm 16) (tm 17))
 (op 19 (.load (some 2) (tm 18))
 (op 20 (.mov (tm 0))
 (op 21 (.mov (tm 3))
 (op 22 (.bin .sub (tm 21) (ci 1))
 (op 23 (.iaddr 2 (tm 20) (tm 22))
 (op 24 (.load (some 2) (tm 23))
 (op 25 (.eq2 false (tm 19) (tm 24))
 .nil)))))))))))
 (.cond (tm 25)
 (.seq
 (.reg
 (op 26 (.mov (tm 0))
 (op 27 (.mov (tm 3))
 (op 28 (.slc 2 (tm 26) (some (tm 27)) none)
 (op 4 (.mov (tm 28))
 .nil)))))
 (.seq
 (.seq
 (.reg
 (op 5 (.mov (ci 1))
 .nil))
 (.block 2
 (.loop ⟨[.val 3 (Ty.i .i64), .val 5 (Ty.i .i64), .own 0 0 0 32 2 (Ty.st .Ballot)], [4]⟩
 (.seq
 (.seq
 (.reg
 (op 29 (.mov (tm 5))
 (op 30 (.mov (tm 4))
 (op 31 (.len false (tm 30))
 (op 32 (.bin .lss (tm 29) (tm 31))
 .nil)))))
 (.cond (tm 32)
 .skip
 (.exit 2)))
 (.join ⟨[.val 3 (Ty.i .i64), .own 0 0 0 32 2 (Ty.st .Ballot)], [4, 5]⟩
 (.block 3
 (.seq
 (.drw [(2, 7), (3, 7), (2, 8), (3, 8)]
 (op 35 (.mov (tm 4))
 (op 36 (.mov (tm 5))
 (op 37 (.iaddr 2 (tm 35) (tm 36))
 (op 38 (.load (some 2) (tm 37))
 (op 39 (.mov (tm 4))
 (op 40 (.mov (tm 5))
 (op 41 (.bin .sub (tm 40) (ci 1))
 (op 42 (.iaddr 2 (tm 39) (tm 41))
 (op 43 (.load (some 2) (tm 42))
 (op 44 (.eq2 true (tm 38) (tm 43))
 .nil)))))))))))
 (.cond (tm 44)
 (.seq
 (.reg
 (op 45 (.mov (tm 0))
 (op 46 (.mov (tm 3))
 (op 47 (.mov (tm 4))
 (op 48 (.mov (tm 5))
 (op 49 (.iaddr 2 (tm 47) (tm 48))
 (op 50 (.load (some 2) (tm 49))
 (op 51 (.iaddr 2 (tm 45) (tm 46))
 (ops (.store 2 (tm 51) (tm 50))
 .nil)))))))))
 (.reg
 (op 52 (.mov (tm 3))
 (op 53 (.bin .add (tm 52) (ci 1))
 (op 3 (.mov (tm 53))
 .nil)))))
 .skip)))
 (.reg
 (op 33 (.mov (tm 5))
 (op 34 (.bin .add (tm 33) (ci 1))
 (op 5 (.mov (tm 34))
 .nil)))))))))
 (.seq
 (.reg
 (op 54 (.mov (tm 0))
 (op 55 (.mov (tm 3))
 (op 56 (.slc 2 (tm 54) (some (tm 55)) none)
 (ops (.clear 2 [.int .i64 0, .str ⟨#[]⟩] (tm 56))
 .nil)))))
 (.seq
 (.reg
 (op 57 (.mov (tm 0))
 (op 58 (.mov (tm 3))
 (op 59 (.slc 2 (tm 57) none (some (tm 58)))
 (op 2 (.mov (tm 59))
 (.ps (.cut 2)
 .nil))))))
 .ret))))
 .skip)))
 (.reg
 (op 14 (.mov (tm 3))
 (op 15 (.bin .add (tm 14) (ci 1))
 (op 3 (.mov (tm 15))
 .nil)))))))))
 (.seq
 (.reg
 (op 60 (.mov (tm 0))
 (op 2 (.mov (tm 60))
 .nil)))
 .ret))))
theorem ok_slices_Compact_api_Ballot_api_Ballot : FnOk Tryz.prog 145 61 (SA.erase sa_slices_Compact_api_Ballot_api_Ballot) [.tmp 2] := ⟨Tryz.f145, [], Tryz.func145, rfl, by kernel_rfl, by kernel_rfl, by kernel_rfl⟩
noncomputable def F_slices_Compact_api_Ballot_api_Ballot (s : List TBallot)  : Option (List TBallot) :=
 bif (decide (((List.length s : Nat) : Int) < (2 : Int))) then
 some s
 else
 loopO (fun (v1 : Int × (List TBallot) × Unit) =>
 bif (decide (v1.1 < ((List.length v1.2.1 : Nat) : Int))) then
 Option.bind (idx v1.2.1 v1.1) fun x2 =>
 Option.bind (v1.2.1[(Int.toNat v1.1)]?) fun x3 =>
 Option.bind (idx v1.2.1 (subI .i64 v1.1 (1 : Int))) fun x4 =>
 Option.bind (v1.2.1[(Int.toNat (subI .i64 v1.1 (1 : Int)))]?) fun x5 =>
 bif (eq2 false x3.Counter x5.Counter x3.Value x5.Value) then
 bif slcOk v1.1 ((List.length v1.2.1) : Int) (List.length v1.2.1) then
 loopO (fun (v6 : Int × Int × (List TBallot) × Unit) =>
 bif (decide (v6.2.1 < ((List.length ((v6.2.2.1.drop (Int.toNat v1.1)).take (Int.toNat ((List.length v1.2.1) : Int) - Int.toNat v1.1)) : Nat) : Int))) then
 letJ (fun (v7 : Int × (List TBallot) × Unit) =>
 some (Sum.inl (v7.1, (addI .i64 v6.2.1 (1 : Int)), v7.2.1, ()))) fun j8 =>
 Option.bind (idx ((v6.2.2.1.drop (Int.toNat v1.1)).take (Int.toNat ((List.length v1.2.1) : Int) - Int.toNat v1.1)) v6.2.1) fun x9 =>
 Option.bind (v6.2.2.1[((Int.toNat v1.1) + Int.toNat v6.2.1)]?) fun x10 =>
 Option.bind (idx ((v6.2.2.1.drop (Int.toNat v1.1)).take (Int.toNat ((List.length v1.2.1) : Int) - Int.toNat v1.1)) (subI .i64 v6.2.1 (1 : Int))) fun x11 =>
 Option.bind (v6.2.2.1[((Int.toNat v1.1) + Int.toNat (subI .i64 v6.2.1 (1 : Int)))]?) fun x12 =>
 bif (eq2 true x10.Counter x12.Counter x10.Value x12.Value) then
 Option.bind (idx ((v6.2.2.1.drop (Int.toNat v1.1)).take (Int.toNat ((List.length v1.2.1) : Int) - Int.toNat v1.1)) v6.2.1) fun x13 =>
 Option.bind (v6.2.2.1[((Int.toNat v1.1) + Int.toNat v6.2.1)]?) fun x14 =>
 Option.bind (idx v6.2.2.1 v6.1) fun x15 =>
 Option.bind (v6.2.2.1[(Int.toNat v6.1)]?) fun x16 =>
 j8 ((addI .i64 v6.1 (1 : Int)), (v6.2.2.1.set (Int.toNat v6.1) x14), ())
 else
 j8 (v6.1, v6.2.2.1, ())
 else
 Option.map Sum.inr (bif slcOk v6.1 ((List.length v6.2.2.1) : Int) (List.length v6.2.2.1) then
 bif slcOk (0 : Int) v6.1 (List.length (v6.2.2.1.take (Int.toNat v6.1) ++ List.replicate (Int.toNat ((List.length v6.2.2.1) : Int) - Int.toNat v6.1) (TBallot.mk (0 : Int) (ByteArray.mk #[])) ++ v6.2.2.1.drop ((Int.toNat v6.1) + (Int.toNat ((List.length v6.2.2.1) : Int) - Int.toNat v6.1)))) then
 Option.map Sum.inr (some ((v6.2.2.1.take (Int.toNat v6.1) ++ List.replicate (Int.toNat ((List.length v6.2.2.1) : Int) - Int.toNat v6.1) (TBallot.mk (0 : Int) (ByteArray.mk #[])) ++ v6.2.2.1.drop ((Int.toNat v6.1) + (Int.toNat ((List.length v6.2.2.1) : Int) - Int.toNat v6.1))).take (Int.toNat v6.1 - Int.toNat (0 : Int))))
 else none
 else none)) (v1.1, (1 : Int), v1.2.1, ())
 else none
 else
 some (Sum.inl ((addI .i64 v1.1 (1 : Int)), v1.2.1, ()))
 else
 Option.map Sum.inr (some v1.2.1)) ((1 : Int), s, ())
noncomputable def k_slices_Compact_api_Ballot_api_Ballot : KFun U := .cw 145 32 2 (Ty.st .Ballot) [] fun s a => F_slices_Compact_api_Ballot_api_Ballot s 
theorem e_slices_Compact_api_Ballot_api_Ballot : cwK K [] sa_slices_Compact_api_Ballot_api_Ballot [.tmp 2] 32 2 (Ty.st .Ballot) [] = fun s a => F_slices_Compact_api_Ballot_api_Ballot s  := by kernel_rfl
theorem s_slices_Compact_api_Ballot_api_Ballot : KFun.Sound (U := U) Tryz.prog k_slices_Compact_api_Ballot_api_Ballot := cwK_sound (K := K) (Γ := []) ok_slices_Compact_api_Ballot_api_Ballot (by kernel_rfl) (by decide) trivial (fun s a => congrFun (congrFun e_slices_Compact_api_Ballot_api_Ballot s) a)

/-! ### trustquorum/envelopes.unique[trustquorum/api.Ballot] -/
def sa_envelopes_unique_api_Ballot_c86 : SA U :=
 (.seq
 (.reg
 (op 4 (.mov (.cst (.nils)))
 .nil))
 (.seq
 (.reg
 (op 5 (.mov (tm 0))
 (op 6 (.mov (tm 1))
 (op 7 (.call 144 [(tm 5), (tm 6)])
 .nil))))
 (.seq
 (.reg
 (op 8 (.mov (tm 0))
 (op 9 (.call 145 [(tm 8)])
 (op 4 (.mov (tm 9))
 .nil))))
 .ret)))
theorem ok_envelopes_unique_api_Ballot_c86 : FnOk Tryz.prog 83 10 (SA.erase sa_envelopes_unique_api_Ballot_c86) [.tmp 4] := ⟨Tryz.f83, [], Tryz.func83, rfl, by kernel_rfl, by kernel_rfl, by kernel_rfl⟩
noncomputable def F_envelopes_unique_api_Ballot_c86 (s : List TBallot)  : Option (List TBallot) :=
 Option.bind (F_slices_SortFunc_api_Ballot_api_Ballot_c86 s) fun p1 =>
 Option.bind (F_slices_Compact_api_Ballot_api_Ballot p1.2) fun r2 =>
 some r2
noncomputable def k_envelopes_unique_api_Ballot_c86 : KFun U := .cw 83 32 2 (Ty.st .Ballot) [.clo 86 []] fun s a => F_envelopes_unique_api_Ballot_c86 s 
theorem e_envelopes_unique_api_Ballot_c86 : cwK K [k_slices_SortFunc_api_Ballot_api_Ballot_c86, k_slices_Compact_api_Ballot_api_Ballot] sa_envelopes_unique_api_Ballot_c86 [.tmp 4] 32 2 (Ty.st .Ballot) [.clo 86 []] = fun s a => F_envelopes_unique_api_Ballot_c86 s  := by kernel_rfl
theorem s_envelopes_unique_api_Ballot_c86 : KFun.Sound (U := U) Tryz.prog k_envelopes_unique_api_Ballot_c86 := cwK_sound (K := K) (Γ := [k_slices_SortFunc_api_Ballot_api_Ballot_c86, k_slices_Compact_api_Ballot_api_Ballot]) ok_envelopes_unique_api_Ballot_c86 (by kernel_rfl) (by decide) ⟨s_slices_SortFunc_api_Ballot_api_Ballot_c86, s_slices_Compact_api_Ballot_api_Ballot, trivial⟩ (fun s a => congrFun (congrFun e_envelopes_unique_api_Ballot_c86 s) a)

/-! ### trustquorum/envelopes.Ballots -/
def sa_envelopes_Ballots : SA U :=
 (.seq
 (.reg
 (op 2 (.mov (.cst (.nils)))
 .nil))
 (.seq
 (.reg
 (op 3 (.mov (.cst (.nils)))
 .nil))
 (.seq
 (.seq
 (.reg
 (op 6 (.mov (tm 0))
 (op 7 (.len false (tm 6))
 (op 8 (.mov (ci 0))
 .nil))))
 (.block 0
 (.ps (.own 3 32 2 (Ty.st .Ballot))
 (.loop ⟨[.val 8 (Ty.i .i64), .own 3 5 1 32 2 (Ty.st .Ballot)], [6, 7]⟩
 (.seq
 (.reg
 (op 9 (.bin .lss (tm 8) (tm 7))
 .nil))
 (.seq
 (.cond (tm 9)
 .skip
 (.exit 0))
 (.join ⟨[.own 3 5 1 32 2 (Ty.st .Ballot)], [6, 7, 8]⟩
 (.block 1
 (.seq
 (.reg
 (op 10 (.iaddr 15 (tm 6) (tm 8))
 (op 11 (.load (some 15) (tm 10))
 (op 5 (.alloc [.int .i64 0, .int .i64 0, .int .i64 0, .int .i64 0, .nils, .nils, .int .i64 0, .int .i64 0, .str ⟨#[]⟩, .int .i64 0, .str ⟨#[]⟩, .int .i64 0, .str ⟨#[]⟩, .int .i64 0, .int .i64 0])
 (ops (.store 15 (tm 5) (tm 11))
 .nil)))))
 (.seq
 (.seq
 (.reg
 (op 12 (.load (some 15) (tm 5))
 (op 13 (.call 75 [(tm 12)])
 (op 14 (.not (tm 13))
 .nil))))
 (.cond (tm 14)
 (.exit 1)
 .skip))
 (.seq
 (.reg
 (op 15 (.faddr 6 (tm 5))
 (op 16 (.load none (tm 15))
 .nil)))
 (.block 2
 (.seq
 (.reg
 (op 23 (.bin .eql (tm 16) (ci 1))
 (op 22 (.mov (tm 23))
 .nil)))
 (.cond (tm 22)
 (.reg
 (op 24 (.mov (tm 3))
 (op 25 (.faddr 7 (tm 5))
 (op 26 (.load (some 2) (tm 25))
 (op 27 (.faddr 9 (tm 5))
 (op 28 (.load (some 2) (tm 27))
 (op 29 (.faddr 11 (tm 5))
 (op 30 (.load (some 2) (tm 29))
 (op 31 (.bsl false 32 2 (List.replicate 3 [.int .i64 0, .str ⟨#[]⟩]) [(0, (tm 26)), (1, (tm 28)), (2, (tm 30))])
 (op 32 (.app 32 2 24 (tm 24) (tm 31))
 (op 3 (.mov (tm 32))
 .nil)))))))))))
 (.seq
 (.reg
 (op 34 (.bin .eql (tm 16) (ci 2))
 (op 33 (.mov (tm 34))
 .nil)))
 (.cond (tm 33)
 (.drw [(1, 3), (2, 3), (1, 4), (2, 4)]
 (op 35 (.mov (tm 3))
 (op 36 (.faddr 9 (tm 5))
 (op 37 (.load (some 2) (tm 36))
 (op 38 (.load (some 15) (tm 5))
 (op 39 (.call 82 [(tm 38), (ci 1000000)])
 (op 40 (.bsl false 32 2 (List.replicate 2 [.int .i64 0, .str ⟨#[]⟩]) [(0, (tm 37)), (1, (tm 39))])
 (op 41 (.app 32 2 24 (tm 35) (tm 40))
 (op 3 (.mov (tm 41))
 .nil)))))))))
 (.reg
 (op 17 (.mov (tm 3))
 (op 18 (.load (some 15) (tm 5))
 (op 19 (.call 82 [(tm 18), (ci 1000000)])
 (op 20 (.bsl false 32 2 (List.replicate 1 [.int .i64 0, .str ⟨#[]⟩]) [(0, (tm 19))])
 (op 21 (.app 32 2 24 (tm 17) (tm 20))
 (op 3 (.mov (tm 21))
 .nil))))))))))))))))
 (.reg
 (op 42 (.bin .add (tm 8) (ci 1))
 (op 8 (.mov (tm 42))
 .nil))))))))))
 (.seq
 (.reg
 (op 43 (.mov (tm 3))
 (op 44 (.call 84 [(tm 43), (.cst (.clo 85 []))])
 (op 45 (.call 83 [(tm 44), (.cst (.clo 86 []))])
 (op 2 (.mov (tm 45))
 .nil)))))
 .ret))))
theorem ok_envelopes_Ballots : FnOk Tryz.prog 13 46 (SA.erase sa_envelopes_Ballots) [.tmp 2] := ⟨Tryz.f13, [], Tryz.func13, rfl, by kernel_rfl, by kernel_rfl, by kernel_rfl⟩
noncomputable def F_envelopes_Ballots (a0 : (List TEnvelope)) : Option (List TBallot) :=
 loopO (fun (v1 : Int × (List TBallot) × Unit) =>
 bif (decide (v1.1 < ((List.length a0 : Nat) : Int))) then
 letJ (fun (v2 : (List TBallot) × Unit) =>
 some (Sum.inl ((addI .i64 v1.1 (1 : Int)), v2.1, ()))) fun j3 =>
 Option.bind (idx a0 v1.1) fun x4 =>
 Option.bind (F_envelopes_Valid (TEnvelope.mk x4.Node x4.Slot x4.Seq (TTrust.mk x4.Trust.Threshold x4.Trust.Nodes x4.Trust.Inner) x4.Kind x4.Ballot x4.Prepared x4.Prime x4.Low x4.High)) fun r5 =>
 bif (!r5) then
 j3 (v1.2.1, ())
 else
 bif (decide (x4.Kind = (1 : Int))) then
 bif lenOk 24 (List.length v1.2.1 + List.length [x4.Ballot, x4.Prepared, x4.Prime]) then
 j3 ((v1.2.1 ++ [x4.Ballot, x4.Prepared, x4.Prime]), ())
 else none
 else
 bif (decide (x4.Kind = (2 : Int))) then
 Option.bind (F_envelopes_at (TEnvelope.mk x4.Node x4.Slot x4.Seq (TTrust.mk x4.Trust.Threshold x4.Trust.Nodes x4.Trust.Inner) x4.Kind x4.Ballot x4.Prepared x4.Prime x4.Low x4.High) (1000000 : Int)) fun r6 =>
 bif lenOk 24 (List.length v1.2.1 + List.length [x4.Prepared, r6]) then
 j3 ((v1.2.1 ++ [x4.Prepared, r6]), ())
 else none
 else
 Option.bind (F_envelopes_at (TEnvelope.mk x4.Node x4.Slot x4.Seq (TTrust.mk x4.Trust.Threshold x4.Trust.Nodes x4.Trust.Inner) x4.Kind x4.Ballot x4.Prepared x4.Prime x4.Low x4.High) (1000000 : Int)) fun r7 =>
 bif lenOk 24 (List.length v1.2.1 + List.length [r7]) then
 j3 ((v1.2.1 ++ [r7]), ())
 else none
 else
 Option.map Sum.inr (Option.bind (F_slices_DeleteFunc_api_Ballot_api_Ballot_c85 v1.2.1) fun r8 =>
 Option.bind (F_envelopes_unique_api_Ballot_c86 r8) fun r9 =>
 some r9)) ((0 : Int), ([] : List TBallot), ())
noncomputable def k_envelopes_Ballots : KFun U := .fn 13 [.ty (Ty.sl (Ty.st .Envelope))] (.one (Ty.sl (Ty.st .Ballot))) fun a => F_envelopes_Ballots a.1
theorem e_envelopes_Ballots : fnK K [k_envelopes_Valid, k_envelopes_at, k_slices_DeleteFunc_api_Ballot_api_Ballot_c85, k_envelopes_unique_api_Ballot_c86] sa_envelopes_Ballots [.tmp 2] [.ty (Ty.sl (Ty.st .Envelope))] (.one (Ty.sl (Ty.st .Ballot))) = fun a => F_envelopes_Ballots a.1 := by kernel_rfl
theorem s_envelopes_Ballots : KFun.Sound (U := U) Tryz.prog k_envelopes_Ballots := fnK_sound (K := K) (Γ := [k_envelopes_Valid, k_envelopes_at, k_slices_DeleteFunc_api_Ballot_api_Ballot_c85, k_envelopes_unique_api_Ballot_c86]) ok_envelopes_Ballots (by kernel_rfl) (by decide) ⟨s_envelopes_Valid, s_envelopes_at, s_slices_DeleteFunc_api_Ballot_api_Ballot_c85, s_envelopes_unique_api_Ballot_c86, trivial⟩ (fun a => congrFun e_envelopes_Ballots a)

/-! ### slices.insertionSortCmpFunc[string] -/
def sa_slices_insertionSortCmpFunc_string_c89 : SA U :=
 (.seq
 (.reg
 (op 10 (.mov (tm 1))
 (op 11 (.bin .add (tm 10) (ci 1))
 (op 8 (.mov (tm 11))
 .nil))))
 (.block 0
 (.loop ⟨[.val 8 (Ty.i .i64), .own 0 0 0 9 1 Ty.str], [1, 2, 3]⟩
 (.seq
 (.seq
 (.reg
 (op 12 (.mov (tm 8))
 (op 13 (.mov (tm 2))
 (op 14 (.bin .lss (tm 12) (tm 13))
 .nil))))
 (.cond (tm 14)
 .skip
 (.exit 0)))
 (.seq
 (.block 1
 (.seq
 (.reg
 (op 17 (.mov (tm 8))
 (op 9 (.mov (tm 17))
 .nil)))
 (.block 2
 (.loop ⟨[.val 9 (Ty.i .i64), .own 0 0 0 9 1 Ty.str], [1, 2, 3, 8]⟩
 (.seq
 (.join ⟨[.val 34 Ty.bool], [0, 1, 2, 3, 8, 9]⟩
 (.drw [(7, 12), (8, 12), (7, 13), (8, 13)]
 (op 18 (.mov (tm 9))
 (op 19 (.mov (tm 1))
 (op 20 (.bin .gtr (tm 18) (tm 19))
 (op 21 (.mov (tm 20))
 (.spl 21
 (opg 22 21 true (.mov (tm 3))
 (opg 23 21 true (.mov (tm 0))
 (opg 24 21 true (.mov (tm 9))
 (opg 25 21 true (.iaddr 1 (tm 23) (tm 24))
 (opg 26 21 true (.load none (tm 25))
 (opg 27 21 true (.mov (tm 0))
 (opg 28 21 true (.mov (tm 9))
 (opg 29 21 true (.bin .sub (tm 28) (ci 1))
 (opg 30 21 true (.iaddr 1 (tm 27) (tm 29))
 (opg 31 21 true (.load none (tm 30))
 (opg 32 21 true (.callv (tm 22) [(tm 26), (tm 31)])
 (opg 33 21 true (.bin .lss (tm 32) (ci 0))
 (op 34 (.pick (tm 21) (tm 33) (.cst (.bool false)))
 .nil)))))))))))))))))))
 (.cond (tm 34)
 .skip
 (.exit 2)))
 (.seq
 (.block 3
 (.drw [(8, 12), (9, 12), (8, 13), (9, 13)]
 (op 37 (.mov (tm 0))
 (op 38 (.mov (tm 9))
 (op 39 (.mov (tm 0))
 (op 40 (.mov (tm 9))
 (op 41 (.bin .sub (tm 40) (ci 1))
 (op 42 (.mov (tm 0))
 (op 43 (.mov (tm 9))
 (op 44 (.bin .sub (tm 43) (ci 1))
 (op 45 (.iaddr 1 (tm 42) (tm 44))
 (op 46 (.load none (tm 45))
 (op 47 (.mov (tm 0))
 (op 48 (.mov (tm 9))
 (op 49 (.iaddr 1 (tm 47) (tm 48))
 (op 50 (.load none (tm 49))
 (op 51 (.iaddr 1 (tm 37) (tm 38))
 (ops (.store 1 (tm 51) (tm 46))
 (op 52 (.iaddr 1 (tm 39) (tm 41))
 (ops (.store 1 (tm 52) (tm 50))
 .nil))))))))))))))))))))
 (.reg
 (op 35 (.mov (tm 9))
 (op 36 (.bin .sub (tm 35) (ci 1))
 (op 9 (.mov (tm 36))
 .nil))))))))))
 (.reg
 (op 15 (.mov (tm 8))
 (op 16 (.bin .add (tm 15) (ci 1))
 (op 8 (.mov (tm 16))
 .nil)))))))))
theorem ok_slices_insertionSortCmpFunc_string_c89 : FnOk Tryz.prog 210 53 (SA.erase sa_slices_insertionSortCmpFunc_string_c89) [] := ⟨Tryz.f210, [], Tryz.func210, rfl, by kernel_rfl, by kernel_rfl, by kernel_rfl⟩
noncomputable def F_slices_insertionSortCmpFunc_string_c89 (s : List ByteArray) (a0 : Int) (a1 : Int) : Option ((Unit) × List ByteArray) :=
 loopO (fun (v1 : Int × (List ByteArray) × Unit) =>
 bif (decide (v1.1 < a1)) then
 loopO (fun (v2 : Int × (List ByteArray) × Unit) =>
 letJ (fun (v3 : Bool × Unit) =>
 bif v3.1 then
 Option.bind (idx v2.2.1 (subI .i64 v2.1 (1 : Int))) fun x5 =>
 Option.bind (v2.2.1[(Int.toNat (subI .i64 v2.1 (1 : Int)))]?) fun x6 =>
 Option.bind (idx v2.2.1 v2.1) fun x7 =>
 Option.bind (v2.2.1[(Int.toNat v2.1)]?) fun x8 =>
 Option.bind (idx v2.2.1 v2.1) fun x9 =>
 Option.bind (v2.2.1[(Int.toNat v2.1)]?) fun x10 =>
 Option.bind (idx (v2.2.1.set (Int.toNat v2.1) x6) (subI .i64 v2.1 (1 : Int))) fun x11 =>
 Option.bind ((v2.2.1.set (Int.toNat v2.1) x6)[(Int.toNat (subI .i64 v2.1 (1 : Int)))]?) fun x12 =>
 some (Sum.inl ((subI .i64 v2.1 (1 : Int)), ((v2.2.1.set (Int.toNat v2.1) x6).set (Int.toNat (subI .i64 v2.1 (1 : Int))) x8), ()))
 else
 Option.map Sum.inr (some (Sum.inl ((addI .i64 v1.1 (1 : Int)), v2.2.1, ())))) fun j4 =>
 bif (decide (a0 < v2.1)) then
 Option.bind (idx v2.2.1 v2.1) fun x13 =>
 Option.bind (v2.2.1[(Int.toNat v2.1)]?) fun x14 =>
 Option.bind (idx v2.2.1 (subI .i64 v2.1 (1 : Int))) fun x15 =>
 Option.bind (v2.2.1[(Int.toNat (subI .i64 v2.1 (1 : Int)))]?) fun x16 =>
 Option.bind (F_ballots_CompareValues x14 x16) fun r17 =>
 j4 ((decide (r17 < (0 : Int))), ())
 else
 j4 (false, ())) (v1.1, v1.2.1, ())
 else
 Option.map Sum.inr (some ((()), v1.2.1))) ((addI .i64 a0 (1 : Int)), s, ())
noncomputable def k_slices_insertionSortCmpFunc_string_c89 : KFun U := .rw 210 9 1 Ty.str [.ty (Ty.i .i64), .ty (Ty.i .i64), .clo 89 []] (.many []) fun s a => F_slices_insertionSortCmpFunc_string_c89 s a.1 a.2.1
theorem e_slices_insertionSortCmpFunc_string_c89 : rwK K [k_ballots_CompareValues] sa_slices_insertionSortCmpFunc_string_c89 [] 9 1 Ty.str [.ty (Ty.i .i64), .ty (Ty.i .i64), .clo 89 []] (.many []) = fun s a => F_slices_insertionSortCmpFunc_string_c89 s a.1 a.2.1 := by kernel_rfl
theorem s_slices_insertionSortCmpFunc_string_c89 : KFun.Sound (U := U) Tryz.prog k_slices_insertionSortCmpFunc_string_c89 := rwK_sound (K := K) (Γ := [k_ballots_CompareValues]) ok_slices_insertionSortCmpFunc_string_c89 (by kernel_rfl) (by decide) ⟨s_ballots_CompareValues, trivial⟩ (fun s a => congrFun (congrFun e_slices_insertionSortCmpFunc_string_c89 s) a)

/-! ### slices.siftDownCmpFunc[string] -/
def sa_slices_siftDownCmpFunc_string_c89 : SA U :=
 (.seq
 (.reg
 (op 12 (.mov (tm 1))
 (op 10 (.mov (tm 12))
 .nil)))
 (.block 0
 (.loop ⟨[.val 10 (Ty.i .i64), .own 0 0 0 9 1 Ty.str], [2, 3, 4]⟩
 (.block 1
 (.seq
 (.reg
 (op 13 (.mov (tm 10))
 (op 14 (.bin .mul (ci 2) (tm 13))
 (op 15 (.bin .add (tm 14) (ci 1))
 (op 11 (.mov (tm 15))
 .nil)))))
 (.seq
 (.seq
 (.reg
 (op 16 (.mov (tm 11))
 (op 17 (.mov (tm 2))
 (op 18 (.bin .geq (tm 16) (tm 17))
 .nil))))
 (.cond (tm 18)
 (.exit 0)
 .skip))
 (.join ⟨[.val 11 (Ty.i .i64)], [0, 2, 3, 4, 10]⟩
 (.join ⟨[.val 40 Ty.bool], [0, 2, 3, 4, 10, 11]⟩
 (.drw [(10, 17), (11, 17), (10, 18), (11, 18)]
 (op 19 (.mov (tm 11))
 (op 20 (.bin .add (tm 19) (ci 1))
 (op 21 (.mov (tm 2))
 (op 22 (.bin .lss (tm 20) (tm 21))
 (op 23 (.mov (tm 22))
 (.spl 23
 (opg 24 23 true (.mov (tm 4))
 (opg 25 23 true (.mov (tm 0))
 (opg 26 23 true (.mov (tm 3))
 (opg 27 23 true (.mov (tm 11))
 (opg 28 23 true (.bin .add (tm 26) (tm 27))
 (opg 29 23 true (.iaddr 1 (tm 25) (tm 28))
 (opg 30 23 true (.load none (tm 29))
 (opg 31 23 true (.mov (tm 0))
 (opg 32 23 true (.mov (tm 3))
 (opg 33 23 true (.mov (tm 11))
 (opg 34 23 true (.bin .add (tm 32) (tm 33))
 (opg 35 23 true (.bin .add (tm 34) (ci 1))
 (opg 36 23 true (.iaddr 1 (tm 31) (tm 35))
 (opg 37 23 true (.load none (tm 36))
 (opg 38 23 true (.callv (tm 24) [(tm 30), (tm 37)])
 (opg 39 23 true (.bin .lss (tm 38) (ci 0))
 (op 40 (.pick (tm 23) (tm 39) (.cst (.bool false)))
 .nil))))))))))))))))))))))))
 (.cond (tm 40)
 (.reg
 (op 41 (.mov (tm 11))
 (op 42 (.bin .add (tm 41) (ci 1))
 (op 11 (.mov (tm 42))
 .nil))))
 .skip))
 (.seq
 (.seq
 (.drw [(5, 11), (6, 11), (5, 12), (6, 12)]
 (op 43 (.mov (tm 4))
 (op 44 (.mov (tm 0))
 (op 45 (.mov (tm 3))
 (op 46 (.mov (tm 10))
 (op 47 (.bin .add (tm 45) (tm 46))
 (op 48 (.iaddr 1 (tm 44) (tm 47))
 (op 49 (.load none (tm 48))
 (op 50 (.mov (tm 0))
 (op 51 (.mov (tm 3))
 (op 52 (.mov (tm 11))
 (op 53 (.bin .add (tm 51) (tm 52))
 (op 54 (.iaddr 1 (tm 50) (tm 53))
 (op 55 (.load none (tm 54))
 (op 56 (.callv (tm 43) [(tm 49), (tm 55)])
 (op 57 (.bin .lss (tm 56) (ci 0))
 (op 58 (.not (tm 57))
 .nil)))))))))))))))))
 (.cond (tm 58)
 .ret
 .skip))
 (.seq
 (.drw [(12, 18), (13, 18), (12, 19), (13, 19)]
 (op 59 (.mov (tm 0))
 (op 60 (.mov (tm 3))
 (op 61 (.mov (tm 10))
 (op 62 (.bin .add (tm 60) (tm 61))
 (op 63 (.mov (tm 0))
 (op 64 (.mov (tm 3))
 (op 65 (.mov (tm 11))
 (op 66 (.bin .add (tm 64) (tm 65))
 (op 67 (.mov (tm 0))
 (op 68 (.mov (tm 3))
 (op 69 (.mov (tm 11))
 (op 70 (.bin .add (tm 68) (tm 69))
 (op 71 (.iaddr 1 (tm 67) (tm 70))
 (op 72 (.load none (tm 71))
 (op 73 (.mov (tm 0))
 (op 74 (.mov (tm 3))
 (op 75 (.mov (tm 10))
 (op 76 (.bin .add (tm 74) (tm 75))
 (op 77 (.iaddr 1 (tm 73) (tm 76))
 (op 78 (.load none (tm 77))
 (op 79 (.iaddr 1 (tm 59) (tm 62))
 (ops (.store 1 (tm 79) (tm 72))
 (op 80 (.iaddr 1 (tm 63) (tm 66))
 (ops (.store 1 (tm 80) (tm 78))
 .nil)))))))))))))))))))))))))
 (.reg
 (op 81 (.mov (tm 11))
 (op 10 (.mov (tm 81))
 .nil))))))))))))
theorem ok_slices_siftDownCmpFunc_string_c89 : FnOk Tryz.prog 237 82 (SA.erase sa_slices_siftDownCmpFunc_string_c89) [] := ⟨Tryz.f237, [], Tryz.func237, rfl, by kernel_rfl, by kernel_rfl, by kernel_rfl⟩
noncomputable def F_slices_siftDownCmpFunc_string_c89 (s : List ByteArray) (a0 : Int) (a1 : Int) (a2 : Int) : Option ((Unit) × List ByteArray) :=
 loopO (fun (v1 : Int × (List ByteArray) × Unit) =>
 bif (decide (a1 ≤ (addI .i64 (mulI .i64 (2 : Int) v1.1) (1 : Int)))) then
 Option.map Sum.inr (some ((()), v1.2.1))
 else
 letJ (fun (v2 : Int × Unit) =>
 Option.bind (idx v1.2.1 (addI .i64 a2 v1.1)) fun x4 =>
 Option.bind (v1.2.1[(Int.toNat (addI .i64 a2 v1.1))]?) fun x5 =>
 Option.bind (idx v1.2.1 (addI .i64 a2 v2.1)) fun x6 =>
 Option.bind (v1.2.1[(Int.toNat (addI .i64 a2 v2.1))]?) fun x7 =>
 Option.bind (F_ballots_CompareValues x5 x7) fun r8 =>
 bif (!(decide (r8 < (0 : Int)))) then
 Option.map Sum.inr (some ((()), v1.2.1))
 else
 Option.bind (idx v1.2.1 (addI .i64 a2 v2.1)) fun x9 =>
 Option.bind (v1.2.1[(Int.toNat (addI .i64 a2 v2.1))]?) fun x10 =>
 Option.bind (idx v1.2.1 (addI .i64 a2 v1.1)) fun x11 =>
 Option.bind (v1.2.1[(Int.toNat (addI .i64 a2 v1.1))]?) fun x12 =>
 Option.bind (idx v1.2.1 (addI .i64 a2 v1.1)) fun x13 =>
 Option.bind (v1.2.1[(Int.toNat (addI .i64 a2 v1.1))]?) fun x14 =>
 Option.bind (idx (v1.2.1.set (Int.toNat (addI .i64 a2 v1.1)) x10) (addI .i64 a2 v2.1)) fun x15 =>
 Option.bind ((v1.2.1.set (Int.toNat (addI .i64 a2 v1.1)) x10)[(Int.toNat (addI .i64 a2 v2.1))]?) fun x16 =>
 some (Sum.inl (v2.1, ((v1.2.1.set (Int.toNat (addI .i64 a2 v1.1)) x10).set (Int.toNat (addI .i64 a2 v2.1)) x12), ()))) fun j3 =>
 letJ (fun (v17 : Bool × Unit) =>
 bif v17.1 then
 j3 ((addI .i64 (addI .i64 (mulI .i64 (2 : Int) v1.1) (1 : Int)) (1 : Int)), ())
 else
 j3 ((addI .i64 (mulI .i64 (2 : Int) v1.1) (1 : Int)), ())) fun j18 =>
 bif (decide ((addI .i64 (addI .i64 (mulI .i64 (2 : Int) v1.1) (1 : Int)) (1 : Int)) < a1)) then
 Option.bind (idx v1.2.1 (addI .i64 a2 (addI .i64 (mulI .i64 (2 : Int) v1.1) (1 : Int)))) fun x19 =>
 Option.bind (v1.2.1[(Int.toNat (addI .i64 a2 (addI .i64 (mulI .i64 (2 : Int) v1.1) (1 : Int))))]?) fun x20 =>
 Option.bind (idx v1.2.1 (addI .i64 (addI .i64 a2 (addI .i64 (mulI .i64 (2 : Int) v1.1) (1 : Int))) (1 : Int))) fun x21 =>
 Option.bind (v1.2.1[(Int.toNat (addI .i64 (addI .i64 a2 (addI .i64 (mulI .i64 (2 : Int) v1.1) (1 : Int))) (1 : Int)))]?) fun x22 =>
 Option.bind (F_ballots_CompareValues x20 x22) fun r23 =>
 j18 ((decide (r23 < (0 : Int))), ())
 else
 j18 (false, ())) (a0, s, ())
noncomputable def k_slices_siftDownCmpFunc_string_c89 : KFun U := .rw 237 9 1 Ty.str [.ty (Ty.i .i64), .ty (Ty.i .i64), .ty (Ty.i .i64), .clo 89 []] (.many []) fun s a => F_slices_siftDownCmpFunc_string_c89 s a.1 a.2.1 a.2.2.1
theorem e_slices_siftDownCmpFunc_string_c89 : rwK K [k_ballots_CompareValues] sa_slices_siftDownCmpFunc_string_c89 [] 9 1 Ty.str [.ty (Ty.i .i64), .ty (Ty.i .i64), .ty (Ty.i .i64), .clo 89 []] (.many []) = fun s a => F_slices_siftDownCmpFunc_string_c89 s a.1 a.2.1 a.2.2.1 := by kernel_rfl
theorem s_slices_siftDownCmpFunc_string_c89 : KFun.Sound (U := U) Tryz.prog k_slices_siftDownCmpFunc_string_c89 := rwK_sound (K := K) (Γ := [k_ballots_CompareValues]) ok_slices_siftDownCmpFunc_string_c89 (by kernel_rfl) (by decide) ⟨s_ballots_CompareValues, trivial⟩ (fun s a => congrFun (congrFun e_slices_siftDownCmpFunc_string_c89 s) a)

/-! ### slices.heapSortCmpFunc[string] -/
def sa_slices_heapSortCmpFunc_string_c89 : SA U :=
 (.seq
 (.reg
 (op 13 (.mov (tm 1))
 (op 8 (.mov (tm 13))
 .nil)))
 (.seq
 (.reg
 (op 9 (.mov (ci 0))
 .nil))
 (.seq
 (.reg
 (op 14 (.mov (tm 2))
 (op 15 (.mov (tm 1))
 (op 16 (.bin .sub (tm 14) (tm 15))
 (op 10 (.mov (tm 16))
 .nil)))))
 (.seq
 (.seq
 (.reg
 (op 17 (.mov (tm 10))
 (op 18 (.bin .sub (tm 17) (ci 1))
 (op 19 (.bin .quo (tm 18) (ci 2))
 (op 11 (.mov (tm 19))
 .nil)))))
 (.block 0
 (.loop ⟨[.val 11 (Ty.i .i64), .own 0 0 0 9 1 Ty.str], [3, 8, 9, 10]⟩
 (.seq
 (.seq
 (.reg
 (op 20 (.mov (tm 11))
 (op 21 (.bin .geq (tm 20) (ci 0))
 .nil)))
 (.cond (tm 21)
 .skip
 (.exit 0)))
 (.seq
 (.block 1
 (.reg
 (op 24 (.mov (tm 0))
 (op 25 (.mov (tm 11))
 (op 26 (.mov (tm 10))
 (op 27 (.mov (tm 8))
 (op 28 (.mov (tm 3))
 (op 29 (.call 237 [(tm 24), (tm 25), (tm 26), (tm 27), (tm 28)])
 .nil))))))))
 (.reg
 (op 22 (.mov (tm 11))
 (op 23 (.bin .sub (tm 22) (ci 1))
 (op 11 (.mov (tm 23))
 .nil)))))))))
 (.seq
 (.reg
 (op 30 (.mov (tm 10))
 (op 31 (.bin .sub (tm 30) (ci 1))
 (op 12 (.mov (tm 31))
 .nil))))
 (.block 2
 (.loop ⟨[.val 12 (Ty.i .i64), .own 0 0 0 9 1 Ty.str], [3, 8, 9]⟩
 (.seq
 (.seq
 (.reg
 (op 32 (.mov (tm 12))
 (op 33 (.bin .geq (tm 32) (ci 0))
 .nil)))
 (.cond (tm 33)
 .skip
 (.exit 2)))
 (.seq
 (.block 3
 (.seq
 (.drw [(10, 14), (11, 14), (10, 15), (11, 15)]
 (op 36 (.mov (tm 0))
 (op 37 (.mov (tm 8))
 (op 38 (.mov (tm 0))
 (op 39 (.mov (tm 8))
 (op 40 (.mov (tm 12))
 (op 41 (.bin .add (tm 39) (tm 40))
 (op 42 (.mov (tm 0))
 (op 43 (.mov (tm 8))
 (op 44 (.mov (tm 12))
 (op 45 (.bin .add (tm 43) (tm 44))
 (op 46 (.iaddr 1 (tm 42) (tm 45))
 (op 47 (.load none (tm 46))
 (op 48 (.mov (tm 0))
 (op 49 (.mov (tm 8))
 (op 50 (.iaddr 1 (tm 48) (tm 49))
 (op 51 (.load none (tm 50))
 (op 52 (.iaddr 1 (tm 36) (tm 37))
 (ops (.store 1 (tm 52) (tm 47))
 (op 53 (.iaddr 1 (tm 38) (tm 41))
 (ops (.store 1 (tm 53) (tm 51))
 .nil)))))))))))))))))))))
 (.reg
 (op 54 (.mov (tm 0))
 (op 55 (.mov (tm 9))
 (op 56 (.mov (tm 12))
 (op 57 (.mov (tm 8))
 (op 58 (.mov (tm 3))
 (op 59 (.call 237 [(tm 54), (tm 55), (tm 56), (tm 57), (tm 58)])
 .nil)))))))))
 (.reg
 (op 34 (.mov (tm 12))
 (op 35 (.bin .sub (tm 34) (ci 1))
 (op 12 (.mov (tm 35))
 .nil)))))))))))))
theorem ok_slices_heapSortCmpFunc_string_c89 : FnOk Tryz.prog 211 60 (SA.erase sa_slices_heapSortCmpFunc_string_c89) [] := ⟨Tryz.f211, [], Tryz.func211, rfl, by kernel_rfl, by kernel_rfl, by kernel_rfl⟩
noncomputable def F_slices_heapSortCmpFunc_string_c89 (s : List ByteArray) (a0 : Int) (a1 : Int) : Option ((Unit) × List ByteArray) :=
 loopO (fun (v1 : Int × (List ByteArray) × Unit) =>
 bif (decide ((0 : Int) ≤ v1.1)) then
 Option.bind (F_slices_siftDownCmpFunc_string_c89 v1.2.1 v1.1 (subI .i64 a1 a0) a0) fun p2 =>
 some (Sum.inl ((subI .i64 v1.1 (1 : Int)), p2.2, ()))
 else
 Option.map Sum.inr (loopO (fun (v3 : Int × (List ByteArray) × Unit) =>
 bif (decide ((0 : Int) ≤ v3.1)) then
 Option.bind (idx v3.2.1 (addI .i64 a0 v3.1)) fun x4 =>
 Option.bind (v3.2.1[(Int.toNat (addI .i64 a0 v3.1))]?) fun x5 =>
 Option.bind (idx v3.2.1 a0) fun x6 =>
 Option.bind (v3.2.1[(Int.toNat a0)]?) fun x7 =>
 Option.bind (idx v3.2.1 a0) fun x8 =>
 Option.bind (v3.2.1[(Int.toNat a0)]?) fun x9 =>
 Option.bind (idx (v3.2.1.set (Int.toNat a0) x5) (addI .i64 a0 v3.1)) fun x10 =>
 Option.bind ((v3.2.1.set (Int.toNat a0) x5)[(Int.toNat (addI .i64 a0 v3.1))]?) fun x11 =>
 Option.bind (F_slices_siftDownCmpFunc_string_c89 ((v3.2.1.set (Int.toNat a0) x5).set (Int.toNat (addI .i64 a0 v3.1)) x7) (0 : Int) v3.1 a0) fun p12 =>
 some (Sum.inl ((subI .i64 v3.1 (1 : Int)), p12.2, ()))
 else
 Option.map Sum.inr (some ((()), v3.2.1))) ((subI .i64 (subI .i64 a1 a0) (1 : Int)), v1.2.1, ()))) ((quoI .i64 (subI .i64 (subI .i64 a1 a0) (1 : Int)) (2 : Int)), s, ())
noncomputable def k_slices_heapSortCmpFunc_string_c89 : KFun U := .rw 211 9 1 Ty.str [.ty (Ty.i .i64), .ty (Ty.i .i64), .clo 89 []] (.many []) fun s a => F_slices_heapSortCmpFunc_string_c89 s a.1 a.2.1
theorem e_slices_heapSortCmpFunc_string_c89 : rwK K [k_slices_siftDownCmpFunc_string_c89] sa_slices_heapSortCmpFunc_string_c89 [] 9 1 Ty.str [.ty (Ty.i .i64), .ty (Ty.i .i64), .clo 89 []] (.many []) = fun s a => F_slices_heapSortCmpFunc_string_c89 s a.1 a.2.1 := by kernel_rfl
theorem s_slices_heapSortCmpFunc_string_c89 : KFun.Sound (U := U) Tryz.prog k_slices_heapSortCmpFunc_string_c89 := rwK_sound (K := K) (Γ := [k_slices_siftDownCmpFunc_string_c89]) ok_slices_heapSortCmpFunc_string_c89 (by kernel_rfl) (by decide) ⟨s_slices_siftDownCmpFunc_string_c89, trivial⟩ (fun s a => congrFun (congrFun e_slices_heapSortCmpFunc_string_c89 s) a)

/-! ### slices.breakPatternsCmpFunc[string] -/
def sa_slices_breakPatternsCmpFunc_string_c89 : SA U :=
 (.seq
 (.reg
 (op 13 (.mov (tm 2))
 (op 14 (.mov (tm 1))
 (op 15 (.bin .sub (tm 13) (tm 14))
 (op 8 (.mov (tm 15))
 .nil)))))
 (.seq
 (.reg
 (op 16 (.mov (tm 8))
 (op 17 (.bin .geq (tm 16) (ci 8))
 .nil)))
 (.cond (tm 17)
 (.seq
 (.reg
 (op 18 (.mov (tm 8))
 (op 19 (.conv .u64 (tm 18))
 (op 9 (.alloc [.int .u64 0])
 (ops (.store 1 (tm 9) (tm 19))
 .nil)))))
 (.seq
 (.reg
 (op 20 (.mov (tm 8))
 (op 21 (.call 233 [(tm 20)])
 (op 10 (.mov (tm 21))
 .nil))))
 (.seq
 (.reg
 (op 22 (.mov (tm 1))
 (op 23 (.mov (tm 8))
 (op 24 (.bin .quo (tm 23) (ci 4))
 (op 25 (.bin .mul (tm 24) (ci 2))
 (op 26 (.bin .add (tm 22) (tm 25))
 (op 27 (.bin .sub (tm 26) (ci 1))
 (op 11 (.mov (tm 27))
 .nil))))))))
 (.block 0
 (.loop ⟨[.val 11 (Ty.i .i64), .own 0 0 0 9 1 Ty.str, .box 9 1 (Ty.i .u64) []], [1, 8, 9, 10]⟩
 (.seq
 (.seq
 (.reg
 (op 28 (.mov (tm 11))
 (op 29 (.mov (tm 1))
 (op 30 (.mov (tm 8))
 (op 31 (.bin .quo (tm 30) (ci 4))
 (op 32 (.bin .mul (tm 31) (ci 2))
 (op 33 (.bin .add (tm 29) (tm 32))
 (op 34 (.bin .add (tm 33) (ci 1))
 (op 35 (.bin .leq (tm 28) (tm 34))
 .nil)))))))))
 (.cond (tm 35)
 .skip
 (.exit 0)))
 (.seq
 (.block 1
 (.seq
 (.reg
 (op 38 (.call 234 [(tm 9)])
 (op 39 (.mov (tm 10))
 (op 40 (.bin .sub (tm 39) (.cst (.int .u64 1)))
 (op 41 (.bin .and (tm 38) (tm 40))
 (op 42 (.conv .i64 (tm 41))
 (op 12 (.mov (tm 42))
 .nil)))))))
 (.join ⟨[.val 12 (Ty.i .i64)], [0, 1, 8, 9, 10, 11]⟩
 (.seq
 (.reg
 (op 43 (.mov (tm 12))
 (op 44 (.mov (tm 8))
 (op 45 (.bin .geq (tm 43) (tm 44))
 .nil))))
 (.cond (tm 45)
 (.reg
 (op 46 (.mov (tm 12))
 (op 47 (.mov (tm 8))
 (op 48 (.bin .sub (tm 46) (tm 47))
 (op 12 (.mov (tm 48))
 .nil)))))
 .skip))
 (.drw [(10, 14), (11, 14), (10, 15), (11, 15)]
 (op 49 (.mov (tm 0))
 (op 50 (.mov (tm 11))
 (op 51 (.mov (tm 0))
 (op 52 (.mov (tm 1))
 (op 53 (.mov (tm 12))
 (op 54 (.bin .add (tm 52) (tm 53))
 (op 55 (.mov (tm 0))
 (op 56 (.mov (tm 1))
 (op 57 (.mov (tm 12))
 (op 58 (.bin .add (tm 56) (tm 57))
 (op 59 (.iaddr 1 (tm 55) (tm 58))
 (op 60 (.load none (tm 59))
 (op 61 (.mov (tm 0))
 (op 62 (.mov (tm 11))
 (op 63 (.iaddr 1 (tm 61) (tm 62))
 (op 64 (.load none (tm 63))
 (op 65 (.iaddr 1 (tm 49) (tm 50))
 (ops (.store 1 (tm 65) (tm 60))
 (op 66 (.iaddr 1 (tm 51) (tm 54))
 (ops (.store 1 (tm 66) (tm 64))
 .nil))))))))))))))))))))))))
 (.reg
 (op 36 (.mov (tm 11))
 (op 37 (.bin .add (tm 36) (ci 1))
 (op 11 (.mov (tm 37))
 .nil)))))))))))
 .skip)))
theorem ok_slices_breakPatternsCmpFunc_string_c89 : FnOk Tryz.prog 212 67 (SA.erase sa_slices_breakPatternsCmpFunc_string_c89) [] := ⟨Tryz.f212, [], Tryz.func212, rfl, by kernel_rfl, by kernel_rfl, by kernel_rfl⟩
noncomputable def F_slices_breakPatternsCmpFunc_string_c89 (s : List ByteArray) (a0 : Int) (a1 : Int) : Option ((Unit) × List ByteArray) :=
 bif (decide ((8 : Int) ≤ (subI .i64 a1 a0))) then
 Option.bind (F_slices_nextPowerOfTwo (subI .i64 a1 a0)) fun r1 =>
 loopO (fun (v2 : Int × (List ByteArray) × Int × Unit) =>
 bif (decide (v2.1 ≤ (addI .i64 (addI .i64 a0 (mulI .i64 (quoI .i64 (subI .i64 a1 a0) (4 : Int)) (2 : Int))) (1 : Int)))) then
 Option.bind (F_slices_xorshift_Next v2.2.2.1) fun p3 =>
 letJ (fun (v4 : Int × Unit) =>
 Option.bind (idx v2.2.1 (addI .i64 a0 v4.1)) fun x6 =>
 Option.bind (v2.2.1[(Int.toNat (addI .i64 a0 v4.1))]?) fun x7 =>
 Option.bind (idx v2.2.1 v2.1) fun x8 =>
 Option.bind (v2.2.1[(Int.toNat v2.1)]?) fun x9 =>
 Option.bind (idx v2.2.1 v2.1) fun x10 =>
 Option.bind (v2.2.1[(Int.toNat v2.1)]?) fun x11 =>
 Option.bind (idx (v2.2.1.set (Int.toNat v2.1) x7) (addI .i64 a0 v4.1)) fun x12 =>
 Option.bind ((v2.2.1.set (Int.toNat v2.1) x7)[(Int.toNat (addI .i64 a0 v4.1))]?) fun x13 =>
 some (Sum.inl ((addI .i64 v2.1 (1 : Int)), ((v2.2.1.set (Int.toNat v2.1) x7).set (Int.toNat (addI .i64 a0 v4.1)) x9), p3.2, ()))) fun j5 =>
 bif (decide ((subI .i64 a1 a0) ≤ (convI .i64 (andI .u64 p3.1 (subI .u64 r1 (1 : Int)))))) then
 j5 ((subI .i64 (convI .i64 (andI .u64 p3.1 (subI .u64 r1 (1 : Int)))) (subI .i64 a1 a0)), ())
 else
 j5 ((convI .i64 (andI .u64 p3.1 (subI .u64 r1 (1 : Int)))), ())
 else
 Option.map Sum.inr (some ((()), v2.2.1))) ((subI .i64 (addI .i64 a0 (mulI .i64 (quoI .i64 (subI .i64 a1 a0) (4 : Int)) (2 : Int))) (1 : Int)), s, (convI .u64 (subI .i64 a1 a0)), ())
 else
 some ((()), s)
noncomputable def k_slices_breakPatternsCmpFunc_string_c89 : KFun U := .rw 212 9 1 Ty.str [.ty (Ty.i .i64), .ty (Ty.i .i64), .clo 89 []] (.many []) fun s a => F_slices_breakPatternsCmpFunc_string_c89 s a.1 a.2.1
theorem e_slices_breakPatternsCmpFunc_string_c89 : rwK K [k_slices_nextPowerOfTwo, k_slices_xorshift_Next] sa_slices_breakPatternsCmpFunc_string_c89 [] 9 1 Ty.str [.ty (Ty.i .i64), .ty (Ty.i .i64), .clo 89 []] (.many []) = fun s a => F_slices_breakPatternsCmpFunc_string_c89 s a.1 a.2.1 := by kernel_rfl
theorem s_slices_breakPatternsCmpFunc_string_c89 : KFun.Sound (U := U) Tryz.prog k_slices_breakPatternsCmpFunc_string_c89 := rwK_sound (K := K) (Γ := [k_slices_nextPowerOfTwo, k_slices_xorshift_Next]) ok_slices_breakPatternsCmpFunc_string_c89 (by kernel_rfl) (by decide) ⟨s_slices_nextPowerOfTwo, s_slices_xorshift_Next, trivial⟩ (fun s a => congrFun (congrFun e_slices_breakPatternsCmpFunc_string_c89 s) a)

/-! ### slices.order2CmpFunc[string] -/
def sa_slices_order2CmpFunc_string_c89 : SA U :=
 (.seq
 (.reg
 (op 10 (.mov (ci 0))
 (op 11 (.mov (ci 0))
 .nil)))
 (.seq
 (.seq
 (.drw [(3, 7), (4, 7), (3, 8), (4, 8)]
 (op 12 (.mov (tm 4))
 (op 13 (.mov (tm 0))
 (op 14 (.mov (tm 2))
 (op 15 (.iaddr 1 (tm 13) (tm 14))
 (op 16 (.load none (tm 15))
 (op 17 (.mov (tm 0))
 (op 18 (.mov (tm 1))
 (op 19 (.iaddr 1 (tm 17) (tm 18))
 (op 20 (.load none (tm 19))
 (op 21 (.callv (tm 12) [(tm 16), (tm 20)])
 (op 22 (.bin .lss (tm 21) (ci 0))
 .nil))))))))))))
 (.cond (tm 22)
 (.seq
 (.reg
 (op 23 (.mov (tm 3))
 (op 24 (.nilck (tm 23))
 (op 25 (.load none (tm 24))
 (op 26 (.bin .add (tm 25) (ci 1))
 (op 27 (.nilck (tm 23))
 (ops (.store 1 (tm 27) (tm 26))
 .nil)))))))
 (.seq
 (.reg
 (op 28 (.mov (tm 2))
 (op 29 (.mov (tm 1))
 (op 10 (.mov (tm 28))
 (op 11 (.mov (tm 29))
 .nil)))))
 .ret))
 .skip))
 (.seq
 (.reg
 (op 30 (.mov (tm 1))
 (op 31 (.mov (tm 2))
 (op 10 (.mov (tm 30))
 (op 11 (.mov (tm 31))
 .nil)))))
 .ret)))
theorem ok_slices_order2CmpFunc_string_c89 : FnOk Tryz.prog 248 32 (SA.erase sa_slices_order2CmpFunc_string_c89) [.tmp 10, .tmp 11] := ⟨Tryz.f248, [], Tryz.func248, rfl, by kernel_rfl, by kernel_rfl, by kernel_rfl⟩
noncomputable def F_slices_order2CmpFunc_string_c89 (s : Int) (a0 : (List ByteArray)) (a1 : Int) (a2 : Int) : Option ((Int × Int × Unit) × Int) :=
 Option.bind (idx a0 a2) fun x1 =>
 Option.bind (idx a0 a1) fun x2 =>
 Option.bind (F_ballots_CompareValues x1 x2) fun r3 =>
 bif (decide (r3 < (0 : Int))) then
 some ((a2, a1, ()), (addI .i64 s (1 : Int)))
 else
 some ((a1, a2, ()), s)
noncomputable def k_slices_order2CmpFunc_string_c89 : KFun U := .rc 248 3 (Ty.i .i64) [.ty (Ty.sl Ty.str), .ty (Ty.i .i64), .ty (Ty.i .i64), .clo 89 []] (.many [(Ty.i .i64), (Ty.i .i64)]) fun s a => F_slices_order2CmpFunc_string_c89 s a.1 a.2.1 a.2.2.1
theorem e_slices_order2CmpFunc_string_c89 : rcK K [k_ballots_CompareValues] sa_slices_order2CmpFunc_string_c89 [.tmp 10, .tmp 11] 3 (Ty.i .i64) [.ty (Ty.sl Ty.str), .ty (Ty.i .i64), .ty (Ty.i .i64), .clo 89 []] (.many [(Ty.i .i64), (Ty.i .i64)]) = fun s a => F_slices_order2CmpFunc_string_c89 s a.1 a.2.1 a.2.2.1 := by kernel_rfl
theorem s_slices_order2CmpFunc_string_c89 : KFun.Sound (U := U) Tryz.prog k_slices_order2CmpFunc_string_c89 := rcK_sound (K := K) (Γ := [k_ballots_CompareValues]) ok_slices_order2CmpFunc_string_c89 (by kernel_rfl) (by decide) ⟨s_ballots_CompareValues, trivial⟩ (fun s a => congrFun (congrFun e_slices_order2CmpFunc_string_c89 s) a)

/-! ### slices.medianCmpFunc[string] -/
def sa_slices_medianCmpFunc_string_c89 : SA U :=
 (.seq
 (.reg
 (op 12 (.mov (ci 0))
 .nil))
 (.seq
 (.reg
 (op 14 (.mov (tm 0))
 (op 15 (.mov (tm 1))
 (op 16 (.mov (tm 2))
 (op 17 (.mov (tm 4))
 (op 18 (.mov (tm 5))
 (op 19 (.call 248 [(tm 14), (tm 15), (tm 16), (tm 17), (tm 18)])
 (op 13 (.mov (tm 19))
 (op 20 (.extr 0 (tm 13))
 (op 21 (.extr 1 (tm 13))
 (op 1 (.mov (tm 20))
 (op 2 (.mov (tm 21))
 .nil))))))))))))
 (.seq
 (.reg
 (op 23 (.mov (tm 0))
 (op 24 (.mov (tm 2))
 (op 25 (.mov (tm 3))
 (op 26 (.mov (tm 4))
 (op 27 (.mov (tm 5))
 (op 28 (.call 248 [(tm 23), (tm 24), (tm 25), (tm 26), (tm 27)])
 (op 22 (.mov (tm 28))
 (op 29 (.extr 0 (tm 22))
 (op 30 (.extr 1 (tm 22))
 (op 2 (.mov (tm 29))
 (op 3 (.mov (tm 30))
 .nil))))))))))))
 (.seq
 (.reg
 (op 32 (.mov (tm 0))
 (op 33 (.mov (tm 1))
 (op 34 (.mov (tm 2))
 (op 35 (.mov (tm 4))
 (op 36 (.mov (tm 5))
 (op 37 (.call 248 [(tm 32), (tm 33), (tm 34), (tm 35), (tm 36)])
 (op 31 (.mov (tm 37))
 (op 38 (.extr 0 (tm 31))
 (op 39 (.extr 1 (tm 31))
 (op 1 (.mov (tm 38))
 (op 2 (.mov (tm 39))
 .nil))))))))))))
 (.seq
 (.reg
 (op 40 (.mov (tm 2))
 (op 12 (.mov (tm 40))
 .nil)))
 .ret)))))
theorem ok_slices_medianCmpFunc_string_c89 : FnOk Tryz.prog 239 41 (SA.erase sa_slices_medianCmpFunc_string_c89) [.tmp 12] := ⟨Tryz.f239, [], Tryz.func239, rfl, by kernel_rfl, by kernel_rfl, by kernel_rfl⟩
noncomputable def F_slices_medianCmpFunc_string_c89 (s : Int) (a0 : (List ByteArray)) (a1 : Int) (a2 : Int) (a3 : Int) : Option (Int × Int) :=
 Option.bind (F_slices_order2CmpFunc_string_c89 s a0 a1 a2) fun p1 =>
 Option.bind (F_slices_order2CmpFunc_string_c89 p1.2 a0 p1.1.2.1 a3) fun p2 =>
 Option.bind (F_slices_order2CmpFunc_string_c89 p2.2 a0 p1.1.1 p2.1.1) fun p3 =>
 some (p3.1.2.1, p3.2)
noncomputable def k_slices_medianCmpFunc_string_c89 : KFun U := .rc 239 4 (Ty.i .i64) [.ty (Ty.sl Ty.str), .ty (Ty.i .i64), .ty (Ty.i .i64), .ty (Ty.i .i64), .clo 89 []] (.one (Ty.i .i64)) fun s a => F_slices_medianCmpFunc_string_c89 s a.1 a.2.1 a.2.2.1 a.2.2.2.1
theorem e_slices_medianCmpFunc_string_c89 : rcK K [k_slices_order2CmpFunc_string_c89] sa_slices_medianCmpFunc_string_c89 [.tmp 12] 4 (Ty.i .i64) [.ty (Ty.sl Ty.str), .ty (Ty.i .i64), .ty (Ty.i .i64), .ty (Ty.i .i64), .clo 89 []] (.one (Ty.i .i64)) = fun s a => F_slices_medianCmpFunc_string_c89 s a.1 a.2.1 a.2.2.1 a.2.2.2.1 := by kernel_rfl
theorem s_slices_medianCmpFunc_string_c89 : KFun.Sound (U := U) Tryz.prog k_slices_medianCmpFunc_string_c89 := rcK_sound (K := K) (Γ := [k_slices_order2CmpFunc_string_c89]) ok_slices_medianCmpFunc_string_c89 (by kernel_rfl) (by decide) ⟨s_slices_order2CmpFunc_string_c89, trivial⟩ (fun s a => congrFun (congrFun e_slices_medianCmpFunc_string_c89 s) a)

/-! ### slices.medianAdjacentCmpFunc[string] -/
def sa_slices_medianAdjacentCmpFunc_string_c89 : SA U :=
 (.seq
 (.reg
 (op 8 (.mov (ci 0))
 .nil))
 (.seq
 (.reg
 (op 9 (.mov (tm 0))
 (op 10 (.mov (tm 1))
 (op 11 (.bin .sub (tm 10) (ci 1))
 (op 12 (.mov (tm 1))
 (op 13 (.mov (tm 1))
 (op 14 (.bin .add (tm 13) (ci 1))
 (op 15 (.mov (tm 2))
 (op 16 (.mov (tm 3))
 (op 17 (.call 239 [(tm 9), (tm 11), (tm 12), (tm 14), (tm 15), (tm 16)])
 (op 8 (.mov (tm 17))
 .nil)))))))))))
 .ret))
theorem ok_slices_medianAdjacentCmpFunc_string_c89 : FnOk Tryz.prog 238 18 (SA.erase sa_slices_medianAdjacentCmpFunc_string_c89) [.tmp 8] := ⟨Tryz.f238, [], Tryz.func238, rfl, by kernel_rfl, by kernel_rfl, by kernel_rfl⟩
noncomputable def F_slices_medianAdjacentCmpFunc_string_c89 (s : Int) (a0 : (List ByteArray)) (a1 : Int) : Option (Int × Int) :=
 Option.bind (F_slices_medianCmpFunc_string_c89 s a0 (subI .i64 a1 (1 : Int)) a1 (addI .i64 a1 (1 : Int))) fun p1 =>
 some (p1.1, p1.2)
noncomputable def k_slices_medianAdjacentCmpFunc_string_c89 : KFun U := .rc 238 2 (Ty.i .i64) [.ty (Ty.sl Ty.str), .ty (Ty.i .i64), .clo 89 []] (.one (Ty.i .i64)) fun s a => F_slices_medianAdjacentCmpFunc_string_c89 s a.1 a.2.1
theorem e_slices_medianAdjacentCmpFunc_string_c89 : rcK K [k_slices_medianCmpFunc_string_c89] sa_slices_medianAdjacentCmpFunc_string_c89 [.tmp 8] 2 (Ty.i .i64) [.ty (Ty.sl Ty.str), .ty (Ty.i .i64), .clo 89 []] (.one (Ty.i .i64)) = fun s a => F_slices_medianAdjacentCmpFunc_string_c89 s a.1 a.2.1 := by kernel_rfl
theorem s_slices_medianAdjacentCmpFunc_string_c89 : KFun.Sound (U := U) Tryz.prog k_slices_medianAdjacentCmpFunc_string_c89 := rcK_sound (K := K) (Γ := [k_slices_medianCmpFunc_string_c89]) ok_slices_medianAdjacentCmpFunc_string_c89 (by kernel_rfl) (by decide) ⟨s_slices_medianCmpFunc_string_c89, trivial⟩ (fun s a => congrFun (congrFun e_slices_medianAdjacentCmpFunc_string_c89 s) a)

/-! ### slices.choosePivotCmpFunc[string] -/
def sa_slices_choosePivotCmpFunc_string_c89 : SA U :=
 (.seq
 (.reg
 (op 8 (.mov (ci 0))
 (op 9 (.mov (ci 0))
 .nil)))
 (.seq
 (.reg
 (op 15 (.mov (tm 2))
 (op 16 (.mov (tm 1))
 (op 17 (.bin .sub (tm 15) (tm 16))
 (op 10 (.mov (tm 17))
 .nil)))))
 (.seq
 (.reg
 (op 11 (.alloc [.int .i64 0])
 .nil))
 (.seq
 (.reg
 (op 18 (.mov (tm 1))
 (op 19 (.mov (tm 10))
 (op 20 (.bin .quo (tm 19) (ci 4))
 (op 21 (.bin .mul (tm 20) (ci 1))
 (op 22 (.bin .add (tm 18) (tm 21))
 (op 12 (.mov (tm 22))
 .nil)))))))
 (.seq
 (.reg
 (op 23 (.mov (tm 1))
 (op 24 (.mov (tm 10))
 (op 25 (.bin .quo (tm 24) (ci 4))
 (op 26 (.bin .mul (tm 25) (ci 2))
 (op 27 (.bin .add (tm 23) (tm 26))
 (op 13 (.mov (tm 27))
 .nil)))))))
 (.seq
 (.reg
 (op 28 (.mov (tm 1))
 (op 29 (.mov (tm 10))
 (op 30 (.bin .quo (tm 29) (ci 4))
 (op 31 (.bin .mul (tm 30) (ci 3))
 (op 32 (.bin .add (tm 28) (tm 31))
 (op 14 (.mov (tm 32))
 .nil)))))))
 (.join ⟨[.val 13 (Ty.i .i64), .box 6 1 (Ty.i .i64) []], [11]⟩
 (.seq
 (.reg
 (op 33 (.mov (tm 10))
 (op 34 (.bin .geq (tm 33) (ci 8))
 .nil)))
 (.cond (tm 34)
 (.join ⟨[.val 12 (Ty.i .i64), .val 13 (Ty.i .i64), .val 14 (Ty.i .i64), .box 6 1 (Ty.i .i64) []], [0, 3, 11]⟩
 (.seq
 (.reg
 (op 35 (.mov (tm 10))
 (op 36 (.bin .geq (tm 35) (ci 50))
 .nil)))
 (.cond (tm 36)
 (.seq
 (.reg
 (op 37 (.mov (tm 0))
 (op 38 (.mov (tm 12))
 (op 39 (.mov (tm 3))
 (op 40 (.call 238 [(tm 37), (tm 38), (tm 11), (tm 39)])
 (op 12 (.mov (tm 40))
 .nil))))))
 (.seq
 (.reg
 (op 41 (.mov (tm 0))
 (op 42 (.mov (tm 13))
 (op 43 (.mov (tm 3))
 (op 44 (.call 238 [(tm 41), (tm 42), (tm 11), (tm 43)])
 (op 13 (.mov (tm 44))
 .nil))))))
 (.reg
 (op 45 (.mov (tm 0))
 (op 46 (.mov (tm 14))
 (op 47 (.mov (tm 3))
 (op 48 (.call 238 [(tm 45), (tm 46), (tm 11), (tm 47)])
 (op 14 (.mov (tm 48))
 .nil))))))))
 .skip))
 (.reg
 (op 49 (.mov (tm 0))
 (op 50 (.mov (tm 12))
 (op 51 (.mov (tm 13))
 (op 52 (.mov (tm 14))
 (op 53 (.mov (tm 3))
 (op 54 (.call 239 [(tm 49), (tm 50), (tm 51), (tm 52), (tm 11), (tm 53)])
 (op 13 (.mov (tm 54))
 .nil)))))))))
 .skip))
 (.seq
 (.reg
 (op 55 (.load none (tm 11))
 .nil))
 (.block 0
 (.seq
 (.reg
 (op 58 (.bin .eql (tm 55) (ci 0))
 (op 57 (.mov (tm 58))
 .nil)))
 (.cond (tm 57)
 (.seq
 (.reg
 (op 59 (.mov (tm 13))
 (op 8 (.mov (tm 59))
 (op 9 (.mov (ci 1))
 .nil))))
 .ret)
 (.seq
 (.reg
 (op 61 (.bin .eql (tm 55) (ci 12))
 (op 60 (.mov (tm 61))
 .nil)))
 (.cond (tm 60)
 (.seq
 (.reg
 (op 62 (.mov (tm 13))
 (op 8 (.mov (tm 62))
 (op 9 (.mov (ci 2))
 .nil))))
 .ret)
 (.seq
 (.reg
 (op 56 (.mov (tm 13))
 (op 8 (.mov (tm 56))
 (op 9 (.mov (ci 0))
 .nil))))
 .ret))))))))))))))
theorem ok_slices_choosePivotCmpFunc_string_c89 : FnOk Tryz.prog 213 63 (SA.erase sa_slices_choosePivotCmpFunc_string_c89) [.tmp 8, .tmp 9] := ⟨Tryz.f213, [], Tryz.func213, rfl, by kernel_rfl, by kernel_rfl, by kernel_rfl⟩
noncomputable def F_slices_choosePivotCmpFunc_string_c89 (a0 : (List ByteArray)) (a1 : Int) (a2 : Int) : Option (Int × Int × Unit) :=
 letJ (fun (v1 : Int × Int × Unit) =>
 bif (decide (v1.2.1 = (0 : Int))) then
 some (v1.1, (1 : Int), ())
 else
 bif (decide (v1.2.1 = (12 : Int))) then
 some (v1.1, (2 : Int), ())
 else
 some (v1.1, (0 : Int), ())) fun j2 =>
 bif (decide ((8 : Int) ≤ (subI .i64 a2 a1))) then
 letJ (fun (v3 : Int × Int × Int × Int × Unit) =>
 Option.bind (F_slices_medianCmpFunc_string_c89 v3.2.2.2.1 a0 v3.1 v3.2.1 v3.2.2.1) fun p5 =>
 j2 (p5.1, p5.2, ())) fun j4 =>
 bif (decide ((50 : Int) ≤ (subI .i64 a2 a1))) then
 Option.bind (F_slices_medianAdjacentCmpFunc_string_c89 (0 : Int) a0 (addI .i64 a1 (mulI .i64 (quoI .i64 (subI .i64 a2 a1) (4 : Int)) (1 : Int)))) fun p6 =>
 Option.bind (F_slices_medianAdjacentCmpFunc_string_c89 p6.2 a0 (addI .i64 a1 (mulI .i64 (quoI .i64 (subI .i64 a2 a1) (4 : Int)) (2 : Int)))) fun p7 =>
 Option.bind (F_slices_medianAdjacentCmpFunc_string_c89 p7.2 a0 (addI .i64 a1 (mulI .i64 (quoI .i64 (subI .i64 a2 a1) (4 : Int)) (3 : Int)))) fun p8 =>
 j4 (p6.1, p7.1, p8.1, p8.2, ())
 else
 j4 ((addI .i64 a1 (mulI .i64 (quoI .i64 (subI .i64 a2 a1) (4 : Int)) (1 : Int))), (addI .i64 a1 (mulI .i64 (quoI .i64 (subI .i64 a2 a1) (4 : Int)) (2 : Int))), (addI .i64 a1 (mulI .i64 (quoI .i64 (subI .i64 a2 a1) (4 : Int)) (3 : Int))), (0 : Int), ())
 else
 j2 ((addI .i64 a1 (mulI .i64 (quoI .i64 (subI .i64 a2 a1) (4 : Int)) (2 : Int))), (0 : Int), ())
noncomputable def k_slices_choosePivotCmpFunc_string_c89 : KFun U := .fn 213 [.ty (Ty.sl Ty.str), .ty (Ty.i .i64), .ty (Ty.i .i64), .clo 89 []] (.many [(Ty.i .i64), (Ty.i .i64)]) fun a => F_slices_choosePivotCmpFunc_string_c89 a.1 a.2.1 a.2.2.1
theorem e_slices_choosePivotCmpFunc_string_c89 : fnK K [k_slices_medianAdjacentCmpFunc_string_c89, k_slices_medianCmpFunc_string_c89] sa_slices_choosePivotCmpFunc_string_c89 [.tmp 8, .tmp 9] [.ty (Ty.sl Ty.str), .ty (Ty.i .i64), .ty (Ty.i .i64), .clo 89 []] (.many [(Ty.i .i64), (Ty.i .i64)]) = fun a => F_slices_choosePivotCmpFunc_string_c89 a.1 a.2.1 a.2.2.1 := by kernel_rfl
theorem s_slices_choosePivotCmpFunc_string_c89 : KFun.Sound (U := U) Tryz.prog k_slices_choosePivotCmpFunc_string_c89 := fnK_sound (K := K) (Γ := [k_slices_medianAdjacentCmpFunc_string_c89, k_slices_medianCmpFunc_string_c89]) ok_slices_choosePivotCmpFunc_string_c89 (by kernel_rfl) (by decide) ⟨s_slices_medianAdjacentCmpFunc_string_c89, s_slices_medianCmpFunc_string_c89, trivial⟩ (fun a => congrFun e_slices_choosePivotCmpFunc_string_c89 a)

/-! ### slices.reverseRangeCmpFunc[string] -/
def sa_slices_reverseRangeCmpFunc_string_c89 : SA U :=
 (.seq
 (.reg
 (op 10 (.mov (tm 1))
 (op 8 (.mov (tm 10))
 .nil)))
 (.seq
 (.reg
 (op 11 (.mov (tm 2))
 (op 12 (.bin .sub (tm 11) (ci 1))
 (op 9 (.mov (tm 12))
 .nil))))
 (.block 0
 (.loop ⟨[.val 8 (Ty.i .i64), .val 9 (Ty.i .i64), .own 0 0 0 9 1 Ty.str], []⟩
 (.seq
 (.seq
 (.reg
 (op 13 (.mov (tm 8))
 (op 14 (.mov (tm 9))
 (op 15 (.bin .lss (tm 13) (tm 14))
 .nil))))
 (.cond (tm 15)
 .skip
 (.exit 0)))
 (.block 1
 (.seq
 (.drw [(6, 10), (7, 10), (6, 11), (7, 11)]
 (op 16 (.mov (tm 0))
 (op 17 (.mov (tm 8))
 (op 18 (.mov (tm 0))
 (op 19 (.mov (tm 9))
 (op 20 (.mov (tm 0))
 (op 21 (.mov (tm 9))
 (op 22 (.iaddr 1 (tm 20) (tm 21))
 (op 23 (.load none (tm 22))
 (op 24 (.mov (tm 0))
 (op 25 (.mov (tm 8))
 (op 26 (.iaddr 1 (tm 24) (tm 25))
 (op 27 (.load none (tm 26))
 (op 28 (.iaddr 1 (tm 16) (tm 17))
 (ops (.store 1 (tm 28) (tm 23))
 (op 29 (.iaddr 1 (tm 18) (tm 19))
 (ops (.store 1 (tm 29) (tm 27))
 .nil)))))))))))))))))
 (.seq
 (.reg
 (op 30 (.mov (tm 8))
 (op 31 (.bin .add (tm 30) (ci 1))
 (op 8 (.mov (tm 31))
 .nil))))
 (.reg
 (op 32 (.mov (tm 9))
 (op 33 (.bin .sub (tm 32) (ci 1))
 (op 9 (.mov (tm 33))
 .nil))))))))))))
theorem ok_slices_reverseRangeCmpFunc_string_c89 : FnOk Tryz.prog 214 34 (SA.erase sa_slices_reverseRangeCmpFunc_string_c89) [] := ⟨Tryz.f214, [], Tryz.func214, rfl, by kernel_rfl, by kernel_rfl, by kernel_rfl⟩
noncomputable def F_slices_reverseRangeCmpFunc_string_c89 (s : List ByteArray) (a0 : Int) (a1 : Int) : Option ((Unit) × List ByteArray) :=
 loopO (fun (v1 : Int × Int × (List ByteArray) × Unit) =>
 bif (decide (v1.1 < v1.2.1)) then
 Option.bind (idx v1.2.2.1 v1.2.1) fun x2 =>
 Option.bind (v1.2.2.1[(Int.toNat v1.2.1)]?) fun x3 =>
 Option.bind (idx v1.2.2.1 v1.1) fun x4 =>
 Option.bind (v1.2.2.1[(Int.toNat v1.1)]?) fun x5 =>
 Option.bind (idx v1.2.2.1 v1.1) fun x6 =>
 Option.bind (v1.2.2.1[(Int.toNat v1.1)]?) fun x7 =>
 Option.bind (idx (v1.2.2.1.set (Int.toNat v1.1) x3) v1.2.1) fun x8 =>
 Option.bind ((v1.2.2.1.set (Int.toNat v1.1) x3)[(Int.toNat v1.2.1)]?) fun x9 =>
 some (Sum.inl ((addI .i64 v1.1 (1 : Int)), (subI .i64 v1.2.1 (1 : Int)), ((v1.2.2.1.set (Int.toNat v1.1) x3).set (Int.toNat v1.2.1) x5), ()))
 else
 Option.map Sum.inr (some ((()), v1.2.2.1))) (a0, (subI .i64 a1 (1 : Int)), s, ())
noncomputable def k_slices_reverseRangeCmpFunc_string_c89 : KFun U := .rw 214 9 1 Ty.str [.ty (Ty.i .i64), .ty (Ty.i .i64), .clo 89 []] (.many []) fun s a => F_slices_reverseRangeCmpFunc_string_c89 s a.1 a.2.1
theorem e_slices_reverseRangeCmpFunc_string_c89 : rwK K [] sa_slices_reverseRangeCmpFunc_string_c89 [] 9 1 Ty.str [.ty (Ty.i .i64), .ty (Ty.i .i64), .clo 89 []] (.many []) = fun s a => F_slices_reverseRangeCmpFunc_string_c89 s a.1 a.2.1 := by kernel_rfl
theorem s_slices_reverseRangeCmpFunc_string_c89 : KFun.Sound (U := U) Tryz.prog k_slices_reverseRangeCmpFunc_string_c89 := rwK_sound (K := K) (Γ := []) ok_slices_reverseRangeCmpFunc_string_c89 (by kernel_rfl) (by decide) trivial (fun s a => congrFun (congrFun e_slices_reverseRangeCmpFunc_string_c89 s) a)

/-! ### slices.partialInsertionSortCmpFunc[string] -/
def sa_slices_partialInsertionSortCmpFunc_string_c89 : SA U :=
 (.seq
 (.reg
 (op 8 (.mov (.cst (.bool false)))
 .nil))
 (.seq
 (.reg
 (op 13 (.mov (tm 1))
 (op 14 (.bin .add (tm 13) (ci 1))
 (op 9 (.mov (tm 14))
 .nil))))
 (.seq
 (.seq
 (.reg
 (op 10 (.mov (ci 0))
 .nil))
 (.block 0
 (.loop ⟨[.val 9 (Ty.i .i64), .val 10 (Ty.i .i64), .own 0 0 0 9 1 Ty.str], [1, 2, 3]⟩
 (.seq
 (.seq
 (.reg
 (op 15 (.mov (tm 10))
 (op 16 (.bin .lss (tm 15) (ci 5))
 .nil)))
 (.cond (tm 16)
 .skip
 (.exit 0)))
 (.join ⟨[.val 9 (Ty.i .i64), .own 0 0 0 9 1 Ty.str], [1, 2, 3, 10]⟩
 (.block 1
 (.seq
 (.block 2
 (.loop ⟨[.val 9 (Ty.i .i64)], [0, 1, 2, 3, 10]⟩
 (.seq
 (.join ⟨[.val 36 Ty.bool], [0, 1, 2, 3, 9, 10]⟩
 (.drw [(7, 12), (8, 12), (7, 13), (8, 13)]
 (op 19 (.mov (tm 9))
 (op 20 (.mov (tm 2))
 (op 21 (.bin .lss (tm 19) (tm 20))
 (op 22 (.mov (tm 21))
 (.spl 22
 (opg 23 22 true (.mov (tm 3))
 (opg 24 22 true (.mov (tm 0))
 (opg 25 22 true (.mov (tm 9))
 (opg 26 22 true (.iaddr 1 (tm 24) (tm 25))
 (opg 27 22 true (.load none (tm 26))
 (opg 28 22 true (.mov (tm 0))
 (opg 29 22 true (.mov (tm 9))
 (opg 30 22 true (.bin .sub (tm 29) (ci 1))
 (opg 31 22 true (.iaddr 1 (tm 28) (tm 30))
 (opg 32 22 true (.load none (tm 31))
 (opg 33 22 true (.callv (tm 23) [(tm 27), (tm 32)])
 (opg 34 22 true (.bin .lss (tm 33) (ci 0))
 (opg 35 22 true (.not (tm 34))
 (op 36 (.pick (tm 22) (tm 35) (.cst (.bool false)))
 .nil))))))))))))))))))))
 (.cond (tm 36)
 .skip
 (.exit 2)))
 (.block 3
 (.reg
 (op 37 (.mov (tm 9))
 (op 38 (.bin .add (tm 37) (ci 1))
 (op 9 (.mov (tm 38))
 .nil))))))))
 (.seq
 (.seq
 (.reg
 (op 39 (.mov (tm 9))
 (op 40 (.mov (tm 2))
 (op 41 (.bin .eql (tm 39) (tm 40))
 .nil))))
 (.cond (tm 41)
 (.seq
 (.reg
 (op 8 (.mov (.cst (.bool true)))
 .nil))
 .ret)
 .skip))
 (.seq
 (.seq
 (.reg
 (op 42 (.mov (tm 2))
 (op 43 (.mov (tm 1))
 (op 44 (.bin .sub (tm 42) (tm 43))
 (op 45 (.bin .lss (tm 44) (ci 50))
 .nil)))))
 (.cond (tm 45)
 (.seq
 (.reg
 (op 8 (.mov (.cst (.bool false)))
 .nil))
 .ret)
 .skip))
 (.seq
 (.drw [(8, 12), (9, 12), (8, 13), (9, 13)]
 (op 46 (.mov (tm 0))
 (op 47 (.mov (tm 9))
 (op 48 (.mov (tm 0))
 (op 49 (.mov (tm 9))
 (op 50 (.bin .sub (tm 49) (ci 1))
 (op 51 (.mov (tm 0))
 (op 52 (.mov (tm 9))
 (op 53 (.bin .sub (tm 52) (ci 1))
 (op 54 (.iaddr 1 (tm 51) (tm 53))
 (op 55 (.load none (tm 54))
 (op 56 (.mov (tm 0))
 (op 57 (.mov (tm 9))
 (op 58 (.iaddr 1 (tm 56) (tm 57))
 (op 59 (.load none (tm 58))
 (op 60 (.iaddr 1 (tm 46) (tm 47))
 (ops (.store 1 (tm 60) (tm 55))
 (op 61 (.iaddr 1 (tm 48) (tm 50))
 (ops (.store 1 (tm 61) (tm 59))
 .nil)))))))))))))))))))
 (.join ⟨[.own 0 0 0 9 1 Ty.str], [1, 2, 3, 9, 10]⟩
 (.seq
 (.reg
 (op 62 (.mov (tm 9))
 (op 63 (.mov (tm 1))
 (op 64 (.bin .sub (tm 62) (tm 63))
 (op 65 (.bin .geq (tm 64) (ci 2))
 .nil)))))
 (.cond (tm 65)
 (.seq
 (.reg
 (op 66 (.mov (tm 9))
 (op 67 (.bin .sub (tm 66) (ci 1))
 (op 11 (.mov (tm 67))
 .nil))))
 (.block 4
 (.loop ⟨[.val 11 (Ty.i .i64), .own 0 0 0 9 1 Ty.str], [1, 2, 3, 9, 10]⟩
 (.seq
 (.seq
 (.reg
 (op 68 (.mov (tm 11))
 (op 69 (.bin .geq (tm 68) (ci 1))
 .nil)))
 (.cond (tm 69)
 .skip
 (.exit 4)))
 (.seq
 (.block 5
 (.seq
 (.seq
 (.drw [(3, 8), (4, 8), (3, 9), (4, 9)]
 (op 72 (.mov (tm 3))
 (op 73 (.mov (tm 0))
 (op 74 (.mov (tm 11))
 (op 75 (.iaddr 1 (tm 73) (tm 74))
 (op 76 (.load none (tm 75))
 (op 77 (.mov (tm 0))
 (op 78 (.mov (tm 11))
 (op 79 (.bin .sub (tm 78) (ci 1))
 (op 80 (.iaddr 1 (tm 77) (tm 79))
 (op 81 (.load none (tm 80))
 (op 82 (.callv (tm 72) [(tm 76), (tm 81)])
 (op 83 (.bin .lss (tm 82) (ci 0))
 (op 84 (.not (tm 83))
 .nil))))))))))))))
 (.cond (tm 84)
 (.exit 4)
 .skip))
 (.drw [(8, 12), (9, 12), (8, 13), (9, 13)]
 (op 85 (.mov (tm 0))
 (op 86 (.mov (tm 11))
 (op 87 (.mov (tm 0))
 (op 88 (.mov (tm 11))
 (op 89 (.bin .sub (tm 88) (ci 1))
 (op 90 (.mov (tm 0))
 (op 91 (.mov (tm 11))
 (op 92 (.bin .sub (tm 91) (ci 1))
 (op 93 (.iaddr 1 (tm 90) (tm 92))
 (op 94 (.load none (tm 93))
 (op 95 (.mov (tm 0))
 (op 96 (.mov (tm 11))
 (op 97 (.iaddr 1 (tm 95) (tm 96))
 (op 98 (.load none (tm 97))
 (op 99 (.iaddr 1 (tm 85) (tm 86))
 (ops (.store 1 (tm 99) (tm 94))
 (op 100 (.iaddr 1 (tm 87) (tm 89))
 (ops (.store 1 (tm 100) (tm 98))
 .nil)))))))))))))))))))))
 (.reg
 (op 70 (.mov (tm 11))
 (op 71 (.bin .sub (tm 70) (ci 1))
 (op 11 (.mov (tm 71))
 .nil)))))))))
 .skip))
 (.seq
 (.reg
 (op 101 (.mov (tm 2))
 (op 102 (.mov (tm 9))
 (op 103 (.bin .sub (tm 101) (tm 102))
 (op 104 (.bin .geq (tm 103) (ci 2))
 .nil)))))
 (.cond (tm 104)
 (.seq
 (.reg
 (op 105 (.mov (tm 9))
 (op 106 (.bin .add (tm 105) (ci 1))
 (op 12 (.mov (tm 106))
 .nil))))
 (.block 6
 (.loop ⟨[.val 12 (Ty.i .i64), .own 0 0 0 9 1 Ty.str], [1, 2, 3, 9, 10]⟩
 (.seq
 (.seq
 (.reg
 (op 107 (.mov (tm 12))
 (op 108 (.mov (tm 2))
 (op 109 (.bin .lss (tm 107) (tm 108))
 .nil))))
 (.cond (tm 109)
 .skip
 (.exit 6)))
 (.seq
 (.block 7
 (.seq
 (.seq
 (.drw [(3, 8), (4, 8), (3, 9), (4, 9)]
 (op 112 (.mov (tm 3))
 (op 113 (.mov (tm 0))
 (op 114 (.mov (tm 12))
 (op 115 (.iaddr 1 (tm 113) (tm 114))
 (op 116 (.load none (tm 115))
 (op 117 (.mov (tm 0))
 (op 118 (.mov (tm 12))
 (op 119 (.bin .sub (tm 118) (ci 1))
 (op 120 (.iaddr 1 (tm 117) (tm 119))
 (op 121 (.load none (tm 120))
 (op 122 (.callv (tm 112) [(tm 116), (tm 121)])
 (op 123 (.bin .lss (tm 122) (ci 0))
 (op 124 (.not (tm 123))
 .nil))))))))))))))
 (.cond (tm 124)
 (.exit 6)
 .skip))
 (.drw [(8, 12), (9, 12), (8, 13), (9, 13)]
 (op 125 (.mov (tm 0))
 (op 126 (.mov (tm 12))
 (op 127 (.mov (tm 0))
 (op 128 (.mov (tm 12))
 (op 129 (.bin .sub (tm 128) (ci 1))
 (op 130 (.mov (tm 0))
 (op 131 (.mov (tm 12))
 (op 132 (.bin .sub (tm 131) (ci 1))
 (op 133 (.iaddr 1 (tm 130) (tm 132))
 (op 134 (.load none (tm 133))
 (op 135 (.mov (tm 0))
 (op 136 (.mov (tm 12))
 (op 137 (.iaddr 1 (tm 135) (tm 136))
 (op 138 (.load none (tm 137))
 (op 139 (.iaddr 1 (tm 125) (tm 126))
 (ops (.store 1 (tm 139) (tm 134))
 (op 140 (.iaddr 1 (tm 127) (tm 129))
 (ops (.store 1 (tm 140) (tm 138))
 .nil)))))))))))))))))))))
 (.reg
 (op 110 (.mov (tm 12))
 (op 111 (.bin .add (tm 110) (ci 1))
 (op 12 (.mov (tm 111))
 .nil)))))))))
 .skip))))))))
 (.reg
 (op 17 (.mov (tm 10))
 (op 18 (.bin .add (tm 17) (ci 1))
 (op 10 (.mov (tm 18))
 .nil)))))))))
 (.seq
 (.reg
 (op 8 (.mov (.cst (.bool false)))
 .nil))
 .ret))))
theorem ok_slices_partialInsertionSortCmpFunc_string_c89 : FnOk Tryz.prog 215 141 (SA.erase sa_slices_partialInsertionSortCmpFunc_string_c89) [.tmp 8] := ⟨Tryz.f215, [], Tryz.func215, rfl, by kernel_rfl, by kernel_rfl, by kernel_rfl⟩
noncomputable def F_slices_partialInsertionSortCmpFunc_string_c89 (s : List ByteArray) (a0 : Int) (a1 : Int) : Option (Bool × List ByteArray) :=
 loopO (fun (v1 : Int × Int × (List ByteArray) × Unit) =>
 bif (decide (v1.2.1 < (5 : Int))) then
 letJ (fun (v2 : Int × (List ByteArray) × Unit) =>
 some (Sum.inl (v2.1, (addI .i64 v1.2.1 (1 : Int)), v2.2.1, ()))) fun j3 =>
 loopO (fun (v4 : Int × Unit) =>
 letJ (fun (v5 : Bool × Unit) =>
 bif v5.1 then
 some (Sum.inl ((addI .i64 v4.1 (1 : Int)), ()))
 else
 Option.map Sum.inr (bif (decide (v4.1 = a1)) then
 Option.map Sum.inr (some (true, v1.2.2.1))
 else
 bif (decide ((subI .i64 a1 a0) < (50 : Int))) then
 Option.map Sum.inr (some (false, v1.2.2.1))
 else
 Option.bind (idx v1.2.2.1 (subI .i64 v4.1 (1 : Int))) fun x7 =>
 Option.bind (v1.2.2.1[(Int.toNat (subI .i64 v4.1 (1 : Int)))]?) fun x8 =>
 Option.bind (idx v1.2.2.1 v4.1) fun x9 =>
 Option.bind (v1.2.2.1[(Int.toNat v4.1)]?) fun x10 =>
 Option.bind (idx v1.2.2.1 v4.1) fun x11 =>
 Option.bind (v1.2.2.1[(Int.toNat v4.1)]?) fun x12 =>
 Option.bind (idx (v1.2.2.1.set (Int.toNat v4.1) x8) (subI .i64 v4.1 (1 : Int))) fun x13 =>
 Option.bind ((v1.2.2.1.set (Int.toNat v4.1) x8)[(Int.toNat (subI .i64 v4.1 (1 : Int)))]?) fun x14 =>
 letJ (fun (v15 : (List ByteArray) × Unit) =>
 bif (decide ((2 : Int) ≤ (subI .i64 a1 v4.1))) then
 loopO (fun (v17 : Int × (List ByteArray) × Unit) =>
 bif (decide (v17.1 < a1)) then
 Option.bind (idx v17.2.1 v17.1) fun x18 =>
 Option.bind (v17.2.1[(Int.toNat v17.1)]?) fun x19 =>
 Option.bind (idx v17.2.1 (subI .i64 v17.1 (1 : Int))) fun x20 =>
 Option.bind (v17.2.1[(Int.toNat (subI .i64 v17.1 (1 : Int)))]?) fun x21 =>
 Option.bind (F_ballots_CompareValues x19 x21) fun r22 =>
 bif (!(decide (r22 < (0 : Int)))) then
 Option.map Sum.inr (j3 (v4.1, v17.2.1, ()))
 else
 Option.bind (idx v17.2.1 (subI .i64 v17.1 (1 : Int))) fun x23 =>
 Option.bind (v17.2.1[(Int.toNat (subI .i64 v17.1 (1 : Int)))]?) fun x24 =>
 Option.bind (idx v17.2.1 v17.1) fun x25 =>
 Option.bind (v17.2.1[(Int.toNat v17.1)]?) fun x26 =>
 Option.bind (idx v17.2.1 v17.1) fun x27 =>
 Option.bind (v17.2.1[(Int.toNat v17.1)]?) fun x28 =>
 Option.bind (idx (v17.2.1.set (Int.toNat v17.1) x24) (subI .i64 v17.1 (1 : Int))) fun x29 =>
 Option.bind ((v17.2.1.set (Int.toNat v17.1) x24)[(Int.toNat (subI .i64 v17.1 (1 : Int)))]?) fun x30 =>
 some (Sum.inl ((addI .i64 v17.1 (1 : Int)), ((v17.2.1.set (Int.toNat v17.1) x24).set (Int.toNat (subI .i64 v17.1 (1 : Int))) x26), ()))
 else
 Option.map Sum.inr (j3 (v4.1, v17.2.1, ()))) ((addI .i64 v4.1 (1 : Int)), v15.1, ())
 else
 j3 (v4.1, v15.1, ())) fun j16 =>
 bif (decide ((2 : Int) ≤ (subI .i64 v4.1 a0))) then
 loopO (fun (v31 : Int × (List ByteArray) × Unit) =>
 bif (decide ((1 : Int) ≤ v31.1)) then
 Option.bind (idx v31.2.1 v31.1) fun x32 =>
 Option.bind (v31.2.1[(Int.toNat v31.1)]?) fun x33 =>
 Option.bind (idx v31.2.1 (subI .i64 v31.1 (1 : Int))) fun x34 =>
 Option.bind (v31.2.1[(Int.toNat (subI .i64 v31.1 (1 : Int)))]?) fun x35 =>
 Option.bind (F_ballots_CompareValues x33 x35) fun r36 =>
 bif (!(decide (r36 < (0 : Int)))) then
 Option.map Sum.inr (j16 (v31.2.1, ()))
 else
 Option.bind (idx v31.2.1 (subI .i64 v31.1 (1 : Int))) fun x37 =>
 Option.bind (v31.2.1[(Int.toNat (subI .i64 v31.1 (1 : Int)))]?) fun x38 =>
 Option.bind (idx v31.2.1 v31.1) fun x39 =>
 Option.bind (v31.2.1[(Int.toNat v31.1)]?) fun x40 =>
 Option.bind (idx v31.2.1 v31.1) fun x41 =>
 Option.bind (v31.2.1[(Int.toNat v31.1)]?) fun x42 =>
 Option.bind (idx (v31.2.1.set (Int.toNat v31.1) x38) (subI .i64 v31.1 (1 : Int))) fun x43 =>
 Option.bind ((v31.2.1.set (Int.toNat v31.1) x38)[(Int.toNat (subI .i64 v31.1 (1 : Int)))]?) fun x44 =>
 some (Sum.inl ((subI .i64 v31.1 (1 : Int)), ((v31.2.1.set (Int.toNat v31.1) x38).set (Int.toNat (subI .i64 v31.1 (1 : Int))) x40), ()))
 else
 Option.map Sum.inr (j16 (v31.2.1, ()))) ((subI .i64 v4.1 (1 : Int)), ((v1.2.2.1.set (Int.toNat v4.1) x8).set (Int.toNat (subI .i64 v4.1 (1 : Int))) x10), ())
 else
 j16 (((v1.2.2.1.set (Int.toNat v4.1) x8).set (Int.toNat (subI .i64 v4.1 (1 : Int))) x10), ()))) fun j6 =>
 bif (decide (v4.1 < a1)) then
 Option.bind (idx v1.2.2.1 v4.1) fun x45 =>
 Option.bind (v1.2.2.1[(Int.toNat v4.1)]?) fun x46 =>
 Option.bind (idx v1.2.2.1 (subI .i64 v4.1 (1 : Int))) fun x47 =>
 Option.bind (v1.2.2.1[(Int.toNat (subI .i64 v4.1 (1 : Int)))]?) fun x48 =>
 Option.bind (F_ballots_CompareValues x46 x48) fun r49 =>
 j6 ((!(decide (r49 < (0 : Int)))), ())
 else
 j6 (false, ())) (v1.1, ())
 else
 Option.map Sum.inr (some (false, v1.2.2.1))) ((addI .i64 a0 (1 : Int)), (0 : Int), s, ())
noncomputable def k_slices_partialInsertionSortCmpFunc_string_c89 : KFun U := .rw 215 9 1 Ty.str [.ty (Ty.i .i64), .ty (Ty.i .i64), .clo 89 []] (.one Ty.bool) fun s a => F_slices_partialInsertionSortCmpFunc_string_c89 s a.1 a.2.1
theorem e_slices_partialInsertionSortCmpFunc_string_c89 : rwK K [k_ballots_CompareValues] sa_slices_partialInsertionSortCmpFunc_string_c89 [.tmp 8] 9 1 Ty.str [.ty (Ty.i .i64), .ty (Ty.i .i64), .clo 89 []] (.one Ty.bool) = fun s a => F_slices_partialInsertionSortCmpFunc_string_c89 s a.1 a.2.1 := by kernel_rfl
theorem s_slices_partialInsertionSortCmpFunc_string_c89 : KFun.Sound (U := U) Tryz.prog k_slices_partialInsertionSortCmpFunc_string_c89 := rwK_sound (K := K) (Γ := [k_ballots_CompareValues]) ok_slices_partialInsertionSortCmpFunc_string_c89 (by kernel_rfl) (by decide) ⟨s_ballots_CompareValues, trivial⟩ (fun s a => congrFun (congrFun e_slices_partialInsertionSortCmpFunc_string_c89 s) a)

/-! ### slices.partitionEqualCmpFunc[string] -/
def sa_slices_partitionEqualCmpFunc_string_c89 : SA U :=
 (.seq
 (.reg
 (op 10 (.mov (ci 0))
 .nil))
 (.seq
 (.drw [(6, 10), (7, 10), (6, 11), (7, 11)]
 (op 13 (.mov (tm 0))
 (op 14 (.mov (tm 1))
 (op 15 (.mov (tm 0))
 (op 16 (.mov (tm 3))
 (op 17 (.mov (tm 0))
 (op 18 (.mov (tm 3))
 (op 19 (.iaddr 1 (tm 17) (tm 18))
 (op 20 (.load none (tm 19))
 (op 21 (.mov (tm 0))
 (op 22 (.mov (tm 1))
 (op 23 (.iaddr 1 (tm 21) (tm 22))
 (op 24 (.load none (tm 23))
 (op 25 (.iaddr 1 (tm 13) (tm 14))
 (ops (.store 1 (tm 25) (tm 20))
 (op 26 (.iaddr 1 (tm 15) (tm 16))
 (ops (.store 1 (tm 26) (tm 24))
 .nil)))))))))))))))))
 (.seq
 (.reg
 (op 27 (.mov (tm 1))
 (op 28 (.bin .add (tm 27) (ci 1))
 (op 29 (.mov (tm 2))
 (op 30 (.bin .sub (tm 29) (ci 1))
 (op 11 (.mov (tm 28))
 (op 12 (.mov (tm 30))
 .nil)))))))
 (.seq
 (.block 0
 (.loop ⟨[.val 11 (Ty.i .i64), .val 12 (Ty.i .i64), .own 0 0 0 9 1 Ty.str], [1, 4]⟩
 (.block 1
 (.seq
 (.block 2
 (.loop ⟨[.val 11 (Ty.i .i64)], [0, 1, 4, 12]⟩
 (.seq
 (.join ⟨[.val 47 Ty.bool], [0, 1, 4, 11, 12]⟩
 (.drw [(7, 11), (8, 11), (7, 12), (8, 12)]
 (op 31 (.mov (tm 11))
 (op 32 (.mov (tm 12))
 (op 33 (.bin .leq (tm 31) (tm 32))
 (op 34 (.mov (tm 33))
 (.spl 34
 (opg 35 34 true (.mov (tm 4))
 (opg 36 34 true (.mov (tm 0))
 (opg 37 34 true (.mov (tm 1))
 (opg 38 34 true (.iaddr 1 (tm 36) (tm 37))
 (opg 39 34 true (.load none (tm 38))
 (opg 40 34 true (.mov (tm 0))
 (opg 41 34 true (.mov (tm 11))
 (opg 42 34 true (.iaddr 1 (tm 40) (tm 41))
 (opg 43 34 true (.load none (tm 42))
 (opg 44 34 true (.callv (tm 35) [(tm 39), (tm 43)])
 (opg 45 34 true (.bin .lss (tm 44) (ci 0))
 (opg 46 34 true (.not (tm 45))
 (op 47 (.pick (tm 34) (tm 46) (.cst (.bool false)))
 .nil)))))))))))))))))))
 (.cond (tm 47)
 .skip
 (.exit 2)))
 (.block 3
 (.reg
 (op 48 (.mov (tm 11))
 (op 49 (.bin .add (tm 48) (ci 1))
 (op 11 (.mov (tm 49))
 .nil))))))))
 (.seq
 (.block 4
 (.loop ⟨[.val 12 (Ty.i .i64)], [0, 1, 4, 11]⟩
 (.seq
 (.join ⟨[.val 65 Ty.bool], [0, 1, 4, 11, 12]⟩
 (.drw [(7, 11), (8, 11), (7, 12), (8, 12)]
 (op 50 (.mov (tm 11))
 (op 51 (.mov (tm 12))
 (op 52 (.bin .leq (tm 50) (tm 51))
 (op 53 (.mov (tm 52))
 (.spl 53
 (opg 54 53 true (.mov (tm 4))
 (opg 55 53 true (.mov (tm 0))
 (opg 56 53 true (.mov (tm 1))
 (opg 57 53 true (.iaddr 1 (tm 55) (tm 56))
 (opg 58 53 true (.load none (tm 57))
 (opg 59 53 true (.mov (tm 0))
 (opg 60 53 true (.mov (tm 12))
 (opg 61 53 true (.iaddr 1 (tm 59) (tm 60))
 (opg 62 53 true (.load none (tm 61))
 (opg 63 53 true (.callv (tm 54) [(tm 58), (tm 62)])
 (opg 64 53 true (.bin .lss (tm 63) (ci 0))
 (op 65 (.pick (tm 53) (tm 64) (.cst (.bool false)))
 .nil))))))))))))))))))
 (.cond (tm 65)
 .skip
 (.exit 4)))
 (.block 5
 (.reg
 (op 66 (.mov (tm 12))
 (op 67 (.bin .sub (tm 66) (ci 1))
 (op 12 (.mov (tm 67))
 .nil))))))))
 (.seq
 (.seq
 (.reg
 (op 68 (.mov (tm 11))
 (op 69 (.mov (tm 12))
 (op 70 (.bin .gtr (tm 68) (tm 69))
 .nil))))
 (.cond (tm 70)
 (.exit 0)
 .skip))
 (.seq
 (.drw [(6, 10), (7, 10), (6, 11), (7, 11)]
 (op 71 (.mov (tm 0))
 (op 72 (.mov (tm 11))
 (op 73 (.mov (tm 0))
 (op 74 (.mov (tm 12))
 (op 75 (.mov (tm 0))
 (op 76 (.mov (tm 12))
 (op 77 (.iaddr 1 (tm 75) (tm 76))
 (op 78 (.load none (tm 77))
 (op 79 (.mov (tm 0))
 (op 80 (.mov (tm 11))
 (op 81 (.iaddr 1 (tm 79) (tm 80))
 (op 82 (.load none (tm 81))
 (op 83 (.iaddr 1 (tm 71) (tm 72))
 (ops (.store 1 (tm 83) (tm 78))
 (op 84 (.iaddr 1 (tm 73) (tm 74))
 (ops (.store 1 (tm 84) (tm 82))
 .nil)))))))))))))))))
 (.seq
 (.reg
 (op 85 (.mov (tm 11))
 (op 86 (.bin .add (tm 85) (ci 1))
 (op 11 (.mov (tm 86))
 .nil))))
 (.reg
 (op 87 (.mov (tm 12))
 (op 88 (.bin .sub (tm 87) (ci 1))
 (op 12 (.mov (tm 88))
 .nil))))))))))))
 (.seq
 (.reg
 (op 89 (.mov (tm 11))
 (op 10 (.mov (tm 89))
 .nil)))
 .ret)))))
theorem ok_slices_partitionEqualCmpFunc_string_c89 : FnOk Tryz.prog 216 90 (SA.erase sa_slices_partitionEqualCmpFunc_string_c89) [.tmp 10] := ⟨Tryz.f216, [], Tryz.func216, rfl, by kernel_rfl, by kernel_rfl, by kernel_rfl⟩
noncomputable def F_slices_partitionEqualCmpFunc_string_c89 (s : List ByteArray) (a0 : Int) (a1 : Int) (a2 : Int) : Option (Int × List ByteArray) :=
 Option.bind (idx s a2) fun x1 =>
 Option.bind (s[(Int.toNat a2)]?) fun x2 =>
 Option.bind (idx s a0) fun x3 =>
 Option.bind (s[(Int.toNat a0)]?) fun x4 =>
 Option.bind (idx s a0) fun x5 =>
 Option.bind (s[(Int.toNat a0)]?) fun x6 =>
 Option.bind (idx (s.set (Int.toNat a0) x2) a2) fun x7 =>
 Option.bind ((s.set (Int.toNat a0) x2)[(Int.toNat a2)]?) fun x8 =>
 loopO (fun (v9 : Int × Int × (List ByteArray) × Unit) =>
 loopO (fun (v10 : Int × Unit) =>
 letJ (fun (v11 : Bool × Unit) =>
 bif v11.1 then
 some (Sum.inl ((addI .i64 v10.1 (1 : Int)), ()))
 else
 Option.map Sum.inr (loopO (fun (v13 : Int × Unit) =>
 letJ (fun (v14 : Bool × Unit) =>
 bif v14.1 then
 some (Sum.inl ((subI .i64 v13.1 (1 : Int)), ()))
 else
 Option.map Sum.inr (bif (decide (v13.1 < v10.1)) then
 Option.map Sum.inr (some (v10.1, v9.2.2.1))
 else
 Option.bind (idx v9.2.2.1 v13.1) fun x16 =>
 Option.bind (v9.2.2.1[(Int.toNat v13.1)]?) fun x17 =>
 Option.bind (idx v9.2.2.1 v10.1) fun x18 =>
 Option.bind (v9.2.2.1[(Int.toNat v10.1)]?) fun x19 =>
 Option.bind (idx v9.2.2.1 v10.1) fun x20 =>
 Option.bind (v9.2.2.1[(Int.toNat v10.1)]?) fun x21 =>
 Option.bind (idx (v9.2.2.1.set (Int.toNat v10.1) x17) v13.1) fun x22 =>
 Option.bind ((v9.2.2.1.set (Int.toNat v10.1) x17)[(Int.toNat v13.1)]?) fun x23 =>
 some (Sum.inl ((addI .i64 v10.1 (1 : Int)), (subI .i64 v13.1 (1 : Int)), ((v9.2.2.1.set (Int.toNat v10.1) x17).set (Int.toNat v13.1) x19), ())))) fun j15 =>
 bif (decide (v10.1 ≤ v13.1)) then
 Option.bind (idx v9.2.2.1 a0) fun x24 =>
 Option.bind (v9.2.2.1[(Int.toNat a0)]?) fun x25 =>
 Option.bind (idx v9.2.2.1 v13.1) fun x26 =>
 Option.bind (v9.2.2.1[(Int.toNat v13.1)]?) fun x27 =>
 Option.bind (F_ballots_CompareValues x25 x27) fun r28 =>
 j15 ((decide (r28 < (0 : Int))), ())
 else
 j15 (false, ())) (v9.2.1, ()))) fun j12 =>
 bif (decide (v10.1 ≤ v9.2.1)) then
 Option.bind (idx v9.2.2.1 a0) fun x29 =>
 Option.bind (v9.2.2.1[(Int.toNat a0)]?) fun x30 =>
 Option.bind (idx v9.2.2.1 v10.1) fun x31 =>
 Option.bind (v9.2.2.1[(Int.toNat v10.1)]?) fun x32 =>
 Option.bind (F_ballots_CompareValues x30 x32) fun r33 =>
 j12 ((!(decide (r33 < (0 : Int)))), ())
 else
 j12 (false, ())) (v9.1, ())) ((addI .i64 a0 (1 : Int)), (subI .i64 a1 (1 : Int)), ((s.set (Int.toNat a0) x2).set (Int.toNat a2) x4), ())
noncomputable def k_slices_partitionEqualCmpFunc_string_c89 : KFun U := .rw 216 9 1 Ty.str [.ty (Ty.i .i64), .ty (Ty.i .i64), .ty (Ty.i .i64), .clo 89 []] (.one (Ty.i .i64)) fun s a => F_slices_partitionEqualCmpFunc_string_c89 s a.1 a.2.1 a.2.2.1
theorem e_slices_partitionEqualCmpFunc_string_c89 : rwK K [k_ballots_CompareValues] sa_slices_partitionEqualCmpFunc_string_c89 [.tmp 10] 9 1 Ty.str [.ty (Ty.i .i64), .ty (Ty.i .i64), .ty (Ty.i .i64), .clo 89 []] (.one (Ty.i .i64)) = fun s a => F_slices_partitionEqualCmpFunc_string_c89 s a.1 a.2.1 a.2.2.1 := by kernel_rfl
theorem s_slices_partitionEqualCmpFunc_string_c89 : KFun.Sound (U := U) Tryz.prog k_slices_partitionEqualCmpFunc_string_c89 := rwK_sound (K := K) (Γ := [k_ballots_CompareValues]) ok_slices_partitionEqualCmpFunc_string_c89 (by kernel_rfl) (by decide) ⟨s_ballots_CompareValues, trivial⟩ (fun s a => congrFun (congrFun e_slices_partitionEqualCmpFunc_string_c89 s) a)

/-! ### slices.partitionCmpFunc[string] -/
def sa_slices_partitionCmpFunc_string_c89 : SA U :=
 (.seq
 (.reg
 (op 10 (.mov (ci 0))
 (op 11 (.mov (.cst (.bool false)))
 .nil)))
 (.seq
 (.drw [(6, 10), (7, 10), (6, 11), (7, 11)]
 (op 14 (.mov (tm 0))
 (op 15 (.mov (tm 1))
 (op 16 (.mov (tm 0))
 (op 17 (.mov (tm 3))
 (op 18 (.mov (tm 0))
 (op 19 (.mov (tm 3))
 (op 20 (.iaddr 1 (tm 18) (tm 19))
 (op 21 (.load none (tm 20))
 (op 22 (.mov (tm 0))
 (op 23 (.mov (tm 1))
 (op 24 (.iaddr 1 (tm 22) (tm 23))
 (op 25 (.load none (tm 24))
 (op 26 (.iaddr 1 (tm 14) (tm 15))
 (ops (.store 1 (tm 26) (tm 21))
 (op 27 (.iaddr 1 (tm 16) (tm 17))
 (ops (.store 1 (tm 27) (tm 25))
 .nil)))))))))))))))))
 (.seq
 (.reg
 (op 28 (.mov (tm 1))
 (op 29 (.bin .add (tm 28) (ci 1))
 (op 30 (.mov (tm 2))
 (op 31 (.bin .sub (tm 30) (ci 1))
 (op 12 (.mov (tm 29))
 (op 13 (.mov (tm 31))
 .nil)))))))
 (.seq
 (.block 0
 (.loop ⟨[.val 12 (Ty.i .i64)], [0, 1, 4, 13]⟩
 (.seq
 (.join ⟨[.val 47 Ty.bool], [0, 1, 4, 12, 13]⟩
 (.drw [(7, 11), (8, 11), (7, 12), (8, 12)]
 (op 32 (.mov (tm 12))
 (op 33 (.mov (tm 13))
 (op 34 (.bin .leq (tm 32) (tm 33))
 (op 35 (.mov (tm 34))
 (.spl 35
 (opg 36 35 true (.mov (tm 4))
 (opg 37 35 true (.mov (tm 0))
 (opg 38 35 true (.mov (tm 12))
 (opg 39 35 true (.iaddr 1 (tm 37) (tm 38))
 (opg 40 35 true (.load none (tm 39))
 (opg 41 35 true (.mov (tm 0))
 (opg 42 35 true (.mov (tm 1))
 (opg 43 35 true (.iaddr 1 (tm 41) (tm 42))
 (opg 44 35 true (.load none (tm 43))
 (opg 45 35 true (.callv (tm 36) [(tm 40), (tm 44)])
 (opg 46 35 true (.bin .lss (tm 45) (ci 0))
 (op 47 (.pick (tm 35) (tm 46) (.cst (.bool false)))
 .nil))))))))))))))))))
 (.cond (tm 47)
 .skip
 (.exit 0)))
 (.block 1
 (.reg
 (op 48 (.mov (tm 12))
 (op 49 (.bin .add (tm 48) (ci 1))
 (op 12 (.mov (tm 49))
 .nil))))))))
 (.seq
 (.block 2
 (.loop ⟨[.val 13 (Ty.i .i64)], [0, 1, 4, 12]⟩
 (.seq
 (.join ⟨[.val 66 Ty.bool], [0, 1, 4, 12, 13]⟩
 (.drw [(7, 11), (8, 11), (7, 12), (8, 12)]
 (op 50 (.mov (tm 12))
 (op 51 (.mov (tm 13))
 (op 52 (.bin .leq (tm 50) (tm 51))
 (op 53 (.mov (tm 52))
 (.spl 53
 (opg 54 53 true (.mov (tm 4))
 (opg 55 53 true (.mov (tm 0))
 (opg 56 53 true (.mov (tm 13))
 (opg 57 53 true (.iaddr 1 (tm 55) (tm 56))
 (opg 58 53 true (.load none (tm 57))
 (opg 59 53 true (.mov (tm 0))
 (opg 60 53 true (.mov (tm 1))
 (opg 61 53 true (.iaddr 1 (tm 59) (tm 60))
 (opg 62 53 true (.load none (tm 61))
 (opg 63 53 true (.callv (tm 54) [(tm 58), (tm 62)])
 (opg 64 53 true (.bin .lss (tm 63) (ci 0))
 (opg 65 53 true (.not (tm 64))
 (op 66 (.pick (tm 53) (tm 65) (.cst (.bool false)))
 .nil)))))))))))))))))))
 (.cond (tm 66)
 .skip
 (.exit 2)))
 (.block 3
 (.reg
 (op 67 (.mov (tm 13))
 (op 68 (.bin .sub (tm 67) (ci 1))
 (op 13 (.mov (tm 68))
 .nil))))))))
 (.seq
 (.seq
 (.reg
 (op 69 (.mov (tm 12))
 (op 70 (.mov (tm 13))
 (op 71 (.bin .gtr (tm 69) (tm 70))
 .nil))))
 (.cond (tm 71)
 (.seq
 (.drw [(6, 10), (7, 10), (6, 11), (7, 11)]
 (op 72 (.mov (tm 0))
 (op 73 (.mov (tm 13))
 (op 74 (.mov (tm 0))
 (op 75 (.mov (tm 1))
 (op 76 (.mov (tm 0))
 (op 77 (.mov (tm 1))
 (op 78 (.iaddr 1 (tm 76) (tm 77))
 (op 79 (.load none (tm 78))
 (op 80 (.mov (tm 0))
 (op 81 (.mov (tm 13))
 (op 82 (.iaddr 1 (tm 80) (tm 81))
 (op 83 (.load none (tm 82))
 (op 84 (.iaddr 1 (tm 72) (tm 73))
 (ops (.store 1 (tm 84) (tm 79))
 (op 85 (.iaddr 1 (tm 74) (tm 75))
 (ops (.store 1 (tm 85) (tm 83))
 .nil)))))))))))))))))
 (.seq
 (.reg
 (op 86 (.mov (tm 13))
 (op 10 (.mov (tm 86))
 (op 11 (.mov (.cst (.bool true)))
 .nil))))
 .ret))
 .skip))
 (.seq
 (.drw [(6, 10), (7, 10), (6, 11), (7, 11)]
 (op 87 (.mov (tm 0))
 (op 88 (.mov (tm 12))
 (op 89 (.mov (tm 0))
 (op 90 (.mov (tm 13))
 (op 91 (.mov (tm 0))
 (op 92 (.mov (tm 13))
 (op 93 (.iaddr 1 (tm 91) (tm 92))
 (op 94 (.load none (tm 93))
 (op 95 (.mov (tm 0))
 (op 96 (.mov (tm 12))
 (op 97 (.iaddr 1 (tm 95) (tm 96))
 (op 98 (.load none (tm 97))
 (op 99 (.iaddr 1 (tm 87) (tm 88))
 (ops (.store 1 (tm 99) (tm 94))
 (op 100 (.iaddr 1 (tm 89) (tm 90))
 (ops (.store 1 (tm 100) (tm 98))
 .nil)))))))))))))))))
 (.seq
 (.reg
 (op 101 (.mov (tm 12))
 (op 102 (.bin .add (tm 101) (ci 1))
 (op 12 (.mov (tm 102))
 .nil))))
 (.seq
 (.reg
 (op 103 (.mov (tm 13))
 (op 104 (.bin .sub (tm 103) (ci 1))
 (op 13 (.mov (tm 104))
 .nil))))
 (.seq
 (.block 4
 (.loop ⟨[.val 12 (Ty.i .i64), .val 13 (Ty.i .i64), .own 0 0 0 9 1 Ty.str], [1, 4]⟩
 (.block 5
 (.seq
 (.block 6
 (.loop ⟨[.val 12 (Ty.i .i64)], [0, 1, 4, 13]⟩
 (.seq
 (.join ⟨[.val 120 Ty.bool], [0, 1, 4, 12, 13]⟩
 (.drw [(7, 11), (8, 11), (7, 12), (8, 12)]
 (op 105 (.mov (tm 12))
 (op 106 (.mov (tm 13))
 (op 107 (.bin .leq (tm 105) (tm 106))
 (op 108 (.mov (tm 107))
 (.spl 108
 (opg 109 108 true (.mov (tm 4))
 (opg 110 108 true (.mov (tm 0))
 (opg 111 108 true (.mov (tm 12))
 (opg 112 108 true (.iaddr 1 (tm 110) (tm 111))
 (opg 113 108 true (.load none (tm 112))
 (opg 114 108 true (.mov (tm 0))
 (opg 115 108 true (.mov (tm 1))
 (opg 116 108 true (.iaddr 1 (tm 114) (tm 115))
 (opg 117 108 true (.load none (tm 116))
 (opg 118 108 true (.callv (tm 109) [(tm 113), (tm 117)])
 (opg 119 108 true (.bin .lss (tm 118) (ci 0))
 (op 120 (.pick (tm 108) (tm 119) (.cst (.bool false)))
 .nil))))))))))))))))))
 (.cond (tm 120)
 .skip
 (.exit 6)))
 (.block 7
 (.reg
 (op 121 (.mov (tm 12))
 (op 122 (.bin .add (tm 121) (ci 1))
 (op 12 (.mov (tm 122))
 .nil))))))))
 (.seq
 (.block 8
 (.loop ⟨[.val 13 (Ty.i .i64)], [0, 1, 4, 12]⟩
 (.seq
 (.join ⟨[.val 139 Ty.bool], [0, 1, 4, 12, 13]⟩
 (.drw [(7, 11), (8, 11), (7, 12), (8, 12)]
 (op 123 (.mov (tm 12))
 (op 124 (.mov (tm 13))
 (op 125 (.bin .leq (tm 123) (tm 124))
 (op 126 (.mov (tm 125))
 (.spl 126
 (opg 127 126 true (.mov (tm 4))
 (opg 128 126 true (.mov (tm 0))
 (opg 129 126 true (.mov (tm 13))
 (opg 130 126 true (.iaddr 1 (tm 128) (tm 129))
 (opg 131 126 true (.load none (tm 130))
 (opg 132 126 true (.mov (tm 0))
 (opg 133 126 true (.mov (tm 1))
 (opg 134 126 true (.iaddr 1 (tm 132) (tm 133))
 (opg 135 126 true (.load none (tm 134))
 (opg 136 126 true (.callv (tm 127) [(tm 131), (tm 135)])
 (opg 137 126 true (.bin .lss (tm 136) (ci 0))
 (opg 138 126 true (.not (tm 137))
 (op 139 (.pick (tm 126) (tm 138) (.cst (.bool false)))
 .nil)))))))))))))))))))
 (.cond (tm 139)
 .skip
 (.exit 8)))
 (.block 9
 (.reg
 (op 140 (.mov (tm 13))
 (op 141 (.bin .sub (tm 140) (ci 1))
 (op 13 (.mov (tm 141))
 .nil))))))))
 (.seq
 (.seq
 (.reg
 (op 142 (.mov (tm 12))
 (op 143 (.mov (tm 13))
 (op 144 (.bin .gtr (tm 142) (tm 143))
 .nil))))
 (.cond (tm 144)
 (.exit 4)
 .skip))
 (.seq
 (.drw [(6, 10), (7, 10), (6, 11), (7, 11)]
 (op 145 (.mov (tm 0))
 (op 146 (.mov (tm 12))
 (op 147 (.mov (tm 0))
 (op 148 (.mov (tm 13))
 (op 149 (.mov (tm 0))
 (op 150 (.mov (tm 13))
 (op 151 (.iaddr 1 (tm 149) (tm 150))
 (op 152 (.load none (tm 151))
 (op 153 (.mov (tm 0))
 (op 154 (.mov (tm 12))
 (op 155 (.iaddr 1 (tm 153) (tm 154))
 (op 156 (.load none (tm 155))
 (op 157 (.iaddr 1 (tm 145) (tm 146))
 (ops (.store 1 (tm 157) (tm 152))
 (op 158 (.iaddr 1 (tm 147) (tm 148))
 (ops (.store 1 (tm 158) (tm 156))
 .nil)))))))))))))))))
 (.seq
 (.reg
 (op 159 (.mov (tm 12))
 (op 160 (.bin .add (tm 159) (ci 1))
 (op 12 (.mov (tm 160))
 .nil))))
 (.reg
 (op 161 (.mov (tm 13))
 (op 162 (.bin .sub (tm 161) (ci 1))
 (op 13 (.mov (tm 162))
 .nil))))))))))))
 (.seq
 (.drw [(6, 10), (7, 10), (6, 11), (7, 11)]
 (op 163 (.mov (tm 0))
 (op 164 (.mov (tm 13))
 (op 165 (.mov (tm 0))
 (op 166 (.mov (tm 1))
 (op 167 (.mov (tm 0))
 (op 168 (.mov (tm 1))
 (op 169 (.iaddr 1 (tm 167) (tm 168))
 (op 170 (.load none (tm 169))
 (op 171 (.mov (tm 0))
 (op 172 (.mov (tm 13))
 (op 173 (.iaddr 1 (tm 171) (tm 172))
 (op 174 (.load none (tm 173))
 (op 175 (.iaddr 1 (tm 163) (tm 164))
 (ops (.store 1 (tm 175) (tm 170))
 (op 176 (.iaddr 1 (tm 165) (tm 166))
 (ops (.store 1 (tm 176) (tm 174))
 .nil)))))))))))))))))
 (.seq
 (.reg
 (op 177 (.mov (tm 13))
 (op 10 (.mov (tm 177))
 (op 11 (.mov (.cst (.bool false)))
 .nil))))
 .ret))))))))))))
theorem ok_slices_partitionCmpFunc_string_c89 : FnOk Tryz.prog 217 178 (SA.erase sa_slices_partitionCmpFunc_string_c89) [.tmp 10, .tmp 11] := ⟨Tryz.f217, [], Tryz.func217, rfl, by kernel_rfl, by kernel_rfl, by kernel_rfl⟩
noncomputable def F_slices_partitionCmpFunc_string_c89 (s : List ByteArray) (a0 : Int) (a1 : Int) (a2 : Int) : Option ((Int × Bool × Unit) × List ByteArray) :=
 Option.bind (idx s a2) fun x1 =>
 Option.bind (s[(Int.toNat a2)]?) fun x2 =>
 Option.bind (idx s a0) fun x3 =>
 Option.bind (s[(Int.toNat a0)]?) fun x4 =>
 Option.bind (idx s a0) fun x5 =>
 Option.bind (s[(Int.toNat a0)]?) fun x6 =>
 Option.bind (idx (s.set (Int.toNat a0) x2) a2) fun x7 =>
 Option.bind ((s.set (Int.toNat a0) x2)[(Int.toNat a2)]?) fun x8 =>
 loopO (fun (v9 : Int × Unit) =>
 letJ (fun (v10 : Bool × Unit) =>
 bif v10.1 then
 some (Sum.inl ((addI .i64 v9.1 (1 : Int)), ()))
 else
 Option.map Sum.inr (loopO (fun (v12 : Int × Unit) =>
 letJ (fun (v13 : Bool × Unit) =>
 bif v13.1 then
 some (Sum.inl ((subI .i64 v12.1 (1 : Int)), ()))
 else
 Option.map Sum.inr (bif (decide (v12.1 < v9.1)) then
 Option.bind (idx ((s.set (Int.toNat a0) x2).set (Int.toNat a2) x4) a0) fun x15 =>
 Option.bind (((s.set (Int.toNat a0) x2).set (Int.toNat a2) x4)[(Int.toNat a0)]?) fun x16 =>
 Option.bind (idx ((s.set (Int.toNat a0) x2).set (Int.toNat a2) x4) v12.1) fun x17 =>
 Option.bind (((s.set (Int.toNat a0) x2).set (Int.toNat a2) x4)[(Int.toNat v12.1)]?) fun x18 =>
 Option.bind (idx ((s.set (Int.toNat a0) x2).set (Int.toNat a2) x4) v12.1) fun x19 =>
 Option.bind (((s.set (Int.toNat a0) x2).set (Int.toNat a2) x4)[(Int.toNat v12.1)]?) fun x20 =>
 Option.bind (idx (((s.set (Int.toNat a0) x2).set (Int.toNat a2) x4).set (Int.toNat v12.1) x16) a0) fun x21 =>
 Option.bind ((((s.set (Int.toNat a0) x2).set (Int.toNat a2) x4).set (Int.toNat v12.1) x16)[(Int.toNat a0)]?) fun x22 =>
 some ((v12.1, true, ()), ((((s.set (Int.toNat a0) x2).set (Int.toNat a2) x4).set (Int.toNat v12.1) x16).set (Int.toNat a0) x18))
 else
 Option.bind (idx ((s.set (Int.toNat a0) x2).set (Int.toNat a2) x4) v12.1) fun x23 =>
 Option.bind (((s.set (Int.toNat a0) x2).set (Int.toNat a2) x4)[(Int.toNat v12.1)]?) fun x24 =>
 Option.bind (idx ((s.set (Int.toNat a0) x2).set (Int.toNat a2) x4) v9.1) fun x25 =>
 Option.bind (((s.set (Int.toNat a0) x2).set (Int.toNat a2) x4)[(Int.toNat v9.1)]?) fun x26 =>
 Option.bind (idx ((s.set (Int.toNat a0) x2).set (Int.toNat a2) x4) v9.1) fun x27 =>
 Option.bind (((s.set (Int.toNat a0) x2).set (Int.toNat a2) x4)[(Int.toNat v9.1)]?) fun x28 =>
 Option.bind (idx (((s.set (Int.toNat a0) x2).set (Int.toNat a2) x4).set (Int.toNat v9.1) x24) v12.1) fun x29 =>
 Option.bind ((((s.set (Int.toNat a0) x2).set (Int.toNat a2) x4).set (Int.toNat v9.1) x24)[(Int.toNat v12.1)]?) fun x30 =>
 loopO (fun (v31 : Int × Int × (List ByteArray) × Unit) =>
 loopO (fun (v32 : Int × Unit) =>
 letJ (fun (v33 : Bool × Unit) =>
 bif v33.1 then
 some (Sum.inl ((addI .i64 v32.1 (1 : Int)), ()))
 else
 Option.map Sum.inr (loopO (fun (v35 : Int × Unit) =>
 letJ (fun (v36 : Bool × Unit) =>
 bif v36.1 then
 some (Sum.inl ((subI .i64 v35.1 (1 : Int)), ()))
 else
 Option.map Sum.inr (bif (decide (v35.1 < v32.1)) then
 Option.map Sum.inr (Option.bind (idx v31.2.2.1 a0) fun x38 =>
 Option.bind (v31.2.2.1[(Int.toNat a0)]?) fun x39 =>
 Option.bind (idx v31.2.2.1 v35.1) fun x40 =>
 Option.bind (v31.2.2.1[(Int.toNat v35.1)]?) fun x41 =>
 Option.bind (idx v31.2.2.1 v35.1) fun x42 =>
 Option.bind (v31.2.2.1[(Int.toNat v35.1)]?) fun x43 =>
 Option.bind (idx (v31.2.2.1.set (Int.toNat v35.1) x39) a0) fun x44 =>
 Option.bind ((v31.2.2.1.set (Int.toNat v35.1) x39)[(Int.toNat a0)]?) fun x45 =>
 some ((v35.1, false, ()), ((v31.2.2.1.set (Int.toNat v35.1) x39).set (Int.toNat a0) x41)))
 else
 Option.bind (idx v31.2.2.1 v35.1) fun x46 =>
 Option.bind (v31.2.2.1[(Int.toNat v35.1)]?) fun x47 =>
 Option.bind (idx v31.2.2.1 v32.1) fun x48 =>
 Option.bind (v31.2.2.1[(Int.toNat v32.1)]?) fun x49 =>
 Option.bind (idx v31.2.2.1 v32.1) fun x50 =>
 Option.bind (v31.2.2.1[(Int.toNat v32.1)]?) fun x51 =>
 Option.bind (idx (v31.2.2.1.set (Int.toNat v32.1) x47) v35.1) fun x52 =>
 Option.bind ((v31.2.2.1.set (Int.toNat v32.1) x47)[(Int.toNat v35.1)]?) fun x53 =>
 some (Sum.inl ((addI .i64 v32.1 (1 : Int)), (subI .i64 v35.1 (1 : Int)), ((v31.2.2.1.set (Int.toNat v32.1) x47).set (Int.toNat v35.1) x49), ())))) fun j37 =>
 bif (decide (v32.1 ≤ v35.1)) then
 Option.bind (idx v31.2.2.1 v35.1) fun x54 =>
 Option.bind (v31.2.2.1[(Int.toNat v35.1)]?) fun x55 =>
 Option.bind (idx v31.2.2.1 a0) fun x56 =>
 Option.bind (v31.2.2.1[(Int.toNat a0)]?) fun x57 =>
 Option.bind (F_ballots_CompareValues x55 x57) fun r58 =>
 j37 ((!(decide (r58 < (0 : Int)))), ())
 else
 j37 (false, ())) (v31.2.1, ()))) fun j34 =>
 bif (decide (v32.1 ≤ v31.2.1)) then
 Option.bind (idx v31.2.2.1 v32.1) fun x59 =>
 Option.bind (v31.2.2.1[(Int.toNat v32.1)]?) fun x60 =>
 Option.bind (idx v31.2.2.1 a0) fun x61 =>
 Option.bind (v31.2.2.1[(Int.toNat a0)]?) fun x62 =>
 Option.bind (F_ballots_CompareValues x60 x62) fun r63 =>
 j34 ((decide (r63 < (0 : Int))), ())
 else
 j34 (false, ())) (v31.1, ())) ((addI .i64 v9.1 (1 : Int)), (subI .i64 v12.1 (1 : Int)), ((((s.set (Int.toNat a0) x2).set (Int.toNat a2) x4).set (Int.toNat v9.1) x24).set (Int.toNat v12.1) x26), ()))) fun j14 =>
 bif (decide (v9.1 ≤ v12.1)) then
 Option.bind (idx ((s.set (Int.toNat a0) x2).set (Int.toNat a2) x4) v12.1) fun x64 =>
 Option.bind (((s.set (Int.toNat a0) x2).set (Int.toNat a2) x4)[(Int.toNat v12.1)]?) fun x65 =>
 Option.bind (idx ((s.set (Int.toNat a0) x2).set (Int.toNat a2) x4) a0) fun x66 =>
 Option.bind (((s.set (Int.toNat a0) x2).set (Int.toNat a2) x4)[(Int.toNat a0)]?) fun x67 =>
 Option.bind (F_ballots_CompareValues x65 x67) fun r68 =>
 j14 ((!(decide (r68 < (0 : Int)))), ())
 else
 j14 (false, ())) ((subI .i64 a1 (1 : Int)), ()))) fun j11 =>
 bif (decide (v9.1 ≤ (subI .i64 a1 (1 : Int)))) then
 Option.bind (idx ((s.set (Int.toNat a0) x2).set (Int.toNat a2) x4) v9.1) fun x69 =>
 Option.bind (((s.set (Int.toNat a0) x2).set (Int.toNat a2) x4)[(Int.toNat v9.1)]?) fun x70 =>
 Option.bind (idx ((s.set (Int.toNat a0) x2).set (Int.toNat a2) x4) a0) fun x71 =>
 Option.bind (((s.set (Int.toNat a0) x2).set (Int.toNat a2) x4)[(Int.toNat a0)]?) fun x72 =>
 Option.bind (F_ballots_CompareValues x70 x72) fun r73 =>
 j11 ((decide (r73 < (0 : Int))), ())
 else
 j11 (false, ())) ((addI .i64 a0 (1 : Int)), ())
noncomputable def k_slices_partitionCmpFunc_string_c89 : KFun U := .rw 217 9 1 Ty.str [.ty (Ty.i .i64), .ty (Ty.i .i64), .ty (Ty.i .i64), .clo 89 []] (.many [(Ty.i .i64), Ty.bool]) fun s a => F_slices_partitionCmpFunc_string_c89 s a.1 a.2.1 a.2.2.1
theorem e_slices_partitionCmpFunc_string_c89 : rwK K [k_ballots_CompareValues] sa_slices_partitionCmpFunc_string_c89 [.tmp 10, .tmp 11] 9 1 Ty.str [.ty (Ty.i .i64), .ty (Ty.i .i64), .ty (Ty.i .i64), .clo 89 []] (.many [(Ty.i .i64), Ty.bool]) = fun s a => F_slices_partitionCmpFunc_string_c89 s a.1 a.2.1 a.2.2.1 := by kernel_rfl
theorem s_slices_partitionCmpFunc_string_c89 : KFun.Sound (U := U) Tryz.prog k_slices_partitionCmpFunc_string_c89 := rwK_sound (K := K) (Γ := [k_ballots_CompareValues]) ok_slices_partitionCmpFunc_string_c89 (by kernel_rfl) (by decide) ⟨s_ballots_CompareValues, trivial⟩ (fun s a => congrFun (congrFun e_slices_partitionCmpFunc_string_c89 s) a)

/-! ### slices.pdqsortCmpFunc[string] -/
def sa_slices_pdqsortCmpFunc_string_c89 : SA U :=
 (.seq
 (.reg
 (op 10 (.mov (.cst (.bool true)))
 .nil))
 (.seq
 (.reg
 (op 11 (.mov (.cst (.bool true)))
 .nil))
 (.block 0
 (.loop ⟨[.val 1 (Ty.i .i64), .val 2 (Ty.i .i64), .val 3 (Ty.i .i64), .val 10 Ty.bool, .val 11 Ty.bool, .own 0 0 0 9 1 Ty.str], [4]⟩
 (.block 1
 (.seq
 (.reg
 (op 21 (.mov (tm 2))
 (op 22 (.mov (tm 1))
 (op 23 (.bin .sub (tm 21) (tm 22))
 (op 12 (.mov (tm 23))
 .nil)))))
 (.seq
 (.seq
 (.reg
 (op 24 (.mov (tm 12))
 (op 25 (.bin .leq (tm 24) (ci 12))
 .nil)))
 (.cond (tm 25)
 (.seq
 (.reg
 (op 26 (.mov (tm 0))
 (op 27 (.mov (tm 1))
 (op 28 (.mov (tm 2))
 (op 29 (.mov (tm 4))
 (op 30 (.call 210 [(tm 26), (tm 27), (tm 28), (tm 29)])
 .nil))))))
 .ret)
 .skip))
 (.seq
 (.seq
 (.reg
 (op 31 (.mov (tm 3))
 (op 32 (.bin .eql (tm 31) (ci 0))
 .nil)))
 (.cond (tm 32)
 (.seq
 (.reg
 (op 33 (.mov (tm 0))
 (op 34 (.mov (tm 1))
 (op 35 (.mov (tm 2))
 (op 36 (.mov (tm 4))
 (op 37 (.call 211 [(tm 33), (tm 34), (tm 35), (tm 36)])
 .nil))))))
 .ret)
 .skip))
 (.join ⟨[.val 3 (Ty.i .i64), .own 0 0 0 9 1 Ty.str], [1, 2, 4, 10, 11, 12]⟩
 (.seq
 (.reg
 (op 38 (.mov (tm 10))
 (op 39 (.not (tm 38))
 .nil)))
 (.cond (tm 39)
 (.seq
 (.reg
 (op 40 (.mov (tm 0))
 (op 41 (.mov (tm 1))
 (op 42 (.mov (tm 2))
 (op 43 (.mov (tm 4))
 (op 44 (.call 212 [(tm 40), (tm 41), (tm 42), (tm 43)])
 .nil))))))
 (.reg
 (op 45 (.mov (tm 3))
 (op 46 (.bin .sub (tm 45) (ci 1))
 (op 3 (.mov (tm 46))
 .nil)))))
 .skip))
 (.seq
 (.reg
 (op 48 (.mov (tm 0))
 (op 49 (.mov (tm 1))
 (op 50 (.mov (tm 2))
 (op 51 (.mov (tm 4))
 (op 52 (.call 213 [(tm 48), (tm 49), (tm 50), (tm 51)])
 (op 47 (.mov (tm 52))
 (op 53 (.extr 0 (tm 47))
 (op 54 (.extr 1 (tm 47))
 (op 13 (.mov (tm 53))
 (op 14 (.mov (tm 54))
 .nil)))))))))))
 (.join ⟨[.val 13 (Ty.i .i64), .val 14 (Ty.i .i64), .own 0 0 0 9 1 Ty.str], [1, 2, 3, 4, 10, 11, 12]⟩
 (.seq
 (.reg
 (op 55 (.mov (tm 14))
 (op 56 (.bin .eql (tm 55) (ci 2))
 .nil)))
 (.cond (tm 56)
 (.seq
 (.reg
 (op 57 (.mov (tm 0))
 (op 58 (.mov (tm 1))
 (op 59 (.mov (tm 2))
 (op 60 (.mov (tm 4))
 (op 61 (.call 214 [(tm 57), (tm 58), (tm 59), (tm 60)])
 .nil))))))
 (.seq
 (.reg
 (op 62 (.mov (tm 2))
 (op 63 (.bin .sub (tm 62) (ci 1))
 (op 64 (.mov (tm 13))
 (op 65 (.mov (tm 1))
 (op 66 (.bin .sub (tm 64) (tm 65))
 (op 67 (.bin .sub (tm 63) (tm 66))
 (op 13 (.mov (tm 67))
 .nil))))))))
 (.reg
 (op 14 (.mov (ci 1))
 .nil))))
 .skip))
 (.join ⟨[.own 0 0 0 9 1 Ty.str], [1, 2, 3, 4, 10, 11, 12, 13]⟩
 (.seq
 (.reg
 (op 68 (.mov (tm 10))
 (op 69 (.mov (tm 68))
 (.ite 69 true
 (opg 70 69 true (.mov (tm 11))
 .nil)
 71 none (tm 70) (.cst (.bool false))
 (op 72 (.mov (tm 71))
 (.ite 72 true
 (opg 73 72 true (.mov (tm 14))
 (opg 74 72 true (.bin .eql (tm 73) (ci 1))
 .nil))
 75 none (tm 74) (.cst (.bool false))
 .nil))))))
 (.cond (tm 75)
 (.seq
 (.reg
 (op 76 (.mov (tm 0))
 (op 77 (.mov (tm 1))
 (op 78 (.mov (tm 2))
 (op 79 (.mov (tm 4))
 (op 80 (.call 215 [(tm 76), (tm 77), (tm 78), (tm 79)])
 .nil))))))
 (.cond (tm 80)
 .ret
 .skip))
 .skip))
 (.seq
 (.join ⟨[.val 97 Ty.bool], [0, 1, 2, 3, 4, 10, 11, 12, 13]⟩
 (.drw [(7, 11), (8, 11), (7, 12), (8, 12)]
 (op 81 (.mov (tm 1))
 (op 82 (.bin .gtr (tm 81) (ci 0))
 (op 83 (.mov (tm 82))
 (.spl 83
 (opg 84 83 true (.mov (tm 4))
 (opg 85 83 true (.mov (tm 0))
 (opg 86 83 true (.mov (tm 1))
 (opg 87 83 true (.bin .sub (tm 86) (ci 1))
 (opg 88 83 true (.iaddr 1 (tm 85) (tm 87))
 (opg 89 83 true (.load none (tm 88))
 (opg 90 83 true (.mov (tm 0))
 (opg 91 83 true (.mov (tm 13))
 (opg 92 83 true (.iaddr 1 (tm 90) (tm 91))
 (opg 93 83 true (.load none (tm 92))
 (opg 94 83 true (.callv (tm 84) [(tm 89), (tm 93)])
 (opg 95 83 true (.bin .lss (tm 94) (ci 0))
 (opg 96 83 true (.not (tm 95))
 (op 97 (.pick (tm 83) (tm 96) (.cst (.bool false)))
 .nil)))))))))))))))))))
 (.cond (tm 97)
 (.seq
 (.reg
 (op 98 (.mov (tm 0))
 (op 99 (.mov (tm 1))
 (op 100 (.mov (tm 2))
 (op 101 (.mov (tm 13))
 (op 102 (.mov (tm 4))
 (op 103 (.call 216 [(tm 98), (tm 99), (tm 100), (tm 101), (tm 102)])
 (op 15 (.mov (tm 103))
 .nil))))))))
 (.seq
 (.reg
 (op 104 (.mov (tm 15))
 (op 1 (.mov (tm 104))
 .nil)))
 (.exit 1)))
 .skip))
 (.seq
 (.reg
 (op 106 (.mov (tm 0))
 (op 107 (.mov (tm 1))
 (op 108 (.mov (tm 2))
 (op 109 (.mov (tm 13))
 (op 110 (.mov (tm 4))
 (op 111 (.call 217 [(tm 106), (tm 107), (tm 108), (tm 109), (tm 110)])
 (op 105 (.mov (tm 111))
 (op 112 (.extr 0 (tm 105))
 (op 113 (.extr 1 (tm 105))
 (op 16 (.mov (tm 112))
 (op 17 (.mov (tm 113))
 .nil))))))))))))
 (.seq
 (.reg
 (op 114 (.mov (tm 17))
 (op 11 (.mov (tm 114))
 .nil)))
 (.seq
 (.reg
 (op 115 (.mov (tm 16))
 (op 116 (.mov (tm 1))
 (op 117 (.bin .sub (tm 115) (tm 116))
 (op 118 (.mov (tm 2))
 (op 119 (.mov (tm 16))
 (op 120 (.bin .sub (tm 118) (tm 119))
 (op 18 (.mov (tm 117))
 (op 19 (.mov (tm 120))
 .nil)))))))))
 (.seq
 (.reg
 (op 121 (.mov (tm 12))
 (op 122 (.bin .quo (tm 121) (ci 8))
 (op 20 (.mov (tm 122))
 .nil))))
 (.seq
 (.reg
 (op 123 (.mov (tm 18))
 (op 124 (.mov (tm 19))
 (op 125 (.bin .lss (tm 123) (tm 124))
 .nil))))
 (.cond (tm 125)
 (.seq
 (.reg
 (op 126 (.mov (tm 18))
 (op 127 (.mov (tm 20))
 (op 128 (.bin .geq (tm 126) (tm 127))
 (op 10 (.mov (tm 128))
 .nil)))))
 (.seq
 (.reg
 (op 129 (.mov (tm 0))
 (op 130 (.mov (tm 1))
 (op 131 (.mov (tm 16))
 (op 132 (.mov (tm 3))
 (op 133 (.mov (tm 4))
 (op 134 (.call 182 [(tm 129), (tm 130), (tm 131), (tm 132), (tm 133)])
 .nil)))))))
 (.reg
 (op 135 (.mov (tm 16))
 (op 136 (.bin .add (tm 135) (ci 1))
 (op 1 (.mov (tm 136))
 .nil))))))
 (.seq
 (.reg
 (op 137 (.mov (tm 19))
 (op 138 (.mov (tm 20))
 (op 139 (.bin .geq (tm 137) (tm 138))
 (op 10 (.mov (tm 139))
 .nil)))))
 (.seq
 (.reg
 (op 140 (.mov (tm 0))
 (op 141 (.mov (tm 16))
 (op 142 (.bin .add (tm 141) (ci 1))
 (op 143 (.mov (tm 2))
 (op 144 (.mov (tm 3))
 (op 145 (.mov (tm 4))
 (op 146 (.call 182 [(tm 140), (tm 142), (tm 143), (tm 144), (tm 145)])
 .nil))))))))
 (.reg
 (op 147 (.mov (tm 16))
 (op 2 (.mov (tm 147))
 .nil))))))))))))))))))))))))
theorem ok_slices_pdqsortCmpFunc_string_c89 : FnOk Tryz.prog 182 148 (SA.erase sa_slices_pdqsortCmpFunc_string_c89) [] := ⟨Tryz.f182, [], Tryz.func182, rfl, by kernel_rfl, by kernel_rfl, by kernel_rfl⟩
noncomputable def B_slices_pdqsortCmpFunc_string_c89 (rec : List ByteArray → (Int × Int × Int × (Unit) × Unit) → Option ((Unit) × List ByteArray)) (s : List ByteArray) (a0 : Int) (a1 : Int) (a2 : Int) : Option ((Unit) × List ByteArray) :=
 loopO (fun (v1 : Int × Int × Int × Bool × Bool × (List ByteArray) × Unit) =>
 bif (decide ((subI .i64 v1.2.1 v1.1) ≤ (12 : Int))) then
 Option.bind (F_slices_insertionSortCmpFunc_string_c89 v1.2.2.2.2.2.1 v1.1 v1.2.1) fun p2 =>
 Option.map Sum.inr (some ((()), p2.2))
 else
 bif (decide (v1.2.2.1 = (0 : Int))) then
 Option.bind (F_slices_heapSortCmpFunc_string_c89 v1.2.2.2.2.2.1 v1.1 v1.2.1) fun p3 =>
 Option.map Sum.inr (some ((()), p3.2))
 else
 letJ (fun (v4 : Int × (List ByteArray) × Unit) =>
 Option.bind (F_slices_choosePivotCmpFunc_string_c89 v4.2.1 v1.1 v1.2.1) fun r6 =>
 letJ (fun (v7 : Int × Int × (List ByteArray) × Unit) =>
 letJ (fun (v9 : (List ByteArray) × Unit) =>
 letJ (fun (v11 : Bool × Unit) =>
 bif v11.1 then
 Option.bind (F_slices_partitionEqualCmpFunc_string_c89 v9.1 v1.1 v1.2.1 v7.1) fun p13 =>
 some (Sum.inl (p13.1, v1.2.1, v4.1, v1.2.2.2.1, v1.2.2.2.2.1, p13.2, ()))
 else
 Option.bind (F_slices_partitionCmpFunc_string_c89 v9.1 v1.1 v1.2.1 v7.1) fun p14 =>
 bif (decide ((subI .i64 p14.1.1 v1.1) < (subI .i64 v1.2.1 p14.1.1))) then
 Option.bind (rec p14.2 (v1.1, p14.1.1, v4.1, (()), ())) fun p15 =>
 some (Sum.inl ((addI .i64 p14.1.1 (1 : Int)), v1.2.1, v4.1, (decide ((quoI .i64 (subI .i64 v1.2.1 v1.1) (8 : Int)) ≤ (subI .i64 p14.1.1 v1.1))), p14.1.2.1, p15.2, ()))
 else
 Option.bind (rec p14.2 ((addI .i64 p14.1.1 (1 : Int)), v1.2.1, v4.1, (()), ())) fun p16 =>
 some (Sum.inl (v1.1, p14.1.1, v4.1, (decide ((quoI .i64 (subI .i64 v1.2.1 v1.1) (8 : Int)) ≤ (subI .i64 v1.2.1 p14.1.1))), p14.1.2.1, p16.2, ()))) fun j12 =>
 bif (decide ((0 : Int) < v1.1)) then
 Option.bind (idx v9.1 (subI .i64 v1.1 (1 : Int))) fun x17 =>
 Option.bind (v9.1[(Int.toNat (subI .i64 v1.1 (1 : Int)))]?) fun x18 =>
 Option.bind (idx v9.1 v7.1) fun x19 =>
 Option.bind (v9.1[(Int.toNat v7.1)]?) fun x20 =>
 Option.bind (F_ballots_CompareValues x18 x20) fun r21 =>
 j12 ((!(decide (r21 < (0 : Int)))), ())
 else
 j12 (false, ())) fun j10 =>
 Option.bind (bif v1.2.2.2.1 then
 some v1.2.2.2.2.1
 else some false) fun b22 =>
 Option.bind (bif b22 then
 some (decide (v7.2.1 = (1 : Int)))
 else some false) fun b23 =>
 bif b23 then
 Option.bind (F_slices_partialInsertionSortCmpFunc_string_c89 v7.2.2.1 v1.1 v1.2.1) fun p24 =>
 bif p24.1 then
 Option.map Sum.inr (some ((()), p24.2))
 else
 j10 (p24.2, ())
 else
 j10 (v7.2.2.1, ())) fun j8 =>
 bif (decide (r6.2.1 = (2 : Int))) then
 Option.bind (F_slices_reverseRangeCmpFunc_string_c89 v4.2.1 v1.1 v1.2.1) fun p25 =>
 j8 ((subI .i64 (subI .i64 v1.2.1 (1 : Int)) (subI .i64 r6.1 v1.1)), (1 : Int), p25.2, ())
 else
 j8 (r6.1, r6.2.1, v4.2.1, ())) fun j5 =>
 bif (!v1.2.2.2.1) then
 Option.bind (F_slices_breakPatternsCmpFunc_string_c89 v1.2.2.2.2.2.1 v1.1 v1.2.1) fun p26 =>
 j5 ((subI .i64 v1.2.2.1 (1 : Int)), p26.2, ())
 else
 j5 (v1.2.2.1, v1.2.2.2.2.2.1, ())) (a0, a1, a2, true, true, s, ())
noncomputable def I_slices_pdqsortCmpFunc_string_c89 : Nat → List ByteArray → (Int × Int × Int × (Unit) × Unit) → Option ((Unit) × List ByteArray) := iterF2 (fun rec s a => B_slices_pdqsortCmpFunc_string_c89 rec s a.1 a.2.1 a.2.2.1)
noncomputable def F_slices_pdqsortCmpFunc_string_c89 (s : List ByteArray) (a0 : Int) (a1 : Int) (a2 : Int) : Option ((Unit) × List ByteArray) := I_slices_pdqsortCmpFunc_string_c89 (List.length s + 1) s (a0, a1, a2, (()), ())
noncomputable def k_slices_pdqsortCmpFunc_string_c89 : KFun U := .rw 182 9 1 Ty.str [.ty (Ty.i .i64), .ty (Ty.i .i64), .ty (Ty.i .i64), .clo 89 []] (.many []) fun s a => F_slices_pdqsortCmpFunc_string_c89 s a.1 a.2.1 a.2.2.1
theorem e_slices_pdqsortCmpFunc_string_c89 : (fun G => rwK K (.rw 182 9 1 Ty.str [.ty (Ty.i .i64), .ty (Ty.i .i64), .ty (Ty.i .i64), .clo 89 []] (.many []) G :: [k_slices_insertionSortCmpFunc_string_c89, k_slices_heapSortCmpFunc_string_c89, k_slices_breakPatternsCmpFunc_string_c89, k_slices_choosePivotCmpFunc_string_c89, k_slices_reverseRangeCmpFunc_string_c89, k_slices_partialInsertionSortCmpFunc_string_c89, k_ballots_CompareValues, k_slices_partitionEqualCmpFunc_string_c89, k_slices_partitionCmpFunc_string_c89]) sa_slices_pdqsortCmpFunc_string_c89 [] 9 1 Ty.str [.ty (Ty.i .i64), .ty (Ty.i .i64), .ty (Ty.i .i64), .clo 89 []] (.many [])) = (fun G s a => B_slices_pdqsortCmpFunc_string_c89 G s a.1 a.2.1 a.2.2.1) := by kernel_rfl
theorem n_slices_pdqsortCmpFunc_string_c89 : ∀ n, KFun.Sound (U := U) Tryz.prog (.rw 182 9 1 Ty.str [.ty (Ty.i .i64), .ty (Ty.i .i64), .ty (Ty.i .i64), .clo 89 []] (.many []) (I_slices_pdqsortCmpFunc_string_c89 n))
  | 0 => ⟨ok_slices_pdqsortCmpFunc_string_c89.enters, fun s a r ys h => by cases h⟩
  | n + 1 => rwK_sound (K := K) (r := .many []) (e := 9) (k := 1) (T := Ty.str) («as» := [.ty (Ty.i .i64), .ty (Ty.i .i64), .ty (Ty.i .i64), .clo 89 []]) (Γ := .rw 182 9 1 Ty.str [.ty (Ty.i .i64), .ty (Ty.i .i64), .ty (Ty.i .i64), .clo 89 []] (.many []) (I_slices_pdqsortCmpFunc_string_c89 n) :: [k_slices_insertionSortCmpFunc_string_c89, k_slices_heapSortCmpFunc_string_c89, k_slices_breakPatternsCmpFunc_string_c89, k_slices_choosePivotCmpFunc_string_c89, k_slices_reverseRangeCmpFunc_string_c89, k_slices_partialInsertionSortCmpFunc_string_c89, k_ballots_CompareValues, k_slices_partitionEqualCmpFunc_string_c89, k_slices_partitionCmpFunc_string_c89]) (F := I_slices_pdqsortCmpFunc_string_c89 (n + 1)) ok_slices_pdqsortCmpFunc_string_c89 (by kernel_rfl) (by decide) ⟨n_slices_pdqsortCmpFunc_string_c89 n, s_slices_insertionSortCmpFunc_string_c89, s_slices_heapSortCmpFunc_string_c89, s_slices_breakPatternsCmpFunc_string_c89, s_slices_choosePivotCmpFunc_string_c89, s_slices_reverseRangeCmpFunc_string_c89, s_slices_partialInsertionSortCmpFunc_string_c89, s_ballots_CompareValues, s_slices_partitionEqualCmpFunc_string_c89, s_slices_partitionCmpFunc_string_c89, trivial⟩ (fun s a => congrFun (congrFun (congrFun e_slices_pdqsortCmpFunc_string_c89 (I_slices_pdqsortCmpFunc_string_c89 n)) s) a)
theorem s_slices_pdqsortCmpFunc_string_c89 : KFun.Sound (U := U) Tryz.prog k_slices_pdqsortCmpFunc_string_c89 := ⟨ok_slices_pdqsortCmpFunc_string_c89.enters, fun s a r ys h => (n_slices_pdqsortCmpFunc_string_c89 _).2 s a r ys h⟩

/-! ### slices.SortFunc[[]string,string] -/
def sa_slices_SortFunc_string_string_c89 : SA U :=
 (.seq
 (.reg
 (op 5 (.mov (tm 0))
 (op 6 (.len false (tm 5))
 (op 4 (.mov (tm 6))
 .nil))))
 (.reg
 (op 7 (.mov (tm 0))
 (op 8 (.mov (tm 4))
 (op 9 (.mov (tm 4))
 (op 10 (.conv .u64 (tm 9))
 (op 11 (.call 181 [(tm 10)])
 (op 12 (.mov (tm 1))
 (op 13 (.call 182 [(tm 7), (ci 0), (tm 8), (tm 11), (tm 12)])
 .nil)))))))))
theorem ok_slices_SortFunc_string_string_c89 : FnOk Tryz.prog 148 14 (SA.erase sa_slices_SortFunc_string_string_c89) [] := ⟨Tryz.f148, [], Tryz.func148, rfl, by kernel_rfl, by kernel_rfl, by kernel_rfl⟩
noncomputable def F_slices_SortFunc_string_string_c89 (s : List ByteArray)  : Option ((Unit) × List ByteArray) :=
 Option.bind (F_math_bits_Len (convI .u64 ((List.length s : Nat) : Int))) fun r1 =>
 Option.bind (F_slices_pdqsortCmpFunc_string_c89 s (0 : Int) ((List.length s : Nat) : Int) r1) fun p2 =>
 some ((()), p2.2)
noncomputable def k_slices_SortFunc_string_string_c89 : KFun U := .rw 148 9 1 Ty.str [.clo 89 []] (.many []) fun s a => F_slices_SortFunc_string_string_c89 s 
theorem e_slices_SortFunc_string_string_c89 : rwK K [k_math_bits_Len, k_slices_pdqsortCmpFunc_string_c89] sa_slices_SortFunc_string_string_c89 [] 9 1 Ty.str [.clo 89 []] (.many []) = fun s a => F_slices_SortFunc_string_string_c89 s  := by kernel_rfl
theorem s_slices_SortFunc_string_string_c89 : KFun.Sound (U := U) Tryz.prog k_slices_SortFunc_string_string_c89 := rwK_sound (K := K) (Γ := [k_math_bits_Len, k_slices_pdqsortCmpFunc_string_c89]) ok_slices_SortFunc_string_string_c89 (by kernel_rfl) (by decide) ⟨s_math_bits_Len, s_slices_pdqsortCmpFunc_string_c89, trivial⟩ (fun s a => congrFun (congrFun e_slices_SortFunc_string_string_c89 s) a)

/-! ### slices.Compact[[]string,string] -/
def sa_slices_Compact_string_string : SA U :=
 (.seq
 (.reg
 (op 2 (.mov (.cst (.nils)))
 .nil))
 (.seq
 (.seq
 (.reg
 (op 6 (.mov (tm 0))
 (op 7 (.len false (tm 6))
 (op 8 (.bin .lss (tm 7) (ci 2))
 .nil))))
 (.cond (tm 8)
 (.seq
 (.reg
 (op 9 (.mov (tm 0))
 (op 2 (.mov (tm 9))
 .nil)))
 .ret)
 .skip))
 (.seq
 (.seq
 (.reg
 (op 3 (.mov (ci 1))
 .nil))
 (.block 0
 (.loop ⟨[.val 3 (Ty.i .i64), .own 0 0 0 9 1 Ty.str], []⟩
 (.seq
 (.seq
 (.reg
 (op 10 (.mov (tm 3))
 (op 11 (.mov (tm 0))
 (op 12 (.len false (tm 11))
 (op 13 (.bin .lss (tm 10) (tm 12))
 .nil)))))
 (.cond (tm 13)
 .skip
 (.exit 0)))
 (.seq
 (.block 1
 (.seq
 (.drw [(2, 7), (3, 7), (2, 8), (3, 8)]
 (op 16 (.mov (tm 0))
 (op 17 (.mov (tm 3))
 (op 18 (.iaddr 1 (tm 16) (tm 17))
 (op 19 (.load none (tm 18))
 (op 20 (.mov (tm 0))
 (op 21 (.mov (tm 3))
 (op 22 (.bin .sub (tm 21) (ci 1))
 (op 23 (.iaddr 1 (tm 20) (tm 22))
 (op 24 (.load none (tm 23))
 (op 25 (.bin .eql (tm 19) (tm 24))
 .nil)))))))))))
 (.cond (tm 25)
 (.seq
 (.reg
 (op 26 (.mov (tm 0))
 (op 27 (.mov (tm 3))
 (op 28 (.slc 1 (tm 26) (some (tm 27)) none)
 (op 4 (.mov (tm 28))
 .nil)))))
 (.seq
 (.seq
 (.reg
 (op 5 (.mov (ci 1))
 .nil))
 (.block 2
 (.loop ⟨[.val 3 (Ty.i .i64), .val 5 (Ty.i .i64), .own 0 0 0 9 1 Ty.str], [4]⟩
 (.seq
 (.seq
 (.reg
 (op 29 (.mov (tm 5))
 (op 30 (.mov (tm 4))
 (op 31 (.len false (tm 30))
 (op 32 (.bin .lss (tm 29) (tm 31))
 .nil)))))
 (.cond (tm 32)
 .skip
 (.exit 2)))
 (.join ⟨[.val 3 (Ty.i .i64), .own 0 0 0 9 1 Ty.str], [4, 5]⟩
 (.block 3
 (.seq
 (.drw [(2, 7), (3, 7), (2, 8), (3, 8)]
 (op 35 (.mov (tm 4))
 (op 36 (.mov (tm 5))
 (op 37 (.iaddr 1 (tm 35) (tm 36))
 (op 38 (.load none (tm 37))
 (op 39 (.mov (tm 4))
 (op 40 (.mov (tm 5))
 (op 41 (.bin .sub (tm 40) (ci 1))
 (op 42 (.iaddr 1 (tm 39) (tm 41))
 (op 43 (.load none (tm 42))
 (op 44 (.bin .neq (tm 38) (tm 43))
 .nil)))))))))))
 (.cond (tm 44)
 (.seq
 (.reg
 (op 45 (.mov (tm 0))
 (op 46 (.mov (tm 3))
 (op 47 (.mov (tm 4))
 (op 48 (.mov (tm 5))
 (op 49 (.iaddr 1 (tm 47) (tm 48))
 (op 50 (.load none (tm 49))
 (op 51 (.iaddr 1 (tm 45) (tm 46))
 (ops (.store 1 (tm 51) (tm 50))
 .nil)))))))))
 (.reg
 (op 52 (.mov (tm 3))
 (op 53 (.bin .add (tm 52) (ci 1))
 (op 3 (.mov (tm 53))
 .nil)))))
 .skip)))
 (.reg
 (op 33 (.mov (tm 5))
 (op 34 (.bin .add (tm 33) (ci 1))
 (op 5 (.mov (tm 34))
 .nil)))))))))
 (.seq
 (.reg
 (op 54 (.mov (tm 0))
 (op 55 (.mov (tm 3))
 (op 56 (.slc 1 (tm 54) (some (tm 55)) none)
 (ops (.clear 1 [.str ⟨#[]⟩] (tm 56))
 .nil)))))
 (.seq
 (.reg
 (op 57 (.mov (tm 0))
 (op 58 (.mov (tm 3))
 (op 59 (.slc 1 (tm 57) none (some (tm 58)))
 (op 2 (.mov (tm 59))
 (.ps (.cut 2)
 .nil))))))
 .ret))))
 .skip)))
 (.reg
 (op 14 (.mov (tm 3))
 (op 15 (.bin .add (tm 14) (ci 1))
 (op 3 (.mov (tm 15))
 .nil)))))))))
 (.seq
 (.reg
 (op 60 (.mov (tm 0))
 (op 2 (.mov (tm 60))
 .nil)))
 .ret))))
theorem ok_slices_Compact_string_string : FnOk Tryz.prog 149 61 (SA.erase sa_slices_Compact_string_string) [.tmp 2] := ⟨Tryz.f149, [], Tryz.func149, rfl, by kernel_rfl, by kernel_rfl, by kernel_rfl⟩
noncomputable def F_slices_Compact_string_string (s : List ByteArray)  : Option (List ByteArray) :=
 bif (decide (((List.length s : Nat) : Int) < (2 : Int))) then
 some s
 else
 loopO (fun (v1 : Int × (List ByteArray) × Unit) =>
 bif (decide (v1.1 < ((List.length v1.2.1 : Nat) : Int))) then
 Option.bind (idx v1.2.1 v1.1) fun x2 =>
 Option.bind (v1.2.1[(Int.toNat v1.1)]?) fun x3 =>
 Option.bind (idx v1.2.1 (subI .i64 v1.1 (1 : Int))) fun x4 =>
 Option.bind (v1.2.1[(Int.toNat (subI .i64 v1.1 (1 : Int)))]?) fun x5 =>
 bif (decide (x3 = x5)) then
 bif slcOk v1.1 ((List.length v1.2.1) : Int) (List.length v1.2.1) then
 loopO (fun (v6 : Int × Int × (List ByteArray) × Unit) =>
 bif (decide (v6.2.1 < ((List.length ((v6.2.2.1.drop (Int.toNat v1.1)).take (Int.toNat ((List.length v1.2.1) : Int) - Int.toNat v1.1)) : Nat) : Int))) then
 letJ (fun (v7 : Int × (List ByteArray) × Unit) =>
 some (Sum.inl (v7.1, (addI .i64 v6.2.1 (1 : Int)), v7.2.1, ()))) fun j8 =>
 Option.bind (idx ((v6.2.2.1.drop (Int.toNat v1.1)).take (Int.toNat ((List.length v1.2.1) : Int) - Int.toNat v1.1)) v6.2.1) fun x9 =>
 Option.bind (v6.2.2.1[((Int.toNat v1.1) + Int.toNat v6.2.1)]?) fun x10 =>
 Option.bind (idx ((v6.2.2.1.drop (Int.toNat v1.1)).take (Int.toNat ((List.length v1.2.1) : Int) - Int.toNat v1.1)) (subI .i64 v6.2.1 (1 : Int))) fun x11 =>
 Option.bind (v6.2.2.1[((Int.toNat v1.1) + Int.toNat (subI .i64 v6.2.1 (1 : Int)))]?) fun x12 =>
 bif (!decide (x10 = x12)) then
 Option.bind (idx ((v6.2.2.1.drop (Int.toNat v1.1)).take (Int.toNat ((List.length v1.2.1) : Int) - Int.toNat v1.1)) v6.2.1) fun x13 =>
 Option.bind (v6.2.2.1[((Int.toNat v1.1) + Int.toNat v6.2.1)]?) fun x14 =>
 Option.bind (idx v6.2.2.1 v6.1) fun x15 =>
 Option.bind (v6.2.2.1[(Int.toNat v6.1)]?) fun x16 =>
 j8 ((addI .i64 v6.1 (1 : Int)), (v6.2.2.1.set (Int.toNat v6.1) x14), ())
 else
 j8 (v6.1, v6.2.2.1, ())
 else
 Option.map Sum.inr (bif slcOk v6.1 ((List.length v6.2.2.1) : Int) (List.length v6.2.2.1) then
 bif slcOk (0 : Int) v6.1 (List.length (v6.2.2.1.take (Int.toNat v6.1) ++ List.replicate (Int.toNat ((List.length v6.2.2.1) : Int) - Int.toNat v6.1) (ByteArray.mk #[]) ++ v6.2.2.1.drop ((Int.toNat v6.1) + (Int.toNat ((List.length v6.2.2.1) : Int) - Int.toNat v6.1)))) then
 Option.map Sum.inr (some ((v6.2.2.1.take (Int.toNat v6.1) ++ List.replicate (Int.toNat ((List.length v6.2.2.1) : Int) - Int.toNat v6.1) (ByteArray.mk #[]) ++ v6.2.2.1.drop ((Int.toNat v6.1) + (Int.toNat ((List.length v6.2.2.1) : Int) - Int.toNat v6.1))).take (Int.toNat v6.1 - Int.toNat (0 : Int))))
 else none
 else none)) (v1.1, (1 : Int), v1.2.1, ())
 else none
 else
 some (Sum.inl ((addI .i64 v1.1 (1 : Int)), v1.2.1, ()))
 else
 Option.map Sum.inr (some v1.2.1)) ((1 : Int), s, ())
noncomputable def k_slices_Compact_string_string : KFun U := .cw 149 9 1 Ty.str [] fun s a => F_slices_Compact_string_string s 
theorem e_slices_Compact_string_string : cwK K [] sa_slices_Compact_string_string [.tmp 2] 9 1 Ty.str [] = fun s a => F_slices_Compact_string_string s  := by kernel_rfl
theorem s_slices_Compact_string_string : KFun.Sound (U := U) Tryz.prog k_slices_Compact_string_string := cwK_sound (K := K) (Γ := []) ok_slices_Compact_string_string (by kernel_rfl) (by decide) trivial (fun s a => congrFun (congrFun e_slices_Compact_string_string s) a)

/-! ### trustquorum/envelopes.unique[string] -/
def sa_envelopes_unique_string_c89 : SA U :=
 (.seq
 (.reg
 (op 4 (.mov (.cst (.nils)))
 .nil))
 (.seq
 (.reg
 (op 5 (.mov (tm 0))
 (op 6 (.mov (tm 1))
 (op 7 (.call 148 [(tm 5), (tm 6)])
 .nil))))
 (.seq
 (.reg
 (op 8 (.mov (tm 0))
 (op 9 (.call 149 [(tm 8)])
 (op 4 (.mov (tm 9))
 .nil))))
 .ret)))
theorem ok_envelopes_unique_string_c89 : FnOk Tryz.prog 88 10 (SA.erase sa_envelopes_unique_string_c89) [.tmp 4] := ⟨Tryz.f88, [], Tryz.func88, rfl, by kernel_rfl, by kernel_rfl, by kernel_rfl⟩
noncomputable def F_envelopes_unique_string_c89 (s : List ByteArray)  : Option (List ByteArray) :=
 Option.bind (F_slices_SortFunc_string_string_c89 s) fun p1 =>
 Option.bind (F_slices_Compact_string_string p1.2) fun r2 =>
 some r2
noncomputable def k_envelopes_unique_string_c89 : KFun U := .cw 88 9 1 Ty.str [.clo 89 []] fun s a => F_envelopes_unique_string_c89 s 
theorem e_envelopes_unique_string_c89 : cwK K [k_slices_SortFunc_string_string_c89, k_slices_Compact_string_string] sa_envelopes_unique_string_c89 [.tmp 4] 9 1 Ty.str [.clo 89 []] = fun s a => F_envelopes_unique_string_c89 s  := by kernel_rfl
theorem s_envelopes_unique_string_c89 : KFun.Sound (U := U) Tryz.prog k_envelopes_unique_string_c89 := cwK_sound (K := K) (Γ := [k_slices_SortFunc_string_string_c89, k_slices_Compact_string_string]) ok_envelopes_unique_string_c89 (by kernel_rfl) (by decide) ⟨s_slices_SortFunc_string_string_c89, s_slices_Compact_string_string, trivial⟩ (fun s a => congrFun (congrFun e_envelopes_unique_string_c89 s) a)

/-! ### trustquorum/envelopes.Values -/
def sa_envelopes_Values : SA U :=
 (.seq
 (.reg
 (op 2 (.mov (.cst (.nils)))
 .nil))
 (.seq
 (.reg
 (op 3 (.mov (.cst (.nils)))
 .nil))
 (.seq
 (.seq
 (.reg
 (op 6 (.mov (tm 0))
 (op 7 (.len false (tm 6))
 (op 8 (.mov (ci 0))
 .nil))))
 (.block 0
 (.ps (.own 3 9 1 Ty.str)
 (.loop ⟨[.val 8 (Ty.i .i64), .own 3 5 1 9 1 Ty.str], [6, 7]⟩
 (.seq
 (.reg
 (op 9 (.bin .lss (tm 8) (tm 7))
 .nil))
 (.seq
 (.cond (tm 9)
 .skip
 (.exit 0))
 (.join ⟨[.own 3 5 1 9 1 Ty.str], [6, 7, 8]⟩
 (.block 1
 (.seq
 (.reg
 (op 10 (.iaddr 15 (tm 6) (tm 8))
 (op 11 (.load (some 15) (tm 10))
 (op 5 (.alloc [.int .i64 0, .int .i64 0, .int .i64 0, .int .i64 0, .nils, .nils, .int .i64 0, .int .i64 0, .str ⟨#[]⟩, .int .i64 0, .str ⟨#[]⟩, .int .i64 0, .str ⟨#[]⟩, .int .i64 0, .int .i64 0])
 (ops (.store 15 (tm 5) (tm 11))
 .nil)))))
 (.seq
 (.reg
 (op 12 (.load (some 15) (tm 5))
 (op 13 (.call 75 [(tm 12)])
 .nil)))
 (.cond (tm 13)
 (.reg
 (op 14 (.mov (tm 3))
 (op 15 (.faddr 7 (tm 5))
 (op 16 (.faddr 1 (tm 15))
 (op 17 (.load none (tm 16))
 (op 18 (.bsl false 9 1 (List.replicate 1 [.str ⟨#[]⟩]) [(0, (tm 17))])
 (op 19 (.app 9 1 16 (tm 14) (tm 18))
 (op 3 (.mov (tm 19))
 .nil))))))))
 .skip))))
 (.reg
 (op 20 (.bin .add (tm 8) (ci 1))
 (op 8 (.mov (tm 20))
 .nil))))))))))
 (.seq
 (.reg
 (op 21 (.mov (tm 3))
 (op 22 (.call 88 [(tm 21), (.cst (.clo 89 []))])
 (op 2 (.mov (tm 22))
 .nil))))
 .ret))))
theorem ok_envelopes_Values : FnOk Tryz.prog 14 23 (SA.erase sa_envelopes_Values) [.tmp 2] := ⟨Tryz.f14, [], Tryz.func14, rfl, by kernel_rfl, by kernel_rfl, by kernel_rfl⟩
noncomputable def F_envelopes_Values (a0 : (List TEnvelope)) : Option (List ByteArray) :=
 loopO (fun (v1 : Int × (List ByteArray) × Unit) =>
 bif (decide (v1.1 < ((List.length a0 : Nat) : Int))) then
 letJ (fun (v2 : (List ByteArray) × Unit) =>
 some (Sum.inl ((addI .i64 v1.1 (1 : Int)), v2.1, ()))) fun j3 =>
 Option.bind (idx a0 v1.1) fun x4 =>
 Option.bind (F_envelopes_Valid (TEnvelope.mk x4.Node x4.Slot x4.Seq (TTrust.mk x4.Trust.Threshold x4.Trust.Nodes x4.Trust.Inner) x4.Kind x4.Ballot x4.Prepared x4.Prime x4.Low x4.High)) fun r5 =>
 bif r5 then
 bif lenOk 16 (List.length v1.2.1 + List.length [x4.Ballot.Value]) then
 j3 ((v1.2.1 ++ [x4.Ballot.Value]), ())
 else none
 else
 j3 (v1.2.1, ())
 else
 Option.map Sum.inr (Option.bind (F_envelopes_unique_string_c89 v1.2.1) fun r6 =>
 some r6)) ((0 : Int), ([] : List ByteArray), ())
noncomputable def k_envelopes_Values : KFun U := .fn 14 [.ty (Ty.sl (Ty.st .Envelope))] (.one (Ty.sl Ty.str)) fun a => F_envelopes_Values a.1
theorem e_envelopes_Values : fnK K [k_envelopes_Valid, k_envelopes_unique_string_c89] sa_envelopes_Values [.tmp 2] [.ty (Ty.sl (Ty.st .Envelope))] (.one (Ty.sl Ty.str)) = fun a => F_envelopes_Values a.1 := by kernel_rfl
theorem s_envelopes_Values : KFun.Sound (U := U) Tryz.prog k_envelopes_Values := fnK_sound (K := K) (Γ := [k_envelopes_Valid, k_envelopes_unique_string_c89]) ok_envelopes_Values (by kernel_rfl) (by decide) ⟨s_envelopes_Valid, s_envelopes_unique_string_c89, trivial⟩ (fun a => congrFun e_envelopes_Values a)

/-! ### (trustquorum/envelopes.Right).VotesPrepare -/
def sa_envelopes_Right_VotesPrepare : SA U :=
 (.seq
 (.reg
 (op 2 (.box (tm 0))
 (op 3 (.box (tm 1))
 (op 4 (.mov (.cst (.bool false)))
 .nil))))
 (.seq
 (.block 0
 (.seq
 (.reg
 (op 6 (.load (some 2) (tm 3))
 (op 7 (.call 85 [(tm 6)])
 (op 5 (.mov (tm 7))
 .nil))))
 (.cond (tm 5)
 (.seq
 (.reg
 (op 4 (.mov (.cst (.bool false)))
 .nil))
 .ret)
 (.seq
 (.reg
 (op 9 (.faddr 0 (tm 2))
 (op 10 (.faddr 6 (tm 9))
 (op 11 (.load none (tm 10))
 (op 12 (.bin .eql (tm 11) (ci 1))
 (op 8 (.mov (tm 12))
 .nil))))))
 (.cond (tm 8)
 (.seq
 (.reg
 (op 13 (.faddr 0 (tm 2))
 (op 14 (.faddr 7 (tm 13))
 (op 15 (.load (some 2) (tm 14))
 (op 16 (.load (some 2) (tm 3))
 (op 17 (.call 151 [(tm 15), (tm 16)])
 (op 4 (.mov (tm 17))
 .nil)))))))
 .ret)
 .skip)))))
 (.seq
 (.reg
 (op 18 (.faddr 0 (tm 2))
 (op 19 (.faddr 7 (tm 18))
 (op 20 (.load (some 2) (tm 19))
 (op 21 (.load (some 2) (tm 3))
 (op 22 (.call 114 [(tm 20), (tm 21)])
 (op 4 (.mov (tm 22))
 .nil)))))))
 .ret)))
theorem ok_envelopes_Right_VotesPrepare : FnOk Tryz.prog 90 23 (SA.erase sa_envelopes_Right_VotesPrepare) [.tmp 4] := ⟨Tryz.f90, [], Tryz.func90, rfl, by kernel_rfl, by kernel_rfl, by kernel_rfl⟩
noncomputable def F_envelopes_Right_VotesPrepare (a0 : TRight) (a1 : TBallot) : Option Bool :=
 Option.bind (F_ballots_Zero a1) fun r1 =>
 bif r1 then
 some false
 else
 bif (decide (a0.Envelope.Kind = (1 : Int))) then
 Option.bind (F_ballots_Covers a0.Envelope.Ballot a1) fun r2 =>
 some r2
 else
 Option.bind (F_ballots_Compatible a0.Envelope.Ballot a1) fun r3 =>
 some r3
noncomputable def k_envelopes_Right_VotesPrepare : KFun U := .fn 90 [.ty (Ty.st .Right), .ty (Ty.st .Ballot)] (.one Ty.bool) fun a => F_envelopes_Right_VotesPrepare a.1 a.2.1
theorem e_envelopes_Right_VotesPrepare : fnK K [k_ballots_Zero, k_ballots_Covers, k_ballots_Compatible] sa_envelopes_Right_VotesPrepare [.tmp 4] [.ty (Ty.st .Right), .ty (Ty.st .Ballot)] (.one Ty.bool) = fun a => F_envelopes_Right_VotesPrepare a.1 a.2.1 := by kernel_rfl
theorem s_envelopes_Right_VotesPrepare : KFun.Sound (U := U) Tryz.prog k_envelopes_Right_VotesPrepare := fnK_sound (K := K) (Γ := [k_ballots_Zero, k_ballots_Covers, k_ballots_Compatible]) ok_envelopes_Right_VotesPrepare (by kernel_rfl) (by decide) ⟨s_ballots_Zero, s_ballots_Covers, s_ballots_Compatible, trivial⟩ (fun a => congrFun e_envelopes_Right_VotesPrepare a)

/-! ### trustquorum/envelopes.VotesPrepare -/
def sa_envelopes_VotesPrepare : SA U :=
 (.seq
 (.reg
 (op 2 (.box (tm 0))
 (op 3 (.box (tm 1))
 (op 4 (.mov (.cst (.bool false)))
 .nil))))
 (.seq
 (.reg
 (op 5 (.load (some 15) (tm 2))
 (op 6 (.call 75 [(tm 5)])
 (op 7 (.mov (tm 6))
 (.ite 7 true
 (opg 8 7 true (.load (some 15) (tm 2))
 (opg 9 7 true (.build [.int .i64 0, .int .i64 0, .int .i64 0, .int .i64 0, .nils, .nils, .int .i64 0, .int .i64 0, .str ⟨#[]⟩, .int .i64 0, .str ⟨#[]⟩, .int .i64 0, .str ⟨#[]⟩, .int .i64 0, .int .i64 0] [(0, 15, (tm 8))])
 (opg 10 7 true (.load (some 2) (tm 3))
 (opg 11 7 true (.call 90 [(tm 9), (tm 10)])
 .nil))))
 12 none (tm 11) (.cst (.bool false))
 (op 4 (.mov (tm 12))
 .nil))))))
 .ret))
theorem ok_envelopes_VotesPrepare : FnOk Tryz.prog 16 13 (SA.erase sa_envelopes_VotesPrepare) [.tmp 4] := ⟨Tryz.f16, [], Tryz.func16, rfl, by kernel_rfl, by kernel_rfl, by kernel_rfl⟩
noncomputable def F_envelopes_VotesPrepare (a0 : TEnvelope) (a1 : TBallot) : Option Bool :=
 Option.bind (F_envelopes_Valid (TEnvelope.mk a0.Node a0.Slot a0.Seq (TTrust.mk a0.Trust.Threshold a0.Trust.Nodes a0.Trust.Inner) a0.Kind a0.Ballot a0.Prepared a0.Prime a0.Low a0.High)) fun r1 =>
 Option.bind (bif r1 then
 Option.bind (F_envelopes_Right_VotesPrepare (TRight.mk (TEnvelope.mk a0.Node a0.Slot a0.Seq (TTrust.mk a0.Trust.Threshold a0.Trust.Nodes a0.Trust.Inner) a0.Kind a0.Ballot a0.Prepared a0.Prime a0.Low a0.High)) a1) fun r2 =>
 some r2
 else some false) fun b3 =>
 some b3
noncomputable def k_envelopes_VotesPrepare : KFun U := .fn 16 [.ty (Ty.st .Envelope), .ty (Ty.st .Ballot)] (.one Ty.bool) fun a => F_envelopes_VotesPrepare a.1 a.2.1
theorem e_envelopes_VotesPrepare : fnK K [k_envelopes_Valid, k_envelopes_Right_VotesPrepare] sa_envelopes_VotesPrepare [.tmp 4] [.ty (Ty.st .Envelope), .ty (Ty.st .Ballot)] (.one Ty.bool) = fun a => F_envelopes_VotesPrepare a.1 a.2.1 := by kernel_rfl
theorem s_envelopes_VotesPrepare : KFun.Sound (U := U) Tryz.prog k_envelopes_VotesPrepare := fnK_sound (K := K) (Γ := [k_envelopes_Valid, k_envelopes_Right_VotesPrepare]) ok_envelopes_VotesPrepare (by kernel_rfl) (by decide) ⟨s_envelopes_Valid, s_envelopes_Right_VotesPrepare, trivial⟩ (fun a => congrFun e_envelopes_VotesPrepare a)

/-! ### (trustquorum/envelopes.Right).AcceptsPrepare -/
def sa_envelopes_Right_AcceptsPrepare : SA U :=
 (.seq
 (.reg
 (op 2 (.box (tm 0))
 (op 3 (.box (tm 1))
 (op 4 (.mov (.cst (.bool false)))
 .nil))))
 (.seq
 (.block 0
 (.seq
 (.reg
 (op 6 (.load (some 2) (tm 3))
 (op 7 (.call 85 [(tm 6)])
 (op 5 (.mov (tm 7))
 .nil))))
 (.cond (tm 5)
 (.seq
 (.reg
 (op 4 (.mov (.cst (.bool false)))
 .nil))
 .ret)
 (.seq
 (.reg
 (op 9 (.faddr 0 (tm 2))
 (op 10 (.faddr 6 (tm 9))
 (op 11 (.load none (tm 10))
 (op 12 (.bin .eql (tm 11) (ci 1))
 (op 8 (.mov (tm 12))
 .nil))))))
 (.cond (tm 8)
 (.seq
 (.reg
 (op 13 (.faddr 0 (tm 2))
 (op 14 (.faddr 9 (tm 13))
 (op 15 (.load (some 2) (tm 14))
 (op 16 (.faddr 0 (tm 2))
 (op 17 (.faddr 11 (tm 16))
 (op 18 (.load (some 2) (tm 17))
 (op 19 (.load (some 2) (tm 3))
 (op 20 (.call 110 [(tm 15), (tm 18), (tm 19)])
 (op 4 (.mov (tm 20))
 .nil))))))))))
 .ret)
 (.seq
 (.reg
 (op 22 (.faddr 0 (tm 2))
 (op 23 (.faddr 6 (tm 22))
 (op 24 (.load none (tm 23))
 (op 25 (.bin .eql (tm 24) (ci 2))
 (op 21 (.mov (tm 25))
 .nil))))))
 (.cond (tm 21)
 (.seq
 (.reg
 (op 26 (.faddr 0 (tm 2))
 (op 27 (.faddr 9 (tm 26))
 (op 28 (.load (some 2) (tm 27))
 (op 29 (.load (some 2) (tm 3))
 (op 30 (.call 151 [(tm 28), (tm 29)])
 (op 4 (.mov (tm 30))
 .nil)))))))
 .ret)
 .skip)))))))
 (.seq
 (.reg
 (op 31 (.faddr 0 (tm 2))
 (op 32 (.faddr 7 (tm 31))
 (op 33 (.load (some 2) (tm 32))
 (op 34 (.load (some 2) (tm 3))
 (op 35 (.call 114 [(tm 33), (tm 34)])
 (op 4 (.mov (tm 35))
 .nil)))))))
 .ret)))
theorem ok_envelopes_Right_AcceptsPrepare : FnOk Tryz.prog 91 36 (SA.erase sa_envelopes_Right_AcceptsPrepare) [.tmp 4] := ⟨Tryz.f91, [], Tryz.func91, rfl, by kernel_rfl, by kernel_rfl, by kernel_rfl⟩
noncomputable def F_envelopes_Right_AcceptsPrepare (a0 : TRight) (a1 : TBallot) : Option Bool :=
 Option.bind (F_ballots_Zero a1) fun r1 =>
 bif r1 then
 some false
 else
 bif (decide (a0.Envelope.Kind = (1 : Int))) then
 Option.bind (F_ballots_Prepares a0.Envelope.Prepared a0.Envelope.Prime a1) fun r2 =>
 some r2
 else
 bif (decide (a0.Envelope.Kind = (2 : Int))) then
 Option.bind (F_ballots_Covers a0.Envelope.Prepared a1) fun r3 =>
 some r3
 else
 Option.bind (F_ballots_Compatible a0.Envelope.Ballot a1) fun r4 =>
 some r4
noncomputable def k_envelopes_Right_AcceptsPrepare : KFun U := .fn 91 [.ty (Ty.st .Right), .ty (Ty.st .Ballot)] (.one Ty.bool) fun a => F_envelopes_Right_AcceptsPrepare a.1 a.2.1
theorem e_envelopes_Right_AcceptsPrepare : fnK K [k_ballots_Zero, k_ballots_Prepares, k_ballots_Covers, k_ballots_Compatible] sa_envelopes_Right_AcceptsPrepare [.tmp 4] [.ty (Ty.st .Right), .ty (Ty.st .Ballot)] (.one Ty.bool) = fun a => F_envelopes_Right_AcceptsPrepare a.1 a.2.1 := by kernel_rfl
theorem s_envelopes_Right_AcceptsPrepare : KFun.Sound (U := U) Tryz.prog k_envelopes_Right_AcceptsPrepare := fnK_sound (K := K) (Γ := [k_ballots_Zero, k_ballots_Prepares, k_ballots_Covers, k_ballots_Compatible]) ok_envelopes_Right_AcceptsPrepare (by kernel_rfl) (by decide) ⟨s_ballots_Zero, s_ballots_Prepares, s_ballots_Covers, s_ballots_Compatible, trivial⟩ (fun a => congrFun e_envelopes_Right_AcceptsPrepare a)

/-! ### trustquorum/envelopes.AcceptsPrepare -/
def sa_envelopes_AcceptsPrepare : SA U :=
 (.seq
 (.reg
 (op 2 (.box (tm 0))
 (op 3 (.box (tm 1))
 (op 4 (.mov (.cst (.bool false)))
 .nil))))
 (.seq
 (.reg
 (op 5 (.load (some 15) (tm 2))
 (op 6 (.call 75 [(tm 5)])
 (op 7 (.mov (tm 6))
 (.ite 7 true
 (opg 8 7 true (.load (some 15) (tm 2))
 (opg 9 7 true (.build [.int .i64 0, .int .i64 0, .int .i64 0, .int .i64 0, .nils, .nils, .int .i64 0, .int .i64 0, .str ⟨#[]⟩, .int .i64 0, .str ⟨#[]⟩, .int .i64 0, .str ⟨#[]⟩, .int .i64 0, .int .i64 0] [(0, 15, (tm 8))])
 (opg 10 7 true (.load (some 2) (tm 3))
 (opg 11 7 true (.call 91 [(tm 9), (tm 10)])
 .nil))))
 12 none (tm 11) (.cst (.bool false))
 (op 4 (.mov (tm 12))
 .nil))))))
 .ret))
theorem ok_envelopes_AcceptsPrepare : FnOk Tryz.prog 17 13 (SA.erase sa_envelopes_AcceptsPrepare) [.tmp 4] := ⟨Tryz.f17, [], Tryz.func17, rfl, by kernel_rfl, by kernel_rfl, by kernel_rfl⟩
noncomputable def F_envelopes_AcceptsPrepare (a0 : TEnvelope) (a1 : TBallot) : Option Bool :=
 Option.bind (F_envelopes_Valid (TEnvelope.mk a0.Node a0.Slot a0.Seq (TTrust.mk a0.Trust.Threshold a0.Trust.Nodes a0.Trust.Inner) a0.Kind a0.Ballot a0.Prepared a0.Prime a0.Low a0.High)) fun r1 =>
 Option.bind (bif r1 then
 Option.bind (F_envelopes_Right_AcceptsPrepare (TRight.mk (TEnvelope.mk a0.Node a0.Slot a0.Seq (TTrust.mk a0.Trust.Threshold a0.Trust.Nodes a0.Trust.Inner) a0.Kind a0.Ballot a0.Prepared a0.Prime a0.Low a0.High)) a1) fun r2 =>
 some r2
 else some false) fun b3 =>
 some b3
noncomputable def k_envelopes_AcceptsPrepare : KFun U := .fn 17 [.ty (Ty.st .Envelope), .ty (Ty.st .Ballot)] (.one Ty.bool) fun a => F_envelopes_AcceptsPrepare a.1 a.2.1
theorem e_envelopes_AcceptsPrepare : fnK K [k_envelopes_Valid, k_envelopes_Right_AcceptsPrepare] sa_envelopes_AcceptsPrepare [.tmp 4] [.ty (Ty.st .Envelope), .ty (Ty.st .Ballot)] (.one Ty.bool) = fun a => F_envelopes_AcceptsPrepare a.1 a.2.1 := by kernel_rfl
theorem s_envelopes_AcceptsPrepare : KFun.Sound (U := U) Tryz.prog k_envelopes_AcceptsPrepare := fnK_sound (K := K) (Γ := [k_envelopes_Valid, k_envelopes_Right_AcceptsPrepare]) ok_envelopes_AcceptsPrepare (by kernel_rfl) (by decide) ⟨s_envelopes_Valid, s_envelopes_Right_AcceptsPrepare, trivial⟩ (fun a => congrFun e_envelopes_AcceptsPrepare a)

/-! ### slices.insertionSortCmpFunc[int] -/
def sa_slices_insertionSortCmpFunc_int_c93 : SA U :=
 (.seq
 (.reg
 (op 10 (.mov (tm 1))
 (op 11 (.bin .add (tm 10) (ci 1))
 (op 8 (.mov (tm 11))
 .nil))))
 (.block 0
 (.loop ⟨[.val 8 (Ty.i .i64), .own 0 0 0 3 1 (Ty.i .i64)], [1, 2, 3]⟩
 (.seq
 (.seq
 (.reg
 (op 12 (.mov (tm 8))
 (op 13 (.mov (tm 2))
 (op 14 (.bin .lss (tm 12) (tm 13))
 .nil))))
 (.cond (tm 14)
 .skip
 (.exit 0)))
 (.seq
 (.block 1
 (.seq
 (.reg
 (op 17 (.mov (tm 8))
 (op 9 (.mov (tm 17))
 .nil)))
 (.block 2
 (.loop ⟨[.val 9 (Ty.i .i64), .own 0 0 0 3 1 (Ty.i .i64)], [1, 2, 3, 8]⟩
 (.seq
 (.join ⟨[.val 34 Ty.bool], [0, 1, 2, 3, 8, 9]⟩
 (.drw [(7, 12), (8, 12), (7, 13), (8, 13)]
 (op 18 (.mov (tm 9))
 (op 19 (.mov (tm 1))
 (op 20 (.bin .gtr (tm 18) (tm 19))
 (op 21 (.mov (tm 20))
 (.spl 21
 (opg 22 21 true (.mov (tm 3))
 (opg 23 21 true (.mov (tm 0))
 (opg 24 21 true (.mov (tm 9))
 (opg 25 21 true (.iaddr 1 (tm 23) (tm 24))
 (opg 26 21 true (.load none (tm 25))
 (opg 27 21 true (.mov (tm 0))
 (opg 28 21 true (.mov (tm 9))
 (opg 29 21 true (.bin .sub (tm 28) (ci 1))
 (opg 30 21 true (.iaddr 1 (tm 27) (tm 29))
 (opg 31 21 true (.load none (tm 30))
 (opg 32 21 true (.callv (tm 22) [(tm 26), (tm 31)])
 (opg 33 21 true (.bin .lss (tm 32) (ci 0))
 (op 34 (.pick (tm 21) (tm 33) (.cst (.bool false)))
 .nil)))))))))))))))))))
 (.cond (tm 34)
 .skip
 (.exit 2)))
 (.seq
 (.block 3
 (.drw [(8, 12), (9, 12), (8, 13), (9, 13)]
 (op 37 (.mov (tm 0))
 (op 38 (.mov (tm 9))
 (op 39 (.mov (tm 0))
 (op 40 (.mov (tm 9))
 (op 41 (.bin .sub (tm 40) (ci 1))
 (op 42 (.mov (tm 0))
 (op 43 (.mov (tm 9))
 (op 44 (.bin .sub (tm 43) (ci 1))
 (op 45 (.iaddr 1 (tm 42) (tm 44))
 (op 46 (.load none (tm 45))
 (op 47 (.mov (tm 0))
 (op 48 (.mov (tm 9))
 (op 49 (.iaddr 1 (tm 47) (tm 48))
 (op 50 (.load none (tm 49))
 (op 51 (.iaddr 1 (tm 37) (tm 38))
 (ops (.store 1 (tm 51) (tm 46))
 (op 52 (.iaddr 1 (tm 39) (tm 41))
 (ops (.store 1 (tm 52) (tm 50))
 .nil))))))))))))))))))))
 (.reg
 (op 35 (.mov (tm 9))
 (op 36 (.bin .sub (tm 35) (ci 1))
 (op 9 (.mov (tm 36))
 .nil))))))))))
 (.reg
 (op 15 (.mov (tm 8))
 (op 16 (.bin .add (tm 15) (ci 1))
 (op 8 (.mov (tm 16))
 .nil)))))))))
theorem ok_slices_insertionSortCmpFunc_int_c93 : FnOk Tryz.prog 218 53 (SA.erase sa_slices_insertionSortCmpFunc_int_c93) [] := ⟨Tryz.f218, [], Tryz.func218, rfl, by kernel_rfl, by kernel_rfl, by kernel_rfl⟩
noncomputable def F_slices_insertionSortCmpFunc_int_c93 (s : List Int) (a0 : Int) (a1 : Int) : Option ((Unit) × List Int) :=
 loopO (fun (v1 : Int × (List Int) × Unit) =>
 bif (decide (v1.1 < a1)) then
 loopO (fun (v2 : Int × (List Int) × Unit) =>
 letJ (fun (v3 : Bool × Unit) =>
 bif v3.1 then
 Option.bind (idx v2.2.1 (subI .i64 v2.1 (1 : Int))) fun x5 =>
 Option.bind (v2.2.1[(Int.toNat (subI .i64 v2.1 (1 : Int)))]?) fun x6 =>
 Option.bind (idx v2.2.1 v2.1) fun x7 =>
 Option.bind (v2.2.1[(Int.toNat v2.1)]?) fun x8 =>
 Option.bind (idx v2.2.1 v2.1) fun x9 =>
 Option.bind (v2.2.1[(Int.toNat v2.1)]?) fun x10 =>
 Option.bind (idx (v2.2.1.set (Int.toNat v2.1) x6) (subI .i64 v2.1 (1 : Int))) fun x11 =>
 Option.bind ((v2.2.1.set (Int.toNat v2.1) x6)[(Int.toNat (subI .i64 v2.1 (1 : Int)))]?) fun x12 =>
 some (Sum.inl ((subI .i64 v2.1 (1 : Int)), ((v2.2.1.set (Int.toNat v2.1) x6).set (Int.toNat (subI .i64 v2.1 (1 : Int))) x8), ()))
 else
 Option.map Sum.inr (some (Sum.inl ((addI .i64 v1.1 (1 : Int)), v2.2.1, ())))) fun j4 =>
 bif (decide (a0 < v2.1)) then
 Option.bind (idx v2.2.1 v2.1) fun x13 =>
 Option.bind (v2.2.1[(Int.toNat v2.1)]?) fun x14 =>
 Option.bind (idx v2.2.1 (subI .i64 v2.1 (1 : Int))) fun x15 =>
 Option.bind (v2.2.1[(Int.toNat (subI .i64 v2.1 (1 : Int)))]?) fun x16 =>
 Option.bind (F_cmp_Compare_int x14 x16) fun r17 =>
 j4 ((decide (r17 < (0 : Int))), ())
 else
 j4 (false, ())) (v1.1, v1.2.1, ())
 else
 Option.map Sum.inr (some ((()), v1.2.1))) ((addI .i64 a0 (1 : Int)), s, ())
noncomputable def k_slices_insertionSortCmpFunc_int_c93 : KFun U := .rw 218 3 1 (Ty.i .i64) [.ty (Ty.i .i64), .ty (Ty.i .i64), .clo 93 []] (.many []) fun s a => F_slices_insertionSortCmpFunc_int_c93 s a.1 a.2.1
theorem e_slices_insertionSortCmpFunc_int_c93 : rwK K [k_cmp_Compare_int] sa_slices_insertionSortCmpFunc_int_c93 [] 3 1 (Ty.i .i64) [.ty (Ty.i .i64), .ty (Ty.i .i64), .clo 93 []] (.many []) = fun s a => F_slices_insertionSortCmpFunc_int_c93 s a.1 a.2.1 := by kernel_rfl
theorem s_slices_insertionSortCmpFunc_int_c93 : KFun.Sound (U := U) Tryz.prog k_slices_insertionSortCmpFunc_int_c93 := rwK_sound (K := K) (Γ := [k_cmp_Compare_int]) ok_slices_insertionSortCmpFunc_int_c93 (by kernel_rfl) (by decide) ⟨s_cmp_Compare_int, trivial⟩ (fun s a => congrFun (congrFun e_slices_insertionSortCmpFunc_int_c93 s) a)

/-! ### slices.siftDownCmpFunc[int] -/
def sa_slices_siftDownCmpFunc_int_c93 : SA U :=
 (.seq
 (.reg
 (op 12 (.mov (tm 1))
 (op 10 (.mov (tm 12))
 .nil)))
 (.block 0
 (.loop ⟨[.val 10 (Ty.i .i64), .own 0 0 0 3 1 (Ty.i .i64)], [2, 3, 4]⟩
 (.block 1
 (.seq
 (.reg
 (op 13 (.mov (tm 10))
 (op 14 (.bin .mul (ci 2) (tm 13))
 (op 15 (.bin .add (tm 14) (ci 1))
 (op 11 (.mov (tm 15))
 .nil)))))
 (.seq
 (.seq
 (.reg
 (op 16 (.mov (tm 11))
 (op 17 (.mov (tm 2))
 (op 18 (.bin .geq (tm 16) (tm 17))
 .nil))))
 (.cond (tm 18)
 (.exit 0)
 .skip))
 (.join ⟨[.val 11 (Ty.i .i64)], [0, 2, 3, 4, 10]⟩
 (.join ⟨[.val 40 Ty.bool], [0, 2, 3, 4, 10, 11]⟩
 (.drw [(10, 17), (11, 17), (10, 18), (11, 18)]
 (op 19 (.mov (tm 11))
 (op 20 (.bin .add (tm 19) (ci 1))
 (op 21 (.mov (tm 2))
 (op 22 (.bin .lss (tm 20) (tm 21))
 (op 23 (.mov (tm 22))
 (.spl 23
 (opg 24 23 true (.mov (tm 4))
 (opg 25 23 true (.mov (tm 0))
 (opg 26 23 true (.mov (tm 3))
 (opg 27 23 true (.mov (tm 11))
 (opg 28 23 true (.bin .add (tm 26) (tm 27))
 (opg 29 23 true (.iaddr 1 (tm 25) (tm 28))
 (opg 30 23 true (.load none (tm 29))
 (opg 31 23 true (.mov (tm 0))
 (opg 32 23 true (.mov (tm 3))
 (opg 33 23 true (.mov (tm 11))
 (opg 34 23 true (.bin .add (tm 32) (tm 33))
 (opg 35 23 true (.bin .add (tm 34) (ci 1))
 (opg 36 23 true (.iaddr 1 (tm 31) (tm 35))
 (opg 37 23 true (.load none (tm 36))
 (opg 38 23 true (.callv (tm 24) [(tm 30), (tm 37)])
 (opg 39 23 true (.bin .lss (tm 38) (ci 0))
 (op 40 (.pick (tm 23) (tm 39) (.cst (.bool false)))
 .nil))))))))))))))))))))))))
 (.cond (tm 40)
 (.reg
 (op 41 (.mov (tm 11))
 (op 42 (.bin .add (tm 41) (ci 1))
 (op 11 (.mov (tm 42))
 .nil))))
 .skip))
 (.seq
 (.seq
 (.drw [(5, 11), (6, 11), (5, 12), (6, 12)]
 (op 43 (.mov (tm 4))
 (op 44 (.mov (tm 0))
 (op 45 (.mov (tm 3))
 (op 46 (.mov (tm 10))
 (op 47 (.bin .add (tm 45) (tm 46))
 (op 48 (.iaddr 1 (tm 44) (tm 47))
 (op 49 (.load none (tm 48))
 (op 50 (.mov (tm 0))
 (op 51 (.mov (tm 3))
 (op 52 (.mov (tm 11))
 (op 53 (.bin .add (tm 51) (tm 52))
 (op 54 (.iaddr 1 (tm 50) (tm 53))
 (op 55 (.load none (tm 54))
 (op 56 (.callv (tm 43) [(tm 49), (tm 55)])
 (op 57 (.bin .lss (tm 56) (ci 0))
 (op 58 (.not (tm 57))
 .nil)))))))))))))))))
 (.cond (tm 58)
 .ret
 .skip))
 (.seq
 (.drw [(12, 18), (13, 18), (12, 19), (13, 19)]
 (op 59 (.mov (tm 0))
 (op 60 (.mov (tm 3))
 (op 61 (.mov (tm 10))
 (op 62 (.bin .add (tm 60) (tm 61))
 (op 63 (.mov (tm 0))
 (op 64 (.mov (tm 3))
 (op 65 (.mov (tm 11))
 (op 66 (.bin .add (tm 64) (tm 65))
 (op 67 (.mov (tm 0))
 (op 68 (.mov (tm 3))
 (op 69 (.mov (tm 11))
 (op 70 (.bin .add (tm 68) (tm 69))
 (op 71 (.iaddr 1 (tm 67) (tm 70))
 (op 72 (.load none (tm 71))
 (op 73 (.mov (tm 0))
 (op 74 (.mov (tm 3))
 (op 75 (.mov (tm 10))
 (op 76 (.bin .add (tm 74) (tm 75))
 (op 77 (.iaddr 1 (tm 73) (tm 76))
 (op 78 (.load none (tm 77))
 (op 79 (.iaddr 1 (tm 59) (tm 62))
 (ops (.store 1 (tm 79) (tm 72))
 (op 80 (.iaddr 1 (tm 63) (tm 66))
 (ops (.store 1 (tm 80) (tm 78))
 .nil)))))))))))))))))))))))))
 (.reg
 (op 81 (.mov (tm 11))
 (op 10 (.mov (tm 81))
 .nil))))))))))))
theorem ok_slices_siftDownCmpFunc_int_c93 : FnOk Tryz.prog 240 82 (SA.erase sa_slices_siftDownCmpFunc_int_c93) [] := ⟨Tryz.f240, [], Tryz.func240, rfl, by kernel_rfl, by kernel_rfl, by kernel_rfl⟩
noncomputable def F_slices_siftDownCmpFunc_int_c93 (s : List Int) (a0 : Int) (a1 : Int) (a2 : Int) : Option ((Unit) × List Int) :=
 loopO (fun (v1 : Int × (List Int) × Unit) =>
 bif (decide (a1 ≤ (addI .i64 (mulI .i64 (2 : Int) v1.1) (1 : Int)))) then
 Option.map Sum.inr (some ((()), v1.2.1))
 else
 letJ (fun (v2 : Int × Unit) =>
 Option.bind (idx v1.2.1 (addI .i64 a2 v1.1)) fun x4 =>
 Option.bind (v1.2.1[(Int.toNat (addI .i64 a2 v1.1))]?) fun x5 =>
 Option.bind (idx v1.2.1 (addI .i64 a2 v2.1)) fun x6 =>
 Option.bind (v1.2.1[(Int.toNat (addI .i64 a2 v2.1))]?) fun x7 =>
 Option.bind (F_cmp_Compare_int x5 x7) fun r8 =>
 bif (!(decide (r8 < (0 : Int)))) then
 Option.map Sum.inr (some ((()), v1.2.1))
 else
 Option.bind (idx v1.2.1 (addI .i64 a2 v2.1)) fun x9 =>
 Option.bind (v1.2.1[(Int.toNat (addI .i64 a2 v2.1))]?) fun x10 =>
 Option.bind (idx v1.2.1 (addI .i64 a2 v1.1)) fun x11 =>
 Option.bind (v1.2.1[(Int.toNat (addI .i64 a2 v1.1))]?) fun x12 =>
 Option.bind (idx v1.2.1 (addI .i64 a2 v1.1)) fun x13 =>
 Option.bind (v1.2.1[(Int.toNat (addI .i64 a2 v1.1))]?) fun x14 =>
 Option.bind (idx (v1.2.1.set (Int.toNat (addI .i64 a2 v1.1)) x10) (addI .i64 a2 v2.1)) fun x15 =>
 Option.bind ((v1.2.1.set (Int.toNat (addI .i64 a2 v1.1)) x10)[(Int.toNat (addI .i64 a2 v2.1))]?) fun x16 =>
 some (Sum.inl (v2.1, ((v1.2.1.set (Int.toNat (addI .i64 a2 v1.1)) x10).set (Int.toNat (addI .i64 a2 v2.1)) x12), ()))) fun j3 =>
 letJ (fun (v17 : Bool × Unit) =>
 bif v17.1 then
 j3 ((addI .i64 (addI .i64 (mulI .i64 (2 : Int) v1.1) (1 : Int)) (1 : Int)), ())
 else
 j3 ((addI .i64 (mulI .i64 (2 : Int) v1.1) (1 : Int)), ())) fun j18 =>
 bif (decide ((addI .i64 (addI .i64 (mulI .i64 (2 : Int) v1.1) (1 : Int)) (1 : Int)) < a1)) then
 Option.bind (idx v1.2.1 (addI .i64 a2 (addI .i64 (mulI .i64 (2 : Int) v1.1) (1 : Int)))) fun x19 =>
 Option.bind (v1.2.1[(Int.toNat (addI .i64 a2 (addI .i64 (mulI .i64 (2 : Int) v1.1) (1 : Int))))]?) fun x20 =>
 Option.bind (idx v1.2.1 (addI .i64 (addI .i64 a2 (addI .i64 (mulI .i64 (2 : Int) v1.1) (1 : Int))) (1 : Int))) fun x21 =>
 Option.bind (v1.2.1[(Int.toNat (addI .i64 (addI .i64 a2 (addI .i64 (mulI .i64 (2 : Int) v1.1) (1 : Int))) (1 : Int)))]?) fun x22 =>
 Option.bind (F_cmp_Compare_int x20 x22) fun r23 =>
 j18 ((decide (r23 < (0 : Int))), ())
 else
 j18 (false, ())) (a0, s, ())
noncomputable def k_slices_siftDownCmpFunc_int_c93 : KFun U := .rw 240 3 1 (Ty.i .i64) [.ty (Ty.i .i64), .ty (Ty.i .i64), .ty (Ty.i .i64), .clo 93 []] (.many []) fun s a => F_slices_siftDownCmpFunc_int_c93 s a.1 a.2.1 a.2.2.1
theorem e_slices_siftDownCmpFunc_int_c93 : rwK K [k_cmp_Compare_int] sa_slices_siftDownCmpFunc_int_c93 [] 3 1 (Ty.i .i64) [.ty (Ty.i .i64), .ty (Ty.i .i64), .ty (Ty.i .i64), .clo 93 []] (.many []) = fun s a => F_slices_siftDownCmpFunc_int_c93 s a.1 a.2.1 a.2.2.1 := by kernel_rfl
theorem s_slices_siftDownCmpFunc_int_c93 : KFun.Sound (U := U) Tryz.prog k_slices_siftDownCmpFunc_int_c93 := rwK_sound (K := K) (Γ := [k_cmp_Compare_int]) ok_slices_siftDownCmpFunc_int_c93 (by kernel_rfl) (by decide) ⟨s_cmp_Compare_int, trivial⟩ (fun s a => congrFun (congrFun e_slices_siftDownCmpFunc_int_c93 s) a)

/-! ### slices.heapSortCmpFunc[int] -/
def sa_slices_heapSortCmpFunc_int_c93 : SA U :=
 (.seq
 (.reg
 (op 13 (.mov (tm 1))
 (op 8 (.mov (tm 13))
 .nil)))
 (.seq
 (.reg
 (op 9 (.mov (ci 0))
 .nil))
 (.seq
 (.reg
 (op 14 (.mov (tm 2))
 (op 15 (.mov (tm 1))
 (op 16 (.bin .sub (tm 14) (tm 15))
 (op 10 (.mov (tm 16))
 .nil)))))
 (.seq
 (.seq
 (.reg
 (op 17 (.mov (tm 10))
 (op 18 (.bin .sub (tm 17) (ci 1))
 (op 19 (.bin .quo (tm 18) (ci 2))
 (op 11 (.mov (tm 19))
 .nil)))))
 (.block 0
 (.loop ⟨[.val 11 (Ty.i .i64), .own 0 0 0 3 1 (Ty.i .i64)], [3, 8, 9, 10]⟩
 (.seq
 (.seq
 (.reg
 (op 20 (.mov (tm 11))
 (op 21 (.bin .geq (tm 20) (ci 0))
 .nil)))
 (.cond (tm 21)
 .skip
 (.exit 0)))
 (.seq
 (.block 1
 (.reg
 (op 24 (.mov (tm 0))
 (op 25 (.mov (tm 11))
 (op 26 (.mov (tm 10))
 (op 27 (.mov (tm 8))
 (op 28 (.mov (tm 3))
 (op 29 (.call 240 [(tm 24), (tm 25), (tm 26), (tm 27), (tm 28)])
 .nil))))))))
 (.reg
 (op 22 (.mov (tm 11))
 (op 23 (.bin .sub (tm 22) (ci 1))
 (op 11 (.mov (tm 23))
 .nil)))))))))
 (.seq
 (.reg
 (op 30 (.mov (tm 10))
 (op 31 (.bin .sub (tm 30) (ci 1))
 (op 12 (.mov (tm 31))
 .nil))))
 (.block 2
 (.loop ⟨[.val 12 (Ty.i .i64), .own 0 0 0 3 1 (Ty.i .i64)], [3, 8, 9]⟩
 (.seq
 (.seq
 (.reg
 (op 32 (.mov (tm 12))
 (op 33 (.bin .geq (tm 32) (ci 0))
 .nil)))
 (.cond (tm 33)
 .skip
 (.exit 2)))
 (.seq
 (.block 3
 (.seq
 (.drw [(10, 14), (11, 14), (10, 15), (11, 15)]
 (op 36 (.mov (tm 0))
 (op 37 (.mov (tm 8))
 (op 38 (.mov (tm 0))
 (op 39 (.mov (tm 8))
 (op 40 (.mov (tm 12))
 (op 41 (.bin .add (tm 39) (tm 40))
 (op 42 (.mov (tm 0))
 (op 43 (.mov (tm 8))
 (op 44 (.mov (tm 12))
 (op 45 (.bin .add (tm 43) (tm 44))
 (op 46 (.iaddr 1 (tm 42) (tm 45))
 (op 47 (.load none (tm 46))
 (op 48 (.mov (tm 0))
 (op 49 (.mov (tm 8))
 (op 50 (.iaddr 1 (tm 48) (tm 49))
 (op 51 (.load none (tm 50))
 (op 52 (.iaddr 1 (tm 36) (tm 37))
 (ops (.store 1 (tm 52) (tm 47))
 (op 53 (.iaddr 1 (tm 38) (tm 41))
 (ops (.store 1 (tm 53) (tm 51))
 .nil)))))))))))))))))))))
 (.reg
 (op 54 (.mov (tm 0))
 (op 55 (.mov (tm 9))
 (op 56 (.mov (tm 12))
 (op 57 (.mov (tm 8))
 (op 58 (.mov (tm 3))
 (op 59 (.call 240 [(tm 54), (tm 55), (tm 56), (tm 57), (tm 58)])
 .nil)))))))))
 (.reg
 (op 34 (.mov (tm 12))
 (op 35 (.bin .sub (tm 34) (ci 1))
 (op 12 (.mov (tm 35))
 .nil)))))))))))))
theorem ok_slices_heapSortCmpFunc_int_c93 : FnOk Tryz.prog 219 60 (SA.erase sa_slices_heapSortCmpFunc_int_c93) [] := ⟨Tryz.f219, [], Tryz.func219, rfl, by kernel_rfl, by kernel_rfl, by kernel_rfl⟩
noncomputable def F_slices_heapSortCmpFunc_int_c93 (s : List Int) (a0 : Int) (a1 : Int) : Option ((Unit) × List Int) :=
 loopO (fun (v1 : Int × (List Int) × Unit) =>
 bif (decide ((0 : Int) ≤ v1.1)) then
 Option.bind (F_slices_siftDownCmpFunc_int_c93 v1.2.1 v1.1 (subI .i64 a1 a0) a0) fun p2 =>
 some (Sum.inl ((subI .i64 v1.1 (1 : Int)), p2.2, ()))
 else
 Option.map Sum.inr (loopO (fun (v3 : Int × (List Int) × Unit) =>
 bif (decide ((0 : Int) ≤ v3.1)) then
 Option.bind (idx v3.2.1 (addI .i64 a0 v3.1)) fun x4 =>
 Option.bind (v3.2.1[(Int.toNat (addI .i64 a0 v3.1))]?) fun x5 =>
 Option.bind (idx v3.2.1 a0) fun x6 =>
 Option.bind (v3.2.1[(Int.toNat a0)]?) fun x7 =>
 Option.bind (idx v3.2.1 a0) fun x8 =>
 Option.bind (v3.2.1[(Int.toNat a0)]?) fun x9 =>
 Option.bind (idx (v3.2.1.set (Int.toNat a0) x5) (addI .i64 a0 v3.1)) fun x10 =>
 Option.bind ((v3.2.1.set (Int.toNat a0) x5)[(Int.toNat (addI .i64 a0 v3.1))]?) fun x11 =>
 Option.bind (F_slices_siftDownCmpFunc_int_c93 ((v3.2.1.set (Int.toNat a0) x5).set (Int.toNat (addI .i64 a0 v3.1)) x7) (0 : Int) v3.1 a0) fun p12 =>
 some (Sum.inl ((subI .i64 v3.1 (1 : Int)), p12.2, ()))
 else
 Option.map Sum.inr (some ((()), v3.2.1))) ((subI .i64 (subI .i64 a1 a0) (1 : Int)), v1.2.1, ()))) ((quoI .i64 (subI .i64 (subI .i64 a1 a0) (1 : Int)) (2 : Int)), s, ())
noncomputable def k_slices_heapSortCmpFunc_int_c93 : KFun U := .rw 219 3 1 (Ty.i .i64) [.ty (Ty.i .i64), .ty (Ty.i .i64), .clo 93 []] (.many []) fun s a => F_slices_heapSortCmpFunc_int_c93 s a.1 a.2.1
theorem e_slices_heapSortCmpFunc_int_c93 : rwK K [k_slices_siftDownCmpFunc_int_c93] sa_slices_heapSortCmpFunc_int_c93 [] 3 1 (Ty.i .i64) [.ty (Ty.i .i64), .ty (Ty.i .i64), .clo 93 []] (.many []) = fun s a => F_slices_heapSortCmpFunc_int_c93 s a.1 a.2.1 := by kernel_rfl
theorem s_slices_heapSortCmpFunc_int_c93 : KFun.Sound (U := U) Tryz.prog k_slices_heapSortCmpFunc_int_c93 := rwK_sound (K := K) (Γ := [k_slices_siftDownCmpFunc_int_c93]) ok_slices_heapSortCmpFunc_int_c93 (by kernel_rfl) (by decide) ⟨s_slices_siftDownCmpFunc_int_c93, trivial⟩ (fun s a => congrFun (congrFun e_slices_heapSortCmpFunc_int_c93 s) a)

/-! ### slices.breakPatternsCmpFunc[int] -/
def sa_slices_breakPatternsCmpFunc_int_c93 : SA U :=
 (.seq
 (.reg
 (op 13 (.mov (tm 2))
 (op 14 (.mov (tm 1))
 (op 15 (.bin .sub (tm 13) (tm 14))
 (op 8 (.mov (tm 15))
 .nil)))))
 (.seq
 (.reg
 (op 16 (.mov (tm 8))
 (op 17 (.bin .geq (tm 16) (ci 8))
 .nil)))
 (.cond (tm 17)
 (.seq
 (.reg
 (op 18 (.mov (tm 8))
 (op 19 (.conv .u64 (tm 18))
 (op 9 (.alloc [.int .u64 0])
 (ops (.store 1 (tm 9) (tm 19))
 .nil)))))
 (.seq
 (.reg
 (op 20 (.mov (tm 8))
 (op 21 (.call 233 [(tm 20)])
 (op 10 (.mov (tm 21))
 .nil))))
 (.seq
 (.reg
 (op 22 (.mov (tm 1))
 (op 23 (.mov (tm 8))
 (op 24 (.bin .quo (tm 23) (ci 4))
 (op 25 (.bin .mul (tm 24) (ci 2))
 (op 26 (.bin .add (tm 22) (tm 25))
 (op 27 (.bin .sub (tm 26) (ci 1))
 (op 11 (.mov (tm 27))
 .nil))))))))
 (.block 0
 (.loop ⟨[.val 11 (Ty.i .i64), .own 0 0 0 3 1 (Ty.i .i64), .box 9 1 (Ty.i .u64) []], [1, 8, 9, 10]⟩
 (.seq
 (.seq
 (.reg
 (op 28 (.mov (tm 11))
 (op 29 (.mov (tm 1))
 (op 30 (.mov (tm 8))
 (op 31 (.bin .quo (tm 30) (ci 4))
 (op 32 (.bin .mul (tm 31) (ci 2))
 (op 33 (.bin .add (tm 29) (tm 32))
 (op 34 (.bin .add (tm 33) (ci 1))
 (op 35 (.bin .leq (tm 28) (tm 34))
 .nil)))))))))
 (.cond (tm 35)
 .skip
 (.exit 0)))
 (.seq
 (.block 1
 (.seq
 (.reg
 (op 38 (.call 234 [(tm 9)])
 (op 39 (.mov (tm 10))
 (op 40 (.bin .sub (tm 39) (.cst (.int .u64 1)))
 (op 41 (.bin .and (tm 38) (tm 40))
 (op 42 (.conv .i64 (tm 41))
 (op 12 (.mov (tm 42))
 .nil)))))))
 (.join ⟨[.val 12 (Ty.i .i64)], [0, 1, 8, 9, 10, 11]⟩
 (.seq
 (.reg
 (op 43 (.mov (tm 12))
 (op 44 (.mov (tm 8))
 (op 45 (.bin .geq (tm 43) (tm 44))
 .nil))))
 (.cond (tm 45)
 (.reg
 (op 46 (.mov (tm 12))
 (op 47 (.mov (tm 8))
 (op 48 (.bin .sub (tm 46) (tm 47))
 (op 12 (.mov (tm 48))
 .nil)))))
 .skip))
 (.drw [(10, 14), (11, 14), (10, 15), (11, 15)]
 (op 49 (.mov (tm 0))
 (op 50 (.mov (tm 11))
 (op 51 (.mov (tm 0))
 (op 52 (.mov (tm 1))
 (op 53 (.mov (tm 12))
 (op 54 (.bin .add (tm 52) (tm 53))
 (op 55 (.mov (tm 0))
 (op 56 (.mov (tm 1))
 (op 57 (.mov (tm 12))
 (op 58 (.bin .add (tm 56) (tm 57))
 (op 59 (.iaddr 1 (tm 55) (tm 58))
 (op 60 (.load none (tm 59))
 (op 61 (.mov (tm 0))
 (op 62 (.mov (tm 11))
 (op 63 (.iaddr 1 (tm 61) (tm 62))
 (op 64 (.load none (tm 63))
 (op 65 (.iaddr 1 (tm 49) (tm 50))
 (ops (.store 1 (tm 65) (tm 60))
 (op 66 (.iaddr 1 (tm 51) (tm 54))
 (ops (.store 1 (tm 66) (tm 64))
 .nil))))))))))))))))))))))))
 (.reg
 (op 36 (.mov (tm 11))
 (op 37 (.bin .add (tm 36) (ci 1))
 (op 11 (.mov (tm 37))
 .nil)))))))))))
 .skip)))
theorem ok_slices_breakPatternsCmpFunc_int_c93 : FnOk Tryz.prog 220 67 (SA.erase sa_slices_breakPatternsCmpFunc_int_c93) [] := ⟨Tryz.f220, [], Tryz.func220, rfl, by kernel_rfl, by kernel_rfl, by kernel_rfl⟩
noncomputable def F_slices_breakPatternsCmpFunc_int_c93 (s : List Int) (a0 : Int) (a1 : Int) : Option ((Unit) × List Int) :=
 bif (decide ((8 : Int) ≤ (subI .i64 a1 a0))) then
 Option.bind (F_slices_nextPowerOfTwo (subI .i64 a1 a0)) fun r1 =>
 loopO (fun (v2 : Int × (List Int) × Int × Unit) =>
 bif (decide (v2.1 ≤ (addI .i64 (addI .i64 a0 (mulI .i64 (quoI .i64 (subI .i64 a1 a0) (4 : Int)) (2 : Int))) (1 : Int)))) then
 Option.bind (F_slices_xorshift_Next v2.2.2.1) fun p3 =>
 letJ (fun (v4 : Int × Unit) =>
 Option.bind (idx v2.2.1 (addI .i64 a0 v4.1)) fun x6 =>
 Option.bind (v2.2.1[(Int.toNat (addI .i64 a0 v4.1))]?) fun x7 =>
 Option.bind (idx v2.2.1 v2.1) fun x8 =>
 Option.bind (v2.2.1[(Int.toNat v2.1)]?) fun x9 =>
 Option.bind (idx v2.2.1 v2.1) fun x10 =>
 Option.bind (v2.2.1[(Int.toNat v2.1)]?) fun x11 =>
 Option.bind (idx (v2.2.1.set (Int.toNat v2.1) x7) (addI .i64 a0 v4.1)) fun x12 =>
 Option.bind ((v2.2.1.set (Int.toNat v2.1) x7)[(Int.toNat (addI .i64 a0 v4.1))]?) fun x13 =>
 some (Sum.inl ((addI .i64 v2.1 (1 : Int)), ((v2.2.1.set (Int.toNat v2.1) x7).set (Int.toNat (addI .i64 a0 v4.1)) x9), p3.2, ()))) fun j5 =>
 bif (decide ((subI .i64 a1 a0) ≤ (convI .i64 (andI .u64 p3.1 (subI .u64 r1 (1 : Int)))))) then
 j5 ((subI .i64 (convI .i64 (andI .u64 p3.1 (subI .u64 r1 (1 : Int)))) (subI .i64 a1 a0)), ())
 else
 j5 ((convI .i64 (andI .u64 p3.1 (subI .u64 r1 (1 : Int)))), ())
 else
 Option.map Sum.inr (some ((()), v2.2.1))) ((subI .i64 (addI .i64 a0 (mulI .i64 (quoI .i64 (subI .i64 a1 a0) (4 : Int)) (2 : Int))) (1 : Int)), s, (convI .u64 (subI .i64 a1 a0)), ())
 else
 some ((()), s)
noncomputable def k_slices_breakPatternsCmpFunc_int_c93 : KFun U := .rw 220 3 1 (Ty.i .i64) [.ty (Ty.i .i64), .ty (Ty.i .i64), .clo 93 []] (.many []) fun s a => F_slices_breakPatternsCmpFunc_int_c93 s a.1 a.2.1
theorem e_slices_breakPatternsCmpFunc_int_c93 : rwK K [k_slices_nextPowerOfTwo, k_slices_xorshift_Next] sa_slices_breakPatternsCmpFunc_int_c93 [] 3 1 (Ty.i .i64) [.ty (Ty.i .i64), .ty (Ty.i .i64), .clo 93 []] (.many []) = fun s a => F_slices_breakPatternsCmpFunc_int_c93 s a.1 a.2.1 := by kernel_rfl
theorem s_slices_breakPatternsCmpFunc_int_c93 : KFun.Sound (U := U) Tryz.prog k_slices_breakPatternsCmpFunc_int_c93 := rwK_sound (K := K) (Γ := [k_slices_nextPowerOfTwo, k_slices_xorshift_Next]) ok_slices_breakPatternsCmpFunc_int_c93 (by kernel_rfl) (by decide) ⟨s_slices_nextPowerOfTwo, s_slices_xorshift_Next, trivial⟩ (fun s a => congrFun (congrFun e_slices_breakPatternsCmpFunc_int_c93 s) a)

/-! ### slices.order2CmpFunc[int] -/
def sa_slices_order2CmpFunc_int_c93 : SA U :=
 (.seq
 (.reg
 (op 10 (.mov (ci 0))
 (op 11 (.mov (ci 0))
 .nil)))
 (.seq
 (.seq
 (.drw [(3, 7), (4, 7), (3, 8), (4, 8)]
 (op 12 (.mov (tm 4))
 (op 13 (.mov (tm 0))
 (op 14 (.mov (tm 2))
 (op 15 (.iaddr 1 (tm 13) (tm 14))
 (op 16 (.load none (tm 15))
 (op 17 (.mov (tm 0))
 (op 18 (.mov (tm 1))
 (op 19 (.iaddr 1 (tm 17) (tm 18))
 (op 20 (.load none (tm 19))
 (op 21 (.callv (tm 12) [(tm 16), (tm 20)])
 (op 22 (.bin .lss (tm 21) (ci 0))
 .nil))))))))))))
 (.cond (tm 22)
 (.seq
 (.reg
 (op 23 (.mov (tm 3))
 (op 24 (.nilck (tm 23))
 (op 25 (.load none (tm 24))
 (op 26 (.bin .add (tm 25) (ci 1))
 (op 27 (.nilck (tm 23))
 (ops (.store 1 (tm 27) (tm 26))
 .nil)))))))
 (.seq
 (.reg
 (op 28 (.mov (tm 2))
 (op 29 (.mov (tm 1))
 (op 10 (.mov (tm 28))
 (op 11 (.mov (tm 29))
 .nil)))))
 .ret))
 .skip))
 (.seq
 (.reg
 (op 30 (.mov (tm 1))
 (op 31 (.mov (tm 2))
 (op 10 (.mov (tm 30))
 (op 11 (.mov (tm 31))
 .nil)))))
 .ret)))
theorem ok_slices_order2CmpFunc_int_c93 : FnOk Tryz.prog 249 32 (SA.erase sa_slices_order2CmpFunc_int_c93) [.tmp 10, .tmp 11] := ⟨Tryz.f249, [], Tryz.func249, rfl, by kernel_rfl, by kernel_rfl, by kernel_rfl⟩
noncomputable def F_slices_order2CmpFunc_int_c93 (s : Int) (a0 : (List Int)) (a1 : Int) (a2 : Int) : Option ((Int × Int × Unit) × Int) :=
 Option.bind (idx a0 a2) fun x1 =>
 Option.bind (idx a0 a1) fun x2 =>
 Option.bind (F_cmp_Compare_int x1 x2) fun r3 =>
 bif (decide (r3 < (0 : Int))) then
 some ((a2, a1, ()), (addI .i64 s (1 : Int)))
 else
 some ((a1, a2, ()), s)
noncomputable def k_slices_order2CmpFunc_int_c93 : KFun U := .rc 249 3 (Ty.i .i64) [.ty (Ty.sl (Ty.i .i64)), .ty (Ty.i .i64), .ty (Ty.i .i64), .clo 93 []] (.many [(Ty.i .i64), (Ty.i .i64)]) fun s a => F_slices_order2CmpFunc_int_c93 s a.1 a.2.1 a.2.2.1
theorem e_slices_order2CmpFunc_int_c93 : rcK K [k_cmp_Compare_int] sa_slices_order2CmpFunc_int_c93 [.tmp 10, .tmp 11] 3 (Ty.i .i64) [.ty (Ty.sl (Ty.i .i64)), .ty (Ty.i .i64), .ty (Ty.i .i64), .clo 93 []] (.many [(Ty.i .i64), (Ty.i .i64)]) = fun s a => F_slices_order2CmpFunc_int_c93 s a.1 a.2.1 a.2.2.1 := by kernel_rfl
theorem s_slices_order2CmpFunc_int_c93 : KFun.Sound (U := U) Tryz.prog k_slices_order2CmpFunc_int_c93 := rcK_sound (K := K) (Γ := [k_cmp_Compare_int]) ok_slices_order2CmpFunc_int_c93 (by kernel_rfl) (by decide) ⟨s_cmp_Compare_int, trivial⟩ (fun s a => congrFun (congrFun e_slices_order2CmpFunc_int_c93 s) a)

/-! ### slices.medianCmpFunc[int] -/
def sa_slices_medianCmpFunc_int_c93 : SA U :=
 (.seq
 (.reg
 (op 12 (.mov (ci 0))
 .nil))
 (.seq
 (.reg
 (op 14 (.mov (tm 0))
 (op 15 (.mov (tm 1))
 (op 16 (.mov (tm 2))
 (op 17 (.mov (tm 4))
 (op 18 (.mov (tm 5))
 (op 19 (.call 249 [(tm 14), (tm 15), (tm 16), (tm 17), (tm 18)])
 (op 13 (.mov (tm 19))
 (op 20 (.extr 0 (tm 13))
 (op 21 (.extr 1 (tm 13))
 (op 1 (.mov (tm 20))
 (op 2 (.mov (tm 21))
 .nil))))))))))))
 (.seq
 (.reg
 (op 23 (.mov (tm 0))
 (op 24 (.mov (tm 2))
 (op 25 (.mov (tm 3))
 (op 26 (.mov (tm 4))
 (op 27 (.mov (tm 5))
 (op 28 (.call 249 [(tm 23), (tm 24), (tm 25), (tm 26), (tm 27)])
 (op 22 (.mov (tm 28))
 (op 29 (.extr 0 (tm 22))
 (op 30 (.extr 1 (tm 22))
 (op 2 (.mov (tm 29))
 (op 3 (.mov (tm 30))
 .nil))))))))))))
 (.seq
 (.reg
 (op 32 (.mov (tm 0))
 (op 33 (.mov (tm 1))
 (op 34 (.mov (tm 2))
 (op 35 (.mov (tm 4))
 (op 36 (.mov (tm 5))
 (op 37 (.call 249 [(tm 32), (tm 33), (tm 34), (tm 35), (tm 36)])
 (op 31 (.mov (tm 37))
 (op 38 (.extr 0 (tm 31))
 (op 39 (.extr 1 (tm 31))
 (op 1 (.mov (tm 38))
 (op 2 (.mov (tm 39))
 .nil))))))))))))
 (.seq
 (.reg
 (op 40 (.mov (tm 2))
 (op 12 (.mov (tm 40))
 .nil)))
 .ret)))))
theorem ok_slices_medianCmpFunc_int_c93 : FnOk Tryz.prog 242 41 (SA.erase sa_slices_medianCmpFunc_int_c93) [.tmp 12] := ⟨Tryz.f242, [], Tryz.func242, rfl, by kernel_rfl, by kernel_rfl, by kernel_rfl⟩
noncomputable def F_slices_medianCmpFunc_int_c93 (s : Int) (a0 : (List Int)) (a1 : Int) (a2 : Int) (a3 : Int) : Option (Int × Int) :=
 Option.bind (F_slices_order2CmpFunc_int_c93 s a0 a1 a2) fun p1 =>
 Option.bind (F_slices_order2CmpFunc_int_c93 p1.2 a0 p1.1.2.1 a3) fun p2 =>
 Option.bind (F_slices_order2CmpFunc_int_c93 p2.2 a0 p1.1.1 p2.1.1) fun p3 =>
 some (p3.1.2.1, p3.2)
noncomputable def k_slices_medianCmpFunc_int_c93 : KFun U := .rc 242 4 (Ty.i .i64) [.ty (Ty.sl (Ty.i .i64)), .ty (Ty.i .i64), .ty (Ty.i .i64), .ty (Ty.i .i64), .clo 93 []] (.one (Ty.i .i64)) fun s a => F_slices_medianCmpFunc_int_c93 s a.1 a.2.1 a.2.2.1 a.2.2.2.1
theorem e_slices_medianCmpFunc_int_c93 : rcK K [k_slices_order2CmpFunc_int_c93] sa_slices_medianCmpFunc_int_c93 [.tmp 12] 4 (Ty.i .i64) [.ty (Ty.sl (Ty.i .i64)), .ty (Ty.i .i64), .ty (Ty.i .i64), .ty (Ty.i .i64), .clo 93 []] (.one (Ty.i .i64)) = fun s a => F_slices_medianCmpFunc_int_c93 s a.1 a.2.1 a.2.2.1 a.2.2.2.1 := by kernel_rfl
theorem s_slices_medianCmpFunc_int_c93 : KFun.Sound (U := U) Tryz.prog k_slices_medianCmpFunc_int_c93 := rcK_sound (K := K) (Γ := [k_slices_order2CmpFunc_int_c93]) ok_slices_medianCmpFunc_int_c93 (by kernel_rfl) (by decide) ⟨s_slices_order2CmpFunc_int_c93, trivial⟩ (fun s a => congrFun (congrFun e_slices_medianCmpFunc_int_c93 s) a)

/-! ### slices.medianAdjacentCmpFunc[int] -/
def sa_slices_medianAdjacentCmpFunc_int_c93 : SA U :=
 (.seq
 (.reg
 (op 8 (.mov (ci 0))
 .nil))
 (.seq
 (.reg
 (op 9 (.mov (tm 0))
 (op 10 (.mov (tm 1))
 (op 11 (.bin .sub (tm 10) (ci 1))
 (op 12 (.mov (tm 1))
 (op 13 (.mov (tm 1))
 (op 14 (.bin .add (tm 13) (ci 1))
 (op 15 (.mov (tm 2))
 (op 16 (.mov (tm 3))
 (op 17 (.call 242 [(tm 9), (tm 11), (tm 12), (tm 14), (tm 15), (tm 16)])
 (op 8 (.mov (tm 17))
 .nil)))))))))))
 .ret))
theorem ok_slices_medianAdjacentCmpFunc_int_c93 : FnOk Tryz.prog 241 18 (SA.erase sa_slices_medianAdjacentCmpFunc_int_c93) [.tmp 8] := ⟨Tryz.f241, [], Tryz.func241, rfl, by kernel_rfl, by kernel_rfl, by kernel_rfl⟩
noncomputable def F_slices_medianAdjacentCmpFunc_int_c93 (s : Int) (a0 : (List Int)) (a1 : Int) : Option (Int × Int) :=
 Option.bind (F_slices_medianCmpFunc_int_c93 s a0 (subI .i64 a1 (1 : Int)) a1 (addI .i64 a1 (1 : Int))) fun p1 =>
 some (p1.1, p1.2)
noncomputable def k_slices_medianAdjacentCmpFunc_int_c93 : KFun U := .rc 241 2 (Ty.i .i64) [.ty (Ty.sl (Ty.i .i64)), .ty (Ty.i .i64), .clo 93 []] (.one (Ty.i .i64)) fun s a => F_slices_medianAdjacentCmpFunc_int_c93 s a.1 a.2.1
theorem e_slices_medianAdjacentCmpFunc_int_c93 : rcK K [k_slices_medianCmpFunc_int_c93] sa_slices_medianAdjacentCmpFunc_int_c93 [.tmp 8] 2 (Ty.i .i64) [.ty (Ty.sl (Ty.i .i64)), .ty (Ty.i .i64), .clo 93 []] (.one (Ty.i .i64)) = fun s a => F_slices_medianAdjacentCmpFunc_int_c93 s a.1 a.2.1 := by kernel_rfl
theorem s_slices_medianAdjacentCmpFunc_int_c93 : KFun.Sound (U := U) Tryz.prog k_slices_medianAdjacentCmpFunc_int_c93 := rcK_sound (K := K) (Γ := [k_slices_medianCmpFunc_int_c93]) ok_slices_medianAdjacentCmpFunc_int_c93 (by kernel_rfl) (by decide) ⟨s_slices_medianCmpFunc_int_c93, trivial⟩ (fun s a => congrFun (congrFun e_slices_medianAdjacentCmpFunc_int_c93 s) a)

/-! ### slices.choosePivotCmpFunc[int] -/
def sa_slices_choosePivotCmpFunc_int_c93 : SA U :=
 (.seq
 (.reg
 (op 8 (.mov (ci 0))
 (op 9 (.mov (ci 0))
 .nil)))
 (.seq
 (.reg
 (op 15 (.mov (tm 2))
 (op 16 (.mov (tm 1))
 (op 17 (.bin .sub (tm 15) (tm 16))
 (op 10 (.mov (tm 17))
 .nil)))))
 (.seq
 (.reg
 (op 11 (.alloc [.int .i64 0])
 .nil))
 (.seq
 (.reg
 (op 18 (.mov (tm 1))
 (op 19 (.mov (tm 10))
 (op 20 (.bin .quo (tm 19) (ci 4))
 (op 21 (.bin .mul (tm 20) (ci 1))
 (op 22 (.bin .add (tm 18) (tm 21))
 (op 12 (.mov (tm 22))
 .nil)))))))
 (.seq
 (.reg
 (op 23 (.mov (tm 1))
 (op 24 (.mov (tm 10))
 (op 25 (.bin .quo (tm 24) (ci 4))
 (op 26 (.bin .mul (tm 25) (ci 2))
 (op 27 (.bin .add (tm 23) (tm 26))
 (op 13 (.mov (tm 27))
 .nil)))))))
 (.seq
 (.reg
 (op 28 (.mov (tm 1))
 (op 29 (.mov (tm 10))
 (op 30 (.bin .quo (tm 29) (ci 4))
 (op 31 (.bin .mul (tm 30) (ci 3))
 (op 32 (.bin .add (tm 28) (tm 31))
 (op 14 (.mov (tm 32))
 .nil)))))))
 (.join ⟨[.val 13 (Ty.i .i64), .box 6 1 (Ty.i .i64) []], [11]⟩
 (.seq
 (.reg
 (op 33 (.mov (tm 10))
 (op 34 (.bin .geq (tm 33) (ci 8))
 .nil)))
 (.cond (tm 34)
 (.join ⟨[.val 12 (Ty.i .i64), .val 13 (Ty.i .i64), .val 14 (Ty.i .i64), .box 6 1 (Ty.i .i64) []], [0, 3, 11]⟩
 (.seq
 (.reg
 (op 35 (.mov (tm 10))
 (op 36 (.bin .geq (tm 35) (ci 50))
 .nil)))
 (.cond (tm 36)
 (.seq
 (.reg
 (op 37 (.mov (tm 0))
 (op 38 (.mov (tm 12))
 (op 39 (.mov (tm 3))
 (op 40 (.call 241 [(tm 37), (tm 38), (tm 11), (tm 39)])
 (op 12 (.mov (tm 40))
 .nil))))))
 (.seq
 (.reg
 (op 41 (.mov (tm 0))
 (op 42 (.mov (tm 13))
 (op 43 (.mov (tm 3))
 (op 44 (.call 241 [(tm 41), (tm 42), (tm 11), (tm 43)])
 (op 13 (.mov (tm 44))
 .nil))))))
 (.reg
 (op 45 (.mov (tm 0))
 (op 46 (.mov (tm 14))
 (op 47 (.mov (tm 3))
 (op 48 (.call 241 [(tm 45), (tm 46), (tm 11), (tm 47)])
 (op 14 (.mov (tm 48))
 .nil))))))))
 .skip))
 (.reg
 (op 49 (.mov (tm 0))
 (op 50 (.mov (tm 12))
 (op 51 (.mov (tm 13))
 (op 52 (.mov (tm 14))
 (op 53 (.mov (tm 3))
 (op 54 (.call 242 [(tm 49), (tm 50), (tm 51), (tm 52), (tm 11), (tm 53)])
 (op 13 (.mov (tm 54))
 .nil)))))))))
 .skip))
 (.seq
 (.reg
 (op 55 (.load none (tm 11))
 .nil))
 (.block 0
 (.seq
 (.reg
 (op 58 (.bin .eql (tm 55) (ci 0))
 (op 57 (.mov (tm 58))
 .nil)))
 (.cond (tm 57)
 (.seq
 (.reg
 (op 59 (.mov (tm 13))
 (op 8 (.mov (tm 59))
 (op 9 (.mov (ci 1))
 .nil))))
 .ret)
 (.seq
 (.reg
 (op 61 (.bin .eql (tm 55) (ci 12))
 (op 60 (.mov (tm 61))
 .nil)))
 (.cond (tm 60)
 (.seq
 (.reg
 (op 62 (.mov (tm 13))
 (op 8 (.mov (tm 62))
 (op 9 (.mov (ci 2))
 .nil))))
 .ret)
 (.seq
 (.reg
 (op 56 (.mov (tm 13))
 (op 8 (.mov (tm 56))
 (op 9 (.mov (ci 0))
 .nil))))
 .ret))))))))))))))
theorem ok_slices_choosePivotCmpFunc_int_c93 : FnOk Tryz.prog 221 63 (SA.erase sa_slices_choosePivotCmpFunc_int_c93) [.tmp 8, .tmp 9] := ⟨Tryz.f221, [], Tryz.func221, rfl, by kernel_rfl, by kernel_rfl, by kernel_rfl⟩
noncomputable def F_slices_choosePivotCmpFunc_int_c93 (a0 : (List Int)) (a1 : Int) (a2 : Int) : Option (Int × Int × Unit) :=
 letJ (fun (v1 : Int × Int × Unit) =>
 bif (decide (v1.2.1 = (0 : Int))) then
 some (v1.1, (1 : Int), ())
 else
 bif (decide (v1.2.1 = (12 : Int))) then
 some (v1.1, (2 : Int), ())
 else
 some (v1.1, (0 : Int), ())) fun j2 =>
 bif (decide ((8 : Int) ≤ (subI .i64 a2 a1))) then
 letJ (fun (v3 : Int × Int × Int × Int × Unit) =>
 Option.bind (F_slices_medianCmpFunc_int_c93 v3.2.2.2.1 a0 v3.1 v3.2.1 v3.2.2.1) fun p5 =>
 j2 (p5.1, p5.2, ())) fun j4 =>
 bif (decide ((50 : Int) ≤ (subI .i64 a2 a1))) then
 Option.bind (F_slices_medianAdjacentCmpFunc_int_c93 (0 : Int) a0 (addI .i64 a1 (mulI .i64 (quoI .i64 (subI .i64 a2 a1) (4 : Int)) (1 : Int)))) fun p6 =>
 Option.bind (F_slices_medianAdjacentCmpFunc_int_c93 p6.2 a0 (addI .i64 a1 (mulI .i64 (quoI .i64 (subI .i64 a2 a1) (4 : Int)) (2 : Int)))) fun p7 =>
 Option.bind (F_slices_medianAdjacentCmpFunc_int_c93 p7.2 a0 (addI .i64 a1 (mulI .i64 (quoI .i64 (subI .i64 a2 a1) (4 : Int)) (3 : Int)))) fun p8 =>
 j4 (p6.1, p7.1, p8.1, p8.2, ())
 else
 j4 ((addI .i64 a1 (mulI .i64 (quoI .i64 (subI .i64 a2 a1) (4 : Int)) (1 : Int))), (addI .i64 a1 (mulI .i64 (quoI .i64 (subI .i64 a2 a1) (4 : Int)) (2 : Int))), (addI .i64 a1 (mulI .i64 (quoI .i64 (subI .i64 a2 a1) (4 : Int)) (3 : Int))), (0 : Int), ())
 else
 j2 ((addI .i64 a1 (mulI .i64 (quoI .i64 (subI .i64 a2 a1) (4 : Int)) (2 : Int))), (0 : Int), ())
noncomputable def k_slices_choosePivotCmpFunc_int_c93 : KFun U := .fn 221 [.ty (Ty.sl (Ty.i .i64)), .ty (Ty.i .i64), .ty (Ty.i .i64), .clo 93 []] (.many [(Ty.i .i64), (Ty.i .i64)]) fun a => F_slices_choosePivotCmpFunc_int_c93 a.1 a.2.1 a.2.2.1
theorem e_slices_choosePivotCmpFunc_int_c93 : fnK K [k_slices_medianAdjacentCmpFunc_int_c93, k_slices_medianCmpFunc_int_c93] sa_slices_choosePivotCmpFunc_int_c93 [.tmp 8, .tmp 9] [.ty (Ty.sl (Ty.i .i64)), .ty (Ty.i .i64), .ty (Ty.i .i64), .clo 93 []] (.many [(Ty.i .i64), (Ty.i .i64)]) = fun a => F_slices_choosePivotCmpFunc_int_c93 a.1 a.2.1 a.2.2.1 := by kernel_rfl
theorem s_slices_choosePivotCmpFunc_int_c93 : KFun.Sound (U := U) Tryz.prog k_slices_choosePivotCmpFunc_int_c93 := fnK_sound (K := K) (Γ := [k_slices_medianAdjacentCmpFunc_int_c93, k_slices_medianCmpFunc_int_c93]) ok_slices_choosePivotCmpFunc_int_c93 (by kernel_rfl) (by decide) ⟨s_slices_medianAdjacentCmpFunc_int_c93, s_slices_medianCmpFunc_int_c93, trivial⟩ (fun a => congrFun e_slices_choosePivotCmpFunc_int_c93 a)

/-! ### slices.reverseRangeCmpFunc[int] -/
def sa_slices_reverseRangeCmpFunc_int_c93 : SA U :=
 (.seq
 (.reg
 (op 10 (.mov (tm 1))
 (op 8 (.mov (tm 10))
 .nil)))
 (.seq
 (.reg
 (op 11 (.mov (tm 2))
 (op 12 (.bin .sub (tm 11) (ci 1))
 (op 9 (.mov (tm 12))
 .nil))))
 (.block 0
 (.loop ⟨[.val 8 (Ty.i .i64), .val 9 (Ty.i .i64), .own 0 0 0 3 1 (Ty.i .i64)], []⟩
 (.seq
 (.seq
 (.reg
 (op 13 (.mov (tm 8))
 (op 14 (.mov (tm 9))
 (op 15 (.bin .lss (tm 13) (tm 14))
 .nil))))
 (.cond (tm 15)
 .skip
 (.exit 0)))
 (.block 1
 (.seq
 (.drw [(6, 10), (7, 10), (6, 11), (7, 11)]
 (op 16 (.mov (tm 0))
 (op 17 (.mov (tm 8))
 (op 18 (.mov (tm 0))
 (op 19 (.mov (tm 9))
 (op 20 (.mov (tm 0))
 (op 21 (.mov (tm 9))
 (op 22 (.iaddr 1 (tm 20) (tm 21))
 (op 23 (.load none (tm 22))
 (op 24 (.mov (tm 0))
 (op 25 (.mov (tm 8))
 (op 26 (.iaddr 1 (tm 24) (tm 25))
 (op 27 (.load none (tm 26))
 (op 28 (.iaddr 1 (tm 16) (tm 17))
 (ops (.store 1 (tm 28) (tm 23))
 (op 29 (.iaddr 1 (tm 18) (tm 19))
 (ops (.store 1 (tm 29) (tm 27))
 .nil)))))))))))))))))
 (.seq
 (.reg
 (op 30 (.mov (tm 8))
 (op 31 (.bin .add (tm 30) (ci 1))
 (op 8 (.mov (tm 31))
 .nil))))
 (.reg
 (op 32 (.mov (tm 9))
 (op 33 (.bin .sub (tm 32) (ci 1))
 (op 9 (.mov (tm 33))
 .nil))))))))))))
theorem ok_slices_reverseRangeCmpFunc_int_c93 : FnOk Tryz.prog 222 34 (SA.erase sa_slices_reverseRangeCmpFunc_int_c93) [] := ⟨Tryz.f222, [], Tryz.func222, rfl, by kernel_rfl, by kernel_rfl, by kernel_rfl⟩
noncomputable def F_slices_reverseRangeCmpFunc_int_c93 (s : List Int) (a0 : Int) (a1 : Int) : Option ((Unit) × List Int) :=
 loopO (fun (v1 : Int × Int × (List Int) × Unit) =>
 bif (decide (v1.1 < v1.2.1)) then
 Option.bind (idx v1.2.2.1 v1.2.1) fun x2 =>
 Option.bind (v1.2.2.1[(Int.toNat v1.2.1)]?) fun x3 =>
 Option.bind (idx v1.2.2.1 v1.1) fun x4 =>
 Option.bind (v1.2.2.1[(Int.toNat v1.1)]?) fun x5 =>
 Option.bind (idx v1.2.2.1 v1.1) fun x6 =>
 Option.bind (v1.2.2.1[(Int.toNat v1.1)]?) fun x7 =>
 Option.bind (idx (v1.2.2.1.set (Int.toNat v1.1) x3) v1.2.1) fun x8 =>
 Option.bind ((v1.2.2.1.set (Int.toNat v1.1) x3)[(Int.toNat v1.2.1)]?) fun x9 =>
 some (Sum.inl ((addI .i64 v1.1 (1 : Int)), (subI .i64 v1.2.1 (1 : Int)), ((v1.2.2.1.set (Int.toNat v1.1) x3).set (Int.toNat v1.2.1) x5), ()))
 else
 Option.map Sum.inr (some ((()), v1.2.2.1))) (a0, (subI .i64 a1 (1 : Int)), s, ())
noncomputable def k_slices_reverseRangeCmpFunc_int_c93 : KFun U := .rw 222 3 1 (Ty.i .i64) [.ty (Ty.i .i64), .ty (Ty.i .i64), .clo 93 []] (.many []) fun s a => F_slices_reverseRangeCmpFunc_int_c93 s a.1 a.2.1
theorem e_slices_reverseRangeCmpFunc_int_c93 : rwK K [] sa_slices_reverseRangeCmpFunc_int_c93 [] 3 1 (Ty.i .i64) [.ty (Ty.i .i64), .ty (Ty.i .i64), .clo 93 []] (.many []) = fun s a => F_slices_reverseRangeCmpFunc_int_c93 s a.1 a.2.1 := by kernel_rfl
theorem s_slices_reverseRangeCmpFunc_int_c93 : KFun.Sound (U := U) Tryz.prog k_slices_reverseRangeCmpFunc_int_c93 := rwK_sound (K := K) (Γ := []) ok_slices_reverseRangeCmpFunc_int_c93 (by kernel_rfl) (by decide) trivial (fun s a => congrFun (congrFun e_slices_reverseRangeCmpFunc_int_c93 s) a)

/-! ### slices.partialInsertionSortCmpFunc[int] -/
def sa_slices_partialInsertionSortCmpFunc_int_c93 : SA U :=
 (.seq
 (.reg
 (op 8 (.mov (.cst (.bool false)))
 .nil))
 (.seq
 (.reg
 (op 13 (.mov (tm 1))
 (op 14 (.bin .add (tm 13) (ci 1))
 (op 9 (.mov (tm 14))
 .nil))))
 (.seq
 (.seq
 (.reg
 (op 10 (.mov (ci 0))
 .nil))
 (.block 0
 (.loop ⟨[.val 9 (Ty.i .i64), .val 10 (Ty.i .i64), .own 0 0 0 3 1 (Ty.i .i64)], [1, 2, 3]⟩
 (.seq
 (.seq
 (.reg
 (op 15 (.mov (tm 10))
 (op 16 (.bin .lss (tm 15) (ci 5))
 .nil)))
 (.cond (tm 16)
 .skip
 (.exit 0)))
 (.join ⟨[.val 9 (Ty.i .i64), .own 0 0 0 3 1 (Ty.i .i64)], [1, 2, 3, 10]⟩
 (.block 1
 (.seq
 (.block 2
 (.loop ⟨[.val 9 (Ty.i .i64)], [0, 1, 2, 3, 10]⟩
 (.seq
 (.join ⟨[.val 36 Ty.bool], [0, 1, 2, 3, 9, 10]⟩
 (.drw [(7, 12), (8, 12), (7, 13), (8, 13)]
 (op 19 (.mov (tm 9))
 (op 20 (.mov (tm 2))
 (op 21 (.bin .lss (tm 19) (tm 20))
 (op 22 (.mov (tm 21))
 (.spl 22
 (opg 23 22 true (.mov (tm 3))
 (opg 24 22 true (.mov (tm 0))
 (opg 25 22 true (.mov (tm 9))
 (opg 26 22 true (.iaddr 1 (tm 24) (tm 25))
 (opg 27 22 true (.load none (tm 26))
 (opg 28 22 true (.mov (tm 0))
 (opg 29 22 true (.mov (tm 9))
 (opg 30 22 true (.bin .sub (tm 29) (ci 1))
 (opg 31 22 true (.iaddr 1 (tm 28) (tm 30))
 (opg 32 22 true (.load none (tm 31))
 (opg 33 22 true (.callv (tm 23) [(tm 27), (tm 32)])
 (opg 34 22 true (.bin .lss (tm 33) (ci 0))
 (opg 35 22 true (.not (tm 34))
 (op 36 (.pick (tm 22) (tm 35) (.cst (.bool false)))
 .nil))))))))))))))))))))
 (.cond (tm 36)
 .skip
 (.exit 2)))
 (.block 3
 (.reg
 (op 37 (.mov (tm 9))
 (op 38 (.bin .add (tm 37) (ci 1))
 (op 9 (.mov (tm 38))
 .nil))))))))
 (.seq
 (.seq
 (.reg
 (op 39 (.mov (tm 9))
 (op 40 (.mov (tm 2))
 (op 41 (.bin .eql (tm 39) (tm 40))
 .nil))))
 (.cond (tm 41)
 (.seq
 (.reg
 (op 8 (.mov (.cst (.bool true)))
 .nil))
 .ret)
 .skip))
 (.seq
 (.seq
 (.reg
 (op 42 (.mov (tm 2))
 (op 43 (.mov (tm 1))
 (op 44 (.bin .sub (tm 42) (tm 43))
 (op 45 (.bin .lss (tm 44) (ci 50))
 .nil)))))
 (.cond (tm 45)
 (.seq
 (.reg
 (op 8 (.mov (.cst (.bool false)))
 .nil))
 .ret)
 .skip))
 (.seq
 (.drw [(8, 12), (9, 12), (8, 13), (9, 13)]
 (op 46 (.mov (tm 0))
 (op 47 (.mov (tm 9))
 (op 48 (.mov (tm 0))
 (op 49 (.mov (tm 9))
 (op 50 (.bin .sub (tm 49) (ci 1))
 (op 51 (.mov (tm 0))
 (op 52 (.mov (tm 9))
 (op 53 (.bin .sub (tm 52) (ci 1))
 (op 54 (.iaddr 1 (tm 51) (tm 53))
 (op 55 (.load none (tm 54))
 (op 56 (.mov (tm 0))
 (op 57 (.mov (tm 9))
 (op 58 (.iaddr 1 (tm 56) (tm 57))
 (op 59 (.load none (tm 58))
 (op 60 (.iaddr 1 (tm 46) (tm 47))
 (ops (.store 1 (tm 60) (tm 55))
 (op 61 (.iaddr 1 (tm 48) (tm 50))
 (ops (.store 1 (tm 61) (tm 59))
 .nil)))))))))))))))))))
 (.join ⟨[.own 0 0 0 3 1 (Ty.i .i64)], [1, 2, 3, 9, 10]⟩
 (.seq
 (.reg
 (op 62 (.mov (tm 9))
 (op 63 (.mov (tm 1))
 (op 64 (.bin .sub (tm 62) (tm 63))
 (op 65 (.bin .geq (tm 64) (ci 2))
 .nil)))))
 (.cond (tm 65)
 (.seq
 (.reg
 (op 66 (.mov (tm 9))
 (op 67 (.bin .sub (tm 66) (ci 1))
 (op 11 (.mov (tm 67))
 .nil))))
 (.block 4
 (.loop ⟨[.val 11 (Ty.i .i64), .own 0 0 0 3 1 (Ty.i .i64)], [1, 2, 3, 9, 10]⟩
 (.seq
 (.seq
 (.reg
 (op 68 (.mov (tm 11))
 (op 69 (.bin .geq (tm 68) (ci 1))
 .nil)))
 (.cond (tm 69)
 .skip
 (.exit 4)))
 (.seq
 (.block 5
 (.seq
 (.seq
 (.drw [(3, 8), (4, 8), (3, 9), (4, 9)]
 (op 72 (.mov (tm 3))
 (op 73 (.mov (tm 0))
 (op 74 (.mov (tm 11))
 (op 75 (.iaddr 1 (tm 73) (tm 74))
 (op 76 (.load none (tm 75))
 (op 77 (.mov (tm 0))
 (op 78 (.mov (tm 11))
 (op 79 (.bin .sub (tm 78) (ci 1))
 (op 80 (.iaddr 1 (tm 77) (tm 79))
 (op 81 (.load none (tm 80))
 (op 82 (.callv (tm 72) [(tm 76), (tm 81)])
 (op 83 (.bin .lss (tm 82) (ci 0))
 (op 84 (.not (tm 83))
 .nil))))))))))))))
 (.cond (tm 84)
 (.exit 4)
 .skip))
 (.drw [(8, 12), (9, 12), (8, 13), (9, 13)]
 (op 85 (.mov (tm 0))
 (op 86 (.mov (tm 11))
 (op 87 (.mov (tm 0))
 (op 88 (.mov (tm 11))
 (op 89 (.bin .sub (tm 88) (ci 1))
 (op 90 (.mov (tm 0))
 (op 91 (.mov (tm 11))
 (op 92 (.bin .sub (tm 91) (ci 1))
 (op 93 (.iaddr 1 (tm 90) (tm 92))
 (op 94 (.load none (tm 93))
 (op 95 (.mov (tm 0))
 (op 96 (.mov (tm 11))
 (op 97 (.iaddr 1 (tm 95) (tm 96))
 (op 98 (.load none (tm 97))
 (op 99 (.iaddr 1 (tm 85) (tm 86))
 (ops (.store 1 (tm 99) (tm 94))
 (op 100 (.iaddr 1 (tm 87) (tm 89))
 (ops (.store 1 (tm 100) (tm 98))
 .nil)))))))))))))))))))))
 (.reg
 (op 70 (.mov (tm 11))
 (op 71 (.bin .sub (tm 70) (ci 1))
 (op 11 (.mov (tm 71))
 .nil)))))))))
 .skip))
 (.seq
 (.reg
 (op 101 (.mov (tm 2))
 (op 102 (.mov (tm 9))
 (op 103 (.bin .sub (tm 101) (tm 102))
 (op 104 (.bin .geq (tm 103) (ci 2))
 .nil)))))
 (.cond (tm 104)
 (.seq
 (.reg
 (op 105 (.mov (tm 9))
 (op 106 (.bin .add (tm 105) (ci 1))
 (op 12 (.mov (tm 106))
 .nil))))
 (.block 6
 (.loop ⟨[.val 12 (Ty.i .i64), .own 0 0 0 3 1 (Ty.i .i64)], [1, 2, 3, 9, 10]⟩
 (.seq
 (.seq
 (.reg
 (op 107 (.mov (tm 12))
 (op 108 (.mov (tm 2))
 (op 109 (.bin .lss (tm 107) (tm 108))
 .nil))))
 (.cond (tm 109)
 .skip
 (.exit 6)))
 (.seq
 (.block 7
 (.seq
 (.seq
 (.drw [(3, 8), (4, 8), (3, 9), (4, 9)]
 (op 112 (.mov (tm 3))
 (op 113 (.mov (tm 0))
 (op 114 (.mov (tm 12))
 (op 115 (.iaddr 1 (tm 113) (tm 114))
 (op 116 (.load none (tm 115))
 (op 117 (.mov (tm 0))
 (op 118 (.mov (tm 12))
 (op 119 (.bin .sub (tm 118) (ci 1))
 (op 120 (.iaddr 1 (tm 117) (tm 119))
 (op 121 (.load none (tm 120))
 (op 122 (.callv (tm 112) [(tm 116), (tm 121)])
 (op 123 (.bin .lss (tm 122) (ci 0))
 (op 124 (.not (tm 123))
 .nil))))))))))))))
 (.cond (tm 124)
 (.exit 6)
 .skip))
 (.drw [(8, 12), (9, 12), (8, 13), (9, 13)]
 (op 125 (.mov (tm 0))
 (op 126 (.mov (tm 12))
 (op 127 (.mov (tm 0))
 (op 128 (.mov (tm 12))
 (op 129 (.bin .sub (tm 128) (ci 1))
 (op 130 (.mov (tm 0))
 (op 131 (.mov (tm 12))
 (op 132 (.bin .sub (tm 131) (ci 1))
 (op 133 (.iaddr 1 (tm 130) (tm 132))
 (op 134 (.load none (tm 133))
 (op 135 (.mov (tm 0))
 (op 136 (.mov (tm 12))
 (op 137 (.iaddr 1 (tm 135) (tm 136))
 (op 138 (.load none (tm 137))
 (op 139 (.iaddr 1 (tm 125) (tm 126))
 (ops (.store 1 (tm 139) (tm 134))
 (op 140 (.iaddr 1 (tm 127) (tm 129))
 (ops (.store 1 (tm 140) (tm 138))
 .nil)))))))))))))))))))))
 (.reg
 (op 110 (.mov (tm 12))
 (op 111 (.bin .add (tm 110) (ci 1))
 (op 12 (.mov (tm 111))
 .nil)))))))))
 .skip))))))))
 (.reg
 (op 17 (.mov (tm 10))
 (op 18 (.bin .add (tm 17) (ci 1))
 (op 10 (.mov (tm 18))
 .nil)))))))))
 (.seq
 (.reg
 (op 8 (.mov (.cst (.bool false)))
 .nil))
 .ret))))
theorem ok_slices_partialInsertionSortCmpFunc_int_c93 : FnOk Tryz.prog 223 141 (SA.erase sa_slices_partialInsertionSortCmpFunc_int_c93) [.tmp 8] := ⟨Tryz.f223, [], Tryz.func223, rfl, by kernel_rfl, by kernel_rfl, by kernel_rfl⟩
noncomputable def F_slices_partialInsertionSortCmpFunc_int_c93 (s : List Int) (a0 : Int) (a1 : Int) : Option (Bool × List Int) :=
 loopO (fun (v1 : Int × Int × (List Int) × Unit) =>
 bif (decide (v1.2.1 < (5 : Int))) then
 letJ (fun (v2 : Int × (List Int) × Unit) =>
 some (Sum.inl (v2.1, (addI .i64 v1.2.1 (1 : Int)), v2.2.1, ()))) fun j3 =>
 loopO (fun (v4 : Int × Unit) =>
 letJ (fun (v5 : Bool × Unit) =>
 bif v5.1 then
 some (Sum.inl ((addI .i64 v4.1 (1 : Int)), ()))
 else
 Option.map Sum.inr (bif (decide (v4.1 = a1)) then
 Option.map Sum.inr (some (true, v1.2.2.1))
 else
 bif (decide ((subI .i64 a1 a0) < (50 : Int))) then
 Option.map Sum.inr (some (false, v1.2.2.1))
 else
 Option.bind (idx v1.2.2.1 (subI .i64 v4.1 (1 : Int))) fun x7 =>
 Option.bind (v1.2.2.1[(Int.toNat (subI .i64 v4.1 (1 : Int)))]?) fun x8 =>
 Option.bind (idx v1.2.2.1 v4.1) fun x9 =>
 Option.bind (v1.2.2.1[(Int.toNat v4.1)]?) fun x10 =>
 Option.bind (idx v1.2.2.1 v4.1) fun x11 =>
 Option.bind (v1.2.2.1[(Int.toNat v4.1)]?) fun x12 =>
 Option.bind (idx (v1.2.2.1.set (Int.toNat v4.1) x8) (subI .i64 v4.1 (1 : Int))) fun x13 =>
 Option.bind ((v1.2.2.1.set (Int.toNat v4.1) x8)[(Int.toNat (subI .i64 v4.1 (1 : Int)))]?) fun x14 =>
 letJ (fun (v15 : (List Int) × Unit) =>
 bif (decide ((2 : Int) ≤ (subI .i64 a1 v4.1))) then
 loopO (fun (v17 : Int × (List Int) × Unit) =>
 bif (decide (v17.1 < a1)) then
 Option.bind (idx v17.2.1 v17.1) fun x18 =>
 Option.bind (v17.2.1[(Int.toNat v17.1)]?) fun x19 =>
 Option.bind (idx v17.2.1 (subI .i64 v17.1 (1 : Int))) fun x20 =>
 Option.bind (v17.2.1[(Int.toNat (subI .i64 v17.1 (1 : Int)))]?) fun x21 =>
 Option.bind (F_cmp_Compare_int x19 x21) fun r22 =>
 bif (!(decide (r22 < (0 : Int)))) then
 Option.map Sum.inr (j3 (v4.1, v17.2.1, ()))
 else
 Option.bind (idx v17.2.1 (subI .i64 v17.1 (1 : Int))) fun x23 =>
 Option.bind (v17.2.1[(Int.toNat (subI .i64 v17.1 (1 : Int)))]?) fun x24 =>
 Option.bind (idx v17.2.1 v17.1) fun x25 =>
 Option.bind (v17.2.1[(Int.toNat v17.1)]?) fun x26 =>
 Option.bind (idx v17.2.1 v17.1) fun x27 =>
 Option.bind (v17.2.1[(Int.toNat v17.1)]?) fun x28 =>
 Option.bind (idx (v17.2.1.set (Int.toNat v17.1) x24) (subI .i64 v17.1 (1 : Int))) fun x29 =>
 Option.bind ((v17.2.1.set (Int.toNat v17.1) x24)[(Int.toNat (subI .i64 v17.1 (1 : Int)))]?) fun x30 =>
 some (Sum.inl ((addI .i64 v17.1 (1 : Int)), ((v17.2.1.set (Int.toNat v17.1) x24).set (Int.toNat (subI .i64 v17.1 (1 : Int))) x26), ()))
 else
 Option.map Sum.inr (j3 (v4.1, v17.2.1, ()))) ((addI .i64 v4.1 (1 : Int)), v15.1, ())
 else
 j3 (v4.1, v15.1, ())) fun j16 =>
 bif (decide ((2 : Int) ≤ (subI .i64 v4.1 a0))) then
 loopO (fun (v31 : Int × (List Int) × Unit) =>
 bif (decide ((1 : Int) ≤ v31.1)) then
 Option.bind (idx v31.2.1 v31.1) fun x32 =>
 Option.bind (v31.2.1[(Int.toNat v31.1)]?) fun x33 =>
 Option.bind (idx v31.2.1 (subI .i64 v31.1 (1 : Int))) fun x34 =>
 Option.bind (v31.2.1[(Int.toNat (subI .i64 v31.1 (1 : Int)))]?) fun x35 =>
 Option.bind (F_cmp_Compare_int x33 x35) fun r36 =>
 bif (!(decide (r36 < (0 : Int)))) then
 Option.map Sum.inr (j16 (v31.2.1, ()))
 else
 Option.bind (idx v31.2.1 (subI .i64 v31.1 (1 : Int))) fun x37 =>
 Option.bind (v31.2.1[(Int.toNat (subI .i64 v31.1 (1 : Int)))]?) fun x38 =>
 Option.bind (idx v31.2.1 v31.1) fun x39 =>
 Option.bind (v31.2.1[(Int.toNat v31.1)]?) fun x40 =>
 Option.bind (idx v31.2.1 v31.1) fun x41 =>
 Option.bind (v31.2.1[(Int.toNat v31.1)]?) fun x42 =>
 Option.bind (idx (v31.2.1.set (Int.toNat v31.1) x38) (subI .i64 v31.1 (1 : Int))) fun x43 =>
 Option.bind ((v31.2.1.set (Int.toNat v31.1) x38)[(Int.toNat (subI .i64 v31.1 (1 : Int)))]?) fun x44 =>
 some (Sum.inl ((subI .i64 v31.1 (1 : Int)), ((v31.2.1.set (Int.toNat v31.1) x38).set (Int.toNat (subI .i64 v31.1 (1 : Int))) x40), ()))
 else
 Option.map Sum.inr (j16 (v31.2.1, ()))) ((subI .i64 v4.1 (1 : Int)), ((v1.2.2.1.set (Int.toNat v4.1) x8).set (Int.toNat (subI .i64 v4.1 (1 : Int))) x10), ())
 else
 j16 (((v1.2.2.1.set (Int.toNat v4.1) x8).set (Int.toNat (subI .i64 v4.1 (1 : Int))) x10), ()))) fun j6 =>
 bif (decide (v4.1 < a1)) then
 Option.bind (idx v1.2.2.1 v4.1) fun x45 =>
 Option.bind (v1.2.2.1[(Int.toNat v4.1)]?) fun x46 =>
 Option.bind (idx v1.2.2.1 (subI .i64 v4.1 (1 : Int))) fun x47 =>
 Option.bind (v1.2.2.1[(Int.toNat (subI .i64 v4.1 (1 : Int)))]?) fun x48 =>
 Option.bind (F_cmp_Compare_int x46 x48) fun r49 =>
 j6 ((!(decide (r49 < (0 : Int)))), ())
 else
 j6 (false, ())) (v1.1, ())
 else
 Option.map Sum.inr (some (false, v1.2.2.1))) ((addI .i64 a0 (1 : Int)), (0 : Int), s, ())
noncomputable def k_slices_partialInsertionSortCmpFunc_int_c93 : KFun U := .rw 223 3 1 (Ty.i .i64) [.ty (Ty.i .i64), .ty (Ty.i .i64), .clo 93 []] (.one Ty.bool) fun s a => F_slices_partialInsertionSortCmpFunc_int_c93 s a.1 a.2.1
theorem e_slices_partialInsertionSortCmpFunc_int_c93 : rwK K [k_cmp_Compare_int] sa_slices_partialInsertionSortCmpFunc_int_c93 [.tmp 8] 3 1 (Ty.i .i64) [.ty (Ty.i .i64), .ty (Ty.i .i64), .clo 93 []] (.one Ty.bool) = fun s a => F_slices_partialInsertionSortCmpFunc_int_c93 s a.1 a.2.1 := by kernel_rfl
theorem s_slices_partialInsertionSortCmpFunc_int_c93 : KFun.Sound (U := U) Tryz.prog k_slices_partialInsertionSortCmpFunc_int_c93 := rwK_sound (K := K) (Γ := [k_cmp_Compare_int]) ok_slices_partialInsertionSortCmpFunc_int_c93 (by kernel_rfl) (by decide) ⟨s_cmp_Compare_int, trivial⟩ (fun s a => congrFun (congrFun e_slices_partialInsertionSortCmpFunc_int_c93 s) a)

/-! ### slices.partitionEqualCmpFunc[int] -/
def sa_slices_partitionEqualCmpFunc_int_c93 : SA U :=
 (.seq
 (.reg
 (op 10 (.mov (ci 0))
 .nil))
 (.seq
 (.drw [(6, 10), (7, 10), (6, 11), (7, 11)]
 (op 13 (.mov (tm 0))
 (op 14 (.mov (tm 1))
 (op 15 (.mov (tm 0))
 (op 16 (.mov (tm 3))
 (op 17 (.mov (tm 0))
 (op 18 (.mov (tm 3))
 (op 19 (.iaddr 1 (tm 17) (tm 18))
 (op 20 (.load none (tm 19))
 (op 21 (.mov (tm 0))
 (op 22 (.mov (tm 1))
 (op 23 (.iaddr 1 (tm 21) (tm 22))
 (op 24 (.load none (tm 23))
 (op 25 (.iaddr 1 (tm 13) (tm 14))
 (ops (.store 1 (tm 25) (tm 20))
 (op 26 (.iaddr 1 (tm 15) (tm 16))
 (ops (.store 1 (tm 26) (tm 24))
 .nil)))))))))))))))))
 (.seq
 (.reg
 (op 27 (.mov (tm 1))
 (op 28 (.bin .add (tm 27) (ci 1))
 (op 29 (.mov (tm 2))
 (op 30 (.bin .sub (tm 29) (ci 1))
 (op 11 (.mov (tm 28))
 (op 12 (.mov (tm 30))
 .nil)))))))
 (.seq
 (.block 0
 (.loop ⟨[.val 11 (Ty.i .i64), .val 12 (Ty.i .i64), .own 0 0 0 3 1 (Ty.i .i64)], [1, 4]⟩
 (.block 1
 (.seq
 (.block 2
 (.loop ⟨[.val 11 (Ty.i .i64)], [0, 1, 4, 12]⟩
 (.seq
 (.join ⟨[.val 47 Ty.bool], [0, 1, 4, 11, 12]⟩
 (.drw [(7, 11), (8, 11), (7, 12), (8, 12)]
 (op 31 (.mov (tm 11))
 (op 32 (.mov (tm 12))
 (op 33 (.bin .leq (tm 31) (tm 32))
 (op 34 (.mov (tm 33))
 (.spl 34
 (opg 35 34 true (.mov (tm 4))
 (opg 36 34 true (.mov (tm 0))
 (opg 37 34 true (.mov (tm 1))
 (opg 38 34 true (.iaddr 1 (tm 36) (tm 37))
 (opg 39 34 true (.load none (tm 38))
 (opg 40 34 true (.mov (tm 0))
 (opg 41 34 true (.mov (tm 11))
 (opg 42 34 true (.iaddr 1 (tm 40) (tm 41))
 (opg 43 34 true (.load none (tm 42))
 (opg 44 34 true (.callv (tm 35) [(tm 39), (tm 43)])
 (opg 45 34 true (.bin .lss (tm 44) (ci 0))
 (opg 46 34 true (.not (tm 45))
 (op 47 (.pick (tm 34) (tm 46) (.cst (.bool false)))
 .nil)))))))))))))))))))
 (.cond (tm 47)
 .skip
 (.exit 2)))
 (.block 3
 (.reg
 (op 48 (.mov (tm 11))
 (op 49 (.bin .add (tm 48) (ci 1))
 (op 11 (.mov (tm 49))
 .nil))))))))
 (.seq
 (.block 4
 (.loop ⟨[.val 12 (Ty.i .i64)], [0, 1, 4, 11]⟩
 (.seq
 (.join ⟨[.val 65 Ty.bool], [0, 1, 4, 11, 12]⟩
 (.drw [(7, 11), (8, 11), (7, 12), (8, 12)]
 (op 50 (.mov (tm 11))
 (op 51 (.mov (tm 12))
 (op 52 (.bin .leq (tm 50) (tm 51))
 (op 53 (.mov (tm 52))
 (.spl 53
 (opg 54 53 true (.mov (tm 4))
 (opg 55 53 true (.mov (tm 0))
 (opg 56 53 true (.mov (tm 1))
 (opg 57 53 true (.iaddr 1 (tm 55) (tm 56))
 (opg 58 53 true (.load none (tm 57))
 (opg 59 53 true (.mov (tm 0))
 (opg 60 53 true (.mov (tm 12))
 (opg 61 53 true (.iaddr 1 (tm 59) (tm 60))
 (opg 62 53 true (.load none (tm 61))
 (opg 63 53 true (.callv (tm 54) [(tm 58), (tm 62)])
 (opg 64 53 true (.bin .lss (tm 63) (ci 0))
 (op 65 (.pick (tm 53) (tm 64) (.cst (.bool false)))
 .nil))))))))))))))))))
 (.cond (tm 65)
 .skip
 (.exit 4)))
 (.block 5
 (.reg
 (op 66 (.mov (tm 12))
 (op 67 (.bin .sub (tm 66) (ci 1))
 (op 12 (.mov (tm 67))
 .nil))))))))
 (.seq
 (.seq
 (.reg
 (op 68 (.mov (tm 11))
 (op 69 (.mov (tm 12))
 (op 70 (.bin .gtr (tm 68) (tm 69))
 .nil))))
 (.cond (tm 70)
 (.exit 0)
 .skip))
 (.seq
 (.drw [(6, 10), (7, 10), (6, 11), (7, 11)]
 (op 71 (.mov (tm 0))
 (op 72 (.mov (tm 11))
 (op 73 (.mov (tm 0))
 (op 74 (.mov (tm 12))
 (op 75 (.mov (tm 0))
 (op 76 (.mov (tm 12))
 (op 77 (.iaddr 1 (tm 75) (tm 76))
 (op 78 (.load none (tm 77))
 (op 79 (.mov (tm 0))
 (op 80 (.mov (tm 11))
 (op 81 (.iaddr 1 (tm 79) (tm 80))
 (op 82 (.load none (tm 81))
 (op 83 (.iaddr 1 (tm 71) (tm 72))
 (ops (.store 1 (tm 83) (tm 78))
 (op 84 (.iaddr 1 (tm 73) (tm 74))
 (ops (.store 1 (tm 84) (tm 82))
 .nil)))))))))))))))))
 (.seq
 (.reg
 (op 85 (.mov (tm 11))
 (op 86 (.bin .add (tm 85) (ci 1))
 (op 11 (.mov (tm 86))
 .nil))))
 (.reg
 (op 87 (.mov (tm 12))
 (op 88 (.bin .sub (tm 87) (ci 1))
 (op 12 (.mov (tm 88))
 .nil))))))))))))
 (.seq
 (.reg
 (op 89 (.mov (tm 11))
 (op 10 (.mov (tm 89))
 .nil)))
 .ret)))))
theorem ok_slices_partitionEqualCmpFunc_int_c93 : FnOk Tryz.prog 224 90 (SA.erase sa_slices_partitionEqualCmpFunc_int_c93) [.tmp 10] := ⟨Tryz.f224, [], Tryz.func224, rfl, by kernel_rfl, by kernel_rfl, by kernel_rfl⟩
noncomputable def F_slices_partitionEqualCmpFunc_int_c93 (s : List Int) (a0 : Int) (a1 : Int) (a2 : Int) : Option (Int × List Int) :=
 Option.bind (idx s a2) fun x1 =>
 Option.bind (s[(Int.toNat a2)]?) fun x2 =>
 Option.bind (idx s a0) fun x3 =>
 Option.bind (s[(Int.toNat a0)]?) fun x4 =>
 Option.bind (idx s a0) fun x5 =>
 Option.bind (s[(Int.toNat a0)]?) fun x6 =>
 Option.bind (idx (s.set (Int.toNat a0) x2) a2) fun x7 =>
 Option.bind ((s.set (Int.toNat a0) x2)[(Int.toNat a2)]?) fun x8 =>
 loopO (fun (v9 : Int × Int × (List Int) × Unit) =>
 loopO (fun (v10 : Int × Unit) =>
 letJ (fun (v11 : Bool × Unit) =>
 bif v11.1 then
 some (Sum.inl ((addI .i64 v10.1 (1 : Int)), ()))
 else
 Option.map Sum.inr (loopO (fun (v13 : Int × Unit) =>
 letJ (fun (v14 : Bool × Unit) =>
 bif v14.1 then
 some (Sum.inl ((subI .i64 v13.1 (1 : Int)), ()))
 else
 Option.map Sum.inr (bif (decide (v13.1 < v10.1)) then
 Option.map Sum.inr (some (v10.1, v9.2.2.1))
 else
 Option.bind (idx v9.2.2.1 v13.1) fun x16 =>
 Option.bind (v9.2.2.1[(Int.toNat v13.1)]?) fun x17 =>
 Option.bind (idx v9.2.2.1 v10.1) fun x18 =>
 Option.bind (v9.2.2.1[(Int.toNat v10.1)]?) fun x19 =>
 Option.bind (idx v9.2.2.1 v10.1) fun x20 =>
 Option.bind (v9.2.2.1[(Int.toNat v10.1)]?) fun x21 =>
 Option.bind (idx (v9.2.2.1.set (Int.toNat v10.1) x17) v13.1) fun x22 =>
 Option.bind ((v9.2.2.1.set (Int.toNat v10.1) x17)[(Int.toNat v13.1)]?) fun x23 =>
 some (Sum.inl ((addI .i64 v10.1 (1 : Int)), (subI .i64 v13.1 (1 : Int)), ((v9.2.2.1.set (Int.toNat v10.1) x17).set (Int.toNat v13.1) x19), ())))) fun j15 =>
 bif (decide (v10.1 ≤ v13.1)) then
 Option.bind (idx v9.2.2.1 a0) fun x24 =>
 Option.bind (v9.2.2.1[(Int.toNat a0)]?) fun x25 =>
 Option.bind (idx v9.2.2.1 v13.1) fun x26 =>
 Option.bind (v9.2.2.1[(Int.toNat v13.1)]?) fun x27 =>
 Option.bind (F_cmp_Compare_int x25 x27) fun r28 =>
 j15 ((decide (r28 < (0 : Int))), ())
 else
 j15 (false, ())) (v9.2.1, ()))) fun j12 =>
 bif (decide (v10.1 ≤ v9.2.1)) then
 Option.bind (idx v9.2.2.1 a0) fun x29 =>
 Option.bind (v9.2.2.1[(Int.toNat a0)]?) fun x30 =>
 Option.bind (idx v9.2.2.1 v10.1) fun x31 =>
 Option.bind (v9.2.2.1[(Int.toNat v10.1)]?) fun x32 =>
 Option.bind (F_cmp_Compare_int x30 x32) fun r33 =>
 j12 ((!(decide (r33 < (0 : Int)))), ())
 else
 j12 (false, ())) (v9.1, ())) ((addI .i64 a0 (1 : Int)), (subI .i64 a1 (1 : Int)), ((s.set (Int.toNat a0) x2).set (Int.toNat a2) x4), ())
noncomputable def k_slices_partitionEqualCmpFunc_int_c93 : KFun U := .rw 224 3 1 (Ty.i .i64) [.ty (Ty.i .i64), .ty (Ty.i .i64), .ty (Ty.i .i64), .clo 93 []] (.one (Ty.i .i64)) fun s a => F_slices_partitionEqualCmpFunc_int_c93 s a.1 a.2.1 a.2.2.1
theorem e_slices_partitionEqualCmpFunc_int_c93 : rwK K [k_cmp_Compare_int] sa_slices_partitionEqualCmpFunc_int_c93 [.tmp 10] 3 1 (Ty.i .i64) [.ty (Ty.i .i64), .ty (Ty.i .i64), .ty (Ty.i .i64), .clo 93 []] (.one (Ty.i .i64)) = fun s a => F_slices_partitionEqualCmpFunc_int_c93 s a.1 a.2.1 a.2.2.1 := by kernel_rfl
theorem s_slices_partitionEqualCmpFunc_int_c93 : KFun.Sound (U := U) Tryz.prog k_slices_partitionEqualCmpFunc_int_c93 := rwK_sound (K := K) (Γ := [k_cmp_Compare_int]) ok_slices_partitionEqualCmpFunc_int_c93 (by kernel_rfl) (by decide) ⟨s_cmp_Compare_int, trivial⟩ (fun s a => congrFun (congrFun e_slices_partitionEqualCmpFunc_int_c93 s) a)

/-! ### slices.partitionCmpFunc[int] -/
def sa_slices_partitionCmpFunc_int_c93 : SA U :=
 (.seq
 (.reg
 (op 10 (.mov (ci 0))
 (op 11 (.mov (.cst (.bool false)))
 .nil)))
 (.seq
 (.drw [(6, 10), (7, 10), (6, 11), (7, 11)]
 (op 14 (.mov (tm 0))
 (op 15 (.mov (tm 1))
 (op 16 (.mov (tm 0))
 (op 17 (.mov (tm 3))
 (op 18 (.mov (tm 0))
 (op 19 (.mov (tm 3))
 (op 20 (.iaddr 1 (tm 18) (tm 19))
 (op 21 (.load none (tm 20))
 (op 22 (.mov (tm 0))
 (op 23 (.mov (tm 1))
 (op 24 (.iaddr 1 (tm 22) (tm 23))
 (op 25 (.load none (tm 24))
 (op 26 (.iaddr 1 (tm 14) (tm 15))
 (ops (.store 1 (tm 26) (tm 21))
 (op 27 (.iaddr 1 (tm 16) (tm 17))
 (ops (.store 1 (tm 27) (tm 25))
 .nil)))))))))))))))))
 (.seq
 (.reg
 (op 28 (.mov (tm 1))
 (op 29 (.bin .add (tm 28) (ci 1))
 (op 30 (.mov (tm 2))
 (op 31 (.bin .sub (tm 30) (ci 1))
 (op 12 (.mov (tm 29))
 (op 13 (.mov (tm 31))
 .nil)))))))
 (.seq
 (.block 0
 (.loop ⟨[.val 12 (Ty.i .i64)], [0, 1, 4, 13]⟩
 (.seq
 (.join ⟨[.val 47 Ty.bool], [0, 1, 4, 12, 13]⟩
 (.drw [(7, 11), (8, 11), (7, 12), (8, 12)]
 (op 32 (.mov (tm 12))
 (op 33 (.mov (tm 13))
 (op 34 (.bin .leq (tm 32) (tm 33))
 (op 35 (.mov (tm 34))
 (.spl 35
 (opg 36 35 true (.mov (tm 4))
 (opg 37 35 true (.mov (tm 0))
 (opg 38 35 true (.mov (tm 12))
 (opg 39 35 true (.iaddr 1 (tm 37) (tm 38))
 (opg 40 35 true (.load none (tm 39))
 (opg 41 35 true (.mov (tm 0))
 (opg 42 35 true (.mov (tm 1))
 (opg 43 35 true (.iaddr 1 (tm 41) (tm 42))
 (opg 44 35 true (.load none (tm 43))
 (opg 45 35 true (.callv (tm 36) [(tm 40), (tm 44)])
 (opg 46 35 true (.bin .lss (tm 45) (ci 0))
 (op 47 (.pick (tm 35) (tm 46) (.cst (.bool false)))
 .nil))))))))))))))))))
 (.cond (tm 47)
 .skip
 (.exit 0)))
 (.block 1
 (.reg
 (op 48 (.mov (tm 12))
 (op 49 (.bin .add (tm 48) (ci 1))
 (op 12 (.mov (tm 49))
 .nil))))))))
 (.seq
 (.block 2
 (.loop ⟨[.val 13 (Ty.i .i64)], [0, 1, 4, 12]⟩
 (.seq
 (.join ⟨[.val 66 Ty.bool], [0, 1, 4, 12, 13]⟩
 (.drw [(7, 11), (8, 11), (7, 12), (8, 12)]
 (op 50 (.mov (tm 12))
 (op 51 (.mov (tm 13))
 (op 52 (.bin .leq (tm 50) (tm 51))
 (op 53 (.mov (tm 52))
 (.spl 53
 (opg 54 53 true (.mov (tm 4))
 (opg 55 53 true (.mov (tm 0))
 (opg 56 53 true (.mov (tm 13))
 (opg 57 53 true (.iaddr 1 (tm 55) (tm 56))
 (opg 58 53 true (.load none (tm 57))
 (opg 59 53 true (.mov (tm 0))
 (opg 60 53 true (.mov (tm 1))
 (opg 61 53 true (.iaddr 1 (tm 59) (tm 60))
 (opg 62 53 true (.load none (tm 61))
 (opg 63 53 true (.callv (tm 54) [(tm 58), (tm 62)])
 (opg 64 53 true (.bin .lss (tm 63) (ci 0))
 (opg 65 53 true (.not (tm 64))
 (op 66 (.pick (tm 53) (tm 65) (.cst (.bool false)))
 .nil)))))))))))))))))))
 (.cond (tm 66)
 .skip
 (.exit 2)))
 (.block 3
 (.reg
 (op 67 (.mov (tm 13))
 (op 68 (.bin .sub (tm 67) (ci 1))
 (op 13 (.mov (tm 68))
 .nil))))))))
 (.seq
 (.seq
 (.reg
 (op 69 (.mov (tm 12))
 (op 70 (.mov (tm 13))
 (op 71 (.bin .gtr (tm 69) (tm 70))
 .nil))))
 (.cond (tm 71)
 (.seq
 (.drw [(6, 10), (7, 10), (6, 11), (7, 11)]
 (op 72 (.mov (tm 0))
 (op 73 (.mov (tm 13))
 (op 74 (.mov (tm 0))
 (op 75 (.mov (tm 1))
 (op 76 (.mov (tm 0))
 (op 77 (.mov (tm 1))
 (op 78 (.iaddr 1 (tm 76) (tm 77))
 (op 79 (.load none (tm 78))
 (op 80 (.mov (tm 0))
 (op 81 (.mov (tm 13))
 (op 82 (.iaddr 1 (tm 80) (tm 81))
 (op 83 (.load none (tm 82))
 (op 84 (.iaddr 1 (tm 72) (tm 73))
 (ops (.store 1 (tm 84) (tm 79))
 (op 85 (.iaddr 1 (tm 74) (tm 75))
 (ops (.store 1 (tm 85) (tm 83))
 .nil)))))))))))))))))
 (.seq
 (.reg
 (op 86 (.mov (tm 13))
 (op 10 (.mov (tm 86))
 (op 11 (.mov (.cst (.bool true)))
 .nil))))
 .ret))
 .skip))
 (.seq
 (.drw [(6, 10), (7, 10), (6, 11), (7, 11)]
 (op 87 (.mov (tm 0))
 (op 88 (.mov (tm 12))
 (op 89 (.mov (tm 0))
 (op 90 (.mov (tm 13))
 (op 91 (.mov (tm 0))
 (op 92 (.mov (tm 13))
 (op 93 (.iaddr 1 (tm 91) (tm 92))
 (op 94 (.load none (tm 93))
 (op 95 (.mov (tm 0))
 (op 96 (.mov (tm 12))
 (op 97 (.iaddr 1 (tm 95) (tm 96))
 (op 98 (.load none (tm 97))
 (op 99 (.iaddr 1 (tm 87) (tm 88))
 (ops (.store 1 (tm 99) (tm 94))
 (op 100 (.iaddr 1 (tm 89) (tm 90))
 (ops (.store 1 (tm 100) (tm 98))
 .nil)))))))))))))))))
 (.seq
 (.reg
 (op 101 (.mov (tm 12))
 (op 102 (.bin .add (tm 101) (ci 1))
 (op 12 (.mov (tm 102))
 .nil))))
 (.seq
 (.reg
 (op 103 (.mov (tm 13))
 (op 104 (.bin .sub (tm 103) (ci 1))
 (op 13 (.mov (tm 104))
 .nil))))
 (.seq
 (.block 4
 (.loop ⟨[.val 12 (Ty.i .i64), .val 13 (Ty.i .i64), .own 0 0 0 3 1 (Ty.i .i64)], [1, 4]⟩
 (.block 5
 (.seq
 (.block 6
 (.loop ⟨[.val 12 (Ty.i .i64)], [0, 1, 4, 13]⟩
 (.seq
 (.join ⟨[.val 120 Ty.bool], [0, 1, 4, 12, 13]⟩
 (.drw [(7, 11), (8, 11), (7, 12), (8, 12)]
 (op 105 (.mov (tm 12))
 (op 106 (.mov (tm 13))
 (op 107 (.bin .leq (tm 105) (tm 106))
 (op 108 (.mov (tm 107))
 (.spl 108
 (opg 109 108 true (.mov (tm 4))
 (opg 110 108 true (.mov (tm 0))
 (opg 111 108 true (.mov (tm 12))
 (opg 112 108 true (.iaddr 1 (tm 110) (tm 111))
 (opg 113 108 true (.load none (tm 112))
 (opg 114 108 true (.mov (tm 0))
 (opg 115 108 true (.mov (tm 1))
 (opg 116 108 true (.iaddr 1 (tm 114) (tm 115))
 (opg 117 108 true (.load none (tm 116))
 (opg 118 108 true (.callv (tm 109) [(tm 113), (tm 117)])
 (opg 119 108 true (.bin .lss (tm 118) (ci 0))
 (op 120 (.pick (tm 108) (tm 119) (.cst (.bool false)))
 .nil))))))))))))))))))
 (.cond (tm 120)
 .skip
 (.exit 6)))
 (.block 7
 (.reg
 (op 121 (.mov (tm 12))
 (op 122 (.bin .add (tm 121) (ci 1))
 (op 12 (.mov (tm 122))
 .nil))))))))
 (.seq
 (.block 8
 (.loop ⟨[.val 13 (Ty.i .i64)], [0, 1, 4, 12]⟩
 (.seq
 (.join ⟨[.val 139 Ty.bool], [0, 1, 4, 12, 13]⟩
 (.drw [(7, 11), (8, 11), (7, 12), (8, 12)]
 (op 123 (.mov (tm 12))
 (op 124 (.mov (tm 13))
 (op 125 (.bin .leq (tm 123) (tm 124))
 (op 126 (.mov (tm 125))
 (.spl 126
 (opg 127 126 true (.mov (tm 4))
 (opg 128 126 true (.mov (tm 0))
 (opg 129 126 true (.mov (tm 13))
 (opg 130 126 true (.iaddr 1 (tm 128) (tm 129))
 (opg 131 126 true (.load none (tm 130))
 (opg 132 126 true (.mov (tm 0))
 (opg 133 126 true (.mov (tm 1))
 (opg 134 126 true (.iaddr 1 (tm 132) (tm 133))
 (opg 135 126 true (.load none (tm 134))
 (opg 136 126 true (.callv (tm 127) [(tm 131), (tm 135)])
 (opg 137 126 true (.bin .lss (tm 136) (ci 0))
 (opg 138 126 true (.not (tm 137))
 (op 139 (.pick (tm 126) (tm 138) (.cst (.bool false)))
 .nil)))))))))))))))))))
 (.cond (tm 139)
 .skip
 (.exit 8)))
 (.block 9
 (.reg
 (op 140 (.mov (tm 13))
 (op 141 (.bin .sub (tm 140) (ci 1))
 (op 13 (.mov (tm 141))
 .nil))))))))
 (.seq
 (.seq
 (.reg
 (op 142 (.mov (tm 12))
 (op 143 (.mov (tm 13))
 (op 144 (.bin .gtr (tm 142) (tm 143))
 .nil))))
 (.cond (tm 144)
 (.exit 4)
 .skip))
 (.seq
 (.drw [(6, 10), (7, 10), (6, 11), (7, 11)]
 (op 145 (.mov (tm 0))
 (op 146 (.mov (tm 12))
 (op 147 (.mov (tm 0))
 (op 148 (.mov (tm 13))
 (op 149 (.mov (tm 0))
 (op 150 (.mov (tm 13))
 (op 151 (.iaddr 1 (tm 149) (tm 150))
 (op 152 (.load none (tm 151))
 (op 153 (.mov (tm 0))
 (op 154 (.mov (tm 12))
 (op 155 (.iaddr 1 (tm 153) (tm 154))
 (op 156 (.load none (tm 155))
 (op 157 (.iaddr 1 (tm 145) (tm 146))
 (ops (.store 1 (tm 157) (tm 152))
 (op 158 (.iaddr 1 (tm 147) (tm 148))
 (ops (.store 1 (tm 158) (tm 156))
 .nil)))))))))))))))))
 (.seq
 (.reg
 (op 159 (.mov (tm 12))
 (op 160 (.bin .add (tm 159) (ci 1))
 (op 12 (.mov (tm 160))
 .nil))))
 (.reg
 (op 161 (.mov (tm 13))
 (op 162 (.bin .sub (tm 161) (ci 1))
 (op 13 (.mov (tm 162))
 .nil))))))))))))
 (.seq
 (.drw [(6, 10), (7, 10), (6, 11), (7, 11)]
 (op 163 (.mov (tm 0))
 (op 164 (.mov (tm 13))
 (op 165 (.mov (tm 0))
 (op 166 (.mov (tm 1))
 (op 167 (.mov (tm 0))
 (op 168 (.mov (tm 1))
 (op 169 (.iaddr 1 (tm 167) (tm 168))
 (op 170 (.load none (tm 169))
 (op 171 (.mov (tm 0))
 (op 172 (.mov (tm 13))
 (op 173 (.iaddr 1 (tm 171) (tm 172))
 (op 174 (.load none (tm 173))
 (op 175 (.iaddr 1 (tm 163) (tm 164))
 (ops (.store 1 (tm 175) (tm 170))
 (op 176 (.iaddr 1 (tm 165) (tm 166))
 (ops (.store 1 (tm 176) (tm 174))
 .nil)))))))))))))))))
 (.seq
 (.reg
 (op 177 (.mov (tm 13))
 (op 10 (.mov (tm 177))
 (op 11 (.mov (.cst (.bool false)))
 .nil))))
 .ret))))))))))))
theorem ok_slices_partitionCmpFunc_int_c93 : FnOk Tryz.prog 225 178 (SA.erase sa_slices_partitionCmpFunc_int_c93) [.tmp 10, .tmp 11] := ⟨Tryz.f225, [], Tryz.func225, rfl, by kernel_rfl, by kernel_rfl, by kernel_rfl⟩
noncomputable def F_slices_partitionCmpFunc_int_c93 (s : List Int) (a0 : Int) (a1 : Int) (a2 : Int) : Option ((Int × Bool × Unit) × List Int) :=
 Option.bind (idx s a2) fun x1 =>
 Option.bind (s[(Int.toNat a2)]?) fun x2 =>
 Option.bind (idx s a0) fun x3 =>
 Option.bind (s[(Int.toNat a0)]?) fun x4 =>
 Option.bind (idx s a0) fun x5 =>
 Option.bind (s[(Int.toNat a0)]?) fun x6 =>
 Option.bind (idx (s.set (Int.toNat a0) x2) a2) fun x7 =>
 Option.bind ((s.set (Int.toNat a0) x2)[(Int.toNat a2)]?) fun x8 =>
 loopO (fun (v9 : Int × Unit) =>
 letJ (fun (v10 : Bool × Unit) =>
 bif v10.1 then
 some (Sum.inl ((addI .i64 v9.1 (1 : Int)), ()))
 else
 Option.map Sum.inr (loopO (fun (v12 : Int × Unit) =>
 letJ (fun (v13 : Bool × Unit) =>
 bif v13.1 then
 some (Sum.inl ((subI .i64 v12.1 (1 : Int)), ()))
 else
 Option.map Sum.inr (bif (decide (v12.1 < v9.1)) then
 Option.bind (idx ((s.set (Int.toNat a0) x2).set (Int.toNat a2) x4) a0) fun x15 =>
 Option.bind (((s.set (Int.toNat a0) x2).set (Int.toNat a2) x4)[(Int.toNat a0)]?) fun x16 =>
 Option.bind (idx ((s.set (Int.toNat a0) x2).set (Int.toNat a2) x4) v12.1) fun x17 =>
 Option.bind (((s.set (Int.toNat a0) x2).set (Int.toNat a2) x4)[(Int.toNat v12.1)]?) fun x18 =>
 Option.bind (idx ((s.set (Int.toNat a0) x2).set (Int.toNat a2) x4) v12.1) fun x19 =>
 Option.bind (((s.set (Int.toNat a0) x2).set (Int.toNat a2) x4)[(Int.toNat v12.1)]?) fun x20 =>
 Option.bind (idx (((s.set (Int.toNat a0) x2).set (Int.toNat a2) x4).set (Int.toNat v12.1) x16) a0) fun x21 =>
 Option.bind ((((s.set (Int.toNat a0) x2).set (Int.toNat a2) x4).set (Int.toNat v12.1) x16)[(Int.toNat a0)]?) fun x22 =>
 some ((v12.1, true, ()), ((((s.set (Int.toNat a0) x2).set (Int.toNat a2) x4).set (Int.toNat v12.1) x16).set (Int.toNat a0) x18))
 else
 Option.bind (idx ((s.set (Int.toNat a0) x2).set (Int.toNat a2) x4) v12.1) fun x23 =>
 Option.bind (((s.set (Int.toNat a0) x2).set (Int.toNat a2) x4)[(Int.toNat v12.1)]?) fun x24 =>
 Option.bind (idx ((s.set (Int.toNat a0) x2).set (Int.toNat a2) x4) v9.1) fun x25 =>
 Option.bind (((s.set (Int.toNat a0) x2).set (Int.toNat a2) x4)[(Int.toNat v9.1)]?) fun x26 =>
 Option.bind (idx ((s.set (Int.toNat a0) x2).set (Int.toNat a2) x4) v9.1) fun x27 =>
 Option.bind (((s.set (Int.toNat a0) x2).set (Int.toNat a2) x4)[(Int.toNat v9.1)]?) fun x28 =>
 Option.bind (idx (((s.set (Int.toNat a0) x2).set (Int.toNat a2) x4).set (Int.toNat v9.1) x24) v12.1) fun x29 =>
 Option.bind ((((s.set (Int.toNat a0) x2).set (Int.toNat a2) x4).set (Int.toNat v9.1) x24)[(Int.toNat v12.1)]?) fun x30 =>
 loopO (fun (v31 : Int × Int × (List Int) × Unit) =>
 loopO (fun (v32 : Int × Unit) =>
 letJ (fun (v33 : Bool × Unit) =>
 bif v33.1 then
 some (Sum.inl ((addI .i64 v32.1 (1 : Int)), ()))
 else
 Option.map Sum.inr (loopO (fun (v35 : Int × Unit) =>
 letJ (fun (v36 : Bool × Unit) =>
 bif v36.1 then
 some (Sum.inl ((subI .i64 v35.1 (1 : Int)), ()))
 else
 Option.map Sum.inr (bif (decide (v35.1 < v32.1)) then
 Option.map Sum.inr (Option.bind (idx v31.2.2.1 a0) fun x38 =>
 Option.bind (v31.2.2.1[(Int.toNat a0)]?) fun x39 =>
 Option.bind (idx v31.2.2.1 v35.1) fun x40 =>
 Option.bind (v31.2.2.1[(Int.toNat v35.1)]?) fun x41 =>
 Option.bind (idx v31.2.2.1 v35.1) fun x42 =>
 Option.bind (v31.2.2.1[(Int.toNat v35.1)]?) fun x43 =>
 Option.bind (idx (v31.2.2.1.set (Int.toNat v35.1) x39) a0) fun x44 =>
 Option.bind ((v31.2.2.1.set (Int.toNat v35.1) x39)[(Int.toNat a0)]?) fun x45 =>
 some ((v35.1, false, ()), ((v31.2.2.1.set (Int.toNat v35.1) x39).set (Int.toNat a0) x41)))
 else
 Option.bind (idx v31.2.2.1 v35.1) fun x46 =>
 Option.bind (v31.2.2.1[(Int.toNat v35.1)]?) fun x47 =>
 Option.bind (idx v31.2.2.1 v32.1) fun x48 =>
 Option.bind (v31.2.2.1[(Int.toNat v32.1)]?) fun x49 =>
 Option.bind (idx v31.2.2.1 v32.1) fun x50 =>
 Option.bind (v31.2.2.1[(Int.toNat v32.1)]?) fun x51 =>
 Option.bind (idx (v31.2.2.1.set (Int.toNat v32.1) x47) v35.1) fun x52 =>
 Option.bind ((v31.2.2.1.set (Int.toNat v32.1) x47)[(Int.toNat v35.1)]?) fun x53 =>
 some (Sum.inl ((addI .i64 v32.1 (1 : Int)), (subI .i64 v35.1 (1 : Int)), ((v31.2.2.1.set (Int.toNat v32.1) x47).set (Int.toNat v35.1) x49), ())))) fun j37 =>
 bif (decide (v32.1 ≤ v35.1)) then
 Option.bind (idx v31.2.2.1 v35.1) fun x54 =>
 Option.bind (v31.2.2.1[(Int.toNat v35.1)]?) fun x55 =>
 Option.bind (idx v31.2.2.1 a0) fun x56 =>
 Option.bind (v31.2.2.1[(Int.toNat a0)]?) fun x57 =>
 Option.bind (F_cmp_Compare_int x55 x57) fun r58 =>
 j37 ((!(decide (r58 < (0 : Int)))), ())
 else
 j37 (false, ())) (v31.2.1, ()))) fun j34 =>
 bif (decide (v32.1 ≤ v31.2.1)) then
 Option.bind (idx v31.2.2.1 v32.1) fun x59 =>
 Option.bind (v31.2.2.1[(Int.toNat v32.1)]?) fun x60 =>
 Option.bind (idx v31.2.2.1 a0) fun x61 =>
 Option.bind (v31.2.2.1[(Int.toNat a0)]?) fun x62 =>
 Option.bind (F_cmp_Compare_int x60 x62) fun r63 =>
 j34 ((decide (r63 < (0 : Int))), ())
 else
 j34 (false, ())) (v31.1, ())) ((addI .i64 v9.1 (1 : Int)), (subI .i64 v12.1 (1 : Int)), ((((s.set (Int.toNat a0) x2).set (Int.toNat a2) x4).set (Int.toNat v9.1) x24).set (Int.toNat v12.1) x26), ()))) fun j14 =>
 bif (decide (v9.1 ≤ v12.1)) then
 Option.bind (idx ((s.set (Int.toNat a0) x2).set (Int.toNat a2) x4) v12.1) fun x64 =>
 Option.bind (((s.set (Int.toNat a0) x2).set (Int.toNat a2) x4)[(Int.toNat v12.1)]?) fun x65 =>
 Option.bind (idx ((s.set (Int.toNat a0) x2).set (Int.toNat a2) x4) a0) fun x66 =>
 Option.bind (((s.set (Int.toNat a0) x2).set (Int.toNat a2) x4)[(Int.toNat a0)]?) fun x67 =>
 Option.bind (F_cmp_Compare_int x65 x67) fun r68 =>
 j14 ((!(decide (r68 < (0 : Int)))), ())
 else
 j14 (false, ())) ((subI .i64 a1 (1 : Int)), ()))) fun j11 =>
 bif (decide (v9.1 ≤ (subI .i64 a1 (1 : Int)))) then
 Option.bind (idx ((s.set (Int.toNat a0) x2).set (Int.toNat a2) x4) v9.1) fun x69 =>
 Option.bind (((s.set (Int.toNat a0) x2).set (Int.toNat a2) x4)[(Int.toNat v9.1)]?) fun x70 =>
 Option.bind (idx ((s.set (Int.toNat a0) x2).set (Int.toNat a2) x4) a0) fun x71 =>
 Option.bind (((s.set (Int.toNat a0) x2).set (Int.toNat a2) x4)[(Int.toNat a0)]?) fun x72 =>
 Option.bind (F_cmp_Compare_int x70 x72) fun r73 =>
 j11 ((decide (r73 < (0 : Int))), ())
 else
 j11 (false, ())) ((addI .i64 a0 (1 : Int)), ())
noncomputable def k_slices_partitionCmpFunc_int_c93 : KFun U := .rw 225 3 1 (Ty.i .i64) [.ty (Ty.i .i64), .ty (Ty.i .i64), .ty (Ty.i .i64), .clo 93 []] (.many [(Ty.i .i64), Ty.bool]) fun s a => F_slices_partitionCmpFunc_int_c93 s a.1 a.2.1 a.2.2.1
theorem e_slices_partitionCmpFunc_int_c93 : rwK K [k_cmp_Compare_int] sa_slices_partitionCmpFunc_int_c93 [.tmp 10, .tmp 11] 3 1 (Ty.i .i64) [.ty (Ty.i .i64), .ty (Ty.i .i64), .ty (Ty.i .i64), .clo 93 []] (.many [(Ty.i .i64), Ty.bool]) = fun s a => F_slices_partitionCmpFunc_int_c93 s a.1 a.2.1 a.2.2.1 := by kernel_rfl
theorem s_slices_partitionCmpFunc_int_c93 : KFun.Sound (U := U) Tryz.prog k_slices_partitionCmpFunc_int_c93 := rwK_sound (K := K) (Γ := [k_cmp_Compare_int]) ok_slices_partitionCmpFunc_int_c93 (by kernel_rfl) (by decide) ⟨s_cmp_Compare_int, trivial⟩ (fun s a => congrFun (congrFun e_slices_partitionCmpFunc_int_c93 s) a)

/-! ### slices.pdqsortCmpFunc[int] -/
def sa_slices_pdqsortCmpFunc_int_c93 : SA U :=
 (.seq
 (.reg
 (op 10 (.mov (.cst (.bool true)))
 .nil))
 (.seq
 (.reg
 (op 11 (.mov (.cst (.bool true)))
 .nil))
 (.block 0
 (.loop ⟨[.val 1 (Ty.i .i64), .val 2 (Ty.i .i64), .val 3 (Ty.i .i64), .val 10 Ty.bool, .val 11 Ty.bool, .own 0 0 0 3 1 (Ty.i .i64)], [4]⟩
 (.block 1
 (.seq
 (.reg
 (op 21 (.mov (tm 2))
 (op 22 (.mov (tm 1))
 (op 23 (.bin .sub (tm 21) (tm 22))
 (op 12 (.mov (tm 23))
 .nil)))))
 (.seq
 (.seq
 (.reg
 (op 24 (.mov (tm 12))
 (op 25 (.bin .leq (tm 24) (ci 12))
 .nil)))
 (.cond (tm 25)
 (.seq
 (.reg
 (op 26 (.mov (tm 0))
 (op 27 (.mov (tm 1))
 (op 28 (.mov (tm 2))
 (op 29 (.mov (tm 4))
 (op 30 (.call 218 [(tm 26), (tm 27), (tm 28), (tm 29)])
 .nil))))))
 .ret)
 .skip))
 (.seq
 (.seq
 (.reg
 (op 31 (.mov (tm 3))
 (op 32 (.bin .eql (tm 31) (ci 0))
 .nil)))
 (.cond (tm 32)
 (.seq
 (.reg
 (op 33 (.mov (tm 0))
 (op 34 (.mov (tm 1))
 (op 35 (.mov (tm 2))
 (op 36 (.mov (tm 4))
 (op 37 (.call 219 [(tm 33), (tm 34), (tm 35), (tm 36)])
 .nil))))))
 .ret)
 .skip))
 (.join ⟨[.val 3 (Ty.i .i64), .own 0 0 0 3 1 (Ty.i .i64)], [1, 2, 4, 10, 11, 12]⟩
 (.seq
 (.reg
 (op 38 (.mov (tm 10))
 (op 39 (.not (tm 38))
 .nil)))
 (.cond (tm 39)
 (.seq
 (.reg
 (op 40 (.mov (tm 0))
 (op 41 (.mov (tm 1))
 (op 42 (.mov (tm 2))
 (op 43 (.mov (tm 4))
 (op 44 (.call 220 [(tm 40), (tm 41), (tm 42), (tm 43)])
 .nil))))))
 (.reg
 (op 45 (.mov (tm 3))
 (op 46 (.bin .sub (tm 45) (ci 1))
 (op 3 (.mov (tm 46))
 .nil)))))
 .skip))
 (.seq
 (.reg
 (op 48 (.mov (tm 0))
 (op 49 (.mov (tm 1))
 (op 50 (.mov (tm 2))
 (op 51 (.mov (tm 4))
 (op 52 (.call 221 [(tm 48), (tm 49), (tm 50), (tm 51)])
 (op 47 (.mov (tm 52))
 (op 53 (.extr 0 (tm 47))
 (op 54 (.extr 1 (tm 47))
 (op 13 (.mov (tm 53))
 (op 14 (.mov (tm 54))
 .nil)))))))))))
 (.join ⟨[.val 13 (Ty.i .i64), .val 14 (Ty.i .i64), .own 0 0 0 3 1 (Ty.i .i64)], [1, 2, 3, 4, 10, 11, 12]⟩
 (.seq
 (.reg
 (op 55 (.mov (tm 14))
 (op 56 (.bin .eql (tm 55) (ci 2))
 .nil)))
 (.cond (tm 56)
 (.seq
 (.reg
 (op 57 (.mov (tm 0))
 (op 58 (.mov (tm 1))
 (op 59 (.mov (tm 2))
 (op 60 (.mov (tm 4))
 (op 61 (.call 222 [(tm 57), (tm 58), (tm 59), (tm 60)])
 .nil))))))
 (.seq
 (.reg
 (op 62 (.mov (tm 2))
 (op 63 (.bin .sub (tm 62) (ci 1))
 (op 64 (.mov (tm 13))
 (op 65 (.mov (tm 1))
 (op 66 (.bin .sub (tm 64) (tm 65))
 (op 67 (.bin .sub (tm 63) (tm 66))
 (op 13 (.mov (tm 67))
 .nil))))))))
 (.reg
 (op 14 (.mov (ci 1))
 .nil))))
 .skip))
 (.join ⟨[.own 0 0 0 3 1 (Ty.i .i64)], [1, 2, 3, 4, 10, 11, 12, 13]⟩
 (.seq
 (.reg
 (op 68 (.mov (tm 10))
 (op 69 (.mov (tm 68))
 (.ite 69 true
 (opg 70 69 true (.mov (tm 11))
 .nil)
 71 none (tm 70) (.cst (.bool false))
 (op 72 (.mov (tm 71))
 (.ite 72 true
 (opg 73 72 true (.mov (tm 14))
 (opg 74 72 true (.bin .eql (tm 73) (ci 1))
 .nil))
 75 none (tm 74) (.cst (.bool false))
 .nil))))))
 (.cond (tm 75)
 (.seq
 (.reg
 (op 76 (.mov (tm 0))
 (op 77 (.mov (tm 1))
 (op 78 (.mov (tm 2))
 (op 79 (.mov (tm 4))
 (op 80 (.call 223 [(tm 76), (tm 77), (tm 78), (tm 79)])
 .nil))))))
 (.cond (tm 80)
 .ret
 .skip))
 .skip))
 (.seq
 (.join ⟨[.val 97 Ty.bool], [0, 1, 2, 3, 4, 10, 11, 12, 13]⟩
 (.drw [(7, 11), (8, 11), (7, 12), (8, 12)]
 (op 81 (.mov (tm 1))
 (op 82 (.bin .gtr (tm 81) (ci 0))
 (op 83 (.mov (tm 82))
 (.spl 83
 (opg 84 83 true (.mov (tm 4))
 (opg 85 83 true (.mov (tm 0))
 (opg 86 83 true (.mov (tm 1))
 (opg 87 83 true (.bin .sub (tm 86) (ci 1))
 (opg 88 83 true (.iaddr 1 (tm 85) (tm 87))
 (opg 89 83 true (.load none (tm 88))
 (opg 90 83 true (.mov (tm 0))
 (opg 91 83 true (.mov (tm 13))
 (opg 92 83 true (.iaddr 1 (tm 90) (tm 91))
 (opg 93 83 true (.load none (tm 92))
 (opg 94 83 true (.callv (tm 84) [(tm 89), (tm 93)])
 (opg 95 83 true (.bin .lss (tm 94) (ci 0))
 (opg 96 83 true (.not (tm 95))
 (op 97 (.pick (tm 83) (tm 96) (.cst (.bool false)))
 .nil)))))))))))))))))))
 (.cond (tm 97)
 (.seq
 (.reg
 (op 98 (.mov (tm 0))
 (op 99 (.mov (tm 1))
 (op 100 (.mov (tm 2))
 (op 101 (.mov (tm 13))
 (op 102 (.mov (tm 4))
 (op 103 (.call 224 [(tm 98), (tm 99), (tm 100), (tm 101), (tm 102)])
 (op 15 (.mov (tm 103))
 .nil))))))))
 (.seq
 (.reg
 (op 104 (.mov (tm 15))
 (op 1 (.mov (tm 104))
 .nil)))
 (.exit 1)))
 .skip))
 (.seq
 (.reg
 (op 106 (.mov (tm 0))
 (op 107 (.mov (tm 1))
 (op 108 (.mov (tm 2))
 (op 109 (.mov (tm 13))
 (op 110 (.mov (tm 4))
 (op 111 (.call 225 [(tm 106), (tm 107), (tm 108), (tm 109), (tm 110)])
 (op 105 (.mov (tm 111))
 (op 112 (.extr 0 (tm 105))
 (op 113 (.extr 1 (tm 105))
 (op 16 (.mov (tm 112))
 (op 17 (.mov (tm 113))
 .nil))))))))))))
 (.seq
 (.reg
 (op 114 (.mov (tm 17))
 (op 11 (.mov (tm 114))
 .nil)))
 (.seq
 (.reg
 (op 115 (.mov (tm 16))
 (op 116 (.mov (tm 1))
 (op 117 (.bin .sub (tm 115) (tm 116))
 (op 118 (.mov (tm 2))
 (op 119 (.mov (tm 16))
 (op 120 (.bin .sub (tm 118) (tm 119))
 (op 18 (.mov (tm 117))
 (op 19 (.mov (tm 120))
 .nil)))))))))
 (.seq
 (.reg
 (op 121 (.mov (tm 12))
 (op 122 (.bin .quo (tm 121) (ci 8))
 (op 20 (.mov (tm 122))
 .nil))))
 (.seq
 (.reg
 (op 123 (.mov (tm 18))
 (op 124 (.mov (tm 19))
 (op 125 (.bin .lss (tm 123) (tm 124))
 .nil))))
 (.cond (tm 125)
 (.seq
 (.reg
 (op 126 (.mov (tm 18))
 (op 127 (.mov (tm 20))
 (op 128 (.bin .geq (tm 126) (tm 127))
 (op 10 (.mov (tm 128))
 .nil)))))
 (.seq
 (.reg
 (op 129 (.mov (tm 0))
 (op 130 (.mov (tm 1))
 (op 131 (.mov (tm 16))
 (op 132 (.mov (tm 3))
 (op 133 (.mov (tm 4))
 (op 134 (.call 184 [(tm 129), (tm 130), (tm 131), (tm 132), (tm 133)])
 .nil)))))))
 (.reg
 (op 135 (.mov (tm 16))
 (op 136 (.bin .add (tm 135) (ci 1))
 (op 1 (.mov (tm 136))
 .nil))))))
 (.seq
 (.reg
 (op 137 (.mov (tm 19))
 (op 138 (.mov (tm 20))
 (op 139 (.bin .geq (tm 137) (tm 138))
 (op 10 (.mov (tm 139))
 .nil)))))
 (.seq
 (.reg
 (op 140 (.mov (tm 0))
 (op 141 (.mov (tm 16))
 (op 142 (.bin .add (tm 141) (ci 1))
 (op 143 (.mov (tm 2))
 (op 144 (.mov (tm 3))
 (op 145 (.mov (tm 4))
 (op 146 (.call 184 [(tm 140), (tm 142), (tm 143), (tm 144), (tm 145)])
 .nil))))))))
 (.reg
 (op 147 (.mov (tm 16))
 (op 2 (.mov (tm 147))
 .nil))))))))))))))))))))))))
theorem ok_slices_pdqsortCmpFunc_int_c93 : FnOk Tryz.prog 184 148 (SA.erase sa_slices_pdqsortCmpFunc_int_c93) [] := ⟨Tryz.f184, [], Tryz.func184, rfl, by kernel_rfl, by kernel_rfl, by kernel_rfl⟩
noncomputable def B_slices_pdqsortCmpFunc_int_c93 (rec : List Int → (Int × Int × Int × (Unit) × Unit) → Option ((Unit) × List Int)) (s : List Int) (a0 : Int) (a1 : Int) (a2 : Int) : Option ((Unit) × List Int) :=
 loopO (fun (v1 : Int × Int × Int × Bool × Bool × (List Int) × Unit) =>
 bif (decide ((subI .i64 v1.2.1 v1.1) ≤ (12 : Int))) then
 Option.bind (F_slices_insertionSortCmpFunc_int_c93 v1.2.2.2.2.2.1 v1.1 v1.2.1) fun p2 =>
 Option.map Sum.inr (some ((()), p2.2))
 else
 bif (decide (v1.2.2.1 = (0 : Int))) then
 Option.bind (F_slices_heapSortCmpFunc_int_c93 v1.2.2.2.2.2.1 v1.1 v1.2.1) fun p3 =>
 Option.map Sum.inr (some ((()), p3.2))
 else
 letJ (fun (v4 : Int × (List Int) × Unit) =>
 Option.bind (F_slices_choosePivotCmpFunc_int_c93 v4.2.1 v1.1 v1.2.1) fun r6 =>
 letJ (fun (v7 : Int × Int × (List Int) × Unit) =>
 letJ (fun (v9 : (List Int) × Unit) =>
 letJ (fun (v11 : Bool × Unit) =>
 bif v11.1 then
 Option.bind (F_slices_partitionEqualCmpFunc_int_c93 v9.1 v1.1 v1.2.1 v7.1) fun p13 =>
 some (Sum.inl (p13.1, v1.2.1, v4.1, v1.2.2.2.1, v1.2.2.2.2.1, p13.2, ()))
 else
 Option.bind (F_slices_partitionCmpFunc_int_c93 v9.1 v1.1 v1.2.1 v7.1) fun p14 =>
 bif (decide ((subI .i64 p14.1.1 v1.1) < (subI .i64 v1.2.1 p14.1.1))) then
 Option.bind (rec p14.2 (v1.1, p14.1.1, v4.1, (()), ())) fun p15 =>
 some (Sum.inl ((addI .i64 p14.1.1 (1 : Int)), v1.2.1, v4.1, (decide ((quoI .i64 (subI .i64 v1.2.1 v1.1) (8 : Int)) ≤ (subI .i64 p14.1.1 v1.1))), p14.1.2.1, p15.2, ()))
 else
 Option.bind (rec p14.2 ((addI .i64 p14.1.1 (1 : Int)), v1.2.1, v4.1, (()), ())) fun p16 =>
 some (Sum.inl (v1.1, p14.1.1, v4.1, (decide ((quoI .i64 (subI .i64 v1.2.1 v1.1) (8 : Int)) ≤ (subI .i64 v1.2.1 p14.1.1))), p14.1.2.1, p16.2, ()))) fun j12 =>
 bif (decide ((0 : Int) < v1.1)) then
 Option.bind (idx v9.1 (subI .i64 v1.1 (1 : Int))) fun x17 =>
 Option.bind (v9.1[(Int.toNat (subI .i64 v1.1 (1 : Int)))]?) fun x18 =>
 Option.bind (idx v9.1 v7.1) fun x19 =>
 Option.bind (v9.1[(Int.toNat v7.1)]?) fun x20 =>
 Option.bind (F_cmp_Compare_int x18 x20) fun r21 =>
 j12 ((!(decide (r21 < (0 : Int)))), ())
 else
 j12 (false, ())) fun j10 =>
 Option.bind (bif v1.2.2.2.1 then
 some v1.2.2.2.2.1
 else some false) fun b22 =>
 Option.bind (bif b22 then
 some (decide (v7.2.1 = (1 : Int)))
 else some false) fun b23 =>
 bif b23 then
 Option.bind (F_slices_partialInsertionSortCmpFunc_int_c93 v7.2.2.1 v1.1 v1.2.1) fun p24 =>
 bif p24.1 then
 Option.map Sum.inr (some ((()), p24.2))
 else
 j10 (p24.2, ())
 else
 j10 (v7.2.2.1, ())) fun j8 =>
 bif (decide (r6.2.1 = (2 : Int))) then
 Option.bind (F_slices_reverseRangeCmpFunc_int_c93 v4.2.1 v1.1 v1.2.1) fun p25 =>
 j8 ((subI .i64 (subI .i64 v1.2.1 (1 : Int)) (subI .i64 r6.1 v1.1)), (1 : Int), p25.2, ())
 else
 j8 (r6.1, r6.2.1, v4.2.1, ())) fun j5 =>
 bif (!v1.2.2.2.1) then
 Option.bind (F_slices_breakPatternsCmpFunc_int_c93 v1.2.2.2.2.2.1 v1.1 v1.2.1) fun p26 =>
 j5 ((subI .i64 v1.2.2.1 (1 : Int)), p26.2, ())
 else
 j5 (v1.2.2.1, v1.2.2.2.2.2.1, ())) (a0, a1, a2, true, true, s, ())
noncomputable def I_slices_pdqsortCmpFunc_int_c93 : Nat → List Int → (Int × Int × Int × (Unit) × Unit) → Option ((Unit) × List Int) := iterF2 (fun rec s a => B_slices_pdqsortCmpFunc_int_c93 rec s a.1 a.2.1 a.2.2.1)
noncomputable def F_slices_pdqsortCmpFunc_int_c93 (s : List Int) (a0 : Int) (a1 : Int) (a2 : Int) : Option ((Unit) × List Int) := I_slices_pdqsortCmpFunc_int_c93 (List.length s + 1) s (a0, a1, a2, (()), ())
noncomputable def k_slices_pdqsortCmpFunc_int_c93 : KFun U := .rw 184 3 1 (Ty.i .i64) [.ty (Ty.i .i64), .ty (Ty.i .i64), .ty (Ty.i .i64), .clo 93 []] (.many []) fun s a => F_slices_pdqsortCmpFunc_int_c93 s a.1 a.2.1 a.2.2.1
theorem e_slices_pdqsortCmpFunc_int_c93 : (fun G => rwK K (.rw 184 3 1 (Ty.i .i64) [.ty (Ty.i .i64), .ty (Ty.i .i64), .ty (Ty.i .i64), .clo 93 []] (.many []) G :: [k_slices_insertionSortCmpFunc_int_c93, k_slices_heapSortCmpFunc_int_c93, k_slices_breakPatternsCmpFunc_int_c93, k_slices_choosePivotCmpFunc_int_c93, k_slices_reverseRangeCmpFunc_int_c93, k_slices_partialInsertionSortCmpFunc_int_c93, k_cmp_Compare_int, k_slices_partitionEqualCmpFunc_int_c93, k_slices_partitionCmpFunc_int_c93]) sa_slices_pdqsortCmpFunc_int_c93 [] 3 1 (Ty.i .i64) [.ty (Ty.i .i64), .ty (Ty.i .i64), .ty (Ty.i .i64), .clo 93 []] (.many [])) = (fun G s a => B_slices_pdqsortCmpFunc_int_c93 G s a.1 a.2.1 a.2.2.1) := by kernel_rfl
theorem n_slices_pdqsortCmpFunc_int_c93 : ∀ n, KFun.Sound (U := U) Tryz.prog (.rw 184 3 1 (Ty.i .i64) [.ty (Ty.i .i64), .ty (Ty.i .i64), .ty (Ty.i .i64), .clo 93 []] (.many []) (I_slices_pdqsortCmpFunc_int_c93 n))
  | 0 => ⟨ok_slices_pdqsortCmpFunc_int_c93.enters, fun s a r ys h => by cases h⟩
  | n + 1 => rwK_sound (K := K) (r := .many []) (e := 3) (k := 1) (T := (Ty.i .i64)) («as» := [.ty (Ty.i .i64), .ty (Ty.i .i64), .ty (Ty.i .i64), .clo 93 []]) (Γ := .rw 184 3 1 (Ty.i .i64) [.ty (Ty.i .i64), .ty (Ty.i .i64), .ty (Ty.i .i64), .clo 93 []] (.many []) (I_slices_pdqsortCmpFunc_int_c93 n) :: [k_slices_insertionSortCmpFunc_int_c93, k_slices_heapSortCmpFunc_int_c93, k_slices_breakPatternsCmpFunc_int_c93, k_slices_choosePivotCmpFunc_int_c93, k_slices_reverseRangeCmpFunc_int_c93, k_slices_partialInsertionSortCmpFunc_int_c93, k_cmp_Compare_int, k_slices_partitionEqualCmpFunc_int_c93, k_slices_partitionCmpFunc_int_c93]) (F := I_slices_pdqsortCmpFunc_int_c93 (n + 1)) ok_slices_pdqsortCmpFunc_int_c93 (by kernel_rfl) (by decide) ⟨n_slices_pdqsortCmpFunc_int_c93 n, s_slices_insertionSortCmpFunc_int_c93, s_slices_heapSortCmpFunc_int_c93, s_slices_breakPatternsCmpFunc_int_c93, s_slices_choosePivotCmpFunc_int_c93, s_slices_reverseRangeCmpFunc_int_c93, s_slices_partialInsertionSortCmpFunc_int_c93, s_cmp_Compare_int, s_slices_partitionEqualCmpFunc_int_c93, s_slices_partitionCmpFunc_int_c93, trivial⟩ (fun s a => congrFun (congrFun (congrFun e_slices_pdqsortCmpFunc_int_c93 (I_slices_pdqsortCmpFunc_int_c93 n)) s) a)
theorem s_slices_pdqsortCmpFunc_int_c93 : KFun.Sound (U := U) Tryz.prog k_slices_pdqsortCmpFunc_int_c93 := ⟨ok_slices_pdqsortCmpFunc_int_c93.enters, fun s a r ys h => (n_slices_pdqsortCmpFunc_int_c93 _).2 s a r ys h⟩

/-! ### slices.SortFunc[[]int,int] -/
def sa_slices_SortFunc_int_int_c93 : SA U :=
 (.seq
 (.reg
 (op 5 (.mov (tm 0))
 (op 6 (.len false (tm 5))
 (op 4 (.mov (tm 6))
 .nil))))
 (.reg
 (op 7 (.mov (tm 0))
 (op 8 (.mov (tm 4))
 (op 9 (.mov (tm 4))
 (op 10 (.conv .u64 (tm 9))
 (op 11 (.call 181 [(tm 10)])
 (op 12 (.mov (tm 1))
 (op 13 (.call 184 [(tm 7), (ci 0), (tm 8), (tm 11), (tm 12)])
 .nil)))))))))
theorem ok_slices_SortFunc_int_int_c93 : FnOk Tryz.prog 152 14 (SA.erase sa_slices_SortFunc_int_int_c93) [] := ⟨Tryz.f152, [], Tryz.func152, rfl, by kernel_rfl, by kernel_rfl, by kernel_rfl⟩
noncomputable def F_slices_SortFunc_int_int_c93 (s : List Int)  : Option ((Unit) × List Int) :=
 Option.bind (F_math_bits_Len (convI .u64 ((List.length s : Nat) : Int))) fun r1 =>
 Option.bind (F_slices_pdqsortCmpFunc_int_c93 s (0 : Int) ((List.length s : Nat) : Int) r1) fun p2 =>
 some ((()), p2.2)
noncomputable def k_slices_SortFunc_int_int_c93 : KFun U := .rw 152 3 1 (Ty.i .i64) [.clo 93 []] (.many []) fun s a => F_slices_SortFunc_int_int_c93 s 
theorem e_slices_SortFunc_int_int_c93 : rwK K [k_math_bits_Len, k_slices_pdqsortCmpFunc_int_c93] sa_slices_SortFunc_int_int_c93 [] 3 1 (Ty.i .i64) [.clo 93 []] (.many []) = fun s a => F_slices_SortFunc_int_int_c93 s  := by kernel_rfl
theorem s_slices_SortFunc_int_int_c93 : KFun.Sound (U := U) Tryz.prog k_slices_SortFunc_int_int_c93 := rwK_sound (K := K) (Γ := [k_math_bits_Len, k_slices_pdqsortCmpFunc_int_c93]) ok_slices_SortFunc_int_int_c93 (by kernel_rfl) (by decide) ⟨s_math_bits_Len, s_slices_pdqsortCmpFunc_int_c93, trivial⟩ (fun s a => congrFun (congrFun e_slices_SortFunc_int_int_c93 s) a)

/-! ### slices.Compact[[]int,int] -/
def sa_slices_Compact_int_int : SA U :=
 (.seq
 (.reg
 (op 2 (.mov (.cst (.nils)))
 .nil))
 (.seq
 (.seq
 (.reg
 (op 6 (.mov (tm 0))
 (op 7 (.len false (tm 6))
 (op 8 (.bin .lss (tm 7) (ci 2))
 .nil))))
 (.cond (tm 8)
 (.seq
 (.reg
 (op 9 (.mov (tm 0))
 (op 2 (.mov (tm 9))
 .nil)))
 .ret)
 .skip))
 (.seq
 (.seq
 (.reg
 (op 3 (.mov (ci 1))
 .nil))
 (.block 0
 (.loop ⟨[.val 3 (Ty.i .i64), .own 0 0 0 3 1 (Ty.i .i64)], []⟩
 (.seq
 (.seq
 (.reg
 (op 10 (.mov (tm 3))
 (op 11 (.mov (tm 0))
 (op 12 (.len false (tm 11))
 (op 13 (.bin .lss (tm 10) (tm 12))
 .nil)))))
 (.cond (tm 13)
 .skip
 (.exit 0)))
 (.seq
 (.block 1
 (.seq
 (.drw [(2, 7), (3, 7), (2, 8), (3, 8)]
 (op 16 (.mov (tm 0))
 (op 17 (.mov (tm 3))
 (op 18 (.iaddr 1 (tm 16) (tm 17))
 (op 19 (.load none (tm 18))
 (op 20 (.mov (tm 0))
 (op 21 (.mov (tm 3))
 (op 22 (.bin .sub (tm 21) (ci 1))
 (op 23 (.iaddr 1 (tm 20) (tm 22))
 (op 24 (.load none (tm 23))
 (op 25 (.bin .eql (tm 19) (tm 24))
 .nil)))))))))))
 (.cond (tm 25)
 (.seq
 (.reg
 (op 26 (.mov (tm 0))
 (op 27 (.mov (tm 3))
 (op 28 (.slc 1 (tm 26) (some (tm 27)) none)
 (op 4 (.mov (tm 28))
 .nil)))))
 (.seq
 (.seq
 (.reg
 (op 5 (.mov (ci 1))
 .nil))
 (.block 2
 (.loop ⟨[.val 3 (Ty.i .i64), .val 5 (Ty.i .i64), .own 0 0 0 3 1 (Ty.i .i64)], [4]⟩
 (.seq
 (.seq
 (.reg
 (op 29 (.mov (tm 5))
 (op 30 (.mov (tm 4))
 (op 31 (.len false (tm 30))
 (op 32 (.bin .lss (tm 29) (tm 31))
 .nil)))))
 (.cond (tm 32)
 .skip
 (.exit 2)))
 (.join ⟨[.val 3 (Ty.i .i64), .own 0 0 0 3 1 (Ty.i .i64)], [4, 5]⟩
 (.block 3
 (.seq
 (.drw [(2, 7), (3, 7), (2, 8), (3, 8)]
 (op 35 (.mov (tm 4))
 (op 36 (.mov (tm 5))
 (op 37 (.iaddr 1 (tm 35) (tm 36))
 (op 38 (.load none (tm 37))
 (op 39 (.mov (tm 4))
 (op 40 (.mov (tm 5))
 (op 41 (.bin .sub (tm 40) (ci 1))
 (op 42 (.iaddr 1 (tm 39) (tm 41))
 (op 43 (.load none (tm 42))
 (op 44 (.bin .neq (tm 38) (tm 43))
 .nil)))))))))))
 (.cond (tm 44)
 (.seq
 (.reg
 (op 45 (.mov (tm 0))
 (op 46 (.mov (tm 3))
 (op 47 (.mov (tm 4))
 (op 48 (.mov (tm 5))
 (op 49 (.iaddr 1 (tm 47) (tm 48))
 (op 50 (.load none (tm 49))
 (op 51 (.iaddr 1 (tm 45) (tm 46))
 (ops (.store 1 (tm 51) (tm 50))
 .nil)))))))))
 (.reg
 (op 52 (.mov (tm 3))
 (op 53 (.bin .add (tm 52) (ci 1))
 (op 3 (.mov (tm 53))
 .nil)))))
 .skip)))
 (.reg
 (op 33 (.mov (tm 5))
 (op 34 (.bin .add (tm 33) (ci 1))
 (op 5 (.mov (tm 34))
 .nil)))))))))
 (.seq
 (.reg
 (op 54 (.mov (tm 0))
 (op 55 (.mov (tm 3))
 (op 56 (.slc 1 (tm 54) (some (tm 55)) none)
 (ops (.clear 1 [.int .i64 0] (tm 56))
 .nil)))))
 (.seq
 (.reg
 (op 57 (.mov (tm 0))
 (op 58 (.mov (tm 3))
 (op 59 (.slc 1 (tm 57) none (some (tm 58)))
 (op 2 (.mov (tm 59))
 (.ps (.cut 2)
 .nil))))))
 .ret))))
 .skip)))
 (.reg
 (op 14 (.mov (tm 3))
 (op 15 (.bin .add (tm 14) (ci 1))
 (op 3 (.mov (tm 15))
 .nil)))))))))
 (.seq
 (.reg
 (op 60 (.mov (tm 0))
 (op 2 (.mov (tm 60))
 .nil)))
 .ret))))
theorem ok_slices_Compact_int_int : FnOk Tryz.prog 153 61 (SA.erase sa_slices_Compact_int_int) [.tmp 2] := ⟨Tryz.f153, [], Tryz.func153, rfl, by kernel_rfl, by kernel_rfl, by kernel_rfl⟩
noncomputable def F_slices_Compact_int_int (s : List Int)  : Option (List Int) :=
 bif (decide (((List.length s : Nat) : Int) < (2 : Int))) then
 some s
 else
 loopO (fun (v1 : Int × (List Int) × Unit) =>
 bif (decide (v1.1 < ((List.length v1.2.1 : Nat) : Int))) then
 Option.bind (idx v1.2.1 v1.1) fun x2 =>
 Option.bind (v1.2.1[(Int.toNat v1.1)]?) fun x3 =>
 Option.bind (idx v1.2.1 (subI .i64 v1.1 (1 : Int))) fun x4 =>
 Option.bind (v1.2.1[(Int.toNat (subI .i64 v1.1 (1 : Int)))]?) fun x5 =>
 bif (decide (x3 = x5)) then
 bif slcOk v1.1 ((List.length v1.2.1) : Int) (List.length v1.2.1) then
 loopO (fun (v6 : Int × Int × (List Int) × Unit) =>
 bif (decide (v6.2.1 < ((List.length ((v6.2.2.1.drop (Int.toNat v1.1)).take (Int.toNat ((List.length v1.2.1) : Int) - Int.toNat v1.1)) : Nat) : Int))) then
 letJ (fun (v7 : Int × (List Int) × Unit) =>
 some (Sum.inl (v7.1, (addI .i64 v6.2.1 (1 : Int)), v7.2.1, ()))) fun j8 =>
 Option.bind (idx ((v6.2.2.1.drop (Int.toNat v1.1)).take (Int.toNat ((List.length v1.2.1) : Int) - Int.toNat v1.1)) v6.2.1) fun x9 =>
 Option.bind (v6.2.2.1[((Int.toNat v1.1) + Int.toNat v6.2.1)]?) fun x10 =>
 Option.bind (idx ((v6.2.2.1.drop (Int.toNat v1.1)).take (Int.toNat ((List.length v1.2.1) : Int) - Int.toNat v1.1)) (subI .i64 v6.2.1 (1 : Int))) fun x11 =>
 Option.bind (v6.2.2.1[((Int.toNat v1.1) + Int.toNat (subI .i64 v6.2.1 (1 : Int)))]?) fun x12 =>
 bif (!decide (x10 = x12)) then
 Option.bind (idx ((v6.2.2.1.drop (Int.toNat v1.1)).take (Int.toNat ((List.length v1.2.1) : Int) - Int.toNat v1.1)) v6.2.1) fun x13 =>
 Option.bind (v6.2.2.1[((Int.toNat v1.1) + Int.toNat v6.2.1)]?) fun x14 =>
 Option.bind (idx v6.2.2.1 v6.1) fun x15 =>
 Option.bind (v6.2.2.1[(Int.toNat v6.1)]?) fun x16 =>
 j8 ((addI .i64 v6.1 (1 : Int)), (v6.2.2.1.set (Int.toNat v6.1) x14), ())
 else
 j8 (v6.1, v6.2.2.1, ())
 else
 Option.map Sum.inr (bif slcOk v6.1 ((List.length v6.2.2.1) : Int) (List.length v6.2.2.1) then
 bif slcOk (0 : Int) v6.1 (List.length (v6.2.2.1.take (Int.toNat v6.1) ++ List.replicate (Int.toNat ((List.length v6.2.2.1) : Int) - Int.toNat v6.1) (0 : Int) ++ v6.2.2.1.drop ((Int.toNat v6.1) + (Int.toNat ((List.length v6.2.2.1) : Int) - Int.toNat v6.1)))) then
 Option.map Sum.inr (some ((v6.2.2.1.take (Int.toNat v6.1) ++ List.replicate (Int.toNat ((List.length v6.2.2.1) : Int) - Int.toNat v6.1) (0 : Int) ++ v6.2.2.1.drop ((Int.toNat v6.1) + (Int.toNat ((List.length v6.2.2.1) : Int) - Int.toNat v6.1))).take (Int.toNat v6.1 - Int.toNat (0 : Int))))
 else none
 else none)) (v1.1, (1 : Int), v1.2.1, ())
 else none
 else
 some (Sum.inl ((addI .i64 v1.1 (1 : Int)), v1.2.1, ()))
 else
 Option.map Sum.inr (some v1.2.1)) ((1 : Int), s, ())
noncomputable def k_slices_Compact_int_int : KFun U := .cw 153 3 1 (Ty.i .i64) [] fun s a => F_slices_Compact_int_int s 
theorem e_slices_Compact_int_int : cwK K [] sa_slices_Compact_int_int [.tmp 2] 3 1 (Ty.i .i64) [] = fun s a => F_slices_Compact_int_int s  := by kernel_rfl
theorem s_slices_Compact_int_int : KFun.Sound (U := U) Tryz.prog k_slices_Compact_int_int := cwK_sound (K := K) (Γ := []) ok_slices_Compact_int_int (by kernel_rfl) (by decide) trivial (fun s a => congrFun (congrFun e_slices_Compact_int_int s) a)

/-! ### trustquorum/envelopes.unique[int] -/
def sa_envelopes_unique_int_c93 : SA U :=
 (.seq
 (.reg
 (op 4 (.mov (.cst (.nils)))
 .nil))
 (.seq
 (.reg
 (op 5 (.mov (tm 0))
 (op 6 (.mov (tm 1))
 (op 7 (.call 152 [(tm 5), (tm 6)])
 .nil))))
 (.seq
 (.reg
 (op 8 (.mov (tm 0))
 (op 9 (.call 153 [(tm 8)])
 (op 4 (.mov (tm 9))
 .nil))))
 .ret)))
theorem ok_envelopes_unique_int_c93 : FnOk Tryz.prog 92 10 (SA.erase sa_envelopes_unique_int_c93) [.tmp 4] := ⟨Tryz.f92, [], Tryz.func92, rfl, by kernel_rfl, by kernel_rfl, by kernel_rfl⟩
noncomputable def F_envelopes_unique_int_c93 (s : List Int)  : Option (List Int) :=
 Option.bind (F_slices_SortFunc_int_int_c93 s) fun p1 =>
 Option.bind (F_slices_Compact_int_int p1.2) fun r2 =>
 some r2
noncomputable def k_envelopes_unique_int_c93 : KFun U := .cw 92 3 1 (Ty.i .i64) [.clo 93 []] fun s a => F_envelopes_unique_int_c93 s 
theorem e_envelopes_unique_int_c93 : cwK K [k_slices_SortFunc_int_int_c93, k_slices_Compact_int_int] sa_envelopes_unique_int_c93 [.tmp 4] 3 1 (Ty.i .i64) [.clo 93 []] = fun s a => F_envelopes_unique_int_c93 s  := by kernel_rfl
theorem s_envelopes_unique_int_c93 : KFun.Sound (U := U) Tryz.prog k_envelopes_unique_int_c93 := cwK_sound (K := K) (Γ := [k_slices_SortFunc_int_int_c93, k_slices_Compact_int_int]) ok_envelopes_unique_int_c93 (by kernel_rfl) (by decide) ⟨s_slices_SortFunc_int_int_c93, s_slices_Compact_int_int, trivial⟩ (fun s a => congrFun (congrFun e_envelopes_unique_int_c93 s) a)

/-! ### trustquorum/envelopes.Bounds -/
def sa_envelopes_Bounds : SA U :=
 (.seq
 (.reg
 (op 4 (.mov (.cst (.nils)))
 .nil))
 (.seq
 (.reg
 (op 5 (.mov (.cst (.nils)))
 .nil))
 (.seq
 (.seq
 (.reg
 (op 8 (.mov (tm 0))
 (op 9 (.len false (tm 8))
 (op 10 (.mov (ci 0))
 .nil))))
 (.block 0
 (.ps (.own 5 3 1 (Ty.i .i64))
 (.loop ⟨[.val 10 (Ty.i .i64), .own 5 5 1 3 1 (Ty.i .i64)], [1, 8, 9]⟩
 (.seq
 (.reg
 (op 11 (.bin .lss (tm 10) (tm 9))
 .nil))
 (.seq
 (.cond (tm 11)
 .skip
 (.exit 0))
 (.join ⟨[.own 5 5 1 3 1 (Ty.i .i64)], [1, 8, 9, 10]⟩
 (.block 1
 (.seq
 (.reg
 (op 12 (.iaddr 15 (tm 8) (tm 10))
 (op 13 (.load (some 15) (tm 12))
 (op 7 (.alloc [.int .i64 0, .int .i64 0, .int .i64 0, .int .i64 0, .nils, .nils, .int .i64 0, .int .i64 0, .str ⟨#[]⟩, .int .i64 0, .str ⟨#[]⟩, .int .i64 0, .str ⟨#[]⟩, .int .i64 0, .int .i64 0])
 (ops (.store 15 (tm 7) (tm 13))
 .nil)))))
 (.seq
 (.reg
 (op 14 (.load (some 15) (tm 7))
 (op 15 (.call 75 [(tm 14)])
 (op 16 (.mov (tm 15))
 (.ite 16 true
 (opg 17 16 true (.faddr 7 (tm 7))
 (opg 18 16 true (.faddr 1 (tm 17))
 (opg 19 16 true (.load none (tm 18))
 (opg 20 16 true (.mov (tm 1))
 (opg 21 16 true (.bin .eql (tm 19) (tm 20))
 .nil)))))
 22 none (tm 21) (.cst (.bool false))
 (op 23 (.mov (tm 22))
 (.ite 23 true
 (opg 24 23 true (.faddr 13 (tm 7))
 (opg 25 23 true (.load none (tm 24))
 (opg 26 23 true (.bin .neq (tm 25) (ci 0))
 .nil)))
 27 none (tm 26) (.cst (.bool false))
 .nil)))))))
 (.cond (tm 27)
 (.reg
 (op 28 (.mov (tm 5))
 (op 29 (.faddr 13 (tm 7))
 (op 30 (.load none (tm 29))
 (op 31 (.faddr 14 (tm 7))
 (op 32 (.load none (tm 31))
 (op 33 (.bsl false 3 1 (List.replicate 2 [.int .i64 0]) [(0, (tm 30)), (1, (tm 32))])
 (op 34 (.app 3 1 8 (tm 28) (tm 33))
 (op 5 (.mov (tm 34))
 .nil)))))))))
 .skip))))
 (.reg
 (op 35 (.bin .add (tm 10) (ci 1))
 (op 10 (.mov (tm 35))
 .nil))))))))))
 (.seq
 (.reg
 (op 36 (.mov (tm 5))
 (op 37 (.call 92 [(tm 36), (.cst (.clo 93 []))])
 (op 4 (.mov (tm 37))
 .nil))))
 .ret))))
theorem ok_envelopes_Bounds : FnOk Tryz.prog 19 38 (SA.erase sa_envelopes_Bounds) [.tmp 4] := ⟨Tryz.f19, [], Tryz.func19, rfl, by kernel_rfl, by kernel_rfl, by kernel_rfl⟩
noncomputable def F_envelopes_Bounds (a0 : (List TEnvelope)) (a1 : ByteArray) : Option (List Int) :=
 loopO (fun (v1 : Int × (List Int) × Unit) =>
 bif (decide (v1.1 < ((List.length a0 : Nat) : Int))) then
 letJ (fun (v2 : (List Int) × Unit) =>
 some (Sum.inl ((addI .i64 v1.1 (1 : Int)), v2.1, ()))) fun j3 =>
 Option.bind (idx a0 v1.1) fun x4 =>
 Option.bind (F_envelopes_Valid (TEnvelope.mk x4.Node x4.Slot x4.Seq (TTrust.mk x4.Trust.Threshold x4.Trust.Nodes x4.Trust.Inner) x4.Kind x4.Ballot x4.Prepared x4.Prime x4.Low x4.High)) fun r5 =>
 Option.bind (bif r5 then
 some (decide (x4.Ballot.Value = a1))
 else some false) fun b6 =>
 Option.bind (bif b6 then
 some (!decide (x4.Low = (0 : Int)))
 else some false) fun b7 =>
 bif b7 then
 bif lenOk 8 (List.length v1.2.1 + List.length [x4.Low, x4.High]) then
 j3 ((v1.2.1 ++ [x4.Low, x4.High]), ())
 else none
 else
 j3 (v1.2.1, ())
 else
 Option.map Sum.inr (Option.bind (F_envelopes_unique_int_c93 v1.2.1) fun r8 =>
 some r8)) ((0 : Int), ([] : List Int), ())
noncomputable def k_envelopes_Bounds : KFun U := .fn 19 [.ty (Ty.sl (Ty.st .Envelope)), .ty Ty.str] (.one (Ty.sl (Ty.i .i64))) fun a => F_envelopes_Bounds a.1 a.2.1
theorem e_envelopes_Bounds : fnK K [k_envelopes_Valid, k_envelopes_unique_int_c93] sa_envelopes_Bounds [.tmp 4] [.ty (Ty.sl (Ty.st .Envelope)), .ty Ty.str] (.one (Ty.sl (Ty.i .i64))) = fun a => F_envelopes_Bounds a.1 a.2.1 := by kernel_rfl
theorem s_envelopes_Bounds : KFun.Sound (U := U) Tryz.prog k_envelopes_Bounds := fnK_sound (K := K) (Γ := [k_envelopes_Valid, k_envelopes_unique_int_c93]) ok_envelopes_Bounds (by kernel_rfl) (by decide) ⟨s_envelopes_Valid, s_envelopes_unique_int_c93, trivial⟩ (fun a => congrFun e_envelopes_Bounds a)

/-! ### (trustquorum/envelopes.Right).from -/
def sa_envelopes_Right_from : SA U :=
 (.seq
 (.reg
 (op 4 (.box (tm 0))
 (op 8 (.mov (.cst (.bool false)))
 .nil)))
 (.seq
 (.reg
 (op 9 (.mov (tm 2))
 (op 10 (.bin .geq (tm 9) (ci 1))
 (op 11 (.mov (tm 10))
 (.ite 11 true
 (opg 12 11 true (.mov (tm 2))
 (opg 13 11 true (.mov (tm 3))
 (opg 14 11 true (.bin .leq (tm 12) (tm 13))
 .nil)))
 15 none (tm 14) (.cst (.bool false))
 (op 16 (.mov (tm 15))
 (.ite 16 true
 (opg 17 16 true (.faddr 0 (tm 4))
 (opg 18 16 true (.faddr 7 (tm 17))
 (opg 19 16 true (.faddr 1 (tm 18))
 (opg 20 16 true (.load none (tm 19))
 (opg 21 16 true (.mov (tm 1))
 (opg 22 16 true (.bin .eql (tm 20) (tm 21))
 .nil))))))
 23 none (tm 22) (.cst (.bool false))
 (op 24 (.mov (tm 23))
 (.ite 24 true
 (opg 25 24 true (.faddr 0 (tm 4))
 (opg 26 24 true (.faddr 13 (tm 25))
 (opg 27 24 true (.load none (tm 26))
 (opg 28 24 true (.mov (tm 2))
 (opg 29 24 true (.bin .leq (tm 27) (tm 28))
 .nil)))))
 30 none (tm 29) (.cst (.bool false))
 (op 8 (.mov (tm 30))
 .nil))))))))))
 .ret))
theorem ok_envelopes_Right_from : FnOk Tryz.prog 155 31 (SA.erase sa_envelopes_Right_from) [.tmp 8] := ⟨Tryz.f155, [], Tryz.func155, rfl, by kernel_rfl, by kernel_rfl, by kernel_rfl⟩
noncomputable def F_envelopes_Right_from (a0 : TRight) (a1 : ByteArray) (a2 : Int) (a3 : Int) : Option Bool :=
 Option.bind (bif (decide ((1 : Int) ≤ a2)) then
 some (decide (a2 ≤ a3))
 else some false) fun b1 =>
 Option.bind (bif b1 then
 some (decide (a0.Envelope.Ballot.Value = a1))
 else some false) fun b2 =>
 Option.bind (bif b2 then
 some (decide (a0.Envelope.Low ≤ a2))
 else some false) fun b3 =>
 some b3
noncomputable def k_envelopes_Right_from : KFun U := .fn 155 [.ty (Ty.st .Right), .ty Ty.str, .ty (Ty.i .i64), .ty (Ty.i .i64)] (.one Ty.bool) fun a => F_envelopes_Right_from a.1 a.2.1 a.2.2.1 a.2.2.2.1
theorem e_envelopes_Right_from : fnK K [] sa_envelopes_Right_from [.tmp 8] [.ty (Ty.st .Right), .ty Ty.str, .ty (Ty.i .i64), .ty (Ty.i .i64)] (.one Ty.bool) = fun a => F_envelopes_Right_from a.1 a.2.1 a.2.2.1 a.2.2.2.1 := by kernel_rfl
theorem s_envelopes_Right_from : KFun.Sound (U := U) Tryz.prog k_envelopes_Right_from := fnK_sound (K := K) (Γ := []) ok_envelopes_Right_from (by kernel_rfl) (by decide) trivial (fun a => congrFun e_envelopes_Right_from a)

/-! ### (trustquorum/envelopes.Right).VotesCommit -/
def sa_envelopes_Right_VotesCommit : SA U :=
 (.seq
 (.reg
 (op 4 (.box (tm 0))
 (op 8 (.mov (.cst (.bool false)))
 .nil)))
 (.seq
 (.reg
 (op 9 (.load (some 15) (tm 4))
 (op 10 (.mov (tm 1))
 (op 11 (.mov (tm 2))
 (op 12 (.mov (tm 3))
 (op 13 (.call 155 [(tm 9), (tm 10), (tm 11), (tm 12)])
 (op 14 (.mov (tm 13))
 (.ite 14 true
 (opg 15 14 true (.faddr 0 (tm 4))
 (opg 16 14 true (.faddr 6 (tm 15))
 (opg 17 14 true (.load none (tm 16))
 (opg 18 14 true (.bin .neq (tm 17) (ci 1))
 (opg 19 14 true (.mov (tm 18))
 (.ite 19 false
 (opg 20 19 false (.faddr 0 (tm 4))
 (opg 21 19 false (.faddr 13 (tm 20))
 (opg 22 19 false (.load none (tm 21))
 (opg 23 19 false (.bin .neq (tm 22) (ci 0))
 (opg 24 19 false (.mov (tm 23))
 (.ite 24 true
 (opg 25 24 true (.mov (tm 3))
 (opg 26 24 true (.faddr 0 (tm 4))
 (opg 27 24 true (.faddr 14 (tm 26))
 (opg 28 24 true (.load none (tm 27))
 (opg 29 24 true (.bin .leq (tm 25) (tm 28))
 .nil)))))
 30 (some (19, false)) (tm 29) (.cst (.bool false))
 .nil))))))
 31 (some (14, true)) (.cst (.bool true)) (tm 30)
 .nil))))))
 32 none (tm 31) (.cst (.bool false))
 (op 8 (.mov (tm 32))
 .nil)))))))))
 .ret))
theorem ok_envelopes_Right_VotesCommit : FnOk Tryz.prog 94 33 (SA.erase sa_envelopes_Right_VotesCommit) [.tmp 8] := ⟨Tryz.f94, [], Tryz.func94, rfl, by kernel_rfl, by kernel_rfl, by kernel_rfl⟩
noncomputable def F_envelopes_Right_VotesCommit (a0 : TRight) (a1 : ByteArray) (a2 : Int) (a3 : Int) : Option Bool :=
 Option.bind (F_envelopes_Right_from (TRight.mk (TEnvelope.mk a0.Envelope.Node a0.Envelope.Slot a0.Envelope.Seq (TTrust.mk a0.Envelope.Trust.Threshold a0.Envelope.Trust.Nodes a0.Envelope.Trust.Inner) a0.Envelope.Kind a0.Envelope.Ballot a0.Envelope.Prepared a0.Envelope.Prime a0.Envelope.Low a0.Envelope.High)) a1 a2 a3) fun r1 =>
 Option.bind (bif r1 then
 Option.bind (bif (!decide (a0.Envelope.Kind = (1 : Int))) then some true
 else
 Option.bind (bif (!decide (a0.Envelope.Low = (0 : Int))) then
 some (decide (a3 ≤ a0.Envelope.High))
 else some false) fun b2 =>
 some b2) fun b3 =>
 some b3
 else some false) fun b4 =>
 some b4
noncomputable def k_envelopes_Right_VotesCommit : KFun U := .fn 94 [.ty (Ty.st .Right), .ty Ty.str, .ty (Ty.i .i64), .ty (Ty.i .i64)] (.one Ty.bool) fun a => F_envelopes_Right_VotesCommit a.1 a.2.1 a.2.2.1 a.2.2.2.1
theorem e_envelopes_Right_VotesCommit : fnK K [k_envelopes_Right_from] sa_envelopes_Right_VotesCommit [.tmp 8] [.ty (Ty.st .Right), .ty Ty.str, .ty (Ty.i .i64), .ty (Ty.i .i64)] (.one Ty.bool) = fun a => F_envelopes_Right_VotesCommit a.1 a.2.1 a.2.2.1 a.2.2.2.1 := by kernel_rfl
theorem s_envelopes_Right_VotesCommit : KFun.Sound (U := U) Tryz.prog k_envelopes_Right_VotesCommit := fnK_sound (K := K) (Γ := [k_envelopes_Right_from]) ok_envelopes_Right_VotesCommit (by kernel_rfl) (by decide) ⟨s_envelopes_Right_from, trivial⟩ (fun a => congrFun e_envelopes_Right_VotesCommit a)

/-! ### trustquorum/envelopes.VotesCommit -/
def sa_envelopes_VotesCommit : SA U :=
 (.seq
 (.reg
 (op 4 (.box (tm 0))
 (op 8 (.mov (.cst (.bool false)))
 .nil)))
 (.seq
 (.reg
 (op 9 (.load (some 15) (tm 4))
 (op 10 (.call 75 [(tm 9)])
 (op 11 (.mov (tm 10))
 (.ite 11 true
 (opg 12 11 true (.load (some 15) (tm 4))
 (opg 13 11 true (.build [.int .i64 0, .int .i64 0, .int .i64 0, .int .i64 0, .nils, .nils, .int .i64 0, .int .i64 0, .str ⟨#[]⟩, .int .i64 0, .str ⟨#[]⟩, .int .i64 0, .str ⟨#[]⟩, .int .i64 0, .int .i64 0] [(0, 15, (tm 12))])
 (opg 14 11 true (.mov (tm 1))
 (opg 15 11 true (.mov (tm 2))
 (opg 16 11 true (.mov (tm 3))
 (opg 17 11 true (.call 94 [(tm 13), (tm 14), (tm 15), (tm 16)])
 .nil))))))
 18 none (tm 17) (.cst (.bool false))
 (op 8 (.mov (tm 18))
 .nil))))))
 .ret))
theorem ok_envelopes_VotesCommit : FnOk Tryz.prog 20 19 (SA.erase sa_envelopes_VotesCommit) [.tmp 8] := ⟨Tryz.f20, [], Tryz.func20, rfl, by kernel_rfl, by kernel_rfl, by kernel_rfl⟩
noncomputable def F_envelopes_VotesCommit (a0 : TEnvelope) (a1 : ByteArray) (a2 : Int) (a3 : Int) : Option Bool :=
 Option.bind (F_envelopes_Valid (TEnvelope.mk a0.Node a0.Slot a0.Seq (TTrust.mk a0.Trust.Threshold a0.Trust.Nodes a0.Trust.Inner) a0.Kind a0.Ballot a0.Prepared a0.Prime a0.Low a0.High)) fun r1 =>
 Option.bind (bif r1 then
 Option.bind (F_envelopes_Right_VotesCommit (TRight.mk (TEnvelope.mk a0.Node a0.Slot a0.Seq (TTrust.mk a0.Trust.Threshold a0.Trust.Nodes a0.Trust.Inner) a0.Kind a0.Ballot a0.Prepared a0.Prime a0.Low a0.High)) a1 a2 a3) fun r2 =>
 some r2
 else some false) fun b3 =>
 some b3
noncomputable def k_envelopes_VotesCommit : KFun U := .fn 20 [.ty (Ty.st .Envelope), .ty Ty.str, .ty (Ty.i .i64), .ty (Ty.i .i64)] (.one Ty.bool) fun a => F_envelopes_VotesCommit a.1 a.2.1 a.2.2.1 a.2.2.2.1
theorem e_envelopes_VotesCommit : fnK K [k_envelopes_Valid, k_envelopes_Right_VotesCommit] sa_envelopes_VotesCommit [.tmp 8] [.ty (Ty.st .Envelope), .ty Ty.str, .ty (Ty.i .i64), .ty (Ty.i .i64)] (.one Ty.bool) = fun a => F_envelopes_VotesCommit a.1 a.2.1 a.2.2.1 a.2.2.2.1 := by kernel_rfl
theorem s_envelopes_VotesCommit : KFun.Sound (U := U) Tryz.prog k_envelopes_VotesCommit := fnK_sound (K := K) (Γ := [k_envelopes_Valid, k_envelopes_Right_VotesCommit]) ok_envelopes_VotesCommit (by kernel_rfl) (by decide) ⟨s_envelopes_Valid, s_envelopes_Right_VotesCommit, trivial⟩ (fun a => congrFun e_envelopes_VotesCommit a)

/-! ### trustquorum/trustquorumplay.Flat -/
def sa_play_Flat : SA U :=
 (.seq
 (.reg
 (op 4 (.alloc [.int .i64 0, .nils, .nils])
 .nil))
 (.seq
 (.reg
 (op 7 (.mov (tm 1))
 (op 8 (.build [.int .i64 0, .nils, .nils] [(0, 1, (tm 7))])
 (op 5 (.alloc [.int .i64 0, .nils, .nils])
 (ops (.store 3 (tm 5) (tm 8))
 .nil)))))
 (.seq
 (.seq
 (.reg
 (op 6 (.mov (ci 0))
 .nil))
 (.block 0
 (.ps (.ownB 5 1 3 1 (Ty.i .i64))
 (.loop ⟨[.val 6 (Ty.i .i64), .box 3 1 (Ty.st .Trust) [(1, 6, 1)], .rowb 6 1 3 1 (Ty.i .i64)], [0, 4, 5]⟩
 (.seq
 (.seq
 (.reg
 (op 9 (.mov (tm 6))
 (op 10 (.mov (tm 0))
 (op 11 (.bin .lss (tm 9) (tm 10))
 .nil))))
 (.cond (tm 11)
 .skip
 (.exit 0)))
 (.seq
 (.block 1
 (.reg
 (op 14 (.faddr 1 (tm 5))
 (op 15 (.load none (tm 14))
 (op 16 (.mov (tm 6))
 (op 17 (.bsl false 3 1 (List.replicate 1 [.int .i64 0]) [(0, (tm 16))])
 (op 18 (.app 3 1 8 (tm 15) (tm 17))
 (op 19 (.faddr 1 (tm 5))
 (ops (.store 1 (tm 19) (tm 18))
 .nil)))))))))
 (.reg
 (op 12 (.mov (tm 6))
 (op 13 (.bin .add (tm 12) (ci 1))
 (op 6 (.mov (tm 13))
 .nil))))))))))
 (.seq
 (.reg
 (op 20 (.load (some 3) (tm 5))
 (ops (.store 3 (tm 4) (tm 20))
 .nil)))
 .ret))))
theorem ok_play_Flat : FnOk Tryz.prog 30 21 (SA.erase sa_play_Flat) [.cell 4 (some 3)] := ⟨Tryz.f30, [], Tryz.func30, rfl, by kernel_rfl, by kernel_rfl, by kernel_rfl⟩
noncomputable def F_play_Flat (a0 : Int) (a1 : Int) : Option TTrust :=
 loopO (fun (v1 : Int × TTrust × (List Int) × Unit) =>
 bif (decide (v1.1 < a0)) then
 bif lenOk 8 (List.length v1.2.2.1 + List.length [v1.1]) then
 some (Sum.inl ((addI .i64 v1.1 (1 : Int)), (TTrust.mk v1.2.1.Threshold ([] : List Int) v1.2.1.Inner), (v1.2.2.1 ++ [v1.1]), ()))
 else none
 else
 Option.map Sum.inr (some (TTrust.mk v1.2.1.Threshold v1.2.2.1 v1.2.1.Inner))) ((0 : Int), (TTrust.mk a1 ([] : List Int) ([] : List TTrust)), ([] : List Int), ())
noncomputable def k_play_Flat : KFun U := .fn 30 [.ty (Ty.i .i64), .ty (Ty.i .i64)] (.one (Ty.st .Trust)) fun a => F_play_Flat a.1 a.2.1
theorem e_play_Flat : fnK K [] sa_play_Flat [.cell 4 (some 3)] [.ty (Ty.i .i64), .ty (Ty.i .i64)] (.one (Ty.st .Trust)) = fun a => F_play_Flat a.1 a.2.1 := by kernel_rfl
theorem s_play_Flat : KFun.Sound (U := U) Tryz.prog k_play_Flat := fnK_sound (K := K) (Γ := []) ok_play_Flat (by kernel_rfl) (by decide) trivial (fun a => congrFun e_play_Flat a)

/-! ### (trustquorum/envelopes.Right).AcceptsCommit -/
def sa_envelopes_Right_AcceptsCommit : SA U :=
 (.seq
 (.reg
 (op 4 (.box (tm 0))
 (op 8 (.mov (.cst (.bool false)))
 .nil)))
 (.seq
 (.reg
 (op 9 (.load (some 15) (tm 4))
 (op 10 (.mov (tm 1))
 (op 11 (.mov (tm 2))
 (op 12 (.mov (tm 3))
 (op 13 (.call 155 [(tm 9), (tm 10), (tm 11), (tm 12)])
 (op 14 (.mov (tm 13))
 (.ite 14 true
 (opg 15 14 true (.faddr 0 (tm 4))
 (opg 16 14 true (.faddr 6 (tm 15))
 (opg 17 14 true (.load none (tm 16))
 (opg 18 14 true (.bin .eql (tm 17) (ci 3))
 (opg 19 14 true (.mov (tm 18))
 (.ite 19 false
 (opg 20 19 false (.faddr 0 (tm 4))
 (opg 21 19 false (.faddr 6 (tm 20))
 (opg 22 19 false (.load none (tm 21))
 (opg 23 19 false (.bin .eql (tm 22) (ci 2))
 (opg 24 19 false (.mov (tm 23))
 (.ite 24 true
 (opg 25 24 true (.mov (tm 3))
 (opg 26 24 true (.faddr 0 (tm 4))
 (opg 27 24 true (.faddr 14 (tm 26))
 (opg 28 24 true (.load none (tm 27))
 (opg 29 24 true (.bin .leq (tm 25) (tm 28))
 .nil)))))
 30 (some (19, false)) (tm 29) (.cst (.bool false))
 .nil))))))
 31 (some (14, true)) (.cst (.bool true)) (tm 30)
 .nil))))))
 32 none (tm 31) (.cst (.bool false))
 (op 8 (.mov (tm 32))
 .nil)))))))))
 .ret))
theorem ok_envelopes_Right_AcceptsCommit : FnOk Tryz.prog 143 33 (SA.erase sa_envelopes_Right_AcceptsCommit) [.tmp 8] := ⟨Tryz.f143, [], Tryz.func143, rfl, by kernel_rfl, by kernel_rfl, by kernel_rfl⟩
noncomputable def F_envelopes_Right_AcceptsCommit (a0 : TRight) (a1 : ByteArray) (a2 : Int) (a3 : Int) : Option Bool :=
 Option.bind (F_envelopes_Right_from (TRight.mk (TEnvelope.mk a0.Envelope.Node a0.Envelope.Slot a0.Envelope.Seq (TTrust.mk a0.Envelope.Trust.Threshold a0.Envelope.Trust.Nodes a0.Envelope.Trust.Inner) a0.Envelope.Kind a0.Envelope.Ballot a0.Envelope.Prepared a0.Envelope.Prime a0.Envelope.Low a0.Envelope.High)) a1 a2 a3) fun r1 =>
 Option.bind (bif r1 then
 Option.bind (bif (decide (a0.Envelope.Kind = (3 : Int))) then some true
 else
 Option.bind (bif (decide (a0.Envelope.Kind = (2 : Int))) then
 some (decide (a3 ≤ a0.Envelope.High))
 else some false) fun b2 =>
 some b2) fun b3 =>
 some b3
 else some false) fun b4 =>
 some b4
noncomputable def k_envelopes_Right_AcceptsCommit : KFun U := .fn 143 [.ty (Ty.st .Right), .ty Ty.str, .ty (Ty.i .i64), .ty (Ty.i .i64)] (.one Ty.bool) fun a => F_envelopes_Right_AcceptsCommit a.1 a.2.1 a.2.2.1 a.2.2.2.1
theorem e_envelopes_Right_AcceptsCommit : fnK K [k_envelopes_Right_from] sa_envelopes_Right_AcceptsCommit [.tmp 8] [.ty (Ty.st .Right), .ty Ty.str, .ty (Ty.i .i64), .ty (Ty.i .i64)] (.one Ty.bool) = fun a => F_envelopes_Right_AcceptsCommit a.1 a.2.1 a.2.2.1 a.2.2.2.1 := by kernel_rfl
theorem s_envelopes_Right_AcceptsCommit : KFun.Sound (U := U) Tryz.prog k_envelopes_Right_AcceptsCommit := fnK_sound (K := K) (Γ := [k_envelopes_Right_from]) ok_envelopes_Right_AcceptsCommit (by kernel_rfl) (by decide) ⟨s_envelopes_Right_from, trivial⟩ (fun a => congrFun e_envelopes_Right_AcceptsCommit a)

/-! ### trustquorum/envelopes.AcceptsCommit -/
def sa_envelopes_AcceptsCommit : SA U :=
 (.seq
 (.reg
 (op 4 (.box (tm 0))
 (op 8 (.mov (.cst (.bool false)))
 .nil)))
 (.seq
 (.reg
 (op 9 (.load (some 15) (tm 4))
 (op 10 (.call 75 [(tm 9)])
 (op 11 (.mov (tm 10))
 (.ite 11 true
 (opg 12 11 true (.load (some 15) (tm 4))
 (opg 13 11 true (.build [.int .i64 0, .int .i64 0, .int .i64 0, .int .i64 0, .nils, .nils, .int .i64 0, .int .i64 0, .str ⟨#[]⟩, .int .i64 0, .str ⟨#[]⟩, .int .i64 0, .str ⟨#[]⟩, .int .i64 0, .int .i64 0] [(0, 15, (tm 12))])
 (opg 14 11 true (.mov (tm 1))
 (opg 15 11 true (.mov (tm 2))
 (opg 16 11 true (.mov (tm 3))
 (opg 17 11 true (.call 143 [(tm 13), (tm 14), (tm 15), (tm 16)])
 .nil))))))
 18 none (tm 17) (.cst (.bool false))
 (op 8 (.mov (tm 18))
 .nil))))))
 .ret))
theorem ok_envelopes_AcceptsCommit : FnOk Tryz.prog 81 19 (SA.erase sa_envelopes_AcceptsCommit) [.tmp 8] := ⟨Tryz.f81, [], Tryz.func81, rfl, by kernel_rfl, by kernel_rfl, by kernel_rfl⟩
noncomputable def F_envelopes_AcceptsCommit (a0 : TEnvelope) (a1 : ByteArray) (a2 : Int) (a3 : Int) : Option Bool :=
 Option.bind (F_envelopes_Valid (TEnvelope.mk a0.Node a0.Slot a0.Seq (TTrust.mk a0.Trust.Threshold a0.Trust.Nodes a0.Trust.Inner) a0.Kind a0.Ballot a0.Prepared a0.Prime a0.Low a0.High)) fun r1 =>
 Option.bind (bif r1 then
 Option.bind (F_envelopes_Right_AcceptsCommit (TRight.mk (TEnvelope.mk a0.Node a0.Slot a0.Seq (TTrust.mk a0.Trust.Threshold a0.Trust.Nodes a0.Trust.Inner) a0.Kind a0.Ballot a0.Prepared a0.Prime a0.Low a0.High)) a1 a2 a3) fun r2 =>
 some r2
 else some false) fun b3 =>
 some b3
noncomputable def k_envelopes_AcceptsCommit : KFun U := .fn 81 [.ty (Ty.st .Envelope), .ty Ty.str, .ty (Ty.i .i64), .ty (Ty.i .i64)] (.one Ty.bool) fun a => F_envelopes_AcceptsCommit a.1 a.2.1 a.2.2.1 a.2.2.2.1
theorem e_envelopes_AcceptsCommit : fnK K [k_envelopes_Valid, k_envelopes_Right_AcceptsCommit] sa_envelopes_AcceptsCommit [.tmp 8] [.ty (Ty.st .Envelope), .ty Ty.str, .ty (Ty.i .i64), .ty (Ty.i .i64)] (.one Ty.bool) = fun a => F_envelopes_AcceptsCommit a.1 a.2.1 a.2.2.1 a.2.2.2.1 := by kernel_rfl
theorem s_envelopes_AcceptsCommit : KFun.Sound (U := U) Tryz.prog k_envelopes_AcceptsCommit := fnK_sound (K := K) (Γ := [k_envelopes_Valid, k_envelopes_Right_AcceptsCommit]) ok_envelopes_AcceptsCommit (by kernel_rfl) (by decide) ⟨s_envelopes_Valid, s_envelopes_Right_AcceptsCommit, trivial⟩ (fun a => congrFun e_envelopes_AcceptsCommit a)

end Go.Proofs.YtncjalhhkmojlaaGreat
