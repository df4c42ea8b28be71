/-
  Functions of the program as plain functions, each held against the program by the kernel. Printed by a program.
-/
import Derived.Test.YtncjalhhkmojlaaUni
import Derived.Test.YtncjalhhkmojlaaProg
import Derived.KernelRfl
set_option linter.unusedVariables false
namespace Go.Proofs.Ytncjalhhkmojlaa
open Go.TQ

/-! ### trustquorum/trustquorumplay.New -/
def sa_play_New : SA U :=
 (.seq
 (.reg
 (op 2 (.mov (.cst (.nilp)))
 .nil))
 (.seq
 (.reg
 (op 3 (.mov (tm 0))
 (op 4 (.mov (tm 0))
 (op 5 (.len false (tm 4))
 (op 6 (.minmax false (tm 5) (ci 800))
 (op 7 (.slc 1 (tm 3) none (some (tm 6)))
 (op 8 (.build [.nils, .int .i64 0] [(0, 1, (tm 7))])
 (op 9 (.box (tm 8))
 (op 2 (.mov (tm 9))
 .nil)))))))))
 .ret))
theorem ok_play_New : FnOk Try.prog 11 10 (SA.erase sa_play_New) [.tmp 2] := ⟨Try.f11, [], Try.func11, rfl, by kernel_rfl, by kernel_rfl, by kernel_rfl⟩
noncomputable def F_play_New (a0 : (List Int)) : Option TSrc :=
 bif slcOk (0 : Int) (minI ((List.length a0 : Nat) : Int) (800 : Int)) (List.length a0) then
 some (TSrc.mk ((a0.take (Int.toNat (minI ((List.length a0 : Nat) : Int) (800 : Int)))).drop (Int.toNat (0 : Int))) (0 : Int))
 else none
noncomputable def k_play_New : KFun U := .nw 11 [.ty (Ty.sl (Ty.i .i64))] (Ty.st .Src) fun a => F_play_New a.1
theorem e_play_New : nwK K [] sa_play_New [.tmp 2] [.ty (Ty.sl (Ty.i .i64))] (Ty.st .Src) = fun a => F_play_New a.1 := by kernel_rfl
theorem s_play_New : KFun.Sound (U := U) Try.prog k_play_New := nwK_sound (K := K) (Γ := []) ok_play_New (by kernel_rfl) (by decide) trivial (fun a => congrFun e_play_New a)

/-! ### (*trustquorum/trustquorumplay.Src).N -/
def sa_play_Src_N : SA U :=
 (.seq
 (.reg
 (op 4 (.mov (ci 0))
 .nil))
 (.seq
 (.join ⟨[.val 18 Ty.bool], [0, 1]⟩
 (.drw [(1, 5), (2, 5), (3, 5), (1, 6), (2, 6), (3, 6), (1, 7), (2, 7), (3, 7), (1, 8), (2, 8), (3, 8)]
 (op 5 (.mov (tm 0))
 (op 6 (.nilck (tm 5))
 (op 7 (.faddr 1 (tm 6))
 (op 8 (.load none (tm 7))
 (op 9 (.mov (tm 0))
 (op 10 (.nilck (tm 9))
 (op 11 (.faddr 0 (tm 10))
 (op 12 (.load none (tm 11))
 (op 13 (.len false (tm 12))
 (op 14 (.bin .geq (tm 8) (tm 13))
 (op 15 (.mov (tm 14))
 (.spl 15
 (opg 16 15 false (.mov (tm 1))
 (opg 17 15 false (.bin .lss (tm 16) (ci 1))
 (op 18 (.pick (tm 15) (.cst (.bool true)) (tm 17))
 .nil))))))))))))))))
 (.cond (tm 18)
 (.seq
 (.reg
 (op 4 (.mov (ci 0))
 .nil))
 .ret)
 .skip))
 (.seq
 (.reg
 (op 19 (.mov (tm 0))
 (op 20 (.nilck (tm 19))
 (op 21 (.faddr 1 (tm 20))
 (op 22 (.load none (tm 21))
 (op 23 (.bin .add (tm 22) (ci 1))
 (op 24 (.nilck (tm 19))
 (op 25 (.faddr 1 (tm 24))
 (ops (.store 1 (tm 25) (tm 23))
 .nil)))))))))
 (.seq
 (.drw [(1, 5), (2, 5), (3, 5), (1, 6), (2, 6), (3, 6), (1, 7), (2, 7), (3, 7)]
 (op 26 (.mov (tm 0))
 (op 27 (.nilck (tm 26))
 (op 28 (.faddr 0 (tm 27))
 (op 29 (.load none (tm 28))
 (op 30 (.mov (tm 0))
 (op 31 (.nilck (tm 30))
 (op 32 (.faddr 1 (tm 31))
 (op 33 (.load none (tm 32))
 (op 34 (.bin .sub (tm 33) (ci 1))
 (op 35 (.iaddr 1 (tm 29) (tm 34))
 (op 36 (.load none (tm 35))
 (op 37 (.mov (tm 1))
 (op 38 (.bin .rem (tm 36) (tm 37))
 (op 39 (.mov (tm 1))
 (op 40 (.bin .add (tm 38) (tm 39))
 (op 41 (.mov (tm 1))
 (op 42 (.bin .rem (tm 40) (tm 41))
 (op 4 (.mov (tm 42))
 .nil)))))))))))))))))))
 .ret))))
theorem ok_play_Src_N : FnOk Try.prog 13 43 (SA.erase sa_play_Src_N) [.tmp 4] := ⟨Try.f13, [], Try.func13, rfl, by kernel_rfl, by kernel_rfl, by kernel_rfl⟩
noncomputable def F_play_Src_N (s : TSrc) (a0 : Int) : Option (Int × TSrc) :=
 letJ (fun (v1 : Bool × Unit) =>
 bif v1.1 then
 some ((0 : Int), s)
 else
 Option.bind (idx s.L (subI .i64 (addI .i64 s.At (1 : Int)) (1 : Int))) fun x3 =>
 if a0 = 0 then none else
 if a0 = 0 then none else
 some ((remI .i64 (addI .i64 (remI .i64 x3 a0) a0) a0), (TSrc.mk s.L (addI .i64 s.At (1 : Int))))) fun j2 =>
 bif (decide (((List.length s.L : Nat) : Int) ≤ s.At)) then
 j2 (true, ())
 else
 j2 ((decide (a0 < (1 : Int))), ())
noncomputable def k_play_Src_N : KFun U := .rc 13 0 (Ty.st .Src) [.ty (Ty.i .i64)] (.one (Ty.i .i64)) fun s a => F_play_Src_N s a.1
theorem e_play_Src_N : rcK K [] sa_play_Src_N [.tmp 4] 0 (Ty.st .Src) [.ty (Ty.i .i64)] (.one (Ty.i .i64)) = fun s a => F_play_Src_N s a.1 := by kernel_rfl
theorem s_play_Src_N : KFun.Sound (U := U) Try.prog k_play_Src_N := rcK_sound (K := K) (Γ := []) ok_play_Src_N (by kernel_rfl) (by decide) trivial (fun s a => congrFun (congrFun e_play_Src_N s) a)

/-! ### (*trustquorum/trustquorumplay.Src).Range -/
def sa_play_Src_Range : SA U :=
 (.seq
 (.reg
 (op 6 (.mov (ci 0))
 .nil))
 (.seq
 (.reg
 (op 7 (.mov (tm 1))
 (op 8 (.mov (tm 0))
 (op 9 (.mov (tm 2))
 (op 10 (.mov (tm 1))
 (op 11 (.bin .sub (tm 9) (tm 10))
 (op 12 (.bin .add (tm 11) (ci 1))
 (op 13 (.call 13 [(tm 8), (tm 12)])
 (op 14 (.bin .add (tm 7) (tm 13))
 (op 6 (.mov (tm 14))
 .nil))))))))))
 .ret))
theorem ok_play_Src_Range : FnOk Try.prog 26 15 (SA.erase sa_play_Src_Range) [.tmp 6] := ⟨Try.f26, [], Try.func26, rfl, by kernel_rfl, by kernel_rfl, by kernel_rfl⟩
noncomputable def F_play_Src_Range (s : TSrc) (a0 : Int) (a1 : Int) : Option (Int × TSrc) :=
 Option.bind (F_play_Src_N s (addI .i64 (subI .i64 a1 a0) (1 : Int))) fun p1 =>
 some ((addI .i64 a0 p1.1), p1.2)
noncomputable def k_play_Src_Range : KFun U := .rc 26 0 (Ty.st .Src) [.ty (Ty.i .i64), .ty (Ty.i .i64)] (.one (Ty.i .i64)) fun s a => F_play_Src_Range s a.1 a.2.1
theorem e_play_Src_Range : rcK K [k_play_Src_N] sa_play_Src_Range [.tmp 6] 0 (Ty.st .Src) [.ty (Ty.i .i64), .ty (Ty.i .i64)] (.one (Ty.i .i64)) = fun s a => F_play_Src_Range s a.1 a.2.1 := by kernel_rfl
theorem s_play_Src_Range : KFun.Sound (U := U) Try.prog k_play_Src_Range := rcK_sound (K := K) (Γ := [k_play_Src_N]) ok_play_Src_Range (by kernel_rfl) (by decide) ⟨s_play_Src_N, trivial⟩ (fun s a => congrFun (congrFun e_play_Src_Range s) a)

/-! ### (*trustquorum/trustquorumplay.Src).Trust -/
def sa_play_Src_Trust : SA U :=
 (.seq
 (.reg
 (op 4 (.alloc [.int .i64 0, .nils, .nils])
 .nil))
 (.seq
 (.reg
 (op 5 (.alloc [.int .i64 0, .nils, .nils])
 .nil))
 (.seq
 (.seq
 (.reg
 (op 6 (.mov (ci 0))
 .nil))
 (.block 0
 (.ps (.ownB 5 1 3 1 (Ty.i .i64))
 (.ps (.ownB 5 2 27 3 (Ty.st .Trust))
 (.loop ⟨[.val 6 (Ty.i .i64), .box 0 0 (Ty.st .Src) [], .box 2 1 (Ty.st .Trust) [(1, 4, 1), (2, 5, 1)], .rowb 4 1 3 1 (Ty.i .i64), .rowb 5 1 27 3 (Ty.st .Trust)], [0, 1, 4, 5]⟩
 (.seq
 (.seq
 (.reg
 (op 8 (.mov (tm 6))
 (op 9 (.mov (tm 1))
 (op 10 (.bin .lss (tm 8) (tm 9))
 .nil))))
 (.cond (tm 10)
 .skip
 (.exit 0)))
 (.join ⟨[.box 0 0 (Ty.st .Src) [], .box 2 1 (Ty.st .Trust) [(1, 4, 1), (2, 5, 1)], .rowb 4 1 3 1 (Ty.i .i64), .rowb 5 1 27 3 (Ty.st .Trust)], [0, 1, 4, 5, 6]⟩
 (.block 1
 (.seq
 (.reg
 (op 13 (.mov (tm 0))
 (op 14 (.call 13 [(tm 13), (ci 5)])
 (op 15 (.bin .gtr (tm 14) (ci 0))
 .nil))))
 (.cond (tm 15)
 (.reg
 (op 16 (.faddr 1 (tm 5))
 (op 17 (.load none (tm 16))
 (op 18 (.mov (tm 6))
 (op 19 (.bsl false 3 1 (List.replicate 1 [.int .i64 0]) [(0, (tm 18))])
 (op 20 (.app 3 1 8 (tm 17) (tm 19))
 (op 21 (.faddr 1 (tm 5))
 (ops (.store 1 (tm 21) (tm 20))
 .nil))))))))
 .skip)))
 (.reg
 (op 11 (.mov (tm 6))
 (op 12 (.bin .add (tm 11) (ci 1))
 (op 6 (.mov (tm 12))
 .nil)))))))))))
 (.ps (.frzB 5 1)
 (.join ⟨[.box 0 0 (Ty.st .Src) [], .box 2 1 (Ty.st .Trust) [(2, 5, 1)], .rowb 5 1 27 3 (Ty.st .Trust)], [0, 1, 4, 5]⟩
 (.seq
 (.reg
 (op 22 (.faddr 1 (tm 5))
 (op 23 (.load none (tm 22))
 (op 24 (.len false (tm 23))
 (op 25 (.bin .eql (tm 24) (ci 0))
 .nil)))))
 (.cond (tm 25)
 (.reg
 (op 26 (.mov (tm 0))
 (op 27 (.mov (tm 1))
 (op 28 (.call 13 [(tm 26), (tm 27)])
 (op 29 (.bsl false 3 1 (List.replicate 1 [.int .i64 0]) [(0, (tm 28))])
 (op 30 (.faddr 1 (tm 5))
 (ops (.store 1 (tm 30) (tm 29))
 .nil)))))))
 .skip))
 (.join ⟨[.box 0 0 (Ty.st .Src) [], .box 2 1 (Ty.st .Trust) [(2, 5, 1)], .rowb 5 1 27 3 (Ty.st .Trust)], [0, 4, 5]⟩
 (.seq
 (.reg
 (op 31 (.mov (tm 0))
 (op 32 (.call 13 [(tm 31), (ci 4)])
 (op 33 (.bin .eql (tm 32) (ci 3))
 .nil))))
 (.cond (tm 33)
 (.drw [(0, 4), (1, 4), (0, 5), (1, 5), (0, 7), (1, 7)]
 (op 34 (.faddr 2 (tm 5))
 (op 35 (.load none (tm 34))
 (op 36 (.mov (tm 0))
 (op 37 (.mov (tm 1))
 (op 38 (.call 13 [(tm 36), (tm 37)])
 (op 39 (.bsl false 3 1 (List.replicate 1 [.int .i64 0]) [(0, (tm 38))])
 (op 40 (.build [.int .i64 0, .nils, .nils] [(0, 1, (ci 1)), (1, 1, (tm 39))])
 (op 41 (.bsl false 27 3 (List.replicate 1 [.int .i64 0, .nils, .nils]) [(0, (tm 40))])
 (op 42 (.app 27 3 56 (tm 35) (tm 41))
 (op 43 (.faddr 2 (tm 5))
 (ops (.store 1 (tm 43) (tm 42))
 .nil))))))))))))
 .skip))
 (.seq
 (.reg
 (op 44 (.faddr 1 (tm 5))
 (op 45 (.load none (tm 44))
 (op 46 (.len false (tm 45))
 (op 47 (.faddr 2 (tm 5))
 (op 48 (.load none (tm 47))
 (op 49 (.len false (tm 48))
 (op 50 (.bin .add (tm 46) (tm 49))
 (op 7 (.mov (tm 50))
 .nil)))))))))
 (.seq
 (.reg
 (op 51 (.mov (tm 0))
 (op 52 (.mov (tm 7))
 (op 53 (.bin .add (tm 52) (ci 1))
 (op 54 (.bin .quo (tm 53) (ci 2))
 (op 55 (.mov (tm 7))
 (op 56 (.call 26 [(tm 51), (tm 54), (tm 55)])
 (op 57 (.faddr 0 (tm 5))
 (ops (.store 1 (tm 57) (tm 56))
 .nil)))))))))
 (.join ⟨[.box 0 0 (Ty.st .Src) [], .box 2 1 (Ty.st .Trust) [(2, 5, 1)], .rowb 5 1 27 3 (Ty.st .Trust)], [4, 5]⟩
 (.seq
 (.reg
 (op 58 (.mov (tm 0))
 (op 59 (.call 13 [(tm 58), (ci 6)])
 (op 60 (.bin .eql (tm 59) (ci 5))
 .nil))))
 (.cond (tm 60)
 (.reg
 (op 61 (.faddr 0 (tm 5))
 (ops (.store 1 (tm 61) (ci 1))
 .nil)))
 .skip))
 (.seq
 (.reg
 (op 62 (.load (some 3) (tm 5))
 (ops (.store 3 (tm 4) (tm 62))
 .nil)))
 .ret))))))))))
theorem ok_play_Src_Trust : FnOk Try.prog 31 63 (SA.erase sa_play_Src_Trust) [.cell 4 (some 3)] := ⟨Try.f31, [], Try.func31, rfl, by kernel_rfl, by kernel_rfl, by kernel_rfl⟩
noncomputable def F_play_Src_Trust (s : TSrc) (a0 : Int) : Option (TTrust × TSrc) :=
 loopO (fun (v1 : Int × TSrc × TTrust × (List Int) × (List TTrust) × Unit) =>
 bif (decide (v1.1 < a0)) then
 letJ (fun (v2 : TSrc × TTrust × (List Int) × (List TTrust) × Unit) =>
 some (Sum.inl ((addI .i64 v1.1 (1 : Int)), v2.1, (TTrust.mk v2.2.1.Threshold ([] : List Int) ([] : List TTrust)), v2.2.2.1, v2.2.2.2.1, ()))) fun j3 =>
 Option.bind (F_play_Src_N v1.2.1 (5 : Int)) fun p4 =>
 bif (decide ((0 : Int) < p4.1)) then
 bif lenOk 8 (List.length v1.2.2.2.1 + List.length [v1.1]) then
 j3 (p4.2, (TTrust.mk v1.2.2.1.Threshold ([] : List Int) ([] : List TTrust)), (v1.2.2.2.1 ++ [v1.1]), v1.2.2.2.2.1, ())
 else none
 else
 j3 (p4.2, (TTrust.mk v1.2.2.1.Threshold ([] : List Int) ([] : List TTrust)), v1.2.2.2.1, v1.2.2.2.2.1, ())
 else
 Option.map Sum.inr (letJ (fun (v5 : TSrc × TTrust × (List TTrust) × Unit) =>
 letJ (fun (v7 : TSrc × TTrust × (List TTrust) × Unit) =>
 Option.bind (F_play_Src_Range v7.1 (quoI .i64 (addI .i64 (addI .i64 ((List.length v7.2.1.Nodes : Nat) : Int) ((List.length v7.2.2.1 : Nat) : Int)) (1 : Int)) (2 : Int)) (addI .i64 ((List.length v7.2.1.Nodes : Nat) : Int) ((List.length v7.2.2.1 : Nat) : Int))) fun p9 =>
 letJ (fun (v10 : TSrc × TTrust × (List TTrust) × Unit) =>
 some ((TTrust.mk v10.2.1.Threshold v10.2.1.Nodes v10.2.2.1), v10.1)) fun j11 =>
 Option.bind (F_play_Src_N p9.2 (6 : Int)) fun p12 =>
 bif (decide (p12.1 = (5 : Int))) then
 j11 (p12.2, (TTrust.mk (1 : Int) v7.2.1.Nodes ([] : List TTrust)), v7.2.2.1, ())
 else
 j11 (p12.2, (TTrust.mk p9.1 v7.2.1.Nodes ([] : List TTrust)), v7.2.2.1, ())) fun j8 =>
 Option.bind (F_play_Src_N v5.1 (4 : Int)) fun p13 =>
 bif (decide (p13.1 = (3 : Int))) then
 Option.bind (F_play_Src_N p13.2 a0) fun p14 =>
 bif lenOk 56 (List.length v5.2.2.1 + List.length [(TTrust.mk (1 : Int) [p14.1] ([] : List TTrust))]) then
 j8 (p14.2, (TTrust.mk v5.2.1.Threshold v5.2.1.Nodes ([] : List TTrust)), (v5.2.2.1 ++ [(TTrust.mk (1 : Int) [p14.1] ([] : List TTrust))]), ())
 else none
 else
 j8 (p13.2, (TTrust.mk v5.2.1.Threshold v5.2.1.Nodes ([] : List TTrust)), v5.2.2.1, ())) fun j6 =>
 bif (decide (((List.length v1.2.2.2.1 : Nat) : Int) = (0 : Int))) then
 Option.bind (F_play_Src_N v1.2.1 a0) fun p15 =>
 j6 (p15.2, (TTrust.mk v1.2.2.1.Threshold [p15.1] ([] : List TTrust)), v1.2.2.2.2.1, ())
 else
 j6 (v1.2.1, (TTrust.mk v1.2.2.1.Threshold v1.2.2.2.1 ([] : List TTrust)), v1.2.2.2.2.1, ()))) ((0 : Int), s, (TTrust.mk (0 : Int) ([] : List Int) ([] : List TTrust)), ([] : List Int), ([] : List TTrust), ())
noncomputable def k_play_Src_Trust : KFun U := .rc 31 0 (Ty.st .Src) [.ty (Ty.i .i64)] (.one (Ty.st .Trust)) fun s a => F_play_Src_Trust s a.1
theorem e_play_Src_Trust : rcK K [k_play_Src_N, k_play_Src_Range] sa_play_Src_Trust [.cell 4 (some 3)] 0 (Ty.st .Src) [.ty (Ty.i .i64)] (.one (Ty.st .Trust)) = fun s a => F_play_Src_Trust s a.1 := by kernel_rfl
theorem s_play_Src_Trust : KFun.Sound (U := U) Try.prog k_play_Src_Trust := rcK_sound (K := K) (Γ := [k_play_Src_N, k_play_Src_Range]) ok_play_Src_Trust (by kernel_rfl) (by decide) ⟨s_play_Src_N, s_play_Src_Range, trivial⟩ (fun s a => congrFun (congrFun e_play_Src_Trust s) a)

/-! ### (*trustquorum/trustquorumplay.Src).Text -/
def sa_play_Src_Text : SA U :=
 (.seq
 (.reg
 (op 4 (.mov (.cst (.str ⟨#[]⟩)))
 .nil))
 (.seq
 (.reg
 (op 5 (.mov (tm 1))
 (op 6 (.mov (tm 0))
 (op 7 (.mov (tm 1))
 (op 8 (.len false (tm 7))
 (op 9 (.call 13 [(tm 6), (tm 8)])
 (op 10 (.iaddr 1 (tm 5) (tm 9))
 (op 11 (.load none (tm 10))
 (op 4 (.mov (tm 11))
 .nil)))))))))
 .ret))
theorem ok_play_Src_Text : FnOk Try.prog 46 12 (SA.erase sa_play_Src_Text) [.tmp 4] := ⟨Try.f46, [], Try.func46, rfl, by kernel_rfl, by kernel_rfl, by kernel_rfl⟩
noncomputable def F_play_Src_Text (s : TSrc) (a0 : (List ByteArray)) : Option (ByteArray × TSrc) :=
 Option.bind (F_play_Src_N s ((List.length a0 : Nat) : Int)) fun p1 =>
 Option.bind (idx a0 p1.1) fun x2 =>
 some (x2, p1.2)
noncomputable def k_play_Src_Text : KFun U := .rc 46 0 (Ty.st .Src) [.ty (Ty.sl Ty.str)] (.one Ty.str) fun s a => F_play_Src_Text s a.1
theorem e_play_Src_Text : rcK K [k_play_Src_N] sa_play_Src_Text [.tmp 4] 0 (Ty.st .Src) [.ty (Ty.sl Ty.str)] (.one Ty.str) = fun s a => F_play_Src_Text s a.1 := by kernel_rfl
theorem s_play_Src_Text : KFun.Sound (U := U) Try.prog k_play_Src_Text := rcK_sound (K := K) (Γ := [k_play_Src_N]) ok_play_Src_Text (by kernel_rfl) (by decide) ⟨s_play_Src_N, trivial⟩ (fun s a => congrFun (congrFun e_play_Src_Text s) a)

/-! ### (*trustquorum/trustquorumplay.Src).Value -/
def sa_play_Src_Value : SA U :=
 (.seq
 (.reg
 (op 2 (.mov (.cst (.str ⟨#[]⟩)))
 .nil))
 (.seq
 (.reg
 (op 3 (.mov (tm 0))
 (op 4 (.bsl false 9 1 (List.replicate 4 [.str ⟨#[]⟩]) [(0, (.cst (.str ⟨#[97]⟩))), (1, (.cst (.str ⟨#[98]⟩))), (2, (.cst (.str ⟨#[99]⟩))), (3, (.cst (.str ⟨#[97, 97]⟩)))])
 (op 5 (.call 46 [(tm 3), (tm 4)])
 (op 2 (.mov (tm 5))
 .nil)))))
 .ret))
theorem ok_play_Src_Value : FnOk Try.prog 14 6 (SA.erase sa_play_Src_Value) [.tmp 2] := ⟨Try.f14, [], Try.func14, rfl, by kernel_rfl, by kernel_rfl, by kernel_rfl⟩
noncomputable def F_play_Src_Value (s : TSrc)  : Option (ByteArray × TSrc) :=
 Option.bind (F_play_Src_Text s [(ByteArray.mk #[97]), (ByteArray.mk #[98]), (ByteArray.mk #[99]), (ByteArray.mk #[97, 97])]) fun p1 =>
 some (p1.1, p1.2)
noncomputable def k_play_Src_Value : KFun U := .rc 14 0 (Ty.st .Src) [] (.one Ty.str) fun s a => F_play_Src_Value s 
theorem e_play_Src_Value : rcK K [k_play_Src_Text] sa_play_Src_Value [.tmp 2] 0 (Ty.st .Src) [] (.one Ty.str) = fun s a => F_play_Src_Value s  := by kernel_rfl
theorem s_play_Src_Value : KFun.Sound (U := U) Try.prog k_play_Src_Value := rcK_sound (K := K) (Γ := [k_play_Src_Text]) ok_play_Src_Value (by kernel_rfl) (by decide) ⟨s_play_Src_Text, trivial⟩ (fun s a => congrFun (congrFun e_play_Src_Value s) a)

/-! ### (*trustquorum/trustquorumplay.Src).Low -/
def sa_play_Src_Low : SA U :=
 (.seq
 (.reg
 (op 2 (.alloc [.int .i64 0, .str ⟨#[]⟩])
 .nil))
 (.seq
 (.reg
 (op 3 (.mov (tm 0))
 (op 4 (.call 26 [(tm 3), (ci 1), (ci 6)])
 (op 5 (.mov (tm 0))
 (op 6 (.call 14 [(tm 5)])
 (op 7 (.build [.int .i64 0, .str ⟨#[]⟩] [(0, 1, (tm 4)), (1, 1, (tm 6))])
 (ops (.store 2 (tm 2) (tm 7))
 .nil)))))))
 .ret))
theorem ok_play_Src_Low : FnOk Try.prog 18 8 (SA.erase sa_play_Src_Low) [.cell 2 (some 2)] := ⟨Try.f18, [], Try.func18, rfl, by kernel_rfl, by kernel_rfl, by kernel_rfl⟩
noncomputable def F_play_Src_Low (s : TSrc)  : Option (TBallot × TSrc) :=
 Option.bind (F_play_Src_Range s (1 : Int) (6 : Int)) fun p1 =>
 Option.bind (F_play_Src_Value p1.2) fun p2 =>
 some ((TBallot.mk p1.1 p2.1), p2.2)
noncomputable def k_play_Src_Low : KFun U := .rc 18 0 (Ty.st .Src) [] (.one (Ty.st .Ballot)) fun s a => F_play_Src_Low s 
theorem e_play_Src_Low : rcK K [k_play_Src_Range, k_play_Src_Value] sa_play_Src_Low [.cell 2 (some 2)] 0 (Ty.st .Src) [] (.one (Ty.st .Ballot)) = fun s a => F_play_Src_Low s  := by kernel_rfl
theorem s_play_Src_Low : KFun.Sound (U := U) Try.prog k_play_Src_Low := rcK_sound (K := K) (Γ := [k_play_Src_Range, k_play_Src_Value]) ok_play_Src_Low (by kernel_rfl) (by decide) ⟨s_play_Src_Range, s_play_Src_Value, trivial⟩ (fun s a => congrFun (congrFun e_play_Src_Low s) a)

/-! ### trustquorum/trustquorumref02.Depth -/
def sa_ref02_Depth : SA U :=
 (.seq
 (.reg
 (op 1 (.box (tm 0))
 (op 2 (.mov (ci 0))
 .nil)))
 (.seq
 (.reg
 (op 3 (.mov (ci 0))
 .nil))
 (.seq
 (.seq
 (.reg
 (op 6 (.faddr 2 (tm 1))
 (op 7 (.load none (tm 6))
 (op 8 (.len false (tm 7))
 (op 9 (.mov (ci 0))
 .nil)))))
 (.block 0
 (.loop ⟨[.val 3 (Ty.i .i64), .val 9 (Ty.i .i64)], [7, 8]⟩
 (.seq
 (.reg
 (op 10 (.bin .lss (tm 9) (tm 8))
 .nil))
 (.seq
 (.cond (tm 10)
 .skip
 (.exit 0))
 (.seq
 (.block 1
 (.seq
 (.reg
 (op 11 (.iaddr 3 (tm 7) (tm 9))
 (op 12 (.load (some 3) (tm 11))
 (op 5 (.alloc [.int .i64 0, .nils, .nils])
 (ops (.store 3 (tm 5) (tm 12))
 .nil)))))
 (.reg
 (op 13 (.mov (tm 3))
 (op 14 (.load (some 3) (tm 5))
 (op 15 (.call 115 [(tm 14)])
 (op 16 (.minmax true (tm 13) (tm 15))
 (op 3 (.mov (tm 16))
 .nil))))))))
 (.reg
 (op 17 (.bin .add (tm 9) (ci 1))
 (op 9 (.mov (tm 17))
 .nil)))))))))
 (.seq
 (.reg
 (op 18 (.mov (tm 3))
 (op 19 (.bin .add (tm 18) (ci 1))
 (op 2 (.mov (tm 19))
 .nil))))
 .ret))))
theorem ok_ref02_Depth : FnOk Try.prog 115 20 (SA.erase sa_ref02_Depth) [.tmp 2] := ⟨Try.f115, [], Try.func115, rfl, by kernel_rfl, by kernel_rfl, by kernel_rfl⟩
noncomputable def B_ref02_Depth (rec : (TTrust × Unit) → Option Int) (a0 : TTrust) : Option Int :=
 loopO (fun (v1 : Int × Int × Unit) =>
 bif (decide (v1.2.1 < ((List.length a0.Inner : Nat) : Int))) then
 Option.bind (idx a0.Inner v1.2.1) fun x2 =>
 Option.bind (rec ((TTrust.mk x2.Threshold x2.Nodes x2.Inner), ())) fun r3 =>
 some (Sum.inl ((maxI v1.1 r3), (addI .i64 v1.2.1 (1 : Int)), ()))
 else
 Option.map Sum.inr (some (addI .i64 v1.1 (1 : Int)))) ((0 : Int), (0 : Int), ())
noncomputable def I_ref02_Depth : Nat → (TTrust × Unit) → Option Int := iterF (fun rec a => B_ref02_Depth rec a.1)
noncomputable def F_ref02_Depth (a0 : TTrust) : Option Int := I_ref02_Depth (SizeOf.sizeOf a0 + 1) (a0, ())
noncomputable def k_ref02_Depth : KFun U := .fn 115 [.ty (Ty.st .Trust)] (.one (Ty.i .i64)) fun a => F_ref02_Depth a.1
theorem e_ref02_Depth : (fun G => fnK K (.fn 115 [.ty (Ty.st .Trust)] (.one (Ty.i .i64)) G :: []) sa_ref02_Depth [.tmp 2] [.ty (Ty.st .Trust)] (.one (Ty.i .i64))) = (fun G a => B_ref02_Depth G a.1) := by kernel_rfl
theorem n_ref02_Depth : ∀ n, KFun.Sound (U := U) Try.prog (.fn 115 [.ty (Ty.st .Trust)] (.one (Ty.i .i64)) (I_ref02_Depth n))
  | 0 => ⟨ok_ref02_Depth.enters, fun a r h => by cases h⟩
  | n + 1 => fnK_sound (K := K) (r := .one (Ty.i .i64)) (Γ := .fn 115 [.ty (Ty.st .Trust)] (.one (Ty.i .i64)) (I_ref02_Depth n) :: []) (F := I_ref02_Depth (n + 1)) ok_ref02_Depth (by kernel_rfl) (by decide) ⟨n_ref02_Depth n, trivial⟩ (fun a => congrFun (congrFun e_ref02_Depth (I_ref02_Depth n)) a)
theorem s_ref02_Depth : KFun.Sound (U := U) Try.prog k_ref02_Depth := ⟨ok_ref02_Depth.enters, fun a r h => (n_ref02_Depth _).2 a r h⟩

/-! ### trustquorum/trustquorumref02.Size -/
def sa_ref02_Size : SA U :=
 (.seq
 (.reg
 (op 1 (.box (tm 0))
 (op 2 (.mov (ci 0))
 .nil)))
 (.seq
 (.reg
 (op 6 (.faddr 1 (tm 1))
 (op 7 (.load none (tm 6))
 (op 8 (.len false (tm 7))
 (op 9 (.faddr 2 (tm 1))
 (op 10 (.load none (tm 9))
 (op 11 (.len false (tm 10))
 (op 12 (.bin .add (tm 8) (tm 11))
 (op 3 (.mov (tm 12))
 .nil)))))))))
 (.seq
 (.seq
 (.reg
 (op 13 (.faddr 2 (tm 1))
 (op 14 (.load none (tm 13))
 (op 15 (.len false (tm 14))
 (op 16 (.mov (ci 0))
 .nil)))))
 (.block 0
 (.loop ⟨[.val 3 (Ty.i .i64), .val 16 (Ty.i .i64)], [14, 15]⟩
 (.seq
 (.reg
 (op 17 (.bin .lss (tm 16) (tm 15))
 .nil))
 (.seq
 (.cond (tm 17)
 .skip
 (.exit 0))
 (.seq
 (.block 1
 (.seq
 (.reg
 (op 18 (.iaddr 3 (tm 14) (tm 16))
 (op 19 (.load (some 3) (tm 18))
 (op 5 (.alloc [.int .i64 0, .nils, .nils])
 (ops (.store 3 (tm 5) (tm 19))
 .nil)))))
 (.reg
 (op 20 (.mov (tm 3))
 (op 21 (.load (some 3) (tm 5))
 (op 22 (.call 116 [(tm 21)])
 (op 23 (.bin .add (tm 20) (tm 22))
 (op 3 (.mov (tm 23))
 .nil))))))))
 (.reg
 (op 24 (.bin .add (tm 16) (ci 1))
 (op 16 (.mov (tm 24))
 .nil)))))))))
 (.seq
 (.reg
 (op 25 (.mov (tm 3))
 (op 2 (.mov (tm 25))
 .nil)))
 .ret))))
theorem ok_ref02_Size : FnOk Try.prog 116 26 (SA.erase sa_ref02_Size) [.tmp 2] := ⟨Try.f116, [], Try.func116, rfl, by kernel_rfl, by kernel_rfl, by kernel_rfl⟩
noncomputable def B_ref02_Size (rec : (TTrust × Unit) → Option Int) (a0 : TTrust) : Option Int :=
 loopO (fun (v1 : Int × Int × Unit) =>
 bif (decide (v1.2.1 < ((List.length a0.Inner : Nat) : Int))) then
 Option.bind (idx a0.Inner v1.2.1) fun x2 =>
 Option.bind (rec ((TTrust.mk x2.Threshold x2.Nodes x2.Inner), ())) fun r3 =>
 some (Sum.inl ((addI .i64 v1.1 r3), (addI .i64 v1.2.1 (1 : Int)), ()))
 else
 Option.map Sum.inr (some v1.1)) ((addI .i64 ((List.length a0.Nodes : Nat) : Int) ((List.length a0.Inner : Nat) : Int)), (0 : Int), ())
noncomputable def I_ref02_Size : Nat → (TTrust × Unit) → Option Int := iterF (fun rec a => B_ref02_Size rec a.1)
noncomputable def F_ref02_Size (a0 : TTrust) : Option Int := I_ref02_Size (SizeOf.sizeOf a0 + 1) (a0, ())
noncomputable def k_ref02_Size : KFun U := .fn 116 [.ty (Ty.st .Trust)] (.one (Ty.i .i64)) fun a => F_ref02_Size a.1
theorem e_ref02_Size : (fun G => fnK K (.fn 116 [.ty (Ty.st .Trust)] (.one (Ty.i .i64)) G :: []) sa_ref02_Size [.tmp 2] [.ty (Ty.st .Trust)] (.one (Ty.i .i64))) = (fun G a => B_ref02_Size G a.1) := by kernel_rfl
theorem n_ref02_Size : ∀ n, KFun.Sound (U := U) Try.prog (.fn 116 [.ty (Ty.st .Trust)] (.one (Ty.i .i64)) (I_ref02_Size n))
  | 0 => ⟨ok_ref02_Size.enters, fun a r h => by cases h⟩
  | n + 1 => fnK_sound (K := K) (r := .one (Ty.i .i64)) (Γ := .fn 116 [.ty (Ty.st .Trust)] (.one (Ty.i .i64)) (I_ref02_Size n) :: []) (F := I_ref02_Size (n + 1)) ok_ref02_Size (by kernel_rfl) (by decide) ⟨n_ref02_Size n, trivial⟩ (fun a => congrFun (congrFun e_ref02_Size (I_ref02_Size n)) a)
theorem s_ref02_Size : KFun.Sound (U := U) Try.prog k_ref02_Size := ⟨ok_ref02_Size.enters, fun a r h => (n_ref02_Size _).2 a r h⟩

/-! ### trustquorum/trustquorumref01.Valid -/
def sa_ref01_Valid : SA U :=
 (.seq
 (.reg
 (op 2 (.mov (.cst (.bool false)))
 .nil))
 (.seq
 (.reg
 (op 3 (.mov (tm 0))
 (op 4 (.bin .geq (tm 3) (ci 0))
 (op 5 (.mov (tm 4))
 (.ite 5 true
 (opg 6 5 true (.mov (tm 0))
 (opg 7 5 true (.bin .leq (tm 6) (ci 1023))
 .nil))
 8 none (tm 7) (.cst (.bool false))
 (op 2 (.mov (tm 8))
 .nil))))))
 .ret))
theorem ok_ref01_Valid : FnOk Try.prog 61 9 (SA.erase sa_ref01_Valid) [.tmp 2] := ⟨Try.f61, [], Try.func61, rfl, by kernel_rfl, by kernel_rfl, by kernel_rfl⟩
noncomputable def F_ref01_Valid (a0 : Int) : Option Bool :=
 Option.bind (bif (decide ((0 : Int) ≤ a0)) then
 some (decide (a0 ≤ (1023 : Int)))
 else some false) fun b1 =>
 some b1
noncomputable def k_ref01_Valid : KFun U := .fn 61 [.ty (Ty.i .i64)] (.one Ty.bool) fun a => F_ref01_Valid a.1
theorem e_ref01_Valid : fnK K [] sa_ref01_Valid [.tmp 2] [.ty (Ty.i .i64)] (.one Ty.bool) = fun a => F_ref01_Valid a.1 := by kernel_rfl
theorem s_ref01_Valid : KFun.Sound (U := U) Try.prog k_ref01_Valid := fnK_sound (K := K) (Γ := []) ok_ref01_Valid (by kernel_rfl) (by decide) trivial (fun a => congrFun e_ref01_Valid a)

/-! ### trustquorum/trustquorumref01.Has -/
def sa_ref01_Has : SA U :=
 (.seq
 (.reg
 (op 4 (.mov (.cst (.bool false)))
 .nil))
 (.seq
 (.reg
 (op 5 (.mov (tm 0))
 (op 6 (.call 61 [(tm 5)])
 (op 7 (.mov (tm 6))
 (.ite 7 true
 (opg 8 7 true (.mov (tm 1))
 (opg 9 7 true (.bin .geq (tm 8) (ci 0))
 .nil))
 10 none (tm 9) (.cst (.bool false))
 (op 11 (.mov (tm 10))
 (.ite 11 true
 (opg 12 11 true (.mov (tm 1))
 (opg 13 11 true (.bin .lss (tm 12) (ci 10))
 .nil))
 14 none (tm 13) (.cst (.bool false))
 (op 15 (.mov (tm 14))
 (.ite 15 true
 (opg 16 15 true (.mov (tm 0))
 (opg 17 15 true (.mov (tm 1))
 (opg 18 15 true (.bin .shr (tm 16) (tm 17))
 (opg 19 15 true (.bin .and (tm 18) (ci 1))
 (opg 20 15 true (.bin .eql (tm 19) (ci 1))
 .nil)))))
 21 none (tm 20) (.cst (.bool false))
 (op 4 (.mov (tm 21))
 .nil))))))))))
 .ret))
theorem ok_ref01_Has : FnOk Try.prog 62 22 (SA.erase sa_ref01_Has) [.tmp 4] := ⟨Try.f62, [], Try.func62, rfl, by kernel_rfl, by kernel_rfl, by kernel_rfl⟩
noncomputable def F_ref01_Has (a0 : Int) (a1 : Int) : Option Bool :=
 Option.bind (F_ref01_Valid a0) fun r1 =>
 Option.bind (bif r1 then
 some (decide ((0 : Int) ≤ a1))
 else some false) fun b2 =>
 Option.bind (bif b2 then
 some (decide (a1 < (10 : Int)))
 else some false) fun b3 =>
 Option.bind (bif b3 then
 if a1 < 0 then none else
 some (decide ((andI .i64 (shrI .i64 a0 a1) (1 : Int)) = (1 : Int)))
 else some false) fun b4 =>
 some b4
noncomputable def k_ref01_Has : KFun U := .fn 62 [.ty (Ty.i .i64), .ty (Ty.i .i64)] (.one Ty.bool) fun a => F_ref01_Has a.1 a.2.1
theorem e_ref01_Has : fnK K [k_ref01_Valid] sa_ref01_Has [.tmp 4] [.ty (Ty.i .i64), .ty (Ty.i .i64)] (.one Ty.bool) = fun a => F_ref01_Has a.1 a.2.1 := by kernel_rfl
theorem s_ref01_Has : KFun.Sound (U := U) Try.prog k_ref01_Has := fnK_sound (K := K) (Γ := [k_ref01_Valid]) ok_ref01_Has (by kernel_rfl) (by decide) ⟨s_ref01_Valid, trivial⟩ (fun a => congrFun e_ref01_Has a)

/-! ### trustquorum/trustquorumref01.Of -/
def sa_ref01_Of : SA U :=
 (.seq
 (.reg
 (op 2 (.mov (ci 0))
 (op 3 (.mov (ci 0))
 .nil)))
 (.seq
 (.reg
 (op 4 (.mov (ci 0))
 .nil))
 (.seq
 (.seq
 (.reg
 (op 7 (.mov (tm 0))
 (op 8 (.len false (tm 7))
 (op 9 (.mov (ci 0))
 .nil))))
 (.block 0
 (.loop ⟨[.val 4 (Ty.i .i64), .val 9 (Ty.i .i64)], [7, 8]⟩
 (.seq
 (.reg
 (op 10 (.bin .lss (tm 9) (tm 8))
 .nil))
 (.seq
 (.cond (tm 10)
 .skip
 (.exit 0))
 (.seq
 (.block 1
 (.seq
 (.reg
 (op 11 (.iaddr 1 (tm 7) (tm 9))
 (op 12 (.load none (tm 11))
 (op 6 (.mov (tm 12))
 .nil))))
 (.seq
 (.seq
 (.reg
 (op 13 (.mov (tm 6))
 (op 14 (.bin .lss (tm 13) (ci 0))
 (op 15 (.mov (tm 14))
 (.ite 15 false
 (opg 16 15 false (.mov (tm 6))
 (opg 17 15 false (.bin .geq (tm 16) (ci 10))
 .nil))
 18 none (.cst (.bool true)) (tm 17)
 .nil)))))
 (.cond (tm 18)
 (.seq
 (.reg
 (op 2 (.mov (ci 0))
 (op 3 (.mov (ci 5))
 .nil)))
 .ret)
 .skip))
 (.seq
 (.seq
 (.reg
 (op 19 (.mov (tm 4))
 (op 20 (.mov (tm 6))
 (op 21 (.call 62 [(tm 19), (tm 20)])
 .nil))))
 (.cond (tm 21)
 (.seq
 (.reg
 (op 2 (.mov (ci 0))
 (op 3 (.mov (ci 6))
 .nil)))
 .ret)
 .skip))
 (.reg
 (op 22 (.mov (tm 4))
 (op 23 (.mov (tm 6))
 (op 24 (.bin .shl (ci 1) (tm 23))
 (op 25 (.bin .or (tm 22) (tm 24))
 (op 4 (.mov (tm 25))
 .nil))))))))))
 (.reg
 (op 26 (.bin .add (tm 9) (ci 1))
 (op 9 (.mov (tm 26))
 .nil)))))))))
 (.seq
 (.reg
 (op 27 (.mov (tm 4))
 (op 2 (.mov (tm 27))
 (op 3 (.mov (ci 0))
 .nil))))
 .ret))))
theorem ok_ref01_Of : FnOk Try.prog 135 28 (SA.erase sa_ref01_Of) [.tmp 2, .tmp 3] := ⟨Try.f135, [], Try.func135, rfl, by kernel_rfl, by kernel_rfl, by kernel_rfl⟩
noncomputable def F_ref01_Of (a0 : (List Int)) : Option (Int × Int × Unit) :=
 loopO (fun (v1 : Int × Int × Unit) =>
 bif (decide (v1.2.1 < ((List.length a0 : Nat) : Int))) then
 Option.bind (idx a0 v1.2.1) fun x2 =>
 Option.bind (bif (decide (x2 < (0 : Int))) then some true
 else
 some (decide ((10 : Int) ≤ x2))) fun b3 =>
 bif b3 then
 Option.map Sum.inr (some ((0 : Int), (5 : Int), ()))
 else
 Option.bind (F_ref01_Has v1.1 x2) fun r4 =>
 bif r4 then
 Option.map Sum.inr (some ((0 : Int), (6 : Int), ()))
 else
 if x2 < 0 then none else
 some (Sum.inl ((orI .i64 v1.1 (shlI .i64 (1 : Int) x2)), (addI .i64 v1.2.1 (1 : Int)), ()))
 else
 Option.map Sum.inr (some (v1.1, (0 : Int), ()))) ((0 : Int), (0 : Int), ())
noncomputable def k_ref01_Of : KFun U := .fn 135 [.ty (Ty.sl (Ty.i .i64))] (.many [(Ty.i .i64), (Ty.i .i64)]) fun a => F_ref01_Of a.1
theorem e_ref01_Of : fnK K [k_ref01_Has] sa_ref01_Of [.tmp 2, .tmp 3] [.ty (Ty.sl (Ty.i .i64))] (.many [(Ty.i .i64), (Ty.i .i64)]) = fun a => F_ref01_Of a.1 := by kernel_rfl
theorem s_ref01_Of : KFun.Sound (U := U) Try.prog k_ref01_Of := fnK_sound (K := K) (Γ := [k_ref01_Has]) ok_ref01_Of (by kernel_rfl) (by decide) ⟨s_ref01_Has, trivial⟩ (fun a => congrFun e_ref01_Of a)

/-! ### trustquorum/trustquorumref02.check -/
def sa_ref02_check : SA U :=
 (.seq
 (.reg
 (op 1 (.box (tm 0))
 (op 2 (.mov (ci 0))
 .nil)))
 (.seq
 (.seq
 (.reg
 (op 10 (.faddr 0 (tm 1))
 (op 11 (.load none (tm 10))
 (op 12 (.bin .lss (tm 11) (ci 1))
 (op 13 (.mov (tm 12))
 (.ite 13 false
 (opg 14 13 false (.faddr 0 (tm 1))
 (opg 15 13 false (.load none (tm 14))
 (opg 16 13 false (.faddr 1 (tm 1))
 (opg 17 13 false (.load none (tm 16))
 (opg 18 13 false (.len false (tm 17))
 (opg 19 13 false (.faddr 2 (tm 1))
 (opg 20 13 false (.load none (tm 19))
 (opg 21 13 false (.len false (tm 20))
 (opg 22 13 false (.bin .add (tm 18) (tm 21))
 (opg 23 13 false (.bin .gtr (tm 15) (tm 22))
 .nil))))))))))
 24 none (.cst (.bool true)) (tm 23)
 .nil))))))
 (.cond (tm 24)
 (.seq
 (.reg
 (op 2 (.mov (ci 4))
 .nil))
 .ret)
 .skip))
 (.seq
 (.seq
 (.reg
 (op 25 (.faddr 1 (tm 1))
 (op 26 (.load none (tm 25))
 (op 27 (.len false (tm 26))
 (op 28 (.mov (ci 0))
 .nil)))))
 (.block 0
 (.loop ⟨[.val 28 (Ty.i .i64)], [1, 26, 27]⟩
 (.seq
 (.reg
 (op 29 (.bin .lss (tm 28) (tm 27))
 .nil))
 (.seq
 (.cond (tm 29)
 .skip
 (.exit 0))
 (.seq
 (.block 1
 (.seq
 (.reg
 (op 30 (.iaddr 1 (tm 26) (tm 28))
 (op 31 (.load none (tm 30))
 (op 4 (.mov (tm 31))
 .nil))))
 (.seq
 (.reg
 (op 32 (.mov (tm 4))
 (op 33 (.bin .lss (tm 32) (ci 0))
 (op 34 (.mov (tm 33))
 (.ite 34 false
 (opg 35 34 false (.mov (tm 4))
 (opg 36 34 false (.bin .geq (tm 35) (ci 10))
 .nil))
 37 none (.cst (.bool true)) (tm 36)
 .nil)))))
 (.cond (tm 37)
 (.seq
 (.reg
 (op 2 (.mov (ci 5))
 .nil))
 .ret)
 .skip))))
 (.reg
 (op 38 (.bin .add (tm 28) (ci 1))
 (op 28 (.mov (tm 38))
 .nil)))))))))
 (.seq
 (.seq
 (.reg
 (op 40 (.faddr 1 (tm 1))
 (op 41 (.load none (tm 40))
 (op 42 (.call 135 [(tm 41)])
 (op 39 (.mov (tm 42))
 (op 43 (.extr 0 (tm 39))
 (op 44 (.extr 1 (tm 39))
 (op 5 (.mov (tm 43))
 (op 6 (.mov (tm 44))
 .nil)))))))))
 (.seq
 (.reg
 (op 45 (.mov (tm 6))
 (op 46 (.bin .neq (tm 45) (ci 0))
 .nil)))
 (.cond (tm 46)
 (.seq
 (.reg
 (op 47 (.mov (tm 6))
 (op 2 (.mov (tm 47))
 .nil)))
 .ret)
 .skip)))
 (.seq
 (.seq
 (.reg
 (op 48 (.faddr 2 (tm 1))
 (op 49 (.load none (tm 48))
 (op 50 (.len false (tm 49))
 (op 51 (.mov (ci 0))
 .nil)))))
 (.block 2
 (.loop ⟨[.val 51 (Ty.i .i64)], [49, 50]⟩
 (.seq
 (.reg
 (op 52 (.bin .lss (tm 51) (tm 50))
 .nil))
 (.seq
 (.cond (tm 52)
 .skip
 (.exit 2))
 (.seq
 (.block 3
 (.seq
 (.reg
 (op 53 (.iaddr 3 (tm 49) (tm 51))
 (op 54 (.load (some 3) (tm 53))
 (op 8 (.alloc [.int .i64 0, .nils, .nils])
 (ops (.store 3 (tm 8) (tm 54))
 .nil)))))
 (.seq
 (.reg
 (op 55 (.load (some 3) (tm 8))
 (op 56 (.call 117 [(tm 55)])
 (op 9 (.mov (tm 56))
 .nil))))
 (.seq
 (.reg
 (op 57 (.mov (tm 9))
 (op 58 (.bin .neq (tm 57) (ci 0))
 .nil)))
 (.cond (tm 58)
 (.seq
 (.reg
 (op 59 (.mov (tm 9))
 (op 2 (.mov (tm 59))
 .nil)))
 .ret)
 .skip)))))
 (.reg
 (op 60 (.bin .add (tm 51) (ci 1))
 (op 51 (.mov (tm 60))
 .nil)))))))))
 (.seq
 (.reg
 (op 2 (.mov (ci 0))
 .nil))
 .ret))))))
theorem ok_ref02_check : FnOk Try.prog 117 61 (SA.erase sa_ref02_check) [.tmp 2] := ⟨Try.f117, [], Try.func117, rfl, by kernel_rfl, by kernel_rfl, by kernel_rfl⟩
noncomputable def B_ref02_check (rec : (TTrust × Unit) → Option Int) (a0 : TTrust) : Option Int :=
 Option.bind (bif (decide (a0.Threshold < (1 : Int))) then some true
 else
 some (decide ((addI .i64 ((List.length a0.Nodes : Nat) : Int) ((List.length a0.Inner : Nat) : Int)) < a0.Threshold))) fun b1 =>
 bif b1 then
 some (4 : Int)
 else
 loopO (fun (v2 : Int × Unit) =>
 bif (decide (v2.1 < ((List.length a0.Nodes : Nat) : Int))) then
 Option.bind (idx a0.Nodes v2.1) fun x3 =>
 Option.bind (bif (decide (x3 < (0 : Int))) then some true
 else
 some (decide ((10 : Int) ≤ x3))) fun b4 =>
 bif b4 then
 Option.map Sum.inr (some (5 : Int))
 else
 some (Sum.inl ((addI .i64 v2.1 (1 : Int)), ()))
 else
 Option.map Sum.inr (Option.bind (F_ref01_Of a0.Nodes) fun r5 =>
 bif (!decide (r5.2.1 = (0 : Int))) then
 some r5.2.1
 else
 loopO (fun (v6 : Int × Unit) =>
 bif (decide (v6.1 < ((List.length a0.Inner : Nat) : Int))) then
 Option.bind (idx a0.Inner v6.1) fun x7 =>
 Option.bind (rec ((TTrust.mk x7.Threshold x7.Nodes x7.Inner), ())) fun r8 =>
 bif (!decide (r8 = (0 : Int))) then
 Option.map Sum.inr (some r8)
 else
 some (Sum.inl ((addI .i64 v6.1 (1 : Int)), ()))
 else
 Option.map Sum.inr (some (0 : Int))) ((0 : Int), ()))) ((0 : Int), ())
noncomputable def I_ref02_check : Nat → (TTrust × Unit) → Option Int := iterF (fun rec a => B_ref02_check rec a.1)
noncomputable def F_ref02_check (a0 : TTrust) : Option Int := I_ref02_check (SizeOf.sizeOf a0 + 1) (a0, ())
noncomputable def k_ref02_check : KFun U := .fn 117 [.ty (Ty.st .Trust)] (.one (Ty.i .i64)) fun a => F_ref02_check a.1
theorem e_ref02_check : (fun G => fnK K (.fn 117 [.ty (Ty.st .Trust)] (.one (Ty.i .i64)) G :: [k_ref01_Of]) sa_ref02_check [.tmp 2] [.ty (Ty.st .Trust)] (.one (Ty.i .i64))) = (fun G a => B_ref02_check G a.1) := by kernel_rfl
theorem n_ref02_check : ∀ n, KFun.Sound (U := U) Try.prog (.fn 117 [.ty (Ty.st .Trust)] (.one (Ty.i .i64)) (I_ref02_check n))
  | 0 => ⟨ok_ref02_check.enters, fun a r h => by cases h⟩
  | n + 1 => fnK_sound (K := K) (r := .one (Ty.i .i64)) (Γ := .fn 117 [.ty (Ty.st .Trust)] (.one (Ty.i .i64)) (I_ref02_check n) :: [k_ref01_Of]) (F := I_ref02_check (n + 1)) ok_ref02_check (by kernel_rfl) (by decide) ⟨n_ref02_check n, s_ref01_Of, trivial⟩ (fun a => congrFun (congrFun e_ref02_check (I_ref02_check n)) a)
theorem s_ref02_check : KFun.Sound (U := U) Try.prog k_ref02_check := ⟨ok_ref02_check.enters, fun a r h => (n_ref02_check _).2 a r h⟩

/-! ### trustquorum/trustquorumref02.Valid -/
def sa_ref02_Valid : SA U :=
 (.seq
 (.reg
 (op 1 (.box (tm 0))
 (op 2 (.mov (ci 0))
 .nil)))
 (.seq
 (.seq
 (.reg
 (op 3 (.load (some 3) (tm 1))
 (op 4 (.call 115 [(tm 3)])
 (op 5 (.bin .gtr (tm 4) (ci 4))
 (op 6 (.mov (tm 5))
 (.ite 6 false
 (opg 7 6 false (.load (some 3) (tm 1))
 (opg 8 6 false (.call 116 [(tm 7)])
 (opg 9 6 false (.bin .gtr (tm 8) (ci 200))
 .nil)))
 10 none (.cst (.bool true)) (tm 9)
 .nil))))))
 (.cond (tm 10)
 (.seq
 (.reg
 (op 2 (.mov (ci 3))
 .nil))
 .ret)
 .skip))
 (.seq
 (.reg
 (op 11 (.load (some 3) (tm 1))
 (op 12 (.call 117 [(tm 11)])
 (op 2 (.mov (tm 12))
 .nil))))
 .ret)))
theorem ok_ref02_Valid : FnOk Try.prog 87 13 (SA.erase sa_ref02_Valid) [.tmp 2] := ⟨Try.f87, [], Try.func87, rfl, by kernel_rfl, by kernel_rfl, by kernel_rfl⟩
noncomputable def F_ref02_Valid (a0 : TTrust) : Option Int :=
 Option.bind (F_ref02_Depth (TTrust.mk a0.Threshold a0.Nodes a0.Inner)) fun r1 =>
 Option.bind (bif (decide ((4 : Int) < r1)) then some true
 else
 Option.bind (F_ref02_Size (TTrust.mk a0.Threshold a0.Nodes a0.Inner)) fun r2 =>
 some (decide ((200 : Int) < r2))) fun b3 =>
 bif b3 then
 some (3 : Int)
 else
 Option.bind (F_ref02_check (TTrust.mk a0.Threshold a0.Nodes a0.Inner)) fun r4 =>
 some r4
noncomputable def k_ref02_Valid : KFun U := .fn 87 [.ty (Ty.st .Trust)] (.one (Ty.i .i64)) fun a => F_ref02_Valid a.1
theorem e_ref02_Valid : fnK K [k_ref02_Depth, k_ref02_Size, k_ref02_check] sa_ref02_Valid [.tmp 2] [.ty (Ty.st .Trust)] (.one (Ty.i .i64)) = fun a => F_ref02_Valid a.1 := by kernel_rfl
theorem s_ref02_Valid : KFun.Sound (U := U) Try.prog k_ref02_Valid := fnK_sound (K := K) (Γ := [k_ref02_Depth, k_ref02_Size, k_ref02_check]) ok_ref02_Valid (by kernel_rfl) (by decide) ⟨s_ref02_Depth, s_ref02_Size, s_ref02_check, trivial⟩ (fun a => congrFun e_ref02_Valid a)

/-! ### trustquorum/trustquorumref23.Valid -/
def sa_ref23_Valid : SA U :=
 (.seq
 (.reg
 (op 1 (.box (tm 0))
 (op 2 (.mov (.cst (.bool false)))
 .nil)))
 (.seq
 (.reg
 (op 3 (.faddr 0 (tm 1))
 (op 4 (.load none (tm 3))
 (op 5 (.bin .geq (tm 4) (ci 1))
 (op 6 (.mov (tm 5))
 (.ite 6 true
 (opg 7 6 true (.faddr 0 (tm 1))
 (opg 8 6 true (.load none (tm 7))
 (opg 9 6 true (.bin .leq (tm 8) (ci 1000))
 .nil)))
 10 none (tm 9) (.cst (.bool false))
 (op 11 (.mov (tm 10))
 (.ite 11 false
 (opg 12 11 false (.faddr 0 (tm 1))
 (opg 13 11 false (.load none (tm 12))
 (opg 14 11 false (.bin .eql (tm 13) (ci 1000000))
 .nil)))
 15 none (.cst (.bool true)) (tm 14)
 (op 16 (.mov (tm 15))
 (.ite 16 true
 (opg 17 16 true (.faddr 1 (tm 1))
 (opg 18 16 true (.load none (tm 17))
 (opg 19 16 true (.len true (tm 18))
 (opg 20 16 true (.bin .geq (tm 19) (ci 1))
 .nil))))
 21 none (tm 20) (.cst (.bool false))
 (op 22 (.mov (tm 21))
 (.ite 22 true
 (opg 23 22 true (.faddr 1 (tm 1))
 (opg 24 22 true (.load none (tm 23))
 (opg 25 22 true (.len true (tm 24))
 (opg 26 22 true (.bin .leq (tm 25) (ci 200))
 .nil))))
 27 none (tm 26) (.cst (.bool false))
 (op 2 (.mov (tm 27))
 .nil)))))))))))))
 .ret))
theorem ok_ref23_Valid : FnOk Try.prog 88 28 (SA.erase sa_ref23_Valid) [.tmp 2] := ⟨Try.f88, [], Try.func88, rfl, by kernel_rfl, by kernel_rfl, by kernel_rfl⟩
noncomputable def F_ref23_Valid (a0 : TBallot) : Option Bool :=
 Option.bind (bif (decide ((1 : Int) ≤ a0.Counter)) then
 some (decide (a0.Counter ≤ (1000 : Int)))
 else some false) fun b1 =>
 Option.bind (bif b1 then some true
 else
 some (decide (a0.Counter = (1000000 : Int)))) fun b2 =>
 Option.bind (bif b2 then
 some (decide ((1 : Int) ≤ ((ByteArray.size a0.Value : Nat) : Int)))
 else some false) fun b3 =>
 Option.bind (bif b3 then
 some (decide (((ByteArray.size a0.Value : Nat) : Int) ≤ (200 : Int)))
 else some false) fun b4 =>
 some b4
noncomputable def k_ref23_Valid : KFun U := .fn 88 [.ty (Ty.st .Ballot)] (.one Ty.bool) fun a => F_ref23_Valid a.1
theorem e_ref23_Valid : fnK K [] sa_ref23_Valid [.tmp 2] [.ty (Ty.st .Ballot)] (.one Ty.bool) = fun a => F_ref23_Valid a.1 := by kernel_rfl
theorem s_ref23_Valid : KFun.Sound (U := U) Try.prog k_ref23_Valid := fnK_sound (K := K) (Γ := []) ok_ref23_Valid (by kernel_rfl) (by decide) trivial (fun a => congrFun e_ref23_Valid a)

/-! ### trustquorum/trustquorumref23.Zero -/
def sa_ref23_Zero : SA U :=
 (.seq
 (.reg
 (op 1 (.box (tm 0))
 (op 2 (.mov (.cst (.bool false)))
 .nil)))
 (.seq
 (.reg
 (op 3 (.load (some 2) (tm 1))
 (op 4 (.build [.int .i64 0, .str ⟨#[]⟩] [])
 (op 5 (.eq2 false (tm 3) (tm 4))
 (op 2 (.mov (tm 5))
 .nil)))))
 .ret))
theorem ok_ref23_Zero : FnOk Try.prog 20 6 (SA.erase sa_ref23_Zero) [.tmp 2] := ⟨Try.f20, [], Try.func20, rfl, by kernel_rfl, by kernel_rfl, by kernel_rfl⟩
noncomputable def F_ref23_Zero (a0 : TBallot) : Option Bool :=
 some (eq2 false a0.Counter (0 : Int) a0.Value (ByteArray.mk #[]))
noncomputable def k_ref23_Zero : KFun U := .fn 20 [.ty (Ty.st .Ballot)] (.one Ty.bool) fun a => F_ref23_Zero a.1
theorem e_ref23_Zero : fnK K [] sa_ref23_Zero [.tmp 2] [.ty (Ty.st .Ballot)] (.one Ty.bool) = fun a => F_ref23_Zero a.1 := by kernel_rfl
theorem s_ref23_Zero : KFun.Sound (U := U) Try.prog k_ref23_Zero := fnK_sound (K := K) (Γ := []) ok_ref23_Zero (by kernel_rfl) (by decide) trivial (fun a => congrFun e_ref23_Zero a)

/-! ### trustquorum/trustquorumref23.LessValue -/
def sa_ref23_LessValue : SA U :=
 (.seq
 (.reg
 (op 4 (.mov (.cst (.bool false)))
 .nil))
 (.seq
 (.seq
 (.reg
 (op 5 (.mov (tm 0))
 (op 6 (.len true (tm 5))
 (op 7 (.mov (tm 1))
 (op 8 (.len true (tm 7))
 (op 9 (.bin .neq (tm 6) (tm 8))
 .nil))))))
 (.cond (tm 9)
 (.seq
 (.reg
 (op 10 (.mov (tm 0))
 (op 11 (.len true (tm 10))
 (op 12 (.mov (tm 1))
 (op 13 (.len true (tm 12))
 (op 14 (.bin .lss (tm 11) (tm 13))
 (op 4 (.mov (tm 14))
 .nil)))))))
 .ret)
 .skip))
 (.seq
 (.reg
 (op 15 (.mov (tm 0))
 (op 16 (.mov (tm 1))
 (op 17 (.bin .lss (tm 15) (tm 16))
 (op 4 (.mov (tm 17))
 .nil)))))
 .ret)))
theorem ok_ref23_LessValue : FnOk Try.prog 51 18 (SA.erase sa_ref23_LessValue) [.tmp 4] := ⟨Try.f51, [], Try.func51, rfl, by kernel_rfl, by kernel_rfl, by kernel_rfl⟩
noncomputable def F_ref23_LessValue (a0 : ByteArray) (a1 : ByteArray) : Option Bool :=
 bif (!decide (((ByteArray.size a0 : Nat) : Int) = ((ByteArray.size a1 : Nat) : Int))) then
 some (decide (((ByteArray.size a0 : Nat) : Int) < ((ByteArray.size a1 : Nat) : Int)))
 else
 some (sless a0 a1)
noncomputable def k_ref23_LessValue : KFun U := .fn 51 [.ty Ty.str, .ty Ty.str] (.one Ty.bool) fun a => F_ref23_LessValue a.1 a.2.1
theorem e_ref23_LessValue : fnK K [] sa_ref23_LessValue [.tmp 4] [.ty Ty.str, .ty Ty.str] (.one Ty.bool) = fun a => F_ref23_LessValue a.1 a.2.1 := by kernel_rfl
theorem s_ref23_LessValue : KFun.Sound (U := U) Try.prog k_ref23_LessValue := fnK_sound (K := K) (Γ := []) ok_ref23_LessValue (by kernel_rfl) (by decide) trivial (fun a => congrFun e_ref23_LessValue a)

/-! ### trustquorum/trustquorumref23.Less -/
def sa_ref23_Less : SA U :=
 (.seq
 (.reg
 (op 2 (.box (tm 0))
 (op 3 (.box (tm 1))
 (op 4 (.mov (.cst (.bool false)))
 .nil))))
 (.seq
 (.seq
 (.reg
 (op 5 (.faddr 0 (tm 2))
 (op 6 (.load none (tm 5))
 (op 7 (.faddr 0 (tm 3))
 (op 8 (.load none (tm 7))
 (op 9 (.bin .neq (tm 6) (tm 8))
 .nil))))))
 (.cond (tm 9)
 (.seq
 (.reg
 (op 10 (.faddr 0 (tm 2))
 (op 11 (.load none (tm 10))
 (op 12 (.faddr 0 (tm 3))
 (op 13 (.load none (tm 12))
 (op 14 (.bin .lss (tm 11) (tm 13))
 (op 4 (.mov (tm 14))
 .nil)))))))
 .ret)
 .skip))
 (.seq
 (.reg
 (op 15 (.faddr 1 (tm 2))
 (op 16 (.load none (tm 15))
 (op 17 (.faddr 1 (tm 3))
 (op 18 (.load none (tm 17))
 (op 19 (.call 51 [(tm 16), (tm 18)])
 (op 4 (.mov (tm 19))
 .nil)))))))
 .ret)))
theorem ok_ref23_Less : FnOk Try.prog 21 20 (SA.erase sa_ref23_Less) [.tmp 4] := ⟨Try.f21, [], Try.func21, rfl, by kernel_rfl, by kernel_rfl, by kernel_rfl⟩
noncomputable def F_ref23_Less (a0 : TBallot) (a1 : TBallot) : Option Bool :=
 bif (!decide (a0.Counter = a1.Counter)) then
 some (decide (a0.Counter < a1.Counter))
 else
 Option.bind (F_ref23_LessValue a0.Value a1.Value) fun r1 =>
 some r1
noncomputable def k_ref23_Less : KFun U := .fn 21 [.ty (Ty.st .Ballot), .ty (Ty.st .Ballot)] (.one Ty.bool) fun a => F_ref23_Less a.1 a.2.1
theorem e_ref23_Less : fnK K [k_ref23_LessValue] sa_ref23_Less [.tmp 4] [.ty (Ty.st .Ballot), .ty (Ty.st .Ballot)] (.one Ty.bool) = fun a => F_ref23_Less a.1 a.2.1 := by kernel_rfl
theorem s_ref23_Less : KFun.Sound (U := U) Try.prog k_ref23_Less := fnK_sound (K := K) (Γ := [k_ref23_LessValue]) ok_ref23_Less (by kernel_rfl) (by decide) ⟨s_ref23_LessValue, trivial⟩ (fun a => congrFun e_ref23_Less a)

/-! ### trustquorum/trustquorumref23.Compatible -/
def sa_ref23_Compatible : SA U :=
 (.seq
 (.reg
 (op 2 (.box (tm 0))
 (op 3 (.box (tm 1))
 (op 4 (.mov (.cst (.bool false)))
 .nil))))
 (.seq
 (.reg
 (op 5 (.faddr 1 (tm 2))
 (op 6 (.load none (tm 5))
 (op 7 (.faddr 1 (tm 3))
 (op 8 (.load none (tm 7))
 (op 9 (.bin .eql (tm 6) (tm 8))
 (op 4 (.mov (tm 9))
 .nil)))))))
 .ret))
theorem ok_ref23_Compatible : FnOk Try.prog 22 10 (SA.erase sa_ref23_Compatible) [.tmp 4] := ⟨Try.f22, [], Try.func22, rfl, by kernel_rfl, by kernel_rfl, by kernel_rfl⟩
noncomputable def F_ref23_Compatible (a0 : TBallot) (a1 : TBallot) : Option Bool :=
 some (decide (a0.Value = a1.Value))
noncomputable def k_ref23_Compatible : KFun U := .fn 22 [.ty (Ty.st .Ballot), .ty (Ty.st .Ballot)] (.one Ty.bool) fun a => F_ref23_Compatible a.1 a.2.1
theorem e_ref23_Compatible : fnK K [] sa_ref23_Compatible [.tmp 4] [.ty (Ty.st .Ballot), .ty (Ty.st .Ballot)] (.one Ty.bool) = fun a => F_ref23_Compatible a.1 a.2.1 := by kernel_rfl
theorem s_ref23_Compatible : KFun.Sound (U := U) Try.prog k_ref23_Compatible := fnK_sound (K := K) (Γ := []) ok_ref23_Compatible (by kernel_rfl) (by decide) trivial (fun a => congrFun e_ref23_Compatible a)

/-! ### trustquorum/trustquorumref23.Covers -/
def sa_ref23_Covers : SA U :=
 (.seq
 (.reg
 (op 2 (.box (tm 0))
 (op 3 (.box (tm 1))
 (op 4 (.mov (.cst (.bool false)))
 .nil))))
 (.seq
 (.reg
 (op 5 (.load (some 2) (tm 2))
 (op 6 (.call 20 [(tm 5)])
 (op 7 (.not (tm 6))
 (op 8 (.mov (tm 7))
 (.ite 8 true
 (opg 9 8 true (.load (some 2) (tm 2))
 (opg 10 8 true (.load (some 2) (tm 3))
 (opg 11 8 true (.call 22 [(tm 9), (tm 10)])
 .nil)))
 12 none (tm 11) (.cst (.bool false))
 (op 13 (.mov (tm 12))
 (.ite 13 true
 (opg 14 13 true (.faddr 0 (tm 2))
 (opg 15 13 true (.load none (tm 14))
 (opg 16 13 true (.faddr 0 (tm 3))
 (opg 17 13 true (.load none (tm 16))
 (opg 18 13 true (.bin .geq (tm 15) (tm 17))
 .nil)))))
 19 none (tm 18) (.cst (.bool false))
 (op 4 (.mov (tm 19))
 .nil)))))))))
 .ret))
theorem ok_ref23_Covers : FnOk Try.prog 29 20 (SA.erase sa_ref23_Covers) [.tmp 4] := ⟨Try.f29, [], Try.func29, rfl, by kernel_rfl, by kernel_rfl, by kernel_rfl⟩
noncomputable def F_ref23_Covers (a0 : TBallot) (a1 : TBallot) : Option Bool :=
 Option.bind (F_ref23_Zero a0) fun r1 =>
 Option.bind (bif (!r1) then
 Option.bind (F_ref23_Compatible a0 a1) fun r2 =>
 some r2
 else some false) fun b3 =>
 Option.bind (bif b3 then
 some (decide (a1.Counter ≤ a0.Counter))
 else some false) fun b4 =>
 some b4
noncomputable def k_ref23_Covers : KFun U := .fn 29 [.ty (Ty.st .Ballot), .ty (Ty.st .Ballot)] (.one Ty.bool) fun a => F_ref23_Covers a.1 a.2.1
theorem e_ref23_Covers : fnK K [k_ref23_Zero, k_ref23_Compatible] sa_ref23_Covers [.tmp 4] [.ty (Ty.st .Ballot), .ty (Ty.st .Ballot)] (.one Ty.bool) = fun a => F_ref23_Covers a.1 a.2.1 := by kernel_rfl
theorem s_ref23_Covers : KFun.Sound (U := U) Try.prog k_ref23_Covers := fnK_sound (K := K) (Γ := [k_ref23_Zero, k_ref23_Compatible]) ok_ref23_Covers (by kernel_rfl) (by decide) ⟨s_ref23_Zero, s_ref23_Compatible, trivial⟩ (fun a => congrFun e_ref23_Covers a)

/-! ### trustquorum/trustquorumref23.Prepares -/
def sa_ref23_Prepares : SA U :=
 (.seq
 (.reg
 (op 3 (.box (tm 0))
 (op 4 (.box (tm 1))
 (op 5 (.box (tm 2))
 (op 6 (.mov (.cst (.bool false)))
 .nil)))))
 (.seq
 (.reg
 (op 7 (.load (some 2) (tm 3))
 (op 8 (.load (some 2) (tm 5))
 (op 9 (.call 29 [(tm 7), (tm 8)])
 (op 10 (.mov (tm 9))
 (.ite 10 false
 (opg 11 10 false (.load (some 2) (tm 4))
 (opg 12 10 false (.load (some 2) (tm 5))
 (opg 13 10 false (.call 29 [(tm 11), (tm 12)])
 .nil)))
 14 none (.cst (.bool true)) (tm 13)
 (op 15 (.mov (tm 14))
 (.ite 15 false
 (opg 16 15 false (.load (some 2) (tm 4))
 (opg 17 15 false (.call 20 [(tm 16)])
 (opg 18 15 false (.not (tm 17))
 (opg 19 15 false (.mov (tm 18))
 (.ite 19 true
 (opg 20 19 true (.load (some 2) (tm 5))
 (opg 21 19 true (.load (some 2) (tm 4))
 (opg 22 19 true (.call 21 [(tm 20), (tm 21)])
 .nil)))
 23 (some (15, false)) (tm 22) (.cst (.bool false))
 .nil)))))
 24 none (.cst (.bool true)) (tm 23)
 (op 6 (.mov (tm 24))
 .nil)))))))))
 .ret))
theorem ok_ref23_Prepares : FnOk Try.prog 23 25 (SA.erase sa_ref23_Prepares) [.tmp 6] := ⟨Try.f23, [], Try.func23, rfl, by kernel_rfl, by kernel_rfl, by kernel_rfl⟩
noncomputable def F_ref23_Prepares (a0 : TBallot) (a1 : TBallot) (a2 : TBallot) : Option Bool :=
 Option.bind (F_ref23_Covers a0 a2) fun r1 =>
 Option.bind (bif r1 then some true
 else
 Option.bind (F_ref23_Covers a1 a2) fun r2 =>
 some r2) fun b3 =>
 Option.bind (bif b3 then some true
 else
 Option.bind (F_ref23_Zero a1) fun r4 =>
 Option.bind (bif (!r4) then
 Option.bind (F_ref23_Less a2 a1) fun r5 =>
 some r5
 else some false) fun b6 =>
 some b6) fun b7 =>
 some b7
noncomputable def k_ref23_Prepares : KFun U := .fn 23 [.ty (Ty.st .Ballot), .ty (Ty.st .Ballot), .ty (Ty.st .Ballot)] (.one Ty.bool) fun a => F_ref23_Prepares a.1 a.2.1 a.2.2.1
theorem e_ref23_Prepares : fnK K [k_ref23_Covers, k_ref23_Zero, k_ref23_Less] sa_ref23_Prepares [.tmp 6] [.ty (Ty.st .Ballot), .ty (Ty.st .Ballot), .ty (Ty.st .Ballot)] (.one Ty.bool) = fun a => F_ref23_Prepares a.1 a.2.1 a.2.2.1 := by kernel_rfl
theorem s_ref23_Prepares : KFun.Sound (U := U) Try.prog k_ref23_Prepares := fnK_sound (K := K) (Γ := [k_ref23_Covers, k_ref23_Zero, k_ref23_Less]) ok_ref23_Prepares (by kernel_rfl) (by decide) ⟨s_ref23_Covers, s_ref23_Zero, s_ref23_Less, trivial⟩ (fun a => congrFun e_ref23_Prepares a)

/-! ### trustquorum/trustquorumref23.Aborts -/
def sa_ref23_Aborts : SA U :=
 (.seq
 (.reg
 (op 2 (.box (tm 0))
 (op 3 (.box (tm 1))
 (op 4 (.mov (.cst (.bool false)))
 .nil))))
 (.seq
 (.reg
 (op 5 (.load (some 2) (tm 2))
 (op 6 (.call 20 [(tm 5)])
 (op 7 (.not (tm 6))
 (op 8 (.mov (tm 7))
 (.ite 8 true
 (opg 9 8 true (.load (some 2) (tm 2))
 (opg 10 8 true (.load (some 2) (tm 3))
 (opg 11 8 true (.call 22 [(tm 9), (tm 10)])
 (opg 12 8 true (.not (tm 11))
 .nil))))
 13 none (tm 12) (.cst (.bool false))
 (op 14 (.mov (tm 13))
 (.ite 14 true
 (opg 15 14 true (.load (some 2) (tm 3))
 (opg 16 14 true (.load (some 2) (tm 2))
 (opg 17 14 true (.call 21 [(tm 15), (tm 16)])
 .nil)))
 18 none (tm 17) (.cst (.bool false))
 (op 4 (.mov (tm 18))
 .nil)))))))))
 .ret))
theorem ok_ref23_Aborts : FnOk Try.prog 17 19 (SA.erase sa_ref23_Aborts) [.tmp 4] := ⟨Try.f17, [], Try.func17, rfl, by kernel_rfl, by kernel_rfl, by kernel_rfl⟩
noncomputable def F_ref23_Aborts (a0 : TBallot) (a1 : TBallot) : Option Bool :=
 Option.bind (F_ref23_Zero a0) fun r1 =>
 Option.bind (bif (!r1) then
 Option.bind (F_ref23_Compatible a0 a1) fun r2 =>
 some (!r2)
 else some false) fun b3 =>
 Option.bind (bif b3 then
 Option.bind (F_ref23_Less a1 a0) fun r4 =>
 some r4
 else some false) fun b5 =>
 some b5
noncomputable def k_ref23_Aborts : KFun U := .fn 17 [.ty (Ty.st .Ballot), .ty (Ty.st .Ballot)] (.one Ty.bool) fun a => F_ref23_Aborts a.1 a.2.1
theorem e_ref23_Aborts : fnK K [k_ref23_Zero, k_ref23_Compatible, k_ref23_Less] sa_ref23_Aborts [.tmp 4] [.ty (Ty.st .Ballot), .ty (Ty.st .Ballot)] (.one Ty.bool) = fun a => F_ref23_Aborts a.1 a.2.1 := by kernel_rfl
theorem s_ref23_Aborts : KFun.Sound (U := U) Try.prog k_ref23_Aborts := fnK_sound (K := K) (Γ := [k_ref23_Zero, k_ref23_Compatible, k_ref23_Less]) ok_ref23_Aborts (by kernel_rfl) (by decide) ⟨s_ref23_Zero, s_ref23_Compatible, s_ref23_Less, trivial⟩ (fun a => congrFun e_ref23_Aborts a)

/-! ### trustquorum/trustquorumref24.Valid -/
def sa_ref24_Valid : SA U :=
 (.seq
 (.reg
 (op 1 (.box (tm 0))
 (op 2 (.mov (.cst (.bool false)))
 .nil)))
 (.seq
 (.seq
 (.reg
 (op 6 (.faddr 0 (tm 1))
 (op 7 (.load none (tm 6))
 (op 8 (.bin .lss (tm 7) (ci 0))
 (op 9 (.mov (tm 8))
 (.ite 9 false
 (opg 10 9 false (.faddr 0 (tm 1))
 (opg 11 9 false (.load none (tm 10))
 (opg 12 9 false (.bin .gtr (tm 11) (ci 9))
 .nil)))
 13 none (.cst (.bool true)) (tm 12)
 (op 14 (.mov (tm 13))
 (.ite 14 false
 (opg 15 14 false (.faddr 1 (tm 1))
 (opg 16 14 false (.load none (tm 15))
 (opg 17 14 false (.bin .lss (tm 16) (ci 1))
 .nil)))
 18 none (.cst (.bool true)) (tm 17)
 (op 19 (.mov (tm 18))
 (.ite 19 false
 (opg 20 19 false (.faddr 1 (tm 1))
 (opg 21 19 false (.load none (tm 20))
 (opg 22 19 false (.bin .gtr (tm 21) (ci 1000000))
 .nil)))
 23 none (.cst (.bool true)) (tm 22)
 (op 24 (.mov (tm 23))
 (.ite 24 false
 (opg 25 24 false (.faddr 2 (tm 1))
 (opg 26 24 false (.load none (tm 25))
 (opg 27 24 false (.bin .lss (tm 26) (ci 1))
 .nil)))
 28 none (.cst (.bool true)) (tm 27)
 (op 29 (.mov (tm 28))
 (.ite 29 false
 (opg 30 29 false (.faddr 2 (tm 1))
 (opg 31 29 false (.load none (tm 30))
 (opg 32 29 false (.bin .gtr (tm 31) (ci 1000000))
 .nil)))
 33 none (.cst (.bool true)) (tm 32)
 (op 34 (.mov (tm 33))
 (.ite 34 false
 (opg 35 34 false (.faddr 3 (tm 1))
 (opg 36 34 false (.load (some 3) (tm 35))
 (opg 37 34 false (.call 87 [(tm 36)])
 (opg 38 34 false (.bin .neq (tm 37) (ci 0))
 .nil))))
 39 none (.cst (.bool true)) (tm 38)
 (op 40 (.mov (tm 39))
 (.ite 40 false
 (opg 41 40 false (.faddr 7 (tm 1))
 (opg 42 40 false (.load (some 2) (tm 41))
 (opg 43 40 false (.call 88 [(tm 42)])
 (opg 44 40 false (.not (tm 43))
 .nil))))
 45 none (.cst (.bool true)) (tm 44)
 .nil))))))))))))))))))
 (.cond (tm 45)
 (.seq
 (.reg
 (op 2 (.mov (.cst (.bool false)))
 .nil))
 .ret)
 .skip))
 (.seq
 (.reg
 (op 46 (.faddr 9 (tm 1))
 (op 47 (.load (some 2) (tm 46))
 (op 48 (.call 20 [(tm 47)])
 (op 3 (.mov (tm 48))
 .nil)))))
 (.seq
 (.drw [(0, 2), (1, 2), (0, 3), (1, 3), (0, 4), (1, 4), (0, 6), (1, 6), (2, 6), (3, 6), (4, 6), (0, 7), (1, 7), (2, 7), (3, 7), (4, 7), (0, 8), (1, 8), (2, 8), (3, 8), (4, 8), (6, 8), (7, 8), (0, 9), (1, 9), (2, 9), (3, 9), (4, 9), (6, 9), (7, 9), (0, 10), (1, 10), (2, 10), (3, 10), (4, 10), (6, 10), (7, 10), (0, 12), (1, 12), (2, 12), (3, 12), (4, 12), (6, 12), (7, 12), (8, 12), (9, 12), (10, 12), (0, 13), (1, 13), (2, 13), (3, 13), (4, 13), (6, 13), (7, 13), (8, 13), (9, 13), (10, 13), (12, 13), (6, 14), (7, 14), (8, 14), (9, 14), (10, 14)]
 (op 49 (.faddr 13 (tm 1))
 (op 50 (.load none (tm 49))
 (op 51 (.faddr 7 (tm 1))
 (op 52 (.faddr 1 (tm 51))
 (op 53 (.load none (tm 52))
 (op 54 (.build [.int .i64 0, .str ⟨#[]⟩] [(0, 1, (tm 50)), (1, 1, (tm 53))])
 (op 55 (.faddr 14 (tm 1))
 (op 56 (.load none (tm 55))
 (op 57 (.faddr 7 (tm 1))
 (op 58 (.faddr 1 (tm 57))
 (op 59 (.load none (tm 58))
 (op 60 (.build [.int .i64 0, .str ⟨#[]⟩] [(0, 1, (tm 56)), (1, 1, (tm 59))])
 (op 4 (.alloc [.int .i64 0, .str ⟨#[]⟩])
 (op 5 (.alloc [.int .i64 0, .str ⟨#[]⟩])
 (ops (.store 2 (tm 4) (tm 54))
 (ops (.store 2 (tm 5) (tm 60))
 .nil)))))))))))))))))
 (.seq
 (.seq
 (.reg
 (op 61 (.faddr 6 (tm 1))
 (op 62 (.load none (tm 61))
 .nil)))
 (.block 0
 (.seq
 (.reg
 (op 64 (.bin .eql (tm 62) (ci 1))
 (op 63 (.mov (tm 64))
 .nil)))
 (.cond (tm 63)
 (.seq
 (.seq
 (.reg
 (op 65 (.faddr 7 (tm 1))
 (op 66 (.faddr 0 (tm 65))
 (op 67 (.load none (tm 66))
 (op 68 (.bin .gtr (tm 67) (ci 1000))
 (op 69 (.mov (tm 68))
 (.ite 69 false
 (opg 70 69 false (.mov (tm 3))
 (opg 71 69 false (.not (tm 70))
 (opg 72 69 false (.mov (tm 71))
 (.ite 72 true
 (opg 73 72 true (.faddr 9 (tm 1))
 (opg 74 72 true (.load (some 2) (tm 73))
 (opg 75 72 true (.call 88 [(tm 74)])
 (opg 76 72 true (.not (tm 75))
 .nil))))
 77 (some (69, false)) (tm 76) (.cst (.bool false))
 .nil))))
 78 none (.cst (.bool true)) (tm 77)
 .nil)))))))
 (.cond (tm 78)
 (.seq
 (.reg
 (op 2 (.mov (.cst (.bool false)))
 .nil))
 .ret)
 .skip))
 (.seq
 (.seq
 (.reg
 (op 79 (.faddr 11 (tm 1))
 (op 80 (.load (some 2) (tm 79))
 (op 81 (.call 20 [(tm 80)])
 (op 82 (.not (tm 81))
 (op 83 (.mov (tm 82))
 (.ite 83 true
 (opg 84 83 true (.mov (tm 3))
 (opg 85 83 true (.mov (tm 84))
 (.ite 85 false
 (opg 86 85 false (.faddr 11 (tm 1))
 (opg 87 85 false (.load (some 2) (tm 86))
 (opg 88 85 false (.call 88 [(tm 87)])
 (opg 89 85 false (.not (tm 88))
 .nil))))
 90 (some (83, true)) (.cst (.bool true)) (tm 89)
 (opg 91 83 true (.mov (tm 90))
 (.ite 91 false
 (opg 92 91 false (.faddr 11 (tm 1))
 (opg 93 91 false (.load (some 2) (tm 92))
 (opg 94 91 false (.faddr 9 (tm 1))
 (opg 95 91 false (.load (some 2) (tm 94))
 (opg 96 91 false (.call 21 [(tm 93), (tm 95)])
 (opg 97 91 false (.not (tm 96))
 .nil))))))
 98 (some (83, true)) (.cst (.bool true)) (tm 97)
 (opg 99 83 true (.mov (tm 98))
 (.ite 99 false
 (opg 100 99 false (.faddr 11 (tm 1))
 (opg 101 99 false (.load (some 2) (tm 100))
 (opg 102 99 false (.faddr 9 (tm 1))
 (opg 103 99 false (.load (some 2) (tm 102))
 (opg 104 99 false (.call 22 [(tm 101), (tm 103)])
 .nil)))))
 105 (some (83, true)) (.cst (.bool true)) (tm 104)
 .nil)))))))
 106 none (tm 105) (.cst (.bool false))
 .nil)))))))
 (.cond (tm 106)
 (.seq
 (.reg
 (op 2 (.mov (.cst (.bool false)))
 .nil))
 .ret)
 .skip))
 (.seq
 (.seq
 (.reg
 (op 107 (.faddr 13 (tm 1))
 (op 108 (.load none (tm 107))
 (op 109 (.bin .lss (tm 108) (ci 0))
 (op 110 (.mov (tm 109))
 (.ite 110 false
 (opg 111 110 false (.faddr 13 (tm 1))
 (opg 112 110 false (.load none (tm 111))
 (opg 113 110 false (.faddr 14 (tm 1))
 (opg 114 110 false (.load none (tm 113))
 (opg 115 110 false (.bin .gtr (tm 112) (tm 114))
 .nil)))))
 116 none (.cst (.bool true)) (tm 115)
 (op 117 (.mov (tm 116))
 (.ite 117 false
 (opg 118 117 false (.faddr 14 (tm 1))
 (opg 119 117 false (.load none (tm 118))
 (opg 120 117 false (.faddr 7 (tm 1))
 (opg 121 117 false (.faddr 0 (tm 120))
 (opg 122 117 false (.load none (tm 121))
 (opg 123 117 false (.bin .gtr (tm 119) (tm 122))
 .nil))))))
 124 none (.cst (.bool true)) (tm 123)
 .nil))))))))
 (.cond (tm 124)
 (.seq
 (.reg
 (op 2 (.mov (.cst (.bool false)))
 .nil))
 .ret)
 .skip))
 (.seq
 (.seq
 (.reg
 (op 125 (.faddr 14 (tm 1))
 (op 126 (.load none (tm 125))
 (op 127 (.bin .gtr (tm 126) (ci 0))
 (op 128 (.mov (tm 127))
 (.ite 128 true
 (opg 129 128 true (.faddr 9 (tm 1))
 (opg 130 128 true (.load (some 2) (tm 129))
 (opg 131 128 true (.faddr 11 (tm 1))
 (opg 132 128 true (.load (some 2) (tm 131))
 (opg 133 128 true (.load (some 2) (tm 5))
 (opg 134 128 true (.call 23 [(tm 130), (tm 132), (tm 133)])
 (opg 135 128 true (.not (tm 134))
 .nil)))))))
 136 none (tm 135) (.cst (.bool false))
 .nil))))))
 (.cond (tm 136)
 (.seq
 (.reg
 (op 2 (.mov (.cst (.bool false)))
 .nil))
 .ret)
 .skip))
 (.seq
 (.reg
 (op 137 (.faddr 13 (tm 1))
 (op 138 (.load none (tm 137))
 (op 139 (.bin .eql (tm 138) (ci 0))
 (op 140 (.mov (tm 139))
 (.ite 140 false
 (opg 141 140 false (.faddr 9 (tm 1))
 (opg 142 140 false (.load (some 2) (tm 141))
 (opg 143 140 false (.load (some 2) (tm 4))
 (opg 144 140 false (.call 17 [(tm 142), (tm 143)])
 (opg 145 140 false (.not (tm 144))
 (opg 146 140 false (.mov (tm 145))
 (.ite 146 true
 (opg 147 146 true (.faddr 11 (tm 1))
 (opg 148 146 true (.load (some 2) (tm 147))
 (opg 149 146 true (.load (some 2) (tm 4))
 (opg 150 146 true (.call 17 [(tm 148), (tm 149)])
 (opg 151 146 true (.not (tm 150))
 .nil)))))
 152 (some (140, false)) (tm 151) (.cst (.bool false))
 .nil)))))))
 153 none (.cst (.bool true)) (tm 152)
 (op 2 (.mov (tm 153))
 .nil)))))))
 .ret)))))
 (.seq
 (.reg
 (op 155 (.bin .eql (tm 62) (ci 2))
 (op 154 (.mov (tm 155))
 .nil)))
 (.cond (tm 154)
 (.seq
 (.reg
 (op 156 (.faddr 7 (tm 1))
 (op 157 (.faddr 0 (tm 156))
 (op 158 (.load none (tm 157))
 (op 159 (.bin .leq (tm 158) (ci 1000))
 (op 160 (.mov (tm 159))
 (.ite 160 true
 (opg 161 160 true (.faddr 9 (tm 1))
 (opg 162 160 true (.load (some 2) (tm 161))
 (opg 163 160 true (.call 88 [(tm 162)])
 .nil)))
 164 none (tm 163) (.cst (.bool false))
 (op 165 (.mov (tm 164))
 (.ite 165 true
 (opg 166 165 true (.faddr 9 (tm 1))
 (opg 167 165 true (.load (some 2) (tm 166))
 (opg 168 165 true (.faddr 7 (tm 1))
 (opg 169 165 true (.load (some 2) (tm 168))
 (opg 170 165 true (.call 22 [(tm 167), (tm 169)])
 .nil)))))
 171 none (tm 170) (.cst (.bool false))
 (op 172 (.mov (tm 171))
 (.ite 172 true
 (opg 173 172 true (.faddr 11 (tm 1))
 (opg 174 172 true (.load (some 2) (tm 173))
 (opg 175 172 true (.call 20 [(tm 174)])
 .nil)))
 176 none (tm 175) (.cst (.bool false))
 (op 177 (.mov (tm 176))
 (.ite 177 true
 (opg 178 177 true (.faddr 13 (tm 1))
 (opg 179 177 true (.load none (tm 178))
 (opg 180 177 true (.bin .geq (tm 179) (ci 1))
 .nil)))
 181 none (tm 180) (.cst (.bool false))
 (op 182 (.mov (tm 181))
 (.ite 182 true
 (opg 183 182 true (.faddr 13 (tm 1))
 (opg 184 182 true (.load none (tm 183))
 (opg 185 182 true (.faddr 14 (tm 1))
 (opg 186 182 true (.load none (tm 185))
 (opg 187 182 true (.bin .leq (tm 184) (tm 186))
 .nil)))))
 188 none (tm 187) (.cst (.bool false))
 (op 189 (.mov (tm 188))
 (.ite 189 true
 (opg 190 189 true (.faddr 14 (tm 1))
 (opg 191 189 true (.load none (tm 190))
 (opg 192 189 true (.faddr 9 (tm 1))
 (opg 193 189 true (.faddr 0 (tm 192))
 (opg 194 189 true (.load none (tm 193))
 (opg 195 189 true (.bin .leq (tm 191) (tm 194))
 .nil))))))
 196 none (tm 195) (.cst (.bool false))
 (op 197 (.mov (tm 196))
 (.ite 197 true
 (opg 198 197 true (.faddr 14 (tm 1))
 (opg 199 197 true (.load none (tm 198))
 (opg 200 197 true (.bin .leq (tm 199) (ci 1000))
 .nil)))
 201 none (tm 200) (.cst (.bool false))
 (op 2 (.mov (tm 201))
 .nil))))))))))))))))))))
 .ret)
 (.seq
 (.reg
 (op 203 (.bin .eql (tm 62) (ci 3))
 (op 202 (.mov (tm 203))
 .nil)))
 (.cond (tm 202)
 (.seq
 (.reg
 (op 204 (.mov (tm 3))
 (op 205 (.mov (tm 204))
 (.ite 205 true
 (opg 206 205 true (.faddr 11 (tm 1))
 (opg 207 205 true (.load (some 2) (tm 206))
 (opg 208 205 true (.call 20 [(tm 207)])
 .nil)))
 209 none (tm 208) (.cst (.bool false))
 (op 210 (.mov (tm 209))
 (.ite 210 true
 (opg 211 210 true (.faddr 13 (tm 1))
 (opg 212 210 true (.load none (tm 211))
 (opg 213 210 true (.bin .geq (tm 212) (ci 1))
 .nil)))
 214 none (tm 213) (.cst (.bool false))
 (op 215 (.mov (tm 214))
 (.ite 215 true
 (opg 216 215 true (.faddr 13 (tm 1))
 (opg 217 215 true (.load none (tm 216))
 (opg 218 215 true (.faddr 14 (tm 1))
 (opg 219 215 true (.load none (tm 218))
 (opg 220 215 true (.bin .leq (tm 217) (tm 219))
 .nil)))))
 221 none (tm 220) (.cst (.bool false))
 (op 222 (.mov (tm 221))
 (.ite 222 true
 (opg 223 222 true (.faddr 14 (tm 1))
 (opg 224 222 true (.load none (tm 223))
 (opg 225 222 true (.bin .leq (tm 224) (ci 1000))
 .nil)))
 226 none (tm 225) (.cst (.bool false))
 (op 2 (.mov (tm 226))
 .nil)))))))))))
 .ret)
 .skip))))))))
 (.seq
 (.reg
 (op 2 (.mov (.cst (.bool false)))
 .nil))
 .ret))))))
theorem ok_ref24_Valid : FnOk Try.prog 45 227 (SA.erase sa_ref24_Valid) [.tmp 2] := ⟨Try.f45, [], Try.func45, rfl, by kernel_rfl, by kernel_rfl, by kernel_rfl⟩
noncomputable def F_ref24_Valid (a0 : TEnvelope) : Option Bool :=
 Option.bind (bif (decide (a0.Node < (0 : Int))) then some true
 else
 some (decide ((9 : Int) < a0.Node))) fun b1 =>
 Option.bind (bif b1 then some true
 else
 some (decide (a0.Slot < (1 : Int)))) fun b2 =>
 Option.bind (bif b2 then some true
 else
 some (decide ((1000000 : Int) < a0.Slot))) fun b3 =>
 Option.bind (bif b3 then some true
 else
 some (decide (a0.Seq < (1 : Int)))) fun b4 =>
 Option.bind (bif b4 then some true
 else
 some (decide ((1000000 : Int) < a0.Seq))) fun b5 =>
 Option.bind (bif b5 then some true
 else
 Option.bind (F_ref02_Valid (TTrust.mk a0.Trust.Threshold a0.Trust.Nodes a0.Trust.Inner)) fun r6 =>
 some (!decide (r6 = (0 : Int)))) fun b7 =>
 Option.bind (bif b7 then some true
 else
 Option.bind (F_ref23_Valid a0.Ballot) fun r8 =>
 some (!r8)) fun b9 =>
 bif b9 then
 some false
 else
 Option.bind (F_ref23_Zero a0.Prepared) fun r10 =>
 bif (decide (a0.Kind = (1 : Int))) then
 Option.bind (bif (decide ((1000 : Int) < a0.Ballot.Counter)) then some true
 else
 Option.bind (bif (!r10) then
 Option.bind (F_ref23_Valid a0.Prepared) fun r11 =>
 some (!r11)
 else some false) fun b12 =>
 some b12) fun b13 =>
 bif b13 then
 some false
 else
 Option.bind (F_ref23_Zero a0.Prime) fun r14 =>
 Option.bind (bif (!r14) then
 Option.bind (bif r10 then some true
 else
 Option.bind (F_ref23_Valid a0.Prime) fun r15 =>
 some (!r15)) fun b16 =>
 Option.bind (bif b16 then some true
 else
 Option.bind (F_ref23_Less a0.Prime a0.Prepared) fun r17 =>
 some (!r17)) fun b18 =>
 Option.bind (bif b18 then some true
 else
 Option.bind (F_ref23_Compatible a0.Prime a0.Prepared) fun r19 =>
 some r19) fun b20 =>
 some b20
 else some false) fun b21 =>
 bif b21 then
 some false
 else
 Option.bind (bif (decide (a0.Low < (0 : Int))) then some true
 else
 some (decide (a0.High < a0.Low))) fun b22 =>
 Option.bind (bif b22 then some true
 else
 some (decide (a0.Ballot.Counter < a0.High))) fun b23 =>
 bif b23 then
 some false
 else
 Option.bind (bif (decide ((0 : Int) < a0.High)) then
 Option.bind (F_ref23_Prepares a0.Prepared a0.Prime (TBallot.mk a0.High a0.Ballot.Value)) fun r24 =>
 some (!r24)
 else some false) fun b25 =>
 bif b25 then
 some false
 else
 Option.bind (bif (decide (a0.Low = (0 : Int))) then some true
 else
 Option.bind (F_ref23_Aborts a0.Prepared (TBallot.mk a0.Low a0.Ballot.Value)) fun r26 =>
 Option.bind (bif (!r26) then
 Option.bind (F_ref23_Aborts a0.Prime (TBallot.mk a0.Low a0.Ballot.Value)) fun r27 =>
 some (!r27)
 else some false) fun b28 =>
 some b28) fun b29 =>
 some b29
 else
 bif (decide (a0.Kind = (2 : Int))) then
 Option.bind (bif (decide (a0.Ballot.Counter ≤ (1000 : Int))) then
 Option.bind (F_ref23_Valid a0.Prepared) fun r30 =>
 some r30
 else some false) fun b31 =>
 Option.bind (bif b31 then
 Option.bind (F_ref23_Compatible a0.Prepared a0.Ballot) fun r32 =>
 some r32
 else some false) fun b33 =>
 Option.bind (bif b33 then
 Option.bind (F_ref23_Zero a0.Prime) fun r34 =>
 some r34
 else some false) fun b35 =>
 Option.bind (bif b35 then
 some (decide ((1 : Int) ≤ a0.Low))
 else some false) fun b36 =>
 Option.bind (bif b36 then
 some (decide (a0.Low ≤ a0.High))
 else some false) fun b37 =>
 Option.bind (bif b37 then
 some (decide (a0.High ≤ a0.Prepared.Counter))
 else some false) fun b38 =>
 Option.bind (bif b38 then
 some (decide (a0.High ≤ (1000 : Int)))
 else some false) fun b39 =>
 some b39
 else
 bif (decide (a0.Kind = (3 : Int))) then
 Option.bind (bif r10 then
 Option.bind (F_ref23_Zero a0.Prime) fun r40 =>
 some r40
 else some false) fun b41 =>
 Option.bind (bif b41 then
 some (decide ((1 : Int) ≤ a0.Low))
 else some false) fun b42 =>
 Option.bind (bif b42 then
 some (decide (a0.Low ≤ a0.High))
 else some false) fun b43 =>
 Option.bind (bif b43 then
 some (decide (a0.High ≤ (1000 : Int)))
 else some false) fun b44 =>
 some b44
 else
 some false
noncomputable def k_ref24_Valid : KFun U := .fn 45 [.ty (Ty.st .Envelope)] (.one Ty.bool) fun a => F_ref24_Valid a.1
theorem e_ref24_Valid : fnK K [k_ref02_Valid, k_ref23_Valid, k_ref23_Zero, k_ref23_Less, k_ref23_Compatible, k_ref23_Prepares, k_ref23_Aborts] sa_ref24_Valid [.tmp 2] [.ty (Ty.st .Envelope)] (.one Ty.bool) = fun a => F_ref24_Valid a.1 := by kernel_rfl
theorem s_ref24_Valid : KFun.Sound (U := U) Try.prog k_ref24_Valid := fnK_sound (K := K) (Γ := [k_ref02_Valid, k_ref23_Valid, k_ref23_Zero, k_ref23_Less, k_ref23_Compatible, k_ref23_Prepares, k_ref23_Aborts]) ok_ref24_Valid (by kernel_rfl) (by decide) ⟨s_ref02_Valid, s_ref23_Valid, s_ref23_Zero, s_ref23_Less, s_ref23_Compatible, s_ref23_Prepares, s_ref23_Aborts, trivial⟩ (fun a => congrFun e_ref24_Valid a)

/-! ### (*trustquorum/trustquorumplay.Src).Envelope -/
def sa_play_Src_Envelope : SA U :=
 (.seq
 (.reg
 (op 8 (.alloc [.int .i64 0, .int .i64 0, .int .i64 0, .int .i64 0, .nils, .nils, .int .i64 0, .int .i64 0, .str ⟨#[]⟩, .int .i64 0, .str ⟨#[]⟩, .int .i64 0, .str ⟨#[]⟩, .int .i64 0, .int .i64 0])
 .nil))
 (.seq
 (.reg
 (op 11 (.mov (tm 1))
 (op 12 (.mov (tm 2))
 (op 13 (.mov (tm 0))
 (op 14 (.call 26 [(tm 13), (ci 1), (ci 9)])
 (op 15 (.mov (tm 0))
 (op 16 (.mov (tm 3))
 (op 17 (.call 31 [(tm 15), (tm 16)])
 (op 18 (.build [.int .i64 0, .int .i64 0, .int .i64 0, .int .i64 0, .nils, .nils, .int .i64 0, .int .i64 0, .str ⟨#[]⟩, .int .i64 0, .str ⟨#[]⟩, .int .i64 0, .str ⟨#[]⟩, .int .i64 0, .int .i64 0] [(0, 1, (tm 11)), (1, 1, (tm 12)), (2, 1, (tm 14)), (3, 3, (tm 17))])
 (op 9 (.alloc [.int .i64 0, .int .i64 0, .int .i64 0, .int .i64 0, .nils, .nils, .int .i64 0, .int .i64 0, .str ⟨#[]⟩, .int .i64 0, .str ⟨#[]⟩, .int .i64 0, .str ⟨#[]⟩, .int .i64 0, .int .i64 0])
 (ops (.store 15 (tm 9) (tm 18))
 .nil)))))))))))
 (.seq
 (.reg
 (op 19 (.mov (tm 0))
 (op 20 (.call 14 [(tm 19)])
 (op 10 (.mov (tm 20))
 .nil))))
 (.join ⟨[.box 0 0 (Ty.st .Src) [], .box 10 1 (Ty.st .Envelope) []], [8, 9]⟩
 (.seq
 (.reg
 (op 21 (.mov (tm 0))
 (op 22 (.call 13 [(tm 21), (ci 4)])
 .nil)))
 (.block 0
 (.join ⟨[.box 0 0 (Ty.st .Src) [], .box 10 1 (Ty.st .Envelope) []], [0, 8, 9, 10]⟩
 (.block 3
 (.seq
 (.block 2
 (.seq
 (.block 1
 (.seq
 (.seq
 (.seq
 (.reg
 (op 24 (.bin .eql (tm 22) (ci 0))
 (op 23 (.mov (tm 24))
 .nil)))
 (.cond (tm 23)
 (.exit 1)
 .skip))
 (.seq
 (.reg
 (op 26 (.bin .eql (tm 22) (ci 1))
 (op 25 (.mov (tm 26))
 .nil)))
 (.cond (tm 25)
 (.exit 2)
 .skip)))
 (.exit 3)))
 (.seq
 (.seq
 (.reg
 (op 27 (.mov (tm 0))
 (op 28 (.call 26 [(tm 27), (ci 1), (ci 7)])
 (op 29 (.mov (tm 10))
 (op 30 (.build [.int .i64 0, .str ⟨#[]⟩] [(0, 1, (tm 28)), (1, 1, (tm 29))])
 (op 31 (.faddr 6 (tm 9))
 (ops (.store 1 (tm 31) (ci 2))
 (op 32 (.faddr 7 (tm 9))
 (ops (.store 2 (tm 32) (tm 30))
 .nil)))))))))
 (.seq
 (.reg
 (op 33 (.mov (tm 0))
 (op 34 (.call 26 [(tm 33), (ci 1), (ci 4)])
 (op 35 (.faddr 13 (tm 9))
 (ops (.store 1 (tm 35) (tm 34))
 .nil)))))
 (.seq
 (.drw [(0, 3), (1, 3)]
 (op 36 (.faddr 13 (tm 9))
 (op 37 (.load none (tm 36))
 (op 38 (.mov (tm 0))
 (op 39 (.call 13 [(tm 38), (ci 3)])
 (op 40 (.bin .add (tm 37) (tm 39))
 (op 41 (.faddr 14 (tm 9))
 (ops (.store 1 (tm 41) (tm 40))
 .nil))))))))
 (.drw [(0, 3), (1, 3)]
 (op 42 (.faddr 14 (tm 9))
 (op 43 (.load none (tm 42))
 (op 44 (.mov (tm 0))
 (op 45 (.call 13 [(tm 44), (ci 3)])
 (op 46 (.bin .add (tm 43) (tm 45))
 (op 47 (.mov (tm 10))
 (op 48 (.build [.int .i64 0, .str ⟨#[]⟩] [(0, 1, (tm 46)), (1, 1, (tm 47))])
 (op 49 (.faddr 9 (tm 9))
 (ops (.store 2 (tm 49) (tm 48))
 .nil)))))))))))))
 (.exit 0))))
 (.seq
 (.reg
 (op 50 (.mov (tm 0))
 (op 51 (.call 13 [(tm 50), (ci 3)])
 (op 52 (.bin .gtr (tm 51) (ci 0))
 .nil))))
 (.cond (tm 52)
 (.seq
 (.reg
 (op 53 (.mov (tm 0))
 (op 54 (.call 26 [(tm 53), (ci 1), (ci 7)])
 (op 55 (.mov (tm 10))
 (op 56 (.build [.int .i64 0, .str ⟨#[]⟩] [(0, 1, (tm 54)), (1, 1, (tm 55))])
 (op 57 (.faddr 6 (tm 9))
 (ops (.store 1 (tm 57) (ci 3))
 (op 58 (.faddr 7 (tm 9))
 (ops (.store 2 (tm 58) (tm 56))
 .nil)))))))))
 (.seq
 (.reg
 (op 59 (.mov (tm 0))
 (op 60 (.call 26 [(tm 59), (ci 1), (ci 4)])
 (op 61 (.faddr 13 (tm 9))
 (ops (.store 1 (tm 61) (tm 60))
 .nil)))))
 (.seq
 (.drw [(0, 3), (1, 3)]
 (op 62 (.faddr 13 (tm 9))
 (op 63 (.load none (tm 62))
 (op 64 (.mov (tm 0))
 (op 65 (.call 13 [(tm 64), (ci 3)])
 (op 66 (.bin .add (tm 63) (tm 65))
 (op 67 (.faddr 14 (tm 9))
 (ops (.store 1 (tm 67) (tm 66))
 .nil))))))))
 (.exit 0))))
 .skip))))
 (.join ⟨[.box 0 0 (Ty.st .Src) [], .box 10 1 (Ty.st .Envelope) []], [8, 9]⟩
 (.seq
 (.reg
 (op 68 (.mov (tm 0))
 (op 69 (.call 26 [(tm 68), (ci 1), (ci 7)])
 (op 70 (.mov (tm 10))
 (op 71 (.build [.int .i64 0, .str ⟨#[]⟩] [(0, 1, (tm 69)), (1, 1, (tm 70))])
 (op 72 (.faddr 6 (tm 9))
 (ops (.store 1 (tm 72) (ci 1))
 (op 73 (.faddr 7 (tm 9))
 (ops (.store 2 (tm 73) (tm 71))
 .nil)))))))))
 (.join ⟨[.box 0 0 (Ty.st .Src) [], .box 10 1 (Ty.st .Envelope) []], [0, 8, 9]⟩
 (.seq
 (.reg
 (op 74 (.mov (tm 0))
 (op 75 (.call 13 [(tm 74), (ci 3)])
 (op 76 (.bin .gtr (tm 75) (ci 0))
 .nil))))
 (.cond (tm 76)
 (.seq
 (.reg
 (op 77 (.mov (tm 0))
 (op 78 (.call 18 [(tm 77)])
 (op 79 (.faddr 9 (tm 9))
 (ops (.store 2 (tm 79) (tm 78))
 .nil)))))
 (.seq
 (.reg
 (op 80 (.mov (tm 0))
 (op 81 (.call 13 [(tm 80), (ci 2)])
 (op 82 (.bin .eql (tm 81) (ci 1))
 .nil))))
 (.cond (tm 82)
 (.reg
 (op 83 (.mov (tm 0))
 (op 84 (.call 18 [(tm 83)])
 (op 85 (.faddr 11 (tm 9))
 (ops (.store 2 (tm 85) (tm 84))
 .nil)))))
 .skip)))
 .skip))
 (.seq
 (.reg
 (op 86 (.mov (tm 0))
 (op 87 (.faddr 7 (tm 9))
 (op 88 (.faddr 0 (tm 87))
 (op 89 (.load none (tm 88))
 (op 90 (.bin .add (tm 89) (ci 1))
 (op 91 (.call 13 [(tm 86), (tm 90)])
 (op 92 (.faddr 14 (tm 9))
 (ops (.store 1 (tm 92) (tm 91))
 .nil)))))))))
 (.seq
 (.reg
 (op 93 (.mov (tm 0))
 (op 94 (.faddr 14 (tm 9))
 (op 95 (.load none (tm 94))
 (op 96 (.bin .add (tm 95) (ci 1))
 (op 97 (.call 13 [(tm 93), (tm 96)])
 (op 98 (.faddr 13 (tm 9))
 (ops (.store 1 (tm 98) (tm 97))
 .nil))))))))
 (.join ⟨[.box 10 1 (Ty.st .Envelope) []], [8, 9]⟩
 (.seq
 (.reg
 (op 99 (.load (some 15) (tm 9))
 (op 100 (.call 45 [(tm 99)])
 (op 101 (.not (tm 100))
 .nil))))
 (.cond (tm 101)
 (.reg
 (op 102 (.faddr 13 (tm 9))
 (ops (.store 1 (tm 102) (ci 0))
 .nil)))
 .skip))
 (.join ⟨[.box 10 1 (Ty.st .Envelope) []], [8, 9]⟩
 (.seq
 (.reg
 (op 103 (.load (some 15) (tm 9))
 (op 104 (.call 45 [(tm 103)])
 (op 105 (.not (tm 104))
 .nil))))
 (.cond (tm 105)
 (.reg
 (op 106 (.faddr 14 (tm 9))
 (ops (.store 1 (tm 106) (ci 0))
 .nil)))
 .skip))
 (.seq
 (.reg
 (op 107 (.load (some 15) (tm 9))
 (op 108 (.call 45 [(tm 107)])
 (op 109 (.not (tm 108))
 .nil))))
 (.cond (tm 109)
 (.reg
 (op 110 (.build [.int .i64 0, .str ⟨#[]⟩] [])
 (op 111 (.faddr 11 (tm 9))
 (ops (.store 2 (tm 111) (tm 110))
 .nil))))
 .skip))))))))
 (.exit 0)))))
 (.seq
 (.reg
 (op 112 (.load (some 15) (tm 9))
 (ops (.store 15 (tm 8) (tm 112))
 .nil)))
 .ret)))))
theorem ok_play_Src_Envelope : FnOk Try.prog 12 113 (SA.erase sa_play_Src_Envelope) [.cell 8 (some 15)] := ⟨Try.f12, [], Try.func12, rfl, by kernel_rfl, by kernel_rfl, by kernel_rfl⟩
noncomputable def F_play_Src_Envelope (s : TSrc) (a0 : Int) (a1 : Int) (a2 : Int) : Option (TEnvelope × TSrc) :=
 Option.bind (F_play_Src_Range s (1 : Int) (9 : Int)) fun p1 =>
 Option.bind (F_play_Src_Trust p1.2 a2) fun p2 =>
 Option.bind (F_play_Src_Value p2.2) fun p3 =>
 letJ (fun (v4 : TSrc × TEnvelope × Unit) =>
 some ((TEnvelope.mk v4.2.1.Node v4.2.1.Slot v4.2.1.Seq (TTrust.mk v4.2.1.Trust.Threshold v4.2.1.Trust.Nodes v4.2.1.Trust.Inner) v4.2.1.Kind v4.2.1.Ballot v4.2.1.Prepared v4.2.1.Prime v4.2.1.Low v4.2.1.High), v4.1)) fun j5 =>
 Option.bind (F_play_Src_N p3.2 (4 : Int)) fun p6 =>
 letJ (fun (v7 : TSrc × TEnvelope × Unit) =>
 letJ (fun (v9 : TSrc × TEnvelope × Unit) =>
 j5 (v9.1, (TEnvelope.mk v9.2.1.Node v9.2.1.Slot v9.2.1.Seq (TTrust.mk v9.2.1.Trust.Threshold v9.2.1.Trust.Nodes v9.2.1.Trust.Inner) v9.2.1.Kind v9.2.1.Ballot v9.2.1.Prepared v9.2.1.Prime v9.2.1.Low v9.2.1.High), ())) fun j10 =>
 Option.bind (F_play_Src_Range v7.1 (1 : Int) (7 : Int)) fun p11 =>
 letJ (fun (v12 : TSrc × TEnvelope × Unit) =>
 Option.bind (F_play_Src_N v12.1 (addI .i64 v12.2.1.Ballot.Counter (1 : Int))) fun p14 =>
 Option.bind (F_play_Src_N p14.2 (addI .i64 p14.1 (1 : Int))) fun p15 =>
 letJ (fun (v16 : TEnvelope × Unit) =>
 letJ (fun (v18 : TEnvelope × Unit) =>
 Option.bind (F_ref24_Valid (TEnvelope.mk v18.1.Node v18.1.Slot v18.1.Seq (TTrust.mk v18.1.Trust.Threshold v18.1.Trust.Nodes v18.1.Trust.Inner) v18.1.Kind v18.1.Ballot v18.1.Prepared v18.1.Prime v18.1.Low v18.1.High)) fun r20 =>
 bif (!r20) then
 j10 (p15.2, (TEnvelope.mk v18.1.Node v18.1.Slot v18.1.Seq (TTrust.mk v18.1.Trust.Threshold v18.1.Trust.Nodes v18.1.Trust.Inner) v18.1.Kind v18.1.Ballot v18.1.Prepared (TBallot.mk (0 : Int) (ByteArray.mk #[])) v18.1.Low v18.1.High), ())
 else
 j10 (p15.2, (TEnvelope.mk v18.1.Node v18.1.Slot v18.1.Seq (TTrust.mk v18.1.Trust.Threshold v18.1.Trust.Nodes v18.1.Trust.Inner) v18.1.Kind v18.1.Ballot v18.1.Prepared v18.1.Prime v18.1.Low v18.1.High), ())) fun j19 =>
 Option.bind (F_ref24_Valid (TEnvelope.mk v16.1.Node v16.1.Slot v16.1.Seq (TTrust.mk v16.1.Trust.Threshold v16.1.Trust.Nodes v16.1.Trust.Inner) v16.1.Kind v16.1.Ballot v16.1.Prepared v16.1.Prime v16.1.Low v16.1.High)) fun r21 =>
 bif (!r21) then
 j19 ((TEnvelope.mk v16.1.Node v16.1.Slot v16.1.Seq (TTrust.mk v16.1.Trust.Threshold v16.1.Trust.Nodes v16.1.Trust.Inner) v16.1.Kind v16.1.Ballot v16.1.Prepared v16.1.Prime v16.1.Low (0 : Int)), ())
 else
 j19 ((TEnvelope.mk v16.1.Node v16.1.Slot v16.1.Seq (TTrust.mk v16.1.Trust.Threshold v16.1.Trust.Nodes v16.1.Trust.Inner) v16.1.Kind v16.1.Ballot v16.1.Prepared v16.1.Prime v16.1.Low v16.1.High), ())) fun j17 =>
 Option.bind (F_ref24_Valid (TEnvelope.mk v12.2.1.Node v12.2.1.Slot v12.2.1.Seq (TTrust.mk v12.2.1.Trust.Threshold v12.2.1.Trust.Nodes v12.2.1.Trust.Inner) v12.2.1.Kind v12.2.1.Ballot v12.2.1.Prepared v12.2.1.Prime p15.1 p14.1)) fun r22 =>
 bif (!r22) then
 j17 ((TEnvelope.mk v12.2.1.Node v12.2.1.Slot v12.2.1.Seq (TTrust.mk v12.2.1.Trust.Threshold v12.2.1.Trust.Nodes v12.2.1.Trust.Inner) v12.2.1.Kind v12.2.1.Ballot v12.2.1.Prepared v12.2.1.Prime (0 : Int) p14.1), ())
 else
 j17 ((TEnvelope.mk v12.2.1.Node v12.2.1.Slot v12.2.1.Seq (TTrust.mk v12.2.1.Trust.Threshold v12.2.1.Trust.Nodes v12.2.1.Trust.Inner) v12.2.1.Kind v12.2.1.Ballot v12.2.1.Prepared v12.2.1.Prime p15.1 p14.1), ())) fun j13 =>
 Option.bind (F_play_Src_N p11.2 (3 : Int)) fun p23 =>
 bif (decide ((0 : Int) < p23.1)) then
 Option.bind (F_play_Src_Low p23.2) fun p24 =>
 Option.bind (F_play_Src_N p24.2 (2 : Int)) fun p25 =>
 bif (decide (p25.1 = (1 : Int))) then
 Option.bind (F_play_Src_Low p25.2) fun p26 =>
 j13 (p26.2, (TEnvelope.mk v7.2.1.Node v7.2.1.Slot v7.2.1.Seq (TTrust.mk v7.2.1.Trust.Threshold v7.2.1.Trust.Nodes v7.2.1.Trust.Inner) (1 : Int) (TBallot.mk p11.1 p3.1) p24.1 p26.1 v7.2.1.Low v7.2.1.High), ())
 else
 j13 (p25.2, (TEnvelope.mk v7.2.1.Node v7.2.1.Slot v7.2.1.Seq (TTrust.mk v7.2.1.Trust.Threshold v7.2.1.Trust.Nodes v7.2.1.Trust.Inner) (1 : Int) (TBallot.mk p11.1 p3.1) p24.1 v7.2.1.Prime v7.2.1.Low v7.2.1.High), ())
 else
 j13 (p23.2, (TEnvelope.mk v7.2.1.Node v7.2.1.Slot v7.2.1.Seq (TTrust.mk v7.2.1.Trust.Threshold v7.2.1.Trust.Nodes v7.2.1.Trust.Inner) (1 : Int) (TBallot.mk p11.1 p3.1) v7.2.1.Prepared v7.2.1.Prime v7.2.1.Low v7.2.1.High), ())) fun j8 =>
 bif (decide (p6.1 = (0 : Int))) then
 Option.bind (F_play_Src_Range p6.2 (1 : Int) (7 : Int)) fun p27 =>
 Option.bind (F_play_Src_Range p27.2 (1 : Int) (4 : Int)) fun p28 =>
 Option.bind (F_play_Src_N p28.2 (3 : Int)) fun p29 =>
 Option.bind (F_play_Src_N p29.2 (3 : Int)) fun p30 =>
 j5 (p30.2, (TEnvelope.mk a0 a1 p1.1 (TTrust.mk p2.1.Threshold p2.1.Nodes p2.1.Inner) (2 : Int) (TBallot.mk p27.1 p3.1) (TBallot.mk (addI .i64 (addI .i64 p28.1 p29.1) p30.1) p3.1) (TBallot.mk (0 : Int) (ByteArray.mk #[])) p28.1 (addI .i64 p28.1 p29.1)), ())
 else
 bif (decide (p6.1 = (1 : Int))) then
 Option.bind (F_play_Src_N p6.2 (3 : Int)) fun p31 =>
 bif (decide ((0 : Int) < p31.1)) then
 Option.bind (F_play_Src_Range p31.2 (1 : Int) (7 : Int)) fun p32 =>
 Option.bind (F_play_Src_Range p32.2 (1 : Int) (4 : Int)) fun p33 =>
 Option.bind (F_play_Src_N p33.2 (3 : Int)) fun p34 =>
 j5 (p34.2, (TEnvelope.mk a0 a1 p1.1 (TTrust.mk p2.1.Threshold p2.1.Nodes p2.1.Inner) (3 : Int) (TBallot.mk p32.1 p3.1) (TBallot.mk (0 : Int) (ByteArray.mk #[])) (TBallot.mk (0 : Int) (ByteArray.mk #[])) p33.1 (addI .i64 p33.1 p34.1)), ())
 else
 j8 (p31.2, (TEnvelope.mk a0 a1 p1.1 (TTrust.mk p2.1.Threshold p2.1.Nodes p2.1.Inner) (0 : Int) (TBallot.mk (0 : Int) (ByteArray.mk #[])) (TBallot.mk (0 : Int) (ByteArray.mk #[])) (TBallot.mk (0 : Int) (ByteArray.mk #[])) (0 : Int) (0 : Int)), ())
 else
 j8 (p6.2, (TEnvelope.mk a0 a1 p1.1 (TTrust.mk p2.1.Threshold p2.1.Nodes p2.1.Inner) (0 : Int) (TBallot.mk (0 : Int) (ByteArray.mk #[])) (TBallot.mk (0 : Int) (ByteArray.mk #[])) (TBallot.mk (0 : Int) (ByteArray.mk #[])) (0 : Int) (0 : Int)), ())
noncomputable def k_play_Src_Envelope : KFun U := .rc 12 0 (Ty.st .Src) [.ty (Ty.i .i64), .ty (Ty.i .i64), .ty (Ty.i .i64)] (.one (Ty.st .Envelope)) fun s a => F_play_Src_Envelope s a.1 a.2.1 a.2.2.1
theorem e_play_Src_Envelope : rcK K [k_play_Src_Range, k_play_Src_Trust, k_play_Src_Value, k_play_Src_N, k_play_Src_Low, k_ref24_Valid] sa_play_Src_Envelope [.cell 8 (some 15)] 0 (Ty.st .Src) [.ty (Ty.i .i64), .ty (Ty.i .i64), .ty (Ty.i .i64)] (.one (Ty.st .Envelope)) = fun s a => F_play_Src_Envelope s a.1 a.2.1 a.2.2.1 := by kernel_rfl
theorem s_play_Src_Envelope : KFun.Sound (U := U) Try.prog k_play_Src_Envelope := rcK_sound (K := K) (Γ := [k_play_Src_Range, k_play_Src_Trust, k_play_Src_Value, k_play_Src_N, k_play_Src_Low, k_ref24_Valid]) ok_play_Src_Envelope (by kernel_rfl) (by decide) ⟨s_play_Src_Range, s_play_Src_Trust, s_play_Src_Value, s_play_Src_N, s_play_Src_Low, s_ref24_Valid, trivial⟩ (fun s a => congrFun (congrFun e_play_Src_Envelope s) a)

/-! ### trustquorum/threshold.Depth -/
def sa_threshold_Depth : SA U :=
 (.seq
 (.reg
 (op 1 (.box (tm 0))
 (op 2 (.mov (ci 0))
 .nil)))
 (.seq
 (.reg
 (op 3 (.mov (ci 0))
 .nil))
 (.seq
 (.seq
 (.reg
 (op 6 (.faddr 2 (tm 1))
 (op 7 (.load none (tm 6))
 (op 8 (.len false (tm 7))
 (op 9 (.mov (ci 0))
 .nil)))))
 (.block 0
 (.loop ⟨[.val 3 (Ty.i .i64), .val 9 (Ty.i .i64)], [7, 8]⟩
 (.seq
 (.reg
 (op 10 (.bin .lss (tm 9) (tm 8))
 .nil))
 (.seq
 (.cond (tm 10)
 .skip
 (.exit 0))
 (.seq
 (.block 1
 (.seq
 (.reg
 (op 11 (.iaddr 3 (tm 7) (tm 9))
 (op 12 (.load (some 3) (tm 11))
 (op 5 (.alloc [.int .i64 0, .nils, .nils])
 (ops (.store 3 (tm 5) (tm 12))
 .nil)))))
 (.reg
 (op 13 (.mov (tm 3))
 (op 14 (.load (some 3) (tm 5))
 (op 15 (.call 92 [(tm 14)])
 (op 16 (.minmax true (tm 13) (tm 15))
 (op 3 (.mov (tm 16))
 .nil))))))))
 (.reg
 (op 17 (.bin .add (tm 9) (ci 1))
 (op 9 (.mov (tm 17))
 .nil)))))))))
 (.seq
 (.reg
 (op 18 (.mov (tm 3))
 (op 19 (.bin .add (tm 18) (ci 1))
 (op 2 (.mov (tm 19))
 .nil))))
 .ret))))
theorem ok_threshold_Depth : FnOk Try.prog 92 20 (SA.erase sa_threshold_Depth) [.tmp 2] := ⟨Try.f92, [], Try.func92, rfl, by kernel_rfl, by kernel_rfl, by kernel_rfl⟩
noncomputable def B_threshold_Depth (rec : (TTrust × Unit) → Option Int) (a0 : TTrust) : Option Int :=
 loopO (fun (v1 : Int × Int × Unit) =>
 bif (decide (v1.2.1 < ((List.length a0.Inner : Nat) : Int))) then
 Option.bind (idx a0.Inner v1.2.1) fun x2 =>
 Option.bind (rec ((TTrust.mk x2.Threshold x2.Nodes x2.Inner), ())) fun r3 =>
 some (Sum.inl ((maxI v1.1 r3), (addI .i64 v1.2.1 (1 : Int)), ()))
 else
 Option.map Sum.inr (some (addI .i64 v1.1 (1 : Int)))) ((0 : Int), (0 : Int), ())
noncomputable def I_threshold_Depth : Nat → (TTrust × Unit) → Option Int := iterF (fun rec a => B_threshold_Depth rec a.1)
noncomputable def F_threshold_Depth (a0 : TTrust) : Option Int := I_threshold_Depth (SizeOf.sizeOf a0 + 1) (a0, ())
noncomputable def k_threshold_Depth : KFun U := .fn 92 [.ty (Ty.st .Trust)] (.one (Ty.i .i64)) fun a => F_threshold_Depth a.1
theorem e_threshold_Depth : (fun G => fnK K (.fn 92 [.ty (Ty.st .Trust)] (.one (Ty.i .i64)) G :: []) sa_threshold_Depth [.tmp 2] [.ty (Ty.st .Trust)] (.one (Ty.i .i64))) = (fun G a => B_threshold_Depth G a.1) := by kernel_rfl
theorem n_threshold_Depth : ∀ n, KFun.Sound (U := U) Try.prog (.fn 92 [.ty (Ty.st .Trust)] (.one (Ty.i .i64)) (I_threshold_Depth n))
  | 0 => ⟨ok_threshold_Depth.enters, fun a r h => by cases h⟩
  | n + 1 => fnK_sound (K := K) (r := .one (Ty.i .i64)) (Γ := .fn 92 [.ty (Ty.st .Trust)] (.one (Ty.i .i64)) (I_threshold_Depth n) :: []) (F := I_threshold_Depth (n + 1)) ok_threshold_Depth (by kernel_rfl) (by decide) ⟨n_threshold_Depth n, trivial⟩ (fun a => congrFun (congrFun e_threshold_Depth (I_threshold_Depth n)) a)
theorem s_threshold_Depth : KFun.Sound (U := U) Try.prog k_threshold_Depth := ⟨ok_threshold_Depth.enters, fun a r h => (n_threshold_Depth _).2 a r h⟩

/-! ### trustquorum/threshold.Size -/
def sa_threshold_Size : SA U :=
 (.seq
 (.reg
 (op 1 (.box (tm 0))
 (op 2 (.mov (ci 0))
 .nil)))
 (.seq
 (.reg
 (op 6 (.faddr 1 (tm 1))
 (op 7 (.load none (tm 6))
 (op 8 (.len false (tm 7))
 (op 9 (.faddr 2 (tm 1))
 (op 10 (.load none (tm 9))
 (op 11 (.len false (tm 10))
 (op 12 (.bin .add (tm 8) (tm 11))
 (op 3 (.mov (tm 12))
 .nil)))))))))
 (.seq
 (.seq
 (.reg
 (op 13 (.faddr 2 (tm 1))
 (op 14 (.load none (tm 13))
 (op 15 (.len false (tm 14))
 (op 16 (.mov (ci 0))
 .nil)))))
 (.block 0
 (.loop ⟨[.val 3 (Ty.i .i64), .val 16 (Ty.i .i64)], [14, 15]⟩
 (.seq
 (.reg
 (op 17 (.bin .lss (tm 16) (tm 15))
 .nil))
 (.seq
 (.cond (tm 17)
 .skip
 (.exit 0))
 (.seq
 (.block 1
 (.seq
 (.reg
 (op 18 (.iaddr 3 (tm 14) (tm 16))
 (op 19 (.load (some 3) (tm 18))
 (op 5 (.alloc [.int .i64 0, .nils, .nils])
 (ops (.store 3 (tm 5) (tm 19))
 .nil)))))
 (.reg
 (op 20 (.mov (tm 3))
 (op 21 (.load (some 3) (tm 5))
 (op 22 (.call 93 [(tm 21)])
 (op 23 (.bin .add (tm 20) (tm 22))
 (op 3 (.mov (tm 23))
 .nil))))))))
 (.reg
 (op 24 (.bin .add (tm 16) (ci 1))
 (op 16 (.mov (tm 24))
 .nil)))))))))
 (.seq
 (.reg
 (op 25 (.mov (tm 3))
 (op 2 (.mov (tm 25))
 .nil)))
 .ret))))
theorem ok_threshold_Size : FnOk Try.prog 93 26 (SA.erase sa_threshold_Size) [.tmp 2] := ⟨Try.f93, [], Try.func93, rfl, by kernel_rfl, by kernel_rfl, by kernel_rfl⟩
noncomputable def B_threshold_Size (rec : (TTrust × Unit) → Option Int) (a0 : TTrust) : Option Int :=
 loopO (fun (v1 : Int × Int × Unit) =>
 bif (decide (v1.2.1 < ((List.length a0.Inner : Nat) : Int))) then
 Option.bind (idx a0.Inner v1.2.1) fun x2 =>
 Option.bind (rec ((TTrust.mk x2.Threshold x2.Nodes x2.Inner), ())) fun r3 =>
 some (Sum.inl ((addI .i64 v1.1 r3), (addI .i64 v1.2.1 (1 : Int)), ()))
 else
 Option.map Sum.inr (some v1.1)) ((addI .i64 ((List.length a0.Nodes : Nat) : Int) ((List.length a0.Inner : Nat) : Int)), (0 : Int), ())
noncomputable def I_threshold_Size : Nat → (TTrust × Unit) → Option Int := iterF (fun rec a => B_threshold_Size rec a.1)
noncomputable def F_threshold_Size (a0 : TTrust) : Option Int := I_threshold_Size (SizeOf.sizeOf a0 + 1) (a0, ())
noncomputable def k_threshold_Size : KFun U := .fn 93 [.ty (Ty.st .Trust)] (.one (Ty.i .i64)) fun a => F_threshold_Size a.1
theorem e_threshold_Size : (fun G => fnK K (.fn 93 [.ty (Ty.st .Trust)] (.one (Ty.i .i64)) G :: []) sa_threshold_Size [.tmp 2] [.ty (Ty.st .Trust)] (.one (Ty.i .i64))) = (fun G a => B_threshold_Size G a.1) := by kernel_rfl
theorem n_threshold_Size : ∀ n, KFun.Sound (U := U) Try.prog (.fn 93 [.ty (Ty.st .Trust)] (.one (Ty.i .i64)) (I_threshold_Size n))
  | 0 => ⟨ok_threshold_Size.enters, fun a r h => by cases h⟩
  | n + 1 => fnK_sound (K := K) (r := .one (Ty.i .i64)) (Γ := .fn 93 [.ty (Ty.st .Trust)] (.one (Ty.i .i64)) (I_threshold_Size n) :: []) (F := I_threshold_Size (n + 1)) ok_threshold_Size (by kernel_rfl) (by decide) ⟨n_threshold_Size n, trivial⟩ (fun a => congrFun (congrFun e_threshold_Size (I_threshold_Size n)) a)
theorem s_threshold_Size : KFun.Sound (U := U) Try.prog k_threshold_Size := ⟨ok_threshold_Size.enters, fun a r h => (n_threshold_Size _).2 a r h⟩

/-! ### trustquorum/threshold.node -/
def sa_threshold_node : SA U :=
 (.seq
 (.reg
 (op 2 (.mov (.cst (.bool false)))
 .nil))
 (.seq
 (.reg
 (op 3 (.mov (tm 0))
 (op 4 (.bin .geq (tm 3) (ci 0))
 (op 5 (.mov (tm 4))
 (.ite 5 true
 (opg 6 5 true (.mov (tm 0))
 (opg 7 5 true (.bin .lss (tm 6) (ci 10))
 .nil))
 8 none (tm 7) (.cst (.bool false))
 (op 2 (.mov (tm 8))
 .nil))))))
 .ret))
theorem ok_threshold_node : FnOk Try.prog 123 9 (SA.erase sa_threshold_node) [.tmp 2] := ⟨Try.f123, [], Try.func123, rfl, by kernel_rfl, by kernel_rfl, by kernel_rfl⟩
noncomputable def F_threshold_node (a0 : Int) : Option Bool :=
 Option.bind (bif (decide ((0 : Int) ≤ a0)) then
 some (decide (a0 < (10 : Int)))
 else some false) fun b1 =>
 some b1
noncomputable def k_threshold_node : KFun U := .fn 123 [.ty (Ty.i .i64)] (.one Ty.bool) fun a => F_threshold_node a.1
theorem e_threshold_node : fnK K [] sa_threshold_node [.tmp 2] [.ty (Ty.i .i64)] (.one Ty.bool) = fun a => F_threshold_node a.1 := by kernel_rfl
theorem s_threshold_node : KFun.Sound (U := U) Try.prog k_threshold_node := fnK_sound (K := K) (Γ := []) ok_threshold_node (by kernel_rfl) (by decide) trivial (fun a => congrFun e_threshold_node a)

/-! ### trustquorum/threshold.level$1 -/
def sa_threshold_level_1 : SA U :=
 (.seq
 (.reg
 (op 2 (.mov (.cst (.bool false)))
 .nil))
 (.seq
 (.reg
 (op 3 (.mov (tm 0))
 (op 4 (.call 123 [(tm 3)])
 (op 5 (.not (tm 4))
 (op 2 (.mov (tm 5))
 .nil)))))
 .ret))
theorem ok_threshold_level_1 : FnOk Try.prog 122 6 (SA.erase sa_threshold_level_1) [.tmp 2] := ⟨Try.f122, [], Try.func122, rfl, by kernel_rfl, by kernel_rfl, by kernel_rfl⟩
noncomputable def F_threshold_level_1 (a0 : Int) : Option Bool :=
 Option.bind (F_threshold_node a0) fun r1 =>
 some (!r1)
noncomputable def k_threshold_level_1 : KFun U := .fn 122 [.ty (Ty.i .i64)] (.one Ty.bool) fun a => F_threshold_level_1 a.1
theorem e_threshold_level_1 : fnK K [k_threshold_node] sa_threshold_level_1 [.tmp 2] [.ty (Ty.i .i64)] (.one Ty.bool) = fun a => F_threshold_level_1 a.1 := by kernel_rfl
theorem s_threshold_level_1 : KFun.Sound (U := U) Try.prog k_threshold_level_1 := fnK_sound (K := K) (Γ := [k_threshold_node]) ok_threshold_level_1 (by kernel_rfl) (by decide) ⟨s_threshold_node, trivial⟩ (fun a => congrFun e_threshold_level_1 a)

/-! ### slices.IndexFunc[[]int,int] -/
def sa_slices_IndexFunc_int_int_c122 : SA U :=
 (.seq
 (.reg
 (op 4 (.mov (ci 0))
 .nil))
 (.seq
 (.seq
 (.reg
 (op 6 (.mov (tm 0))
 (op 7 (.len false (tm 6))
 (op 8 (.mov (ci 0))
 .nil))))
 (.block 0
 (.loop ⟨[.val 8 (Ty.i .i64)], [0, 1, 7]⟩
 (.seq
 (.reg
 (op 9 (.bin .lss (tm 8) (tm 7))
 .nil))
 (.seq
 (.cond (tm 9)
 .skip
 (.exit 0))
 (.seq
 (.block 1
 (.seq
 (.reg
 (op 10 (.mov (tm 8))
 (op 5 (.mov (tm 10))
 .nil)))
 (.seq
 (.reg
 (op 11 (.mov (tm 1))
 (op 12 (.mov (tm 0))
 (op 13 (.mov (tm 5))
 (op 14 (.iaddr 1 (tm 12) (tm 13))
 (op 15 (.load none (tm 14))
 (op 16 (.callv (tm 11) [(tm 15)])
 .nil)))))))
 (.cond (tm 16)
 (.seq
 (.reg
 (op 17 (.mov (tm 5))
 (op 4 (.mov (tm 17))
 .nil)))
 .ret)
 .skip))))
 (.reg
 (op 18 (.bin .add (tm 8) (ci 1))
 (op 8 (.mov (tm 18))
 .nil)))))))))
 (.seq
 (.reg
 (op 4 (.mov (.cst (.int .i64 (-1))))
 .nil))
 .ret)))
theorem ok_slices_IndexFunc_int_int_c122 : FnOk Try.prog 137 19 (SA.erase sa_slices_IndexFunc_int_int_c122) [.tmp 4] := ⟨Try.f137, [], Try.func137, rfl, by kernel_rfl, by kernel_rfl, by kernel_rfl⟩
noncomputable def F_slices_IndexFunc_int_int_c122 (a0 : (List Int)) : Option Int :=
 loopO (fun (v1 : Int × Unit) =>
 bif (decide (v1.1 < ((List.length a0 : Nat) : Int))) then
 Option.bind (idx a0 v1.1) fun x2 =>
 Option.bind (F_threshold_level_1 x2) fun r3 =>
 bif r3 then
 Option.map Sum.inr (some v1.1)
 else
 some (Sum.inl ((addI .i64 v1.1 (1 : Int)), ()))
 else
 Option.map Sum.inr (some (-1 : Int))) ((0 : Int), ())
noncomputable def k_slices_IndexFunc_int_int_c122 : KFun U := .fn 137 [.ty (Ty.sl (Ty.i .i64)), .clo 122 []] (.one (Ty.i .i64)) fun a => F_slices_IndexFunc_int_int_c122 a.1
theorem e_slices_IndexFunc_int_int_c122 : fnK K [k_threshold_level_1] sa_slices_IndexFunc_int_int_c122 [.tmp 4] [.ty (Ty.sl (Ty.i .i64)), .clo 122 []] (.one (Ty.i .i64)) = fun a => F_slices_IndexFunc_int_int_c122 a.1 := by kernel_rfl
theorem s_slices_IndexFunc_int_int_c122 : KFun.Sound (U := U) Try.prog k_slices_IndexFunc_int_int_c122 := fnK_sound (K := K) (Γ := [k_threshold_level_1]) ok_slices_IndexFunc_int_int_c122 (by kernel_rfl) (by decide) ⟨s_threshold_level_1, trivial⟩ (fun a => congrFun e_slices_IndexFunc_int_int_c122 a)

/-! ### slices.ContainsFunc[[]int,int] -/
def sa_slices_ContainsFunc_int_int_c122 : SA U :=
 (.seq
 (.reg
 (op 4 (.mov (.cst (.bool false)))
 .nil))
 (.seq
 (.reg
 (op 5 (.mov (tm 0))
 (op 6 (.mov (tm 1))
 (op 7 (.call 137 [(tm 5), (tm 6)])
 (op 8 (.bin .geq (tm 7) (ci 0))
 (op 4 (.mov (tm 8))
 .nil))))))
 .ret))
theorem ok_slices_ContainsFunc_int_int_c122 : FnOk Try.prog 121 9 (SA.erase sa_slices_ContainsFunc_int_int_c122) [.tmp 4] := ⟨Try.f121, [], Try.func121, rfl, by kernel_rfl, by kernel_rfl, by kernel_rfl⟩
noncomputable def F_slices_ContainsFunc_int_int_c122 (a0 : (List Int)) : Option Bool :=
 Option.bind (F_slices_IndexFunc_int_int_c122 a0) fun r1 =>
 some (decide ((0 : Int) ≤ r1))
noncomputable def k_slices_ContainsFunc_int_int_c122 : KFun U := .fn 121 [.ty (Ty.sl (Ty.i .i64)), .clo 122 []] (.one Ty.bool) fun a => F_slices_ContainsFunc_int_int_c122 a.1
theorem e_slices_ContainsFunc_int_int_c122 : fnK K [k_slices_IndexFunc_int_int_c122] sa_slices_ContainsFunc_int_int_c122 [.tmp 4] [.ty (Ty.sl (Ty.i .i64)), .clo 122 []] (.one Ty.bool) = fun a => F_slices_ContainsFunc_int_int_c122 a.1 := by kernel_rfl
theorem s_slices_ContainsFunc_int_int_c122 : KFun.Sound (U := U) Try.prog k_slices_ContainsFunc_int_int_c122 := fnK_sound (K := K) (Γ := [k_slices_IndexFunc_int_int_c122]) ok_slices_ContainsFunc_int_int_c122 (by kernel_rfl) (by decide) ⟨s_slices_IndexFunc_int_int_c122, trivial⟩ (fun a => congrFun e_slices_ContainsFunc_int_int_c122 a)

/-! ### trustquorum/nodeset.below -/
def sa_nodeset_below : SA U :=
 (.seq
 (.reg
 (op 4 (.mov (.cst (.bool false)))
 .nil))
 (.seq
 (.reg
 (op 5 (.mov (tm 0))
 (op 6 (.bin .geq (tm 5) (ci 0))
 (op 7 (.mov (tm 6))
 (.ite 7 true
 (opg 8 7 true (.mov (tm 0))
 (opg 9 7 true (.mov (tm 1))
 (opg 10 7 true (.bin .shl (ci 1) (tm 9))
 (opg 11 7 true (.bin .lss (tm 8) (tm 10))
 .nil))))
 12 none (tm 11) (.cst (.bool false))
 (op 4 (.mov (tm 12))
 .nil))))))
 .ret))
theorem ok_nodeset_below : FnOk Try.prog 145 13 (SA.erase sa_nodeset_below) [.tmp 4] := ⟨Try.f145, [], Try.func145, rfl, by kernel_rfl, by kernel_rfl, by kernel_rfl⟩
noncomputable def F_nodeset_below (a0 : Int) (a1 : Int) : Option Bool :=
 Option.bind (bif (decide ((0 : Int) ≤ a0)) then
 if a1 < 0 then none else
 some (decide (a0 < (shlI .i64 (1 : Int) a1)))
 else some false) fun b1 =>
 some b1
noncomputable def k_nodeset_below : KFun U := .fn 145 [.ty (Ty.i .i64), .ty (Ty.i .i64)] (.one Ty.bool) fun a => F_nodeset_below a.1 a.2.1
theorem e_nodeset_below : fnK K [] sa_nodeset_below [.tmp 4] [.ty (Ty.i .i64), .ty (Ty.i .i64)] (.one Ty.bool) = fun a => F_nodeset_below a.1 a.2.1 := by kernel_rfl
theorem s_nodeset_below : KFun.Sound (U := U) Try.prog k_nodeset_below := fnK_sound (K := K) (Γ := []) ok_nodeset_below (by kernel_rfl) (by decide) trivial (fun a => congrFun e_nodeset_below a)

/-! ### trustquorum/nodeset.Valid -/
def sa_nodeset_Valid : SA U :=
 (.seq
 (.reg
 (op 2 (.mov (.cst (.bool false)))
 .nil))
 (.seq
 (.reg
 (op 3 (.mov (tm 0))
 (op 4 (.call 145 [(tm 3), (ci 10)])
 (op 2 (.mov (tm 4))
 .nil))))
 .ret))
theorem ok_nodeset_Valid : FnOk Try.prog 138 5 (SA.erase sa_nodeset_Valid) [.tmp 2] := ⟨Try.f138, [], Try.func138, rfl, by kernel_rfl, by kernel_rfl, by kernel_rfl⟩
noncomputable def F_nodeset_Valid (a0 : Int) : Option Bool :=
 Option.bind (F_nodeset_below a0 (10 : Int)) fun r1 =>
 some r1
noncomputable def k_nodeset_Valid : KFun U := .fn 138 [.ty (Ty.i .i64)] (.one Ty.bool) fun a => F_nodeset_Valid a.1
theorem e_nodeset_Valid : fnK K [k_nodeset_below] sa_nodeset_Valid [.tmp 2] [.ty (Ty.i .i64)] (.one Ty.bool) = fun a => F_nodeset_Valid a.1 := by kernel_rfl
theorem s_nodeset_Valid : KFun.Sound (U := U) Try.prog k_nodeset_Valid := fnK_sound (K := K) (Γ := [k_nodeset_below]) ok_nodeset_Valid (by kernel_rfl) (by decide) ⟨s_nodeset_below, trivial⟩ (fun a => congrFun e_nodeset_Valid a)

/-! ### trustquorum/nodeset.Has -/
def sa_nodeset_Has : SA U :=
 (.seq
 (.reg
 (op 4 (.mov (.cst (.bool false)))
 .nil))
 (.seq
 (.reg
 (op 5 (.mov (tm 0))
 (op 6 (.call 138 [(tm 5)])
 (op 7 (.mov (tm 6))
 (.ite 7 true
 (opg 8 7 true (.mov (tm 1))
 (opg 9 7 true (.bin .geq (tm 8) (ci 0))
 .nil))
 10 none (tm 9) (.cst (.bool false))
 (op 11 (.mov (tm 10))
 (.ite 11 true
 (opg 12 11 true (.mov (tm 1))
 (opg 13 11 true (.bin .lss (tm 12) (ci 10))
 .nil))
 14 none (tm 13) (.cst (.bool false))
 (op 15 (.mov (tm 14))
 (.ite 15 true
 (opg 16 15 true (.mov (tm 0))
 (opg 17 15 true (.mov (tm 1))
 (opg 18 15 true (.bin .shl (ci 1) (tm 17))
 (opg 19 15 true (.bin .and (tm 16) (tm 18))
 (opg 20 15 true (.bin .neq (tm 19) (ci 0))
 .nil)))))
 21 none (tm 20) (.cst (.bool false))
 (op 4 (.mov (tm 21))
 .nil))))))))))
 .ret))
theorem ok_nodeset_Has : FnOk Try.prog 129 22 (SA.erase sa_nodeset_Has) [.tmp 4] := ⟨Try.f129, [], Try.func129, rfl, by kernel_rfl, by kernel_rfl, by kernel_rfl⟩
noncomputable def F_nodeset_Has (a0 : Int) (a1 : Int) : Option Bool :=
 Option.bind (F_nodeset_Valid a0) fun r1 =>
 Option.bind (bif r1 then
 some (decide ((0 : Int) ≤ a1))
 else some false) fun b2 =>
 Option.bind (bif b2 then
 some (decide (a1 < (10 : Int)))
 else some false) fun b3 =>
 Option.bind (bif b3 then
 if a1 < 0 then none else
 some (!decide ((andI .i64 a0 (shlI .i64 (1 : Int) a1)) = (0 : Int)))
 else some false) fun b4 =>
 some b4
noncomputable def k_nodeset_Has : KFun U := .fn 129 [.ty (Ty.i .i64), .ty (Ty.i .i64)] (.one Ty.bool) fun a => F_nodeset_Has a.1 a.2.1
theorem e_nodeset_Has : fnK K [k_nodeset_Valid] sa_nodeset_Has [.tmp 4] [.ty (Ty.i .i64), .ty (Ty.i .i64)] (.one Ty.bool) = fun a => F_nodeset_Has a.1 a.2.1 := by kernel_rfl
theorem s_nodeset_Has : KFun.Sound (U := U) Try.prog k_nodeset_Has := fnK_sound (K := K) (Γ := [k_nodeset_Valid]) ok_nodeset_Has (by kernel_rfl) (by decide) ⟨s_nodeset_Valid, trivial⟩ (fun a => congrFun e_nodeset_Has a)

/-! ### trustquorum/nodeset.Of -/
def sa_nodeset_Of : SA U :=
 (.seq
 (.reg
 (op 2 (.mov (ci 0))
 (op 3 (.mov (ci 0))
 .nil)))
 (.seq
 (.reg
 (op 4 (.mov (ci 0))
 .nil))
 (.seq
 (.seq
 (.reg
 (op 7 (.mov (tm 0))
 (op 8 (.len false (tm 7))
 (op 9 (.mov (ci 0))
 .nil))))
 (.block 0
 (.loop ⟨[.val 4 (Ty.i .i64), .val 9 (Ty.i .i64)], [7, 8]⟩
 (.seq
 (.reg
 (op 10 (.bin .lss (tm 9) (tm 8))
 .nil))
 (.seq
 (.cond (tm 10)
 .skip
 (.exit 0))
 (.seq
 (.block 1
 (.seq
 (.reg
 (op 11 (.iaddr 1 (tm 7) (tm 9))
 (op 12 (.load none (tm 11))
 (op 6 (.mov (tm 12))
 .nil))))
 (.seq
 (.seq
 (.reg
 (op 13 (.mov (tm 6))
 (op 14 (.bin .lss (tm 13) (ci 0))
 (op 15 (.mov (tm 14))
 (.ite 15 false
 (opg 16 15 false (.mov (tm 6))
 (opg 17 15 false (.bin .geq (tm 16) (ci 10))
 .nil))
 18 none (.cst (.bool true)) (tm 17)
 .nil)))))
 (.cond (tm 18)
 (.seq
 (.reg
 (op 2 (.mov (ci 0))
 (op 3 (.mov (ci 5))
 .nil)))
 .ret)
 .skip))
 (.seq
 (.seq
 (.reg
 (op 19 (.mov (tm 4))
 (op 20 (.mov (tm 6))
 (op 21 (.call 129 [(tm 19), (tm 20)])
 .nil))))
 (.cond (tm 21)
 (.seq
 (.reg
 (op 2 (.mov (ci 0))
 (op 3 (.mov (ci 6))
 .nil)))
 .ret)
 .skip))
 (.reg
 (op 22 (.mov (tm 4))
 (op 23 (.mov (tm 6))
 (op 24 (.bin .shl (ci 1) (tm 23))
 (op 25 (.bin .or (tm 22) (tm 24))
 (op 4 (.mov (tm 25))
 .nil))))))))))
 (.reg
 (op 26 (.bin .add (tm 9) (ci 1))
 (op 9 (.mov (tm 26))
 .nil)))))))))
 (.seq
 (.reg
 (op 27 (.mov (tm 4))
 (op 2 (.mov (tm 27))
 (op 3 (.mov (ci 0))
 .nil))))
 .ret))))
theorem ok_nodeset_Of : FnOk Try.prog 124 28 (SA.erase sa_nodeset_Of) [.tmp 2, .tmp 3] := ⟨Try.f124, [], Try.func124, rfl, by kernel_rfl, by kernel_rfl, by kernel_rfl⟩
noncomputable def F_nodeset_Of (a0 : (List Int)) : Option (Int × Int × Unit) :=
 loopO (fun (v1 : Int × Int × Unit) =>
 bif (decide (v1.2.1 < ((List.length a0 : Nat) : Int))) then
 Option.bind (idx a0 v1.2.1) fun x2 =>
 Option.bind (bif (decide (x2 < (0 : Int))) then some true
 else
 some (decide ((10 : Int) ≤ x2))) fun b3 =>
 bif b3 then
 Option.map Sum.inr (some ((0 : Int), (5 : Int), ()))
 else
 Option.bind (F_nodeset_Has v1.1 x2) fun r4 =>
 bif r4 then
 Option.map Sum.inr (some ((0 : Int), (6 : Int), ()))
 else
 if x2 < 0 then none else
 some (Sum.inl ((orI .i64 v1.1 (shlI .i64 (1 : Int) x2)), (addI .i64 v1.2.1 (1 : Int)), ()))
 else
 Option.map Sum.inr (some (v1.1, (0 : Int), ()))) ((0 : Int), (0 : Int), ())
noncomputable def k_nodeset_Of : KFun U := .fn 124 [.ty (Ty.sl (Ty.i .i64))] (.many [(Ty.i .i64), (Ty.i .i64)]) fun a => F_nodeset_Of a.1
theorem e_nodeset_Of : fnK K [k_nodeset_Has] sa_nodeset_Of [.tmp 2, .tmp 3] [.ty (Ty.sl (Ty.i .i64))] (.many [(Ty.i .i64), (Ty.i .i64)]) = fun a => F_nodeset_Of a.1 := by kernel_rfl
theorem s_nodeset_Of : KFun.Sound (U := U) Try.prog k_nodeset_Of := fnK_sound (K := K) (Γ := [k_nodeset_Has]) ok_nodeset_Of (by kernel_rfl) (by decide) ⟨s_nodeset_Has, trivial⟩ (fun a => congrFun e_nodeset_Of a)

/-! ### trustquorum/threshold.level -/
def sa_threshold_level : SA U :=
 (.seq
 (.reg
 (op 1 (.box (tm 0))
 (op 2 (.mov (ci 0))
 .nil)))
 (.seq
 (.seq
 (.reg
 (op 8 (.faddr 0 (tm 1))
 (op 9 (.load none (tm 8))
 (op 10 (.bin .lss (tm 9) (ci 1))
 (op 11 (.mov (tm 10))
 (.ite 11 false
 (opg 12 11 false (.faddr 0 (tm 1))
 (opg 13 11 false (.load none (tm 12))
 (opg 14 11 false (.faddr 1 (tm 1))
 (opg 15 11 false (.load none (tm 14))
 (opg 16 11 false (.len false (tm 15))
 (opg 17 11 false (.faddr 2 (tm 1))
 (opg 18 11 false (.load none (tm 17))
 (opg 19 11 false (.len false (tm 18))
 (opg 20 11 false (.bin .add (tm 16) (tm 19))
 (opg 21 11 false (.bin .gtr (tm 13) (tm 20))
 .nil))))))))))
 22 none (.cst (.bool true)) (tm 21)
 .nil))))))
 (.cond (tm 22)
 (.seq
 (.reg
 (op 2 (.mov (ci 4))
 .nil))
 .ret)
 .skip))
 (.seq
 (.seq
 (.reg
 (op 23 (.faddr 1 (tm 1))
 (op 24 (.load none (tm 23))
 (op 25 (.call 121 [(tm 24), (.cst (.clo 122 []))])
 .nil))))
 (.cond (tm 25)
 (.seq
 (.reg
 (op 2 (.mov (ci 5))
 .nil))
 .ret)
 .skip))
 (.seq
 (.seq
 (.reg
 (op 27 (.faddr 1 (tm 1))
 (op 28 (.load none (tm 27))
 (op 29 (.call 124 [(tm 28)])
 (op 26 (.mov (tm 29))
 (op 30 (.extr 0 (tm 26))
 (op 31 (.extr 1 (tm 26))
 (op 3 (.mov (tm 30))
 (op 4 (.mov (tm 31))
 .nil)))))))))
 (.seq
 (.reg
 (op 32 (.mov (tm 4))
 (op 33 (.bin .neq (tm 32) (ci 0))
 .nil)))
 (.cond (tm 33)
 (.seq
 (.reg
 (op 34 (.mov (tm 4))
 (op 2 (.mov (tm 34))
 .nil)))
 .ret)
 .skip)))
 (.seq
 (.seq
 (.reg
 (op 35 (.faddr 2 (tm 1))
 (op 36 (.load none (tm 35))
 (op 37 (.len false (tm 36))
 (op 38 (.mov (ci 0))
 .nil)))))
 (.block 0
 (.loop ⟨[.val 38 (Ty.i .i64)], [36, 37]⟩
 (.seq
 (.reg
 (op 39 (.bin .lss (tm 38) (tm 37))
 .nil))
 (.seq
 (.cond (tm 39)
 .skip
 (.exit 0))
 (.seq
 (.block 1
 (.seq
 (.reg
 (op 40 (.iaddr 3 (tm 36) (tm 38))
 (op 41 (.load (some 3) (tm 40))
 (op 6 (.alloc [.int .i64 0, .nils, .nils])
 (ops (.store 3 (tm 6) (tm 41))
 .nil)))))
 (.seq
 (.reg
 (op 42 (.load (some 3) (tm 6))
 (op 43 (.call 94 [(tm 42)])
 (op 7 (.mov (tm 43))
 .nil))))
 (.seq
 (.reg
 (op 44 (.mov (tm 7))
 (op 45 (.bin .neq (tm 44) (ci 0))
 .nil)))
 (.cond (tm 45)
 (.seq
 (.reg
 (op 46 (.mov (tm 7))
 (op 2 (.mov (tm 46))
 .nil)))
 .ret)
 .skip)))))
 (.reg
 (op 47 (.bin .add (tm 38) (ci 1))
 (op 38 (.mov (tm 47))
 .nil)))))))))
 (.seq
 (.reg
 (op 2 (.mov (ci 0))
 .nil))
 .ret))))))
theorem ok_threshold_level : FnOk Try.prog 94 48 (SA.erase sa_threshold_level) [.tmp 2] := ⟨Try.f94, [], Try.func94, rfl, by kernel_rfl, by kernel_rfl, by kernel_rfl⟩
noncomputable def B_threshold_level (rec : (TTrust × Unit) → Option Int) (a0 : TTrust) : Option Int :=
 Option.bind (bif (decide (a0.Threshold < (1 : Int))) then some true
 else
 some (decide ((addI .i64 ((List.length a0.Nodes : Nat) : Int) ((List.length a0.Inner : Nat) : Int)) < a0.Threshold))) fun b1 =>
 bif b1 then
 some (4 : Int)
 else
 Option.bind (F_slices_ContainsFunc_int_int_c122 a0.Nodes) fun r2 =>
 bif r2 then
 some (5 : Int)
 else
 Option.bind (F_nodeset_Of a0.Nodes) fun r3 =>
 bif (!decide (r3.2.1 = (0 : Int))) then
 some r3.2.1
 else
 loopO (fun (v4 : Int × Unit) =>
 bif (decide (v4.1 < ((List.length a0.Inner : Nat) : Int))) then
 Option.bind (idx a0.Inner v4.1) fun x5 =>
 Option.bind (rec ((TTrust.mk x5.Threshold x5.Nodes x5.Inner), ())) fun r6 =>
 bif (!decide (r6 = (0 : Int))) then
 Option.map Sum.inr (some r6)
 else
 some (Sum.inl ((addI .i64 v4.1 (1 : Int)), ()))
 else
 Option.map Sum.inr (some (0 : Int))) ((0 : Int), ())
noncomputable def I_threshold_level : Nat → (TTrust × Unit) → Option Int := iterF (fun rec a => B_threshold_level rec a.1)
noncomputable def F_threshold_level (a0 : TTrust) : Option Int := I_threshold_level (SizeOf.sizeOf a0 + 1) (a0, ())
noncomputable def k_threshold_level : KFun U := .fn 94 [.ty (Ty.st .Trust)] (.one (Ty.i .i64)) fun a => F_threshold_level a.1
theorem e_threshold_level : (fun G => fnK K (.fn 94 [.ty (Ty.st .Trust)] (.one (Ty.i .i64)) G :: [k_slices_ContainsFunc_int_int_c122, k_nodeset_Of]) sa_threshold_level [.tmp 2] [.ty (Ty.st .Trust)] (.one (Ty.i .i64))) = (fun G a => B_threshold_level G a.1) := by kernel_rfl
theorem n_threshold_level : ∀ n, KFun.Sound (U := U) Try.prog (.fn 94 [.ty (Ty.st .Trust)] (.one (Ty.i .i64)) (I_threshold_level n))
  | 0 => ⟨ok_threshold_level.enters, fun a r h => by cases h⟩
  | n + 1 => fnK_sound (K := K) (r := .one (Ty.i .i64)) (Γ := .fn 94 [.ty (Ty.st .Trust)] (.one (Ty.i .i64)) (I_threshold_level n) :: [k_slices_ContainsFunc_int_int_c122, k_nodeset_Of]) (F := I_threshold_level (n + 1)) ok_threshold_level (by kernel_rfl) (by decide) ⟨n_threshold_level n, s_slices_ContainsFunc_int_int_c122, s_nodeset_Of, trivial⟩ (fun a => congrFun (congrFun e_threshold_level (I_threshold_level n)) a)
theorem s_threshold_level : KFun.Sound (U := U) Try.prog k_threshold_level := ⟨ok_threshold_level.enters, fun a r h => (n_threshold_level _).2 a r h⟩

/-! ### trustquorum/threshold.Valid -/
def sa_threshold_Valid : SA U :=
 (.seq
 (.reg
 (op 1 (.box (tm 0))
 (op 2 (.mov (ci 0))
 .nil)))
 (.seq
 (.seq
 (.reg
 (op 3 (.load (some 3) (tm 1))
 (op 4 (.call 92 [(tm 3)])
 (op 5 (.bin .gtr (tm 4) (ci 4))
 (op 6 (.mov (tm 5))
 (.ite 6 false
 (opg 7 6 false (.load (some 3) (tm 1))
 (opg 8 6 false (.call 93 [(tm 7)])
 (opg 9 6 false (.bin .gtr (tm 8) (ci 200))
 .nil)))
 10 none (.cst (.bool true)) (tm 9)
 .nil))))))
 (.cond (tm 10)
 (.seq
 (.reg
 (op 2 (.mov (ci 3))
 .nil))
 .ret)
 .skip))
 (.seq
 (.reg
 (op 11 (.load (some 3) (tm 1))
 (op 12 (.call 94 [(tm 11)])
 (op 2 (.mov (tm 12))
 .nil))))
 .ret)))
theorem ok_threshold_Valid : FnOk Try.prog 53 13 (SA.erase sa_threshold_Valid) [.tmp 2] := ⟨Try.f53, [], Try.func53, rfl, by kernel_rfl, by kernel_rfl, by kernel_rfl⟩
noncomputable def F_threshold_Valid (a0 : TTrust) : Option Int :=
 Option.bind (F_threshold_Depth (TTrust.mk a0.Threshold a0.Nodes a0.Inner)) fun r1 =>
 Option.bind (bif (decide ((4 : Int) < r1)) then some true
 else
 Option.bind (F_threshold_Size (TTrust.mk a0.Threshold a0.Nodes a0.Inner)) fun r2 =>
 some (decide ((200 : Int) < r2))) fun b3 =>
 bif b3 then
 some (3 : Int)
 else
 Option.bind (F_threshold_level (TTrust.mk a0.Threshold a0.Nodes a0.Inner)) fun r4 =>
 some r4
noncomputable def k_threshold_Valid : KFun U := .fn 53 [.ty (Ty.st .Trust)] (.one (Ty.i .i64)) fun a => F_threshold_Valid a.1
theorem e_threshold_Valid : fnK K [k_threshold_Depth, k_threshold_Size, k_threshold_level] sa_threshold_Valid [.tmp 2] [.ty (Ty.st .Trust)] (.one (Ty.i .i64)) = fun a => F_threshold_Valid a.1 := by kernel_rfl
theorem s_threshold_Valid : KFun.Sound (U := U) Try.prog k_threshold_Valid := fnK_sound (K := K) (Γ := [k_threshold_Depth, k_threshold_Size, k_threshold_level]) ok_threshold_Valid (by kernel_rfl) (by decide) ⟨s_threshold_Depth, s_threshold_Size, s_threshold_level, trivial⟩ (fun a => congrFun e_threshold_Valid a)

/-! ### trustquorum/ballots.Zero -/
def sa_ballots_Zero : SA U :=
 (.seq
 (.reg
 (op 1 (.box (tm 0))
 (op 2 (.mov (.cst (.bool false)))
 .nil)))
 (.seq
 (.reg
 (op 3 (.load (some 2) (tm 1))
 (op 4 (.build [.int .i64 0, .str ⟨#[]⟩] [])
 (op 5 (.eq2 false (tm 3) (tm 4))
 (op 2 (.mov (tm 5))
 .nil)))))
 .ret))
theorem ok_ballots_Zero : FnOk Try.prog 48 6 (SA.erase sa_ballots_Zero) [.tmp 2] := ⟨Try.f48, [], Try.func48, rfl, by kernel_rfl, by kernel_rfl, by kernel_rfl⟩
noncomputable def F_ballots_Zero (a0 : TBallot) : Option Bool :=
 some (eq2 false a0.Counter (0 : Int) a0.Value (ByteArray.mk #[]))
noncomputable def k_ballots_Zero : KFun U := .fn 48 [.ty (Ty.st .Ballot)] (.one Ty.bool) fun a => F_ballots_Zero a.1
theorem e_ballots_Zero : fnK K [] sa_ballots_Zero [.tmp 2] [.ty (Ty.st .Ballot)] (.one Ty.bool) = fun a => F_ballots_Zero a.1 := by kernel_rfl
theorem s_ballots_Zero : KFun.Sound (U := U) Try.prog k_ballots_Zero := fnK_sound (K := K) (Γ := []) ok_ballots_Zero (by kernel_rfl) (by decide) trivial (fun a => congrFun e_ballots_Zero a)

/-! ### cmp.isNaN[int] -/
def sa_cmp_isNaN_int : SA U :=
 (.seq
 (.reg
 (op 2 (.mov (.cst (.bool false)))
 .nil))
 (.seq
 (.reg
 (op 3 (.mov (tm 0))
 (op 4 (.mov (tm 0))
 (op 5 (.bin .neq (tm 3) (tm 4))
 (op 2 (.mov (tm 5))
 .nil)))))
 .ret))
theorem ok_cmp_isNaN_int : FnOk Try.prog 133 6 (SA.erase sa_cmp_isNaN_int) [.tmp 2] := ⟨Try.f133, [], Try.func133, rfl, by kernel_rfl, by kernel_rfl, by kernel_rfl⟩
noncomputable def F_cmp_isNaN_int (a0 : Int) : Option Bool :=
 some (!decide (a0 = a0))
noncomputable def k_cmp_isNaN_int : KFun U := .fn 133 [.ty (Ty.i .i64)] (.one Ty.bool) fun a => F_cmp_isNaN_int a.1
theorem e_cmp_isNaN_int : fnK K [] sa_cmp_isNaN_int [.tmp 2] [.ty (Ty.i .i64)] (.one Ty.bool) = fun a => F_cmp_isNaN_int a.1 := by kernel_rfl
theorem s_cmp_isNaN_int : KFun.Sound (U := U) Try.prog k_cmp_isNaN_int := fnK_sound (K := K) (Γ := []) ok_cmp_isNaN_int (by kernel_rfl) (by decide) trivial (fun a => congrFun e_cmp_isNaN_int a)

/-! ### cmp.Compare[int] -/
def sa_cmp_Compare_int : SA U :=
 (.seq
 (.reg
 (op 4 (.mov (ci 0))
 .nil))
 (.seq
 (.reg
 (op 7 (.mov (tm 0))
 (op 8 (.call 133 [(tm 7)])
 (op 5 (.mov (tm 8))
 .nil))))
 (.seq
 (.reg
 (op 9 (.mov (tm 1))
 (op 10 (.call 133 [(tm 9)])
 (op 6 (.mov (tm 10))
 .nil))))
 (.seq
 (.seq
 (.reg
 (op 11 (.mov (tm 5))
 .nil))
 (.cond (tm 11)
 (.seq
 (.seq
 (.reg
 (op 12 (.mov (tm 6))
 .nil))
 (.cond (tm 12)
 (.seq
 (.reg
 (op 4 (.mov (ci 0))
 .nil))
 .ret)
 .skip))
 (.seq
 (.reg
 (op 4 (.mov (.cst (.int .i64 (-1))))
 .nil))
 .ret))
 .skip))
 (.seq
 (.seq
 (.reg
 (op 13 (.mov (tm 6))
 .nil))
 (.cond (tm 13)
 (.seq
 (.reg
 (op 4 (.mov (ci 1))
 .nil))
 .ret)
 .skip))
 (.seq
 (.seq
 (.reg
 (op 14 (.mov (tm 0))
 (op 15 (.mov (tm 1))
 (op 16 (.bin .lss (tm 14) (tm 15))
 .nil))))
 (.cond (tm 16)
 (.seq
 (.reg
 (op 4 (.mov (.cst (.int .i64 (-1))))
 .nil))
 .ret)
 .skip))
 (.seq
 (.seq
 (.reg
 (op 17 (.mov (tm 0))
 (op 18 (.mov (tm 1))
 (op 19 (.bin .gtr (tm 17) (tm 18))
 .nil))))
 (.cond (tm 19)
 (.seq
 (.reg
 (op 4 (.mov (ci 1))
 .nil))
 .ret)
 .skip))
 (.seq
 (.reg
 (op 4 (.mov (ci 0))
 .nil))
 .ret))))))))
theorem ok_cmp_Compare_int : FnOk Try.prog 111 20 (SA.erase sa_cmp_Compare_int) [.tmp 4] := ⟨Try.f111, [], Try.func111, rfl, by kernel_rfl, by kernel_rfl, by kernel_rfl⟩
noncomputable def F_cmp_Compare_int (a0 : Int) (a1 : Int) : Option Int :=
 Option.bind (F_cmp_isNaN_int a0) fun r1 =>
 Option.bind (F_cmp_isNaN_int a1) fun r2 =>
 bif r1 then
 bif r2 then
 some (0 : Int)
 else
 some (-1 : Int)
 else
 bif r2 then
 some (1 : Int)
 else
 bif (decide (a0 < a1)) then
 some (-1 : Int)
 else
 bif (decide (a1 < a0)) then
 some (1 : Int)
 else
 some (0 : Int)
noncomputable def k_cmp_Compare_int : KFun U := .fn 111 [.ty (Ty.i .i64), .ty (Ty.i .i64)] (.one (Ty.i .i64)) fun a => F_cmp_Compare_int a.1 a.2.1
theorem e_cmp_Compare_int : fnK K [k_cmp_isNaN_int] sa_cmp_Compare_int [.tmp 4] [.ty (Ty.i .i64), .ty (Ty.i .i64)] (.one (Ty.i .i64)) = fun a => F_cmp_Compare_int a.1 a.2.1 := by kernel_rfl
theorem s_cmp_Compare_int : KFun.Sound (U := U) Try.prog k_cmp_Compare_int := fnK_sound (K := K) (Γ := [k_cmp_isNaN_int]) ok_cmp_Compare_int (by kernel_rfl) (by decide) ⟨s_cmp_isNaN_int, trivial⟩ (fun a => congrFun e_cmp_Compare_int a)

/-! ### cmp.isNaN[string] -/
def sa_cmp_isNaN_string : SA U :=
 (.seq
 (.reg
 (op 2 (.mov (.cst (.bool false)))
 .nil))
 (.seq
 (.reg
 (op 3 (.mov (tm 0))
 (op 4 (.mov (tm 0))
 (op 5 (.bin .neq (tm 3) (tm 4))
 (op 2 (.mov (tm 5))
 .nil)))))
 .ret))
theorem ok_cmp_isNaN_string : FnOk Try.prog 144 6 (SA.erase sa_cmp_isNaN_string) [.tmp 2] := ⟨Try.f144, [], Try.func144, rfl, by kernel_rfl, by kernel_rfl, by kernel_rfl⟩
noncomputable def F_cmp_isNaN_string (a0 : ByteArray) : Option Bool :=
 some (!decide (a0 = a0))
noncomputable def k_cmp_isNaN_string : KFun U := .fn 144 [.ty Ty.str] (.one Ty.bool) fun a => F_cmp_isNaN_string a.1
theorem e_cmp_isNaN_string : fnK K [] sa_cmp_isNaN_string [.tmp 2] [.ty Ty.str] (.one Ty.bool) = fun a => F_cmp_isNaN_string a.1 := by kernel_rfl
theorem s_cmp_isNaN_string : KFun.Sound (U := U) Try.prog k_cmp_isNaN_string := fnK_sound (K := K) (Γ := []) ok_cmp_isNaN_string (by kernel_rfl) (by decide) trivial (fun a => congrFun e_cmp_isNaN_string a)

/-! ### cmp.Compare[string] -/
def sa_cmp_Compare_string : SA U :=
 (.seq
 (.reg
 (op 4 (.mov (ci 0))
 .nil))
 (.seq
 (.reg
 (op 7 (.mov (tm 0))
 (op 8 (.call 144 [(tm 7)])
 (op 5 (.mov (tm 8))
 .nil))))
 (.seq
 (.reg
 (op 9 (.mov (tm 1))
 (op 10 (.call 144 [(tm 9)])
 (op 6 (.mov (tm 10))
 .nil))))
 (.seq
 (.seq
 (.reg
 (op 11 (.mov (tm 5))
 .nil))
 (.cond (tm 11)
 (.seq
 (.seq
 (.reg
 (op 12 (.mov (tm 6))
 .nil))
 (.cond (tm 12)
 (.seq
 (.reg
 (op 4 (.mov (ci 0))
 .nil))
 .ret)
 .skip))
 (.seq
 (.reg
 (op 4 (.mov (.cst (.int .i64 (-1))))
 .nil))
 .ret))
 .skip))
 (.seq
 (.seq
 (.reg
 (op 13 (.mov (tm 6))
 .nil))
 (.cond (tm 13)
 (.seq
 (.reg
 (op 4 (.mov (ci 1))
 .nil))
 .ret)
 .skip))
 (.seq
 (.seq
 (.reg
 (op 14 (.mov (tm 0))
 (op 15 (.mov (tm 1))
 (op 16 (.bin .lss (tm 14) (tm 15))
 .nil))))
 (.cond (tm 16)
 (.seq
 (.reg
 (op 4 (.mov (.cst (.int .i64 (-1))))
 .nil))
 .ret)
 .skip))
 (.seq
 (.seq
 (.reg
 (op 17 (.mov (tm 0))
 (op 18 (.mov (tm 1))
 (op 19 (.bin .gtr (tm 17) (tm 18))
 .nil))))
 (.cond (tm 19)
 (.seq
 (.reg
 (op 4 (.mov (ci 1))
 .nil))
 .ret)
 .skip))
 (.seq
 (.reg
 (op 4 (.mov (ci 0))
 .nil))
 .ret))))))))
theorem ok_cmp_Compare_string : FnOk Try.prog 136 20 (SA.erase sa_cmp_Compare_string) [.tmp 4] := ⟨Try.f136, [], Try.func136, rfl, by kernel_rfl, by kernel_rfl, by kernel_rfl⟩
noncomputable def F_cmp_Compare_string (a0 : ByteArray) (a1 : ByteArray) : Option Int :=
 Option.bind (F_cmp_isNaN_string a0) fun r1 =>
 Option.bind (F_cmp_isNaN_string a1) fun r2 =>
 bif r1 then
 bif r2 then
 some (0 : Int)
 else
 some (-1 : Int)
 else
 bif r2 then
 some (1 : Int)
 else
 bif (sless a0 a1) then
 some (-1 : Int)
 else
 bif (!(sless a0 a1 || decide (a0 = a1))) then
 some (1 : Int)
 else
 some (0 : Int)
noncomputable def k_cmp_Compare_string : KFun U := .fn 136 [.ty Ty.str, .ty Ty.str] (.one (Ty.i .i64)) fun a => F_cmp_Compare_string a.1 a.2.1
theorem e_cmp_Compare_string : fnK K [k_cmp_isNaN_string] sa_cmp_Compare_string [.tmp 4] [.ty Ty.str, .ty Ty.str] (.one (Ty.i .i64)) = fun a => F_cmp_Compare_string a.1 a.2.1 := by kernel_rfl
theorem s_cmp_Compare_string : KFun.Sound (U := U) Try.prog k_cmp_Compare_string := fnK_sound (K := K) (Γ := [k_cmp_isNaN_string]) ok_cmp_Compare_string (by kernel_rfl) (by decide) ⟨s_cmp_isNaN_string, trivial⟩ (fun a => congrFun e_cmp_Compare_string a)

/-! ### cmp.Or[int] -/
def sa_cmp_Or_int : SA U :=
 (.seq
 (.reg
 (op 2 (.mov (ci 0))
 .nil))
 (.seq
 (.reg
 (op 3 (.mov (ci 0))
 .nil))
 (.seq
 (.seq
 (.reg
 (op 6 (.mov (tm 0))
 (op 7 (.len false (tm 6))
 (op 8 (.mov (ci 0))
 .nil))))
 (.block 0
 (.loop ⟨[.val 8 (Ty.i .i64)], [3, 6, 7]⟩
 (.seq
 (.reg
 (op 9 (.bin .lss (tm 8) (tm 7))
 .nil))
 (.seq
 (.cond (tm 9)
 .skip
 (.exit 0))
 (.seq
 (.block 1
 (.seq
 (.reg
 (op 10 (.iaddr 1 (tm 6) (tm 8))
 (op 11 (.load none (tm 10))
 (op 5 (.mov (tm 11))
 .nil))))
 (.seq
 (.reg
 (op 12 (.mov (tm 5))
 (op 13 (.mov (tm 3))
 (op 14 (.bin .neq (tm 12) (tm 13))
 .nil))))
 (.cond (tm 14)
 (.seq
 (.reg
 (op 15 (.mov (tm 5))
 (op 2 (.mov (tm 15))
 .nil)))
 .ret)
 .skip))))
 (.reg
 (op 16 (.bin .add (tm 8) (ci 1))
 (op 8 (.mov (tm 16))
 .nil)))))))))
 (.seq
 (.reg
 (op 17 (.mov (tm 3))
 (op 2 (.mov (tm 17))
 .nil)))
 .ret))))
theorem ok_cmp_Or_int : FnOk Try.prog 118 18 (SA.erase sa_cmp_Or_int) [.tmp 2] := ⟨Try.f118, [], Try.func118, rfl, by kernel_rfl, by kernel_rfl, by kernel_rfl⟩
noncomputable def F_cmp_Or_int (a0 : (List Int)) : Option Int :=
 loopO (fun (v1 : Int × Unit) =>
 bif (decide (v1.1 < ((List.length a0 : Nat) : Int))) then
 Option.bind (idx a0 v1.1) fun x2 =>
 bif (!decide (x2 = (0 : Int))) then
 Option.map Sum.inr (some x2)
 else
 some (Sum.inl ((addI .i64 v1.1 (1 : Int)), ()))
 else
 Option.map Sum.inr (some (0 : Int))) ((0 : Int), ())
noncomputable def k_cmp_Or_int : KFun U := .fn 118 [.ty (Ty.sl (Ty.i .i64))] (.one (Ty.i .i64)) fun a => F_cmp_Or_int a.1
theorem e_cmp_Or_int : fnK K [] sa_cmp_Or_int [.tmp 2] [.ty (Ty.sl (Ty.i .i64))] (.one (Ty.i .i64)) = fun a => F_cmp_Or_int a.1 := by kernel_rfl
theorem s_cmp_Or_int : KFun.Sound (U := U) Try.prog k_cmp_Or_int := fnK_sound (K := K) (Γ := []) ok_cmp_Or_int (by kernel_rfl) (by decide) trivial (fun a => congrFun e_cmp_Or_int a)

/-! ### trustquorum/ballots.CompareValues -/
def sa_ballots_CompareValues : SA U :=
 (.seq
 (.reg
 (op 4 (.mov (ci 0))
 .nil))
 (.seq
 (.reg
 (op 5 (.mov (tm 0))
 (op 6 (.len true (tm 5))
 (op 7 (.mov (tm 1))
 (op 8 (.len true (tm 7))
 (op 9 (.call 111 [(tm 6), (tm 8)])
 (op 10 (.mov (tm 0))
 (op 11 (.mov (tm 1))
 (op 12 (.call 136 [(tm 10), (tm 11)])
 (op 13 (.bsl false 3 1 (List.replicate 2 [.int .i64 0]) [(0, (tm 9)), (1, (tm 12))])
 (op 14 (.call 118 [(tm 13)])
 (op 4 (.mov (tm 14))
 .nil))))))))))))
 .ret))
theorem ok_ballots_CompareValues : FnOk Try.prog 119 15 (SA.erase sa_ballots_CompareValues) [.tmp 4] := ⟨Try.f119, [], Try.func119, rfl, by kernel_rfl, by kernel_rfl, by kernel_rfl⟩
noncomputable def F_ballots_CompareValues (a0 : ByteArray) (a1 : ByteArray) : Option Int :=
 Option.bind (F_cmp_Compare_int ((ByteArray.size a0 : Nat) : Int) ((ByteArray.size a1 : Nat) : Int)) fun r1 =>
 Option.bind (F_cmp_Compare_string a0 a1) fun r2 =>
 Option.bind (F_cmp_Or_int [r1, r2]) fun r3 =>
 some r3
noncomputable def k_ballots_CompareValues : KFun U := .fn 119 [.ty Ty.str, .ty Ty.str] (.one (Ty.i .i64)) fun a => F_ballots_CompareValues a.1 a.2.1
theorem e_ballots_CompareValues : fnK K [k_cmp_Compare_int, k_cmp_Compare_string, k_cmp_Or_int] sa_ballots_CompareValues [.tmp 4] [.ty Ty.str, .ty Ty.str] (.one (Ty.i .i64)) = fun a => F_ballots_CompareValues a.1 a.2.1 := by kernel_rfl
theorem s_ballots_CompareValues : KFun.Sound (U := U) Try.prog k_ballots_CompareValues := fnK_sound (K := K) (Γ := [k_cmp_Compare_int, k_cmp_Compare_string, k_cmp_Or_int]) ok_ballots_CompareValues (by kernel_rfl) (by decide) ⟨s_cmp_Compare_int, s_cmp_Compare_string, s_cmp_Or_int, trivial⟩ (fun a => congrFun e_ballots_CompareValues a)

/-! ### trustquorum/ballots.Compare -/
def sa_ballots_Compare : SA U :=
 (.seq
 (.reg
 (op 2 (.box (tm 0))
 (op 3 (.box (tm 1))
 (op 4 (.mov (ci 0))
 .nil))))
 (.seq
 (.drw [(0, 2), (1, 2), (0, 3), (1, 3), (0, 5), (1, 5), (2, 5), (3, 5), (4, 5), (0, 6), (1, 6), (2, 6), (3, 6), (4, 6), (0, 7), (1, 7), (2, 7), (3, 7), (4, 7), (5, 7), (6, 7), (0, 8), (1, 8), (2, 8), (3, 8), (4, 8), (5, 8), (6, 8)]
 (op 5 (.faddr 0 (tm 2))
 (op 6 (.load none (tm 5))
 (op 7 (.faddr 0 (tm 3))
 (op 8 (.load none (tm 7))
 (op 9 (.call 111 [(tm 6), (tm 8)])
 (op 10 (.faddr 1 (tm 2))
 (op 11 (.load none (tm 10))
 (op 12 (.faddr 1 (tm 3))
 (op 13 (.load none (tm 12))
 (op 14 (.call 119 [(tm 11), (tm 13)])
 (op 15 (.bsl false 3 1 (List.replicate 2 [.int .i64 0]) [(0, (tm 9)), (1, (tm 14))])
 (op 16 (.call 118 [(tm 15)])
 (op 4 (.mov (tm 16))
 .nil))))))))))))))
 .ret))
theorem ok_ballots_Compare : FnOk Try.prog 90 17 (SA.erase sa_ballots_Compare) [.tmp 4] := ⟨Try.f90, [], Try.func90, rfl, by kernel_rfl, by kernel_rfl, by kernel_rfl⟩
noncomputable def F_ballots_Compare (a0 : TBallot) (a1 : TBallot) : Option Int :=
 Option.bind (F_cmp_Compare_int a0.Counter a1.Counter) fun r1 =>
 Option.bind (F_ballots_CompareValues a0.Value a1.Value) fun r2 =>
 Option.bind (F_cmp_Or_int [r1, r2]) fun r3 =>
 some r3
noncomputable def k_ballots_Compare : KFun U := .fn 90 [.ty (Ty.st .Ballot), .ty (Ty.st .Ballot)] (.one (Ty.i .i64)) fun a => F_ballots_Compare a.1 a.2.1
theorem e_ballots_Compare : fnK K [k_cmp_Compare_int, k_ballots_CompareValues, k_cmp_Or_int] sa_ballots_Compare [.tmp 4] [.ty (Ty.st .Ballot), .ty (Ty.st .Ballot)] (.one (Ty.i .i64)) = fun a => F_ballots_Compare a.1 a.2.1 := by kernel_rfl
theorem s_ballots_Compare : KFun.Sound (U := U) Try.prog k_ballots_Compare := fnK_sound (K := K) (Γ := [k_cmp_Compare_int, k_ballots_CompareValues, k_cmp_Or_int]) ok_ballots_Compare (by kernel_rfl) (by decide) ⟨s_cmp_Compare_int, s_ballots_CompareValues, s_cmp_Or_int, trivial⟩ (fun a => congrFun e_ballots_Compare a)

/-! ### trustquorum/ballots.Less -/
def sa_ballots_Less : SA U :=
 (.seq
 (.reg
 (op 2 (.box (tm 0))
 (op 3 (.box (tm 1))
 (op 4 (.mov (.cst (.bool false)))
 .nil))))
 (.seq
 (.reg
 (op 5 (.load (some 2) (tm 2))
 (op 6 (.load (some 2) (tm 3))
 (op 7 (.call 90 [(tm 5), (tm 6)])
 (op 8 (.bin .lss (tm 7) (ci 0))
 (op 4 (.mov (tm 8))
 .nil))))))
 .ret))
theorem ok_ballots_Less : FnOk Try.prog 49 9 (SA.erase sa_ballots_Less) [.tmp 4] := ⟨Try.f49, [], Try.func49, rfl, by kernel_rfl, by kernel_rfl, by kernel_rfl⟩
noncomputable def F_ballots_Less (a0 : TBallot) (a1 : TBallot) : Option Bool :=
 Option.bind (F_ballots_Compare a0 a1) fun r1 =>
 some (decide (r1 < (0 : Int)))
noncomputable def k_ballots_Less : KFun U := .fn 49 [.ty (Ty.st .Ballot), .ty (Ty.st .Ballot)] (.one Ty.bool) fun a => F_ballots_Less a.1 a.2.1
theorem e_ballots_Less : fnK K [k_ballots_Compare] sa_ballots_Less [.tmp 4] [.ty (Ty.st .Ballot), .ty (Ty.st .Ballot)] (.one Ty.bool) = fun a => F_ballots_Less a.1 a.2.1 := by kernel_rfl
theorem s_ballots_Less : KFun.Sound (U := U) Try.prog k_ballots_Less := fnK_sound (K := K) (Γ := [k_ballots_Compare]) ok_ballots_Less (by kernel_rfl) (by decide) ⟨s_ballots_Compare, trivial⟩ (fun a => congrFun e_ballots_Less a)

/-! ### trustquorum/ballots.Compatible -/
def sa_ballots_Compatible : SA U :=
 (.seq
 (.reg
 (op 2 (.box (tm 0))
 (op 3 (.box (tm 1))
 (op 4 (.mov (.cst (.bool false)))
 .nil))))
 (.seq
 (.reg
 (op 5 (.faddr 1 (tm 2))
 (op 6 (.load none (tm 5))
 (op 7 (.faddr 1 (tm 3))
 (op 8 (.load none (tm 7))
 (op 9 (.bin .eql (tm 6) (tm 8))
 (op 4 (.mov (tm 9))
 .nil)))))))
 .ret))
theorem ok_ballots_Compatible : FnOk Try.prog 50 10 (SA.erase sa_ballots_Compatible) [.tmp 4] := ⟨Try.f50, [], Try.func50, rfl, by kernel_rfl, by kernel_rfl, by kernel_rfl⟩
noncomputable def F_ballots_Compatible (a0 : TBallot) (a1 : TBallot) : Option Bool :=
 some (decide (a0.Value = a1.Value))
noncomputable def k_ballots_Compatible : KFun U := .fn 50 [.ty (Ty.st .Ballot), .ty (Ty.st .Ballot)] (.one Ty.bool) fun a => F_ballots_Compatible a.1 a.2.1
theorem e_ballots_Compatible : fnK K [] sa_ballots_Compatible [.tmp 4] [.ty (Ty.st .Ballot), .ty (Ty.st .Ballot)] (.one Ty.bool) = fun a => F_ballots_Compatible a.1 a.2.1 := by kernel_rfl
theorem s_ballots_Compatible : KFun.Sound (U := U) Try.prog k_ballots_Compatible := fnK_sound (K := K) (Γ := []) ok_ballots_Compatible (by kernel_rfl) (by decide) trivial (fun a => congrFun e_ballots_Compatible a)

/-! ### trustquorum/ballots.Valid -/
def sa_ballots_Valid : SA U :=
 (.seq
 (.reg
 (op 1 (.box (tm 0))
 (op 2 (.mov (.cst (.bool false)))
 .nil)))
 (.seq
 (.reg
 (op 4 (.faddr 0 (tm 1))
 (op 5 (.load none (tm 4))
 (op 6 (.bin .geq (tm 5) (ci 1))
 (op 7 (.mov (tm 6))
 (.ite 7 true
 (opg 8 7 true (.faddr 0 (tm 1))
 (opg 9 7 true (.load none (tm 8))
 (opg 10 7 true (.bin .leq (tm 9) (ci 1000))
 .nil)))
 11 none (tm 10) (.cst (.bool false))
 (op 12 (.mov (tm 11))
 (.ite 12 false
 (opg 13 12 false (.faddr 0 (tm 1))
 (opg 14 12 false (.load none (tm 13))
 (opg 15 12 false (.bin .eql (tm 14) (ci 1000000))
 .nil)))
 16 none (.cst (.bool true)) (tm 15)
 (op 3 (.mov (tm 16))
 .nil)))))))))
 (.seq
 (.reg
 (op 17 (.mov (tm 3))
 (op 18 (.mov (tm 17))
 (.ite 18 true
 (opg 19 18 true (.faddr 1 (tm 1))
 (opg 20 18 true (.load none (tm 19))
 (opg 21 18 true (.len true (tm 20))
 (opg 22 18 true (.bin .geq (tm 21) (ci 1))
 .nil))))
 23 none (tm 22) (.cst (.bool false))
 (op 24 (.mov (tm 23))
 (.ite 24 true
 (opg 25 24 true (.faddr 1 (tm 1))
 (opg 26 24 true (.load none (tm 25))
 (opg 27 24 true (.len true (tm 26))
 (opg 28 24 true (.bin .leq (tm 27) (ci 200))
 .nil))))
 29 none (tm 28) (.cst (.bool false))
 (op 2 (.mov (tm 29))
 .nil)))))))
 .ret)))
theorem ok_ballots_Valid : FnOk Try.prog 56 30 (SA.erase sa_ballots_Valid) [.tmp 2] := ⟨Try.f56, [], Try.func56, rfl, by kernel_rfl, by kernel_rfl, by kernel_rfl⟩
noncomputable def F_ballots_Valid (a0 : TBallot) : Option Bool :=
 Option.bind (bif (decide ((1 : Int) ≤ a0.Counter)) then
 some (decide (a0.Counter ≤ (1000 : Int)))
 else some false) fun b1 =>
 Option.bind (bif b1 then some true
 else
 some (decide (a0.Counter = (1000000 : Int)))) fun b2 =>
 Option.bind (bif b2 then
 some (decide ((1 : Int) ≤ ((ByteArray.size a0.Value : Nat) : Int)))
 else some false) fun b3 =>
 Option.bind (bif b3 then
 some (decide (((ByteArray.size a0.Value : Nat) : Int) ≤ (200 : Int)))
 else some false) fun b4 =>
 some b4
noncomputable def k_ballots_Valid : KFun U := .fn 56 [.ty (Ty.st .Ballot)] (.one Ty.bool) fun a => F_ballots_Valid a.1
theorem e_ballots_Valid : fnK K [] sa_ballots_Valid [.tmp 2] [.ty (Ty.st .Ballot)] (.one Ty.bool) = fun a => F_ballots_Valid a.1 := by kernel_rfl
theorem s_ballots_Valid : KFun.Sound (U := U) Try.prog k_ballots_Valid := fnK_sound (K := K) (Γ := []) ok_ballots_Valid (by kernel_rfl) (by decide) trivial (fun a => congrFun e_ballots_Valid a)

/-! ### trustquorum/envelopes.finite -/
def sa_envelopes_finite : SA U :=
 (.seq
 (.reg
 (op 1 (.box (tm 0))
 (op 2 (.mov (.cst (.bool false)))
 .nil)))
 (.seq
 (.reg
 (op 3 (.load (some 2) (tm 1))
 (op 4 (.call 56 [(tm 3)])
 (op 5 (.mov (tm 4))
 (.ite 5 true
 (opg 6 5 true (.faddr 0 (tm 1))
 (opg 7 5 true (.load none (tm 6))
 (opg 8 5 true (.bin .leq (tm 7) (ci 1000))
 .nil)))
 9 none (tm 8) (.cst (.bool false))
 (op 2 (.mov (tm 9))
 .nil))))))
 .ret))
theorem ok_envelopes_finite : FnOk Try.prog 55 10 (SA.erase sa_envelopes_finite) [.tmp 2] := ⟨Try.f55, [], Try.func55, rfl, by kernel_rfl, by kernel_rfl, by kernel_rfl⟩
noncomputable def F_envelopes_finite (a0 : TBallot) : Option Bool :=
 Option.bind (F_ballots_Valid a0) fun r1 =>
 Option.bind (bif r1 then
 some (decide (a0.Counter ≤ (1000 : Int)))
 else some false) fun b2 =>
 some b2
noncomputable def k_envelopes_finite : KFun U := .fn 55 [.ty (Ty.st .Ballot)] (.one Ty.bool) fun a => F_envelopes_finite a.1
theorem e_envelopes_finite : fnK K [k_ballots_Valid] sa_envelopes_finite [.tmp 2] [.ty (Ty.st .Ballot)] (.one Ty.bool) = fun a => F_envelopes_finite a.1 := by kernel_rfl
theorem s_envelopes_finite : KFun.Sound (U := U) Try.prog k_envelopes_finite := fnK_sound (K := K) (Γ := [k_ballots_Valid]) ok_envelopes_finite (by kernel_rfl) (by decide) ⟨s_ballots_Valid, trivial⟩ (fun a => congrFun e_envelopes_finite a)

/-! ### trustquorum/envelopes.optional -/
def sa_envelopes_optional : SA U :=
 (.seq
 (.reg
 (op 1 (.box (tm 0))
 (op 2 (.mov (.cst (.bool false)))
 .nil)))
 (.seq
 (.reg
 (op 3 (.load (some 2) (tm 1))
 (op 4 (.call 48 [(tm 3)])
 (op 5 (.mov (tm 4))
 (.ite 5 false
 (opg 6 5 false (.load (some 2) (tm 1))
 (opg 7 5 false (.call 56 [(tm 6)])
 .nil))
 8 none (.cst (.bool true)) (tm 7)
 (op 2 (.mov (tm 8))
 .nil))))))
 .ret))
theorem ok_envelopes_optional : FnOk Try.prog 95 9 (SA.erase sa_envelopes_optional) [.tmp 2] := ⟨Try.f95, [], Try.func95, rfl, by kernel_rfl, by kernel_rfl, by kernel_rfl⟩
noncomputable def F_envelopes_optional (a0 : TBallot) : Option Bool :=
 Option.bind (F_ballots_Zero a0) fun r1 =>
 Option.bind (bif r1 then some true
 else
 Option.bind (F_ballots_Valid a0) fun r2 =>
 some r2) fun b3 =>
 some b3
noncomputable def k_envelopes_optional : KFun U := .fn 95 [.ty (Ty.st .Ballot)] (.one Ty.bool) fun a => F_envelopes_optional a.1
theorem e_envelopes_optional : fnK K [k_ballots_Zero, k_ballots_Valid] sa_envelopes_optional [.tmp 2] [.ty (Ty.st .Ballot)] (.one Ty.bool) = fun a => F_envelopes_optional a.1 := by kernel_rfl
theorem s_envelopes_optional : KFun.Sound (U := U) Try.prog k_envelopes_optional := fnK_sound (K := K) (Γ := [k_ballots_Zero, k_ballots_Valid]) ok_envelopes_optional (by kernel_rfl) (by decide) ⟨s_ballots_Zero, s_ballots_Valid, trivial⟩ (fun a => congrFun e_envelopes_optional a)

/-! ### trustquorum/envelopes.at -/
def sa_envelopes_at : SA U :=
 (.seq
 (.reg
 (op 2 (.box (tm 0))
 (op 4 (.alloc [.int .i64 0, .str ⟨#[]⟩])
 .nil)))
 (.seq
 (.reg
 (op 5 (.mov (tm 1))
 (op 6 (.faddr 7 (tm 2))
 (op 7 (.faddr 1 (tm 6))
 (op 8 (.load none (tm 7))
 (op 9 (.build [.int .i64 0, .str ⟨#[]⟩] [(0, 1, (tm 5)), (1, 1, (tm 8))])
 (ops (.store 2 (tm 4) (tm 9))
 .nil)))))))
 .ret))
theorem ok_envelopes_at : FnOk Try.prog 96 10 (SA.erase sa_envelopes_at) [.cell 4 (some 2)] := ⟨Try.f96, [], Try.func96, rfl, by kernel_rfl, by kernel_rfl, by kernel_rfl⟩
noncomputable def F_envelopes_at (a0 : TEnvelope) (a1 : Int) : Option TBallot :=
 some (TBallot.mk a1 a0.Ballot.Value)
noncomputable def k_envelopes_at : KFun U := .fn 96 [.ty (Ty.st .Envelope), .ty (Ty.i .i64)] (.one (Ty.st .Ballot)) fun a => F_envelopes_at a.1 a.2.1
theorem e_envelopes_at : fnK K [] sa_envelopes_at [.cell 4 (some 2)] [.ty (Ty.st .Envelope), .ty (Ty.i .i64)] (.one (Ty.st .Ballot)) = fun a => F_envelopes_at a.1 a.2.1 := by kernel_rfl
theorem s_envelopes_at : KFun.Sound (U := U) Try.prog k_envelopes_at := fnK_sound (K := K) (Γ := []) ok_envelopes_at (by kernel_rfl) (by decide) trivial (fun a => congrFun e_envelopes_at a)

/-! ### trustquorum/ballots.Aborts -/
def sa_ballots_Aborts : SA U :=
 (.seq
 (.reg
 (op 2 (.box (tm 0))
 (op 3 (.box (tm 1))
 (op 4 (.mov (.cst (.bool false)))
 .nil))))
 (.seq
 (.reg
 (op 5 (.load (some 2) (tm 2))
 (op 6 (.call 48 [(tm 5)])
 (op 7 (.not (tm 6))
 (op 8 (.mov (tm 7))
 (.ite 8 true
 (opg 9 8 true (.load (some 2) (tm 2))
 (opg 10 8 true (.load (some 2) (tm 3))
 (opg 11 8 true (.call 50 [(tm 9), (tm 10)])
 (opg 12 8 true (.not (tm 11))
 .nil))))
 13 none (tm 12) (.cst (.bool false))
 (op 14 (.mov (tm 13))
 (.ite 14 true
 (opg 15 14 true (.load (some 2) (tm 3))
 (opg 16 14 true (.load (some 2) (tm 2))
 (opg 17 14 true (.call 49 [(tm 15), (tm 16)])
 .nil)))
 18 none (tm 17) (.cst (.bool false))
 (op 4 (.mov (tm 18))
 .nil)))))))))
 .ret))
theorem ok_ballots_Aborts : FnOk Try.prog 98 19 (SA.erase sa_ballots_Aborts) [.tmp 4] := ⟨Try.f98, [], Try.func98, rfl, by kernel_rfl, by kernel_rfl, by kernel_rfl⟩
noncomputable def F_ballots_Aborts (a0 : TBallot) (a1 : TBallot) : Option Bool :=
 Option.bind (F_ballots_Zero a0) fun r1 =>
 Option.bind (bif (!r1) then
 Option.bind (F_ballots_Compatible a0 a1) fun r2 =>
 some (!r2)
 else some false) fun b3 =>
 Option.bind (bif b3 then
 Option.bind (F_ballots_Less a1 a0) fun r4 =>
 some r4
 else some false) fun b5 =>
 some b5
noncomputable def k_ballots_Aborts : KFun U := .fn 98 [.ty (Ty.st .Ballot), .ty (Ty.st .Ballot)] (.one Ty.bool) fun a => F_ballots_Aborts a.1 a.2.1
theorem e_ballots_Aborts : fnK K [k_ballots_Zero, k_ballots_Compatible, k_ballots_Less] sa_ballots_Aborts [.tmp 4] [.ty (Ty.st .Ballot), .ty (Ty.st .Ballot)] (.one Ty.bool) = fun a => F_ballots_Aborts a.1 a.2.1 := by kernel_rfl
theorem s_ballots_Aborts : KFun.Sound (U := U) Try.prog k_ballots_Aborts := fnK_sound (K := K) (Γ := [k_ballots_Zero, k_ballots_Compatible, k_ballots_Less]) ok_ballots_Aborts (by kernel_rfl) (by decide) ⟨s_ballots_Zero, s_ballots_Compatible, s_ballots_Less, trivial⟩ (fun a => congrFun e_ballots_Aborts a)

/-! ### trustquorum/ballots.Covers -/
def sa_ballots_Covers : SA U :=
 (.seq
 (.reg
 (op 2 (.box (tm 0))
 (op 3 (.box (tm 1))
 (op 4 (.mov (.cst (.bool false)))
 .nil))))
 (.seq
 (.reg
 (op 5 (.load (some 2) (tm 2))
 (op 6 (.call 48 [(tm 5)])
 (op 7 (.not (tm 6))
 (op 8 (.mov (tm 7))
 (.ite 8 true
 (opg 9 8 true (.load (some 2) (tm 2))
 (opg 10 8 true (.load (some 2) (tm 3))
 (opg 11 8 true (.call 50 [(tm 9), (tm 10)])
 .nil)))
 12 none (tm 11) (.cst (.bool false))
 (op 13 (.mov (tm 12))
 (.ite 13 true
 (opg 14 13 true (.faddr 0 (tm 2))
 (opg 15 13 true (.load none (tm 14))
 (opg 16 13 true (.faddr 0 (tm 3))
 (opg 17 13 true (.load none (tm 16))
 (opg 18 13 true (.bin .geq (tm 15) (tm 17))
 .nil)))))
 19 none (tm 18) (.cst (.bool false))
 (op 4 (.mov (tm 19))
 .nil)))))))))
 .ret))
theorem ok_ballots_Covers : FnOk Try.prog 99 20 (SA.erase sa_ballots_Covers) [.tmp 4] := ⟨Try.f99, [], Try.func99, rfl, by kernel_rfl, by kernel_rfl, by kernel_rfl⟩
noncomputable def F_ballots_Covers (a0 : TBallot) (a1 : TBallot) : Option Bool :=
 Option.bind (F_ballots_Zero a0) fun r1 =>
 Option.bind (bif (!r1) then
 Option.bind (F_ballots_Compatible a0 a1) fun r2 =>
 some r2
 else some false) fun b3 =>
 Option.bind (bif b3 then
 some (decide (a1.Counter ≤ a0.Counter))
 else some false) fun b4 =>
 some b4
noncomputable def k_ballots_Covers : KFun U := .fn 99 [.ty (Ty.st .Ballot), .ty (Ty.st .Ballot)] (.one Ty.bool) fun a => F_ballots_Covers a.1 a.2.1
theorem e_ballots_Covers : fnK K [k_ballots_Zero, k_ballots_Compatible] sa_ballots_Covers [.tmp 4] [.ty (Ty.st .Ballot), .ty (Ty.st .Ballot)] (.one Ty.bool) = fun a => F_ballots_Covers a.1 a.2.1 := by kernel_rfl
theorem s_ballots_Covers : KFun.Sound (U := U) Try.prog k_ballots_Covers := fnK_sound (K := K) (Γ := [k_ballots_Zero, k_ballots_Compatible]) ok_ballots_Covers (by kernel_rfl) (by decide) ⟨s_ballots_Zero, s_ballots_Compatible, trivial⟩ (fun a => congrFun e_ballots_Covers a)

/-! ### trustquorum/ballots.Prepares -/
def sa_ballots_Prepares : SA U :=
 (.seq
 (.reg
 (op 3 (.box (tm 0))
 (op 4 (.box (tm 1))
 (op 5 (.box (tm 2))
 (op 6 (.mov (.cst (.bool false)))
 .nil)))))
 (.seq
 (.reg
 (op 7 (.load (some 2) (tm 3))
 (op 8 (.load (some 2) (tm 5))
 (op 9 (.call 99 [(tm 7), (tm 8)])
 (op 10 (.mov (tm 9))
 (.ite 10 false
 (opg 11 10 false (.load (some 2) (tm 4))
 (opg 12 10 false (.load (some 2) (tm 5))
 (opg 13 10 false (.call 99 [(tm 11), (tm 12)])
 .nil)))
 14 none (.cst (.bool true)) (tm 13)
 (op 15 (.mov (tm 14))
 (.ite 15 false
 (opg 16 15 false (.load (some 2) (tm 4))
 (opg 17 15 false (.call 48 [(tm 16)])
 (opg 18 15 false (.not (tm 17))
 (opg 19 15 false (.mov (tm 18))
 (.ite 19 true
 (opg 20 19 true (.load (some 2) (tm 5))
 (opg 21 19 true (.load (some 2) (tm 4))
 (opg 22 19 true (.call 49 [(tm 20), (tm 21)])
 .nil)))
 23 (some (15, false)) (tm 22) (.cst (.bool false))
 .nil)))))
 24 none (.cst (.bool true)) (tm 23)
 (op 6 (.mov (tm 24))
 .nil)))))))))
 .ret))
theorem ok_ballots_Prepares : FnOk Try.prog 97 25 (SA.erase sa_ballots_Prepares) [.tmp 6] := ⟨Try.f97, [], Try.func97, rfl, by kernel_rfl, by kernel_rfl, by kernel_rfl⟩
noncomputable def F_ballots_Prepares (a0 : TBallot) (a1 : TBallot) (a2 : TBallot) : Option Bool :=
 Option.bind (F_ballots_Covers a0 a2) fun r1 =>
 Option.bind (bif r1 then some true
 else
 Option.bind (F_ballots_Covers a1 a2) fun r2 =>
 some r2) fun b3 =>
 Option.bind (bif b3 then some true
 else
 Option.bind (F_ballots_Zero a1) fun r4 =>
 Option.bind (bif (!r4) then
 Option.bind (F_ballots_Less a2 a1) fun r5 =>
 some r5
 else some false) fun b6 =>
 some b6) fun b7 =>
 some b7
noncomputable def k_ballots_Prepares : KFun U := .fn 97 [.ty (Ty.st .Ballot), .ty (Ty.st .Ballot), .ty (Ty.st .Ballot)] (.one Ty.bool) fun a => F_ballots_Prepares a.1 a.2.1 a.2.2.1
theorem e_ballots_Prepares : fnK K [k_ballots_Covers, k_ballots_Zero, k_ballots_Less] sa_ballots_Prepares [.tmp 6] [.ty (Ty.st .Ballot), .ty (Ty.st .Ballot), .ty (Ty.st .Ballot)] (.one Ty.bool) = fun a => F_ballots_Prepares a.1 a.2.1 a.2.2.1 := by kernel_rfl
theorem s_ballots_Prepares : KFun.Sound (U := U) Try.prog k_ballots_Prepares := fnK_sound (K := K) (Γ := [k_ballots_Covers, k_ballots_Zero, k_ballots_Less]) ok_ballots_Prepares (by kernel_rfl) (by decide) ⟨s_ballots_Covers, s_ballots_Zero, s_ballots_Less, trivial⟩ (fun a => congrFun e_ballots_Prepares a)

/-! ### trustquorum/envelopes.prepares -/
def sa_envelopes_prepares : SA U :=
 (.seq
 (.reg
 (op 1 (.box (tm 0))
 (op 2 (.mov (.cst (.bool false)))
 .nil)))
 (.seq
 (.reg
 (op 5 (.faddr 11 (tm 1))
 (op 6 (.load (some 2) (tm 5))
 (op 7 (.call 48 [(tm 6)])
 (op 8 (.mov (tm 7))
 (.ite 8 false
 (opg 9 8 false (.faddr 9 (tm 1))
 (opg 10 8 false (.load (some 2) (tm 9))
 (opg 11 8 false (.call 48 [(tm 10)])
 (opg 12 8 false (.not (tm 11))
 (opg 13 8 false (.mov (tm 12))
 (.ite 13 true
 (opg 14 13 true (.faddr 11 (tm 1))
 (opg 15 13 true (.load (some 2) (tm 14))
 (opg 16 13 true (.faddr 9 (tm 1))
 (opg 17 13 true (.load (some 2) (tm 16))
 (opg 18 13 true (.call 49 [(tm 15), (tm 17)])
 .nil)))))
 19 (some (8, false)) (tm 18) (.cst (.bool false))
 (opg 20 8 false (.mov (tm 19))
 (.ite 20 true
 (opg 21 20 true (.faddr 11 (tm 1))
 (opg 22 20 true (.load (some 2) (tm 21))
 (opg 23 20 true (.faddr 9 (tm 1))
 (opg 24 20 true (.load (some 2) (tm 23))
 (opg 25 20 true (.call 50 [(tm 22), (tm 24)])
 (opg 26 20 true (.not (tm 25))
 .nil))))))
 27 (some (8, false)) (tm 26) (.cst (.bool false))
 .nil))))))))
 28 none (.cst (.bool true)) (tm 27)
 (op 3 (.mov (tm 28))
 .nil)))))))
 (.seq
 (.seq
 (.reg
 (op 29 (.faddr 7 (tm 1))
 (op 30 (.load (some 2) (tm 29))
 (op 31 (.call 55 [(tm 30)])
 (op 32 (.not (tm 31))
 (op 33 (.mov (tm 32))
 (.ite 33 false
 (opg 34 33 false (.faddr 9 (tm 1))
 (opg 35 33 false (.load (some 2) (tm 34))
 (opg 36 33 false (.call 95 [(tm 35)])
 (opg 37 33 false (.not (tm 36))
 .nil))))
 38 none (.cst (.bool true)) (tm 37)
 (op 39 (.mov (tm 38))
 (.ite 39 false
 (opg 40 39 false (.faddr 11 (tm 1))
 (opg 41 39 false (.load (some 2) (tm 40))
 (opg 42 39 false (.call 95 [(tm 41)])
 (opg 43 39 false (.not (tm 42))
 .nil))))
 44 none (.cst (.bool true)) (tm 43)
 (op 45 (.mov (tm 44))
 (.ite 45 false
 (opg 46 45 false (.mov (tm 3))
 (opg 47 45 false (.not (tm 46))
 .nil))
 48 none (.cst (.bool true)) (tm 47)
 (op 49 (.mov (tm 48))
 (.ite 49 false
 (opg 50 49 false (.faddr 13 (tm 1))
 (opg 51 49 false (.load none (tm 50))
 (opg 52 49 false (.bin .lss (tm 51) (ci 0))
 .nil)))
 53 none (.cst (.bool true)) (tm 52)
 (op 54 (.mov (tm 53))
 (.ite 54 false
 (opg 55 54 false (.faddr 14 (tm 1))
 (opg 56 54 false (.load none (tm 55))
 (opg 57 54 false (.faddr 13 (tm 1))
 (opg 58 54 false (.load none (tm 57))
 (opg 59 54 false (.bin .lss (tm 56) (tm 58))
 .nil)))))
 60 none (.cst (.bool true)) (tm 59)
 (op 61 (.mov (tm 60))
 (.ite 61 false
 (opg 62 61 false (.faddr 14 (tm 1))
 (opg 63 61 false (.load none (tm 62))
 (opg 64 61 false (.faddr 7 (tm 1))
 (opg 65 61 false (.faddr 0 (tm 64))
 (opg 66 61 false (.load none (tm 65))
 (opg 67 61 false (.bin .gtr (tm 63) (tm 66))
 .nil))))))
 68 none (.cst (.bool true)) (tm 67)
 .nil)))))))))))))))))
 (.cond (tm 68)
 (.seq
 (.reg
 (op 2 (.mov (.cst (.bool false)))
 .nil))
 .ret)
 .skip))
 (.seq
 (.reg
 (op 69 (.load (some 15) (tm 1))
 (op 70 (.faddr 13 (tm 1))
 (op 71 (.load none (tm 70))
 (op 72 (.call 96 [(tm 69), (tm 71)])
 (op 4 (.alloc [.int .i64 0, .str ⟨#[]⟩])
 (ops (.store 2 (tm 4) (tm 72))
 .nil)))))))
 (.join ⟨[.val 2 Ty.bool], []⟩
 (.drw [(4, 6), (5, 6), (4, 7), (5, 7), (4, 8), (5, 8), (6, 8), (7, 8), (4, 9), (5, 9), (6, 9), (7, 9), (8, 9), (4, 10), (5, 10), (6, 10), (7, 10), (8, 10), (4, 11), (5, 11), (6, 11), (7, 11), (19, 21), (20, 21), (25, 27), (26, 27)]
 (op 73 (.faddr 14 (tm 1))
 (op 74 (.load none (tm 73))
 (op 75 (.bin .eql (tm 74) (ci 0))
 (op 76 (.mov (tm 75))
 (.spl 76
 (opg 77 76 false (.faddr 9 (tm 1))
 (opg 78 76 false (.load (some 2) (tm 77))
 (opg 79 76 false (.faddr 11 (tm 1))
 (opg 80 76 false (.load (some 2) (tm 79))
 (opg 81 76 false (.load (some 15) (tm 1))
 (opg 82 76 false (.faddr 14 (tm 1))
 (opg 83 76 false (.load none (tm 82))
 (opg 84 76 false (.call 96 [(tm 81), (tm 83)])
 (opg 85 76 false (.call 97 [(tm 78), (tm 80), (tm 84)])
 (op 86 (.pick (tm 76) (.cst (.bool true)) (tm 85))
 (op 87 (.mov (tm 86))
 (.spl 87
 (opg 88 87 true (.faddr 13 (tm 1))
 (opg 89 87 true (.load none (tm 88))
 (opg 90 87 true (.bin .eql (tm 89) (ci 0))
 (opg 91 87 true (.mov (tm 90))
 (.spl 91
 (opg 92 91 false (.faddr 9 (tm 1))
 (opg 93 91 false (.load (some 2) (tm 92))
 (opg 94 91 false (.load (some 2) (tm 4))
 (opg 95 91 false (.call 98 [(tm 93), (tm 94)])
 (opg 96 91 false (.not (tm 95))
 (opg 97 91 false (.mov (tm 96))
 (.spl 97
 (opg 98 97 true (.faddr 11 (tm 1))
 (opg 99 97 true (.load (some 2) (tm 98))
 (opg 100 97 true (.load (some 2) (tm 4))
 (opg 101 97 true (.call 98 [(tm 99), (tm 100)])
 (opg 102 97 true (.not (tm 101))
 (opg 103 91 false (.pick (tm 97) (tm 102) (.cst (.bool false)))
 (opg 104 87 true (.pick (tm 91) (.cst (.bool true)) (tm 103))
 (op 105 (.pick (tm 87) (tm 104) (.cst (.bool false)))
 (op 2 (.mov (tm 105))
 .nil)))))))))))))))))))))))))))))))))))))))
 .ret)))))
theorem ok_envelopes_prepares : FnOk Try.prog 54 106 (SA.erase sa_envelopes_prepares) [.tmp 2] := ⟨Try.f54, [], Try.func54, rfl, by kernel_rfl, by kernel_rfl, by kernel_rfl⟩
noncomputable def F_envelopes_prepares (a0 : TEnvelope) : Option Bool :=
 Option.bind (F_ballots_Zero a0.Prime) fun r1 =>
 Option.bind (bif r1 then some true
 else
 Option.bind (F_ballots_Zero a0.Prepared) fun r2 =>
 Option.bind (bif (!r2) then
 Option.bind (F_ballots_Less a0.Prime a0.Prepared) fun r3 =>
 some r3
 else some false) fun b4 =>
 Option.bind (bif b4 then
 Option.bind (F_ballots_Compatible a0.Prime a0.Prepared) fun r5 =>
 some (!r5)
 else some false) fun b6 =>
 some b6) fun b7 =>
 Option.bind (F_envelopes_finite a0.Ballot) fun r8 =>
 Option.bind (bif (!r8) then some true
 else
 Option.bind (F_envelopes_optional a0.Prepared) fun r9 =>
 some (!r9)) fun b10 =>
 Option.bind (bif b10 then some true
 else
 Option.bind (F_envelopes_optional a0.Prime) fun r11 =>
 some (!r11)) fun b12 =>
 Option.bind (bif b12 then some true
 else
 some (!b7)) fun b13 =>
 Option.bind (bif b13 then some true
 else
 some (decide (a0.Low < (0 : Int)))) fun b14 =>
 Option.bind (bif b14 then some true
 else
 some (decide (a0.High < a0.Low))) fun b15 =>
 Option.bind (bif b15 then some true
 else
 some (decide (a0.Ballot.Counter < a0.High))) fun b16 =>
 bif b16 then
 some false
 else
 Option.bind (F_envelopes_at (TEnvelope.mk a0.Node a0.Slot a0.Seq (TTrust.mk a0.Trust.Threshold a0.Trust.Nodes a0.Trust.Inner) a0.Kind a0.Ballot a0.Prepared a0.Prime a0.Low a0.High) a0.Low) fun r17 =>
 letJ (fun (v18 : Bool × Unit) =>
 some v18.1) fun j19 =>
 bif (decide (a0.High = (0 : Int))) then
 bif (decide (a0.Low = (0 : Int))) then
 j19 (true, ())
 else
 Option.bind (F_ballots_Aborts a0.Prepared r17) fun r20 =>
 bif (!r20) then
 Option.bind (F_ballots_Aborts a0.Prime r17) fun r21 =>
 j19 ((!r21), ())
 else
 j19 (false, ())
 else
 Option.bind (F_envelopes_at (TEnvelope.mk a0.Node a0.Slot a0.Seq (TTrust.mk a0.Trust.Threshold a0.Trust.Nodes a0.Trust.Inner) a0.Kind a0.Ballot a0.Prepared a0.Prime a0.Low a0.High) a0.High) fun r22 =>
 Option.bind (F_ballots_Prepares a0.Prepared a0.Prime r22) fun r23 =>
 bif r23 then
 bif (decide (a0.Low = (0 : Int))) then
 j19 (true, ())
 else
 Option.bind (F_ballots_Aborts a0.Prepared r17) fun r24 =>
 bif (!r24) then
 Option.bind (F_ballots_Aborts a0.Prime r17) fun r25 =>
 j19 ((!r25), ())
 else
 j19 (false, ())
 else
 j19 (false, ())
noncomputable def k_envelopes_prepares : KFun U := .fn 54 [.ty (Ty.st .Envelope)] (.one Ty.bool) fun a => F_envelopes_prepares a.1
theorem e_envelopes_prepares : fnK K [k_ballots_Zero, k_ballots_Less, k_ballots_Compatible, k_envelopes_finite, k_envelopes_optional, k_envelopes_at, k_ballots_Aborts, k_ballots_Prepares] sa_envelopes_prepares [.tmp 2] [.ty (Ty.st .Envelope)] (.one Ty.bool) = fun a => F_envelopes_prepares a.1 := by kernel_rfl
theorem s_envelopes_prepares : KFun.Sound (U := U) Try.prog k_envelopes_prepares := fnK_sound (K := K) (Γ := [k_ballots_Zero, k_ballots_Less, k_ballots_Compatible, k_envelopes_finite, k_envelopes_optional, k_envelopes_at, k_ballots_Aborts, k_ballots_Prepares]) ok_envelopes_prepares (by kernel_rfl) (by decide) ⟨s_ballots_Zero, s_ballots_Less, s_ballots_Compatible, s_envelopes_finite, s_envelopes_optional, s_envelopes_at, s_ballots_Aborts, s_ballots_Prepares, trivial⟩ (fun a => congrFun e_envelopes_prepares a)

/-! ### trustquorum/envelopes.Valid -/
def sa_envelopes_Valid : SA U :=
 (.seq
 (.reg
 (op 1 (.box (tm 0))
 (op 2 (.mov (.cst (.bool false)))
 .nil)))
 (.seq
 (.seq
 (.reg
 (op 4 (.faddr 0 (tm 1))
 (op 5 (.load none (tm 4))
 (op 6 (.bin .lss (tm 5) (ci 0))
 (op 7 (.mov (tm 6))
 (.ite 7 false
 (opg 8 7 false (.faddr 0 (tm 1))
 (opg 9 7 false (.load none (tm 8))
 (opg 10 7 false (.bin .geq (tm 9) (ci 10))
 .nil)))
 11 none (.cst (.bool true)) (tm 10)
 (op 12 (.mov (tm 11))
 (.ite 12 false
 (opg 13 12 false (.faddr 1 (tm 1))
 (opg 14 12 false (.load none (tm 13))
 (opg 15 12 false (.bin .lss (tm 14) (ci 1))
 .nil)))
 16 none (.cst (.bool true)) (tm 15)
 (op 17 (.mov (tm 16))
 (.ite 17 false
 (opg 18 17 false (.faddr 1 (tm 1))
 (opg 19 17 false (.load none (tm 18))
 (opg 20 17 false (.bin .gtr (tm 19) (ci 1000000))
 .nil)))
 21 none (.cst (.bool true)) (tm 20)
 (op 22 (.mov (tm 21))
 (.ite 22 false
 (opg 23 22 false (.faddr 2 (tm 1))
 (opg 24 22 false (.load none (tm 23))
 (opg 25 22 false (.bin .lss (tm 24) (ci 1))
 .nil)))
 26 none (.cst (.bool true)) (tm 25)
 (op 27 (.mov (tm 26))
 (.ite 27 false
 (opg 28 27 false (.faddr 2 (tm 1))
 (opg 29 27 false (.load none (tm 28))
 (opg 30 27 false (.bin .gtr (tm 29) (ci 1000000))
 .nil)))
 31 none (.cst (.bool true)) (tm 30)
 (op 32 (.mov (tm 31))
 (.ite 32 false
 (opg 33 32 false (.faddr 3 (tm 1))
 (opg 34 32 false (.load (some 3) (tm 33))
 (opg 35 32 false (.call 53 [(tm 34)])
 (opg 36 32 false (.bin .neq (tm 35) (ci 0))
 .nil))))
 37 none (.cst (.bool true)) (tm 36)
 .nil))))))))))))))))
 (.cond (tm 37)
 (.seq
 (.reg
 (op 2 (.mov (.cst (.bool false)))
 .nil))
 .ret)
 .skip))
 (.seq
 (.reg
 (op 38 (.faddr 13 (tm 1))
 (op 39 (.load none (tm 38))
 (op 40 (.bin .geq (tm 39) (ci 1))
 (op 41 (.mov (tm 40))
 (.ite 41 true
 (opg 42 41 true (.faddr 14 (tm 1))
 (opg 43 41 true (.load none (tm 42))
 (opg 44 41 true (.faddr 13 (tm 1))
 (opg 45 41 true (.load none (tm 44))
 (opg 46 41 true (.bin .geq (tm 43) (tm 45))
 .nil)))))
 47 none (tm 46) (.cst (.bool false))
 (op 48 (.mov (tm 47))
 (.ite 48 true
 (opg 49 48 true (.faddr 14 (tm 1))
 (opg 50 48 true (.load none (tm 49))
 (opg 51 48 true (.bin .leq (tm 50) (ci 1000))
 .nil)))
 52 none (tm 51) (.cst (.bool false))
 (op 3 (.mov (tm 52))
 .nil)))))))))
 (.seq
 (.seq
 (.reg
 (op 53 (.faddr 6 (tm 1))
 (op 54 (.load none (tm 53))
 .nil)))
 (.block 0
 (.seq
 (.reg
 (op 56 (.bin .eql (tm 54) (ci 1))
 (op 55 (.mov (tm 56))
 .nil)))
 (.cond (tm 55)
 (.seq
 (.reg
 (op 57 (.load (some 15) (tm 1))
 (op 58 (.call 54 [(tm 57)])
 (op 2 (.mov (tm 58))
 .nil))))
 .ret)
 (.seq
 (.reg
 (op 60 (.bin .eql (tm 54) (ci 2))
 (op 59 (.mov (tm 60))
 .nil)))
 (.cond (tm 59)
 (.seq
 (.reg
 (op 61 (.faddr 7 (tm 1))
 (op 62 (.load (some 2) (tm 61))
 (op 63 (.call 55 [(tm 62)])
 (op 64 (.mov (tm 63))
 (.ite 64 true
 (opg 65 64 true (.faddr 9 (tm 1))
 (opg 66 64 true (.load (some 2) (tm 65))
 (opg 67 64 true (.call 56 [(tm 66)])
 .nil)))
 68 none (tm 67) (.cst (.bool false))
 (op 69 (.mov (tm 68))
 (.ite 69 true
 (opg 70 69 true (.faddr 9 (tm 1))
 (opg 71 69 true (.load (some 2) (tm 70))
 (opg 72 69 true (.faddr 7 (tm 1))
 (opg 73 69 true (.load (some 2) (tm 72))
 (opg 74 69 true (.call 50 [(tm 71), (tm 73)])
 .nil)))))
 75 none (tm 74) (.cst (.bool false))
 (op 76 (.mov (tm 75))
 (.ite 76 true
 (opg 77 76 true (.faddr 11 (tm 1))
 (opg 78 76 true (.load (some 2) (tm 77))
 (opg 79 76 true (.call 48 [(tm 78)])
 .nil)))
 80 none (tm 79) (.cst (.bool false))
 (op 81 (.mov (tm 80))
 (.ite 81 true
 (opg 82 81 true (.mov (tm 3))
 .nil)
 83 none (tm 82) (.cst (.bool false))
 (op 84 (.mov (tm 83))
 (.ite 84 true
 (opg 85 84 true (.faddr 14 (tm 1))
 (opg 86 84 true (.load none (tm 85))
 (opg 87 84 true (.faddr 9 (tm 1))
 (opg 88 84 true (.faddr 0 (tm 87))
 (opg 89 84 true (.load none (tm 88))
 (opg 90 84 true (.bin .leq (tm 86) (tm 89))
 .nil))))))
 91 none (tm 90) (.cst (.bool false))
 (op 2 (.mov (tm 91))
 .nil)))))))))))))))
 .ret)
 (.seq
 (.reg
 (op 93 (.bin .eql (tm 54) (ci 3))
 (op 92 (.mov (tm 93))
 .nil)))
 (.cond (tm 92)
 (.seq
 (.reg
 (op 94 (.faddr 7 (tm 1))
 (op 95 (.load (some 2) (tm 94))
 (op 96 (.call 56 [(tm 95)])
 (op 97 (.mov (tm 96))
 (.ite 97 true
 (opg 98 97 true (.faddr 9 (tm 1))
 (opg 99 97 true (.load (some 2) (tm 98))
 (opg 100 97 true (.call 48 [(tm 99)])
 .nil)))
 101 none (tm 100) (.cst (.bool false))
 (op 102 (.mov (tm 101))
 (.ite 102 true
 (opg 103 102 true (.faddr 11 (tm 1))
 (opg 104 102 true (.load (some 2) (tm 103))
 (opg 105 102 true (.call 48 [(tm 104)])
 .nil)))
 106 none (tm 105) (.cst (.bool false))
 (op 107 (.mov (tm 106))
 (.ite 107 true
 (opg 108 107 true (.mov (tm 3))
 .nil)
 109 none (tm 108) (.cst (.bool false))
 (op 2 (.mov (tm 109))
 .nil)))))))))))
 .ret)
 .skip))))))))
 (.seq
 (.reg
 (op 2 (.mov (.cst (.bool false)))
 .nil))
 .ret)))))
theorem ok_envelopes_Valid : FnOk Try.prog 25 110 (SA.erase sa_envelopes_Valid) [.tmp 2] := ⟨Try.f25, [], Try.func25, rfl, by kernel_rfl, by kernel_rfl, by kernel_rfl⟩
noncomputable def F_envelopes_Valid (a0 : TEnvelope) : Option Bool :=
 Option.bind (bif (decide (a0.Node < (0 : Int))) then some true
 else
 some (decide ((10 : Int) ≤ a0.Node))) fun b1 =>
 Option.bind (bif b1 then some true
 else
 some (decide (a0.Slot < (1 : Int)))) fun b2 =>
 Option.bind (bif b2 then some true
 else
 some (decide ((1000000 : Int) < a0.Slot))) fun b3 =>
 Option.bind (bif b3 then some true
 else
 some (decide (a0.Seq < (1 : Int)))) fun b4 =>
 Option.bind (bif b4 then some true
 else
 some (decide ((1000000 : Int) < a0.Seq))) fun b5 =>
 Option.bind (bif b5 then some true
 else
 Option.bind (F_threshold_Valid (TTrust.mk a0.Trust.Threshold a0.Trust.Nodes a0.Trust.Inner)) fun r6 =>
 some (!decide (r6 = (0 : Int)))) fun b7 =>
 bif b7 then
 some false
 else
 Option.bind (bif (decide ((1 : Int) ≤ a0.Low)) then
 some (decide (a0.Low ≤ a0.High))
 else some false) fun b8 =>
 Option.bind (bif b8 then
 some (decide (a0.High ≤ (1000 : Int)))
 else some false) fun b9 =>
 bif (decide (a0.Kind = (1 : Int))) then
 Option.bind (F_envelopes_prepares (TEnvelope.mk a0.Node a0.Slot a0.Seq (TTrust.mk a0.Trust.Threshold a0.Trust.Nodes a0.Trust.Inner) a0.Kind a0.Ballot a0.Prepared a0.Prime a0.Low a0.High)) fun r10 =>
 some r10
 else
 bif (decide (a0.Kind = (2 : Int))) then
 Option.bind (F_envelopes_finite a0.Ballot) fun r11 =>
 Option.bind (bif r11 then
 Option.bind (F_ballots_Valid a0.Prepared) fun r12 =>
 some r12
 else some false) fun b13 =>
 Option.bind (bif b13 then
 Option.bind (F_ballots_Compatible a0.Prepared a0.Ballot) fun r14 =>
 some r14
 else some false) fun b15 =>
 Option.bind (bif b15 then
 Option.bind (F_ballots_Zero a0.Prime) fun r16 =>
 some r16
 else some false) fun b17 =>
 Option.bind (bif b17 then
 some b9
 else some false) fun b18 =>
 Option.bind (bif b18 then
 some (decide (a0.High ≤ a0.Prepared.Counter))
 else some false) fun b19 =>
 some b19
 else
 bif (decide (a0.Kind = (3 : Int))) then
 Option.bind (F_ballots_Valid a0.Ballot) fun r20 =>
 Option.bind (bif r20 then
 Option.bind (F_ballots_Zero a0.Prepared) fun r21 =>
 some r21
 else some false) fun b22 =>
 Option.bind (bif b22 then
 Option.bind (F_ballots_Zero a0.Prime) fun r23 =>
 some r23
 else some false) fun b24 =>
 Option.bind (bif b24 then
 some b9
 else some false) fun b25 =>
 some b25
 else
 some false
noncomputable def k_envelopes_Valid : KFun U := .fn 25 [.ty (Ty.st .Envelope)] (.one Ty.bool) fun a => F_envelopes_Valid a.1
theorem e_envelopes_Valid : fnK K [k_threshold_Valid, k_envelopes_prepares, k_envelopes_finite, k_ballots_Valid, k_ballots_Compatible, k_ballots_Zero] sa_envelopes_Valid [.tmp 2] [.ty (Ty.st .Envelope)] (.one Ty.bool) = fun a => F_envelopes_Valid a.1 := by kernel_rfl
theorem s_envelopes_Valid : KFun.Sound (U := U) Try.prog k_envelopes_Valid := fnK_sound (K := K) (Γ := [k_threshold_Valid, k_envelopes_prepares, k_envelopes_finite, k_ballots_Valid, k_ballots_Compatible, k_ballots_Zero]) ok_envelopes_Valid (by kernel_rfl) (by decide) ⟨s_threshold_Valid, s_envelopes_prepares, s_envelopes_finite, s_ballots_Valid, s_ballots_Compatible, s_ballots_Zero, trivial⟩ (fun a => congrFun e_envelopes_Valid a)

/-! ### (trustquorum/envelopes.Right).from -/
def sa_envelopes_Right_from : SA U :=
 (.seq
 (.reg
 (op 4 (.box (tm 0))
 (op 8 (.mov (.cst (.bool false)))
 .nil)))
 (.seq
 (.reg
 (op 9 (.mov (tm 2))
 (op 10 (.bin .geq (tm 9) (ci 1))
 (op 11 (.mov (tm 10))
 (.ite 11 true
 (opg 12 11 true (.mov (tm 2))
 (opg 13 11 true (.mov (tm 3))
 (opg 14 11 true (.bin .leq (tm 12) (tm 13))
 .nil)))
 15 none (tm 14) (.cst (.bool false))
 (op 16 (.mov (tm 15))
 (.ite 16 true
 (opg 17 16 true (.faddr 0 (tm 4))
 (opg 18 16 true (.faddr 7 (tm 17))
 (opg 19 16 true (.faddr 1 (tm 18))
 (opg 20 16 true (.load none (tm 19))
 (opg 21 16 true (.mov (tm 1))
 (opg 22 16 true (.bin .eql (tm 20) (tm 21))
 .nil))))))
 23 none (tm 22) (.cst (.bool false))
 (op 24 (.mov (tm 23))
 (.ite 24 true
 (opg 25 24 true (.faddr 0 (tm 4))
 (opg 26 24 true (.faddr 13 (tm 25))
 (opg 27 24 true (.load none (tm 26))
 (opg 28 24 true (.mov (tm 2))
 (opg 29 24 true (.bin .leq (tm 27) (tm 28))
 .nil)))))
 30 none (tm 29) (.cst (.bool false))
 (op 8 (.mov (tm 30))
 .nil))))))))))
 .ret))
theorem ok_envelopes_Right_from : FnOk Try.prog 89 31 (SA.erase sa_envelopes_Right_from) [.tmp 8] := ⟨Try.f89, [], Try.func89, rfl, by kernel_rfl, by kernel_rfl, by kernel_rfl⟩
noncomputable def F_envelopes_Right_from (a0 : TRight) (a1 : ByteArray) (a2 : Int) (a3 : Int) : Option Bool :=
 Option.bind (bif (decide ((1 : Int) ≤ a2)) then
 some (decide (a2 ≤ a3))
 else some false) fun b1 =>
 Option.bind (bif b1 then
 some (decide (a0.Envelope.Ballot.Value = a1))
 else some false) fun b2 =>
 Option.bind (bif b2 then
 some (decide (a0.Envelope.Low ≤ a2))
 else some false) fun b3 =>
 some b3
noncomputable def k_envelopes_Right_from : KFun U := .fn 89 [.ty (Ty.st .Right), .ty Ty.str, .ty (Ty.i .i64), .ty (Ty.i .i64)] (.one Ty.bool) fun a => F_envelopes_Right_from a.1 a.2.1 a.2.2.1 a.2.2.2.1
theorem e_envelopes_Right_from : fnK K [] sa_envelopes_Right_from [.tmp 8] [.ty (Ty.st .Right), .ty Ty.str, .ty (Ty.i .i64), .ty (Ty.i .i64)] (.one Ty.bool) = fun a => F_envelopes_Right_from a.1 a.2.1 a.2.2.1 a.2.2.2.1 := by kernel_rfl
theorem s_envelopes_Right_from : KFun.Sound (U := U) Try.prog k_envelopes_Right_from := fnK_sound (K := K) (Γ := []) ok_envelopes_Right_from (by kernel_rfl) (by decide) trivial (fun a => congrFun e_envelopes_Right_from a)

/-! ### (trustquorum/envelopes.Right).VotesCommit -/
def sa_envelopes_Right_VotesCommit : SA U :=
 (.seq
 (.reg
 (op 4 (.box (tm 0))
 (op 8 (.mov (.cst (.bool false)))
 .nil)))
 (.seq
 (.reg
 (op 9 (.load (some 15) (tm 4))
 (op 10 (.mov (tm 1))
 (op 11 (.mov (tm 2))
 (op 12 (.mov (tm 3))
 (op 13 (.call 89 [(tm 9), (tm 10), (tm 11), (tm 12)])
 (op 14 (.mov (tm 13))
 (.ite 14 true
 (opg 15 14 true (.faddr 0 (tm 4))
 (opg 16 14 true (.faddr 6 (tm 15))
 (opg 17 14 true (.load none (tm 16))
 (opg 18 14 true (.bin .neq (tm 17) (ci 1))
 (opg 19 14 true (.mov (tm 18))
 (.ite 19 false
 (opg 20 19 false (.faddr 0 (tm 4))
 (opg 21 19 false (.faddr 13 (tm 20))
 (opg 22 19 false (.load none (tm 21))
 (opg 23 19 false (.bin .neq (tm 22) (ci 0))
 (opg 24 19 false (.mov (tm 23))
 (.ite 24 true
 (opg 25 24 true (.mov (tm 3))
 (opg 26 24 true (.faddr 0 (tm 4))
 (opg 27 24 true (.faddr 14 (tm 26))
 (opg 28 24 true (.load none (tm 27))
 (opg 29 24 true (.bin .leq (tm 25) (tm 28))
 .nil)))))
 30 (some (19, false)) (tm 29) (.cst (.bool false))
 .nil))))))
 31 (some (14, true)) (.cst (.bool true)) (tm 30)
 .nil))))))
 32 none (tm 31) (.cst (.bool false))
 (op 8 (.mov (tm 32))
 .nil)))))))))
 .ret))
theorem ok_envelopes_Right_VotesCommit : FnOk Try.prog 47 33 (SA.erase sa_envelopes_Right_VotesCommit) [.tmp 8] := ⟨Try.f47, [], Try.func47, rfl, by kernel_rfl, by kernel_rfl, by kernel_rfl⟩
noncomputable def F_envelopes_Right_VotesCommit (a0 : TRight) (a1 : ByteArray) (a2 : Int) (a3 : Int) : Option Bool :=
 Option.bind (F_envelopes_Right_from (TRight.mk (TEnvelope.mk a0.Envelope.Node a0.Envelope.Slot a0.Envelope.Seq (TTrust.mk a0.Envelope.Trust.Threshold a0.Envelope.Trust.Nodes a0.Envelope.Trust.Inner) a0.Envelope.Kind a0.Envelope.Ballot a0.Envelope.Prepared a0.Envelope.Prime a0.Envelope.Low a0.Envelope.High)) a1 a2 a3) fun r1 =>
 Option.bind (bif r1 then
 Option.bind (bif (!decide (a0.Envelope.Kind = (1 : Int))) then some true
 else
 Option.bind (bif (!decide (a0.Envelope.Low = (0 : Int))) then
 some (decide (a3 ≤ a0.Envelope.High))
 else some false) fun b2 =>
 some b2) fun b3 =>
 some b3
 else some false) fun b4 =>
 some b4
noncomputable def k_envelopes_Right_VotesCommit : KFun U := .fn 47 [.ty (Ty.st .Right), .ty Ty.str, .ty (Ty.i .i64), .ty (Ty.i .i64)] (.one Ty.bool) fun a => F_envelopes_Right_VotesCommit a.1 a.2.1 a.2.2.1 a.2.2.2.1
theorem e_envelopes_Right_VotesCommit : fnK K [k_envelopes_Right_from] sa_envelopes_Right_VotesCommit [.tmp 8] [.ty (Ty.st .Right), .ty Ty.str, .ty (Ty.i .i64), .ty (Ty.i .i64)] (.one Ty.bool) = fun a => F_envelopes_Right_VotesCommit a.1 a.2.1 a.2.2.1 a.2.2.2.1 := by kernel_rfl
theorem s_envelopes_Right_VotesCommit : KFun.Sound (U := U) Try.prog k_envelopes_Right_VotesCommit := fnK_sound (K := K) (Γ := [k_envelopes_Right_from]) ok_envelopes_Right_VotesCommit (by kernel_rfl) (by decide) ⟨s_envelopes_Right_from, trivial⟩ (fun a => congrFun e_envelopes_Right_VotesCommit a)

/-! ### trustquorum/envelopes.VotesCommit -/
def sa_envelopes_VotesCommit : SA U :=
 (.seq
 (.reg
 (op 4 (.box (tm 0))
 (op 8 (.mov (.cst (.bool false)))
 .nil)))
 (.seq
 (.reg
 (op 9 (.load (some 15) (tm 4))
 (op 10 (.call 25 [(tm 9)])
 (op 11 (.mov (tm 10))
 (.ite 11 true
 (opg 12 11 true (.load (some 15) (tm 4))
 (opg 13 11 true (.build [.int .i64 0, .int .i64 0, .int .i64 0, .int .i64 0, .nils, .nils, .int .i64 0, .int .i64 0, .str ⟨#[]⟩, .int .i64 0, .str ⟨#[]⟩, .int .i64 0, .str ⟨#[]⟩, .int .i64 0, .int .i64 0] [(0, 15, (tm 12))])
 (opg 14 11 true (.mov (tm 1))
 (opg 15 11 true (.mov (tm 2))
 (opg 16 11 true (.mov (tm 3))
 (opg 17 11 true (.call 47 [(tm 13), (tm 14), (tm 15), (tm 16)])
 .nil))))))
 18 none (tm 17) (.cst (.bool false))
 (op 8 (.mov (tm 18))
 .nil))))))
 .ret))
theorem ok_envelopes_VotesCommit : FnOk Try.prog 15 19 (SA.erase sa_envelopes_VotesCommit) [.tmp 8] := ⟨Try.f15, [], Try.func15, rfl, by kernel_rfl, by kernel_rfl, by kernel_rfl⟩
noncomputable def F_envelopes_VotesCommit (a0 : TEnvelope) (a1 : ByteArray) (a2 : Int) (a3 : Int) : Option Bool :=
 Option.bind (F_envelopes_Valid (TEnvelope.mk a0.Node a0.Slot a0.Seq (TTrust.mk a0.Trust.Threshold a0.Trust.Nodes a0.Trust.Inner) a0.Kind a0.Ballot a0.Prepared a0.Prime a0.Low a0.High)) fun r1 =>
 Option.bind (bif r1 then
 Option.bind (F_envelopes_Right_VotesCommit (TRight.mk (TEnvelope.mk a0.Node a0.Slot a0.Seq (TTrust.mk a0.Trust.Threshold a0.Trust.Nodes a0.Trust.Inner) a0.Kind a0.Ballot a0.Prepared a0.Prime a0.Low a0.High)) a1 a2 a3) fun r2 =>
 some r2
 else some false) fun b3 =>
 some b3
noncomputable def k_envelopes_VotesCommit : KFun U := .fn 15 [.ty (Ty.st .Envelope), .ty Ty.str, .ty (Ty.i .i64), .ty (Ty.i .i64)] (.one Ty.bool) fun a => F_envelopes_VotesCommit a.1 a.2.1 a.2.2.1 a.2.2.2.1
theorem e_envelopes_VotesCommit : fnK K [k_envelopes_Valid, k_envelopes_Right_VotesCommit] sa_envelopes_VotesCommit [.tmp 8] [.ty (Ty.st .Envelope), .ty Ty.str, .ty (Ty.i .i64), .ty (Ty.i .i64)] (.one Ty.bool) = fun a => F_envelopes_VotesCommit a.1 a.2.1 a.2.2.1 a.2.2.2.1 := by kernel_rfl
theorem s_envelopes_VotesCommit : KFun.Sound (U := U) Try.prog k_envelopes_VotesCommit := fnK_sound (K := K) (Γ := [k_envelopes_Valid, k_envelopes_Right_VotesCommit]) ok_envelopes_VotesCommit (by kernel_rfl) (by decide) ⟨s_envelopes_Valid, s_envelopes_Right_VotesCommit, trivial⟩ (fun a => congrFun e_envelopes_VotesCommit a)

/-! ### trustquorum/trustquorumplay.Flat -/
def sa_play_Flat : SA U :=
 (.seq
 (.reg
 (op 4 (.alloc [.int .i64 0, .nils, .nils])
 .nil))
 (.seq
 (.reg
 (op 7 (.mov (tm 1))
 (op 8 (.build [.int .i64 0, .nils, .nils] [(0, 1, (tm 7))])
 (op 5 (.alloc [.int .i64 0, .nils, .nils])
 (ops (.store 3 (tm 5) (tm 8))
 .nil)))))
 (.seq
 (.seq
 (.reg
 (op 6 (.mov (ci 0))
 .nil))
 (.block 0
 (.ps (.ownB 5 1 3 1 (Ty.i .i64))
 (.loop ⟨[.val 6 (Ty.i .i64), .box 3 1 (Ty.st .Trust) [(1, 6, 1)], .rowb 6 1 3 1 (Ty.i .i64)], [0, 4, 5]⟩
 (.seq
 (.seq
 (.reg
 (op 9 (.mov (tm 6))
 (op 10 (.mov (tm 0))
 (op 11 (.bin .lss (tm 9) (tm 10))
 .nil))))
 (.cond (tm 11)
 .skip
 (.exit 0)))
 (.seq
 (.block 1
 (.reg
 (op 14 (.faddr 1 (tm 5))
 (op 15 (.load none (tm 14))
 (op 16 (.mov (tm 6))
 (op 17 (.bsl false 3 1 (List.replicate 1 [.int .i64 0]) [(0, (tm 16))])
 (op 18 (.app 3 1 8 (tm 15) (tm 17))
 (op 19 (.faddr 1 (tm 5))
 (ops (.store 1 (tm 19) (tm 18))
 .nil)))))))))
 (.reg
 (op 12 (.mov (tm 6))
 (op 13 (.bin .add (tm 12) (ci 1))
 (op 6 (.mov (tm 13))
 .nil))))))))))
 (.seq
 (.reg
 (op 20 (.load (some 3) (tm 5))
 (ops (.store 3 (tm 4) (tm 20))
 .nil)))
 .ret))))
theorem ok_play_Flat : FnOk Try.prog 41 21 (SA.erase sa_play_Flat) [.cell 4 (some 3)] := ⟨Try.f41, [], Try.func41, rfl, by kernel_rfl, by kernel_rfl, by kernel_rfl⟩
noncomputable def F_play_Flat (a0 : Int) (a1 : Int) : Option TTrust :=
 loopO (fun (v1 : Int × TTrust × (List Int) × Unit) =>
 bif (decide (v1.1 < a0)) then
 bif lenOk 8 (List.length v1.2.2.1 + List.length [v1.1]) then
 some (Sum.inl ((addI .i64 v1.1 (1 : Int)), (TTrust.mk v1.2.1.Threshold ([] : List Int) v1.2.1.Inner), (v1.2.2.1 ++ [v1.1]), ()))
 else none
 else
 Option.map Sum.inr (some (TTrust.mk v1.2.1.Threshold v1.2.2.1 v1.2.1.Inner))) ((0 : Int), (TTrust.mk a1 ([] : List Int) ([] : List TTrust)), ([] : List Int), ())
noncomputable def k_play_Flat : KFun U := .fn 41 [.ty (Ty.i .i64), .ty (Ty.i .i64)] (.one (Ty.st .Trust)) fun a => F_play_Flat a.1 a.2.1
theorem e_play_Flat : fnK K [] sa_play_Flat [.cell 4 (some 3)] [.ty (Ty.i .i64), .ty (Ty.i .i64)] (.one (Ty.st .Trust)) = fun a => F_play_Flat a.1 a.2.1 := by kernel_rfl
theorem s_play_Flat : KFun.Sound (U := U) Try.prog k_play_Flat := fnK_sound (K := K) (Γ := []) ok_play_Flat (by kernel_rfl) (by decide) trivial (fun a => congrFun e_play_Flat a)

/-! ### (trustquorum/envelopes.Right).AcceptsCommit -/
def sa_envelopes_Right_AcceptsCommit : SA U :=
 (.seq
 (.reg
 (op 4 (.box (tm 0))
 (op 8 (.mov (.cst (.bool false)))
 .nil)))
 (.seq
 (.reg
 (op 9 (.load (some 15) (tm 4))
 (op 10 (.mov (tm 1))
 (op 11 (.mov (tm 2))
 (op 12 (.mov (tm 3))
 (op 13 (.call 89 [(tm 9), (tm 10), (tm 11), (tm 12)])
 (op 14 (.mov (tm 13))
 (.ite 14 true
 (opg 15 14 true (.faddr 0 (tm 4))
 (opg 16 14 true (.faddr 6 (tm 15))
 (opg 17 14 true (.load none (tm 16))
 (opg 18 14 true (.bin .eql (tm 17) (ci 3))
 (opg 19 14 true (.mov (tm 18))
 (.ite 19 false
 (opg 20 19 false (.faddr 0 (tm 4))
 (opg 21 19 false (.faddr 6 (tm 20))
 (opg 22 19 false (.load none (tm 21))
 (opg 23 19 false (.bin .eql (tm 22) (ci 2))
 (opg 24 19 false (.mov (tm 23))
 (.ite 24 true
 (opg 25 24 true (.mov (tm 3))
 (opg 26 24 true (.faddr 0 (tm 4))
 (opg 27 24 true (.faddr 14 (tm 26))
 (opg 28 24 true (.load none (tm 27))
 (opg 29 24 true (.bin .leq (tm 25) (tm 28))
 .nil)))))
 30 (some (19, false)) (tm 29) (.cst (.bool false))
 .nil))))))
 31 (some (14, true)) (.cst (.bool true)) (tm 30)
 .nil))))))
 32 none (tm 31) (.cst (.bool false))
 (op 8 (.mov (tm 32))
 .nil)))))))))
 .ret))
theorem ok_envelopes_Right_AcceptsCommit : FnOk Try.prog 57 33 (SA.erase sa_envelopes_Right_AcceptsCommit) [.tmp 8] := ⟨Try.f57, [], Try.func57, rfl, by kernel_rfl, by kernel_rfl, by kernel_rfl⟩
noncomputable def F_envelopes_Right_AcceptsCommit (a0 : TRight) (a1 : ByteArray) (a2 : Int) (a3 : Int) : Option Bool :=
 Option.bind (F_envelopes_Right_from (TRight.mk (TEnvelope.mk a0.Envelope.Node a0.Envelope.Slot a0.Envelope.Seq (TTrust.mk a0.Envelope.Trust.Threshold a0.Envelope.Trust.Nodes a0.Envelope.Trust.Inner) a0.Envelope.Kind a0.Envelope.Ballot a0.Envelope.Prepared a0.Envelope.Prime a0.Envelope.Low a0.Envelope.High)) a1 a2 a3) fun r1 =>
 Option.bind (bif r1 then
 Option.bind (bif (decide (a0.Envelope.Kind = (3 : Int))) then some true
 else
 Option.bind (bif (decide (a0.Envelope.Kind = (2 : Int))) then
 some (decide (a3 ≤ a0.Envelope.High))
 else some false) fun b2 =>
 some b2) fun b3 =>
 some b3
 else some false) fun b4 =>
 some b4
noncomputable def k_envelopes_Right_AcceptsCommit : KFun U := .fn 57 [.ty (Ty.st .Right), .ty Ty.str, .ty (Ty.i .i64), .ty (Ty.i .i64)] (.one Ty.bool) fun a => F_envelopes_Right_AcceptsCommit a.1 a.2.1 a.2.2.1 a.2.2.2.1
theorem e_envelopes_Right_AcceptsCommit : fnK K [k_envelopes_Right_from] sa_envelopes_Right_AcceptsCommit [.tmp 8] [.ty (Ty.st .Right), .ty Ty.str, .ty (Ty.i .i64), .ty (Ty.i .i64)] (.one Ty.bool) = fun a => F_envelopes_Right_AcceptsCommit a.1 a.2.1 a.2.2.1 a.2.2.2.1 := by kernel_rfl
theorem s_envelopes_Right_AcceptsCommit : KFun.Sound (U := U) Try.prog k_envelopes_Right_AcceptsCommit := fnK_sound (K := K) (Γ := [k_envelopes_Right_from]) ok_envelopes_Right_AcceptsCommit (by kernel_rfl) (by decide) ⟨s_envelopes_Right_from, trivial⟩ (fun a => congrFun e_envelopes_Right_AcceptsCommit a)

/-! ### trustquorum/envelopes.AcceptsCommit -/
def sa_envelopes_AcceptsCommit : SA U :=
 (.seq
 (.reg
 (op 4 (.box (tm 0))
 (op 8 (.mov (.cst (.bool false)))
 .nil)))
 (.seq
 (.reg
 (op 9 (.load (some 15) (tm 4))
 (op 10 (.call 25 [(tm 9)])
 (op 11 (.mov (tm 10))
 (.ite 11 true
 (opg 12 11 true (.load (some 15) (tm 4))
 (opg 13 11 true (.build [.int .i64 0, .int .i64 0, .int .i64 0, .int .i64 0, .nils, .nils, .int .i64 0, .int .i64 0, .str ⟨#[]⟩, .int .i64 0, .str ⟨#[]⟩, .int .i64 0, .str ⟨#[]⟩, .int .i64 0, .int .i64 0] [(0, 15, (tm 12))])
 (opg 14 11 true (.mov (tm 1))
 (opg 15 11 true (.mov (tm 2))
 (opg 16 11 true (.mov (tm 3))
 (opg 17 11 true (.call 57 [(tm 13), (tm 14), (tm 15), (tm 16)])
 .nil))))))
 18 none (tm 17) (.cst (.bool false))
 (op 8 (.mov (tm 18))
 .nil))))))
 .ret))
theorem ok_envelopes_AcceptsCommit : FnOk Try.prog 27 19 (SA.erase sa_envelopes_AcceptsCommit) [.tmp 8] := ⟨Try.f27, [], Try.func27, rfl, by kernel_rfl, by kernel_rfl, by kernel_rfl⟩
noncomputable def F_envelopes_AcceptsCommit (a0 : TEnvelope) (a1 : ByteArray) (a2 : Int) (a3 : Int) : Option Bool :=
 Option.bind (F_envelopes_Valid (TEnvelope.mk a0.Node a0.Slot a0.Seq (TTrust.mk a0.Trust.Threshold a0.Trust.Nodes a0.Trust.Inner) a0.Kind a0.Ballot a0.Prepared a0.Prime a0.Low a0.High)) fun r1 =>
 Option.bind (bif r1 then
 Option.bind (F_envelopes_Right_AcceptsCommit (TRight.mk (TEnvelope.mk a0.Node a0.Slot a0.Seq (TTrust.mk a0.Trust.Threshold a0.Trust.Nodes a0.Trust.Inner) a0.Kind a0.Ballot a0.Prepared a0.Prime a0.Low a0.High)) a1 a2 a3) fun r2 =>
 some r2
 else some false) fun b3 =>
 some b3
noncomputable def k_envelopes_AcceptsCommit : KFun U := .fn 27 [.ty (Ty.st .Envelope), .ty Ty.str, .ty (Ty.i .i64), .ty (Ty.i .i64)] (.one Ty.bool) fun a => F_envelopes_AcceptsCommit a.1 a.2.1 a.2.2.1 a.2.2.2.1
theorem e_envelopes_AcceptsCommit : fnK K [k_envelopes_Valid, k_envelopes_Right_AcceptsCommit] sa_envelopes_AcceptsCommit [.tmp 8] [.ty (Ty.st .Envelope), .ty Ty.str, .ty (Ty.i .i64), .ty (Ty.i .i64)] (.one Ty.bool) = fun a => F_envelopes_AcceptsCommit a.1 a.2.1 a.2.2.1 a.2.2.2.1 := by kernel_rfl
theorem s_envelopes_AcceptsCommit : KFun.Sound (U := U) Try.prog k_envelopes_AcceptsCommit := fnK_sound (K := K) (Γ := [k_envelopes_Valid, k_envelopes_Right_AcceptsCommit]) ok_envelopes_AcceptsCommit (by kernel_rfl) (by decide) ⟨s_envelopes_Valid, s_envelopes_Right_AcceptsCommit, trivial⟩ (fun a => congrFun e_envelopes_AcceptsCommit a)

/-! ### (trustquorum/envelopes.Right).Count -/
def sa_envelopes_Right_Count : SA U :=
 (.seq
 (.reg
 (op 1 (.box (tm 0))
 (op 2 (.mov (ci 0))
 .nil)))
 (.seq
 (.seq
 (.reg
 (op 3 (.faddr 0 (tm 1))
 (op 4 (.faddr 6 (tm 3))
 (op 5 (.load none (tm 4))
 (op 6 (.bin .eql (tm 5) (ci 3))
 .nil)))))
 (.cond (tm 6)
 (.seq
 (.reg
 (op 2 (.mov (ci 1000000))
 .nil))
 .ret)
 .skip))
 (.seq
 (.reg
 (op 7 (.faddr 0 (tm 1))
 (op 8 (.faddr 7 (tm 7))
 (op 9 (.faddr 0 (tm 8))
 (op 10 (.load none (tm 9))
 (op 2 (.mov (tm 10))
 .nil))))))
 .ret)))
theorem ok_envelopes_Right_Count : FnOk Try.prog 60 11 (SA.erase sa_envelopes_Right_Count) [.tmp 2] := ⟨Try.f60, [], Try.func60, rfl, by kernel_rfl, by kernel_rfl, by kernel_rfl⟩
noncomputable def F_envelopes_Right_Count (a0 : TRight) : Option Int :=
 bif (decide (a0.Envelope.Kind = (3 : Int))) then
 some (1000000 : Int)
 else
 some a0.Envelope.Ballot.Counter
noncomputable def k_envelopes_Right_Count : KFun U := .fn 60 [.ty (Ty.st .Right)] (.one (Ty.i .i64)) fun a => F_envelopes_Right_Count a.1
theorem e_envelopes_Right_Count : fnK K [] sa_envelopes_Right_Count [.tmp 2] [.ty (Ty.st .Right)] (.one (Ty.i .i64)) = fun a => F_envelopes_Right_Count a.1 := by kernel_rfl
theorem s_envelopes_Right_Count : KFun.Sound (U := U) Try.prog k_envelopes_Right_Count := fnK_sound (K := K) (Γ := []) ok_envelopes_Right_Count (by kernel_rfl) (by decide) trivial (fun a => congrFun e_envelopes_Right_Count a)

/-! ### trustquorum/envelopes.Counter -/
def sa_envelopes_Counter : SA U :=
 (.seq
 (.reg
 (op 1 (.box (tm 0))
 (op 2 (.mov (ci 0))
 .nil)))
 (.seq
 (.seq
 (.reg
 (op 3 (.load (some 15) (tm 1))
 (op 4 (.call 25 [(tm 3)])
 (op 5 (.not (tm 4))
 .nil))))
 (.cond (tm 5)
 (.seq
 (.reg
 (op 2 (.mov (ci 0))
 .nil))
 .ret)
 .skip))
 (.seq
 (.reg
 (op 6 (.load (some 15) (tm 1))
 (op 7 (.build [.int .i64 0, .int .i64 0, .int .i64 0, .int .i64 0, .nils, .nils, .int .i64 0, .int .i64 0, .str ⟨#[]⟩, .int .i64 0, .str ⟨#[]⟩, .int .i64 0, .str ⟨#[]⟩, .int .i64 0, .int .i64 0] [(0, 15, (tm 6))])
 (op 8 (.call 60 [(tm 7)])
 (op 2 (.mov (tm 8))
 .nil)))))
 .ret)))
theorem ok_envelopes_Counter : FnOk Try.prog 32 9 (SA.erase sa_envelopes_Counter) [.tmp 2] := ⟨Try.f32, [], Try.func32, rfl, by kernel_rfl, by kernel_rfl, by kernel_rfl⟩
noncomputable def F_envelopes_Counter (a0 : TEnvelope) : Option Int :=
 Option.bind (F_envelopes_Valid (TEnvelope.mk a0.Node a0.Slot a0.Seq (TTrust.mk a0.Trust.Threshold a0.Trust.Nodes a0.Trust.Inner) a0.Kind a0.Ballot a0.Prepared a0.Prime a0.Low a0.High)) fun r1 =>
 bif (!r1) then
 some (0 : Int)
 else
 Option.bind (F_envelopes_Right_Count (TRight.mk (TEnvelope.mk a0.Node a0.Slot a0.Seq (TTrust.mk a0.Trust.Threshold a0.Trust.Nodes a0.Trust.Inner) a0.Kind a0.Ballot a0.Prepared a0.Prime a0.Low a0.High))) fun r2 =>
 some r2
noncomputable def k_envelopes_Counter : KFun U := .fn 32 [.ty (Ty.st .Envelope)] (.one (Ty.i .i64)) fun a => F_envelopes_Counter a.1
theorem e_envelopes_Counter : fnK K [k_envelopes_Valid, k_envelopes_Right_Count] sa_envelopes_Counter [.tmp 2] [.ty (Ty.st .Envelope)] (.one (Ty.i .i64)) = fun a => F_envelopes_Counter a.1 := by kernel_rfl
theorem s_envelopes_Counter : KFun.Sound (U := U) Try.prog k_envelopes_Counter := fnK_sound (K := K) (Γ := [k_envelopes_Valid, k_envelopes_Right_Count]) ok_envelopes_Counter (by kernel_rfl) (by decide) ⟨s_envelopes_Valid, s_envelopes_Right_Count, trivial⟩ (fun a => congrFun e_envelopes_Counter a)

/-! ### trustquorum/trustquorumlaw24.sane -/
def sa_law24_sane : SA U :=
 (.seq
 (.reg
 (op 0 (.mov (.cst (.bool false)))
 .nil))
 (.seq
 (.reg
 (op 2 (.call 41 [(ci 3), (ci 2)])
 (op 3 (.build [.int .i64 0, .str ⟨#[]⟩] [(0, 1, (ci 3)), (1, 1, (.cst (.str ⟨#[97]⟩)))])
 (op 4 (.build [.int .i64 0, .str ⟨#[]⟩] [(0, 1, (ci 3)), (1, 1, (.cst (.str ⟨#[97]⟩)))])
 (op 5 (.build [.int .i64 0, .int .i64 0, .int .i64 0, .int .i64 0, .nils, .nils, .int .i64 0, .int .i64 0, .str ⟨#[]⟩, .int .i64 0, .str ⟨#[]⟩, .int .i64 0, .str ⟨#[]⟩, .int .i64 0, .int .i64 0] [(1, 1, (ci 1)), (2, 1, (ci 1)), (3, 3, (tm 2)), (6, 1, (ci 1)), (7, 2, (tm 3)), (9, 2, (tm 4)), (13, 1, (ci 2)), (14, 1, (ci 3))])
 (op 1 (.alloc [.int .i64 0, .int .i64 0, .int .i64 0, .int .i64 0, .nils, .nils, .int .i64 0, .int .i64 0, .str ⟨#[]⟩, .int .i64 0, .str ⟨#[]⟩, .int .i64 0, .str ⟨#[]⟩, .int .i64 0, .int .i64 0])
 (ops (.store 15 (tm 1) (tm 5))
 .nil)))))))
 (.seq
 (.reg
 (op 6 (.load (some 15) (tm 1))
 (op 7 (.call 25 [(tm 6)])
 (op 8 (.mov (tm 7))
 (.ite 8 true
 (opg 9 8 true (.load (some 15) (tm 1))
 (opg 10 8 true (.call 15 [(tm 9), (.cst (.str ⟨#[97]⟩)), (ci 2), (ci 3)])
 .nil))
 11 none (tm 10) (.cst (.bool false))
 (op 12 (.mov (tm 11))
 (.ite 12 true
 (opg 13 12 true (.load (some 15) (tm 1))
 (opg 14 12 true (.call 27 [(tm 13), (.cst (.str ⟨#[97]⟩)), (ci 2), (ci 3)])
 (opg 15 12 true (.not (tm 14))
 .nil)))
 16 none (tm 15) (.cst (.bool false))
 (op 17 (.mov (tm 16))
 (.ite 17 true
 (opg 18 17 true (.load (some 15) (tm 1))
 (opg 19 17 true (.call 32 [(tm 18)])
 (opg 20 17 true (.bin .eql (tm 19) (ci 3))
 .nil)))
 21 none (tm 20) (.cst (.bool false))
 (op 0 (.mov (tm 21))
 .nil))))))))))
 .ret)))
theorem ok_law24_sane : FnOk Try.prog 16 22 (SA.erase sa_law24_sane) [.tmp 0] := ⟨Try.f16, [], Try.func16, rfl, by kernel_rfl, by kernel_rfl, by kernel_rfl⟩
noncomputable def F_law24_sane  : Option Bool :=
 Option.bind (F_play_Flat (3 : Int) (2 : Int)) fun r1 =>
 Option.bind (F_envelopes_Valid (TEnvelope.mk (0 : Int) (1 : Int) (1 : Int) (TTrust.mk r1.Threshold r1.Nodes r1.Inner) (1 : Int) (TBallot.mk (3 : Int) (ByteArray.mk #[97])) (TBallot.mk (3 : Int) (ByteArray.mk #[97])) (TBallot.mk (0 : Int) (ByteArray.mk #[])) (2 : Int) (3 : Int))) fun r2 =>
 Option.bind (bif r2 then
 Option.bind (F_envelopes_VotesCommit (TEnvelope.mk (0 : Int) (1 : Int) (1 : Int) (TTrust.mk r1.Threshold r1.Nodes r1.Inner) (1 : Int) (TBallot.mk (3 : Int) (ByteArray.mk #[97])) (TBallot.mk (3 : Int) (ByteArray.mk #[97])) (TBallot.mk (0 : Int) (ByteArray.mk #[])) (2 : Int) (3 : Int)) (ByteArray.mk #[97]) (2 : Int) (3 : Int)) fun r3 =>
 some r3
 else some false) fun b4 =>
 Option.bind (bif b4 then
 Option.bind (F_envelopes_AcceptsCommit (TEnvelope.mk (0 : Int) (1 : Int) (1 : Int) (TTrust.mk r1.Threshold r1.Nodes r1.Inner) (1 : Int) (TBallot.mk (3 : Int) (ByteArray.mk #[97])) (TBallot.mk (3 : Int) (ByteArray.mk #[97])) (TBallot.mk (0 : Int) (ByteArray.mk #[])) (2 : Int) (3 : Int)) (ByteArray.mk #[97]) (2 : Int) (3 : Int)) fun r5 =>
 some (!r5)
 else some false) fun b6 =>
 Option.bind (bif b6 then
 Option.bind (F_envelopes_Counter (TEnvelope.mk (0 : Int) (1 : Int) (1 : Int) (TTrust.mk r1.Threshold r1.Nodes r1.Inner) (1 : Int) (TBallot.mk (3 : Int) (ByteArray.mk #[97])) (TBallot.mk (3 : Int) (ByteArray.mk #[97])) (TBallot.mk (0 : Int) (ByteArray.mk #[])) (2 : Int) (3 : Int))) fun r7 =>
 some (decide (r7 = (3 : Int)))
 else some false) fun b8 =>
 some b8
noncomputable def k_law24_sane : KFun U := .fn 16 [] (.one Ty.bool) fun a => F_law24_sane 
theorem e_law24_sane : fnK K [k_play_Flat, k_envelopes_Valid, k_envelopes_VotesCommit, k_envelopes_AcceptsCommit, k_envelopes_Counter] sa_law24_sane [.tmp 0] [] (.one Ty.bool) = fun a => F_law24_sane  := by kernel_rfl
theorem s_law24_sane : KFun.Sound (U := U) Try.prog k_law24_sane := fnK_sound (K := K) (Γ := [k_play_Flat, k_envelopes_Valid, k_envelopes_VotesCommit, k_envelopes_AcceptsCommit, k_envelopes_Counter]) ok_law24_sane (by kernel_rfl) (by decide) ⟨s_play_Flat, s_envelopes_Valid, s_envelopes_VotesCommit, s_envelopes_AcceptsCommit, s_envelopes_Counter, trivial⟩ (fun a => congrFun e_law24_sane a)

/-! ### trustquorum/trustquorumlaw24.EnvelopesConsistent -/
def sa_law24_EnvelopesConsistent : SA U :=
 (.seq
 (.reg
 (op 4 (.mov (.cst (.bool false)))
 .nil))
 (.seq
 (.reg
 (op 10 (.mov (tm 0))
 (op 11 (.call 11 [(tm 10)])
 (op 5 (.mov (tm 11))
 .nil))))
 (.seq
 (.reg
 (op 12 (.mov (tm 5))
 (op 13 (.mov (tm 5))
 (op 14 (.call 13 [(tm 13), (ci 5)])
 (op 15 (.call 12 [(tm 12), (tm 14), (ci 1), (ci 5)])
 (op 6 (.alloc [.int .i64 0, .int .i64 0, .int .i64 0, .int .i64 0, .nils, .nils, .int .i64 0, .int .i64 0, .str ⟨#[]⟩, .int .i64 0, .str ⟨#[]⟩, .int .i64 0, .str ⟨#[]⟩, .int .i64 0, .int .i64 0])
 (ops (.store 15 (tm 6) (tm 15))
 .nil)))))))
 (.seq
 (.reg
 (op 16 (.mov (tm 1))
 (op 17 (.conv .i64 (tm 16))
 (op 18 (.bin .rem (tm 17) (ci 8))
 (op 19 (.bin .add (ci 1) (tm 18))
 (op 20 (.mov (tm 5))
 (op 21 (.call 14 [(tm 20)])
 (op 7 (.mov (tm 19))
 (op 8 (.mov (tm 21))
 .nil)))))))))
 (.seq
 (.seq
 (.reg
 (op 22 (.load (some 15) (tm 6))
 (op 23 (.mov (tm 8))
 (op 24 (.mov (tm 7))
 (op 25 (.mov (tm 7))
 (op 26 (.call 15 [(tm 22), (tm 23), (tm 24), (tm 25)])
 (op 27 (.not (tm 26))
 (op 28 (.mov (tm 27))
 (.ite 28 false
 (opg 29 28 false (.faddr 6 (tm 6))
 (opg 30 28 false (.load none (tm 29))
 (opg 31 28 false (.bin .neq (tm 30) (ci 1))
 .nil)))
 32 none (.cst (.bool true)) (tm 31)
 .nil)))))))))
 (.cond (tm 32)
 (.seq
 (.reg
 (op 33 (.call 16 [])
 (op 4 (.mov (tm 33))
 .nil)))
 .ret)
 .skip))
 (.seq
 (.reg
 (op 34 (.mov (tm 7))
 (op 35 (.mov (tm 8))
 (op 36 (.build [.int .i64 0, .str ⟨#[]⟩] [(0, 1, (tm 34)), (1, 1, (tm 35))])
 (op 9 (.alloc [.int .i64 0, .str ⟨#[]⟩])
 (ops (.store 2 (tm 9) (tm 36))
 .nil))))))
 (.seq
 (.reg
 (op 37 (.faddr 9 (tm 6))
 (op 38 (.load (some 2) (tm 37))
 (op 39 (.load (some 2) (tm 9))
 (op 40 (.call 17 [(tm 38), (tm 39)])
 (op 41 (.not (tm 40))
 (op 42 (.mov (tm 41))
 (.ite 42 true
 (opg 43 42 true (.faddr 11 (tm 6))
 (opg 44 42 true (.load (some 2) (tm 43))
 (opg 45 42 true (.load (some 2) (tm 9))
 (opg 46 42 true (.call 17 [(tm 44), (tm 45)])
 (opg 47 42 true (.not (tm 46))
 .nil)))))
 48 none (tm 47) (.cst (.bool false))
 (op 49 (.mov (tm 48))
 (.ite 49 true
 (opg 50 49 true (.call 16 [])
 .nil)
 51 none (tm 50) (.cst (.bool false))
 (op 4 (.mov (tm 51))
 .nil)))))))))))
 .ret)))))))
theorem ok_law24_EnvelopesConsistent : FnOk Try.prog 3 52 (SA.erase sa_law24_EnvelopesConsistent) [.tmp 4] := ⟨Try.f3, [], Try.func3, rfl, by kernel_rfl, by kernel_rfl, by kernel_rfl⟩
noncomputable def F_law24_EnvelopesConsistent (a0 : (List Int)) (a1 : Int) : Option Bool :=
 Option.bind (F_play_New a0) fun r1 =>
 Option.bind (F_play_Src_N r1 (5 : Int)) fun p2 =>
 Option.bind (F_play_Src_Envelope p2.2 p2.1 (1 : Int) (5 : Int)) fun p3 =>
 Option.bind (F_play_Src_Value p3.2) fun p4 =>
 Option.bind (F_envelopes_VotesCommit (TEnvelope.mk p3.1.Node p3.1.Slot p3.1.Seq (TTrust.mk p3.1.Trust.Threshold p3.1.Trust.Nodes p3.1.Trust.Inner) p3.1.Kind p3.1.Ballot p3.1.Prepared p3.1.Prime p3.1.Low p3.1.High) p4.1 (addI .i64 (1 : Int) (remI .i64 (convI .i64 a1) (8 : Int))) (addI .i64 (1 : Int) (remI .i64 (convI .i64 a1) (8 : Int)))) fun r5 =>
 Option.bind (bif (!r5) then some true
 else
 some (!decide (p3.1.Kind = (1 : Int)))) fun b6 =>
 bif b6 then
 Option.bind (F_law24_sane) fun r7 =>
 some r7
 else
 Option.bind (F_ref23_Aborts p3.1.Prepared (TBallot.mk (addI .i64 (1 : Int) (remI .i64 (convI .i64 a1) (8 : Int))) p4.1)) fun r8 =>
 Option.bind (bif (!r8) then
 Option.bind (F_ref23_Aborts p3.1.Prime (TBallot.mk (addI .i64 (1 : Int) (remI .i64 (convI .i64 a1) (8 : Int))) p4.1)) fun r9 =>
 some (!r9)
 else some false) fun b10 =>
 Option.bind (bif b10 then
 Option.bind (F_law24_sane) fun r11 =>
 some r11
 else some false) fun b12 =>
 some b12
noncomputable def k_law24_EnvelopesConsistent : KFun U := .fn 3 [.ty (Ty.sl (Ty.i .i64)), .ty (Ty.i .u8)] (.one Ty.bool) fun a => F_law24_EnvelopesConsistent a.1 a.2.1
theorem e_law24_EnvelopesConsistent : fnK K [k_play_New, k_play_Src_N, k_play_Src_Envelope, k_play_Src_Value, k_envelopes_VotesCommit, k_law24_sane, k_ref23_Aborts] sa_law24_EnvelopesConsistent [.tmp 4] [.ty (Ty.sl (Ty.i .i64)), .ty (Ty.i .u8)] (.one Ty.bool) = fun a => F_law24_EnvelopesConsistent a.1 a.2.1 := by kernel_rfl
theorem s_law24_EnvelopesConsistent : KFun.Sound (U := U) Try.prog k_law24_EnvelopesConsistent := fnK_sound (K := K) (Γ := [k_play_New, k_play_Src_N, k_play_Src_Envelope, k_play_Src_Value, k_envelopes_VotesCommit, k_law24_sane, k_ref23_Aborts]) ok_law24_EnvelopesConsistent (by kernel_rfl) (by decide) ⟨s_play_New, s_play_Src_N, s_play_Src_Envelope, s_play_Src_Value, s_envelopes_VotesCommit, s_law24_sane, s_ref23_Aborts, trivial⟩ (fun a => congrFun e_law24_EnvelopesConsistent a)

/-! ### trustquorum/prepare.Join -/
def sa_prepare_Join : SA U :=
 (.seq
 (.reg
 (op 3 (.box (tm 0))
 (op 4 (.box (tm 1))
 (op 5 (.box (tm 2))
 (op 6 (.alloc [.int .i64 0, .str ⟨#[]⟩])
 (op 7 (.alloc [.int .i64 0, .str ⟨#[]⟩])
 .nil))))))
 (.join ⟨[.box 1 1 (Ty.st .Ballot) [], .box 3 1 (Ty.st .Ballot) [], .box 4 1 (Ty.st .Ballot) []], [3, 4, 6, 7]⟩
 (.block 0
 (.seq
 (.reg
 (op 9 (.load (some 2) (tm 5))
 (op 10 (.call 48 [(tm 9)])
 (op 8 (.mov (tm 10))
 .nil))))
 (.cond (tm 8)
 .skip
 (.seq
 (.reg
 (op 12 (.load (some 2) (tm 3))
 (op 13 (.call 48 [(tm 12)])
 (op 11 (.mov (tm 13))
 .nil))))
 (.cond (tm 11)
 (.seq
 (.drw [(0, 1), (1, 2)]
 (op 14 (.load (some 2) (tm 5))
 (op 15 (.load (some 2) (tm 4))
 (ops (.store 2 (tm 6) (tm 14))
 (ops (.store 2 (tm 7) (tm 15))
 .nil)))))
 .ret)
 (.seq
 (.reg
 (op 17 (.load (some 2) (tm 3))
 (op 18 (.load (some 2) (tm 5))
 (op 19 (.call 49 [(tm 17), (tm 18)])
 (op 16 (.mov (tm 19))
 .nil)))))
 (.cond (tm 16)
 (.join ⟨[.box 1 1 (Ty.st .Ballot) []], [3, 4, 5, 6, 7]⟩
 (.block 1
 (.seq
 (.reg
 (op 21 (.load (some 2) (tm 3))
 (op 22 (.load (some 2) (tm 5))
 (op 23 (.call 50 [(tm 21), (tm 22)])
 (op 24 (.not (tm 23))
 (op 20 (.mov (tm 24))
 .nil))))))
 (.cond (tm 20)
 (.reg
 (op 25 (.load (some 2) (tm 3))
 (ops (.store 2 (tm 4) (tm 25))
 .nil)))
 (.seq
 (.reg
 (op 27 (.load (some 2) (tm 4))
 (op 28 (.load (some 2) (tm 5))
 (op 29 (.call 50 [(tm 27), (tm 28)])
 (op 26 (.mov (tm 29))
 .nil)))))
 (.cond (tm 26)
 (.reg
 (op 30 (.build [.int .i64 0, .str ⟨#[]⟩] [])
 (ops (.store 2 (tm 4) (tm 30))
 .nil)))
 .skip)))))
 (.seq
 (.drw [(0, 1), (1, 2)]
 (op 31 (.load (some 2) (tm 5))
 (op 32 (.load (some 2) (tm 4))
 (ops (.store 2 (tm 6) (tm 31))
 (ops (.store 2 (tm 7) (tm 32))
 .nil)))))
 .ret))
 (.seq
 (.reg
 (op 34 (.load (some 2) (tm 5))
 (op 35 (.load (some 2) (tm 3))
 (op 36 (.call 49 [(tm 34), (tm 35)])
 (op 37 (.mov (tm 36))
 (.ite 37 true
 (opg 38 37 true (.load (some 2) (tm 3))
 (opg 39 37 true (.load (some 2) (tm 5))
 (opg 40 37 true (.call 50 [(tm 38), (tm 39)])
 (opg 41 37 true (.not (tm 40))
 .nil))))
 42 none (tm 41) (.cst (.bool false))
 (op 43 (.mov (tm 42))
 (.ite 43 true
 (opg 44 43 true (.load (some 2) (tm 4))
 (opg 45 43 true (.call 48 [(tm 44)])
 (opg 46 43 true (.mov (tm 45))
 (.ite 46 false
 (opg 47 46 false (.load (some 2) (tm 4))
 (opg 48 46 false (.load (some 2) (tm 5))
 (opg 49 46 false (.call 49 [(tm 47), (tm 48)])
 .nil)))
 50 (some (43, true)) (.cst (.bool true)) (tm 49)
 .nil))))
 51 none (tm 50) (.cst (.bool false))
 (op 33 (.mov (tm 51))
 .nil)))))))))
 (.cond (tm 33)
 (.seq
 (.drw [(0, 1), (1, 2)]
 (op 52 (.load (some 2) (tm 3))
 (op 53 (.load (some 2) (tm 5))
 (ops (.store 2 (tm 6) (tm 52))
 (ops (.store 2 (tm 7) (tm 53))
 .nil)))))
 .ret)
 .skip)))))))))
 (.seq
 (.drw [(0, 1), (1, 2)]
 (op 54 (.load (some 2) (tm 3))
 (op 55 (.load (some 2) (tm 4))
 (ops (.store 2 (tm 6) (tm 54))
 (ops (.store 2 (tm 7) (tm 55))
 .nil)))))
 .ret)))
theorem ok_prepare_Join : FnOk Try.prog 19 56 (SA.erase sa_prepare_Join) [.cell 6 (some 2), .cell 7 (some 2)] := ⟨Try.f19, [], Try.func19, rfl, by kernel_rfl, by kernel_rfl, by kernel_rfl⟩
noncomputable def F_prepare_Join (a0 : TBallot) (a1 : TBallot) (a2 : TBallot) : Option (TBallot × TBallot × Unit) :=
 letJ (fun (v1 : TBallot × TBallot × TBallot × Unit) =>
 some (a0, v1.1, ())) fun j2 =>
 Option.bind (F_ballots_Zero a2) fun r3 =>
 bif r3 then
 j2 (a1, (TBallot.mk (0 : Int) (ByteArray.mk #[])), (TBallot.mk (0 : Int) (ByteArray.mk #[])), ())
 else
 Option.bind (F_ballots_Zero a0) fun r4 =>
 bif r4 then
 some (a2, a1, ())
 else
 Option.bind (F_ballots_Less a0 a2) fun r5 =>
 bif r5 then
 letJ (fun (v6 : TBallot × Unit) =>
 some (a2, v6.1, ())) fun j7 =>
 Option.bind (F_ballots_Compatible a0 a2) fun r8 =>
 bif (!r8) then
 j7 (a0, ())
 else
 Option.bind (F_ballots_Compatible a1 a2) fun r9 =>
 bif r9 then
 j7 ((TBallot.mk (0 : Int) (ByteArray.mk #[])), ())
 else
 j7 (a1, ())
 else
 Option.bind (F_ballots_Less a2 a0) fun r10 =>
 Option.bind (bif r10 then
 Option.bind (F_ballots_Compatible a0 a2) fun r11 =>
 some (!r11)
 else some false) fun b12 =>
 Option.bind (bif b12 then
 Option.bind (F_ballots_Zero a1) fun r13 =>
 Option.bind (bif r13 then some true
 else
 Option.bind (F_ballots_Less a1 a2) fun r14 =>
 some r14) fun b15 =>
 some b15
 else some false) fun b16 =>
 bif b16 then
 some (a0, a2, ())
 else
 j2 (a1, (TBallot.mk (0 : Int) (ByteArray.mk #[])), (TBallot.mk (0 : Int) (ByteArray.mk #[])), ())
noncomputable def k_prepare_Join : KFun U := .fn 19 [.ty (Ty.st .Ballot), .ty (Ty.st .Ballot), .ty (Ty.st .Ballot)] (.many [(Ty.st .Ballot), (Ty.st .Ballot)]) fun a => F_prepare_Join a.1 a.2.1 a.2.2.1
theorem e_prepare_Join : fnK K [k_ballots_Zero, k_ballots_Less, k_ballots_Compatible] sa_prepare_Join [.cell 6 (some 2), .cell 7 (some 2)] [.ty (Ty.st .Ballot), .ty (Ty.st .Ballot), .ty (Ty.st .Ballot)] (.many [(Ty.st .Ballot), (Ty.st .Ballot)]) = fun a => F_prepare_Join a.1 a.2.1 a.2.2.1 := by kernel_rfl
theorem s_prepare_Join : KFun.Sound (U := U) Try.prog k_prepare_Join := fnK_sound (K := K) (Γ := [k_ballots_Zero, k_ballots_Less, k_ballots_Compatible]) ok_prepare_Join (by kernel_rfl) (by decide) ⟨s_ballots_Zero, s_ballots_Less, s_ballots_Compatible, trivial⟩ (fun a => congrFun e_prepare_Join a)

/-! ### slices.Clone[[]int,int] -/
def sa_slices_Clone_int_int : SA U :=
 (.seq
 (.reg
 (op 2 (.mov (.cst (.nils)))
 .nil))
 (.seq
 (.seq
 (.reg
 (op 3 (.mov (tm 0))
 (op 4 (.isnil false (tm 3))
 .nil)))
 (.cond (tm 4)
 (.seq
 (.reg
 (op 2 (.mov (.cst (.nils)))
 .nil))
 .ret)
 .skip))
 (.seq
 (.reg
 (op 5 (.bsl true 3 1 (List.replicate 0 [.int .i64 0]) [])
 (op 6 (.mov (tm 0))
 (op 7 (.app 3 1 8 (tm 5) (tm 6))
 (op 2 (.mov (tm 7))
 .nil)))))
 .ret)))
theorem ok_slices_Clone_int_int : FnOk Try.prog 120 8 (SA.erase sa_slices_Clone_int_int) [.tmp 2] := ⟨Try.f120, [5], Try.func120, rfl, by kernel_rfl, by kernel_rfl, by kernel_rfl⟩
noncomputable def F_slices_Clone_int_int (a0 : (List Int)) : Option (List Int) :=
 bif List.isEmpty a0 then
 both (some ([] : List Int)) (bif lenOk 8 (List.length ([] : List Int) + List.length a0) then
 some (([] : List Int) ++ a0)
 else none)
 else
 bif lenOk 8 (List.length ([] : List Int) + List.length a0) then
 some (([] : List Int) ++ a0)
 else none
noncomputable def k_slices_Clone_int_int : KFun U := .fn 120 [.ty (Ty.sl (Ty.i .i64))] (.one (Ty.sl (Ty.i .i64))) fun a => F_slices_Clone_int_int a.1
theorem e_slices_Clone_int_int : fnK K [] sa_slices_Clone_int_int [.tmp 2] [.ty (Ty.sl (Ty.i .i64))] (.one (Ty.sl (Ty.i .i64))) = fun a => F_slices_Clone_int_int a.1 := by kernel_rfl
theorem s_slices_Clone_int_int : KFun.Sound (U := U) Try.prog k_slices_Clone_int_int := fnK_sound (K := K) (Γ := []) ok_slices_Clone_int_int (by kernel_rfl) (by decide) trivial (fun a => congrFun e_slices_Clone_int_int a)

/-! ### trustquorum/copies.Trust -/
def sa_copies_Trust : SA U :=
 (.seq
 (.reg
 (op 1 (.box (tm 0))
 (op 2 (.alloc [.int .i64 0, .nils, .nils])
 .nil)))
 (.seq
 (.drw [(0, 2), (1, 2), (0, 3), (1, 3), (0, 4), (1, 4), (0, 6), (1, 6), (2, 6), (3, 6), (4, 6)]
 (op 6 (.faddr 0 (tm 1))
 (op 7 (.load none (tm 6))
 (op 8 (.faddr 1 (tm 1))
 (op 9 (.load none (tm 8))
 (op 10 (.call 120 [(tm 9)])
 (op 11 (.build [.int .i64 0, .nils, .nils] [(0, 1, (tm 7)), (1, 1, (tm 10))])
 (op 3 (.alloc [.int .i64 0, .nils, .nils])
 (ops (.store 3 (tm 3) (tm 11))
 .nil)))))))))
 (.seq
 (.seq
 (.reg
 (op 12 (.faddr 2 (tm 1))
 (op 13 (.load none (tm 12))
 (op 14 (.len false (tm 13))
 (op 15 (.mov (ci 0))
 .nil)))))
 (.block 0
 (.ps (.ownB 3 2 27 3 (Ty.st .Trust))
 (.loop ⟨[.val 15 (Ty.i .i64), .box 8 1 (Ty.st .Trust) [(2, 14, 1)], .rowb 14 1 27 3 (Ty.st .Trust)], [2, 3, 13, 14]⟩
 (.seq
 (.reg
 (op 16 (.bin .lss (tm 15) (tm 14))
 .nil))
 (.seq
 (.cond (tm 16)
 .skip
 (.exit 0))
 (.seq
 (.block 1
 (.seq
 (.reg
 (op 17 (.iaddr 3 (tm 13) (tm 15))
 (op 18 (.load (some 3) (tm 17))
 (op 5 (.alloc [.int .i64 0, .nils, .nils])
 (ops (.store 3 (tm 5) (tm 18))
 .nil)))))
 (.drw [(0, 2), (1, 2), (0, 3), (1, 3), (0, 4), (1, 4)]
 (op 19 (.faddr 2 (tm 3))
 (op 20 (.load none (tm 19))
 (op 21 (.load (some 3) (tm 5))
 (op 22 (.call 91 [(tm 21)])
 (op 23 (.bsl false 27 3 (List.replicate 1 [.int .i64 0, .nils, .nils]) [(0, (tm 22))])
 (op 24 (.app 27 3 56 (tm 20) (tm 23))
 (op 25 (.faddr 2 (tm 3))
 (ops (.store 1 (tm 25) (tm 24))
 .nil)))))))))))
 (.reg
 (op 26 (.bin .add (tm 15) (ci 1))
 (op 15 (.mov (tm 26))
 .nil))))))))))
 (.seq
 (.reg
 (op 27 (.load (some 3) (tm 3))
 (ops (.store 3 (tm 2) (tm 27))
 .nil)))
 .ret))))
theorem ok_copies_Trust : FnOk Try.prog 91 28 (SA.erase sa_copies_Trust) [.cell 2 (some 3)] := ⟨Try.f91, [], Try.func91, rfl, by kernel_rfl, by kernel_rfl, by kernel_rfl⟩
noncomputable def B_copies_Trust (rec : (TTrust × Unit) → Option TTrust) (a0 : TTrust) : Option TTrust :=
 Option.bind (F_slices_Clone_int_int a0.Nodes) fun r1 =>
 loopO (fun (v2 : Int × TTrust × (List TTrust) × Unit) =>
 bif (decide (v2.1 < ((List.length a0.Inner : Nat) : Int))) then
 Option.bind (idx a0.Inner v2.1) fun x3 =>
 Option.bind (rec ((TTrust.mk x3.Threshold x3.Nodes x3.Inner), ())) fun r4 =>
 bif lenOk 56 (List.length v2.2.2.1 + List.length [(TTrust.mk r4.Threshold r4.Nodes r4.Inner)]) then
 some (Sum.inl ((addI .i64 v2.1 (1 : Int)), (TTrust.mk v2.2.1.Threshold v2.2.1.Nodes ([] : List TTrust)), (v2.2.2.1 ++ [(TTrust.mk r4.Threshold r4.Nodes r4.Inner)]), ()))
 else none
 else
 Option.map Sum.inr (some (TTrust.mk v2.2.1.Threshold v2.2.1.Nodes v2.2.2.1))) ((0 : Int), (TTrust.mk a0.Threshold r1 ([] : List TTrust)), ([] : List TTrust), ())
noncomputable def I_copies_Trust : Nat → (TTrust × Unit) → Option TTrust := iterF (fun rec a => B_copies_Trust rec a.1)
noncomputable def F_copies_Trust (a0 : TTrust) : Option TTrust := I_copies_Trust (SizeOf.sizeOf a0 + 1) (a0, ())
noncomputable def k_copies_Trust : KFun U := .fn 91 [.ty (Ty.st .Trust)] (.one (Ty.st .Trust)) fun a => F_copies_Trust a.1
theorem e_copies_Trust : (fun G => fnK K (.fn 91 [.ty (Ty.st .Trust)] (.one (Ty.st .Trust)) G :: [k_slices_Clone_int_int]) sa_copies_Trust [.cell 2 (some 3)] [.ty (Ty.st .Trust)] (.one (Ty.st .Trust))) = (fun G a => B_copies_Trust G a.1) := by kernel_rfl
theorem n_copies_Trust : ∀ n, KFun.Sound (U := U) Try.prog (.fn 91 [.ty (Ty.st .Trust)] (.one (Ty.st .Trust)) (I_copies_Trust n))
  | 0 => ⟨ok_copies_Trust.enters, fun a r h => by cases h⟩
  | n + 1 => fnK_sound (K := K) (r := .one (Ty.st .Trust)) (Γ := .fn 91 [.ty (Ty.st .Trust)] (.one (Ty.st .Trust)) (I_copies_Trust n) :: [k_slices_Clone_int_int]) (F := I_copies_Trust (n + 1)) ok_copies_Trust (by kernel_rfl) (by decide) ⟨n_copies_Trust n, s_slices_Clone_int_int, trivial⟩ (fun a => congrFun (congrFun e_copies_Trust (I_copies_Trust n)) a)
theorem s_copies_Trust : KFun.Sound (U := U) Try.prog k_copies_Trust := ⟨ok_copies_Trust.enters, fun a r h => (n_copies_Trust _).2 a r h⟩

/-! ### trustquorum/prepare.View -/
def sa_prepare_View : SA U :=
 (.seq
 (.reg
 (op 4 (.box (tm 1))
 (op 6 (.alloc [.nils])
 .nil)))
 (.seq
 (.reg
 (op 10 (.mks 64 4 64 [.bool false, .int .i64 0, .nils, .nils] (ci 10) (ci 10))
 (op 11 (.build [.nils] [(0, 1, (tm 10))])
 (op 7 (.alloc [.nils])
 (ops (.store 1 (tm 7) (tm 11))
 .nil)))))
 (.seq
 (.seq
 (.reg
 (op 12 (.mov (tm 0))
 (op 13 (.bin .lss (tm 12) (ci 0))
 (op 14 (.mov (tm 13))
 (.ite 14 false
 (opg 15 14 false (.mov (tm 0))
 (opg 16 14 false (.bin .geq (tm 15) (ci 10))
 .nil))
 17 none (.cst (.bool true)) (tm 16)
 .nil)))))
 (.cond (tm 17)
 (.seq
 (.reg
 (op 18 (.load (some 1) (tm 7))
 (ops (.store 1 (tm 6) (tm 18))
 .nil)))
 .ret)
 .skip))
 (.seq
 (.drw [(0, 3), (1, 3), (0, 4), (1, 4)]
 (op 19 (.faddr 0 (tm 7))
 (op 20 (.load none (tm 19))
 (op 21 (.mov (tm 0))
 (op 22 (.load (some 3) (tm 4))
 (op 23 (.call 91 [(tm 22)])
 (op 24 (.build [.bool false, .int .i64 0, .nils, .nils] [(0, 1, (.cst (.bool true))), (1, 3, (tm 23))])
 (op 25 (.iaddr 4 (tm 20) (tm 21))
 (ops (.store 4 (tm 25) (tm 24))
 .nil)))))))))
 (.seq
 (.seq
 (.reg
 (op 26 (.mov (tm 2))
 (op 27 (.len false (tm 26))
 (op 28 (.mov (ci 0))
 .nil))))
 (.block 0
 (.loop ⟨[.val 28 (Ty.i .i64), .box 4 1 (Ty.st .Config) [(0, 2, 1)], .rowb 2 1 64 4 (Ty.st .Member)], [6, 7, 26, 27]⟩
 (.seq
 (.reg
 (op 29 (.bin .lss (tm 28) (tm 27))
 .nil))
 (.seq
 (.cond (tm 29)
 .skip
 (.exit 0))
 (.join ⟨[.box 4 1 (Ty.st .Config) [(0, 2, 1)], .rowb 2 1 64 4 (Ty.st .Member)], [6, 7, 26, 27, 28]⟩
 (.block 1
 (.seq
 (.reg
 (op 30 (.iaddr 15 (tm 26) (tm 28))
 (op 31 (.load (some 15) (tm 30))
 (op 9 (.alloc [.int .i64 0, .int .i64 0, .int .i64 0, .int .i64 0, .nils, .nils, .int .i64 0, .int .i64 0, .str ⟨#[]⟩, .int .i64 0, .str ⟨#[]⟩, .int .i64 0, .str ⟨#[]⟩, .int .i64 0, .int .i64 0])
 (ops (.store 15 (tm 9) (tm 31))
 .nil)))))
 (.seq
 (.reg
 (op 32 (.load (some 15) (tm 9))
 (op 33 (.call 25 [(tm 32)])
 (op 34 (.mov (tm 33))
 (.ite 34 true
 (opg 35 34 true (.faddr 0 (tm 7))
 (opg 36 34 true (.load none (tm 35))
 (opg 37 34 true (.faddr 0 (tm 9))
 (opg 38 34 true (.load none (tm 37))
 (opg 39 34 true (.iaddr 4 (tm 36) (tm 38))
 (opg 40 34 true (.faddr 0 (tm 39))
 (opg 41 34 true (.load none (tm 40))
 (opg 42 34 true (.not (tm 41))
 .nil))))))))
 43 none (tm 42) (.cst (.bool false))
 .nil)))))
 (.cond (tm 43)
 (.drw [(0, 2), (1, 2), (0, 3), (1, 3), (0, 4), (1, 4), (2, 4), (3, 4), (0, 5), (1, 5), (2, 5), (3, 5), (0, 6), (1, 6), (2, 6), (3, 6)]
 (op 44 (.faddr 0 (tm 7))
 (op 45 (.load none (tm 44))
 (op 46 (.faddr 0 (tm 9))
 (op 47 (.load none (tm 46))
 (op 48 (.faddr 3 (tm 9))
 (op 49 (.load (some 3) (tm 48))
 (op 50 (.call 91 [(tm 49)])
 (op 51 (.build [.bool false, .int .i64 0, .nils, .nils] [(0, 1, (.cst (.bool true))), (1, 3, (tm 50))])
 (op 52 (.iaddr 4 (tm 45) (tm 47))
 (ops (.store 4 (tm 52) (tm 51))
 .nil)))))))))))
 .skip))))
 (.reg
 (op 53 (.bin .add (tm 28) (ci 1))
 (op 28 (.mov (tm 53))
 .nil)))))))))
 (.seq
 (.reg
 (op 54 (.load (some 1) (tm 7))
 (ops (.store 1 (tm 6) (tm 54))
 .nil)))
 .ret))))))
theorem ok_prepare_View : FnOk Try.prog 52 55 (SA.erase sa_prepare_View) [.cell 6 (some 1)] := ⟨Try.f52, [], Try.func52, rfl, by kernel_rfl, by kernel_rfl, by kernel_rfl⟩
noncomputable def F_prepare_View (a0 : Int) (a1 : TTrust) (a2 : (List TEnvelope)) : Option TConfig :=
 bif decide ((10 : Int) = (10 : Int)) && decide (0 ≤ (10 : Int)) && lenOk 64 (Int.toNat (10 : Int)) then
 Option.bind (bif (decide (a0 < (0 : Int))) then some true
 else
 some (decide ((10 : Int) ≤ a0))) fun b1 =>
 bif b1 then
 some (TConfig.mk (List.replicate (Int.toNat (10 : Int)) (TMember.mk false (TTrust.mk (0 : Int) ([] : List Int) ([] : List TTrust)))))
 else
 Option.bind (F_copies_Trust (TTrust.mk a1.Threshold a1.Nodes a1.Inner)) fun r2 =>
 Option.bind (idx (List.replicate (Int.toNat (10 : Int)) (TMember.mk false (TTrust.mk (0 : Int) ([] : List Int) ([] : List TTrust)))) a0) fun x3 =>
 Option.bind ((List.replicate (Int.toNat (10 : Int)) (TMember.mk false (TTrust.mk (0 : Int) ([] : List Int) ([] : List TTrust))))[(Int.toNat a0)]?) fun x4 =>
 loopO (fun (v5 : Int × TConfig × (List TMember) × Unit) =>
 bif (decide (v5.1 < ((List.length a2 : Nat) : Int))) then
 letJ (fun (v6 : TConfig × (List TMember) × Unit) =>
 some (Sum.inl ((addI .i64 v5.1 (1 : Int)), (TConfig.mk ([] : List TMember)), v6.2.1, ()))) fun j7 =>
 Option.bind (idx a2 v5.1) fun x8 =>
 Option.bind (F_envelopes_Valid (TEnvelope.mk x8.Node x8.Slot x8.Seq (TTrust.mk x8.Trust.Threshold x8.Trust.Nodes x8.Trust.Inner) x8.Kind x8.Ballot x8.Prepared x8.Prime x8.Low x8.High)) fun r9 =>
 Option.bind (bif r9 then
 Option.bind (idx v5.2.2.1 x8.Node) fun x10 =>
 Option.bind (v5.2.2.1[(Int.toNat x8.Node)]?) fun x11 =>
 Option.bind (v5.2.2.1[(Int.toNat x8.Node)]?) fun x12 =>
 some (!x12.Declared)
 else some false) fun b13 =>
 bif b13 then
 Option.bind (F_copies_Trust (TTrust.mk x8.Trust.Threshold x8.Trust.Nodes x8.Trust.Inner)) fun r14 =>
 Option.bind (idx v5.2.2.1 x8.Node) fun x15 =>
 Option.bind (v5.2.2.1[(Int.toNat x8.Node)]?) fun x16 =>
 j7 ((TConfig.mk ([] : List TMember)), (v5.2.2.1.set (Int.toNat x8.Node) (TMember.mk true (TTrust.mk r14.Threshold r14.Nodes r14.Inner))), ())
 else
 j7 ((TConfig.mk ([] : List TMember)), v5.2.2.1, ())
 else
 Option.map Sum.inr (some (TConfig.mk v5.2.2.1))) ((0 : Int), (TConfig.mk ([] : List TMember)), ((List.replicate (Int.toNat (10 : Int)) (TMember.mk false (TTrust.mk (0 : Int) ([] : List Int) ([] : List TTrust)))).set (Int.toNat a0) (TMember.mk true (TTrust.mk r2.Threshold r2.Nodes r2.Inner))), ())
 else none
noncomputable def k_prepare_View : KFun U := .fn 52 [.ty (Ty.i .i64), .ty (Ty.st .Trust), .ty (Ty.sl (Ty.st .Envelope))] (.one (Ty.st .Config)) fun a => F_prepare_View a.1 a.2.1 a.2.2.1
theorem e_prepare_View : fnK K [k_copies_Trust, k_envelopes_Valid] sa_prepare_View [.cell 6 (some 1)] [.ty (Ty.i .i64), .ty (Ty.st .Trust), .ty (Ty.sl (Ty.st .Envelope))] (.one (Ty.st .Config)) = fun a => F_prepare_View a.1 a.2.1 a.2.2.1 := by kernel_rfl
theorem s_prepare_View : KFun.Sound (U := U) Try.prog k_prepare_View := fnK_sound (K := K) (Γ := [k_copies_Trust, k_envelopes_Valid]) ok_prepare_View (by kernel_rfl) (by decide) ⟨s_copies_Trust, s_envelopes_Valid, trivial⟩ (fun a => congrFun e_prepare_View a)

/-! ### trustquorum/trustquorumlaw25.sane -/
def sa_law25_sane : SA U :=
 (.seq
 (.reg
 (op 0 (.mov (.cst (.bool false)))
 .nil))
 (.seq
 (.reg
 (op 5 (.build [.int .i64 0, .str ⟨#[]⟩] [(0, 1, (ci 2)), (1, 1, (.cst (.str ⟨#[97]⟩)))])
 (op 6 (.build [.int .i64 0, .str ⟨#[]⟩] [])
 (op 7 (.build [.int .i64 0, .str ⟨#[]⟩] [(0, 1, (ci 3)), (1, 1, (.cst (.str ⟨#[98]⟩)))])
 (op 8 (.call 19 [(tm 5), (tm 6), (tm 7)])
 (op 4 (.mov (tm 8))
 (op 9 (.extr 0 (tm 4))
 (op 10 (.extr 1 (tm 4))
 (op 1 (.alloc [.int .i64 0, .str ⟨#[]⟩])
 (op 2 (.alloc [.int .i64 0, .str ⟨#[]⟩])
 (ops (.store 2 (tm 1) (tm 9))
 (ops (.store 2 (tm 2) (tm 10))
 .nil))))))))))))
 (.seq
 (.reg
 (op 11 (.call 41 [(ci 2), (ci 1)])
 (op 12 (.call 52 [(ci 0), (tm 11), (.cst (.nils))])
 (op 3 (.alloc [.nils])
 (ops (.store 1 (tm 3) (tm 12))
 .nil)))))
 (.seq
 (.reg
 (op 13 (.load (some 2) (tm 1))
 (op 14 (.build [.int .i64 0, .str ⟨#[]⟩] [(0, 1, (ci 3)), (1, 1, (.cst (.str ⟨#[98]⟩)))])
 (op 15 (.eq2 false (tm 13) (tm 14))
 (op 16 (.mov (tm 15))
 (.ite 16 true
 (opg 17 16 true (.load (some 2) (tm 2))
 (opg 18 16 true (.build [.int .i64 0, .str ⟨#[]⟩] [(0, 1, (ci 2)), (1, 1, (.cst (.str ⟨#[97]⟩)))])
 (opg 19 16 true (.eq2 false (tm 17) (tm 18))
 .nil)))
 20 none (tm 19) (.cst (.bool false))
 (op 21 (.mov (tm 20))
 (.ite 21 true
 (opg 22 21 true (.faddr 0 (tm 3))
 (opg 23 21 true (.load none (tm 22))
 (opg 24 21 true (.len false (tm 23))
 (opg 25 21 true (.bin .eql (tm 24) (ci 10))
 .nil))))
 26 none (tm 25) (.cst (.bool false))
 (op 27 (.mov (tm 26))
 (.ite 27 true
 (opg 28 27 true (.faddr 0 (tm 3))
 (opg 29 27 true (.load none (tm 28))
 (opg 30 27 true (.iaddr 4 (tm 29) (ci 0))
 (opg 31 27 true (.faddr 0 (tm 30))
 (opg 32 27 true (.load none (tm 31))
 .nil)))))
 33 none (tm 32) (.cst (.bool false))
 (op 0 (.mov (tm 33))
 .nil)))))))))))
 .ret))))
theorem ok_law25_sane : FnOk Try.prog 24 34 (SA.erase sa_law25_sane) [.tmp 0] := ⟨Try.f24, [], Try.func24, rfl, by kernel_rfl, by kernel_rfl, by kernel_rfl⟩
noncomputable def F_law25_sane  : Option Bool :=
 Option.bind (F_prepare_Join (TBallot.mk (2 : Int) (ByteArray.mk #[97])) (TBallot.mk (0 : Int) (ByteArray.mk #[])) (TBallot.mk (3 : Int) (ByteArray.mk #[98]))) fun r1 =>
 Option.bind (F_play_Flat (2 : Int) (1 : Int)) fun r2 =>
 Option.bind (F_prepare_View (0 : Int) (TTrust.mk r2.Threshold r2.Nodes r2.Inner) ([] : List TEnvelope)) fun r3 =>
 Option.bind (bif (eq2 false r1.1.Counter (3 : Int) r1.1.Value (ByteArray.mk #[98])) then
 some (eq2 false r1.2.1.Counter (2 : Int) r1.2.1.Value (ByteArray.mk #[97]))
 else some false) fun b4 =>
 Option.bind (bif b4 then
 some (decide (((List.length r3.Members : Nat) : Int) = (10 : Int)))
 else some false) fun b5 =>
 Option.bind (bif b5 then
 Option.bind (idx r3.Members (0 : Int)) fun x6 =>
 some x6.Declared
 else some false) fun b7 =>
 some b7
noncomputable def k_law25_sane : KFun U := .fn 24 [] (.one Ty.bool) fun a => F_law25_sane 
theorem e_law25_sane : fnK K [k_prepare_Join, k_play_Flat, k_prepare_View] sa_law25_sane [.tmp 0] [] (.one Ty.bool) = fun a => F_law25_sane  := by kernel_rfl
theorem s_law25_sane : KFun.Sound (U := U) Try.prog k_law25_sane := fnK_sound (K := K) (Γ := [k_prepare_Join, k_play_Flat, k_prepare_View]) ok_law25_sane (by kernel_rfl) (by decide) ⟨s_prepare_Join, s_play_Flat, s_prepare_View, trivial⟩ (fun a => congrFun e_law25_sane a)

/-! ### (trustquorum/envelopes.Right).AcceptsPrepare -/
def sa_envelopes_Right_AcceptsPrepare : SA U :=
 (.seq
 (.reg
 (op 2 (.box (tm 0))
 (op 3 (.box (tm 1))
 (op 4 (.mov (.cst (.bool false)))
 .nil))))
 (.seq
 (.block 0
 (.seq
 (.reg
 (op 6 (.load (some 2) (tm 3))
 (op 7 (.call 48 [(tm 6)])
 (op 5 (.mov (tm 7))
 .nil))))
 (.cond (tm 5)
 (.seq
 (.reg
 (op 4 (.mov (.cst (.bool false)))
 .nil))
 .ret)
 (.seq
 (.reg
 (op 9 (.faddr 0 (tm 2))
 (op 10 (.faddr 6 (tm 9))
 (op 11 (.load none (tm 10))
 (op 12 (.bin .eql (tm 11) (ci 1))
 (op 8 (.mov (tm 12))
 .nil))))))
 (.cond (tm 8)
 (.seq
 (.reg
 (op 13 (.faddr 0 (tm 2))
 (op 14 (.faddr 9 (tm 13))
 (op 15 (.load (some 2) (tm 14))
 (op 16 (.faddr 0 (tm 2))
 (op 17 (.faddr 11 (tm 16))
 (op 18 (.load (some 2) (tm 17))
 (op 19 (.load (some 2) (tm 3))
 (op 20 (.call 97 [(tm 15), (tm 18), (tm 19)])
 (op 4 (.mov (tm 20))
 .nil))))))))))
 .ret)
 (.seq
 (.reg
 (op 22 (.faddr 0 (tm 2))
 (op 23 (.faddr 6 (tm 22))
 (op 24 (.load none (tm 23))
 (op 25 (.bin .eql (tm 24) (ci 2))
 (op 21 (.mov (tm 25))
 .nil))))))
 (.cond (tm 21)
 (.seq
 (.reg
 (op 26 (.faddr 0 (tm 2))
 (op 27 (.faddr 9 (tm 26))
 (op 28 (.load (some 2) (tm 27))
 (op 29 (.load (some 2) (tm 3))
 (op 30 (.call 99 [(tm 28), (tm 29)])
 (op 4 (.mov (tm 30))
 .nil)))))))
 .ret)
 .skip)))))))
 (.seq
 (.reg
 (op 31 (.faddr 0 (tm 2))
 (op 32 (.faddr 7 (tm 31))
 (op 33 (.load (some 2) (tm 32))
 (op 34 (.load (some 2) (tm 3))
 (op 35 (.call 50 [(tm 33), (tm 34)])
 (op 4 (.mov (tm 35))
 .nil)))))))
 .ret)))
theorem ok_envelopes_Right_AcceptsPrepare : FnOk Try.prog 58 36 (SA.erase sa_envelopes_Right_AcceptsPrepare) [.tmp 4] := ⟨Try.f58, [], Try.func58, rfl, by kernel_rfl, by kernel_rfl, by kernel_rfl⟩
noncomputable def F_envelopes_Right_AcceptsPrepare (a0 : TRight) (a1 : TBallot) : Option Bool :=
 Option.bind (F_ballots_Zero a1) fun r1 =>
 bif r1 then
 some false
 else
 bif (decide (a0.Envelope.Kind = (1 : Int))) then
 Option.bind (F_ballots_Prepares a0.Envelope.Prepared a0.Envelope.Prime a1) fun r2 =>
 some r2
 else
 bif (decide (a0.Envelope.Kind = (2 : Int))) then
 Option.bind (F_ballots_Covers a0.Envelope.Prepared a1) fun r3 =>
 some r3
 else
 Option.bind (F_ballots_Compatible a0.Envelope.Ballot a1) fun r4 =>
 some r4
noncomputable def k_envelopes_Right_AcceptsPrepare : KFun U := .fn 58 [.ty (Ty.st .Right), .ty (Ty.st .Ballot)] (.one Ty.bool) fun a => F_envelopes_Right_AcceptsPrepare a.1 a.2.1
theorem e_envelopes_Right_AcceptsPrepare : fnK K [k_ballots_Zero, k_ballots_Prepares, k_ballots_Covers, k_ballots_Compatible] sa_envelopes_Right_AcceptsPrepare [.tmp 4] [.ty (Ty.st .Right), .ty (Ty.st .Ballot)] (.one Ty.bool) = fun a => F_envelopes_Right_AcceptsPrepare a.1 a.2.1 := by kernel_rfl
theorem s_envelopes_Right_AcceptsPrepare : KFun.Sound (U := U) Try.prog k_envelopes_Right_AcceptsPrepare := fnK_sound (K := K) (Γ := [k_ballots_Zero, k_ballots_Prepares, k_ballots_Covers, k_ballots_Compatible]) ok_envelopes_Right_AcceptsPrepare (by kernel_rfl) (by decide) ⟨s_ballots_Zero, s_ballots_Prepares, s_ballots_Covers, s_ballots_Compatible, trivial⟩ (fun a => congrFun e_envelopes_Right_AcceptsPrepare a)

/-! ### trustquorum/envelopes.AcceptsPrepare -/
def sa_envelopes_AcceptsPrepare : SA U :=
 (.seq
 (.reg
 (op 2 (.box (tm 0))
 (op 3 (.box (tm 1))
 (op 4 (.mov (.cst (.bool false)))
 .nil))))
 (.seq
 (.reg
 (op 5 (.load (some 15) (tm 2))
 (op 6 (.call 25 [(tm 5)])
 (op 7 (.mov (tm 6))
 (.ite 7 true
 (opg 8 7 true (.load (some 15) (tm 2))
 (opg 9 7 true (.build [.int .i64 0, .int .i64 0, .int .i64 0, .int .i64 0, .nils, .nils, .int .i64 0, .int .i64 0, .str ⟨#[]⟩, .int .i64 0, .str ⟨#[]⟩, .int .i64 0, .str ⟨#[]⟩, .int .i64 0, .int .i64 0] [(0, 15, (tm 8))])
 (opg 10 7 true (.load (some 2) (tm 3))
 (opg 11 7 true (.call 58 [(tm 9), (tm 10)])
 .nil))))
 12 none (tm 11) (.cst (.bool false))
 (op 4 (.mov (tm 12))
 .nil))))))
 .ret))
theorem ok_envelopes_AcceptsPrepare : FnOk Try.prog 28 13 (SA.erase sa_envelopes_AcceptsPrepare) [.tmp 4] := ⟨Try.f28, [], Try.func28, rfl, by kernel_rfl, by kernel_rfl, by kernel_rfl⟩
noncomputable def F_envelopes_AcceptsPrepare (a0 : TEnvelope) (a1 : TBallot) : Option Bool :=
 Option.bind (F_envelopes_Valid (TEnvelope.mk a0.Node a0.Slot a0.Seq (TTrust.mk a0.Trust.Threshold a0.Trust.Nodes a0.Trust.Inner) a0.Kind a0.Ballot a0.Prepared a0.Prime a0.Low a0.High)) fun r1 =>
 Option.bind (bif r1 then
 Option.bind (F_envelopes_Right_AcceptsPrepare (TRight.mk (TEnvelope.mk a0.Node a0.Slot a0.Seq (TTrust.mk a0.Trust.Threshold a0.Trust.Nodes a0.Trust.Inner) a0.Kind a0.Ballot a0.Prepared a0.Prime a0.Low a0.High)) a1) fun r2 =>
 some r2
 else some false) fun b3 =>
 some b3
noncomputable def k_envelopes_AcceptsPrepare : KFun U := .fn 28 [.ty (Ty.st .Envelope), .ty (Ty.st .Ballot)] (.one Ty.bool) fun a => F_envelopes_AcceptsPrepare a.1 a.2.1
theorem e_envelopes_AcceptsPrepare : fnK K [k_envelopes_Valid, k_envelopes_Right_AcceptsPrepare] sa_envelopes_AcceptsPrepare [.tmp 4] [.ty (Ty.st .Envelope), .ty (Ty.st .Ballot)] (.one Ty.bool) = fun a => F_envelopes_AcceptsPrepare a.1 a.2.1 := by kernel_rfl
theorem s_envelopes_AcceptsPrepare : KFun.Sound (U := U) Try.prog k_envelopes_AcceptsPrepare := fnK_sound (K := K) (Γ := [k_envelopes_Valid, k_envelopes_Right_AcceptsPrepare]) ok_envelopes_AcceptsPrepare (by kernel_rfl) (by decide) ⟨s_envelopes_Valid, s_envelopes_Right_AcceptsPrepare, trivial⟩ (fun a => congrFun e_envelopes_AcceptsPrepare a)

/-! ### (trustquorum/envelopes.Right).VotesPrepare -/
def sa_envelopes_Right_VotesPrepare : SA U :=
 (.seq
 (.reg
 (op 2 (.box (tm 0))
 (op 3 (.box (tm 1))
 (op 4 (.mov (.cst (.bool false)))
 .nil))))
 (.seq
 (.block 0
 (.seq
 (.reg
 (op 6 (.load (some 2) (tm 3))
 (op 7 (.call 48 [(tm 6)])
 (op 5 (.mov (tm 7))
 .nil))))
 (.cond (tm 5)
 (.seq
 (.reg
 (op 4 (.mov (.cst (.bool false)))
 .nil))
 .ret)
 (.seq
 (.reg
 (op 9 (.faddr 0 (tm 2))
 (op 10 (.faddr 6 (tm 9))
 (op 11 (.load none (tm 10))
 (op 12 (.bin .eql (tm 11) (ci 1))
 (op 8 (.mov (tm 12))
 .nil))))))
 (.cond (tm 8)
 (.seq
 (.reg
 (op 13 (.faddr 0 (tm 2))
 (op 14 (.faddr 7 (tm 13))
 (op 15 (.load (some 2) (tm 14))
 (op 16 (.load (some 2) (tm 3))
 (op 17 (.call 99 [(tm 15), (tm 16)])
 (op 4 (.mov (tm 17))
 .nil)))))))
 .ret)
 .skip)))))
 (.seq
 (.reg
 (op 18 (.faddr 0 (tm 2))
 (op 19 (.faddr 7 (tm 18))
 (op 20 (.load (some 2) (tm 19))
 (op 21 (.load (some 2) (tm 3))
 (op 22 (.call 50 [(tm 20), (tm 21)])
 (op 4 (.mov (tm 22))
 .nil)))))))
 .ret)))
theorem ok_envelopes_Right_VotesPrepare : FnOk Try.prog 59 23 (SA.erase sa_envelopes_Right_VotesPrepare) [.tmp 4] := ⟨Try.f59, [], Try.func59, rfl, by kernel_rfl, by kernel_rfl, by kernel_rfl⟩
noncomputable def F_envelopes_Right_VotesPrepare (a0 : TRight) (a1 : TBallot) : Option Bool :=
 Option.bind (F_ballots_Zero a1) fun r1 =>
 bif r1 then
 some false
 else
 bif (decide (a0.Envelope.Kind = (1 : Int))) then
 Option.bind (F_ballots_Covers a0.Envelope.Ballot a1) fun r2 =>
 some r2
 else
 Option.bind (F_ballots_Compatible a0.Envelope.Ballot a1) fun r3 =>
 some r3
noncomputable def k_envelopes_Right_VotesPrepare : KFun U := .fn 59 [.ty (Ty.st .Right), .ty (Ty.st .Ballot)] (.one Ty.bool) fun a => F_envelopes_Right_VotesPrepare a.1 a.2.1
theorem e_envelopes_Right_VotesPrepare : fnK K [k_ballots_Zero, k_ballots_Covers, k_ballots_Compatible] sa_envelopes_Right_VotesPrepare [.tmp 4] [.ty (Ty.st .Right), .ty (Ty.st .Ballot)] (.one Ty.bool) = fun a => F_envelopes_Right_VotesPrepare a.1 a.2.1 := by kernel_rfl
theorem s_envelopes_Right_VotesPrepare : KFun.Sound (U := U) Try.prog k_envelopes_Right_VotesPrepare := fnK_sound (K := K) (Γ := [k_ballots_Zero, k_ballots_Covers, k_ballots_Compatible]) ok_envelopes_Right_VotesPrepare (by kernel_rfl) (by decide) ⟨s_ballots_Zero, s_ballots_Covers, s_ballots_Compatible, trivial⟩ (fun a => congrFun e_envelopes_Right_VotesPrepare a)

/-! ### trustquorum/envelopes.VotesPrepare -/
def sa_envelopes_VotesPrepare : SA U :=
 (.seq
 (.reg
 (op 2 (.box (tm 0))
 (op 3 (.box (tm 1))
 (op 4 (.mov (.cst (.bool false)))
 .nil))))
 (.seq
 (.reg
 (op 5 (.load (some 15) (tm 2))
 (op 6 (.call 25 [(tm 5)])
 (op 7 (.mov (tm 6))
 (.ite 7 true
 (opg 8 7 true (.load (some 15) (tm 2))
 (opg 9 7 true (.build [.int .i64 0, .int .i64 0, .int .i64 0, .int .i64 0, .nils, .nils, .int .i64 0, .int .i64 0, .str ⟨#[]⟩, .int .i64 0, .str ⟨#[]⟩, .int .i64 0, .str ⟨#[]⟩, .int .i64 0, .int .i64 0] [(0, 15, (tm 8))])
 (opg 10 7 true (.load (some 2) (tm 3))
 (opg 11 7 true (.call 59 [(tm 9), (tm 10)])
 .nil))))
 12 none (tm 11) (.cst (.bool false))
 (op 4 (.mov (tm 12))
 .nil))))))
 .ret))
theorem ok_envelopes_VotesPrepare : FnOk Try.prog 30 13 (SA.erase sa_envelopes_VotesPrepare) [.tmp 4] := ⟨Try.f30, [], Try.func30, rfl, by kernel_rfl, by kernel_rfl, by kernel_rfl⟩
noncomputable def F_envelopes_VotesPrepare (a0 : TEnvelope) (a1 : TBallot) : Option Bool :=
 Option.bind (F_envelopes_Valid (TEnvelope.mk a0.Node a0.Slot a0.Seq (TTrust.mk a0.Trust.Threshold a0.Trust.Nodes a0.Trust.Inner) a0.Kind a0.Ballot a0.Prepared a0.Prime a0.Low a0.High)) fun r1 =>
 Option.bind (bif r1 then
 Option.bind (F_envelopes_Right_VotesPrepare (TRight.mk (TEnvelope.mk a0.Node a0.Slot a0.Seq (TTrust.mk a0.Trust.Threshold a0.Trust.Nodes a0.Trust.Inner) a0.Kind a0.Ballot a0.Prepared a0.Prime a0.Low a0.High)) a1) fun r2 =>
 some r2
 else some false) fun b3 =>
 some b3
noncomputable def k_envelopes_VotesPrepare : KFun U := .fn 30 [.ty (Ty.st .Envelope), .ty (Ty.st .Ballot)] (.one Ty.bool) fun a => F_envelopes_VotesPrepare a.1 a.2.1
theorem e_envelopes_VotesPrepare : fnK K [k_envelopes_Valid, k_envelopes_Right_VotesPrepare] sa_envelopes_VotesPrepare [.tmp 4] [.ty (Ty.st .Envelope), .ty (Ty.st .Ballot)] (.one Ty.bool) = fun a => F_envelopes_VotesPrepare a.1 a.2.1 := by kernel_rfl
theorem s_envelopes_VotesPrepare : KFun.Sound (U := U) Try.prog k_envelopes_VotesPrepare := fnK_sound (K := K) (Γ := [k_envelopes_Valid, k_envelopes_Right_VotesPrepare]) ok_envelopes_VotesPrepare (by kernel_rfl) (by decide) ⟨s_envelopes_Valid, s_envelopes_Right_VotesPrepare, trivial⟩ (fun a => congrFun e_envelopes_VotesPrepare a)

/-! ### trustquorum/trustquorumlaw24.EnvelopesImply -/
def sa_law24_EnvelopesImply : SA U :=
 (.seq
 (.reg
 (op 2 (.mov (.cst (.bool false)))
 .nil))
 (.seq
 (.reg
 (op 13 (.mov (tm 0))
 (op 14 (.call 11 [(tm 13)])
 (op 3 (.mov (tm 14))
 .nil))))
 (.seq
 (.reg
 (op 15 (.mov (tm 3))
 (op 16 (.mov (tm 3))
 (op 17 (.call 13 [(tm 16), (ci 5)])
 (op 18 (.call 12 [(tm 15), (tm 17), (ci 1), (ci 5)])
 (op 4 (.alloc [.int .i64 0, .int .i64 0, .int .i64 0, .int .i64 0, .nils, .nils, .int .i64 0, .int .i64 0, .str ⟨#[]⟩, .int .i64 0, .str ⟨#[]⟩, .int .i64 0, .str ⟨#[]⟩, .int .i64 0, .int .i64 0])
 (ops (.store 15 (tm 4) (tm 18))
 .nil)))))))
 (.seq
 (.seq
 (.reg
 (op 19 (.load (some 15) (tm 4))
 (op 20 (.call 25 [(tm 19)])
 (op 21 (.not (tm 20))
 .nil))))
 (.cond (tm 21)
 (.seq
 (.reg
 (op 2 (.mov (.cst (.bool false)))
 .nil))
 .ret)
 .skip))
 (.seq
 (.reg
 (op 22 (.mov (tm 3))
 (op 23 (.call 26 [(tm 22), (ci 1), (ci 6)])
 (op 5 (.mov (tm 23))
 .nil))))
 (.seq
 (.reg
 (op 24 (.mov (tm 5))
 (op 25 (.mov (tm 3))
 (op 26 (.call 13 [(tm 25), (ci 4)])
 (op 27 (.bin .add (tm 24) (tm 26))
 (op 6 (.mov (tm 27))
 .nil))))))
 (.seq
 (.reg
 (op 28 (.mov (tm 3))
 (op 29 (.mov (tm 5))
 (op 30 (.mov (tm 6))
 (op 31 (.call 26 [(tm 28), (tm 29), (tm 30)])
 (op 32 (.mov (tm 6))
 (op 7 (.mov (tm 31))
 (op 8 (.mov (tm 32))
 .nil))))))))
 (.seq
 (.reg
 (op 33 (.mov (tm 3))
 (op 34 (.call 14 [(tm 33)])
 (op 35 (.mov (tm 3))
 (op 36 (.call 14 [(tm 35)])
 (op 9 (.mov (tm 34))
 (op 10 (.mov (tm 36))
 .nil)))))))
 (.seq
 (.reg
 (op 37 (.mov (tm 3))
 (op 38 (.call 18 [(tm 37)])
 (op 39 (.mov (tm 3))
 (op 40 (.call 18 [(tm 39)])
 (op 11 (.alloc [.int .i64 0, .str ⟨#[]⟩])
 (op 12 (.alloc [.int .i64 0, .str ⟨#[]⟩])
 (ops (.store 2 (tm 11) (tm 38))
 (ops (.store 2 (tm 12) (tm 40))
 .nil)))))))))
 (.seq
 (.seq
 (.reg
 (op 41 (.load (some 15) (tm 4))
 (op 42 (.mov (tm 9))
 (op 43 (.mov (tm 5))
 (op 44 (.mov (tm 6))
 (op 45 (.call 27 [(tm 41), (tm 42), (tm 43), (tm 44)])
 (op 46 (.mov (tm 45))
 (.ite 46 true
 (opg 47 46 true (.load (some 15) (tm 4))
 (opg 48 46 true (.mov (tm 9))
 (opg 49 46 true (.mov (tm 5))
 (opg 50 46 true (.mov (tm 6))
 (opg 51 46 true (.call 15 [(tm 47), (tm 48), (tm 49), (tm 50)])
 (opg 52 46 true (.not (tm 51))
 .nil))))))
 53 none (tm 52) (.cst (.bool false))
 (op 54 (.mov (tm 53))
 (.ite 54 false
 (opg 55 54 false (.load (some 15) (tm 4))
 (opg 56 54 false (.mov (tm 9))
 (opg 57 54 false (.mov (tm 5))
 (opg 58 54 false (.mov (tm 6))
 (opg 59 54 false (.call 15 [(tm 55), (tm 56), (tm 57), (tm 58)])
 (opg 60 54 false (.mov (tm 59))
 (.ite 60 true
 (opg 61 60 true (.load (some 15) (tm 4))
 (opg 62 60 true (.mov (tm 9))
 (opg 63 60 true (.mov (tm 7))
 (opg 64 60 true (.mov (tm 8))
 (opg 65 60 true (.call 15 [(tm 61), (tm 62), (tm 63), (tm 64)])
 (opg 66 60 true (.not (tm 65))
 .nil))))))
 67 (some (54, false)) (tm 66) (.cst (.bool false))
 .nil)))))))
 68 none (.cst (.bool true)) (tm 67)
 (op 69 (.mov (tm 68))
 (.ite 69 false
 (opg 70 69 false (.load (some 15) (tm 4))
 (opg 71 69 false (.mov (tm 9))
 (opg 72 69 false (.mov (tm 5))
 (opg 73 69 false (.mov (tm 6))
 (opg 74 69 false (.call 27 [(tm 70), (tm 71), (tm 72), (tm 73)])
 (opg 75 69 false (.mov (tm 74))
 (.ite 75 true
 (opg 76 75 true (.load (some 15) (tm 4))
 (opg 77 75 true (.mov (tm 9))
 (opg 78 75 true (.mov (tm 7))
 (opg 79 75 true (.mov (tm 8))
 (opg 80 75 true (.call 27 [(tm 76), (tm 77), (tm 78), (tm 79)])
 (opg 81 75 true (.not (tm 80))
 .nil))))))
 82 (some (69, false)) (tm 81) (.cst (.bool false))
 .nil)))))))
 83 none (.cst (.bool true)) (tm 82)
 .nil))))))))))))
 (.cond (tm 83)
 (.seq
 (.reg
 (op 2 (.mov (.cst (.bool false)))
 .nil))
 .ret)
 .skip))
 (.seq
 (.seq
 (.reg
 (op 84 (.mov (tm 9))
 (op 85 (.mov (tm 10))
 (op 86 (.bin .neq (tm 84) (tm 85))
 (op 87 (.mov (tm 86))
 (.ite 87 true
 (opg 88 87 true (.load (some 15) (tm 4))
 (opg 89 87 true (.mov (tm 9))
 (opg 90 87 true (.mov (tm 5))
 (opg 91 87 true (.mov (tm 6))
 (opg 92 87 true (.call 15 [(tm 88), (tm 89), (tm 90), (tm 91)])
 .nil)))))
 93 none (tm 92) (.cst (.bool false))
 (op 94 (.mov (tm 93))
 (.ite 94 true
 (opg 95 94 true (.load (some 15) (tm 4))
 (opg 96 94 true (.mov (tm 10))
 (opg 97 94 true (.mov (tm 5))
 (opg 98 94 true (.mov (tm 6))
 (opg 99 94 true (.call 15 [(tm 95), (tm 96), (tm 97), (tm 98)])
 .nil)))))
 100 none (tm 99) (.cst (.bool false))
 .nil))))))))
 (.cond (tm 100)
 (.seq
 (.reg
 (op 2 (.mov (.cst (.bool false)))
 .nil))
 .ret)
 .skip))
 (.seq
 (.reg
 (op 101 (.load (some 15) (tm 4))
 (op 102 (.load (some 2) (tm 11))
 (op 103 (.call 28 [(tm 101), (tm 102)])
 (op 104 (.not (tm 103))
 (op 105 (.mov (tm 104))
 (.ite 105 false
 (opg 106 105 false (.load (some 2) (tm 11))
 (opg 107 105 false (.load (some 2) (tm 12))
 (opg 108 105 false (.call 29 [(tm 106), (tm 107)])
 (opg 109 105 false (.not (tm 108))
 .nil))))
 110 none (.cst (.bool true)) (tm 109)
 (op 111 (.mov (tm 110))
 (.ite 111 false
 (opg 112 111 false (.load (some 15) (tm 4))
 (opg 113 111 false (.load (some 2) (tm 12))
 (opg 114 111 false (.call 28 [(tm 112), (tm 113)])
 .nil)))
 115 none (.cst (.bool true)) (tm 114)
 (op 116 (.mov (tm 115))
 (.ite 116 true
 (opg 117 116 true (.load (some 15) (tm 4))
 (opg 118 116 true (.load (some 2) (tm 11))
 (opg 119 116 true (.call 30 [(tm 117), (tm 118)])
 (opg 120 116 true (.not (tm 119))
 (opg 121 116 true (.mov (tm 120))
 (.ite 121 false
 (opg 122 121 false (.load (some 2) (tm 11))
 (opg 123 121 false (.load (some 2) (tm 12))
 (opg 124 121 false (.call 29 [(tm 122), (tm 123)])
 (opg 125 121 false (.not (tm 124))
 .nil))))
 126 (some (116, true)) (.cst (.bool true)) (tm 125)
 (opg 127 116 true (.mov (tm 126))
 (.ite 127 false
 (opg 128 127 false (.load (some 15) (tm 4))
 (opg 129 127 false (.load (some 2) (tm 12))
 (opg 130 127 false (.call 30 [(tm 128), (tm 129)])
 .nil)))
 131 (some (116, true)) (.cst (.bool true)) (tm 130)
 .nil))))))))
 132 none (tm 131) (.cst (.bool false))
 (op 133 (.mov (tm 132))
 (.ite 133 true
 (opg 134 133 true (.call 16 [])
 .nil)
 135 none (tm 134) (.cst (.bool false))
 (op 2 (.mov (tm 135))
 .nil))))))))))))))
 .ret))))))))))))
theorem ok_law24_EnvelopesImply : FnOk Try.prog 5 136 (SA.erase sa_law24_EnvelopesImply) [.tmp 2] := ⟨Try.f5, [], Try.func5, rfl, by kernel_rfl, by kernel_rfl, by kernel_rfl⟩
noncomputable def F_law24_EnvelopesImply (a0 : (List Int)) : Option Bool :=
 Option.bind (F_play_New a0) fun r1 =>
 Option.bind (F_play_Src_N r1 (5 : Int)) fun p2 =>
 Option.bind (F_play_Src_Envelope p2.2 p2.1 (1 : Int) (5 : Int)) fun p3 =>
 Option.bind (F_envelopes_Valid (TEnvelope.mk p3.1.Node p3.1.Slot p3.1.Seq (TTrust.mk p3.1.Trust.Threshold p3.1.Trust.Nodes p3.1.Trust.Inner) p3.1.Kind p3.1.Ballot p3.1.Prepared p3.1.Prime p3.1.Low p3.1.High)) fun r4 =>
 bif (!r4) then
 some false
 else
 Option.bind (F_play_Src_Range p3.2 (1 : Int) (6 : Int)) fun p5 =>
 Option.bind (F_play_Src_N p5.2 (4 : Int)) fun p6 =>
 Option.bind (F_play_Src_Range p6.2 p5.1 (addI .i64 p5.1 p6.1)) fun p7 =>
 Option.bind (F_play_Src_Value p7.2) fun p8 =>
 Option.bind (F_play_Src_Value p8.2) fun p9 =>
 Option.bind (F_play_Src_Low p9.2) fun p10 =>
 Option.bind (F_play_Src_Low p10.2) fun p11 =>
 Option.bind (F_envelopes_AcceptsCommit (TEnvelope.mk p3.1.Node p3.1.Slot p3.1.Seq (TTrust.mk p3.1.Trust.Threshold p3.1.Trust.Nodes p3.1.Trust.Inner) p3.1.Kind p3.1.Ballot p3.1.Prepared p3.1.Prime p3.1.Low p3.1.High) p8.1 p5.1 (addI .i64 p5.1 p6.1)) fun r12 =>
 Option.bind (bif r12 then
 Option.bind (F_envelopes_VotesCommit (TEnvelope.mk p3.1.Node p3.1.Slot p3.1.Seq (TTrust.mk p3.1.Trust.Threshold p3.1.Trust.Nodes p3.1.Trust.Inner) p3.1.Kind p3.1.Ballot p3.1.Prepared p3.1.Prime p3.1.Low p3.1.High) p8.1 p5.1 (addI .i64 p5.1 p6.1)) fun r13 =>
 some (!r13)
 else some false) fun b14 =>
 Option.bind (bif b14 then some true
 else
 Option.bind (F_envelopes_VotesCommit (TEnvelope.mk p3.1.Node p3.1.Slot p3.1.Seq (TTrust.mk p3.1.Trust.Threshold p3.1.Trust.Nodes p3.1.Trust.Inner) p3.1.Kind p3.1.Ballot p3.1.Prepared p3.1.Prime p3.1.Low p3.1.High) p8.1 p5.1 (addI .i64 p5.1 p6.1)) fun r15 =>
 Option.bind (bif r15 then
 Option.bind (F_envelopes_VotesCommit (TEnvelope.mk p3.1.Node p3.1.Slot p3.1.Seq (TTrust.mk p3.1.Trust.Threshold p3.1.Trust.Nodes p3.1.Trust.Inner) p3.1.Kind p3.1.Ballot p3.1.Prepared p3.1.Prime p3.1.Low p3.1.High) p8.1 p7.1 (addI .i64 p5.1 p6.1)) fun r16 =>
 some (!r16)
 else some false) fun b17 =>
 some b17) fun b18 =>
 Option.bind (bif b18 then some true
 else
 Option.bind (F_envelopes_AcceptsCommit (TEnvelope.mk p3.1.Node p3.1.Slot p3.1.Seq (TTrust.mk p3.1.Trust.Threshold p3.1.Trust.Nodes p3.1.Trust.Inner) p3.1.Kind p3.1.Ballot p3.1.Prepared p3.1.Prime p3.1.Low p3.1.High) p8.1 p5.1 (addI .i64 p5.1 p6.1)) fun r19 =>
 Option.bind (bif r19 then
 Option.bind (F_envelopes_AcceptsCommit (TEnvelope.mk p3.1.Node p3.1.Slot p3.1.Seq (TTrust.mk p3.1.Trust.Threshold p3.1.Trust.Nodes p3.1.Trust.Inner) p3.1.Kind p3.1.Ballot p3.1.Prepared p3.1.Prime p3.1.Low p3.1.High) p8.1 p7.1 (addI .i64 p5.1 p6.1)) fun r20 =>
 some (!r20)
 else some false) fun b21 =>
 some b21) fun b22 =>
 bif b22 then
 some false
 else
 Option.bind (bif (!decide (p8.1 = p9.1)) then
 Option.bind (F_envelopes_VotesCommit (TEnvelope.mk p3.1.Node p3.1.Slot p3.1.Seq (TTrust.mk p3.1.Trust.Threshold p3.1.Trust.Nodes p3.1.Trust.Inner) p3.1.Kind p3.1.Ballot p3.1.Prepared p3.1.Prime p3.1.Low p3.1.High) p8.1 p5.1 (addI .i64 p5.1 p6.1)) fun r23 =>
 some r23
 else some false) fun b24 =>
 Option.bind (bif b24 then
 Option.bind (F_envelopes_VotesCommit (TEnvelope.mk p3.1.Node p3.1.Slot p3.1.Seq (TTrust.mk p3.1.Trust.Threshold p3.1.Trust.Nodes p3.1.Trust.Inner) p3.1.Kind p3.1.Ballot p3.1.Prepared p3.1.Prime p3.1.Low p3.1.High) p9.1 p5.1 (addI .i64 p5.1 p6.1)) fun r25 =>
 some r25
 else some false) fun b26 =>
 bif b26 then
 some false
 else
 Option.bind (F_envelopes_AcceptsPrepare (TEnvelope.mk p3.1.Node p3.1.Slot p3.1.Seq (TTrust.mk p3.1.Trust.Threshold p3.1.Trust.Nodes p3.1.Trust.Inner) p3.1.Kind p3.1.Ballot p3.1.Prepared p3.1.Prime p3.1.Low p3.1.High) p10.1) fun r27 =>
 Option.bind (bif (!r27) then some true
 else
 Option.bind (F_ref23_Covers p10.1 p11.1) fun r28 =>
 some (!r28)) fun b29 =>
 Option.bind (bif b29 then some true
 else
 Option.bind (F_envelopes_AcceptsPrepare (TEnvelope.mk p3.1.Node p3.1.Slot p3.1.Seq (TTrust.mk p3.1.Trust.Threshold p3.1.Trust.Nodes p3.1.Trust.Inner) p3.1.Kind p3.1.Ballot p3.1.Prepared p3.1.Prime p3.1.Low p3.1.High) p11.1) fun r30 =>
 some r30) fun b31 =>
 Option.bind (bif b31 then
 Option.bind (F_envelopes_VotesPrepare (TEnvelope.mk p3.1.Node p3.1.Slot p3.1.Seq (TTrust.mk p3.1.Trust.Threshold p3.1.Trust.Nodes p3.1.Trust.Inner) p3.1.Kind p3.1.Ballot p3.1.Prepared p3.1.Prime p3.1.Low p3.1.High) p10.1) fun r32 =>
 Option.bind (bif (!r32) then some true
 else
 Option.bind (F_ref23_Covers p10.1 p11.1) fun r33 =>
 some (!r33)) fun b34 =>
 Option.bind (bif b34 then some true
 else
 Option.bind (F_envelopes_VotesPrepare (TEnvelope.mk p3.1.Node p3.1.Slot p3.1.Seq (TTrust.mk p3.1.Trust.Threshold p3.1.Trust.Nodes p3.1.Trust.Inner) p3.1.Kind p3.1.Ballot p3.1.Prepared p3.1.Prime p3.1.Low p3.1.High) p11.1) fun r35 =>
 some r35) fun b36 =>
 some b36
 else some false) fun b37 =>
 Option.bind (bif b37 then
 Option.bind (F_law24_sane) fun r38 =>
 some r38
 else some false) fun b39 =>
 some b39
noncomputable def k_law24_EnvelopesImply : KFun U := .fn 5 [.ty (Ty.sl (Ty.i .i64))] (.one Ty.bool) fun a => F_law24_EnvelopesImply a.1
theorem e_law24_EnvelopesImply : fnK K [k_play_New, k_play_Src_N, k_play_Src_Envelope, k_envelopes_Valid, k_play_Src_Range, k_play_Src_Value, k_play_Src_Low, k_envelopes_AcceptsCommit, k_envelopes_VotesCommit, k_envelopes_AcceptsPrepare, k_ref23_Covers, k_envelopes_VotesPrepare, k_law24_sane] sa_law24_EnvelopesImply [.tmp 2] [.ty (Ty.sl (Ty.i .i64))] (.one Ty.bool) = fun a => F_law24_EnvelopesImply a.1 := by kernel_rfl
theorem s_law24_EnvelopesImply : KFun.Sound (U := U) Try.prog k_law24_EnvelopesImply := fnK_sound (K := K) (Γ := [k_play_New, k_play_Src_N, k_play_Src_Envelope, k_envelopes_Valid, k_play_Src_Range, k_play_Src_Value, k_play_Src_Low, k_envelopes_AcceptsCommit, k_envelopes_VotesCommit, k_envelopes_AcceptsPrepare, k_ref23_Covers, k_envelopes_VotesPrepare, k_law24_sane]) ok_law24_EnvelopesImply (by kernel_rfl) (by decide) ⟨s_play_New, s_play_Src_N, s_play_Src_Envelope, s_envelopes_Valid, s_play_Src_Range, s_play_Src_Value, s_play_Src_Low, s_envelopes_AcceptsCommit, s_envelopes_VotesCommit, s_envelopes_AcceptsPrepare, s_ref23_Covers, s_envelopes_VotesPrepare, s_law24_sane, trivial⟩ (fun a => congrFun e_law24_EnvelopesImply a)

/-! ### trustquorum/trustquorumlaw24.EnvelopesForever -/
def sa_law24_EnvelopesForever : SA U :=
 (.seq
 (.reg
 (op 6 (.mov (.cst (.bool false)))
 .nil))
 (.seq
 (.reg
 (op 14 (.mov (tm 0))
 (op 15 (.call 11 [(tm 14)])
 (op 7 (.mov (tm 15))
 .nil))))
 (.seq
 (.reg
 (op 16 (.mov (tm 7))
 (op 17 (.call 14 [(tm 16)])
 (op 8 (.mov (tm 17))
 .nil))))
 (.seq
 (.reg
 (op 18 (.mov (tm 7))
 (op 19 (.call 26 [(tm 18), (ci 1), (ci 5)])
 (op 9 (.mov (tm 19))
 .nil))))
 (.seq
 (.reg
 (op 20 (.mov (tm 7))
 (op 21 (.call 13 [(tm 20), (ci 5)])
 (op 22 (.mov (tm 7))
 (op 23 (.call 31 [(tm 22), (ci 5)])
 (op 24 (.mov (tm 9))
 (op 25 (.mov (tm 8))
 (op 26 (.build [.int .i64 0, .str ⟨#[]⟩] [(0, 1, (tm 24)), (1, 1, (tm 25))])
 (op 27 (.mov (tm 9))
 (op 28 (.mov (tm 9))
 (op 29 (.mov (tm 7))
 (op 30 (.call 13 [(tm 29), (ci 3)])
 (op 31 (.bin .add (tm 28) (tm 30))
 (op 32 (.build [.int .i64 0, .int .i64 0, .int .i64 0, .int .i64 0, .nils, .nils, .int .i64 0, .int .i64 0, .str ⟨#[]⟩, .int .i64 0, .str ⟨#[]⟩, .int .i64 0, .str ⟨#[]⟩, .int .i64 0, .int .i64 0] [(0, 1, (tm 21)), (1, 1, (ci 1)), (2, 1, (ci 1)), (3, 3, (tm 23)), (6, 1, (ci 3)), (7, 2, (tm 26)), (13, 1, (tm 27)), (14, 1, (tm 31))])
 (op 10 (.alloc [.int .i64 0, .int .i64 0, .int .i64 0, .int .i64 0, .nils, .nils, .int .i64 0, .int .i64 0, .str ⟨#[]⟩, .int .i64 0, .str ⟨#[]⟩, .int .i64 0, .str ⟨#[]⟩, .int .i64 0, .int .i64 0])
 (ops (.store 15 (tm 10) (tm 32))
 .nil))))))))))))))))
 (.seq
 (.reg
 (op 33 (.mov (tm 9))
 (op 34 (.mov (tm 1))
 (op 35 (.conv .i64 (tm 34))
 (op 36 (.bin .add (tm 33) (tm 35))
 (op 11 (.mov (tm 36))
 .nil))))))
 (.seq
 (.reg
 (op 37 (.mov (tm 11))
 (op 38 (.mov (tm 2))
 (op 39 (.conv .i64 (tm 38))
 (op 40 (.bin .add (tm 37) (tm 39))
 (op 12 (.mov (tm 40))
 .nil))))))
 (.seq
 (.reg
 (op 41 (.mov (tm 7))
 (op 42 (.call 14 [(tm 41)])
 (op 13 (.mov (tm 42))
 .nil))))
 (.seq
 (.reg
 (op 43 (.load (some 15) (tm 10))
 (op 44 (.call 25 [(tm 43)])
 (op 45 (.mov (tm 44))
 (.ite 45 true
 (opg 46 45 true (.load (some 15) (tm 10))
 (opg 47 45 true (.mov (tm 8))
 (opg 48 45 true (.mov (tm 11))
 (opg 49 45 true (.mov (tm 12))
 (opg 50 45 true (.call 27 [(tm 46), (tm 47), (tm 48), (tm 49)])
 .nil)))))
 51 none (tm 50) (.cst (.bool false))
 (op 52 (.mov (tm 51))
 (.ite 52 true
 (opg 53 52 true (.load (some 15) (tm 10))
 (opg 54 52 true (.mov (tm 12))
 (opg 55 52 true (.mov (tm 8))
 (opg 56 52 true (.build [.int .i64 0, .str ⟨#[]⟩] [(0, 1, (tm 54)), (1, 1, (tm 55))])
 (opg 57 52 true (.call 28 [(tm 53), (tm 56)])
 .nil)))))
 58 none (tm 57) (.cst (.bool false))
 (op 59 (.mov (tm 58))
 (.ite 59 true
 (opg 60 59 true (.mov (tm 13))
 (opg 61 59 true (.mov (tm 8))
 (opg 62 59 true (.bin .eql (tm 60) (tm 61))
 (opg 63 59 true (.mov (tm 62))
 (.ite 63 false
 (opg 64 63 false (.load (some 15) (tm 10))
 (opg 65 63 false (.mov (tm 13))
 (opg 66 63 false (.mov (tm 11))
 (opg 67 63 false (.mov (tm 12))
 (opg 68 63 false (.call 15 [(tm 64), (tm 65), (tm 66), (tm 67)])
 (opg 69 63 false (.not (tm 68))
 (opg 70 63 false (.mov (tm 69))
 (.ite 70 true
 (opg 71 70 true (.load (some 15) (tm 10))
 (opg 72 70 true (.mov (tm 11))
 (opg 73 70 true (.mov (tm 13))
 (opg 74 70 true (.build [.int .i64 0, .str ⟨#[]⟩] [(0, 1, (tm 72)), (1, 1, (tm 73))])
 (opg 75 70 true (.call 30 [(tm 71), (tm 74)])
 (opg 76 70 true (.not (tm 75))
 .nil))))))
 77 (some (63, false)) (tm 76) (.cst (.bool false))
 .nil))))))))
 78 (some (59, true)) (.cst (.bool true)) (tm 77)
 .nil)))))
 79 none (tm 78) (.cst (.bool false))
 (op 80 (.mov (tm 79))
 (.ite 80 true
 (opg 81 80 true (.mov (tm 9))
 (opg 82 80 true (.bin .eql (tm 81) (ci 1))
 (opg 83 80 true (.mov (tm 82))
 (.ite 83 false
 (opg 84 83 false (.load (some 15) (tm 10))
 (opg 85 83 false (.mov (tm 8))
 (opg 86 83 false (.mov (tm 9))
 (opg 87 83 false (.bin .sub (tm 86) (ci 1))
 (opg 88 83 false (.mov (tm 12))
 (opg 89 83 false (.call 27 [(tm 84), (tm 85), (tm 87), (tm 88)])
 (opg 90 83 false (.not (tm 89))
 .nil)))))))
 91 (some (80, true)) (.cst (.bool true)) (tm 90)
 .nil))))
 92 none (tm 91) (.cst (.bool false))
 (op 93 (.mov (tm 92))
 (.ite 93 true
 (opg 94 93 true (.load (some 15) (tm 10))
 (opg 95 93 true (.call 32 [(tm 94)])
 (opg 96 93 true (.bin .eql (tm 95) (ci 1000000))
 .nil)))
 97 none (tm 96) (.cst (.bool false))
 (op 98 (.mov (tm 97))
 (.ite 98 true
 (opg 99 98 true (.call 16 [])
 .nil)
 100 none (tm 99) (.cst (.bool false))
 (op 6 (.mov (tm 100))
 .nil))))))))))))))))
 .ret)))))))))
theorem ok_law24_EnvelopesForever : FnOk Try.prog 6 101 (SA.erase sa_law24_EnvelopesForever) [.tmp 6] := ⟨Try.f6, [], Try.func6, rfl, by kernel_rfl, by kernel_rfl, by kernel_rfl⟩
noncomputable def F_law24_EnvelopesForever (a0 : (List Int)) (a1 : Int) (a2 : Int) : Option Bool :=
 Option.bind (F_play_New a0) fun r1 =>
 Option.bind (F_play_Src_Value r1) fun p2 =>
 Option.bind (F_play_Src_Range p2.2 (1 : Int) (5 : Int)) fun p3 =>
 Option.bind (F_play_Src_N p3.2 (5 : Int)) fun p4 =>
 Option.bind (F_play_Src_Trust p4.2 (5 : Int)) fun p5 =>
 Option.bind (F_play_Src_N p5.2 (3 : Int)) fun p6 =>
 Option.bind (F_play_Src_Value p6.2) fun p7 =>
 Option.bind (F_envelopes_Valid (TEnvelope.mk p4.1 (1 : Int) (1 : Int) (TTrust.mk p5.1.Threshold p5.1.Nodes p5.1.Inner) (3 : Int) (TBallot.mk p3.1 p2.1) (TBallot.mk (0 : Int) (ByteArray.mk #[])) (TBallot.mk (0 : Int) (ByteArray.mk #[])) p3.1 (addI .i64 p3.1 p6.1))) fun r8 =>
 Option.bind (bif r8 then
 Option.bind (F_envelopes_AcceptsCommit (TEnvelope.mk p4.1 (1 : Int) (1 : Int) (TTrust.mk p5.1.Threshold p5.1.Nodes p5.1.Inner) (3 : Int) (TBallot.mk p3.1 p2.1) (TBallot.mk (0 : Int) (ByteArray.mk #[])) (TBallot.mk (0 : Int) (ByteArray.mk #[])) p3.1 (addI .i64 p3.1 p6.1)) p2.1 (addI .i64 p3.1 (convI .i64 a1)) (addI .i64 (addI .i64 p3.1 (convI .i64 a1)) (convI .i64 a2))) fun r9 =>
 some r9
 else some false) fun b10 =>
 Option.bind (bif b10 then
 Option.bind (F_envelopes_AcceptsPrepare (TEnvelope.mk p4.1 (1 : Int) (1 : Int) (TTrust.mk p5.1.Threshold p5.1.Nodes p5.1.Inner) (3 : Int) (TBallot.mk p3.1 p2.1) (TBallot.mk (0 : Int) (ByteArray.mk #[])) (TBallot.mk (0 : Int) (ByteArray.mk #[])) p3.1 (addI .i64 p3.1 p6.1)) (TBallot.mk (addI .i64 (addI .i64 p3.1 (convI .i64 a1)) (convI .i64 a2)) p2.1)) fun r11 =>
 some r11
 else some false) fun b12 =>
 Option.bind (bif b12 then
 Option.bind (bif (decide (p7.1 = p2.1)) then some true
 else
 Option.bind (F_envelopes_VotesCommit (TEnvelope.mk p4.1 (1 : Int) (1 : Int) (TTrust.mk p5.1.Threshold p5.1.Nodes p5.1.Inner) (3 : Int) (TBallot.mk p3.1 p2.1) (TBallot.mk (0 : Int) (ByteArray.mk #[])) (TBallot.mk (0 : Int) (ByteArray.mk #[])) p3.1 (addI .i64 p3.1 p6.1)) p7.1 (addI .i64 p3.1 (convI .i64 a1)) (addI .i64 (addI .i64 p3.1 (convI .i64 a1)) (convI .i64 a2))) fun r13 =>
 Option.bind (bif (!r13) then
 Option.bind (F_envelopes_VotesPrepare (TEnvelope.mk p4.1 (1 : Int) (1 : Int) (TTrust.mk p5.1.Threshold p5.1.Nodes p5.1.Inner) (3 : Int) (TBallot.mk p3.1 p2.1) (TBallot.mk (0 : Int) (ByteArray.mk #[])) (TBallot.mk (0 : Int) (ByteArray.mk #[])) p3.1 (addI .i64 p3.1 p6.1)) (TBallot.mk (addI .i64 p3.1 (convI .i64 a1)) p7.1)) fun r14 =>
 some (!r14)
 else some false) fun b15 =>
 some b15) fun b16 =>
 some b16
 else some false) fun b17 =>
 Option.bind (bif b17 then
 Option.bind (bif (decide (p3.1 = (1 : Int))) then some true
 else
 Option.bind (F_envelopes_AcceptsCommit (TEnvelope.mk p4.1 (1 : Int) (1 : Int) (TTrust.mk p5.1.Threshold p5.1.Nodes p5.1.Inner) (3 : Int) (TBallot.mk p3.1 p2.1) (TBallot.mk (0 : Int) (ByteArray.mk #[])) (TBallot.mk (0 : Int) (ByteArray.mk #[])) p3.1 (addI .i64 p3.1 p6.1)) p2.1 (subI .i64 p3.1 (1 : Int)) (addI .i64 (addI .i64 p3.1 (convI .i64 a1)) (convI .i64 a2))) fun r18 =>
 some (!r18)) fun b19 =>
 some b19
 else some false) fun b20 =>
 Option.bind (bif b20 then
 Option.bind (F_envelopes_Counter (TEnvelope.mk p4.1 (1 : Int) (1 : Int) (TTrust.mk p5.1.Threshold p5.1.Nodes p5.1.Inner) (3 : Int) (TBallot.mk p3.1 p2.1) (TBallot.mk (0 : Int) (ByteArray.mk #[])) (TBallot.mk (0 : Int) (ByteArray.mk #[])) p3.1 (addI .i64 p3.1 p6.1))) fun r21 =>
 some (decide (r21 = (1000000 : Int)))
 else some false) fun b22 =>
 Option.bind (bif b22 then
 Option.bind (F_law24_sane) fun r23 =>
 some r23
 else some false) fun b24 =>
 some b24
noncomputable def k_law24_EnvelopesForever : KFun U := .fn 6 [.ty (Ty.sl (Ty.i .i64)), .ty (Ty.i .u8), .ty (Ty.i .u8)] (.one Ty.bool) fun a => F_law24_EnvelopesForever a.1 a.2.1 a.2.2.1
theorem e_law24_EnvelopesForever : fnK K [k_play_New, k_play_Src_Value, k_play_Src_Range, k_play_Src_N, k_play_Src_Trust, k_envelopes_Valid, k_envelopes_AcceptsCommit, k_envelopes_AcceptsPrepare, k_envelopes_VotesCommit, k_envelopes_VotesPrepare, k_envelopes_Counter, k_law24_sane] sa_law24_EnvelopesForever [.tmp 6] [.ty (Ty.sl (Ty.i .i64)), .ty (Ty.i .u8), .ty (Ty.i .u8)] (.one Ty.bool) = fun a => F_law24_EnvelopesForever a.1 a.2.1 a.2.2.1 := by kernel_rfl
theorem s_law24_EnvelopesForever : KFun.Sound (U := U) Try.prog k_law24_EnvelopesForever := fnK_sound (K := K) (Γ := [k_play_New, k_play_Src_Value, k_play_Src_Range, k_play_Src_N, k_play_Src_Trust, k_envelopes_Valid, k_envelopes_AcceptsCommit, k_envelopes_AcceptsPrepare, k_envelopes_VotesCommit, k_envelopes_VotesPrepare, k_envelopes_Counter, k_law24_sane]) ok_law24_EnvelopesForever (by kernel_rfl) (by decide) ⟨s_play_New, s_play_Src_Value, s_play_Src_Range, s_play_Src_N, s_play_Src_Trust, s_envelopes_Valid, s_envelopes_AcceptsCommit, s_envelopes_AcceptsPrepare, s_envelopes_VotesCommit, s_envelopes_VotesPrepare, s_envelopes_Counter, s_law24_sane, trivial⟩ (fun a => congrFun e_law24_EnvelopesForever a)

/-! ### (*trustquorum/trustquorumplay.Src).Some -/
def sa_play_Src_Some : SA U :=
 (.seq
 (.reg
 (op 4 (.mov (ci 0))
 .nil))
 (.seq
 (.reg
 (op 5 (.mov (ci 0))
 .nil))
 (.seq
 (.seq
 (.reg
 (op 6 (.mov (ci 0))
 .nil))
 (.block 0
 (.loop ⟨[.val 5 (Ty.i .i64), .val 6 (Ty.i .i64), .box 0 0 (Ty.st .Src) []], [0, 1]⟩
 (.seq
 (.seq
 (.reg
 (op 7 (.mov (tm 6))
 (op 8 (.mov (tm 1))
 (op 9 (.bin .lss (tm 7) (tm 8))
 .nil))))
 (.cond (tm 9)
 .skip
 (.exit 0)))
 (.seq
 (.block 1
 (.reg
 (op 12 (.mov (tm 5))
 (op 13 (.mov (tm 0))
 (op 14 (.call 13 [(tm 13), (ci 2)])
 (op 15 (.mov (tm 6))
 (op 16 (.conv .u64 (tm 15))
 (op 17 (.bin .shl (tm 14) (tm 16))
 (op 18 (.bin .or (tm 12) (tm 17))
 (op 5 (.mov (tm 18))
 .nil))))))))))
 (.reg
 (op 10 (.mov (tm 6))
 (op 11 (.bin .add (tm 10) (ci 1))
 (op 6 (.mov (tm 11))
 .nil)))))))))
 (.seq
 (.reg
 (op 19 (.mov (tm 5))
 (op 4 (.mov (tm 19))
 .nil)))
 .ret))))
theorem ok_play_Src_Some : FnOk Try.prog 33 20 (SA.erase sa_play_Src_Some) [.tmp 4] := ⟨Try.f33, [], Try.func33, rfl, by kernel_rfl, by kernel_rfl, by kernel_rfl⟩
noncomputable def F_play_Src_Some (s : TSrc) (a0 : Int) : Option (Int × TSrc) :=
 loopO (fun (v1 : Int × Int × TSrc × Unit) =>
 bif (decide (v1.2.1 < a0)) then
 Option.bind (F_play_Src_N v1.2.2.1 (2 : Int)) fun p2 =>
 if (convI .u64 v1.2.1) < 0 then none else
 some (Sum.inl ((orI .i64 v1.1 (shlI .i64 p2.1 (convI .u64 v1.2.1))), (addI .i64 v1.2.1 (1 : Int)), p2.2, ()))
 else
 Option.map Sum.inr (some (v1.1, v1.2.2.1))) ((0 : Int), (0 : Int), s, ())
noncomputable def k_play_Src_Some : KFun U := .rc 33 0 (Ty.st .Src) [.ty (Ty.i .i64)] (.one (Ty.i .i64)) fun s a => F_play_Src_Some s a.1
theorem e_play_Src_Some : rcK K [k_play_Src_N] sa_play_Src_Some [.tmp 4] 0 (Ty.st .Src) [.ty (Ty.i .i64)] (.one (Ty.i .i64)) = fun s a => F_play_Src_Some s a.1 := by kernel_rfl
theorem s_play_Src_Some : KFun.Sound (U := U) Try.prog k_play_Src_Some := rcK_sound (K := K) (Γ := [k_play_Src_N]) ok_play_Src_Some (by kernel_rfl) (by decide) ⟨s_play_Src_N, trivial⟩ (fun s a => congrFun (congrFun e_play_Src_Some s) a)

/-! ### trustquorum/trustquorumref25.View -/
def sa_ref25_View : SA U :=
 (.seq
 (.reg
 (op 4 (.box (tm 1))
 (op 6 (.alloc [.nils])
 .nil)))
 (.seq
 (.reg
 (op 10 (.mks 64 4 64 [.bool false, .int .i64 0, .nils, .nils] (ci 10) (ci 10))
 (op 11 (.build [.nils] [(0, 1, (tm 10))])
 (op 7 (.alloc [.nils])
 (ops (.store 1 (tm 7) (tm 11))
 .nil)))))
 (.seq
 (.seq
 (.reg
 (op 12 (.mov (tm 0))
 (op 13 (.bin .lss (tm 12) (ci 0))
 (op 14 (.mov (tm 13))
 (.ite 14 false
 (opg 15 14 false (.mov (tm 0))
 (opg 16 14 false (.bin .gtr (tm 15) (ci 9))
 .nil))
 17 none (.cst (.bool true)) (tm 16)
 .nil)))))
 (.cond (tm 17)
 (.seq
 (.reg
 (op 18 (.load (some 1) (tm 7))
 (ops (.store 1 (tm 6) (tm 18))
 .nil)))
 .ret)
 .skip))
 (.seq
 (.reg
 (op 19 (.faddr 0 (tm 7))
 (op 20 (.load none (tm 19))
 (op 21 (.mov (tm 0))
 (op 22 (.load (some 3) (tm 4))
 (op 23 (.build [.bool false, .int .i64 0, .nils, .nils] [(0, 1, (.cst (.bool true))), (1, 3, (tm 22))])
 (op 24 (.iaddr 4 (tm 20) (tm 21))
 (ops (.store 4 (tm 24) (tm 23))
 .nil))))))))
 (.seq
 (.seq
 (.reg
 (op 25 (.mov (tm 2))
 (op 26 (.len false (tm 25))
 (op 27 (.mov (ci 0))
 .nil))))
 (.block 0
 (.loop ⟨[.val 27 (Ty.i .i64), .box 4 1 (Ty.st .Config) [(0, 2, 1)], .rowb 2 1 64 4 (Ty.st .Member)], [6, 7, 25, 26]⟩
 (.seq
 (.reg
 (op 28 (.bin .lss (tm 27) (tm 26))
 .nil))
 (.seq
 (.cond (tm 28)
 .skip
 (.exit 0))
 (.join ⟨[.box 4 1 (Ty.st .Config) [(0, 2, 1)], .rowb 2 1 64 4 (Ty.st .Member)], [6, 7, 25, 26, 27]⟩
 (.block 1
 (.seq
 (.reg
 (op 29 (.iaddr 15 (tm 25) (tm 27))
 (op 30 (.load (some 15) (tm 29))
 (op 9 (.alloc [.int .i64 0, .int .i64 0, .int .i64 0, .int .i64 0, .nils, .nils, .int .i64 0, .int .i64 0, .str ⟨#[]⟩, .int .i64 0, .str ⟨#[]⟩, .int .i64 0, .str ⟨#[]⟩, .int .i64 0, .int .i64 0])
 (ops (.store 15 (tm 9) (tm 30))
 .nil)))))
 (.seq
 (.reg
 (op 31 (.load (some 15) (tm 9))
 (op 32 (.call 45 [(tm 31)])
 (op 33 (.mov (tm 32))
 (.ite 33 true
 (opg 34 33 true (.faddr 0 (tm 7))
 (opg 35 33 true (.load none (tm 34))
 (opg 36 33 true (.faddr 0 (tm 9))
 (opg 37 33 true (.load none (tm 36))
 (opg 38 33 true (.iaddr 4 (tm 35) (tm 37))
 (opg 39 33 true (.faddr 0 (tm 38))
 (opg 40 33 true (.load none (tm 39))
 (opg 41 33 true (.not (tm 40))
 .nil))))))))
 42 none (tm 41) (.cst (.bool false))
 .nil)))))
 (.cond (tm 42)
 (.reg
 (op 43 (.faddr 0 (tm 7))
 (op 44 (.load none (tm 43))
 (op 45 (.faddr 0 (tm 9))
 (op 46 (.load none (tm 45))
 (op 47 (.faddr 3 (tm 9))
 (op 48 (.load (some 3) (tm 47))
 (op 49 (.build [.bool false, .int .i64 0, .nils, .nils] [(0, 1, (.cst (.bool true))), (1, 3, (tm 48))])
 (op 50 (.iaddr 4 (tm 44) (tm 46))
 (ops (.store 4 (tm 50) (tm 49))
 .nil))))))))))
 .skip))))
 (.reg
 (op 51 (.bin .add (tm 27) (ci 1))
 (op 27 (.mov (tm 51))
 .nil)))))))))
 (.seq
 (.reg
 (op 52 (.load (some 1) (tm 7))
 (ops (.store 1 (tm 6) (tm 52))
 .nil)))
 .ret))))))
theorem ok_ref25_View : FnOk Try.prog 35 53 (SA.erase sa_ref25_View) [.cell 6 (some 1)] := ⟨Try.f35, [], Try.func35, rfl, by kernel_rfl, by kernel_rfl, by kernel_rfl⟩
noncomputable def F_ref25_View (a0 : Int) (a1 : TTrust) (a2 : (List TEnvelope)) : Option TConfig :=
 bif decide ((10 : Int) = (10 : Int)) && decide (0 ≤ (10 : Int)) && lenOk 64 (Int.toNat (10 : Int)) then
 Option.bind (bif (decide (a0 < (0 : Int))) then some true
 else
 some (decide ((9 : Int) < a0))) fun b1 =>
 bif b1 then
 some (TConfig.mk (List.replicate (Int.toNat (10 : Int)) (TMember.mk false (TTrust.mk (0 : Int) ([] : List Int) ([] : List TTrust)))))
 else
 Option.bind (idx (List.replicate (Int.toNat (10 : Int)) (TMember.mk false (TTrust.mk (0 : Int) ([] : List Int) ([] : List TTrust)))) a0) fun x2 =>
 Option.bind ((List.replicate (Int.toNat (10 : Int)) (TMember.mk false (TTrust.mk (0 : Int) ([] : List Int) ([] : List TTrust))))[(Int.toNat a0)]?) fun x3 =>
 loopO (fun (v4 : Int × TConfig × (List TMember) × Unit) =>
 bif (decide (v4.1 < ((List.length a2 : Nat) : Int))) then
 letJ (fun (v5 : TConfig × (List TMember) × Unit) =>
 some (Sum.inl ((addI .i64 v4.1 (1 : Int)), (TConfig.mk ([] : List TMember)), v5.2.1, ()))) fun j6 =>
 Option.bind (idx a2 v4.1) fun x7 =>
 Option.bind (F_ref24_Valid (TEnvelope.mk x7.Node x7.Slot x7.Seq (TTrust.mk x7.Trust.Threshold x7.Trust.Nodes x7.Trust.Inner) x7.Kind x7.Ballot x7.Prepared x7.Prime x7.Low x7.High)) fun r8 =>
 Option.bind (bif r8 then
 Option.bind (idx v4.2.2.1 x7.Node) fun x9 =>
 Option.bind (v4.2.2.1[(Int.toNat x7.Node)]?) fun x10 =>
 Option.bind (v4.2.2.1[(Int.toNat x7.Node)]?) fun x11 =>
 some (!x11.Declared)
 else some false) fun b12 =>
 bif b12 then
 Option.bind (idx v4.2.2.1 x7.Node) fun x13 =>
 Option.bind (v4.2.2.1[(Int.toNat x7.Node)]?) fun x14 =>
 j6 ((TConfig.mk ([] : List TMember)), (v4.2.2.1.set (Int.toNat x7.Node) (TMember.mk true (TTrust.mk x7.Trust.Threshold x7.Trust.Nodes x7.Trust.Inner))), ())
 else
 j6 ((TConfig.mk ([] : List TMember)), v4.2.2.1, ())
 else
 Option.map Sum.inr (some (TConfig.mk v4.2.2.1))) ((0 : Int), (TConfig.mk ([] : List TMember)), ((List.replicate (Int.toNat (10 : Int)) (TMember.mk false (TTrust.mk (0 : Int) ([] : List Int) ([] : List TTrust)))).set (Int.toNat a0) (TMember.mk true (TTrust.mk a1.Threshold a1.Nodes a1.Inner))), ())
 else none
noncomputable def k_ref25_View : KFun U := .fn 35 [.ty (Ty.i .i64), .ty (Ty.st .Trust), .ty (Ty.sl (Ty.st .Envelope))] (.one (Ty.st .Config)) fun a => F_ref25_View a.1 a.2.1 a.2.2.1
theorem e_ref25_View : fnK K [k_ref24_Valid] sa_ref25_View [.cell 6 (some 1)] [.ty (Ty.i .i64), .ty (Ty.st .Trust), .ty (Ty.sl (Ty.st .Envelope))] (.one (Ty.st .Config)) = fun a => F_ref25_View a.1 a.2.1 a.2.2.1 := by kernel_rfl
theorem s_ref25_View : KFun.Sound (U := U) Try.prog k_ref25_View := fnK_sound (K := K) (Γ := [k_ref24_Valid]) ok_ref25_View (by kernel_rfl) (by decide) ⟨s_ref24_Valid, trivial⟩ (fun a => congrFun e_ref25_View a)

/-! ### trustquorum/trustquorumref06.Declared -/
def sa_ref06_Declared : SA U :=
 (.seq
 (.reg
 (op 1 (.box (tm 0))
 (op 2 (.mov (ci 0))
 .nil)))
 (.seq
 (.reg
 (op 3 (.mov (ci 0))
 .nil))
 (.seq
 (.seq
 (.reg
 (op 6 (.faddr 0 (tm 1))
 (op 7 (.load none (tm 6))
 (op 8 (.len false (tm 7))
 (op 9 (.mov (ci 0))
 .nil)))))
 (.block 0
 (.loop ⟨[.val 3 (Ty.i .i64), .val 9 (Ty.i .i64)], [7, 8]⟩
 (.seq
 (.reg
 (op 10 (.bin .lss (tm 9) (tm 8))
 .nil))
 (.seq
 (.cond (tm 10)
 .skip
 (.exit 0))
 (.join ⟨[.val 3 (Ty.i .i64)], [7, 8, 9]⟩
 (.block 1
 (.seq
 (.reg
 (op 11 (.mov (tm 9))
 (op 12 (.iaddr 4 (tm 7) (tm 9))
 (op 13 (.load (some 4) (tm 12))
 (op 5 (.alloc [.bool false, .int .i64 0, .nils, .nils])
 (op 4 (.mov (tm 11))
 (ops (.store 4 (tm 5) (tm 13))
 .nil)))))))
 (.seq
 (.reg
 (op 14 (.mov (tm 4))
 (op 15 (.bin .lss (tm 14) (ci 10))
 (op 16 (.mov (tm 15))
 (.ite 16 true
 (opg 17 16 true (.faddr 0 (tm 5))
 (opg 18 16 true (.load none (tm 17))
 .nil))
 19 none (tm 18) (.cst (.bool false))
 .nil)))))
 (.cond (tm 19)
 (.reg
 (op 20 (.mov (tm 3))
 (op 21 (.mov (tm 4))
 (op 22 (.bin .shl (ci 1) (tm 21))
 (op 23 (.bin .or (tm 20) (tm 22))
 (op 3 (.mov (tm 23))
 .nil))))))
 .skip))))
 (.reg
 (op 24 (.bin .add (tm 9) (ci 1))
 (op 9 (.mov (tm 24))
 .nil)))))))))
 (.seq
 (.reg
 (op 25 (.mov (tm 3))
 (op 2 (.mov (tm 25))
 .nil)))
 .ret))))
theorem ok_ref06_Declared : FnOk Try.prog 63 26 (SA.erase sa_ref06_Declared) [.tmp 2] := ⟨Try.f63, [], Try.func63, rfl, by kernel_rfl, by kernel_rfl, by kernel_rfl⟩
noncomputable def F_ref06_Declared (a0 : TConfig) : Option Int :=
 loopO (fun (v1 : Int × Int × Unit) =>
 bif (decide (v1.2.1 < ((List.length a0.Members : Nat) : Int))) then
 letJ (fun (v2 : Int × Unit) =>
 some (Sum.inl (v2.1, (addI .i64 v1.2.1 (1 : Int)), ()))) fun j3 =>
 Option.bind (idx a0.Members v1.2.1) fun x4 =>
 Option.bind (bif (decide (v1.2.1 < (10 : Int))) then
 some x4.Declared
 else some false) fun b5 =>
 bif b5 then
 if v1.2.1 < 0 then none else
 j3 ((orI .i64 v1.1 (shlI .i64 (1 : Int) v1.2.1)), ())
 else
 j3 (v1.1, ())
 else
 Option.map Sum.inr (some v1.1)) ((0 : Int), (0 : Int), ())
noncomputable def k_ref06_Declared : KFun U := .fn 63 [.ty (Ty.st .Config)] (.one (Ty.i .i64)) fun a => F_ref06_Declared a.1
theorem e_ref06_Declared : fnK K [] sa_ref06_Declared [.tmp 2] [.ty (Ty.st .Config)] (.one (Ty.i .i64)) = fun a => F_ref06_Declared a.1 := by kernel_rfl
theorem s_ref06_Declared : KFun.Sound (U := U) Try.prog k_ref06_Declared := fnK_sound (K := K) (Γ := []) ok_ref06_Declared (by kernel_rfl) (by decide) trivial (fun a => congrFun e_ref06_Declared a)

/-! ### trustquorum/trustquorumref02.Satisfied -/
def sa_ref02_Satisfied : SA U :=
 (.seq
 (.reg
 (op 2 (.box (tm 0))
 (op 4 (.mov (.cst (.bool false)))
 .nil)))
 (.seq
 (.seq
 (.reg
 (op 10 (.mov (tm 1))
 (op 11 (.call 61 [(tm 10)])
 (op 12 (.not (tm 11))
 .nil))))
 (.cond (tm 12)
 (.seq
 (.reg
 (op 4 (.mov (.cst (.bool false)))
 .nil))
 .ret)
 .skip))
 (.seq
 (.reg
 (op 5 (.mov (ci 0))
 .nil))
 (.seq
 (.seq
 (.reg
 (op 13 (.faddr 1 (tm 2))
 (op 14 (.load none (tm 13))
 (op 15 (.len false (tm 14))
 (op 16 (.mov (ci 0))
 .nil)))))
 (.block 0
 (.loop ⟨[.val 5 (Ty.i .i64), .val 16 (Ty.i .i64)], [1, 2, 14, 15]⟩
 (.seq
 (.reg
 (op 17 (.bin .lss (tm 16) (tm 15))
 .nil))
 (.seq
 (.cond (tm 17)
 .skip
 (.exit 0))
 (.join ⟨[.val 5 (Ty.i .i64)], [1, 2, 14, 15, 16]⟩
 (.block 1
 (.seq
 (.reg
 (op 18 (.iaddr 1 (tm 14) (tm 16))
 (op 19 (.load none (tm 18))
 (op 7 (.mov (tm 19))
 .nil))))
 (.seq
 (.reg
 (op 20 (.mov (tm 1))
 (op 21 (.mov (tm 7))
 (op 22 (.call 62 [(tm 20), (tm 21)])
 .nil))))
 (.cond (tm 22)
 (.reg
 (op 23 (.mov (tm 5))
 (op 24 (.bin .add (tm 23) (ci 1))
 (op 5 (.mov (tm 24))
 .nil))))
 .skip))))
 (.reg
 (op 25 (.bin .add (tm 16) (ci 1))
 (op 16 (.mov (tm 25))
 .nil)))))))))
 (.seq
 (.seq
 (.reg
 (op 26 (.faddr 2 (tm 2))
 (op 27 (.load none (tm 26))
 (op 28 (.len false (tm 27))
 (op 29 (.mov (ci 0))
 .nil)))))
 (.block 2
 (.loop ⟨[.val 5 (Ty.i .i64), .val 29 (Ty.i .i64)], [1, 2, 27, 28]⟩
 (.seq
 (.reg
 (op 30 (.bin .lss (tm 29) (tm 28))
 .nil))
 (.seq
 (.cond (tm 30)
 .skip
 (.exit 2))
 (.join ⟨[.val 5 (Ty.i .i64)], [1, 2, 27, 28, 29]⟩
 (.block 3
 (.seq
 (.reg
 (op 31 (.iaddr 3 (tm 27) (tm 29))
 (op 32 (.load (some 3) (tm 31))
 (op 9 (.alloc [.int .i64 0, .nils, .nils])
 (ops (.store 3 (tm 9) (tm 32))
 .nil)))))
 (.seq
 (.reg
 (op 33 (.load (some 3) (tm 9))
 (op 34 (.mov (tm 1))
 (op 35 (.call 64 [(tm 33), (tm 34)])
 .nil))))
 (.cond (tm 35)
 (.reg
 (op 36 (.mov (tm 5))
 (op 37 (.bin .add (tm 36) (ci 1))
 (op 5 (.mov (tm 37))
 .nil))))
 .skip))))
 (.reg
 (op 38 (.bin .add (tm 29) (ci 1))
 (op 29 (.mov (tm 38))
 .nil)))))))))
 (.seq
 (.reg
 (op 39 (.mov (tm 5))
 (op 40 (.faddr 0 (tm 2))
 (op 41 (.load none (tm 40))
 (op 42 (.bin .geq (tm 39) (tm 41))
 (op 4 (.mov (tm 42))
 .nil))))))
 .ret))))))
theorem ok_ref02_Satisfied : FnOk Try.prog 64 43 (SA.erase sa_ref02_Satisfied) [.tmp 4] := ⟨Try.f64, [], Try.func64, rfl, by kernel_rfl, by kernel_rfl, by kernel_rfl⟩
noncomputable def B_ref02_Satisfied (rec : (TTrust × Int × Unit) → Option Bool) (a0 : TTrust) (a1 : Int) : Option Bool :=
 Option.bind (F_ref01_Valid a1) fun r1 =>
 bif (!r1) then
 some false
 else
 loopO (fun (v2 : Int × Int × Unit) =>
 bif (decide (v2.2.1 < ((List.length a0.Nodes : Nat) : Int))) then
 letJ (fun (v3 : Int × Unit) =>
 some (Sum.inl (v3.1, (addI .i64 v2.2.1 (1 : Int)), ()))) fun j4 =>
 Option.bind (idx a0.Nodes v2.2.1) fun x5 =>
 Option.bind (F_ref01_Has a1 x5) fun r6 =>
 bif r6 then
 j4 ((addI .i64 v2.1 (1 : Int)), ())
 else
 j4 (v2.1, ())
 else
 Option.map Sum.inr (loopO (fun (v7 : Int × Int × Unit) =>
 bif (decide (v7.2.1 < ((List.length a0.Inner : Nat) : Int))) then
 letJ (fun (v8 : Int × Unit) =>
 some (Sum.inl (v8.1, (addI .i64 v7.2.1 (1 : Int)), ()))) fun j9 =>
 Option.bind (idx a0.Inner v7.2.1) fun x10 =>
 Option.bind (rec ((TTrust.mk x10.Threshold x10.Nodes x10.Inner), a1, ())) fun r11 =>
 bif r11 then
 j9 ((addI .i64 v7.1 (1 : Int)), ())
 else
 j9 (v7.1, ())
 else
 Option.map Sum.inr (some (decide (a0.Threshold ≤ v7.1)))) (v2.1, (0 : Int), ()))) ((0 : Int), (0 : Int), ())
noncomputable def I_ref02_Satisfied : Nat → (TTrust × Int × Unit) → Option Bool := iterF (fun rec a => B_ref02_Satisfied rec a.1 a.2.1)
noncomputable def F_ref02_Satisfied (a0 : TTrust) (a1 : Int) : Option Bool := I_ref02_Satisfied (SizeOf.sizeOf a0 + SizeOf.sizeOf a1 + 1) (a0, a1, ())
noncomputable def k_ref02_Satisfied : KFun U := .fn 64 [.ty (Ty.st .Trust), .ty (Ty.i .i64)] (.one Ty.bool) fun a => F_ref02_Satisfied a.1 a.2.1
theorem e_ref02_Satisfied : (fun G => fnK K (.fn 64 [.ty (Ty.st .Trust), .ty (Ty.i .i64)] (.one Ty.bool) G :: [k_ref01_Valid, k_ref01_Has]) sa_ref02_Satisfied [.tmp 4] [.ty (Ty.st .Trust), .ty (Ty.i .i64)] (.one Ty.bool)) = (fun G a => B_ref02_Satisfied G a.1 a.2.1) := by kernel_rfl
theorem n_ref02_Satisfied : ∀ n, KFun.Sound (U := U) Try.prog (.fn 64 [.ty (Ty.st .Trust), .ty (Ty.i .i64)] (.one Ty.bool) (I_ref02_Satisfied n))
  | 0 => ⟨ok_ref02_Satisfied.enters, fun a r h => by cases h⟩
  | n + 1 => fnK_sound (K := K) (r := .one Ty.bool) (Γ := .fn 64 [.ty (Ty.st .Trust), .ty (Ty.i .i64)] (.one Ty.bool) (I_ref02_Satisfied n) :: [k_ref01_Valid, k_ref01_Has]) (F := I_ref02_Satisfied (n + 1)) ok_ref02_Satisfied (by kernel_rfl) (by decide) ⟨n_ref02_Satisfied n, s_ref01_Valid, s_ref01_Has, trivial⟩ (fun a => congrFun (congrFun e_ref02_Satisfied (I_ref02_Satisfied n)) a)
theorem s_ref02_Satisfied : KFun.Sound (U := U) Try.prog k_ref02_Satisfied := ⟨ok_ref02_Satisfied.enters, fun a r h => (n_ref02_Satisfied _).2 a r h⟩

/-! ### trustquorum/trustquorumref11.Blocks -/
def sa_ref11_Blocks : SA U :=
 (.seq
 (.reg
 (op 3 (.box (tm 0))
 (op 6 (.mov (.cst (.bool false)))
 .nil)))
 (.seq
 (.seq
 (.reg
 (op 7 (.mov (tm 2))
 (op 8 (.call 61 [(tm 7)])
 (op 9 (.not (tm 8))
 (op 10 (.mov (tm 9))
 (.ite 10 false
 (opg 11 10 false (.load (some 1) (tm 3))
 (opg 12 10 false (.call 63 [(tm 11)])
 (opg 13 10 false (.mov (tm 1))
 (opg 14 10 false (.call 62 [(tm 12), (tm 13)])
 (opg 15 10 false (.not (tm 14))
 .nil)))))
 16 none (.cst (.bool true)) (tm 15)
 .nil))))))
 (.cond (tm 16)
 (.seq
 (.reg
 (op 6 (.mov (.cst (.bool false)))
 .nil))
 .ret)
 .skip))
 (.seq
 (.drw []
 (op 17 (.faddr 0 (tm 3))
 (op 18 (.load none (tm 17))
 (op 19 (.mov (tm 1))
 (op 20 (.iaddr 4 (tm 18) (tm 19))
 (op 21 (.faddr 1 (tm 20))
 (op 22 (.load (some 3) (tm 21))
 (op 23 (.mov (tm 2))
 (op 24 (.bin .sub (ci 1023) (tm 23))
 (op 25 (.mov (tm 1))
 (op 26 (.bin .shl (ci 1) (tm 25))
 (op 27 (.bin .or (tm 24) (tm 26))
 (op 28 (.call 64 [(tm 22), (tm 27)])
 (op 29 (.not (tm 28))
 (op 6 (.mov (tm 29))
 .nil)))))))))))))))
 .ret)))
theorem ok_ref11_Blocks : FnOk Try.prog 34 30 (SA.erase sa_ref11_Blocks) [.tmp 6] := ⟨Try.f34, [], Try.func34, rfl, by kernel_rfl, by kernel_rfl, by kernel_rfl⟩
noncomputable def F_ref11_Blocks (a0 : TConfig) (a1 : Int) (a2 : Int) : Option Bool :=
 Option.bind (F_ref01_Valid a2) fun r1 =>
 Option.bind (bif (!r1) then some true
 else
 Option.bind (F_ref06_Declared a0) fun r2 =>
 Option.bind (F_ref01_Has r2 a1) fun r3 =>
 some (!r3)) fun b4 =>
 bif b4 then
 some false
 else
 Option.bind (idx a0.Members a1) fun x5 =>
 if a1 < 0 then none else
 Option.bind (F_ref02_Satisfied (TTrust.mk x5.Trust.Threshold x5.Trust.Nodes x5.Trust.Inner) (orI .i64 (subI .i64 (1023 : Int) a2) (shlI .i64 (1 : Int) a1))) fun r6 =>
 some (!r6)
noncomputable def k_ref11_Blocks : KFun U := .fn 34 [.ty (Ty.st .Config), .ty (Ty.i .i64), .ty (Ty.i .i64)] (.one Ty.bool) fun a => F_ref11_Blocks a.1 a.2.1 a.2.2.1
theorem e_ref11_Blocks : fnK K [k_ref01_Valid, k_ref06_Declared, k_ref01_Has, k_ref02_Satisfied] sa_ref11_Blocks [.tmp 6] [.ty (Ty.st .Config), .ty (Ty.i .i64), .ty (Ty.i .i64)] (.one Ty.bool) = fun a => F_ref11_Blocks a.1 a.2.1 a.2.2.1 := by kernel_rfl
theorem s_ref11_Blocks : KFun.Sound (U := U) Try.prog k_ref11_Blocks := fnK_sound (K := K) (Γ := [k_ref01_Valid, k_ref06_Declared, k_ref01_Has, k_ref02_Satisfied]) ok_ref11_Blocks (by kernel_rfl) (by decide) ⟨s_ref01_Valid, s_ref06_Declared, s_ref01_Has, s_ref02_Satisfied, trivial⟩ (fun a => congrFun e_ref11_Blocks a)

end Go.Proofs.Ytncjalhhkmojlaa
