/-
  Functions of the program as plain functions, each held against the program by the kernel. Printed by a program.
-/
import Derived.Test.YtncjalhhkmojlaaGreatUni
import Derived.Test.YtncjalhhkmojlaaGreatProg
import Derived.KernelRfl
set_option linter.unusedVariables false
namespace Go.Proofs.YtncjalhhkmojlaaGreat
open Go.TQ

/-! ### trustquorum/trustquorumplay.New -/
def sa_play_New : SA U :=
 (sr
 (op 2 (.mov (.cst (.nilp)))
 .nil)
 (sr
 (mv 3 0
 (mv 4 0
 (op 5 (.len false (tm 4))
 (op 6 (.minmax false (tm 5) (ci 800))
 (op 7 (.slc 1 (tm 3) none (some (tm 6)))
 (op 8 (.build [.nils, .int .i64 0] [(0, 1, (tm 7))])
 (op 9 (.box (tm 8))
 (mv 2 9
 .nil))))))))
 .ret))
noncomputable def F_play_New (a0 : (List Int)) : Option TSrc :=
 bif slcOk (0 : Int) (minI ((List.length a0 : Nat) : Int) (800 : Int)) (List.length a0) then
 some (TSrc.mk ((a0.take (Int.toNat (minI ((List.length a0 : Nat) : Int) (800 : Int)))).drop (Int.toNat (0 : Int))) (0 : Int))
 else none
noncomputable def k_play_New : KS U Tryz.prog := ⟨.nw 11 [.ty (Ty.sl (Ty.i .i64))] (Ty.st .Src) fun a => F_play_New a.1, nwS (K := K) sa_play_New 10 2 [] (fk Tryz.f11 [] Tryz.func11)⟩

/-! ### (*trustquorum/trustquorumplay.Src).N -/
def sa_play_Src_N : SA U :=
 (sr
 (mc 4 0
 .nil)
 (.seq
 (.join ⟨[.val 18 Ty.bool], [0, 1]⟩
 (.drw [(1, 5), (2, 5), (3, 5), (1, 6), (2, 6), (3, 6), (1, 7), (2, 7), (3, 7), (1, 8), (2, 8), (3, 8)]
 (mv 5 0
 (op 6 (.nilck (tm 5))
 (fa 7 1 6
 (ld 8 7
 (mv 9 0
 (op 10 (.nilck (tm 9))
 (fa 11 0 10
 (ld 12 11
 (op 13 (.len false (tm 12))
 (op 14 (.bin .geq (tm 8) (tm 13))
 (mv 15 14
 (.spl 15
 (opg 16 15 false (.mov (tm 1))
 (opg 17 15 false (.bin .lss (tm 16) (ci 1))
 (op 18 (.pick (tm 15) (.cst (.bool true)) (tm 17))
 .nil))))))))))))))))
 (.cond (tm 18)
 (sr
 (mc 4 0
 .nil)
 .ret)
 .skip))
 (sr
 (mv 19 0
 (op 20 (.nilck (tm 19))
 (fa 21 1 20
 (ld 22 21
 (op 23 (.bin .add (tm 22) (ci 1))
 (op 24 (.nilck (tm 19))
 (fa 25 1 24
 (ops (.store 1 (tm 25) (tm 23))
 .nil))))))))
 (.seq
 (.drw [(1, 5), (2, 5), (3, 5), (1, 6), (2, 6), (3, 6), (1, 7), (2, 7), (3, 7)]
 (mv 26 0
 (op 27 (.nilck (tm 26))
 (fa 28 0 27
 (ld 29 28
 (mv 30 0
 (op 31 (.nilck (tm 30))
 (fa 32 1 31
 (ld 33 32
 (op 34 (.bin .sub (tm 33) (ci 1))
 (ia 35 1 29 34
 (ld 36 35
 (mv 37 1
 (op 38 (.bin .rem (tm 36) (tm 37))
 (mv 39 1
 (op 40 (.bin .add (tm 38) (tm 39))
 (mv 41 1
 (op 42 (.bin .rem (tm 40) (tm 41))
 (mv 4 42
 .nil)))))))))))))))))))
 .ret))))
noncomputable def F_play_Src_N (s : TSrc) (a0 : Int) : Option (Int × TSrc) :=
 letJ (fun (v1 : Bool × Unit) =>
 bif v1.1 then
 some ((0 : Int), s)
 else
 Option.bind (idx s.L (subI .i64 (addI .i64 s.At (1 : Int)) (1 : Int))) fun x3 =>
 if a0 = 0 then none else
 if a0 = 0 then none else
 some ((remI .i64 (addI .i64 (remI .i64 x3 a0) a0) a0), (TSrc.mk s.L (addI .i64 s.At (1 : Int))))) fun j2 =>
 bif (decide (((List.length s.L : Nat) : Int) ≤ s.At)) then
 j2 (true, ())
 else
 j2 ((decide (a0 < (1 : Int))), ())
noncomputable def k_play_Src_N : KS U Tryz.prog := ⟨.rc 22 0 (Ty.st .Src) [.ty (Ty.i .i64)] (.one (Ty.i .i64)) fun s a => F_play_Src_N s a.1, rcS (K := K) sa_play_Src_N 43 [.tmp 4] [] (fk Tryz.f22 [] Tryz.func22)⟩

/-! ### (*trustquorum/trustquorumplay.Src).Range -/
def sa_play_Src_Range : SA U :=
 (sr
 (mc 6 0
 .nil)
 (sr
 (mv 7 1
 (mv 8 0
 (mv 9 2
 (mv 10 1
 (op 11 (.bin .sub (tm 9) (tm 10))
 (op 12 (.bin .add (tm 11) (ci 1))
 (cl 13 22 [8, 12]
 (op 14 (.bin .add (tm 7) (tm 13))
 (mv 6 14
 .nil)))))))))
 .ret))
noncomputable def F_play_Src_Range (s : TSrc) (a0 : Int) (a1 : Int) : Option (Int × TSrc) :=
 Option.bind (F_play_Src_N s (addI .i64 (subI .i64 a1 a0) (1 : Int))) fun p1 =>
 some ((addI .i64 a0 p1.1), p1.2)
noncomputable def k_play_Src_Range : KS U Tryz.prog := ⟨.rc 25 0 (Ty.st .Src) [.ty (Ty.i .i64), .ty (Ty.i .i64)] (.one (Ty.i .i64)) fun s a => F_play_Src_Range s a.1 a.2.1, rcS (K := K) sa_play_Src_Range 15 [.tmp 6] [k_play_Src_N] (fk Tryz.f25 [] Tryz.func25)⟩

/-! ### (*trustquorum/trustquorumplay.Src).Trust -/
def sa_play_Src_Trust : SA U :=
 (sr
 (op 4 (.alloc [.int .i64 0, .nils, .nils])
 .nil)
 (sr
 (op 5 (.alloc [.int .i64 0, .nils, .nils])
 .nil)
 (.seq
 (sr
 (mc 6 0
 .nil)
 (.block 0
 (.ps (.ownB 5 1 3 1 (Ty.i .i64))
 (.ps (.ownB 5 2 36 3 (Ty.st .Trust))
 (.loop ⟨[.val 6 (Ty.i .i64), .box 0 0 (Ty.st .Src) [], .box 2 1 (Ty.st .Trust) [(1, 4, 1), (2, 5, 1)], .rowb 4 1 3 1 (Ty.i .i64), .rowb 5 1 36 3 (Ty.st .Trust)], [0, 1, 4, 5]⟩
 (.seq
 (sr
 (mv 8 6
 (mv 9 1
 (op 10 (.bin .lss (tm 8) (tm 9))
 .nil)))
 (.cond (tm 10)
 .skip
 (.exit 0)))
 (.join ⟨[.box 0 0 (Ty.st .Src) [], .box 2 1 (Ty.st .Trust) [(1, 4, 1), (2, 5, 1)], .rowb 4 1 3 1 (Ty.i .i64), .rowb 5 1 36 3 (Ty.st .Trust)], [0, 1, 4, 5, 6]⟩
 (.block 1
 (sr
 (mv 13 0
 (op 14 (.call 22 [(tm 13), (ci 5)])
 (op 15 (.bin .gtr (tm 14) (ci 0))
 .nil)))
 (.cond (tm 15)
 (.reg
 (fa 16 1 5
 (ld 17 16
 (mv 18 6
 (op 19 (.bsl false 3 1 (List.replicate 1 [.int .i64 0]) [(0, (tm 18))])
 (op 20 (.app 3 1 8 (tm 17) (tm 19))
 (fa 21 1 5
 (ops (.store 1 (tm 21) (tm 20))
 .nil))))))))
 .skip)))
 (.reg
 (mv 11 6
 (op 12 (.bin .add (tm 11) (ci 1))
 (mv 6 12
 .nil)))))))))))
 (.ps (.frzB 5 1)
 (.join ⟨[.box 0 0 (Ty.st .Src) [], .box 2 1 (Ty.st .Trust) [(2, 5, 1)], .rowb 5 1 36 3 (Ty.st .Trust)], [0, 1, 4, 5]⟩
 (sr
 (fa 22 1 5
 (ld 23 22
 (op 24 (.len false (tm 23))
 (op 25 (.bin .eql (tm 24) (ci 0))
 .nil))))
 (.cond (tm 25)
 (.reg
 (mv 26 0
 (mv 27 1
 (cl 28 22 [26, 27]
 (op 29 (.bsl false 3 1 (List.replicate 1 [.int .i64 0]) [(0, (tm 28))])
 (fa 30 1 5
 (ops (.store 1 (tm 30) (tm 29))
 .nil)))))))
 .skip))
 (.join ⟨[.box 0 0 (Ty.st .Src) [], .box 2 1 (Ty.st .Trust) [(2, 5, 1)], .rowb 5 1 36 3 (Ty.st .Trust)], [0, 4, 5]⟩
 (sr
 (mv 31 0
 (op 32 (.call 22 [(tm 31), (ci 4)])
 (op 33 (.bin .eql (tm 32) (ci 3))
 .nil)))
 (.cond (tm 33)
 (.drw [(0, 4), (1, 4), (0, 5), (1, 5), (0, 7), (1, 7)]
 (fa 34 2 5
 (ld 35 34
 (mv 36 0
 (mv 37 1
 (cl 38 22 [36, 37]
 (op 39 (.bsl false 3 1 (List.replicate 1 [.int .i64 0]) [(0, (tm 38))])
 (op 40 (.build [.int .i64 0, .nils, .nils] [(0, 1, (ci 1)), (1, 1, (tm 39))])
 (op 41 (.bsl false 36 3 (List.replicate 1 [.int .i64 0, .nils, .nils]) [(0, (tm 40))])
 (op 42 (.app 36 3 56 (tm 35) (tm 41))
 (fa 43 2 5
 (ops (.store 1 (tm 43) (tm 42))
 .nil))))))))))))
 .skip))
 (sr
 (fa 44 1 5
 (ld 45 44
 (op 46 (.len false (tm 45))
 (fa 47 2 5
 (ld 48 47
 (op 49 (.len false (tm 48))
 (op 50 (.bin .add (tm 46) (tm 49))
 (mv 7 50
 .nil))))))))
 (sr
 (mv 51 0
 (mv 52 7
 (op 53 (.bin .add (tm 52) (ci 1))
 (op 54 (.bin .quo (tm 53) (ci 2))
 (mv 55 7
 (cl 56 25 [51, 54, 55]
 (fa 57 0 5
 (ops (.store 1 (tm 57) (tm 56))
 .nil))))))))
 (.join ⟨[.box 0 0 (Ty.st .Src) [], .box 2 1 (Ty.st .Trust) [(2, 5, 1)], .rowb 5 1 36 3 (Ty.st .Trust)], [4, 5]⟩
 (sr
 (mv 58 0
 (op 59 (.call 22 [(tm 58), (ci 6)])
 (op 60 (.bin .eql (tm 59) (ci 5))
 .nil)))
 (.cond (tm 60)
 (.reg
 (fa 61 0 5
 (ops (.store 1 (tm 61) (ci 1))
 .nil)))
 .skip))
 (sr
 (ldk 62 3 5
 (ops (.store 3 (tm 4) (tm 62))
 .nil))
 .ret))))))))))
noncomputable def F_play_Src_Trust (s : TSrc) (a0 : Int) : Option (TTrust × TSrc) :=
 loopO (fun (v1 : Int × TSrc × TTrust × (List Int) × (List TTrust) × Unit) =>
 bif (decide (v1.1 < a0)) then
 letJ (fun (v2 : TSrc × TTrust × (List Int) × (List TTrust) × Unit) =>
 some (Sum.inl ((addI .i64 v1.1 (1 : Int)), v2.1, (TTrust.mk v2.2.1.Threshold ([] : List Int) ([] : List TTrust)), v2.2.2.1, v2.2.2.2.1, ()))) fun j3 =>
 Option.bind (F_play_Src_N v1.2.1 (5 : Int)) fun p4 =>
 bif (decide ((0 : Int) < p4.1)) then
 bif lenOk 8 (List.length v1.2.2.2.1 + List.length [v1.1]) then
 j3 (p4.2, (TTrust.mk v1.2.2.1.Threshold ([] : List Int) ([] : List TTrust)), (v1.2.2.2.1 ++ [v1.1]), v1.2.2.2.2.1, ())
 else none
 else
 j3 (p4.2, (TTrust.mk v1.2.2.1.Threshold ([] : List Int) ([] : List TTrust)), v1.2.2.2.1, v1.2.2.2.2.1, ())
 else
 Option.map Sum.inr (letJ (fun (v5 : TSrc × TTrust × (List TTrust) × Unit) =>
 letJ (fun (v7 : TSrc × TTrust × (List TTrust) × Unit) =>
 Option.bind (F_play_Src_Range v7.1 (quoI .i64 (addI .i64 (addI .i64 ((List.length v7.2.1.Nodes : Nat) : Int) ((List.length v7.2.2.1 : Nat) : Int)) (1 : Int)) (2 : Int)) (addI .i64 ((List.length v7.2.1.Nodes : Nat) : Int) ((List.length v7.2.2.1 : Nat) : Int))) fun p9 =>
 letJ (fun (v10 : TSrc × TTrust × (List TTrust) × Unit) =>
 some ((TTrust.mk v10.2.1.Threshold v10.2.1.Nodes v10.2.2.1), v10.1)) fun j11 =>
 Option.bind (F_play_Src_N p9.2 (6 : Int)) fun p12 =>
 bif (decide (p12.1 = (5 : Int))) then
 j11 (p12.2, (TTrust.mk (1 : Int) v7.2.1.Nodes ([] : List TTrust)), v7.2.2.1, ())
 else
 j11 (p12.2, (TTrust.mk p9.1 v7.2.1.Nodes ([] : List TTrust)), v7.2.2.1, ())) fun j8 =>
 Option.bind (F_play_Src_N v5.1 (4 : Int)) fun p13 =>
 bif (decide (p13.1 = (3 : Int))) then
 Option.bind (F_play_Src_N p13.2 a0) fun p14 =>
 bif lenOk 56 (List.length v5.2.2.1 + List.length [(TTrust.mk (1 : Int) [p14.1] ([] : List TTrust))]) then
 j8 (p14.2, (TTrust.mk v5.2.1.Threshold v5.2.1.Nodes ([] : List TTrust)), (v5.2.2.1 ++ [(TTrust.mk (1 : Int) [p14.1] ([] : List TTrust))]), ())
 else none
 else
 j8 (p13.2, (TTrust.mk v5.2.1.Threshold v5.2.1.Nodes ([] : List TTrust)), v5.2.2.1, ())) fun j6 =>
 bif (decide (((List.length v1.2.2.2.1 : Nat) : Int) = (0 : Int))) then
 Option.bind (F_play_Src_N v1.2.1 a0) fun p15 =>
 j6 (p15.2, (TTrust.mk v1.2.2.1.Threshold [p15.1] ([] : List TTrust)), v1.2.2.2.2.1, ())
 else
 j6 (v1.2.1, (TTrust.mk v1.2.2.1.Threshold v1.2.2.2.1 ([] : List TTrust)), v1.2.2.2.2.1, ()))) ((0 : Int), s, (TTrust.mk (0 : Int) ([] : List Int) ([] : List TTrust)), ([] : List Int), ([] : List TTrust), ())
noncomputable def k_play_Src_Trust : KS U Tryz.prog := ⟨.rc 23 0 (Ty.st .Src) [.ty (Ty.i .i64)] (.one (Ty.st .Trust)) fun s a => F_play_Src_Trust s a.1, rcS (K := K) sa_play_Src_Trust 63 [.cell 4 (some 3)] [k_play_Src_N, k_play_Src_Range] (fk Tryz.f23 [] Tryz.func23)⟩

/-! ### (*trustquorum/trustquorumplay.Src).Text -/
def sa_play_Src_Text : SA U :=
 (sr
 (op 4 (.mov (.cst (.str ⟨#[]⟩)))
 .nil)
 (sr
 (mv 5 1
 (mv 6 0
 (mv 7 1
 (op 8 (.len false (tm 7))
 (cl 9 22 [6, 8]
 (ia 10 1 5 9
 (ld 11 10
 (mv 4 11
 .nil))))))))
 .ret))
noncomputable def F_play_Src_Text (s : TSrc) (a0 : (List ByteArray)) : Option (ByteArray × TSrc) :=
 Option.bind (F_play_Src_N s ((List.length a0 : Nat) : Int)) fun p1 =>
 Option.bind (idx a0 p1.1) fun x2 =>
 some (x2, p1.2)
noncomputable def k_play_Src_Text : KS U Tryz.prog := ⟨.rc 95 0 (Ty.st .Src) [.ty (Ty.sl Ty.str)] (.one Ty.str) fun s a => F_play_Src_Text s a.1, rcS (K := K) sa_play_Src_Text 12 [.tmp 4] [k_play_Src_N] (fk Tryz.f95 [] Tryz.func95)⟩

/-! ### (*trustquorum/trustquorumplay.Src).Value -/
def sa_play_Src_Value : SA U :=
 (sr
 (op 2 (.mov (.cst (.str ⟨#[]⟩)))
 .nil)
 (sr
 (mv 3 0
 (op 4 (.bsl false 9 1 (List.replicate 4 [.str ⟨#[]⟩]) [(0, (.cst (.str ⟨#[97]⟩))), (1, (.cst (.str ⟨#[98]⟩))), (2, (.cst (.str ⟨#[99]⟩))), (3, (.cst (.str ⟨#[97, 97]⟩)))])
 (cl 5 95 [3, 4]
 (mv 2 5
 .nil))))
 .ret))
noncomputable def F_play_Src_Value (s : TSrc)  : Option (ByteArray × TSrc) :=
 Option.bind (F_play_Src_Text s [(ByteArray.mk #[97]), (ByteArray.mk #[98]), (ByteArray.mk #[99]), (ByteArray.mk #[97, 97])]) fun p1 =>
 some (p1.1, p1.2)
noncomputable def k_play_Src_Value : KS U Tryz.prog := ⟨.rc 24 0 (Ty.st .Src) [] (.one Ty.str) fun s a => F_play_Src_Value s , rcS (K := K) sa_play_Src_Value 6 [.tmp 2] [k_play_Src_Text] (fk Tryz.f24 [] Tryz.func24)⟩

/-! ### (*trustquorum/trustquorumplay.Src).Low -/
def sa_play_Src_Low : SA U :=
 (sr
 (op 2 (.alloc [.int .i64 0, .str ⟨#[]⟩])
 .nil)
 (sr
 (mv 3 0
 (op 4 (.call 25 [(tm 3), (ci 1), (ci 6)])
 (mv 5 0
 (cl 6 24 [5]
 (op 7 (.build [.int .i64 0, .str ⟨#[]⟩] [(0, 1, (tm 4)), (1, 1, (tm 6))])
 (ops (.store 2 (tm 2) (tm 7))
 .nil))))))
 .ret))
noncomputable def F_play_Src_Low (s : TSrc)  : Option (TBallot × TSrc) :=
 Option.bind (F_play_Src_Range s (1 : Int) (6 : Int)) fun p1 =>
 Option.bind (F_play_Src_Value p1.2) fun p2 =>
 some ((TBallot.mk p1.1 p2.1), p2.2)
noncomputable def k_play_Src_Low : KS U Tryz.prog := ⟨.rc 33 0 (Ty.st .Src) [] (.one (Ty.st .Ballot)) fun s a => F_play_Src_Low s , rcS (K := K) sa_play_Src_Low 8 [.cell 2 (some 2)] [k_play_Src_Range, k_play_Src_Value] (fk Tryz.f33 [] Tryz.func33)⟩

/-! ### trustquorum/trustquorumref02.Depth -/
def sa_ref02_Depth : SA U :=
 (sr
 (op 1 (.box (tm 0))
 (mc 2 0
 .nil))
 (sr
 (mc 3 0
 .nil)
 (.seq
 (sr
 (fa 6 2 1
 (ld 7 6
 (op 8 (.len false (tm 7))
 (mc 9 0
 .nil))))
 (.block 0
 (.loop ⟨[.val 3 (Ty.i .i64), .val 9 (Ty.i .i64)], [7, 8]⟩
 (sr
 (op 10 (.bin .lss (tm 9) (tm 8))
 .nil)
 (.seq
 (.cond (tm 10)
 .skip
 (.exit 0))
 (.seq
 (.block 1
 (sr
 (ia 11 3 7 9
 (ldk 12 3 11
 (op 5 (.alloc [.int .i64 0, .nils, .nils])
 (ops (.store 3 (tm 5) (tm 12))
 .nil))))
 (.reg
 (mv 13 3
 (ldk 14 3 5
 (cl 15 177 [14]
 (op 16 (.minmax true (tm 13) (tm 15))
 (mv 3 16
 .nil))))))))
 (.reg
 (op 17 (.bin .add (tm 9) (ci 1))
 (mv 9 17
 .nil)))))))))
 (sr
 (mv 18 3
 (op 19 (.bin .add (tm 18) (ci 1))
 (mv 2 19
 .nil)))
 .ret))))
noncomputable def B_ref02_Depth (rec : (TTrust × Unit) → Option Int) (a0 : TTrust) : Option Int :=
 loopO (fun (v1 : Int × Int × Unit) =>
 bif (decide (v1.2.1 < ((List.length a0.Inner : Nat) : Int))) then
 Option.bind (idx a0.Inner v1.2.1) fun x2 =>
 Option.bind (rec ((TTrust.mk x2.Threshold x2.Nodes x2.Inner), ())) fun r3 =>
 some (Sum.inl ((maxI v1.1 r3), (addI .i64 v1.2.1 (1 : Int)), ()))
 else
 Option.map Sum.inr (some (addI .i64 v1.1 (1 : Int)))) ((0 : Int), (0 : Int), ())
noncomputable def I_ref02_Depth : Nat → (TTrust × Unit) → Option Int := iterF (fun rec a => B_ref02_Depth rec a.1)
noncomputable def F_ref02_Depth (a0 : TTrust) : Option Int := I_ref02_Depth (SizeOf.sizeOf a0 + 1) (a0, ())
noncomputable def k_ref02_Depth : KS U Tryz.prog := ⟨.fn 177 [.ty (Ty.st .Trust)] (.one (Ty.i .i64)) fun a => F_ref02_Depth a.1, fnRS (K := K) («as» := [.ty (Ty.st .Trust)]) (r := .one (Ty.i .i64)) (B := fun rec a => B_ref02_Depth rec a.1) sa_ref02_Depth 20 [.tmp 2] [] (fk Tryz.f177 [] Tryz.func177) (hF := fun a => ⟨_, rfl⟩)⟩

/-! ### trustquorum/trustquorumref02.Size -/
def sa_ref02_Size : SA U :=
 (sr
 (op 1 (.box (tm 0))
 (mc 2 0
 .nil))
 (sr
 (fa 6 1 1
 (ld 7 6
 (op 8 (.len false (tm 7))
 (fa 9 2 1
 (ld 10 9
 (op 11 (.len false (tm 10))
 (op 12 (.bin .add (tm 8) (tm 11))
 (mv 3 12
 .nil))))))))
 (.seq
 (sr
 (fa 13 2 1
 (ld 14 13
 (op 15 (.len false (tm 14))
 (mc 16 0
 .nil))))
 (.block 0
 (.loop ⟨[.val 3 (Ty.i .i64), .val 16 (Ty.i .i64)], [14, 15]⟩
 (sr
 (op 17 (.bin .lss (tm 16) (tm 15))
 .nil)
 (.seq
 (.cond (tm 17)
 .skip
 (.exit 0))
 (.seq
 (.block 1
 (sr
 (ia 18 3 14 16
 (ldk 19 3 18
 (op 5 (.alloc [.int .i64 0, .nils, .nils])
 (ops (.store 3 (tm 5) (tm 19))
 .nil))))
 (.reg
 (mv 20 3
 (ldk 21 3 5
 (cl 22 178 [21]
 (op 23 (.bin .add (tm 20) (tm 22))
 (mv 3 23
 .nil))))))))
 (.reg
 (op 24 (.bin .add (tm 16) (ci 1))
 (mv 16 24
 .nil)))))))))
 (sr
 (mv 25 3
 (mv 2 25
 .nil))
 .ret))))
noncomputable def B_ref02_Size (rec : (TTrust × Unit) → Option Int) (a0 : TTrust) : Option Int :=
 loopO (fun (v1 : Int × Int × Unit) =>
 bif (decide (v1.2.1 < ((List.length a0.Inner : Nat) : Int))) then
 Option.bind (idx a0.Inner v1.2.1) fun x2 =>
 Option.bind (rec ((TTrust.mk x2.Threshold x2.Nodes x2.Inner), ())) fun r3 =>
 some (Sum.inl ((addI .i64 v1.1 r3), (addI .i64 v1.2.1 (1 : Int)), ()))
 else
 Option.map Sum.inr (some v1.1)) ((addI .i64 ((List.length a0.Nodes : Nat) : Int) ((List.length a0.Inner : Nat) : Int)), (0 : Int), ())
noncomputable def I_ref02_Size : Nat → (TTrust × Unit) → Option Int := iterF (fun rec a => B_ref02_Size rec a.1)
noncomputable def F_ref02_Size (a0 : TTrust) : Option Int := I_ref02_Size (SizeOf.sizeOf a0 + 1) (a0, ())
noncomputable def k_ref02_Size : KS U Tryz.prog := ⟨.fn 178 [.ty (Ty.st .Trust)] (.one (Ty.i .i64)) fun a => F_ref02_Size a.1, fnRS (K := K) («as» := [.ty (Ty.st .Trust)]) (r := .one (Ty.i .i64)) (B := fun rec a => B_ref02_Size rec a.1) sa_ref02_Size 26 [.tmp 2] [] (fk Tryz.f178 [] Tryz.func178) (hF := fun a => ⟨_, rfl⟩)⟩

/-! ### trustquorum/trustquorumref01.Valid -/
def sa_ref01_Valid : SA U :=
 (sr
 (op 2 (.mov (.cst (.bool false)))
 .nil)
 (sr
 (mv 3 0
 (op 4 (.bin .geq (tm 3) (ci 0))
 (mv 5 4
 (.ite 5 true
 (opg 6 5 true (.mov (tm 0))
 (opg 7 5 true (.bin .leq (tm 6) (ci 1023))
 .nil))
 8 none (tm 7) (.cst (.bool false))
 (mv 2 8
 .nil)))))
 .ret))
noncomputable def F_ref01_Valid (a0 : Int) : Option Bool :=
 Option.bind (bif (decide ((0 : Int) ≤ a0)) then
 some (decide (a0 ≤ (1023 : Int)))
 else some false) fun b1 =>
 some b1
noncomputable def k_ref01_Valid : KS U Tryz.prog := ⟨.fn 167 [.ty (Ty.i .i64)] (.one Ty.bool) fun a => F_ref01_Valid a.1, fnS (K := K) sa_ref01_Valid 9 [.tmp 2] [] (fk Tryz.f167 [] Tryz.func167)⟩

/-! ### trustquorum/trustquorumref01.Has -/
def sa_ref01_Has : SA U :=
 (sr
 (op 4 (.mov (.cst (.bool false)))
 .nil)
 (sr
 (mv 5 0
 (cl 6 167 [5]
 (mv 7 6
 (.ite 7 true
 (opg 8 7 true (.mov (tm 1))
 (opg 9 7 true (.bin .geq (tm 8) (ci 0))
 .nil))
 10 none (tm 9) (.cst (.bool false))
 (mv 11 10
 (.ite 11 true
 (opg 12 11 true (.mov (tm 1))
 (opg 13 11 true (.bin .lss (tm 12) (ci 10))
 .nil))
 14 none (tm 13) (.cst (.bool false))
 (mv 15 14
 (.ite 15 true
 (opg 16 15 true (.mov (tm 0))
 (opg 17 15 true (.mov (tm 1))
 (opg 18 15 true (.bin .shr (tm 16) (tm 17))
 (opg 19 15 true (.bin .and (tm 18) (ci 1))
 (opg 20 15 true (.bin .eql (tm 19) (ci 1))
 .nil)))))
 21 none (tm 20) (.cst (.bool false))
 (mv 4 21
 .nil)))))))))
 .ret))
noncomputable def F_ref01_Has (a0 : Int) (a1 : Int) : Option Bool :=
 Option.bind (F_ref01_Valid a0) fun r1 =>
 Option.bind (bif r1 then
 some (decide ((0 : Int) ≤ a1))
 else some false) fun b2 =>
 Option.bind (bif b2 then
 some (decide (a1 < (10 : Int)))
 else some false) fun b3 =>
 Option.bind (bif b3 then
 if a1 < 0 then none else
 some (decide ((andI .i64 (shrI .i64 a0 a1) (1 : Int)) = (1 : Int)))
 else some false) fun b4 =>
 some b4
noncomputable def k_ref01_Has : KS U Tryz.prog := ⟨.fn 169 [.ty (Ty.i .i64), .ty (Ty.i .i64)] (.one Ty.bool) fun a => F_ref01_Has a.1 a.2.1, fnS (K := K) sa_ref01_Has 22 [.tmp 4] [k_ref01_Valid] (fk Tryz.f169 [] Tryz.func169)⟩

/-! ### trustquorum/trustquorumref01.Of -/
def sa_ref01_Of : SA U :=
 (sr
 (mc 2 0
 (mc 3 0
 .nil))
 (sr
 (mc 4 0
 .nil)
 (.seq
 (sr
 (mv 7 0
 (op 8 (.len false (tm 7))
 (mc 9 0
 .nil)))
 (.block 0
 (.loop ⟨[.val 4 (Ty.i .i64), .val 9 (Ty.i .i64)], [7, 8]⟩
 (sr
 (op 10 (.bin .lss (tm 9) (tm 8))
 .nil)
 (.seq
 (.cond (tm 10)
 .skip
 (.exit 0))
 (.seq
 (.block 1
 (sr
 (ia 11 1 7 9
 (ld 12 11
 (mv 6 12
 .nil)))
 (.seq
 (sr
 (mv 13 6
 (op 14 (.bin .lss (tm 13) (ci 0))
 (mv 15 14
 (.ite 15 false
 (opg 16 15 false (.mov (tm 6))
 (opg 17 15 false (.bin .geq (tm 16) (ci 10))
 .nil))
 18 none (.cst (.bool true)) (tm 17)
 .nil))))
 (.cond (tm 18)
 (sr
 (mc 2 0
 (mc 3 5
 .nil))
 .ret)
 .skip))
 (.seq
 (sr
 (mv 19 4
 (mv 20 6
 (cl 21 169 [19, 20]
 .nil)))
 (.cond (tm 21)
 (sr
 (mc 2 0
 (mc 3 6
 .nil))
 .ret)
 .skip))
 (.reg
 (mv 22 4
 (mv 23 6
 (op 24 (.bin .shl (ci 1) (tm 23))
 (op 25 (.bin .or (tm 22) (tm 24))
 (mv 4 25
 .nil))))))))))
 (.reg
 (op 26 (.bin .add (tm 9) (ci 1))
 (mv 9 26
 .nil)))))))))
 (sr
 (mv 27 4
 (mv 2 27
 (mc 3 0
 .nil)))
 .ret))))
noncomputable def F_ref01_Of (a0 : (List Int)) : Option (Int × Int × Unit) :=
 loopO (fun (v1 : Int × Int × Unit) =>
 bif (decide (v1.2.1 < ((List.length a0 : Nat) : Int))) then
 Option.bind (idx a0 v1.2.1) fun x2 =>
 Option.bind (bif (decide (x2 < (0 : Int))) then some true
 else
 some (decide ((10 : Int) ≤ x2))) fun b3 =>
 bif b3 then
 Option.map Sum.inr (some ((0 : Int), (5 : Int), ()))
 else
 Option.bind (F_ref01_Has v1.1 x2) fun r4 =>
 bif r4 then
 Option.map Sum.inr (some ((0 : Int), (6 : Int), ()))
 else
 if x2 < 0 then none else
 some (Sum.inl ((orI .i64 v1.1 (shlI .i64 (1 : Int) x2)), (addI .i64 v1.2.1 (1 : Int)), ()))
 else
 Option.map Sum.inr (some (v1.1, (0 : Int), ()))) ((0 : Int), (0 : Int), ())
noncomputable def k_ref01_Of : KS U Tryz.prog := ⟨.fn 199 [.ty (Ty.sl (Ty.i .i64))] (.many [(Ty.i .i64), (Ty.i .i64)]) fun a => F_ref01_Of a.1, fnS (K := K) sa_ref01_Of 28 [.tmp 2, .tmp 3] [k_ref01_Has] (fk Tryz.f199 [] Tryz.func199)⟩

/-! ### trustquorum/trustquorumref02.check -/
def sa_ref02_check : SA U :=
 (sr
 (op 1 (.box (tm 0))
 (mc 2 0
 .nil))
 (.seq
 (sr
 (fa 10 0 1
 (ld 11 10
 (op 12 (.bin .lss (tm 11) (ci 1))
 (mv 13 12
 (.ite 13 false
 (opg 14 13 false (.faddr 0 (tm 1))
 (opg 15 13 false (.load none (tm 14))
 (opg 16 13 false (.faddr 1 (tm 1))
 (opg 17 13 false (.load none (tm 16))
 (opg 18 13 false (.len false (tm 17))
 (opg 19 13 false (.faddr 2 (tm 1))
 (opg 20 13 false (.load none (tm 19))
 (opg 21 13 false (.len false (tm 20))
 (opg 22 13 false (.bin .add (tm 18) (tm 21))
 (opg 23 13 false (.bin .gtr (tm 15) (tm 22))
 .nil))))))))))
 24 none (.cst (.bool true)) (tm 23)
 .nil)))))
 (.cond (tm 24)
 (sr
 (mc 2 4
 .nil)
 .ret)
 .skip))
 (.seq
 (sr
 (fa 25 1 1
 (ld 26 25
 (op 27 (.len false (tm 26))
 (mc 28 0
 .nil))))
 (.block 0
 (.loop ⟨[.val 28 (Ty.i .i64)], [1, 26, 27]⟩
 (sr
 (op 29 (.bin .lss (tm 28) (tm 27))
 .nil)
 (.seq
 (.cond (tm 29)
 .skip
 (.exit 0))
 (.seq
 (.block 1
 (sr
 (ia 30 1 26 28
 (ld 31 30
 (mv 4 31
 .nil)))
 (sr
 (mv 32 4
 (op 33 (.bin .lss (tm 32) (ci 0))
 (mv 34 33
 (.ite 34 false
 (opg 35 34 false (.mov (tm 4))
 (opg 36 34 false (.bin .geq (tm 35) (ci 10))
 .nil))
 37 none (.cst (.bool true)) (tm 36)
 .nil))))
 (.cond (tm 37)
 (sr
 (mc 2 5
 .nil)
 .ret)
 .skip))))
 (.reg
 (op 38 (.bin .add (tm 28) (ci 1))
 (mv 28 38
 .nil)))))))))
 (.seq
 (sr
 (fa 40 1 1
 (ld 41 40
 (cl 42 199 [41]
 (mv 39 42
 (op 43 (.extr 0 (tm 39))
 (op 44 (.extr 1 (tm 39))
 (mv 5 43
 (mv 6 44
 .nil))))))))
 (sr
 (mv 45 6
 (op 46 (.bin .neq (tm 45) (ci 0))
 .nil))
 (.cond (tm 46)
 (sr
 (mv 47 6
 (mv 2 47
 .nil))
 .ret)
 .skip)))
 (.seq
 (sr
 (fa 48 2 1
 (ld 49 48
 (op 50 (.len false (tm 49))
 (mc 51 0
 .nil))))
 (.block 2
 (.loop ⟨[.val 51 (Ty.i .i64)], [49, 50]⟩
 (sr
 (op 52 (.bin .lss (tm 51) (tm 50))
 .nil)
 (.seq
 (.cond (tm 52)
 .skip
 (.exit 2))
 (.seq
 (.block 3
 (sr
 (ia 53 3 49 51
 (ldk 54 3 53
 (op 8 (.alloc [.int .i64 0, .nils, .nils])
 (ops (.store 3 (tm 8) (tm 54))
 .nil))))
 (sr
 (ldk 55 3 8
 (cl 56 179 [55]
 (mv 9 56
 .nil)))
 (sr
 (mv 57 9
 (op 58 (.bin .neq (tm 57) (ci 0))
 .nil))
 (.cond (tm 58)
 (sr
 (mv 59 9
 (mv 2 59
 .nil))
 .ret)
 .skip)))))
 (.reg
 (op 60 (.bin .add (tm 51) (ci 1))
 (mv 51 60
 .nil)))))))))
 (sr
 (mc 2 0
 .nil)
 .ret))))))
noncomputable def B_ref02_check (rec : (TTrust × Unit) → Option Int) (a0 : TTrust) : Option Int :=
 Option.bind (bif (decide (a0.Threshold < (1 : Int))) then some true
 else
 some (decide ((addI .i64 ((List.length a0.Nodes : Nat) : Int) ((List.length a0.Inner : Nat) : Int)) < a0.Threshold))) fun b1 =>
 bif b1 then
 some (4 : Int)
 else
 loopO (fun (v2 : Int × Unit) =>
 bif (decide (v2.1 < ((List.length a0.Nodes : Nat) : Int))) then
 Option.bind (idx a0.Nodes v2.1) fun x3 =>
 Option.bind (bif (decide (x3 < (0 : Int))) then some true
 else
 some (decide ((10 : Int) ≤ x3))) fun b4 =>
 bif b4 then
 Option.map Sum.inr (some (5 : Int))
 else
 some (Sum.inl ((addI .i64 v2.1 (1 : Int)), ()))
 else
 Option.map Sum.inr (Option.bind (F_ref01_Of a0.Nodes) fun r5 =>
 bif (!decide (r5.2.1 = (0 : Int))) then
 some r5.2.1
 else
 loopO (fun (v6 : Int × Unit) =>
 bif (decide (v6.1 < ((List.length a0.Inner : Nat) : Int))) then
 Option.bind (idx a0.Inner v6.1) fun x7 =>
 Option.bind (rec ((TTrust.mk x7.Threshold x7.Nodes x7.Inner), ())) fun r8 =>
 bif (!decide (r8 = (0 : Int))) then
 Option.map Sum.inr (some r8)
 else
 some (Sum.inl ((addI .i64 v6.1 (1 : Int)), ()))
 else
 Option.map Sum.inr (some (0 : Int))) ((0 : Int), ()))) ((0 : Int), ())
noncomputable def I_ref02_check : Nat → (TTrust × Unit) → Option Int := iterF (fun rec a => B_ref02_check rec a.1)
noncomputable def F_ref02_check (a0 : TTrust) : Option Int := I_ref02_check (SizeOf.sizeOf a0 + 1) (a0, ())
noncomputable def k_ref02_check : KS U Tryz.prog := ⟨.fn 179 [.ty (Ty.st .Trust)] (.one (Ty.i .i64)) fun a => F_ref02_check a.1, fnRS (K := K) («as» := [.ty (Ty.st .Trust)]) (r := .one (Ty.i .i64)) (B := fun rec a => B_ref02_check rec a.1) sa_ref02_check 61 [.tmp 2] [k_ref01_Of] (fk Tryz.f179 [] Tryz.func179) (hF := fun a => ⟨_, rfl⟩)⟩

/-! ### trustquorum/trustquorumref02.Valid -/
def sa_ref02_Valid : SA U :=
 (sr
 (op 1 (.box (tm 0))
 (mc 2 0
 .nil))
 (.seq
 (sr
 (ldk 3 3 1
 (cl 4 177 [3]
 (op 5 (.bin .gtr (tm 4) (ci 4))
 (mv 6 5
 (.ite 6 false
 (opg 7 6 false (.load (some 3) (tm 1))
 (opg 8 6 false (.call 178 [(tm 7)])
 (opg 9 6 false (.bin .gtr (tm 8) (ci 200))
 .nil)))
 10 none (.cst (.bool true)) (tm 9)
 .nil)))))
 (.cond (tm 10)
 (sr
 (mc 2 3
 .nil)
 .ret)
 .skip))
 (sr
 (ldk 11 3 1
 (cl 12 179 [11]
 (mv 2 12
 .nil)))
 .ret)))
noncomputable def F_ref02_Valid (a0 : TTrust) : Option Int :=
 Option.bind (F_ref02_Depth (TTrust.mk a0.Threshold a0.Nodes a0.Inner)) fun r1 =>
 Option.bind (bif (decide ((4 : Int) < r1)) then some true
 else
 Option.bind (F_ref02_Size (TTrust.mk a0.Threshold a0.Nodes a0.Inner)) fun r2 =>
 some (decide ((200 : Int) < r2))) fun b3 =>
 bif b3 then
 some (3 : Int)
 else
 Option.bind (F_ref02_check (TTrust.mk a0.Threshold a0.Nodes a0.Inner)) fun r4 =>
 some r4
noncomputable def k_ref02_Valid : KS U Tryz.prog := ⟨.fn 139 [.ty (Ty.st .Trust)] (.one (Ty.i .i64)) fun a => F_ref02_Valid a.1, fnS (K := K) sa_ref02_Valid 13 [.tmp 2] [k_ref02_Depth, k_ref02_Size, k_ref02_check] (fk Tryz.f139 [] Tryz.func139)⟩

/-! ### trustquorum/trustquorumref23.Valid -/
def sa_ref23_Valid : SA U :=
 (sr
 (op 1 (.box (tm 0))
 (op 2 (.mov (.cst (.bool false)))
 .nil))
 (sr
 (fa 3 0 1
 (ld 4 3
 (op 5 (.bin .geq (tm 4) (ci 1))
 (mv 6 5
 (.ite 6 true
 (opg 7 6 true (.faddr 0 (tm 1))
 (opg 8 6 true (.load none (tm 7))
 (opg 9 6 true (.bin .leq (tm 8) (ci 1000))
 .nil)))
 10 none (tm 9) (.cst (.bool false))
 (mv 11 10
 (.ite 11 false
 (opg 12 11 false (.faddr 0 (tm 1))
 (opg 13 11 false (.load none (tm 12))
 (opg 14 11 false (.bin .eql (tm 13) (ci 1000000))
 .nil)))
 15 none (.cst (.bool true)) (tm 14)
 (mv 16 15
 (.ite 16 true
 (opg 17 16 true (.faddr 1 (tm 1))
 (opg 18 16 true (.load none (tm 17))
 (opg 19 16 true (.len true (tm 18))
 (opg 20 16 true (.bin .geq (tm 19) (ci 1))
 .nil))))
 21 none (tm 20) (.cst (.bool false))
 (mv 22 21
 (.ite 22 true
 (opg 23 22 true (.faddr 1 (tm 1))
 (opg 24 22 true (.load none (tm 23))
 (opg 25 22 true (.len true (tm 24))
 (opg 26 22 true (.bin .leq (tm 25) (ci 200))
 .nil))))
 27 none (tm 26) (.cst (.bool false))
 (mv 2 27
 .nil))))))))))))
 .ret))
noncomputable def F_ref23_Valid (a0 : TBallot) : Option Bool :=
 Option.bind (bif (decide ((1 : Int) ≤ a0.Counter)) then
 some (decide (a0.Counter ≤ (1000 : Int)))
 else some false) fun b1 =>
 Option.bind (bif b1 then some true
 else
 some (decide (a0.Counter = (1000000 : Int)))) fun b2 =>
 Option.bind (bif b2 then
 some (decide ((1 : Int) ≤ ((ByteArray.size a0.Value : Nat) : Int)))
 else some false) fun b3 =>
 Option.bind (bif b3 then
 some (decide (((ByteArray.size a0.Value : Nat) : Int) ≤ (200 : Int)))
 else some false) fun b4 =>
 some b4
noncomputable def k_ref23_Valid : KS U Tryz.prog := ⟨.fn 140 [.ty (Ty.st .Ballot)] (.one Ty.bool) fun a => F_ref23_Valid a.1, fnS (K := K) sa_ref23_Valid 28 [.tmp 2] [] (fk Tryz.f140 [] Tryz.func140)⟩

/-! ### trustquorum/trustquorumref23.Zero -/
def sa_ref23_Zero : SA U :=
 (sr
 (op 1 (.box (tm 0))
 (op 2 (.mov (.cst (.bool false)))
 .nil))
 (sr
 (ldk 3 2 1
 (op 4 (.build [.int .i64 0, .str ⟨#[]⟩] [])
 (op 5 (.eq2 false (tm 3) (tm 4))
 (mv 2 5
 .nil))))
 .ret))
noncomputable def F_ref23_Zero (a0 : TBallot) : Option Bool :=
 some (eq2 false a0.Counter (0 : Int) a0.Value (ByteArray.mk #[]))
noncomputable def k_ref23_Zero : KS U Tryz.prog := ⟨.fn 39 [.ty (Ty.st .Ballot)] (.one Ty.bool) fun a => F_ref23_Zero a.1, fnS (K := K) sa_ref23_Zero 6 [.tmp 2] [] (fk Tryz.f39 [] Tryz.func39)⟩

/-! ### trustquorum/trustquorumref23.LessValue -/
def sa_ref23_LessValue : SA U :=
 (sr
 (op 4 (.mov (.cst (.bool false)))
 .nil)
 (.seq
 (sr
 (mv 5 0
 (op 6 (.len true (tm 5))
 (mv 7 1
 (op 8 (.len true (tm 7))
 (op 9 (.bin .neq (tm 6) (tm 8))
 .nil)))))
 (.cond (tm 9)
 (sr
 (mv 10 0
 (op 11 (.len true (tm 10))
 (mv 12 1
 (op 13 (.len true (tm 12))
 (op 14 (.bin .lss (tm 11) (tm 13))
 (mv 4 14
 .nil))))))
 .ret)
 .skip))
 (sr
 (mv 15 0
 (mv 16 1
 (op 17 (.bin .lss (tm 15) (tm 16))
 (mv 4 17
 .nil))))
 .ret)))
noncomputable def F_ref23_LessValue (a0 : ByteArray) (a1 : ByteArray) : Option Bool :=
 bif (!decide (((ByteArray.size a0 : Nat) : Int) = ((ByteArray.size a1 : Nat) : Int))) then
 some (decide (((ByteArray.size a0 : Nat) : Int) < ((ByteArray.size a1 : Nat) : Int)))
 else
 some (sless a0 a1)
noncomputable def k_ref23_LessValue : KS U Tryz.prog := ⟨.fn 18 [.ty Ty.str, .ty Ty.str] (.one Ty.bool) fun a => F_ref23_LessValue a.1 a.2.1, fnS (K := K) sa_ref23_LessValue 18 [.tmp 4] [] (fk Tryz.f18 [] Tryz.func18)⟩

/-! ### trustquorum/trustquorumref23.Less -/
def sa_ref23_Less : SA U :=
 (sr
 (op 2 (.box (tm 0))
 (op 3 (.box (tm 1))
 (op 4 (.mov (.cst (.bool false)))
 .nil)))
 (.seq
 (sr
 (fa 5 0 2
 (ld 6 5
 (fa 7 0 3
 (ld 8 7
 (op 9 (.bin .neq (tm 6) (tm 8))
 .nil)))))
 (.cond (tm 9)
 (sr
 (fa 10 0 2
 (ld 11 10
 (fa 12 0 3
 (ld 13 12
 (op 14 (.bin .lss (tm 11) (tm 13))
 (mv 4 14
 .nil))))))
 .ret)
 .skip))
 (sr
 (fa 15 1 2
 (ld 16 15
 (fa 17 1 3
 (ld 18 17
 (cl 19 18 [16, 18]
 (mv 4 19
 .nil))))))
 .ret)))
noncomputable def F_ref23_Less (a0 : TBallot) (a1 : TBallot) : Option Bool :=
 bif (!decide (a0.Counter = a1.Counter)) then
 some (decide (a0.Counter < a1.Counter))
 else
 Option.bind (F_ref23_LessValue a0.Value a1.Value) fun r1 =>
 some r1
noncomputable def k_ref23_Less : KS U Tryz.prog := ⟨.fn 15 [.ty (Ty.st .Ballot), .ty (Ty.st .Ballot)] (.one Ty.bool) fun a => F_ref23_Less a.1 a.2.1, fnS (K := K) sa_ref23_Less 20 [.tmp 4] [k_ref23_LessValue] (fk Tryz.f15 [] Tryz.func15)⟩

/-! ### trustquorum/trustquorumref23.Compatible -/
def sa_ref23_Compatible : SA U :=
 (sr
 (op 2 (.box (tm 0))
 (op 3 (.box (tm 1))
 (op 4 (.mov (.cst (.bool false)))
 .nil)))
 (sr
 (fa 5 1 2
 (ld 6 5
 (fa 7 1 3
 (ld 8 7
 (op 9 (.bin .eql (tm 6) (tm 8))
 (mv 4 9
 .nil))))))
 .ret))
noncomputable def F_ref23_Compatible (a0 : TBallot) (a1 : TBallot) : Option Bool :=
 some (decide (a0.Value = a1.Value))
noncomputable def k_ref23_Compatible : KS U Tryz.prog := ⟨.fn 106 [.ty (Ty.st .Ballot), .ty (Ty.st .Ballot)] (.one Ty.bool) fun a => F_ref23_Compatible a.1 a.2.1, fnS (K := K) sa_ref23_Compatible 10 [.tmp 4] [] (fk Tryz.f106 [] Tryz.func106)⟩

/-! ### trustquorum/trustquorumref23.Covers -/
def sa_ref23_Covers : SA U :=
 (sr
 (op 2 (.box (tm 0))
 (op 3 (.box (tm 1))
 (op 4 (.mov (.cst (.bool false)))
 .nil)))
 (sr
 (ldk 5 2 2
 (cl 6 39 [5]
 (op 7 (.not (tm 6))
 (mv 8 7
 (.ite 8 true
 (opg 9 8 true (.load (some 2) (tm 2))
 (opg 10 8 true (.load (some 2) (tm 3))
 (opg 11 8 true (.call 106 [(tm 9), (tm 10)])
 .nil)))
 12 none (tm 11) (.cst (.bool false))
 (mv 13 12
 (.ite 13 true
 (opg 14 13 true (.faddr 0 (tm 2))
 (opg 15 13 true (.load none (tm 14))
 (opg 16 13 true (.faddr 0 (tm 3))
 (opg 17 13 true (.load none (tm 16))
 (opg 18 13 true (.bin .geq (tm 15) (tm 17))
 .nil)))))
 19 none (tm 18) (.cst (.bool false))
 (mv 4 19
 .nil))))))))
 .ret))
noncomputable def F_ref23_Covers (a0 : TBallot) (a1 : TBallot) : Option Bool :=
 Option.bind (F_ref23_Zero a0) fun r1 =>
 Option.bind (bif (!r1) then
 Option.bind (F_ref23_Compatible a0 a1) fun r2 =>
 some r2
 else some false) fun b3 =>
 Option.bind (bif b3 then
 some (decide (a1.Counter ≤ a0.Counter))
 else some false) fun b4 =>
 some b4
noncomputable def k_ref23_Covers : KS U Tryz.prog := ⟨.fn 112 [.ty (Ty.st .Ballot), .ty (Ty.st .Ballot)] (.one Ty.bool) fun a => F_ref23_Covers a.1 a.2.1, fnS (K := K) sa_ref23_Covers 20 [.tmp 4] [k_ref23_Zero, k_ref23_Compatible] (fk Tryz.f112 [] Tryz.func112)⟩

/-! ### trustquorum/trustquorumref23.Prepares -/
def sa_ref23_Prepares : SA U :=
 (sr
 (op 3 (.box (tm 0))
 (op 4 (.box (tm 1))
 (op 5 (.box (tm 2))
 (op 6 (.mov (.cst (.bool false)))
 .nil))))
 (sr
 (ldk 7 2 3
 (ldk 8 2 5
 (cl 9 112 [7, 8]
 (mv 10 9
 (.ite 10 false
 (opg 11 10 false (.load (some 2) (tm 4))
 (opg 12 10 false (.load (some 2) (tm 5))
 (opg 13 10 false (.call 112 [(tm 11), (tm 12)])
 .nil)))
 14 none (.cst (.bool true)) (tm 13)
 (mv 15 14
 (.ite 15 false
 (opg 16 15 false (.load (some 2) (tm 4))
 (opg 17 15 false (.call 39 [(tm 16)])
 (opg 18 15 false (.not (tm 17))
 (opg 19 15 false (.mov (tm 18))
 (.ite 19 true
 (opg 20 19 true (.load (some 2) (tm 5))
 (opg 21 19 true (.load (some 2) (tm 4))
 (opg 22 19 true (.call 15 [(tm 20), (tm 21)])
 .nil)))
 23 (some (15, false)) (tm 22) (.cst (.bool false))
 .nil)))))
 24 none (.cst (.bool true)) (tm 23)
 (mv 6 24
 .nil))))))))
 .ret))
noncomputable def F_ref23_Prepares (a0 : TBallot) (a1 : TBallot) (a2 : TBallot) : Option Bool :=
 Option.bind (F_ref23_Covers a0 a2) fun r1 =>
 Option.bind (bif r1 then some true
 else
 Option.bind (F_ref23_Covers a1 a2) fun r2 =>
 some r2) fun b3 =>
 Option.bind (bif b3 then some true
 else
 Option.bind (F_ref23_Zero a1) fun r4 =>
 Option.bind (bif (!r4) then
 Option.bind (F_ref23_Less a2 a1) fun r5 =>
 some r5
 else some false) fun b6 =>
 some b6) fun b7 =>
 some b7
noncomputable def k_ref23_Prepares : KS U Tryz.prog := ⟨.fn 40 [.ty (Ty.st .Ballot), .ty (Ty.st .Ballot), .ty (Ty.st .Ballot)] (.one Ty.bool) fun a => F_ref23_Prepares a.1 a.2.1 a.2.2.1, fnS (K := K) sa_ref23_Prepares 25 [.tmp 6] [k_ref23_Covers, k_ref23_Zero, k_ref23_Less] (fk Tryz.f40 [] Tryz.func40)⟩

/-! ### trustquorum/trustquorumref23.Aborts -/
def sa_ref23_Aborts : SA U :=
 (sr
 (op 2 (.box (tm 0))
 (op 3 (.box (tm 1))
 (op 4 (.mov (.cst (.bool false)))
 .nil)))
 (sr
 (ldk 5 2 2
 (cl 6 39 [5]
 (op 7 (.not (tm 6))
 (mv 8 7
 (.ite 8 true
 (opg 9 8 true (.load (some 2) (tm 2))
 (opg 10 8 true (.load (some 2) (tm 3))
 (opg 11 8 true (.call 106 [(tm 9), (tm 10)])
 (opg 12 8 true (.not (tm 11))
 .nil))))
 13 none (tm 12) (.cst (.bool false))
 (mv 14 13
 (.ite 14 true
 (opg 15 14 true (.load (some 2) (tm 3))
 (opg 16 14 true (.load (some 2) (tm 2))
 (opg 17 14 true (.call 15 [(tm 15), (tm 16)])
 .nil)))
 18 none (tm 17) (.cst (.bool false))
 (mv 4 18
 .nil))))))))
 .ret))
noncomputable def F_ref23_Aborts (a0 : TBallot) (a1 : TBallot) : Option Bool :=
 Option.bind (F_ref23_Zero a0) fun r1 =>
 Option.bind (bif (!r1) then
 Option.bind (F_ref23_Compatible a0 a1) fun r2 =>
 some (!r2)
 else some false) fun b3 =>
 Option.bind (bif b3 then
 Option.bind (F_ref23_Less a1 a0) fun r4 =>
 some r4
 else some false) fun b5 =>
 some b5
noncomputable def k_ref23_Aborts : KS U Tryz.prog := ⟨.fn 141 [.ty (Ty.st .Ballot), .ty (Ty.st .Ballot)] (.one Ty.bool) fun a => F_ref23_Aborts a.1 a.2.1, fnS (K := K) sa_ref23_Aborts 19 [.tmp 4] [k_ref23_Zero, k_ref23_Compatible, k_ref23_Less] (fk Tryz.f141 [] Tryz.func141)⟩

/-! ### trustquorum/trustquorumref24.Valid -/
def sa_ref24_Valid : SA U :=
 (sr
 (op 1 (.box (tm 0))
 (op 2 (.mov (.cst (.bool false)))
 .nil))
 (.seq
 (sr
 (fa 6 0 1
 (ld 7 6
 (op 8 (.bin .lss (tm 7) (ci 0))
 (mv 9 8
 (.ite 9 false
 (opg 10 9 false (.faddr 0 (tm 1))
 (opg 11 9 false (.load none (tm 10))
 (opg 12 9 false (.bin .gtr (tm 11) (ci 9))
 .nil)))
 13 none (.cst (.bool true)) (tm 12)
 (mv 14 13
 (.ite 14 false
 (opg 15 14 false (.faddr 1 (tm 1))
 (opg 16 14 false (.load none (tm 15))
 (opg 17 14 false (.bin .lss (tm 16) (ci 1))
 .nil)))
 18 none (.cst (.bool true)) (tm 17)
 (mv 19 18
 (.ite 19 false
 (opg 20 19 false (.faddr 1 (tm 1))
 (opg 21 19 false (.load none (tm 20))
 (opg 22 19 false (.bin .gtr (tm 21) (ci 1000000))
 .nil)))
 23 none (.cst (.bool true)) (tm 22)
 (mv 24 23
 (.ite 24 false
 (opg 25 24 false (.faddr 2 (tm 1))
 (opg 26 24 false (.load none (tm 25))
 (opg 27 24 false (.bin .lss (tm 26) (ci 1))
 .nil)))
 28 none (.cst (.bool true)) (tm 27)
 (mv 29 28
 (.ite 29 false
 (opg 30 29 false (.faddr 2 (tm 1))
 (opg 31 29 false (.load none (tm 30))
 (opg 32 29 false (.bin .gtr (tm 31) (ci 1000000))
 .nil)))
 33 none (.cst (.bool true)) (tm 32)
 (mv 34 33
 (.ite 34 false
 (opg 35 34 false (.faddr 3 (tm 1))
 (opg 36 34 false (.load (some 3) (tm 35))
 (opg 37 34 false (.call 139 [(tm 36)])
 (opg 38 34 false (.bin .neq (tm 37) (ci 0))
 .nil))))
 39 none (.cst (.bool true)) (tm 38)
 (mv 40 39
 (.ite 40 false
 (opg 41 40 false (.faddr 7 (tm 1))
 (opg 42 40 false (.load (some 2) (tm 41))
 (opg 43 40 false (.call 140 [(tm 42)])
 (opg 44 40 false (.not (tm 43))
 .nil))))
 45 none (.cst (.bool true)) (tm 44)
 .nil)))))))))))))))))
 (.cond (tm 45)
 (sr
 (op 2 (.mov (.cst (.bool false)))
 .nil)
 .ret)
 .skip))
 (sr
 (fa 46 9 1
 (ldk 47 2 46
 (cl 48 39 [47]
 (mv 3 48
 .nil))))
 (.seq
 (.drw [(0, 2), (1, 2), (0, 3), (1, 3), (0, 4), (1, 4), (0, 6), (1, 6), (2, 6), (3, 6), (4, 6), (0, 7), (1, 7), (2, 7), (3, 7), (4, 7), (0, 8), (1, 8), (2, 8), (3, 8), (4, 8), (6, 8), (7, 8), (0, 9), (1, 9), (2, 9), (3, 9), (4, 9), (6, 9), (7, 9), (0, 10), (1, 10), (2, 10), (3, 10), (4, 10), (6, 10), (7, 10), (0, 12), (1, 12), (2, 12), (3, 12), (4, 12), (6, 12), (7, 12), (8, 12), (9, 12), (10, 12), (0, 13), (1, 13), (2, 13), (3, 13), (4, 13), (6, 13), (7, 13), (8, 13), (9, 13), (10, 13), (12, 13), (6, 14), (7, 14), (8, 14), (9, 14), (10, 14)]
 (fa 49 13 1
 (ld 50 49
 (fa 51 7 1
 (fa 52 1 51
 (ld 53 52
 (op 54 (.build [.int .i64 0, .str ⟨#[]⟩] [(0, 1, (tm 50)), (1, 1, (tm 53))])
 (fa 55 14 1
 (ld 56 55
 (fa 57 7 1
 (fa 58 1 57
 (ld 59 58
 (op 60 (.build [.int .i64 0, .str ⟨#[]⟩] [(0, 1, (tm 56)), (1, 1, (tm 59))])
 (op 4 (.alloc [.int .i64 0, .str ⟨#[]⟩])
 (op 5 (.alloc [.int .i64 0, .str ⟨#[]⟩])
 (ops (.store 2 (tm 4) (tm 54))
 (ops (.store 2 (tm 5) (tm 60))
 .nil)))))))))))))))))
 (.seq
 (sr
 (fa 61 6 1
 (ld 62 61
 .nil))
 (.block 0
 (sr
 (op 64 (.bin .eql (tm 62) (ci 1))
 (mv 63 64
 .nil))
 (.cond (tm 63)
 (.seq
 (sr
 (fa 65 7 1
 (fa 66 0 65
 (ld 67 66
 (op 68 (.bin .gtr (tm 67) (ci 1000))
 (mv 69 68
 (.ite 69 false
 (opg 70 69 false (.mov (tm 3))
 (opg 71 69 false (.not (tm 70))
 (opg 72 69 false (.mov (tm 71))
 (.ite 72 true
 (opg 73 72 true (.faddr 9 (tm 1))
 (opg 74 72 true (.load (some 2) (tm 73))
 (opg 75 72 true (.call 140 [(tm 74)])
 (opg 76 72 true (.not (tm 75))
 .nil))))
 77 (some (69, false)) (tm 76) (.cst (.bool false))
 .nil))))
 78 none (.cst (.bool true)) (tm 77)
 .nil))))))
 (.cond (tm 78)
 (sr
 (op 2 (.mov (.cst (.bool false)))
 .nil)
 .ret)
 .skip))
 (.seq
 (sr
 (fa 79 11 1
 (ldk 80 2 79
 (cl 81 39 [80]
 (op 82 (.not (tm 81))
 (mv 83 82
 (.ite 83 true
 (opg 84 83 true (.mov (tm 3))
 (opg 85 83 true (.mov (tm 84))
 (.ite 85 false
 (opg 86 85 false (.faddr 11 (tm 1))
 (opg 87 85 false (.load (some 2) (tm 86))
 (opg 88 85 false (.call 140 [(tm 87)])
 (opg 89 85 false (.not (tm 88))
 .nil))))
 90 (some (83, true)) (.cst (.bool true)) (tm 89)
 (opg 91 83 true (.mov (tm 90))
 (.ite 91 false
 (opg 92 91 false (.faddr 11 (tm 1))
 (opg 93 91 false (.load (some 2) (tm 92))
 (opg 94 91 false (.faddr 9 (tm 1))
 (opg 95 91 false (.load (some 2) (tm 94))
 (opg 96 91 false (.call 15 [(tm 93), (tm 95)])
 (opg 97 91 false (.not (tm 96))
 .nil))))))
 98 (some (83, true)) (.cst (.bool true)) (tm 97)
 (opg 99 83 true (.mov (tm 98))
 (.ite 99 false
 (opg 100 99 false (.faddr 11 (tm 1))
 (opg 101 99 false (.load (some 2) (tm 100))
 (opg 102 99 false (.faddr 9 (tm 1))
 (opg 103 99 false (.load (some 2) (tm 102))
 (opg 104 99 false (.call 106 [(tm 101), (tm 103)])
 .nil)))))
 105 (some (83, true)) (.cst (.bool true)) (tm 104)
 .nil)))))))
 106 none (tm 105) (.cst (.bool false))
 .nil))))))
 (.cond (tm 106)
 (sr
 (op 2 (.mov (.cst (.bool false)))
 .nil)
 .ret)
 .skip))
 (.seq
 (sr
 (fa 107 13 1
 (ld 108 107
 (op 109 (.bin .lss (tm 108) (ci 0))
 (mv 110 109
 (.ite 110 false
 (opg 111 110 false (.faddr 13 (tm 1))
 (opg 112 110 false (.load none (tm 111))
 (opg 113 110 false (.faddr 14 (tm 1))
 (opg 114 110 false (.load none (tm 113))
 (opg 115 110 false (.bin .gtr (tm 112) (tm 114))
 .nil)))))
 116 none (.cst (.bool true)) (tm 115)
 (mv 117 116
 (.ite 117 false
 (opg 118 117 false (.faddr 14 (tm 1))
 (opg 119 117 false (.load none (tm 118))
 (opg 120 117 false (.faddr 7 (tm 1))
 (opg 121 117 false (.faddr 0 (tm 120))
 (opg 122 117 false (.load none (tm 121))
 (opg 123 117 false (.bin .gtr (tm 119) (tm 122))
 .nil))))))
 124 none (.cst (.bool true)) (tm 123)
 .nil)))))))
 (.cond (tm 124)
 (sr
 (op 2 (.mov (.cst (.bool false)))
 .nil)
 .ret)
 .skip))
 (.seq
 (sr
 (fa 125 14 1
 (ld 126 125
 (op 127 (.bin .gtr (tm 126) (ci 0))
 (mv 128 127
 (.ite 128 true
 (opg 129 128 true (.faddr 9 (tm 1))
 (opg 130 128 true (.load (some 2) (tm 129))
 (opg 131 128 true (.faddr 11 (tm 1))
 (opg 132 128 true (.load (some 2) (tm 131))
 (opg 133 128 true (.load (some 2) (tm 5))
 (opg 134 128 true (.call 40 [(tm 130), (tm 132), (tm 133)])
 (opg 135 128 true (.not (tm 134))
 .nil)))))))
 136 none (tm 135) (.cst (.bool false))
 .nil)))))
 (.cond (tm 136)
 (sr
 (op 2 (.mov (.cst (.bool false)))
 .nil)
 .ret)
 .skip))
 (sr
 (fa 137 13 1
 (ld 138 137
 (op 139 (.bin .eql (tm 138) (ci 0))
 (mv 140 139
 (.ite 140 false
 (opg 141 140 false (.faddr 9 (tm 1))
 (opg 142 140 false (.load (some 2) (tm 141))
 (opg 143 140 false (.load (some 2) (tm 4))
 (opg 144 140 false (.call 141 [(tm 142), (tm 143)])
 (opg 145 140 false (.not (tm 144))
 (opg 146 140 false (.mov (tm 145))
 (.ite 146 true
 (opg 147 146 true (.faddr 11 (tm 1))
 (opg 148 146 true (.load (some 2) (tm 147))
 (opg 149 146 true (.load (some 2) (tm 4))
 (opg 150 146 true (.call 141 [(tm 148), (tm 149)])
 (opg 151 146 true (.not (tm 150))
 .nil)))))
 152 (some (140, false)) (tm 151) (.cst (.bool false))
 .nil)))))))
 153 none (.cst (.bool true)) (tm 152)
 (mv 2 153
 .nil))))))
 .ret)))))
 (sr
 (op 155 (.bin .eql (tm 62) (ci 2))
 (mv 154 155
 .nil))
 (.cond (tm 154)
 (sr
 (fa 156 7 1
 (fa 157 0 156
 (ld 158 157
 (op 159 (.bin .leq (tm 158) (ci 1000))
 (mv 160 159
 (.ite 160 true
 (opg 161 160 true (.faddr 9 (tm 1))
 (opg 162 160 true (.load (some 2) (tm 161))
 (opg 163 160 true (.call 140 [(tm 162)])
 .nil)))
 164 none (tm 163) (.cst (.bool false))
 (mv 165 164
 (.ite 165 true
 (opg 166 165 true (.faddr 9 (tm 1))
 (opg 167 165 true (.load (some 2) (tm 166))
 (opg 168 165 true (.faddr 7 (tm 1))
 (opg 169 165 true (.load (some 2) (tm 168))
 (opg 170 165 true (.call 106 [(tm 167), (tm 169)])
 .nil)))))
 171 none (tm 170) (.cst (.bool false))
 (mv 172 171
 (.ite 172 true
 (opg 173 172 true (.faddr 11 (tm 1))
 (opg 174 172 true (.load (some 2) (tm 173))
 (opg 175 172 true (.call 39 [(tm 174)])
 .nil)))
 176 none (tm 175) (.cst (.bool false))
 (mv 177 176
 (.ite 177 true
 (opg 178 177 true (.faddr 13 (tm 1))
 (opg 179 177 true (.load none (tm 178))
 (opg 180 177 true (.bin .geq (tm 179) (ci 1))
 .nil)))
 181 none (tm 180) (.cst (.bool false))
 (mv 182 181
 (.ite 182 true
 (opg 183 182 true (.faddr 13 (tm 1))
 (opg 184 182 true (.load none (tm 183))
 (opg 185 182 true (.faddr 14 (tm 1))
 (opg 186 182 true (.load none (tm 185))
 (opg 187 182 true (.bin .leq (tm 184) (tm 186))
 .nil)))))
 188 none (tm 187) (.cst (.bool false))
 (mv 189 188
 (.ite 189 true
 (opg 190 189 true (.faddr 14 (tm 1))
 (opg 191 189 true (.load none (tm 190))
 (opg 192 189 true (.faddr 9 (tm 1))
 (opg 193 189 true (.faddr 0 (tm 192))
 (opg 194 189 true (.load none (tm 193))
 (opg 195 189 true (.bin .leq (tm 191) (tm 194))
 .nil))))))
 196 none (tm 195) (.cst (.bool false))
 (mv 197 196
 (.ite 197 true
 (opg 198 197 true (.faddr 14 (tm 1))
 (opg 199 197 true (.load none (tm 198))
 (opg 200 197 true (.bin .leq (tm 199) (ci 1000))
 .nil)))
 201 none (tm 200) (.cst (.bool false))
 (mv 2 201
 .nil)))))))))))))))))))
 .ret)
 (sr
 (op 203 (.bin .eql (tm 62) (ci 3))
 (mv 202 203
 .nil))
 (.cond (tm 202)
 (sr
 (mv 204 3
 (mv 205 204
 (.ite 205 true
 (opg 206 205 true (.faddr 11 (tm 1))
 (opg 207 205 true (.load (some 2) (tm 206))
 (opg 208 205 true (.call 39 [(tm 207)])
 .nil)))
 209 none (tm 208) (.cst (.bool false))
 (mv 210 209
 (.ite 210 true
 (opg 211 210 true (.faddr 13 (tm 1))
 (opg 212 210 true (.load none (tm 211))
 (opg 213 210 true (.bin .geq (tm 212) (ci 1))
 .nil)))
 214 none (tm 213) (.cst (.bool false))
 (mv 215 214
 (.ite 215 true
 (opg 216 215 true (.faddr 13 (tm 1))
 (opg 217 215 true (.load none (tm 216))
 (opg 218 215 true (.faddr 14 (tm 1))
 (opg 219 215 true (.load none (tm 218))
 (opg 220 215 true (.bin .leq (tm 217) (tm 219))
 .nil)))))
 221 none (tm 220) (.cst (.bool false))
 (mv 222 221
 (.ite 222 true
 (opg 223 222 true (.faddr 14 (tm 1))
 (opg 224 222 true (.load none (tm 223))
 (opg 225 222 true (.bin .leq (tm 224) (ci 1000))
 .nil)))
 226 none (tm 225) (.cst (.bool false))
 (mv 2 226
 .nil))))))))))
 .ret)
 .skip))))))))
 (sr
 (op 2 (.mov (.cst (.bool false)))
 .nil)
 .ret))))))
noncomputable def F_ref24_Valid (a0 : TEnvelope) : Option Bool :=
 Option.bind (bif (decide (a0.Node < (0 : Int))) then some true
 else
 some (decide ((9 : Int) < a0.Node))) fun b1 =>
 Option.bind (bif b1 then some true
 else
 some (decide (a0.Slot < (1 : Int)))) fun b2 =>
 Option.bind (bif b2 then some true
 else
 some (decide ((1000000 : Int) < a0.Slot))) fun b3 =>
 Option.bind (bif b3 then some true
 else
 some (decide (a0.Seq < (1 : Int)))) fun b4 =>
 Option.bind (bif b4 then some true
 else
 some (decide ((1000000 : Int) < a0.Seq))) fun b5 =>
 Option.bind (bif b5 then some true
 else
 Option.bind (F_ref02_Valid (TTrust.mk a0.Trust.Threshold a0.Trust.Nodes a0.Trust.Inner)) fun r6 =>
 some (!decide (r6 = (0 : Int)))) fun b7 =>
 Option.bind (bif b7 then some true
 else
 Option.bind (F_ref23_Valid a0.Ballot) fun r8 =>
 some (!r8)) fun b9 =>
 bif b9 then
 some false
 else
 Option.bind (F_ref23_Zero a0.Prepared) fun r10 =>
 bif (decide (a0.Kind = (1 : Int))) then
 Option.bind (bif (decide ((1000 : Int) < a0.Ballot.Counter)) then some true
 else
 Option.bind (bif (!r10) then
 Option.bind (F_ref23_Valid a0.Prepared) fun r11 =>
 some (!r11)
 else some false) fun b12 =>
 some b12) fun b13 =>
 bif b13 then
 some false
 else
 Option.bind (F_ref23_Zero a0.Prime) fun r14 =>
 Option.bind (bif (!r14) then
 Option.bind (bif r10 then some true
 else
 Option.bind (F_ref23_Valid a0.Prime) fun r15 =>
 some (!r15)) fun b16 =>
 Option.bind (bif b16 then some true
 else
 Option.bind (F_ref23_Less a0.Prime a0.Prepared) fun r17 =>
 some (!r17)) fun b18 =>
 Option.bind (bif b18 then some true
 else
 Option.bind (F_ref23_Compatible a0.Prime a0.Prepared) fun r19 =>
 some r19) fun b20 =>
 some b20
 else some false) fun b21 =>
 bif b21 then
 some false
 else
 Option.bind (bif (decide (a0.Low < (0 : Int))) then some true
 else
 some (decide (a0.High < a0.Low))) fun b22 =>
 Option.bind (bif b22 then some true
 else
 some (decide (a0.Ballot.Counter < a0.High))) fun b23 =>
 bif b23 then
 some false
 else
 Option.bind (bif (decide ((0 : Int) < a0.High)) then
 Option.bind (F_ref23_Prepares a0.Prepared a0.Prime (TBallot.mk a0.High a0.Ballot.Value)) fun r24 =>
 some (!r24)
 else some false) fun b25 =>
 bif b25 then
 some false
 else
 Option.bind (bif (decide (a0.Low = (0 : Int))) then some true
 else
 Option.bind (F_ref23_Aborts a0.Prepared (TBallot.mk a0.Low a0.Ballot.Value)) fun r26 =>
 Option.bind (bif (!r26) then
 Option.bind (F_ref23_Aborts a0.Prime (TBallot.mk a0.Low a0.Ballot.Value)) fun r27 =>
 some (!r27)
 else some false) fun b28 =>
 some b28) fun b29 =>
 some b29
 else
 bif (decide (a0.Kind = (2 : Int))) then
 Option.bind (bif (decide (a0.Ballot.Counter ≤ (1000 : Int))) then
 Option.bind (F_ref23_Valid a0.Prepared) fun r30 =>
 some r30
 else some false) fun b31 =>
 Option.bind (bif b31 then
 Option.bind (F_ref23_Compatible a0.Prepared a0.Ballot) fun r32 =>
 some r32
 else some false) fun b33 =>
 Option.bind (bif b33 then
 Option.bind (F_ref23_Zero a0.Prime) fun r34 =>
 some r34
 else some false) fun b35 =>
 Option.bind (bif b35 then
 some (decide ((1 : Int) ≤ a0.Low))
 else some false) fun b36 =>
 Option.bind (bif b36 then
 some (decide (a0.Low ≤ a0.High))
 else some false) fun b37 =>
 Option.bind (bif b37 then
 some (decide (a0.High ≤ a0.Prepared.Counter))
 else some false) fun b38 =>
 Option.bind (bif b38 then
 some (decide (a0.High ≤ (1000 : Int)))
 else some false) fun b39 =>
 some b39
 else
 bif (decide (a0.Kind = (3 : Int))) then
 Option.bind (bif r10 then
 Option.bind (F_ref23_Zero a0.Prime) fun r40 =>
 some r40
 else some false) fun b41 =>
 Option.bind (bif b41 then
 some (decide ((1 : Int) ≤ a0.Low))
 else some false) fun b42 =>
 Option.bind (bif b42 then
 some (decide (a0.Low ≤ a0.High))
 else some false) fun b43 =>
 Option.bind (bif b43 then
 some (decide (a0.High ≤ (1000 : Int)))
 else some false) fun b44 =>
 some b44
 else
 some false
noncomputable def k_ref24_Valid : KS U Tryz.prog := ⟨.fn 76 [.ty (Ty.st .Envelope)] (.one Ty.bool) fun a => F_ref24_Valid a.1, fnS (K := K) sa_ref24_Valid 227 [.tmp 2] [k_ref02_Valid, k_ref23_Valid, k_ref23_Zero, k_ref23_Less, k_ref23_Compatible, k_ref23_Prepares, k_ref23_Aborts] (fk Tryz.f76 [] Tryz.func76)⟩

/-! ### (*trustquorum/trustquorumplay.Src).Envelope -/
def sa_play_Src_Envelope : SA U :=
 (sr
 (op 8 (.alloc [.int .i64 0, .int .i64 0, .int .i64 0, .int .i64 0, .nils, .nils, .int .i64 0, .int .i64 0, .str ⟨#[]⟩, .int .i64 0, .str ⟨#[]⟩, .int .i64 0, .str ⟨#[]⟩, .int .i64 0, .int .i64 0])
 .nil)
 (sr
 (mv 11 1
 (mv 12 2
 (mv 13 0
 (op 14 (.call 25 [(tm 13), (ci 1), (ci 9)])
 (mv 15 0
 (mv 16 3
 (cl 17 23 [15, 16]
 (op 18 (.build [.int .i64 0, .int .i64 0, .int .i64 0, .int .i64 0, .nils, .nils, .int .i64 0, .int .i64 0, .str ⟨#[]⟩, .int .i64 0, .str ⟨#[]⟩, .int .i64 0, .str ⟨#[]⟩, .int .i64 0, .int .i64 0] [(0, 1, (tm 11)), (1, 1, (tm 12)), (2, 1, (tm 14)), (3, 3, (tm 17))])
 (op 9 (.alloc [.int .i64 0, .int .i64 0, .int .i64 0, .int .i64 0, .nils, .nils, .int .i64 0, .int .i64 0, .str ⟨#[]⟩, .int .i64 0, .str ⟨#[]⟩, .int .i64 0, .str ⟨#[]⟩, .int .i64 0, .int .i64 0])
 (ops (.store 15 (tm 9) (tm 18))
 .nil))))))))))
 (sr
 (mv 19 0
 (cl 20 24 [19]
 (mv 10 20
 .nil)))
 (.join ⟨[.box 0 0 (Ty.st .Src) [], .box 10 1 (Ty.st .Envelope) []], [8, 9]⟩
 (sr
 (mv 21 0
 (op 22 (.call 22 [(tm 21), (ci 4)])
 .nil))
 (.block 0
 (.join ⟨[.box 0 0 (Ty.st .Src) [], .box 10 1 (Ty.st .Envelope) []], [0, 8, 9, 10]⟩
 (.block 3
 (.seq
 (.block 2
 (.seq
 (.block 1
 (.seq
 (.seq
 (sr
 (op 24 (.bin .eql (tm 22) (ci 0))
 (mv 23 24
 .nil))
 (.cond (tm 23)
 (.exit 1)
 .skip))
 (sr
 (op 26 (.bin .eql (tm 22) (ci 1))
 (mv 25 26
 .nil))
 (.cond (tm 25)
 (.exit 2)
 .skip)))
 (.exit 3)))
 (.seq
 (sr
 (mv 27 0
 (op 28 (.call 25 [(tm 27), (ci 1), (ci 7)])
 (mv 29 10
 (op 30 (.build [.int .i64 0, .str ⟨#[]⟩] [(0, 1, (tm 28)), (1, 1, (tm 29))])
 (fa 31 6 9
 (ops (.store 1 (tm 31) (ci 2))
 (fa 32 7 9
 (ops (.store 2 (tm 32) (tm 30))
 .nil))))))))
 (sr
 (mv 33 0
 (op 34 (.call 25 [(tm 33), (ci 1), (ci 4)])
 (fa 35 13 9
 (ops (.store 1 (tm 35) (tm 34))
 .nil))))
 (.seq
 (.drw [(0, 3), (1, 3)]
 (fa 36 13 9
 (ld 37 36
 (mv 38 0
 (op 39 (.call 22 [(tm 38), (ci 3)])
 (op 40 (.bin .add (tm 37) (tm 39))
 (fa 41 14 9
 (ops (.store 1 (tm 41) (tm 40))
 .nil))))))))
 (.drw [(0, 3), (1, 3)]
 (fa 42 14 9
 (ld 43 42
 (mv 44 0
 (op 45 (.call 22 [(tm 44), (ci 3)])
 (op 46 (.bin .add (tm 43) (tm 45))
 (mv 47 10
 (op 48 (.build [.int .i64 0, .str ⟨#[]⟩] [(0, 1, (tm 46)), (1, 1, (tm 47))])
 (fa 49 9 9
 (ops (.store 2 (tm 49) (tm 48))
 .nil)))))))))))))
 (.exit 0))))
 (sr
 (mv 50 0
 (op 51 (.call 22 [(tm 50), (ci 3)])
 (op 52 (.bin .gtr (tm 51) (ci 0))
 .nil)))
 (.cond (tm 52)
 (sr
 (mv 53 0
 (op 54 (.call 25 [(tm 53), (ci 1), (ci 7)])
 (mv 55 10
 (op 56 (.build [.int .i64 0, .str ⟨#[]⟩] [(0, 1, (tm 54)), (1, 1, (tm 55))])
 (fa 57 6 9
 (ops (.store 1 (tm 57) (ci 3))
 (fa 58 7 9
 (ops (.store 2 (tm 58) (tm 56))
 .nil))))))))
 (sr
 (mv 59 0
 (op 60 (.call 25 [(tm 59), (ci 1), (ci 4)])
 (fa 61 13 9
 (ops (.store 1 (tm 61) (tm 60))
 .nil))))
 (.seq
 (.drw [(0, 3), (1, 3)]
 (fa 62 13 9
 (ld 63 62
 (mv 64 0
 (op 65 (.call 22 [(tm 64), (ci 3)])
 (op 66 (.bin .add (tm 63) (tm 65))
 (fa 67 14 9
 (ops (.store 1 (tm 67) (tm 66))
 .nil))))))))
 (.exit 0))))
 .skip))))
 (.join ⟨[.box 0 0 (Ty.st .Src) [], .box 10 1 (Ty.st .Envelope) []], [8, 9]⟩
 (sr
 (mv 68 0
 (op 69 (.call 25 [(tm 68), (ci 1), (ci 7)])
 (mv 70 10
 (op 71 (.build [.int .i64 0, .str ⟨#[]⟩] [(0, 1, (tm 69)), (1, 1, (tm 70))])
 (fa 72 6 9
 (ops (.store 1 (tm 72) (ci 1))
 (fa 73 7 9
 (ops (.store 2 (tm 73) (tm 71))
 .nil))))))))
 (.join ⟨[.box 0 0 (Ty.st .Src) [], .box 10 1 (Ty.st .Envelope) []], [0, 8, 9]⟩
 (sr
 (mv 74 0
 (op 75 (.call 22 [(tm 74), (ci 3)])
 (op 76 (.bin .gtr (tm 75) (ci 0))
 .nil)))
 (.cond (tm 76)
 (sr
 (mv 77 0
 (cl 78 33 [77]
 (fa 79 9 9
 (ops (.store 2 (tm 79) (tm 78))
 .nil))))
 (sr
 (mv 80 0
 (op 81 (.call 22 [(tm 80), (ci 2)])
 (op 82 (.bin .eql (tm 81) (ci 1))
 .nil)))
 (.cond (tm 82)
 (.reg
 (mv 83 0
 (cl 84 33 [83]
 (fa 85 11 9
 (ops (.store 2 (tm 85) (tm 84))
 .nil)))))
 .skip)))
 .skip))
 (sr
 (mv 86 0
 (fa 87 7 9
 (fa 88 0 87
 (ld 89 88
 (op 90 (.bin .add (tm 89) (ci 1))
 (cl 91 22 [86, 90]
 (fa 92 14 9
 (ops (.store 1 (tm 92) (tm 91))
 .nil))))))))
 (sr
 (mv 93 0
 (fa 94 14 9
 (ld 95 94
 (op 96 (.bin .add (tm 95) (ci 1))
 (cl 97 22 [93, 96]
 (fa 98 13 9
 (ops (.store 1 (tm 98) (tm 97))
 .nil)))))))
 (.join ⟨[.box 10 1 (Ty.st .Envelope) []], [8, 9]⟩
 (sr
 (ldk 99 15 9
 (cl 100 76 [99]
 (op 101 (.not (tm 100))
 .nil)))
 (.cond (tm 101)
 (.reg
 (fa 102 13 9
 (ops (.store 1 (tm 102) (ci 0))
 .nil)))
 .skip))
 (.join ⟨[.box 10 1 (Ty.st .Envelope) []], [8, 9]⟩
 (sr
 (ldk 103 15 9
 (cl 104 76 [103]
 (op 105 (.not (tm 104))
 .nil)))
 (.cond (tm 105)
 (.reg
 (fa 106 14 9
 (ops (.store 1 (tm 106) (ci 0))
 .nil)))
 .skip))
 (sr
 (ldk 107 15 9
 (cl 108 76 [107]
 (op 109 (.not (tm 108))
 .nil)))
 (.cond (tm 109)
 (.reg
 (op 110 (.build [.int .i64 0, .str ⟨#[]⟩] [])
 (fa 111 11 9
 (ops (.store 2 (tm 111) (tm 110))
 .nil))))
 .skip))))))))
 (.exit 0)))))
 (sr
 (ldk 112 15 9
 (ops (.store 15 (tm 8) (tm 112))
 .nil))
 .ret)))))
noncomputable def F_play_Src_Envelope (s : TSrc) (a0 : Int) (a1 : Int) (a2 : Int) : Option (TEnvelope × TSrc) :=
 Option.bind (F_play_Src_Range s (1 : Int) (9 : Int)) fun p1 =>
 Option.bind (F_play_Src_Trust p1.2 a2) fun p2 =>
 Option.bind (F_play_Src_Value p2.2) fun p3 =>
 letJ (fun (v4 : TSrc × TEnvelope × Unit) =>
 some ((TEnvelope.mk v4.2.1.Node v4.2.1.Slot v4.2.1.Seq (TTrust.mk v4.2.1.Trust.Threshold v4.2.1.Trust.Nodes v4.2.1.Trust.Inner) v4.2.1.Kind v4.2.1.Ballot v4.2.1.Prepared v4.2.1.Prime v4.2.1.Low v4.2.1.High), v4.1)) fun j5 =>
 Option.bind (F_play_Src_N p3.2 (4 : Int)) fun p6 =>
 letJ (fun (v7 : TSrc × TEnvelope × Unit) =>
 letJ (fun (v9 : TSrc × TEnvelope × Unit) =>
 j5 (v9.1, (TEnvelope.mk v9.2.1.Node v9.2.1.Slot v9.2.1.Seq (TTrust.mk v9.2.1.Trust.Threshold v9.2.1.Trust.Nodes v9.2.1.Trust.Inner) v9.2.1.Kind v9.2.1.Ballot v9.2.1.Prepared v9.2.1.Prime v9.2.1.Low v9.2.1.High), ())) fun j10 =>
 Option.bind (F_play_Src_Range v7.1 (1 : Int) (7 : Int)) fun p11 =>
 letJ (fun (v12 : TSrc × TEnvelope × Unit) =>
 Option.bind (F_play_Src_N v12.1 (addI .i64 v12.2.1.Ballot.Counter (1 : Int))) fun p14 =>
 Option.bind (F_play_Src_N p14.2 (addI .i64 p14.1 (1 : Int))) fun p15 =>
 letJ (fun (v16 : TEnvelope × Unit) =>
 letJ (fun (v18 : TEnvelope × Unit) =>
 Option.bind (F_ref24_Valid (TEnvelope.mk v18.1.Node v18.1.Slot v18.1.Seq (TTrust.mk v18.1.Trust.Threshold v18.1.Trust.Nodes v18.1.Trust.Inner) v18.1.Kind v18.1.Ballot v18.1.Prepared v18.1.Prime v18.1.Low v18.1.High)) fun r20 =>
 bif (!r20) then
 j10 (p15.2, (TEnvelope.mk v18.1.Node v18.1.Slot v18.1.Seq (TTrust.mk v18.1.Trust.Threshold v18.1.Trust.Nodes v18.1.Trust.Inner) v18.1.Kind v18.1.Ballot v18.1.Prepared (TBallot.mk (0 : Int) (ByteArray.mk #[])) v18.1.Low v18.1.High), ())
 else
 j10 (p15.2, (TEnvelope.mk v18.1.Node v18.1.Slot v18.1.Seq (TTrust.mk v18.1.Trust.Threshold v18.1.Trust.Nodes v18.1.Trust.Inner) v18.1.Kind v18.1.Ballot v18.1.Prepared v18.1.Prime v18.1.Low v18.1.High), ())) fun j19 =>
 Option.bind (F_ref24_Valid (TEnvelope.mk v16.1.Node v16.1.Slot v16.1.Seq (TTrust.mk v16.1.Trust.Threshold v16.1.Trust.Nodes v16.1.Trust.Inner) v16.1.Kind v16.1.Ballot v16.1.Prepared v16.1.Prime v16.1.Low v16.1.High)) fun r21 =>
 bif (!r21) then
 j19 ((TEnvelope.mk v16.1.Node v16.1.Slot v16.1.Seq (TTrust.mk v16.1.Trust.Threshold v16.1.Trust.Nodes v16.1.Trust.Inner) v16.1.Kind v16.1.Ballot v16.1.Prepared v16.1.Prime v16.1.Low (0 : Int)), ())
 else
 j19 ((TEnvelope.mk v16.1.Node v16.1.Slot v16.1.Seq (TTrust.mk v16.1.Trust.Threshold v16.1.Trust.Nodes v16.1.Trust.Inner) v16.1.Kind v16.1.Ballot v16.1.Prepared v16.1.Prime v16.1.Low v16.1.High), ())) fun j17 =>
 Option.bind (F_ref24_Valid (TEnvelope.mk v12.2.1.Node v12.2.1.Slot v12.2.1.Seq (TTrust.mk v12.2.1.Trust.Threshold v12.2.1.Trust.Nodes v12.2.1.Trust.Inner) v12.2.1.Kind v12.2.1.Ballot v12.2.1.Prepared v12.2.1.Prime p15.1 p14.1)) fun r22 =>
 bif (!r22) then
 j17 ((TEnvelope.mk v12.2.1.Node v12.2.1.Slot v12.2.1.Seq (TTrust.mk v12.2.1.Trust.Threshold v12.2.1.Trust.Nodes v12.2.1.Trust.Inner) v12.2.1.Kind v12.2.1.Ballot v12.2.1.Prepared v12.2.1.Prime (0 : Int) p14.1), ())
 else
 j17 ((TEnvelope.mk v12.2.1.Node v12.2.1.Slot v12.2.1.Seq (TTrust.mk v12.2.1.Trust.Threshold v12.2.1.Trust.Nodes v12.2.1.Trust.Inner) v12.2.1.Kind v12.2.1.Ballot v12.2.1.Prepared v12.2.1.Prime p15.1 p14.1), ())) fun j13 =>
 Option.bind (F_play_Src_N p11.2 (3 : Int)) fun p23 =>
 bif (decide ((0 : Int) < p23.1)) then
 Option.bind (F_play_Src_Low p23.2) fun p24 =>
 Option.bind (F_play_Src_N p24.2 (2 : Int)) fun p25 =>
 bif (decide (p25.1 = (1 : Int))) then
 Option.bind (F_play_Src_Low p25.2) fun p26 =>
 j13 (p26.2, (TEnvelope.mk v7.2.1.Node v7.2.1.Slot v7.2.1.Seq (TTrust.mk v7.2.1.Trust.Threshold v7.2.1.Trust.Nodes v7.2.1.Trust.Inner) (1 : Int) (TBallot.mk p11.1 p3.1) p24.1 p26.1 v7.2.1.Low v7.2.1.High), ())
 else
 j13 (p25.2, (TEnvelope.mk v7.2.1.Node v7.2.1.Slot v7.2.1.Seq (TTrust.mk v7.2.1.Trust.Threshold v7.2.1.Trust.Nodes v7.2.1.Trust.Inner) (1 : Int) (TBallot.mk p11.1 p3.1) p24.1 v7.2.1.Prime v7.2.1.Low v7.2.1.High), ())
 else
 j13 (p23.2, (TEnvelope.mk v7.2.1.Node v7.2.1.Slot v7.2.1.Seq (TTrust.mk v7.2.1.Trust.Threshold v7.2.1.Trust.Nodes v7.2.1.Trust.Inner) (1 : Int) (TBallot.mk p11.1 p3.1) v7.2.1.Prepared v7.2.1.Prime v7.2.1.Low v7.2.1.High), ())) fun j8 =>
 bif (decide (p6.1 = (0 : Int))) then
 Option.bind (F_play_Src_Range p6.2 (1 : Int) (7 : Int)) fun p27 =>
 Option.bind (F_play_Src_Range p27.2 (1 : Int) (4 : Int)) fun p28 =>
 Option.bind (F_play_Src_N p28.2 (3 : Int)) fun p29 =>
 Option.bind (F_play_Src_N p29.2 (3 : Int)) fun p30 =>
 j5 (p30.2, (TEnvelope.mk a0 a1 p1.1 (TTrust.mk p2.1.Threshold p2.1.Nodes p2.1.Inner) (2 : Int) (TBallot.mk p27.1 p3.1) (TBallot.mk (addI .i64 (addI .i64 p28.1 p29.1) p30.1) p3.1) (TBallot.mk (0 : Int) (ByteArray.mk #[])) p28.1 (addI .i64 p28.1 p29.1)), ())
 else
 bif (decide (p6.1 = (1 : Int))) then
 Option.bind (F_play_Src_N p6.2 (3 : Int)) fun p31 =>
 bif (decide ((0 : Int) < p31.1)) then
 Option.bind (F_play_Src_Range p31.2 (1 : Int) (7 : Int)) fun p32 =>
 Option.bind (F_play_Src_Range p32.2 (1 : Int) (4 : Int)) fun p33 =>
 Option.bind (F_play_Src_N p33.2 (3 : Int)) fun p34 =>
 j5 (p34.2, (TEnvelope.mk a0 a1 p1.1 (TTrust.mk p2.1.Threshold p2.1.Nodes p2.1.Inner) (3 : Int) (TBallot.mk p32.1 p3.1) (TBallot.mk (0 : Int) (ByteArray.mk #[])) (TBallot.mk (0 : Int) (ByteArray.mk #[])) p33.1 (addI .i64 p33.1 p34.1)), ())
 else
 j8 (p31.2, (TEnvelope.mk a0 a1 p1.1 (TTrust.mk p2.1.Threshold p2.1.Nodes p2.1.Inner) (0 : Int) (TBallot.mk (0 : Int) (ByteArray.mk #[])) (TBallot.mk (0 : Int) (ByteArray.mk #[])) (TBallot.mk (0 : Int) (ByteArray.mk #[])) (0 : Int) (0 : Int)), ())
 else
 j8 (p6.2, (TEnvelope.mk a0 a1 p1.1 (TTrust.mk p2.1.Threshold p2.1.Nodes p2.1.Inner) (0 : Int) (TBallot.mk (0 : Int) (ByteArray.mk #[])) (TBallot.mk (0 : Int) (ByteArray.mk #[])) (TBallot.mk (0 : Int) (ByteArray.mk #[])) (0 : Int) (0 : Int)), ())
noncomputable def k_play_Src_Envelope : KS U Tryz.prog := ⟨.rc 70 0 (Ty.st .Src) [.ty (Ty.i .i64), .ty (Ty.i .i64), .ty (Ty.i .i64)] (.one (Ty.st .Envelope)) fun s a => F_play_Src_Envelope s a.1 a.2.1 a.2.2.1, rcS (K := K) sa_play_Src_Envelope 113 [.cell 8 (some 15)] [k_play_Src_Range, k_play_Src_Trust, k_play_Src_Value, k_play_Src_N, k_play_Src_Low, k_ref24_Valid] (fk Tryz.f70 [] Tryz.func70)⟩

/-! ### (*trustquorum/trustquorumplay.Src).Envelopes -/
def sa_play_Src_Envelopes : SA U :=
 (sr
 (op 6 (.mov (.cst (.nils)))
 .nil)
 (sr
 (op 7 (.mov (.cst (.nils)))
 .nil)
 (.seq
 (sr
 (mc 8 0
 .nil)
 (.block 0
 (.ps (.own 7 38 15 (Ty.st .Envelope))
 (.loop ⟨[.val 8 (Ty.i .i64), .own 7 4 1 38 15 (Ty.st .Envelope), .box 0 0 (Ty.st .Src) []], [0, 1, 2]⟩
 (.seq
 (sr
 (mv 9 8
 (mv 10 1
 (op 11 (.bin .lss (tm 9) (tm 10))
 .nil)))
 (.cond (tm 11)
 .skip
 (.exit 0)))
 (.join ⟨[.own 7 4 1 38 15 (Ty.st .Envelope), .box 0 0 (Ty.st .Src) []], [0, 1, 2, 8]⟩
 (.block 1
 (sr
 (mv 14 0
 (op 15 (.call 22 [(tm 14), (ci 4)])
 (op 16 (.bin .gtr (tm 15) (ci 0))
 .nil)))
 (.cond (tm 16)
 (.reg
 (mv 17 7
 (mv 18 0
 (mv 19 8
 (mv 20 2
 (mv 21 1
 (cl 22 70 [18, 19, 20, 21]
 (op 23 (.bsl false 38 15 (List.replicate 1 [.int .i64 0, .int .i64 0, .int .i64 0, .int .i64 0, .nils, .nils, .int .i64 0, .int .i64 0, .str ⟨#[]⟩, .int .i64 0, .str ⟨#[]⟩, .int .i64 0, .str ⟨#[]⟩, .int .i64 0, .int .i64 0]) [(0, (tm 22))])
 (op 24 (.app 38 15 176 (tm 17) (tm 23))
 (mv 7 24
 .nil))))))))))
 .skip)))
 (.reg
 (mv 12 8
 (op 13 (.bin .add (tm 12) (ci 1))
 (mv 8 13
 .nil))))))))))
 (sr
 (mv 25 7
 (mv 6 25
 .nil))
 .ret))))
noncomputable def F_play_Src_Envelopes (s : TSrc) (a0 : Int) (a1 : Int) : Option ((List TEnvelope) × TSrc) :=
 loopO (fun (v1 : Int × (List TEnvelope) × TSrc × Unit) =>
 bif (decide (v1.1 < a0)) then
 letJ (fun (v2 : (List TEnvelope) × TSrc × Unit) =>
 some (Sum.inl ((addI .i64 v1.1 (1 : Int)), v2.1, v2.2.1, ()))) fun j3 =>
 Option.bind (F_play_Src_N v1.2.2.1 (4 : Int)) fun p4 =>
 bif (decide ((0 : Int) < p4.1)) then
 Option.bind (F_play_Src_Envelope p4.2 v1.1 a1 a0) fun p5 =>
 bif lenOk 176 (List.length v1.2.1 + List.length [(TEnvelope.mk p5.1.Node p5.1.Slot p5.1.Seq (TTrust.mk p5.1.Trust.Threshold p5.1.Trust.Nodes p5.1.Trust.Inner) p5.1.Kind p5.1.Ballot p5.1.Prepared p5.1.Prime p5.1.Low p5.1.High)]) then
 j3 ((v1.2.1 ++ [(TEnvelope.mk p5.1.Node p5.1.Slot p5.1.Seq (TTrust.mk p5.1.Trust.Threshold p5.1.Trust.Nodes p5.1.Trust.Inner) p5.1.Kind p5.1.Ballot p5.1.Prepared p5.1.Prime p5.1.Low p5.1.High)]), p5.2, ())
 else none
 else
 j3 (v1.2.1, p4.2, ())
 else
 Option.map Sum.inr (some (v1.2.1, v1.2.2.1))) ((0 : Int), ([] : List TEnvelope), s, ())
noncomputable def k_play_Src_Envelopes : KS U Tryz.prog := ⟨.rc 12 0 (Ty.st .Src) [.ty (Ty.i .i64), .ty (Ty.i .i64)] (.one (Ty.sl (Ty.st .Envelope))) fun s a => F_play_Src_Envelopes s a.1 a.2.1, rcS (K := K) sa_play_Src_Envelopes 26 [.tmp 6] [k_play_Src_N, k_play_Src_Envelope] (fk Tryz.f12 [] Tryz.func12)⟩

/-! ### trustquorum/threshold.Depth -/
def sa_threshold_Depth : SA U :=
 (sr
 (op 1 (.box (tm 0))
 (mc 2 0
 .nil))
 (sr
 (mc 3 0
 .nil)
 (.seq
 (sr
 (fa 6 2 1
 (ld 7 6
 (op 8 (.len false (tm 7))
 (mc 9 0
 .nil))))
 (.block 0
 (.loop ⟨[.val 3 (Ty.i .i64), .val 9 (Ty.i .i64)], [7, 8]⟩
 (sr
 (op 10 (.bin .lss (tm 9) (tm 8))
 .nil)
 (.seq
 (.cond (tm 10)
 .skip
 (.exit 0))
 (.seq
 (.block 1
 (sr
 (ia 11 3 7 9
 (ldk 12 3 11
 (op 5 (.alloc [.int .i64 0, .nils, .nils])
 (ops (.store 3 (tm 5) (tm 12))
 .nil))))
 (.reg
 (mv 13 3
 (ldk 14 3 5
 (cl 15 173 [14]
 (op 16 (.minmax true (tm 13) (tm 15))
 (mv 3 16
 .nil))))))))
 (.reg
 (op 17 (.bin .add (tm 9) (ci 1))
 (mv 9 17
 .nil)))))))))
 (sr
 (mv 18 3
 (op 19 (.bin .add (tm 18) (ci 1))
 (mv 2 19
 .nil)))
 .ret))))
noncomputable def B_threshold_Depth (rec : (TTrust × Unit) → Option Int) (a0 : TTrust) : Option Int :=
 loopO (fun (v1 : Int × Int × Unit) =>
 bif (decide (v1.2.1 < ((List.length a0.Inner : Nat) : Int))) then
 Option.bind (idx a0.Inner v1.2.1) fun x2 =>
 Option.bind (rec ((TTrust.mk x2.Threshold x2.Nodes x2.Inner), ())) fun r3 =>
 some (Sum.inl ((maxI v1.1 r3), (addI .i64 v1.2.1 (1 : Int)), ()))
 else
 Option.map Sum.inr (some (addI .i64 v1.1 (1 : Int)))) ((0 : Int), (0 : Int), ())
noncomputable def I_threshold_Depth : Nat → (TTrust × Unit) → Option Int := iterF (fun rec a => B_threshold_Depth rec a.1)
noncomputable def F_threshold_Depth (a0 : TTrust) : Option Int := I_threshold_Depth (SizeOf.sizeOf a0 + 1) (a0, ())
noncomputable def k_threshold_Depth : KS U Tryz.prog := ⟨.fn 173 [.ty (Ty.st .Trust)] (.one (Ty.i .i64)) fun a => F_threshold_Depth a.1, fnRS (K := K) («as» := [.ty (Ty.st .Trust)]) (r := .one (Ty.i .i64)) (B := fun rec a => B_threshold_Depth rec a.1) sa_threshold_Depth 20 [.tmp 2] [] (fk Tryz.f173 [] Tryz.func173) (hF := fun a => ⟨_, rfl⟩)⟩

/-! ### trustquorum/threshold.Size -/
def sa_threshold_Size : SA U :=
 (sr
 (op 1 (.box (tm 0))
 (mc 2 0
 .nil))
 (sr
 (fa 6 1 1
 (ld 7 6
 (op 8 (.len false (tm 7))
 (fa 9 2 1
 (ld 10 9
 (op 11 (.len false (tm 10))
 (op 12 (.bin .add (tm 8) (tm 11))
 (mv 3 12
 .nil))))))))
 (.seq
 (sr
 (fa 13 2 1
 (ld 14 13
 (op 15 (.len false (tm 14))
 (mc 16 0
 .nil))))
 (.block 0
 (.loop ⟨[.val 3 (Ty.i .i64), .val 16 (Ty.i .i64)], [14, 15]⟩
 (sr
 (op 17 (.bin .lss (tm 16) (tm 15))
 .nil)
 (.seq
 (.cond (tm 17)
 .skip
 (.exit 0))
 (.seq
 (.block 1
 (sr
 (ia 18 3 14 16
 (ldk 19 3 18
 (op 5 (.alloc [.int .i64 0, .nils, .nils])
 (ops (.store 3 (tm 5) (tm 19))
 .nil))))
 (.reg
 (mv 20 3
 (ldk 21 3 5
 (cl 22 174 [21]
 (op 23 (.bin .add (tm 20) (tm 22))
 (mv 3 23
 .nil))))))))
 (.reg
 (op 24 (.bin .add (tm 16) (ci 1))
 (mv 16 24
 .nil)))))))))
 (sr
 (mv 25 3
 (mv 2 25
 .nil))
 .ret))))
noncomputable def B_threshold_Size (rec : (TTrust × Unit) → Option Int) (a0 : TTrust) : Option Int :=
 loopO (fun (v1 : Int × Int × Unit) =>
 bif (decide (v1.2.1 < ((List.length a0.Inner : Nat) : Int))) then
 Option.bind (idx a0.Inner v1.2.1) fun x2 =>
 Option.bind (rec ((TTrust.mk x2.Threshold x2.Nodes x2.Inner), ())) fun r3 =>
 some (Sum.inl ((addI .i64 v1.1 r3), (addI .i64 v1.2.1 (1 : Int)), ()))
 else
 Option.map Sum.inr (some v1.1)) ((addI .i64 ((List.length a0.Nodes : Nat) : Int) ((List.length a0.Inner : Nat) : Int)), (0 : Int), ())
noncomputable def I_threshold_Size : Nat → (TTrust × Unit) → Option Int := iterF (fun rec a => B_threshold_Size rec a.1)
noncomputable def F_threshold_Size (a0 : TTrust) : Option Int := I_threshold_Size (SizeOf.sizeOf a0 + 1) (a0, ())
noncomputable def k_threshold_Size : KS U Tryz.prog := ⟨.fn 174 [.ty (Ty.st .Trust)] (.one (Ty.i .i64)) fun a => F_threshold_Size a.1, fnRS (K := K) («as» := [.ty (Ty.st .Trust)]) (r := .one (Ty.i .i64)) (B := fun rec a => B_threshold_Size rec a.1) sa_threshold_Size 26 [.tmp 2] [] (fk Tryz.f174 [] Tryz.func174) (hF := fun a => ⟨_, rfl⟩)⟩

/-! ### trustquorum/threshold.node -/
def sa_threshold_node : SA U :=
 (sr
 (op 2 (.mov (.cst (.bool false)))
 .nil)
 (sr
 (mv 3 0
 (op 4 (.bin .geq (tm 3) (ci 0))
 (mv 5 4
 (.ite 5 true
 (opg 6 5 true (.mov (tm 0))
 (opg 7 5 true (.bin .lss (tm 6) (ci 10))
 .nil))
 8 none (tm 7) (.cst (.bool false))
 (mv 2 8
 .nil)))))
 .ret))
noncomputable def F_threshold_node (a0 : Int) : Option Bool :=
 Option.bind (bif (decide ((0 : Int) ≤ a0)) then
 some (decide (a0 < (10 : Int)))
 else some false) fun b1 =>
 some b1
noncomputable def k_threshold_node : KS U Tryz.prog := ⟨.fn 197 [.ty (Ty.i .i64)] (.one Ty.bool) fun a => F_threshold_node a.1, fnS (K := K) sa_threshold_node 9 [.tmp 2] [] (fk Tryz.f197 [] Tryz.func197)⟩

/-! ### trustquorum/threshold.level$1 -/
def sa_threshold_level_1 : SA U :=
 (sr
 (op 2 (.mov (.cst (.bool false)))
 .nil)
 (sr
 (mv 3 0
 (cl 4 197 [3]
 (op 5 (.not (tm 4))
 (mv 2 5
 .nil))))
 .ret))
noncomputable def F_threshold_level_1 (a0 : Int) : Option Bool :=
 Option.bind (F_threshold_node a0) fun r1 =>
 some (!r1)
noncomputable def k_threshold_level_1 : KS U Tryz.prog := ⟨.fn 196 [.ty (Ty.i .i64)] (.one Ty.bool) fun a => F_threshold_level_1 a.1, fnS (K := K) sa_threshold_level_1 6 [.tmp 2] [k_threshold_node] (fk Tryz.f196 [] Tryz.func196)⟩

/-! ### slices.IndexFunc[[]int,int] -/
def sa_slices_IndexFunc_int_int_c196 : SA U :=
 (sr
 (mc 4 0
 .nil)
 (.seq
 (sr
 (mv 6 0
 (op 7 (.len false (tm 6))
 (mc 8 0
 .nil)))
 (.block 0
 (.loop ⟨[.val 8 (Ty.i .i64)], [0, 1, 7]⟩
 (sr
 (op 9 (.bin .lss (tm 8) (tm 7))
 .nil)
 (.seq
 (.cond (tm 9)
 .skip
 (.exit 0))
 (.seq
 (.block 1
 (sr
 (mv 10 8
 (mv 5 10
 .nil))
 (sr
 (mv 11 1
 (mv 12 0
 (mv 13 5
 (ia 14 1 12 13
 (ld 15 14
 (op 16 (.callv (tm 11) [(tm 15)])
 .nil))))))
 (.cond (tm 16)
 (sr
 (mv 17 5
 (mv 4 17
 .nil))
 .ret)
 .skip))))
 (.reg
 (op 18 (.bin .add (tm 8) (ci 1))
 (mv 8 18
 .nil)))))))))
 (sr
 (op 4 (.mov (.cst (.int .i64 (-1))))
 .nil)
 .ret)))
noncomputable def F_slices_IndexFunc_int_int_c196 (a0 : (List Int)) : Option Int :=
 loopO (fun (v1 : Int × Unit) =>
 bif (decide (v1.1 < ((List.length a0 : Nat) : Int))) then
 Option.bind (idx a0 v1.1) fun x2 =>
 Option.bind (F_threshold_level_1 x2) fun r3 =>
 bif r3 then
 Option.map Sum.inr (some v1.1)
 else
 some (Sum.inl ((addI .i64 v1.1 (1 : Int)), ()))
 else
 Option.map Sum.inr (some (-1 : Int))) ((0 : Int), ())
noncomputable def k_slices_IndexFunc_int_int_c196 : KS U Tryz.prog := ⟨.fn 231 [.ty (Ty.sl (Ty.i .i64)), .clo 196 []] (.one (Ty.i .i64)) fun a => F_slices_IndexFunc_int_int_c196 a.1, fnS (K := K) sa_slices_IndexFunc_int_int_c196 19 [.tmp 4] [k_threshold_level_1] (fk Tryz.f231 [] Tryz.func231)⟩

/-! ### slices.ContainsFunc[[]int,int] -/
def sa_slices_ContainsFunc_int_int_c196 : SA U :=
 (sr
 (op 4 (.mov (.cst (.bool false)))
 .nil)
 (sr
 (mv 5 0
 (mv 6 1
 (cl 7 231 [5, 6]
 (op 8 (.bin .geq (tm 7) (ci 0))
 (mv 4 8
 .nil)))))
 .ret))
noncomputable def F_slices_ContainsFunc_int_int_c196 (a0 : (List Int)) : Option Bool :=
 Option.bind (F_slices_IndexFunc_int_int_c196 a0) fun r1 =>
 some (decide ((0 : Int) ≤ r1))
noncomputable def k_slices_ContainsFunc_int_int_c196 : KS U Tryz.prog := ⟨.fn 195 [.ty (Ty.sl (Ty.i .i64)), .clo 196 []] (.one Ty.bool) fun a => F_slices_ContainsFunc_int_int_c196 a.1, fnS (K := K) sa_slices_ContainsFunc_int_int_c196 9 [.tmp 4] [k_slices_IndexFunc_int_int_c196] (fk Tryz.f195 [] Tryz.func195)⟩

/-! ### trustquorum/nodeset.below -/
def sa_nodeset_below : SA U :=
 (sr
 (op 4 (.mov (.cst (.bool false)))
 .nil)
 (sr
 (mv 5 0
 (op 6 (.bin .geq (tm 5) (ci 0))
 (mv 7 6
 (.ite 7 true
 (opg 8 7 true (.mov (tm 0))
 (opg 9 7 true (.mov (tm 1))
 (opg 10 7 true (.bin .shl (ci 1) (tm 9))
 (opg 11 7 true (.bin .lss (tm 8) (tm 10))
 .nil))))
 12 none (tm 11) (.cst (.bool false))
 (mv 4 12
 .nil)))))
 .ret))
noncomputable def F_nodeset_below (a0 : Int) (a1 : Int) : Option Bool :=
 Option.bind (bif (decide ((0 : Int) ≤ a0)) then
 if a1 < 0 then none else
 some (decide (a0 < (shlI .i64 (1 : Int) a1)))
 else some false) fun b1 =>
 some b1
noncomputable def k_nodeset_below : KS U Tryz.prog := ⟨.fn 243 [.ty (Ty.i .i64), .ty (Ty.i .i64)] (.one Ty.bool) fun a => F_nodeset_below a.1 a.2.1, fnS (K := K) sa_nodeset_below 13 [.tmp 4] [] (fk Tryz.f243 [] Tryz.func243)⟩

/-! ### trustquorum/nodeset.Valid -/
def sa_nodeset_Valid : SA U :=
 (sr
 (op 2 (.mov (.cst (.bool false)))
 .nil)
 (sr
 (mv 3 0
 (op 4 (.call 243 [(tm 3), (ci 10)])
 (mv 2 4
 .nil)))
 .ret))
noncomputable def F_nodeset_Valid (a0 : Int) : Option Bool :=
 Option.bind (F_nodeset_below a0 (10 : Int)) fun r1 =>
 some r1
noncomputable def k_nodeset_Valid : KS U Tryz.prog := ⟨.fn 226 [.ty (Ty.i .i64)] (.one Ty.bool) fun a => F_nodeset_Valid a.1, fnS (K := K) sa_nodeset_Valid 5 [.tmp 2] [k_nodeset_below] (fk Tryz.f226 [] Tryz.func226)⟩

/-! ### trustquorum/nodeset.Has -/
def sa_nodeset_Has : SA U :=
 (sr
 (op 4 (.mov (.cst (.bool false)))
 .nil)
 (sr
 (mv 5 0
 (cl 6 226 [5]
 (mv 7 6
 (.ite 7 true
 (opg 8 7 true (.mov (tm 1))
 (opg 9 7 true (.bin .geq (tm 8) (ci 0))
 .nil))
 10 none (tm 9) (.cst (.bool false))
 (mv 11 10
 (.ite 11 true
 (opg 12 11 true (.mov (tm 1))
 (opg 13 11 true (.bin .lss (tm 12) (ci 10))
 .nil))
 14 none (tm 13) (.cst (.bool false))
 (mv 15 14
 (.ite 15 true
 (opg 16 15 true (.mov (tm 0))
 (opg 17 15 true (.mov (tm 1))
 (opg 18 15 true (.bin .shl (ci 1) (tm 17))
 (opg 19 15 true (.bin .and (tm 16) (tm 18))
 (opg 20 15 true (.bin .neq (tm 19) (ci 0))
 .nil)))))
 21 none (tm 20) (.cst (.bool false))
 (mv 4 21
 .nil)))))))))
 .ret))
noncomputable def F_nodeset_Has (a0 : Int) (a1 : Int) : Option Bool :=
 Option.bind (F_nodeset_Valid a0) fun r1 =>
 Option.bind (bif r1 then
 some (decide ((0 : Int) ≤ a1))
 else some false) fun b2 =>
 Option.bind (bif b2 then
 some (decide (a1 < (10 : Int)))
 else some false) fun b3 =>
 Option.bind (bif b3 then
 if a1 < 0 then none else
 some (!decide ((andI .i64 a0 (shlI .i64 (1 : Int) a1)) = (0 : Int)))
 else some false) fun b4 =>
 some b4
noncomputable def k_nodeset_Has : KS U Tryz.prog := ⟨.fn 188 [.ty (Ty.i .i64), .ty (Ty.i .i64)] (.one Ty.bool) fun a => F_nodeset_Has a.1 a.2.1, fnS (K := K) sa_nodeset_Has 22 [.tmp 4] [k_nodeset_Valid] (fk Tryz.f188 [] Tryz.func188)⟩

/-! ### trustquorum/nodeset.Of -/
def sa_nodeset_Of : SA U :=
 (sr
 (mc 2 0
 (mc 3 0
 .nil))
 (sr
 (mc 4 0
 .nil)
 (.seq
 (sr
 (mv 7 0
 (op 8 (.len false (tm 7))
 (mc 9 0
 .nil)))
 (.block 0
 (.loop ⟨[.val 4 (Ty.i .i64), .val 9 (Ty.i .i64)], [7, 8]⟩
 (sr
 (op 10 (.bin .lss (tm 9) (tm 8))
 .nil)
 (.seq
 (.cond (tm 10)
 .skip
 (.exit 0))
 (.seq
 (.block 1
 (sr
 (ia 11 1 7 9
 (ld 12 11
 (mv 6 12
 .nil)))
 (.seq
 (sr
 (mv 13 6
 (op 14 (.bin .lss (tm 13) (ci 0))
 (mv 15 14
 (.ite 15 false
 (opg 16 15 false (.mov (tm 6))
 (opg 17 15 false (.bin .geq (tm 16) (ci 10))
 .nil))
 18 none (.cst (.bool true)) (tm 17)
 .nil))))
 (.cond (tm 18)
 (sr
 (mc 2 0
 (mc 3 5
 .nil))
 .ret)
 .skip))
 (.seq
 (sr
 (mv 19 4
 (mv 20 6
 (cl 21 188 [19, 20]
 .nil)))
 (.cond (tm 21)
 (sr
 (mc 2 0
 (mc 3 6
 .nil))
 .ret)
 .skip))
 (.reg
 (mv 22 4
 (mv 23 6
 (op 24 (.bin .shl (ci 1) (tm 23))
 (op 25 (.bin .or (tm 22) (tm 24))
 (mv 4 25
 .nil))))))))))
 (.reg
 (op 26 (.bin .add (tm 9) (ci 1))
 (mv 9 26
 .nil)))))))))
 (sr
 (mv 27 4
 (mv 2 27
 (mc 3 0
 .nil)))
 .ret))))
noncomputable def F_nodeset_Of (a0 : (List Int)) : Option (Int × Int × Unit) :=
 loopO (fun (v1 : Int × Int × Unit) =>
 bif (decide (v1.2.1 < ((List.length a0 : Nat) : Int))) then
 Option.bind (idx a0 v1.2.1) fun x2 =>
 Option.bind (bif (decide (x2 < (0 : Int))) then some true
 else
 some (decide ((10 : Int) ≤ x2))) fun b3 =>
 bif b3 then
 Option.map Sum.inr (some ((0 : Int), (5 : Int), ()))
 else
 Option.bind (F_nodeset_Has v1.1 x2) fun r4 =>
 bif r4 then
 Option.map Sum.inr (some ((0 : Int), (6 : Int), ()))
 else
 if x2 < 0 then none else
 some (Sum.inl ((orI .i64 v1.1 (shlI .i64 (1 : Int) x2)), (addI .i64 v1.2.1 (1 : Int)), ()))
 else
 Option.map Sum.inr (some (v1.1, (0 : Int), ()))) ((0 : Int), (0 : Int), ())
noncomputable def k_nodeset_Of : KS U Tryz.prog := ⟨.fn 198 [.ty (Ty.sl (Ty.i .i64))] (.many [(Ty.i .i64), (Ty.i .i64)]) fun a => F_nodeset_Of a.1, fnS (K := K) sa_nodeset_Of 28 [.tmp 2, .tmp 3] [k_nodeset_Has] (fk Tryz.f198 [] Tryz.func198)⟩

/-! ### trustquorum/threshold.level -/
def sa_threshold_level : SA U :=
 (sr
 (op 1 (.box (tm 0))
 (mc 2 0
 .nil))
 (.seq
 (sr
 (fa 8 0 1
 (ld 9 8
 (op 10 (.bin .lss (tm 9) (ci 1))
 (mv 11 10
 (.ite 11 false
 (opg 12 11 false (.faddr 0 (tm 1))
 (opg 13 11 false (.load none (tm 12))
 (opg 14 11 false (.faddr 1 (tm 1))
 (opg 15 11 false (.load none (tm 14))
 (opg 16 11 false (.len false (tm 15))
 (opg 17 11 false (.faddr 2 (tm 1))
 (opg 18 11 false (.load none (tm 17))
 (opg 19 11 false (.len false (tm 18))
 (opg 20 11 false (.bin .add (tm 16) (tm 19))
 (opg 21 11 false (.bin .gtr (tm 13) (tm 20))
 .nil))))))))))
 22 none (.cst (.bool true)) (tm 21)
 .nil)))))
 (.cond (tm 22)
 (sr
 (mc 2 4
 .nil)
 .ret)
 .skip))
 (.seq
 (sr
 (fa 23 1 1
 (ld 24 23
 (op 25 (.call 195 [(tm 24), (.cst (.clo 196 []))])
 .nil)))
 (.cond (tm 25)
 (sr
 (mc 2 5
 .nil)
 .ret)
 .skip))
 (.seq
 (sr
 (fa 27 1 1
 (ld 28 27
 (cl 29 198 [28]
 (mv 26 29
 (op 30 (.extr 0 (tm 26))
 (op 31 (.extr 1 (tm 26))
 (mv 3 30
 (mv 4 31
 .nil))))))))
 (sr
 (mv 32 4
 (op 33 (.bin .neq (tm 32) (ci 0))
 .nil))
 (.cond (tm 33)
 (sr
 (mv 34 4
 (mv 2 34
 .nil))
 .ret)
 .skip)))
 (.seq
 (sr
 (fa 35 2 1
 (ld 36 35
 (op 37 (.len false (tm 36))
 (mc 38 0
 .nil))))
 (.block 0
 (.loop ⟨[.val 38 (Ty.i .i64)], [36, 37]⟩
 (sr
 (op 39 (.bin .lss (tm 38) (tm 37))
 .nil)
 (.seq
 (.cond (tm 39)
 .skip
 (.exit 0))
 (.seq
 (.block 1
 (sr
 (ia 40 3 36 38
 (ldk 41 3 40
 (op 6 (.alloc [.int .i64 0, .nils, .nils])
 (ops (.store 3 (tm 6) (tm 41))
 .nil))))
 (sr
 (ldk 42 3 6
 (cl 43 175 [42]
 (mv 7 43
 .nil)))
 (sr
 (mv 44 7
 (op 45 (.bin .neq (tm 44) (ci 0))
 .nil))
 (.cond (tm 45)
 (sr
 (mv 46 7
 (mv 2 46
 .nil))
 .ret)
 .skip)))))
 (.reg
 (op 47 (.bin .add (tm 38) (ci 1))
 (mv 38 47
 .nil)))))))))
 (sr
 (mc 2 0
 .nil)
 .ret))))))
noncomputable def B_threshold_level (rec : (TTrust × Unit) → Option Int) (a0 : TTrust) : Option Int :=
 Option.bind (bif (decide (a0.Threshold < (1 : Int))) then some true
 else
 some (decide ((addI .i64 ((List.length a0.Nodes : Nat) : Int) ((List.length a0.Inner : Nat) : Int)) < a0.Threshold))) fun b1 =>
 bif b1 then
 some (4 : Int)
 else
 Option.bind (F_slices_ContainsFunc_int_int_c196 a0.Nodes) fun r2 =>
 bif r2 then
 some (5 : Int)
 else
 Option.bind (F_nodeset_Of a0.Nodes) fun r3 =>
 bif (!decide (r3.2.1 = (0 : Int))) then
 some r3.2.1
 else
 loopO (fun (v4 : Int × Unit) =>
 bif (decide (v4.1 < ((List.length a0.Inner : Nat) : Int))) then
 Option.bind (idx a0.Inner v4.1) fun x5 =>
 Option.bind (rec ((TTrust.mk x5.Threshold x5.Nodes x5.Inner), ())) fun r6 =>
 bif (!decide (r6 = (0 : Int))) then
 Option.map Sum.inr (some r6)
 else
 some (Sum.inl ((addI .i64 v4.1 (1 : Int)), ()))
 else
 Option.map Sum.inr (some (0 : Int))) ((0 : Int), ())
noncomputable def I_threshold_level : Nat → (TTrust × Unit) → Option Int := iterF (fun rec a => B_threshold_level rec a.1)
noncomputable def F_threshold_level (a0 : TTrust) : Option Int := I_threshold_level (SizeOf.sizeOf a0 + 1) (a0, ())
noncomputable def k_threshold_level : KS U Tryz.prog := ⟨.fn 175 [.ty (Ty.st .Trust)] (.one (Ty.i .i64)) fun a => F_threshold_level a.1, fnRS (K := K) («as» := [.ty (Ty.st .Trust)]) (r := .one (Ty.i .i64)) (B := fun rec a => B_threshold_level rec a.1) sa_threshold_level 48 [.tmp 2] [k_slices_ContainsFunc_int_int_c196, k_nodeset_Of] (fk Tryz.f175 [] Tryz.func175) (hF := fun a => ⟨_, rfl⟩)⟩

/-! ### trustquorum/threshold.Valid -/
def sa_threshold_Valid : SA U :=
 (sr
 (op 1 (.box (tm 0))
 (mc 2 0
 .nil))
 (.seq
 (sr
 (ldk 3 3 1
 (cl 4 173 [3]
 (op 5 (.bin .gtr (tm 4) (ci 4))
 (mv 6 5
 (.ite 6 false
 (opg 7 6 false (.load (some 3) (tm 1))
 (opg 8 6 false (.call 174 [(tm 7)])
 (opg 9 6 false (.bin .gtr (tm 8) (ci 200))
 .nil)))
 10 none (.cst (.bool true)) (tm 9)
 .nil)))))
 (.cond (tm 10)
 (sr
 (mc 2 3
 .nil)
 .ret)
 .skip))
 (sr
 (ldk 11 3 1
 (cl 12 175 [11]
 (mv 2 12
 .nil)))
 .ret)))
noncomputable def F_threshold_Valid (a0 : TTrust) : Option Int :=
 Option.bind (F_threshold_Depth (TTrust.mk a0.Threshold a0.Nodes a0.Inner)) fun r1 =>
 Option.bind (bif (decide ((4 : Int) < r1)) then some true
 else
 Option.bind (F_threshold_Size (TTrust.mk a0.Threshold a0.Nodes a0.Inner)) fun r2 =>
 some (decide ((200 : Int) < r2))) fun b3 =>
 bif b3 then
 some (3 : Int)
 else
 Option.bind (F_threshold_level (TTrust.mk a0.Threshold a0.Nodes a0.Inner)) fun r4 =>
 some r4
noncomputable def k_threshold_Valid : KS U Tryz.prog := ⟨.fn 135 [.ty (Ty.st .Trust)] (.one (Ty.i .i64)) fun a => F_threshold_Valid a.1, fnS (K := K) sa_threshold_Valid 13 [.tmp 2] [k_threshold_Depth, k_threshold_Size, k_threshold_level] (fk Tryz.f135 [] Tryz.func135)⟩

/-! ### trustquorum/ballots.Zero -/
def sa_ballots_Zero : SA U :=
 (sr
 (op 1 (.box (tm 0))
 (op 2 (.mov (.cst (.bool false)))
 .nil))
 (sr
 (ldk 3 2 1
 (op 4 (.build [.int .i64 0, .str ⟨#[]⟩] [])
 (op 5 (.eq2 false (tm 3) (tm 4))
 (mv 2 5
 .nil))))
 .ret))
noncomputable def F_ballots_Zero (a0 : TBallot) : Option Bool :=
 some (eq2 false a0.Counter (0 : Int) a0.Value (ByteArray.mk #[]))
noncomputable def k_ballots_Zero : KS U Tryz.prog := ⟨.fn 85 [.ty (Ty.st .Ballot)] (.one Ty.bool) fun a => F_ballots_Zero a.1, fnS (K := K) sa_ballots_Zero 6 [.tmp 2] [] (fk Tryz.f85 [] Tryz.func85)⟩

/-! ### cmp.isNaN[int] -/
def sa_cmp_isNaN_int : SA U :=
 (sr
 (op 2 (.mov (.cst (.bool false)))
 .nil)
 (sr
 (mv 3 0
 (mv 4 0
 (op 5 (.bin .neq (tm 3) (tm 4))
 (mv 2 5
 .nil))))
 .ret))
noncomputable def F_cmp_isNaN_int (a0 : Int) : Option Bool :=
 some (!decide (a0 = a0))
noncomputable def k_cmp_isNaN_int : KS U Tryz.prog := ⟨.fn 154 [.ty (Ty.i .i64)] (.one Ty.bool) fun a => F_cmp_isNaN_int a.1, fnS (K := K) sa_cmp_isNaN_int 6 [.tmp 2] [] (fk Tryz.f154 [] Tryz.func154)⟩

/-! ### cmp.Compare[int] -/
def sa_cmp_Compare_int : SA U :=
 (sr
 (mc 4 0
 .nil)
 (sr
 (mv 7 0
 (cl 8 154 [7]
 (mv 5 8
 .nil)))
 (sr
 (mv 9 1
 (cl 10 154 [9]
 (mv 6 10
 .nil)))
 (.seq
 (sr
 (mv 11 5
 .nil)
 (.cond (tm 11)
 (.seq
 (sr
 (mv 12 6
 .nil)
 (.cond (tm 12)
 (sr
 (mc 4 0
 .nil)
 .ret)
 .skip))
 (sr
 (op 4 (.mov (.cst (.int .i64 (-1))))
 .nil)
 .ret))
 .skip))
 (.seq
 (sr
 (mv 13 6
 .nil)
 (.cond (tm 13)
 (sr
 (mc 4 1
 .nil)
 .ret)
 .skip))
 (.seq
 (sr
 (mv 14 0
 (mv 15 1
 (op 16 (.bin .lss (tm 14) (tm 15))
 .nil)))
 (.cond (tm 16)
 (sr
 (op 4 (.mov (.cst (.int .i64 (-1))))
 .nil)
 .ret)
 .skip))
 (.seq
 (sr
 (mv 17 0
 (mv 18 1
 (op 19 (.bin .gtr (tm 17) (tm 18))
 .nil)))
 (.cond (tm 19)
 (sr
 (mc 4 1
 .nil)
 .ret)
 .skip))
 (sr
 (mc 4 0
 .nil)
 .ret))))))))
noncomputable def F_cmp_Compare_int (a0 : Int) (a1 : Int) : Option Int :=
 Option.bind (F_cmp_isNaN_int a0) fun r1 =>
 Option.bind (F_cmp_isNaN_int a1) fun r2 =>
 bif r1 then
 bif r2 then
 some (0 : Int)
 else
 some (-1 : Int)
 else
 bif r2 then
 some (1 : Int)
 else
 bif (decide (a0 < a1)) then
 some (-1 : Int)
 else
 bif (decide (a1 < a0)) then
 some (1 : Int)
 else
 some (0 : Int)
noncomputable def k_cmp_Compare_int : KS U Tryz.prog := ⟨.fn 93 [.ty (Ty.i .i64), .ty (Ty.i .i64)] (.one (Ty.i .i64)) fun a => F_cmp_Compare_int a.1 a.2.1, fnS (K := K) sa_cmp_Compare_int 20 [.tmp 4] [k_cmp_isNaN_int] (fk Tryz.f93 [] Tryz.func93)⟩

/-! ### cmp.isNaN[string] -/
def sa_cmp_isNaN_string : SA U :=
 (sr
 (op 2 (.mov (.cst (.bool false)))
 .nil)
 (sr
 (mv 3 0
 (mv 4 0
 (op 5 (.bin .neq (tm 3) (tm 4))
 (mv 2 5
 .nil))))
 .ret))
noncomputable def F_cmp_isNaN_string (a0 : ByteArray) : Option Bool :=
 some (!decide (a0 = a0))
noncomputable def k_cmp_isNaN_string : KS U Tryz.prog := ⟨.fn 183 [.ty Ty.str] (.one Ty.bool) fun a => F_cmp_isNaN_string a.1, fnS (K := K) sa_cmp_isNaN_string 6 [.tmp 2] [] (fk Tryz.f183 [] Tryz.func183)⟩

/-! ### cmp.Compare[string] -/
def sa_cmp_Compare_string : SA U :=
 (sr
 (mc 4 0
 .nil)
 (sr
 (mv 7 0
 (cl 8 183 [7]
 (mv 5 8
 .nil)))
 (sr
 (mv 9 1
 (cl 10 183 [9]
 (mv 6 10
 .nil)))
 (.seq
 (sr
 (mv 11 5
 .nil)
 (.cond (tm 11)
 (.seq
 (sr
 (mv 12 6
 .nil)
 (.cond (tm 12)
 (sr
 (mc 4 0
 .nil)
 .ret)
 .skip))
 (sr
 (op 4 (.mov (.cst (.int .i64 (-1))))
 .nil)
 .ret))
 .skip))
 (.seq
 (sr
 (mv 13 6
 .nil)
 (.cond (tm 13)
 (sr
 (mc 4 1
 .nil)
 .ret)
 .skip))
 (.seq
 (sr
 (mv 14 0
 (mv 15 1
 (op 16 (.bin .lss (tm 14) (tm 15))
 .nil)))
 (.cond (tm 16)
 (sr
 (op 4 (.mov (.cst (.int .i64 (-1))))
 .nil)
 .ret)
 .skip))
 (.seq
 (sr
 (mv 17 0
 (mv 18 1
 (op 19 (.bin .gtr (tm 17) (tm 18))
 .nil)))
 (.cond (tm 19)
 (sr
 (mc 4 1
 .nil)
 .ret)
 .skip))
 (sr
 (mc 4 0
 .nil)
 .ret))))))))
noncomputable def F_cmp_Compare_string (a0 : ByteArray) (a1 : ByteArray) : Option Int :=
 Option.bind (F_cmp_isNaN_string a0) fun r1 =>
 Option.bind (F_cmp_isNaN_string a1) fun r2 =>
 bif r1 then
 bif r2 then
 some (0 : Int)
 else
 some (-1 : Int)
 else
 bif r2 then
 some (1 : Int)
 else
 bif (sless a0 a1) then
 some (-1 : Int)
 else
 bif (!(sless a0 a1 || decide (a0 = a1))) then
 some (1 : Int)
 else
 some (0 : Int)
noncomputable def k_cmp_Compare_string : KS U Tryz.prog := ⟨.fn 150 [.ty Ty.str, .ty Ty.str] (.one (Ty.i .i64)) fun a => F_cmp_Compare_string a.1 a.2.1, fnS (K := K) sa_cmp_Compare_string 20 [.tmp 4] [k_cmp_isNaN_string] (fk Tryz.f150 [] Tryz.func150)⟩

/-! ### cmp.Or[int] -/
def sa_cmp_Or_int : SA U :=
 (sr
 (mc 2 0
 .nil)
 (sr
 (mc 3 0
 .nil)
 (.seq
 (sr
 (mv 6 0
 (op 7 (.len false (tm 6))
 (mc 8 0
 .nil)))
 (.block 0
 (.loop ⟨[.val 8 (Ty.i .i64)], [3, 6, 7]⟩
 (sr
 (op 9 (.bin .lss (tm 8) (tm 7))
 .nil)
 (.seq
 (.cond (tm 9)
 .skip
 (.exit 0))
 (.seq
 (.block 1
 (sr
 (ia 10 1 6 8
 (ld 11 10
 (mv 5 11
 .nil)))
 (sr
 (mv 12 5
 (mv 13 3
 (op 14 (.bin .neq (tm 12) (tm 13))
 .nil)))
 (.cond (tm 14)
 (sr
 (mv 15 5
 (mv 2 15
 .nil))
 .ret)
 .skip))))
 (.reg
 (op 16 (.bin .add (tm 8) (ci 1))
 (mv 8 16
 .nil)))))))))
 (sr
 (mv 17 3
 (mv 2 17
 .nil))
 .ret))))
noncomputable def F_cmp_Or_int (a0 : (List Int)) : Option Int :=
 loopO (fun (v1 : Int × Unit) =>
 bif (decide (v1.1 < ((List.length a0 : Nat) : Int))) then
 Option.bind (idx a0 v1.1) fun x2 =>
 bif (!decide (x2 = (0 : Int))) then
 Option.map Sum.inr (some x2)
 else
 some (Sum.inl ((addI .i64 v1.1 (1 : Int)), ()))
 else
 Option.map Sum.inr (some (0 : Int))) ((0 : Int), ())
noncomputable def k_cmp_Or_int : KS U Tryz.prog := ⟨.fn 147 [.ty (Ty.sl (Ty.i .i64))] (.one (Ty.i .i64)) fun a => F_cmp_Or_int a.1, fnS (K := K) sa_cmp_Or_int 18 [.tmp 2] [] (fk Tryz.f147 [] Tryz.func147)⟩

/-! ### trustquorum/ballots.CompareValues -/
def sa_ballots_CompareValues : SA U :=
 (sr
 (mc 4 0
 .nil)
 (sr
 (mv 5 0
 (op 6 (.len true (tm 5))
 (mv 7 1
 (op 8 (.len true (tm 7))
 (cl 9 93 [6, 8]
 (mv 10 0
 (mv 11 1
 (cl 12 150 [10, 11]
 (op 13 (.bsl false 3 1 (List.replicate 2 [.int .i64 0]) [(0, (tm 9)), (1, (tm 12))])
 (cl 14 147 [13]
 (mv 4 14
 .nil)))))))))))
 .ret))
noncomputable def F_ballots_CompareValues (a0 : ByteArray) (a1 : ByteArray) : Option Int :=
 Option.bind (F_cmp_Compare_int ((ByteArray.size a0 : Nat) : Int) ((ByteArray.size a1 : Nat) : Int)) fun r1 =>
 Option.bind (F_cmp_Compare_string a0 a1) fun r2 =>
 Option.bind (F_cmp_Or_int [r1, r2]) fun r3 =>
 some r3
noncomputable def k_ballots_CompareValues : KS U Tryz.prog := ⟨.fn 89 [.ty Ty.str, .ty Ty.str] (.one (Ty.i .i64)) fun a => F_ballots_CompareValues a.1 a.2.1, fnS (K := K) sa_ballots_CompareValues 15 [.tmp 4] [k_cmp_Compare_int, k_cmp_Compare_string, k_cmp_Or_int] (fk Tryz.f89 [] Tryz.func89)⟩

/-! ### trustquorum/ballots.Compare -/
def sa_ballots_Compare : SA U :=
 (sr
 (op 2 (.box (tm 0))
 (op 3 (.box (tm 1))
 (mc 4 0
 .nil)))
 (.seq
 (.drw [(0, 2), (1, 2), (0, 3), (1, 3), (0, 5), (1, 5), (2, 5), (3, 5), (4, 5), (0, 6), (1, 6), (2, 6), (3, 6), (4, 6), (0, 7), (1, 7), (2, 7), (3, 7), (4, 7), (5, 7), (6, 7), (0, 8), (1, 8), (2, 8), (3, 8), (4, 8), (5, 8), (6, 8)]
 (fa 5 0 2
 (ld 6 5
 (fa 7 0 3
 (ld 8 7
 (cl 9 93 [6, 8]
 (fa 10 1 2
 (ld 11 10
 (fa 12 1 3
 (ld 13 12
 (cl 14 89 [11, 13]
 (op 15 (.bsl false 3 1 (List.replicate 2 [.int .i64 0]) [(0, (tm 9)), (1, (tm 14))])
 (cl 16 147 [15]
 (mv 4 16
 .nil))))))))))))))
 .ret))
noncomputable def F_ballots_Compare (a0 : TBallot) (a1 : TBallot) : Option Int :=
 Option.bind (F_cmp_Compare_int a0.Counter a1.Counter) fun r1 =>
 Option.bind (F_ballots_CompareValues a0.Value a1.Value) fun r2 =>
 Option.bind (F_cmp_Or_int [r1, r2]) fun r3 =>
 some r3
noncomputable def k_ballots_Compare : KS U Tryz.prog := ⟨.fn 87 [.ty (Ty.st .Ballot), .ty (Ty.st .Ballot)] (.one (Ty.i .i64)) fun a => F_ballots_Compare a.1 a.2.1, fnS (K := K) sa_ballots_Compare 17 [.tmp 4] [k_cmp_Compare_int, k_ballots_CompareValues, k_cmp_Or_int] (fk Tryz.f87 [] Tryz.func87)⟩

/-! ### trustquorum/ballots.Less -/
def sa_ballots_Less : SA U :=
 (sr
 (op 2 (.box (tm 0))
 (op 3 (.box (tm 1))
 (op 4 (.mov (.cst (.bool false)))
 .nil)))
 (sr
 (ldk 5 2 2
 (ldk 6 2 3
 (cl 7 87 [5, 6]
 (op 8 (.bin .lss (tm 7) (ci 0))
 (mv 4 8
 .nil)))))
 .ret))
noncomputable def F_ballots_Less (a0 : TBallot) (a1 : TBallot) : Option Bool :=
 Option.bind (F_ballots_Compare a0 a1) fun r1 =>
 some (decide (r1 < (0 : Int)))
noncomputable def k_ballots_Less : KS U Tryz.prog := ⟨.fn 101 [.ty (Ty.st .Ballot), .ty (Ty.st .Ballot)] (.one Ty.bool) fun a => F_ballots_Less a.1 a.2.1, fnS (K := K) sa_ballots_Less 9 [.tmp 4] [k_ballots_Compare] (fk Tryz.f101 [] Tryz.func101)⟩

/-! ### trustquorum/ballots.Compatible -/
def sa_ballots_Compatible : SA U :=
 (sr
 (op 2 (.box (tm 0))
 (op 3 (.box (tm 1))
 (op 4 (.mov (.cst (.bool false)))
 .nil)))
 (sr
 (fa 5 1 2
 (ld 6 5
 (fa 7 1 3
 (ld 8 7
 (op 9 (.bin .eql (tm 6) (tm 8))
 (mv 4 9
 .nil))))))
 .ret))
noncomputable def F_ballots_Compatible (a0 : TBallot) (a1 : TBallot) : Option Bool :=
 some (decide (a0.Value = a1.Value))
noncomputable def k_ballots_Compatible : KS U Tryz.prog := ⟨.fn 114 [.ty (Ty.st .Ballot), .ty (Ty.st .Ballot)] (.one Ty.bool) fun a => F_ballots_Compatible a.1 a.2.1, fnS (K := K) sa_ballots_Compatible 10 [.tmp 4] [] (fk Tryz.f114 [] Tryz.func114)⟩

/-! ### trustquorum/ballots.Valid -/
def sa_ballots_Valid : SA U :=
 (sr
 (op 1 (.box (tm 0))
 (op 2 (.mov (.cst (.bool false)))
 .nil))
 (sr
 (fa 4 0 1
 (ld 5 4
 (op 6 (.bin .geq (tm 5) (ci 1))
 (mv 7 6
 (.ite 7 true
 (opg 8 7 true (.faddr 0 (tm 1))
 (opg 9 7 true (.load none (tm 8))
 (opg 10 7 true (.bin .leq (tm 9) (ci 1000))
 .nil)))
 11 none (tm 10) (.cst (.bool false))
 (mv 12 11
 (.ite 12 false
 (opg 13 12 false (.faddr 0 (tm 1))
 (opg 14 12 false (.load none (tm 13))
 (opg 15 12 false (.bin .eql (tm 14) (ci 1000000))
 .nil)))
 16 none (.cst (.bool true)) (tm 15)
 (mv 3 16
 .nil))))))))
 (sr
 (mv 17 3
 (mv 18 17
 (.ite 18 true
 (opg 19 18 true (.faddr 1 (tm 1))
 (opg 20 18 true (.load none (tm 19))
 (opg 21 18 true (.len true (tm 20))
 (opg 22 18 true (.bin .geq (tm 21) (ci 1))
 .nil))))
 23 none (tm 22) (.cst (.bool false))
 (mv 24 23
 (.ite 24 true
 (opg 25 24 true (.faddr 1 (tm 1))
 (opg 26 24 true (.load none (tm 25))
 (opg 27 24 true (.len true (tm 26))
 (opg 28 24 true (.bin .leq (tm 27) (ci 200))
 .nil))))
 29 none (tm 28) (.cst (.bool false))
 (mv 2 29
 .nil))))))
 .ret)))
noncomputable def F_ballots_Valid (a0 : TBallot) : Option Bool :=
 Option.bind (bif (decide ((1 : Int) ≤ a0.Counter)) then
 some (decide (a0.Counter ≤ (1000 : Int)))
 else some false) fun b1 =>
 Option.bind (bif b1 then some true
 else
 some (decide (a0.Counter = (1000000 : Int)))) fun b2 =>
 Option.bind (bif b2 then
 some (decide ((1 : Int) ≤ ((ByteArray.size a0.Value : Nat) : Int)))
 else some false) fun b3 =>
 Option.bind (bif b3 then
 some (decide (((ByteArray.size a0.Value : Nat) : Int) ≤ (200 : Int)))
 else some false) fun b4 =>
 some b4
noncomputable def k_ballots_Valid : KS U Tryz.prog := ⟨.fn 138 [.ty (Ty.st .Ballot)] (.one Ty.bool) fun a => F_ballots_Valid a.1, fnS (K := K) sa_ballots_Valid 30 [.tmp 2] [] (fk Tryz.f138 [] Tryz.func138)⟩

/-! ### trustquorum/envelopes.finite -/
def sa_envelopes_finite : SA U :=
 (sr
 (op 1 (.box (tm 0))
 (op 2 (.mov (.cst (.bool false)))
 .nil))
 (sr
 (ldk 3 2 1
 (cl 4 138 [3]
 (mv 5 4
 (.ite 5 true
 (opg 6 5 true (.faddr 0 (tm 1))
 (opg 7 5 true (.load none (tm 6))
 (opg 8 5 true (.bin .leq (tm 7) (ci 1000))
 .nil)))
 9 none (tm 8) (.cst (.bool false))
 (mv 2 9
 .nil)))))
 .ret))
noncomputable def F_envelopes_finite (a0 : TBallot) : Option Bool :=
 Option.bind (F_ballots_Valid a0) fun r1 =>
 Option.bind (bif r1 then
 some (decide (a0.Counter ≤ (1000 : Int)))
 else some false) fun b2 =>
 some b2
noncomputable def k_envelopes_finite : KS U Tryz.prog := ⟨.fn 137 [.ty (Ty.st .Ballot)] (.one Ty.bool) fun a => F_envelopes_finite a.1, fnS (K := K) sa_envelopes_finite 10 [.tmp 2] [k_ballots_Valid] (fk Tryz.f137 [] Tryz.func137)⟩

/-! ### trustquorum/envelopes.optional -/
def sa_envelopes_optional : SA U :=
 (sr
 (op 1 (.box (tm 0))
 (op 2 (.mov (.cst (.bool false)))
 .nil))
 (sr
 (ldk 3 2 1
 (cl 4 85 [3]
 (mv 5 4
 (.ite 5 false
 (opg 6 5 false (.load (some 2) (tm 1))
 (opg 7 5 false (.call 138 [(tm 6)])
 .nil))
 8 none (.cst (.bool true)) (tm 7)
 (mv 2 8
 .nil)))))
 .ret))
noncomputable def F_envelopes_optional (a0 : TBallot) : Option Bool :=
 Option.bind (F_ballots_Zero a0) fun r1 =>
 Option.bind (bif r1 then some true
 else
 Option.bind (F_ballots_Valid a0) fun r2 =>
 some r2) fun b3 =>
 some b3
noncomputable def k_envelopes_optional : KS U Tryz.prog := ⟨.fn 176 [.ty (Ty.st .Ballot)] (.one Ty.bool) fun a => F_envelopes_optional a.1, fnS (K := K) sa_envelopes_optional 9 [.tmp 2] [k_ballots_Zero, k_ballots_Valid] (fk Tryz.f176 [] Tryz.func176)⟩

/-! ### trustquorum/envelopes.at -/
def sa_envelopes_at : SA U :=
 (sr
 (op 2 (.box (tm 0))
 (op 4 (.alloc [.int .i64 0, .str ⟨#[]⟩])
 .nil))
 (sr
 (mv 5 1
 (fa 6 7 2
 (fa 7 1 6
 (ld 8 7
 (op 9 (.build [.int .i64 0, .str ⟨#[]⟩] [(0, 1, (tm 5)), (1, 1, (tm 8))])
 (ops (.store 2 (tm 4) (tm 9))
 .nil))))))
 .ret))
noncomputable def F_envelopes_at (a0 : TEnvelope) (a1 : Int) : Option TBallot :=
 some (TBallot.mk a1 a0.Ballot.Value)
noncomputable def k_envelopes_at : KS U Tryz.prog := ⟨.fn 82 [.ty (Ty.st .Envelope), .ty (Ty.i .i64)] (.one (Ty.st .Ballot)) fun a => F_envelopes_at a.1 a.2.1, fnS (K := K) sa_envelopes_at 10 [.cell 4 (some 2)] [] (fk Tryz.f82 [] Tryz.func82)⟩

/-! ### trustquorum/ballots.Aborts -/
def sa_ballots_Aborts : SA U :=
 (sr
 (op 2 (.box (tm 0))
 (op 3 (.box (tm 1))
 (op 4 (.mov (.cst (.bool false)))
 .nil)))
 (sr
 (ldk 5 2 2
 (cl 6 85 [5]
 (op 7 (.not (tm 6))
 (mv 8 7
 (.ite 8 true
 (opg 9 8 true (.load (some 2) (tm 2))
 (opg 10 8 true (.load (some 2) (tm 3))
 (opg 11 8 true (.call 114 [(tm 9), (tm 10)])
 (opg 12 8 true (.not (tm 11))
 .nil))))
 13 none (tm 12) (.cst (.bool false))
 (mv 14 13
 (.ite 14 true
 (opg 15 14 true (.load (some 2) (tm 3))
 (opg 16 14 true (.load (some 2) (tm 2))
 (opg 17 14 true (.call 101 [(tm 15), (tm 16)])
 .nil)))
 18 none (tm 17) (.cst (.bool false))
 (mv 4 18
 .nil))))))))
 .ret))
noncomputable def F_ballots_Aborts (a0 : TBallot) (a1 : TBallot) : Option Bool :=
 Option.bind (F_ballots_Zero a0) fun r1 =>
 Option.bind (bif (!r1) then
 Option.bind (F_ballots_Compatible a0 a1) fun r2 =>
 some (!r2)
 else some false) fun b3 =>
 Option.bind (bif b3 then
 Option.bind (F_ballots_Less a1 a0) fun r4 =>
 some r4
 else some false) fun b5 =>
 some b5
noncomputable def k_ballots_Aborts : KS U Tryz.prog := ⟨.fn 100 [.ty (Ty.st .Ballot), .ty (Ty.st .Ballot)] (.one Ty.bool) fun a => F_ballots_Aborts a.1 a.2.1, fnS (K := K) sa_ballots_Aborts 19 [.tmp 4] [k_ballots_Zero, k_ballots_Compatible, k_ballots_Less] (fk Tryz.f100 [] Tryz.func100)⟩

/-! ### trustquorum/ballots.Covers -/
def sa_ballots_Covers : SA U :=
 (sr
 (op 2 (.box (tm 0))
 (op 3 (.box (tm 1))
 (op 4 (.mov (.cst (.bool false)))
 .nil)))
 (sr
 (ldk 5 2 2
 (cl 6 85 [5]
 (op 7 (.not (tm 6))
 (mv 8 7
 (.ite 8 true
 (opg 9 8 true (.load (some 2) (tm 2))
 (opg 10 8 true (.load (some 2) (tm 3))
 (opg 11 8 true (.call 114 [(tm 9), (tm 10)])
 .nil)))
 12 none (tm 11) (.cst (.bool false))
 (mv 13 12
 (.ite 13 true
 (opg 14 13 true (.faddr 0 (tm 2))
 (opg 15 13 true (.load none (tm 14))
 (opg 16 13 true (.faddr 0 (tm 3))
 (opg 17 13 true (.load none (tm 16))
 (opg 18 13 true (.bin .geq (tm 15) (tm 17))
 .nil)))))
 19 none (tm 18) (.cst (.bool false))
 (mv 4 19
 .nil))))))))
 .ret))
noncomputable def F_ballots_Covers (a0 : TBallot) (a1 : TBallot) : Option Bool :=
 Option.bind (F_ballots_Zero a0) fun r1 =>
 Option.bind (bif (!r1) then
 Option.bind (F_ballots_Compatible a0 a1) fun r2 =>
 some r2
 else some false) fun b3 =>
 Option.bind (bif b3 then
 some (decide (a1.Counter ≤ a0.Counter))
 else some false) fun b4 =>
 some b4
noncomputable def k_ballots_Covers : KS U Tryz.prog := ⟨.fn 151 [.ty (Ty.st .Ballot), .ty (Ty.st .Ballot)] (.one Ty.bool) fun a => F_ballots_Covers a.1 a.2.1, fnS (K := K) sa_ballots_Covers 20 [.tmp 4] [k_ballots_Zero, k_ballots_Compatible] (fk Tryz.f151 [] Tryz.func151)⟩

/-! ### trustquorum/ballots.Prepares -/
def sa_ballots_Prepares : SA U :=
 (sr
 (op 3 (.box (tm 0))
 (op 4 (.box (tm 1))
 (op 5 (.box (tm 2))
 (op 6 (.mov (.cst (.bool false)))
 .nil))))
 (sr
 (ldk 7 2 3
 (ldk 8 2 5
 (cl 9 151 [7, 8]
 (mv 10 9
 (.ite 10 false
 (opg 11 10 false (.load (some 2) (tm 4))
 (opg 12 10 false (.load (some 2) (tm 5))
 (opg 13 10 false (.call 151 [(tm 11), (tm 12)])
 .nil)))
 14 none (.cst (.bool true)) (tm 13)
 (mv 15 14
 (.ite 15 false
 (opg 16 15 false (.load (some 2) (tm 4))
 (opg 17 15 false (.call 85 [(tm 16)])
 (opg 18 15 false (.not (tm 17))
 (opg 19 15 false (.mov (tm 18))
 (.ite 19 true
 (opg 20 19 true (.load (some 2) (tm 5))
 (opg 21 19 true (.load (some 2) (tm 4))
 (opg 22 19 true (.call 101 [(tm 20), (tm 21)])
 .nil)))
 23 (some (15, false)) (tm 22) (.cst (.bool false))
 .nil)))))
 24 none (.cst (.bool true)) (tm 23)
 (mv 6 24
 .nil))))))))
 .ret))
noncomputable def F_ballots_Prepares (a0 : TBallot) (a1 : TBallot) (a2 : TBallot) : Option Bool :=
 Option.bind (F_ballots_Covers a0 a2) fun r1 =>
 Option.bind (bif r1 then some true
 else
 Option.bind (F_ballots_Covers a1 a2) fun r2 =>
 some r2) fun b3 =>
 Option.bind (bif b3 then some true
 else
 Option.bind (F_ballots_Zero a1) fun r4 =>
 Option.bind (bif (!r4) then
 Option.bind (F_ballots_Less a2 a1) fun r5 =>
 some r5
 else some false) fun b6 =>
 some b6) fun b7 =>
 some b7
noncomputable def k_ballots_Prepares : KS U Tryz.prog := ⟨.fn 110 [.ty (Ty.st .Ballot), .ty (Ty.st .Ballot), .ty (Ty.st .Ballot)] (.one Ty.bool) fun a => F_ballots_Prepares a.1 a.2.1 a.2.2.1, fnS (K := K) sa_ballots_Prepares 25 [.tmp 6] [k_ballots_Covers, k_ballots_Zero, k_ballots_Less] (fk Tryz.f110 [] Tryz.func110)⟩

/-! ### trustquorum/envelopes.prepares -/
def sa_envelopes_prepares : SA U :=
 (sr
 (op 1 (.box (tm 0))
 (op 2 (.mov (.cst (.bool false)))
 .nil))
 (sr
 (fa 5 11 1
 (ldk 6 2 5
 (cl 7 85 [6]
 (mv 8 7
 (.ite 8 false
 (opg 9 8 false (.faddr 9 (tm 1))
 (opg 10 8 false (.load (some 2) (tm 9))
 (opg 11 8 false (.call 85 [(tm 10)])
 (opg 12 8 false (.not (tm 11))
 (opg 13 8 false (.mov (tm 12))
 (.ite 13 true
 (opg 14 13 true (.faddr 11 (tm 1))
 (opg 15 13 true (.load (some 2) (tm 14))
 (opg 16 13 true (.faddr 9 (tm 1))
 (opg 17 13 true (.load (some 2) (tm 16))
 (opg 18 13 true (.call 101 [(tm 15), (tm 17)])
 .nil)))))
 19 (some (8, false)) (tm 18) (.cst (.bool false))
 (opg 20 8 false (.mov (tm 19))
 (.ite 20 true
 (opg 21 20 true (.faddr 11 (tm 1))
 (opg 22 20 true (.load (some 2) (tm 21))
 (opg 23 20 true (.faddr 9 (tm 1))
 (opg 24 20 true (.load (some 2) (tm 23))
 (opg 25 20 true (.call 114 [(tm 22), (tm 24)])
 (opg 26 20 true (.not (tm 25))
 .nil))))))
 27 (some (8, false)) (tm 26) (.cst (.bool false))
 .nil))))))))
 28 none (.cst (.bool true)) (tm 27)
 (mv 3 28
 .nil))))))
 (.seq
 (sr
 (fa 29 7 1
 (ldk 30 2 29
 (cl 31 137 [30]
 (op 32 (.not (tm 31))
 (mv 33 32
 (.ite 33 false
 (opg 34 33 false (.faddr 9 (tm 1))
 (opg 35 33 false (.load (some 2) (tm 34))
 (opg 36 33 false (.call 176 [(tm 35)])
 (opg 37 33 false (.not (tm 36))
 .nil))))
 38 none (.cst (.bool true)) (tm 37)
 (mv 39 38
 (.ite 39 false
 (opg 40 39 false (.faddr 11 (tm 1))
 (opg 41 39 false (.load (some 2) (tm 40))
 (opg 42 39 false (.call 176 [(tm 41)])
 (opg 43 39 false (.not (tm 42))
 .nil))))
 44 none (.cst (.bool true)) (tm 43)
 (mv 45 44
 (.ite 45 false
 (opg 46 45 false (.mov (tm 3))
 (opg 47 45 false (.not (tm 46))
 .nil))
 48 none (.cst (.bool true)) (tm 47)
 (mv 49 48
 (.ite 49 false
 (opg 50 49 false (.faddr 13 (tm 1))
 (opg 51 49 false (.load none (tm 50))
 (opg 52 49 false (.bin .lss (tm 51) (ci 0))
 .nil)))
 53 none (.cst (.bool true)) (tm 52)
 (mv 54 53
 (.ite 54 false
 (opg 55 54 false (.faddr 14 (tm 1))
 (opg 56 54 false (.load none (tm 55))
 (opg 57 54 false (.faddr 13 (tm 1))
 (opg 58 54 false (.load none (tm 57))
 (opg 59 54 false (.bin .lss (tm 56) (tm 58))
 .nil)))))
 60 none (.cst (.bool true)) (tm 59)
 (mv 61 60
 (.ite 61 false
 (opg 62 61 false (.faddr 14 (tm 1))
 (opg 63 61 false (.load none (tm 62))
 (opg 64 61 false (.faddr 7 (tm 1))
 (opg 65 61 false (.faddr 0 (tm 64))
 (opg 66 61 false (.load none (tm 65))
 (opg 67 61 false (.bin .gtr (tm 63) (tm 66))
 .nil))))))
 68 none (.cst (.bool true)) (tm 67)
 .nil))))))))))))))))
 (.cond (tm 68)
 (sr
 (op 2 (.mov (.cst (.bool false)))
 .nil)
 .ret)
 .skip))
 (sr
 (ldk 69 15 1
 (fa 70 13 1
 (ld 71 70
 (cl 72 82 [69, 71]
 (op 4 (.alloc [.int .i64 0, .str ⟨#[]⟩])
 (ops (.store 2 (tm 4) (tm 72))
 .nil))))))
 (.join ⟨[.val 2 Ty.bool], []⟩
 (.drw [(4, 6), (5, 6), (4, 7), (5, 7), (4, 8), (5, 8), (6, 8), (7, 8), (4, 9), (5, 9), (6, 9), (7, 9), (8, 9), (4, 10), (5, 10), (6, 10), (7, 10), (8, 10), (4, 11), (5, 11), (6, 11), (7, 11), (19, 21), (20, 21), (25, 27), (26, 27)]
 (fa 73 14 1
 (ld 74 73
 (op 75 (.bin .eql (tm 74) (ci 0))
 (mv 76 75
 (.spl 76
 (opg 77 76 false (.faddr 9 (tm 1))
 (opg 78 76 false (.load (some 2) (tm 77))
 (opg 79 76 false (.faddr 11 (tm 1))
 (opg 80 76 false (.load (some 2) (tm 79))
 (opg 81 76 false (.load (some 15) (tm 1))
 (opg 82 76 false (.faddr 14 (tm 1))
 (opg 83 76 false (.load none (tm 82))
 (opg 84 76 false (.call 82 [(tm 81), (tm 83)])
 (opg 85 76 false (.call 110 [(tm 78), (tm 80), (tm 84)])
 (op 86 (.pick (tm 76) (.cst (.bool true)) (tm 85))
 (mv 87 86
 (.spl 87
 (opg 88 87 true (.faddr 13 (tm 1))
 (opg 89 87 true (.load none (tm 88))
 (opg 90 87 true (.bin .eql (tm 89) (ci 0))
 (opg 91 87 true (.mov (tm 90))
 (.spl 91
 (opg 92 91 false (.faddr 9 (tm 1))
 (opg 93 91 false (.load (some 2) (tm 92))
 (opg 94 91 false (.load (some 2) (tm 4))
 (opg 95 91 false (.call 100 [(tm 93), (tm 94)])
 (opg 96 91 false (.not (tm 95))
 (opg 97 91 false (.mov (tm 96))
 (.spl 97
 (opg 98 97 true (.faddr 11 (tm 1))
 (opg 99 97 true (.load (some 2) (tm 98))
 (opg 100 97 true (.load (some 2) (tm 4))
 (opg 101 97 true (.call 100 [(tm 99), (tm 100)])
 (opg 102 97 true (.not (tm 101))
 (opg 103 91 false (.pick (tm 97) (tm 102) (.cst (.bool false)))
 (opg 104 87 true (.pick (tm 91) (.cst (.bool true)) (tm 103))
 (op 105 (.pick (tm 87) (tm 104) (.cst (.bool false)))
 (mv 2 105
 .nil)))))))))))))))))))))))))))))))))))))))
 .ret)))))
noncomputable def F_envelopes_prepares (a0 : TEnvelope) : Option Bool :=
 Option.bind (F_ballots_Zero a0.Prime) fun r1 =>
 Option.bind (bif r1 then some true
 else
 Option.bind (F_ballots_Zero a0.Prepared) fun r2 =>
 Option.bind (bif (!r2) then
 Option.bind (F_ballots_Less a0.Prime a0.Prepared) fun r3 =>
 some r3
 else some false) fun b4 =>
 Option.bind (bif b4 then
 Option.bind (F_ballots_Compatible a0.Prime a0.Prepared) fun r5 =>
 some (!r5)
 else some false) fun b6 =>
 some b6) fun b7 =>
 Option.bind (F_envelopes_finite a0.Ballot) fun r8 =>
 Option.bind (bif (!r8) then some true
 else
 Option.bind (F_envelopes_optional a0.Prepared) fun r9 =>
 some (!r9)) fun b10 =>
 Option.bind (bif b10 then some true
 else
 Option.bind (F_envelopes_optional a0.Prime) fun r11 =>
 some (!r11)) fun b12 =>
 Option.bind (bif b12 then some true
 else
 some (!b7)) fun b13 =>
 Option.bind (bif b13 then some true
 else
 some (decide (a0.Low < (0 : Int)))) fun b14 =>
 Option.bind (bif b14 then some true
 else
 some (decide (a0.High < a0.Low))) fun b15 =>
 Option.bind (bif b15 then some true
 else
 some (decide (a0.Ballot.Counter < a0.High))) fun b16 =>
 bif b16 then
 some false
 else
 Option.bind (F_envelopes_at (TEnvelope.mk a0.Node a0.Slot a0.Seq (TTrust.mk a0.Trust.Threshold a0.Trust.Nodes a0.Trust.Inner) a0.Kind a0.Ballot a0.Prepared a0.Prime a0.Low a0.High) a0.Low) fun r17 =>
 letJ (fun (v18 : Bool × Unit) =>
 some v18.1) fun j19 =>
 bif (decide (a0.High = (0 : Int))) then
 bif (decide (a0.Low = (0 : Int))) then
 j19 (true, ())
 else
 Option.bind (F_ballots_Aborts a0.Prepared r17) fun r20 =>
 bif (!r20) then
 Option.bind (F_ballots_Aborts a0.Prime r17) fun r21 =>
 j19 ((!r21), ())
 else
 j19 (false, ())
 else
 Option.bind (F_envelopes_at (TEnvelope.mk a0.Node a0.Slot a0.Seq (TTrust.mk a0.Trust.Threshold a0.Trust.Nodes a0.Trust.Inner) a0.Kind a0.Ballot a0.Prepared a0.Prime a0.Low a0.High) a0.High) fun r22 =>
 Option.bind (F_ballots_Prepares a0.Prepared a0.Prime r22) fun r23 =>
 bif r23 then
 bif (decide (a0.Low = (0 : Int))) then
 j19 (true, ())
 else
 Option.bind (F_ballots_Aborts a0.Prepared r17) fun r24 =>
 bif (!r24) then
 Option.bind (F_ballots_Aborts a0.Prime r17) fun r25 =>
 j19 ((!r25), ())
 else
 j19 (false, ())
 else
 j19 (false, ())
noncomputable def k_envelopes_prepares : KS U Tryz.prog := ⟨.fn 136 [.ty (Ty.st .Envelope)] (.one Ty.bool) fun a => F_envelopes_prepares a.1, fnS (K := K) sa_envelopes_prepares 106 [.tmp 2] [k_ballots_Zero, k_ballots_Less, k_ballots_Compatible, k_envelopes_finite, k_envelopes_optional, k_envelopes_at, k_ballots_Aborts, k_ballots_Prepares] (fk Tryz.f136 [] Tryz.func136)⟩

/-! ### trustquorum/envelopes.Valid -/
def sa_envelopes_Valid : SA U :=
 (sr
 (op 1 (.box (tm 0))
 (op 2 (.mov (.cst (.bool false)))
 .nil))
 (.seq
 (sr
 (fa 4 0 1
 (ld 5 4
 (op 6 (.bin .lss (tm 5) (ci 0))
 (mv 7 6
 (.ite 7 false
 (opg 8 7 false (.faddr 0 (tm 1))
 (opg 9 7 false (.load none (tm 8))
 (opg 10 7 false (.bin .geq (tm 9) (ci 10))
 .nil)))
 11 none (.cst (.bool true)) (tm 10)
 (mv 12 11
 (.ite 12 false
 (opg 13 12 false (.faddr 1 (tm 1))
 (opg 14 12 false (.load none (tm 13))
 (opg 15 12 false (.bin .lss (tm 14) (ci 1))
 .nil)))
 16 none (.cst (.bool true)) (tm 15)
 (mv 17 16
 (.ite 17 false
 (opg 18 17 false (.faddr 1 (tm 1))
 (opg 19 17 false (.load none (tm 18))
 (opg 20 17 false (.bin .gtr (tm 19) (ci 1000000))
 .nil)))
 21 none (.cst (.bool true)) (tm 20)
 (mv 22 21
 (.ite 22 false
 (opg 23 22 false (.faddr 2 (tm 1))
 (opg 24 22 false (.load none (tm 23))
 (opg 25 22 false (.bin .lss (tm 24) (ci 1))
 .nil)))
 26 none (.cst (.bool true)) (tm 25)
 (mv 27 26
 (.ite 27 false
 (opg 28 27 false (.faddr 2 (tm 1))
 (opg 29 27 false (.load none (tm 28))
 (opg 30 27 false (.bin .gtr (tm 29) (ci 1000000))
 .nil)))
 31 none (.cst (.bool true)) (tm 30)
 (mv 32 31
 (.ite 32 false
 (opg 33 32 false (.faddr 3 (tm 1))
 (opg 34 32 false (.load (some 3) (tm 33))
 (opg 35 32 false (.call 135 [(tm 34)])
 (opg 36 32 false (.bin .neq (tm 35) (ci 0))
 .nil))))
 37 none (.cst (.bool true)) (tm 36)
 .nil)))))))))))))))
 (.cond (tm 37)
 (sr
 (op 2 (.mov (.cst (.bool false)))
 .nil)
 .ret)
 .skip))
 (sr
 (fa 38 13 1
 (ld 39 38
 (op 40 (.bin .geq (tm 39) (ci 1))
 (mv 41 40
 (.ite 41 true
 (opg 42 41 true (.faddr 14 (tm 1))
 (opg 43 41 true (.load none (tm 42))
 (opg 44 41 true (.faddr 13 (tm 1))
 (opg 45 41 true (.load none (tm 44))
 (opg 46 41 true (.bin .geq (tm 43) (tm 45))
 .nil)))))
 47 none (tm 46) (.cst (.bool false))
 (mv 48 47
 (.ite 48 true
 (opg 49 48 true (.faddr 14 (tm 1))
 (opg 50 48 true (.load none (tm 49))
 (opg 51 48 true (.bin .leq (tm 50) (ci 1000))
 .nil)))
 52 none (tm 51) (.cst (.bool false))
 (mv 3 52
 .nil))))))))
 (.seq
 (sr
 (fa 53 6 1
 (ld 54 53
 .nil))
 (.block 0
 (sr
 (op 56 (.bin .eql (tm 54) (ci 1))
 (mv 55 56
 .nil))
 (.cond (tm 55)
 (sr
 (ldk 57 15 1
 (cl 58 136 [57]
 (mv 2 58
 .nil)))
 .ret)
 (sr
 (op 60 (.bin .eql (tm 54) (ci 2))
 (mv 59 60
 .nil))
 (.cond (tm 59)
 (sr
 (fa 61 7 1
 (ldk 62 2 61
 (cl 63 137 [62]
 (mv 64 63
 (.ite 64 true
 (opg 65 64 true (.faddr 9 (tm 1))
 (opg 66 64 true (.load (some 2) (tm 65))
 (opg 67 64 true (.call 138 [(tm 66)])
 .nil)))
 68 none (tm 67) (.cst (.bool false))
 (mv 69 68
 (.ite 69 true
 (opg 70 69 true (.faddr 9 (tm 1))
 (opg 71 69 true (.load (some 2) (tm 70))
 (opg 72 69 true (.faddr 7 (tm 1))
 (opg 73 69 true (.load (some 2) (tm 72))
 (opg 74 69 true (.call 114 [(tm 71), (tm 73)])
 .nil)))))
 75 none (tm 74) (.cst (.bool false))
 (mv 76 75
 (.ite 76 true
 (opg 77 76 true (.faddr 11 (tm 1))
 (opg 78 76 true (.load (some 2) (tm 77))
 (opg 79 76 true (.call 85 [(tm 78)])
 .nil)))
 80 none (tm 79) (.cst (.bool false))
 (mv 81 80
 (.ite 81 true
 (opg 82 81 true (.mov (tm 3))
 .nil)
 83 none (tm 82) (.cst (.bool false))
 (mv 84 83
 (.ite 84 true
 (opg 85 84 true (.faddr 14 (tm 1))
 (opg 86 84 true (.load none (tm 85))
 (opg 87 84 true (.faddr 9 (tm 1))
 (opg 88 84 true (.faddr 0 (tm 87))
 (opg 89 84 true (.load none (tm 88))
 (opg 90 84 true (.bin .leq (tm 86) (tm 89))
 .nil))))))
 91 none (tm 90) (.cst (.bool false))
 (mv 2 91
 .nil))))))))))))))
 .ret)
 (sr
 (op 93 (.bin .eql (tm 54) (ci 3))
 (mv 92 93
 .nil))
 (.cond (tm 92)
 (sr
 (fa 94 7 1
 (ldk 95 2 94
 (cl 96 138 [95]
 (mv 97 96
 (.ite 97 true
 (opg 98 97 true (.faddr 9 (tm 1))
 (opg 99 97 true (.load (some 2) (tm 98))
 (opg 100 97 true (.call 85 [(tm 99)])
 .nil)))
 101 none (tm 100) (.cst (.bool false))
 (mv 102 101
 (.ite 102 true
 (opg 103 102 true (.faddr 11 (tm 1))
 (opg 104 102 true (.load (some 2) (tm 103))
 (opg 105 102 true (.call 85 [(tm 104)])
 .nil)))
 106 none (tm 105) (.cst (.bool false))
 (mv 107 106
 (.ite 107 true
 (opg 108 107 true (.mov (tm 3))
 .nil)
 109 none (tm 108) (.cst (.bool false))
 (mv 2 109
 .nil))))))))))
 .ret)
 .skip))))))))
 (sr
 (op 2 (.mov (.cst (.bool false)))
 .nil)
 .ret)))))
noncomputable def F_envelopes_Valid (a0 : TEnvelope) : Option Bool :=
 Option.bind (bif (decide (a0.Node < (0 : Int))) then some true
 else
 some (decide ((10 : Int) ≤ a0.Node))) fun b1 =>
 Option.bind (bif b1 then some true
 else
 some (decide (a0.Slot < (1 : Int)))) fun b2 =>
 Option.bind (bif b2 then some true
 else
 some (decide ((1000000 : Int) < a0.Slot))) fun b3 =>
 Option.bind (bif b3 then some true
 else
 some (decide (a0.Seq < (1 : Int)))) fun b4 =>
 Option.bind (bif b4 then some true
 else
 some (decide ((1000000 : Int) < a0.Seq))) fun b5 =>
 Option.bind (bif b5 then some true
 else
 Option.bind (F_threshold_Valid (TTrust.mk a0.Trust.Threshold a0.Trust.Nodes a0.Trust.Inner)) fun r6 =>
 some (!decide (r6 = (0 : Int)))) fun b7 =>
 bif b7 then
 some false
 else
 Option.bind (bif (decide ((1 : Int) ≤ a0.Low)) then
 some (decide (a0.Low ≤ a0.High))
 else some false) fun b8 =>
 Option.bind (bif b8 then
 some (decide (a0.High ≤ (1000 : Int)))
 else some false) fun b9 =>
 bif (decide (a0.Kind = (1 : Int))) then
 Option.bind (F_envelopes_prepares (TEnvelope.mk a0.Node a0.Slot a0.Seq (TTrust.mk a0.Trust.Threshold a0.Trust.Nodes a0.Trust.Inner) a0.Kind a0.Ballot a0.Prepared a0.Prime a0.Low a0.High)) fun r10 =>
 some r10
 else
 bif (decide (a0.Kind = (2 : Int))) then
 Option.bind (F_envelopes_finite a0.Ballot) fun r11 =>
 Option.bind (bif r11 then
 Option.bind (F_ballots_Valid a0.Prepared) fun r12 =>
 some r12
 else some false) fun b13 =>
 Option.bind (bif b13 then
 Option.bind (F_ballots_Compatible a0.Prepared a0.Ballot) fun r14 =>
 some r14
 else some false) fun b15 =>
 Option.bind (bif b15 then
 Option.bind (F_ballots_Zero a0.Prime) fun r16 =>
 some r16
 else some false) fun b17 =>
 Option.bind (bif b17 then
 some b9
 else some false) fun b18 =>
 Option.bind (bif b18 then
 some (decide (a0.High ≤ a0.Prepared.Counter))
 else some false) fun b19 =>
 some b19
 else
 bif (decide (a0.Kind = (3 : Int))) then
 Option.bind (F_ballots_Valid a0.Ballot) fun r20 =>
 Option.bind (bif r20 then
 Option.bind (F_ballots_Zero a0.Prepared) fun r21 =>
 some r21
 else some false) fun b22 =>
 Option.bind (bif b22 then
 Option.bind (F_ballots_Zero a0.Prime) fun r23 =>
 some r23
 else some false) fun b24 =>
 Option.bind (bif b24 then
 some b9
 else some false) fun b25 =>
 some b25
 else
 some false
noncomputable def k_envelopes_Valid : KS U Tryz.prog := ⟨.fn 75 [.ty (Ty.st .Envelope)] (.one Ty.bool) fun a => F_envelopes_Valid a.1, fnS (K := K) sa_envelopes_Valid 110 [.tmp 2] [k_threshold_Valid, k_envelopes_prepares, k_envelopes_finite, k_ballots_Valid, k_ballots_Compatible, k_ballots_Zero] (fk Tryz.f75 [] Tryz.func75)⟩

/-! ### slices.IndexFunc[[]trustquorum/api.Ballot,trustquorum/api.Ballot] -/
def sa_slices_IndexFunc_api_Ballot_api_Ballot_c85 : SA U :=
 (sr
 (mc 4 0
 .nil)
 (.seq
 (sr
 (mv 6 0
 (op 7 (.len false (tm 6))
 (mc 8 0
 .nil)))
 (.block 0
 (.loop ⟨[.val 8 (Ty.i .i64)], [0, 1, 7]⟩
 (sr
 (op 9 (.bin .lss (tm 8) (tm 7))
 .nil)
 (.seq
 (.cond (tm 9)
 .skip
 (.exit 0))
 (.seq
 (.block 1
 (sr
 (mv 10 8
 (mv 5 10
 .nil))
 (sr
 (mv 11 1
 (mv 12 0
 (mv 13 5
 (ia 14 2 12 13
 (ldk 15 2 14
 (op 16 (.callv (tm 11) [(tm 15)])
 .nil))))))
 (.cond (tm 16)
 (sr
 (mv 17 5
 (mv 4 17
 .nil))
 .ret)
 .skip))))
 (.reg
 (op 18 (.bin .add (tm 8) (ci 1))
 (mv 8 18
 .nil)))))))))
 (sr
 (op 4 (.mov (.cst (.int .i64 (-1))))
 .nil)
 .ret)))
noncomputable def F_slices_IndexFunc_api_Ballot_api_Ballot_c85 (a0 : (List TBallot)) : Option Int :=
 loopO (fun (v1 : Int × Unit) =>
 bif (decide (v1.1 < ((List.length a0 : Nat) : Int))) then
 Option.bind (idx a0 v1.1) fun x2 =>
 Option.bind (F_ballots_Zero x2) fun r3 =>
 bif r3 then
 Option.map Sum.inr (some v1.1)
 else
 some (Sum.inl ((addI .i64 v1.1 (1 : Int)), ()))
 else
 Option.map Sum.inr (some (-1 : Int))) ((0 : Int), ())
noncomputable def k_slices_IndexFunc_api_Ballot_api_Ballot_c85 : KS U Tryz.prog := ⟨.fn 146 [.ty (Ty.sl (Ty.st .Ballot)), .clo 85 []] (.one (Ty.i .i64)) fun a => F_slices_IndexFunc_api_Ballot_api_Ballot_c85 a.1, fnS (K := K) sa_slices_IndexFunc_api_Ballot_api_Ballot_c85 19 [.tmp 4] [k_ballots_Zero] (fk Tryz.f146 [] Tryz.func146)⟩

/-! ### slices.DeleteFunc[[]trustquorum/api.Ballot,trustquorum/api.Ballot] -/
def sa_slices_DeleteFunc_api_Ballot_api_Ballot_c85 : SA U :=
 (sr
 (op 4 (.mov (.cst (.nils)))
 .nil)
 (sr
 (mv 8 0
 (mv 9 1
 (cl 10 146 [8, 9]
 (mv 5 10
 .nil))))
 (.seq
 (sr
 (mv 11 5
 (op 12 (.bin .eql (tm 11) (.cst (.int .i64 (-1))))
 .nil))
 (.cond (tm 12)
 (sr
 (mv 13 0
 (mv 4 13
 .nil))
 .ret)
 .skip))
 (.seq
 (sr
 (mv 14 5
 (op 15 (.bin .add (tm 14) (ci 1))
 (mv 6 15
 .nil)))
 (.block 0
 (.loop ⟨[.val 5 (Ty.i .i64), .val 6 (Ty.i .i64), .own 0 0 0 32 2 (Ty.st .Ballot)], [1]⟩
 (.seq
 (sr
 (mv 16 6
 (mv 17 0
 (op 18 (.len false (tm 17))
 (op 19 (.bin .lss (tm 16) (tm 18))
 .nil))))
 (.cond (tm 19)
 .skip
 (.exit 0)))
 (.join ⟨[.val 5 (Ty.i .i64), .own 0 0 0 32 2 (Ty.st .Ballot)], [1, 6]⟩
 (.block 1
 (sr
 (mv 22 0
 (mv 23 6
 (ia 24 2 22 23
 (ldk 25 2 24
 (op 7 (.alloc [.int .i64 0, .str ⟨#[]⟩])
 (ops (.store 2 (tm 7) (tm 25))
 .nil))))))
 (sr
 (mv 26 1
 (ldk 27 2 7
 (op 28 (.callv (tm 26) [(tm 27)])
 (op 29 (.not (tm 28))
 .nil))))
 (.cond (tm 29)
 (sr
 (mv 30 0
 (mv 31 5
 (ldk 32 2 7
 (ia 33 2 30 31
 (ops (.store 2 (tm 33) (tm 32))
 .nil)))))
 (.reg
 (mv 34 5
 (op 35 (.bin .add (tm 34) (ci 1))
 (mv 5 35
 .nil)))))
 .skip))))
 (.reg
 (mv 20 6
 (op 21 (.bin .add (tm 20) (ci 1))
 (mv 6 21
 .nil)))))))))
 (sr
 (mv 36 0
 (mv 37 5
 (op 38 (.slc 2 (tm 36) (some (tm 37)) none)
 (ops (.clear 2 [.int .i64 0, .str ⟨#[]⟩] (tm 38))
 .nil))))
 (sr
 (mv 39 0
 (mv 40 5
 (op 41 (.slc 2 (tm 39) none (some (tm 40)))
 (mv 4 41
 (.ps (.cut 4)
 .nil)))))
 .ret))))))
noncomputable def F_slices_DeleteFunc_api_Ballot_api_Ballot_c85 (s : List TBallot)  : Option (List TBallot) :=
 Option.bind (F_slices_IndexFunc_api_Ballot_api_Ballot_c85 s) fun r1 =>
 bif (decide (r1 = (-1 : Int))) then
 some s
 else
 loopO (fun (v2 : Int × Int × (List TBallot) × Unit) =>
 bif (decide (v2.2.1 < ((List.length v2.2.2.1 : Nat) : Int))) then
 letJ (fun (v3 : Int × (List TBallot) × Unit) =>
 some (Sum.inl (v3.1, (addI .i64 v2.2.1 (1 : Int)), v3.2.1, ()))) fun j4 =>
 Option.bind (idx v2.2.2.1 v2.2.1) fun x5 =>
 Option.bind (v2.2.2.1[(Int.toNat v2.2.1)]?) fun x6 =>
 Option.bind (F_ballots_Zero x6) fun r7 =>
 bif (!r7) then
 Option.bind (idx v2.2.2.1 v2.1) fun x8 =>
 Option.bind (v2.2.2.1[(Int.toNat v2.1)]?) fun x9 =>
 j4 ((addI .i64 v2.1 (1 : Int)), (v2.2.2.1.set (Int.toNat v2.1) x6), ())
 else
 j4 (v2.1, v2.2.2.1, ())
 else
 Option.map Sum.inr (bif slcOk v2.1 ((List.length v2.2.2.1) : Int) (List.length v2.2.2.1) then
 bif slcOk (0 : Int) v2.1 (List.length (v2.2.2.1.take (Int.toNat v2.1) ++ List.replicate (Int.toNat ((List.length v2.2.2.1) : Int) - Int.toNat v2.1) (TBallot.mk (0 : Int) (ByteArray.mk #[])) ++ v2.2.2.1.drop ((Int.toNat v2.1) + (Int.toNat ((List.length v2.2.2.1) : Int) - Int.toNat v2.1)))) then
 some ((v2.2.2.1.take (Int.toNat v2.1) ++ List.replicate (Int.toNat ((List.length v2.2.2.1) : Int) - Int.toNat v2.1) (TBallot.mk (0 : Int) (ByteArray.mk #[])) ++ v2.2.2.1.drop ((Int.toNat v2.1) + (Int.toNat ((List.length v2.2.2.1) : Int) - Int.toNat v2.1))).take (Int.toNat v2.1 - Int.toNat (0 : Int)))
 else none
 else none)) (r1, (addI .i64 r1 (1 : Int)), s, ())
noncomputable def k_slices_DeleteFunc_api_Ballot_api_Ballot_c85 : KS U Tryz.prog := ⟨.cw 84 32 2 (Ty.st .Ballot) [.clo 85 []] fun s a => F_slices_DeleteFunc_api_Ballot_api_Ballot_c85 s , cwS (K := K) sa_slices_DeleteFunc_api_Ballot_api_Ballot_c85 42 [.tmp 4] [k_slices_IndexFunc_api_Ballot_api_Ballot_c85, k_ballots_Zero] (fk Tryz.f84 [] Tryz.func84)⟩

/-! ### math/bits.Len64 -/
def sa_math_bits_Len64 : SA U :=
 (sr
 (mc 2 0
 .nil)
 (.join ⟨[.val 0 (Ty.i .u64), .val 2 (Ty.i .i64)], []⟩
 (sr
 (mv 3 0
 (op 4 (.bin .geq (tm 3) (.cst (.int .u64 4294967296)))
 .nil))
 (.cond (tm 4)
 (sr
 (mv 5 0
 (op 6 (.bin .shr (tm 5) (.cst (.int .u64 32)))
 (mv 0 6
 .nil)))
 (.reg
 (mc 2 32
 .nil)))
 .skip))
 (.join ⟨[.val 0 (Ty.i .u64), .val 2 (Ty.i .i64)], []⟩
 (sr
 (mv 7 0
 (op 8 (.bin .geq (tm 7) (.cst (.int .u64 65536)))
 .nil))
 (.cond (tm 8)
 (sr
 (mv 9 0
 (op 10 (.bin .shr (tm 9) (.cst (.int .u64 16)))
 (mv 0 10
 .nil)))
 (.reg
 (mv 11 2
 (op 12 (.bin .add (tm 11) (ci 16))
 (mv 2 12
 .nil)))))
 .skip))
 (.join ⟨[.val 0 (Ty.i .u64), .val 2 (Ty.i .i64)], []⟩
 (sr
 (mv 13 0
 (op 14 (.bin .geq (tm 13) (.cst (.int .u64 256)))
 .nil))
 (.cond (tm 14)
 (sr
 (mv 15 0
 (op 16 (.bin .shr (tm 15) (.cst (.int .u64 8)))
 (mv 0 16
 .nil)))
 (.reg
 (mv 17 2
 (op 18 (.bin .add (tm 17) (ci 8))
 (mv 2 18
 .nil)))))
 .skip))
 (sr
 (mv 19 2
 (mv 20 0
 (op 21 (.conv .u8 (tm 20))
 (op 22 (.sidx (.cst (.str ⟨#[0, 1, 2, 2, 3, 3, 3, 3, 4, 4, 4, 4, 4, 4, 4, 4, 5, 5, 5, 5, 5, 5, 5, 5, 5, 5, 5, 5, 5, 5, 5, 5, 6, 6, 6, 6, 6, 6, 6, 6, 6, 6, 6, 6, 6, 6, 6, 6, 6, 6, 6, 6, 6, 6, 6, 6, 6, 6, 6, 6, 6, 6, 6, 6, 7, 7, 7, 7, 7, 7, 7, 7, 7, 7, 7, 7, 7, 7, 7, 7, 7, 7, 7, 7, 7, 7, 7, 7, 7, 7, 7, 7, 7, 7, 7, 7, 7, 7, 7, 7, 7, 7, 7, 7, 7, 7, 7, 7, 7, 7, 7, 7, 7, 7, 7, 7, 7, 7, 7, 7, 7, 7, 7, 7, 7, 7, 7, 7, 8, 8, 8, 8, 8, 8, 8, 8, 8, 8, 8, 8, 8, 8, 8, 8, 8, 8, 8, 8, 8, 8, 8, 8, 8, 8, 8, 8, 8, 8, 8, 8, 8, 8, 8, 8, 8, 8, 8, 8, 8, 8, 8, 8, 8, 8, 8, 8, 8, 8, 8, 8, 8, 8, 8, 8, 8, 8, 8, 8, 8, 8, 8, 8, 8, 8, 8, 8, 8, 8, 8, 8, 8, 8, 8, 8, 8, 8, 8, 8, 8, 8, 8, 8, 8, 8, 8, 8, 8, 8, 8, 8, 8, 8, 8, 8, 8, 8, 8, 8, 8, 8, 8, 8, 8, 8, 8, 8, 8, 8, 8, 8, 8, 8, 8, 8, 8, 8, 8, 8, 8, 8, 8, 8, 8, 8, 8, 8]⟩)) (tm 21))
 (op 23 (.conv .i64 (tm 22))
 (op 24 (.bin .add (tm 19) (tm 23))
 (mv 2 24
 .nil)))))))
 .ret)))))
noncomputable def F_math_bits_Len64 (a0 : Int) : Option Int :=
 letJ (fun (v1 : Int × Int × Unit) =>
 letJ (fun (v3 : Int × Int × Unit) =>
 letJ (fun (v5 : Int × Int × Unit) =>
 Option.bind (sidx (ByteArray.mk #[0, 1, 2, 2, 3, 3, 3, 3, 4, 4, 4, 4, 4, 4, 4, 4, 5, 5, 5, 5, 5, 5, 5, 5, 5, 5, 5, 5, 5, 5, 5, 5, 6, 6, 6, 6, 6, 6, 6, 6, 6, 6, 6, 6, 6, 6, 6, 6, 6, 6, 6, 6, 6, 6, 6, 6, 6, 6, 6, 6, 6, 6, 6, 6, 7, 7, 7, 7, 7, 7, 7, 7, 7, 7, 7, 7, 7, 7, 7, 7, 7, 7, 7, 7, 7, 7, 7, 7, 7, 7, 7, 7, 7, 7, 7, 7, 7, 7, 7, 7, 7, 7, 7, 7, 7, 7, 7, 7, 7, 7, 7, 7, 7, 7, 7, 7, 7, 7, 7, 7, 7, 7, 7, 7, 7, 7, 7, 7, 8, 8, 8, 8, 8, 8, 8, 8, 8, 8, 8, 8, 8, 8, 8, 8, 8, 8, 8, 8, 8, 8, 8, 8, 8, 8, 8, 8, 8, 8, 8, 8, 8, 8, 8, 8, 8, 8, 8, 8, 8, 8, 8, 8, 8, 8, 8, 8, 8, 8, 8, 8, 8, 8, 8, 8, 8, 8, 8, 8, 8, 8, 8, 8, 8, 8, 8, 8, 8, 8, 8, 8, 8, 8, 8, 8, 8, 8, 8, 8, 8, 8, 8, 8, 8, 8, 8, 8, 8, 8, 8, 8, 8, 8, 8, 8, 8, 8, 8, 8, 8, 8, 8, 8, 8, 8, 8, 8, 8, 8, 8, 8, 8, 8, 8, 8, 8, 8, 8, 8, 8, 8, 8, 8, 8, 8, 8, 8]) (convI .u8 v5.1)) fun x7 =>
 some (addI .i64 v5.2.1 (convI .i64 x7))) fun j6 =>
 bif (decide ((256 : Int) ≤ v3.1)) then
 j6 ((shrI .u64 v3.1 (8 : Int)), (addI .i64 v3.2.1 (8 : Int)), ())
 else
 j6 (v3.1, v3.2.1, ())) fun j4 =>
 bif (decide ((65536 : Int) ≤ v1.1)) then
 j4 ((shrI .u64 v1.1 (16 : Int)), (addI .i64 v1.2.1 (16 : Int)), ())
 else
 j4 (v1.1, v1.2.1, ())) fun j2 =>
 bif (decide ((4294967296 : Int) ≤ a0)) then
 j2 ((shrI .u64 a0 (32 : Int)), (32 : Int), ())
 else
 j2 (a0, (0 : Int), ())
noncomputable def k_math_bits_Len64 : KS U Tryz.prog := ⟨.fn 209 [.ty (Ty.i .u64)] (.one (Ty.i .i64)) fun a => F_math_bits_Len64 a.1, fnS (K := K) sa_math_bits_Len64 25 [.tmp 2] [] (fk Tryz.f209 [] Tryz.func209)⟩

/-! ### math/bits.Len -/
def sa_math_bits_Len : SA U :=
 (sr
 (mc 2 0
 .nil)
 (.seq
 (.cond (.cst (.bool false))
 (sr
 (mv 3 0
 (op 4 (.conv .u32 (tm 3))
 (cl 5 208 [4]
 (mv 2 5
 .nil))))
 .ret)
 .skip)
 (sr
 (mv 6 0
 (cl 7 209 [6]
 (mv 2 7
 .nil)))
 .ret)))
noncomputable def F_math_bits_Len (a0 : Int) : Option Int :=
 Option.bind (F_math_bits_Len64 a0) fun r1 =>
 some r1
noncomputable def k_math_bits_Len : KS U Tryz.prog := ⟨.fn 181 [.ty (Ty.i .u64)] (.one (Ty.i .i64)) fun a => F_math_bits_Len a.1, fnS (K := K) sa_math_bits_Len 8 [.tmp 2] [k_math_bits_Len64] (fk Tryz.f181 [] Tryz.func181)⟩

/-! ### trustquorum/envelopes.Ballots$1 -/
def sa_envelopes_Ballots_1 : SA U :=
 (sr
 (op 2 (.box (tm 0))
 (op 3 (.box (tm 1))
 (mc 4 0
 .nil)))
 (sr
 (ldk 5 2 3
 (ldk 6 2 2
 (cl 7 87 [5, 6]
 (mv 4 7
 .nil))))
 .ret))
noncomputable def F_envelopes_Ballots_1 (a0 : TBallot) (a1 : TBallot) : Option Int :=
 Option.bind (F_ballots_Compare a1 a0) fun r1 =>
 some r1
noncomputable def k_envelopes_Ballots_1 : KS U Tryz.prog := ⟨.fn 86 [.ty (Ty.st .Ballot), .ty (Ty.st .Ballot)] (.one (Ty.i .i64)) fun a => F_envelopes_Ballots_1 a.1 a.2.1, fnS (K := K) sa_envelopes_Ballots_1 8 [.tmp 4] [k_ballots_Compare] (fk Tryz.f86 [] Tryz.func86)⟩

/-! ### slices.insertionSortCmpFunc[trustquorum/api.Ballot] -/
def sa_slices_insertionSortCmpFunc_api_Ballot_c86 : SA U :=
 (sr
 (mv 10 1
 (op 11 (.bin .add (tm 10) (ci 1))
 (mv 8 11
 .nil)))
 (.block 0
 (.loop ⟨[.val 8 (Ty.i .i64), .own 0 0 0 32 2 (Ty.st .Ballot)], [1, 2, 3]⟩
 (.seq
 (sr
 (mv 12 8
 (mv 13 2
 (op 14 (.bin .lss (tm 12) (tm 13))
 .nil)))
 (.cond (tm 14)
 .skip
 (.exit 0)))
 (.seq
 (.block 1
 (sr
 (mv 17 8
 (mv 9 17
 .nil))
 (.block 2
 (.loop ⟨[.val 9 (Ty.i .i64), .own 0 0 0 32 2 (Ty.st .Ballot)], [1, 2, 3, 8]⟩
 (.seq
 (.join ⟨[.val 34 Ty.bool], [0, 1, 2, 3, 8, 9]⟩
 (.drw [(7, 12), (8, 12), (7, 13), (8, 13)]
 (mv 18 9
 (mv 19 1
 (op 20 (.bin .gtr (tm 18) (tm 19))
 (mv 21 20
 (.spl 21
 (opg 22 21 true (.mov (tm 3))
 (opg 23 21 true (.mov (tm 0))
 (opg 24 21 true (.mov (tm 9))
 (opg 25 21 true (.iaddr 2 (tm 23) (tm 24))
 (opg 26 21 true (.load (some 2) (tm 25))
 (opg 27 21 true (.mov (tm 0))
 (opg 28 21 true (.mov (tm 9))
 (opg 29 21 true (.bin .sub (tm 28) (ci 1))
 (opg 30 21 true (.iaddr 2 (tm 27) (tm 29))
 (opg 31 21 true (.load (some 2) (tm 30))
 (opg 32 21 true (.callv (tm 22) [(tm 26), (tm 31)])
 (opg 33 21 true (.bin .lss (tm 32) (ci 0))
 (op 34 (.pick (tm 21) (tm 33) (.cst (.bool false)))
 .nil)))))))))))))))))))
 (.cond (tm 34)
 .skip
 (.exit 2)))
 (.seq
 (.block 3
 (.drw [(8, 12), (9, 12), (8, 13), (9, 13)]
 (mv 37 0
 (mv 38 9
 (mv 39 0
 (mv 40 9
 (op 41 (.bin .sub (tm 40) (ci 1))
 (mv 42 0
 (mv 43 9
 (op 44 (.bin .sub (tm 43) (ci 1))
 (ia 45 2 42 44
 (ldk 46 2 45
 (mv 47 0
 (mv 48 9
 (ia 49 2 47 48
 (ldk 50 2 49
 (ia 51 2 37 38
 (ops (.store 2 (tm 51) (tm 46))
 (ia 52 2 39 41
 (ops (.store 2 (tm 52) (tm 50))
 .nil))))))))))))))))))))
 (.reg
 (mv 35 9
 (op 36 (.bin .sub (tm 35) (ci 1))
 (mv 9 36
 .nil))))))))))
 (.reg
 (mv 15 8
 (op 16 (.bin .add (tm 15) (ci 1))
 (mv 8 16
 .nil)))))))))
noncomputable def F_slices_insertionSortCmpFunc_api_Ballot_c86 (s : List TBallot) (a0 : Int) (a1 : Int) : Option ((Unit) × List TBallot) :=
 loopO (fun (v1 : Int × (List TBallot) × Unit) =>
 bif (decide (v1.1 < a1)) then
 loopO (fun (v2 : Int × (List TBallot) × Unit) =>
 letJ (fun (v3 : Bool × Unit) =>
 bif v3.1 then
 Option.bind (idx v2.2.1 (subI .i64 v2.1 (1 : Int))) fun x5 =>
 Option.bind (v2.2.1[(Int.toNat (subI .i64 v2.1 (1 : Int)))]?) fun x6 =>
 Option.bind (idx v2.2.1 v2.1) fun x7 =>
 Option.bind (v2.2.1[(Int.toNat v2.1)]?) fun x8 =>
 Option.bind (idx v2.2.1 v2.1) fun x9 =>
 Option.bind (v2.2.1[(Int.toNat v2.1)]?) fun x10 =>
 Option.bind (idx (v2.2.1.set (Int.toNat v2.1) x6) (subI .i64 v2.1 (1 : Int))) fun x11 =>
 Option.bind ((v2.2.1.set (Int.toNat v2.1) x6)[(Int.toNat (subI .i64 v2.1 (1 : Int)))]?) fun x12 =>
 some (Sum.inl ((subI .i64 v2.1 (1 : Int)), ((v2.2.1.set (Int.toNat v2.1) x6).set (Int.toNat (subI .i64 v2.1 (1 : Int))) x8), ()))
 else
 Option.map Sum.inr (some (Sum.inl ((addI .i64 v1.1 (1 : Int)), v2.2.1, ())))) fun j4 =>
 bif (decide (a0 < v2.1)) then
 Option.bind (idx v2.2.1 v2.1) fun x13 =>
 Option.bind (v2.2.1[(Int.toNat v2.1)]?) fun x14 =>
 Option.bind (idx v2.2.1 (subI .i64 v2.1 (1 : Int))) fun x15 =>
 Option.bind (v2.2.1[(Int.toNat (subI .i64 v2.1 (1 : Int)))]?) fun x16 =>
 Option.bind (F_envelopes_Ballots_1 x14 x16) fun r17 =>
 j4 ((decide (r17 < (0 : Int))), ())
 else
 j4 (false, ())) (v1.1, v1.2.1, ())
 else
 Option.map Sum.inr (some ((()), v1.2.1))) ((addI .i64 a0 (1 : Int)), s, ())
noncomputable def k_slices_insertionSortCmpFunc_api_Ballot_c86 : KS U Tryz.prog := ⟨.rw 200 32 2 (Ty.st .Ballot) [.ty (Ty.i .i64), .ty (Ty.i .i64), .clo 86 []] (.many []) fun s a => F_slices_insertionSortCmpFunc_api_Ballot_c86 s a.1 a.2.1, rwS (K := K) sa_slices_insertionSortCmpFunc_api_Ballot_c86 53 [] [k_envelopes_Ballots_1] (fk Tryz.f200 [] Tryz.func200)⟩

/-! ### slices.siftDownCmpFunc[trustquorum/api.Ballot] -/
def sa_slices_siftDownCmpFunc_api_Ballot_c86 : SA U :=
 (sr
 (mv 12 1
 (mv 10 12
 .nil))
 (.block 0
 (.loop ⟨[.val 10 (Ty.i .i64), .own 0 0 0 32 2 (Ty.st .Ballot)], [2, 3, 4]⟩
 (.block 1
 (sr
 (mv 13 10
 (op 14 (.bin .mul (ci 2) (tm 13))
 (op 15 (.bin .add (tm 14) (ci 1))
 (mv 11 15
 .nil))))
 (.seq
 (sr
 (mv 16 11
 (mv 17 2
 (op 18 (.bin .geq (tm 16) (tm 17))
 .nil)))
 (.cond (tm 18)
 (.exit 0)
 .skip))
 (.join ⟨[.val 11 (Ty.i .i64)], [0, 2, 3, 4, 10]⟩
 (.join ⟨[.val 40 Ty.bool], [0, 2, 3, 4, 10, 11]⟩
 (.drw [(10, 17), (11, 17), (10, 18), (11, 18)]
 (mv 19 11
 (op 20 (.bin .add (tm 19) (ci 1))
 (mv 21 2
 (op 22 (.bin .lss (tm 20) (tm 21))
 (mv 23 22
 (.spl 23
 (opg 24 23 true (.mov (tm 4))
 (opg 25 23 true (.mov (tm 0))
 (opg 26 23 true (.mov (tm 3))
 (opg 27 23 true (.mov (tm 11))
 (opg 28 23 true (.bin .add (tm 26) (tm 27))
 (opg 29 23 true (.iaddr 2 (tm 25) (tm 28))
 (opg 30 23 true (.load (some 2) (tm 29))
 (opg 31 23 true (.mov (tm 0))
 (opg 32 23 true (.mov (tm 3))
 (opg 33 23 true (.mov (tm 11))
 (opg 34 23 true (.bin .add (tm 32) (tm 33))
 (opg 35 23 true (.bin .add (tm 34) (ci 1))
 (opg 36 23 true (.iaddr 2 (tm 31) (tm 35))
 (opg 37 23 true (.load (some 2) (tm 36))
 (opg 38 23 true (.callv (tm 24) [(tm 30), (tm 37)])
 (opg 39 23 true (.bin .lss (tm 38) (ci 0))
 (op 40 (.pick (tm 23) (tm 39) (.cst (.bool false)))
 .nil))))))))))))))))))))))))
 (.cond (tm 40)
 (.reg
 (mv 41 11
 (op 42 (.bin .add (tm 41) (ci 1))
 (mv 11 42
 .nil))))
 .skip))
 (.seq
 (.seq
 (.drw [(5, 11), (6, 11), (5, 12), (6, 12)]
 (mv 43 4
 (mv 44 0
 (mv 45 3
 (mv 46 10
 (op 47 (.bin .add (tm 45) (tm 46))
 (ia 48 2 44 47
 (ldk 49 2 48
 (mv 50 0
 (mv 51 3
 (mv 52 11
 (op 53 (.bin .add (tm 51) (tm 52))
 (ia 54 2 50 53
 (ldk 55 2 54
 (op 56 (.callv (tm 43) [(tm 49), (tm 55)])
 (op 57 (.bin .lss (tm 56) (ci 0))
 (op 58 (.not (tm 57))
 .nil)))))))))))))))))
 (.cond (tm 58)
 .ret
 .skip))
 (.seq
 (.drw [(12, 18), (13, 18), (12, 19), (13, 19)]
 (mv 59 0
 (mv 60 3
 (mv 61 10
 (op 62 (.bin .add (tm 60) (tm 61))
 (mv 63 0
 (mv 64 3
 (mv 65 11
 (op 66 (.bin .add (tm 64) (tm 65))
 (mv 67 0
 (mv 68 3
 (mv 69 11
 (op 70 (.bin .add (tm 68) (tm 69))
 (ia 71 2 67 70
 (ldk 72 2 71
 (mv 73 0
 (mv 74 3
 (mv 75 10
 (op 76 (.bin .add (tm 74) (tm 75))
 (ia 77 2 73 76
 (ldk 78 2 77
 (ia 79 2 59 62
 (ops (.store 2 (tm 79) (tm 72))
 (ia 80 2 63 66
 (ops (.store 2 (tm 80) (tm 78))
 .nil)))))))))))))))))))))))))
 (.reg
 (mv 81 11
 (mv 10 81
 .nil))))))))))))
noncomputable def F_slices_siftDownCmpFunc_api_Ballot_c86 (s : List TBallot) (a0 : Int) (a1 : Int) (a2 : Int) : Option ((Unit) × List TBallot) :=
 loopO (fun (v1 : Int × (List TBallot) × Unit) =>
 bif (decide (a1 ≤ (addI .i64 (mulI .i64 (2 : Int) v1.1) (1 : Int)))) then
 Option.map Sum.inr (some ((()), v1.2.1))
 else
 letJ (fun (v2 : Int × Unit) =>
 Option.bind (idx v1.2.1 (addI .i64 a2 v1.1)) fun x4 =>
 Option.bind (v1.2.1[(Int.toNat (addI .i64 a2 v1.1))]?) fun x5 =>
 Option.bind (idx v1.2.1 (addI .i64 a2 v2.1)) fun x6 =>
 Option.bind (v1.2.1[(Int.toNat (addI .i64 a2 v2.1))]?) fun x7 =>
 Option.bind (F_envelopes_Ballots_1 x5 x7) fun r8 =>
 bif (!(decide (r8 < (0 : Int)))) then
 Option.map Sum.inr (some ((()), v1.2.1))
 else
 Option.bind (idx v1.2.1 (addI .i64 a2 v2.1)) fun x9 =>
 Option.bind (v1.2.1[(Int.toNat (addI .i64 a2 v2.1))]?) fun x10 =>
 Option.bind (idx v1.2.1 (addI .i64 a2 v1.1)) fun x11 =>
 Option.bind (v1.2.1[(Int.toNat (addI .i64 a2 v1.1))]?) fun x12 =>
 Option.bind (idx v1.2.1 (addI .i64 a2 v1.1)) fun x13 =>
 Option.bind (v1.2.1[(Int.toNat (addI .i64 a2 v1.1))]?) fun x14 =>
 Option.bind (idx (v1.2.1.set (Int.toNat (addI .i64 a2 v1.1)) x10) (addI .i64 a2 v2.1)) fun x15 =>
 Option.bind ((v1.2.1.set (Int.toNat (addI .i64 a2 v1.1)) x10)[(Int.toNat (addI .i64 a2 v2.1))]?) fun x16 =>
 some (Sum.inl (v2.1, ((v1.2.1.set (Int.toNat (addI .i64 a2 v1.1)) x10).set (Int.toNat (addI .i64 a2 v2.1)) x12), ()))) fun j3 =>
 letJ (fun (v17 : Bool × Unit) =>
 bif v17.1 then
 j3 ((addI .i64 (addI .i64 (mulI .i64 (2 : Int) v1.1) (1 : Int)) (1 : Int)), ())
 else
 j3 ((addI .i64 (mulI .i64 (2 : Int) v1.1) (1 : Int)), ())) fun j18 =>
 bif (decide ((addI .i64 (addI .i64 (mulI .i64 (2 : Int) v1.1) (1 : Int)) (1 : Int)) < a1)) then
 Option.bind (idx v1.2.1 (addI .i64 a2 (addI .i64 (mulI .i64 (2 : Int) v1.1) (1 : Int)))) fun x19 =>
 Option.bind (v1.2.1[(Int.toNat (addI .i64 a2 (addI .i64 (mulI .i64 (2 : Int) v1.1) (1 : Int))))]?) fun x20 =>
 Option.bind (idx v1.2.1 (addI .i64 (addI .i64 a2 (addI .i64 (mulI .i64 (2 : Int) v1.1) (1 : Int))) (1 : Int))) fun x21 =>
 Option.bind (v1.2.1[(Int.toNat (addI .i64 (addI .i64 a2 (addI .i64 (mulI .i64 (2 : Int) v1.1) (1 : Int))) (1 : Int)))]?) fun x22 =>
 Option.bind (F_envelopes_Ballots_1 x20 x22) fun r23 =>
 j18 ((decide (r23 < (0 : Int))), ())
 else
 j18 (false, ())) (a0, s, ())
noncomputable def k_slices_siftDownCmpFunc_api_Ballot_c86 : KS U Tryz.prog := ⟨.rw 232 32 2 (Ty.st .Ballot) [.ty (Ty.i .i64), .ty (Ty.i .i64), .ty (Ty.i .i64), .clo 86 []] (.many []) fun s a => F_slices_siftDownCmpFunc_api_Ballot_c86 s a.1 a.2.1 a.2.2.1, rwS (K := K) sa_slices_siftDownCmpFunc_api_Ballot_c86 82 [] [k_envelopes_Ballots_1] (fk Tryz.f232 [] Tryz.func232)⟩

/-! ### slices.heapSortCmpFunc[trustquorum/api.Ballot] -/
def sa_slices_heapSortCmpFunc_api_Ballot_c86 : SA U :=
 (sr
 (mv 13 1
 (mv 8 13
 .nil))
 (sr
 (mc 9 0
 .nil)
 (sr
 (mv 14 2
 (mv 15 1
 (op 16 (.bin .sub (tm 14) (tm 15))
 (mv 10 16
 .nil))))
 (.seq
 (sr
 (mv 17 10
 (op 18 (.bin .sub (tm 17) (ci 1))
 (op 19 (.bin .quo (tm 18) (ci 2))
 (mv 11 19
 .nil))))
 (.block 0
 (.loop ⟨[.val 11 (Ty.i .i64), .own 0 0 0 32 2 (Ty.st .Ballot)], [3, 8, 9, 10]⟩
 (.seq
 (sr
 (mv 20 11
 (op 21 (.bin .geq (tm 20) (ci 0))
 .nil))
 (.cond (tm 21)
 .skip
 (.exit 0)))
 (.seq
 (.block 1
 (.reg
 (mv 24 0
 (mv 25 11
 (mv 26 10
 (mv 27 8
 (mv 28 3
 (cl 29 232 [24, 25, 26, 27, 28]
 .nil))))))))
 (.reg
 (mv 22 11
 (op 23 (.bin .sub (tm 22) (ci 1))
 (mv 11 23
 .nil)))))))))
 (sr
 (mv 30 10
 (op 31 (.bin .sub (tm 30) (ci 1))
 (mv 12 31
 .nil)))
 (.block 2
 (.loop ⟨[.val 12 (Ty.i .i64), .own 0 0 0 32 2 (Ty.st .Ballot)], [3, 8, 9]⟩
 (.seq
 (sr
 (mv 32 12
 (op 33 (.bin .geq (tm 32) (ci 0))
 .nil))
 (.cond (tm 33)
 .skip
 (.exit 2)))
 (.seq
 (.block 3
 (.seq
 (.drw [(10, 14), (11, 14), (10, 15), (11, 15)]
 (mv 36 0
 (mv 37 8
 (mv 38 0
 (mv 39 8
 (mv 40 12
 (op 41 (.bin .add (tm 39) (tm 40))
 (mv 42 0
 (mv 43 8
 (mv 44 12
 (op 45 (.bin .add (tm 43) (tm 44))
 (ia 46 2 42 45
 (ldk 47 2 46
 (mv 48 0
 (mv 49 8
 (ia 50 2 48 49
 (ldk 51 2 50
 (ia 52 2 36 37
 (ops (.store 2 (tm 52) (tm 47))
 (ia 53 2 38 41
 (ops (.store 2 (tm 53) (tm 51))
 .nil)))))))))))))))))))))
 (.reg
 (mv 54 0
 (mv 55 9
 (mv 56 12
 (mv 57 8
 (mv 58 3
 (cl 59 232 [54, 55, 56, 57, 58]
 .nil)))))))))
 (.reg
 (mv 34 12
 (op 35 (.bin .sub (tm 34) (ci 1))
 (mv 12 35
 .nil)))))))))))))
noncomputable def F_slices_heapSortCmpFunc_api_Ballot_c86 (s : List TBallot) (a0 : Int) (a1 : Int) : Option ((Unit) × List TBallot) :=
 loopO (fun (v1 : Int × (List TBallot) × Unit) =>
 bif (decide ((0 : Int) ≤ v1.1)) then
 Option.bind (F_slices_siftDownCmpFunc_api_Ballot_c86 v1.2.1 v1.1 (subI .i64 a1 a0) a0) fun p2 =>
 some (Sum.inl ((subI .i64 v1.1 (1 : Int)), p2.2, ()))
 else
 Option.map Sum.inr (loopO (fun (v3 : Int × (List TBallot) × Unit) =>
 bif (decide ((0 : Int) ≤ v3.1)) then
 Option.bind (idx v3.2.1 (addI .i64 a0 v3.1)) fun x4 =>
 Option.bind (v3.2.1[(Int.toNat (addI .i64 a0 v3.1))]?) fun x5 =>
 Option.bind (idx v3.2.1 a0) fun x6 =>
 Option.bind (v3.2.1[(Int.toNat a0)]?) fun x7 =>
 Option.bind (idx v3.2.1 a0) fun x8 =>
 Option.bind (v3.2.1[(Int.toNat a0)]?) fun x9 =>
 Option.bind (idx (v3.2.1.set (Int.toNat a0) x5) (addI .i64 a0 v3.1)) fun x10 =>
 Option.bind ((v3.2.1.set (Int.toNat a0) x5)[(Int.toNat (addI .i64 a0 v3.1))]?) fun x11 =>
 Option.bind (F_slices_siftDownCmpFunc_api_Ballot_c86 ((v3.2.1.set (Int.toNat a0) x5).set (Int.toNat (addI .i64 a0 v3.1)) x7) (0 : Int) v3.1 a0) fun p12 =>
 some (Sum.inl ((subI .i64 v3.1 (1 : Int)), p12.2, ()))
 else
 Option.map Sum.inr (some ((()), v3.2.1))) ((subI .i64 (subI .i64 a1 a0) (1 : Int)), v1.2.1, ()))) ((quoI .i64 (subI .i64 (subI .i64 a1 a0) (1 : Int)) (2 : Int)), s, ())
noncomputable def k_slices_heapSortCmpFunc_api_Ballot_c86 : KS U Tryz.prog := ⟨.rw 201 32 2 (Ty.st .Ballot) [.ty (Ty.i .i64), .ty (Ty.i .i64), .clo 86 []] (.many []) fun s a => F_slices_heapSortCmpFunc_api_Ballot_c86 s a.1 a.2.1, rwS (K := K) sa_slices_heapSortCmpFunc_api_Ballot_c86 60 [] [k_slices_siftDownCmpFunc_api_Ballot_c86] (fk Tryz.f201 [] Tryz.func201)⟩

/-! ### slices.nextPowerOfTwo -/
def sa_slices_nextPowerOfTwo : SA U :=
 (sr
 (op 2 (.mov (.cst (.int .u64 0)))
 .nil)
 (sr
 (mv 3 0
 (op 4 (.conv .u64 (tm 3))
 (cl 5 181 [4]
 (op 6 (.bin .shl (.cst (.int .u64 1)) (tm 5))
 (mv 2 6
 .nil)))))
 .ret))
noncomputable def F_slices_nextPowerOfTwo (a0 : Int) : Option Int :=
 Option.bind (F_math_bits_Len (convI .u64 a0)) fun r1 =>
 if r1 < 0 then none else
 some (shlI .u64 (1 : Int) r1)
noncomputable def k_slices_nextPowerOfTwo : KS U Tryz.prog := ⟨.fn 233 [.ty (Ty.i .i64)] (.one (Ty.i .u64)) fun a => F_slices_nextPowerOfTwo a.1, fnS (K := K) sa_slices_nextPowerOfTwo 7 [.tmp 2] [k_math_bits_Len] (fk Tryz.f233 [] Tryz.func233)⟩

/-! ### (*slices.xorshift).Next -/
def sa_slices_xorshift_Next : SA U :=
 (sr
 (op 2 (.mov (.cst (.int .u64 0)))
 .nil)
 (.seq
 (.drw [(1, 4), (2, 4), (1, 5), (2, 5)]
 (mv 3 0
 (op 4 (.nilck (tm 3))
 (ld 5 4
 (mv 6 0
 (op 7 (.nilck (tm 6))
 (ld 8 7
 (op 9 (.bin .shl (tm 8) (.cst (.int .u64 13)))
 (op 10 (.bin .xor (tm 5) (tm 9))
 (op 11 (.nilck (tm 3))
 (ops (.store 1 (tm 11) (tm 10))
 .nil)))))))))))
 (.seq
 (.drw [(1, 4), (2, 4), (1, 5), (2, 5)]
 (mv 12 0
 (op 13 (.nilck (tm 12))
 (ld 14 13
 (mv 15 0
 (op 16 (.nilck (tm 15))
 (ld 17 16
 (op 18 (.bin .shr (tm 17) (.cst (.int .u64 7)))
 (op 19 (.bin .xor (tm 14) (tm 18))
 (op 20 (.nilck (tm 12))
 (ops (.store 1 (tm 20) (tm 19))
 .nil)))))))))))
 (.seq
 (.drw [(1, 4), (2, 4), (1, 5), (2, 5)]
 (mv 21 0
 (op 22 (.nilck (tm 21))
 (ld 23 22
 (mv 24 0
 (op 25 (.nilck (tm 24))
 (ld 26 25
 (op 27 (.bin .shl (tm 26) (.cst (.int .u64 17)))
 (op 28 (.bin .xor (tm 23) (tm 27))
 (op 29 (.nilck (tm 21))
 (ops (.store 1 (tm 29) (tm 28))
 .nil)))))))))))
 (sr
 (mv 30 0
 (op 31 (.nilck (tm 30))
 (ld 32 31
 (mv 2 32
 .nil))))
 .ret)))))
noncomputable def F_slices_xorshift_Next (s : Int)  : Option (Int × Int) :=
 some ((xorI .u64 (xorI .u64 (xorI .u64 s (shlI .u64 s (13 : Int))) (shrI .u64 (xorI .u64 s (shlI .u64 s (13 : Int))) (7 : Int))) (shlI .u64 (xorI .u64 (xorI .u64 s (shlI .u64 s (13 : Int))) (shrI .u64 (xorI .u64 s (shlI .u64 s (13 : Int))) (7 : Int))) (17 : Int))), (xorI .u64 (xorI .u64 (xorI .u64 s (shlI .u64 s (13 : Int))) (shrI .u64 (xorI .u64 s (shlI .u64 s (13 : Int))) (7 : Int))) (shlI .u64 (xorI .u64 (xorI .u64 s (shlI .u64 s (13 : Int))) (shrI .u64 (xorI .u64 s (shlI .u64 s (13 : Int))) (7 : Int))) (17 : Int))))
noncomputable def k_slices_xorshift_Next : KS U Tryz.prog := ⟨.rc 234 0 (Ty.i .u64) [] (.one (Ty.i .u64)) fun s a => F_slices_xorshift_Next s , rcS (K := K) sa_slices_xorshift_Next 33 [.tmp 2] [] (fk Tryz.f234 [] Tryz.func234)⟩

/-! ### slices.breakPatternsCmpFunc[trustquorum/api.Ballot] -/
def sa_slices_breakPatternsCmpFunc_api_Ballot_c86 : SA U :=
 (sr
 (mv 13 2
 (mv 14 1
 (op 15 (.bin .sub (tm 13) (tm 14))
 (mv 8 15
 .nil))))
 (sr
 (mv 16 8
 (op 17 (.bin .geq (tm 16) (ci 8))
 .nil))
 (.cond (tm 17)
 (sr
 (mv 18 8
 (op 19 (.conv .u64 (tm 18))
 (op 9 (.alloc [.int .u64 0])
 (ops (.store 1 (tm 9) (tm 19))
 .nil))))
 (sr
 (mv 20 8
 (cl 21 233 [20]
 (mv 10 21
 .nil)))
 (sr
 (mv 22 1
 (mv 23 8
 (op 24 (.bin .quo (tm 23) (ci 4))
 (op 25 (.bin .mul (tm 24) (ci 2))
 (op 26 (.bin .add (tm 22) (tm 25))
 (op 27 (.bin .sub (tm 26) (ci 1))
 (mv 11 27
 .nil)))))))
 (.block 0
 (.loop ⟨[.val 11 (Ty.i .i64), .own 0 0 0 32 2 (Ty.st .Ballot), .box 9 1 (Ty.i .u64) []], [1, 8, 9, 10]⟩
 (.seq
 (sr
 (mv 28 11
 (mv 29 1
 (mv 30 8
 (op 31 (.bin .quo (tm 30) (ci 4))
 (op 32 (.bin .mul (tm 31) (ci 2))
 (op 33 (.bin .add (tm 29) (tm 32))
 (op 34 (.bin .add (tm 33) (ci 1))
 (op 35 (.bin .leq (tm 28) (tm 34))
 .nil))))))))
 (.cond (tm 35)
 .skip
 (.exit 0)))
 (.seq
 (.block 1
 (sr
 (cl 38 234 [9]
 (mv 39 10
 (op 40 (.bin .sub (tm 39) (.cst (.int .u64 1)))
 (op 41 (.bin .and (tm 38) (tm 40))
 (op 42 (.conv .i64 (tm 41))
 (mv 12 42
 .nil))))))
 (.join ⟨[.val 12 (Ty.i .i64)], [0, 1, 8, 9, 10, 11]⟩
 (sr
 (mv 43 12
 (mv 44 8
 (op 45 (.bin .geq (tm 43) (tm 44))
 .nil)))
 (.cond (tm 45)
 (.reg
 (mv 46 12
 (mv 47 8
 (op 48 (.bin .sub (tm 46) (tm 47))
 (mv 12 48
 .nil)))))
 .skip))
 (.drw [(10, 14), (11, 14), (10, 15), (11, 15)]
 (mv 49 0
 (mv 50 11
 (mv 51 0
 (mv 52 1
 (mv 53 12
 (op 54 (.bin .add (tm 52) (tm 53))
 (mv 55 0
 (mv 56 1
 (mv 57 12
 (op 58 (.bin .add (tm 56) (tm 57))
 (ia 59 2 55 58
 (ldk 60 2 59
 (mv 61 0
 (mv 62 11
 (ia 63 2 61 62
 (ldk 64 2 63
 (ia 65 2 49 50
 (ops (.store 2 (tm 65) (tm 60))
 (ia 66 2 51 54
 (ops (.store 2 (tm 66) (tm 64))
 .nil))))))))))))))))))))))))
 (.reg
 (mv 36 11
 (op 37 (.bin .add (tm 36) (ci 1))
 (mv 11 37
 .nil)))))))))))
 .skip)))
noncomputable def F_slices_breakPatternsCmpFunc_api_Ballot_c86 (s : List TBallot) (a0 : Int) (a1 : Int) : Option ((Unit) × List TBallot) :=
 bif (decide ((8 : Int) ≤ (subI .i64 a1 a0))) then
 Option.bind (F_slices_nextPowerOfTwo (subI .i64 a1 a0)) fun r1 =>
 loopO (fun (v2 : Int × (List TBallot) × Int × Unit) =>
 bif (decide (v2.1 ≤ (addI .i64 (addI .i64 a0 (mulI .i64 (quoI .i64 (subI .i64 a1 a0) (4 : Int)) (2 : Int))) (1 : Int)))) then
 Option.bind (F_slices_xorshift_Next v2.2.2.1) fun p3 =>
 letJ (fun (v4 : Int × Unit) =>
 Option.bind (idx v2.2.1 (addI .i64 a0 v4.1)) fun x6 =>
 Option.bind (v2.2.1[(Int.toNat (addI .i64 a0 v4.1))]?) fun x7 =>
 Option.bind (idx v2.2.1 v2.1) fun x8 =>
 Option.bind (v2.2.1[(Int.toNat v2.1)]?) fun x9 =>
 Option.bind (idx v2.2.1 v2.1) fun x10 =>
 Option.bind (v2.2.1[(Int.toNat v2.1)]?) fun x11 =>
 Option.bind (idx (v2.2.1.set (Int.toNat v2.1) x7) (addI .i64 a0 v4.1)) fun x12 =>
 Option.bind ((v2.2.1.set (Int.toNat v2.1) x7)[(Int.toNat (addI .i64 a0 v4.1))]?) fun x13 =>
 some (Sum.inl ((addI .i64 v2.1 (1 : Int)), ((v2.2.1.set (Int.toNat v2.1) x7).set (Int.toNat (addI .i64 a0 v4.1)) x9), p3.2, ()))) fun j5 =>
 bif (decide ((subI .i64 a1 a0) ≤ (convI .i64 (andI .u64 p3.1 (subI .u64 r1 (1 : Int)))))) then
 j5 ((subI .i64 (convI .i64 (andI .u64 p3.1 (subI .u64 r1 (1 : Int)))) (subI .i64 a1 a0)), ())
 else
 j5 ((convI .i64 (andI .u64 p3.1 (subI .u64 r1 (1 : Int)))), ())
 else
 Option.map Sum.inr (some ((()), v2.2.1))) ((subI .i64 (addI .i64 a0 (mulI .i64 (quoI .i64 (subI .i64 a1 a0) (4 : Int)) (2 : Int))) (1 : Int)), s, (convI .u64 (subI .i64 a1 a0)), ())
 else
 some ((()), s)
noncomputable def k_slices_breakPatternsCmpFunc_api_Ballot_c86 : KS U Tryz.prog := ⟨.rw 202 32 2 (Ty.st .Ballot) [.ty (Ty.i .i64), .ty (Ty.i .i64), .clo 86 []] (.many []) fun s a => F_slices_breakPatternsCmpFunc_api_Ballot_c86 s a.1 a.2.1, rwS (K := K) sa_slices_breakPatternsCmpFunc_api_Ballot_c86 67 [] [k_slices_nextPowerOfTwo, k_slices_xorshift_Next] (fk Tryz.f202 [] Tryz.func202)⟩

/-! ### slices.order2CmpFunc[trustquorum/api.Ballot] -/
def sa_slices_order2CmpFunc_api_Ballot_c86 : SA U :=
 (sr
 (mc 10 0
 (mc 11 0
 .nil))
 (.seq
 (.seq
 (.drw [(3, 7), (4, 7), (3, 8), (4, 8)]
 (mv 12 4
 (mv 13 0
 (mv 14 2
 (ia 15 2 13 14
 (ldk 16 2 15
 (mv 17 0
 (mv 18 1
 (ia 19 2 17 18
 (ldk 20 2 19
 (op 21 (.callv (tm 12) [(tm 16), (tm 20)])
 (op 22 (.bin .lss (tm 21) (ci 0))
 .nil))))))))))))
 (.cond (tm 22)
 (sr
 (mv 23 3
 (op 24 (.nilck (tm 23))
 (ld 25 24
 (op 26 (.bin .add (tm 25) (ci 1))
 (op 27 (.nilck (tm 23))
 (ops (.store 1 (tm 27) (tm 26))
 .nil))))))
 (sr
 (mv 28 2
 (mv 29 1
 (mv 10 28
 (mv 11 29
 .nil))))
 .ret))
 .skip))
 (sr
 (mv 30 1
 (mv 31 2
 (mv 10 30
 (mv 11 31
 .nil))))
 .ret)))
noncomputable def F_slices_order2CmpFunc_api_Ballot_c86 (s : Int) (a0 : (List TBallot)) (a1 : Int) (a2 : Int) : Option ((Int × Int × Unit) × Int) :=
 Option.bind (idx a0 a2) fun x1 =>
 Option.bind (idx a0 a1) fun x2 =>
 Option.bind (F_envelopes_Ballots_1 x1 x2) fun r3 =>
 bif (decide (r3 < (0 : Int))) then
 some ((a2, a1, ()), (addI .i64 s (1 : Int)))
 else
 some ((a1, a2, ()), s)
noncomputable def k_slices_order2CmpFunc_api_Ballot_c86 : KS U Tryz.prog := ⟨.rc 247 3 (Ty.i .i64) [.ty (Ty.sl (Ty.st .Ballot)), .ty (Ty.i .i64), .ty (Ty.i .i64), .clo 86 []] (.many [(Ty.i .i64), (Ty.i .i64)]) fun s a => F_slices_order2CmpFunc_api_Ballot_c86 s a.1 a.2.1 a.2.2.1, rcS (K := K) sa_slices_order2CmpFunc_api_Ballot_c86 32 [.tmp 10, .tmp 11] [k_envelopes_Ballots_1] (fk Tryz.f247 [] Tryz.func247)⟩

/-! ### slices.medianCmpFunc[trustquorum/api.Ballot] -/
def sa_slices_medianCmpFunc_api_Ballot_c86 : SA U :=
 (sr
 (mc 12 0
 .nil)
 (sr
 (mv 14 0
 (mv 15 1
 (mv 16 2
 (mv 17 4
 (mv 18 5
 (cl 19 247 [14, 15, 16, 17, 18]
 (mv 13 19
 (op 20 (.extr 0 (tm 13))
 (op 21 (.extr 1 (tm 13))
 (mv 1 20
 (mv 2 21
 .nil)))))))))))
 (sr
 (mv 23 0
 (mv 24 2
 (mv 25 3
 (mv 26 4
 (mv 27 5
 (cl 28 247 [23, 24, 25, 26, 27]
 (mv 22 28
 (op 29 (.extr 0 (tm 22))
 (op 30 (.extr 1 (tm 22))
 (mv 2 29
 (mv 3 30
 .nil)))))))))))
 (sr
 (mv 32 0
 (mv 33 1
 (mv 34 2
 (mv 35 4
 (mv 36 5
 (cl 37 247 [32, 33, 34, 35, 36]
 (mv 31 37
 (op 38 (.extr 0 (tm 31))
 (op 39 (.extr 1 (tm 31))
 (mv 1 38
 (mv 2 39
 .nil)))))))))))
 (sr
 (mv 40 2
 (mv 12 40
 .nil))
 .ret)))))
noncomputable def F_slices_medianCmpFunc_api_Ballot_c86 (s : Int) (a0 : (List TBallot)) (a1 : Int) (a2 : Int) (a3 : Int) : Option (Int × Int) :=
 Option.bind (F_slices_order2CmpFunc_api_Ballot_c86 s a0 a1 a2) fun p1 =>
 Option.bind (F_slices_order2CmpFunc_api_Ballot_c86 p1.2 a0 p1.1.2.1 a3) fun p2 =>
 Option.bind (F_slices_order2CmpFunc_api_Ballot_c86 p2.2 a0 p1.1.1 p2.1.1) fun p3 =>
 some (p3.1.2.1, p3.2)
noncomputable def k_slices_medianCmpFunc_api_Ballot_c86 : KS U Tryz.prog := ⟨.rc 236 4 (Ty.i .i64) [.ty (Ty.sl (Ty.st .Ballot)), .ty (Ty.i .i64), .ty (Ty.i .i64), .ty (Ty.i .i64), .clo 86 []] (.one (Ty.i .i64)) fun s a => F_slices_medianCmpFunc_api_Ballot_c86 s a.1 a.2.1 a.2.2.1 a.2.2.2.1, rcS (K := K) sa_slices_medianCmpFunc_api_Ballot_c86 41 [.tmp 12] [k_slices_order2CmpFunc_api_Ballot_c86] (fk Tryz.f236 [] Tryz.func236)⟩

/-! ### slices.medianAdjacentCmpFunc[trustquorum/api.Ballot] -/
def sa_slices_medianAdjacentCmpFunc_api_Ballot_c86 : SA U :=
 (sr
 (mc 8 0
 .nil)
 (sr
 (mv 9 0
 (mv 10 1
 (op 11 (.bin .sub (tm 10) (ci 1))
 (mv 12 1
 (mv 13 1
 (op 14 (.bin .add (tm 13) (ci 1))
 (mv 15 2
 (mv 16 3
 (cl 17 236 [9, 11, 12, 14, 15, 16]
 (mv 8 17
 .nil))))))))))
 .ret))
noncomputable def F_slices_medianAdjacentCmpFunc_api_Ballot_c86 (s : Int) (a0 : (List TBallot)) (a1 : Int) : Option (Int × Int) :=
 Option.bind (F_slices_medianCmpFunc_api_Ballot_c86 s a0 (subI .i64 a1 (1 : Int)) a1 (addI .i64 a1 (1 : Int))) fun p1 =>
 some (p1.1, p1.2)
noncomputable def k_slices_medianAdjacentCmpFunc_api_Ballot_c86 : KS U Tryz.prog := ⟨.rc 235 2 (Ty.i .i64) [.ty (Ty.sl (Ty.st .Ballot)), .ty (Ty.i .i64), .clo 86 []] (.one (Ty.i .i64)) fun s a => F_slices_medianAdjacentCmpFunc_api_Ballot_c86 s a.1 a.2.1, rcS (K := K) sa_slices_medianAdjacentCmpFunc_api_Ballot_c86 18 [.tmp 8] [k_slices_medianCmpFunc_api_Ballot_c86] (fk Tryz.f235 [] Tryz.func235)⟩

/-! ### slices.choosePivotCmpFunc[trustquorum/api.Ballot] -/
def sa_slices_choosePivotCmpFunc_api_Ballot_c86 : SA U :=
 (sr
 (mc 8 0
 (mc 9 0
 .nil))
 (sr
 (mv 15 2
 (mv 16 1
 (op 17 (.bin .sub (tm 15) (tm 16))
 (mv 10 17
 .nil))))
 (sr
 (op 11 (.alloc [.int .i64 0])
 .nil)
 (sr
 (mv 18 1
 (mv 19 10
 (op 20 (.bin .quo (tm 19) (ci 4))
 (op 21 (.bin .mul (tm 20) (ci 1))
 (op 22 (.bin .add (tm 18) (tm 21))
 (mv 12 22
 .nil))))))
 (sr
 (mv 23 1
 (mv 24 10
 (op 25 (.bin .quo (tm 24) (ci 4))
 (op 26 (.bin .mul (tm 25) (ci 2))
 (op 27 (.bin .add (tm 23) (tm 26))
 (mv 13 27
 .nil))))))
 (sr
 (mv 28 1
 (mv 29 10
 (op 30 (.bin .quo (tm 29) (ci 4))
 (op 31 (.bin .mul (tm 30) (ci 3))
 (op 32 (.bin .add (tm 28) (tm 31))
 (mv 14 32
 .nil))))))
 (.join ⟨[.val 13 (Ty.i .i64), .box 6 1 (Ty.i .i64) []], [11]⟩
 (sr
 (mv 33 10
 (op 34 (.bin .geq (tm 33) (ci 8))
 .nil))
 (.cond (tm 34)
 (.join ⟨[.val 12 (Ty.i .i64), .val 13 (Ty.i .i64), .val 14 (Ty.i .i64), .box 6 1 (Ty.i .i64) []], [0, 3, 11]⟩
 (sr
 (mv 35 10
 (op 36 (.bin .geq (tm 35) (ci 50))
 .nil))
 (.cond (tm 36)
 (sr
 (mv 37 0
 (mv 38 12
 (mv 39 3
 (cl 40 235 [37, 38, 11, 39]
 (mv 12 40
 .nil)))))
 (sr
 (mv 41 0
 (mv 42 13
 (mv 43 3
 (cl 44 235 [41, 42, 11, 43]
 (mv 13 44
 .nil)))))
 (.reg
 (mv 45 0
 (mv 46 14
 (mv 47 3
 (cl 48 235 [45, 46, 11, 47]
 (mv 14 48
 .nil))))))))
 .skip))
 (.reg
 (mv 49 0
 (mv 50 12
 (mv 51 13
 (mv 52 14
 (mv 53 3
 (cl 54 236 [49, 50, 51, 52, 11, 53]
 (mv 13 54
 .nil)))))))))
 .skip))
 (sr
 (ld 55 11
 .nil)
 (.block 0
 (sr
 (op 58 (.bin .eql (tm 55) (ci 0))
 (mv 57 58
 .nil))
 (.cond (tm 57)
 (sr
 (mv 59 13
 (mv 8 59
 (mc 9 1
 .nil)))
 .ret)
 (sr
 (op 61 (.bin .eql (tm 55) (ci 12))
 (mv 60 61
 .nil))
 (.cond (tm 60)
 (sr
 (mv 62 13
 (mv 8 62
 (mc 9 2
 .nil)))
 .ret)
 (sr
 (mv 56 13
 (mv 8 56
 (mc 9 0
 .nil)))
 .ret))))))))))))))
noncomputable def F_slices_choosePivotCmpFunc_api_Ballot_c86 (a0 : (List TBallot)) (a1 : Int) (a2 : Int) : Option (Int × Int × Unit) :=
 letJ (fun (v1 : Int × Int × Unit) =>
 bif (decide (v1.2.1 = (0 : Int))) then
 some (v1.1, (1 : Int), ())
 else
 bif (decide (v1.2.1 = (12 : Int))) then
 some (v1.1, (2 : Int), ())
 else
 some (v1.1, (0 : Int), ())) fun j2 =>
 bif (decide ((8 : Int) ≤ (subI .i64 a2 a1))) then
 letJ (fun (v3 : Int × Int × Int × Int × Unit) =>
 Option.bind (F_slices_medianCmpFunc_api_Ballot_c86 v3.2.2.2.1 a0 v3.1 v3.2.1 v3.2.2.1) fun p5 =>
 j2 (p5.1, p5.2, ())) fun j4 =>
 bif (decide ((50 : Int) ≤ (subI .i64 a2 a1))) then
 Option.bind (F_slices_medianAdjacentCmpFunc_api_Ballot_c86 (0 : Int) a0 (addI .i64 a1 (mulI .i64 (quoI .i64 (subI .i64 a2 a1) (4 : Int)) (1 : Int)))) fun p6 =>
 Option.bind (F_slices_medianAdjacentCmpFunc_api_Ballot_c86 p6.2 a0 (addI .i64 a1 (mulI .i64 (quoI .i64 (subI .i64 a2 a1) (4 : Int)) (2 : Int)))) fun p7 =>
 Option.bind (F_slices_medianAdjacentCmpFunc_api_Ballot_c86 p7.2 a0 (addI .i64 a1 (mulI .i64 (quoI .i64 (subI .i64 a2 a1) (4 : Int)) (3 : Int)))) fun p8 =>
 j4 (p6.1, p7.1, p8.1, p8.2, ())
 else
 j4 ((addI .i64 a1 (mulI .i64 (quoI .i64 (subI .i64 a2 a1) (4 : Int)) (1 : Int))), (addI .i64 a1 (mulI .i64 (quoI .i64 (subI .i64 a2 a1) (4 : Int)) (2 : Int))), (addI .i64 a1 (mulI .i64 (quoI .i64 (subI .i64 a2 a1) (4 : Int)) (3 : Int))), (0 : Int), ())
 else
 j2 ((addI .i64 a1 (mulI .i64 (quoI .i64 (subI .i64 a2 a1) (4 : Int)) (2 : Int))), (0 : Int), ())
noncomputable def k_slices_choosePivotCmpFunc_api_Ballot_c86 : KS U Tryz.prog := ⟨.fn 203 [.ty (Ty.sl (Ty.st .Ballot)), .ty (Ty.i .i64), .ty (Ty.i .i64), .clo 86 []] (.many [(Ty.i .i64), (Ty.i .i64)]) fun a => F_slices_choosePivotCmpFunc_api_Ballot_c86 a.1 a.2.1 a.2.2.1, fnS (K := K) sa_slices_choosePivotCmpFunc_api_Ballot_c86 63 [.tmp 8, .tmp 9] [k_slices_medianAdjacentCmpFunc_api_Ballot_c86, k_slices_medianCmpFunc_api_Ballot_c86] (fk Tryz.f203 [] Tryz.func203)⟩

/-! ### slices.reverseRangeCmpFunc[trustquorum/api.Ballot] -/
def sa_slices_reverseRangeCmpFunc_api_Ballot_c86 : SA U :=
 (sr
 (mv 10 1
 (mv 8 10
 .nil))
 (sr
 (mv 11 2
 (op 12 (.bin .sub (tm 11) (ci 1))
 (mv 9 12
 .nil)))
 (.block 0
 (.loop ⟨[.val 8 (Ty.i .i64), .val 9 (Ty.i .i64), .own 0 0 0 32 2 (Ty.st .Ballot)], []⟩
 (.seq
 (sr
 (mv 13 8
 (mv 14 9
 (op 15 (.bin .lss (tm 13) (tm 14))
 .nil)))
 (.cond (tm 15)
 .skip
 (.exit 0)))
 (.block 1
 (.seq
 (.drw [(6, 10), (7, 10), (6, 11), (7, 11)]
 (mv 16 0
 (mv 17 8
 (mv 18 0
 (mv 19 9
 (mv 20 0
 (mv 21 9
 (ia 22 2 20 21
 (ldk 23 2 22
 (mv 24 0
 (mv 25 8
 (ia 26 2 24 25
 (ldk 27 2 26
 (ia 28 2 16 17
 (ops (.store 2 (tm 28) (tm 23))
 (ia 29 2 18 19
 (ops (.store 2 (tm 29) (tm 27))
 .nil)))))))))))))))))
 (sr
 (mv 30 8
 (op 31 (.bin .add (tm 30) (ci 1))
 (mv 8 31
 .nil)))
 (.reg
 (mv 32 9
 (op 33 (.bin .sub (tm 32) (ci 1))
 (mv 9 33
 .nil))))))))))))
noncomputable def F_slices_reverseRangeCmpFunc_api_Ballot_c86 (s : List TBallot) (a0 : Int) (a1 : Int) : Option ((Unit) × List TBallot) :=
 loopO (fun (v1 : Int × Int × (List TBallot) × Unit) =>
 bif (decide (v1.1 < v1.2.1)) then
 Option.bind (idx v1.2.2.1 v1.2.1) fun x2 =>
 Option.bind (v1.2.2.1[(Int.toNat v1.2.1)]?) fun x3 =>
 Option.bind (idx v1.2.2.1 v1.1) fun x4 =>
 Option.bind (v1.2.2.1[(Int.toNat v1.1)]?) fun x5 =>
 Option.bind (idx v1.2.2.1 v1.1) fun x6 =>
 Option.bind (v1.2.2.1[(Int.toNat v1.1)]?) fun x7 =>
 Option.bind (idx (v1.2.2.1.set (Int.toNat v1.1) x3) v1.2.1) fun x8 =>
 Option.bind ((v1.2.2.1.set (Int.toNat v1.1) x3)[(Int.toNat v1.2.1)]?) fun x9 =>
 some (Sum.inl ((addI .i64 v1.1 (1 : Int)), (subI .i64 v1.2.1 (1 : Int)), ((v1.2.2.1.set (Int.toNat v1.1) x3).set (Int.toNat v1.2.1) x5), ()))
 else
 Option.map Sum.inr (some ((()), v1.2.2.1))) (a0, (subI .i64 a1 (1 : Int)), s, ())
noncomputable def k_slices_reverseRangeCmpFunc_api_Ballot_c86 : KS U Tryz.prog := ⟨.rw 204 32 2 (Ty.st .Ballot) [.ty (Ty.i .i64), .ty (Ty.i .i64), .clo 86 []] (.many []) fun s a => F_slices_reverseRangeCmpFunc_api_Ballot_c86 s a.1 a.2.1, rwS (K := K) sa_slices_reverseRangeCmpFunc_api_Ballot_c86 34 [] [] (fk Tryz.f204 [] Tryz.func204)⟩

/-! ### slices.partialInsertionSortCmpFunc[trustquorum/api.Ballot] -/
def sa_slices_partialInsertionSortCmpFunc_api_Ballot_c86 : SA U :=
 (sr
 (op 8 (.mov (.cst (.bool false)))
 .nil)
 (sr
 (mv 13 1
 (op 14 (.bin .add (tm 13) (ci 1))
 (mv 9 14
 .nil)))
 (.seq
 (sr
 (mc 10 0
 .nil)
 (.block 0
 (.loop ⟨[.val 9 (Ty.i .i64), .val 10 (Ty.i .i64), .own 0 0 0 32 2 (Ty.st .Ballot)], [1, 2, 3]⟩
 (.seq
 (sr
 (mv 15 10
 (op 16 (.bin .lss (tm 15) (ci 5))
 .nil))
 (.cond (tm 16)
 .skip
 (.exit 0)))
 (.join ⟨[.val 9 (Ty.i .i64), .own 0 0 0 32 2 (Ty.st .Ballot)], [1, 2, 3, 10]⟩
 (.block 1
 (.seq
 (.block 2
 (.loop ⟨[.val 9 (Ty.i .i64)], [0, 1, 2, 3, 10]⟩
 (.seq
 (.join ⟨[.val 36 Ty.bool], [0, 1, 2, 3, 9, 10]⟩
 (.drw [(7, 12), (8, 12), (7, 13), (8, 13)]
 (mv 19 9
 (mv 20 2
 (op 21 (.bin .lss (tm 19) (tm 20))
 (mv 22 21
 (.spl 22
 (opg 23 22 true (.mov (tm 3))
 (opg 24 22 true (.mov (tm 0))
 (opg 25 22 true (.mov (tm 9))
 (opg 26 22 true (.iaddr 2 (tm 24) (tm 25))
 (opg 27 22 true (.load (some 2) (tm 26))
 (opg 28 22 true (.mov (tm 0))
 (opg 29 22 true (.mov (tm 9))
 (opg 30 22 true (.bin .sub (tm 29) (ci 1))
 (opg 31 22 true (.iaddr 2 (tm 28) (tm 30))
 (opg 32 22 true (.load (some 2) (tm 31))
 (opg 33 22 true (.callv (tm 23) [(tm 27), (tm 32)])
 (opg 34 22 true (.bin .lss (tm 33) (ci 0))
 (opg 35 22 true (.not (tm 34))
 (op 36 (.pick (tm 22) (tm 35) (.cst (.bool false)))
 .nil))))))))))))))))))))
 (.cond (tm 36)
 .skip
 (.exit 2)))
 (.block 3
 (.reg
 (mv 37 9
 (op 38 (.bin .add (tm 37) (ci 1))
 (mv 9 38
 .nil))))))))
 (.seq
 (sr
 (mv 39 9
 (mv 40 2
 (op 41 (.bin .eql (tm 39) (tm 40))
 .nil)))
 (.cond (tm 41)
 (sr
 (op 8 (.mov (.cst (.bool true)))
 .nil)
 .ret)
 .skip))
 (.seq
 (sr
 (mv 42 2
 (mv 43 1
 (op 44 (.bin .sub (tm 42) (tm 43))
 (op 45 (.bin .lss (tm 44) (ci 50))
 .nil))))
 (.cond (tm 45)
 (sr
 (op 8 (.mov (.cst (.bool false)))
 .nil)
 .ret)
 .skip))
 (.seq
 (.drw [(8, 12), (9, 12), (8, 13), (9, 13)]
 (mv 46 0
 (mv 47 9
 (mv 48 0
 (mv 49 9
 (op 50 (.bin .sub (tm 49) (ci 1))
 (mv 51 0
 (mv 52 9
 (op 53 (.bin .sub (tm 52) (ci 1))
 (ia 54 2 51 53
 (ldk 55 2 54
 (mv 56 0
 (mv 57 9
 (ia 58 2 56 57
 (ldk 59 2 58
 (ia 60 2 46 47
 (ops (.store 2 (tm 60) (tm 55))
 (ia 61 2 48 50
 (ops (.store 2 (tm 61) (tm 59))
 .nil)))))))))))))))))))
 (.join ⟨[.own 0 0 0 32 2 (Ty.st .Ballot)], [1, 2, 3, 9, 10]⟩
 (sr
 (mv 62 9
 (mv 63 1
 (op 64 (.bin .sub (tm 62) (tm 63))
 (op 65 (.bin .geq (tm 64) (ci 2))
 .nil))))
 (.cond (tm 65)
 (sr
 (mv 66 9
 (op 67 (.bin .sub (tm 66) (ci 1))
 (mv 11 67
 .nil)))
 (.block 4
 (.loop ⟨[.val 11 (Ty.i .i64), .own 0 0 0 32 2 (Ty.st .Ballot)], [1, 2, 3, 9, 10]⟩
 (.seq
 (sr
 (mv 68 11
 (op 69 (.bin .geq (tm 68) (ci 1))
 .nil))
 (.cond (tm 69)
 .skip
 (.exit 4)))
 (.seq
 (.block 5
 (.seq
 (.seq
 (.drw [(3, 8), (4, 8), (3, 9), (4, 9)]
 (mv 72 3
 (mv 73 0
 (mv 74 11
 (ia 75 2 73 74
 (ldk 76 2 75
 (mv 77 0
 (mv 78 11
 (op 79 (.bin .sub (tm 78) (ci 1))
 (ia 80 2 77 79
 (ldk 81 2 80
 (op 82 (.callv (tm 72) [(tm 76), (tm 81)])
 (op 83 (.bin .lss (tm 82) (ci 0))
 (op 84 (.not (tm 83))
 .nil))))))))))))))
 (.cond (tm 84)
 (.exit 4)
 .skip))
 (.drw [(8, 12), (9, 12), (8, 13), (9, 13)]
 (mv 85 0
 (mv 86 11
 (mv 87 0
 (mv 88 11
 (op 89 (.bin .sub (tm 88) (ci 1))
 (mv 90 0
 (mv 91 11
 (op 92 (.bin .sub (tm 91) (ci 1))
 (ia 93 2 90 92
 (ldk 94 2 93
 (mv 95 0
 (mv 96 11
 (ia 97 2 95 96
 (ldk 98 2 97
 (ia 99 2 85 86
 (ops (.store 2 (tm 99) (tm 94))
 (ia 100 2 87 89
 (ops (.store 2 (tm 100) (tm 98))
 .nil)))))))))))))))))))))
 (.reg
 (mv 70 11
 (op 71 (.bin .sub (tm 70) (ci 1))
 (mv 11 71
 .nil)))))))))
 .skip))
 (sr
 (mv 101 2
 (mv 102 9
 (op 103 (.bin .sub (tm 101) (tm 102))
 (op 104 (.bin .geq (tm 103) (ci 2))
 .nil))))
 (.cond (tm 104)
 (sr
 (mv 105 9
 (op 106 (.bin .add (tm 105) (ci 1))
 (mv 12 106
 .nil)))
 (.block 6
 (.loop ⟨[.val 12 (Ty.i .i64), .own 0 0 0 32 2 (Ty.st .Ballot)], [1, 2, 3, 9, 10]⟩
 (.seq
 (sr
 (mv 107 12
 (mv 108 2
 (op 109 (.bin .lss (tm 107) (tm 108))
 .nil)))
 (.cond (tm 109)
 .skip
 (.exit 6)))
 (.seq
 (.block 7
 (.seq
 (.seq
 (.drw [(3, 8), (4, 8), (3, 9), (4, 9)]
 (mv 112 3
 (mv 113 0
 (mv 114 12
 (ia 115 2 113 114
 (ldk 116 2 115
 (mv 117 0
 (mv 118 12
 (op 119 (.bin .sub (tm 118) (ci 1))
 (ia 120 2 117 119
 (ldk 121 2 120
 (op 122 (.callv (tm 112) [(tm 116), (tm 121)])
 (op 123 (.bin .lss (tm 122) (ci 0))
 (op 124 (.not (tm 123))
 .nil))))))))))))))
 (.cond (tm 124)
 (.exit 6)
 .skip))
 (.drw [(8, 12), (9, 12), (8, 13), (9, 13)]
 (mv 125 0
 (mv 126 12
 (mv 127 0
 (mv 128 12
 (op 129 (.bin .sub (tm 128) (ci 1))
 (mv 130 0
 (mv 131 12
 (op 132 (.bin .sub (tm 131) (ci 1))
 (ia 133 2 130 132
 (ldk 134 2 133
 (mv 135 0
 (mv 136 12
 (ia 137 2 135 136
 (ldk 138 2 137
 (ia 139 2 125 126
 (ops (.store 2 (tm 139) (tm 134))
 (ia 140 2 127 129
 (ops (.store 2 (tm 140) (tm 138))
 .nil)))))))))))))))))))))
 (.reg
 (mv 110 12
 (op 111 (.bin .add (tm 110) (ci 1))
 (mv 12 111
 .nil)))))))))
 .skip))))))))
 (.reg
 (mv 17 10
 (op 18 (.bin .add (tm 17) (ci 1))
 (mv 10 18
 .nil)))))))))
 (sr
 (op 8 (.mov (.cst (.bool false)))
 .nil)
 .ret))))
noncomputable def F_slices_partialInsertionSortCmpFunc_api_Ballot_c86 (s : List TBallot) (a0 : Int) (a1 : Int) : Option (Bool × List TBallot) :=
 loopO (fun (v1 : Int × Int × (List TBallot) × Unit) =>
 bif (decide (v1.2.1 < (5 : Int))) then
 letJ (fun (v2 : Int × (List TBallot) × Unit) =>
 some (Sum.inl (v2.1, (addI .i64 v1.2.1 (1 : Int)), v2.2.1, ()))) fun j3 =>
 loopO (fun (v4 : Int × Unit) =>
 letJ (fun (v5 : Bool × Unit) =>
 bif v5.1 then
 some (Sum.inl ((addI .i64 v4.1 (1 : Int)), ()))
 else
 Option.map Sum.inr (bif (decide (v4.1 = a1)) then
 Option.map Sum.inr (some (true, v1.2.2.1))
 else
 bif (decide ((subI .i64 a1 a0) < (50 : Int))) then
 Option.map Sum.inr (some (false, v1.2.2.1))
 else
 Option.bind (idx v1.2.2.1 (subI .i64 v4.1 (1 : Int))) fun x7 =>
 Option.bind (v1.2.2.1[(Int.toNat (subI .i64 v4.1 (1 : Int)))]?) fun x8 =>
 Option.bind (idx v1.2.2.1 v4.1) fun x9 =>
 Option.bind (v1.2.2.1[(Int.toNat v4.1)]?) fun x10 =>
 Option.bind (idx v1.2.2.1 v4.1) fun x11 =>
 Option.bind (v1.2.2.1[(Int.toNat v4.1)]?) fun x12 =>
 Option.bind (idx (v1.2.2.1.set (Int.toNat v4.1) x8) (subI .i64 v4.1 (1 : Int))) fun x13 =>
 Option.bind ((v1.2.2.1.set (Int.toNat v4.1) x8)[(Int.toNat (subI .i64 v4.1 (1 : Int)))]?) fun x14 =>
 letJ (fun (v15 : (List TBallot) × Unit) =>
 bif (decide ((2 : Int) ≤ (subI .i64 a1 v4.1))) then
 loopO (fun (v17 : Int × (List TBallot) × Unit) =>
 bif (decide (v17.1 < a1)) then
 Option.bind (idx v17.2.1 v17.1) fun x18 =>
 Option.bind (v17.2.1[(Int.toNat v17.1)]?) fun x19 =>
 Option.bind (idx v17.2.1 (subI .i64 v17.1 (1 : Int))) fun x20 =>
 Option.bind (v17.2.1[(Int.toNat (subI .i64 v17.1 (1 : Int)))]?) fun x21 =>
 Option.bind (F_envelopes_Ballots_1 x19 x21) fun r22 =>
 bif (!(decide (r22 < (0 : Int)))) then
 Option.map Sum.inr (j3 (v4.1, v17.2.1, ()))
 else
 Option.bind (idx v17.2.1 (subI .i64 v17.1 (1 : Int))) fun x23 =>
 Option.bind (v17.2.1[(Int.toNat (subI .i64 v17.1 (1 : Int)))]?) fun x24 =>
 Option.bind (idx v17.2.1 v17.1) fun x25 =>
 Option.bind (v17.2.1[(Int.toNat v17.1)]?) fun x26 =>
 Option.bind (idx v17.2.1 v17.1) fun x27 =>
 Option.bind (v17.2.1[(Int.toNat v17.1)]?) fun x28 =>
 Option.bind (idx (v17.2.1.set (Int.toNat v17.1) x24) (subI .i64 v17.1 (1 : Int))) fun x29 =>
 Option.bind ((v17.2.1.set (Int.toNat v17.1) x24)[(Int.toNat (subI .i64 v17.1 (1 : Int)))]?) fun x30 =>
 some (Sum.inl ((addI .i64 v17.1 (1 : Int)), ((v17.2.1.set (Int.toNat v17.1) x24).set (Int.toNat (subI .i64 v17.1 (1 : Int))) x26), ()))
 else
 Option.map Sum.inr (j3 (v4.1, v17.2.1, ()))) ((addI .i64 v4.1 (1 : Int)), v15.1, ())
 else
 j3 (v4.1, v15.1, ())) fun j16 =>
 bif (decide ((2 : Int) ≤ (subI .i64 v4.1 a0))) then
 loopO (fun (v31 : Int × (List TBallot) × Unit) =>
 bif (decide ((1 : Int) ≤ v31.1)) then
 Option.bind (idx v31.2.1 v31.1) fun x32 =>
 Option.bind (v31.2.1[(Int.toNat v31.1)]?) fun x33 =>
 Option.bind (idx v31.2.1 (subI .i64 v31.1 (1 : Int))) fun x34 =>
 Option.bind (v31.2.1[(Int.toNat (subI .i64 v31.1 (1 : Int)))]?) fun x35 =>
 Option.bind (F_envelopes_Ballots_1 x33 x35) fun r36 =>
 bif (!(decide (r36 < (0 : Int)))) then
 Option.map Sum.inr (j16 (v31.2.1, ()))
 else
 Option.bind (idx v31.2.1 (subI .i64 v31.1 (1 : Int))) fun x37 =>
 Option.bind (v31.2.1[(Int.toNat (subI .i64 v31.1 (1 : Int)))]?) fun x38 =>
 Option.bind (idx v31.2.1 v31.1) fun x39 =>
 Option.bind (v31.2.1[(Int.toNat v31.1)]?) fun x40 =>
 Option.bind (idx v31.2.1 v31.1) fun x41 =>
 Option.bind (v31.2.1[(Int.toNat v31.1)]?) fun x42 =>
 Option.bind (idx (v31.2.1.set (Int.toNat v31.1) x38) (subI .i64 v31.1 (1 : Int))) fun x43 =>
 Option.bind ((v31.2.1.set (Int.toNat v31.1) x38)[(Int.toNat (subI .i64 v31.1 (1 : Int)))]?) fun x44 =>
 some (Sum.inl ((subI .i64 v31.1 (1 : Int)), ((v31.2.1.set (Int.toNat v31.1) x38).set (Int.toNat (subI .i64 v31.1 (1 : Int))) x40), ()))
 else
 Option.map Sum.inr (j16 (v31.2.1, ()))) ((subI .i64 v4.1 (1 : Int)), ((v1.2.2.1.set (Int.toNat v4.1) x8).set (Int.toNat (subI .i64 v4.1 (1 : Int))) x10), ())
 else
 j16 (((v1.2.2.1.set (Int.toNat v4.1) x8).set (Int.toNat (subI .i64 v4.1 (1 : Int))) x10), ()))) fun j6 =>
 bif (decide (v4.1 < a1)) then
 Option.bind (idx v1.2.2.1 v4.1) fun x45 =>
 Option.bind (v1.2.2.1[(Int.toNat v4.1)]?) fun x46 =>
 Option.bind (idx v1.2.2.1 (subI .i64 v4.1 (1 : Int))) fun x47 =>
 Option.bind (v1.2.2.1[(Int.toNat (subI .i64 v4.1 (1 : Int)))]?) fun x48 =>
 Option.bind (F_envelopes_Ballots_1 x46 x48) fun r49 =>
 j6 ((!(decide (r49 < (0 : Int)))), ())
 else
 j6 (false, ())) (v1.1, ())
 else
 Option.map Sum.inr (some (false, v1.2.2.1))) ((addI .i64 a0 (1 : Int)), (0 : Int), s, ())
noncomputable def k_slices_partialInsertionSortCmpFunc_api_Ballot_c86 : KS U Tryz.prog := ⟨.rw 205 32 2 (Ty.st .Ballot) [.ty (Ty.i .i64), .ty (Ty.i .i64), .clo 86 []] (.one Ty.bool) fun s a => F_slices_partialInsertionSortCmpFunc_api_Ballot_c86 s a.1 a.2.1, rwS (K := K) sa_slices_partialInsertionSortCmpFunc_api_Ballot_c86 141 [.tmp 8] [k_envelopes_Ballots_1] (fk Tryz.f205 [] Tryz.func205)⟩

/-! ### slices.partitionEqualCmpFunc[trustquorum/api.Ballot] -/
def sa_slices_partitionEqualCmpFunc_api_Ballot_c86 : SA U :=
 (sr
 (mc 10 0
 .nil)
 (.seq
 (.drw [(6, 10), (7, 10), (6, 11), (7, 11)]
 (mv 13 0
 (mv 14 1
 (mv 15 0
 (mv 16 3
 (mv 17 0
 (mv 18 3
 (ia 19 2 17 18
 (ldk 20 2 19
 (mv 21 0
 (mv 22 1
 (ia 23 2 21 22
 (ldk 24 2 23
 (ia 25 2 13 14
 (ops (.store 2 (tm 25) (tm 20))
 (ia 26 2 15 16
 (ops (.store 2 (tm 26) (tm 24))
 .nil)))))))))))))))))
 (sr
 (mv 27 1
 (op 28 (.bin .add (tm 27) (ci 1))
 (mv 29 2
 (op 30 (.bin .sub (tm 29) (ci 1))
 (mv 11 28
 (mv 12 30
 .nil))))))
 (.seq
 (.block 0
 (.loop ⟨[.val 11 (Ty.i .i64), .val 12 (Ty.i .i64), .own 0 0 0 32 2 (Ty.st .Ballot)], [1, 4]⟩
 (.block 1
 (.seq
 (.block 2
 (.loop ⟨[.val 11 (Ty.i .i64)], [0, 1, 4, 12]⟩
 (.seq
 (.join ⟨[.val 47 Ty.bool], [0, 1, 4, 11, 12]⟩
 (.drw [(7, 11), (8, 11), (7, 12), (8, 12)]
 (mv 31 11
 (mv 32 12
 (op 33 (.bin .leq (tm 31) (tm 32))
 (mv 34 33
 (.spl 34
 (opg 35 34 true (.mov (tm 4))
 (opg 36 34 true (.mov (tm 0))
 (opg 37 34 true (.mov (tm 1))
 (opg 38 34 true (.iaddr 2 (tm 36) (tm 37))
 (opg 39 34 true (.load (some 2) (tm 38))
 (opg 40 34 true (.mov (tm 0))
 (opg 41 34 true (.mov (tm 11))
 (opg 42 34 true (.iaddr 2 (tm 40) (tm 41))
 (opg 43 34 true (.load (some 2) (tm 42))
 (opg 44 34 true (.callv (tm 35) [(tm 39), (tm 43)])
 (opg 45 34 true (.bin .lss (tm 44) (ci 0))
 (opg 46 34 true (.not (tm 45))
 (op 47 (.pick (tm 34) (tm 46) (.cst (.bool false)))
 .nil)))))))))))))))))))
 (.cond (tm 47)
 .skip
 (.exit 2)))
 (.block 3
 (.reg
 (mv 48 11
 (op 49 (.bin .add (tm 48) (ci 1))
 (mv 11 49
 .nil))))))))
 (.seq
 (.block 4
 (.loop ⟨[.val 12 (Ty.i .i64)], [0, 1, 4, 11]⟩
 (.seq
 (.join ⟨[.val 65 Ty.bool], [0, 1, 4, 11, 12]⟩
 (.drw [(7, 11), (8, 11), (7, 12), (8, 12)]
 (mv 50 11
 (mv 51 12
 (op 52 (.bin .leq (tm 50) (tm 51))
 (mv 53 52
 (.spl 53
 (opg 54 53 true (.mov (tm 4))
 (opg 55 53 true (.mov (tm 0))
 (opg 56 53 true (.mov (tm 1))
 (opg 57 53 true (.iaddr 2 (tm 55) (tm 56))
 (opg 58 53 true (.load (some 2) (tm 57))
 (opg 59 53 true (.mov (tm 0))
 (opg 60 53 true (.mov (tm 12))
 (opg 61 53 true (.iaddr 2 (tm 59) (tm 60))
 (opg 62 53 true (.load (some 2) (tm 61))
 (opg 63 53 true (.callv (tm 54) [(tm 58), (tm 62)])
 (opg 64 53 true (.bin .lss (tm 63) (ci 0))
 (op 65 (.pick (tm 53) (tm 64) (.cst (.bool false)))
 .nil))))))))))))))))))
 (.cond (tm 65)
 .skip
 (.exit 4)))
 (.block 5
 (.reg
 (mv 66 12
 (op 67 (.bin .sub (tm 66) (ci 1))
 (mv 12 67
 .nil))))))))
 (.seq
 (sr
 (mv 68 11
 (mv 69 12
 (op 70 (.bin .gtr (tm 68) (tm 69))
 .nil)))
 (.cond (tm 70)
 (.exit 0)
 .skip))
 (.seq
 (.drw [(6, 10), (7, 10), (6, 11), (7, 11)]
 (mv 71 0
 (mv 72 11
 (mv 73 0
 (mv 74 12
 (mv 75 0
 (mv 76 12
 (ia 77 2 75 76
 (ldk 78 2 77
 (mv 79 0
 (mv 80 11
 (ia 81 2 79 80
 (ldk 82 2 81
 (ia 83 2 71 72
 (ops (.store 2 (tm 83) (tm 78))
 (ia 84 2 73 74
 (ops (.store 2 (tm 84) (tm 82))
 .nil)))))))))))))))))
 (sr
 (mv 85 11
 (op 86 (.bin .add (tm 85) (ci 1))
 (mv 11 86
 .nil)))
 (.reg
 (mv 87 12
 (op 88 (.bin .sub (tm 87) (ci 1))
 (mv 12 88
 .nil))))))))))))
 (sr
 (mv 89 11
 (mv 10 89
 .nil))
 .ret)))))
noncomputable def F_slices_partitionEqualCmpFunc_api_Ballot_c86 (s : List TBallot) (a0 : Int) (a1 : Int) (a2 : Int) : Option (Int × List TBallot) :=
 Option.bind (idx s a2) fun x1 =>
 Option.bind (s[(Int.toNat a2)]?) fun x2 =>
 Option.bind (idx s a0) fun x3 =>
 Option.bind (s[(Int.toNat a0)]?) fun x4 =>
 Option.bind (idx s a0) fun x5 =>
 Option.bind (s[(Int.toNat a0)]?) fun x6 =>
 Option.bind (idx (s.set (Int.toNat a0) x2) a2) fun x7 =>
 Option.bind ((s.set (Int.toNat a0) x2)[(Int.toNat a2)]?) fun x8 =>
 loopO (fun (v9 : Int × Int × (List TBallot) × Unit) =>
 loopO (fun (v10 : Int × Unit) =>
 letJ (fun (v11 : Bool × Unit) =>
 bif v11.1 then
 some (Sum.inl ((addI .i64 v10.1 (1 : Int)), ()))
 else
 Option.map Sum.inr (loopO (fun (v13 : Int × Unit) =>
 letJ (fun (v14 : Bool × Unit) =>
 bif v14.1 then
 some (Sum.inl ((subI .i64 v13.1 (1 : Int)), ()))
 else
 Option.map Sum.inr (bif (decide (v13.1 < v10.1)) then
 Option.map Sum.inr (some (v10.1, v9.2.2.1))
 else
 Option.bind (idx v9.2.2.1 v13.1) fun x16 =>
 Option.bind (v9.2.2.1[(Int.toNat v13.1)]?) fun x17 =>
 Option.bind (idx v9.2.2.1 v10.1) fun x18 =>
 Option.bind (v9.2.2.1[(Int.toNat v10.1)]?) fun x19 =>
 Option.bind (idx v9.2.2.1 v10.1) fun x20 =>
 Option.bind (v9.2.2.1[(Int.toNat v10.1)]?) fun x21 =>
 Option.bind (idx (v9.2.2.1.set (Int.toNat v10.1) x17) v13.1) fun x22 =>
 Option.bind ((v9.2.2.1.set (Int.toNat v10.1) x17)[(Int.toNat v13.1)]?) fun x23 =>
 some (Sum.inl ((addI .i64 v10.1 (1 : Int)), (subI .i64 v13.1 (1 : Int)), ((v9.2.2.1.set (Int.toNat v10.1) x17).set (Int.toNat v13.1) x19), ())))) fun j15 =>
 bif (decide (v10.1 ≤ v13.1)) then
 Option.bind (idx v9.2.2.1 a0) fun x24 =>
 Option.bind (v9.2.2.1[(Int.toNat a0)]?) fun x25 =>
 Option.bind (idx v9.2.2.1 v13.1) fun x26 =>
 Option.bind (v9.2.2.1[(Int.toNat v13.1)]?) fun x27 =>
 Option.bind (F_envelopes_Ballots_1 x25 x27) fun r28 =>
 j15 ((decide (r28 < (0 : Int))), ())
 else
 j15 (false, ())) (v9.2.1, ()))) fun j12 =>
 bif (decide (v10.1 ≤ v9.2.1)) then
 Option.bind (idx v9.2.2.1 a0) fun x29 =>
 Option.bind (v9.2.2.1[(Int.toNat a0)]?) fun x30 =>
 Option.bind (idx v9.2.2.1 v10.1) fun x31 =>
 Option.bind (v9.2.2.1[(Int.toNat v10.1)]?) fun x32 =>
 Option.bind (F_envelopes_Ballots_1 x30 x32) fun r33 =>
 j12 ((!(decide (r33 < (0 : Int)))), ())
 else
 j12 (false, ())) (v9.1, ())) ((addI .i64 a0 (1 : Int)), (subI .i64 a1 (1 : Int)), ((s.set (Int.toNat a0) x2).set (Int.toNat a2) x4), ())
noncomputable def k_slices_partitionEqualCmpFunc_api_Ballot_c86 : KS U Tryz.prog := ⟨.rw 206 32 2 (Ty.st .Ballot) [.ty (Ty.i .i64), .ty (Ty.i .i64), .ty (Ty.i .i64), .clo 86 []] (.one (Ty.i .i64)) fun s a => F_slices_partitionEqualCmpFunc_api_Ballot_c86 s a.1 a.2.1 a.2.2.1, rwS (K := K) sa_slices_partitionEqualCmpFunc_api_Ballot_c86 90 [.tmp 10] [k_envelopes_Ballots_1] (fk Tryz.f206 [] Tryz.func206)⟩

/-! ### slices.partitionCmpFunc[trustquorum/api.Ballot] -/
def sa_slices_partitionCmpFunc_api_Ballot_c86 : SA U :=
 (sr
 (mc 10 0
 (op 11 (.mov (.cst (.bool false)))
 .nil))
 (.seq
 (.drw [(6, 10), (7, 10), (6, 11), (7, 11)]
 (mv 14 0
 (mv 15 1
 (mv 16 0
 (mv 17 3
 (mv 18 0
 (mv 19 3
 (ia 20 2 18 19
 (ldk 21 2 20
 (mv 22 0
 (mv 23 1
 (ia 24 2 22 23
 (ldk 25 2 24
 (ia 26 2 14 15
 (ops (.store 2 (tm 26) (tm 21))
 (ia 27 2 16 17
 (ops (.store 2 (tm 27) (tm 25))
 .nil)))))))))))))))))
 (sr
 (mv 28 1
 (op 29 (.bin .add (tm 28) (ci 1))
 (mv 30 2
 (op 31 (.bin .sub (tm 30) (ci 1))
 (mv 12 29
 (mv 13 31
 .nil))))))
 (.seq
 (.block 0
 (.loop ⟨[.val 12 (Ty.i .i64)], [0, 1, 4, 13]⟩
 (.seq
 (.join ⟨[.val 47 Ty.bool], [0, 1, 4, 12, 13]⟩
 (.drw [(7, 11), (8, 11), (7, 12), (8, 12)]
 (mv 32 12
 (mv 33 13
 (op 34 (.bin .leq (tm 32) (tm 33))
 (mv 35 34
 (.spl 35
 (opg 36 35 true (.mov (tm 4))
 (opg 37 35 true (.mov (tm 0))
 (opg 38 35 true (.mov (tm 12))
 (opg 39 35 true (.iaddr 2 (tm 37) (tm 38))
 (opg 40 35 true (.load (some 2) (tm 39))
 (opg 41 35 true (.mov (tm 0))
 (opg 42 35 true (.mov (tm 1))
 (opg 43 35 true (.iaddr 2 (tm 41) (tm 42))
 (opg 44 35 true (.load (some 2) (tm 43))
 (opg 45 35 true (.callv (tm 36) [(tm 40), (tm 44)])
 (opg 46 35 true (.bin .lss (tm 45) (ci 0))
 (op 47 (.pick (tm 35) (tm 46) (.cst (.bool false)))
 .nil))))))))))))))))))
 (.cond (tm 47)
 .skip
 (.exit 0)))
 (.block 1
 (.reg
 (mv 48 12
 (op 49 (.bin .add (tm 48) (ci 1))
 (mv 12 49
 .nil))))))))
 (.seq
 (.block 2
 (.loop ⟨[.val 13 (Ty.i .i64)], [0, 1, 4, 12]⟩
 (.seq
 (.join ⟨[.val 66 Ty.bool], [0, 1, 4, 12, 13]⟩
 (.drw [(7, 11), (8, 11), (7, 12), (8, 12)]
 (mv 50 12
 (mv 51 13
 (op 52 (.bin .leq (tm 50) (tm 51))
 (mv 53 52
 (.spl 53
 (opg 54 53 true (.mov (tm 4))
 (opg 55 53 true (.mov (tm 0))
 (opg 56 53 true (.mov (tm 13))
 (opg 57 53 true (.iaddr 2 (tm 55) (tm 56))
 (opg 58 53 true (.load (some 2) (tm 57))
 (opg 59 53 true (.mov (tm 0))
 (opg 60 53 true (.mov (tm 1))
 (opg 61 53 true (.iaddr 2 (tm 59) (tm 60))
 (opg 62 53 true (.load (some 2) (tm 61))
 (opg 63 53 true (.callv (tm 54) [(tm 58), (tm 62)])
 (opg 64 53 true (.bin .lss (tm 63) (ci 0))
 (opg 65 53 true (.not (tm 64))
 (op 66 (.pick (tm 53) (tm 65) (.cst (.bool false)))
 .nil)))))))))))))))))))
 (.cond (tm 66)
 .skip
 (.exit 2)))
 (.block 3
 (.reg
 (mv 67 13
 (op 68 (.bin .sub (tm 67) (ci 1))
 (mv 13 68
 .nil))))))))
 (.seq
 (sr
 (mv 69 12
 (mv 70 13
 (op 71 (.bin .gtr (tm 69) (tm 70))
 .nil)))
 (.cond (tm 71)
 (.seq
 (.drw [(6, 10), (7, 10), (6, 11), (7, 11)]
 (mv 72 0
 (mv 73 13
 (mv 74 0
 (mv 75 1
 (mv 76 0
 (mv 77 1
 (ia 78 2 76 77
 (ldk 79 2 78
 (mv 80 0
 (mv 81 13
 (ia 82 2 80 81
 (ldk 83 2 82
 (ia 84 2 72 73
 (ops (.store 2 (tm 84) (tm 79))
 (ia 85 2 74 75
 (ops (.store 2 (tm 85) (tm 83))
 .nil)))))))))))))))))
 (sr
 (mv 86 13
 (mv 10 86
 (op 11 (.mov (.cst (.bool true)))
 .nil)))
 .ret))
 .skip))
 (.seq
 (.drw [(6, 10), (7, 10), (6, 11), (7, 11)]
 (mv 87 0
 (mv 88 12
 (mv 89 0
 (mv 90 13
 (mv 91 0
 (mv 92 13
 (ia 93 2 91 92
 (ldk 94 2 93
 (mv 95 0
 (mv 96 12
 (ia 97 2 95 96
 (ldk 98 2 97
 (ia 99 2 87 88
 (ops (.store 2 (tm 99) (tm 94))
 (ia 100 2 89 90
 (ops (.store 2 (tm 100) (tm 98))
 .nil)))))))))))))))))
 (sr
 (mv 101 12
 (op 102 (.bin .add (tm 101) (ci 1))
 (mv 12 102
 .nil)))
 (sr
 (mv 103 13
 (op 104 (.bin .sub (tm 103) (ci 1))
 (mv 13 104
 .nil)))
 (.seq
 (.block 4
 (.loop ⟨[.val 12 (Ty.i .i64), .val 13 (Ty.i .i64), .own 0 0 0 32 2 (Ty.st .Ballot)], [1, 4]⟩
 (.block 5
 (.seq
 (.block 6
 (.loop ⟨[.val 12 (Ty.i .i64)], [0, 1, 4, 13]⟩
 (.seq
 (.join ⟨[.val 120 Ty.bool], [0, 1, 4, 12, 13]⟩
 (.drw [(7, 11), (8, 11), (7, 12), (8, 12)]
 (mv 105 12
 (mv 106 13
 (op 107 (.bin .leq (tm 105) (tm 106))
 (mv 108 107
 (.spl 108
 (opg 109 108 true (.mov (tm 4))
 (opg 110 108 true (.mov (tm 0))
 (opg 111 108 true (.mov (tm 12))
 (opg 112 108 true (.iaddr 2 (tm 110) (tm 111))
 (opg 113 108 true (.load (some 2) (tm 112))
 (opg 114 108 true (.mov (tm 0))
 (opg 115 108 true (.mov (tm 1))
 (opg 116 108 true (.iaddr 2 (tm 114) (tm 115))
 (opg 117 108 true (.load (some 2) (tm 116))
 (opg 118 108 true (.callv (tm 109) [(tm 113), (tm 117)])
 (opg 119 108 true (.bin .lss (tm 118) (ci 0))
 (op 120 (.pick (tm 108) (tm 119) (.cst (.bool false)))
 .nil))))))))))))))))))
 (.cond (tm 120)
 .skip
 (.exit 6)))
 (.block 7
 (.reg
 (mv 121 12
 (op 122 (.bin .add (tm 121) (ci 1))
 (mv 12 122
 .nil))))))))
 (.seq
 (.block 8
 (.loop ⟨[.val 13 (Ty.i .i64)], [0, 1, 4, 12]⟩
 (.seq
 (.join ⟨[.val 139 Ty.bool], [0, 1, 4, 12, 13]⟩
 (.drw [(7, 11), (8, 11), (7, 12), (8, 12)]
 (mv 123 12
 (mv 124 13
 (op 125 (.bin .leq (tm 123) (tm 124))
 (mv 126 125
 (.spl 126
 (opg 127 126 true (.mov (tm 4))
 (opg 128 126 true (.mov (tm 0))
 (opg 129 126 true (.mov (tm 13))
 (opg 130 126 true (.iaddr 2 (tm 128) (tm 129))
 (opg 131 126 true (.load (some 2) (tm 130))
 (opg 132 126 true (.mov (tm 0))
 (opg 133 126 true (.mov (tm 1))
 (opg 134 126 true (.iaddr 2 (tm 132) (tm 133))
 (opg 135 126 true (.load (some 2) (tm 134))
 (opg 136 126 true (.callv (tm 127) [(tm 131), (tm 135)])
 (opg 137 126 true (.bin .lss (tm 136) (ci 0))
 (opg 138 126 true (.not (tm 137))
 (op 139 (.pick (tm 126) (tm 138) (.cst (.bool false)))
 .nil)))))))))))))))))))
 (.cond (tm 139)
 .skip
 (.exit 8)))
 (.block 9
 (.reg
 (mv 140 13
 (op 141 (.bin .sub (tm 140) (ci 1))
 (mv 13 141
 .nil))))))))
 (.seq
 (sr
 (mv 142 12
 (mv 143 13
 (op 144 (.bin .gtr (tm 142) (tm 143))
 .nil)))
 (.cond (tm 144)
 (.exit 4)
 .skip))
 (.seq
 (.drw [(6, 10), (7, 10), (6, 11), (7, 11)]
 (mv 145 0
 (mv 146 12
 (mv 147 0
 (mv 148 13
 (mv 149 0
 (mv 150 13
 (ia 151 2 149 150
 (ldk 152 2 151
 (mv 153 0
 (mv 154 12
 (ia 155 2 153 154
 (ldk 156 2 155
 (ia 157 2 145 146
 (ops (.store 2 (tm 157) (tm 152))
 (ia 158 2 147 148
 (ops (.store 2 (tm 158) (tm 156))
 .nil)))))))))))))))))
 (sr
 (mv 159 12
 (op 160 (.bin .add (tm 159) (ci 1))
 (mv 12 160
 .nil)))
 (.reg
 (mv 161 13
 (op 162 (.bin .sub (tm 161) (ci 1))
 (mv 13 162
 .nil))))))))))))
 (.seq
 (.drw [(6, 10), (7, 10), (6, 11), (7, 11)]
 (mv 163 0
 (mv 164 13
 (mv 165 0
 (mv 166 1
 (mv 167 0
 (mv 168 1
 (ia 169 2 167 168
 (ldk 170 2 169
 (mv 171 0
 (mv 172 13
 (ia 173 2 171 172
 (ldk 174 2 173
 (ia 175 2 163 164
 (ops (.store 2 (tm 175) (tm 170))
 (ia 176 2 165 166
 (ops (.store 2 (tm 176) (tm 174))
 .nil)))))))))))))))))
 (sr
 (mv 177 13
 (mv 10 177
 (op 11 (.mov (.cst (.bool false)))
 .nil)))
 .ret))))))))))))
noncomputable def F_slices_partitionCmpFunc_api_Ballot_c86 (s : List TBallot) (a0 : Int) (a1 : Int) (a2 : Int) : Option ((Int × Bool × Unit) × List TBallot) :=
 Option.bind (idx s a2) fun x1 =>
 Option.bind (s[(Int.toNat a2)]?) fun x2 =>
 Option.bind (idx s a0) fun x3 =>
 Option.bind (s[(Int.toNat a0)]?) fun x4 =>
 Option.bind (idx s a0) fun x5 =>
 Option.bind (s[(Int.toNat a0)]?) fun x6 =>
 Option.bind (idx (s.set (Int.toNat a0) x2) a2) fun x7 =>
 Option.bind ((s.set (Int.toNat a0) x2)[(Int.toNat a2)]?) fun x8 =>
 loopO (fun (v9 : Int × Unit) =>
 letJ (fun (v10 : Bool × Unit) =>
 bif v10.1 then
 some (Sum.inl ((addI .i64 v9.1 (1 : Int)), ()))
 else
 Option.map Sum.inr (loopO (fun (v12 : Int × Unit) =>
 letJ (fun (v13 : Bool × Unit) =>
 bif v13.1 then
 some (Sum.inl ((subI .i64 v12.1 (1 : Int)), ()))
 else
 Option.map Sum.inr (bif (decide (v12.1 < v9.1)) then
 Option.bind (idx ((s.set (Int.toNat a0) x2).set (Int.toNat a2) x4) a0) fun x15 =>
 Option.bind (((s.set (Int.toNat a0) x2).set (Int.toNat a2) x4)[(Int.toNat a0)]?) fun x16 =>
 Option.bind (idx ((s.set (Int.toNat a0) x2).set (Int.toNat a2) x4) v12.1) fun x17 =>
 Option.bind (((s.set (Int.toNat a0) x2).set (Int.toNat a2) x4)[(Int.toNat v12.1)]?) fun x18 =>
 Option.bind (idx ((s.set (Int.toNat a0) x2).set (Int.toNat a2) x4) v12.1) fun x19 =>
 Option.bind (((s.set (Int.toNat a0) x2).set (Int.toNat a2) x4)[(Int.toNat v12.1)]?) fun x20 =>
 Option.bind (idx (((s.set (Int.toNat a0) x2).set (Int.toNat a2) x4).set (Int.toNat v12.1) x16) a0) fun x21 =>
 Option.bind ((((s.set (Int.toNat a0) x2).set (Int.toNat a2) x4).set (Int.toNat v12.1) x16)[(Int.toNat a0)]?) fun x22 =>
 some ((v12.1, true, ()), ((((s.set (Int.toNat a0) x2).set (Int.toNat a2) x4).set (Int.toNat v12.1) x16).set (Int.toNat a0) x18))
 else
 Option.bind (idx ((s.set (Int.toNat a0) x2).set (Int.toNat a2) x4) v12.1) fun x23 =>
 Option.bind (((s.set (Int.toNat a0) x2).set (Int.toNat a2) x4)[(Int.toNat v12.1)]?) fun x24 =>
 Option.bind (idx ((s.set (Int.toNat a0) x2).set (Int.toNat a2) x4) v9.1) fun x25 =>
 Option.bind (((s.set (Int.toNat a0) x2).set (Int.toNat a2) x4)[(Int.toNat v9.1)]?) fun x26 =>
 Option.bind (idx ((s.set (Int.toNat a0) x2).set (Int.toNat a2) x4) v9.1) fun x27 =>
 Option.bind (((s.set (Int.toNat a0) x2).set (Int.toNat a2) x4)[(Int.toNat v9.1)]?) fun x28 =>
 Option.bind (idx (((s.set (Int.toNat a0) x2).set (Int.toNat a2) x4).set (Int.toNat v9.1) x24) v12.1) fun x29 =>
 Option.bind ((((s.set (Int.toNat a0) x2).set (Int.toNat a2) x4).set (Int.toNat v9.1) x24)[(Int.toNat v12.1)]?) fun x30 =>
 loopO (fun (v31 : Int × Int × (List TBallot) × Unit) =>
 loopO (fun (v32 : Int × Unit) =>
 letJ (fun (v33 : Bool × Unit) =>
 bif v33.1 then
 some (Sum.inl ((addI .i64 v32.1 (1 : Int)), ()))
 else
 Option.map Sum.inr (loopO (fun (v35 : Int × Unit) =>
 letJ (fun (v36 : Bool × Unit) =>
 bif v36.1 then
 some (Sum.inl ((subI .i64 v35.1 (1 : Int)), ()))
 else
 Option.map Sum.inr (bif (decide (v35.1 < v32.1)) then
 Option.map Sum.inr (Option.bind (idx v31.2.2.1 a0) fun x38 =>
 Option.bind (v31.2.2.1[(Int.toNat a0)]?) fun x39 =>
 Option.bind (idx v31.2.2.1 v35.1) fun x40 =>
 Option.bind (v31.2.2.1[(Int.toNat v35.1)]?) fun x41 =>
 Option.bind (idx v31.2.2.1 v35.1) fun x42 =>
 Option.bind (v31.2.2.1[(Int.toNat v35.1)]?) fun x43 =>
 Option.bind (idx (v31.2.2.1.set (Int.toNat v35.1) x39) a0) fun x44 =>
 Option.bind ((v31.2.2.1.set (Int.toNat v35.1) x39)[(Int.toNat a0)]?) fun x45 =>
 some ((v35.1, false, ()), ((v31.2.2.1.set (Int.toNat v35.1) x39).set (Int.toNat a0) x41)))
 else
 Option.bind (idx v31.2.2.1 v35.1) fun x46 =>
 Option.bind (v31.2.2.1[(Int.toNat v35.1)]?) fun x47 =>
 Option.bind (idx v31.2.2.1 v32.1) fun x48 =>
 Option.bind (v31.2.2.1[(Int.toNat v32.1)]?) fun x49 =>
 Option.bind (idx v31.2.2.1 v32.1) fun x50 =>
 Option.bind (v31.2.2.1[(Int.toNat v32.1)]?) fun x51 =>
 Option.bind (idx (v31.2.2.1.set (Int.toNat v32.1) x47) v35.1) fun x52 =>
 Option.bind ((v31.2.2.1.set (Int.toNat v32.1) x47)[(Int.toNat v35.1)]?) fun x53 =>
 some (Sum.inl ((addI .i64 v32.1 (1 : Int)), (subI .i64 v35.1 (1 : Int)), ((v31.2.2.1.set (Int.toNat v32.1) x47).set (Int.toNat v35.1) x49), ())))) fun j37 =>
 bif (decide (v32.1 ≤ v35.1)) then
 Option.bind (idx v31.2.2.1 v35.1) fun x54 =>
 Option.bind (v31.2.2.1[(Int.toNat v35.1)]?) fun x55 =>
 Option.bind (idx v31.2.2.1 a0) fun x56 =>
 Option.bind (v31.2.2.1[(Int.toNat a0)]?) fun x57 =>
 Option.bind (F_envelopes_Ballots_1 x55 x57) fun r58 =>
 j37 ((!(decide (r58 < (0 : Int)))), ())
 else
 j37 (false, ())) (v31.2.1, ()))) fun j34 =>
 bif (decide (v32.1 ≤ v31.2.1)) then
 Option.bind (idx v31.2.2.1 v32.1) fun x59 =>
 Option.bind (v31.2.2.1[(Int.toNat v32.1)]?) fun x60 =>
 Option.bind (idx v31.2.2.1 a0) fun x61 =>
 Option.bind (v31.2.2.1[(Int.toNat a0)]?) fun x62 =>
 Option.bind (F_envelopes_Ballots_1 x60 x62) fun r63 =>
 j34 ((decide (r63 < (0 : Int))), ())
 else
 j34 (false, ())) (v31.1, ())) ((addI .i64 v9.1 (1 : Int)), (subI .i64 v12.1 (1 : Int)), ((((s.set (Int.toNat a0) x2).set (Int.toNat a2) x4).set (Int.toNat v9.1) x24).set (Int.toNat v12.1) x26), ()))) fun j14 =>
 bif (decide (v9.1 ≤ v12.1)) then
 Option.bind (idx ((s.set (Int.toNat a0) x2).set (Int.toNat a2) x4) v12.1) fun x64 =>
 Option.bind (((s.set (Int.toNat a0) x2).set (Int.toNat a2) x4)[(Int.toNat v12.1)]?) fun x65 =>
 Option.bind (idx ((s.set (Int.toNat a0) x2).set (Int.toNat a2) x4) a0) fun x66 =>
 Option.bind (((s.set (Int.toNat a0) x2).set (Int.toNat a2) x4)[(Int.toNat a0)]?) fun x67 =>
 Option.bind (F_envelopes_Ballots_1 x65 x67) fun r68 =>
 j14 ((!(decide (r68 < (0 : Int)))), ())
 else
 j14 (false, ())) ((subI .i64 a1 (1 : Int)), ()))) fun j11 =>
 bif (decide (v9.1 ≤ (subI .i64 a1 (1 : Int)))) then
 Option.bind (idx ((s.set (Int.toNat a0) x2).set (Int.toNat a2) x4) v9.1) fun x69 =>
 Option.bind (((s.set (Int.toNat a0) x2).set (Int.toNat a2) x4)[(Int.toNat v9.1)]?) fun x70 =>
 Option.bind (idx ((s.set (Int.toNat a0) x2).set (Int.toNat a2) x4) a0) fun x71 =>
 Option.bind (((s.set (Int.toNat a0) x2).set (Int.toNat a2) x4)[(Int.toNat a0)]?) fun x72 =>
 Option.bind (F_envelopes_Ballots_1 x70 x72) fun r73 =>
 j11 ((decide (r73 < (0 : Int))), ())
 else
 j11 (false, ())) ((addI .i64 a0 (1 : Int)), ())
noncomputable def k_slices_partitionCmpFunc_api_Ballot_c86 : KS U Tryz.prog := ⟨.rw 207 32 2 (Ty.st .Ballot) [.ty (Ty.i .i64), .ty (Ty.i .i64), .ty (Ty.i .i64), .clo 86 []] (.many [(Ty.i .i64), Ty.bool]) fun s a => F_slices_partitionCmpFunc_api_Ballot_c86 s a.1 a.2.1 a.2.2.1, rwS (K := K) sa_slices_partitionCmpFunc_api_Ballot_c86 178 [.tmp 10, .tmp 11] [k_envelopes_Ballots_1] (fk Tryz.f207 [] Tryz.func207)⟩

/-! ### slices.pdqsortCmpFunc[trustquorum/api.Ballot] -/
def sa_slices_pdqsortCmpFunc_api_Ballot_c86 : SA U :=
 (sr
 (op 10 (.mov (.cst (.bool true)))
 .nil)
 (sr
 (op 11 (.mov (.cst (.bool true)))
 .nil)
 (.block 0
 (.loop ⟨[.val 1 (Ty.i .i64), .val 2 (Ty.i .i64), .val 3 (Ty.i .i64), .val 10 Ty.bool, .val 11 Ty.bool, .own 0 0 0 32 2 (Ty.st .Ballot)], [4]⟩
 (.block 1
 (sr
 (mv 21 2
 (mv 22 1
 (op 23 (.bin .sub (tm 21) (tm 22))
 (mv 12 23
 .nil))))
 (.seq
 (sr
 (mv 24 12
 (op 25 (.bin .leq (tm 24) (ci 12))
 .nil))
 (.cond (tm 25)
 (sr
 (mv 26 0
 (mv 27 1
 (mv 28 2
 (mv 29 4
 (cl 30 200 [26, 27, 28, 29]
 .nil)))))
 .ret)
 .skip))
 (.seq
 (sr
 (mv 31 3
 (op 32 (.bin .eql (tm 31) (ci 0))
 .nil))
 (.cond (tm 32)
 (sr
 (mv 33 0
 (mv 34 1
 (mv 35 2
 (mv 36 4
 (cl 37 201 [33, 34, 35, 36]
 .nil)))))
 .ret)
 .skip))
 (.join ⟨[.val 3 (Ty.i .i64), .own 0 0 0 32 2 (Ty.st .Ballot)], [1, 2, 4, 10, 11, 12]⟩
 (sr
 (mv 38 10
 (op 39 (.not (tm 38))
 .nil))
 (.cond (tm 39)
 (sr
 (mv 40 0
 (mv 41 1
 (mv 42 2
 (mv 43 4
 (cl 44 202 [40, 41, 42, 43]
 .nil)))))
 (.reg
 (mv 45 3
 (op 46 (.bin .sub (tm 45) (ci 1))
 (mv 3 46
 .nil)))))
 .skip))
 (sr
 (mv 48 0
 (mv 49 1
 (mv 50 2
 (mv 51 4
 (cl 52 203 [48, 49, 50, 51]
 (mv 47 52
 (op 53 (.extr 0 (tm 47))
 (op 54 (.extr 1 (tm 47))
 (mv 13 53
 (mv 14 54
 .nil))))))))))
 (.join ⟨[.val 13 (Ty.i .i64), .val 14 (Ty.i .i64), .own 0 0 0 32 2 (Ty.st .Ballot)], [1, 2, 3, 4, 10, 11, 12]⟩
 (sr
 (mv 55 14
 (op 56 (.bin .eql (tm 55) (ci 2))
 .nil))
 (.cond (tm 56)
 (sr
 (mv 57 0
 (mv 58 1
 (mv 59 2
 (mv 60 4
 (cl 61 204 [57, 58, 59, 60]
 .nil)))))
 (sr
 (mv 62 2
 (op 63 (.bin .sub (tm 62) (ci 1))
 (mv 64 13
 (mv 65 1
 (op 66 (.bin .sub (tm 64) (tm 65))
 (op 67 (.bin .sub (tm 63) (tm 66))
 (mv 13 67
 .nil)))))))
 (.reg
 (mc 14 1
 .nil))))
 .skip))
 (.join ⟨[.own 0 0 0 32 2 (Ty.st .Ballot)], [1, 2, 3, 4, 10, 11, 12, 13]⟩
 (sr
 (mv 68 10
 (mv 69 68
 (.ite 69 true
 (opg 70 69 true (.mov (tm 11))
 .nil)
 71 none (tm 70) (.cst (.bool false))
 (mv 72 71
 (.ite 72 true
 (opg 73 72 true (.mov (tm 14))
 (opg 74 72 true (.bin .eql (tm 73) (ci 1))
 .nil))
 75 none (tm 74) (.cst (.bool false))
 .nil)))))
 (.cond (tm 75)
 (sr
 (mv 76 0
 (mv 77 1
 (mv 78 2
 (mv 79 4
 (cl 80 205 [76, 77, 78, 79]
 .nil)))))
 (.cond (tm 80)
 .ret
 .skip))
 .skip))
 (.seq
 (.join ⟨[.val 97 Ty.bool], [0, 1, 2, 3, 4, 10, 11, 12, 13]⟩
 (.drw [(7, 11), (8, 11), (7, 12), (8, 12)]
 (mv 81 1
 (op 82 (.bin .gtr (tm 81) (ci 0))
 (mv 83 82
 (.spl 83
 (opg 84 83 true (.mov (tm 4))
 (opg 85 83 true (.mov (tm 0))
 (opg 86 83 true (.mov (tm 1))
 (opg 87 83 true (.bin .sub (tm 86) (ci 1))
 (opg 88 83 true (.iaddr 2 (tm 85) (tm 87))
 (opg 89 83 true (.load (some 2) (tm 88))
 (opg 90 83 true (.mov (tm 0))
 (opg 91 83 true (.mov (tm 13))
 (opg 92 83 true (.iaddr 2 (tm 90) (tm 91))
 (opg 93 83 true (.load (some 2) (tm 92))
 (opg 94 83 true (.callv (tm 84) [(tm 89), (tm 93)])
 (opg 95 83 true (.bin .lss (tm 94) (ci 0))
 (opg 96 83 true (.not (tm 95))
 (op 97 (.pick (tm 83) (tm 96) (.cst (.bool false)))
 .nil)))))))))))))))))))
 (.cond (tm 97)
 (sr
 (mv 98 0
 (mv 99 1
 (mv 100 2
 (mv 101 13
 (mv 102 4
 (cl 103 206 [98, 99, 100, 101, 102]
 (mv 15 103
 .nil)))))))
 (sr
 (mv 104 15
 (mv 1 104
 .nil))
 (.exit 1)))
 .skip))
 (sr
 (mv 106 0
 (mv 107 1
 (mv 108 2
 (mv 109 13
 (mv 110 4
 (cl 111 207 [106, 107, 108, 109, 110]
 (mv 105 111
 (op 112 (.extr 0 (tm 105))
 (op 113 (.extr 1 (tm 105))
 (mv 16 112
 (mv 17 113
 .nil)))))))))))
 (sr
 (mv 114 17
 (mv 11 114
 .nil))
 (sr
 (mv 115 16
 (mv 116 1
 (op 117 (.bin .sub (tm 115) (tm 116))
 (mv 118 2
 (mv 119 16
 (op 120 (.bin .sub (tm 118) (tm 119))
 (mv 18 117
 (mv 19 120
 .nil))))))))
 (sr
 (mv 121 12
 (op 122 (.bin .quo (tm 121) (ci 8))
 (mv 20 122
 .nil)))
 (sr
 (mv 123 18
 (mv 124 19
 (op 125 (.bin .lss (tm 123) (tm 124))
 .nil)))
 (.cond (tm 125)
 (sr
 (mv 126 18
 (mv 127 20
 (op 128 (.bin .geq (tm 126) (tm 127))
 (mv 10 128
 .nil))))
 (sr
 (mv 129 0
 (mv 130 1
 (mv 131 16
 (mv 132 3
 (mv 133 4
 (cl 134 180 [129, 130, 131, 132, 133]
 .nil))))))
 (.reg
 (mv 135 16
 (op 136 (.bin .add (tm 135) (ci 1))
 (mv 1 136
 .nil))))))
 (sr
 (mv 137 19
 (mv 138 20
 (op 139 (.bin .geq (tm 137) (tm 138))
 (mv 10 139
 .nil))))
 (sr
 (mv 140 0
 (mv 141 16
 (op 142 (.bin .add (tm 141) (ci 1))
 (mv 143 2
 (mv 144 3
 (mv 145 4
 (cl 146 180 [140, 142, 143, 144, 145]
 .nil)))))))
 (.reg
 (mv 147 16
 (mv 2 147
 .nil))))))))))))))))))))))))
noncomputable def B_slices_pdqsortCmpFunc_api_Ballot_c86 (rec : List TBallot → (Int × Int × Int × (Unit) × Unit) → Option ((Unit) × List TBallot)) (s : List TBallot) (a0 : Int) (a1 : Int) (a2 : Int) : Option ((Unit) × List TBallot) :=
 loopO (fun (v1 : Int × Int × Int × Bool × Bool × (List TBallot) × Unit) =>
 bif (decide ((subI .i64 v1.2.1 v1.1) ≤ (12 : Int))) then
 Option.bind (F_slices_insertionSortCmpFunc_api_Ballot_c86 v1.2.2.2.2.2.1 v1.1 v1.2.1) fun p2 =>
 Option.map Sum.inr (some ((()), p2.2))
 else
 bif (decide (v1.2.2.1 = (0 : Int))) then
 Option.bind (F_slices_heapSortCmpFunc_api_Ballot_c86 v1.2.2.2.2.2.1 v1.1 v1.2.1) fun p3 =>
 Option.map Sum.inr (some ((()), p3.2))
 else
 letJ (fun (v4 : Int × (List TBallot) × Unit) =>
 Option.bind (F_slices_choosePivotCmpFunc_api_Ballot_c86 v4.2.1 v1.1 v1.2.1) fun r6 =>
 letJ (fun (v7 : Int × Int × (List TBallot) × Unit) =>
 letJ (fun (v9 : (List TBallot) × Unit) =>
 letJ (fun (v11 : Bool × Unit) =>
 bif v11.1 then
 Option.bind (F_slices_partitionEqualCmpFunc_api_Ballot_c86 v9.1 v1.1 v1.2.1 v7.1) fun p13 =>
 some (Sum.inl (p13.1, v1.2.1, v4.1, v1.2.2.2.1, v1.2.2.2.2.1, p13.2, ()))
 else
 Option.bind (F_slices_partitionCmpFunc_api_Ballot_c86 v9.1 v1.1 v1.2.1 v7.1) fun p14 =>
 bif (decide ((subI .i64 p14.1.1 v1.1) < (subI .i64 v1.2.1 p14.1.1))) then
 Option.bind (rec p14.2 (v1.1, p14.1.1, v4.1, (()), ())) fun p15 =>
 some (Sum.inl ((addI .i64 p14.1.1 (1 : Int)), v1.2.1, v4.1, (decide ((quoI .i64 (subI .i64 v1.2.1 v1.1) (8 : Int)) ≤ (subI .i64 p14.1.1 v1.1))), p14.1.2.1, p15.2, ()))
 else
 Option.bind (rec p14.2 ((addI .i64 p14.1.1 (1 : Int)), v1.2.1, v4.1, (()), ())) fun p16 =>
 some (Sum.inl (v1.1, p14.1.1, v4.1, (decide ((quoI .i64 (subI .i64 v1.2.1 v1.1) (8 : Int)) ≤ (subI .i64 v1.2.1 p14.1.1))), p14.1.2.1, p16.2, ()))) fun j12 =>
 bif (decide ((0 : Int) < v1.1)) then
 Option.bind (idx v9.1 (subI .i64 v1.1 (1 : Int))) fun x17 =>
 Option.bind (v9.1[(Int.toNat (subI .i64 v1.1 (1 : Int)))]?) fun x18 =>
 Option.bind (idx v9.1 v7.1) fun x19 =>
 Option.bind (v9.1[(Int.toNat v7.1)]?) fun x20 =>
 Option.bind (F_envelopes_Ballots_1 x18 x20) fun r21 =>
 j12 ((!(decide (r21 < (0 : Int)))), ())
 else
 j12 (false, ())) fun j10 =>
 Option.bind (bif v1.2.2.2.1 then
 some v1.2.2.2.2.1
 else some false) fun b22 =>
 Option.bind (bif b22 then
 some (decide (v7.2.1 = (1 : Int)))
 else some false) fun b23 =>
 bif b23 then
 Option.bind (F_slices_partialInsertionSortCmpFunc_api_Ballot_c86 v7.2.2.1 v1.1 v1.2.1) fun p24 =>
 bif p24.1 then
 Option.map Sum.inr (some ((()), p24.2))
 else
 j10 (p24.2, ())
 else
 j10 (v7.2.2.1, ())) fun j8 =>
 bif (decide (r6.2.1 = (2 : Int))) then
 Option.bind (F_slices_reverseRangeCmpFunc_api_Ballot_c86 v4.2.1 v1.1 v1.2.1) fun p25 =>
 j8 ((subI .i64 (subI .i64 v1.2.1 (1 : Int)) (subI .i64 r6.1 v1.1)), (1 : Int), p25.2, ())
 else
 j8 (r6.1, r6.2.1, v4.2.1, ())) fun j5 =>
 bif (!v1.2.2.2.1) then
 Option.bind (F_slices_breakPatternsCmpFunc_api_Ballot_c86 v1.2.2.2.2.2.1 v1.1 v1.2.1) fun p26 =>
 j5 ((subI .i64 v1.2.2.1 (1 : Int)), p26.2, ())
 else
 j5 (v1.2.2.1, v1.2.2.2.2.2.1, ())) (a0, a1, a2, true, true, s, ())
noncomputable def I_slices_pdqsortCmpFunc_api_Ballot_c86 : Nat → List TBallot → (Int × Int × Int × (Unit) × Unit) → Option ((Unit) × List TBallot) := iterF2 (fun rec s a => B_slices_pdqsortCmpFunc_api_Ballot_c86 rec s a.1 a.2.1 a.2.2.1)
noncomputable def F_slices_pdqsortCmpFunc_api_Ballot_c86 (s : List TBallot) (a0 : Int) (a1 : Int) (a2 : Int) : Option ((Unit) × List TBallot) := I_slices_pdqsortCmpFunc_api_Ballot_c86 (List.length s + 1) s (a0, a1, a2, (()), ())
noncomputable def k_slices_pdqsortCmpFunc_api_Ballot_c86 : KS U Tryz.prog := ⟨.rw 180 32 2 (Ty.st .Ballot) [.ty (Ty.i .i64), .ty (Ty.i .i64), .ty (Ty.i .i64), .clo 86 []] (.many []) fun s a => F_slices_pdqsortCmpFunc_api_Ballot_c86 s a.1 a.2.1 a.2.2.1, rwRS (K := K) («as» := [.ty (Ty.i .i64), .ty (Ty.i .i64), .ty (Ty.i .i64), .clo 86 []]) (r := .many []) (T := (Ty.st .Ballot)) (B := fun rec s a => B_slices_pdqsortCmpFunc_api_Ballot_c86 rec s a.1 a.2.1 a.2.2.1) sa_slices_pdqsortCmpFunc_api_Ballot_c86 148 [] [k_slices_insertionSortCmpFunc_api_Ballot_c86, k_slices_heapSortCmpFunc_api_Ballot_c86, k_slices_breakPatternsCmpFunc_api_Ballot_c86, k_slices_choosePivotCmpFunc_api_Ballot_c86, k_slices_reverseRangeCmpFunc_api_Ballot_c86, k_slices_partialInsertionSortCmpFunc_api_Ballot_c86, k_envelopes_Ballots_1, k_slices_partitionEqualCmpFunc_api_Ballot_c86, k_slices_partitionCmpFunc_api_Ballot_c86] (fk Tryz.f180 [] Tryz.func180) (hF := fun s a => ⟨_, rfl⟩)⟩

/-! ### slices.SortFunc[[]trustquorum/api.Ballot,trustquorum/api.Ballot] -/
def sa_slices_SortFunc_api_Ballot_api_Ballot_c86 : SA U :=
 (sr
 (mv 5 0
 (op 6 (.len false (tm 5))
 (mv 4 6
 .nil)))
 (.reg
 (mv 7 0
 (mv 8 4
 (mv 9 4
 (op 10 (.conv .u64 (tm 9))
 (cl 11 181 [10]
 (mv 12 1
 (op 13 (.call 180 [(tm 7), (ci 0), (tm 8), (tm 11), (tm 12)])
 .nil)))))))))
noncomputable def F_slices_SortFunc_api_Ballot_api_Ballot_c86 (s : List TBallot)  : Option ((Unit) × List TBallot) :=
 Option.bind (F_math_bits_Len (convI .u64 ((List.length s : Nat) : Int))) fun r1 =>
 Option.bind (F_slices_pdqsortCmpFunc_api_Ballot_c86 s (0 : Int) ((List.length s : Nat) : Int) r1) fun p2 =>
 some ((()), p2.2)
noncomputable def k_slices_SortFunc_api_Ballot_api_Ballot_c86 : KS U Tryz.prog := ⟨.rw 144 32 2 (Ty.st .Ballot) [.clo 86 []] (.many []) fun s a => F_slices_SortFunc_api_Ballot_api_Ballot_c86 s , rwS (K := K) sa_slices_SortFunc_api_Ballot_api_Ballot_c86 14 [] [k_math_bits_Len, k_slices_pdqsortCmpFunc_api_Ballot_c86] (fk Tryz.f144 [] Tryz.func144)⟩

/-! ### slices.Compact[[]trustquorum/api.Ballot,trustquorum/api.Ballot] -/
def sa_slices_Compact_api_Ballot_api_Ballot : SA U :=
 (sr
 (op 2 (.mov (.cst (.nils)))
 .nil)
 (.seq
 (sr
 (mv 6 0
 (op 7 (.len false (tm 6))
 (op 8 (.bin .lss (tm 7) (ci 2))
 .nil)))
 (.cond (tm 8)
 (sr
 (mv 9 0
 (mv 2 9
 .nil))
 .ret)
 .skip))
 (.seq
 (sr
 (mc 3 1
 .nil)
 (.block 0
 (.loop ⟨[.val 3 (Ty.i .i64), .own 0 0 0 32 2 (Ty.st .Ballot)], []⟩
 (.seq
 (sr
 (mv 10 3
 (mv 11 0
 (op 12 (.len false (tm 11))
 (op 13 (.bin .lss (tm 10) (tm 12))
 .nil))))
 (.cond (tm 13)
 .skip
 (.exit 0)))
 (.seq
 (.block 1
 (.seq
 (.drw [(2, 7), (3, 7), (2, 8), (3, 8)]
 (mv 16 0
 (mv 17 3
 (ia 18 2 16 17
 (ldk 19 2 18
 (mv 20 0
 (mv 21 3
 (op 22 (.bin .sub (tm 21) (ci 1))
 (ia 23 2 20 22
 (ldk 24 2 23
 (op 25 (.eq2 false (tm 19) (tm 24))
 .nil)))))))))))
 (.cond (tm 25)
 (sr
 (mv 26 0
 (mv 27 3
 (op 28 (.slc 2 (tm 26) (some (tm 27)) none)
 (mv 4 28
 .nil))))
 (.seq
 (sr
 (mc 5 1
 .nil)
 (.block 2
 (.loop ⟨[.val 3 (Ty.i .i64), .val 5 (Ty.i .i64), .own 0 0 0 32 2 (Ty.st .Ballot)], [4]⟩
 (.seq
 (sr
 (mv 29 5
 (mv 30 4
 (op 31 (.len false (tm 30))
 (op 32 (.bin .lss (tm 29) (tm 31))
 .nil))))
 (.cond (tm 32)
 .skip
 (.exit 2)))
 (.join ⟨[.val 3 (Ty.i .i64), .own 0 0 0 32 2 (Ty.st .Ballot)], [4, 5]⟩
 (.block 3
 (.seq
 (.drw [(2, 7), (3, 7), (2, 8), (3, 8)]
 (mv 35 4
 (mv 36 5
 (ia 37 2 35 36
 (ldk 38 2 37
 (mv 39 4
 (mv 40 5
 (op 41 (.bin .sub (tm 40) (ci 1))
 (ia 42 2 39 41
 (ldk 43 2 42
 (op 44 (.eq2 true (tm 38) (tm 43))
 .nil)))))))))))
 (.cond (tm 44)
 (sr
 (mv 45 0
 (mv 46 3
 (mv 47 4
 (mv 48 5
 (ia 49 2 47 48
 (ldk 50 2 49
 (ia 51 2 45 46
 (ops (.store 2 (tm 51) (tm 50))
 .nil))))))))
 (.reg
 (mv 52 3
 (op 53 (.bin .add (tm 52) (ci 1))
 (mv 3 53
 .nil)))))
 .skip)))
 (.reg
 (mv 33 5
 (op 34 (.bin .add (tm 33) (ci 1))
 (mv 5 34
 .nil)))))))))
 (sr
 (mv 54 0
 (mv 55 3
 (op 56 (.slc 2 (tm 54) (some (tm 55)) none)
 (ops (.clear 2 [.int .i64 0, .str ⟨#[]⟩] (tm 56))
 .nil))))
 (sr
 (mv 57 0
 (mv 58 3
 (op 59 (.slc 2 (tm 57) none (some (tm 58)))
 (mv 2 59
 (.ps (.cut 2)
 .nil)))))
 .ret))))
 .skip)))
 (.reg
 (mv 14 3
 (op 15 (.bin .add (tm 14) (ci 1))
 (mv 3 15
 .nil)))))))))
 (sr
 (mv 60 0
 (mv 2 60
 .nil))
 .ret))))
noncomputable def F_slices_Compact_api_Ballot_api_Ballot (s : List TBallot)  : Option (List TBallot) :=
 bif (decide (((List.length s : Nat) : Int) < (2 : Int))) then
 some s
 else
 loopO (fun (v1 : Int × (List TBallot) × Unit) =>
 bif (decide (v1.1 < ((List.length v1.2.1 : Nat) : Int))) then
 Option.bind (idx v1.2.1 v1.1) fun x2 =>
 Option.bind (v1.2.1[(Int.toNat v1.1)]?) fun x3 =>
 Option.bind (idx v1.2.1 (subI .i64 v1.1 (1 : Int))) fun x4 =>
 Option.bind (v1.2.1[(Int.toNat (subI .i64 v1.1 (1 : Int)))]?) fun x5 =>
 bif (eq2 false x3.Counter x5.Counter x3.Value x5.Value) then
 bif slcOk v1.1 ((List.length v1.2.1) : Int) (List.length v1.2.1) then
 loopO (fun (v6 : Int × Int × (List TBallot) × Unit) =>
 bif (decide (v6.2.1 < ((List.length ((v6.2.2.1.drop (Int.toNat v1.1)).take (Int.toNat ((List.length v1.2.1) : Int) - Int.toNat v1.1)) : Nat) : Int))) then
 letJ (fun (v7 : Int × (List TBallot) × Unit) =>
 some (Sum.inl (v7.1, (addI .i64 v6.2.1 (1 : Int)), v7.2.1, ()))) fun j8 =>
 Option.bind (idx ((v6.2.2.1.drop (Int.toNat v1.1)).take (Int.toNat ((List.length v1.2.1) : Int) - Int.toNat v1.1)) v6.2.1) fun x9 =>
 Option.bind (v6.2.2.1[((Int.toNat v1.1) + Int.toNat v6.2.1)]?) fun x10 =>
 Option.bind (idx ((v6.2.2.1.drop (Int.toNat v1.1)).take (Int.toNat ((List.length v1.2.1) : Int) - Int.toNat v1.1)) (subI .i64 v6.2.1 (1 : Int))) fun x11 =>
 Option.bind (v6.2.2.1[((Int.toNat v1.1) + Int.toNat (subI .i64 v6.2.1 (1 : Int)))]?) fun x12 =>
 bif (eq2 true x10.Counter x12.Counter x10.Value x12.Value) then
 Option.bind (idx ((v6.2.2.1.drop (Int.toNat v1.1)).take (Int.toNat ((List.length v1.2.1) : Int) - Int.toNat v1.1)) v6.2.1) fun x13 =>
 Option.bind (v6.2.2.1[((Int.toNat v1.1) + Int.toNat v6.2.1)]?) fun x14 =>
 Option.bind (idx v6.2.2.1 v6.1) fun x15 =>
 Option.bind (v6.2.2.1[(Int.toNat v6.1)]?) fun x16 =>
 j8 ((addI .i64 v6.1 (1 : Int)), (v6.2.2.1.set (Int.toNat v6.1) x14), ())
 else
 j8 (v6.1, v6.2.2.1, ())
 else
 Option.map Sum.inr (bif slcOk v6.1 ((List.length v6.2.2.1) : Int) (List.length v6.2.2.1) then
 bif slcOk (0 : Int) v6.1 (List.length (v6.2.2.1.take (Int.toNat v6.1) ++ List.replicate (Int.toNat ((List.length v6.2.2.1) : Int) - Int.toNat v6.1) (TBallot.mk (0 : Int) (ByteArray.mk #[])) ++ v6.2.2.1.drop ((Int.toNat v6.1) + (Int.toNat ((List.length v6.2.2.1) : Int) - Int.toNat v6.1)))) then
 Option.map Sum.inr (some ((v6.2.2.1.take (Int.toNat v6.1) ++ List.replicate (Int.toNat ((List.length v6.2.2.1) : Int) - Int.toNat v6.1) (TBallot.mk (0 : Int) (ByteArray.mk #[])) ++ v6.2.2.1.drop ((Int.toNat v6.1) + (Int.toNat ((List.length v6.2.2.1) : Int) - Int.toNat v6.1))).take (Int.toNat v6.1 - Int.toNat (0 : Int))))
 else none
 else none)) (v1.1, (1 : Int), v1.2.1, ())
 else none
 else
 some (Sum.inl ((addI .i64 v1.1 (1 : Int)), v1.2.1, ()))
 else
 Option.map Sum.inr (some v1.2.1)) ((1 : Int), s, ())
noncomputable def k_slices_Compact_api_Ballot_api_Ballot : KS U Tryz.prog := ⟨.cw 145 32 2 (Ty.st .Ballot) [] fun s a => F_slices_Compact_api_Ballot_api_Ballot s , cwS (K := K) sa_slices_Compact_api_Ballot_api_Ballot 61 [.tmp 2] [] (fk Tryz.f145 [] Tryz.func145)⟩

/-! ### trustquorum/envelopes.unique[trustquorum/api.Ballot] -/
def sa_envelopes_unique_api_Ballot_c86 : SA U :=
 (sr
 (op 4 (.mov (.cst (.nils)))
 .nil)
 (sr
 (mv 5 0
 (mv 6 1
 (cl 7 144 [5, 6]
 .nil)))
 (sr
 (mv 8 0
 (cl 9 145 [8]
 (mv 4 9
 .nil)))
 .ret)))
noncomputable def F_envelopes_unique_api_Ballot_c86 (s : List TBallot)  : Option (List TBallot) :=
 Option.bind (F_slices_SortFunc_api_Ballot_api_Ballot_c86 s) fun p1 =>
 Option.bind (F_slices_Compact_api_Ballot_api_Ballot p1.2) fun r2 =>
 some r2
noncomputable def k_envelopes_unique_api_Ballot_c86 : KS U Tryz.prog := ⟨.cw 83 32 2 (Ty.st .Ballot) [.clo 86 []] fun s a => F_envelopes_unique_api_Ballot_c86 s , cwS (K := K) sa_envelopes_unique_api_Ballot_c86 10 [.tmp 4] [k_slices_SortFunc_api_Ballot_api_Ballot_c86, k_slices_Compact_api_Ballot_api_Ballot] (fk Tryz.f83 [] Tryz.func83)⟩

/-! ### trustquorum/envelopes.Ballots -/
def sa_envelopes_Ballots : SA U :=
 (sr
 (op 2 (.mov (.cst (.nils)))
 .nil)
 (sr
 (op 3 (.mov (.cst (.nils)))
 .nil)
 (.seq
 (sr
 (mv 6 0
 (op 7 (.len false (tm 6))
 (mc 8 0
 .nil)))
 (.block 0
 (.ps (.own 3 32 2 (Ty.st .Ballot))
 (.loop ⟨[.val 8 (Ty.i .i64), .own 3 5 1 32 2 (Ty.st .Ballot)], [6, 7]⟩
 (sr
 (op 9 (.bin .lss (tm 8) (tm 7))
 .nil)
 (.seq
 (.cond (tm 9)
 .skip
 (.exit 0))
 (.join ⟨[.own 3 5 1 32 2 (Ty.st .Ballot)], [6, 7, 8]⟩
 (.block 1
 (sr
 (ia 10 15 6 8
 (ldk 11 15 10
 (op 5 (.alloc [.int .i64 0, .int .i64 0, .int .i64 0, .int .i64 0, .nils, .nils, .int .i64 0, .int .i64 0, .str ⟨#[]⟩, .int .i64 0, .str ⟨#[]⟩, .int .i64 0, .str ⟨#[]⟩, .int .i64 0, .int .i64 0])
 (ops (.store 15 (tm 5) (tm 11))
 .nil))))
 (.seq
 (sr
 (ldk 12 15 5
 (cl 13 75 [12]
 (op 14 (.not (tm 13))
 .nil)))
 (.cond (tm 14)
 (.exit 1)
 .skip))
 (sr
 (fa 15 6 5
 (ld 16 15
 .nil))
 (.block 2
 (sr
 (op 23 (.bin .eql (tm 16) (ci 1))
 (mv 22 23
 .nil))
 (.cond (tm 22)
 (.reg
 (mv 24 3
 (fa 25 7 5
 (ldk 26 2 25
 (fa 27 9 5
 (ldk 28 2 27
 (fa 29 11 5
 (ldk 30 2 29
 (op 31 (.bsl false 32 2 (List.replicate 3 [.int .i64 0, .str ⟨#[]⟩]) [(0, (tm 26)), (1, (tm 28)), (2, (tm 30))])
 (op 32 (.app 32 2 24 (tm 24) (tm 31))
 (mv 3 32
 .nil)))))))))))
 (sr
 (op 34 (.bin .eql (tm 16) (ci 2))
 (mv 33 34
 .nil))
 (.cond (tm 33)
 (.drw [(1, 3), (2, 3), (1, 4), (2, 4)]
 (mv 35 3
 (fa 36 9 5
 (ldk 37 2 36
 (ldk 38 15 5
 (op 39 (.call 82 [(tm 38), (ci 1000000)])
 (op 40 (.bsl false 32 2 (List.replicate 2 [.int .i64 0, .str ⟨#[]⟩]) [(0, (tm 37)), (1, (tm 39))])
 (op 41 (.app 32 2 24 (tm 35) (tm 40))
 (mv 3 41
 .nil)))))))))
 (.reg
 (mv 17 3
 (ldk 18 15 5
 (op 19 (.call 82 [(tm 18), (ci 1000000)])
 (op 20 (.bsl false 32 2 (List.replicate 1 [.int .i64 0, .str ⟨#[]⟩]) [(0, (tm 19))])
 (op 21 (.app 32 2 24 (tm 17) (tm 20))
 (mv 3 21
 .nil))))))))))))))))
 (.reg
 (op 42 (.bin .add (tm 8) (ci 1))
 (mv 8 42
 .nil))))))))))
 (sr
 (mv 43 3
 (op 44 (.call 84 [(tm 43), (.cst (.clo 85 []))])
 (op 45 (.call 83 [(tm 44), (.cst (.clo 86 []))])
 (mv 2 45
 .nil))))
 .ret))))
noncomputable def F_envelopes_Ballots (a0 : (List TEnvelope)) : Option (List TBallot) :=
 loopO (fun (v1 : Int × (List TBallot) × Unit) =>
 bif (decide (v1.1 < ((List.length a0 : Nat) : Int))) then
 letJ (fun (v2 : (List TBallot) × Unit) =>
 some (Sum.inl ((addI .i64 v1.1 (1 : Int)), v2.1, ()))) fun j3 =>
 Option.bind (idx a0 v1.1) fun x4 =>
 Option.bind (F_envelopes_Valid (TEnvelope.mk x4.Node x4.Slot x4.Seq (TTrust.mk x4.Trust.Threshold x4.Trust.Nodes x4.Trust.Inner) x4.Kind x4.Ballot x4.Prepared x4.Prime x4.Low x4.High)) fun r5 =>
 bif (!r5) then
 j3 (v1.2.1, ())
 else
 bif (decide (x4.Kind = (1 : Int))) then
 bif lenOk 24 (List.length v1.2.1 + List.length [x4.Ballot, x4.Prepared, x4.Prime]) then
 j3 ((v1.2.1 ++ [x4.Ballot, x4.Prepared, x4.Prime]), ())
 else none
 else
 bif (decide (x4.Kind = (2 : Int))) then
 Option.bind (F_envelopes_at (TEnvelope.mk x4.Node x4.Slot x4.Seq (TTrust.mk x4.Trust.Threshold x4.Trust.Nodes x4.Trust.Inner) x4.Kind x4.Ballot x4.Prepared x4.Prime x4.Low x4.High) (1000000 : Int)) fun r6 =>
 bif lenOk 24 (List.length v1.2.1 + List.length [x4.Prepared, r6]) then
 j3 ((v1.2.1 ++ [x4.Prepared, r6]), ())
 else none
 else
 Option.bind (F_envelopes_at (TEnvelope.mk x4.Node x4.Slot x4.Seq (TTrust.mk x4.Trust.Threshold x4.Trust.Nodes x4.Trust.Inner) x4.Kind x4.Ballot x4.Prepared x4.Prime x4.Low x4.High) (1000000 : Int)) fun r7 =>
 bif lenOk 24 (List.length v1.2.1 + List.length [r7]) then
 j3 ((v1.2.1 ++ [r7]), ())
 else none
 else
 Option.map Sum.inr (Option.bind (F_slices_DeleteFunc_api_Ballot_api_Ballot_c85 v1.2.1) fun r8 =>
 Option.bind (F_envelopes_unique_api_Ballot_c86 r8) fun r9 =>
 some r9)) ((0 : Int), ([] : List TBallot), ())
noncomputable def k_envelopes_Ballots : KS U Tryz.prog := ⟨.fn 13 [.ty (Ty.sl (Ty.st .Envelope))] (.one (Ty.sl (Ty.st .Ballot))) fun a => F_envelopes_Ballots a.1, fnS (K := K) sa_envelopes_Ballots 46 [.tmp 2] [k_envelopes_Valid, k_envelopes_at, k_slices_DeleteFunc_api_Ballot_api_Ballot_c85, k_envelopes_unique_api_Ballot_c86] (fk Tryz.f13 [] Tryz.func13)⟩

/-! ### (trustquorum/envelopes.Right).VotesPrepare -/
def sa_envelopes_Right_VotesPrepare : SA U :=
 (sr
 (op 2 (.box (tm 0))
 (op 3 (.box (tm 1))
 (op 4 (.mov (.cst (.bool false)))
 .nil)))
 (.seq
 (.block 0
 (sr
 (ldk 6 2 3
 (cl 7 85 [6]
 (mv 5 7
 .nil)))
 (.cond (tm 5)
 (sr
 (op 4 (.mov (.cst (.bool false)))
 .nil)
 .ret)
 (sr
 (fa 9 0 2
 (fa 10 6 9
 (ld 11 10
 (op 12 (.bin .eql (tm 11) (ci 1))
 (mv 8 12
 .nil)))))
 (.cond (tm 8)
 (sr
 (fa 13 0 2
 (fa 14 7 13
 (ldk 15 2 14
 (ldk 16 2 3
 (cl 17 151 [15, 16]
 (mv 4 17
 .nil))))))
 .ret)
 .skip)))))
 (sr
 (fa 18 0 2
 (fa 19 7 18
 (ldk 20 2 19
 (ldk 21 2 3
 (cl 22 114 [20, 21]
 (mv 4 22
 .nil))))))
 .ret)))
noncomputable def F_envelopes_Right_VotesPrepare (a0 : TRight) (a1 : TBallot) : Option Bool :=
 Option.bind (F_ballots_Zero a1) fun r1 =>
 bif r1 then
 some false
 else
 bif (decide (a0.Envelope.Kind = (1 : Int))) then
 Option.bind (F_ballots_Covers a0.Envelope.Ballot a1) fun r2 =>
 some r2
 else
 Option.bind (F_ballots_Compatible a0.Envelope.Ballot a1) fun r3 =>
 some r3
noncomputable def k_envelopes_Right_VotesPrepare : KS U Tryz.prog := ⟨.fn 90 [.ty (Ty.st .Right), .ty (Ty.st .Ballot)] (.one Ty.bool) fun a => F_envelopes_Right_VotesPrepare a.1 a.2.1, fnS (K := K) sa_envelopes_Right_VotesPrepare 23 [.tmp 4] [k_ballots_Zero, k_ballots_Covers, k_ballots_Compatible] (fk Tryz.f90 [] Tryz.func90)⟩

/-! ### (trustquorum/envelopes.Right).AcceptsPrepare -/
def sa_envelopes_Right_AcceptsPrepare : SA U :=
 (sr
 (op 2 (.box (tm 0))
 (op 3 (.box (tm 1))
 (op 4 (.mov (.cst (.bool false)))
 .nil)))
 (.seq
 (.block 0
 (sr
 (ldk 6 2 3
 (cl 7 85 [6]
 (mv 5 7
 .nil)))
 (.cond (tm 5)
 (sr
 (op 4 (.mov (.cst (.bool false)))
 .nil)
 .ret)
 (sr
 (fa 9 0 2
 (fa 10 6 9
 (ld 11 10
 (op 12 (.bin .eql (tm 11) (ci 1))
 (mv 8 12
 .nil)))))
 (.cond (tm 8)
 (sr
 (fa 13 0 2
 (fa 14 9 13
 (ldk 15 2 14
 (fa 16 0 2
 (fa 17 11 16
 (ldk 18 2 17
 (ldk 19 2 3
 (cl 20 110 [15, 18, 19]
 (mv 4 20
 .nil)))))))))
 .ret)
 (sr
 (fa 22 0 2
 (fa 23 6 22
 (ld 24 23
 (op 25 (.bin .eql (tm 24) (ci 2))
 (mv 21 25
 .nil)))))
 (.cond (tm 21)
 (sr
 (fa 26 0 2
 (fa 27 9 26
 (ldk 28 2 27
 (ldk 29 2 3
 (cl 30 151 [28, 29]
 (mv 4 30
 .nil))))))
 .ret)
 .skip)))))))
 (sr
 (fa 31 0 2
 (fa 32 7 31
 (ldk 33 2 32
 (ldk 34 2 3
 (cl 35 114 [33, 34]
 (mv 4 35
 .nil))))))
 .ret)))
noncomputable def F_envelopes_Right_AcceptsPrepare (a0 : TRight) (a1 : TBallot) : Option Bool :=
 Option.bind (F_ballots_Zero a1) fun r1 =>
 bif r1 then
 some false
 else
 bif (decide (a0.Envelope.Kind = (1 : Int))) then
 Option.bind (F_ballots_Prepares a0.Envelope.Prepared a0.Envelope.Prime a1) fun r2 =>
 some r2
 else
 bif (decide (a0.Envelope.Kind = (2 : Int))) then
 Option.bind (F_ballots_Covers a0.Envelope.Prepared a1) fun r3 =>
 some r3
 else
 Option.bind (F_ballots_Compatible a0.Envelope.Ballot a1) fun r4 =>
 some r4
noncomputable def k_envelopes_Right_AcceptsPrepare : KS U Tryz.prog := ⟨.fn 91 [.ty (Ty.st .Right), .ty (Ty.st .Ballot)] (.one Ty.bool) fun a => F_envelopes_Right_AcceptsPrepare a.1 a.2.1, fnS (K := K) sa_envelopes_Right_AcceptsPrepare 36 [.tmp 4] [k_ballots_Zero, k_ballots_Prepares, k_ballots_Covers, k_ballots_Compatible] (fk Tryz.f91 [] Tryz.func91)⟩

/-! ### trustquorum/trustquorumplay.Flat -/
def sa_play_Flat : SA U :=
 (sr
 (op 4 (.alloc [.int .i64 0, .nils, .nils])
 .nil)
 (sr
 (mv 7 1
 (op 8 (.build [.int .i64 0, .nils, .nils] [(0, 1, (tm 7))])
 (op 5 (.alloc [.int .i64 0, .nils, .nils])
 (ops (.store 3 (tm 5) (tm 8))
 .nil))))
 (.seq
 (sr
 (mc 6 0
 .nil)
 (.block 0
 (.ps (.ownB 5 1 3 1 (Ty.i .i64))
 (.loop ⟨[.val 6 (Ty.i .i64), .box 3 1 (Ty.st .Trust) [(1, 6, 1)], .rowb 6 1 3 1 (Ty.i .i64)], [0, 4, 5]⟩
 (.seq
 (sr
 (mv 9 6
 (mv 10 0
 (op 11 (.bin .lss (tm 9) (tm 10))
 .nil)))
 (.cond (tm 11)
 .skip
 (.exit 0)))
 (.seq
 (.block 1
 (.reg
 (fa 14 1 5
 (ld 15 14
 (mv 16 6
 (op 17 (.bsl false 3 1 (List.replicate 1 [.int .i64 0]) [(0, (tm 16))])
 (op 18 (.app 3 1 8 (tm 15) (tm 17))
 (fa 19 1 5
 (ops (.store 1 (tm 19) (tm 18))
 .nil)))))))))
 (.reg
 (mv 12 6
 (op 13 (.bin .add (tm 12) (ci 1))
 (mv 6 13
 .nil))))))))))
 (sr
 (ldk 20 3 5
 (ops (.store 3 (tm 4) (tm 20))
 .nil))
 .ret))))
noncomputable def F_play_Flat (a0 : Int) (a1 : Int) : Option TTrust :=
 loopO (fun (v1 : Int × TTrust × (List Int) × Unit) =>
 bif (decide (v1.1 < a0)) then
 bif lenOk 8 (List.length v1.2.2.1 + List.length [v1.1]) then
 some (Sum.inl ((addI .i64 v1.1 (1 : Int)), (TTrust.mk v1.2.1.Threshold ([] : List Int) v1.2.1.Inner), (v1.2.2.1 ++ [v1.1]), ()))
 else none
 else
 Option.map Sum.inr (some (TTrust.mk v1.2.1.Threshold v1.2.2.1 v1.2.1.Inner))) ((0 : Int), (TTrust.mk a1 ([] : List Int) ([] : List TTrust)), ([] : List Int), ())
noncomputable def k_play_Flat : KS U Tryz.prog := ⟨.fn 30 [.ty (Ty.i .i64), .ty (Ty.i .i64)] (.one (Ty.st .Trust)) fun a => F_play_Flat a.1 a.2.1, fnS (K := K) sa_play_Flat 21 [.cell 4 (some 3)] [] (fk Tryz.f30 [] Tryz.func30)⟩

/-! ### slices.Clone[[]int,int] -/
def sa_slices_Clone_int_int : SA U :=
 (sr
 (op 2 (.mov (.cst (.nils)))
 .nil)
 (.seq
 (sr
 (mv 3 0
 (op 4 (.isnil false (tm 3))
 .nil))
 (.cond (tm 4)
 (sr
 (op 2 (.mov (.cst (.nils)))
 .nil)
 .ret)
 .skip))
 (sr
 (op 5 (.bsl true 3 1 (List.replicate 0 [.int .i64 0]) [])
 (mv 6 0
 (op 7 (.app 3 1 8 (tm 5) (tm 6))
 (mv 2 7
 .nil))))
 .ret)))
noncomputable def F_slices_Clone_int_int (a0 : (List Int)) : Option (List Int) :=
 bif List.isEmpty a0 then
 both (some ([] : List Int)) (bif lenOk 8 (List.length ([] : List Int) + List.length a0) then
 some (([] : List Int) ++ a0)
 else none)
 else
 bif lenOk 8 (List.length ([] : List Int) + List.length a0) then
 some (([] : List Int) ++ a0)
 else none
noncomputable def k_slices_Clone_int_int : KS U Tryz.prog := ⟨.fn 166 [.ty (Ty.sl (Ty.i .i64))] (.one (Ty.sl (Ty.i .i64))) fun a => F_slices_Clone_int_int a.1, fnS (K := K) sa_slices_Clone_int_int 8 [.tmp 2] [] (fk Tryz.f166 [5] Tryz.func166)⟩

/-! ### trustquorum/copies.Trust -/
def sa_copies_Trust : SA U :=
 (sr
 (op 1 (.box (tm 0))
 (op 2 (.alloc [.int .i64 0, .nils, .nils])
 .nil))
 (.seq
 (.drw [(0, 2), (1, 2), (0, 3), (1, 3), (0, 4), (1, 4), (0, 6), (1, 6), (2, 6), (3, 6), (4, 6)]
 (fa 6 0 1
 (ld 7 6
 (fa 8 1 1
 (ld 9 8
 (cl 10 166 [9]
 (op 11 (.build [.int .i64 0, .nils, .nils] [(0, 1, (tm 7)), (1, 1, (tm 10))])
 (op 3 (.alloc [.int .i64 0, .nils, .nils])
 (ops (.store 3 (tm 3) (tm 11))
 .nil)))))))))
 (.seq
 (sr
 (fa 12 2 1
 (ld 13 12
 (op 14 (.len false (tm 13))
 (mc 15 0
 .nil))))
 (.block 0
 (.ps (.ownB 3 2 36 3 (Ty.st .Trust))
 (.loop ⟨[.val 15 (Ty.i .i64), .box 8 1 (Ty.st .Trust) [(2, 14, 1)], .rowb 14 1 36 3 (Ty.st .Trust)], [2, 3, 13, 14]⟩
 (sr
 (op 16 (.bin .lss (tm 15) (tm 14))
 .nil)
 (.seq
 (.cond (tm 16)
 .skip
 (.exit 0))
 (.seq
 (.block 1
 (sr
 (ia 17 3 13 15
 (ldk 18 3 17
 (op 5 (.alloc [.int .i64 0, .nils, .nils])
 (ops (.store 3 (tm 5) (tm 18))
 .nil))))
 (.drw [(0, 2), (1, 2), (0, 3), (1, 3), (0, 4), (1, 4)]
 (fa 19 2 3
 (ld 20 19
 (ldk 21 3 5
 (cl 22 116 [21]
 (op 23 (.bsl false 36 3 (List.replicate 1 [.int .i64 0, .nils, .nils]) [(0, (tm 22))])
 (op 24 (.app 36 3 56 (tm 20) (tm 23))
 (fa 25 2 3
 (ops (.store 1 (tm 25) (tm 24))
 .nil)))))))))))
 (.reg
 (op 26 (.bin .add (tm 15) (ci 1))
 (mv 15 26
 .nil))))))))))
 (sr
 (ldk 27 3 3
 (ops (.store 3 (tm 2) (tm 27))
 .nil))
 .ret))))
noncomputable def B_copies_Trust (rec : (TTrust × Unit) → Option TTrust) (a0 : TTrust) : Option TTrust :=
 Option.bind (F_slices_Clone_int_int a0.Nodes) fun r1 =>
 loopO (fun (v2 : Int × TTrust × (List TTrust) × Unit) =>
 bif (decide (v2.1 < ((List.length a0.Inner : Nat) : Int))) then
 Option.bind (idx a0.Inner v2.1) fun x3 =>
 Option.bind (rec ((TTrust.mk x3.Threshold x3.Nodes x3.Inner), ())) fun r4 =>
 bif lenOk 56 (List.length v2.2.2.1 + List.length [(TTrust.mk r4.Threshold r4.Nodes r4.Inner)]) then
 some (Sum.inl ((addI .i64 v2.1 (1 : Int)), (TTrust.mk v2.2.1.Threshold v2.2.1.Nodes ([] : List TTrust)), (v2.2.2.1 ++ [(TTrust.mk r4.Threshold r4.Nodes r4.Inner)]), ()))
 else none
 else
 Option.map Sum.inr (some (TTrust.mk v2.2.1.Threshold v2.2.1.Nodes v2.2.2.1))) ((0 : Int), (TTrust.mk a0.Threshold r1 ([] : List TTrust)), ([] : List TTrust), ())
noncomputable def I_copies_Trust : Nat → (TTrust × Unit) → Option TTrust := iterF (fun rec a => B_copies_Trust rec a.1)
noncomputable def F_copies_Trust (a0 : TTrust) : Option TTrust := I_copies_Trust (SizeOf.sizeOf a0 + 1) (a0, ())
noncomputable def k_copies_Trust : KS U Tryz.prog := ⟨.fn 116 [.ty (Ty.st .Trust)] (.one (Ty.st .Trust)) fun a => F_copies_Trust a.1, fnRS (K := K) («as» := [.ty (Ty.st .Trust)]) (r := .one (Ty.st .Trust)) (B := fun rec a => B_copies_Trust rec a.1) sa_copies_Trust 28 [.cell 2 (some 3)] [k_slices_Clone_int_int] (fk Tryz.f116 [] Tryz.func116) (hF := fun a => ⟨_, rfl⟩)⟩

/-! ### trustquorum/prepare.View -/
def sa_prepare_View : SA U :=
 (sr
 (op 4 (.box (tm 1))
 (op 6 (.alloc [.nils])
 .nil))
 (sr
 (op 10 (.mks 126 4 64 [.bool false, .int .i64 0, .nils, .nils] (ci 10) (ci 10))
 (op 11 (.build [.nils] [(0, 1, (tm 10))])
 (op 7 (.alloc [.nils])
 (ops (.store 1 (tm 7) (tm 11))
 .nil))))
 (.seq
 (sr
 (mv 12 0
 (op 13 (.bin .lss (tm 12) (ci 0))
 (mv 14 13
 (.ite 14 false
 (opg 15 14 false (.mov (tm 0))
 (opg 16 14 false (.bin .geq (tm 15) (ci 10))
 .nil))
 17 none (.cst (.bool true)) (tm 16)
 .nil))))
 (.cond (tm 17)
 (sr
 (ldk 18 1 7
 (ops (.store 1 (tm 6) (tm 18))
 .nil))
 .ret)
 .skip))
 (.seq
 (.drw [(0, 3), (1, 3), (0, 4), (1, 4)]
 (fa 19 0 7
 (ld 20 19
 (mv 21 0
 (ldk 22 3 4
 (cl 23 116 [22]
 (op 24 (.build [.bool false, .int .i64 0, .nils, .nils] [(0, 1, (.cst (.bool true))), (1, 3, (tm 23))])
 (ia 25 4 20 21
 (ops (.store 4 (tm 25) (tm 24))
 .nil)))))))))
 (.seq
 (sr
 (mv 26 2
 (op 27 (.len false (tm 26))
 (mc 28 0
 .nil)))
 (.block 0
 (.loop ⟨[.val 28 (Ty.i .i64), .box 4 1 (Ty.st .Config) [(0, 2, 1)], .rowb 2 1 126 4 (Ty.st .Member)], [6, 7, 26, 27]⟩
 (sr
 (op 29 (.bin .lss (tm 28) (tm 27))
 .nil)
 (.seq
 (.cond (tm 29)
 .skip
 (.exit 0))
 (.join ⟨[.box 4 1 (Ty.st .Config) [(0, 2, 1)], .rowb 2 1 126 4 (Ty.st .Member)], [6, 7, 26, 27, 28]⟩
 (.block 1
 (sr
 (ia 30 15 26 28
 (ldk 31 15 30
 (op 9 (.alloc [.int .i64 0, .int .i64 0, .int .i64 0, .int .i64 0, .nils, .nils, .int .i64 0, .int .i64 0, .str ⟨#[]⟩, .int .i64 0, .str ⟨#[]⟩, .int .i64 0, .str ⟨#[]⟩, .int .i64 0, .int .i64 0])
 (ops (.store 15 (tm 9) (tm 31))
 .nil))))
 (sr
 (ldk 32 15 9
 (cl 33 75 [32]
 (mv 34 33
 (.ite 34 true
 (opg 35 34 true (.faddr 0 (tm 7))
 (opg 36 34 true (.load none (tm 35))
 (opg 37 34 true (.faddr 0 (tm 9))
 (opg 38 34 true (.load none (tm 37))
 (opg 39 34 true (.iaddr 4 (tm 36) (tm 38))
 (opg 40 34 true (.faddr 0 (tm 39))
 (opg 41 34 true (.load none (tm 40))
 (opg 42 34 true (.not (tm 41))
 .nil))))))))
 43 none (tm 42) (.cst (.bool false))
 .nil))))
 (.cond (tm 43)
 (.drw [(0, 2), (1, 2), (0, 3), (1, 3), (0, 4), (1, 4), (2, 4), (3, 4), (0, 5), (1, 5), (2, 5), (3, 5), (0, 6), (1, 6), (2, 6), (3, 6)]
 (fa 44 0 7
 (ld 45 44
 (fa 46 0 9
 (ld 47 46
 (fa 48 3 9
 (ldk 49 3 48
 (cl 50 116 [49]
 (op 51 (.build [.bool false, .int .i64 0, .nils, .nils] [(0, 1, (.cst (.bool true))), (1, 3, (tm 50))])
 (ia 52 4 45 47
 (ops (.store 4 (tm 52) (tm 51))
 .nil)))))))))))
 .skip))))
 (.reg
 (op 53 (.bin .add (tm 28) (ci 1))
 (mv 28 53
 .nil)))))))))
 (sr
 (ldk 54 1 7
 (ops (.store 1 (tm 6) (tm 54))
 .nil))
 .ret))))))
noncomputable def F_prepare_View (a0 : Int) (a1 : TTrust) (a2 : (List TEnvelope)) : Option TConfig :=
 bif decide ((10 : Int) = (10 : Int)) && decide (0 ≤ (10 : Int)) && lenOk 64 (Int.toNat (10 : Int)) then
 Option.bind (bif (decide (a0 < (0 : Int))) then some true
 else
 some (decide ((10 : Int) ≤ a0))) fun b1 =>
 bif b1 then
 some (TConfig.mk (List.replicate (Int.toNat (10 : Int)) (TMember.mk false (TTrust.mk (0 : Int) ([] : List Int) ([] : List TTrust)))))
 else
 Option.bind (F_copies_Trust (TTrust.mk a1.Threshold a1.Nodes a1.Inner)) fun r2 =>
 Option.bind (idx (List.replicate (Int.toNat (10 : Int)) (TMember.mk false (TTrust.mk (0 : Int) ([] : List Int) ([] : List TTrust)))) a0) fun x3 =>
 Option.bind ((List.replicate (Int.toNat (10 : Int)) (TMember.mk false (TTrust.mk (0 : Int) ([] : List Int) ([] : List TTrust))))[(Int.toNat a0)]?) fun x4 =>
 loopO (fun (v5 : Int × TConfig × (List TMember) × Unit) =>
 bif (decide (v5.1 < ((List.length a2 : Nat) : Int))) then
 letJ (fun (v6 : TConfig × (List TMember) × Unit) =>
 some (Sum.inl ((addI .i64 v5.1 (1 : Int)), (TConfig.mk ([] : List TMember)), v6.2.1, ()))) fun j7 =>
 Option.bind (idx a2 v5.1) fun x8 =>
 Option.bind (F_envelopes_Valid (TEnvelope.mk x8.Node x8.Slot x8.Seq (TTrust.mk x8.Trust.Threshold x8.Trust.Nodes x8.Trust.Inner) x8.Kind x8.Ballot x8.Prepared x8.Prime x8.Low x8.High)) fun r9 =>
 Option.bind (bif r9 then
 Option.bind (idx v5.2.2.1 x8.Node) fun x10 =>
 Option.bind (v5.2.2.1[(Int.toNat x8.Node)]?) fun x11 =>
 Option.bind (v5.2.2.1[(Int.toNat x8.Node)]?) fun x12 =>
 some (!x12.Declared)
 else some false) fun b13 =>
 bif b13 then
 Option.bind (F_copies_Trust (TTrust.mk x8.Trust.Threshold x8.Trust.Nodes x8.Trust.Inner)) fun r14 =>
 Option.bind (idx v5.2.2.1 x8.Node) fun x15 =>
 Option.bind (v5.2.2.1[(Int.toNat x8.Node)]?) fun x16 =>
 j7 ((TConfig.mk ([] : List TMember)), (v5.2.2.1.set (Int.toNat x8.Node) (TMember.mk true (TTrust.mk r14.Threshold r14.Nodes r14.Inner))), ())
 else
 j7 ((TConfig.mk ([] : List TMember)), v5.2.2.1, ())
 else
 Option.map Sum.inr (some (TConfig.mk v5.2.2.1))) ((0 : Int), (TConfig.mk ([] : List TMember)), ((List.replicate (Int.toNat (10 : Int)) (TMember.mk false (TTrust.mk (0 : Int) ([] : List Int) ([] : List TTrust)))).set (Int.toNat a0) (TMember.mk true (TTrust.mk r2.Threshold r2.Nodes r2.Inner))), ())
 else none
noncomputable def k_prepare_View : KS U Tryz.prog := ⟨.fn 47 [.ty (Ty.i .i64), .ty (Ty.st .Trust), .ty (Ty.sl (Ty.st .Envelope))] (.one (Ty.st .Config)) fun a => F_prepare_View a.1 a.2.1 a.2.2.1, fnS (K := K) sa_prepare_View 55 [.cell 6 (some 1)] [k_copies_Trust, k_envelopes_Valid] (fk Tryz.f47 [] Tryz.func47)⟩

/-! ### trustquorum/envelopes.Rights -/
def sa_envelopes_Rights : SA U :=
 (sr
 (op 2 (.mov (.cst (.nils)))
 .nil)
 (sr
 (op 3 (.mov (.cst (.nils)))
 .nil)
 (.seq
 (sr
 (mv 6 0
 (op 7 (.len false (tm 6))
 (mc 8 0
 .nil)))
 (.block 0
 (.ps (.own 3 106 15 (Ty.st .Right))
 (.loop ⟨[.val 8 (Ty.i .i64), .own 3 5 1 106 15 (Ty.st .Right)], [6, 7]⟩
 (sr
 (op 9 (.bin .lss (tm 8) (tm 7))
 .nil)
 (.seq
 (.cond (tm 9)
 .skip
 (.exit 0))
 (.join ⟨[.own 3 5 1 106 15 (Ty.st .Right)], [6, 7, 8]⟩
 (.block 1
 (sr
 (ia 10 15 6 8
 (ldk 11 15 10
 (op 5 (.alloc [.int .i64 0, .int .i64 0, .int .i64 0, .int .i64 0, .nils, .nils, .int .i64 0, .int .i64 0, .str ⟨#[]⟩, .int .i64 0, .str ⟨#[]⟩, .int .i64 0, .str ⟨#[]⟩, .int .i64 0, .int .i64 0])
 (ops (.store 15 (tm 5) (tm 11))
 .nil))))
 (sr
 (ldk 12 15 5
 (cl 13 75 [12]
 .nil))
 (.cond (tm 13)
 (.reg
 (mv 14 3
 (ldk 15 15 5
 (op 16 (.build [.int .i64 0, .int .i64 0, .int .i64 0, .int .i64 0, .nils, .nils, .int .i64 0, .int .i64 0, .str ⟨#[]⟩, .int .i64 0, .str ⟨#[]⟩, .int .i64 0, .str ⟨#[]⟩, .int .i64 0, .int .i64 0] [(0, 15, (tm 15))])
 (op 17 (.bsl false 106 15 (List.replicate 1 [.int .i64 0, .int .i64 0, .int .i64 0, .int .i64 0, .nils, .nils, .int .i64 0, .int .i64 0, .str ⟨#[]⟩, .int .i64 0, .str ⟨#[]⟩, .int .i64 0, .str ⟨#[]⟩, .int .i64 0, .int .i64 0]) [(0, (tm 16))])
 (op 18 (.app 106 15 176 (tm 14) (tm 17))
 (mv 3 18
 .nil)))))))
 .skip))))
 (.reg
 (op 19 (.bin .add (tm 8) (ci 1))
 (mv 8 19
 .nil))))))))))
 (sr
 (mv 20 3
 (mv 2 20
 .nil))
 .ret))))
noncomputable def F_envelopes_Rights (a0 : (List TEnvelope)) : Option (List TRight) :=
 loopO (fun (v1 : Int × (List TRight) × Unit) =>
 bif (decide (v1.1 < ((List.length a0 : Nat) : Int))) then
 letJ (fun (v2 : (List TRight) × Unit) =>
 some (Sum.inl ((addI .i64 v1.1 (1 : Int)), v2.1, ()))) fun j3 =>
 Option.bind (idx a0 v1.1) fun x4 =>
 Option.bind (F_envelopes_Valid (TEnvelope.mk x4.Node x4.Slot x4.Seq (TTrust.mk x4.Trust.Threshold x4.Trust.Nodes x4.Trust.Inner) x4.Kind x4.Ballot x4.Prepared x4.Prime x4.Low x4.High)) fun r5 =>
 bif r5 then
 bif lenOk 176 (List.length v1.2.1 + List.length [(TRight.mk (TEnvelope.mk x4.Node x4.Slot x4.Seq (TTrust.mk x4.Trust.Threshold x4.Trust.Nodes x4.Trust.Inner) x4.Kind x4.Ballot x4.Prepared x4.Prime x4.Low x4.High))]) then
 j3 ((v1.2.1 ++ [(TRight.mk (TEnvelope.mk x4.Node x4.Slot x4.Seq (TTrust.mk x4.Trust.Threshold x4.Trust.Nodes x4.Trust.Inner) x4.Kind x4.Ballot x4.Prepared x4.Prime x4.Low x4.High))]), ())
 else none
 else
 j3 (v1.2.1, ())
 else
 Option.map Sum.inr (some v1.2.1)) ((0 : Int), ([] : List TRight), ())
noncomputable def k_envelopes_Rights : KS U Tryz.prog := ⟨.fn 159 [.ty (Ty.sl (Ty.st .Envelope))] (.one (Ty.sl (Ty.st .Right))) fun a => F_envelopes_Rights a.1, fnS (K := K) sa_envelopes_Rights 21 [.tmp 2] [k_envelopes_Valid] (fk Tryz.f159 [] Tryz.func159)⟩

/-! ### trustquorum/prepare.Look -/
def sa_prepare_Look : SA U :=
 (sr
 (op 4 (.box (tm 1))
 (op 6 (.alloc [.int .i64 0, .nils, .nils])
 .nil))
 (sr
 (mv 7 0
 (mv 8 0
 (ldk 9 3 4
 (mv 10 2
 (cl 11 47 [8, 9, 10]
 (mv 12 2
 (cl 13 159 [12]
 (op 14 (.build [.int .i64 0, .nils, .nils] [(0, 1, (tm 7)), (1, 1, (tm 11)), (2, 1, (tm 13))])
 (ops (.store 3 (tm 6) (tm 14))
 .nil)))))))))
 .ret))
noncomputable def F_prepare_Look (a0 : Int) (a1 : TTrust) (a2 : (List TEnvelope)) : Option TSeen :=
 Option.bind (F_prepare_View a0 (TTrust.mk a1.Threshold a1.Nodes a1.Inner) a2) fun r1 =>
 Option.bind (F_envelopes_Rights a2) fun r2 =>
 some (TSeen.mk a0 r1 r2)
noncomputable def k_prepare_Look : KS U Tryz.prog := ⟨.fn 97 [.ty (Ty.i .i64), .ty (Ty.st .Trust), .ty (Ty.sl (Ty.st .Envelope))] (.one (Ty.st .Seen)) fun a => F_prepare_Look a.1 a.2.1 a.2.2.1, fnS (K := K) sa_prepare_Look 15 [.cell 6 (some 3)] [k_prepare_View, k_envelopes_Rights] (fk Tryz.f97 [] Tryz.func97)⟩

/-! ### trustquorum/configuration.Declared -/
def sa_configuration_Declared : SA U :=
 (sr
 (op 1 (.box (tm 0))
 (mc 2 0
 .nil))
 (sr
 (mc 3 0
 .nil)
 (.seq
 (sr
 (fa 6 0 1
 (ld 7 6
 (op 8 (.len false (tm 7))
 (mc 9 0
 .nil))))
 (.block 0
 (.loop ⟨[.val 3 (Ty.i .i64), .val 9 (Ty.i .i64)], [7, 8]⟩
 (sr
 (op 10 (.bin .lss (tm 9) (tm 8))
 .nil)
 (.seq
 (.cond (tm 10)
 .skip
 (.exit 0))
 (.join ⟨[.val 3 (Ty.i .i64)], [7, 8, 9]⟩
 (.block 1
 (sr
 (mv 11 9
 (ia 12 4 7 9
 (ldk 13 4 12
 (op 5 (.alloc [.bool false, .int .i64 0, .nils, .nils])
 (mv 4 11
 (ops (.store 4 (tm 5) (tm 13))
 .nil))))))
 (sr
 (fa 14 0 5
 (ld 15 14
 (mv 16 15
 (.ite 16 true
 (opg 17 16 true (.mov (tm 4))
 (opg 18 16 true (.bin .lss (tm 17) (ci 10))
 .nil))
 19 none (tm 18) (.cst (.bool false))
 .nil))))
 (.cond (tm 19)
 (.reg
 (mv 20 3
 (mv 21 4
 (op 22 (.bin .shl (ci 1) (tm 21))
 (op 23 (.bin .or (tm 20) (tm 22))
 (mv 3 23
 .nil))))))
 .skip))))
 (.reg
 (op 24 (.bin .add (tm 9) (ci 1))
 (mv 9 24
 .nil)))))))))
 (sr
 (mv 25 3
 (mv 2 25
 .nil))
 .ret))))
noncomputable def F_configuration_Declared (a0 : TConfig) : Option Int :=
 loopO (fun (v1 : Int × Int × Unit) =>
 bif (decide (v1.2.1 < ((List.length a0.Members : Nat) : Int))) then
 letJ (fun (v2 : Int × Unit) =>
 some (Sum.inl (v2.1, (addI .i64 v1.2.1 (1 : Int)), ()))) fun j3 =>
 Option.bind (idx a0.Members v1.2.1) fun x4 =>
 Option.bind (bif x4.Declared then
 some (decide (v1.2.1 < (10 : Int)))
 else some false) fun b5 =>
 bif b5 then
 if v1.2.1 < 0 then none else
 j3 ((orI .i64 v1.1 (shlI .i64 (1 : Int) v1.2.1)), ())
 else
 j3 (v1.1, ())
 else
 Option.map Sum.inr (some v1.1)) ((0 : Int), (0 : Int), ())
noncomputable def k_configuration_Declared : KS U Tryz.prog := ⟨.fn 244 [.ty (Ty.st .Config)] (.one (Ty.i .i64)) fun a => F_configuration_Declared a.1, fnS (K := K) sa_configuration_Declared 26 [.tmp 2] [] (fk Tryz.f244 [] Tryz.func244)⟩

/-! ### trustquorum/threshold.Satisfied -/
def sa_threshold_Satisfied : SA U :=
 (sr
 (op 2 (.box (tm 0))
 (op 4 (.mov (.cst (.bool false)))
 .nil))
 (.seq
 (sr
 (mv 10 1
 (cl 11 226 [10]
 (op 12 (.not (tm 11))
 .nil)))
 (.cond (tm 12)
 (sr
 (op 4 (.mov (.cst (.bool false)))
 .nil)
 .ret)
 .skip))
 (sr
 (mc 5 0
 .nil)
 (.seq
 (sr
 (fa 13 1 2
 (ld 14 13
 (op 15 (.len false (tm 14))
 (mc 16 0
 .nil))))
 (.block 0
 (.loop ⟨[.val 5 (Ty.i .i64), .val 16 (Ty.i .i64)], [1, 2, 14, 15]⟩
 (sr
 (op 17 (.bin .lss (tm 16) (tm 15))
 .nil)
 (.seq
 (.cond (tm 17)
 .skip
 (.exit 0))
 (.join ⟨[.val 5 (Ty.i .i64)], [1, 2, 14, 15, 16]⟩
 (.block 1
 (sr
 (ia 18 1 14 16
 (ld 19 18
 (mv 7 19
 .nil)))
 (sr
 (mv 20 1
 (mv 21 7
 (cl 22 188 [20, 21]
 .nil)))
 (.cond (tm 22)
 (.reg
 (mv 23 5
 (op 24 (.bin .add (tm 23) (ci 1))
 (mv 5 24
 .nil))))
 .skip))))
 (.reg
 (op 25 (.bin .add (tm 16) (ci 1))
 (mv 16 25
 .nil)))))))))
 (.seq
 (sr
 (fa 26 2 2
 (ld 27 26
 (op 28 (.len false (tm 27))
 (mc 29 0
 .nil))))
 (.block 2
 (.loop ⟨[.val 5 (Ty.i .i64), .val 29 (Ty.i .i64)], [1, 2, 27, 28]⟩
 (sr
 (op 30 (.bin .lss (tm 29) (tm 28))
 .nil)
 (.seq
 (.cond (tm 30)
 .skip
 (.exit 2))
 (.join ⟨[.val 5 (Ty.i .i64)], [1, 2, 27, 28, 29]⟩
 (.block 3
 (sr
 (ia 31 3 27 29
 (ldk 32 3 31
 (op 9 (.alloc [.int .i64 0, .nils, .nils])
 (ops (.store 3 (tm 9) (tm 32))
 .nil))))
 (sr
 (ldk 33 3 9
 (mv 34 1
 (cl 35 245 [33, 34]
 .nil)))
 (.cond (tm 35)
 (.reg
 (mv 36 5
 (op 37 (.bin .add (tm 36) (ci 1))
 (mv 5 37
 .nil))))
 .skip))))
 (.reg
 (op 38 (.bin .add (tm 29) (ci 1))
 (mv 29 38
 .nil)))))))))
 (sr
 (mv 39 5
 (fa 40 0 2
 (ld 41 40
 (op 42 (.bin .geq (tm 39) (tm 41))
 (mv 4 42
 .nil)))))
 .ret))))))
noncomputable def B_threshold_Satisfied (rec : (TTrust × Int × Unit) → Option Bool) (a0 : TTrust) (a1 : Int) : Option Bool :=
 Option.bind (F_nodeset_Valid a1) fun r1 =>
 bif (!r1) then
 some false
 else
 loopO (fun (v2 : Int × Int × Unit) =>
 bif (decide (v2.2.1 < ((List.length a0.Nodes : Nat) : Int))) then
 letJ (fun (v3 : Int × Unit) =>
 some (Sum.inl (v3.1, (addI .i64 v2.2.1 (1 : Int)), ()))) fun j4 =>
 Option.bind (idx a0.Nodes v2.2.1) fun x5 =>
 Option.bind (F_nodeset_Has a1 x5) fun r6 =>
 bif r6 then
 j4 ((addI .i64 v2.1 (1 : Int)), ())
 else
 j4 (v2.1, ())
 else
 Option.map Sum.inr (loopO (fun (v7 : Int × Int × Unit) =>
 bif (decide (v7.2.1 < ((List.length a0.Inner : Nat) : Int))) then
 letJ (fun (v8 : Int × Unit) =>
 some (Sum.inl (v8.1, (addI .i64 v7.2.1 (1 : Int)), ()))) fun j9 =>
 Option.bind (idx a0.Inner v7.2.1) fun x10 =>
 Option.bind (rec ((TTrust.mk x10.Threshold x10.Nodes x10.Inner), a1, ())) fun r11 =>
 bif r11 then
 j9 ((addI .i64 v7.1 (1 : Int)), ())
 else
 j9 (v7.1, ())
 else
 Option.map Sum.inr (some (decide (a0.Threshold ≤ v7.1)))) (v2.1, (0 : Int), ()))) ((0 : Int), (0 : Int), ())
noncomputable def I_threshold_Satisfied : Nat → (TTrust × Int × Unit) → Option Bool := iterF (fun rec a => B_threshold_Satisfied rec a.1 a.2.1)
noncomputable def F_threshold_Satisfied (a0 : TTrust) (a1 : Int) : Option Bool := I_threshold_Satisfied (SizeOf.sizeOf a0 + SizeOf.sizeOf a1 + 1) (a0, a1, ())
noncomputable def k_threshold_Satisfied : KS U Tryz.prog := ⟨.fn 245 [.ty (Ty.st .Trust), .ty (Ty.i .i64)] (.one Ty.bool) fun a => F_threshold_Satisfied a.1 a.2.1, fnRS (K := K) («as» := [.ty (Ty.st .Trust), .ty (Ty.i .i64)]) (r := .one Ty.bool) (B := fun rec a => B_threshold_Satisfied rec a.1 a.2.1) sa_threshold_Satisfied 43 [.tmp 4] [k_nodeset_Valid, k_nodeset_Has] (fk Tryz.f245 [] Tryz.func245) (hF := fun a => ⟨_, rfl⟩)⟩

/-! ### trustquorum/blocking.Blocks -/
def sa_blocking_Blocks : SA U :=
 (sr
 (op 3 (.box (tm 0))
 (op 6 (.mov (.cst (.bool false)))
 .nil))
 (.seq
 (sr
 (mv 7 2
 (cl 8 226 [7]
 (op 9 (.not (tm 8))
 (mv 10 9
 (.ite 10 false
 (opg 11 10 false (.load (some 1) (tm 3))
 (opg 12 10 false (.call 244 [(tm 11)])
 (opg 13 10 false (.mov (tm 1))
 (opg 14 10 false (.call 188 [(tm 12), (tm 13)])
 (opg 15 10 false (.not (tm 14))
 .nil)))))
 16 none (.cst (.bool true)) (tm 15)
 .nil)))))
 (.cond (tm 16)
 (sr
 (op 6 (.mov (.cst (.bool false)))
 .nil)
 .ret)
 .skip))
 (.seq
 (.drw []
 (fa 17 0 3
 (ld 18 17
 (mv 19 1
 (ia 20 4 18 19
 (fa 21 1 20
 (ldk 22 3 21
 (mv 23 2
 (op 24 (.bin .andNot (ci 1023) (tm 23))
 (mv 25 1
 (op 26 (.bin .shl (ci 1) (tm 25))
 (op 27 (.bin .or (tm 24) (tm 26))
 (cl 28 245 [22, 27]
 (op 29 (.not (tm 28))
 (mv 6 29
 .nil)))))))))))))))
 .ret)))
noncomputable def F_blocking_Blocks (a0 : TConfig) (a1 : Int) (a2 : Int) : Option Bool :=
 Option.bind (F_nodeset_Valid a2) fun r1 =>
 Option.bind (bif (!r1) then some true
 else
 Option.bind (F_configuration_Declared a0) fun r2 =>
 Option.bind (F_nodeset_Has r2 a1) fun r3 =>
 some (!r3)) fun b4 =>
 bif b4 then
 some false
 else
 Option.bind (idx a0.Members a1) fun x5 =>
 if a1 < 0 then none else
 Option.bind (F_threshold_Satisfied (TTrust.mk x5.Trust.Threshold x5.Trust.Nodes x5.Trust.Inner) (orI .i64 (andNotI .i64 (1023 : Int) a2) (shlI .i64 (1 : Int) a1))) fun r6 =>
 some (!r6)
noncomputable def k_blocking_Blocks : KS U Tryz.prog := ⟨.fn 227 [.ty (Ty.st .Config), .ty (Ty.i .i64), .ty (Ty.i .i64)] (.one Ty.bool) fun a => F_blocking_Blocks a.1 a.2.1 a.2.2.1, fnS (K := K) sa_blocking_Blocks 30 [.tmp 6] [k_nodeset_Valid, k_configuration_Declared, k_nodeset_Has, k_threshold_Satisfied] (fk Tryz.f227 [] Tryz.func227)⟩

/-! ### trustquorum/nodeset.Nodes -/
def sa_nodeset_Nodes : SA U :=
 (sr
 (op 2 (.mov (.cst (.nils)))
 .nil)
 (sr
 (op 3 (.mov (.cst (.nils)))
 .nil)
 (.seq
 (sr
 (mc 5 0
 .nil)
 (.block 0
 (.ps (.own 3 3 1 (Ty.i .i64))
 (.loop ⟨[.val 5 (Ty.i .i64), .own 3 3 1 3 1 (Ty.i .i64)], [0]⟩
 (sr
 (op 6 (.bin .lss (tm 5) (ci 10))
 .nil)
 (.seq
 (.cond (tm 6)
 .skip
 (.exit 0))
 (.join ⟨[.own 3 3 1 3 1 (Ty.i .i64)], [0, 5]⟩
 (.block 1
 (sr
 (mv 7 5
 (mv 4 7
 .nil))
 (sr
 (mv 8 0
 (mv 9 4
 (cl 10 188 [8, 9]
 .nil)))
 (.cond (tm 10)
 (.reg
 (mv 11 3
 (mv 12 4
 (op 13 (.bsl false 3 1 (List.replicate 1 [.int .i64 0]) [(0, (tm 12))])
 (op 14 (.app 3 1 8 (tm 11) (tm 13))
 (mv 3 14
 .nil))))))
 .skip))))
 (.reg
 (op 15 (.bin .add (tm 5) (ci 1))
 (mv 5 15
 .nil))))))))))
 (sr
 (mv 16 3
 (mv 2 16
 .nil))
 .ret))))
noncomputable def F_nodeset_Nodes (a0 : Int) : Option (List Int) :=
 loopO (fun (v1 : Int × (List Int) × Unit) =>
 bif (decide (v1.1 < (10 : Int))) then
 letJ (fun (v2 : (List Int) × Unit) =>
 some (Sum.inl ((addI .i64 v1.1 (1 : Int)), v2.1, ()))) fun j3 =>
 Option.bind (F_nodeset_Has a0 v1.1) fun r4 =>
 bif r4 then
 bif lenOk 8 (List.length v1.2.1 + List.length [v1.1]) then
 j3 ((v1.2.1 ++ [v1.1]), ())
 else none
 else
 j3 (v1.2.1, ())
 else
 Option.map Sum.inr (some v1.2.1)) ((0 : Int), ([] : List Int), ())
noncomputable def k_nodeset_Nodes : KS U Tryz.prog := ⟨.fn 250 [.ty (Ty.i .i64)] (.one (Ty.sl (Ty.i .i64))) fun a => F_nodeset_Nodes a.1, fnS (K := K) sa_nodeset_Nodes 17 [.tmp 2] [k_nodeset_Has] (fk Tryz.f250 [] Tryz.func250)⟩

/-! ### trustquorum/closure.content -/
def sa_closure_content : SA U :=
 (sr
 (op 3 (.box (tm 0))
 (op 6 (.mov (.cst (.bool false)))
 .nil))
 (sr
 (fa 7 0 3
 (ld 8 7
 (mv 9 1
 (ia 10 4 8 9
 (fa 11 1 10
 (ldk 12 3 11
 (mv 13 2
 (cl 14 245 [12, 13]
 (mv 6 14
 .nil)))))))))
 .ret))
noncomputable def F_closure_content (a0 : TConfig) (a1 : Int) (a2 : Int) : Option Bool :=
 Option.bind (idx a0.Members a1) fun x1 =>
 Option.bind (F_threshold_Satisfied (TTrust.mk x1.Trust.Threshold x1.Trust.Nodes x1.Trust.Inner) a2) fun r2 =>
 some r2
noncomputable def k_closure_content : KS U Tryz.prog := ⟨.fn 251 [.ty (Ty.st .Config), .ty (Ty.i .i64), .ty (Ty.i .i64)] (.one Ty.bool) fun a => F_closure_content a.1 a.2.1 a.2.2.1, fnS (K := K) sa_closure_content 15 [.tmp 6] [k_threshold_Satisfied] (fk Tryz.f251 [] Tryz.func251)⟩

/-! ### trustquorum/closure.unhappy -/
def sa_closure_unhappy : SA U :=
 (sr
 (op 2 (.box (tm 0))
 (mc 4 0
 (op 5 (.mov (.cst (.bool false)))
 .nil)))
 (.seq
 (sr
 (mv 8 1
 (cl 9 250 [8]
 (op 10 (.len false (tm 9))
 (mc 11 0
 .nil))))
 (.block 0
 (.loop ⟨[.val 11 (Ty.i .i64)], [1, 2, 9, 10]⟩
 (sr
 (op 12 (.bin .lss (tm 11) (tm 10))
 .nil)
 (.seq
 (.cond (tm 12)
 .skip
 (.exit 0))
 (.seq
 (.block 1
 (sr
 (ia 13 1 9 11
 (ld 14 13
 (mv 7 14
 .nil)))
 (sr
 (ldk 15 1 2
 (mv 16 7
 (mv 17 1
 (cl 18 251 [15, 16, 17]
 (op 19 (.not (tm 18))
 .nil)))))
 (.cond (tm 19)
 (sr
 (mv 20 7
 (mv 4 20
 (op 5 (.mov (.cst (.bool true)))
 .nil)))
 .ret)
 .skip))))
 (.reg
 (op 21 (.bin .add (tm 11) (ci 1))
 (mv 11 21
 .nil)))))))))
 (sr
 (mc 4 0
 (op 5 (.mov (.cst (.bool false)))
 .nil))
 .ret)))
noncomputable def F_closure_unhappy (a0 : TConfig) (a1 : Int) : Option (Int × Bool × Unit) :=
 Option.bind (F_nodeset_Nodes a1) fun r1 =>
 loopO (fun (v2 : Int × Unit) =>
 bif (decide (v2.1 < ((List.length r1 : Nat) : Int))) then
 Option.bind (idx r1 v2.1) fun x3 =>
 Option.bind (F_closure_content a0 x3 a1) fun r4 =>
 bif (!r4) then
 Option.map Sum.inr (some (x3, true, ()))
 else
 some (Sum.inl ((addI .i64 v2.1 (1 : Int)), ()))
 else
 Option.map Sum.inr (some ((0 : Int), false, ()))) ((0 : Int), ())
noncomputable def k_closure_unhappy : KS U Tryz.prog := ⟨.fn 246 [.ty (Ty.st .Config), .ty (Ty.i .i64)] (.many [(Ty.i .i64), Ty.bool]) fun a => F_closure_unhappy a.1 a.2.1, fnS (K := K) sa_closure_unhappy 22 [.tmp 4, .tmp 5] [k_nodeset_Nodes, k_closure_content] (fk Tryz.f246 [] Tryz.func246)⟩

/-! ### trustquorum/closure.eliminate -/
def sa_closure_eliminate : SA U :=
 (sr
 (op 2 (.box (tm 0))
 (mc 4 0
 (op 5 (.mov (.cst (.nils)))
 .nil)))
 (.seq
 (sr
 (mv 9 1
 (cl 10 226 [9]
 (op 11 (.not (tm 10))
 .nil)))
 (.cond (tm 11)
 (sr
 (mc 4 0
 (op 5 (.mov (.cst (.nils)))
 .nil))
 .ret)
 .skip))
 (sr
 (op 6 (.mov (.cst (.nils)))
 .nil)
 (sr
 (mv 12 1
 (ldk 13 1 2
 (cl 14 244 [13]
 (op 15 (.bin .and (tm 12) (tm 14))
 (mv 1 15
 .nil)))))
 (.block 0
 (.ps (.own 6 3 1 (Ty.i .i64))
 (.loop ⟨[.val 1 (Ty.i .i64), .own 6 12 1 3 1 (Ty.i .i64)], [2]⟩
 (.block 1
 (sr
 (ldk 17 1 2
 (mv 18 1
 (cl 19 246 [17, 18]
 (mv 16 19
 (op 20 (.extr 0 (tm 16))
 (op 21 (.extr 1 (tm 16))
 (mv 7 20
 (mv 8 21
 .nil))))))))
 (.seq
 (sr
 (mv 22 8
 (op 23 (.not (tm 22))
 .nil))
 (.cond (tm 23)
 (sr
 (mv 24 1
 (mv 25 6
 (mv 4 24
 (mv 5 25
 .nil))))
 .ret)
 .skip))
 (sr
 (mv 26 6
 (mv 27 7
 (op 28 (.bsl false 3 1 (List.replicate 1 [.int .i64 0]) [(0, (tm 27))])
 (op 29 (.app 3 1 8 (tm 26) (tm 28))
 (mv 6 29
 .nil)))))
 (.reg
 (mv 30 1
 (mv 31 7
 (op 32 (.bin .shl (ci 1) (tm 31))
 (op 33 (.bin .andNot (tm 30) (tm 32))
 (mv 1 33
 .nil)))))))))))))))))
noncomputable def F_closure_eliminate (a0 : TConfig) (a1 : Int) : Option (Int × (List Int) × Unit) :=
 Option.bind (F_nodeset_Valid a1) fun r1 =>
 bif (!r1) then
 some ((0 : Int), ([] : List Int), ())
 else
 Option.bind (F_configuration_Declared a0) fun r2 =>
 loopO (fun (v3 : Int × (List Int) × Unit) =>
 Option.bind (F_closure_unhappy a0 v3.1) fun r4 =>
 bif (!r4.2.1) then
 Option.map Sum.inr (some (v3.1, v3.2.1, ()))
 else
 bif lenOk 8 (List.length v3.2.1 + List.length [r4.1]) then
 if r4.1 < 0 then none else
 some (Sum.inl ((andNotI .i64 v3.1 (shlI .i64 (1 : Int) r4.1)), (v3.2.1 ++ [r4.1]), ()))
 else none) ((andI .i64 a1 r2), ([] : List Int), ())
noncomputable def k_closure_eliminate : KS U Tryz.prog := ⟨.fn 228 [.ty (Ty.st .Config), .ty (Ty.i .i64)] (.many [(Ty.i .i64), (Ty.sl (Ty.i .i64))]) fun a => F_closure_eliminate a.1 a.2.1, fnS (K := K) sa_closure_eliminate 34 [.tmp 4, .tmp 5] [k_nodeset_Valid, k_configuration_Declared, k_closure_unhappy] (fk Tryz.f228 [] Tryz.func228)⟩

/-! ### trustquorum/closure.Greatest -/
def sa_closure_Greatest : SA U :=
 (sr
 (op 2 (.box (tm 0))
 (mc 4 0
 .nil))
 (sr
 (ldk 8 1 2
 (mv 9 1
 (cl 10 228 [8, 9]
 (mv 7 10
 (op 11 (.extr 0 (tm 7))
 (op 12 (.extr 1 (tm 7))
 (mv 5 11
 (mv 6 12
 .nil))))))))
 (sr
 (mv 13 5
 (mv 4 13
 .nil))
 .ret)))
noncomputable def F_closure_Greatest (a0 : TConfig) (a1 : Int) : Option Int :=
 Option.bind (F_closure_eliminate a0 a1) fun r1 =>
 some r1.1
noncomputable def k_closure_Greatest : KS U Tryz.prog := ⟨.fn 189 [.ty (Ty.st .Config), .ty (Ty.i .i64)] (.one (Ty.i .i64)) fun a => F_closure_Greatest a.1 a.2.1, fnS (K := K) sa_closure_Greatest 14 [.tmp 4] [k_closure_eliminate] (fk Tryz.f189 [] Tryz.func189)⟩

/-! ### trustquorum/federated.Accepts -/
def sa_federated_Accepts : SA U :=
 (sr
 (op 4 (.box (tm 0))
 (op 8 (.mov (.cst (.bool false)))
 .nil))
 (.seq
 (sr
 (mv 9 2
 (cl 10 226 [9]
 (op 11 (.not (tm 10))
 (mv 12 11
 (.ite 12 false
 (opg 13 12 false (.mov (tm 3))
 (opg 14 12 false (.call 226 [(tm 13)])
 (opg 15 12 false (.not (tm 14))
 .nil)))
 16 none (.cst (.bool true)) (tm 15)
 .nil)))))
 (.cond (tm 16)
 (sr
 (op 8 (.mov (.cst (.bool false)))
 .nil)
 .ret)
 .skip))
 (sr
 (ldk 17 1 4
 (mv 18 1
 (mv 19 3
 (cl 20 227 [17, 18, 19]
 (mv 21 20
 (.ite 21 false
 (opg 22 21 false (.load (some 1) (tm 4))
 (opg 23 21 false (.mov (tm 2))
 (opg 24 21 false (.mov (tm 3))
 (opg 25 21 false (.bin .or (tm 23) (tm 24))
 (opg 26 21 false (.call 189 [(tm 22), (tm 25)])
 (opg 27 21 false (.mov (tm 1))
 (opg 28 21 false (.call 188 [(tm 26), (tm 27)])
 .nil)))))))
 29 none (.cst (.bool true)) (tm 28)
 (mv 8 29
 .nil)))))))
 .ret)))
noncomputable def F_federated_Accepts (a0 : TConfig) (a1 : Int) (a2 : Int) (a3 : Int) : Option Bool :=
 Option.bind (F_nodeset_Valid a2) fun r1 =>
 Option.bind (bif (!r1) then some true
 else
 Option.bind (F_nodeset_Valid a3) fun r2 =>
 some (!r2)) fun b3 =>
 bif b3 then
 some false
 else
 Option.bind (F_blocking_Blocks a0 a1 a3) fun r4 =>
 Option.bind (bif r4 then some true
 else
 Option.bind (F_closure_Greatest a0 (orI .i64 a2 a3)) fun r5 =>
 Option.bind (F_nodeset_Has r5 a1) fun r6 =>
 some r6) fun b7 =>
 some b7
noncomputable def k_federated_Accepts : KS U Tryz.prog := ⟨.fn 186 [.ty (Ty.st .Config), .ty (Ty.i .i64), .ty (Ty.i .i64), .ty (Ty.i .i64)] (.one Ty.bool) fun a => F_federated_Accepts a.1 a.2.1 a.2.2.1 a.2.2.2.1, fnS (K := K) sa_federated_Accepts 30 [.tmp 8] [k_nodeset_Valid, k_blocking_Blocks, k_closure_Greatest, k_nodeset_Has] (fk Tryz.f186 [] Tryz.func186)⟩

/-! ### trustquorum/federated.Confirms -/
def sa_federated_Confirms : SA U :=
 (sr
 (op 3 (.box (tm 0))
 (op 6 (.mov (.cst (.bool false)))
 .nil))
 (sr
 (ldk 7 1 3
 (mv 8 2
 (cl 9 189 [7, 8]
 (mv 10 1
 (cl 11 188 [9, 10]
 (mv 6 11
 .nil))))))
 .ret))
noncomputable def F_federated_Confirms (a0 : TConfig) (a1 : Int) (a2 : Int) : Option Bool :=
 Option.bind (F_closure_Greatest a0 a2) fun r1 =>
 Option.bind (F_nodeset_Has r1 a1) fun r2 =>
 some r2
noncomputable def k_federated_Confirms : KS U Tryz.prog := ⟨.fn 162 [.ty (Ty.st .Config), .ty (Ty.i .i64), .ty (Ty.i .i64)] (.one Ty.bool) fun a => F_federated_Confirms a.1 a.2.1 a.2.2.1, fnS (K := K) sa_federated_Confirms 12 [.tmp 6] [k_closure_Greatest, k_nodeset_Has] (fk Tryz.f162 [] Tryz.func162)⟩

/-! ### trustquorum/trustquorumref24.AcceptsPrepare -/
def sa_ref24_AcceptsPrepare : SA U :=
 (sr
 (op 2 (.box (tm 0))
 (op 3 (.box (tm 1))
 (op 4 (.mov (.cst (.bool false)))
 .nil)))
 (.seq
 (sr
 (ldk 5 15 2
 (cl 6 76 [5]
 (op 7 (.not (tm 6))
 (mv 8 7
 (.ite 8 false
 (opg 9 8 false (.load (some 2) (tm 3))
 (opg 10 8 false (.call 39 [(tm 9)])
 .nil))
 11 none (.cst (.bool true)) (tm 10)
 .nil)))))
 (.cond (tm 11)
 (sr
 (op 4 (.mov (.cst (.bool false)))
 .nil)
 .ret)
 .skip))
 (.seq
 (sr
 (fa 12 6 2
 (ld 13 12
 (op 14 (.bin .eql (tm 13) (ci 3))
 .nil)))
 (.cond (tm 14)
 (sr
 (fa 15 7 2
 (ldk 16 2 15
 (ldk 17 2 3
 (cl 18 106 [16, 17]
 (mv 4 18
 .nil)))))
 .ret)
 .skip))
 (sr
 (fa 19 9 2
 (ldk 20 2 19
 (fa 21 11 2
 (ldk 22 2 21
 (ldk 23 2 3
 (cl 24 40 [20, 22, 23]
 (mv 4 24
 .nil)))))))
 .ret))))
noncomputable def F_ref24_AcceptsPrepare (a0 : TEnvelope) (a1 : TBallot) : Option Bool :=
 Option.bind (F_ref24_Valid (TEnvelope.mk a0.Node a0.Slot a0.Seq (TTrust.mk a0.Trust.Threshold a0.Trust.Nodes a0.Trust.Inner) a0.Kind a0.Ballot a0.Prepared a0.Prime a0.Low a0.High)) fun r1 =>
 Option.bind (bif (!r1) then some true
 else
 Option.bind (F_ref23_Zero a1) fun r2 =>
 some r2) fun b3 =>
 bif b3 then
 some false
 else
 bif (decide (a0.Kind = (3 : Int))) then
 Option.bind (F_ref23_Compatible a0.Ballot a1) fun r4 =>
 some r4
 else
 Option.bind (F_ref23_Prepares a0.Prepared a0.Prime a1) fun r5 =>
 some r5
noncomputable def k_ref24_AcceptsPrepare : KS U Tryz.prog := ⟨.fn 34 [.ty (Ty.st .Envelope), .ty (Ty.st .Ballot)] (.one Ty.bool) fun a => F_ref24_AcceptsPrepare a.1 a.2.1, fnS (K := K) sa_ref24_AcceptsPrepare 25 [.tmp 4] [k_ref24_Valid, k_ref23_Zero, k_ref23_Compatible, k_ref23_Prepares] (fk Tryz.f34 [] Tryz.func34)⟩

/-! ### trustquorum/prepare.accepts -/
def sa_prepare_accepts : SA U :=
 (sr
 (op 1 (.box (tm 0))
 (op 2 (.mov (.cst (.any)))
 .nil))
 (sr
 (op 3 (.mkf 164 [(tm 1)])
 (mv 2 3
 .nil))
 .ret))
noncomputable def F_prepare_accepts (a0 : TBallot) : Option (TBallot × Unit) :=
 some (a0, ())
noncomputable def k_prepare_accepts : KS U Tryz.prog := ⟨.fn 109 [.ty (Ty.st .Ballot)] (.fn (.clo 164 [.ref (.ty (Ty.st .Ballot))])) fun a => F_prepare_accepts a.1, fnS (K := K) sa_prepare_accepts 4 [.tmp 2] [] (fk Tryz.f109 [] Tryz.func109)⟩

/-! ### (trustquorum/prepare.Seen).ready$1 -/
def sa_prepare_Seen_ready_1 : SA U :=
 (sr
 (op 2 (.box (tm 0))
 (op 3 (.mov (.cst (.bool false)))
 .nil))
 (sr
 (ldk 4 15 2
 (ldk 5 2 1
 (cl 6 90 [4, 5]
 (mv 3 6
 .nil))))
 .ret))
noncomputable def F_prepare_Seen_ready_1 (a0 : TRight) (a1 : TBallot) : Option Bool :=
 Option.bind (F_envelopes_Right_VotesPrepare (TRight.mk (TEnvelope.mk a0.Envelope.Node a0.Envelope.Slot a0.Envelope.Seq (TTrust.mk a0.Envelope.Trust.Threshold a0.Envelope.Trust.Nodes a0.Envelope.Trust.Inner) a0.Envelope.Kind a0.Envelope.Ballot a0.Envelope.Prepared a0.Envelope.Prime a0.Envelope.Low a0.Envelope.High)) a1) fun r1 =>
 some r1
noncomputable def k_prepare_Seen_ready_1 : KS U Tryz.prog := ⟨.fn 161 [.ty (Ty.st .Right), .ref (.ty (Ty.st .Ballot))] (.one Ty.bool) fun a => F_prepare_Seen_ready_1 a.1 a.2.1, fnS (K := K) sa_prepare_Seen_ready_1 7 [.tmp 3] [k_envelopes_Right_VotesPrepare] (fk Tryz.f161 [] Tryz.func161)⟩

/-! ### trustquorum/prepare.accepts$1 -/
def sa_prepare_accepts_1 : SA U :=
 (sr
 (op 2 (.box (tm 0))
 (op 3 (.mov (.cst (.bool false)))
 .nil))
 (sr
 (ldk 4 15 2
 (ldk 5 2 1
 (cl 6 91 [4, 5]
 (mv 3 6
 .nil))))
 .ret))
noncomputable def F_prepare_accepts_1 (a0 : TRight) (a1 : TBallot) : Option Bool :=
 Option.bind (F_envelopes_Right_AcceptsPrepare (TRight.mk (TEnvelope.mk a0.Envelope.Node a0.Envelope.Slot a0.Envelope.Seq (TTrust.mk a0.Envelope.Trust.Threshold a0.Envelope.Trust.Nodes a0.Envelope.Trust.Inner) a0.Envelope.Kind a0.Envelope.Ballot a0.Envelope.Prepared a0.Envelope.Prime a0.Envelope.Low a0.Envelope.High)) a1) fun r1 =>
 some r1
noncomputable def k_prepare_accepts_1 : KS U Tryz.prog := ⟨.fn 164 [.ty (Ty.st .Right), .ref (.ty (Ty.st .Ballot))] (.one Ty.bool) fun a => F_prepare_accepts_1 a.1 a.2.1, fnS (K := K) sa_prepare_accepts_1 7 [.tmp 3] [k_envelopes_Right_AcceptsPrepare] (fk Tryz.f164 [] Tryz.func164)⟩

/-! ### (trustquorum/prepare.Seen).Accepts$1 -/
def sa_prepare_Seen_Accepts_1_c161_c164 : SA U :=
 (sr
 (op 3 (.box (tm 0))
 (op 4 (.mov (.cst (.bool false)))
 .nil))
 (sr
 (ld 5 1
 (ldk 6 15 3
 (op 7 (.callv (tm 5) [(tm 6)])
 (mv 8 7
 (.ite 8 false
 (opg 9 8 false (.load none (tm 2))
 (opg 10 8 false (.load (some 15) (tm 3))
 (opg 11 8 false (.callv (tm 9) [(tm 10)])
 .nil)))
 12 none (.cst (.bool true)) (tm 11)
 (mv 4 12
 .nil))))))
 .ret))
noncomputable def F_prepare_Seen_Accepts_1_c161_c164 (a0 : TRight) (a1 : TBallot) (a2 : TBallot) : Option Bool :=
 Option.bind (F_prepare_Seen_ready_1 (TRight.mk (TEnvelope.mk a0.Envelope.Node a0.Envelope.Slot a0.Envelope.Seq (TTrust.mk a0.Envelope.Trust.Threshold a0.Envelope.Trust.Nodes a0.Envelope.Trust.Inner) a0.Envelope.Kind a0.Envelope.Ballot a0.Envelope.Prepared a0.Envelope.Prime a0.Envelope.Low a0.Envelope.High)) a1) fun r1 =>
 Option.bind (bif r1 then some true
 else
 Option.bind (F_prepare_accepts_1 (TRight.mk (TEnvelope.mk a0.Envelope.Node a0.Envelope.Slot a0.Envelope.Seq (TTrust.mk a0.Envelope.Trust.Threshold a0.Envelope.Trust.Nodes a0.Envelope.Trust.Inner) a0.Envelope.Kind a0.Envelope.Ballot a0.Envelope.Prepared a0.Envelope.Prime a0.Envelope.Low a0.Envelope.High)) a2) fun r2 =>
 some r2) fun b3 =>
 some b3
noncomputable def k_prepare_Seen_Accepts_1_c161_c164 : KS U Tryz.prog := ⟨.fn 185 [.ty (Ty.st .Right), .ref (.clo 161 [.ref (.ty (Ty.st .Ballot))]), .ref (.clo 164 [.ref (.ty (Ty.st .Ballot))])] (.one Ty.bool) fun a => F_prepare_Seen_Accepts_1_c161_c164 a.1 a.2.1.1 a.2.2.1.1, fnS (K := K) sa_prepare_Seen_Accepts_1_c161_c164 13 [.tmp 4] [k_prepare_Seen_ready_1, k_prepare_accepts_1] (fk Tryz.f185 [] Tryz.func185)⟩

/-! ### (trustquorum/prepare.Seen).Who -/
def sa_prepare_Seen_Who_c185_c161_c164 : SA U :=
 (sr
 (op 2 (.box (tm 0))
 (mc 4 0
 .nil))
 (sr
 (mc 5 0
 .nil)
 (.seq
 (sr
 (fa 8 2 2
 (ld 9 8
 (op 10 (.len false (tm 9))
 (mc 11 0
 .nil))))
 (.block 0
 (.loop ⟨[.val 5 (Ty.i .i64), .val 11 (Ty.i .i64)], [1, 9, 10]⟩
 (sr
 (op 12 (.bin .lss (tm 11) (tm 10))
 .nil)
 (.seq
 (.cond (tm 12)
 .skip
 (.exit 0))
 (.join ⟨[.val 5 (Ty.i .i64)], [1, 9, 10, 11]⟩
 (.block 1
 (sr
 (ia 13 15 9 11
 (ldk 14 15 13
 (op 7 (.alloc [.int .i64 0, .int .i64 0, .int .i64 0, .int .i64 0, .nils, .nils, .int .i64 0, .int .i64 0, .str ⟨#[]⟩, .int .i64 0, .str ⟨#[]⟩, .int .i64 0, .str ⟨#[]⟩, .int .i64 0, .int .i64 0])
 (ops (.store 15 (tm 7) (tm 14))
 .nil))))
 (sr
 (mv 15 1
 (ldk 16 15 7
 (op 17 (.callv (tm 15) [(tm 16)])
 .nil)))
 (.cond (tm 17)
 (.reg
 (mv 18 5
 (fa 19 0 7
 (fa 20 0 19
 (ld 21 20
 (op 22 (.bin .shl (ci 1) (tm 21))
 (op 23 (.bin .or (tm 18) (tm 22))
 (mv 5 23
 .nil))))))))
 .skip))))
 (.reg
 (op 24 (.bin .add (tm 11) (ci 1))
 (mv 11 24
 .nil)))))))))
 (sr
 (mv 25 5
 (mv 4 25
 .nil))
 .ret))))
noncomputable def F_prepare_Seen_Who_c185_c161_c164 (a0 : TSeen) (a1 : TBallot) (a2 : TBallot) : Option Int :=
 loopO (fun (v1 : Int × Int × Unit) =>
 bif (decide (v1.2.1 < ((List.length a0.Heard : Nat) : Int))) then
 letJ (fun (v2 : Int × Unit) =>
 some (Sum.inl (v2.1, (addI .i64 v1.2.1 (1 : Int)), ()))) fun j3 =>
 Option.bind (idx a0.Heard v1.2.1) fun x4 =>
 Option.bind (F_prepare_Seen_Accepts_1_c161_c164 (TRight.mk (TEnvelope.mk x4.Envelope.Node x4.Envelope.Slot x4.Envelope.Seq (TTrust.mk x4.Envelope.Trust.Threshold x4.Envelope.Trust.Nodes x4.Envelope.Trust.Inner) x4.Envelope.Kind x4.Envelope.Ballot x4.Envelope.Prepared x4.Envelope.Prime x4.Envelope.Low x4.Envelope.High)) a1 a2) fun r5 =>
 bif r5 then
 if x4.Envelope.Node < 0 then none else
 j3 ((orI .i64 v1.1 (shlI .i64 (1 : Int) x4.Envelope.Node)), ())
 else
 j3 (v1.1, ())
 else
 Option.map Sum.inr (some v1.1)) ((0 : Int), (0 : Int), ())
noncomputable def k_prepare_Seen_Who_c185_c161_c164 : KS U Tryz.prog := ⟨.fn 163 [.ty (Ty.st .Seen), .clo 185 [.ref (.clo 161 [.ref (.ty (Ty.st .Ballot))]), .ref (.clo 164 [.ref (.ty (Ty.st .Ballot))])]] (.one (Ty.i .i64)) fun a => F_prepare_Seen_Who_c185_c161_c164 a.1 a.2.1.1.1 a.2.1.2.1.1, fnS (K := K) sa_prepare_Seen_Who_c185_c161_c164 26 [.tmp 4] [k_prepare_Seen_Accepts_1_c161_c164] (fk Tryz.f163 [] Tryz.func163)⟩

/-! ### (trustquorum/prepare.Seen).Who -/
def sa_prepare_Seen_Who_c164 : SA U :=
 (sr
 (op 2 (.box (tm 0))
 (mc 4 0
 .nil))
 (sr
 (mc 5 0
 .nil)
 (.seq
 (sr
 (fa 8 2 2
 (ld 9 8
 (op 10 (.len false (tm 9))
 (mc 11 0
 .nil))))
 (.block 0
 (.loop ⟨[.val 5 (Ty.i .i64), .val 11 (Ty.i .i64)], [1, 9, 10]⟩
 (sr
 (op 12 (.bin .lss (tm 11) (tm 10))
 .nil)
 (.seq
 (.cond (tm 12)
 .skip
 (.exit 0))
 (.join ⟨[.val 5 (Ty.i .i64)], [1, 9, 10, 11]⟩
 (.block 1
 (sr
 (ia 13 15 9 11
 (ldk 14 15 13
 (op 7 (.alloc [.int .i64 0, .int .i64 0, .int .i64 0, .int .i64 0, .nils, .nils, .int .i64 0, .int .i64 0, .str ⟨#[]⟩, .int .i64 0, .str ⟨#[]⟩, .int .i64 0, .str ⟨#[]⟩, .int .i64 0, .int .i64 0])
 (ops (.store 15 (tm 7) (tm 14))
 .nil))))
 (sr
 (mv 15 1
 (ldk 16 15 7
 (op 17 (.callv (tm 15) [(tm 16)])
 .nil)))
 (.cond (tm 17)
 (.reg
 (mv 18 5
 (fa 19 0 7
 (fa 20 0 19
 (ld 21 20
 (op 22 (.bin .shl (ci 1) (tm 21))
 (op 23 (.bin .or (tm 18) (tm 22))
 (mv 5 23
 .nil))))))))
 .skip))))
 (.reg
 (op 24 (.bin .add (tm 11) (ci 1))
 (mv 11 24
 .nil)))))))))
 (sr
 (mv 25 5
 (mv 4 25
 .nil))
 .ret))))
noncomputable def F_prepare_Seen_Who_c164 (a0 : TSeen) (a1 : TBallot) : Option Int :=
 loopO (fun (v1 : Int × Int × Unit) =>
 bif (decide (v1.2.1 < ((List.length a0.Heard : Nat) : Int))) then
 letJ (fun (v2 : Int × Unit) =>
 some (Sum.inl (v2.1, (addI .i64 v1.2.1 (1 : Int)), ()))) fun j3 =>
 Option.bind (idx a0.Heard v1.2.1) fun x4 =>
 Option.bind (F_prepare_accepts_1 (TRight.mk (TEnvelope.mk x4.Envelope.Node x4.Envelope.Slot x4.Envelope.Seq (TTrust.mk x4.Envelope.Trust.Threshold x4.Envelope.Trust.Nodes x4.Envelope.Trust.Inner) x4.Envelope.Kind x4.Envelope.Ballot x4.Envelope.Prepared x4.Envelope.Prime x4.Envelope.Low x4.Envelope.High)) a1) fun r5 =>
 bif r5 then
 if x4.Envelope.Node < 0 then none else
 j3 ((orI .i64 v1.1 (shlI .i64 (1 : Int) x4.Envelope.Node)), ())
 else
 j3 (v1.1, ())
 else
 Option.map Sum.inr (some v1.1)) ((0 : Int), (0 : Int), ())
noncomputable def k_prepare_Seen_Who_c164 : KS U Tryz.prog := ⟨.fn 163 [.ty (Ty.st .Seen), .clo 164 [.ref (.ty (Ty.st .Ballot))]] (.one (Ty.i .i64)) fun a => F_prepare_Seen_Who_c164 a.1 a.2.1.1, fnS (K := K) sa_prepare_Seen_Who_c164 26 [.tmp 4] [k_prepare_accepts_1] (fk Tryz.f163 [] Tryz.func163)⟩

/-! ### (trustquorum/prepare.Seen).Accepts -/
def sa_prepare_Seen_Accepts_c161_c164 : SA U :=
 (sr
 (op 3 (.box (tm 0))
 (op 4 (.box (tm 1))
 (op 5 (.box (tm 2))
 (op 6 (.mov (.cst (.bool false)))
 .nil))))
 (sr
 (ldk 8 3 3
 (op 9 (.mkf 185 [(tm 4), (tm 5)])
 (cl 10 163 [8, 9]
 (mv 7 10
 .nil))))
 (.seq
 (.drw [(0, 2), (1, 2), (0, 3), (1, 3), (0, 5), (1, 5), (2, 5), (3, 5), (0, 6), (1, 6), (2, 6), (3, 6), (5, 6), (0, 7), (1, 7), (2, 7), (3, 7)]
 (fa 11 1 3
 (ldk 12 1 11
 (fa 13 0 3
 (ld 14 13
 (mv 15 7
 (ldk 16 3 3
 (ld 17 5
 (cl 18 163 [16, 17]
 (cl 19 186 [12, 14, 15, 18]
 (mv 6 19
 .nil)))))))))))
 .ret)))
noncomputable def F_prepare_Seen_Accepts_c161_c164 (a0 : TSeen) (a1 : TBallot) (a2 : TBallot) : Option Bool :=
 Option.bind (F_prepare_Seen_Who_c185_c161_c164 a0 a1 a2) fun r1 =>
 Option.bind (F_prepare_Seen_Who_c164 a0 a2) fun r2 =>
 Option.bind (F_federated_Accepts a0.View a0.Node r1 r2) fun r3 =>
 some r3
noncomputable def k_prepare_Seen_Accepts_c161_c164 : KS U Tryz.prog := ⟨.fn 156 [.ty (Ty.st .Seen), .clo 161 [.ref (.ty (Ty.st .Ballot))], .clo 164 [.ref (.ty (Ty.st .Ballot))]] (.one Ty.bool) fun a => F_prepare_Seen_Accepts_c161_c164 a.1 a.2.1.1 a.2.2.1.1, fnS (K := K) sa_prepare_Seen_Accepts_c161_c164 20 [.tmp 6] [k_prepare_Seen_Who_c185_c161_c164, k_prepare_Seen_Who_c164, k_federated_Accepts] (fk Tryz.f156 [] Tryz.func156)⟩

/-! ### (trustquorum/prepare.Seen).ready -/
def sa_prepare_Seen_ready : SA U :=
 (sr
 (op 2 (.box (tm 0))
 (op 3 (.box (tm 1))
 (op 4 (.mov (.cst (.bool false)))
 .nil)))
 (.seq
 (.drw [(0, 2), (0, 3)]
 (ldk 5 3 2
 (op 6 (.mkf 161 [(tm 3)])
 (ldk 7 2 3
 (cl 8 109 [7]
 (cl 9 156 [5, 6, 8]
 (mv 4 9
 .nil)))))))
 .ret))
noncomputable def F_prepare_Seen_ready (a0 : TSeen) (a1 : TBallot) : Option Bool :=
 Option.bind (F_prepare_accepts a1) fun r1 =>
 Option.bind (F_prepare_Seen_Accepts_c161_c164 a0 a1 r1.1) fun r2 =>
 some r2
noncomputable def k_prepare_Seen_ready : KS U Tryz.prog := ⟨.fn 107 [.ty (Ty.st .Seen), .ty (Ty.st .Ballot)] (.one Ty.bool) fun a => F_prepare_Seen_ready a.1 a.2.1, fnS (K := K) sa_prepare_Seen_ready 10 [.tmp 4] [k_prepare_accepts, k_prepare_Seen_Accepts_c161_c164] (fk Tryz.f107 [] Tryz.func107)⟩

/-! ### trustquorum/prepare.Accepts -/
def sa_prepare_Accepts : SA U :=
 (sr
 (op 5 (.box (tm 1))
 (op 7 (.box (tm 3))
 (op 8 (.mov (.cst (.bool false)))
 .nil)))
 (.seq
 (.drw [(1, 4), (3, 4)]
 (mv 9 0
 (ldk 10 3 5
 (mv 11 2
 (cl 12 97 [9, 10, 11]
 (ldk 13 2 7
 (cl 14 107 [12, 13]
 (mv 8 14
 .nil))))))))
 .ret))
noncomputable def F_prepare_Accepts (a0 : Int) (a1 : TTrust) (a2 : (List TEnvelope)) (a3 : TBallot) : Option Bool :=
 Option.bind (F_prepare_Look a0 (TTrust.mk a1.Threshold a1.Nodes a1.Inner) a2) fun r1 =>
 Option.bind (F_prepare_Seen_ready r1 a3) fun r2 =>
 some r2
noncomputable def k_prepare_Accepts : KS U Tryz.prog := ⟨.fn 35 [.ty (Ty.i .i64), .ty (Ty.st .Trust), .ty (Ty.sl (Ty.st .Envelope)), .ty (Ty.st .Ballot)] (.one Ty.bool) fun a => F_prepare_Accepts a.1 a.2.1 a.2.2.1 a.2.2.2.1, fnS (K := K) sa_prepare_Accepts 15 [.tmp 8] [k_prepare_Look, k_prepare_Seen_ready] (fk Tryz.f35 [] Tryz.func35)⟩

/-! ### (trustquorum/prepare.Seen).Confirms -/
def sa_prepare_Seen_Confirms_c164 : SA U :=
 (sr
 (op 2 (.box (tm 0))
 (op 4 (.mov (.cst (.bool false)))
 .nil))
 (.seq
 (.drw [(0, 2), (1, 2), (0, 3), (1, 3), (0, 4), (1, 4), (2, 4), (3, 4), (0, 6), (1, 6), (2, 6), (3, 6)]
 (fa 5 1 2
 (ldk 6 1 5
 (fa 7 0 2
 (ld 8 7
 (ldk 9 3 2
 (mv 10 1
 (cl 11 163 [9, 10]
 (cl 12 162 [6, 8, 11]
 (mv 4 12
 .nil))))))))))
 .ret))
noncomputable def F_prepare_Seen_Confirms_c164 (a0 : TSeen) (a1 : TBallot) : Option Bool :=
 Option.bind (F_prepare_Seen_Who_c164 a0 a1) fun r1 =>
 Option.bind (F_federated_Confirms a0.View a0.Node r1) fun r2 =>
 some r2
noncomputable def k_prepare_Seen_Confirms_c164 : KS U Tryz.prog := ⟨.fn 108 [.ty (Ty.st .Seen), .clo 164 [.ref (.ty (Ty.st .Ballot))]] (.one Ty.bool) fun a => F_prepare_Seen_Confirms_c164 a.1 a.2.1.1, fnS (K := K) sa_prepare_Seen_Confirms_c164 13 [.tmp 4] [k_prepare_Seen_Who_c164, k_federated_Confirms] (fk Tryz.f108 [] Tryz.func108)⟩

end Go.Proofs.YtncjalhhkmojlaaGreat
