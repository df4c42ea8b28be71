/-
  Functions of the program as plain functions, each held against the program by the kernel. Printed by a program.
-/
import Derived.Test.YtncjalhhkmojlaaUni
import Derived.Test.YtncjalhhkmojlaaProg
import Derived.KernelRfl
set_option linter.unusedVariables false
namespace Go.Proofs.Ytncjalhhkmojlaa
open Go.TQ

/-! ### trustquorum/trustquorumplay.New -/
def sa_play_New : SA U :=
 (.seq
  (.reg
  (.op ⟨(some 2), none, .mov (.cst (.nilp))⟩
  .nil))
  (.seq
   (.reg
   (.op ⟨(some 3), none, .mov (.tmp 0)⟩
   (.op ⟨(some 4), none, .mov (.tmp 0)⟩
   (.op ⟨(some 5), none, .len false (.tmp 4)⟩
   (.op ⟨(some 6), none, .minmax false (.tmp 5) (.cst (.int .i64 800))⟩
   (.op ⟨(some 7), none, .slc 1 (.tmp 3) none (some (.tmp 6))⟩
   (.op ⟨(some 8), none, .build [.nils, .int .i64 0] [(0, 1, (.tmp 7))]⟩
   (.op ⟨(some 9), none, .box (.tmp 8)⟩
   (.op ⟨(some 2), none, .mov (.tmp 9)⟩
   .nil)))))))))
   .ret))
theorem ok_play_New : FnOk Try.prog 11 10 (SA.erase sa_play_New) [.tmp 2] := ⟨Try.f11, [], Try.func11, rfl, by kernel_rfl, by kernel_rfl, by kernel_rfl⟩
noncomputable def F_play_New (a0 : (List Int)) : Option TSrc :=
bif slcOk (0 : Int) (minI ((List.length a0 : Nat) : Int) (800 : Int)) (List.length a0) then
some (TSrc.mk ((a0.take (Int.toNat (minI ((List.length a0 : Nat) : Int) (800 : Int)))).drop (Int.toNat (0 : Int))) (0 : Int))
else none
theorem e_play_New : nwK K [] sa_play_New [.tmp 2] [.ty (Ty.sl (Ty.i .i64))] (Ty.st .Src) = fun a => F_play_New a.1 := by kernel_rfl
theorem s_play_New : KFun.Sound (U := U) Try.prog (.nw 11 [.ty (Ty.sl (Ty.i .i64))] (Ty.st .Src) fun a => F_play_New a.1) := nwK_sound (K := K) (Γ := []) ok_play_New (by kernel_rfl) (by decide) trivial (fun a => congrFun e_play_New a)

/-! ### (*trustquorum/trustquorumplay.Src).N -/
def sa_play_Src_N : SA U :=
 (.seq
  (.reg
  (.op ⟨(some 4), none, .mov (.cst (.int .i64 0))⟩
  .nil))
  (.seq
   (.join ⟨[.val 18 Ty.bool], [0, 1]⟩
    (.drw [(1, 5), (2, 5), (3, 5), (1, 6), (2, 6), (3, 6), (1, 7), (2, 7), (3, 7), (1, 8), (2, 8), (3, 8)]
    (.op ⟨(some 5), none, .mov (.tmp 0)⟩
    (.op ⟨(some 6), none, .nilck (.tmp 5)⟩
    (.op ⟨(some 7), none, .faddr 1 (.tmp 6)⟩
    (.op ⟨(some 8), none, .load none (.tmp 7)⟩
    (.op ⟨(some 9), none, .mov (.tmp 0)⟩
    (.op ⟨(some 10), none, .nilck (.tmp 9)⟩
    (.op ⟨(some 11), none, .faddr 0 (.tmp 10)⟩
    (.op ⟨(some 12), none, .load none (.tmp 11)⟩
    (.op ⟨(some 13), none, .len false (.tmp 12)⟩
    (.op ⟨(some 14), none, .bin .geq (.tmp 8) (.tmp 13)⟩
    (.op ⟨(some 15), none, .mov (.tmp 14)⟩
    (.spl 15
    (.op ⟨(some 16), (some (15, false)), .mov (.tmp 1)⟩
    (.op ⟨(some 17), (some (15, false)), .bin .lss (.tmp 16) (.cst (.int .i64 1))⟩
    (.op ⟨(some 18), none, .pick (.tmp 15) (.cst (.bool true)) (.tmp 17)⟩
    .nil))))))))))))))))
    (.cond (.tmp 18)
     (.seq
      (.reg
      (.op ⟨(some 4), none, .mov (.cst (.int .i64 0))⟩
      .nil))
      .ret)
     .skip))
   (.seq
    (.reg
    (.op ⟨(some 19), none, .mov (.tmp 0)⟩
    (.op ⟨(some 20), none, .nilck (.tmp 19)⟩
    (.op ⟨(some 21), none, .faddr 1 (.tmp 20)⟩
    (.op ⟨(some 22), none, .load none (.tmp 21)⟩
    (.op ⟨(some 23), none, .bin .add (.tmp 22) (.cst (.int .i64 1))⟩
    (.op ⟨(some 24), none, .nilck (.tmp 19)⟩
    (.op ⟨(some 25), none, .faddr 1 (.tmp 24)⟩
    (.op ⟨none, none, .store 1 (.tmp 25) (.tmp 23)⟩
    .nil)))))))))
    (.seq
     (.drw [(1, 5), (2, 5), (3, 5), (1, 6), (2, 6), (3, 6), (1, 7), (2, 7), (3, 7)]
     (.op ⟨(some 26), none, .mov (.tmp 0)⟩
     (.op ⟨(some 27), none, .nilck (.tmp 26)⟩
     (.op ⟨(some 28), none, .faddr 0 (.tmp 27)⟩
     (.op ⟨(some 29), none, .load none (.tmp 28)⟩
     (.op ⟨(some 30), none, .mov (.tmp 0)⟩
     (.op ⟨(some 31), none, .nilck (.tmp 30)⟩
     (.op ⟨(some 32), none, .faddr 1 (.tmp 31)⟩
     (.op ⟨(some 33), none, .load none (.tmp 32)⟩
     (.op ⟨(some 34), none, .bin .sub (.tmp 33) (.cst (.int .i64 1))⟩
     (.op ⟨(some 35), none, .iaddr 1 (.tmp 29) (.tmp 34)⟩
     (.op ⟨(some 36), none, .load none (.tmp 35)⟩
     (.op ⟨(some 37), none, .mov (.tmp 1)⟩
     (.op ⟨(some 38), none, .bin .rem (.tmp 36) (.tmp 37)⟩
     (.op ⟨(some 39), none, .mov (.tmp 1)⟩
     (.op ⟨(some 40), none, .bin .add (.tmp 38) (.tmp 39)⟩
     (.op ⟨(some 41), none, .mov (.tmp 1)⟩
     (.op ⟨(some 42), none, .bin .rem (.tmp 40) (.tmp 41)⟩
     (.op ⟨(some 4), none, .mov (.tmp 42)⟩
     .nil)))))))))))))))))))
     .ret))))
theorem ok_play_Src_N : FnOk Try.prog 13 43 (SA.erase sa_play_Src_N) [.tmp 4] := ⟨Try.f13, [], Try.func13, rfl, by kernel_rfl, by kernel_rfl, by kernel_rfl⟩
noncomputable def F_play_Src_N (s : TSrc) (a0 : Int) : Option (Int × TSrc) :=
letJ (fun (v1 : Bool × Unit) =>
bif v1.1 then
some ((0 : Int), s)
else
Option.bind (idx s.L (subI .i64 (addI .i64 s.At (1 : Int)) (1 : Int))) fun x3 =>
if a0 = 0 then none else
if a0 = 0 then none else
some ((remI .i64 (addI .i64 (remI .i64 x3 a0) a0) a0), (TSrc.mk s.L (addI .i64 s.At (1 : Int))))) fun j2 =>
bif (decide (((List.length s.L : Nat) : Int) ≤ s.At)) then
j2 (true, ())
else
j2 ((decide (a0 < (1 : Int))), ())
theorem e_play_Src_N : rcK K [] sa_play_Src_N [.tmp 4] (Ty.st .Src) [.ty (Ty.i .i64)] (.one (Ty.i .i64)) = fun s a => F_play_Src_N s a.1 := by kernel_rfl
theorem s_play_Src_N : KFun.Sound (U := U) Try.prog (.rc 13 (Ty.st .Src) [.ty (Ty.i .i64)] (.one (Ty.i .i64)) fun s a => F_play_Src_N s a.1) := rcK_sound (K := K) (Γ := []) ok_play_Src_N (by kernel_rfl) (by decide) trivial (fun s a => congrFun (congrFun e_play_Src_N s) a)

/-! ### (*trustquorum/trustquorumplay.Src).Range -/
def sa_play_Src_Range : SA U :=
 (.seq
  (.reg
  (.op ⟨(some 6), none, .mov (.cst (.int .i64 0))⟩
  .nil))
  (.seq
   (.reg
   (.op ⟨(some 7), none, .mov (.tmp 1)⟩
   (.op ⟨(some 8), none, .mov (.tmp 0)⟩
   (.op ⟨(some 9), none, .mov (.tmp 2)⟩
   (.op ⟨(some 10), none, .mov (.tmp 1)⟩
   (.op ⟨(some 11), none, .bin .sub (.tmp 9) (.tmp 10)⟩
   (.op ⟨(some 12), none, .bin .add (.tmp 11) (.cst (.int .i64 1))⟩
   (.op ⟨(some 13), none, .call 13 [(.tmp 8), (.tmp 12)]⟩
   (.op ⟨(some 14), none, .bin .add (.tmp 7) (.tmp 13)⟩
   (.op ⟨(some 6), none, .mov (.tmp 14)⟩
   .nil))))))))))
   .ret))
theorem ok_play_Src_Range : FnOk Try.prog 26 15 (SA.erase sa_play_Src_Range) [.tmp 6] := ⟨Try.f26, [], Try.func26, rfl, by kernel_rfl, by kernel_rfl, by kernel_rfl⟩
noncomputable def F_play_Src_Range (s : TSrc) (a0 : Int) (a1 : Int) : Option (Int × TSrc) :=
Option.bind (F_play_Src_N s (addI .i64 (subI .i64 a1 a0) (1 : Int))) fun p1 =>
some ((addI .i64 a0 p1.1), p1.2)
theorem e_play_Src_Range : rcK K [.rc 13 (Ty.st .Src) [.ty (Ty.i .i64)] (.one (Ty.i .i64)) fun s a => F_play_Src_N s a.1] sa_play_Src_Range [.tmp 6] (Ty.st .Src) [.ty (Ty.i .i64), .ty (Ty.i .i64)] (.one (Ty.i .i64)) = fun s a => F_play_Src_Range s a.1 a.2.1 := by kernel_rfl
theorem s_play_Src_Range : KFun.Sound (U := U) Try.prog (.rc 26 (Ty.st .Src) [.ty (Ty.i .i64), .ty (Ty.i .i64)] (.one (Ty.i .i64)) fun s a => F_play_Src_Range s a.1 a.2.1) := rcK_sound (K := K) (Γ := [.rc 13 (Ty.st .Src) [.ty (Ty.i .i64)] (.one (Ty.i .i64)) fun s a => F_play_Src_N s a.1]) ok_play_Src_Range (by kernel_rfl) (by decide) ⟨s_play_Src_N, trivial⟩ (fun s a => congrFun (congrFun e_play_Src_Range s) a)

/-! ### (*trustquorum/trustquorumplay.Src).Trust -/
def sa_play_Src_Trust : SA U :=
 (.seq
  (.reg
  (.op ⟨(some 4), none, .alloc [.int .i64 0, .nils, .nils]⟩
  .nil))
  (.seq
   (.reg
   (.op ⟨(some 5), none, .alloc [.int .i64 0, .nils, .nils]⟩
   .nil))
   (.seq
    (.seq
     (.reg
     (.op ⟨(some 6), none, .mov (.cst (.int .i64 0))⟩
     .nil))
     (.block 0
      (.ps (.ownB 5 1 3 1 (Ty.i .i64))
      (.ps (.ownB 5 2 27 3 (Ty.st .Trust))
      (.loop ⟨[.val 6 (Ty.i .i64), .box 0 0 (Ty.st .Src) [], .box 2 1 (Ty.st .Trust) [(1, 4, 1), (2, 5, 1)], .rowb 4 1 3 1 (Ty.i .i64), .rowb 5 1 27 3 (Ty.st .Trust)], [0, 1, 4, 5]⟩
       (.seq
        (.seq
         (.reg
         (.op ⟨(some 8), none, .mov (.tmp 6)⟩
         (.op ⟨(some 9), none, .mov (.tmp 1)⟩
         (.op ⟨(some 10), none, .bin .lss (.tmp 8) (.tmp 9)⟩
         .nil))))
         (.cond (.tmp 10)
          .skip
          (.exit 0)))
        (.join ⟨[.box 0 0 (Ty.st .Src) [], .box 2 1 (Ty.st .Trust) [(1, 4, 1), (2, 5, 1)], .rowb 4 1 3 1 (Ty.i .i64), .rowb 5 1 27 3 (Ty.st .Trust)], [0, 1, 4, 5, 6]⟩
         (.block 1
          (.seq
           (.reg
           (.op ⟨(some 13), none, .mov (.tmp 0)⟩
           (.op ⟨(some 14), none, .call 13 [(.tmp 13), (.cst (.int .i64 5))]⟩
           (.op ⟨(some 15), none, .bin .gtr (.tmp 14) (.cst (.int .i64 0))⟩
           .nil))))
           (.cond (.tmp 15)
            (.reg
            (.op ⟨(some 16), none, .faddr 1 (.tmp 5)⟩
            (.op ⟨(some 17), none, .load none (.tmp 16)⟩
            (.op ⟨(some 18), none, .mov (.tmp 6)⟩
            (.op ⟨(some 19), none, .bsl false 3 1 (List.replicate 1 [.int .i64 0]) [(0, (.tmp 18))]⟩
            (.op ⟨(some 20), none, .app 3 1 8 (.tmp 17) (.tmp 19)⟩
            (.op ⟨(some 21), none, .faddr 1 (.tmp 5)⟩
            (.op ⟨none, none, .store 1 (.tmp 21) (.tmp 20)⟩
            .nil))))))))
            .skip)))
         (.reg
         (.op ⟨(some 11), none, .mov (.tmp 6)⟩
         (.op ⟨(some 12), none, .bin .add (.tmp 11) (.cst (.int .i64 1))⟩
         (.op ⟨(some 6), none, .mov (.tmp 12)⟩
         .nil)))))))))))
    (.ps (.frzB 5 1)
    (.join ⟨[.box 0 0 (Ty.st .Src) [], .box 2 1 (Ty.st .Trust) [(2, 5, 1)], .rowb 5 1 27 3 (Ty.st .Trust)], [0, 1, 4, 5]⟩
     (.seq
      (.reg
      (.op ⟨(some 22), none, .faddr 1 (.tmp 5)⟩
      (.op ⟨(some 23), none, .load none (.tmp 22)⟩
      (.op ⟨(some 24), none, .len false (.tmp 23)⟩
      (.op ⟨(some 25), none, .bin .eql (.tmp 24) (.cst (.int .i64 0))⟩
      .nil)))))
      (.cond (.tmp 25)
       (.reg
       (.op ⟨(some 26), none, .mov (.tmp 0)⟩
       (.op ⟨(some 27), none, .mov (.tmp 1)⟩
       (.op ⟨(some 28), none, .call 13 [(.tmp 26), (.tmp 27)]⟩
       (.op ⟨(some 29), none, .bsl false 3 1 (List.replicate 1 [.int .i64 0]) [(0, (.tmp 28))]⟩
       (.op ⟨(some 30), none, .faddr 1 (.tmp 5)⟩
       (.op ⟨none, none, .store 1 (.tmp 30) (.tmp 29)⟩
       .nil)))))))
       .skip))
     (.join ⟨[.box 0 0 (Ty.st .Src) [], .box 2 1 (Ty.st .Trust) [(2, 5, 1)], .rowb 5 1 27 3 (Ty.st .Trust)], [0, 4, 5]⟩
      (.seq
       (.reg
       (.op ⟨(some 31), none, .mov (.tmp 0)⟩
       (.op ⟨(some 32), none, .call 13 [(.tmp 31), (.cst (.int .i64 4))]⟩
       (.op ⟨(some 33), none, .bin .eql (.tmp 32) (.cst (.int .i64 3))⟩
       .nil))))
       (.cond (.tmp 33)
        (.drw [(0, 4), (1, 4), (0, 5), (1, 5), (0, 7), (1, 7)]
        (.op ⟨(some 34), none, .faddr 2 (.tmp 5)⟩
        (.op ⟨(some 35), none, .load none (.tmp 34)⟩
        (.op ⟨(some 36), none, .mov (.tmp 0)⟩
        (.op ⟨(some 37), none, .mov (.tmp 1)⟩
        (.op ⟨(some 38), none, .call 13 [(.tmp 36), (.tmp 37)]⟩
        (.op ⟨(some 39), none, .bsl false 3 1 (List.replicate 1 [.int .i64 0]) [(0, (.tmp 38))]⟩
        (.op ⟨(some 40), none, .build [.int .i64 0, .nils, .nils] [(0, 1, (.cst (.int .i64 1))), (1, 1, (.tmp 39))]⟩
        (.op ⟨(some 41), none, .bsl false 27 3 (List.replicate 1 [.int .i64 0, .nils, .nils]) [(0, (.tmp 40))]⟩
        (.op ⟨(some 42), none, .app 27 3 56 (.tmp 35) (.tmp 41)⟩
        (.op ⟨(some 43), none, .faddr 2 (.tmp 5)⟩
        (.op ⟨none, none, .store 1 (.tmp 43) (.tmp 42)⟩
        .nil))))))))))))
        .skip))
      (.seq
       (.reg
       (.op ⟨(some 44), none, .faddr 1 (.tmp 5)⟩
       (.op ⟨(some 45), none, .load none (.tmp 44)⟩
       (.op ⟨(some 46), none, .len false (.tmp 45)⟩
       (.op ⟨(some 47), none, .faddr 2 (.tmp 5)⟩
       (.op ⟨(some 48), none, .load none (.tmp 47)⟩
       (.op ⟨(some 49), none, .len false (.tmp 48)⟩
       (.op ⟨(some 50), none, .bin .add (.tmp 46) (.tmp 49)⟩
       (.op ⟨(some 7), none, .mov (.tmp 50)⟩
       .nil)))))))))
       (.seq
        (.reg
        (.op ⟨(some 51), none, .mov (.tmp 0)⟩
        (.op ⟨(some 52), none, .mov (.tmp 7)⟩
        (.op ⟨(some 53), none, .bin .add (.tmp 52) (.cst (.int .i64 1))⟩
        (.op ⟨(some 54), none, .bin .quo (.tmp 53) (.cst (.int .i64 2))⟩
        (.op ⟨(some 55), none, .mov (.tmp 7)⟩
        (.op ⟨(some 56), none, .call 26 [(.tmp 51), (.tmp 54), (.tmp 55)]⟩
        (.op ⟨(some 57), none, .faddr 0 (.tmp 5)⟩
        (.op ⟨none, none, .store 1 (.tmp 57) (.tmp 56)⟩
        .nil)))))))))
        (.join ⟨[.box 0 0 (Ty.st .Src) [], .box 2 1 (Ty.st .Trust) [(2, 5, 1)], .rowb 5 1 27 3 (Ty.st .Trust)], [4, 5]⟩
         (.seq
          (.reg
          (.op ⟨(some 58), none, .mov (.tmp 0)⟩
          (.op ⟨(some 59), none, .call 13 [(.tmp 58), (.cst (.int .i64 6))]⟩
          (.op ⟨(some 60), none, .bin .eql (.tmp 59) (.cst (.int .i64 5))⟩
          .nil))))
          (.cond (.tmp 60)
           (.reg
           (.op ⟨(some 61), none, .faddr 0 (.tmp 5)⟩
           (.op ⟨none, none, .store 1 (.tmp 61) (.cst (.int .i64 1))⟩
           .nil)))
           .skip))
         (.seq
          (.reg
          (.op ⟨(some 62), none, .load (some 3) (.tmp 5)⟩
          (.op ⟨none, none, .store 3 (.tmp 4) (.tmp 62)⟩
          .nil)))
          .ret))))))))))
theorem ok_play_Src_Trust : FnOk Try.prog 31 63 (SA.erase sa_play_Src_Trust) [.cell 4 (some 3)] := ⟨Try.f31, [], Try.func31, rfl, by kernel_rfl, by kernel_rfl, by kernel_rfl⟩
noncomputable def F_play_Src_Trust (s : TSrc) (a0 : Int) : Option (TTrust × TSrc) :=
loopO (fun (v1 : Int × TSrc × TTrust × (List Int) × (List TTrust) × Unit) =>
bif (decide (v1.1 < a0)) then
letJ (fun (v2 : TSrc × TTrust × (List Int) × (List TTrust) × Unit) =>
some (Sum.inl ((addI .i64 v1.1 (1 : Int)), v2.1, (TTrust.mk v2.2.1.Threshold ([] : List Int) ([] : List TTrust)), v2.2.2.1, v2.2.2.2.1, ()))) fun j3 =>
Option.bind (F_play_Src_N v1.2.1 (5 : Int)) fun p4 =>
bif (decide ((0 : Int) < p4.1)) then
bif lenOk 8 (List.length v1.2.2.2.1 + List.length [v1.1]) then
j3 (p4.2, (TTrust.mk v1.2.2.1.Threshold ([] : List Int) ([] : List TTrust)), (v1.2.2.2.1 ++ [v1.1]), v1.2.2.2.2.1, ())
else none
else
j3 (p4.2, (TTrust.mk v1.2.2.1.Threshold ([] : List Int) ([] : List TTrust)), v1.2.2.2.1, v1.2.2.2.2.1, ())
else
Option.map Sum.inr (letJ (fun (v5 : TSrc × TTrust × (List TTrust) × Unit) =>
letJ (fun (v7 : TSrc × TTrust × (List TTrust) × Unit) =>
Option.bind (F_play_Src_Range v7.1 (quoI .i64 (addI .i64 (addI .i64 ((List.length v7.2.1.Nodes : Nat) : Int) ((List.length v7.2.2.1 : Nat) : Int)) (1 : Int)) (2 : Int)) (addI .i64 ((List.length v7.2.1.Nodes : Nat) : Int) ((List.length v7.2.2.1 : Nat) : Int))) fun p9 =>
letJ (fun (v10 : TSrc × TTrust × (List TTrust) × Unit) =>
some ((TTrust.mk v10.2.1.Threshold v10.2.1.Nodes v10.2.2.1), v10.1)) fun j11 =>
Option.bind (F_play_Src_N p9.2 (6 : Int)) fun p12 =>
bif (decide (p12.1 = (5 : Int))) then
j11 (p12.2, (TTrust.mk (1 : Int) v7.2.1.Nodes ([] : List TTrust)), v7.2.2.1, ())
else
j11 (p12.2, (TTrust.mk p9.1 v7.2.1.Nodes ([] : List TTrust)), v7.2.2.1, ())) fun j8 =>
Option.bind (F_play_Src_N v5.1 (4 : Int)) fun p13 =>
bif (decide (p13.1 = (3 : Int))) then
Option.bind (F_play_Src_N p13.2 a0) fun p14 =>
bif lenOk 56 (List.length v5.2.2.1 + List.length [(TTrust.mk (1 : Int) [p14.1] ([] : List TTrust))]) then
j8 (p14.2, (TTrust.mk v5.2.1.Threshold v5.2.1.Nodes ([] : List TTrust)), (v5.2.2.1 ++ [(TTrust.mk (1 : Int) [p14.1] ([] : List TTrust))]), ())
else none
else
j8 (p13.2, (TTrust.mk v5.2.1.Threshold v5.2.1.Nodes ([] : List TTrust)), v5.2.2.1, ())) fun j6 =>
bif (decide (((List.length v1.2.2.2.1 : Nat) : Int) = (0 : Int))) then
Option.bind (F_play_Src_N v1.2.1 a0) fun p15 =>
j6 (p15.2, (TTrust.mk v1.2.2.1.Threshold [p15.1] ([] : List TTrust)), v1.2.2.2.2.1, ())
else
j6 (v1.2.1, (TTrust.mk v1.2.2.1.Threshold v1.2.2.2.1 ([] : List TTrust)), v1.2.2.2.2.1, ()))) ((0 : Int), s, (TTrust.mk (0 : Int) ([] : List Int) ([] : List TTrust)), ([] : List Int), ([] : List TTrust), ())
theorem e_play_Src_Trust : rcK K [.rc 13 (Ty.st .Src) [.ty (Ty.i .i64)] (.one (Ty.i .i64)) fun s a => F_play_Src_N s a.1, .rc 26 (Ty.st .Src) [.ty (Ty.i .i64), .ty (Ty.i .i64)] (.one (Ty.i .i64)) fun s a => F_play_Src_Range s a.1 a.2.1] sa_play_Src_Trust [.cell 4 (some 3)] (Ty.st .Src) [.ty (Ty.i .i64)] (.one (Ty.st .Trust)) = fun s a => F_play_Src_Trust s a.1 := by kernel_rfl
theorem s_play_Src_Trust : KFun.Sound (U := U) Try.prog (.rc 31 (Ty.st .Src) [.ty (Ty.i .i64)] (.one (Ty.st .Trust)) fun s a => F_play_Src_Trust s a.1) := rcK_sound (K := K) (Γ := [.rc 13 (Ty.st .Src) [.ty (Ty.i .i64)] (.one (Ty.i .i64)) fun s a => F_play_Src_N s a.1, .rc 26 (Ty.st .Src) [.ty (Ty.i .i64), .ty (Ty.i .i64)] (.one (Ty.i .i64)) fun s a => F_play_Src_Range s a.1 a.2.1]) ok_play_Src_Trust (by kernel_rfl) (by decide) ⟨s_play_Src_N, s_play_Src_Range, trivial⟩ (fun s a => congrFun (congrFun e_play_Src_Trust s) a)

/-! ### (*trustquorum/trustquorumplay.Src).Text -/
def sa_play_Src_Text : SA U :=
 (.seq
  (.reg
  (.op ⟨(some 4), none, .mov (.cst (.str ⟨#[]⟩))⟩
  .nil))
  (.seq
   (.reg
   (.op ⟨(some 5), none, .mov (.tmp 1)⟩
   (.op ⟨(some 6), none, .mov (.tmp 0)⟩
   (.op ⟨(some 7), none, .mov (.tmp 1)⟩
   (.op ⟨(some 8), none, .len false (.tmp 7)⟩
   (.op ⟨(some 9), none, .call 13 [(.tmp 6), (.tmp 8)]⟩
   (.op ⟨(some 10), none, .iaddr 1 (.tmp 5) (.tmp 9)⟩
   (.op ⟨(some 11), none, .load none (.tmp 10)⟩
   (.op ⟨(some 4), none, .mov (.tmp 11)⟩
   .nil)))))))))
   .ret))
theorem ok_play_Src_Text : FnOk Try.prog 46 12 (SA.erase sa_play_Src_Text) [.tmp 4] := ⟨Try.f46, [], Try.func46, rfl, by kernel_rfl, by kernel_rfl, by kernel_rfl⟩
noncomputable def F_play_Src_Text (s : TSrc) (a0 : (List ByteArray)) : Option (ByteArray × TSrc) :=
Option.bind (F_play_Src_N s ((List.length a0 : Nat) : Int)) fun p1 =>
Option.bind (idx a0 p1.1) fun x2 =>
some (x2, p1.2)
theorem e_play_Src_Text : rcK K [.rc 13 (Ty.st .Src) [.ty (Ty.i .i64)] (.one (Ty.i .i64)) fun s a => F_play_Src_N s a.1] sa_play_Src_Text [.tmp 4] (Ty.st .Src) [.ty (Ty.sl Ty.str)] (.one Ty.str) = fun s a => F_play_Src_Text s a.1 := by kernel_rfl
theorem s_play_Src_Text : KFun.Sound (U := U) Try.prog (.rc 46 (Ty.st .Src) [.ty (Ty.sl Ty.str)] (.one Ty.str) fun s a => F_play_Src_Text s a.1) := rcK_sound (K := K) (Γ := [.rc 13 (Ty.st .Src) [.ty (Ty.i .i64)] (.one (Ty.i .i64)) fun s a => F_play_Src_N s a.1]) ok_play_Src_Text (by kernel_rfl) (by decide) ⟨s_play_Src_N, trivial⟩ (fun s a => congrFun (congrFun e_play_Src_Text s) a)

/-! ### (*trustquorum/trustquorumplay.Src).Value -/
def sa_play_Src_Value : SA U :=
 (.seq
  (.reg
  (.op ⟨(some 2), none, .mov (.cst (.str ⟨#[]⟩))⟩
  .nil))
  (.seq
   (.reg
   (.op ⟨(some 3), none, .mov (.tmp 0)⟩
   (.op ⟨(some 4), none, .bsl false 9 1 (List.replicate 4 [.str ⟨#[]⟩]) [(0, (.cst (.str ⟨#[97]⟩))), (1, (.cst (.str ⟨#[98]⟩))), (2, (.cst (.str ⟨#[99]⟩))), (3, (.cst (.str ⟨#[97, 97]⟩)))]⟩
   (.op ⟨(some 5), none, .call 46 [(.tmp 3), (.tmp 4)]⟩
   (.op ⟨(some 2), none, .mov (.tmp 5)⟩
   .nil)))))
   .ret))
theorem ok_play_Src_Value : FnOk Try.prog 14 6 (SA.erase sa_play_Src_Value) [.tmp 2] := ⟨Try.f14, [], Try.func14, rfl, by kernel_rfl, by kernel_rfl, by kernel_rfl⟩
noncomputable def F_play_Src_Value (s : TSrc)  : Option (ByteArray × TSrc) :=
Option.bind (F_play_Src_Text s [(ByteArray.mk #[97]), (ByteArray.mk #[98]), (ByteArray.mk #[99]), (ByteArray.mk #[97, 97])]) fun p1 =>
some (p1.1, p1.2)
theorem e_play_Src_Value : rcK K [.rc 46 (Ty.st .Src) [.ty (Ty.sl Ty.str)] (.one Ty.str) fun s a => F_play_Src_Text s a.1] sa_play_Src_Value [.tmp 2] (Ty.st .Src) [] (.one Ty.str) = fun s a => F_play_Src_Value s  := by kernel_rfl
theorem s_play_Src_Value : KFun.Sound (U := U) Try.prog (.rc 14 (Ty.st .Src) [] (.one Ty.str) fun s a => F_play_Src_Value s ) := rcK_sound (K := K) (Γ := [.rc 46 (Ty.st .Src) [.ty (Ty.sl Ty.str)] (.one Ty.str) fun s a => F_play_Src_Text s a.1]) ok_play_Src_Value (by kernel_rfl) (by decide) ⟨s_play_Src_Text, trivial⟩ (fun s a => congrFun (congrFun e_play_Src_Value s) a)

/-! ### (*trustquorum/trustquorumplay.Src).Low -/
def sa_play_Src_Low : SA U :=
 (.seq
  (.reg
  (.op ⟨(some 2), none, .alloc [.int .i64 0, .str ⟨#[]⟩]⟩
  .nil))
  (.seq
   (.reg
   (.op ⟨(some 3), none, .mov (.tmp 0)⟩
   (.op ⟨(some 4), none, .call 26 [(.tmp 3), (.cst (.int .i64 1)), (.cst (.int .i64 6))]⟩
   (.op ⟨(some 5), none, .mov (.tmp 0)⟩
   (.op ⟨(some 6), none, .call 14 [(.tmp 5)]⟩
   (.op ⟨(some 7), none, .build [.int .i64 0, .str ⟨#[]⟩] [(0, 1, (.tmp 4)), (1, 1, (.tmp 6))]⟩
   (.op ⟨none, none, .store 2 (.tmp 2) (.tmp 7)⟩
   .nil)))))))
   .ret))
theorem ok_play_Src_Low : FnOk Try.prog 18 8 (SA.erase sa_play_Src_Low) [.cell 2 (some 2)] := ⟨Try.f18, [], Try.func18, rfl, by kernel_rfl, by kernel_rfl, by kernel_rfl⟩
noncomputable def F_play_Src_Low (s : TSrc)  : Option (TBallot × TSrc) :=
Option.bind (F_play_Src_Range s (1 : Int) (6 : Int)) fun p1 =>
Option.bind (F_play_Src_Value p1.2) fun p2 =>
some ((TBallot.mk p1.1 p2.1), p2.2)
theorem e_play_Src_Low : rcK K [.rc 26 (Ty.st .Src) [.ty (Ty.i .i64), .ty (Ty.i .i64)] (.one (Ty.i .i64)) fun s a => F_play_Src_Range s a.1 a.2.1, .rc 14 (Ty.st .Src) [] (.one Ty.str) fun s a => F_play_Src_Value s ] sa_play_Src_Low [.cell 2 (some 2)] (Ty.st .Src) [] (.one (Ty.st .Ballot)) = fun s a => F_play_Src_Low s  := by kernel_rfl
theorem s_play_Src_Low : KFun.Sound (U := U) Try.prog (.rc 18 (Ty.st .Src) [] (.one (Ty.st .Ballot)) fun s a => F_play_Src_Low s ) := rcK_sound (K := K) (Γ := [.rc 26 (Ty.st .Src) [.ty (Ty.i .i64), .ty (Ty.i .i64)] (.one (Ty.i .i64)) fun s a => F_play_Src_Range s a.1 a.2.1, .rc 14 (Ty.st .Src) [] (.one Ty.str) fun s a => F_play_Src_Value s ]) ok_play_Src_Low (by kernel_rfl) (by decide) ⟨s_play_Src_Range, s_play_Src_Value, trivial⟩ (fun s a => congrFun (congrFun e_play_Src_Low s) a)

/-! ### trustquorum/trustquorumref02.Depth -/
def sa_ref02_Depth : SA U :=
 (.seq
  (.reg
  (.op ⟨(some 1), none, .box (.tmp 0)⟩
  (.op ⟨(some 2), none, .mov (.cst (.int .i64 0))⟩
  .nil)))
  (.seq
   (.reg
   (.op ⟨(some 3), none, .mov (.cst (.int .i64 0))⟩
   .nil))
   (.seq
    (.seq
     (.reg
     (.op ⟨(some 6), none, .faddr 2 (.tmp 1)⟩
     (.op ⟨(some 7), none, .load none (.tmp 6)⟩
     (.op ⟨(some 8), none, .len false (.tmp 7)⟩
     (.op ⟨(some 9), none, .mov (.cst (.int .i64 0))⟩
     .nil)))))
     (.block 0
      (.loop ⟨[.val 3 (Ty.i .i64), .val 9 (Ty.i .i64)], [7, 8]⟩
       (.seq
        (.reg
        (.op ⟨(some 10), none, .bin .lss (.tmp 9) (.tmp 8)⟩
        .nil))
        (.seq
         (.cond (.tmp 10)
          .skip
          (.exit 0))
         (.seq
          (.block 1
           (.seq
            (.reg
            (.op ⟨(some 11), none, .iaddr 3 (.tmp 7) (.tmp 9)⟩
            (.op ⟨(some 12), none, .load (some 3) (.tmp 11)⟩
            (.op ⟨(some 5), none, .alloc [.int .i64 0, .nils, .nils]⟩
            (.op ⟨none, none, .store 3 (.tmp 5) (.tmp 12)⟩
            .nil)))))
            (.reg
            (.op ⟨(some 13), none, .mov (.tmp 3)⟩
            (.op ⟨(some 14), none, .load (some 3) (.tmp 5)⟩
            (.op ⟨(some 15), none, .call 115 [(.tmp 14)]⟩
            (.op ⟨(some 16), none, .minmax true (.tmp 13) (.tmp 15)⟩
            (.op ⟨(some 3), none, .mov (.tmp 16)⟩
            .nil))))))))
          (.reg
          (.op ⟨(some 17), none, .bin .add (.tmp 9) (.cst (.int .i64 1))⟩
          (.op ⟨(some 9), none, .mov (.tmp 17)⟩
          .nil)))))))))
    (.seq
     (.reg
     (.op ⟨(some 18), none, .mov (.tmp 3)⟩
     (.op ⟨(some 19), none, .bin .add (.tmp 18) (.cst (.int .i64 1))⟩
     (.op ⟨(some 2), none, .mov (.tmp 19)⟩
     .nil))))
     .ret))))
theorem ok_ref02_Depth : FnOk Try.prog 115 20 (SA.erase sa_ref02_Depth) [.tmp 2] := ⟨Try.f115, [], Try.func115, rfl, by kernel_rfl, by kernel_rfl, by kernel_rfl⟩
noncomputable def B_ref02_Depth (rec : (TTrust × Unit) → Option Int) (a0 : TTrust) : Option Int :=
loopO (fun (v1 : Int × Int × Unit) =>
bif (decide (v1.2.1 < ((List.length a0.Inner : Nat) : Int))) then
Option.bind (idx a0.Inner v1.2.1) fun x2 =>
Option.bind (rec ((TTrust.mk x2.Threshold x2.Nodes x2.Inner), ())) fun r3 =>
some (Sum.inl ((maxI v1.1 r3), (addI .i64 v1.2.1 (1 : Int)), ()))
else
Option.map Sum.inr (some (addI .i64 v1.1 (1 : Int)))) ((0 : Int), (0 : Int), ())
noncomputable def I_ref02_Depth : Nat → (TTrust × Unit) → Option Int := iterF (fun rec a => B_ref02_Depth rec a.1)
noncomputable def F_ref02_Depth (a0 : TTrust) : Option Int := I_ref02_Depth (SizeOf.sizeOf a0 + 1) (a0, ())
theorem e_ref02_Depth : (fun G => fnK K (.fn 115 [.ty (Ty.st .Trust)] (.one (Ty.i .i64)) G :: []) sa_ref02_Depth [.tmp 2] [.ty (Ty.st .Trust)] (.one (Ty.i .i64))) = (fun G a => B_ref02_Depth G a.1) := by kernel_rfl
theorem n_ref02_Depth : ∀ n, KFun.Sound (U := U) Try.prog (.fn 115 [.ty (Ty.st .Trust)] (.one (Ty.i .i64)) (I_ref02_Depth n))
  | 0 => ⟨ok_ref02_Depth.enters, fun a r h => by cases h⟩
  | n + 1 => fnK_sound (K := K) (r := .one (Ty.i .i64)) (Γ := .fn 115 [.ty (Ty.st .Trust)] (.one (Ty.i .i64)) (I_ref02_Depth n) :: []) (F := I_ref02_Depth (n + 1)) ok_ref02_Depth (by kernel_rfl) (by decide) ⟨n_ref02_Depth n, trivial⟩ (fun a => congrFun (congrFun e_ref02_Depth (I_ref02_Depth n)) a)
theorem s_ref02_Depth : KFun.Sound (U := U) Try.prog (.fn 115 [.ty (Ty.st .Trust)] (.one (Ty.i .i64)) fun a => F_ref02_Depth a.1) := ⟨ok_ref02_Depth.enters, fun a r h => (n_ref02_Depth _).2 a r h⟩

/-! ### trustquorum/trustquorumref02.Size -/
def sa_ref02_Size : SA U :=
 (.seq
  (.reg
  (.op ⟨(some 1), none, .box (.tmp 0)⟩
  (.op ⟨(some 2), none, .mov (.cst (.int .i64 0))⟩
  .nil)))
  (.seq
   (.reg
   (.op ⟨(some 6), none, .faddr 1 (.tmp 1)⟩
   (.op ⟨(some 7), none, .load none (.tmp 6)⟩
   (.op ⟨(some 8), none, .len false (.tmp 7)⟩
   (.op ⟨(some 9), none, .faddr 2 (.tmp 1)⟩
   (.op ⟨(some 10), none, .load none (.tmp 9)⟩
   (.op ⟨(some 11), none, .len false (.tmp 10)⟩
   (.op ⟨(some 12), none, .bin .add (.tmp 8) (.tmp 11)⟩
   (.op ⟨(some 3), none, .mov (.tmp 12)⟩
   .nil)))))))))
   (.seq
    (.seq
     (.reg
     (.op ⟨(some 13), none, .faddr 2 (.tmp 1)⟩
     (.op ⟨(some 14), none, .load none (.tmp 13)⟩
     (.op ⟨(some 15), none, .len false (.tmp 14)⟩
     (.op ⟨(some 16), none, .mov (.cst (.int .i64 0))⟩
     .nil)))))
     (.block 0
      (.loop ⟨[.val 3 (Ty.i .i64), .val 16 (Ty.i .i64)], [14, 15]⟩
       (.seq
        (.reg
        (.op ⟨(some 17), none, .bin .lss (.tmp 16) (.tmp 15)⟩
        .nil))
        (.seq
         (.cond (.tmp 17)
          .skip
          (.exit 0))
         (.seq
          (.block 1
           (.seq
            (.reg
            (.op ⟨(some 18), none, .iaddr 3 (.tmp 14) (.tmp 16)⟩
            (.op ⟨(some 19), none, .load (some 3) (.tmp 18)⟩
            (.op ⟨(some 5), none, .alloc [.int .i64 0, .nils, .nils]⟩
            (.op ⟨none, none, .store 3 (.tmp 5) (.tmp 19)⟩
            .nil)))))
            (.reg
            (.op ⟨(some 20), none, .mov (.tmp 3)⟩
            (.op ⟨(some 21), none, .load (some 3) (.tmp 5)⟩
            (.op ⟨(some 22), none, .call 116 [(.tmp 21)]⟩
            (.op ⟨(some 23), none, .bin .add (.tmp 20) (.tmp 22)⟩
            (.op ⟨(some 3), none, .mov (.tmp 23)⟩
            .nil))))))))
          (.reg
          (.op ⟨(some 24), none, .bin .add (.tmp 16) (.cst (.int .i64 1))⟩
          (.op ⟨(some 16), none, .mov (.tmp 24)⟩
          .nil)))))))))
    (.seq
     (.reg
     (.op ⟨(some 25), none, .mov (.tmp 3)⟩
     (.op ⟨(some 2), none, .mov (.tmp 25)⟩
     .nil)))
     .ret))))
theorem ok_ref02_Size : FnOk Try.prog 116 26 (SA.erase sa_ref02_Size) [.tmp 2] := ⟨Try.f116, [], Try.func116, rfl, by kernel_rfl, by kernel_rfl, by kernel_rfl⟩
noncomputable def B_ref02_Size (rec : (TTrust × Unit) → Option Int) (a0 : TTrust) : Option Int :=
loopO (fun (v1 : Int × Int × Unit) =>
bif (decide (v1.2.1 < ((List.length a0.Inner : Nat) : Int))) then
Option.bind (idx a0.Inner v1.2.1) fun x2 =>
Option.bind (rec ((TTrust.mk x2.Threshold x2.Nodes x2.Inner), ())) fun r3 =>
some (Sum.inl ((addI .i64 v1.1 r3), (addI .i64 v1.2.1 (1 : Int)), ()))
else
Option.map Sum.inr (some v1.1)) ((addI .i64 ((List.length a0.Nodes : Nat) : Int) ((List.length a0.Inner : Nat) : Int)), (0 : Int), ())
noncomputable def I_ref02_Size : Nat → (TTrust × Unit) → Option Int := iterF (fun rec a => B_ref02_Size rec a.1)
noncomputable def F_ref02_Size (a0 : TTrust) : Option Int := I_ref02_Size (SizeOf.sizeOf a0 + 1) (a0, ())
theorem e_ref02_Size : (fun G => fnK K (.fn 116 [.ty (Ty.st .Trust)] (.one (Ty.i .i64)) G :: []) sa_ref02_Size [.tmp 2] [.ty (Ty.st .Trust)] (.one (Ty.i .i64))) = (fun G a => B_ref02_Size G a.1) := by kernel_rfl
theorem n_ref02_Size : ∀ n, KFun.Sound (U := U) Try.prog (.fn 116 [.ty (Ty.st .Trust)] (.one (Ty.i .i64)) (I_ref02_Size n))
  | 0 => ⟨ok_ref02_Size.enters, fun a r h => by cases h⟩
  | n + 1 => fnK_sound (K := K) (r := .one (Ty.i .i64)) (Γ := .fn 116 [.ty (Ty.st .Trust)] (.one (Ty.i .i64)) (I_ref02_Size n) :: []) (F := I_ref02_Size (n + 1)) ok_ref02_Size (by kernel_rfl) (by decide) ⟨n_ref02_Size n, trivial⟩ (fun a => congrFun (congrFun e_ref02_Size (I_ref02_Size n)) a)
theorem s_ref02_Size : KFun.Sound (U := U) Try.prog (.fn 116 [.ty (Ty.st .Trust)] (.one (Ty.i .i64)) fun a => F_ref02_Size a.1) := ⟨ok_ref02_Size.enters, fun a r h => (n_ref02_Size _).2 a r h⟩

/-! ### trustquorum/trustquorumref01.Valid -/
def sa_ref01_Valid : SA U :=
 (.seq
  (.reg
  (.op ⟨(some 2), none, .mov (.cst (.bool false))⟩
  .nil))
  (.seq
   (.reg
   (.op ⟨(some 3), none, .mov (.tmp 0)⟩
   (.op ⟨(some 4), none, .bin .geq (.tmp 3) (.cst (.int .i64 0))⟩
   (.op ⟨(some 5), none, .mov (.tmp 4)⟩
   (.ite 5 true
    (.op ⟨(some 6), (some (5, true)), .mov (.tmp 0)⟩
    (.op ⟨(some 7), (some (5, true)), .bin .leq (.tmp 6) (.cst (.int .i64 1023))⟩
    .nil))
    8 none (.tmp 7) (.cst (.bool false))
   (.op ⟨(some 2), none, .mov (.tmp 8)⟩
   .nil))))))
   .ret))
theorem ok_ref01_Valid : FnOk Try.prog 61 9 (SA.erase sa_ref01_Valid) [.tmp 2] := ⟨Try.f61, [], Try.func61, rfl, by kernel_rfl, by kernel_rfl, by kernel_rfl⟩
noncomputable def F_ref01_Valid (a0 : Int) : Option Bool :=
Option.bind (bif (decide ((0 : Int) ≤ a0)) then
some (decide (a0 ≤ (1023 : Int)))
else some false) fun b1 =>
some b1
theorem e_ref01_Valid : fnK K [] sa_ref01_Valid [.tmp 2] [.ty (Ty.i .i64)] (.one Ty.bool) = fun a => F_ref01_Valid a.1 := by kernel_rfl
theorem s_ref01_Valid : KFun.Sound (U := U) Try.prog (.fn 61 [.ty (Ty.i .i64)] (.one Ty.bool) fun a => F_ref01_Valid a.1) := fnK_sound (K := K) (Γ := []) ok_ref01_Valid (by kernel_rfl) (by decide) trivial (fun a => congrFun e_ref01_Valid a)

/-! ### trustquorum/trustquorumref01.Has -/
def sa_ref01_Has : SA U :=
 (.seq
  (.reg
  (.op ⟨(some 4), none, .mov (.cst (.bool false))⟩
  .nil))
  (.seq
   (.reg
   (.op ⟨(some 5), none, .mov (.tmp 0)⟩
   (.op ⟨(some 6), none, .call 61 [(.tmp 5)]⟩
   (.op ⟨(some 7), none, .mov (.tmp 6)⟩
   (.ite 7 true
    (.op ⟨(some 8), (some (7, true)), .mov (.tmp 1)⟩
    (.op ⟨(some 9), (some (7, true)), .bin .geq (.tmp 8) (.cst (.int .i64 0))⟩
    .nil))
    10 none (.tmp 9) (.cst (.bool false))
   (.op ⟨(some 11), none, .mov (.tmp 10)⟩
   (.ite 11 true
    (.op ⟨(some 12), (some (11, true)), .mov (.tmp 1)⟩
    (.op ⟨(some 13), (some (11, true)), .bin .lss (.tmp 12) (.cst (.int .i64 10))⟩
    .nil))
    14 none (.tmp 13) (.cst (.bool false))
   (.op ⟨(some 15), none, .mov (.tmp 14)⟩
   (.ite 15 true
    (.op ⟨(some 16), (some (15, true)), .mov (.tmp 0)⟩
    (.op ⟨(some 17), (some (15, true)), .mov (.tmp 1)⟩
    (.op ⟨(some 18), (some (15, true)), .bin .shr (.tmp 16) (.tmp 17)⟩
    (.op ⟨(some 19), (some (15, true)), .bin .and (.tmp 18) (.cst (.int .i64 1))⟩
    (.op ⟨(some 20), (some (15, true)), .bin .eql (.tmp 19) (.cst (.int .i64 1))⟩
    .nil)))))
    21 none (.tmp 20) (.cst (.bool false))
   (.op ⟨(some 4), none, .mov (.tmp 21)⟩
   .nil))))))))))
   .ret))
theorem ok_ref01_Has : FnOk Try.prog 62 22 (SA.erase sa_ref01_Has) [.tmp 4] := ⟨Try.f62, [], Try.func62, rfl, by kernel_rfl, by kernel_rfl, by kernel_rfl⟩
noncomputable def F_ref01_Has (a0 : Int) (a1 : Int) : Option Bool :=
Option.bind (F_ref01_Valid a0) fun r1 =>
Option.bind (bif r1 then
some (decide ((0 : Int) ≤ a1))
else some false) fun b2 =>
Option.bind (bif b2 then
some (decide (a1 < (10 : Int)))
else some false) fun b3 =>
Option.bind (bif b3 then
if a1 < 0 then none else
some (decide ((andI .i64 (shrI .i64 a0 a1) (1 : Int)) = (1 : Int)))
else some false) fun b4 =>
some b4
theorem e_ref01_Has : fnK K [.fn 61 [.ty (Ty.i .i64)] (.one Ty.bool) fun a => F_ref01_Valid a.1] sa_ref01_Has [.tmp 4] [.ty (Ty.i .i64), .ty (Ty.i .i64)] (.one Ty.bool) = fun a => F_ref01_Has a.1 a.2.1 := by kernel_rfl
theorem s_ref01_Has : KFun.Sound (U := U) Try.prog (.fn 62 [.ty (Ty.i .i64), .ty (Ty.i .i64)] (.one Ty.bool) fun a => F_ref01_Has a.1 a.2.1) := fnK_sound (K := K) (Γ := [.fn 61 [.ty (Ty.i .i64)] (.one Ty.bool) fun a => F_ref01_Valid a.1]) ok_ref01_Has (by kernel_rfl) (by decide) ⟨s_ref01_Valid, trivial⟩ (fun a => congrFun e_ref01_Has a)

/-! ### trustquorum/trustquorumref01.Of -/
def sa_ref01_Of : SA U :=
 (.seq
  (.reg
  (.op ⟨(some 2), none, .mov (.cst (.int .i64 0))⟩
  (.op ⟨(some 3), none, .mov (.cst (.int .i64 0))⟩
  .nil)))
  (.seq
   (.reg
   (.op ⟨(some 4), none, .mov (.cst (.int .i64 0))⟩
   .nil))
   (.seq
    (.seq
     (.reg
     (.op ⟨(some 7), none, .mov (.tmp 0)⟩
     (.op ⟨(some 8), none, .len false (.tmp 7)⟩
     (.op ⟨(some 9), none, .mov (.cst (.int .i64 0))⟩
     .nil))))
     (.block 0
      (.loop ⟨[.val 4 (Ty.i .i64), .val 9 (Ty.i .i64)], [7, 8]⟩
       (.seq
        (.reg
        (.op ⟨(some 10), none, .bin .lss (.tmp 9) (.tmp 8)⟩
        .nil))
        (.seq
         (.cond (.tmp 10)
          .skip
          (.exit 0))
         (.seq
          (.block 1
           (.seq
            (.reg
            (.op ⟨(some 11), none, .iaddr 1 (.tmp 7) (.tmp 9)⟩
            (.op ⟨(some 12), none, .load none (.tmp 11)⟩
            (.op ⟨(some 6), none, .mov (.tmp 12)⟩
            .nil))))
            (.seq
             (.seq
              (.reg
              (.op ⟨(some 13), none, .mov (.tmp 6)⟩
              (.op ⟨(some 14), none, .bin .lss (.tmp 13) (.cst (.int .i64 0))⟩
              (.op ⟨(some 15), none, .mov (.tmp 14)⟩
              (.ite 15 false
               (.op ⟨(some 16), (some (15, false)), .mov (.tmp 6)⟩
               (.op ⟨(some 17), (some (15, false)), .bin .geq (.tmp 16) (.cst (.int .i64 10))⟩
               .nil))
               18 none (.cst (.bool true)) (.tmp 17)
              .nil)))))
              (.cond (.tmp 18)
               (.seq
                (.reg
                (.op ⟨(some 2), none, .mov (.cst (.int .i64 0))⟩
                (.op ⟨(some 3), none, .mov (.cst (.int .i64 5))⟩
                .nil)))
                .ret)
               .skip))
             (.seq
              (.seq
               (.reg
               (.op ⟨(some 19), none, .mov (.tmp 4)⟩
               (.op ⟨(some 20), none, .mov (.tmp 6)⟩
               (.op ⟨(some 21), none, .call 62 [(.tmp 19), (.tmp 20)]⟩
               .nil))))
               (.cond (.tmp 21)
                (.seq
                 (.reg
                 (.op ⟨(some 2), none, .mov (.cst (.int .i64 0))⟩
                 (.op ⟨(some 3), none, .mov (.cst (.int .i64 6))⟩
                 .nil)))
                 .ret)
                .skip))
              (.reg
              (.op ⟨(some 22), none, .mov (.tmp 4)⟩
              (.op ⟨(some 23), none, .mov (.tmp 6)⟩
              (.op ⟨(some 24), none, .bin .shl (.cst (.int .i64 1)) (.tmp 23)⟩
              (.op ⟨(some 25), none, .bin .or (.tmp 22) (.tmp 24)⟩
              (.op ⟨(some 4), none, .mov (.tmp 25)⟩
              .nil))))))))))
          (.reg
          (.op ⟨(some 26), none, .bin .add (.tmp 9) (.cst (.int .i64 1))⟩
          (.op ⟨(some 9), none, .mov (.tmp 26)⟩
          .nil)))))))))
    (.seq
     (.reg
     (.op ⟨(some 27), none, .mov (.tmp 4)⟩
     (.op ⟨(some 2), none, .mov (.tmp 27)⟩
     (.op ⟨(some 3), none, .mov (.cst (.int .i64 0))⟩
     .nil))))
     .ret))))
theorem ok_ref01_Of : FnOk Try.prog 135 28 (SA.erase sa_ref01_Of) [.tmp 2, .tmp 3] := ⟨Try.f135, [], Try.func135, rfl, by kernel_rfl, by kernel_rfl, by kernel_rfl⟩
noncomputable def F_ref01_Of (a0 : (List Int)) : Option (Int × Int × Unit) :=
loopO (fun (v1 : Int × Int × Unit) =>
bif (decide (v1.2.1 < ((List.length a0 : Nat) : Int))) then
Option.bind (idx a0 v1.2.1) fun x2 =>
Option.bind (bif (decide (x2 < (0 : Int))) then some true
else
some (decide ((10 : Int) ≤ x2))) fun b3 =>
bif b3 then
Option.map Sum.inr (some ((0 : Int), (5 : Int), ()))
else
Option.bind (F_ref01_Has v1.1 x2) fun r4 =>
bif r4 then
Option.map Sum.inr (some ((0 : Int), (6 : Int), ()))
else
if x2 < 0 then none else
some (Sum.inl ((orI .i64 v1.1 (shlI .i64 (1 : Int) x2)), (addI .i64 v1.2.1 (1 : Int)), ()))
else
Option.map Sum.inr (some (v1.1, (0 : Int), ()))) ((0 : Int), (0 : Int), ())
theorem e_ref01_Of : fnK K [.fn 62 [.ty (Ty.i .i64), .ty (Ty.i .i64)] (.one Ty.bool) fun a => F_ref01_Has a.1 a.2.1] sa_ref01_Of [.tmp 2, .tmp 3] [.ty (Ty.sl (Ty.i .i64))] (.many [(Ty.i .i64), (Ty.i .i64)]) = fun a => F_ref01_Of a.1 := by kernel_rfl
theorem s_ref01_Of : KFun.Sound (U := U) Try.prog (.fn 135 [.ty (Ty.sl (Ty.i .i64))] (.many [(Ty.i .i64), (Ty.i .i64)]) fun a => F_ref01_Of a.1) := fnK_sound (K := K) (Γ := [.fn 62 [.ty (Ty.i .i64), .ty (Ty.i .i64)] (.one Ty.bool) fun a => F_ref01_Has a.1 a.2.1]) ok_ref01_Of (by kernel_rfl) (by decide) ⟨s_ref01_Has, trivial⟩ (fun a => congrFun e_ref01_Of a)

/-! ### trustquorum/trustquorumref02.check -/
def sa_ref02_check : SA U :=
 (.seq
  (.reg
  (.op ⟨(some 1), none, .box (.tmp 0)⟩
  (.op ⟨(some 2), none, .mov (.cst (.int .i64 0))⟩
  .nil)))
  (.seq
   (.seq
    (.reg
    (.op ⟨(some 10), none, .faddr 0 (.tmp 1)⟩
    (.op ⟨(some 11), none, .load none (.tmp 10)⟩
    (.op ⟨(some 12), none, .bin .lss (.tmp 11) (.cst (.int .i64 1))⟩
    (.op ⟨(some 13), none, .mov (.tmp 12)⟩
    (.ite 13 false
     (.op ⟨(some 14), (some (13, false)), .faddr 0 (.tmp 1)⟩
     (.op ⟨(some 15), (some (13, false)), .load none (.tmp 14)⟩
     (.op ⟨(some 16), (some (13, false)), .faddr 1 (.tmp 1)⟩
     (.op ⟨(some 17), (some (13, false)), .load none (.tmp 16)⟩
     (.op ⟨(some 18), (some (13, false)), .len false (.tmp 17)⟩
     (.op ⟨(some 19), (some (13, false)), .faddr 2 (.tmp 1)⟩
     (.op ⟨(some 20), (some (13, false)), .load none (.tmp 19)⟩
     (.op ⟨(some 21), (some (13, false)), .len false (.tmp 20)⟩
     (.op ⟨(some 22), (some (13, false)), .bin .add (.tmp 18) (.tmp 21)⟩
     (.op ⟨(some 23), (some (13, false)), .bin .gtr (.tmp 15) (.tmp 22)⟩
     .nil))))))))))
     24 none (.cst (.bool true)) (.tmp 23)
    .nil))))))
    (.cond (.tmp 24)
     (.seq
      (.reg
      (.op ⟨(some 2), none, .mov (.cst (.int .i64 4))⟩
      .nil))
      .ret)
     .skip))
   (.seq
    (.seq
     (.reg
     (.op ⟨(some 25), none, .faddr 1 (.tmp 1)⟩
     (.op ⟨(some 26), none, .load none (.tmp 25)⟩
     (.op ⟨(some 27), none, .len false (.tmp 26)⟩
     (.op ⟨(some 28), none, .mov (.cst (.int .i64 0))⟩
     .nil)))))
     (.block 0
      (.loop ⟨[.val 28 (Ty.i .i64)], [1, 26, 27]⟩
       (.seq
        (.reg
        (.op ⟨(some 29), none, .bin .lss (.tmp 28) (.tmp 27)⟩
        .nil))
        (.seq
         (.cond (.tmp 29)
          .skip
          (.exit 0))
         (.seq
          (.block 1
           (.seq
            (.reg
            (.op ⟨(some 30), none, .iaddr 1 (.tmp 26) (.tmp 28)⟩
            (.op ⟨(some 31), none, .load none (.tmp 30)⟩
            (.op ⟨(some 4), none, .mov (.tmp 31)⟩
            .nil))))
            (.seq
             (.reg
             (.op ⟨(some 32), none, .mov (.tmp 4)⟩
             (.op ⟨(some 33), none, .bin .lss (.tmp 32) (.cst (.int .i64 0))⟩
             (.op ⟨(some 34), none, .mov (.tmp 33)⟩
             (.ite 34 false
              (.op ⟨(some 35), (some (34, false)), .mov (.tmp 4)⟩
              (.op ⟨(some 36), (some (34, false)), .bin .geq (.tmp 35) (.cst (.int .i64 10))⟩
              .nil))
              37 none (.cst (.bool true)) (.tmp 36)
             .nil)))))
             (.cond (.tmp 37)
              (.seq
               (.reg
               (.op ⟨(some 2), none, .mov (.cst (.int .i64 5))⟩
               .nil))
               .ret)
              .skip))))
          (.reg
          (.op ⟨(some 38), none, .bin .add (.tmp 28) (.cst (.int .i64 1))⟩
          (.op ⟨(some 28), none, .mov (.tmp 38)⟩
          .nil)))))))))
    (.seq
     (.seq
      (.reg
      (.op ⟨(some 40), none, .faddr 1 (.tmp 1)⟩
      (.op ⟨(some 41), none, .load none (.tmp 40)⟩
      (.op ⟨(some 42), none, .call 135 [(.tmp 41)]⟩
      (.op ⟨(some 39), none, .mov (.tmp 42)⟩
      (.op ⟨(some 43), none, .extr 0 (.tmp 39)⟩
      (.op ⟨(some 44), none, .extr 1 (.tmp 39)⟩
      (.op ⟨(some 5), none, .mov (.tmp 43)⟩
      (.op ⟨(some 6), none, .mov (.tmp 44)⟩
      .nil)))))))))
      (.seq
       (.reg
       (.op ⟨(some 45), none, .mov (.tmp 6)⟩
       (.op ⟨(some 46), none, .bin .neq (.tmp 45) (.cst (.int .i64 0))⟩
       .nil)))
       (.cond (.tmp 46)
        (.seq
         (.reg
         (.op ⟨(some 47), none, .mov (.tmp 6)⟩
         (.op ⟨(some 2), none, .mov (.tmp 47)⟩
         .nil)))
         .ret)
        .skip)))
     (.seq
      (.seq
       (.reg
       (.op ⟨(some 48), none, .faddr 2 (.tmp 1)⟩
       (.op ⟨(some 49), none, .load none (.tmp 48)⟩
       (.op ⟨(some 50), none, .len false (.tmp 49)⟩
       (.op ⟨(some 51), none, .mov (.cst (.int .i64 0))⟩
       .nil)))))
       (.block 2
        (.loop ⟨[.val 51 (Ty.i .i64)], [49, 50]⟩
         (.seq
          (.reg
          (.op ⟨(some 52), none, .bin .lss (.tmp 51) (.tmp 50)⟩
          .nil))
          (.seq
           (.cond (.tmp 52)
            .skip
            (.exit 2))
           (.seq
            (.block 3
             (.seq
              (.reg
              (.op ⟨(some 53), none, .iaddr 3 (.tmp 49) (.tmp 51)⟩
              (.op ⟨(some 54), none, .load (some 3) (.tmp 53)⟩
              (.op ⟨(some 8), none, .alloc [.int .i64 0, .nils, .nils]⟩
              (.op ⟨none, none, .store 3 (.tmp 8) (.tmp 54)⟩
              .nil)))))
              (.seq
               (.reg
               (.op ⟨(some 55), none, .load (some 3) (.tmp 8)⟩
               (.op ⟨(some 56), none, .call 117 [(.tmp 55)]⟩
               (.op ⟨(some 9), none, .mov (.tmp 56)⟩
               .nil))))
               (.seq
                (.reg
                (.op ⟨(some 57), none, .mov (.tmp 9)⟩
                (.op ⟨(some 58), none, .bin .neq (.tmp 57) (.cst (.int .i64 0))⟩
                .nil)))
                (.cond (.tmp 58)
                 (.seq
                  (.reg
                  (.op ⟨(some 59), none, .mov (.tmp 9)⟩
                  (.op ⟨(some 2), none, .mov (.tmp 59)⟩
                  .nil)))
                  .ret)
                 .skip)))))
            (.reg
            (.op ⟨(some 60), none, .bin .add (.tmp 51) (.cst (.int .i64 1))⟩
            (.op ⟨(some 51), none, .mov (.tmp 60)⟩
            .nil)))))))))
      (.seq
       (.reg
       (.op ⟨(some 2), none, .mov (.cst (.int .i64 0))⟩
       .nil))
       .ret))))))
theorem ok_ref02_check : FnOk Try.prog 117 61 (SA.erase sa_ref02_check) [.tmp 2] := ⟨Try.f117, [], Try.func117, rfl, by kernel_rfl, by kernel_rfl, by kernel_rfl⟩
noncomputable def B_ref02_check (rec : (TTrust × Unit) → Option Int) (a0 : TTrust) : Option Int :=
Option.bind (bif (decide (a0.Threshold < (1 : Int))) then some true
else
some (decide ((addI .i64 ((List.length a0.Nodes : Nat) : Int) ((List.length a0.Inner : Nat) : Int)) < a0.Threshold))) fun b1 =>
bif b1 then
some (4 : Int)
else
loopO (fun (v2 : Int × Unit) =>
bif (decide (v2.1 < ((List.length a0.Nodes : Nat) : Int))) then
Option.bind (idx a0.Nodes v2.1) fun x3 =>
Option.bind (bif (decide (x3 < (0 : Int))) then some true
else
some (decide ((10 : Int) ≤ x3))) fun b4 =>
bif b4 then
Option.map Sum.inr (some (5 : Int))
else
some (Sum.inl ((addI .i64 v2.1 (1 : Int)), ()))
else
Option.map Sum.inr (Option.bind (F_ref01_Of a0.Nodes) fun r5 =>
bif (!decide (r5.2.1 = (0 : Int))) then
some r5.2.1
else
loopO (fun (v6 : Int × Unit) =>
bif (decide (v6.1 < ((List.length a0.Inner : Nat) : Int))) then
Option.bind (idx a0.Inner v6.1) fun x7 =>
Option.bind (rec ((TTrust.mk x7.Threshold x7.Nodes x7.Inner), ())) fun r8 =>
bif (!decide (r8 = (0 : Int))) then
Option.map Sum.inr (some r8)
else
some (Sum.inl ((addI .i64 v6.1 (1 : Int)), ()))
else
Option.map Sum.inr (some (0 : Int))) ((0 : Int), ()))) ((0 : Int), ())
noncomputable def I_ref02_check : Nat → (TTrust × Unit) → Option Int := iterF (fun rec a => B_ref02_check rec a.1)
noncomputable def F_ref02_check (a0 : TTrust) : Option Int := I_ref02_check (SizeOf.sizeOf a0 + 1) (a0, ())
theorem e_ref02_check : (fun G => fnK K (.fn 117 [.ty (Ty.st .Trust)] (.one (Ty.i .i64)) G :: [.fn 135 [.ty (Ty.sl (Ty.i .i64))] (.many [(Ty.i .i64), (Ty.i .i64)]) fun a => F_ref01_Of a.1]) sa_ref02_check [.tmp 2] [.ty (Ty.st .Trust)] (.one (Ty.i .i64))) = (fun G a => B_ref02_check G a.1) := by kernel_rfl
theorem n_ref02_check : ∀ n, KFun.Sound (U := U) Try.prog (.fn 117 [.ty (Ty.st .Trust)] (.one (Ty.i .i64)) (I_ref02_check n))
  | 0 => ⟨ok_ref02_check.enters, fun a r h => by cases h⟩
  | n + 1 => fnK_sound (K := K) (r := .one (Ty.i .i64)) (Γ := .fn 117 [.ty (Ty.st .Trust)] (.one (Ty.i .i64)) (I_ref02_check n) :: [.fn 135 [.ty (Ty.sl (Ty.i .i64))] (.many [(Ty.i .i64), (Ty.i .i64)]) fun a => F_ref01_Of a.1]) (F := I_ref02_check (n + 1)) ok_ref02_check (by kernel_rfl) (by decide) ⟨n_ref02_check n, s_ref01_Of, trivial⟩ (fun a => congrFun (congrFun e_ref02_check (I_ref02_check n)) a)
theorem s_ref02_check : KFun.Sound (U := U) Try.prog (.fn 117 [.ty (Ty.st .Trust)] (.one (Ty.i .i64)) fun a => F_ref02_check a.1) := ⟨ok_ref02_check.enters, fun a r h => (n_ref02_check _).2 a r h⟩

/-! ### trustquorum/trustquorumref02.Valid -/
def sa_ref02_Valid : SA U :=
 (.seq
  (.reg
  (.op ⟨(some 1), none, .box (.tmp 0)⟩
  (.op ⟨(some 2), none, .mov (.cst (.int .i64 0))⟩
  .nil)))
  (.seq
   (.seq
    (.reg
    (.op ⟨(some 3), none, .load (some 3) (.tmp 1)⟩
    (.op ⟨(some 4), none, .call 115 [(.tmp 3)]⟩
    (.op ⟨(some 5), none, .bin .gtr (.tmp 4) (.cst (.int .i64 4))⟩
    (.op ⟨(some 6), none, .mov (.tmp 5)⟩
    (.ite 6 false
     (.op ⟨(some 7), (some (6, false)), .load (some 3) (.tmp 1)⟩
     (.op ⟨(some 8), (some (6, false)), .call 116 [(.tmp 7)]⟩
     (.op ⟨(some 9), (some (6, false)), .bin .gtr (.tmp 8) (.cst (.int .i64 200))⟩
     .nil)))
     10 none (.cst (.bool true)) (.tmp 9)
    .nil))))))
    (.cond (.tmp 10)
     (.seq
      (.reg
      (.op ⟨(some 2), none, .mov (.cst (.int .i64 3))⟩
      .nil))
      .ret)
     .skip))
   (.seq
    (.reg
    (.op ⟨(some 11), none, .load (some 3) (.tmp 1)⟩
    (.op ⟨(some 12), none, .call 117 [(.tmp 11)]⟩
    (.op ⟨(some 2), none, .mov (.tmp 12)⟩
    .nil))))
    .ret)))
theorem ok_ref02_Valid : FnOk Try.prog 87 13 (SA.erase sa_ref02_Valid) [.tmp 2] := ⟨Try.f87, [], Try.func87, rfl, by kernel_rfl, by kernel_rfl, by kernel_rfl⟩
noncomputable def F_ref02_Valid (a0 : TTrust) : Option Int :=
Option.bind (F_ref02_Depth (TTrust.mk a0.Threshold a0.Nodes a0.Inner)) fun r1 =>
Option.bind (bif (decide ((4 : Int) < r1)) then some true
else
Option.bind (F_ref02_Size (TTrust.mk a0.Threshold a0.Nodes a0.Inner)) fun r2 =>
some (decide ((200 : Int) < r2))) fun b3 =>
bif b3 then
some (3 : Int)
else
Option.bind (F_ref02_check (TTrust.mk a0.Threshold a0.Nodes a0.Inner)) fun r4 =>
some r4
theorem e_ref02_Valid : fnK K [.fn 115 [.ty (Ty.st .Trust)] (.one (Ty.i .i64)) fun a => F_ref02_Depth a.1, .fn 116 [.ty (Ty.st .Trust)] (.one (Ty.i .i64)) fun a => F_ref02_Size a.1, .fn 117 [.ty (Ty.st .Trust)] (.one (Ty.i .i64)) fun a => F_ref02_check a.1] sa_ref02_Valid [.tmp 2] [.ty (Ty.st .Trust)] (.one (Ty.i .i64)) = fun a => F_ref02_Valid a.1 := by kernel_rfl
theorem s_ref02_Valid : KFun.Sound (U := U) Try.prog (.fn 87 [.ty (Ty.st .Trust)] (.one (Ty.i .i64)) fun a => F_ref02_Valid a.1) := fnK_sound (K := K) (Γ := [.fn 115 [.ty (Ty.st .Trust)] (.one (Ty.i .i64)) fun a => F_ref02_Depth a.1, .fn 116 [.ty (Ty.st .Trust)] (.one (Ty.i .i64)) fun a => F_ref02_Size a.1, .fn 117 [.ty (Ty.st .Trust)] (.one (Ty.i .i64)) fun a => F_ref02_check a.1]) ok_ref02_Valid (by kernel_rfl) (by decide) ⟨s_ref02_Depth, s_ref02_Size, s_ref02_check, trivial⟩ (fun a => congrFun e_ref02_Valid a)

/-! ### trustquorum/trustquorumref23.Valid -/
def sa_ref23_Valid : SA U :=
 (.seq
  (.reg
  (.op ⟨(some 1), none, .box (.tmp 0)⟩
  (.op ⟨(some 2), none, .mov (.cst (.bool false))⟩
  .nil)))
  (.seq
   (.reg
   (.op ⟨(some 3), none, .faddr 0 (.tmp 1)⟩
   (.op ⟨(some 4), none, .load none (.tmp 3)⟩
   (.op ⟨(some 5), none, .bin .geq (.tmp 4) (.cst (.int .i64 1))⟩
   (.op ⟨(some 6), none, .mov (.tmp 5)⟩
   (.ite 6 true
    (.op ⟨(some 7), (some (6, true)), .faddr 0 (.tmp 1)⟩
    (.op ⟨(some 8), (some (6, true)), .load none (.tmp 7)⟩
    (.op ⟨(some 9), (some (6, true)), .bin .leq (.tmp 8) (.cst (.int .i64 1000))⟩
    .nil)))
    10 none (.tmp 9) (.cst (.bool false))
   (.op ⟨(some 11), none, .mov (.tmp 10)⟩
   (.ite 11 false
    (.op ⟨(some 12), (some (11, false)), .faddr 0 (.tmp 1)⟩
    (.op ⟨(some 13), (some (11, false)), .load none (.tmp 12)⟩
    (.op ⟨(some 14), (some (11, false)), .bin .eql (.tmp 13) (.cst (.int .i64 1000000))⟩
    .nil)))
    15 none (.cst (.bool true)) (.tmp 14)
   (.op ⟨(some 16), none, .mov (.tmp 15)⟩
   (.ite 16 true
    (.op ⟨(some 17), (some (16, true)), .faddr 1 (.tmp 1)⟩
    (.op ⟨(some 18), (some (16, true)), .load none (.tmp 17)⟩
    (.op ⟨(some 19), (some (16, true)), .len true (.tmp 18)⟩
    (.op ⟨(some 20), (some (16, true)), .bin .geq (.tmp 19) (.cst (.int .i64 1))⟩
    .nil))))
    21 none (.tmp 20) (.cst (.bool false))
   (.op ⟨(some 22), none, .mov (.tmp 21)⟩
   (.ite 22 true
    (.op ⟨(some 23), (some (22, true)), .faddr 1 (.tmp 1)⟩
    (.op ⟨(some 24), (some (22, true)), .load none (.tmp 23)⟩
    (.op ⟨(some 25), (some (22, true)), .len true (.tmp 24)⟩
    (.op ⟨(some 26), (some (22, true)), .bin .leq (.tmp 25) (.cst (.int .i64 200))⟩
    .nil))))
    27 none (.tmp 26) (.cst (.bool false))
   (.op ⟨(some 2), none, .mov (.tmp 27)⟩
   .nil)))))))))))))
   .ret))
theorem ok_ref23_Valid : FnOk Try.prog 88 28 (SA.erase sa_ref23_Valid) [.tmp 2] := ⟨Try.f88, [], Try.func88, rfl, by kernel_rfl, by kernel_rfl, by kernel_rfl⟩
noncomputable def F_ref23_Valid (a0 : TBallot) : Option Bool :=
Option.bind (bif (decide ((1 : Int) ≤ a0.Counter)) then
some (decide (a0.Counter ≤ (1000 : Int)))
else some false) fun b1 =>
Option.bind (bif b1 then some true
else
some (decide (a0.Counter = (1000000 : Int)))) fun b2 =>
Option.bind (bif b2 then
some (decide ((1 : Int) ≤ ((ByteArray.size a0.Value : Nat) : Int)))
else some false) fun b3 =>
Option.bind (bif b3 then
some (decide (((ByteArray.size a0.Value : Nat) : Int) ≤ (200 : Int)))
else some false) fun b4 =>
some b4
theorem e_ref23_Valid : fnK K [] sa_ref23_Valid [.tmp 2] [.ty (Ty.st .Ballot)] (.one Ty.bool) = fun a => F_ref23_Valid a.1 := by kernel_rfl
theorem s_ref23_Valid : KFun.Sound (U := U) Try.prog (.fn 88 [.ty (Ty.st .Ballot)] (.one Ty.bool) fun a => F_ref23_Valid a.1) := fnK_sound (K := K) (Γ := []) ok_ref23_Valid (by kernel_rfl) (by decide) trivial (fun a => congrFun e_ref23_Valid a)

/-! ### trustquorum/trustquorumref23.Zero -/
def sa_ref23_Zero : SA U :=
 (.seq
  (.reg
  (.op ⟨(some 1), none, .box (.tmp 0)⟩
  (.op ⟨(some 2), none, .mov (.cst (.bool false))⟩
  .nil)))
  (.seq
   (.reg
   (.op ⟨(some 3), none, .load (some 2) (.tmp 1)⟩
   (.op ⟨(some 4), none, .build [.int .i64 0, .str ⟨#[]⟩] []⟩
   (.op ⟨(some 5), none, .eq2 false (.tmp 3) (.tmp 4)⟩
   (.op ⟨(some 2), none, .mov (.tmp 5)⟩
   .nil)))))
   .ret))
theorem ok_ref23_Zero : FnOk Try.prog 20 6 (SA.erase sa_ref23_Zero) [.tmp 2] := ⟨Try.f20, [], Try.func20, rfl, by kernel_rfl, by kernel_rfl, by kernel_rfl⟩
noncomputable def F_ref23_Zero (a0 : TBallot) : Option Bool :=
some (eq2 false a0.Counter (0 : Int) a0.Value (ByteArray.mk #[]))
theorem e_ref23_Zero : fnK K [] sa_ref23_Zero [.tmp 2] [.ty (Ty.st .Ballot)] (.one Ty.bool) = fun a => F_ref23_Zero a.1 := by kernel_rfl
theorem s_ref23_Zero : KFun.Sound (U := U) Try.prog (.fn 20 [.ty (Ty.st .Ballot)] (.one Ty.bool) fun a => F_ref23_Zero a.1) := fnK_sound (K := K) (Γ := []) ok_ref23_Zero (by kernel_rfl) (by decide) trivial (fun a => congrFun e_ref23_Zero a)

/-! ### trustquorum/trustquorumref23.LessValue -/
def sa_ref23_LessValue : SA U :=
 (.seq
  (.reg
  (.op ⟨(some 4), none, .mov (.cst (.bool false))⟩
  .nil))
  (.seq
   (.seq
    (.reg
    (.op ⟨(some 5), none, .mov (.tmp 0)⟩
    (.op ⟨(some 6), none, .len true (.tmp 5)⟩
    (.op ⟨(some 7), none, .mov (.tmp 1)⟩
    (.op ⟨(some 8), none, .len true (.tmp 7)⟩
    (.op ⟨(some 9), none, .bin .neq (.tmp 6) (.tmp 8)⟩
    .nil))))))
    (.cond (.tmp 9)
     (.seq
      (.reg
      (.op ⟨(some 10), none, .mov (.tmp 0)⟩
      (.op ⟨(some 11), none, .len true (.tmp 10)⟩
      (.op ⟨(some 12), none, .mov (.tmp 1)⟩
      (.op ⟨(some 13), none, .len true (.tmp 12)⟩
      (.op ⟨(some 14), none, .bin .lss (.tmp 11) (.tmp 13)⟩
      (.op ⟨(some 4), none, .mov (.tmp 14)⟩
      .nil)))))))
      .ret)
     .skip))
   (.seq
    (.reg
    (.op ⟨(some 15), none, .mov (.tmp 0)⟩
    (.op ⟨(some 16), none, .mov (.tmp 1)⟩
    (.op ⟨(some 17), none, .bin .lss (.tmp 15) (.tmp 16)⟩
    (.op ⟨(some 4), none, .mov (.tmp 17)⟩
    .nil)))))
    .ret)))
theorem ok_ref23_LessValue : FnOk Try.prog 51 18 (SA.erase sa_ref23_LessValue) [.tmp 4] := ⟨Try.f51, [], Try.func51, rfl, by kernel_rfl, by kernel_rfl, by kernel_rfl⟩
noncomputable def F_ref23_LessValue (a0 : ByteArray) (a1 : ByteArray) : Option Bool :=
bif (!decide (((ByteArray.size a0 : Nat) : Int) = ((ByteArray.size a1 : Nat) : Int))) then
some (decide (((ByteArray.size a0 : Nat) : Int) < ((ByteArray.size a1 : Nat) : Int)))
else
some (sless a0 a1)
theorem e_ref23_LessValue : fnK K [] sa_ref23_LessValue [.tmp 4] [.ty Ty.str, .ty Ty.str] (.one Ty.bool) = fun a => F_ref23_LessValue a.1 a.2.1 := by kernel_rfl
theorem s_ref23_LessValue : KFun.Sound (U := U) Try.prog (.fn 51 [.ty Ty.str, .ty Ty.str] (.one Ty.bool) fun a => F_ref23_LessValue a.1 a.2.1) := fnK_sound (K := K) (Γ := []) ok_ref23_LessValue (by kernel_rfl) (by decide) trivial (fun a => congrFun e_ref23_LessValue a)

/-! ### trustquorum/trustquorumref23.Less -/
def sa_ref23_Less : SA U :=
 (.seq
  (.reg
  (.op ⟨(some 2), none, .box (.tmp 0)⟩
  (.op ⟨(some 3), none, .box (.tmp 1)⟩
  (.op ⟨(some 4), none, .mov (.cst (.bool false))⟩
  .nil))))
  (.seq
   (.seq
    (.reg
    (.op ⟨(some 5), none, .faddr 0 (.tmp 2)⟩
    (.op ⟨(some 6), none, .load none (.tmp 5)⟩
    (.op ⟨(some 7), none, .faddr 0 (.tmp 3)⟩
    (.op ⟨(some 8), none, .load none (.tmp 7)⟩
    (.op ⟨(some 9), none, .bin .neq (.tmp 6) (.tmp 8)⟩
    .nil))))))
    (.cond (.tmp 9)
     (.seq
      (.reg
      (.op ⟨(some 10), none, .faddr 0 (.tmp 2)⟩
      (.op ⟨(some 11), none, .load none (.tmp 10)⟩
      (.op ⟨(some 12), none, .faddr 0 (.tmp 3)⟩
      (.op ⟨(some 13), none, .load none (.tmp 12)⟩
      (.op ⟨(some 14), none, .bin .lss (.tmp 11) (.tmp 13)⟩
      (.op ⟨(some 4), none, .mov (.tmp 14)⟩
      .nil)))))))
      .ret)
     .skip))
   (.seq
    (.reg
    (.op ⟨(some 15), none, .faddr 1 (.tmp 2)⟩
    (.op ⟨(some 16), none, .load none (.tmp 15)⟩
    (.op ⟨(some 17), none, .faddr 1 (.tmp 3)⟩
    (.op ⟨(some 18), none, .load none (.tmp 17)⟩
    (.op ⟨(some 19), none, .call 51 [(.tmp 16), (.tmp 18)]⟩
    (.op ⟨(some 4), none, .mov (.tmp 19)⟩
    .nil)))))))
    .ret)))
theorem ok_ref23_Less : FnOk Try.prog 21 20 (SA.erase sa_ref23_Less) [.tmp 4] := ⟨Try.f21, [], Try.func21, rfl, by kernel_rfl, by kernel_rfl, by kernel_rfl⟩
noncomputable def F_ref23_Less (a0 : TBallot) (a1 : TBallot) : Option Bool :=
bif (!decide (a0.Counter = a1.Counter)) then
some (decide (a0.Counter < a1.Counter))
else
Option.bind (F_ref23_LessValue a0.Value a1.Value) fun r1 =>
some r1
theorem e_ref23_Less : fnK K [.fn 51 [.ty Ty.str, .ty Ty.str] (.one Ty.bool) fun a => F_ref23_LessValue a.1 a.2.1] sa_ref23_Less [.tmp 4] [.ty (Ty.st .Ballot), .ty (Ty.st .Ballot)] (.one Ty.bool) = fun a => F_ref23_Less a.1 a.2.1 := by kernel_rfl
theorem s_ref23_Less : KFun.Sound (U := U) Try.prog (.fn 21 [.ty (Ty.st .Ballot), .ty (Ty.st .Ballot)] (.one Ty.bool) fun a => F_ref23_Less a.1 a.2.1) := fnK_sound (K := K) (Γ := [.fn 51 [.ty Ty.str, .ty Ty.str] (.one Ty.bool) fun a => F_ref23_LessValue a.1 a.2.1]) ok_ref23_Less (by kernel_rfl) (by decide) ⟨s_ref23_LessValue, trivial⟩ (fun a => congrFun e_ref23_Less a)

/-! ### trustquorum/trustquorumref23.Compatible -/
def sa_ref23_Compatible : SA U :=
 (.seq
  (.reg
  (.op ⟨(some 2), none, .box (.tmp 0)⟩
  (.op ⟨(some 3), none, .box (.tmp 1)⟩
  (.op ⟨(some 4), none, .mov (.cst (.bool false))⟩
  .nil))))
  (.seq
   (.reg
   (.op ⟨(some 5), none, .faddr 1 (.tmp 2)⟩
   (.op ⟨(some 6), none, .load none (.tmp 5)⟩
   (.op ⟨(some 7), none, .faddr 1 (.tmp 3)⟩
   (.op ⟨(some 8), none, .load none (.tmp 7)⟩
   (.op ⟨(some 9), none, .bin .eql (.tmp 6) (.tmp 8)⟩
   (.op ⟨(some 4), none, .mov (.tmp 9)⟩
   .nil)))))))
   .ret))
theorem ok_ref23_Compatible : FnOk Try.prog 22 10 (SA.erase sa_ref23_Compatible) [.tmp 4] := ⟨Try.f22, [], Try.func22, rfl, by kernel_rfl, by kernel_rfl, by kernel_rfl⟩
noncomputable def F_ref23_Compatible (a0 : TBallot) (a1 : TBallot) : Option Bool :=
some (decide (a0.Value = a1.Value))
theorem e_ref23_Compatible : fnK K [] sa_ref23_Compatible [.tmp 4] [.ty (Ty.st .Ballot), .ty (Ty.st .Ballot)] (.one Ty.bool) = fun a => F_ref23_Compatible a.1 a.2.1 := by kernel_rfl
theorem s_ref23_Compatible : KFun.Sound (U := U) Try.prog (.fn 22 [.ty (Ty.st .Ballot), .ty (Ty.st .Ballot)] (.one Ty.bool) fun a => F_ref23_Compatible a.1 a.2.1) := fnK_sound (K := K) (Γ := []) ok_ref23_Compatible (by kernel_rfl) (by decide) trivial (fun a => congrFun e_ref23_Compatible a)

/-! ### trustquorum/trustquorumref23.Covers -/
def sa_ref23_Covers : SA U :=
 (.seq
  (.reg
  (.op ⟨(some 2), none, .box (.tmp 0)⟩
  (.op ⟨(some 3), none, .box (.tmp 1)⟩
  (.op ⟨(some 4), none, .mov (.cst (.bool false))⟩
  .nil))))
  (.seq
   (.reg
   (.op ⟨(some 5), none, .load (some 2) (.tmp 2)⟩
   (.op ⟨(some 6), none, .call 20 [(.tmp 5)]⟩
   (.op ⟨(some 7), none, .not (.tmp 6)⟩
   (.op ⟨(some 8), none, .mov (.tmp 7)⟩
   (.ite 8 true
    (.op ⟨(some 9), (some (8, true)), .load (some 2) (.tmp 2)⟩
    (.op ⟨(some 10), (some (8, true)), .load (some 2) (.tmp 3)⟩
    (.op ⟨(some 11), (some (8, true)), .call 22 [(.tmp 9), (.tmp 10)]⟩
    .nil)))
    12 none (.tmp 11) (.cst (.bool false))
   (.op ⟨(some 13), none, .mov (.tmp 12)⟩
   (.ite 13 true
    (.op ⟨(some 14), (some (13, true)), .faddr 0 (.tmp 2)⟩
    (.op ⟨(some 15), (some (13, true)), .load none (.tmp 14)⟩
    (.op ⟨(some 16), (some (13, true)), .faddr 0 (.tmp 3)⟩
    (.op ⟨(some 17), (some (13, true)), .load none (.tmp 16)⟩
    (.op ⟨(some 18), (some (13, true)), .bin .geq (.tmp 15) (.tmp 17)⟩
    .nil)))))
    19 none (.tmp 18) (.cst (.bool false))
   (.op ⟨(some 4), none, .mov (.tmp 19)⟩
   .nil)))))))))
   .ret))
theorem ok_ref23_Covers : FnOk Try.prog 29 20 (SA.erase sa_ref23_Covers) [.tmp 4] := ⟨Try.f29, [], Try.func29, rfl, by kernel_rfl, by kernel_rfl, by kernel_rfl⟩
noncomputable def F_ref23_Covers (a0 : TBallot) (a1 : TBallot) : Option Bool :=
Option.bind (F_ref23_Zero a0) fun r1 =>
Option.bind (bif (!r1) then
Option.bind (F_ref23_Compatible a0 a1) fun r2 =>
some r2
else some false) fun b3 =>
Option.bind (bif b3 then
some (decide (a1.Counter ≤ a0.Counter))
else some false) fun b4 =>
some b4
theorem e_ref23_Covers : fnK K [.fn 20 [.ty (Ty.st .Ballot)] (.one Ty.bool) fun a => F_ref23_Zero a.1, .fn 22 [.ty (Ty.st .Ballot), .ty (Ty.st .Ballot)] (.one Ty.bool) fun a => F_ref23_Compatible a.1 a.2.1] sa_ref23_Covers [.tmp 4] [.ty (Ty.st .Ballot), .ty (Ty.st .Ballot)] (.one Ty.bool) = fun a => F_ref23_Covers a.1 a.2.1 := by kernel_rfl
theorem s_ref23_Covers : KFun.Sound (U := U) Try.prog (.fn 29 [.ty (Ty.st .Ballot), .ty (Ty.st .Ballot)] (.one Ty.bool) fun a => F_ref23_Covers a.1 a.2.1) := fnK_sound (K := K) (Γ := [.fn 20 [.ty (Ty.st .Ballot)] (.one Ty.bool) fun a => F_ref23_Zero a.1, .fn 22 [.ty (Ty.st .Ballot), .ty (Ty.st .Ballot)] (.one Ty.bool) fun a => F_ref23_Compatible a.1 a.2.1]) ok_ref23_Covers (by kernel_rfl) (by decide) ⟨s_ref23_Zero, s_ref23_Compatible, trivial⟩ (fun a => congrFun e_ref23_Covers a)

/-! ### trustquorum/trustquorumref23.Prepares -/
def sa_ref23_Prepares : SA U :=
 (.seq
  (.reg
  (.op ⟨(some 3), none, .box (.tmp 0)⟩
  (.op ⟨(some 4), none, .box (.tmp 1)⟩
  (.op ⟨(some 5), none, .box (.tmp 2)⟩
  (.op ⟨(some 6), none, .mov (.cst (.bool false))⟩
  .nil)))))
  (.seq
   (.reg
   (.op ⟨(some 7), none, .load (some 2) (.tmp 3)⟩
   (.op ⟨(some 8), none, .load (some 2) (.tmp 5)⟩
   (.op ⟨(some 9), none, .call 29 [(.tmp 7), (.tmp 8)]⟩
   (.op ⟨(some 10), none, .mov (.tmp 9)⟩
   (.ite 10 false
    (.op ⟨(some 11), (some (10, false)), .load (some 2) (.tmp 4)⟩
    (.op ⟨(some 12), (some (10, false)), .load (some 2) (.tmp 5)⟩
    (.op ⟨(some 13), (some (10, false)), .call 29 [(.tmp 11), (.tmp 12)]⟩
    .nil)))
    14 none (.cst (.bool true)) (.tmp 13)
   (.op ⟨(some 15), none, .mov (.tmp 14)⟩
   (.ite 15 false
    (.op ⟨(some 16), (some (15, false)), .load (some 2) (.tmp 4)⟩
    (.op ⟨(some 17), (some (15, false)), .call 20 [(.tmp 16)]⟩
    (.op ⟨(some 18), (some (15, false)), .not (.tmp 17)⟩
    (.op ⟨(some 19), (some (15, false)), .mov (.tmp 18)⟩
    (.ite 19 true
     (.op ⟨(some 20), (some (19, true)), .load (some 2) (.tmp 5)⟩
     (.op ⟨(some 21), (some (19, true)), .load (some 2) (.tmp 4)⟩
     (.op ⟨(some 22), (some (19, true)), .call 21 [(.tmp 20), (.tmp 21)]⟩
     .nil)))
     23 (some (15, false)) (.tmp 22) (.cst (.bool false))
    .nil)))))
    24 none (.cst (.bool true)) (.tmp 23)
   (.op ⟨(some 6), none, .mov (.tmp 24)⟩
   .nil)))))))))
   .ret))
theorem ok_ref23_Prepares : FnOk Try.prog 23 25 (SA.erase sa_ref23_Prepares) [.tmp 6] := ⟨Try.f23, [], Try.func23, rfl, by kernel_rfl, by kernel_rfl, by kernel_rfl⟩
noncomputable def F_ref23_Prepares (a0 : TBallot) (a1 : TBallot) (a2 : TBallot) : Option Bool :=
Option.bind (F_ref23_Covers a0 a2) fun r1 =>
Option.bind (bif r1 then some true
else
Option.bind (F_ref23_Covers a1 a2) fun r2 =>
some r2) fun b3 =>
Option.bind (bif b3 then some true
else
Option.bind (F_ref23_Zero a1) fun r4 =>
Option.bind (bif (!r4) then
Option.bind (F_ref23_Less a2 a1) fun r5 =>
some r5
else some false) fun b6 =>
some b6) fun b7 =>
some b7
theorem e_ref23_Prepares : fnK K [.fn 29 [.ty (Ty.st .Ballot), .ty (Ty.st .Ballot)] (.one Ty.bool) fun a => F_ref23_Covers a.1 a.2.1, .fn 20 [.ty (Ty.st .Ballot)] (.one Ty.bool) fun a => F_ref23_Zero a.1, .fn 21 [.ty (Ty.st .Ballot), .ty (Ty.st .Ballot)] (.one Ty.bool) fun a => F_ref23_Less a.1 a.2.1] sa_ref23_Prepares [.tmp 6] [.ty (Ty.st .Ballot), .ty (Ty.st .Ballot), .ty (Ty.st .Ballot)] (.one Ty.bool) = fun a => F_ref23_Prepares a.1 a.2.1 a.2.2.1 := by kernel_rfl
theorem s_ref23_Prepares : KFun.Sound (U := U) Try.prog (.fn 23 [.ty (Ty.st .Ballot), .ty (Ty.st .Ballot), .ty (Ty.st .Ballot)] (.one Ty.bool) fun a => F_ref23_Prepares a.1 a.2.1 a.2.2.1) := fnK_sound (K := K) (Γ := [.fn 29 [.ty (Ty.st .Ballot), .ty (Ty.st .Ballot)] (.one Ty.bool) fun a => F_ref23_Covers a.1 a.2.1, .fn 20 [.ty (Ty.st .Ballot)] (.one Ty.bool) fun a => F_ref23_Zero a.1, .fn 21 [.ty (Ty.st .Ballot), .ty (Ty.st .Ballot)] (.one Ty.bool) fun a => F_ref23_Less a.1 a.2.1]) ok_ref23_Prepares (by kernel_rfl) (by decide) ⟨s_ref23_Covers, s_ref23_Zero, s_ref23_Less, trivial⟩ (fun a => congrFun e_ref23_Prepares a)

/-! ### trustquorum/trustquorumref23.Aborts -/
def sa_ref23_Aborts : SA U :=
 (.seq
  (.reg
  (.op ⟨(some 2), none, .box (.tmp 0)⟩
  (.op ⟨(some 3), none, .box (.tmp 1)⟩
  (.op ⟨(some 4), none, .mov (.cst (.bool false))⟩
  .nil))))
  (.seq
   (.reg
   (.op ⟨(some 5), none, .load (some 2) (.tmp 2)⟩
   (.op ⟨(some 6), none, .call 20 [(.tmp 5)]⟩
   (.op ⟨(some 7), none, .not (.tmp 6)⟩
   (.op ⟨(some 8), none, .mov (.tmp 7)⟩
   (.ite 8 true
    (.op ⟨(some 9), (some (8, true)), .load (some 2) (.tmp 2)⟩
    (.op ⟨(some 10), (some (8, true)), .load (some 2) (.tmp 3)⟩
    (.op ⟨(some 11), (some (8, true)), .call 22 [(.tmp 9), (.tmp 10)]⟩
    (.op ⟨(some 12), (some (8, true)), .not (.tmp 11)⟩
    .nil))))
    13 none (.tmp 12) (.cst (.bool false))
   (.op ⟨(some 14), none, .mov (.tmp 13)⟩
   (.ite 14 true
    (.op ⟨(some 15), (some (14, true)), .load (some 2) (.tmp 3)⟩
    (.op ⟨(some 16), (some (14, true)), .load (some 2) (.tmp 2)⟩
    (.op ⟨(some 17), (some (14, true)), .call 21 [(.tmp 15), (.tmp 16)]⟩
    .nil)))
    18 none (.tmp 17) (.cst (.bool false))
   (.op ⟨(some 4), none, .mov (.tmp 18)⟩
   .nil)))))))))
   .ret))
theorem ok_ref23_Aborts : FnOk Try.prog 17 19 (SA.erase sa_ref23_Aborts) [.tmp 4] := ⟨Try.f17, [], Try.func17, rfl, by kernel_rfl, by kernel_rfl, by kernel_rfl⟩
noncomputable def F_ref23_Aborts (a0 : TBallot) (a1 : TBallot) : Option Bool :=
Option.bind (F_ref23_Zero a0) fun r1 =>
Option.bind (bif (!r1) then
Option.bind (F_ref23_Compatible a0 a1) fun r2 =>
some (!r2)
else some false) fun b3 =>
Option.bind (bif b3 then
Option.bind (F_ref23_Less a1 a0) fun r4 =>
some r4
else some false) fun b5 =>
some b5
theorem e_ref23_Aborts : fnK K [.fn 20 [.ty (Ty.st .Ballot)] (.one Ty.bool) fun a => F_ref23_Zero a.1, .fn 22 [.ty (Ty.st .Ballot), .ty (Ty.st .Ballot)] (.one Ty.bool) fun a => F_ref23_Compatible a.1 a.2.1, .fn 21 [.ty (Ty.st .Ballot), .ty (Ty.st .Ballot)] (.one Ty.bool) fun a => F_ref23_Less a.1 a.2.1] sa_ref23_Aborts [.tmp 4] [.ty (Ty.st .Ballot), .ty (Ty.st .Ballot)] (.one Ty.bool) = fun a => F_ref23_Aborts a.1 a.2.1 := by kernel_rfl
theorem s_ref23_Aborts : KFun.Sound (U := U) Try.prog (.fn 17 [.ty (Ty.st .Ballot), .ty (Ty.st .Ballot)] (.one Ty.bool) fun a => F_ref23_Aborts a.1 a.2.1) := fnK_sound (K := K) (Γ := [.fn 20 [.ty (Ty.st .Ballot)] (.one Ty.bool) fun a => F_ref23_Zero a.1, .fn 22 [.ty (Ty.st .Ballot), .ty (Ty.st .Ballot)] (.one Ty.bool) fun a => F_ref23_Compatible a.1 a.2.1, .fn 21 [.ty (Ty.st .Ballot), .ty (Ty.st .Ballot)] (.one Ty.bool) fun a => F_ref23_Less a.1 a.2.1]) ok_ref23_Aborts (by kernel_rfl) (by decide) ⟨s_ref23_Zero, s_ref23_Compatible, s_ref23_Less, trivial⟩ (fun a => congrFun e_ref23_Aborts a)

/-! ### trustquorum/trustquorumref24.Valid -/
def sa_ref24_Valid : SA U :=
 (.seq
  (.reg
  (.op ⟨(some 1), none, .box (.tmp 0)⟩
  (.op ⟨(some 2), none, .mov (.cst (.bool false))⟩
  .nil)))
  (.seq
   (.seq
    (.reg
    (.op ⟨(some 6), none, .faddr 0 (.tmp 1)⟩
    (.op ⟨(some 7), none, .load none (.tmp 6)⟩
    (.op ⟨(some 8), none, .bin .lss (.tmp 7) (.cst (.int .i64 0))⟩
    (.op ⟨(some 9), none, .mov (.tmp 8)⟩
    (.ite 9 false
     (.op ⟨(some 10), (some (9, false)), .faddr 0 (.tmp 1)⟩
     (.op ⟨(some 11), (some (9, false)), .load none (.tmp 10)⟩
     (.op ⟨(some 12), (some (9, false)), .bin .gtr (.tmp 11) (.cst (.int .i64 9))⟩
     .nil)))
     13 none (.cst (.bool true)) (.tmp 12)
    (.op ⟨(some 14), none, .mov (.tmp 13)⟩
    (.ite 14 false
     (.op ⟨(some 15), (some (14, false)), .faddr 1 (.tmp 1)⟩
     (.op ⟨(some 16), (some (14, false)), .load none (.tmp 15)⟩
     (.op ⟨(some 17), (some (14, false)), .bin .lss (.tmp 16) (.cst (.int .i64 1))⟩
     .nil)))
     18 none (.cst (.bool true)) (.tmp 17)
    (.op ⟨(some 19), none, .mov (.tmp 18)⟩
    (.ite 19 false
     (.op ⟨(some 20), (some (19, false)), .faddr 1 (.tmp 1)⟩
     (.op ⟨(some 21), (some (19, false)), .load none (.tmp 20)⟩
     (.op ⟨(some 22), (some (19, false)), .bin .gtr (.tmp 21) (.cst (.int .i64 1000000))⟩
     .nil)))
     23 none (.cst (.bool true)) (.tmp 22)
    (.op ⟨(some 24), none, .mov (.tmp 23)⟩
    (.ite 24 false
     (.op ⟨(some 25), (some (24, false)), .faddr 2 (.tmp 1)⟩
     (.op ⟨(some 26), (some (24, false)), .load none (.tmp 25)⟩
     (.op ⟨(some 27), (some (24, false)), .bin .lss (.tmp 26) (.cst (.int .i64 1))⟩
     .nil)))
     28 none (.cst (.bool true)) (.tmp 27)
    (.op ⟨(some 29), none, .mov (.tmp 28)⟩
    (.ite 29 false
     (.op ⟨(some 30), (some (29, false)), .faddr 2 (.tmp 1)⟩
     (.op ⟨(some 31), (some (29, false)), .load none (.tmp 30)⟩
     (.op ⟨(some 32), (some (29, false)), .bin .gtr (.tmp 31) (.cst (.int .i64 1000000))⟩
     .nil)))
     33 none (.cst (.bool true)) (.tmp 32)
    (.op ⟨(some 34), none, .mov (.tmp 33)⟩
    (.ite 34 false
     (.op ⟨(some 35), (some (34, false)), .faddr 3 (.tmp 1)⟩
     (.op ⟨(some 36), (some (34, false)), .load (some 3) (.tmp 35)⟩
     (.op ⟨(some 37), (some (34, false)), .call 87 [(.tmp 36)]⟩
     (.op ⟨(some 38), (some (34, false)), .bin .neq (.tmp 37) (.cst (.int .i64 0))⟩
     .nil))))
     39 none (.cst (.bool true)) (.tmp 38)
    (.op ⟨(some 40), none, .mov (.tmp 39)⟩
    (.ite 40 false
     (.op ⟨(some 41), (some (40, false)), .faddr 7 (.tmp 1)⟩
     (.op ⟨(some 42), (some (40, false)), .load (some 2) (.tmp 41)⟩
     (.op ⟨(some 43), (some (40, false)), .call 88 [(.tmp 42)]⟩
     (.op ⟨(some 44), (some (40, false)), .not (.tmp 43)⟩
     .nil))))
     45 none (.cst (.bool true)) (.tmp 44)
    .nil))))))))))))))))))
    (.cond (.tmp 45)
     (.seq
      (.reg
      (.op ⟨(some 2), none, .mov (.cst (.bool false))⟩
      .nil))
      .ret)
     .skip))
   (.seq
    (.reg
    (.op ⟨(some 46), none, .faddr 9 (.tmp 1)⟩
    (.op ⟨(some 47), none, .load (some 2) (.tmp 46)⟩
    (.op ⟨(some 48), none, .call 20 [(.tmp 47)]⟩
    (.op ⟨(some 3), none, .mov (.tmp 48)⟩
    .nil)))))
    (.seq
     (.drw [(0, 2), (1, 2), (0, 3), (1, 3), (0, 4), (1, 4), (0, 6), (1, 6), (2, 6), (3, 6), (4, 6), (0, 7), (1, 7), (2, 7), (3, 7), (4, 7), (0, 8), (1, 8), (2, 8), (3, 8), (4, 8), (6, 8), (7, 8), (0, 9), (1, 9), (2, 9), (3, 9), (4, 9), (6, 9), (7, 9), (0, 10), (1, 10), (2, 10), (3, 10), (4, 10), (6, 10), (7, 10), (0, 12), (1, 12), (2, 12), (3, 12), (4, 12), (6, 12), (7, 12), (8, 12), (9, 12), (10, 12), (0, 13), (1, 13), (2, 13), (3, 13), (4, 13), (6, 13), (7, 13), (8, 13), (9, 13), (10, 13), (12, 13), (6, 14), (7, 14), (8, 14), (9, 14), (10, 14)]
     (.op ⟨(some 49), none, .faddr 13 (.tmp 1)⟩
     (.op ⟨(some 50), none, .load none (.tmp 49)⟩
     (.op ⟨(some 51), none, .faddr 7 (.tmp 1)⟩
     (.op ⟨(some 52), none, .faddr 1 (.tmp 51)⟩
     (.op ⟨(some 53), none, .load none (.tmp 52)⟩
     (.op ⟨(some 54), none, .build [.int .i64 0, .str ⟨#[]⟩] [(0, 1, (.tmp 50)), (1, 1, (.tmp 53))]⟩
     (.op ⟨(some 55), none, .faddr 14 (.tmp 1)⟩
     (.op ⟨(some 56), none, .load none (.tmp 55)⟩
     (.op ⟨(some 57), none, .faddr 7 (.tmp 1)⟩
     (.op ⟨(some 58), none, .faddr 1 (.tmp 57)⟩
     (.op ⟨(some 59), none, .load none (.tmp 58)⟩
     (.op ⟨(some 60), none, .build [.int .i64 0, .str ⟨#[]⟩] [(0, 1, (.tmp 56)), (1, 1, (.tmp 59))]⟩
     (.op ⟨(some 4), none, .alloc [.int .i64 0, .str ⟨#[]⟩]⟩
     (.op ⟨(some 5), none, .alloc [.int .i64 0, .str ⟨#[]⟩]⟩
     (.op ⟨none, none, .store 2 (.tmp 4) (.tmp 54)⟩
     (.op ⟨none, none, .store 2 (.tmp 5) (.tmp 60)⟩
     .nil)))))))))))))))))
     (.seq
      (.seq
       (.reg
       (.op ⟨(some 61), none, .faddr 6 (.tmp 1)⟩
       (.op ⟨(some 62), none, .load none (.tmp 61)⟩
       .nil)))
       (.block 0
        (.seq
         (.reg
         (.op ⟨(some 64), none, .bin .eql (.tmp 62) (.cst (.int .i64 1))⟩
         (.op ⟨(some 63), none, .mov (.tmp 64)⟩
         .nil)))
         (.cond (.tmp 63)
          (.seq
           (.seq
            (.reg
            (.op ⟨(some 65), none, .faddr 7 (.tmp 1)⟩
            (.op ⟨(some 66), none, .faddr 0 (.tmp 65)⟩
            (.op ⟨(some 67), none, .load none (.tmp 66)⟩
            (.op ⟨(some 68), none, .bin .gtr (.tmp 67) (.cst (.int .i64 1000))⟩
            (.op ⟨(some 69), none, .mov (.tmp 68)⟩
            (.ite 69 false
             (.op ⟨(some 70), (some (69, false)), .mov (.tmp 3)⟩
             (.op ⟨(some 71), (some (69, false)), .not (.tmp 70)⟩
             (.op ⟨(some 72), (some (69, false)), .mov (.tmp 71)⟩
             (.ite 72 true
              (.op ⟨(some 73), (some (72, true)), .faddr 9 (.tmp 1)⟩
              (.op ⟨(some 74), (some (72, true)), .load (some 2) (.tmp 73)⟩
              (.op ⟨(some 75), (some (72, true)), .call 88 [(.tmp 74)]⟩
              (.op ⟨(some 76), (some (72, true)), .not (.tmp 75)⟩
              .nil))))
              77 (some (69, false)) (.tmp 76) (.cst (.bool false))
             .nil))))
             78 none (.cst (.bool true)) (.tmp 77)
            .nil)))))))
            (.cond (.tmp 78)
             (.seq
              (.reg
              (.op ⟨(some 2), none, .mov (.cst (.bool false))⟩
              .nil))
              .ret)
             .skip))
           (.seq
            (.seq
             (.reg
             (.op ⟨(some 79), none, .faddr 11 (.tmp 1)⟩
             (.op ⟨(some 80), none, .load (some 2) (.tmp 79)⟩
             (.op ⟨(some 81), none, .call 20 [(.tmp 80)]⟩
             (.op ⟨(some 82), none, .not (.tmp 81)⟩
             (.op ⟨(some 83), none, .mov (.tmp 82)⟩
             (.ite 83 true
              (.op ⟨(some 84), (some (83, true)), .mov (.tmp 3)⟩
              (.op ⟨(some 85), (some (83, true)), .mov (.tmp 84)⟩
              (.ite 85 false
               (.op ⟨(some 86), (some (85, false)), .faddr 11 (.tmp 1)⟩
               (.op ⟨(some 87), (some (85, false)), .load (some 2) (.tmp 86)⟩
               (.op ⟨(some 88), (some (85, false)), .call 88 [(.tmp 87)]⟩
               (.op ⟨(some 89), (some (85, false)), .not (.tmp 88)⟩
               .nil))))
               90 (some (83, true)) (.cst (.bool true)) (.tmp 89)
              (.op ⟨(some 91), (some (83, true)), .mov (.tmp 90)⟩
              (.ite 91 false
               (.op ⟨(some 92), (some (91, false)), .faddr 11 (.tmp 1)⟩
               (.op ⟨(some 93), (some (91, false)), .load (some 2) (.tmp 92)⟩
               (.op ⟨(some 94), (some (91, false)), .faddr 9 (.tmp 1)⟩
               (.op ⟨(some 95), (some (91, false)), .load (some 2) (.tmp 94)⟩
               (.op ⟨(some 96), (some (91, false)), .call 21 [(.tmp 93), (.tmp 95)]⟩
               (.op ⟨(some 97), (some (91, false)), .not (.tmp 96)⟩
               .nil))))))
               98 (some (83, true)) (.cst (.bool true)) (.tmp 97)
              (.op ⟨(some 99), (some (83, true)), .mov (.tmp 98)⟩
              (.ite 99 false
               (.op ⟨(some 100), (some (99, false)), .faddr 11 (.tmp 1)⟩
               (.op ⟨(some 101), (some (99, false)), .load (some 2) (.tmp 100)⟩
               (.op ⟨(some 102), (some (99, false)), .faddr 9 (.tmp 1)⟩
               (.op ⟨(some 103), (some (99, false)), .load (some 2) (.tmp 102)⟩
               (.op ⟨(some 104), (some (99, false)), .call 22 [(.tmp 101), (.tmp 103)]⟩
               .nil)))))
               105 (some (83, true)) (.cst (.bool true)) (.tmp 104)
              .nil)))))))
              106 none (.tmp 105) (.cst (.bool false))
             .nil)))))))
             (.cond (.tmp 106)
              (.seq
               (.reg
               (.op ⟨(some 2), none, .mov (.cst (.bool false))⟩
               .nil))
               .ret)
              .skip))
            (.seq
             (.seq
              (.reg
              (.op ⟨(some 107), none, .faddr 13 (.tmp 1)⟩
              (.op ⟨(some 108), none, .load none (.tmp 107)⟩
              (.op ⟨(some 109), none, .bin .lss (.tmp 108) (.cst (.int .i64 0))⟩
              (.op ⟨(some 110), none, .mov (.tmp 109)⟩
              (.ite 110 false
               (.op ⟨(some 111), (some (110, false)), .faddr 13 (.tmp 1)⟩
               (.op ⟨(some 112), (some (110, false)), .load none (.tmp 111)⟩
               (.op ⟨(some 113), (some (110, false)), .faddr 14 (.tmp 1)⟩
               (.op ⟨(some 114), (some (110, false)), .load none (.tmp 113)⟩
               (.op ⟨(some 115), (some (110, false)), .bin .gtr (.tmp 112) (.tmp 114)⟩
               .nil)))))
               116 none (.cst (.bool true)) (.tmp 115)
              (.op ⟨(some 117), none, .mov (.tmp 116)⟩
              (.ite 117 false
               (.op ⟨(some 118), (some (117, false)), .faddr 14 (.tmp 1)⟩
               (.op ⟨(some 119), (some (117, false)), .load none (.tmp 118)⟩
               (.op ⟨(some 120), (some (117, false)), .faddr 7 (.tmp 1)⟩
               (.op ⟨(some 121), (some (117, false)), .faddr 0 (.tmp 120)⟩
               (.op ⟨(some 122), (some (117, false)), .load none (.tmp 121)⟩
               (.op ⟨(some 123), (some (117, false)), .bin .gtr (.tmp 119) (.tmp 122)⟩
               .nil))))))
               124 none (.cst (.bool true)) (.tmp 123)
              .nil))))))))
              (.cond (.tmp 124)
               (.seq
                (.reg
                (.op ⟨(some 2), none, .mov (.cst (.bool false))⟩
                .nil))
                .ret)
               .skip))
             (.seq
              (.seq
               (.reg
               (.op ⟨(some 125), none, .faddr 14 (.tmp 1)⟩
               (.op ⟨(some 126), none, .load none (.tmp 125)⟩
               (.op ⟨(some 127), none, .bin .gtr (.tmp 126) (.cst (.int .i64 0))⟩
               (.op ⟨(some 128), none, .mov (.tmp 127)⟩
               (.ite 128 true
                (.op ⟨(some 129), (some (128, true)), .faddr 9 (.tmp 1)⟩
                (.op ⟨(some 130), (some (128, true)), .load (some 2) (.tmp 129)⟩
                (.op ⟨(some 131), (some (128, true)), .faddr 11 (.tmp 1)⟩
                (.op ⟨(some 132), (some (128, true)), .load (some 2) (.tmp 131)⟩
                (.op ⟨(some 133), (some (128, true)), .load (some 2) (.tmp 5)⟩
                (.op ⟨(some 134), (some (128, true)), .call 23 [(.tmp 130), (.tmp 132), (.tmp 133)]⟩
                (.op ⟨(some 135), (some (128, true)), .not (.tmp 134)⟩
                .nil)))))))
                136 none (.tmp 135) (.cst (.bool false))
               .nil))))))
               (.cond (.tmp 136)
                (.seq
                 (.reg
                 (.op ⟨(some 2), none, .mov (.cst (.bool false))⟩
                 .nil))
                 .ret)
                .skip))
              (.seq
               (.reg
               (.op ⟨(some 137), none, .faddr 13 (.tmp 1)⟩
               (.op ⟨(some 138), none, .load none (.tmp 137)⟩
               (.op ⟨(some 139), none, .bin .eql (.tmp 138) (.cst (.int .i64 0))⟩
               (.op ⟨(some 140), none, .mov (.tmp 139)⟩
               (.ite 140 false
                (.op ⟨(some 141), (some (140, false)), .faddr 9 (.tmp 1)⟩
                (.op ⟨(some 142), (some (140, false)), .load (some 2) (.tmp 141)⟩
                (.op ⟨(some 143), (some (140, false)), .load (some 2) (.tmp 4)⟩
                (.op ⟨(some 144), (some (140, false)), .call 17 [(.tmp 142), (.tmp 143)]⟩
                (.op ⟨(some 145), (some (140, false)), .not (.tmp 144)⟩
                (.op ⟨(some 146), (some (140, false)), .mov (.tmp 145)⟩
                (.ite 146 true
                 (.op ⟨(some 147), (some (146, true)), .faddr 11 (.tmp 1)⟩
                 (.op ⟨(some 148), (some (146, true)), .load (some 2) (.tmp 147)⟩
                 (.op ⟨(some 149), (some (146, true)), .load (some 2) (.tmp 4)⟩
                 (.op ⟨(some 150), (some (146, true)), .call 17 [(.tmp 148), (.tmp 149)]⟩
                 (.op ⟨(some 151), (some (146, true)), .not (.tmp 150)⟩
                 .nil)))))
                 152 (some (140, false)) (.tmp 151) (.cst (.bool false))
                .nil)))))))
                153 none (.cst (.bool true)) (.tmp 152)
               (.op ⟨(some 2), none, .mov (.tmp 153)⟩
               .nil)))))))
               .ret)))))
          (.seq
           (.reg
           (.op ⟨(some 155), none, .bin .eql (.tmp 62) (.cst (.int .i64 2))⟩
           (.op ⟨(some 154), none, .mov (.tmp 155)⟩
           .nil)))
           (.cond (.tmp 154)
            (.seq
             (.reg
             (.op ⟨(some 156), none, .faddr 7 (.tmp 1)⟩
             (.op ⟨(some 157), none, .faddr 0 (.tmp 156)⟩
             (.op ⟨(some 158), none, .load none (.tmp 157)⟩
             (.op ⟨(some 159), none, .bin .leq (.tmp 158) (.cst (.int .i64 1000))⟩
             (.op ⟨(some 160), none, .mov (.tmp 159)⟩
             (.ite 160 true
              (.op ⟨(some 161), (some (160, true)), .faddr 9 (.tmp 1)⟩
              (.op ⟨(some 162), (some (160, true)), .load (some 2) (.tmp 161)⟩
              (.op ⟨(some 163), (some (160, true)), .call 88 [(.tmp 162)]⟩
              .nil)))
              164 none (.tmp 163) (.cst (.bool false))
             (.op ⟨(some 165), none, .mov (.tmp 164)⟩
             (.ite 165 true
              (.op ⟨(some 166), (some (165, true)), .faddr 9 (.tmp 1)⟩
              (.op ⟨(some 167), (some (165, true)), .load (some 2) (.tmp 166)⟩
              (.op ⟨(some 168), (some (165, true)), .faddr 7 (.tmp 1)⟩
              (.op ⟨(some 169), (some (165, true)), .load (some 2) (.tmp 168)⟩
              (.op ⟨(some 170), (some (165, true)), .call 22 [(.tmp 167), (.tmp 169)]⟩
              .nil)))))
              171 none (.tmp 170) (.cst (.bool false))
             (.op ⟨(some 172), none, .mov (.tmp 171)⟩
             (.ite 172 true
              (.op ⟨(some 173), (some (172, true)), .faddr 11 (.tmp 1)⟩
              (.op ⟨(some 174), (some (172, true)), .load (some 2) (.tmp 173)⟩
              (.op ⟨(some 175), (some (172, true)), .call 20 [(.tmp 174)]⟩
              .nil)))
              176 none (.tmp 175) (.cst (.bool false))
             (.op ⟨(some 177), none, .mov (.tmp 176)⟩
             (.ite 177 true
              (.op ⟨(some 178), (some (177, true)), .faddr 13 (.tmp 1)⟩
              (.op ⟨(some 179), (some (177, true)), .load none (.tmp 178)⟩
              (.op ⟨(some 180), (some (177, true)), .bin .geq (.tmp 179) (.cst (.int .i64 1))⟩
              .nil)))
              181 none (.tmp 180) (.cst (.bool false))
             (.op ⟨(some 182), none, .mov (.tmp 181)⟩
             (.ite 182 true
              (.op ⟨(some 183), (some (182, true)), .faddr 13 (.tmp 1)⟩
              (.op ⟨(some 184), (some (182, true)), .load none (.tmp 183)⟩
              (.op ⟨(some 185), (some (182, true)), .faddr 14 (.tmp 1)⟩
              (.op ⟨(some 186), (some (182, true)), .load none (.tmp 185)⟩
              (.op ⟨(some 187), (some (182, true)), .bin .leq (.tmp 184) (.tmp 186)⟩
              .nil)))))
              188 none (.tmp 187) (.cst (.bool false))
             (.op ⟨(some 189), none, .mov (.tmp 188)⟩
             (.ite 189 true
              (.op ⟨(some 190), (some (189, true)), .faddr 14 (.tmp 1)⟩
              (.op ⟨(some 191), (some (189, true)), .load none (.tmp 190)⟩
              (.op ⟨(some 192), (some (189, true)), .faddr 9 (.tmp 1)⟩
              (.op ⟨(some 193), (some (189, true)), .faddr 0 (.tmp 192)⟩
              (.op ⟨(some 194), (some (189, true)), .load none (.tmp 193)⟩
              (.op ⟨(some 195), (some (189, true)), .bin .leq (.tmp 191) (.tmp 194)⟩
              .nil))))))
              196 none (.tmp 195) (.cst (.bool false))
             (.op ⟨(some 197), none, .mov (.tmp 196)⟩
             (.ite 197 true
              (.op ⟨(some 198), (some (197, true)), .faddr 14 (.tmp 1)⟩
              (.op ⟨(some 199), (some (197, true)), .load none (.tmp 198)⟩
              (.op ⟨(some 200), (some (197, true)), .bin .leq (.tmp 199) (.cst (.int .i64 1000))⟩
              .nil)))
              201 none (.tmp 200) (.cst (.bool false))
             (.op ⟨(some 2), none, .mov (.tmp 201)⟩
             .nil))))))))))))))))))))
             .ret)
            (.seq
             (.reg
             (.op ⟨(some 203), none, .bin .eql (.tmp 62) (.cst (.int .i64 3))⟩
             (.op ⟨(some 202), none, .mov (.tmp 203)⟩
             .nil)))
             (.cond (.tmp 202)
              (.seq
               (.reg
               (.op ⟨(some 204), none, .mov (.tmp 3)⟩
               (.op ⟨(some 205), none, .mov (.tmp 204)⟩
               (.ite 205 true
                (.op ⟨(some 206), (some (205, true)), .faddr 11 (.tmp 1)⟩
                (.op ⟨(some 207), (some (205, true)), .load (some 2) (.tmp 206)⟩
                (.op ⟨(some 208), (some (205, true)), .call 20 [(.tmp 207)]⟩
                .nil)))
                209 none (.tmp 208) (.cst (.bool false))
               (.op ⟨(some 210), none, .mov (.tmp 209)⟩
               (.ite 210 true
                (.op ⟨(some 211), (some (210, true)), .faddr 13 (.tmp 1)⟩
                (.op ⟨(some 212), (some (210, true)), .load none (.tmp 211)⟩
                (.op ⟨(some 213), (some (210, true)), .bin .geq (.tmp 212) (.cst (.int .i64 1))⟩
                .nil)))
                214 none (.tmp 213) (.cst (.bool false))
               (.op ⟨(some 215), none, .mov (.tmp 214)⟩
               (.ite 215 true
                (.op ⟨(some 216), (some (215, true)), .faddr 13 (.tmp 1)⟩
                (.op ⟨(some 217), (some (215, true)), .load none (.tmp 216)⟩
                (.op ⟨(some 218), (some (215, true)), .faddr 14 (.tmp 1)⟩
                (.op ⟨(some 219), (some (215, true)), .load none (.tmp 218)⟩
                (.op ⟨(some 220), (some (215, true)), .bin .leq (.tmp 217) (.tmp 219)⟩
                .nil)))))
                221 none (.tmp 220) (.cst (.bool false))
               (.op ⟨(some 222), none, .mov (.tmp 221)⟩
               (.ite 222 true
                (.op ⟨(some 223), (some (222, true)), .faddr 14 (.tmp 1)⟩
                (.op ⟨(some 224), (some (222, true)), .load none (.tmp 223)⟩
                (.op ⟨(some 225), (some (222, true)), .bin .leq (.tmp 224) (.cst (.int .i64 1000))⟩
                .nil)))
                226 none (.tmp 225) (.cst (.bool false))
               (.op ⟨(some 2), none, .mov (.tmp 226)⟩
               .nil)))))))))))
               .ret)
              .skip))))))))
      (.seq
       (.reg
       (.op ⟨(some 2), none, .mov (.cst (.bool false))⟩
       .nil))
       .ret))))))
theorem ok_ref24_Valid : FnOk Try.prog 45 227 (SA.erase sa_ref24_Valid) [.tmp 2] := ⟨Try.f45, [], Try.func45, rfl, by kernel_rfl, by kernel_rfl, by kernel_rfl⟩
noncomputable def F_ref24_Valid (a0 : TEnvelope) : Option Bool :=
Option.bind (bif (decide (a0.Node < (0 : Int))) then some true
else
some (decide ((9 : Int) < a0.Node))) fun b1 =>
Option.bind (bif b1 then some true
else
some (decide (a0.Slot < (1 : Int)))) fun b2 =>
Option.bind (bif b2 then some true
else
some (decide ((1000000 : Int) < a0.Slot))) fun b3 =>
Option.bind (bif b3 then some true
else
some (decide (a0.Seq < (1 : Int)))) fun b4 =>
Option.bind (bif b4 then some true
else
some (decide ((1000000 : Int) < a0.Seq))) fun b5 =>
Option.bind (bif b5 then some true
else
Option.bind (F_ref02_Valid (TTrust.mk a0.Trust.Threshold a0.Trust.Nodes a0.Trust.Inner)) fun r6 =>
some (!decide (r6 = (0 : Int)))) fun b7 =>
Option.bind (bif b7 then some true
else
Option.bind (F_ref23_Valid a0.Ballot) fun r8 =>
some (!r8)) fun b9 =>
bif b9 then
some false
else
Option.bind (F_ref23_Zero a0.Prepared) fun r10 =>
bif (decide (a0.Kind = (1 : Int))) then
Option.bind (bif (decide ((1000 : Int) < a0.Ballot.Counter)) then some true
else
Option.bind (bif (!r10) then
Option.bind (F_ref23_Valid a0.Prepared) fun r11 =>
some (!r11)
else some false) fun b12 =>
some b12) fun b13 =>
bif b13 then
some false
else
Option.bind (F_ref23_Zero a0.Prime) fun r14 =>
Option.bind (bif (!r14) then
Option.bind (bif r10 then some true
else
Option.bind (F_ref23_Valid a0.Prime) fun r15 =>
some (!r15)) fun b16 =>
Option.bind (bif b16 then some true
else
Option.bind (F_ref23_Less a0.Prime a0.Prepared) fun r17 =>
some (!r17)) fun b18 =>
Option.bind (bif b18 then some true
else
Option.bind (F_ref23_Compatible a0.Prime a0.Prepared) fun r19 =>
some r19) fun b20 =>
some b20
else some false) fun b21 =>
bif b21 then
some false
else
Option.bind (bif (decide (a0.Low < (0 : Int))) then some true
else
some (decide (a0.High < a0.Low))) fun b22 =>
Option.bind (bif b22 then some true
else
some (decide (a0.Ballot.Counter < a0.High))) fun b23 =>
bif b23 then
some false
else
Option.bind (bif (decide ((0 : Int) < a0.High)) then
Option.bind (F_ref23_Prepares a0.Prepared a0.Prime (TBallot.mk a0.High a0.Ballot.Value)) fun r24 =>
some (!r24)
else some false) fun b25 =>
bif b25 then
some false
else
Option.bind (bif (decide (a0.Low = (0 : Int))) then some true
else
Option.bind (F_ref23_Aborts a0.Prepared (TBallot.mk a0.Low a0.Ballot.Value)) fun r26 =>
Option.bind (bif (!r26) then
Option.bind (F_ref23_Aborts a0.Prime (TBallot.mk a0.Low a0.Ballot.Value)) fun r27 =>
some (!r27)
else some false) fun b28 =>
some b28) fun b29 =>
some b29
else
bif (decide (a0.Kind = (2 : Int))) then
Option.bind (bif (decide (a0.Ballot.Counter ≤ (1000 : Int))) then
Option.bind (F_ref23_Valid a0.Prepared) fun r30 =>
some r30
else some false) fun b31 =>
Option.bind (bif b31 then
Option.bind (F_ref23_Compatible a0.Prepared a0.Ballot) fun r32 =>
some r32
else some false) fun b33 =>
Option.bind (bif b33 then
Option.bind (F_ref23_Zero a0.Prime) fun r34 =>
some r34
else some false) fun b35 =>
Option.bind (bif b35 then
some (decide ((1 : Int) ≤ a0.Low))
else some false) fun b36 =>
Option.bind (bif b36 then
some (decide (a0.Low ≤ a0.High))
else some false) fun b37 =>
Option.bind (bif b37 then
some (decide (a0.High ≤ a0.Prepared.Counter))
else some false) fun b38 =>
Option.bind (bif b38 then
some (decide (a0.High ≤ (1000 : Int)))
else some false) fun b39 =>
some b39
else
bif (decide (a0.Kind = (3 : Int))) then
Option.bind (bif r10 then
Option.bind (F_ref23_Zero a0.Prime) fun r40 =>
some r40
else some false) fun b41 =>
Option.bind (bif b41 then
some (decide ((1 : Int) ≤ a0.Low))
else some false) fun b42 =>
Option.bind (bif b42 then
some (decide (a0.Low ≤ a0.High))
else some false) fun b43 =>
Option.bind (bif b43 then
some (decide (a0.High ≤ (1000 : Int)))
else some false) fun b44 =>
some b44
else
some false
theorem e_ref24_Valid : fnK K [.fn 87 [.ty (Ty.st .Trust)] (.one (Ty.i .i64)) fun a => F_ref02_Valid a.1, .fn 88 [.ty (Ty.st .Ballot)] (.one Ty.bool) fun a => F_ref23_Valid a.1, .fn 20 [.ty (Ty.st .Ballot)] (.one Ty.bool) fun a => F_ref23_Zero a.1, .fn 21 [.ty (Ty.st .Ballot), .ty (Ty.st .Ballot)] (.one Ty.bool) fun a => F_ref23_Less a.1 a.2.1, .fn 22 [.ty (Ty.st .Ballot), .ty (Ty.st .Ballot)] (.one Ty.bool) fun a => F_ref23_Compatible a.1 a.2.1, .fn 23 [.ty (Ty.st .Ballot), .ty (Ty.st .Ballot), .ty (Ty.st .Ballot)] (.one Ty.bool) fun a => F_ref23_Prepares a.1 a.2.1 a.2.2.1, .fn 17 [.ty (Ty.st .Ballot), .ty (Ty.st .Ballot)] (.one Ty.bool) fun a => F_ref23_Aborts a.1 a.2.1] sa_ref24_Valid [.tmp 2] [.ty (Ty.st .Envelope)] (.one Ty.bool) = fun a => F_ref24_Valid a.1 := by kernel_rfl
theorem s_ref24_Valid : KFun.Sound (U := U) Try.prog (.fn 45 [.ty (Ty.st .Envelope)] (.one Ty.bool) fun a => F_ref24_Valid a.1) := fnK_sound (K := K) (Γ := [.fn 87 [.ty (Ty.st .Trust)] (.one (Ty.i .i64)) fun a => F_ref02_Valid a.1, .fn 88 [.ty (Ty.st .Ballot)] (.one Ty.bool) fun a => F_ref23_Valid a.1, .fn 20 [.ty (Ty.st .Ballot)] (.one Ty.bool) fun a => F_ref23_Zero a.1, .fn 21 [.ty (Ty.st .Ballot), .ty (Ty.st .Ballot)] (.one Ty.bool) fun a => F_ref23_Less a.1 a.2.1, .fn 22 [.ty (Ty.st .Ballot), .ty (Ty.st .Ballot)] (.one Ty.bool) fun a => F_ref23_Compatible a.1 a.2.1, .fn 23 [.ty (Ty.st .Ballot), .ty (Ty.st .Ballot), .ty (Ty.st .Ballot)] (.one Ty.bool) fun a => F_ref23_Prepares a.1 a.2.1 a.2.2.1, .fn 17 [.ty (Ty.st .Ballot), .ty (Ty.st .Ballot)] (.one Ty.bool) fun a => F_ref23_Aborts a.1 a.2.1]) ok_ref24_Valid (by kernel_rfl) (by decide) ⟨s_ref02_Valid, s_ref23_Valid, s_ref23_Zero, s_ref23_Less, s_ref23_Compatible, s_ref23_Prepares, s_ref23_Aborts, trivial⟩ (fun a => congrFun e_ref24_Valid a)

/-! ### (*trustquorum/trustquorumplay.Src).Envelope -/
def sa_play_Src_Envelope : SA U :=
 (.seq
  (.reg
  (.op ⟨(some 8), none, .alloc [.int .i64 0, .int .i64 0, .int .i64 0, .int .i64 0, .nils, .nils, .int .i64 0, .int .i64 0, .str ⟨#[]⟩, .int .i64 0, .str ⟨#[]⟩, .int .i64 0, .str ⟨#[]⟩, .int .i64 0, .int .i64 0]⟩
  .nil))
  (.seq
   (.reg
   (.op ⟨(some 11), none, .mov (.tmp 1)⟩
   (.op ⟨(some 12), none, .mov (.tmp 2)⟩
   (.op ⟨(some 13), none, .mov (.tmp 0)⟩
   (.op ⟨(some 14), none, .call 26 [(.tmp 13), (.cst (.int .i64 1)), (.cst (.int .i64 9))]⟩
   (.op ⟨(some 15), none, .mov (.tmp 0)⟩
   (.op ⟨(some 16), none, .mov (.tmp 3)⟩
   (.op ⟨(some 17), none, .call 31 [(.tmp 15), (.tmp 16)]⟩
   (.op ⟨(some 18), none, .build [.int .i64 0, .int .i64 0, .int .i64 0, .int .i64 0, .nils, .nils, .int .i64 0, .int .i64 0, .str ⟨#[]⟩, .int .i64 0, .str ⟨#[]⟩, .int .i64 0, .str ⟨#[]⟩, .int .i64 0, .int .i64 0] [(0, 1, (.tmp 11)), (1, 1, (.tmp 12)), (2, 1, (.tmp 14)), (3, 3, (.tmp 17))]⟩
   (.op ⟨(some 9), none, .alloc [.int .i64 0, .int .i64 0, .int .i64 0, .int .i64 0, .nils, .nils, .int .i64 0, .int .i64 0, .str ⟨#[]⟩, .int .i64 0, .str ⟨#[]⟩, .int .i64 0, .str ⟨#[]⟩, .int .i64 0, .int .i64 0]⟩
   (.op ⟨none, none, .store 15 (.tmp 9) (.tmp 18)⟩
   .nil)))))))))))
   (.seq
    (.reg
    (.op ⟨(some 19), none, .mov (.tmp 0)⟩
    (.op ⟨(some 20), none, .call 14 [(.tmp 19)]⟩
    (.op ⟨(some 10), none, .mov (.tmp 20)⟩
    .nil))))
    (.join ⟨[.box 0 0 (Ty.st .Src) [], .box 10 1 (Ty.st .Envelope) []], [8, 9]⟩
     (.seq
      (.reg
      (.op ⟨(some 21), none, .mov (.tmp 0)⟩
      (.op ⟨(some 22), none, .call 13 [(.tmp 21), (.cst (.int .i64 4))]⟩
      .nil)))
      (.block 0
       (.join ⟨[.box 0 0 (Ty.st .Src) [], .box 10 1 (Ty.st .Envelope) []], [0, 8, 9, 10]⟩
        (.block 3
         (.seq
          (.block 2
           (.seq
            (.block 1
             (.seq
              (.seq
               (.seq
                (.reg
                (.op ⟨(some 24), none, .bin .eql (.tmp 22) (.cst (.int .i64 0))⟩
                (.op ⟨(some 23), none, .mov (.tmp 24)⟩
                .nil)))
                (.cond (.tmp 23)
                 (.exit 1)
                 .skip))
               (.seq
                (.reg
                (.op ⟨(some 26), none, .bin .eql (.tmp 22) (.cst (.int .i64 1))⟩
                (.op ⟨(some 25), none, .mov (.tmp 26)⟩
                .nil)))
                (.cond (.tmp 25)
                 (.exit 2)
                 .skip)))
              (.exit 3)))
            (.seq
             (.seq
              (.reg
              (.op ⟨(some 27), none, .mov (.tmp 0)⟩
              (.op ⟨(some 28), none, .call 26 [(.tmp 27), (.cst (.int .i64 1)), (.cst (.int .i64 7))]⟩
              (.op ⟨(some 29), none, .mov (.tmp 10)⟩
              (.op ⟨(some 30), none, .build [.int .i64 0, .str ⟨#[]⟩] [(0, 1, (.tmp 28)), (1, 1, (.tmp 29))]⟩
              (.op ⟨(some 31), none, .faddr 6 (.tmp 9)⟩
              (.op ⟨none, none, .store 1 (.tmp 31) (.cst (.int .i64 2))⟩
              (.op ⟨(some 32), none, .faddr 7 (.tmp 9)⟩
              (.op ⟨none, none, .store 2 (.tmp 32) (.tmp 30)⟩
              .nil)))))))))
              (.seq
               (.reg
               (.op ⟨(some 33), none, .mov (.tmp 0)⟩
               (.op ⟨(some 34), none, .call 26 [(.tmp 33), (.cst (.int .i64 1)), (.cst (.int .i64 4))]⟩
               (.op ⟨(some 35), none, .faddr 13 (.tmp 9)⟩
               (.op ⟨none, none, .store 1 (.tmp 35) (.tmp 34)⟩
               .nil)))))
               (.seq
                (.drw [(0, 3), (1, 3)]
                (.op ⟨(some 36), none, .faddr 13 (.tmp 9)⟩
                (.op ⟨(some 37), none, .load none (.tmp 36)⟩
                (.op ⟨(some 38), none, .mov (.tmp 0)⟩
                (.op ⟨(some 39), none, .call 13 [(.tmp 38), (.cst (.int .i64 3))]⟩
                (.op ⟨(some 40), none, .bin .add (.tmp 37) (.tmp 39)⟩
                (.op ⟨(some 41), none, .faddr 14 (.tmp 9)⟩
                (.op ⟨none, none, .store 1 (.tmp 41) (.tmp 40)⟩
                .nil))))))))
                (.drw [(0, 3), (1, 3)]
                (.op ⟨(some 42), none, .faddr 14 (.tmp 9)⟩
                (.op ⟨(some 43), none, .load none (.tmp 42)⟩
                (.op ⟨(some 44), none, .mov (.tmp 0)⟩
                (.op ⟨(some 45), none, .call 13 [(.tmp 44), (.cst (.int .i64 3))]⟩
                (.op ⟨(some 46), none, .bin .add (.tmp 43) (.tmp 45)⟩
                (.op ⟨(some 47), none, .mov (.tmp 10)⟩
                (.op ⟨(some 48), none, .build [.int .i64 0, .str ⟨#[]⟩] [(0, 1, (.tmp 46)), (1, 1, (.tmp 47))]⟩
                (.op ⟨(some 49), none, .faddr 9 (.tmp 9)⟩
                (.op ⟨none, none, .store 2 (.tmp 49) (.tmp 48)⟩
                .nil)))))))))))))
             (.exit 0))))
          (.seq
           (.reg
           (.op ⟨(some 50), none, .mov (.tmp 0)⟩
           (.op ⟨(some 51), none, .call 13 [(.tmp 50), (.cst (.int .i64 3))]⟩
           (.op ⟨(some 52), none, .bin .gtr (.tmp 51) (.cst (.int .i64 0))⟩
           .nil))))
           (.cond (.tmp 52)
            (.seq
             (.reg
             (.op ⟨(some 53), none, .mov (.tmp 0)⟩
             (.op ⟨(some 54), none, .call 26 [(.tmp 53), (.cst (.int .i64 1)), (.cst (.int .i64 7))]⟩
             (.op ⟨(some 55), none, .mov (.tmp 10)⟩
             (.op ⟨(some 56), none, .build [.int .i64 0, .str ⟨#[]⟩] [(0, 1, (.tmp 54)), (1, 1, (.tmp 55))]⟩
             (.op ⟨(some 57), none, .faddr 6 (.tmp 9)⟩
             (.op ⟨none, none, .store 1 (.tmp 57) (.cst (.int .i64 3))⟩
             (.op ⟨(some 58), none, .faddr 7 (.tmp 9)⟩
             (.op ⟨none, none, .store 2 (.tmp 58) (.tmp 56)⟩
             .nil)))))))))
             (.seq
              (.reg
              (.op ⟨(some 59), none, .mov (.tmp 0)⟩
              (.op ⟨(some 60), none, .call 26 [(.tmp 59), (.cst (.int .i64 1)), (.cst (.int .i64 4))]⟩
              (.op ⟨(some 61), none, .faddr 13 (.tmp 9)⟩
              (.op ⟨none, none, .store 1 (.tmp 61) (.tmp 60)⟩
              .nil)))))
              (.seq
               (.drw [(0, 3), (1, 3)]
               (.op ⟨(some 62), none, .faddr 13 (.tmp 9)⟩
               (.op ⟨(some 63), none, .load none (.tmp 62)⟩
               (.op ⟨(some 64), none, .mov (.tmp 0)⟩
               (.op ⟨(some 65), none, .call 13 [(.tmp 64), (.cst (.int .i64 3))]⟩
               (.op ⟨(some 66), none, .bin .add (.tmp 63) (.tmp 65)⟩
               (.op ⟨(some 67), none, .faddr 14 (.tmp 9)⟩
               (.op ⟨none, none, .store 1 (.tmp 67) (.tmp 66)⟩
               .nil))))))))
               (.exit 0))))
            .skip))))
        (.join ⟨[.box 0 0 (Ty.st .Src) [], .box 10 1 (Ty.st .Envelope) []], [8, 9]⟩
         (.seq
          (.reg
          (.op ⟨(some 68), none, .mov (.tmp 0)⟩
          (.op ⟨(some 69), none, .call 26 [(.tmp 68), (.cst (.int .i64 1)), (.cst (.int .i64 7))]⟩
          (.op ⟨(some 70), none, .mov (.tmp 10)⟩
          (.op ⟨(some 71), none, .build [.int .i64 0, .str ⟨#[]⟩] [(0, 1, (.tmp 69)), (1, 1, (.tmp 70))]⟩
          (.op ⟨(some 72), none, .faddr 6 (.tmp 9)⟩
          (.op ⟨none, none, .store 1 (.tmp 72) (.cst (.int .i64 1))⟩
          (.op ⟨(some 73), none, .faddr 7 (.tmp 9)⟩
          (.op ⟨none, none, .store 2 (.tmp 73) (.tmp 71)⟩
          .nil)))))))))
          (.join ⟨[.box 0 0 (Ty.st .Src) [], .box 10 1 (Ty.st .Envelope) []], [0, 8, 9]⟩
           (.seq
            (.reg
            (.op ⟨(some 74), none, .mov (.tmp 0)⟩
            (.op ⟨(some 75), none, .call 13 [(.tmp 74), (.cst (.int .i64 3))]⟩
            (.op ⟨(some 76), none, .bin .gtr (.tmp 75) (.cst (.int .i64 0))⟩
            .nil))))
            (.cond (.tmp 76)
             (.seq
              (.reg
              (.op ⟨(some 77), none, .mov (.tmp 0)⟩
              (.op ⟨(some 78), none, .call 18 [(.tmp 77)]⟩
              (.op ⟨(some 79), none, .faddr 9 (.tmp 9)⟩
              (.op ⟨none, none, .store 2 (.tmp 79) (.tmp 78)⟩
              .nil)))))
              (.seq
               (.reg
               (.op ⟨(some 80), none, .mov (.tmp 0)⟩
               (.op ⟨(some 81), none, .call 13 [(.tmp 80), (.cst (.int .i64 2))]⟩
               (.op ⟨(some 82), none, .bin .eql (.tmp 81) (.cst (.int .i64 1))⟩
               .nil))))
               (.cond (.tmp 82)
                (.reg
                (.op ⟨(some 83), none, .mov (.tmp 0)⟩
                (.op ⟨(some 84), none, .call 18 [(.tmp 83)]⟩
                (.op ⟨(some 85), none, .faddr 11 (.tmp 9)⟩
                (.op ⟨none, none, .store 2 (.tmp 85) (.tmp 84)⟩
                .nil)))))
                .skip)))
             .skip))
           (.seq
            (.reg
            (.op ⟨(some 86), none, .mov (.tmp 0)⟩
            (.op ⟨(some 87), none, .faddr 7 (.tmp 9)⟩
            (.op ⟨(some 88), none, .faddr 0 (.tmp 87)⟩
            (.op ⟨(some 89), none, .load none (.tmp 88)⟩
            (.op ⟨(some 90), none, .bin .add (.tmp 89) (.cst (.int .i64 1))⟩
            (.op ⟨(some 91), none, .call 13 [(.tmp 86), (.tmp 90)]⟩
            (.op ⟨(some 92), none, .faddr 14 (.tmp 9)⟩
            (.op ⟨none, none, .store 1 (.tmp 92) (.tmp 91)⟩
            .nil)))))))))
            (.seq
             (.reg
             (.op ⟨(some 93), none, .mov (.tmp 0)⟩
             (.op ⟨(some 94), none, .faddr 14 (.tmp 9)⟩
             (.op ⟨(some 95), none, .load none (.tmp 94)⟩
             (.op ⟨(some 96), none, .bin .add (.tmp 95) (.cst (.int .i64 1))⟩
             (.op ⟨(some 97), none, .call 13 [(.tmp 93), (.tmp 96)]⟩
             (.op ⟨(some 98), none, .faddr 13 (.tmp 9)⟩
             (.op ⟨none, none, .store 1 (.tmp 98) (.tmp 97)⟩
             .nil))))))))
             (.join ⟨[.box 10 1 (Ty.st .Envelope) []], [8, 9]⟩
              (.seq
               (.reg
               (.op ⟨(some 99), none, .load (some 15) (.tmp 9)⟩
               (.op ⟨(some 100), none, .call 45 [(.tmp 99)]⟩
               (.op ⟨(some 101), none, .not (.tmp 100)⟩
               .nil))))
               (.cond (.tmp 101)
                (.reg
                (.op ⟨(some 102), none, .faddr 13 (.tmp 9)⟩
                (.op ⟨none, none, .store 1 (.tmp 102) (.cst (.int .i64 0))⟩
                .nil)))
                .skip))
              (.join ⟨[.box 10 1 (Ty.st .Envelope) []], [8, 9]⟩
               (.seq
                (.reg
                (.op ⟨(some 103), none, .load (some 15) (.tmp 9)⟩
                (.op ⟨(some 104), none, .call 45 [(.tmp 103)]⟩
                (.op ⟨(some 105), none, .not (.tmp 104)⟩
                .nil))))
                (.cond (.tmp 105)
                 (.reg
                 (.op ⟨(some 106), none, .faddr 14 (.tmp 9)⟩
                 (.op ⟨none, none, .store 1 (.tmp 106) (.cst (.int .i64 0))⟩
                 .nil)))
                 .skip))
               (.seq
                (.reg
                (.op ⟨(some 107), none, .load (some 15) (.tmp 9)⟩
                (.op ⟨(some 108), none, .call 45 [(.tmp 107)]⟩
                (.op ⟨(some 109), none, .not (.tmp 108)⟩
                .nil))))
                (.cond (.tmp 109)
                 (.reg
                 (.op ⟨(some 110), none, .build [.int .i64 0, .str ⟨#[]⟩] []⟩
                 (.op ⟨(some 111), none, .faddr 11 (.tmp 9)⟩
                 (.op ⟨none, none, .store 2 (.tmp 111) (.tmp 110)⟩
                 .nil))))
                 .skip))))))))
         (.exit 0)))))
     (.seq
      (.reg
      (.op ⟨(some 112), none, .load (some 15) (.tmp 9)⟩
      (.op ⟨none, none, .store 15 (.tmp 8) (.tmp 112)⟩
      .nil)))
      .ret)))))
theorem ok_play_Src_Envelope : FnOk Try.prog 12 113 (SA.erase sa_play_Src_Envelope) [.cell 8 (some 15)] := ⟨Try.f12, [], Try.func12, rfl, by kernel_rfl, by kernel_rfl, by kernel_rfl⟩
noncomputable def F_play_Src_Envelope (s : TSrc) (a0 : Int) (a1 : Int) (a2 : Int) : Option (TEnvelope × TSrc) :=
Option.bind (F_play_Src_Range s (1 : Int) (9 : Int)) fun p1 =>
Option.bind (F_play_Src_Trust p1.2 a2) fun p2 =>
Option.bind (F_play_Src_Value p2.2) fun p3 =>
letJ (fun (v4 : TSrc × TEnvelope × Unit) =>
some ((TEnvelope.mk v4.2.1.Node v4.2.1.Slot v4.2.1.Seq (TTrust.mk v4.2.1.Trust.Threshold v4.2.1.Trust.Nodes v4.2.1.Trust.Inner) v4.2.1.Kind v4.2.1.Ballot v4.2.1.Prepared v4.2.1.Prime v4.2.1.Low v4.2.1.High), v4.1)) fun j5 =>
Option.bind (F_play_Src_N p3.2 (4 : Int)) fun p6 =>
letJ (fun (v7 : TSrc × TEnvelope × Unit) =>
letJ (fun (v9 : TSrc × TEnvelope × Unit) =>
j5 (v9.1, (TEnvelope.mk v9.2.1.Node v9.2.1.Slot v9.2.1.Seq (TTrust.mk v9.2.1.Trust.Threshold v9.2.1.Trust.Nodes v9.2.1.Trust.Inner) v9.2.1.Kind v9.2.1.Ballot v9.2.1.Prepared v9.2.1.Prime v9.2.1.Low v9.2.1.High), ())) fun j10 =>
Option.bind (F_play_Src_Range v7.1 (1 : Int) (7 : Int)) fun p11 =>
letJ (fun (v12 : TSrc × TEnvelope × Unit) =>
Option.bind (F_play_Src_N v12.1 (addI .i64 v12.2.1.Ballot.Counter (1 : Int))) fun p14 =>
Option.bind (F_play_Src_N p14.2 (addI .i64 p14.1 (1 : Int))) fun p15 =>
letJ (fun (v16 : TEnvelope × Unit) =>
letJ (fun (v18 : TEnvelope × Unit) =>
Option.bind (F_ref24_Valid (TEnvelope.mk v18.1.Node v18.1.Slot v18.1.Seq (TTrust.mk v18.1.Trust.Threshold v18.1.Trust.Nodes v18.1.Trust.Inner) v18.1.Kind v18.1.Ballot v18.1.Prepared v18.1.Prime v18.1.Low v18.1.High)) fun r20 =>
bif (!r20) then
j10 (p15.2, (TEnvelope.mk v18.1.Node v18.1.Slot v18.1.Seq (TTrust.mk v18.1.Trust.Threshold v18.1.Trust.Nodes v18.1.Trust.Inner) v18.1.Kind v18.1.Ballot v18.1.Prepared (TBallot.mk (0 : Int) (ByteArray.mk #[])) v18.1.Low v18.1.High), ())
else
j10 (p15.2, (TEnvelope.mk v18.1.Node v18.1.Slot v18.1.Seq (TTrust.mk v18.1.Trust.Threshold v18.1.Trust.Nodes v18.1.Trust.Inner) v18.1.Kind v18.1.Ballot v18.1.Prepared v18.1.Prime v18.1.Low v18.1.High), ())) fun j19 =>
Option.bind (F_ref24_Valid (TEnvelope.mk v16.1.Node v16.1.Slot v16.1.Seq (TTrust.mk v16.1.Trust.Threshold v16.1.Trust.Nodes v16.1.Trust.Inner) v16.1.Kind v16.1.Ballot v16.1.Prepared v16.1.Prime v16.1.Low v16.1.High)) fun r21 =>
bif (!r21) then
j19 ((TEnvelope.mk v16.1.Node v16.1.Slot v16.1.Seq (TTrust.mk v16.1.Trust.Threshold v16.1.Trust.Nodes v16.1.Trust.Inner) v16.1.Kind v16.1.Ballot v16.1.Prepared v16.1.Prime v16.1.Low (0 : Int)), ())
else
j19 ((TEnvelope.mk v16.1.Node v16.1.Slot v16.1.Seq (TTrust.mk v16.1.Trust.Threshold v16.1.Trust.Nodes v16.1.Trust.Inner) v16.1.Kind v16.1.Ballot v16.1.Prepared v16.1.Prime v16.1.Low v16.1.High), ())) fun j17 =>
Option.bind (F_ref24_Valid (TEnvelope.mk v12.2.1.Node v12.2.1.Slot v12.2.1.Seq (TTrust.mk v12.2.1.Trust.Threshold v12.2.1.Trust.Nodes v12.2.1.Trust.Inner) v12.2.1.Kind v12.2.1.Ballot v12.2.1.Prepared v12.2.1.Prime p15.1 p14.1)) fun r22 =>
bif (!r22) then
j17 ((TEnvelope.mk v12.2.1.Node v12.2.1.Slot v12.2.1.Seq (TTrust.mk v12.2.1.Trust.Threshold v12.2.1.Trust.Nodes v12.2.1.Trust.Inner) v12.2.1.Kind v12.2.1.Ballot v12.2.1.Prepared v12.2.1.Prime (0 : Int) p14.1), ())
else
j17 ((TEnvelope.mk v12.2.1.Node v12.2.1.Slot v12.2.1.Seq (TTrust.mk v12.2.1.Trust.Threshold v12.2.1.Trust.Nodes v12.2.1.Trust.Inner) v12.2.1.Kind v12.2.1.Ballot v12.2.1.Prepared v12.2.1.Prime p15.1 p14.1), ())) fun j13 =>
Option.bind (F_play_Src_N p11.2 (3 : Int)) fun p23 =>
bif (decide ((0 : Int) < p23.1)) then
Option.bind (F_play_Src_Low p23.2) fun p24 =>
Option.bind (F_play_Src_N p24.2 (2 : Int)) fun p25 =>
bif (decide (p25.1 = (1 : Int))) then
Option.bind (F_play_Src_Low p25.2) fun p26 =>
j13 (p26.2, (TEnvelope.mk v7.2.1.Node v7.2.1.Slot v7.2.1.Seq (TTrust.mk v7.2.1.Trust.Threshold v7.2.1.Trust.Nodes v7.2.1.Trust.Inner) (1 : Int) (TBallot.mk p11.1 p3.1) p24.1 p26.1 v7.2.1.Low v7.2.1.High), ())
else
j13 (p25.2, (TEnvelope.mk v7.2.1.Node v7.2.1.Slot v7.2.1.Seq (TTrust.mk v7.2.1.Trust.Threshold v7.2.1.Trust.Nodes v7.2.1.Trust.Inner) (1 : Int) (TBallot.mk p11.1 p3.1) p24.1 v7.2.1.Prime v7.2.1.Low v7.2.1.High), ())
else
j13 (p23.2, (TEnvelope.mk v7.2.1.Node v7.2.1.Slot v7.2.1.Seq (TTrust.mk v7.2.1.Trust.Threshold v7.2.1.Trust.Nodes v7.2.1.Trust.Inner) (1 : Int) (TBallot.mk p11.1 p3.1) v7.2.1.Prepared v7.2.1.Prime v7.2.1.Low v7.2.1.High), ())) fun j8 =>
bif (decide (p6.1 = (0 : Int))) then
Option.bind (F_play_Src_Range p6.2 (1 : Int) (7 : Int)) fun p27 =>
Option.bind (F_play_Src_Range p27.2 (1 : Int) (4 : Int)) fun p28 =>
Option.bind (F_play_Src_N p28.2 (3 : Int)) fun p29 =>
Option.bind (F_play_Src_N p29.2 (3 : Int)) fun p30 =>
j5 (p30.2, (TEnvelope.mk a0 a1 p1.1 (TTrust.mk p2.1.Threshold p2.1.Nodes p2.1.Inner) (2 : Int) (TBallot.mk p27.1 p3.1) (TBallot.mk (addI .i64 (addI .i64 p28.1 p29.1) p30.1) p3.1) (TBallot.mk (0 : Int) (ByteArray.mk #[])) p28.1 (addI .i64 p28.1 p29.1)), ())
else
bif (decide (p6.1 = (1 : Int))) then
Option.bind (F_play_Src_N p6.2 (3 : Int)) fun p31 =>
bif (decide ((0 : Int) < p31.1)) then
Option.bind (F_play_Src_Range p31.2 (1 : Int) (7 : Int)) fun p32 =>
Option.bind (F_play_Src_Range p32.2 (1 : Int) (4 : Int)) fun p33 =>
Option.bind (F_play_Src_N p33.2 (3 : Int)) fun p34 =>
j5 (p34.2, (TEnvelope.mk a0 a1 p1.1 (TTrust.mk p2.1.Threshold p2.1.Nodes p2.1.Inner) (3 : Int) (TBallot.mk p32.1 p3.1) (TBallot.mk (0 : Int) (ByteArray.mk #[])) (TBallot.mk (0 : Int) (ByteArray.mk #[])) p33.1 (addI .i64 p33.1 p34.1)), ())
else
j8 (p31.2, (TEnvelope.mk a0 a1 p1.1 (TTrust.mk p2.1.Threshold p2.1.Nodes p2.1.Inner) (0 : Int) (TBallot.mk (0 : Int) (ByteArray.mk #[])) (TBallot.mk (0 : Int) (ByteArray.mk #[])) (TBallot.mk (0 : Int) (ByteArray.mk #[])) (0 : Int) (0 : Int)), ())
else
j8 (p6.2, (TEnvelope.mk a0 a1 p1.1 (TTrust.mk p2.1.Threshold p2.1.Nodes p2.1.Inner) (0 : Int) (TBallot.mk (0 : Int) (ByteArray.mk #[])) (TBallot.mk (0 : Int) (ByteArray.mk #[])) (TBallot.mk (0 : Int) (ByteArray.mk #[])) (0 : Int) (0 : Int)), ())
theorem e_play_Src_Envelope : rcK K [.rc 26 (Ty.st .Src) [.ty (Ty.i .i64), .ty (Ty.i .i64)] (.one (Ty.i .i64)) fun s a => F_play_Src_Range s a.1 a.2.1, .rc 31 (Ty.st .Src) [.ty (Ty.i .i64)] (.one (Ty.st .Trust)) fun s a => F_play_Src_Trust s a.1, .rc 14 (Ty.st .Src) [] (.one Ty.str) fun s a => F_play_Src_Value s , .rc 13 (Ty.st .Src) [.ty (Ty.i .i64)] (.one (Ty.i .i64)) fun s a => F_play_Src_N s a.1, .rc 18 (Ty.st .Src) [] (.one (Ty.st .Ballot)) fun s a => F_play_Src_Low s , .fn 45 [.ty (Ty.st .Envelope)] (.one Ty.bool) fun a => F_ref24_Valid a.1] sa_play_Src_Envelope [.cell 8 (some 15)] (Ty.st .Src) [.ty (Ty.i .i64), .ty (Ty.i .i64), .ty (Ty.i .i64)] (.one (Ty.st .Envelope)) = fun s a => F_play_Src_Envelope s a.1 a.2.1 a.2.2.1 := by kernel_rfl
theorem s_play_Src_Envelope : KFun.Sound (U := U) Try.prog (.rc 12 (Ty.st .Src) [.ty (Ty.i .i64), .ty (Ty.i .i64), .ty (Ty.i .i64)] (.one (Ty.st .Envelope)) fun s a => F_play_Src_Envelope s a.1 a.2.1 a.2.2.1) := rcK_sound (K := K) (Γ := [.rc 26 (Ty.st .Src) [.ty (Ty.i .i64), .ty (Ty.i .i64)] (.one (Ty.i .i64)) fun s a => F_play_Src_Range s a.1 a.2.1, .rc 31 (Ty.st .Src) [.ty (Ty.i .i64)] (.one (Ty.st .Trust)) fun s a => F_play_Src_Trust s a.1, .rc 14 (Ty.st .Src) [] (.one Ty.str) fun s a => F_play_Src_Value s , .rc 13 (Ty.st .Src) [.ty (Ty.i .i64)] (.one (Ty.i .i64)) fun s a => F_play_Src_N s a.1, .rc 18 (Ty.st .Src) [] (.one (Ty.st .Ballot)) fun s a => F_play_Src_Low s , .fn 45 [.ty (Ty.st .Envelope)] (.one Ty.bool) fun a => F_ref24_Valid a.1]) ok_play_Src_Envelope (by kernel_rfl) (by decide) ⟨s_play_Src_Range, s_play_Src_Trust, s_play_Src_Value, s_play_Src_N, s_play_Src_Low, s_ref24_Valid, trivial⟩ (fun s a => congrFun (congrFun e_play_Src_Envelope s) a)

/-! ### trustquorum/threshold.Depth -/
def sa_threshold_Depth : SA U :=
 (.seq
  (.reg
  (.op ⟨(some 1), none, .box (.tmp 0)⟩
  (.op ⟨(some 2), none, .mov (.cst (.int .i64 0))⟩
  .nil)))
  (.seq
   (.reg
   (.op ⟨(some 3), none, .mov (.cst (.int .i64 0))⟩
   .nil))
   (.seq
    (.seq
     (.reg
     (.op ⟨(some 6), none, .faddr 2 (.tmp 1)⟩
     (.op ⟨(some 7), none, .load none (.tmp 6)⟩
     (.op ⟨(some 8), none, .len false (.tmp 7)⟩
     (.op ⟨(some 9), none, .mov (.cst (.int .i64 0))⟩
     .nil)))))
     (.block 0
      (.loop ⟨[.val 3 (Ty.i .i64), .val 9 (Ty.i .i64)], [7, 8]⟩
       (.seq
        (.reg
        (.op ⟨(some 10), none, .bin .lss (.tmp 9) (.tmp 8)⟩
        .nil))
        (.seq
         (.cond (.tmp 10)
          .skip
          (.exit 0))
         (.seq
          (.block 1
           (.seq
            (.reg
            (.op ⟨(some 11), none, .iaddr 3 (.tmp 7) (.tmp 9)⟩
            (.op ⟨(some 12), none, .load (some 3) (.tmp 11)⟩
            (.op ⟨(some 5), none, .alloc [.int .i64 0, .nils, .nils]⟩
            (.op ⟨none, none, .store 3 (.tmp 5) (.tmp 12)⟩
            .nil)))))
            (.reg
            (.op ⟨(some 13), none, .mov (.tmp 3)⟩
            (.op ⟨(some 14), none, .load (some 3) (.tmp 5)⟩
            (.op ⟨(some 15), none, .call 92 [(.tmp 14)]⟩
            (.op ⟨(some 16), none, .minmax true (.tmp 13) (.tmp 15)⟩
            (.op ⟨(some 3), none, .mov (.tmp 16)⟩
            .nil))))))))
          (.reg
          (.op ⟨(some 17), none, .bin .add (.tmp 9) (.cst (.int .i64 1))⟩
          (.op ⟨(some 9), none, .mov (.tmp 17)⟩
          .nil)))))))))
    (.seq
     (.reg
     (.op ⟨(some 18), none, .mov (.tmp 3)⟩
     (.op ⟨(some 19), none, .bin .add (.tmp 18) (.cst (.int .i64 1))⟩
     (.op ⟨(some 2), none, .mov (.tmp 19)⟩
     .nil))))
     .ret))))
theorem ok_threshold_Depth : FnOk Try.prog 92 20 (SA.erase sa_threshold_Depth) [.tmp 2] := ⟨Try.f92, [], Try.func92, rfl, by kernel_rfl, by kernel_rfl, by kernel_rfl⟩
noncomputable def B_threshold_Depth (rec : (TTrust × Unit) → Option Int) (a0 : TTrust) : Option Int :=
loopO (fun (v1 : Int × Int × Unit) =>
bif (decide (v1.2.1 < ((List.length a0.Inner : Nat) : Int))) then
Option.bind (idx a0.Inner v1.2.1) fun x2 =>
Option.bind (rec ((TTrust.mk x2.Threshold x2.Nodes x2.Inner), ())) fun r3 =>
some (Sum.inl ((maxI v1.1 r3), (addI .i64 v1.2.1 (1 : Int)), ()))
else
Option.map Sum.inr (some (addI .i64 v1.1 (1 : Int)))) ((0 : Int), (0 : Int), ())
noncomputable def I_threshold_Depth : Nat → (TTrust × Unit) → Option Int := iterF (fun rec a => B_threshold_Depth rec a.1)
noncomputable def F_threshold_Depth (a0 : TTrust) : Option Int := I_threshold_Depth (SizeOf.sizeOf a0 + 1) (a0, ())
theorem e_threshold_Depth : (fun G => fnK K (.fn 92 [.ty (Ty.st .Trust)] (.one (Ty.i .i64)) G :: []) sa_threshold_Depth [.tmp 2] [.ty (Ty.st .Trust)] (.one (Ty.i .i64))) = (fun G a => B_threshold_Depth G a.1) := by kernel_rfl
theorem n_threshold_Depth : ∀ n, KFun.Sound (U := U) Try.prog (.fn 92 [.ty (Ty.st .Trust)] (.one (Ty.i .i64)) (I_threshold_Depth n))
  | 0 => ⟨ok_threshold_Depth.enters, fun a r h => by cases h⟩
  | n + 1 => fnK_sound (K := K) (r := .one (Ty.i .i64)) (Γ := .fn 92 [.ty (Ty.st .Trust)] (.one (Ty.i .i64)) (I_threshold_Depth n) :: []) (F := I_threshold_Depth (n + 1)) ok_threshold_Depth (by kernel_rfl) (by decide) ⟨n_threshold_Depth n, trivial⟩ (fun a => congrFun (congrFun e_threshold_Depth (I_threshold_Depth n)) a)
theorem s_threshold_Depth : KFun.Sound (U := U) Try.prog (.fn 92 [.ty (Ty.st .Trust)] (.one (Ty.i .i64)) fun a => F_threshold_Depth a.1) := ⟨ok_threshold_Depth.enters, fun a r h => (n_threshold_Depth _).2 a r h⟩

/-! ### trustquorum/threshold.Size -/
def sa_threshold_Size : SA U :=
 (.seq
  (.reg
  (.op ⟨(some 1), none, .box (.tmp 0)⟩
  (.op ⟨(some 2), none, .mov (.cst (.int .i64 0))⟩
  .nil)))
  (.seq
   (.reg
   (.op ⟨(some 6), none, .faddr 1 (.tmp 1)⟩
   (.op ⟨(some 7), none, .load none (.tmp 6)⟩
   (.op ⟨(some 8), none, .len false (.tmp 7)⟩
   (.op ⟨(some 9), none, .faddr 2 (.tmp 1)⟩
   (.op ⟨(some 10), none, .load none (.tmp 9)⟩
   (.op ⟨(some 11), none, .len false (.tmp 10)⟩
   (.op ⟨(some 12), none, .bin .add (.tmp 8) (.tmp 11)⟩
   (.op ⟨(some 3), none, .mov (.tmp 12)⟩
   .nil)))))))))
   (.seq
    (.seq
     (.reg
     (.op ⟨(some 13), none, .faddr 2 (.tmp 1)⟩
     (.op ⟨(some 14), none, .load none (.tmp 13)⟩
     (.op ⟨(some 15), none, .len false (.tmp 14)⟩
     (.op ⟨(some 16), none, .mov (.cst (.int .i64 0))⟩
     .nil)))))
     (.block 0
      (.loop ⟨[.val 3 (Ty.i .i64), .val 16 (Ty.i .i64)], [14, 15]⟩
       (.seq
        (.reg
        (.op ⟨(some 17), none, .bin .lss (.tmp 16) (.tmp 15)⟩
        .nil))
        (.seq
         (.cond (.tmp 17)
          .skip
          (.exit 0))
         (.seq
          (.block 1
           (.seq
            (.reg
            (.op ⟨(some 18), none, .iaddr 3 (.tmp 14) (.tmp 16)⟩
            (.op ⟨(some 19), none, .load (some 3) (.tmp 18)⟩
            (.op ⟨(some 5), none, .alloc [.int .i64 0, .nils, .nils]⟩
            (.op ⟨none, none, .store 3 (.tmp 5) (.tmp 19)⟩
            .nil)))))
            (.reg
            (.op ⟨(some 20), none, .mov (.tmp 3)⟩
            (.op ⟨(some 21), none, .load (some 3) (.tmp 5)⟩
            (.op ⟨(some 22), none, .call 93 [(.tmp 21)]⟩
            (.op ⟨(some 23), none, .bin .add (.tmp 20) (.tmp 22)⟩
            (.op ⟨(some 3), none, .mov (.tmp 23)⟩
            .nil))))))))
          (.reg
          (.op ⟨(some 24), none, .bin .add (.tmp 16) (.cst (.int .i64 1))⟩
          (.op ⟨(some 16), none, .mov (.tmp 24)⟩
          .nil)))))))))
    (.seq
     (.reg
     (.op ⟨(some 25), none, .mov (.tmp 3)⟩
     (.op ⟨(some 2), none, .mov (.tmp 25)⟩
     .nil)))
     .ret))))
theorem ok_threshold_Size : FnOk Try.prog 93 26 (SA.erase sa_threshold_Size) [.tmp 2] := ⟨Try.f93, [], Try.func93, rfl, by kernel_rfl, by kernel_rfl, by kernel_rfl⟩
noncomputable def B_threshold_Size (rec : (TTrust × Unit) → Option Int) (a0 : TTrust) : Option Int :=
loopO (fun (v1 : Int × Int × Unit) =>
bif (decide (v1.2.1 < ((List.length a0.Inner : Nat) : Int))) then
Option.bind (idx a0.Inner v1.2.1) fun x2 =>
Option.bind (rec ((TTrust.mk x2.Threshold x2.Nodes x2.Inner), ())) fun r3 =>
some (Sum.inl ((addI .i64 v1.1 r3), (addI .i64 v1.2.1 (1 : Int)), ()))
else
Option.map Sum.inr (some v1.1)) ((addI .i64 ((List.length a0.Nodes : Nat) : Int) ((List.length a0.Inner : Nat) : Int)), (0 : Int), ())
noncomputable def I_threshold_Size : Nat → (TTrust × Unit) → Option Int := iterF (fun rec a => B_threshold_Size rec a.1)
noncomputable def F_threshold_Size (a0 : TTrust) : Option Int := I_threshold_Size (SizeOf.sizeOf a0 + 1) (a0, ())
theorem e_threshold_Size : (fun G => fnK K (.fn 93 [.ty (Ty.st .Trust)] (.one (Ty.i .i64)) G :: []) sa_threshold_Size [.tmp 2] [.ty (Ty.st .Trust)] (.one (Ty.i .i64))) = (fun G a => B_threshold_Size G a.1) := by kernel_rfl
theorem n_threshold_Size : ∀ n, KFun.Sound (U := U) Try.prog (.fn 93 [.ty (Ty.st .Trust)] (.one (Ty.i .i64)) (I_threshold_Size n))
  | 0 => ⟨ok_threshold_Size.enters, fun a r h => by cases h⟩
  | n + 1 => fnK_sound (K := K) (r := .one (Ty.i .i64)) (Γ := .fn 93 [.ty (Ty.st .Trust)] (.one (Ty.i .i64)) (I_threshold_Size n) :: []) (F := I_threshold_Size (n + 1)) ok_threshold_Size (by kernel_rfl) (by decide) ⟨n_threshold_Size n, trivial⟩ (fun a => congrFun (congrFun e_threshold_Size (I_threshold_Size n)) a)
theorem s_threshold_Size : KFun.Sound (U := U) Try.prog (.fn 93 [.ty (Ty.st .Trust)] (.one (Ty.i .i64)) fun a => F_threshold_Size a.1) := ⟨ok_threshold_Size.enters, fun a r h => (n_threshold_Size _).2 a r h⟩

/-! ### trustquorum/threshold.node -/
def sa_threshold_node : SA U :=
 (.seq
  (.reg
  (.op ⟨(some 2), none, .mov (.cst (.bool false))⟩
  .nil))
  (.seq
   (.reg
   (.op ⟨(some 3), none, .mov (.tmp 0)⟩
   (.op ⟨(some 4), none, .bin .geq (.tmp 3) (.cst (.int .i64 0))⟩
   (.op ⟨(some 5), none, .mov (.tmp 4)⟩
   (.ite 5 true
    (.op ⟨(some 6), (some (5, true)), .mov (.tmp 0)⟩
    (.op ⟨(some 7), (some (5, true)), .bin .lss (.tmp 6) (.cst (.int .i64 10))⟩
    .nil))
    8 none (.tmp 7) (.cst (.bool false))
   (.op ⟨(some 2), none, .mov (.tmp 8)⟩
   .nil))))))
   .ret))
theorem ok_threshold_node : FnOk Try.prog 123 9 (SA.erase sa_threshold_node) [.tmp 2] := ⟨Try.f123, [], Try.func123, rfl, by kernel_rfl, by kernel_rfl, by kernel_rfl⟩
noncomputable def F_threshold_node (a0 : Int) : Option Bool :=
Option.bind (bif (decide ((0 : Int) ≤ a0)) then
some (decide (a0 < (10 : Int)))
else some false) fun b1 =>
some b1
theorem e_threshold_node : fnK K [] sa_threshold_node [.tmp 2] [.ty (Ty.i .i64)] (.one Ty.bool) = fun a => F_threshold_node a.1 := by kernel_rfl
theorem s_threshold_node : KFun.Sound (U := U) Try.prog (.fn 123 [.ty (Ty.i .i64)] (.one Ty.bool) fun a => F_threshold_node a.1) := fnK_sound (K := K) (Γ := []) ok_threshold_node (by kernel_rfl) (by decide) trivial (fun a => congrFun e_threshold_node a)

/-! ### trustquorum/threshold.level$1 -/
def sa_threshold_level_1 : SA U :=
 (.seq
  (.reg
  (.op ⟨(some 2), none, .mov (.cst (.bool false))⟩
  .nil))
  (.seq
   (.reg
   (.op ⟨(some 3), none, .mov (.tmp 0)⟩
   (.op ⟨(some 4), none, .call 123 [(.tmp 3)]⟩
   (.op ⟨(some 5), none, .not (.tmp 4)⟩
   (.op ⟨(some 2), none, .mov (.tmp 5)⟩
   .nil)))))
   .ret))
theorem ok_threshold_level_1 : FnOk Try.prog 122 6 (SA.erase sa_threshold_level_1) [.tmp 2] := ⟨Try.f122, [], Try.func122, rfl, by kernel_rfl, by kernel_rfl, by kernel_rfl⟩
noncomputable def F_threshold_level_1 (a0 : Int) : Option Bool :=
Option.bind (F_threshold_node a0) fun r1 =>
some (!r1)
theorem e_threshold_level_1 : fnK K [.fn 123 [.ty (Ty.i .i64)] (.one Ty.bool) fun a => F_threshold_node a.1] sa_threshold_level_1 [.tmp 2] [.ty (Ty.i .i64)] (.one Ty.bool) = fun a => F_threshold_level_1 a.1 := by kernel_rfl
theorem s_threshold_level_1 : KFun.Sound (U := U) Try.prog (.fn 122 [.ty (Ty.i .i64)] (.one Ty.bool) fun a => F_threshold_level_1 a.1) := fnK_sound (K := K) (Γ := [.fn 123 [.ty (Ty.i .i64)] (.one Ty.bool) fun a => F_threshold_node a.1]) ok_threshold_level_1 (by kernel_rfl) (by decide) ⟨s_threshold_node, trivial⟩ (fun a => congrFun e_threshold_level_1 a)

/-! ### slices.IndexFunc[[]int,int] -/
def sa_slices_IndexFunc_int_int_c122 : SA U :=
 (.seq
  (.reg
  (.op ⟨(some 4), none, .mov (.cst (.int .i64 0))⟩
  .nil))
  (.seq
   (.seq
    (.reg
    (.op ⟨(some 6), none, .mov (.tmp 0)⟩
    (.op ⟨(some 7), none, .len false (.tmp 6)⟩
    (.op ⟨(some 8), none, .mov (.cst (.int .i64 0))⟩
    .nil))))
    (.block 0
     (.loop ⟨[.val 8 (Ty.i .i64)], [0, 1, 7]⟩
      (.seq
       (.reg
       (.op ⟨(some 9), none, .bin .lss (.tmp 8) (.tmp 7)⟩
       .nil))
       (.seq
        (.cond (.tmp 9)
         .skip
         (.exit 0))
        (.seq
         (.block 1
          (.seq
           (.reg
           (.op ⟨(some 10), none, .mov (.tmp 8)⟩
           (.op ⟨(some 5), none, .mov (.tmp 10)⟩
           .nil)))
           (.seq
            (.reg
            (.op ⟨(some 11), none, .mov (.tmp 1)⟩
            (.op ⟨(some 12), none, .mov (.tmp 0)⟩
            (.op ⟨(some 13), none, .mov (.tmp 5)⟩
            (.op ⟨(some 14), none, .iaddr 1 (.tmp 12) (.tmp 13)⟩
            (.op ⟨(some 15), none, .load none (.tmp 14)⟩
            (.op ⟨(some 16), none, .callv (.tmp 11) [(.tmp 15)]⟩
            .nil)))))))
            (.cond (.tmp 16)
             (.seq
              (.reg
              (.op ⟨(some 17), none, .mov (.tmp 5)⟩
              (.op ⟨(some 4), none, .mov (.tmp 17)⟩
              .nil)))
              .ret)
             .skip))))
         (.reg
         (.op ⟨(some 18), none, .bin .add (.tmp 8) (.cst (.int .i64 1))⟩
         (.op ⟨(some 8), none, .mov (.tmp 18)⟩
         .nil)))))))))
   (.seq
    (.reg
    (.op ⟨(some 4), none, .mov (.cst (.int .i64 (-1)))⟩
    .nil))
    .ret)))
theorem ok_slices_IndexFunc_int_int_c122 : FnOk Try.prog 137 19 (SA.erase sa_slices_IndexFunc_int_int_c122) [.tmp 4] := ⟨Try.f137, [], Try.func137, rfl, by kernel_rfl, by kernel_rfl, by kernel_rfl⟩
noncomputable def F_slices_IndexFunc_int_int_c122 (a0 : (List Int)) : Option Int :=
loopO (fun (v1 : Int × Unit) =>
bif (decide (v1.1 < ((List.length a0 : Nat) : Int))) then
Option.bind (idx a0 v1.1) fun x2 =>
Option.bind (F_threshold_level_1 x2) fun r3 =>
bif r3 then
Option.map Sum.inr (some v1.1)
else
some (Sum.inl ((addI .i64 v1.1 (1 : Int)), ()))
else
Option.map Sum.inr (some (-1 : Int))) ((0 : Int), ())
theorem e_slices_IndexFunc_int_int_c122 : fnK K [.fn 122 [.ty (Ty.i .i64)] (.one Ty.bool) fun a => F_threshold_level_1 a.1] sa_slices_IndexFunc_int_int_c122 [.tmp 4] [.ty (Ty.sl (Ty.i .i64)), .clo 122 []] (.one (Ty.i .i64)) = fun a => F_slices_IndexFunc_int_int_c122 a.1 := by kernel_rfl
theorem s_slices_IndexFunc_int_int_c122 : KFun.Sound (U := U) Try.prog (.fn 137 [.ty (Ty.sl (Ty.i .i64)), .clo 122 []] (.one (Ty.i .i64)) fun a => F_slices_IndexFunc_int_int_c122 a.1) := fnK_sound (K := K) (Γ := [.fn 122 [.ty (Ty.i .i64)] (.one Ty.bool) fun a => F_threshold_level_1 a.1]) ok_slices_IndexFunc_int_int_c122 (by kernel_rfl) (by decide) ⟨s_threshold_level_1, trivial⟩ (fun a => congrFun e_slices_IndexFunc_int_int_c122 a)

/-! ### slices.ContainsFunc[[]int,int] -/
def sa_slices_ContainsFunc_int_int_c122 : SA U :=
 (.seq
  (.reg
  (.op ⟨(some 4), none, .mov (.cst (.bool false))⟩
  .nil))
  (.seq
   (.reg
   (.op ⟨(some 5), none, .mov (.tmp 0)⟩
   (.op ⟨(some 6), none, .mov (.tmp 1)⟩
   (.op ⟨(some 7), none, .call 137 [(.tmp 5), (.tmp 6)]⟩
   (.op ⟨(some 8), none, .bin .geq (.tmp 7) (.cst (.int .i64 0))⟩
   (.op ⟨(some 4), none, .mov (.tmp 8)⟩
   .nil))))))
   .ret))
theorem ok_slices_ContainsFunc_int_int_c122 : FnOk Try.prog 121 9 (SA.erase sa_slices_ContainsFunc_int_int_c122) [.tmp 4] := ⟨Try.f121, [], Try.func121, rfl, by kernel_rfl, by kernel_rfl, by kernel_rfl⟩
noncomputable def F_slices_ContainsFunc_int_int_c122 (a0 : (List Int)) : Option Bool :=
Option.bind (F_slices_IndexFunc_int_int_c122 a0) fun r1 =>
some (decide ((0 : Int) ≤ r1))
theorem e_slices_ContainsFunc_int_int_c122 : fnK K [.fn 137 [.ty (Ty.sl (Ty.i .i64)), .clo 122 []] (.one (Ty.i .i64)) fun a => F_slices_IndexFunc_int_int_c122 a.1] sa_slices_ContainsFunc_int_int_c122 [.tmp 4] [.ty (Ty.sl (Ty.i .i64)), .clo 122 []] (.one Ty.bool) = fun a => F_slices_ContainsFunc_int_int_c122 a.1 := by kernel_rfl
theorem s_slices_ContainsFunc_int_int_c122 : KFun.Sound (U := U) Try.prog (.fn 121 [.ty (Ty.sl (Ty.i .i64)), .clo 122 []] (.one Ty.bool) fun a => F_slices_ContainsFunc_int_int_c122 a.1) := fnK_sound (K := K) (Γ := [.fn 137 [.ty (Ty.sl (Ty.i .i64)), .clo 122 []] (.one (Ty.i .i64)) fun a => F_slices_IndexFunc_int_int_c122 a.1]) ok_slices_ContainsFunc_int_int_c122 (by kernel_rfl) (by decide) ⟨s_slices_IndexFunc_int_int_c122, trivial⟩ (fun a => congrFun e_slices_ContainsFunc_int_int_c122 a)

/-! ### trustquorum/nodeset.below -/
def sa_nodeset_below : SA U :=
 (.seq
  (.reg
  (.op ⟨(some 4), none, .mov (.cst (.bool false))⟩
  .nil))
  (.seq
   (.reg
   (.op ⟨(some 5), none, .mov (.tmp 0)⟩
   (.op ⟨(some 6), none, .bin .geq (.tmp 5) (.cst (.int .i64 0))⟩
   (.op ⟨(some 7), none, .mov (.tmp 6)⟩
   (.ite 7 true
    (.op ⟨(some 8), (some (7, true)), .mov (.tmp 0)⟩
    (.op ⟨(some 9), (some (7, true)), .mov (.tmp 1)⟩
    (.op ⟨(some 10), (some (7, true)), .bin .shl (.cst (.int .i64 1)) (.tmp 9)⟩
    (.op ⟨(some 11), (some (7, true)), .bin .lss (.tmp 8) (.tmp 10)⟩
    .nil))))
    12 none (.tmp 11) (.cst (.bool false))
   (.op ⟨(some 4), none, .mov (.tmp 12)⟩
   .nil))))))
   .ret))
theorem ok_nodeset_below : FnOk Try.prog 145 13 (SA.erase sa_nodeset_below) [.tmp 4] := ⟨Try.f145, [], Try.func145, rfl, by kernel_rfl, by kernel_rfl, by kernel_rfl⟩
noncomputable def F_nodeset_below (a0 : Int) (a1 : Int) : Option Bool :=
Option.bind (bif (decide ((0 : Int) ≤ a0)) then
if a1 < 0 then none else
some (decide (a0 < (shlI .i64 (1 : Int) a1)))
else some false) fun b1 =>
some b1
theorem e_nodeset_below : fnK K [] sa_nodeset_below [.tmp 4] [.ty (Ty.i .i64), .ty (Ty.i .i64)] (.one Ty.bool) = fun a => F_nodeset_below a.1 a.2.1 := by kernel_rfl
theorem s_nodeset_below : KFun.Sound (U := U) Try.prog (.fn 145 [.ty (Ty.i .i64), .ty (Ty.i .i64)] (.one Ty.bool) fun a => F_nodeset_below a.1 a.2.1) := fnK_sound (K := K) (Γ := []) ok_nodeset_below (by kernel_rfl) (by decide) trivial (fun a => congrFun e_nodeset_below a)

/-! ### trustquorum/nodeset.Valid -/
def sa_nodeset_Valid : SA U :=
 (.seq
  (.reg
  (.op ⟨(some 2), none, .mov (.cst (.bool false))⟩
  .nil))
  (.seq
   (.reg
   (.op ⟨(some 3), none, .mov (.tmp 0)⟩
   (.op ⟨(some 4), none, .call 145 [(.tmp 3), (.cst (.int .i64 10))]⟩
   (.op ⟨(some 2), none, .mov (.tmp 4)⟩
   .nil))))
   .ret))
theorem ok_nodeset_Valid : FnOk Try.prog 138 5 (SA.erase sa_nodeset_Valid) [.tmp 2] := ⟨Try.f138, [], Try.func138, rfl, by kernel_rfl, by kernel_rfl, by kernel_rfl⟩
noncomputable def F_nodeset_Valid (a0 : Int) : Option Bool :=
Option.bind (F_nodeset_below a0 (10 : Int)) fun r1 =>
some r1
theorem e_nodeset_Valid : fnK K [.fn 145 [.ty (Ty.i .i64), .ty (Ty.i .i64)] (.one Ty.bool) fun a => F_nodeset_below a.1 a.2.1] sa_nodeset_Valid [.tmp 2] [.ty (Ty.i .i64)] (.one Ty.bool) = fun a => F_nodeset_Valid a.1 := by kernel_rfl
theorem s_nodeset_Valid : KFun.Sound (U := U) Try.prog (.fn 138 [.ty (Ty.i .i64)] (.one Ty.bool) fun a => F_nodeset_Valid a.1) := fnK_sound (K := K) (Γ := [.fn 145 [.ty (Ty.i .i64), .ty (Ty.i .i64)] (.one Ty.bool) fun a => F_nodeset_below a.1 a.2.1]) ok_nodeset_Valid (by kernel_rfl) (by decide) ⟨s_nodeset_below, trivial⟩ (fun a => congrFun e_nodeset_Valid a)

/-! ### trustquorum/nodeset.Has -/
def sa_nodeset_Has : SA U :=
 (.seq
  (.reg
  (.op ⟨(some 4), none, .mov (.cst (.bool false))⟩
  .nil))
  (.seq
   (.reg
   (.op ⟨(some 5), none, .mov (.tmp 0)⟩
   (.op ⟨(some 6), none, .call 138 [(.tmp 5)]⟩
   (.op ⟨(some 7), none, .mov (.tmp 6)⟩
   (.ite 7 true
    (.op ⟨(some 8), (some (7, true)), .mov (.tmp 1)⟩
    (.op ⟨(some 9), (some (7, true)), .bin .geq (.tmp 8) (.cst (.int .i64 0))⟩
    .nil))
    10 none (.tmp 9) (.cst (.bool false))
   (.op ⟨(some 11), none, .mov (.tmp 10)⟩
   (.ite 11 true
    (.op ⟨(some 12), (some (11, true)), .mov (.tmp 1)⟩
    (.op ⟨(some 13), (some (11, true)), .bin .lss (.tmp 12) (.cst (.int .i64 10))⟩
    .nil))
    14 none (.tmp 13) (.cst (.bool false))
   (.op ⟨(some 15), none, .mov (.tmp 14)⟩
   (.ite 15 true
    (.op ⟨(some 16), (some (15, true)), .mov (.tmp 0)⟩
    (.op ⟨(some 17), (some (15, true)), .mov (.tmp 1)⟩
    (.op ⟨(some 18), (some (15, true)), .bin .shl (.cst (.int .i64 1)) (.tmp 17)⟩
    (.op ⟨(some 19), (some (15, true)), .bin .and (.tmp 16) (.tmp 18)⟩
    (.op ⟨(some 20), (some (15, true)), .bin .neq (.tmp 19) (.cst (.int .i64 0))⟩
    .nil)))))
    21 none (.tmp 20) (.cst (.bool false))
   (.op ⟨(some 4), none, .mov (.tmp 21)⟩
   .nil))))))))))
   .ret))
theorem ok_nodeset_Has : FnOk Try.prog 129 22 (SA.erase sa_nodeset_Has) [.tmp 4] := ⟨Try.f129, [], Try.func129, rfl, by kernel_rfl, by kernel_rfl, by kernel_rfl⟩
noncomputable def F_nodeset_Has (a0 : Int) (a1 : Int) : Option Bool :=
Option.bind (F_nodeset_Valid a0) fun r1 =>
Option.bind (bif r1 then
some (decide ((0 : Int) ≤ a1))
else some false) fun b2 =>
Option.bind (bif b2 then
some (decide (a1 < (10 : Int)))
else some false) fun b3 =>
Option.bind (bif b3 then
if a1 < 0 then none else
some (!decide ((andI .i64 a0 (shlI .i64 (1 : Int) a1)) = (0 : Int)))
else some false) fun b4 =>
some b4
theorem e_nodeset_Has : fnK K [.fn 138 [.ty (Ty.i .i64)] (.one Ty.bool) fun a => F_nodeset_Valid a.1] sa_nodeset_Has [.tmp 4] [.ty (Ty.i .i64), .ty (Ty.i .i64)] (.one Ty.bool) = fun a => F_nodeset_Has a.1 a.2.1 := by kernel_rfl
theorem s_nodeset_Has : KFun.Sound (U := U) Try.prog (.fn 129 [.ty (Ty.i .i64), .ty (Ty.i .i64)] (.one Ty.bool) fun a => F_nodeset_Has a.1 a.2.1) := fnK_sound (K := K) (Γ := [.fn 138 [.ty (Ty.i .i64)] (.one Ty.bool) fun a => F_nodeset_Valid a.1]) ok_nodeset_Has (by kernel_rfl) (by decide) ⟨s_nodeset_Valid, trivial⟩ (fun a => congrFun e_nodeset_Has a)

/-! ### trustquorum/nodeset.Of -/
def sa_nodeset_Of : SA U :=
 (.seq
  (.reg
  (.op ⟨(some 2), none, .mov (.cst (.int .i64 0))⟩
  (.op ⟨(some 3), none, .mov (.cst (.int .i64 0))⟩
  .nil)))
  (.seq
   (.reg
   (.op ⟨(some 4), none, .mov (.cst (.int .i64 0))⟩
   .nil))
   (.seq
    (.seq
     (.reg
     (.op ⟨(some 7), none, .mov (.tmp 0)⟩
     (.op ⟨(some 8), none, .len false (.tmp 7)⟩
     (.op ⟨(some 9), none, .mov (.cst (.int .i64 0))⟩
     .nil))))
     (.block 0
      (.loop ⟨[.val 4 (Ty.i .i64), .val 9 (Ty.i .i64)], [7, 8]⟩
       (.seq
        (.reg
        (.op ⟨(some 10), none, .bin .lss (.tmp 9) (.tmp 8)⟩
        .nil))
        (.seq
         (.cond (.tmp 10)
          .skip
          (.exit 0))
         (.seq
          (.block 1
           (.seq
            (.reg
            (.op ⟨(some 11), none, .iaddr 1 (.tmp 7) (.tmp 9)⟩
            (.op ⟨(some 12), none, .load none (.tmp 11)⟩
            (.op ⟨(some 6), none, .mov (.tmp 12)⟩
            .nil))))
            (.seq
             (.seq
              (.reg
              (.op ⟨(some 13), none, .mov (.tmp 6)⟩
              (.op ⟨(some 14), none, .bin .lss (.tmp 13) (.cst (.int .i64 0))⟩
              (.op ⟨(some 15), none, .mov (.tmp 14)⟩
              (.ite 15 false
               (.op ⟨(some 16), (some (15, false)), .mov (.tmp 6)⟩
               (.op ⟨(some 17), (some (15, false)), .bin .geq (.tmp 16) (.cst (.int .i64 10))⟩
               .nil))
               18 none (.cst (.bool true)) (.tmp 17)
              .nil)))))
              (.cond (.tmp 18)
               (.seq
                (.reg
                (.op ⟨(some 2), none, .mov (.cst (.int .i64 0))⟩
                (.op ⟨(some 3), none, .mov (.cst (.int .i64 5))⟩
                .nil)))
                .ret)
               .skip))
             (.seq
              (.seq
               (.reg
               (.op ⟨(some 19), none, .mov (.tmp 4)⟩
               (.op ⟨(some 20), none, .mov (.tmp 6)⟩
               (.op ⟨(some 21), none, .call 129 [(.tmp 19), (.tmp 20)]⟩
               .nil))))
               (.cond (.tmp 21)
                (.seq
                 (.reg
                 (.op ⟨(some 2), none, .mov (.cst (.int .i64 0))⟩
                 (.op ⟨(some 3), none, .mov (.cst (.int .i64 6))⟩
                 .nil)))
                 .ret)
                .skip))
              (.reg
              (.op ⟨(some 22), none, .mov (.tmp 4)⟩
              (.op ⟨(some 23), none, .mov (.tmp 6)⟩
              (.op ⟨(some 24), none, .bin .shl (.cst (.int .i64 1)) (.tmp 23)⟩
              (.op ⟨(some 25), none, .bin .or (.tmp 22) (.tmp 24)⟩
              (.op ⟨(some 4), none, .mov (.tmp 25)⟩
              .nil))))))))))
          (.reg
          (.op ⟨(some 26), none, .bin .add (.tmp 9) (.cst (.int .i64 1))⟩
          (.op ⟨(some 9), none, .mov (.tmp 26)⟩
          .nil)))))))))
    (.seq
     (.reg
     (.op ⟨(some 27), none, .mov (.tmp 4)⟩
     (.op ⟨(some 2), none, .mov (.tmp 27)⟩
     (.op ⟨(some 3), none, .mov (.cst (.int .i64 0))⟩
     .nil))))
     .ret))))
theorem ok_nodeset_Of : FnOk Try.prog 124 28 (SA.erase sa_nodeset_Of) [.tmp 2, .tmp 3] := ⟨Try.f124, [], Try.func124, rfl, by kernel_rfl, by kernel_rfl, by kernel_rfl⟩
noncomputable def F_nodeset_Of (a0 : (List Int)) : Option (Int × Int × Unit) :=
loopO (fun (v1 : Int × Int × Unit) =>
bif (decide (v1.2.1 < ((List.length a0 : Nat) : Int))) then
Option.bind (idx a0 v1.2.1) fun x2 =>
Option.bind (bif (decide (x2 < (0 : Int))) then some true
else
some (decide ((10 : Int) ≤ x2))) fun b3 =>
bif b3 then
Option.map Sum.inr (some ((0 : Int), (5 : Int), ()))
else
Option.bind (F_nodeset_Has v1.1 x2) fun r4 =>
bif r4 then
Option.map Sum.inr (some ((0 : Int), (6 : Int), ()))
else
if x2 < 0 then none else
some (Sum.inl ((orI .i64 v1.1 (shlI .i64 (1 : Int) x2)), (addI .i64 v1.2.1 (1 : Int)), ()))
else
Option.map Sum.inr (some (v1.1, (0 : Int), ()))) ((0 : Int), (0 : Int), ())
theorem e_nodeset_Of : fnK K [.fn 129 [.ty (Ty.i .i64), .ty (Ty.i .i64)] (.one Ty.bool) fun a => F_nodeset_Has a.1 a.2.1] sa_nodeset_Of [.tmp 2, .tmp 3] [.ty (Ty.sl (Ty.i .i64))] (.many [(Ty.i .i64), (Ty.i .i64)]) = fun a => F_nodeset_Of a.1 := by kernel_rfl
theorem s_nodeset_Of : KFun.Sound (U := U) Try.prog (.fn 124 [.ty (Ty.sl (Ty.i .i64))] (.many [(Ty.i .i64), (Ty.i .i64)]) fun a => F_nodeset_Of a.1) := fnK_sound (K := K) (Γ := [.fn 129 [.ty (Ty.i .i64), .ty (Ty.i .i64)] (.one Ty.bool) fun a => F_nodeset_Has a.1 a.2.1]) ok_nodeset_Of (by kernel_rfl) (by decide) ⟨s_nodeset_Has, trivial⟩ (fun a => congrFun e_nodeset_Of a)

/-! ### trustquorum/threshold.level -/
def sa_threshold_level : SA U :=
 (.seq
  (.reg
  (.op ⟨(some 1), none, .box (.tmp 0)⟩
  (.op ⟨(some 2), none, .mov (.cst (.int .i64 0))⟩
  .nil)))
  (.seq
   (.seq
    (.reg
    (.op ⟨(some 8), none, .faddr 0 (.tmp 1)⟩
    (.op ⟨(some 9), none, .load none (.tmp 8)⟩
    (.op ⟨(some 10), none, .bin .lss (.tmp 9) (.cst (.int .i64 1))⟩
    (.op ⟨(some 11), none, .mov (.tmp 10)⟩
    (.ite 11 false
     (.op ⟨(some 12), (some (11, false)), .faddr 0 (.tmp 1)⟩
     (.op ⟨(some 13), (some (11, false)), .load none (.tmp 12)⟩
     (.op ⟨(some 14), (some (11, false)), .faddr 1 (.tmp 1)⟩
     (.op ⟨(some 15), (some (11, false)), .load none (.tmp 14)⟩
     (.op ⟨(some 16), (some (11, false)), .len false (.tmp 15)⟩
     (.op ⟨(some 17), (some (11, false)), .faddr 2 (.tmp 1)⟩
     (.op ⟨(some 18), (some (11, false)), .load none (.tmp 17)⟩
     (.op ⟨(some 19), (some (11, false)), .len false (.tmp 18)⟩
     (.op ⟨(some 20), (some (11, false)), .bin .add (.tmp 16) (.tmp 19)⟩
     (.op ⟨(some 21), (some (11, false)), .bin .gtr (.tmp 13) (.tmp 20)⟩
     .nil))))))))))
     22 none (.cst (.bool true)) (.tmp 21)
    .nil))))))
    (.cond (.tmp 22)
     (.seq
      (.reg
      (.op ⟨(some 2), none, .mov (.cst (.int .i64 4))⟩
      .nil))
      .ret)
     .skip))
   (.seq
    (.seq
     (.reg
     (.op ⟨(some 23), none, .faddr 1 (.tmp 1)⟩
     (.op ⟨(some 24), none, .load none (.tmp 23)⟩
     (.op ⟨(some 25), none, .call 121 [(.tmp 24), (.cst (.clo 122 []))]⟩
     .nil))))
     (.cond (.tmp 25)
      (.seq
       (.reg
       (.op ⟨(some 2), none, .mov (.cst (.int .i64 5))⟩
       .nil))
       .ret)
      .skip))
    (.seq
     (.seq
      (.reg
      (.op ⟨(some 27), none, .faddr 1 (.tmp 1)⟩
      (.op ⟨(some 28), none, .load none (.tmp 27)⟩
      (.op ⟨(some 29), none, .call 124 [(.tmp 28)]⟩
      (.op ⟨(some 26), none, .mov (.tmp 29)⟩
      (.op ⟨(some 30), none, .extr 0 (.tmp 26)⟩
      (.op ⟨(some 31), none, .extr 1 (.tmp 26)⟩
      (.op ⟨(some 3), none, .mov (.tmp 30)⟩
      (.op ⟨(some 4), none, .mov (.tmp 31)⟩
      .nil)))))))))
      (.seq
       (.reg
       (.op ⟨(some 32), none, .mov (.tmp 4)⟩
       (.op ⟨(some 33), none, .bin .neq (.tmp 32) (.cst (.int .i64 0))⟩
       .nil)))
       (.cond (.tmp 33)
        (.seq
         (.reg
         (.op ⟨(some 34), none, .mov (.tmp 4)⟩
         (.op ⟨(some 2), none, .mov (.tmp 34)⟩
         .nil)))
         .ret)
        .skip)))
     (.seq
      (.seq
       (.reg
       (.op ⟨(some 35), none, .faddr 2 (.tmp 1)⟩
       (.op ⟨(some 36), none, .load none (.tmp 35)⟩
       (.op ⟨(some 37), none, .len false (.tmp 36)⟩
       (.op ⟨(some 38), none, .mov (.cst (.int .i64 0))⟩
       .nil)))))
       (.block 0
        (.loop ⟨[.val 38 (Ty.i .i64)], [36, 37]⟩
         (.seq
          (.reg
          (.op ⟨(some 39), none, .bin .lss (.tmp 38) (.tmp 37)⟩
          .nil))
          (.seq
           (.cond (.tmp 39)
            .skip
            (.exit 0))
           (.seq
            (.block 1
             (.seq
              (.reg
              (.op ⟨(some 40), none, .iaddr 3 (.tmp 36) (.tmp 38)⟩
              (.op ⟨(some 41), none, .load (some 3) (.tmp 40)⟩
              (.op ⟨(some 6), none, .alloc [.int .i64 0, .nils, .nils]⟩
              (.op ⟨none, none, .store 3 (.tmp 6) (.tmp 41)⟩
              .nil)))))
              (.seq
               (.reg
               (.op ⟨(some 42), none, .load (some 3) (.tmp 6)⟩
               (.op ⟨(some 43), none, .call 94 [(.tmp 42)]⟩
               (.op ⟨(some 7), none, .mov (.tmp 43)⟩
               .nil))))
               (.seq
                (.reg
                (.op ⟨(some 44), none, .mov (.tmp 7)⟩
                (.op ⟨(some 45), none, .bin .neq (.tmp 44) (.cst (.int .i64 0))⟩
                .nil)))
                (.cond (.tmp 45)
                 (.seq
                  (.reg
                  (.op ⟨(some 46), none, .mov (.tmp 7)⟩
                  (.op ⟨(some 2), none, .mov (.tmp 46)⟩
                  .nil)))
                  .ret)
                 .skip)))))
            (.reg
            (.op ⟨(some 47), none, .bin .add (.tmp 38) (.cst (.int .i64 1))⟩
            (.op ⟨(some 38), none, .mov (.tmp 47)⟩
            .nil)))))))))
      (.seq
       (.reg
       (.op ⟨(some 2), none, .mov (.cst (.int .i64 0))⟩
       .nil))
       .ret))))))
theorem ok_threshold_level : FnOk Try.prog 94 48 (SA.erase sa_threshold_level) [.tmp 2] := ⟨Try.f94, [], Try.func94, rfl, by kernel_rfl, by kernel_rfl, by kernel_rfl⟩
noncomputable def B_threshold_level (rec : (TTrust × Unit) → Option Int) (a0 : TTrust) : Option Int :=
Option.bind (bif (decide (a0.Threshold < (1 : Int))) then some true
else
some (decide ((addI .i64 ((List.length a0.Nodes : Nat) : Int) ((List.length a0.Inner : Nat) : Int)) < a0.Threshold))) fun b1 =>
bif b1 then
some (4 : Int)
else
Option.bind (F_slices_ContainsFunc_int_int_c122 a0.Nodes) fun r2 =>
bif r2 then
some (5 : Int)
else
Option.bind (F_nodeset_Of a0.Nodes) fun r3 =>
bif (!decide (r3.2.1 = (0 : Int))) then
some r3.2.1
else
loopO (fun (v4 : Int × Unit) =>
bif (decide (v4.1 < ((List.length a0.Inner : Nat) : Int))) then
Option.bind (idx a0.Inner v4.1) fun x5 =>
Option.bind (rec ((TTrust.mk x5.Threshold x5.Nodes x5.Inner), ())) fun r6 =>
bif (!decide (r6 = (0 : Int))) then
Option.map Sum.inr (some r6)
else
some (Sum.inl ((addI .i64 v4.1 (1 : Int)), ()))
else
Option.map Sum.inr (some (0 : Int))) ((0 : Int), ())
noncomputable def I_threshold_level : Nat → (TTrust × Unit) → Option Int := iterF (fun rec a => B_threshold_level rec a.1)
noncomputable def F_threshold_level (a0 : TTrust) : Option Int := I_threshold_level (SizeOf.sizeOf a0 + 1) (a0, ())
theorem e_threshold_level : (fun G => fnK K (.fn 94 [.ty (Ty.st .Trust)] (.one (Ty.i .i64)) G :: [.fn 121 [.ty (Ty.sl (Ty.i .i64)), .clo 122 []] (.one Ty.bool) fun a => F_slices_ContainsFunc_int_int_c122 a.1, .fn 124 [.ty (Ty.sl (Ty.i .i64))] (.many [(Ty.i .i64), (Ty.i .i64)]) fun a => F_nodeset_Of a.1]) sa_threshold_level [.tmp 2] [.ty (Ty.st .Trust)] (.one (Ty.i .i64))) = (fun G a => B_threshold_level G a.1) := by kernel_rfl
theorem n_threshold_level : ∀ n, KFun.Sound (U := U) Try.prog (.fn 94 [.ty (Ty.st .Trust)] (.one (Ty.i .i64)) (I_threshold_level n))
  | 0 => ⟨ok_threshold_level.enters, fun a r h => by cases h⟩
  | n + 1 => fnK_sound (K := K) (r := .one (Ty.i .i64)) (Γ := .fn 94 [.ty (Ty.st .Trust)] (.one (Ty.i .i64)) (I_threshold_level n) :: [.fn 121 [.ty (Ty.sl (Ty.i .i64)), .clo 122 []] (.one Ty.bool) fun a => F_slices_ContainsFunc_int_int_c122 a.1, .fn 124 [.ty (Ty.sl (Ty.i .i64))] (.many [(Ty.i .i64), (Ty.i .i64)]) fun a => F_nodeset_Of a.1]) (F := I_threshold_level (n + 1)) ok_threshold_level (by kernel_rfl) (by decide) ⟨n_threshold_level n, s_slices_ContainsFunc_int_int_c122, s_nodeset_Of, trivial⟩ (fun a => congrFun (congrFun e_threshold_level (I_threshold_level n)) a)
theorem s_threshold_level : KFun.Sound (U := U) Try.prog (.fn 94 [.ty (Ty.st .Trust)] (.one (Ty.i .i64)) fun a => F_threshold_level a.1) := ⟨ok_threshold_level.enters, fun a r h => (n_threshold_level _).2 a r h⟩

/-! ### trustquorum/threshold.Valid -/
def sa_threshold_Valid : SA U :=
 (.seq
  (.reg
  (.op ⟨(some 1), none, .box (.tmp 0)⟩
  (.op ⟨(some 2), none, .mov (.cst (.int .i64 0))⟩
  .nil)))
  (.seq
   (.seq
    (.reg
    (.op ⟨(some 3), none, .load (some 3) (.tmp 1)⟩
    (.op ⟨(some 4), none, .call 92 [(.tmp 3)]⟩
    (.op ⟨(some 5), none, .bin .gtr (.tmp 4) (.cst (.int .i64 4))⟩
    (.op ⟨(some 6), none, .mov (.tmp 5)⟩
    (.ite 6 false
     (.op ⟨(some 7), (some (6, false)), .load (some 3) (.tmp 1)⟩
     (.op ⟨(some 8), (some (6, false)), .call 93 [(.tmp 7)]⟩
     (.op ⟨(some 9), (some (6, false)), .bin .gtr (.tmp 8) (.cst (.int .i64 200))⟩
     .nil)))
     10 none (.cst (.bool true)) (.tmp 9)
    .nil))))))
    (.cond (.tmp 10)
     (.seq
      (.reg
      (.op ⟨(some 2), none, .mov (.cst (.int .i64 3))⟩
      .nil))
      .ret)
     .skip))
   (.seq
    (.reg
    (.op ⟨(some 11), none, .load (some 3) (.tmp 1)⟩
    (.op ⟨(some 12), none, .call 94 [(.tmp 11)]⟩
    (.op ⟨(some 2), none, .mov (.tmp 12)⟩
    .nil))))
    .ret)))
theorem ok_threshold_Valid : FnOk Try.prog 53 13 (SA.erase sa_threshold_Valid) [.tmp 2] := ⟨Try.f53, [], Try.func53, rfl, by kernel_rfl, by kernel_rfl, by kernel_rfl⟩
noncomputable def F_threshold_Valid (a0 : TTrust) : Option Int :=
Option.bind (F_threshold_Depth (TTrust.mk a0.Threshold a0.Nodes a0.Inner)) fun r1 =>
Option.bind (bif (decide ((4 : Int) < r1)) then some true
else
Option.bind (F_threshold_Size (TTrust.mk a0.Threshold a0.Nodes a0.Inner)) fun r2 =>
some (decide ((200 : Int) < r2))) fun b3 =>
bif b3 then
some (3 : Int)
else
Option.bind (F_threshold_level (TTrust.mk a0.Threshold a0.Nodes a0.Inner)) fun r4 =>
some r4
theorem e_threshold_Valid : fnK K [.fn 92 [.ty (Ty.st .Trust)] (.one (Ty.i .i64)) fun a => F_threshold_Depth a.1, .fn 93 [.ty (Ty.st .Trust)] (.one (Ty.i .i64)) fun a => F_threshold_Size a.1, .fn 94 [.ty (Ty.st .Trust)] (.one (Ty.i .i64)) fun a => F_threshold_level a.1] sa_threshold_Valid [.tmp 2] [.ty (Ty.st .Trust)] (.one (Ty.i .i64)) = fun a => F_threshold_Valid a.1 := by kernel_rfl
theorem s_threshold_Valid : KFun.Sound (U := U) Try.prog (.fn 53 [.ty (Ty.st .Trust)] (.one (Ty.i .i64)) fun a => F_threshold_Valid a.1) := fnK_sound (K := K) (Γ := [.fn 92 [.ty (Ty.st .Trust)] (.one (Ty.i .i64)) fun a => F_threshold_Depth a.1, .fn 93 [.ty (Ty.st .Trust)] (.one (Ty.i .i64)) fun a => F_threshold_Size a.1, .fn 94 [.ty (Ty.st .Trust)] (.one (Ty.i .i64)) fun a => F_threshold_level a.1]) ok_threshold_Valid (by kernel_rfl) (by decide) ⟨s_threshold_Depth, s_threshold_Size, s_threshold_level, trivial⟩ (fun a => congrFun e_threshold_Valid a)

/-! ### trustquorum/ballots.Zero -/
def sa_ballots_Zero : SA U :=
 (.seq
  (.reg
  (.op ⟨(some 1), none, .box (.tmp 0)⟩
  (.op ⟨(some 2), none, .mov (.cst (.bool false))⟩
  .nil)))
  (.seq
   (.reg
   (.op ⟨(some 3), none, .load (some 2) (.tmp 1)⟩
   (.op ⟨(some 4), none, .build [.int .i64 0, .str ⟨#[]⟩] []⟩
   (.op ⟨(some 5), none, .eq2 false (.tmp 3) (.tmp 4)⟩
   (.op ⟨(some 2), none, .mov (.tmp 5)⟩
   .nil)))))
   .ret))
theorem ok_ballots_Zero : FnOk Try.prog 48 6 (SA.erase sa_ballots_Zero) [.tmp 2] := ⟨Try.f48, [], Try.func48, rfl, by kernel_rfl, by kernel_rfl, by kernel_rfl⟩
noncomputable def F_ballots_Zero (a0 : TBallot) : Option Bool :=
some (eq2 false a0.Counter (0 : Int) a0.Value (ByteArray.mk #[]))
theorem e_ballots_Zero : fnK K [] sa_ballots_Zero [.tmp 2] [.ty (Ty.st .Ballot)] (.one Ty.bool) = fun a => F_ballots_Zero a.1 := by kernel_rfl
theorem s_ballots_Zero : KFun.Sound (U := U) Try.prog (.fn 48 [.ty (Ty.st .Ballot)] (.one Ty.bool) fun a => F_ballots_Zero a.1) := fnK_sound (K := K) (Γ := []) ok_ballots_Zero (by kernel_rfl) (by decide) trivial (fun a => congrFun e_ballots_Zero a)

/-! ### cmp.isNaN[int] -/
def sa_cmp_isNaN_int : SA U :=
 (.seq
  (.reg
  (.op ⟨(some 2), none, .mov (.cst (.bool false))⟩
  .nil))
  (.seq
   (.reg
   (.op ⟨(some 3), none, .mov (.tmp 0)⟩
   (.op ⟨(some 4), none, .mov (.tmp 0)⟩
   (.op ⟨(some 5), none, .bin .neq (.tmp 3) (.tmp 4)⟩
   (.op ⟨(some 2), none, .mov (.tmp 5)⟩
   .nil)))))
   .ret))
theorem ok_cmp_isNaN_int : FnOk Try.prog 133 6 (SA.erase sa_cmp_isNaN_int) [.tmp 2] := ⟨Try.f133, [], Try.func133, rfl, by kernel_rfl, by kernel_rfl, by kernel_rfl⟩
noncomputable def F_cmp_isNaN_int (a0 : Int) : Option Bool :=
some (!decide (a0 = a0))
theorem e_cmp_isNaN_int : fnK K [] sa_cmp_isNaN_int [.tmp 2] [.ty (Ty.i .i64)] (.one Ty.bool) = fun a => F_cmp_isNaN_int a.1 := by kernel_rfl
theorem s_cmp_isNaN_int : KFun.Sound (U := U) Try.prog (.fn 133 [.ty (Ty.i .i64)] (.one Ty.bool) fun a => F_cmp_isNaN_int a.1) := fnK_sound (K := K) (Γ := []) ok_cmp_isNaN_int (by kernel_rfl) (by decide) trivial (fun a => congrFun e_cmp_isNaN_int a)

/-! ### cmp.Compare[int] -/
def sa_cmp_Compare_int : SA U :=
 (.seq
  (.reg
  (.op ⟨(some 4), none, .mov (.cst (.int .i64 0))⟩
  .nil))
  (.seq
   (.reg
   (.op ⟨(some 7), none, .mov (.tmp 0)⟩
   (.op ⟨(some 8), none, .call 133 [(.tmp 7)]⟩
   (.op ⟨(some 5), none, .mov (.tmp 8)⟩
   .nil))))
   (.seq
    (.reg
    (.op ⟨(some 9), none, .mov (.tmp 1)⟩
    (.op ⟨(some 10), none, .call 133 [(.tmp 9)]⟩
    (.op ⟨(some 6), none, .mov (.tmp 10)⟩
    .nil))))
    (.seq
     (.seq
      (.reg
      (.op ⟨(some 11), none, .mov (.tmp 5)⟩
      .nil))
      (.cond (.tmp 11)
       (.seq
        (.seq
         (.reg
         (.op ⟨(some 12), none, .mov (.tmp 6)⟩
         .nil))
         (.cond (.tmp 12)
          (.seq
           (.reg
           (.op ⟨(some 4), none, .mov (.cst (.int .i64 0))⟩
           .nil))
           .ret)
          .skip))
        (.seq
         (.reg
         (.op ⟨(some 4), none, .mov (.cst (.int .i64 (-1)))⟩
         .nil))
         .ret))
       .skip))
     (.seq
      (.seq
       (.reg
       (.op ⟨(some 13), none, .mov (.tmp 6)⟩
       .nil))
       (.cond (.tmp 13)
        (.seq
         (.reg
         (.op ⟨(some 4), none, .mov (.cst (.int .i64 1))⟩
         .nil))
         .ret)
        .skip))
      (.seq
       (.seq
        (.reg
        (.op ⟨(some 14), none, .mov (.tmp 0)⟩
        (.op ⟨(some 15), none, .mov (.tmp 1)⟩
        (.op ⟨(some 16), none, .bin .lss (.tmp 14) (.tmp 15)⟩
        .nil))))
        (.cond (.tmp 16)
         (.seq
          (.reg
          (.op ⟨(some 4), none, .mov (.cst (.int .i64 (-1)))⟩
          .nil))
          .ret)
         .skip))
       (.seq
        (.seq
         (.reg
         (.op ⟨(some 17), none, .mov (.tmp 0)⟩
         (.op ⟨(some 18), none, .mov (.tmp 1)⟩
         (.op ⟨(some 19), none, .bin .gtr (.tmp 17) (.tmp 18)⟩
         .nil))))
         (.cond (.tmp 19)
          (.seq
           (.reg
           (.op ⟨(some 4), none, .mov (.cst (.int .i64 1))⟩
           .nil))
           .ret)
          .skip))
        (.seq
         (.reg
         (.op ⟨(some 4), none, .mov (.cst (.int .i64 0))⟩
         .nil))
         .ret))))))))
theorem ok_cmp_Compare_int : FnOk Try.prog 111 20 (SA.erase sa_cmp_Compare_int) [.tmp 4] := ⟨Try.f111, [], Try.func111, rfl, by kernel_rfl, by kernel_rfl, by kernel_rfl⟩
noncomputable def F_cmp_Compare_int (a0 : Int) (a1 : Int) : Option Int :=
Option.bind (F_cmp_isNaN_int a0) fun r1 =>
Option.bind (F_cmp_isNaN_int a1) fun r2 =>
bif r1 then
bif r2 then
some (0 : Int)
else
some (-1 : Int)
else
bif r2 then
some (1 : Int)
else
bif (decide (a0 < a1)) then
some (-1 : Int)
else
bif (decide (a1 < a0)) then
some (1 : Int)
else
some (0 : Int)
theorem e_cmp_Compare_int : fnK K [.fn 133 [.ty (Ty.i .i64)] (.one Ty.bool) fun a => F_cmp_isNaN_int a.1] sa_cmp_Compare_int [.tmp 4] [.ty (Ty.i .i64), .ty (Ty.i .i64)] (.one (Ty.i .i64)) = fun a => F_cmp_Compare_int a.1 a.2.1 := by kernel_rfl
theorem s_cmp_Compare_int : KFun.Sound (U := U) Try.prog (.fn 111 [.ty (Ty.i .i64), .ty (Ty.i .i64)] (.one (Ty.i .i64)) fun a => F_cmp_Compare_int a.1 a.2.1) := fnK_sound (K := K) (Γ := [.fn 133 [.ty (Ty.i .i64)] (.one Ty.bool) fun a => F_cmp_isNaN_int a.1]) ok_cmp_Compare_int (by kernel_rfl) (by decide) ⟨s_cmp_isNaN_int, trivial⟩ (fun a => congrFun e_cmp_Compare_int a)

/-! ### cmp.isNaN[string] -/
def sa_cmp_isNaN_string : SA U :=
 (.seq
  (.reg
  (.op ⟨(some 2), none, .mov (.cst (.bool false))⟩
  .nil))
  (.seq
   (.reg
   (.op ⟨(some 3), none, .mov (.tmp 0)⟩
   (.op ⟨(some 4), none, .mov (.tmp 0)⟩
   (.op ⟨(some 5), none, .bin .neq (.tmp 3) (.tmp 4)⟩
   (.op ⟨(some 2), none, .mov (.tmp 5)⟩
   .nil)))))
   .ret))
theorem ok_cmp_isNaN_string : FnOk Try.prog 144 6 (SA.erase sa_cmp_isNaN_string) [.tmp 2] := ⟨Try.f144, [], Try.func144, rfl, by kernel_rfl, by kernel_rfl, by kernel_rfl⟩
noncomputable def F_cmp_isNaN_string (a0 : ByteArray) : Option Bool :=
some (!decide (a0 = a0))
theorem e_cmp_isNaN_string : fnK K [] sa_cmp_isNaN_string [.tmp 2] [.ty Ty.str] (.one Ty.bool) = fun a => F_cmp_isNaN_string a.1 := by kernel_rfl
theorem s_cmp_isNaN_string : KFun.Sound (U := U) Try.prog (.fn 144 [.ty Ty.str] (.one Ty.bool) fun a => F_cmp_isNaN_string a.1) := fnK_sound (K := K) (Γ := []) ok_cmp_isNaN_string (by kernel_rfl) (by decide) trivial (fun a => congrFun e_cmp_isNaN_string a)

/-! ### cmp.Compare[string] -/
def sa_cmp_Compare_string : SA U :=
 (.seq
  (.reg
  (.op ⟨(some 4), none, .mov (.cst (.int .i64 0))⟩
  .nil))
  (.seq
   (.reg
   (.op ⟨(some 7), none, .mov (.tmp 0)⟩
   (.op ⟨(some 8), none, .call 144 [(.tmp 7)]⟩
   (.op ⟨(some 5), none, .mov (.tmp 8)⟩
   .nil))))
   (.seq
    (.reg
    (.op ⟨(some 9), none, .mov (.tmp 1)⟩
    (.op ⟨(some 10), none, .call 144 [(.tmp 9)]⟩
    (.op ⟨(some 6), none, .mov (.tmp 10)⟩
    .nil))))
    (.seq
     (.seq
      (.reg
      (.op ⟨(some 11), none, .mov (.tmp 5)⟩
      .nil))
      (.cond (.tmp 11)
       (.seq
        (.seq
         (.reg
         (.op ⟨(some 12), none, .mov (.tmp 6)⟩
         .nil))
         (.cond (.tmp 12)
          (.seq
           (.reg
           (.op ⟨(some 4), none, .mov (.cst (.int .i64 0))⟩
           .nil))
           .ret)
          .skip))
        (.seq
         (.reg
         (.op ⟨(some 4), none, .mov (.cst (.int .i64 (-1)))⟩
         .nil))
         .ret))
       .skip))
     (.seq
      (.seq
       (.reg
       (.op ⟨(some 13), none, .mov (.tmp 6)⟩
       .nil))
       (.cond (.tmp 13)
        (.seq
         (.reg
         (.op ⟨(some 4), none, .mov (.cst (.int .i64 1))⟩
         .nil))
         .ret)
        .skip))
      (.seq
       (.seq
        (.reg
        (.op ⟨(some 14), none, .mov (.tmp 0)⟩
        (.op ⟨(some 15), none, .mov (.tmp 1)⟩
        (.op ⟨(some 16), none, .bin .lss (.tmp 14) (.tmp 15)⟩
        .nil))))
        (.cond (.tmp 16)
         (.seq
          (.reg
          (.op ⟨(some 4), none, .mov (.cst (.int .i64 (-1)))⟩
          .nil))
          .ret)
         .skip))
       (.seq
        (.seq
         (.reg
         (.op ⟨(some 17), none, .mov (.tmp 0)⟩
         (.op ⟨(some 18), none, .mov (.tmp 1)⟩
         (.op ⟨(some 19), none, .bin .gtr (.tmp 17) (.tmp 18)⟩
         .nil))))
         (.cond (.tmp 19)
          (.seq
           (.reg
           (.op ⟨(some 4), none, .mov (.cst (.int .i64 1))⟩
           .nil))
           .ret)
          .skip))
        (.seq
         (.reg
         (.op ⟨(some 4), none, .mov (.cst (.int .i64 0))⟩
         .nil))
         .ret))))))))
theorem ok_cmp_Compare_string : FnOk Try.prog 136 20 (SA.erase sa_cmp_Compare_string) [.tmp 4] := ⟨Try.f136, [], Try.func136, rfl, by kernel_rfl, by kernel_rfl, by kernel_rfl⟩
noncomputable def F_cmp_Compare_string (a0 : ByteArray) (a1 : ByteArray) : Option Int :=
Option.bind (F_cmp_isNaN_string a0) fun r1 =>
Option.bind (F_cmp_isNaN_string a1) fun r2 =>
bif r1 then
bif r2 then
some (0 : Int)
else
some (-1 : Int)
else
bif r2 then
some (1 : Int)
else
bif (sless a0 a1) then
some (-1 : Int)
else
bif (!(sless a0 a1 || decide (a0 = a1))) then
some (1 : Int)
else
some (0 : Int)
theorem e_cmp_Compare_string : fnK K [.fn 144 [.ty Ty.str] (.one Ty.bool) fun a => F_cmp_isNaN_string a.1] sa_cmp_Compare_string [.tmp 4] [.ty Ty.str, .ty Ty.str] (.one (Ty.i .i64)) = fun a => F_cmp_Compare_string a.1 a.2.1 := by kernel_rfl
theorem s_cmp_Compare_string : KFun.Sound (U := U) Try.prog (.fn 136 [.ty Ty.str, .ty Ty.str] (.one (Ty.i .i64)) fun a => F_cmp_Compare_string a.1 a.2.1) := fnK_sound (K := K) (Γ := [.fn 144 [.ty Ty.str] (.one Ty.bool) fun a => F_cmp_isNaN_string a.1]) ok_cmp_Compare_string (by kernel_rfl) (by decide) ⟨s_cmp_isNaN_string, trivial⟩ (fun a => congrFun e_cmp_Compare_string a)

/-! ### cmp.Or[int] -/
def sa_cmp_Or_int : SA U :=
 (.seq
  (.reg
  (.op ⟨(some 2), none, .mov (.cst (.int .i64 0))⟩
  .nil))
  (.seq
   (.reg
   (.op ⟨(some 3), none, .mov (.cst (.int .i64 0))⟩
   .nil))
   (.seq
    (.seq
     (.reg
     (.op ⟨(some 6), none, .mov (.tmp 0)⟩
     (.op ⟨(some 7), none, .len false (.tmp 6)⟩
     (.op ⟨(some 8), none, .mov (.cst (.int .i64 0))⟩
     .nil))))
     (.block 0
      (.loop ⟨[.val 8 (Ty.i .i64)], [3, 6, 7]⟩
       (.seq
        (.reg
        (.op ⟨(some 9), none, .bin .lss (.tmp 8) (.tmp 7)⟩
        .nil))
        (.seq
         (.cond (.tmp 9)
          .skip
          (.exit 0))
         (.seq
          (.block 1
           (.seq
            (.reg
            (.op ⟨(some 10), none, .iaddr 1 (.tmp 6) (.tmp 8)⟩
            (.op ⟨(some 11), none, .load none (.tmp 10)⟩
            (.op ⟨(some 5), none, .mov (.tmp 11)⟩
            .nil))))
            (.seq
             (.reg
             (.op ⟨(some 12), none, .mov (.tmp 5)⟩
             (.op ⟨(some 13), none, .mov (.tmp 3)⟩
             (.op ⟨(some 14), none, .bin .neq (.tmp 12) (.tmp 13)⟩
             .nil))))
             (.cond (.tmp 14)
              (.seq
               (.reg
               (.op ⟨(some 15), none, .mov (.tmp 5)⟩
               (.op ⟨(some 2), none, .mov (.tmp 15)⟩
               .nil)))
               .ret)
              .skip))))
          (.reg
          (.op ⟨(some 16), none, .bin .add (.tmp 8) (.cst (.int .i64 1))⟩
          (.op ⟨(some 8), none, .mov (.tmp 16)⟩
          .nil)))))))))
    (.seq
     (.reg
     (.op ⟨(some 17), none, .mov (.tmp 3)⟩
     (.op ⟨(some 2), none, .mov (.tmp 17)⟩
     .nil)))
     .ret))))
theorem ok_cmp_Or_int : FnOk Try.prog 118 18 (SA.erase sa_cmp_Or_int) [.tmp 2] := ⟨Try.f118, [], Try.func118, rfl, by kernel_rfl, by kernel_rfl, by kernel_rfl⟩
noncomputable def F_cmp_Or_int (a0 : (List Int)) : Option Int :=
loopO (fun (v1 : Int × Unit) =>
bif (decide (v1.1 < ((List.length a0 : Nat) : Int))) then
Option.bind (idx a0 v1.1) fun x2 =>
bif (!decide (x2 = (0 : Int))) then
Option.map Sum.inr (some x2)
else
some (Sum.inl ((addI .i64 v1.1 (1 : Int)), ()))
else
Option.map Sum.inr (some (0 : Int))) ((0 : Int), ())
theorem e_cmp_Or_int : fnK K [] sa_cmp_Or_int [.tmp 2] [.ty (Ty.sl (Ty.i .i64))] (.one (Ty.i .i64)) = fun a => F_cmp_Or_int a.1 := by kernel_rfl
theorem s_cmp_Or_int : KFun.Sound (U := U) Try.prog (.fn 118 [.ty (Ty.sl (Ty.i .i64))] (.one (Ty.i .i64)) fun a => F_cmp_Or_int a.1) := fnK_sound (K := K) (Γ := []) ok_cmp_Or_int (by kernel_rfl) (by decide) trivial (fun a => congrFun e_cmp_Or_int a)

/-! ### trustquorum/ballots.CompareValues -/
def sa_ballots_CompareValues : SA U :=
 (.seq
  (.reg
  (.op ⟨(some 4), none, .mov (.cst (.int .i64 0))⟩
  .nil))
  (.seq
   (.reg
   (.op ⟨(some 5), none, .mov (.tmp 0)⟩
   (.op ⟨(some 6), none, .len true (.tmp 5)⟩
   (.op ⟨(some 7), none, .mov (.tmp 1)⟩
   (.op ⟨(some 8), none, .len true (.tmp 7)⟩
   (.op ⟨(some 9), none, .call 111 [(.tmp 6), (.tmp 8)]⟩
   (.op ⟨(some 10), none, .mov (.tmp 0)⟩
   (.op ⟨(some 11), none, .mov (.tmp 1)⟩
   (.op ⟨(some 12), none, .call 136 [(.tmp 10), (.tmp 11)]⟩
   (.op ⟨(some 13), none, .bsl false 3 1 (List.replicate 2 [.int .i64 0]) [(0, (.tmp 9)), (1, (.tmp 12))]⟩
   (.op ⟨(some 14), none, .call 118 [(.tmp 13)]⟩
   (.op ⟨(some 4), none, .mov (.tmp 14)⟩
   .nil))))))))))))
   .ret))
theorem ok_ballots_CompareValues : FnOk Try.prog 119 15 (SA.erase sa_ballots_CompareValues) [.tmp 4] := ⟨Try.f119, [], Try.func119, rfl, by kernel_rfl, by kernel_rfl, by kernel_rfl⟩
noncomputable def F_ballots_CompareValues (a0 : ByteArray) (a1 : ByteArray) : Option Int :=
Option.bind (F_cmp_Compare_int ((ByteArray.size a0 : Nat) : Int) ((ByteArray.size a1 : Nat) : Int)) fun r1 =>
Option.bind (F_cmp_Compare_string a0 a1) fun r2 =>
Option.bind (F_cmp_Or_int [r1, r2]) fun r3 =>
some r3
theorem e_ballots_CompareValues : fnK K [.fn 111 [.ty (Ty.i .i64), .ty (Ty.i .i64)] (.one (Ty.i .i64)) fun a => F_cmp_Compare_int a.1 a.2.1, .fn 136 [.ty Ty.str, .ty Ty.str] (.one (Ty.i .i64)) fun a => F_cmp_Compare_string a.1 a.2.1, .fn 118 [.ty (Ty.sl (Ty.i .i64))] (.one (Ty.i .i64)) fun a => F_cmp_Or_int a.1] sa_ballots_CompareValues [.tmp 4] [.ty Ty.str, .ty Ty.str] (.one (Ty.i .i64)) = fun a => F_ballots_CompareValues a.1 a.2.1 := by kernel_rfl
theorem s_ballots_CompareValues : KFun.Sound (U := U) Try.prog (.fn 119 [.ty Ty.str, .ty Ty.str] (.one (Ty.i .i64)) fun a => F_ballots_CompareValues a.1 a.2.1) := fnK_sound (K := K) (Γ := [.fn 111 [.ty (Ty.i .i64), .ty (Ty.i .i64)] (.one (Ty.i .i64)) fun a => F_cmp_Compare_int a.1 a.2.1, .fn 136 [.ty Ty.str, .ty Ty.str] (.one (Ty.i .i64)) fun a => F_cmp_Compare_string a.1 a.2.1, .fn 118 [.ty (Ty.sl (Ty.i .i64))] (.one (Ty.i .i64)) fun a => F_cmp_Or_int a.1]) ok_ballots_CompareValues (by kernel_rfl) (by decide) ⟨s_cmp_Compare_int, s_cmp_Compare_string, s_cmp_Or_int, trivial⟩ (fun a => congrFun e_ballots_CompareValues a)

/-! ### trustquorum/ballots.Compare -/
def sa_ballots_Compare : SA U :=
 (.seq
  (.reg
  (.op ⟨(some 2), none, .box (.tmp 0)⟩
  (.op ⟨(some 3), none, .box (.tmp 1)⟩
  (.op ⟨(some 4), none, .mov (.cst (.int .i64 0))⟩
  .nil))))
  (.seq
   (.drw [(0, 2), (1, 2), (0, 3), (1, 3), (0, 5), (1, 5), (2, 5), (3, 5), (4, 5), (0, 6), (1, 6), (2, 6), (3, 6), (4, 6), (0, 7), (1, 7), (2, 7), (3, 7), (4, 7), (5, 7), (6, 7), (0, 8), (1, 8), (2, 8), (3, 8), (4, 8), (5, 8), (6, 8)]
   (.op ⟨(some 5), none, .faddr 0 (.tmp 2)⟩
   (.op ⟨(some 6), none, .load none (.tmp 5)⟩
   (.op ⟨(some 7), none, .faddr 0 (.tmp 3)⟩
   (.op ⟨(some 8), none, .load none (.tmp 7)⟩
   (.op ⟨(some 9), none, .call 111 [(.tmp 6), (.tmp 8)]⟩
   (.op ⟨(some 10), none, .faddr 1 (.tmp 2)⟩
   (.op ⟨(some 11), none, .load none (.tmp 10)⟩
   (.op ⟨(some 12), none, .faddr 1 (.tmp 3)⟩
   (.op ⟨(some 13), none, .load none (.tmp 12)⟩
   (.op ⟨(some 14), none, .call 119 [(.tmp 11), (.tmp 13)]⟩
   (.op ⟨(some 15), none, .bsl false 3 1 (List.replicate 2 [.int .i64 0]) [(0, (.tmp 9)), (1, (.tmp 14))]⟩
   (.op ⟨(some 16), none, .call 118 [(.tmp 15)]⟩
   (.op ⟨(some 4), none, .mov (.tmp 16)⟩
   .nil))))))))))))))
   .ret))
theorem ok_ballots_Compare : FnOk Try.prog 90 17 (SA.erase sa_ballots_Compare) [.tmp 4] := ⟨Try.f90, [], Try.func90, rfl, by kernel_rfl, by kernel_rfl, by kernel_rfl⟩
noncomputable def F_ballots_Compare (a0 : TBallot) (a1 : TBallot) : Option Int :=
Option.bind (F_cmp_Compare_int a0.Counter a1.Counter) fun r1 =>
Option.bind (F_ballots_CompareValues a0.Value a1.Value) fun r2 =>
Option.bind (F_cmp_Or_int [r1, r2]) fun r3 =>
some r3
theorem e_ballots_Compare : fnK K [.fn 111 [.ty (Ty.i .i64), .ty (Ty.i .i64)] (.one (Ty.i .i64)) fun a => F_cmp_Compare_int a.1 a.2.1, .fn 119 [.ty Ty.str, .ty Ty.str] (.one (Ty.i .i64)) fun a => F_ballots_CompareValues a.1 a.2.1, .fn 118 [.ty (Ty.sl (Ty.i .i64))] (.one (Ty.i .i64)) fun a => F_cmp_Or_int a.1] sa_ballots_Compare [.tmp 4] [.ty (Ty.st .Ballot), .ty (Ty.st .Ballot)] (.one (Ty.i .i64)) = fun a => F_ballots_Compare a.1 a.2.1 := by kernel_rfl
theorem s_ballots_Compare : KFun.Sound (U := U) Try.prog (.fn 90 [.ty (Ty.st .Ballot), .ty (Ty.st .Ballot)] (.one (Ty.i .i64)) fun a => F_ballots_Compare a.1 a.2.1) := fnK_sound (K := K) (Γ := [.fn 111 [.ty (Ty.i .i64), .ty (Ty.i .i64)] (.one (Ty.i .i64)) fun a => F_cmp_Compare_int a.1 a.2.1, .fn 119 [.ty Ty.str, .ty Ty.str] (.one (Ty.i .i64)) fun a => F_ballots_CompareValues a.1 a.2.1, .fn 118 [.ty (Ty.sl (Ty.i .i64))] (.one (Ty.i .i64)) fun a => F_cmp_Or_int a.1]) ok_ballots_Compare (by kernel_rfl) (by decide) ⟨s_cmp_Compare_int, s_ballots_CompareValues, s_cmp_Or_int, trivial⟩ (fun a => congrFun e_ballots_Compare a)

/-! ### trustquorum/ballots.Less -/
def sa_ballots_Less : SA U :=
 (.seq
  (.reg
  (.op ⟨(some 2), none, .box (.tmp 0)⟩
  (.op ⟨(some 3), none, .box (.tmp 1)⟩
  (.op ⟨(some 4), none, .mov (.cst (.bool false))⟩
  .nil))))
  (.seq
   (.reg
   (.op ⟨(some 5), none, .load (some 2) (.tmp 2)⟩
   (.op ⟨(some 6), none, .load (some 2) (.tmp 3)⟩
   (.op ⟨(some 7), none, .call 90 [(.tmp 5), (.tmp 6)]⟩
   (.op ⟨(some 8), none, .bin .lss (.tmp 7) (.cst (.int .i64 0))⟩
   (.op ⟨(some 4), none, .mov (.tmp 8)⟩
   .nil))))))
   .ret))
theorem ok_ballots_Less : FnOk Try.prog 49 9 (SA.erase sa_ballots_Less) [.tmp 4] := ⟨Try.f49, [], Try.func49, rfl, by kernel_rfl, by kernel_rfl, by kernel_rfl⟩
noncomputable def F_ballots_Less (a0 : TBallot) (a1 : TBallot) : Option Bool :=
Option.bind (F_ballots_Compare a0 a1) fun r1 =>
some (decide (r1 < (0 : Int)))
theorem e_ballots_Less : fnK K [.fn 90 [.ty (Ty.st .Ballot), .ty (Ty.st .Ballot)] (.one (Ty.i .i64)) fun a => F_ballots_Compare a.1 a.2.1] sa_ballots_Less [.tmp 4] [.ty (Ty.st .Ballot), .ty (Ty.st .Ballot)] (.one Ty.bool) = fun a => F_ballots_Less a.1 a.2.1 := by kernel_rfl
theorem s_ballots_Less : KFun.Sound (U := U) Try.prog (.fn 49 [.ty (Ty.st .Ballot), .ty (Ty.st .Ballot)] (.one Ty.bool) fun a => F_ballots_Less a.1 a.2.1) := fnK_sound (K := K) (Γ := [.fn 90 [.ty (Ty.st .Ballot), .ty (Ty.st .Ballot)] (.one (Ty.i .i64)) fun a => F_ballots_Compare a.1 a.2.1]) ok_ballots_Less (by kernel_rfl) (by decide) ⟨s_ballots_Compare, trivial⟩ (fun a => congrFun e_ballots_Less a)

/-! ### trustquorum/ballots.Compatible -/
def sa_ballots_Compatible : SA U :=
 (.seq
  (.reg
  (.op ⟨(some 2), none, .box (.tmp 0)⟩
  (.op ⟨(some 3), none, .box (.tmp 1)⟩
  (.op ⟨(some 4), none, .mov (.cst (.bool false))⟩
  .nil))))
  (.seq
   (.reg
   (.op ⟨(some 5), none, .faddr 1 (.tmp 2)⟩
   (.op ⟨(some 6), none, .load none (.tmp 5)⟩
   (.op ⟨(some 7), none, .faddr 1 (.tmp 3)⟩
   (.op ⟨(some 8), none, .load none (.tmp 7)⟩
   (.op ⟨(some 9), none, .bin .eql (.tmp 6) (.tmp 8)⟩
   (.op ⟨(some 4), none, .mov (.tmp 9)⟩
   .nil)))))))
   .ret))
theorem ok_ballots_Compatible : FnOk Try.prog 50 10 (SA.erase sa_ballots_Compatible) [.tmp 4] := ⟨Try.f50, [], Try.func50, rfl, by kernel_rfl, by kernel_rfl, by kernel_rfl⟩
noncomputable def F_ballots_Compatible (a0 : TBallot) (a1 : TBallot) : Option Bool :=
some (decide (a0.Value = a1.Value))
theorem e_ballots_Compatible : fnK K [] sa_ballots_Compatible [.tmp 4] [.ty (Ty.st .Ballot), .ty (Ty.st .Ballot)] (.one Ty.bool) = fun a => F_ballots_Compatible a.1 a.2.1 := by kernel_rfl
theorem s_ballots_Compatible : KFun.Sound (U := U) Try.prog (.fn 50 [.ty (Ty.st .Ballot), .ty (Ty.st .Ballot)] (.one Ty.bool) fun a => F_ballots_Compatible a.1 a.2.1) := fnK_sound (K := K) (Γ := []) ok_ballots_Compatible (by kernel_rfl) (by decide) trivial (fun a => congrFun e_ballots_Compatible a)

/-! ### trustquorum/ballots.Valid -/
def sa_ballots_Valid : SA U :=
 (.seq
  (.reg
  (.op ⟨(some 1), none, .box (.tmp 0)⟩
  (.op ⟨(some 2), none, .mov (.cst (.bool false))⟩
  .nil)))
  (.seq
   (.reg
   (.op ⟨(some 4), none, .faddr 0 (.tmp 1)⟩
   (.op ⟨(some 5), none, .load none (.tmp 4)⟩
   (.op ⟨(some 6), none, .bin .geq (.tmp 5) (.cst (.int .i64 1))⟩
   (.op ⟨(some 7), none, .mov (.tmp 6)⟩
   (.ite 7 true
    (.op ⟨(some 8), (some (7, true)), .faddr 0 (.tmp 1)⟩
    (.op ⟨(some 9), (some (7, true)), .load none (.tmp 8)⟩
    (.op ⟨(some 10), (some (7, true)), .bin .leq (.tmp 9) (.cst (.int .i64 1000))⟩
    .nil)))
    11 none (.tmp 10) (.cst (.bool false))
   (.op ⟨(some 12), none, .mov (.tmp 11)⟩
   (.ite 12 false
    (.op ⟨(some 13), (some (12, false)), .faddr 0 (.tmp 1)⟩
    (.op ⟨(some 14), (some (12, false)), .load none (.tmp 13)⟩
    (.op ⟨(some 15), (some (12, false)), .bin .eql (.tmp 14) (.cst (.int .i64 1000000))⟩
    .nil)))
    16 none (.cst (.bool true)) (.tmp 15)
   (.op ⟨(some 3), none, .mov (.tmp 16)⟩
   .nil)))))))))
   (.seq
    (.reg
    (.op ⟨(some 17), none, .mov (.tmp 3)⟩
    (.op ⟨(some 18), none, .mov (.tmp 17)⟩
    (.ite 18 true
     (.op ⟨(some 19), (some (18, true)), .faddr 1 (.tmp 1)⟩
     (.op ⟨(some 20), (some (18, true)), .load none (.tmp 19)⟩
     (.op ⟨(some 21), (some (18, true)), .len true (.tmp 20)⟩
     (.op ⟨(some 22), (some (18, true)), .bin .geq (.tmp 21) (.cst (.int .i64 1))⟩
     .nil))))
     23 none (.tmp 22) (.cst (.bool false))
    (.op ⟨(some 24), none, .mov (.tmp 23)⟩
    (.ite 24 true
     (.op ⟨(some 25), (some (24, true)), .faddr 1 (.tmp 1)⟩
     (.op ⟨(some 26), (some (24, true)), .load none (.tmp 25)⟩
     (.op ⟨(some 27), (some (24, true)), .len true (.tmp 26)⟩
     (.op ⟨(some 28), (some (24, true)), .bin .leq (.tmp 27) (.cst (.int .i64 200))⟩
     .nil))))
     29 none (.tmp 28) (.cst (.bool false))
    (.op ⟨(some 2), none, .mov (.tmp 29)⟩
    .nil)))))))
    .ret)))
theorem ok_ballots_Valid : FnOk Try.prog 56 30 (SA.erase sa_ballots_Valid) [.tmp 2] := ⟨Try.f56, [], Try.func56, rfl, by kernel_rfl, by kernel_rfl, by kernel_rfl⟩
noncomputable def F_ballots_Valid (a0 : TBallot) : Option Bool :=
Option.bind (bif (decide ((1 : Int) ≤ a0.Counter)) then
some (decide (a0.Counter ≤ (1000 : Int)))
else some false) fun b1 =>
Option.bind (bif b1 then some true
else
some (decide (a0.Counter = (1000000 : Int)))) fun b2 =>
Option.bind (bif b2 then
some (decide ((1 : Int) ≤ ((ByteArray.size a0.Value : Nat) : Int)))
else some false) fun b3 =>
Option.bind (bif b3 then
some (decide (((ByteArray.size a0.Value : Nat) : Int) ≤ (200 : Int)))
else some false) fun b4 =>
some b4
theorem e_ballots_Valid : fnK K [] sa_ballots_Valid [.tmp 2] [.ty (Ty.st .Ballot)] (.one Ty.bool) = fun a => F_ballots_Valid a.1 := by kernel_rfl
theorem s_ballots_Valid : KFun.Sound (U := U) Try.prog (.fn 56 [.ty (Ty.st .Ballot)] (.one Ty.bool) fun a => F_ballots_Valid a.1) := fnK_sound (K := K) (Γ := []) ok_ballots_Valid (by kernel_rfl) (by decide) trivial (fun a => congrFun e_ballots_Valid a)

/-! ### trustquorum/envelopes.finite -/
def sa_envelopes_finite : SA U :=
 (.seq
  (.reg
  (.op ⟨(some 1), none, .box (.tmp 0)⟩
  (.op ⟨(some 2), none, .mov (.cst (.bool false))⟩
  .nil)))
  (.seq
   (.reg
   (.op ⟨(some 3), none, .load (some 2) (.tmp 1)⟩
   (.op ⟨(some 4), none, .call 56 [(.tmp 3)]⟩
   (.op ⟨(some 5), none, .mov (.tmp 4)⟩
   (.ite 5 true
    (.op ⟨(some 6), (some (5, true)), .faddr 0 (.tmp 1)⟩
    (.op ⟨(some 7), (some (5, true)), .load none (.tmp 6)⟩
    (.op ⟨(some 8), (some (5, true)), .bin .leq (.tmp 7) (.cst (.int .i64 1000))⟩
    .nil)))
    9 none (.tmp 8) (.cst (.bool false))
   (.op ⟨(some 2), none, .mov (.tmp 9)⟩
   .nil))))))
   .ret))
theorem ok_envelopes_finite : FnOk Try.prog 55 10 (SA.erase sa_envelopes_finite) [.tmp 2] := ⟨Try.f55, [], Try.func55, rfl, by kernel_rfl, by kernel_rfl, by kernel_rfl⟩
noncomputable def F_envelopes_finite (a0 : TBallot) : Option Bool :=
Option.bind (F_ballots_Valid a0) fun r1 =>
Option.bind (bif r1 then
some (decide (a0.Counter ≤ (1000 : Int)))
else some false) fun b2 =>
some b2
theorem e_envelopes_finite : fnK K [.fn 56 [.ty (Ty.st .Ballot)] (.one Ty.bool) fun a => F_ballots_Valid a.1] sa_envelopes_finite [.tmp 2] [.ty (Ty.st .Ballot)] (.one Ty.bool) = fun a => F_envelopes_finite a.1 := by kernel_rfl
theorem s_envelopes_finite : KFun.Sound (U := U) Try.prog (.fn 55 [.ty (Ty.st .Ballot)] (.one Ty.bool) fun a => F_envelopes_finite a.1) := fnK_sound (K := K) (Γ := [.fn 56 [.ty (Ty.st .Ballot)] (.one Ty.bool) fun a => F_ballots_Valid a.1]) ok_envelopes_finite (by kernel_rfl) (by decide) ⟨s_ballots_Valid, trivial⟩ (fun a => congrFun e_envelopes_finite a)

/-! ### trustquorum/envelopes.optional -/
def sa_envelopes_optional : SA U :=
 (.seq
  (.reg
  (.op ⟨(some 1), none, .box (.tmp 0)⟩
  (.op ⟨(some 2), none, .mov (.cst (.bool false))⟩
  .nil)))
  (.seq
   (.reg
   (.op ⟨(some 3), none, .load (some 2) (.tmp 1)⟩
   (.op ⟨(some 4), none, .call 48 [(.tmp 3)]⟩
   (.op ⟨(some 5), none, .mov (.tmp 4)⟩
   (.ite 5 false
    (.op ⟨(some 6), (some (5, false)), .load (some 2) (.tmp 1)⟩
    (.op ⟨(some 7), (some (5, false)), .call 56 [(.tmp 6)]⟩
    .nil))
    8 none (.cst (.bool true)) (.tmp 7)
   (.op ⟨(some 2), none, .mov (.tmp 8)⟩
   .nil))))))
   .ret))
theorem ok_envelopes_optional : FnOk Try.prog 95 9 (SA.erase sa_envelopes_optional) [.tmp 2] := ⟨Try.f95, [], Try.func95, rfl, by kernel_rfl, by kernel_rfl, by kernel_rfl⟩
noncomputable def F_envelopes_optional (a0 : TBallot) : Option Bool :=
Option.bind (F_ballots_Zero a0) fun r1 =>
Option.bind (bif r1 then some true
else
Option.bind (F_ballots_Valid a0) fun r2 =>
some r2) fun b3 =>
some b3
theorem e_envelopes_optional : fnK K [.fn 48 [.ty (Ty.st .Ballot)] (.one Ty.bool) fun a => F_ballots_Zero a.1, .fn 56 [.ty (Ty.st .Ballot)] (.one Ty.bool) fun a => F_ballots_Valid a.1] sa_envelopes_optional [.tmp 2] [.ty (Ty.st .Ballot)] (.one Ty.bool) = fun a => F_envelopes_optional a.1 := by kernel_rfl
theorem s_envelopes_optional : KFun.Sound (U := U) Try.prog (.fn 95 [.ty (Ty.st .Ballot)] (.one Ty.bool) fun a => F_envelopes_optional a.1) := fnK_sound (K := K) (Γ := [.fn 48 [.ty (Ty.st .Ballot)] (.one Ty.bool) fun a => F_ballots_Zero a.1, .fn 56 [.ty (Ty.st .Ballot)] (.one Ty.bool) fun a => F_ballots_Valid a.1]) ok_envelopes_optional (by kernel_rfl) (by decide) ⟨s_ballots_Zero, s_ballots_Valid, trivial⟩ (fun a => congrFun e_envelopes_optional a)

/-! ### trustquorum/envelopes.at -/
def sa_envelopes_at : SA U :=
 (.seq
  (.reg
  (.op ⟨(some 2), none, .box (.tmp 0)⟩
  (.op ⟨(some 4), none, .alloc [.int .i64 0, .str ⟨#[]⟩]⟩
  .nil)))
  (.seq
   (.reg
   (.op ⟨(some 5), none, .mov (.tmp 1)⟩
   (.op ⟨(some 6), none, .faddr 7 (.tmp 2)⟩
   (.op ⟨(some 7), none, .faddr 1 (.tmp 6)⟩
   (.op ⟨(some 8), none, .load none (.tmp 7)⟩
   (.op ⟨(some 9), none, .build [.int .i64 0, .str ⟨#[]⟩] [(0, 1, (.tmp 5)), (1, 1, (.tmp 8))]⟩
   (.op ⟨none, none, .store 2 (.tmp 4) (.tmp 9)⟩
   .nil)))))))
   .ret))
theorem ok_envelopes_at : FnOk Try.prog 96 10 (SA.erase sa_envelopes_at) [.cell 4 (some 2)] := ⟨Try.f96, [], Try.func96, rfl, by kernel_rfl, by kernel_rfl, by kernel_rfl⟩
noncomputable def F_envelopes_at (a0 : TEnvelope) (a1 : Int) : Option TBallot :=
some (TBallot.mk a1 a0.Ballot.Value)
theorem e_envelopes_at : fnK K [] sa_envelopes_at [.cell 4 (some 2)] [.ty (Ty.st .Envelope), .ty (Ty.i .i64)] (.one (Ty.st .Ballot)) = fun a => F_envelopes_at a.1 a.2.1 := by kernel_rfl
theorem s_envelopes_at : KFun.Sound (U := U) Try.prog (.fn 96 [.ty (Ty.st .Envelope), .ty (Ty.i .i64)] (.one (Ty.st .Ballot)) fun a => F_envelopes_at a.1 a.2.1) := fnK_sound (K := K) (Γ := []) ok_envelopes_at (by kernel_rfl) (by decide) trivial (fun a => congrFun e_envelopes_at a)

/-! ### trustquorum/ballots.Aborts -/
def sa_ballots_Aborts : SA U :=
 (.seq
  (.reg
  (.op ⟨(some 2), none, .box (.tmp 0)⟩
  (.op ⟨(some 3), none, .box (.tmp 1)⟩
  (.op ⟨(some 4), none, .mov (.cst (.bool false))⟩
  .nil))))
  (.seq
   (.reg
   (.op ⟨(some 5), none, .load (some 2) (.tmp 2)⟩
   (.op ⟨(some 6), none, .call 48 [(.tmp 5)]⟩
   (.op ⟨(some 7), none, .not (.tmp 6)⟩
   (.op ⟨(some 8), none, .mov (.tmp 7)⟩
   (.ite 8 true
    (.op ⟨(some 9), (some (8, true)), .load (some 2) (.tmp 2)⟩
    (.op ⟨(some 10), (some (8, true)), .load (some 2) (.tmp 3)⟩
    (.op ⟨(some 11), (some (8, true)), .call 50 [(.tmp 9), (.tmp 10)]⟩
    (.op ⟨(some 12), (some (8, true)), .not (.tmp 11)⟩
    .nil))))
    13 none (.tmp 12) (.cst (.bool false))
   (.op ⟨(some 14), none, .mov (.tmp 13)⟩
   (.ite 14 true
    (.op ⟨(some 15), (some (14, true)), .load (some 2) (.tmp 3)⟩
    (.op ⟨(some 16), (some (14, true)), .load (some 2) (.tmp 2)⟩
    (.op ⟨(some 17), (some (14, true)), .call 49 [(.tmp 15), (.tmp 16)]⟩
    .nil)))
    18 none (.tmp 17) (.cst (.bool false))
   (.op ⟨(some 4), none, .mov (.tmp 18)⟩
   .nil)))))))))
   .ret))
theorem ok_ballots_Aborts : FnOk Try.prog 98 19 (SA.erase sa_ballots_Aborts) [.tmp 4] := ⟨Try.f98, [], Try.func98, rfl, by kernel_rfl, by kernel_rfl, by kernel_rfl⟩
noncomputable def F_ballots_Aborts (a0 : TBallot) (a1 : TBallot) : Option Bool :=
Option.bind (F_ballots_Zero a0) fun r1 =>
Option.bind (bif (!r1) then
Option.bind (F_ballots_Compatible a0 a1) fun r2 =>
some (!r2)
else some false) fun b3 =>
Option.bind (bif b3 then
Option.bind (F_ballots_Less a1 a0) fun r4 =>
some r4
else some false) fun b5 =>
some b5
theorem e_ballots_Aborts : fnK K [.fn 48 [.ty (Ty.st .Ballot)] (.one Ty.bool) fun a => F_ballots_Zero a.1, .fn 50 [.ty (Ty.st .Ballot), .ty (Ty.st .Ballot)] (.one Ty.bool) fun a => F_ballots_Compatible a.1 a.2.1, .fn 49 [.ty (Ty.st .Ballot), .ty (Ty.st .Ballot)] (.one Ty.bool) fun a => F_ballots_Less a.1 a.2.1] sa_ballots_Aborts [.tmp 4] [.ty (Ty.st .Ballot), .ty (Ty.st .Ballot)] (.one Ty.bool) = fun a => F_ballots_Aborts a.1 a.2.1 := by kernel_rfl
theorem s_ballots_Aborts : KFun.Sound (U := U) Try.prog (.fn 98 [.ty (Ty.st .Ballot), .ty (Ty.st .Ballot)] (.one Ty.bool) fun a => F_ballots_Aborts a.1 a.2.1) := fnK_sound (K := K) (Γ := [.fn 48 [.ty (Ty.st .Ballot)] (.one Ty.bool) fun a => F_ballots_Zero a.1, .fn 50 [.ty (Ty.st .Ballot), .ty (Ty.st .Ballot)] (.one Ty.bool) fun a => F_ballots_Compatible a.1 a.2.1, .fn 49 [.ty (Ty.st .Ballot), .ty (Ty.st .Ballot)] (.one Ty.bool) fun a => F_ballots_Less a.1 a.2.1]) ok_ballots_Aborts (by kernel_rfl) (by decide) ⟨s_ballots_Zero, s_ballots_Compatible, s_ballots_Less, trivial⟩ (fun a => congrFun e_ballots_Aborts a)

/-! ### trustquorum/ballots.Covers -/
def sa_ballots_Covers : SA U :=
 (.seq
  (.reg
  (.op ⟨(some 2), none, .box (.tmp 0)⟩
  (.op ⟨(some 3), none, .box (.tmp 1)⟩
  (.op ⟨(some 4), none, .mov (.cst (.bool false))⟩
  .nil))))
  (.seq
   (.reg
   (.op ⟨(some 5), none, .load (some 2) (.tmp 2)⟩
   (.op ⟨(some 6), none, .call 48 [(.tmp 5)]⟩
   (.op ⟨(some 7), none, .not (.tmp 6)⟩
   (.op ⟨(some 8), none, .mov (.tmp 7)⟩
   (.ite 8 true
    (.op ⟨(some 9), (some (8, true)), .load (some 2) (.tmp 2)⟩
    (.op ⟨(some 10), (some (8, true)), .load (some 2) (.tmp 3)⟩
    (.op ⟨(some 11), (some (8, true)), .call 50 [(.tmp 9), (.tmp 10)]⟩
    .nil)))
    12 none (.tmp 11) (.cst (.bool false))
   (.op ⟨(some 13), none, .mov (.tmp 12)⟩
   (.ite 13 true
    (.op ⟨(some 14), (some (13, true)), .faddr 0 (.tmp 2)⟩
    (.op ⟨(some 15), (some (13, true)), .load none (.tmp 14)⟩
    (.op ⟨(some 16), (some (13, true)), .faddr 0 (.tmp 3)⟩
    (.op ⟨(some 17), (some (13, true)), .load none (.tmp 16)⟩
    (.op ⟨(some 18), (some (13, true)), .bin .geq (.tmp 15) (.tmp 17)⟩
    .nil)))))
    19 none (.tmp 18) (.cst (.bool false))
   (.op ⟨(some 4), none, .mov (.tmp 19)⟩
   .nil)))))))))
   .ret))
theorem ok_ballots_Covers : FnOk Try.prog 99 20 (SA.erase sa_ballots_Covers) [.tmp 4] := ⟨Try.f99, [], Try.func99, rfl, by kernel_rfl, by kernel_rfl, by kernel_rfl⟩
noncomputable def F_ballots_Covers (a0 : TBallot) (a1 : TBallot) : Option Bool :=
Option.bind (F_ballots_Zero a0) fun r1 =>
Option.bind (bif (!r1) then
Option.bind (F_ballots_Compatible a0 a1) fun r2 =>
some r2
else some false) fun b3 =>
Option.bind (bif b3 then
some (decide (a1.Counter ≤ a0.Counter))
else some false) fun b4 =>
some b4
theorem e_ballots_Covers : fnK K [.fn 48 [.ty (Ty.st .Ballot)] (.one Ty.bool) fun a => F_ballots_Zero a.1, .fn 50 [.ty (Ty.st .Ballot), .ty (Ty.st .Ballot)] (.one Ty.bool) fun a => F_ballots_Compatible a.1 a.2.1] sa_ballots_Covers [.tmp 4] [.ty (Ty.st .Ballot), .ty (Ty.st .Ballot)] (.one Ty.bool) = fun a => F_ballots_Covers a.1 a.2.1 := by kernel_rfl
theorem s_ballots_Covers : KFun.Sound (U := U) Try.prog (.fn 99 [.ty (Ty.st .Ballot), .ty (Ty.st .Ballot)] (.one Ty.bool) fun a => F_ballots_Covers a.1 a.2.1) := fnK_sound (K := K) (Γ := [.fn 48 [.ty (Ty.st .Ballot)] (.one Ty.bool) fun a => F_ballots_Zero a.1, .fn 50 [.ty (Ty.st .Ballot), .ty (Ty.st .Ballot)] (.one Ty.bool) fun a => F_ballots_Compatible a.1 a.2.1]) ok_ballots_Covers (by kernel_rfl) (by decide) ⟨s_ballots_Zero, s_ballots_Compatible, trivial⟩ (fun a => congrFun e_ballots_Covers a)

/-! ### trustquorum/ballots.Prepares -/
def sa_ballots_Prepares : SA U :=
 (.seq
  (.reg
  (.op ⟨(some 3), none, .box (.tmp 0)⟩
  (.op ⟨(some 4), none, .box (.tmp 1)⟩
  (.op ⟨(some 5), none, .box (.tmp 2)⟩
  (.op ⟨(some 6), none, .mov (.cst (.bool false))⟩
  .nil)))))
  (.seq
   (.reg
   (.op ⟨(some 7), none, .load (some 2) (.tmp 3)⟩
   (.op ⟨(some 8), none, .load (some 2) (.tmp 5)⟩
   (.op ⟨(some 9), none, .call 99 [(.tmp 7), (.tmp 8)]⟩
   (.op ⟨(some 10), none, .mov (.tmp 9)⟩
   (.ite 10 false
    (.op ⟨(some 11), (some (10, false)), .load (some 2) (.tmp 4)⟩
    (.op ⟨(some 12), (some (10, false)), .load (some 2) (.tmp 5)⟩
    (.op ⟨(some 13), (some (10, false)), .call 99 [(.tmp 11), (.tmp 12)]⟩
    .nil)))
    14 none (.cst (.bool true)) (.tmp 13)
   (.op ⟨(some 15), none, .mov (.tmp 14)⟩
   (.ite 15 false
    (.op ⟨(some 16), (some (15, false)), .load (some 2) (.tmp 4)⟩
    (.op ⟨(some 17), (some (15, false)), .call 48 [(.tmp 16)]⟩
    (.op ⟨(some 18), (some (15, false)), .not (.tmp 17)⟩
    (.op ⟨(some 19), (some (15, false)), .mov (.tmp 18)⟩
    (.ite 19 true
     (.op ⟨(some 20), (some (19, true)), .load (some 2) (.tmp 5)⟩
     (.op ⟨(some 21), (some (19, true)), .load (some 2) (.tmp 4)⟩
     (.op ⟨(some 22), (some (19, true)), .call 49 [(.tmp 20), (.tmp 21)]⟩
     .nil)))
     23 (some (15, false)) (.tmp 22) (.cst (.bool false))
    .nil)))))
    24 none (.cst (.bool true)) (.tmp 23)
   (.op ⟨(some 6), none, .mov (.tmp 24)⟩
   .nil)))))))))
   .ret))
theorem ok_ballots_Prepares : FnOk Try.prog 97 25 (SA.erase sa_ballots_Prepares) [.tmp 6] := ⟨Try.f97, [], Try.func97, rfl, by kernel_rfl, by kernel_rfl, by kernel_rfl⟩
noncomputable def F_ballots_Prepares (a0 : TBallot) (a1 : TBallot) (a2 : TBallot) : Option Bool :=
Option.bind (F_ballots_Covers a0 a2) fun r1 =>
Option.bind (bif r1 then some true
else
Option.bind (F_ballots_Covers a1 a2) fun r2 =>
some r2) fun b3 =>
Option.bind (bif b3 then some true
else
Option.bind (F_ballots_Zero a1) fun r4 =>
Option.bind (bif (!r4) then
Option.bind (F_ballots_Less a2 a1) fun r5 =>
some r5
else some false) fun b6 =>
some b6) fun b7 =>
some b7
theorem e_ballots_Prepares : fnK K [.fn 99 [.ty (Ty.st .Ballot), .ty (Ty.st .Ballot)] (.one Ty.bool) fun a => F_ballots_Covers a.1 a.2.1, .fn 48 [.ty (Ty.st .Ballot)] (.one Ty.bool) fun a => F_ballots_Zero a.1, .fn 49 [.ty (Ty.st .Ballot), .ty (Ty.st .Ballot)] (.one Ty.bool) fun a => F_ballots_Less a.1 a.2.1] sa_ballots_Prepares [.tmp 6] [.ty (Ty.st .Ballot), .ty (Ty.st .Ballot), .ty (Ty.st .Ballot)] (.one Ty.bool) = fun a => F_ballots_Prepares a.1 a.2.1 a.2.2.1 := by kernel_rfl
theorem s_ballots_Prepares : KFun.Sound (U := U) Try.prog (.fn 97 [.ty (Ty.st .Ballot), .ty (Ty.st .Ballot), .ty (Ty.st .Ballot)] (.one Ty.bool) fun a => F_ballots_Prepares a.1 a.2.1 a.2.2.1) := fnK_sound (K := K) (Γ := [.fn 99 [.ty (Ty.st .Ballot), .ty (Ty.st .Ballot)] (.one Ty.bool) fun a => F_ballots_Covers a.1 a.2.1, .fn 48 [.ty (Ty.st .Ballot)] (.one Ty.bool) fun a => F_ballots_Zero a.1, .fn 49 [.ty (Ty.st .Ballot), .ty (Ty.st .Ballot)] (.one Ty.bool) fun a => F_ballots_Less a.1 a.2.1]) ok_ballots_Prepares (by kernel_rfl) (by decide) ⟨s_ballots_Covers, s_ballots_Zero, s_ballots_Less, trivial⟩ (fun a => congrFun e_ballots_Prepares a)

/-! ### trustquorum/envelopes.prepares -/
def sa_envelopes_prepares : SA U :=
 (.seq
  (.reg
  (.op ⟨(some 1), none, .box (.tmp 0)⟩
  (.op ⟨(some 2), none, .mov (.cst (.bool false))⟩
  .nil)))
  (.seq
   (.reg
   (.op ⟨(some 5), none, .faddr 11 (.tmp 1)⟩
   (.op ⟨(some 6), none, .load (some 2) (.tmp 5)⟩
   (.op ⟨(some 7), none, .call 48 [(.tmp 6)]⟩
   (.op ⟨(some 8), none, .mov (.tmp 7)⟩
   (.ite 8 false
    (.op ⟨(some 9), (some (8, false)), .faddr 9 (.tmp 1)⟩
    (.op ⟨(some 10), (some (8, false)), .load (some 2) (.tmp 9)⟩
    (.op ⟨(some 11), (some (8, false)), .call 48 [(.tmp 10)]⟩
    (.op ⟨(some 12), (some (8, false)), .not (.tmp 11)⟩
    (.op ⟨(some 13), (some (8, false)), .mov (.tmp 12)⟩
    (.ite 13 true
     (.op ⟨(some 14), (some (13, true)), .faddr 11 (.tmp 1)⟩
     (.op ⟨(some 15), (some (13, true)), .load (some 2) (.tmp 14)⟩
     (.op ⟨(some 16), (some (13, true)), .faddr 9 (.tmp 1)⟩
     (.op ⟨(some 17), (some (13, true)), .load (some 2) (.tmp 16)⟩
     (.op ⟨(some 18), (some (13, true)), .call 49 [(.tmp 15), (.tmp 17)]⟩
     .nil)))))
     19 (some (8, false)) (.tmp 18) (.cst (.bool false))
    (.op ⟨(some 20), (some (8, false)), .mov (.tmp 19)⟩
    (.ite 20 true
     (.op ⟨(some 21), (some (20, true)), .faddr 11 (.tmp 1)⟩
     (.op ⟨(some 22), (some (20, true)), .load (some 2) (.tmp 21)⟩
     (.op ⟨(some 23), (some (20, true)), .faddr 9 (.tmp 1)⟩
     (.op ⟨(some 24), (some (20, true)), .load (some 2) (.tmp 23)⟩
     (.op ⟨(some 25), (some (20, true)), .call 50 [(.tmp 22), (.tmp 24)]⟩
     (.op ⟨(some 26), (some (20, true)), .not (.tmp 25)⟩
     .nil))))))
     27 (some (8, false)) (.tmp 26) (.cst (.bool false))
    .nil))))))))
    28 none (.cst (.bool true)) (.tmp 27)
   (.op ⟨(some 3), none, .mov (.tmp 28)⟩
   .nil)))))))
   (.seq
    (.seq
     (.reg
     (.op ⟨(some 29), none, .faddr 7 (.tmp 1)⟩
     (.op ⟨(some 30), none, .load (some 2) (.tmp 29)⟩
     (.op ⟨(some 31), none, .call 55 [(.tmp 30)]⟩
     (.op ⟨(some 32), none, .not (.tmp 31)⟩
     (.op ⟨(some 33), none, .mov (.tmp 32)⟩
     (.ite 33 false
      (.op ⟨(some 34), (some (33, false)), .faddr 9 (.tmp 1)⟩
      (.op ⟨(some 35), (some (33, false)), .load (some 2) (.tmp 34)⟩
      (.op ⟨(some 36), (some (33, false)), .call 95 [(.tmp 35)]⟩
      (.op ⟨(some 37), (some (33, false)), .not (.tmp 36)⟩
      .nil))))
      38 none (.cst (.bool true)) (.tmp 37)
     (.op ⟨(some 39), none, .mov (.tmp 38)⟩
     (.ite 39 false
      (.op ⟨(some 40), (some (39, false)), .faddr 11 (.tmp 1)⟩
      (.op ⟨(some 41), (some (39, false)), .load (some 2) (.tmp 40)⟩
      (.op ⟨(some 42), (some (39, false)), .call 95 [(.tmp 41)]⟩
      (.op ⟨(some 43), (some (39, false)), .not (.tmp 42)⟩
      .nil))))
      44 none (.cst (.bool true)) (.tmp 43)
     (.op ⟨(some 45), none, .mov (.tmp 44)⟩
     (.ite 45 false
      (.op ⟨(some 46), (some (45, false)), .mov (.tmp 3)⟩
      (.op ⟨(some 47), (some (45, false)), .not (.tmp 46)⟩
      .nil))
      48 none (.cst (.bool true)) (.tmp 47)
     (.op ⟨(some 49), none, .mov (.tmp 48)⟩
     (.ite 49 false
      (.op ⟨(some 50), (some (49, false)), .faddr 13 (.tmp 1)⟩
      (.op ⟨(some 51), (some (49, false)), .load none (.tmp 50)⟩
      (.op ⟨(some 52), (some (49, false)), .bin .lss (.tmp 51) (.cst (.int .i64 0))⟩
      .nil)))
      53 none (.cst (.bool true)) (.tmp 52)
     (.op ⟨(some 54), none, .mov (.tmp 53)⟩
     (.ite 54 false
      (.op ⟨(some 55), (some (54, false)), .faddr 14 (.tmp 1)⟩
      (.op ⟨(some 56), (some (54, false)), .load none (.tmp 55)⟩
      (.op ⟨(some 57), (some (54, false)), .faddr 13 (.tmp 1)⟩
      (.op ⟨(some 58), (some (54, false)), .load none (.tmp 57)⟩
      (.op ⟨(some 59), (some (54, false)), .bin .lss (.tmp 56) (.tmp 58)⟩
      .nil)))))
      60 none (.cst (.bool true)) (.tmp 59)
     (.op ⟨(some 61), none, .mov (.tmp 60)⟩
     (.ite 61 false
      (.op ⟨(some 62), (some (61, false)), .faddr 14 (.tmp 1)⟩
      (.op ⟨(some 63), (some (61, false)), .load none (.tmp 62)⟩
      (.op ⟨(some 64), (some (61, false)), .faddr 7 (.tmp 1)⟩
      (.op ⟨(some 65), (some (61, false)), .faddr 0 (.tmp 64)⟩
      (.op ⟨(some 66), (some (61, false)), .load none (.tmp 65)⟩
      (.op ⟨(some 67), (some (61, false)), .bin .gtr (.tmp 63) (.tmp 66)⟩
      .nil))))))
      68 none (.cst (.bool true)) (.tmp 67)
     .nil)))))))))))))))))
     (.cond (.tmp 68)
      (.seq
       (.reg
       (.op ⟨(some 2), none, .mov (.cst (.bool false))⟩
       .nil))
       .ret)
      .skip))
    (.seq
     (.reg
     (.op ⟨(some 69), none, .load (some 15) (.tmp 1)⟩
     (.op ⟨(some 70), none, .faddr 13 (.tmp 1)⟩
     (.op ⟨(some 71), none, .load none (.tmp 70)⟩
     (.op ⟨(some 72), none, .call 96 [(.tmp 69), (.tmp 71)]⟩
     (.op ⟨(some 4), none, .alloc [.int .i64 0, .str ⟨#[]⟩]⟩
     (.op ⟨none, none, .store 2 (.tmp 4) (.tmp 72)⟩
     .nil)))))))
     (.join ⟨[.val 2 Ty.bool], []⟩
      (.drw [(4, 6), (5, 6), (4, 7), (5, 7), (4, 8), (5, 8), (6, 8), (7, 8), (4, 9), (5, 9), (6, 9), (7, 9), (8, 9), (4, 10), (5, 10), (6, 10), (7, 10), (8, 10), (4, 11), (5, 11), (6, 11), (7, 11), (19, 21), (20, 21), (25, 27), (26, 27)]
      (.op ⟨(some 73), none, .faddr 14 (.tmp 1)⟩
      (.op ⟨(some 74), none, .load none (.tmp 73)⟩
      (.op ⟨(some 75), none, .bin .eql (.tmp 74) (.cst (.int .i64 0))⟩
      (.op ⟨(some 76), none, .mov (.tmp 75)⟩
      (.spl 76
      (.op ⟨(some 77), (some (76, false)), .faddr 9 (.tmp 1)⟩
      (.op ⟨(some 78), (some (76, false)), .load (some 2) (.tmp 77)⟩
      (.op ⟨(some 79), (some (76, false)), .faddr 11 (.tmp 1)⟩
      (.op ⟨(some 80), (some (76, false)), .load (some 2) (.tmp 79)⟩
      (.op ⟨(some 81), (some (76, false)), .load (some 15) (.tmp 1)⟩
      (.op ⟨(some 82), (some (76, false)), .faddr 14 (.tmp 1)⟩
      (.op ⟨(some 83), (some (76, false)), .load none (.tmp 82)⟩
      (.op ⟨(some 84), (some (76, false)), .call 96 [(.tmp 81), (.tmp 83)]⟩
      (.op ⟨(some 85), (some (76, false)), .call 97 [(.tmp 78), (.tmp 80), (.tmp 84)]⟩
      (.op ⟨(some 86), none, .pick (.tmp 76) (.cst (.bool true)) (.tmp 85)⟩
      (.op ⟨(some 87), none, .mov (.tmp 86)⟩
      (.spl 87
      (.op ⟨(some 88), (some (87, true)), .faddr 13 (.tmp 1)⟩
      (.op ⟨(some 89), (some (87, true)), .load none (.tmp 88)⟩
      (.op ⟨(some 90), (some (87, true)), .bin .eql (.tmp 89) (.cst (.int .i64 0))⟩
      (.op ⟨(some 91), (some (87, true)), .mov (.tmp 90)⟩
      (.spl 91
      (.op ⟨(some 92), (some (91, false)), .faddr 9 (.tmp 1)⟩
      (.op ⟨(some 93), (some (91, false)), .load (some 2) (.tmp 92)⟩
      (.op ⟨(some 94), (some (91, false)), .load (some 2) (.tmp 4)⟩
      (.op ⟨(some 95), (some (91, false)), .call 98 [(.tmp 93), (.tmp 94)]⟩
      (.op ⟨(some 96), (some (91, false)), .not (.tmp 95)⟩
      (.op ⟨(some 97), (some (91, false)), .mov (.tmp 96)⟩
      (.spl 97
      (.op ⟨(some 98), (some (97, true)), .faddr 11 (.tmp 1)⟩
      (.op ⟨(some 99), (some (97, true)), .load (some 2) (.tmp 98)⟩
      (.op ⟨(some 100), (some (97, true)), .load (some 2) (.tmp 4)⟩
      (.op ⟨(some 101), (some (97, true)), .call 98 [(.tmp 99), (.tmp 100)]⟩
      (.op ⟨(some 102), (some (97, true)), .not (.tmp 101)⟩
      (.op ⟨(some 103), (some (91, false)), .pick (.tmp 97) (.tmp 102) (.cst (.bool false))⟩
      (.op ⟨(some 104), (some (87, true)), .pick (.tmp 91) (.cst (.bool true)) (.tmp 103)⟩
      (.op ⟨(some 105), none, .pick (.tmp 87) (.tmp 104) (.cst (.bool false))⟩
      (.op ⟨(some 2), none, .mov (.tmp 105)⟩
      .nil)))))))))))))))))))))))))))))))))))))))
      .ret)))))
theorem ok_envelopes_prepares : FnOk Try.prog 54 106 (SA.erase sa_envelopes_prepares) [.tmp 2] := ⟨Try.f54, [], Try.func54, rfl, by kernel_rfl, by kernel_rfl, by kernel_rfl⟩
noncomputable def F_envelopes_prepares (a0 : TEnvelope) : Option Bool :=
Option.bind (F_ballots_Zero a0.Prime) fun r1 =>
Option.bind (bif r1 then some true
else
Option.bind (F_ballots_Zero a0.Prepared) fun r2 =>
Option.bind (bif (!r2) then
Option.bind (F_ballots_Less a0.Prime a0.Prepared) fun r3 =>
some r3
else some false) fun b4 =>
Option.bind (bif b4 then
Option.bind (F_ballots_Compatible a0.Prime a0.Prepared) fun r5 =>
some (!r5)
else some false) fun b6 =>
some b6) fun b7 =>
Option.bind (F_envelopes_finite a0.Ballot) fun r8 =>
Option.bind (bif (!r8) then some true
else
Option.bind (F_envelopes_optional a0.Prepared) fun r9 =>
some (!r9)) fun b10 =>
Option.bind (bif b10 then some true
else
Option.bind (F_envelopes_optional a0.Prime) fun r11 =>
some (!r11)) fun b12 =>
Option.bind (bif b12 then some true
else
some (!b7)) fun b13 =>
Option.bind (bif b13 then some true
else
some (decide (a0.Low < (0 : Int)))) fun b14 =>
Option.bind (bif b14 then some true
else
some (decide (a0.High < a0.Low))) fun b15 =>
Option.bind (bif b15 then some true
else
some (decide (a0.Ballot.Counter < a0.High))) fun b16 =>
bif b16 then
some false
else
Option.bind (F_envelopes_at (TEnvelope.mk a0.Node a0.Slot a0.Seq (TTrust.mk a0.Trust.Threshold a0.Trust.Nodes a0.Trust.Inner) a0.Kind a0.Ballot a0.Prepared a0.Prime a0.Low a0.High) a0.Low) fun r17 =>
letJ (fun (v18 : Bool × Unit) =>
some v18.1) fun j19 =>
bif (decide (a0.High = (0 : Int))) then
bif (decide (a0.Low = (0 : Int))) then
j19 (true, ())
else
Option.bind (F_ballots_Aborts a0.Prepared r17) fun r20 =>
bif (!r20) then
Option.bind (F_ballots_Aborts a0.Prime r17) fun r21 =>
j19 ((!r21), ())
else
j19 (false, ())
else
Option.bind (F_envelopes_at (TEnvelope.mk a0.Node a0.Slot a0.Seq (TTrust.mk a0.Trust.Threshold a0.Trust.Nodes a0.Trust.Inner) a0.Kind a0.Ballot a0.Prepared a0.Prime a0.Low a0.High) a0.High) fun r22 =>
Option.bind (F_ballots_Prepares a0.Prepared a0.Prime r22) fun r23 =>
bif r23 then
bif (decide (a0.Low = (0 : Int))) then
j19 (true, ())
else
Option.bind (F_ballots_Aborts a0.Prepared r17) fun r24 =>
bif (!r24) then
Option.bind (F_ballots_Aborts a0.Prime r17) fun r25 =>
j19 ((!r25), ())
else
j19 (false, ())
else
j19 (false, ())
theorem e_envelopes_prepares : fnK K [.fn 48 [.ty (Ty.st .Ballot)] (.one Ty.bool) fun a => F_ballots_Zero a.1, .fn 49 [.ty (Ty.st .Ballot), .ty (Ty.st .Ballot)] (.one Ty.bool) fun a => F_ballots_Less a.1 a.2.1, .fn 50 [.ty (Ty.st .Ballot), .ty (Ty.st .Ballot)] (.one Ty.bool) fun a => F_ballots_Compatible a.1 a.2.1, .fn 55 [.ty (Ty.st .Ballot)] (.one Ty.bool) fun a => F_envelopes_finite a.1, .fn 95 [.ty (Ty.st .Ballot)] (.one Ty.bool) fun a => F_envelopes_optional a.1, .fn 96 [.ty (Ty.st .Envelope), .ty (Ty.i .i64)] (.one (Ty.st .Ballot)) fun a => F_envelopes_at a.1 a.2.1, .fn 98 [.ty (Ty.st .Ballot), .ty (Ty.st .Ballot)] (.one Ty.bool) fun a => F_ballots_Aborts a.1 a.2.1, .fn 97 [.ty (Ty.st .Ballot), .ty (Ty.st .Ballot), .ty (Ty.st .Ballot)] (.one Ty.bool) fun a => F_ballots_Prepares a.1 a.2.1 a.2.2.1] sa_envelopes_prepares [.tmp 2] [.ty (Ty.st .Envelope)] (.one Ty.bool) = fun a => F_envelopes_prepares a.1 := by kernel_rfl
theorem s_envelopes_prepares : KFun.Sound (U := U) Try.prog (.fn 54 [.ty (Ty.st .Envelope)] (.one Ty.bool) fun a => F_envelopes_prepares a.1) := fnK_sound (K := K) (Γ := [.fn 48 [.ty (Ty.st .Ballot)] (.one Ty.bool) fun a => F_ballots_Zero a.1, .fn 49 [.ty (Ty.st .Ballot), .ty (Ty.st .Ballot)] (.one Ty.bool) fun a => F_ballots_Less a.1 a.2.1, .fn 50 [.ty (Ty.st .Ballot), .ty (Ty.st .Ballot)] (.one Ty.bool) fun a => F_ballots_Compatible a.1 a.2.1, .fn 55 [.ty (Ty.st .Ballot)] (.one Ty.bool) fun a => F_envelopes_finite a.1, .fn 95 [.ty (Ty.st .Ballot)] (.one Ty.bool) fun a => F_envelopes_optional a.1, .fn 96 [.ty (Ty.st .Envelope), .ty (Ty.i .i64)] (.one (Ty.st .Ballot)) fun a => F_envelopes_at a.1 a.2.1, .fn 98 [.ty (Ty.st .Ballot), .ty (Ty.st .Ballot)] (.one Ty.bool) fun a => F_ballots_Aborts a.1 a.2.1, .fn 97 [.ty (Ty.st .Ballot), .ty (Ty.st .Ballot), .ty (Ty.st .Ballot)] (.one Ty.bool) fun a => F_ballots_Prepares a.1 a.2.1 a.2.2.1]) ok_envelopes_prepares (by kernel_rfl) (by decide) ⟨s_ballots_Zero, s_ballots_Less, s_ballots_Compatible, s_envelopes_finite, s_envelopes_optional, s_envelopes_at, s_ballots_Aborts, s_ballots_Prepares, trivial⟩ (fun a => congrFun e_envelopes_prepares a)

end Go.Proofs.Ytncjalhhkmojlaa
