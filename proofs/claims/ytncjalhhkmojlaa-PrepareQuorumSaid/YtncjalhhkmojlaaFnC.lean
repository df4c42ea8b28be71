/-
  Functions of the program as plain functions, each held against the program by the kernel. Printed by a program.
-/
import Derived.Test.YtncjalhhkmojlaaFnB
import Derived.Test.YtncjalhhkmojlaaProg
import Derived.KernelRfl
set_option linter.unusedVariables false
namespace Go.Proofs.Ytncjalhhkmojlaa
open Go.TQ

/-! ### trustquorum/threshold.Satisfied -/
def sa_threshold_Satisfied : SA U :=
 (.seq
  (.reg
  (.op ⟨(some 2), none, .box (.tmp 0)⟩
  (.op ⟨(some 4), none, .mov (.cst (.bool false))⟩
  .nil)))
  (.seq
   (.seq
    (.reg
    (.op ⟨(some 10), none, .mov (.tmp 1)⟩
    (.op ⟨(some 11), none, .call 138 [(.tmp 10)]⟩
    (.op ⟨(some 12), none, .not (.tmp 11)⟩
    .nil))))
    (.cond (.tmp 12)
     (.seq
      (.reg
      (.op ⟨(some 4), none, .mov (.cst (.bool false))⟩
      .nil))
      .ret)
     .skip))
   (.seq
    (.reg
    (.op ⟨(some 5), none, .mov (.cst (.int .i64 0))⟩
    .nil))
    (.seq
     (.seq
      (.reg
      (.op ⟨(some 13), none, .faddr 1 (.tmp 2)⟩
      (.op ⟨(some 14), none, .load none (.tmp 13)⟩
      (.op ⟨(some 15), none, .len false (.tmp 14)⟩
      (.op ⟨(some 16), none, .mov (.cst (.int .i64 0))⟩
      .nil)))))
      (.block 0
       (.loop ⟨[.val 5 (Ty.i .i64), .val 16 (Ty.i .i64)], [1, 2, 14, 15]⟩
        (.seq
         (.reg
         (.op ⟨(some 17), none, .bin .lss (.tmp 16) (.tmp 15)⟩
         .nil))
         (.seq
          (.cond (.tmp 17)
           .skip
           (.exit 0))
          (.join ⟨[.val 5 (Ty.i .i64)], [1, 2, 14, 15, 16]⟩
           (.block 1
            (.seq
             (.reg
             (.op ⟨(some 18), none, .iaddr 1 (.tmp 14) (.tmp 16)⟩
             (.op ⟨(some 19), none, .load none (.tmp 18)⟩
             (.op ⟨(some 7), none, .mov (.tmp 19)⟩
             .nil))))
             (.seq
              (.reg
              (.op ⟨(some 20), none, .mov (.tmp 1)⟩
              (.op ⟨(some 21), none, .mov (.tmp 7)⟩
              (.op ⟨(some 22), none, .call 129 [(.tmp 20), (.tmp 21)]⟩
              .nil))))
              (.cond (.tmp 22)
               (.reg
               (.op ⟨(some 23), none, .mov (.tmp 5)⟩
               (.op ⟨(some 24), none, .bin .add (.tmp 23) (.cst (.int .i64 1))⟩
               (.op ⟨(some 5), none, .mov (.tmp 24)⟩
               .nil))))
               .skip))))
           (.reg
           (.op ⟨(some 25), none, .bin .add (.tmp 16) (.cst (.int .i64 1))⟩
           (.op ⟨(some 16), none, .mov (.tmp 25)⟩
           .nil)))))))))
     (.seq
      (.seq
       (.reg
       (.op ⟨(some 26), none, .faddr 2 (.tmp 2)⟩
       (.op ⟨(some 27), none, .load none (.tmp 26)⟩
       (.op ⟨(some 28), none, .len false (.tmp 27)⟩
       (.op ⟨(some 29), none, .mov (.cst (.int .i64 0))⟩
       .nil)))))
       (.block 2
        (.loop ⟨[.val 5 (Ty.i .i64), .val 29 (Ty.i .i64)], [1, 2, 27, 28]⟩
         (.seq
          (.reg
          (.op ⟨(some 30), none, .bin .lss (.tmp 29) (.tmp 28)⟩
          .nil))
          (.seq
           (.cond (.tmp 30)
            .skip
            (.exit 2))
           (.join ⟨[.val 5 (Ty.i .i64)], [1, 2, 27, 28, 29]⟩
            (.block 3
             (.seq
              (.reg
              (.op ⟨(some 31), none, .iaddr 3 (.tmp 27) (.tmp 29)⟩
              (.op ⟨(some 32), none, .load (some 3) (.tmp 31)⟩
              (.op ⟨(some 9), none, .alloc [.int .i64 0, .nils, .nils]⟩
              (.op ⟨none, none, .store 3 (.tmp 9) (.tmp 32)⟩
              .nil)))))
              (.seq
               (.reg
               (.op ⟨(some 33), none, .load (some 3) (.tmp 9)⟩
               (.op ⟨(some 34), none, .mov (.tmp 1)⟩
               (.op ⟨(some 35), none, .call 147 [(.tmp 33), (.tmp 34)]⟩
               .nil))))
               (.cond (.tmp 35)
                (.reg
                (.op ⟨(some 36), none, .mov (.tmp 5)⟩
                (.op ⟨(some 37), none, .bin .add (.tmp 36) (.cst (.int .i64 1))⟩
                (.op ⟨(some 5), none, .mov (.tmp 37)⟩
                .nil))))
                .skip))))
            (.reg
            (.op ⟨(some 38), none, .bin .add (.tmp 29) (.cst (.int .i64 1))⟩
            (.op ⟨(some 29), none, .mov (.tmp 38)⟩
            .nil)))))))))
      (.seq
       (.reg
       (.op ⟨(some 39), none, .mov (.tmp 5)⟩
       (.op ⟨(some 40), none, .faddr 0 (.tmp 2)⟩
       (.op ⟨(some 41), none, .load none (.tmp 40)⟩
       (.op ⟨(some 42), none, .bin .geq (.tmp 39) (.tmp 41)⟩
       (.op ⟨(some 4), none, .mov (.tmp 42)⟩
       .nil))))))
       .ret))))))
theorem ok_threshold_Satisfied : FnOk Try.prog 147 43 (SA.erase sa_threshold_Satisfied) [.tmp 4] := ⟨Try.f147, [], Try.func147, rfl, by kernel_rfl, by kernel_rfl, by kernel_rfl⟩
noncomputable def B_threshold_Satisfied (rec : (TTrust × Int × Unit) → Option Bool) (a0 : TTrust) (a1 : Int) : Option Bool :=
Option.bind (F_nodeset_Valid a1) fun r1 =>
bif (!r1) then
some false
else
loopO (fun (v2 : Int × Int × Unit) =>
bif (decide (v2.2.1 < ((List.length a0.Nodes : Nat) : Int))) then
letJ (fun (v3 : Int × Unit) =>
some (Sum.inl (v3.1, (addI .i64 v2.2.1 (1 : Int)), ()))) fun j4 =>
Option.bind (idx a0.Nodes v2.2.1) fun x5 =>
Option.bind (F_nodeset_Has a1 x5) fun r6 =>
bif r6 then
j4 ((addI .i64 v2.1 (1 : Int)), ())
else
j4 (v2.1, ())
else
Option.map Sum.inr (loopO (fun (v7 : Int × Int × Unit) =>
bif (decide (v7.2.1 < ((List.length a0.Inner : Nat) : Int))) then
letJ (fun (v8 : Int × Unit) =>
some (Sum.inl (v8.1, (addI .i64 v7.2.1 (1 : Int)), ()))) fun j9 =>
Option.bind (idx a0.Inner v7.2.1) fun x10 =>
Option.bind (rec ((TTrust.mk x10.Threshold x10.Nodes x10.Inner), a1, ())) fun r11 =>
bif r11 then
j9 ((addI .i64 v7.1 (1 : Int)), ())
else
j9 (v7.1, ())
else
Option.map Sum.inr (some (decide (a0.Threshold ≤ v7.1)))) (v2.1, (0 : Int), ()))) ((0 : Int), (0 : Int), ())
noncomputable def I_threshold_Satisfied : Nat → (TTrust × Int × Unit) → Option Bool := iterF (fun rec a => B_threshold_Satisfied rec a.1 a.2.1)
noncomputable def F_threshold_Satisfied (a0 : TTrust) (a1 : Int) : Option Bool := I_threshold_Satisfied (SizeOf.sizeOf a0 + SizeOf.sizeOf a1 + 1) (a0, a1, ())
theorem e_threshold_Satisfied : (fun G => fnK K (.fn 147 [.ty (Ty.st .Trust), .ty (Ty.i .i64)] (.one Ty.bool) G :: [.fn 138 [.ty (Ty.i .i64)] (.one Ty.bool) fun a => F_nodeset_Valid a.1, .fn 129 [.ty (Ty.i .i64), .ty (Ty.i .i64)] (.one Ty.bool) fun a => F_nodeset_Has a.1 a.2.1]) sa_threshold_Satisfied [.tmp 4] [.ty (Ty.st .Trust), .ty (Ty.i .i64)] (.one Ty.bool)) = (fun G a => B_threshold_Satisfied G a.1 a.2.1) := by kernel_rfl
theorem n_threshold_Satisfied : ∀ n, KFun.Sound (U := U) Try.prog (.fn 147 [.ty (Ty.st .Trust), .ty (Ty.i .i64)] (.one Ty.bool) (I_threshold_Satisfied n))
  | 0 => ⟨ok_threshold_Satisfied.enters, fun a r h => by cases h⟩
  | n + 1 => fnK_sound (K := K) (r := .one Ty.bool) (Γ := .fn 147 [.ty (Ty.st .Trust), .ty (Ty.i .i64)] (.one Ty.bool) (I_threshold_Satisfied n) :: [.fn 138 [.ty (Ty.i .i64)] (.one Ty.bool) fun a => F_nodeset_Valid a.1, .fn 129 [.ty (Ty.i .i64), .ty (Ty.i .i64)] (.one Ty.bool) fun a => F_nodeset_Has a.1 a.2.1]) (F := I_threshold_Satisfied (n + 1)) ok_threshold_Satisfied (by kernel_rfl) (by decide) ⟨n_threshold_Satisfied n, s_nodeset_Valid, s_nodeset_Has, trivial⟩ (fun a => congrFun (congrFun e_threshold_Satisfied (I_threshold_Satisfied n)) a)
theorem s_threshold_Satisfied : KFun.Sound (U := U) Try.prog (.fn 147 [.ty (Ty.st .Trust), .ty (Ty.i .i64)] (.one Ty.bool) fun a => F_threshold_Satisfied a.1 a.2.1) := ⟨ok_threshold_Satisfied.enters, fun a r h => (n_threshold_Satisfied _).2 a r h⟩

/-! ### trustquorum/blocking.Blocks -/
def sa_blocking_Blocks : SA U :=
 (.seq
  (.reg
  (.op ⟨(some 3), none, .box (.tmp 0)⟩
  (.op ⟨(some 6), none, .mov (.cst (.bool false))⟩
  .nil)))
  (.seq
   (.seq
    (.reg
    (.op ⟨(some 7), none, .mov (.tmp 2)⟩
    (.op ⟨(some 8), none, .call 138 [(.tmp 7)]⟩
    (.op ⟨(some 9), none, .not (.tmp 8)⟩
    (.op ⟨(some 10), none, .mov (.tmp 9)⟩
    (.ite 10 false
     (.op ⟨(some 11), (some (10, false)), .load (some 1) (.tmp 3)⟩
     (.op ⟨(some 12), (some (10, false)), .call 146 [(.tmp 11)]⟩
     (.op ⟨(some 13), (some (10, false)), .mov (.tmp 1)⟩
     (.op ⟨(some 14), (some (10, false)), .call 129 [(.tmp 12), (.tmp 13)]⟩
     (.op ⟨(some 15), (some (10, false)), .not (.tmp 14)⟩
     .nil)))))
     16 none (.cst (.bool true)) (.tmp 15)
    .nil))))))
    (.cond (.tmp 16)
     (.seq
      (.reg
      (.op ⟨(some 6), none, .mov (.cst (.bool false))⟩
      .nil))
      .ret)
     .skip))
   (.seq
    (.drw []
    (.op ⟨(some 17), none, .faddr 0 (.tmp 3)⟩
    (.op ⟨(some 18), none, .load none (.tmp 17)⟩
    (.op ⟨(some 19), none, .mov (.tmp 1)⟩
    (.op ⟨(some 20), none, .iaddr 4 (.tmp 18) (.tmp 19)⟩
    (.op ⟨(some 21), none, .faddr 1 (.tmp 20)⟩
    (.op ⟨(some 22), none, .load (some 3) (.tmp 21)⟩
    (.op ⟨(some 23), none, .mov (.tmp 2)⟩
    (.op ⟨(some 24), none, .bin .andNot (.cst (.int .i64 1023)) (.tmp 23)⟩
    (.op ⟨(some 25), none, .mov (.tmp 1)⟩
    (.op ⟨(some 26), none, .bin .shl (.cst (.int .i64 1)) (.tmp 25)⟩
    (.op ⟨(some 27), none, .bin .or (.tmp 24) (.tmp 26)⟩
    (.op ⟨(some 28), none, .call 147 [(.tmp 22), (.tmp 27)]⟩
    (.op ⟨(some 29), none, .not (.tmp 28)⟩
    (.op ⟨(some 6), none, .mov (.tmp 29)⟩
    .nil)))))))))))))))
    .ret)))
theorem ok_blocking_Blocks : FnOk Try.prog 139 30 (SA.erase sa_blocking_Blocks) [.tmp 6] := ⟨Try.f139, [], Try.func139, rfl, by kernel_rfl, by kernel_rfl, by kernel_rfl⟩
noncomputable def F_blocking_Blocks (a0 : TConfig) (a1 : Int) (a2 : Int) : Option Bool :=
Option.bind (F_nodeset_Valid a2) fun r1 =>
Option.bind (bif (!r1) then some true
else
Option.bind (F_configuration_Declared a0) fun r2 =>
Option.bind (F_nodeset_Has r2 a1) fun r3 =>
some (!r3)) fun b4 =>
bif b4 then
some false
else
Option.bind (idx a0.Members a1) fun x5 =>
if a1 < 0 then none else
Option.bind (F_threshold_Satisfied (TTrust.mk x5.Trust.Threshold x5.Trust.Nodes x5.Trust.Inner) (orI .i64 (andNotI .i64 (1023 : Int) a2) (shlI .i64 (1 : Int) a1))) fun r6 =>
some (!r6)
theorem e_blocking_Blocks : fnK K [.fn 138 [.ty (Ty.i .i64)] (.one Ty.bool) fun a => F_nodeset_Valid a.1, .fn 146 [.ty (Ty.st .Config)] (.one (Ty.i .i64)) fun a => F_configuration_Declared a.1, .fn 129 [.ty (Ty.i .i64), .ty (Ty.i .i64)] (.one Ty.bool) fun a => F_nodeset_Has a.1 a.2.1, .fn 147 [.ty (Ty.st .Trust), .ty (Ty.i .i64)] (.one Ty.bool) fun a => F_threshold_Satisfied a.1 a.2.1] sa_blocking_Blocks [.tmp 6] [.ty (Ty.st .Config), .ty (Ty.i .i64), .ty (Ty.i .i64)] (.one Ty.bool) = fun a => F_blocking_Blocks a.1 a.2.1 a.2.2.1 := by kernel_rfl
theorem s_blocking_Blocks : KFun.Sound (U := U) Try.prog (.fn 139 [.ty (Ty.st .Config), .ty (Ty.i .i64), .ty (Ty.i .i64)] (.one Ty.bool) fun a => F_blocking_Blocks a.1 a.2.1 a.2.2.1) := fnK_sound (K := K) (Γ := [.fn 138 [.ty (Ty.i .i64)] (.one Ty.bool) fun a => F_nodeset_Valid a.1, .fn 146 [.ty (Ty.st .Config)] (.one (Ty.i .i64)) fun a => F_configuration_Declared a.1, .fn 129 [.ty (Ty.i .i64), .ty (Ty.i .i64)] (.one Ty.bool) fun a => F_nodeset_Has a.1 a.2.1, .fn 147 [.ty (Ty.st .Trust), .ty (Ty.i .i64)] (.one Ty.bool) fun a => F_threshold_Satisfied a.1 a.2.1]) ok_blocking_Blocks (by kernel_rfl) (by decide) ⟨s_nodeset_Valid, s_configuration_Declared, s_nodeset_Has, s_threshold_Satisfied, trivial⟩ (fun a => congrFun e_blocking_Blocks a)

/-! ### trustquorum/nodeset.Nodes -/
def sa_nodeset_Nodes : SA U :=
 (.seq
  (.reg
  (.op ⟨(some 2), none, .mov (.cst (.nils))⟩
  .nil))
  (.seq
   (.reg
   (.op ⟨(some 3), none, .mov (.cst (.nils))⟩
   .nil))
   (.seq
    (.seq
     (.reg
     (.op ⟨(some 5), none, .mov (.cst (.int .i64 0))⟩
     .nil))
     (.block 0
      (.ps (.own 3 3 1 (Ty.i .i64))
      (.loop ⟨[.val 5 (Ty.i .i64), .own 3 3 1 3 1 (Ty.i .i64)], [0]⟩
       (.seq
        (.reg
        (.op ⟨(some 6), none, .bin .lss (.tmp 5) (.cst (.int .i64 10))⟩
        .nil))
        (.seq
         (.cond (.tmp 6)
          .skip
          (.exit 0))
         (.join ⟨[.own 3 3 1 3 1 (Ty.i .i64)], [0, 5]⟩
          (.block 1
           (.seq
            (.reg
            (.op ⟨(some 7), none, .mov (.tmp 5)⟩
            (.op ⟨(some 4), none, .mov (.tmp 7)⟩
            .nil)))
            (.seq
             (.reg
             (.op ⟨(some 8), none, .mov (.tmp 0)⟩
             (.op ⟨(some 9), none, .mov (.tmp 4)⟩
             (.op ⟨(some 10), none, .call 129 [(.tmp 8), (.tmp 9)]⟩
             .nil))))
             (.cond (.tmp 10)
              (.reg
              (.op ⟨(some 11), none, .mov (.tmp 3)⟩
              (.op ⟨(some 12), none, .mov (.tmp 4)⟩
              (.op ⟨(some 13), none, .bsl false 3 1 (List.replicate 1 [.int .i64 0]) [(0, (.tmp 12))]⟩
              (.op ⟨(some 14), none, .app 3 1 8 (.tmp 11) (.tmp 13)⟩
              (.op ⟨(some 3), none, .mov (.tmp 14)⟩
              .nil))))))
              .skip))))
          (.reg
          (.op ⟨(some 15), none, .bin .add (.tmp 5) (.cst (.int .i64 1))⟩
          (.op ⟨(some 5), none, .mov (.tmp 15)⟩
          .nil))))))))))
    (.seq
     (.reg
     (.op ⟨(some 16), none, .mov (.tmp 3)⟩
     (.op ⟨(some 2), none, .mov (.tmp 16)⟩
     .nil)))
     .ret))))
theorem ok_nodeset_Nodes : FnOk Try.prog 159 17 (SA.erase sa_nodeset_Nodes) [.tmp 2] := ⟨Try.f159, [], Try.func159, rfl, by kernel_rfl, by kernel_rfl, by kernel_rfl⟩
noncomputable def F_nodeset_Nodes (a0 : Int) : Option (List Int) :=
loopO (fun (v1 : Int × (List Int) × Unit) =>
bif (decide (v1.1 < (10 : Int))) then
letJ (fun (v2 : (List Int) × Unit) =>
some (Sum.inl ((addI .i64 v1.1 (1 : Int)), v2.1, ()))) fun j3 =>
Option.bind (F_nodeset_Has a0 v1.1) fun r4 =>
bif r4 then
bif lenOk 8 (List.length v1.2.1 + List.length [v1.1]) then
j3 ((v1.2.1 ++ [v1.1]), ())
else none
else
j3 (v1.2.1, ())
else
Option.map Sum.inr (some v1.2.1)) ((0 : Int), ([] : List Int), ())
theorem e_nodeset_Nodes : fnK K [.fn 129 [.ty (Ty.i .i64), .ty (Ty.i .i64)] (.one Ty.bool) fun a => F_nodeset_Has a.1 a.2.1] sa_nodeset_Nodes [.tmp 2] [.ty (Ty.i .i64)] (.one (Ty.sl (Ty.i .i64))) = fun a => F_nodeset_Nodes a.1 := by kernel_rfl
theorem s_nodeset_Nodes : KFun.Sound (U := U) Try.prog (.fn 159 [.ty (Ty.i .i64)] (.one (Ty.sl (Ty.i .i64))) fun a => F_nodeset_Nodes a.1) := fnK_sound (K := K) (Γ := [.fn 129 [.ty (Ty.i .i64), .ty (Ty.i .i64)] (.one Ty.bool) fun a => F_nodeset_Has a.1 a.2.1]) ok_nodeset_Nodes (by kernel_rfl) (by decide) ⟨s_nodeset_Has, trivial⟩ (fun a => congrFun e_nodeset_Nodes a)

/-! ### trustquorum/closure.content -/
def sa_closure_content : SA U :=
 (.seq
  (.reg
  (.op ⟨(some 3), none, .box (.tmp 0)⟩
  (.op ⟨(some 6), none, .mov (.cst (.bool false))⟩
  .nil)))
  (.seq
   (.reg
   (.op ⟨(some 7), none, .faddr 0 (.tmp 3)⟩
   (.op ⟨(some 8), none, .load none (.tmp 7)⟩
   (.op ⟨(some 9), none, .mov (.tmp 1)⟩
   (.op ⟨(some 10), none, .iaddr 4 (.tmp 8) (.tmp 9)⟩
   (.op ⟨(some 11), none, .faddr 1 (.tmp 10)⟩
   (.op ⟨(some 12), none, .load (some 3) (.tmp 11)⟩
   (.op ⟨(some 13), none, .mov (.tmp 2)⟩
   (.op ⟨(some 14), none, .call 147 [(.tmp 12), (.tmp 13)]⟩
   (.op ⟨(some 6), none, .mov (.tmp 14)⟩
   .nil))))))))))
   .ret))
theorem ok_closure_content : FnOk Try.prog 160 15 (SA.erase sa_closure_content) [.tmp 6] := ⟨Try.f160, [], Try.func160, rfl, by kernel_rfl, by kernel_rfl, by kernel_rfl⟩
noncomputable def F_closure_content (a0 : TConfig) (a1 : Int) (a2 : Int) : Option Bool :=
Option.bind (idx a0.Members a1) fun x1 =>
Option.bind (F_threshold_Satisfied (TTrust.mk x1.Trust.Threshold x1.Trust.Nodes x1.Trust.Inner) a2) fun r2 =>
some r2
theorem e_closure_content : fnK K [.fn 147 [.ty (Ty.st .Trust), .ty (Ty.i .i64)] (.one Ty.bool) fun a => F_threshold_Satisfied a.1 a.2.1] sa_closure_content [.tmp 6] [.ty (Ty.st .Config), .ty (Ty.i .i64), .ty (Ty.i .i64)] (.one Ty.bool) = fun a => F_closure_content a.1 a.2.1 a.2.2.1 := by kernel_rfl
theorem s_closure_content : KFun.Sound (U := U) Try.prog (.fn 160 [.ty (Ty.st .Config), .ty (Ty.i .i64), .ty (Ty.i .i64)] (.one Ty.bool) fun a => F_closure_content a.1 a.2.1 a.2.2.1) := fnK_sound (K := K) (Γ := [.fn 147 [.ty (Ty.st .Trust), .ty (Ty.i .i64)] (.one Ty.bool) fun a => F_threshold_Satisfied a.1 a.2.1]) ok_closure_content (by kernel_rfl) (by decide) ⟨s_threshold_Satisfied, trivial⟩ (fun a => congrFun e_closure_content a)

/-! ### trustquorum/closure.unhappy -/
def sa_closure_unhappy : SA U :=
 (.seq
  (.reg
  (.op ⟨(some 2), none, .box (.tmp 0)⟩
  (.op ⟨(some 4), none, .mov (.cst (.int .i64 0))⟩
  (.op ⟨(some 5), none, .mov (.cst (.bool false))⟩
  .nil))))
  (.seq
   (.seq
    (.reg
    (.op ⟨(some 8), none, .mov (.tmp 1)⟩
    (.op ⟨(some 9), none, .call 159 [(.tmp 8)]⟩
    (.op ⟨(some 10), none, .len false (.tmp 9)⟩
    (.op ⟨(some 11), none, .mov (.cst (.int .i64 0))⟩
    .nil)))))
    (.block 0
     (.loop ⟨[.val 11 (Ty.i .i64)], [1, 2, 9, 10]⟩
      (.seq
       (.reg
       (.op ⟨(some 12), none, .bin .lss (.tmp 11) (.tmp 10)⟩
       .nil))
       (.seq
        (.cond (.tmp 12)
         .skip
         (.exit 0))
        (.seq
         (.block 1
          (.seq
           (.reg
           (.op ⟨(some 13), none, .iaddr 1 (.tmp 9) (.tmp 11)⟩
           (.op ⟨(some 14), none, .load none (.tmp 13)⟩
           (.op ⟨(some 7), none, .mov (.tmp 14)⟩
           .nil))))
           (.seq
            (.reg
            (.op ⟨(some 15), none, .load (some 1) (.tmp 2)⟩
            (.op ⟨(some 16), none, .mov (.tmp 7)⟩
            (.op ⟨(some 17), none, .mov (.tmp 1)⟩
            (.op ⟨(some 18), none, .call 160 [(.tmp 15), (.tmp 16), (.tmp 17)]⟩
            (.op ⟨(some 19), none, .not (.tmp 18)⟩
            .nil))))))
            (.cond (.tmp 19)
             (.seq
              (.reg
              (.op ⟨(some 20), none, .mov (.tmp 7)⟩
              (.op ⟨(some 4), none, .mov (.tmp 20)⟩
              (.op ⟨(some 5), none, .mov (.cst (.bool true))⟩
              .nil))))
              .ret)
             .skip))))
         (.reg
         (.op ⟨(some 21), none, .bin .add (.tmp 11) (.cst (.int .i64 1))⟩
         (.op ⟨(some 11), none, .mov (.tmp 21)⟩
         .nil)))))))))
   (.seq
    (.reg
    (.op ⟨(some 4), none, .mov (.cst (.int .i64 0))⟩
    (.op ⟨(some 5), none, .mov (.cst (.bool false))⟩
    .nil)))
    .ret)))
theorem ok_closure_unhappy : FnOk Try.prog 148 22 (SA.erase sa_closure_unhappy) [.tmp 4, .tmp 5] := ⟨Try.f148, [], Try.func148, rfl, by kernel_rfl, by kernel_rfl, by kernel_rfl⟩
noncomputable def F_closure_unhappy (a0 : TConfig) (a1 : Int) : Option (Int × Bool × Unit) :=
Option.bind (F_nodeset_Nodes a1) fun r1 =>
loopO (fun (v2 : Int × Unit) =>
bif (decide (v2.1 < ((List.length r1 : Nat) : Int))) then
Option.bind (idx r1 v2.1) fun x3 =>
Option.bind (F_closure_content a0 x3 a1) fun r4 =>
bif (!r4) then
Option.map Sum.inr (some (x3, true, ()))
else
some (Sum.inl ((addI .i64 v2.1 (1 : Int)), ()))
else
Option.map Sum.inr (some ((0 : Int), false, ()))) ((0 : Int), ())
theorem e_closure_unhappy : fnK K [.fn 159 [.ty (Ty.i .i64)] (.one (Ty.sl (Ty.i .i64))) fun a => F_nodeset_Nodes a.1, .fn 160 [.ty (Ty.st .Config), .ty (Ty.i .i64), .ty (Ty.i .i64)] (.one Ty.bool) fun a => F_closure_content a.1 a.2.1 a.2.2.1] sa_closure_unhappy [.tmp 4, .tmp 5] [.ty (Ty.st .Config), .ty (Ty.i .i64)] (.many [(Ty.i .i64), Ty.bool]) = fun a => F_closure_unhappy a.1 a.2.1 := by kernel_rfl
theorem s_closure_unhappy : KFun.Sound (U := U) Try.prog (.fn 148 [.ty (Ty.st .Config), .ty (Ty.i .i64)] (.many [(Ty.i .i64), Ty.bool]) fun a => F_closure_unhappy a.1 a.2.1) := fnK_sound (K := K) (Γ := [.fn 159 [.ty (Ty.i .i64)] (.one (Ty.sl (Ty.i .i64))) fun a => F_nodeset_Nodes a.1, .fn 160 [.ty (Ty.st .Config), .ty (Ty.i .i64), .ty (Ty.i .i64)] (.one Ty.bool) fun a => F_closure_content a.1 a.2.1 a.2.2.1]) ok_closure_unhappy (by kernel_rfl) (by decide) ⟨s_nodeset_Nodes, s_closure_content, trivial⟩ (fun a => congrFun e_closure_unhappy a)

/-! ### trustquorum/closure.eliminate -/
def sa_closure_eliminate : SA U :=
 (.seq
  (.reg
  (.op ⟨(some 2), none, .box (.tmp 0)⟩
  (.op ⟨(some 4), none, .mov (.cst (.int .i64 0))⟩
  (.op ⟨(some 5), none, .mov (.cst (.nils))⟩
  .nil))))
  (.seq
   (.seq
    (.reg
    (.op ⟨(some 9), none, .mov (.tmp 1)⟩
    (.op ⟨(some 10), none, .call 138 [(.tmp 9)]⟩
    (.op ⟨(some 11), none, .not (.tmp 10)⟩
    .nil))))
    (.cond (.tmp 11)
     (.seq
      (.reg
      (.op ⟨(some 4), none, .mov (.cst (.int .i64 0))⟩
      (.op ⟨(some 5), none, .mov (.cst (.nils))⟩
      .nil)))
      .ret)
     .skip))
   (.seq
    (.reg
    (.op ⟨(some 6), none, .mov (.cst (.nils))⟩
    .nil))
    (.seq
     (.reg
     (.op ⟨(some 12), none, .mov (.tmp 1)⟩
     (.op ⟨(some 13), none, .load (some 1) (.tmp 2)⟩
     (.op ⟨(some 14), none, .call 146 [(.tmp 13)]⟩
     (.op ⟨(some 15), none, .bin .and (.tmp 12) (.tmp 14)⟩
     (.op ⟨(some 1), none, .mov (.tmp 15)⟩
     .nil))))))
     (.block 0
      (.ps (.own 6 3 1 (Ty.i .i64))
      (.loop ⟨[.val 1 (Ty.i .i64), .own 6 12 1 3 1 (Ty.i .i64)], [2]⟩
       (.block 1
        (.seq
         (.reg
         (.op ⟨(some 17), none, .load (some 1) (.tmp 2)⟩
         (.op ⟨(some 18), none, .mov (.tmp 1)⟩
         (.op ⟨(some 19), none, .call 148 [(.tmp 17), (.tmp 18)]⟩
         (.op ⟨(some 16), none, .mov (.tmp 19)⟩
         (.op ⟨(some 20), none, .extr 0 (.tmp 16)⟩
         (.op ⟨(some 21), none, .extr 1 (.tmp 16)⟩
         (.op ⟨(some 7), none, .mov (.tmp 20)⟩
         (.op ⟨(some 8), none, .mov (.tmp 21)⟩
         .nil)))))))))
         (.seq
          (.seq
           (.reg
           (.op ⟨(some 22), none, .mov (.tmp 8)⟩
           (.op ⟨(some 23), none, .not (.tmp 22)⟩
           .nil)))
           (.cond (.tmp 23)
            (.seq
             (.reg
             (.op ⟨(some 24), none, .mov (.tmp 1)⟩
             (.op ⟨(some 25), none, .mov (.tmp 6)⟩
             (.op ⟨(some 4), none, .mov (.tmp 24)⟩
             (.op ⟨(some 5), none, .mov (.tmp 25)⟩
             .nil)))))
             .ret)
            .skip))
          (.seq
           (.reg
           (.op ⟨(some 26), none, .mov (.tmp 6)⟩
           (.op ⟨(some 27), none, .mov (.tmp 7)⟩
           (.op ⟨(some 28), none, .bsl false 3 1 (List.replicate 1 [.int .i64 0]) [(0, (.tmp 27))]⟩
           (.op ⟨(some 29), none, .app 3 1 8 (.tmp 26) (.tmp 28)⟩
           (.op ⟨(some 6), none, .mov (.tmp 29)⟩
           .nil))))))
           (.reg
           (.op ⟨(some 30), none, .mov (.tmp 1)⟩
           (.op ⟨(some 31), none, .mov (.tmp 7)⟩
           (.op ⟨(some 32), none, .bin .shl (.cst (.int .i64 1)) (.tmp 31)⟩
           (.op ⟨(some 33), none, .bin .andNot (.tmp 30) (.tmp 32)⟩
           (.op ⟨(some 1), none, .mov (.tmp 33)⟩
           .nil)))))))))))))))))
theorem ok_closure_eliminate : FnOk Try.prog 141 34 (SA.erase sa_closure_eliminate) [.tmp 4, .tmp 5] := ⟨Try.f141, [], Try.func141, rfl, by kernel_rfl, by kernel_rfl, by kernel_rfl⟩
noncomputable def F_closure_eliminate (a0 : TConfig) (a1 : Int) : Option (Int × (List Int) × Unit) :=
Option.bind (F_nodeset_Valid a1) fun r1 =>
bif (!r1) then
some ((0 : Int), ([] : List Int), ())
else
Option.bind (F_configuration_Declared a0) fun r2 =>
loopO (fun (v3 : Int × (List Int) × Unit) =>
Option.bind (F_closure_unhappy a0 v3.1) fun r4 =>
bif (!r4.2.1) then
Option.map Sum.inr (some (v3.1, v3.2.1, ()))
else
bif lenOk 8 (List.length v3.2.1 + List.length [r4.1]) then
if r4.1 < 0 then none else
some (Sum.inl ((andNotI .i64 v3.1 (shlI .i64 (1 : Int) r4.1)), (v3.2.1 ++ [r4.1]), ()))
else none) ((andI .i64 a1 r2), ([] : List Int), ())
theorem e_closure_eliminate : fnK K [.fn 138 [.ty (Ty.i .i64)] (.one Ty.bool) fun a => F_nodeset_Valid a.1, .fn 146 [.ty (Ty.st .Config)] (.one (Ty.i .i64)) fun a => F_configuration_Declared a.1, .fn 148 [.ty (Ty.st .Config), .ty (Ty.i .i64)] (.many [(Ty.i .i64), Ty.bool]) fun a => F_closure_unhappy a.1 a.2.1] sa_closure_eliminate [.tmp 4, .tmp 5] [.ty (Ty.st .Config), .ty (Ty.i .i64)] (.many [(Ty.i .i64), (Ty.sl (Ty.i .i64))]) = fun a => F_closure_eliminate a.1 a.2.1 := by kernel_rfl
theorem s_closure_eliminate : KFun.Sound (U := U) Try.prog (.fn 141 [.ty (Ty.st .Config), .ty (Ty.i .i64)] (.many [(Ty.i .i64), (Ty.sl (Ty.i .i64))]) fun a => F_closure_eliminate a.1 a.2.1) := fnK_sound (K := K) (Γ := [.fn 138 [.ty (Ty.i .i64)] (.one Ty.bool) fun a => F_nodeset_Valid a.1, .fn 146 [.ty (Ty.st .Config)] (.one (Ty.i .i64)) fun a => F_configuration_Declared a.1, .fn 148 [.ty (Ty.st .Config), .ty (Ty.i .i64)] (.many [(Ty.i .i64), Ty.bool]) fun a => F_closure_unhappy a.1 a.2.1]) ok_closure_eliminate (by kernel_rfl) (by decide) ⟨s_nodeset_Valid, s_configuration_Declared, s_closure_unhappy, trivial⟩ (fun a => congrFun e_closure_eliminate a)

/-! ### trustquorum/closure.Greatest -/
def sa_closure_Greatest : SA U :=
 (.seq
  (.reg
  (.op ⟨(some 2), none, .box (.tmp 0)⟩
  (.op ⟨(some 4), none, .mov (.cst (.int .i64 0))⟩
  .nil)))
  (.seq
   (.reg
   (.op ⟨(some 8), none, .load (some 1) (.tmp 2)⟩
   (.op ⟨(some 9), none, .mov (.tmp 1)⟩
   (.op ⟨(some 10), none, .call 141 [(.tmp 8), (.tmp 9)]⟩
   (.op ⟨(some 7), none, .mov (.tmp 10)⟩
   (.op ⟨(some 11), none, .extr 0 (.tmp 7)⟩
   (.op ⟨(some 12), none, .extr 1 (.tmp 7)⟩
   (.op ⟨(some 5), none, .mov (.tmp 11)⟩
   (.op ⟨(some 6), none, .mov (.tmp 12)⟩
   .nil)))))))))
   (.seq
    (.reg
    (.op ⟨(some 13), none, .mov (.tmp 5)⟩
    (.op ⟨(some 4), none, .mov (.tmp 13)⟩
    .nil)))
    .ret)))
theorem ok_closure_Greatest : FnOk Try.prog 130 14 (SA.erase sa_closure_Greatest) [.tmp 4] := ⟨Try.f130, [], Try.func130, rfl, by kernel_rfl, by kernel_rfl, by kernel_rfl⟩
noncomputable def F_closure_Greatest (a0 : TConfig) (a1 : Int) : Option Int :=
Option.bind (F_closure_eliminate a0 a1) fun r1 =>
some r1.1
theorem e_closure_Greatest : fnK K [.fn 141 [.ty (Ty.st .Config), .ty (Ty.i .i64)] (.many [(Ty.i .i64), (Ty.sl (Ty.i .i64))]) fun a => F_closure_eliminate a.1 a.2.1] sa_closure_Greatest [.tmp 4] [.ty (Ty.st .Config), .ty (Ty.i .i64)] (.one (Ty.i .i64)) = fun a => F_closure_Greatest a.1 a.2.1 := by kernel_rfl
theorem s_closure_Greatest : KFun.Sound (U := U) Try.prog (.fn 130 [.ty (Ty.st .Config), .ty (Ty.i .i64)] (.one (Ty.i .i64)) fun a => F_closure_Greatest a.1 a.2.1) := fnK_sound (K := K) (Γ := [.fn 141 [.ty (Ty.st .Config), .ty (Ty.i .i64)] (.many [(Ty.i .i64), (Ty.sl (Ty.i .i64))]) fun a => F_closure_eliminate a.1 a.2.1]) ok_closure_Greatest (by kernel_rfl) (by decide) ⟨s_closure_eliminate, trivial⟩ (fun a => congrFun e_closure_Greatest a)

/-! ### trustquorum/federated.Accepts -/
def sa_federated_Accepts : SA U :=
 (.seq
  (.reg
  (.op ⟨(some 4), none, .box (.tmp 0)⟩
  (.op ⟨(some 8), none, .mov (.cst (.bool false))⟩
  .nil)))
  (.seq
   (.seq
    (.reg
    (.op ⟨(some 9), none, .mov (.tmp 2)⟩
    (.op ⟨(some 10), none, .call 138 [(.tmp 9)]⟩
    (.op ⟨(some 11), none, .not (.tmp 10)⟩
    (.op ⟨(some 12), none, .mov (.tmp 11)⟩
    (.ite 12 false
     (.op ⟨(some 13), (some (12, false)), .mov (.tmp 3)⟩
     (.op ⟨(some 14), (some (12, false)), .call 138 [(.tmp 13)]⟩
     (.op ⟨(some 15), (some (12, false)), .not (.tmp 14)⟩
     .nil)))
     16 none (.cst (.bool true)) (.tmp 15)
    .nil))))))
    (.cond (.tmp 16)
     (.seq
      (.reg
      (.op ⟨(some 8), none, .mov (.cst (.bool false))⟩
      .nil))
      .ret)
     .skip))
   (.seq
    (.reg
    (.op ⟨(some 17), none, .load (some 1) (.tmp 4)⟩
    (.op ⟨(some 18), none, .mov (.tmp 1)⟩
    (.op ⟨(some 19), none, .mov (.tmp 3)⟩
    (.op ⟨(some 20), none, .call 139 [(.tmp 17), (.tmp 18), (.tmp 19)]⟩
    (.op ⟨(some 21), none, .mov (.tmp 20)⟩
    (.ite 21 false
     (.op ⟨(some 22), (some (21, false)), .load (some 1) (.tmp 4)⟩
     (.op ⟨(some 23), (some (21, false)), .mov (.tmp 2)⟩
     (.op ⟨(some 24), (some (21, false)), .mov (.tmp 3)⟩
     (.op ⟨(some 25), (some (21, false)), .bin .or (.tmp 23) (.tmp 24)⟩
     (.op ⟨(some 26), (some (21, false)), .call 130 [(.tmp 22), (.tmp 25)]⟩
     (.op ⟨(some 27), (some (21, false)), .mov (.tmp 1)⟩
     (.op ⟨(some 28), (some (21, false)), .call 129 [(.tmp 26), (.tmp 27)]⟩
     .nil)))))))
     29 none (.cst (.bool true)) (.tmp 28)
    (.op ⟨(some 8), none, .mov (.tmp 29)⟩
    .nil))))))))
    .ret)))
theorem ok_federated_Accepts : FnOk Try.prog 126 30 (SA.erase sa_federated_Accepts) [.tmp 8] := ⟨Try.f126, [], Try.func126, rfl, by kernel_rfl, by kernel_rfl, by kernel_rfl⟩
noncomputable def F_federated_Accepts (a0 : TConfig) (a1 : Int) (a2 : Int) (a3 : Int) : Option Bool :=
Option.bind (F_nodeset_Valid a2) fun r1 =>
Option.bind (bif (!r1) then some true
else
Option.bind (F_nodeset_Valid a3) fun r2 =>
some (!r2)) fun b3 =>
bif b3 then
some false
else
Option.bind (F_blocking_Blocks a0 a1 a3) fun r4 =>
Option.bind (bif r4 then some true
else
Option.bind (F_closure_Greatest a0 (orI .i64 a2 a3)) fun r5 =>
Option.bind (F_nodeset_Has r5 a1) fun r6 =>
some r6) fun b7 =>
some b7
theorem e_federated_Accepts : fnK K [.fn 138 [.ty (Ty.i .i64)] (.one Ty.bool) fun a => F_nodeset_Valid a.1, .fn 139 [.ty (Ty.st .Config), .ty (Ty.i .i64), .ty (Ty.i .i64)] (.one Ty.bool) fun a => F_blocking_Blocks a.1 a.2.1 a.2.2.1, .fn 130 [.ty (Ty.st .Config), .ty (Ty.i .i64)] (.one (Ty.i .i64)) fun a => F_closure_Greatest a.1 a.2.1, .fn 129 [.ty (Ty.i .i64), .ty (Ty.i .i64)] (.one Ty.bool) fun a => F_nodeset_Has a.1 a.2.1] sa_federated_Accepts [.tmp 8] [.ty (Ty.st .Config), .ty (Ty.i .i64), .ty (Ty.i .i64), .ty (Ty.i .i64)] (.one Ty.bool) = fun a => F_federated_Accepts a.1 a.2.1 a.2.2.1 a.2.2.2.1 := by kernel_rfl
theorem s_federated_Accepts : KFun.Sound (U := U) Try.prog (.fn 126 [.ty (Ty.st .Config), .ty (Ty.i .i64), .ty (Ty.i .i64), .ty (Ty.i .i64)] (.one Ty.bool) fun a => F_federated_Accepts a.1 a.2.1 a.2.2.1 a.2.2.2.1) := fnK_sound (K := K) (Γ := [.fn 138 [.ty (Ty.i .i64)] (.one Ty.bool) fun a => F_nodeset_Valid a.1, .fn 139 [.ty (Ty.st .Config), .ty (Ty.i .i64), .ty (Ty.i .i64)] (.one Ty.bool) fun a => F_blocking_Blocks a.1 a.2.1 a.2.2.1, .fn 130 [.ty (Ty.st .Config), .ty (Ty.i .i64)] (.one (Ty.i .i64)) fun a => F_closure_Greatest a.1 a.2.1, .fn 129 [.ty (Ty.i .i64), .ty (Ty.i .i64)] (.one Ty.bool) fun a => F_nodeset_Has a.1 a.2.1]) ok_federated_Accepts (by kernel_rfl) (by decide) ⟨s_nodeset_Valid, s_blocking_Blocks, s_closure_Greatest, s_nodeset_Has, trivial⟩ (fun a => congrFun e_federated_Accepts a)

/-! ### (trustquorum/prepare.Seen).Accepts -/
def sa_prepare_Seen_Accepts_c102_c109 : SA U :=
 (.seq
  (.reg
  (.op ⟨(some 3), none, .box (.tmp 0)⟩
  (.op ⟨(some 4), none, .box (.tmp 1)⟩
  (.op ⟨(some 5), none, .box (.tmp 2)⟩
  (.op ⟨(some 6), none, .mov (.cst (.bool false))⟩
  .nil)))))
  (.seq
   (.reg
   (.op ⟨(some 8), none, .load (some 3) (.tmp 3)⟩
   (.op ⟨(some 9), none, .mkf 125 [(.tmp 4), (.tmp 5)]⟩
   (.op ⟨(some 10), none, .call 108 [(.tmp 8), (.tmp 9)]⟩
   (.op ⟨(some 7), none, .mov (.tmp 10)⟩
   .nil)))))
   (.seq
    (.drw [(0, 2), (1, 2), (0, 3), (1, 3), (0, 5), (1, 5), (2, 5), (3, 5), (0, 6), (1, 6), (2, 6), (3, 6), (5, 6), (0, 7), (1, 7), (2, 7), (3, 7)]
    (.op ⟨(some 11), none, .faddr 1 (.tmp 3)⟩
    (.op ⟨(some 12), none, .load (some 1) (.tmp 11)⟩
    (.op ⟨(some 13), none, .faddr 0 (.tmp 3)⟩
    (.op ⟨(some 14), none, .load none (.tmp 13)⟩
    (.op ⟨(some 15), none, .mov (.tmp 7)⟩
    (.op ⟨(some 16), none, .load (some 3) (.tmp 3)⟩
    (.op ⟨(some 17), none, .load none (.tmp 5)⟩
    (.op ⟨(some 18), none, .call 108 [(.tmp 16), (.tmp 17)]⟩
    (.op ⟨(some 19), none, .call 126 [(.tmp 12), (.tmp 14), (.tmp 15), (.tmp 18)]⟩
    (.op ⟨(some 6), none, .mov (.tmp 19)⟩
    .nil)))))))))))
    .ret)))
theorem ok_prepare_Seen_Accepts_c102_c109 : FnOk Try.prog 101 20 (SA.erase sa_prepare_Seen_Accepts_c102_c109) [.tmp 6] := ⟨Try.f101, [], Try.func101, rfl, by kernel_rfl, by kernel_rfl, by kernel_rfl⟩
noncomputable def F_prepare_Seen_Accepts_c102_c109 (a0 : TSeen) (a1 : TBallot) (a2 : TBallot) : Option Bool :=
Option.bind (F_prepare_Seen_Who_c125_c102_c109 a0 a1 a2) fun r1 =>
Option.bind (F_prepare_Seen_Who_c109 a0 a2) fun r2 =>
Option.bind (F_federated_Accepts a0.View a0.Node r1 r2) fun r3 =>
some r3
theorem e_prepare_Seen_Accepts_c102_c109 : fnK K [.fn 108 [.ty (Ty.st .Seen), .clo 125 [.ref (.clo 102 [.ref (.ty (Ty.st .Ballot))]), .ref (.clo 109 [.ref (.ty (Ty.st .Ballot))])]] (.one (Ty.i .i64)) fun a => F_prepare_Seen_Who_c125_c102_c109 a.1 a.2.1.1.1 a.2.1.2.1.1, .fn 108 [.ty (Ty.st .Seen), .clo 109 [.ref (.ty (Ty.st .Ballot))]] (.one (Ty.i .i64)) fun a => F_prepare_Seen_Who_c109 a.1 a.2.1.1, .fn 126 [.ty (Ty.st .Config), .ty (Ty.i .i64), .ty (Ty.i .i64), .ty (Ty.i .i64)] (.one Ty.bool) fun a => F_federated_Accepts a.1 a.2.1 a.2.2.1 a.2.2.2.1] sa_prepare_Seen_Accepts_c102_c109 [.tmp 6] [.ty (Ty.st .Seen), .clo 102 [.ref (.ty (Ty.st .Ballot))], .clo 109 [.ref (.ty (Ty.st .Ballot))]] (.one Ty.bool) = fun a => F_prepare_Seen_Accepts_c102_c109 a.1 a.2.1.1 a.2.2.1.1 := by kernel_rfl
theorem s_prepare_Seen_Accepts_c102_c109 : KFun.Sound (U := U) Try.prog (.fn 101 [.ty (Ty.st .Seen), .clo 102 [.ref (.ty (Ty.st .Ballot))], .clo 109 [.ref (.ty (Ty.st .Ballot))]] (.one Ty.bool) fun a => F_prepare_Seen_Accepts_c102_c109 a.1 a.2.1.1 a.2.2.1.1) := fnK_sound (K := K) (Γ := [.fn 108 [.ty (Ty.st .Seen), .clo 125 [.ref (.clo 102 [.ref (.ty (Ty.st .Ballot))]), .ref (.clo 109 [.ref (.ty (Ty.st .Ballot))])]] (.one (Ty.i .i64)) fun a => F_prepare_Seen_Who_c125_c102_c109 a.1 a.2.1.1.1 a.2.1.2.1.1, .fn 108 [.ty (Ty.st .Seen), .clo 109 [.ref (.ty (Ty.st .Ballot))]] (.one (Ty.i .i64)) fun a => F_prepare_Seen_Who_c109 a.1 a.2.1.1, .fn 126 [.ty (Ty.st .Config), .ty (Ty.i .i64), .ty (Ty.i .i64), .ty (Ty.i .i64)] (.one Ty.bool) fun a => F_federated_Accepts a.1 a.2.1 a.2.2.1 a.2.2.2.1]) ok_prepare_Seen_Accepts_c102_c109 (by kernel_rfl) (by decide) ⟨s_prepare_Seen_Who_c125_c102_c109, s_prepare_Seen_Who_c109, s_federated_Accepts, trivial⟩ (fun a => congrFun e_prepare_Seen_Accepts_c102_c109 a)

/-! ### (trustquorum/prepare.Seen).ready -/
def sa_prepare_Seen_ready : SA U :=
 (.seq
  (.reg
  (.op ⟨(some 2), none, .box (.tmp 0)⟩
  (.op ⟨(some 3), none, .box (.tmp 1)⟩
  (.op ⟨(some 4), none, .mov (.cst (.bool false))⟩
  .nil))))
  (.seq
   (.drw [(0, 2), (0, 3)]
   (.op ⟨(some 5), none, .load (some 3) (.tmp 2)⟩
   (.op ⟨(some 6), none, .mkf 102 [(.tmp 3)]⟩
   (.op ⟨(some 7), none, .load (some 2) (.tmp 3)⟩
   (.op ⟨(some 8), none, .call 76 [(.tmp 7)]⟩
   (.op ⟨(some 9), none, .call 101 [(.tmp 5), (.tmp 6), (.tmp 8)]⟩
   (.op ⟨(some 4), none, .mov (.tmp 9)⟩
   .nil)))))))
   .ret))
theorem ok_prepare_Seen_ready : FnOk Try.prog 66 10 (SA.erase sa_prepare_Seen_ready) [.tmp 4] := ⟨Try.f66, [], Try.func66, rfl, by kernel_rfl, by kernel_rfl, by kernel_rfl⟩
noncomputable def F_prepare_Seen_ready (a0 : TSeen) (a1 : TBallot) : Option Bool :=
Option.bind (F_prepare_accepts a1) fun r1 =>
Option.bind (F_prepare_Seen_Accepts_c102_c109 a0 a1 r1.1) fun r2 =>
some r2
theorem e_prepare_Seen_ready : fnK K [.fn 76 [.ty (Ty.st .Ballot)] (.fn (.clo 109 [.ref (.ty (Ty.st .Ballot))])) fun a => F_prepare_accepts a.1, .fn 101 [.ty (Ty.st .Seen), .clo 102 [.ref (.ty (Ty.st .Ballot))], .clo 109 [.ref (.ty (Ty.st .Ballot))]] (.one Ty.bool) fun a => F_prepare_Seen_Accepts_c102_c109 a.1 a.2.1.1 a.2.2.1.1] sa_prepare_Seen_ready [.tmp 4] [.ty (Ty.st .Seen), .ty (Ty.st .Ballot)] (.one Ty.bool) = fun a => F_prepare_Seen_ready a.1 a.2.1 := by kernel_rfl
theorem s_prepare_Seen_ready : KFun.Sound (U := U) Try.prog (.fn 66 [.ty (Ty.st .Seen), .ty (Ty.st .Ballot)] (.one Ty.bool) fun a => F_prepare_Seen_ready a.1 a.2.1) := fnK_sound (K := K) (Γ := [.fn 76 [.ty (Ty.st .Ballot)] (.fn (.clo 109 [.ref (.ty (Ty.st .Ballot))])) fun a => F_prepare_accepts a.1, .fn 101 [.ty (Ty.st .Seen), .clo 102 [.ref (.ty (Ty.st .Ballot))], .clo 109 [.ref (.ty (Ty.st .Ballot))]] (.one Ty.bool) fun a => F_prepare_Seen_Accepts_c102_c109 a.1 a.2.1.1 a.2.2.1.1]) ok_prepare_Seen_ready (by kernel_rfl) (by decide) ⟨s_prepare_accepts, s_prepare_Seen_Accepts_c102_c109, trivial⟩ (fun a => congrFun e_prepare_Seen_ready a)

/-! ### trustquorum/prepare.Accepts -/
def sa_prepare_Accepts : SA U :=
 (.seq
  (.reg
  (.op ⟨(some 5), none, .box (.tmp 1)⟩
  (.op ⟨(some 7), none, .box (.tmp 3)⟩
  (.op ⟨(some 8), none, .mov (.cst (.bool false))⟩
  .nil))))
  (.seq
   (.drw [(1, 4), (3, 4)]
   (.op ⟨(some 9), none, .mov (.tmp 0)⟩
   (.op ⟨(some 10), none, .load (some 3) (.tmp 5)⟩
   (.op ⟨(some 11), none, .mov (.tmp 2)⟩
   (.op ⟨(some 12), none, .call 65 [(.tmp 9), (.tmp 10), (.tmp 11)]⟩
   (.op ⟨(some 13), none, .load (some 2) (.tmp 7)⟩
   (.op ⟨(some 14), none, .call 66 [(.tmp 12), (.tmp 13)]⟩
   (.op ⟨(some 8), none, .mov (.tmp 14)⟩
   .nil))))))))
   .ret))
theorem ok_prepare_Accepts : FnOk Try.prog 36 15 (SA.erase sa_prepare_Accepts) [.tmp 8] := ⟨Try.f36, [], Try.func36, rfl, by kernel_rfl, by kernel_rfl, by kernel_rfl⟩
noncomputable def F_prepare_Accepts (a0 : Int) (a1 : TTrust) (a2 : (List TEnvelope)) (a3 : TBallot) : Option Bool :=
Option.bind (F_prepare_Look a0 (TTrust.mk a1.Threshold a1.Nodes a1.Inner) a2) fun r1 =>
Option.bind (F_prepare_Seen_ready r1 a3) fun r2 =>
some r2
theorem e_prepare_Accepts : fnK K [.fn 65 [.ty (Ty.i .i64), .ty (Ty.st .Trust), .ty (Ty.sl (Ty.st .Envelope))] (.one (Ty.st .Seen)) fun a => F_prepare_Look a.1 a.2.1 a.2.2.1, .fn 66 [.ty (Ty.st .Seen), .ty (Ty.st .Ballot)] (.one Ty.bool) fun a => F_prepare_Seen_ready a.1 a.2.1] sa_prepare_Accepts [.tmp 8] [.ty (Ty.i .i64), .ty (Ty.st .Trust), .ty (Ty.sl (Ty.st .Envelope)), .ty (Ty.st .Ballot)] (.one Ty.bool) = fun a => F_prepare_Accepts a.1 a.2.1 a.2.2.1 a.2.2.2.1 := by kernel_rfl
theorem s_prepare_Accepts : KFun.Sound (U := U) Try.prog (.fn 36 [.ty (Ty.i .i64), .ty (Ty.st .Trust), .ty (Ty.sl (Ty.st .Envelope)), .ty (Ty.st .Ballot)] (.one Ty.bool) fun a => F_prepare_Accepts a.1 a.2.1 a.2.2.1 a.2.2.2.1) := fnK_sound (K := K) (Γ := [.fn 65 [.ty (Ty.i .i64), .ty (Ty.st .Trust), .ty (Ty.sl (Ty.st .Envelope))] (.one (Ty.st .Seen)) fun a => F_prepare_Look a.1 a.2.1 a.2.2.1, .fn 66 [.ty (Ty.st .Seen), .ty (Ty.st .Ballot)] (.one Ty.bool) fun a => F_prepare_Seen_ready a.1 a.2.1]) ok_prepare_Accepts (by kernel_rfl) (by decide) ⟨s_prepare_Look, s_prepare_Seen_ready, trivial⟩ (fun a => congrFun e_prepare_Accepts a)

/-! ### trustquorum/trustquorumlaw25.PrepareBlocked -/
def sa_law25_PrepareBlocked : SA U :=
 (.seq
  (.reg
  (.op ⟨(some 2), none, .mov (.cst (.bool false))⟩
  .nil))
  (.seq
   (.reg
   (.op ⟨(some 10), none, .mov (.tmp 0)⟩
   (.op ⟨(some 11), none, .call 11 [(.tmp 10)]⟩
   (.op ⟨(some 3), none, .mov (.tmp 11)⟩
   .nil))))
   (.seq
    (.reg
    (.op ⟨(some 12), none, .mov (.tmp 3)⟩
    (.op ⟨(some 13), none, .call 31 [(.tmp 12), (.cst (.int .i64 5))]⟩
    (.op ⟨(some 14), none, .mov (.tmp 3)⟩
    (.op ⟨(some 15), none, .call 18 [(.tmp 14)]⟩
    (.op ⟨(some 4), none, .alloc [.int .i64 0, .nils, .nils]⟩
    (.op ⟨(some 5), none, .alloc [.int .i64 0, .str ⟨#[]⟩]⟩
    (.op ⟨none, none, .store 3 (.tmp 4) (.tmp 13)⟩
    (.op ⟨none, none, .store 2 (.tmp 5) (.tmp 15)⟩
    .nil)))))))))
    (.seq
     (.reg
     (.op ⟨(some 16), none, .mov (.tmp 3)⟩
     (.op ⟨(some 17), none, .call 33 [(.tmp 16), (.cst (.int .i64 5))]⟩
     (.op ⟨(some 18), none, .bin .andNot (.tmp 17) (.cst (.int .i64 1))⟩
     (.op ⟨(some 6), none, .mov (.tmp 18)⟩
     .nil)))))
     (.seq
      (.reg
      (.op ⟨(some 7), none, .mov (.cst (.nils))⟩
      .nil))
      (.ps (.own 7 31 15 (Ty.st .Envelope))
      (.join ⟨[.own 7 17 1 31 15 (Ty.st .Envelope), .box 2 1 (Ty.st .Src) []], [3, 4, 5, 6]⟩
       (.seq
        (.reg
        (.op ⟨(some 19), none, .mov (.tmp 3)⟩
        (.op ⟨(some 20), none, .call 13 [(.tmp 19), (.cst (.int .i64 2))]⟩
        (.op ⟨(some 21), none, .bin .eql (.tmp 20) (.cst (.int .i64 1))⟩
        .nil))))
        (.cond (.tmp 21)
         (.drw [(1, 3)]
         (.op ⟨(some 22), none, .mov (.tmp 7)⟩
         (.op ⟨(some 23), none, .load (some 3) (.tmp 4)⟩
         (.op ⟨(some 24), none, .mov (.tmp 3)⟩
         (.op ⟨(some 25), none, .call 18 [(.tmp 24)]⟩
         (.op ⟨(some 26), none, .build [.int .i64 0, .int .i64 0, .int .i64 0, .int .i64 0, .nils, .nils, .int .i64 0, .int .i64 0, .str ⟨#[]⟩, .int .i64 0, .str ⟨#[]⟩, .int .i64 0, .str ⟨#[]⟩, .int .i64 0, .int .i64 0] [(1, 1, (.cst (.int .i64 1))), (2, 1, (.cst (.int .i64 1))), (3, 3, (.tmp 23)), (6, 1, (.cst (.int .i64 1))), (7, 2, (.tmp 25))]⟩
         (.op ⟨(some 27), none, .bsl false 31 15 (List.replicate 1 [.int .i64 0, .int .i64 0, .int .i64 0, .int .i64 0, .nils, .nils, .int .i64 0, .int .i64 0, .str ⟨#[]⟩, .int .i64 0, .str ⟨#[]⟩, .int .i64 0, .str ⟨#[]⟩, .int .i64 0, .int .i64 0]) [(0, (.tmp 26))]⟩
         (.op ⟨(some 28), none, .app 31 15 176 (.tmp 22) (.tmp 27)⟩
         (.op ⟨(some 7), none, .mov (.tmp 28)⟩
         .nil)))))))))
         .skip))
       (.seq
        (.seq
         (.reg
         (.op ⟨(some 8), none, .mov (.cst (.int .i64 1))⟩
         .nil))
         (.block 0
          (.loop ⟨[.val 8 (Ty.i .i64), .own 7 17 1 31 15 (Ty.st .Envelope), .box 2 1 (Ty.st .Src) []], [3, 4, 5, 6]⟩
           (.seq
            (.seq
             (.reg
             (.op ⟨(some 29), none, .mov (.tmp 8)⟩
             (.op ⟨(some 30), none, .bin .lss (.tmp 29) (.cst (.int .i64 5))⟩
             .nil)))
             (.cond (.tmp 30)
              .skip
              (.exit 0)))
            (.join ⟨[.own 7 17 1 31 15 (Ty.st .Envelope), .box 2 1 (Ty.st .Src) []], [3, 4, 5, 6, 8]⟩
             (.block 1
              (.seq
               (.reg
               (.op ⟨(some 33), none, .mov (.tmp 6)⟩
               (.op ⟨(some 34), none, .mov (.tmp 8)⟩
               (.op ⟨(some 35), none, .conv .u64 (.tmp 34)⟩
               (.op ⟨(some 36), none, .bin .shr (.tmp 33) (.tmp 35)⟩
               (.op ⟨(some 37), none, .bin .and (.tmp 36) (.cst (.int .i64 1))⟩
               (.op ⟨(some 38), none, .bin .eql (.tmp 37) (.cst (.int .i64 1))⟩
               .nil)))))))
               (.cond (.tmp 38)
                (.drw [(3, 4), (3, 5), (4, 5)]
                (.op ⟨(some 39), none, .mov (.tmp 7)⟩
                (.op ⟨(some 40), none, .mov (.tmp 8)⟩
                (.op ⟨(some 41), none, .mov (.tmp 3)⟩
                (.op ⟨(some 42), none, .call 31 [(.tmp 41), (.cst (.int .i64 5))]⟩
                (.op ⟨(some 43), none, .load (some 2) (.tmp 5)⟩
                (.op ⟨(some 44), none, .load (some 2) (.tmp 5)⟩
                (.op ⟨(some 45), none, .build [.int .i64 0, .int .i64 0, .int .i64 0, .int .i64 0, .nils, .nils, .int .i64 0, .int .i64 0, .str ⟨#[]⟩, .int .i64 0, .str ⟨#[]⟩, .int .i64 0, .str ⟨#[]⟩, .int .i64 0, .int .i64 0] [(0, 1, (.tmp 40)), (1, 1, (.cst (.int .i64 1))), (2, 1, (.cst (.int .i64 1))), (3, 3, (.tmp 42)), (6, 1, (.cst (.int .i64 1))), (7, 2, (.tmp 43)), (9, 2, (.tmp 44))]⟩
                (.op ⟨(some 46), none, .bsl false 31 15 (List.replicate 1 [.int .i64 0, .int .i64 0, .int .i64 0, .int .i64 0, .nils, .nils, .int .i64 0, .int .i64 0, .str ⟨#[]⟩, .int .i64 0, .str ⟨#[]⟩, .int .i64 0, .str ⟨#[]⟩, .int .i64 0, .int .i64 0]) [(0, (.tmp 45))]⟩
                (.op ⟨(some 47), none, .app 31 15 176 (.tmp 39) (.tmp 46)⟩
                (.op ⟨(some 7), none, .mov (.tmp 47)⟩
                .nil)))))))))))
                .skip)))
             (.reg
             (.op ⟨(some 31), none, .mov (.tmp 8)⟩
             (.op ⟨(some 32), none, .bin .add (.tmp 31) (.cst (.int .i64 1))⟩
             (.op ⟨(some 8), none, .mov (.tmp 32)⟩
             .nil)))))))))
        (.seq
         (.reg
         (.ps (.frz 7)
         (.op ⟨(some 48), none, .load (some 3) (.tmp 4)⟩
         (.op ⟨(some 49), none, .mov (.tmp 7)⟩
         (.op ⟨(some 50), none, .call 35 [(.cst (.int .i64 0)), (.tmp 48), (.tmp 49)]⟩
         (.op ⟨(some 51), none, .mov (.tmp 6)⟩
         (.op ⟨(some 52), none, .call 34 [(.tmp 50), (.cst (.int .i64 0)), (.tmp 51)]⟩
         (.op ⟨(some 9), none, .mov (.tmp 52)⟩
         .nil))))))))
         (.seq
          (.reg
          (.op ⟨(some 53), none, .mov (.tmp 9)⟩
          (.op ⟨(some 54), none, .not (.tmp 53)⟩
          (.op ⟨(some 55), none, .mov (.tmp 54)⟩
          (.ite 55 false
           (.op ⟨(some 56), (some (55, false)), .load (some 3) (.tmp 4)⟩
           (.op ⟨(some 57), (some (55, false)), .mov (.tmp 7)⟩
           (.op ⟨(some 58), (some (55, false)), .load (some 2) (.tmp 5)⟩
           (.op ⟨(some 59), (some (55, false)), .call 36 [(.cst (.int .i64 0)), (.tmp 56), (.tmp 57), (.tmp 58)]⟩
           .nil))))
           60 none (.cst (.bool true)) (.tmp 59)
          (.op ⟨(some 61), none, .mov (.tmp 60)⟩
          (.ite 61 true
           (.op ⟨(some 62), (some (61, true)), .call 24 []⟩
           .nil)
           63 none (.tmp 62) (.cst (.bool false))
          (.op ⟨(some 2), none, .mov (.tmp 63)⟩
          .nil))))))))
          .ret))))))))))
theorem ok_law25_PrepareBlocked : FnOk Try.prog 7 64 (SA.erase sa_law25_PrepareBlocked) [.tmp 2] := ⟨Try.f7, [], Try.func7, rfl, by kernel_rfl, by kernel_rfl, by kernel_rfl⟩
noncomputable def F_law25_PrepareBlocked (a0 : (List Int)) : Option Bool :=
Option.bind (F_play_New a0) fun r1 =>
Option.bind (F_play_Src_Trust r1 (5 : Int)) fun p2 =>
Option.bind (F_play_Src_Low p2.2) fun p3 =>
Option.bind (F_play_Src_Some p3.2 (5 : Int)) fun p4 =>
letJ (fun (v5 : (List TEnvelope) × TSrc × Unit) =>
loopO (fun (v7 : Int × (List TEnvelope) × TSrc × Unit) =>
bif (decide (v7.1 < (5 : Int))) then
letJ (fun (v8 : (List TEnvelope) × TSrc × Unit) =>
some (Sum.inl ((addI .i64 v7.1 (1 : Int)), v8.1, v8.2.1, ()))) fun j9 =>
if (convI .u64 v7.1) < 0 then none else
bif (decide ((andI .i64 (shrI .i64 (andNotI .i64 p4.1 (1 : Int)) (convI .u64 v7.1)) (1 : Int)) = (1 : Int))) then
Option.bind (F_play_Src_Trust v7.2.2.1 (5 : Int)) fun p10 =>
bif lenOk 176 (List.length v7.2.1 + List.length [(TEnvelope.mk v7.1 (1 : Int) (1 : Int) (TTrust.mk p10.1.Threshold p10.1.Nodes p10.1.Inner) (1 : Int) p3.1 p3.1 (TBallot.mk (0 : Int) (ByteArray.mk #[])) (0 : Int) (0 : Int))]) then
j9 ((v7.2.1 ++ [(TEnvelope.mk v7.1 (1 : Int) (1 : Int) (TTrust.mk p10.1.Threshold p10.1.Nodes p10.1.Inner) (1 : Int) p3.1 p3.1 (TBallot.mk (0 : Int) (ByteArray.mk #[])) (0 : Int) (0 : Int))]), p10.2, ())
else none
else
j9 (v7.2.1, v7.2.2.1, ())
else
Option.map Sum.inr (Option.bind (F_ref25_View (0 : Int) (TTrust.mk p2.1.Threshold p2.1.Nodes p2.1.Inner) v7.2.1) fun r11 =>
Option.bind (F_ref11_Blocks r11 (0 : Int) (andNotI .i64 p4.1 (1 : Int))) fun r12 =>
Option.bind (bif (!r12) then some true
else
Option.bind (F_prepare_Accepts (0 : Int) (TTrust.mk p2.1.Threshold p2.1.Nodes p2.1.Inner) v7.2.1 p3.1) fun r13 =>
some r13) fun b14 =>
Option.bind (bif b14 then
Option.bind (F_law25_sane) fun r15 =>
some r15
else some false) fun b16 =>
some b16)) ((1 : Int), v5.1, v5.2.1, ())) fun j6 =>
Option.bind (F_play_Src_N p4.2 (2 : Int)) fun p17 =>
bif (decide (p17.1 = (1 : Int))) then
Option.bind (F_play_Src_Low p17.2) fun p18 =>
bif lenOk 176 (List.length ([] : List TEnvelope) + List.length [(TEnvelope.mk (0 : Int) (1 : Int) (1 : Int) (TTrust.mk p2.1.Threshold p2.1.Nodes p2.1.Inner) (1 : Int) p18.1 (TBallot.mk (0 : Int) (ByteArray.mk #[])) (TBallot.mk (0 : Int) (ByteArray.mk #[])) (0 : Int) (0 : Int))]) then
j6 ((([] : List TEnvelope) ++ [(TEnvelope.mk (0 : Int) (1 : Int) (1 : Int) (TTrust.mk p2.1.Threshold p2.1.Nodes p2.1.Inner) (1 : Int) p18.1 (TBallot.mk (0 : Int) (ByteArray.mk #[])) (TBallot.mk (0 : Int) (ByteArray.mk #[])) (0 : Int) (0 : Int))]), p18.2, ())
else none
else
j6 (([] : List TEnvelope), p17.2, ())
theorem e_law25_PrepareBlocked : fnK K [.nw 11 [.ty (Ty.sl (Ty.i .i64))] (Ty.st .Src) fun a => F_play_New a.1, .rc 31 (Ty.st .Src) [.ty (Ty.i .i64)] (.one (Ty.st .Trust)) fun s a => F_play_Src_Trust s a.1, .rc 18 (Ty.st .Src) [] (.one (Ty.st .Ballot)) fun s a => F_play_Src_Low s , .rc 33 (Ty.st .Src) [.ty (Ty.i .i64)] (.one (Ty.i .i64)) fun s a => F_play_Src_Some s a.1, .rc 13 (Ty.st .Src) [.ty (Ty.i .i64)] (.one (Ty.i .i64)) fun s a => F_play_Src_N s a.1, .fn 35 [.ty (Ty.i .i64), .ty (Ty.st .Trust), .ty (Ty.sl (Ty.st .Envelope))] (.one (Ty.st .Config)) fun a => F_ref25_View a.1 a.2.1 a.2.2.1, .fn 34 [.ty (Ty.st .Config), .ty (Ty.i .i64), .ty (Ty.i .i64)] (.one Ty.bool) fun a => F_ref11_Blocks a.1 a.2.1 a.2.2.1, .fn 36 [.ty (Ty.i .i64), .ty (Ty.st .Trust), .ty (Ty.sl (Ty.st .Envelope)), .ty (Ty.st .Ballot)] (.one Ty.bool) fun a => F_prepare_Accepts a.1 a.2.1 a.2.2.1 a.2.2.2.1, .fn 24 [] (.one Ty.bool) fun a => F_law25_sane ] sa_law25_PrepareBlocked [.tmp 2] [.ty (Ty.sl (Ty.i .i64))] (.one Ty.bool) = fun a => F_law25_PrepareBlocked a.1 := by kernel_rfl
theorem s_law25_PrepareBlocked : KFun.Sound (U := U) Try.prog (.fn 7 [.ty (Ty.sl (Ty.i .i64))] (.one Ty.bool) fun a => F_law25_PrepareBlocked a.1) := fnK_sound (K := K) (Γ := [.nw 11 [.ty (Ty.sl (Ty.i .i64))] (Ty.st .Src) fun a => F_play_New a.1, .rc 31 (Ty.st .Src) [.ty (Ty.i .i64)] (.one (Ty.st .Trust)) fun s a => F_play_Src_Trust s a.1, .rc 18 (Ty.st .Src) [] (.one (Ty.st .Ballot)) fun s a => F_play_Src_Low s , .rc 33 (Ty.st .Src) [.ty (Ty.i .i64)] (.one (Ty.i .i64)) fun s a => F_play_Src_Some s a.1, .rc 13 (Ty.st .Src) [.ty (Ty.i .i64)] (.one (Ty.i .i64)) fun s a => F_play_Src_N s a.1, .fn 35 [.ty (Ty.i .i64), .ty (Ty.st .Trust), .ty (Ty.sl (Ty.st .Envelope))] (.one (Ty.st .Config)) fun a => F_ref25_View a.1 a.2.1 a.2.2.1, .fn 34 [.ty (Ty.st .Config), .ty (Ty.i .i64), .ty (Ty.i .i64)] (.one Ty.bool) fun a => F_ref11_Blocks a.1 a.2.1 a.2.2.1, .fn 36 [.ty (Ty.i .i64), .ty (Ty.st .Trust), .ty (Ty.sl (Ty.st .Envelope)), .ty (Ty.st .Ballot)] (.one Ty.bool) fun a => F_prepare_Accepts a.1 a.2.1 a.2.2.1 a.2.2.2.1, .fn 24 [] (.one Ty.bool) fun a => F_law25_sane ]) ok_law25_PrepareBlocked (by kernel_rfl) (by decide) ⟨s_play_New, s_play_Src_Trust, s_play_Src_Low, s_play_Src_Some, s_play_Src_N, s_ref25_View, s_ref11_Blocks, s_prepare_Accepts, s_law25_sane, trivial⟩ (fun a => congrFun e_law25_PrepareBlocked a)

/-! ### trustquorum/copies.Envelope -/
def sa_copies_Envelope : SA U :=
 (.seq
  (.reg
  (.op ⟨(some 1), none, .box (.tmp 0)⟩
  (.op ⟨(some 2), none, .alloc [.int .i64 0, .int .i64 0, .int .i64 0, .int .i64 0, .nils, .nils, .int .i64 0, .int .i64 0, .str ⟨#[]⟩, .int .i64 0, .str ⟨#[]⟩, .int .i64 0, .str ⟨#[]⟩, .int .i64 0, .int .i64 0]⟩
  .nil)))
  (.seq
   (.reg
   (.op ⟨(some 3), none, .faddr 3 (.tmp 1)⟩
   (.op ⟨(some 4), none, .load (some 3) (.tmp 3)⟩
   (.op ⟨(some 5), none, .call 91 [(.tmp 4)]⟩
   (.op ⟨(some 6), none, .faddr 3 (.tmp 1)⟩
   (.op ⟨none, none, .store 3 (.tmp 6) (.tmp 5)⟩
   .nil))))))
   (.seq
    (.reg
    (.op ⟨(some 7), none, .load (some 15) (.tmp 1)⟩
    (.op ⟨none, none, .store 15 (.tmp 2) (.tmp 7)⟩
    .nil)))
    .ret)))
theorem ok_copies_Envelope : FnOk Try.prog 68 8 (SA.erase sa_copies_Envelope) [.cell 2 (some 15)] := ⟨Try.f68, [], Try.func68, rfl, by kernel_rfl, by kernel_rfl, by kernel_rfl⟩
noncomputable def F_copies_Envelope (a0 : TEnvelope) : Option TEnvelope :=
Option.bind (F_copies_Trust (TTrust.mk a0.Trust.Threshold a0.Trust.Nodes a0.Trust.Inner)) fun r1 =>
some (TEnvelope.mk a0.Node a0.Slot a0.Seq (TTrust.mk r1.Threshold r1.Nodes r1.Inner) a0.Kind a0.Ballot a0.Prepared a0.Prime a0.Low a0.High)
theorem e_copies_Envelope : fnK K [.fn 91 [.ty (Ty.st .Trust)] (.one (Ty.st .Trust)) fun a => F_copies_Trust a.1] sa_copies_Envelope [.cell 2 (some 15)] [.ty (Ty.st .Envelope)] (.one (Ty.st .Envelope)) = fun a => F_copies_Envelope a.1 := by kernel_rfl
theorem s_copies_Envelope : KFun.Sound (U := U) Try.prog (.fn 68 [.ty (Ty.st .Envelope)] (.one (Ty.st .Envelope)) fun a => F_copies_Envelope a.1) := fnK_sound (K := K) (Γ := [.fn 91 [.ty (Ty.st .Trust)] (.one (Ty.st .Trust)) fun a => F_copies_Trust a.1]) ok_copies_Envelope (by kernel_rfl) (by decide) ⟨s_copies_Trust, trivial⟩ (fun a => congrFun e_copies_Envelope a)

/-! ### trustquorum/copies.All[trustquorum/api.Envelope] -/
def sa_copies_All_api_Envelope_c68 : SA U :=
 (.seq
  (.reg
  (.op ⟨(some 4), none, .mov (.cst (.nils))⟩
  .nil))
  (.seq
   (.reg
   (.op ⟨(some 5), none, .mov (.cst (.nils))⟩
   .nil))
   (.seq
    (.seq
     (.reg
     (.op ⟨(some 8), none, .mov (.tmp 0)⟩
     (.op ⟨(some 9), none, .len false (.tmp 8)⟩
     (.op ⟨(some 10), none, .mov (.cst (.int .i64 0))⟩
     .nil))))
     (.block 0
      (.ps (.own 5 31 15 (Ty.st .Envelope))
      (.loop ⟨[.val 10 (Ty.i .i64), .own 5 5 1 31 15 (Ty.st .Envelope)], [1, 8, 9]⟩
       (.seq
        (.reg
        (.op ⟨(some 11), none, .bin .lss (.tmp 10) (.tmp 9)⟩
        .nil))
        (.seq
         (.cond (.tmp 11)
          .skip
          (.exit 0))
         (.seq
          (.block 1
           (.seq
            (.reg
            (.op ⟨(some 12), none, .iaddr 15 (.tmp 8) (.tmp 10)⟩
            (.op ⟨(some 13), none, .load (some 15) (.tmp 12)⟩
            (.op ⟨(some 7), none, .alloc [.int .i64 0, .int .i64 0, .int .i64 0, .int .i64 0, .nils, .nils, .int .i64 0, .int .i64 0, .str ⟨#[]⟩, .int .i64 0, .str ⟨#[]⟩, .int .i64 0, .str ⟨#[]⟩, .int .i64 0, .int .i64 0]⟩
            (.op ⟨none, none, .store 15 (.tmp 7) (.tmp 13)⟩
            .nil)))))
            (.reg
            (.op ⟨(some 14), none, .mov (.tmp 5)⟩
            (.op ⟨(some 15), none, .mov (.tmp 1)⟩
            (.op ⟨(some 16), none, .load (some 15) (.tmp 7)⟩
            (.op ⟨(some 17), none, .callv (.tmp 15) [(.tmp 16)]⟩
            (.op ⟨(some 18), none, .bsl false 31 15 (List.replicate 1 [.int .i64 0, .int .i64 0, .int .i64 0, .int .i64 0, .nils, .nils, .int .i64 0, .int .i64 0, .str ⟨#[]⟩, .int .i64 0, .str ⟨#[]⟩, .int .i64 0, .str ⟨#[]⟩, .int .i64 0, .int .i64 0]) [(0, (.tmp 17))]⟩
            (.op ⟨(some 19), none, .app 31 15 176 (.tmp 14) (.tmp 18)⟩
            (.op ⟨(some 5), none, .mov (.tmp 19)⟩
            .nil))))))))))
          (.reg
          (.op ⟨(some 20), none, .bin .add (.tmp 10) (.cst (.int .i64 1))⟩
          (.op ⟨(some 10), none, .mov (.tmp 20)⟩
          .nil))))))))))
    (.seq
     (.reg
     (.op ⟨(some 21), none, .mov (.tmp 5)⟩
     (.op ⟨(some 4), none, .mov (.tmp 21)⟩
     .nil)))
     .ret))))
theorem ok_copies_All_api_Envelope_c68 : FnOk Try.prog 67 22 (SA.erase sa_copies_All_api_Envelope_c68) [.tmp 4] := ⟨Try.f67, [], Try.func67, rfl, by kernel_rfl, by kernel_rfl, by kernel_rfl⟩
noncomputable def F_copies_All_api_Envelope_c68 (a0 : (List TEnvelope)) : Option (List TEnvelope) :=
loopO (fun (v1 : Int × (List TEnvelope) × Unit) =>
bif (decide (v1.1 < ((List.length a0 : Nat) : Int))) then
Option.bind (idx a0 v1.1) fun x2 =>
Option.bind (F_copies_Envelope (TEnvelope.mk x2.Node x2.Slot x2.Seq (TTrust.mk x2.Trust.Threshold x2.Trust.Nodes x2.Trust.Inner) x2.Kind x2.Ballot x2.Prepared x2.Prime x2.Low x2.High)) fun r3 =>
bif lenOk 176 (List.length v1.2.1 + List.length [(TEnvelope.mk r3.Node r3.Slot r3.Seq (TTrust.mk r3.Trust.Threshold r3.Trust.Nodes r3.Trust.Inner) r3.Kind r3.Ballot r3.Prepared r3.Prime r3.Low r3.High)]) then
some (Sum.inl ((addI .i64 v1.1 (1 : Int)), (v1.2.1 ++ [(TEnvelope.mk r3.Node r3.Slot r3.Seq (TTrust.mk r3.Trust.Threshold r3.Trust.Nodes r3.Trust.Inner) r3.Kind r3.Ballot r3.Prepared r3.Prime r3.Low r3.High)]), ()))
else none
else
Option.map Sum.inr (some v1.2.1)) ((0 : Int), ([] : List TEnvelope), ())
theorem e_copies_All_api_Envelope_c68 : fnK K [.fn 68 [.ty (Ty.st .Envelope)] (.one (Ty.st .Envelope)) fun a => F_copies_Envelope a.1] sa_copies_All_api_Envelope_c68 [.tmp 4] [.ty (Ty.sl (Ty.st .Envelope)), .clo 68 []] (.one (Ty.sl (Ty.st .Envelope))) = fun a => F_copies_All_api_Envelope_c68 a.1 := by kernel_rfl
theorem s_copies_All_api_Envelope_c68 : KFun.Sound (U := U) Try.prog (.fn 67 [.ty (Ty.sl (Ty.st .Envelope)), .clo 68 []] (.one (Ty.sl (Ty.st .Envelope))) fun a => F_copies_All_api_Envelope_c68 a.1) := fnK_sound (K := K) (Γ := [.fn 68 [.ty (Ty.st .Envelope)] (.one (Ty.st .Envelope)) fun a => F_copies_Envelope a.1]) ok_copies_All_api_Envelope_c68 (by kernel_rfl) (by decide) ⟨s_copies_Envelope, trivial⟩ (fun a => congrFun e_copies_All_api_Envelope_c68 a)

/-! ### trustquorum/envelopes.Put$1 -/
def sa_envelopes_Put_1 : SA U :=
 (.seq
  (.reg
  (.op ⟨(some 2), none, .box (.tmp 0)⟩
  (.op ⟨(some 3), none, .mov (.cst (.bool false))⟩
  .nil)))
  (.seq
   (.reg
   (.op ⟨(some 4), none, .faddr 0 (.tmp 2)⟩
   (.op ⟨(some 5), none, .load none (.tmp 4)⟩
   (.op ⟨(some 6), none, .faddr 0 (.tmp 1)⟩
   (.op ⟨(some 7), none, .load none (.tmp 6)⟩
   (.op ⟨(some 8), none, .bin .eql (.tmp 5) (.tmp 7)⟩
   (.op ⟨(some 3), none, .mov (.tmp 8)⟩
   .nil)))))))
   .ret))
theorem ok_envelopes_Put_1 : FnOk Try.prog 70 9 (SA.erase sa_envelopes_Put_1) [.tmp 3] := ⟨Try.f70, [], Try.func70, rfl, by kernel_rfl, by kernel_rfl, by kernel_rfl⟩
noncomputable def F_envelopes_Put_1 (a0 : TEnvelope) (a1 : TEnvelope) : Option Bool :=
some (decide (a0.Node = a1.Node))
theorem e_envelopes_Put_1 : fnK K [] sa_envelopes_Put_1 [.tmp 3] [.ty (Ty.st .Envelope), .ref (.ty (Ty.st .Envelope))] (.one Ty.bool) = fun a => F_envelopes_Put_1 a.1 a.2.1 := by kernel_rfl
theorem s_envelopes_Put_1 : KFun.Sound (U := U) Try.prog (.fn 70 [.ty (Ty.st .Envelope), .ref (.ty (Ty.st .Envelope))] (.one Ty.bool) fun a => F_envelopes_Put_1 a.1 a.2.1) := fnK_sound (K := K) (Γ := []) ok_envelopes_Put_1 (by kernel_rfl) (by decide) trivial (fun a => congrFun e_envelopes_Put_1 a)

/-! ### slices.IndexFunc[[]trustquorum/api.Envelope,trustquorum/api.Envelope] -/
def sa_slices_IndexFunc_api_Envelope_api_Envelope_c70 : SA U :=
 (.seq
  (.reg
  (.op ⟨(some 4), none, .mov (.cst (.int .i64 0))⟩
  .nil))
  (.seq
   (.seq
    (.reg
    (.op ⟨(some 6), none, .mov (.tmp 0)⟩
    (.op ⟨(some 7), none, .len false (.tmp 6)⟩
    (.op ⟨(some 8), none, .mov (.cst (.int .i64 0))⟩
    .nil))))
    (.block 0
     (.loop ⟨[.val 8 (Ty.i .i64)], [0, 1, 7]⟩
      (.seq
       (.reg
       (.op ⟨(some 9), none, .bin .lss (.tmp 8) (.tmp 7)⟩
       .nil))
       (.seq
        (.cond (.tmp 9)
         .skip
         (.exit 0))
        (.seq
         (.block 1
          (.seq
           (.reg
           (.op ⟨(some 10), none, .mov (.tmp 8)⟩
           (.op ⟨(some 5), none, .mov (.tmp 10)⟩
           .nil)))
           (.seq
            (.reg
            (.op ⟨(some 11), none, .mov (.tmp 1)⟩
            (.op ⟨(some 12), none, .mov (.tmp 0)⟩
            (.op ⟨(some 13), none, .mov (.tmp 5)⟩
            (.op ⟨(some 14), none, .iaddr 15 (.tmp 12) (.tmp 13)⟩
            (.op ⟨(some 15), none, .load (some 15) (.tmp 14)⟩
            (.op ⟨(some 16), none, .callv (.tmp 11) [(.tmp 15)]⟩
            .nil)))))))
            (.cond (.tmp 16)
             (.seq
              (.reg
              (.op ⟨(some 17), none, .mov (.tmp 5)⟩
              (.op ⟨(some 4), none, .mov (.tmp 17)⟩
              .nil)))
              .ret)
             .skip))))
         (.reg
         (.op ⟨(some 18), none, .bin .add (.tmp 8) (.cst (.int .i64 1))⟩
         (.op ⟨(some 8), none, .mov (.tmp 18)⟩
         .nil)))))))))
   (.seq
    (.reg
    (.op ⟨(some 4), none, .mov (.cst (.int .i64 (-1)))⟩
    .nil))
    .ret)))
theorem ok_slices_IndexFunc_api_Envelope_api_Envelope_c70 : FnOk Try.prog 69 19 (SA.erase sa_slices_IndexFunc_api_Envelope_api_Envelope_c70) [.tmp 4] := ⟨Try.f69, [], Try.func69, rfl, by kernel_rfl, by kernel_rfl, by kernel_rfl⟩
noncomputable def F_slices_IndexFunc_api_Envelope_api_Envelope_c70 (a0 : (List TEnvelope)) (a1 : TEnvelope) : Option Int :=
loopO (fun (v1 : Int × Unit) =>
bif (decide (v1.1 < ((List.length a0 : Nat) : Int))) then
Option.bind (idx a0 v1.1) fun x2 =>
Option.bind (F_envelopes_Put_1 (TEnvelope.mk x2.Node x2.Slot x2.Seq (TTrust.mk x2.Trust.Threshold x2.Trust.Nodes x2.Trust.Inner) x2.Kind x2.Ballot x2.Prepared x2.Prime x2.Low x2.High) (TEnvelope.mk a1.Node a1.Slot a1.Seq (TTrust.mk a1.Trust.Threshold a1.Trust.Nodes a1.Trust.Inner) a1.Kind a1.Ballot a1.Prepared a1.Prime a1.Low a1.High)) fun r3 =>
bif r3 then
Option.map Sum.inr (some v1.1)
else
some (Sum.inl ((addI .i64 v1.1 (1 : Int)), ()))
else
Option.map Sum.inr (some (-1 : Int))) ((0 : Int), ())
theorem e_slices_IndexFunc_api_Envelope_api_Envelope_c70 : fnK K [.fn 70 [.ty (Ty.st .Envelope), .ref (.ty (Ty.st .Envelope))] (.one Ty.bool) fun a => F_envelopes_Put_1 a.1 a.2.1] sa_slices_IndexFunc_api_Envelope_api_Envelope_c70 [.tmp 4] [.ty (Ty.sl (Ty.st .Envelope)), .clo 70 [.ref (.ty (Ty.st .Envelope))]] (.one (Ty.i .i64)) = fun a => F_slices_IndexFunc_api_Envelope_api_Envelope_c70 a.1 a.2.1.1 := by kernel_rfl
theorem s_slices_IndexFunc_api_Envelope_api_Envelope_c70 : KFun.Sound (U := U) Try.prog (.fn 69 [.ty (Ty.sl (Ty.st .Envelope)), .clo 70 [.ref (.ty (Ty.st .Envelope))]] (.one (Ty.i .i64)) fun a => F_slices_IndexFunc_api_Envelope_api_Envelope_c70 a.1 a.2.1.1) := fnK_sound (K := K) (Γ := [.fn 70 [.ty (Ty.st .Envelope), .ref (.ty (Ty.st .Envelope))] (.one Ty.bool) fun a => F_envelopes_Put_1 a.1 a.2.1]) ok_slices_IndexFunc_api_Envelope_api_Envelope_c70 (by kernel_rfl) (by decide) ⟨s_envelopes_Put_1, trivial⟩ (fun a => congrFun e_slices_IndexFunc_api_Envelope_api_Envelope_c70 a)

/-! ### trustquorum/trustquorumref01.Nodes -/
def sa_ref01_Nodes : SA U :=
 (.seq
  (.reg
  (.op ⟨(some 2), none, .mov (.cst (.nils))⟩
  .nil))
  (.seq
   (.reg
   (.op ⟨(some 3), none, .mov (.cst (.nils))⟩
   .nil))
   (.seq
    (.seq
     (.reg
     (.op ⟨(some 4), none, .mov (.cst (.int .i64 0))⟩
     .nil))
     (.block 0
      (.ps (.own 3 3 1 (Ty.i .i64))
      (.loop ⟨[.val 4 (Ty.i .i64), .own 3 3 1 3 1 (Ty.i .i64)], [0]⟩
       (.seq
        (.seq
         (.reg
         (.op ⟨(some 5), none, .mov (.tmp 4)⟩
         (.op ⟨(some 6), none, .bin .lss (.tmp 5) (.cst (.int .i64 10))⟩
         .nil)))
         (.cond (.tmp 6)
          .skip
          (.exit 0)))
        (.join ⟨[.own 3 3 1 3 1 (Ty.i .i64)], [0, 4]⟩
         (.block 1
          (.seq
           (.reg
           (.op ⟨(some 9), none, .mov (.tmp 0)⟩
           (.op ⟨(some 10), none, .mov (.tmp 4)⟩
           (.op ⟨(some 11), none, .call 62 [(.tmp 9), (.tmp 10)]⟩
           .nil))))
           (.cond (.tmp 11)
            (.reg
            (.op ⟨(some 12), none, .mov (.tmp 3)⟩
            (.op ⟨(some 13), none, .mov (.tmp 4)⟩
            (.op ⟨(some 14), none, .bsl false 3 1 (List.replicate 1 [.int .i64 0]) [(0, (.tmp 13))]⟩
            (.op ⟨(some 15), none, .app 3 1 8 (.tmp 12) (.tmp 14)⟩
            (.op ⟨(some 3), none, .mov (.tmp 15)⟩
            .nil))))))
            .skip)))
         (.reg
         (.op ⟨(some 7), none, .mov (.tmp 4)⟩
         (.op ⟨(some 8), none, .bin .add (.tmp 7) (.cst (.int .i64 1))⟩
         (.op ⟨(some 4), none, .mov (.tmp 8)⟩
         .nil))))))))))
    (.seq
     (.reg
     (.op ⟨(some 16), none, .mov (.tmp 3)⟩
     (.op ⟨(some 2), none, .mov (.tmp 16)⟩
     .nil)))
     .ret))))
theorem ok_ref01_Nodes : FnOk Try.prog 106 17 (SA.erase sa_ref01_Nodes) [.tmp 2] := ⟨Try.f106, [], Try.func106, rfl, by kernel_rfl, by kernel_rfl, by kernel_rfl⟩
noncomputable def F_ref01_Nodes (a0 : Int) : Option (List Int) :=
loopO (fun (v1 : Int × (List Int) × Unit) =>
bif (decide (v1.1 < (10 : Int))) then
letJ (fun (v2 : (List Int) × Unit) =>
some (Sum.inl ((addI .i64 v1.1 (1 : Int)), v2.1, ()))) fun j3 =>
Option.bind (F_ref01_Has a0 v1.1) fun r4 =>
bif r4 then
bif lenOk 8 (List.length v1.2.1 + List.length [v1.1]) then
j3 ((v1.2.1 ++ [v1.1]), ())
else none
else
j3 (v1.2.1, ())
else
Option.map Sum.inr (some v1.2.1)) ((0 : Int), ([] : List Int), ())
theorem e_ref01_Nodes : fnK K [.fn 62 [.ty (Ty.i .i64), .ty (Ty.i .i64)] (.one Ty.bool) fun a => F_ref01_Has a.1 a.2.1] sa_ref01_Nodes [.tmp 2] [.ty (Ty.i .i64)] (.one (Ty.sl (Ty.i .i64))) = fun a => F_ref01_Nodes a.1 := by kernel_rfl
theorem s_ref01_Nodes : KFun.Sound (U := U) Try.prog (.fn 106 [.ty (Ty.i .i64)] (.one (Ty.sl (Ty.i .i64))) fun a => F_ref01_Nodes a.1) := fnK_sound (K := K) (Γ := [.fn 62 [.ty (Ty.i .i64), .ty (Ty.i .i64)] (.one Ty.bool) fun a => F_ref01_Has a.1 a.2.1]) ok_ref01_Nodes (by kernel_rfl) (by decide) ⟨s_ref01_Has, trivial⟩ (fun a => congrFun e_ref01_Nodes a)

/-! ### trustquorum/trustquorumref09.Elimination -/
def sa_ref09_Elimination : SA U :=
 (.seq
  (.reg
  (.op ⟨(some 2), none, .box (.tmp 0)⟩
  (.op ⟨(some 4), none, .mov (.cst (.nils))⟩
  .nil)))
  (.seq
   (.seq
    (.reg
    (.op ⟨(some 10), none, .mov (.tmp 1)⟩
    (.op ⟨(some 11), none, .call 61 [(.tmp 10)]⟩
    (.op ⟨(some 12), none, .not (.tmp 11)⟩
    .nil))))
    (.cond (.tmp 12)
     (.seq
      (.reg
      (.op ⟨(some 4), none, .mov (.cst (.nils))⟩
      .nil))
      .ret)
     .skip))
   (.seq
    (.reg
    (.op ⟨(some 13), none, .mov (.tmp 1)⟩
    (.op ⟨(some 14), none, .load (some 1) (.tmp 2)⟩
    (.op ⟨(some 15), none, .call 63 [(.tmp 14)]⟩
    (.op ⟨(some 16), none, .bin .and (.tmp 13) (.tmp 15)⟩
    (.op ⟨(some 5), none, .mov (.tmp 16)⟩
    .nil))))))
    (.seq
     (.reg
     (.op ⟨(some 6), none, .mov (.cst (.nils))⟩
     .nil))
     (.seq
      (.seq
       (.reg
       (.op ⟨(some 7), none, .mov (.cst (.bool true))⟩
       .nil))
       (.block 0
        (.ps (.own 6 3 1 (Ty.i .i64))
        (.loop ⟨[.val 5 (Ty.i .i64), .val 7 Ty.bool, .own 6 12 1 3 1 (Ty.i .i64)], [2]⟩
         (.seq
          (.seq
           (.reg
           (.op ⟨(some 17), none, .mov (.tmp 7)⟩
           .nil))
           (.cond (.tmp 17)
            .skip
            (.exit 0)))
          (.block 1
           (.seq
            (.reg
            (.op ⟨(some 7), none, .mov (.cst (.bool false))⟩
            .nil))
            (.seq
             (.reg
             (.op ⟨(some 18), none, .mov (.tmp 5)⟩
             (.op ⟨(some 19), none, .call 106 [(.tmp 18)]⟩
             (.op ⟨(some 20), none, .len false (.tmp 19)⟩
             (.op ⟨(some 21), none, .mov (.cst (.int .i64 0))⟩
             .nil)))))
             (.block 2
              (.loop ⟨[.val 5 (Ty.i .i64), .val 7 Ty.bool, .val 21 (Ty.i .i64), .own 6 12 1 3 1 (Ty.i .i64)], [2, 19, 20]⟩
               (.seq
                (.reg
                (.op ⟨(some 22), none, .bin .lss (.tmp 21) (.tmp 20)⟩
                .nil))
                (.seq
                 (.cond (.tmp 22)
                  .skip
                  (.exit 2))
                 (.seq
                  (.block 3
                   (.seq
                    (.reg
                    (.op ⟨(some 23), none, .iaddr 1 (.tmp 19) (.tmp 21)⟩
                    (.op ⟨(some 24), none, .load none (.tmp 23)⟩
                    (.op ⟨(some 9), none, .mov (.tmp 24)⟩
                    .nil))))
                    (.seq
                     (.reg
                     (.op ⟨(some 25), none, .faddr 0 (.tmp 2)⟩
                     (.op ⟨(some 26), none, .load none (.tmp 25)⟩
                     (.op ⟨(some 27), none, .mov (.tmp 9)⟩
                     (.op ⟨(some 28), none, .iaddr 4 (.tmp 26) (.tmp 27)⟩
                     (.op ⟨(some 29), none, .faddr 1 (.tmp 28)⟩
                     (.op ⟨(some 30), none, .load (some 3) (.tmp 29)⟩
                     (.op ⟨(some 31), none, .mov (.tmp 5)⟩
                     (.op ⟨(some 32), none, .call 64 [(.tmp 30), (.tmp 31)]⟩
                     (.op ⟨(some 33), none, .not (.tmp 32)⟩
                     .nil))))))))))
                     (.cond (.tmp 33)
                      (.seq
                       (.reg
                       (.op ⟨(some 34), none, .mov (.tmp 5)⟩
                       (.op ⟨(some 35), none, .mov (.tmp 9)⟩
                       (.op ⟨(some 36), none, .bin .shl (.cst (.int .i64 1)) (.tmp 35)⟩
                       (.op ⟨(some 37), none, .bin .sub (.tmp 34) (.tmp 36)⟩
                       (.op ⟨(some 5), none, .mov (.tmp 37)⟩
                       .nil))))))
                       (.seq
                        (.reg
                        (.op ⟨(some 38), none, .mov (.tmp 6)⟩
                        (.op ⟨(some 39), none, .mov (.tmp 9)⟩
                        (.op ⟨(some 40), none, .bsl false 3 1 (List.replicate 1 [.int .i64 0]) [(0, (.tmp 39))]⟩
                        (.op ⟨(some 41), none, .app 3 1 8 (.tmp 38) (.tmp 40)⟩
                        (.op ⟨(some 6), none, .mov (.tmp 41)⟩
                        .nil))))))
                        (.seq
                         (.reg
                         (.op ⟨(some 7), none, .mov (.cst (.bool true))⟩
                         .nil))
                         (.exit 2))))
                      .skip))))
                  (.reg
                  (.op ⟨(some 42), none, .bin .add (.tmp 21) (.cst (.int .i64 1))⟩
                  (.op ⟨(some 21), none, .mov (.tmp 42)⟩
                  .nil))))))))))))))))
      (.seq
       (.reg
       (.op ⟨(some 43), none, .mov (.tmp 6)⟩
       (.op ⟨(some 4), none, .mov (.tmp 43)⟩
       .nil)))
       .ret))))))
theorem ok_ref09_Elimination : FnOk Try.prog 74 44 (SA.erase sa_ref09_Elimination) [.tmp 4] := ⟨Try.f74, [], Try.func74, rfl, by kernel_rfl, by kernel_rfl, by kernel_rfl⟩
noncomputable def F_ref09_Elimination (a0 : TConfig) (a1 : Int) : Option (List Int) :=
Option.bind (F_ref01_Valid a1) fun r1 =>
bif (!r1) then
some ([] : List Int)
else
Option.bind (F_ref06_Declared a0) fun r2 =>
loopO (fun (v3 : Int × Bool × (List Int) × Unit) =>
bif v3.2.1 then
Option.bind (F_ref01_Nodes v3.1) fun r4 =>
loopO (fun (v5 : Int × Bool × Int × (List Int) × Unit) =>
bif (decide (v5.2.2.1 < ((List.length r4 : Nat) : Int))) then
Option.bind (idx r4 v5.2.2.1) fun x6 =>
Option.bind (idx a0.Members x6) fun x7 =>
Option.bind (F_ref02_Satisfied (TTrust.mk x7.Trust.Threshold x7.Trust.Nodes x7.Trust.Inner) v5.1) fun r8 =>
bif (!r8) then
if x6 < 0 then none else
bif lenOk 8 (List.length v5.2.2.2.1 + List.length [x6]) then
Option.map Sum.inr (some (Sum.inl ((subI .i64 v5.1 (shlI .i64 (1 : Int) x6)), true, (v5.2.2.2.1 ++ [x6]), ())))
else none
else
some (Sum.inl (v5.1, v5.2.1, (addI .i64 v5.2.2.1 (1 : Int)), v5.2.2.2.1, ()))
else
Option.map Sum.inr (some (Sum.inl (v5.1, v5.2.1, v5.2.2.2.1, ())))) (v3.1, false, (0 : Int), v3.2.2.1, ())
else
Option.map Sum.inr (some v3.2.2.1)) ((andI .i64 a1 r2), true, ([] : List Int), ())
theorem e_ref09_Elimination : fnK K [.fn 61 [.ty (Ty.i .i64)] (.one Ty.bool) fun a => F_ref01_Valid a.1, .fn 63 [.ty (Ty.st .Config)] (.one (Ty.i .i64)) fun a => F_ref06_Declared a.1, .fn 106 [.ty (Ty.i .i64)] (.one (Ty.sl (Ty.i .i64))) fun a => F_ref01_Nodes a.1, .fn 64 [.ty (Ty.st .Trust), .ty (Ty.i .i64)] (.one Ty.bool) fun a => F_ref02_Satisfied a.1 a.2.1] sa_ref09_Elimination [.tmp 4] [.ty (Ty.st .Config), .ty (Ty.i .i64)] (.one (Ty.sl (Ty.i .i64))) = fun a => F_ref09_Elimination a.1 a.2.1 := by kernel_rfl
theorem s_ref09_Elimination : KFun.Sound (U := U) Try.prog (.fn 74 [.ty (Ty.st .Config), .ty (Ty.i .i64)] (.one (Ty.sl (Ty.i .i64))) fun a => F_ref09_Elimination a.1 a.2.1) := fnK_sound (K := K) (Γ := [.fn 61 [.ty (Ty.i .i64)] (.one Ty.bool) fun a => F_ref01_Valid a.1, .fn 63 [.ty (Ty.st .Config)] (.one (Ty.i .i64)) fun a => F_ref06_Declared a.1, .fn 106 [.ty (Ty.i .i64)] (.one (Ty.sl (Ty.i .i64))) fun a => F_ref01_Nodes a.1, .fn 64 [.ty (Ty.st .Trust), .ty (Ty.i .i64)] (.one Ty.bool) fun a => F_ref02_Satisfied a.1 a.2.1]) ok_ref09_Elimination (by kernel_rfl) (by decide) ⟨s_ref01_Valid, s_ref06_Declared, s_ref01_Nodes, s_ref02_Satisfied, trivial⟩ (fun a => congrFun e_ref09_Elimination a)

/-! ### trustquorum/trustquorumref09.Greatest -/
def sa_ref09_Greatest : SA U :=
 (.seq
  (.reg
  (.op ⟨(some 2), none, .box (.tmp 0)⟩
  (.op ⟨(some 4), none, .mov (.cst (.int .i64 0))⟩
  .nil)))
  (.seq
   (.seq
    (.reg
    (.op ⟨(some 8), none, .mov (.tmp 1)⟩
    (.op ⟨(some 9), none, .call 61 [(.tmp 8)]⟩
    (.op ⟨(some 10), none, .not (.tmp 9)⟩
    .nil))))
    (.cond (.tmp 10)
     (.seq
      (.reg
      (.op ⟨(some 4), none, .mov (.cst (.int .i64 0))⟩
      .nil))
      .ret)
     .skip))
   (.seq
    (.reg
    (.op ⟨(some 11), none, .mov (.tmp 1)⟩
    (.op ⟨(some 12), none, .load (some 1) (.tmp 2)⟩
    (.op ⟨(some 13), none, .call 63 [(.tmp 12)]⟩
    (.op ⟨(some 14), none, .bin .and (.tmp 11) (.tmp 13)⟩
    (.op ⟨(some 5), none, .mov (.tmp 14)⟩
    .nil))))))
    (.seq
     (.seq
      (.reg
      (.op ⟨(some 15), none, .load (some 1) (.tmp 2)⟩
      (.op ⟨(some 16), none, .mov (.tmp 1)⟩
      (.op ⟨(some 17), none, .call 74 [(.tmp 15), (.tmp 16)]⟩
      (.op ⟨(some 18), none, .len false (.tmp 17)⟩
      (.op ⟨(some 19), none, .mov (.cst (.int .i64 0))⟩
      .nil))))))
      (.block 0
       (.loop ⟨[.val 5 (Ty.i .i64), .val 19 (Ty.i .i64)], [17, 18]⟩
        (.seq
         (.reg
         (.op ⟨(some 20), none, .bin .lss (.tmp 19) (.tmp 18)⟩
         .nil))
         (.seq
          (.cond (.tmp 20)
           .skip
           (.exit 0))
          (.seq
           (.block 1
            (.seq
             (.reg
             (.op ⟨(some 21), none, .iaddr 1 (.tmp 17) (.tmp 19)⟩
             (.op ⟨(some 22), none, .load none (.tmp 21)⟩
             (.op ⟨(some 7), none, .mov (.tmp 22)⟩
             .nil))))
             (.reg
             (.op ⟨(some 23), none, .mov (.tmp 5)⟩
             (.op ⟨(some 24), none, .mov (.tmp 7)⟩
             (.op ⟨(some 25), none, .bin .shl (.cst (.int .i64 1)) (.tmp 24)⟩
             (.op ⟨(some 26), none, .bin .sub (.tmp 23) (.tmp 25)⟩
             (.op ⟨(some 5), none, .mov (.tmp 26)⟩
             .nil))))))))
           (.reg
           (.op ⟨(some 27), none, .bin .add (.tmp 19) (.cst (.int .i64 1))⟩
           (.op ⟨(some 19), none, .mov (.tmp 27)⟩
           .nil)))))))))
     (.seq
      (.reg
      (.op ⟨(some 28), none, .mov (.tmp 5)⟩
      (.op ⟨(some 4), none, .mov (.tmp 28)⟩
      .nil)))
      .ret)))))
theorem ok_ref09_Greatest : FnOk Try.prog 39 29 (SA.erase sa_ref09_Greatest) [.tmp 4] := ⟨Try.f39, [], Try.func39, rfl, by kernel_rfl, by kernel_rfl, by kernel_rfl⟩
noncomputable def F_ref09_Greatest (a0 : TConfig) (a1 : Int) : Option Int :=
Option.bind (F_ref01_Valid a1) fun r1 =>
bif (!r1) then
some (0 : Int)
else
Option.bind (F_ref06_Declared a0) fun r2 =>
Option.bind (F_ref09_Elimination a0 a1) fun r3 =>
loopO (fun (v4 : Int × Int × Unit) =>
bif (decide (v4.2.1 < ((List.length r3 : Nat) : Int))) then
Option.bind (idx r3 v4.2.1) fun x5 =>
if x5 < 0 then none else
some (Sum.inl ((subI .i64 v4.1 (shlI .i64 (1 : Int) x5)), (addI .i64 v4.2.1 (1 : Int)), ()))
else
Option.map Sum.inr (some v4.1)) ((andI .i64 a1 r2), (0 : Int), ())
theorem e_ref09_Greatest : fnK K [.fn 61 [.ty (Ty.i .i64)] (.one Ty.bool) fun a => F_ref01_Valid a.1, .fn 63 [.ty (Ty.st .Config)] (.one (Ty.i .i64)) fun a => F_ref06_Declared a.1, .fn 74 [.ty (Ty.st .Config), .ty (Ty.i .i64)] (.one (Ty.sl (Ty.i .i64))) fun a => F_ref09_Elimination a.1 a.2.1] sa_ref09_Greatest [.tmp 4] [.ty (Ty.st .Config), .ty (Ty.i .i64)] (.one (Ty.i .i64)) = fun a => F_ref09_Greatest a.1 a.2.1 := by kernel_rfl
theorem s_ref09_Greatest : KFun.Sound (U := U) Try.prog (.fn 39 [.ty (Ty.st .Config), .ty (Ty.i .i64)] (.one (Ty.i .i64)) fun a => F_ref09_Greatest a.1 a.2.1) := fnK_sound (K := K) (Γ := [.fn 61 [.ty (Ty.i .i64)] (.one Ty.bool) fun a => F_ref01_Valid a.1, .fn 63 [.ty (Ty.st .Config)] (.one (Ty.i .i64)) fun a => F_ref06_Declared a.1, .fn 74 [.ty (Ty.st .Config), .ty (Ty.i .i64)] (.one (Ty.sl (Ty.i .i64))) fun a => F_ref09_Elimination a.1 a.2.1]) ok_ref09_Greatest (by kernel_rfl) (by decide) ⟨s_ref01_Valid, s_ref06_Declared, s_ref09_Elimination, trivial⟩ (fun a => congrFun e_ref09_Greatest a)

/-! ### trustquorum/federated.Confirms -/
def sa_federated_Confirms : SA U :=
 (.seq
  (.reg
  (.op ⟨(some 3), none, .box (.tmp 0)⟩
  (.op ⟨(some 6), none, .mov (.cst (.bool false))⟩
  .nil)))
  (.seq
   (.reg
   (.op ⟨(some 7), none, .load (some 1) (.tmp 3)⟩
   (.op ⟨(some 8), none, .mov (.tmp 2)⟩
   (.op ⟨(some 9), none, .call 130 [(.tmp 7), (.tmp 8)]⟩
   (.op ⟨(some 10), none, .mov (.tmp 1)⟩
   (.op ⟨(some 11), none, .call 129 [(.tmp 9), (.tmp 10)]⟩
   (.op ⟨(some 6), none, .mov (.tmp 11)⟩
   .nil)))))))
   .ret))
theorem ok_federated_Confirms : FnOk Try.prog 107 12 (SA.erase sa_federated_Confirms) [.tmp 6] := ⟨Try.f107, [], Try.func107, rfl, by kernel_rfl, by kernel_rfl, by kernel_rfl⟩
noncomputable def F_federated_Confirms (a0 : TConfig) (a1 : Int) (a2 : Int) : Option Bool :=
Option.bind (F_closure_Greatest a0 a2) fun r1 =>
Option.bind (F_nodeset_Has r1 a1) fun r2 =>
some r2
theorem e_federated_Confirms : fnK K [.fn 130 [.ty (Ty.st .Config), .ty (Ty.i .i64)] (.one (Ty.i .i64)) fun a => F_closure_Greatest a.1 a.2.1, .fn 129 [.ty (Ty.i .i64), .ty (Ty.i .i64)] (.one Ty.bool) fun a => F_nodeset_Has a.1 a.2.1] sa_federated_Confirms [.tmp 6] [.ty (Ty.st .Config), .ty (Ty.i .i64), .ty (Ty.i .i64)] (.one Ty.bool) = fun a => F_federated_Confirms a.1 a.2.1 a.2.2.1 := by kernel_rfl
theorem s_federated_Confirms : KFun.Sound (U := U) Try.prog (.fn 107 [.ty (Ty.st .Config), .ty (Ty.i .i64), .ty (Ty.i .i64)] (.one Ty.bool) fun a => F_federated_Confirms a.1 a.2.1 a.2.2.1) := fnK_sound (K := K) (Γ := [.fn 130 [.ty (Ty.st .Config), .ty (Ty.i .i64)] (.one (Ty.i .i64)) fun a => F_closure_Greatest a.1 a.2.1, .fn 129 [.ty (Ty.i .i64), .ty (Ty.i .i64)] (.one Ty.bool) fun a => F_nodeset_Has a.1 a.2.1]) ok_federated_Confirms (by kernel_rfl) (by decide) ⟨s_closure_Greatest, s_nodeset_Has, trivial⟩ (fun a => congrFun e_federated_Confirms a)

/-! ### (trustquorum/prepare.Seen).Confirms -/
def sa_prepare_Seen_Confirms_c109 : SA U :=
 (.seq
  (.reg
  (.op ⟨(some 2), none, .box (.tmp 0)⟩
  (.op ⟨(some 4), none, .mov (.cst (.bool false))⟩
  .nil)))
  (.seq
   (.drw [(0, 2), (1, 2), (0, 3), (1, 3), (0, 4), (1, 4), (2, 4), (3, 4), (0, 6), (1, 6), (2, 6), (3, 6)]
   (.op ⟨(some 5), none, .faddr 1 (.tmp 2)⟩
   (.op ⟨(some 6), none, .load (some 1) (.tmp 5)⟩
   (.op ⟨(some 7), none, .faddr 0 (.tmp 2)⟩
   (.op ⟨(some 8), none, .load none (.tmp 7)⟩
   (.op ⟨(some 9), none, .load (some 3) (.tmp 2)⟩
   (.op ⟨(some 10), none, .mov (.tmp 1)⟩
   (.op ⟨(some 11), none, .call 108 [(.tmp 9), (.tmp 10)]⟩
   (.op ⟨(some 12), none, .call 107 [(.tmp 6), (.tmp 8), (.tmp 11)]⟩
   (.op ⟨(some 4), none, .mov (.tmp 12)⟩
   .nil))))))))))
   .ret))
theorem ok_prepare_Seen_Confirms_c109 : FnOk Try.prog 75 13 (SA.erase sa_prepare_Seen_Confirms_c109) [.tmp 4] := ⟨Try.f75, [], Try.func75, rfl, by kernel_rfl, by kernel_rfl, by kernel_rfl⟩
noncomputable def F_prepare_Seen_Confirms_c109 (a0 : TSeen) (a1 : TBallot) : Option Bool :=
Option.bind (F_prepare_Seen_Who_c109 a0 a1) fun r1 =>
Option.bind (F_federated_Confirms a0.View a0.Node r1) fun r2 =>
some r2
theorem e_prepare_Seen_Confirms_c109 : fnK K [.fn 108 [.ty (Ty.st .Seen), .clo 109 [.ref (.ty (Ty.st .Ballot))]] (.one (Ty.i .i64)) fun a => F_prepare_Seen_Who_c109 a.1 a.2.1.1, .fn 107 [.ty (Ty.st .Config), .ty (Ty.i .i64), .ty (Ty.i .i64)] (.one Ty.bool) fun a => F_federated_Confirms a.1 a.2.1 a.2.2.1] sa_prepare_Seen_Confirms_c109 [.tmp 4] [.ty (Ty.st .Seen), .clo 109 [.ref (.ty (Ty.st .Ballot))]] (.one Ty.bool) = fun a => F_prepare_Seen_Confirms_c109 a.1 a.2.1.1 := by kernel_rfl
theorem s_prepare_Seen_Confirms_c109 : KFun.Sound (U := U) Try.prog (.fn 75 [.ty (Ty.st .Seen), .clo 109 [.ref (.ty (Ty.st .Ballot))]] (.one Ty.bool) fun a => F_prepare_Seen_Confirms_c109 a.1 a.2.1.1) := fnK_sound (K := K) (Γ := [.fn 108 [.ty (Ty.st .Seen), .clo 109 [.ref (.ty (Ty.st .Ballot))]] (.one (Ty.i .i64)) fun a => F_prepare_Seen_Who_c109 a.1 a.2.1.1, .fn 107 [.ty (Ty.st .Config), .ty (Ty.i .i64), .ty (Ty.i .i64)] (.one Ty.bool) fun a => F_federated_Confirms a.1 a.2.1 a.2.2.1]) ok_prepare_Seen_Confirms_c109 (by kernel_rfl) (by decide) ⟨s_prepare_Seen_Who_c109, s_federated_Confirms, trivial⟩ (fun a => congrFun e_prepare_Seen_Confirms_c109 a)

/-! ### trustquorum/prepare.Confirms -/
def sa_prepare_Confirms : SA U :=
 (.seq
  (.reg
  (.op ⟨(some 5), none, .box (.tmp 1)⟩
  (.op ⟨(some 7), none, .box (.tmp 3)⟩
  (.op ⟨(some 8), none, .mov (.cst (.bool false))⟩
  .nil))))
  (.seq
   (.drw [(1, 4), (3, 4)]
   (.op ⟨(some 9), none, .mov (.tmp 0)⟩
   (.op ⟨(some 10), none, .load (some 3) (.tmp 5)⟩
   (.op ⟨(some 11), none, .mov (.tmp 2)⟩
   (.op ⟨(some 12), none, .call 65 [(.tmp 9), (.tmp 10), (.tmp 11)]⟩
   (.op ⟨(some 13), none, .load (some 2) (.tmp 7)⟩
   (.op ⟨(some 14), none, .call 76 [(.tmp 13)]⟩
   (.op ⟨(some 15), none, .call 75 [(.tmp 12), (.tmp 14)]⟩
   (.op ⟨(some 8), none, .mov (.tmp 15)⟩
   .nil)))))))))
   .ret))
theorem ok_prepare_Confirms : FnOk Try.prog 40 16 (SA.erase sa_prepare_Confirms) [.tmp 8] := ⟨Try.f40, [], Try.func40, rfl, by kernel_rfl, by kernel_rfl, by kernel_rfl⟩
noncomputable def F_prepare_Confirms (a0 : Int) (a1 : TTrust) (a2 : (List TEnvelope)) (a3 : TBallot) : Option Bool :=
Option.bind (F_prepare_Look a0 (TTrust.mk a1.Threshold a1.Nodes a1.Inner) a2) fun r1 =>
Option.bind (F_prepare_accepts a3) fun r2 =>
Option.bind (F_prepare_Seen_Confirms_c109 r1 r2.1) fun r3 =>
some r3
theorem e_prepare_Confirms : fnK K [.fn 65 [.ty (Ty.i .i64), .ty (Ty.st .Trust), .ty (Ty.sl (Ty.st .Envelope))] (.one (Ty.st .Seen)) fun a => F_prepare_Look a.1 a.2.1 a.2.2.1, .fn 76 [.ty (Ty.st .Ballot)] (.fn (.clo 109 [.ref (.ty (Ty.st .Ballot))])) fun a => F_prepare_accepts a.1, .fn 75 [.ty (Ty.st .Seen), .clo 109 [.ref (.ty (Ty.st .Ballot))]] (.one Ty.bool) fun a => F_prepare_Seen_Confirms_c109 a.1 a.2.1.1] sa_prepare_Confirms [.tmp 8] [.ty (Ty.i .i64), .ty (Ty.st .Trust), .ty (Ty.sl (Ty.st .Envelope)), .ty (Ty.st .Ballot)] (.one Ty.bool) = fun a => F_prepare_Confirms a.1 a.2.1 a.2.2.1 a.2.2.2.1 := by kernel_rfl
theorem s_prepare_Confirms : KFun.Sound (U := U) Try.prog (.fn 40 [.ty (Ty.i .i64), .ty (Ty.st .Trust), .ty (Ty.sl (Ty.st .Envelope)), .ty (Ty.st .Ballot)] (.one Ty.bool) fun a => F_prepare_Confirms a.1 a.2.1 a.2.2.1 a.2.2.2.1) := fnK_sound (K := K) (Γ := [.fn 65 [.ty (Ty.i .i64), .ty (Ty.st .Trust), .ty (Ty.sl (Ty.st .Envelope))] (.one (Ty.st .Seen)) fun a => F_prepare_Look a.1 a.2.1 a.2.2.1, .fn 76 [.ty (Ty.st .Ballot)] (.fn (.clo 109 [.ref (.ty (Ty.st .Ballot))])) fun a => F_prepare_accepts a.1, .fn 75 [.ty (Ty.st .Seen), .clo 109 [.ref (.ty (Ty.st .Ballot))]] (.one Ty.bool) fun a => F_prepare_Seen_Confirms_c109 a.1 a.2.1.1]) ok_prepare_Confirms (by kernel_rfl) (by decide) ⟨s_prepare_Look, s_prepare_accepts, s_prepare_Seen_Confirms_c109, trivial⟩ (fun a => congrFun e_prepare_Confirms a)

/-! ### trustquorum/trustquorumlaw25.PrepareQuorum -/
def sa_law25_PrepareQuorum : SA U :=
 (.seq
  (.reg
  (.op ⟨(some 2), none, .mov (.cst (.bool false))⟩
  .nil))
  (.seq
   (.reg
   (.op ⟨(some 18), none, .mov (.tmp 0)⟩
   (.op ⟨(some 19), none, .call 11 [(.tmp 18)]⟩
   (.op ⟨(some 3), none, .mov (.tmp 19)⟩
   .nil))))
   (.seq
    (.reg
    (.op ⟨(some 20), none, .mov (.tmp 3)⟩
    (.op ⟨(some 21), none, .call 26 [(.tmp 20), (.cst (.int .i64 1)), (.cst (.int .i64 5))]⟩
    (.op ⟨(some 4), none, .mov (.tmp 21)⟩
    .nil))))
    (.seq
     (.reg
     (.op ⟨(some 22), none, .mov (.tmp 3)⟩
     (.op ⟨(some 23), none, .call 18 [(.tmp 22)]⟩
     (.op ⟨(some 5), none, .alloc [.int .i64 0, .str ⟨#[]⟩]⟩
     (.op ⟨none, none, .store 2 (.tmp 5) (.tmp 23)⟩
     .nil)))))
     (.seq
      (.reg
      (.op ⟨(some 6), none, .alloc [.nils]⟩
      .nil))
      (.seq
       (.reg
       (.op ⟨(some 7), none, .mov (.cst (.nils))⟩
       (.op ⟨(some 8), none, .mov (.cst (.nils))⟩
       .nil)))
       (.seq
        (.seq
         (.reg
         (.op ⟨(some 9), none, .mov (.cst (.int .i64 0))⟩
         .nil))
         (.block 0
          (.ps (.own 7 31 15 (Ty.st .Envelope))
          (.ps (.own 8 31 15 (Ty.st .Envelope))
          (.ps (.ownB 6 0 64 4 (Ty.st .Member))
          (.loop ⟨[.val 9 (Ty.i .i64), .own 7 15 1 31 15 (Ty.st .Envelope), .own 8 16 1 31 15 (Ty.st .Envelope), .box 2 1 (Ty.st .Src) [], .box 11 1 (Ty.st .Config) [(0, 17, 1)], .rowb 17 1 64 4 (Ty.st .Member)], [3, 4, 5, 6]⟩
           (.seq
            (.seq
             (.reg
             (.op ⟨(some 24), none, .mov (.tmp 9)⟩
             (.op ⟨(some 25), none, .mov (.tmp 4)⟩
             (.op ⟨(some 26), none, .bin .lss (.tmp 24) (.tmp 25)⟩
             .nil))))
             (.cond (.tmp 26)
              .skip
              (.exit 0)))
            (.seq
             (.block 1
              (.seq
               (.reg
               (.op ⟨(some 29), none, .mov (.tmp 3)⟩
               (.op ⟨(some 30), none, .mov (.tmp 4)⟩
               (.op ⟨(some 31), none, .call 31 [(.tmp 29), (.tmp 30)]⟩
               (.op ⟨(some 10), none, .alloc [.int .i64 0, .nils, .nils]⟩
               (.op ⟨none, none, .store 3 (.tmp 10) (.tmp 31)⟩
               .nil))))))
               (.seq
                (.reg
                (.op ⟨(some 32), none, .faddr 0 (.tmp 6)⟩
                (.op ⟨(some 33), none, .load none (.tmp 32)⟩
                (.op ⟨(some 34), none, .load (some 3) (.tmp 10)⟩
                (.op ⟨(some 35), none, .build [.bool false, .int .i64 0, .nils, .nils] [(0, 1, (.cst (.bool true))), (1, 3, (.tmp 34))]⟩
                (.op ⟨(some 36), none, .bsl false 64 4 (List.replicate 1 [.bool false, .int .i64 0, .nils, .nils]) [(0, (.tmp 35))]⟩
                (.op ⟨(some 37), none, .app 64 4 64 (.tmp 33) (.tmp 36)⟩
                (.op ⟨(some 38), none, .faddr 0 (.tmp 6)⟩
                (.op ⟨none, none, .store 1 (.tmp 38) (.tmp 37)⟩
                .nil)))))))))
                (.seq
                 (.reg
                 (.op ⟨(some 39), none, .mov (.tmp 9)⟩
                 (.op ⟨(some 40), none, .load (some 3) (.tmp 10)⟩
                 (.op ⟨(some 41), none, .load (some 2) (.tmp 5)⟩
                 (.op ⟨(some 42), none, .build [.int .i64 0, .int .i64 0, .int .i64 0, .int .i64 0, .nils, .nils, .int .i64 0, .int .i64 0, .str ⟨#[]⟩, .int .i64 0, .str ⟨#[]⟩, .int .i64 0, .str ⟨#[]⟩, .int .i64 0, .int .i64 0] [(0, 1, (.tmp 39)), (1, 1, (.cst (.int .i64 1))), (2, 1, (.cst (.int .i64 1))), (3, 3, (.tmp 40)), (6, 1, (.cst (.int .i64 1))), (7, 2, (.tmp 41))]⟩
                 (.op ⟨(some 11), none, .alloc [.int .i64 0, .int .i64 0, .int .i64 0, .int .i64 0, .nils, .nils, .int .i64 0, .int .i64 0, .str ⟨#[]⟩, .int .i64 0, .str ⟨#[]⟩, .int .i64 0, .str ⟨#[]⟩, .int .i64 0, .int .i64 0]⟩
                 (.op ⟨none, none, .store 15 (.tmp 11) (.tmp 42)⟩
                 .nil)))))))
                 (.seq
                  (.reg
                  (.op ⟨(some 43), none, .mov (.tmp 7)⟩
                  (.op ⟨(some 44), none, .load (some 15) (.tmp 11)⟩
                  (.op ⟨(some 45), none, .bsl false 31 15 (List.replicate 1 [.int .i64 0, .int .i64 0, .int .i64 0, .int .i64 0, .nils, .nils, .int .i64 0, .int .i64 0, .str ⟨#[]⟩, .int .i64 0, .str ⟨#[]⟩, .int .i64 0, .str ⟨#[]⟩, .int .i64 0, .int .i64 0]) [(0, (.tmp 44))]⟩
                  (.op ⟨(some 46), none, .app 31 15 176 (.tmp 43) (.tmp 45)⟩
                  (.op ⟨(some 7), none, .mov (.tmp 46)⟩
                  .nil))))))
                  (.seq
                   (.reg
                   (.op ⟨(some 47), none, .load (some 2) (.tmp 5)⟩
                   (.op ⟨(some 48), none, .faddr 9 (.tmp 11)⟩
                   (.op ⟨none, none, .store 2 (.tmp 48) (.tmp 47)⟩
                   .nil))))
                   (.reg
                   (.op ⟨(some 49), none, .mov (.tmp 8)⟩
                   (.op ⟨(some 50), none, .load (some 15) (.tmp 11)⟩
                   (.op ⟨(some 51), none, .bsl false 31 15 (List.replicate 1 [.int .i64 0, .int .i64 0, .int .i64 0, .int .i64 0, .nils, .nils, .int .i64 0, .int .i64 0, .str ⟨#[]⟩, .int .i64 0, .str ⟨#[]⟩, .int .i64 0, .str ⟨#[]⟩, .int .i64 0, .int .i64 0]) [(0, (.tmp 50))]⟩
                   (.op ⟨(some 52), none, .app 31 15 176 (.tmp 49) (.tmp 51)⟩
                   (.op ⟨(some 8), none, .mov (.tmp 52)⟩
                   .nil))))))))))))
             (.reg
             (.op ⟨(some 27), none, .mov (.tmp 9)⟩
             (.op ⟨(some 28), none, .bin .add (.tmp 27) (.cst (.int .i64 1))⟩
             (.op ⟨(some 9), none, .mov (.tmp 28)⟩
             .nil))))))))))))
        (.seq
         (.reg
         (.op ⟨(some 53), none, .load (some 1) (.tmp 6)⟩
         (.op ⟨(some 54), none, .mov (.tmp 4)⟩
         (.op ⟨(some 55), none, .conv .u64 (.tmp 54)⟩
         (.op ⟨(some 56), none, .bin .shl (.cst (.int .i64 1)) (.tmp 55)⟩
         (.op ⟨(some 57), none, .bin .sub (.tmp 56) (.cst (.int .i64 1))⟩
         (.op ⟨(some 58), none, .call 39 [(.tmp 53), (.tmp 57)]⟩
         (.op ⟨(some 12), none, .mov (.tmp 58)⟩
         .nil))))))))
         (.seq
          (.reg
          (.op ⟨(some 13), none, .mov (.cst (.nils))⟩
          (.op ⟨(some 14), none, .mov (.cst (.nils))⟩
          .nil)))
          (.seq
           (.seq
            (.reg
            (.op ⟨(some 15), none, .mov (.cst (.int .i64 0))⟩
            .nil))
            (.block 2
             (.ps (.own 13 31 15 (Ty.st .Envelope))
             (.ps (.own 14 31 15 (Ty.st .Envelope))
             (.loop ⟨[.val 15 (Ty.i .i64), .own 13 31 1 31 15 (Ty.st .Envelope), .own 14 32 1 31 15 (Ty.st .Envelope)], [4, 5, 6, 7, 8, 12]⟩
              (.seq
               (.seq
                (.reg
                (.op ⟨(some 59), none, .mov (.tmp 15)⟩
                (.op ⟨(some 60), none, .mov (.tmp 4)⟩
                (.op ⟨(some 61), none, .bin .lss (.tmp 59) (.tmp 60)⟩
                .nil))))
                (.cond (.tmp 61)
                 .skip
                 (.exit 2)))
               (.join ⟨[.own 13 31 1 31 15 (Ty.st .Envelope), .own 14 32 1 31 15 (Ty.st .Envelope)], [4, 5, 6, 7, 8, 12, 15]⟩
                (.block 3
                 (.seq
                  (.reg
                  (.op ⟨(some 64), none, .mov (.tmp 12)⟩
                  (.op ⟨(some 65), none, .mov (.tmp 15)⟩
                  (.op ⟨(some 66), none, .conv .u64 (.tmp 65)⟩
                  (.op ⟨(some 67), none, .bin .shr (.tmp 64) (.tmp 66)⟩
                  (.op ⟨(some 68), none, .bin .and (.tmp 67) (.cst (.int .i64 1))⟩
                  (.op ⟨(some 69), none, .bin .eql (.tmp 68) (.cst (.int .i64 1))⟩
                  .nil)))))))
                  (.cond (.tmp 69)
                   (.drw [(3, 10), (4, 10), (5, 10), (6, 10), (3, 11), (4, 11), (5, 11), (6, 11), (3, 12), (4, 12), (5, 12), (6, 12)]
                   (.op ⟨(some 70), none, .mov (.tmp 13)⟩
                   (.op ⟨(some 71), none, .mov (.tmp 7)⟩
                   (.op ⟨(some 72), none, .mov (.tmp 15)⟩
                   (.op ⟨(some 73), none, .iaddr 15 (.tmp 71) (.tmp 72)⟩
                   (.op ⟨(some 74), none, .load (some 15) (.tmp 73)⟩
                   (.op ⟨(some 75), none, .bsl false 31 15 (List.replicate 1 [.int .i64 0, .int .i64 0, .int .i64 0, .int .i64 0, .nils, .nils, .int .i64 0, .int .i64 0, .str ⟨#[]⟩, .int .i64 0, .str ⟨#[]⟩, .int .i64 0, .str ⟨#[]⟩, .int .i64 0, .int .i64 0]) [(0, (.tmp 74))]⟩
                   (.op ⟨(some 76), none, .app 31 15 176 (.tmp 70) (.tmp 75)⟩
                   (.op ⟨(some 77), none, .mov (.tmp 14)⟩
                   (.op ⟨(some 78), none, .mov (.tmp 8)⟩
                   (.op ⟨(some 79), none, .mov (.tmp 15)⟩
                   (.op ⟨(some 80), none, .iaddr 15 (.tmp 78) (.tmp 79)⟩
                   (.op ⟨(some 81), none, .load (some 15) (.tmp 80)⟩
                   (.op ⟨(some 82), none, .bsl false 31 15 (List.replicate 1 [.int .i64 0, .int .i64 0, .int .i64 0, .int .i64 0, .nils, .nils, .int .i64 0, .int .i64 0, .str ⟨#[]⟩, .int .i64 0, .str ⟨#[]⟩, .int .i64 0, .str ⟨#[]⟩, .int .i64 0, .int .i64 0]) [(0, (.tmp 81))]⟩
                   (.op ⟨(some 83), none, .app 31 15 176 (.tmp 77) (.tmp 82)⟩
                   (.op ⟨(some 13), none, .mov (.tmp 76)⟩
                   (.op ⟨(some 14), none, .mov (.tmp 83)⟩
                   .nil)))))))))))))))))
                   .skip)))
                (.reg
                (.op ⟨(some 62), none, .mov (.tmp 15)⟩
                (.op ⟨(some 63), none, .bin .add (.tmp 62) (.cst (.int .i64 1))⟩
                (.op ⟨(some 15), none, .mov (.tmp 63)⟩
                .nil)))))))))))
           (.seq
            (.seq
             (.reg
             (.op ⟨(some 16), none, .mov (.cst (.int .i64 0))⟩
             .nil))
             (.block 4
              (.loop ⟨[.val 16 (Ty.i .i64)], [4, 5, 6, 12, 13, 14]⟩
               (.seq
                (.seq
                 (.reg
                 (.op ⟨(some 84), none, .mov (.tmp 16)⟩
                 (.op ⟨(some 85), none, .mov (.tmp 4)⟩
                 (.op ⟨(some 86), none, .bin .lss (.tmp 84) (.tmp 85)⟩
                 .nil))))
                 (.cond (.tmp 86)
                  .skip
                  (.exit 4)))
                (.join ⟨[], [4, 5, 6, 12, 13, 14, 16]⟩
                 (.block 5
                  (.seq
                   (.seq
                    (.reg
                    (.op ⟨(some 89), none, .mov (.tmp 12)⟩
                    (.op ⟨(some 90), none, .mov (.tmp 16)⟩
                    (.op ⟨(some 91), none, .conv .u64 (.tmp 90)⟩
                    (.op ⟨(some 92), none, .bin .shr (.tmp 89) (.tmp 91)⟩
                    (.op ⟨(some 93), none, .bin .and (.tmp 92) (.cst (.int .i64 1))⟩
                    (.op ⟨(some 94), none, .bin .eql (.tmp 93) (.cst (.int .i64 0))⟩
                    .nil)))))))
                    (.cond (.tmp 94)
                     (.exit 5)
                     .skip))
                   (.seq
                    (.reg
                    (.op ⟨(some 95), none, .faddr 0 (.tmp 6)⟩
                    (.op ⟨(some 96), none, .load none (.tmp 95)⟩
                    (.op ⟨(some 97), none, .mov (.tmp 16)⟩
                    (.op ⟨(some 98), none, .iaddr 4 (.tmp 96) (.tmp 97)⟩
                    (.op ⟨(some 99), none, .faddr 1 (.tmp 98)⟩
                    (.op ⟨(some 100), none, .load (some 3) (.tmp 99)⟩
                    (.op ⟨(some 17), none, .alloc [.int .i64 0, .nils, .nils]⟩
                    (.op ⟨none, none, .store 3 (.tmp 17) (.tmp 100)⟩
                    .nil)))))))))
                    (.seq
                     (.reg
                     (.op ⟨(some 101), none, .mov (.tmp 16)⟩
                     (.op ⟨(some 102), none, .load (some 3) (.tmp 17)⟩
                     (.op ⟨(some 103), none, .mov (.tmp 13)⟩
                     (.op ⟨(some 104), none, .load (some 2) (.tmp 5)⟩
                     (.op ⟨(some 105), none, .call 36 [(.tmp 101), (.tmp 102), (.tmp 103), (.tmp 104)]⟩
                     (.op ⟨(some 106), none, .not (.tmp 105)⟩
                     (.op ⟨(some 107), none, .mov (.tmp 106)⟩
                     (.ite 107 false
                      (.op ⟨(some 108), (some (107, false)), .mov (.tmp 16)⟩
                      (.op ⟨(some 109), (some (107, false)), .load (some 3) (.tmp 17)⟩
                      (.op ⟨(some 110), (some (107, false)), .mov (.tmp 14)⟩
                      (.op ⟨(some 111), (some (107, false)), .load (some 2) (.tmp 5)⟩
                      (.op ⟨(some 112), (some (107, false)), .call 40 [(.tmp 108), (.tmp 109), (.tmp 110), (.tmp 111)]⟩
                      (.op ⟨(some 113), (some (107, false)), .not (.tmp 112)⟩
                      .nil))))))
                      114 none (.cst (.bool true)) (.tmp 113)
                     (.op ⟨(some 115), none, .mov (.tmp 114)⟩
                     (.ite 115 false
                      (.op ⟨(some 116), (some (115, false)), .mov (.tmp 16)⟩
                      (.op ⟨(some 117), (some (115, false)), .load (some 3) (.tmp 17)⟩
                      (.op ⟨(some 118), (some (115, false)), .mov (.tmp 13)⟩
                      (.op ⟨(some 119), (some (115, false)), .load (some 2) (.tmp 5)⟩
                      (.op ⟨(some 120), (some (115, false)), .call 40 [(.tmp 116), (.tmp 117), (.tmp 118), (.tmp 119)]⟩
                      .nil)))))
                      121 none (.cst (.bool true)) (.tmp 120)
                     .nil)))))))))))
                     (.cond (.tmp 121)
                      (.seq
                       (.reg
                       (.op ⟨(some 2), none, .mov (.cst (.bool false))⟩
                       .nil))
                       .ret)
                      .skip)))))
                 (.reg
                 (.op ⟨(some 87), none, .mov (.tmp 16)⟩
                 (.op ⟨(some 88), none, .bin .add (.tmp 87) (.cst (.int .i64 1))⟩
                 (.op ⟨(some 16), none, .mov (.tmp 88)⟩
                 .nil)))))))))
            (.seq
             (.reg
             (.op ⟨(some 122), none, .call 24 []⟩
             (.op ⟨(some 2), none, .mov (.tmp 122)⟩
             .nil)))
             .ret))))))))))))
theorem ok_law25_PrepareQuorum : FnOk Try.prog 9 123 (SA.erase sa_law25_PrepareQuorum) [.tmp 2] := ⟨Try.f9, [], Try.func9, rfl, by kernel_rfl, by kernel_rfl, by kernel_rfl⟩
noncomputable def F_law25_PrepareQuorum (a0 : (List Int)) : Option Bool :=
Option.bind (F_play_New a0) fun r1 =>
Option.bind (F_play_Src_Range r1 (1 : Int) (5 : Int)) fun p2 =>
Option.bind (F_play_Src_Low p2.2) fun p3 =>
loopO (fun (v4 : Int × (List TEnvelope) × (List TEnvelope) × TSrc × TConfig × (List TMember) × Unit) =>
bif (decide (v4.1 < p2.1)) then
Option.bind (F_play_Src_Trust v4.2.2.2.1 p2.1) fun p5 =>
bif lenOk 64 (List.length v4.2.2.2.2.2.1 + List.length [(TMember.mk true (TTrust.mk p5.1.Threshold p5.1.Nodes p5.1.Inner))]) then
bif lenOk 176 (List.length v4.2.1 + List.length [(TEnvelope.mk v4.1 (1 : Int) (1 : Int) (TTrust.mk p5.1.Threshold p5.1.Nodes p5.1.Inner) (1 : Int) p3.1 (TBallot.mk (0 : Int) (ByteArray.mk #[])) (TBallot.mk (0 : Int) (ByteArray.mk #[])) (0 : Int) (0 : Int))]) then
bif lenOk 176 (List.length v4.2.2.1 + List.length [(TEnvelope.mk v4.1 (1 : Int) (1 : Int) (TTrust.mk p5.1.Threshold p5.1.Nodes p5.1.Inner) (1 : Int) p3.1 p3.1 (TBallot.mk (0 : Int) (ByteArray.mk #[])) (0 : Int) (0 : Int))]) then
some (Sum.inl ((addI .i64 v4.1 (1 : Int)), (v4.2.1 ++ [(TEnvelope.mk v4.1 (1 : Int) (1 : Int) (TTrust.mk p5.1.Threshold p5.1.Nodes p5.1.Inner) (1 : Int) p3.1 (TBallot.mk (0 : Int) (ByteArray.mk #[])) (TBallot.mk (0 : Int) (ByteArray.mk #[])) (0 : Int) (0 : Int))]), (v4.2.2.1 ++ [(TEnvelope.mk v4.1 (1 : Int) (1 : Int) (TTrust.mk p5.1.Threshold p5.1.Nodes p5.1.Inner) (1 : Int) p3.1 p3.1 (TBallot.mk (0 : Int) (ByteArray.mk #[])) (0 : Int) (0 : Int))]), p5.2, (TConfig.mk ([] : List TMember)), (v4.2.2.2.2.2.1 ++ [(TMember.mk true (TTrust.mk p5.1.Threshold p5.1.Nodes p5.1.Inner))]), ()))
else none
else none
else none
else
Option.map Sum.inr (if (convI .u64 p2.1) < 0 then none else
Option.bind (F_ref09_Greatest (TConfig.mk v4.2.2.2.2.2.1) (subI .i64 (shlI .i64 (1 : Int) (convI .u64 p2.1)) (1 : Int))) fun r6 =>
loopO (fun (v7 : Int × (List TEnvelope) × (List TEnvelope) × Unit) =>
bif (decide (v7.1 < p2.1)) then
letJ (fun (v8 : (List TEnvelope) × (List TEnvelope) × Unit) =>
some (Sum.inl ((addI .i64 v7.1 (1 : Int)), v8.1, v8.2.1, ()))) fun j9 =>
if (convI .u64 v7.1) < 0 then none else
bif (decide ((andI .i64 (shrI .i64 r6 (convI .u64 v7.1)) (1 : Int)) = (1 : Int))) then
Option.bind (idx v4.2.1 v7.1) fun x10 =>
Option.bind (v4.2.1[(Int.toNat v7.1)]?) fun x11 =>
bif lenOk 176 (List.length v7.2.1 + List.length [(TEnvelope.mk x11.Node x11.Slot x11.Seq (TTrust.mk x11.Trust.Threshold x11.Trust.Nodes x11.Trust.Inner) x11.Kind x11.Ballot x11.Prepared x11.Prime x11.Low x11.High)]) then
Option.bind (idx v4.2.2.1 v7.1) fun x12 =>
Option.bind (v4.2.2.1[(Int.toNat v7.1)]?) fun x13 =>
bif lenOk 176 (List.length v7.2.2.1 + List.length [(TEnvelope.mk x13.Node x13.Slot x13.Seq (TTrust.mk x13.Trust.Threshold x13.Trust.Nodes x13.Trust.Inner) x13.Kind x13.Ballot x13.Prepared x13.Prime x13.Low x13.High)]) then
j9 ((v7.2.1 ++ [(TEnvelope.mk x11.Node x11.Slot x11.Seq (TTrust.mk x11.Trust.Threshold x11.Trust.Nodes x11.Trust.Inner) x11.Kind x11.Ballot x11.Prepared x11.Prime x11.Low x11.High)]), (v7.2.2.1 ++ [(TEnvelope.mk x13.Node x13.Slot x13.Seq (TTrust.mk x13.Trust.Threshold x13.Trust.Nodes x13.Trust.Inner) x13.Kind x13.Ballot x13.Prepared x13.Prime x13.Low x13.High)]), ())
else none
else none
else
j9 (v7.2.1, v7.2.2.1, ())
else
Option.map Sum.inr (loopO (fun (v14 : Int × Unit) =>
bif (decide (v14.1 < p2.1)) then
letJ (fun (v15 : Unit) =>
some (Sum.inl ((addI .i64 v14.1 (1 : Int)), ()))) fun j16 =>
if (convI .u64 v14.1) < 0 then none else
bif (decide ((andI .i64 (shrI .i64 r6 (convI .u64 v14.1)) (1 : Int)) = (0 : Int))) then
j16 (())
else
Option.bind (idx v4.2.2.2.2.2.1 v14.1) fun x17 =>
Option.bind (v4.2.2.2.2.2.1[(Int.toNat v14.1)]?) fun x18 =>
Option.bind (v4.2.2.2.2.2.1[(Int.toNat v14.1)]?) fun x19 =>
Option.bind (F_prepare_Accepts v14.1 (TTrust.mk x19.Trust.Threshold x19.Trust.Nodes x19.Trust.Inner) v7.2.1 p3.1) fun r20 =>
Option.bind (bif (!r20) then some true
else
Option.bind (F_prepare_Confirms v14.1 (TTrust.mk x19.Trust.Threshold x19.Trust.Nodes x19.Trust.Inner) v7.2.2.1 p3.1) fun r21 =>
some (!r21)) fun b22 =>
Option.bind (bif b22 then some true
else
Option.bind (F_prepare_Confirms v14.1 (TTrust.mk x19.Trust.Threshold x19.Trust.Nodes x19.Trust.Inner) v7.2.1 p3.1) fun r23 =>
some r23) fun b24 =>
bif b24 then
Option.map Sum.inr (some false)
else
j16 (())
else
Option.map Sum.inr (Option.bind (F_law25_sane) fun r25 =>
some r25)) ((0 : Int), ()))) ((0 : Int), ([] : List TEnvelope), ([] : List TEnvelope), ()))) ((0 : Int), ([] : List TEnvelope), ([] : List TEnvelope), p3.2, (TConfig.mk ([] : List TMember)), ([] : List TMember), ())
theorem e_law25_PrepareQuorum : fnK K [.nw 11 [.ty (Ty.sl (Ty.i .i64))] (Ty.st .Src) fun a => F_play_New a.1, .rc 26 (Ty.st .Src) [.ty (Ty.i .i64), .ty (Ty.i .i64)] (.one (Ty.i .i64)) fun s a => F_play_Src_Range s a.1 a.2.1, .rc 18 (Ty.st .Src) [] (.one (Ty.st .Ballot)) fun s a => F_play_Src_Low s , .rc 31 (Ty.st .Src) [.ty (Ty.i .i64)] (.one (Ty.st .Trust)) fun s a => F_play_Src_Trust s a.1, .fn 39 [.ty (Ty.st .Config), .ty (Ty.i .i64)] (.one (Ty.i .i64)) fun a => F_ref09_Greatest a.1 a.2.1, .fn 36 [.ty (Ty.i .i64), .ty (Ty.st .Trust), .ty (Ty.sl (Ty.st .Envelope)), .ty (Ty.st .Ballot)] (.one Ty.bool) fun a => F_prepare_Accepts a.1 a.2.1 a.2.2.1 a.2.2.2.1, .fn 40 [.ty (Ty.i .i64), .ty (Ty.st .Trust), .ty (Ty.sl (Ty.st .Envelope)), .ty (Ty.st .Ballot)] (.one Ty.bool) fun a => F_prepare_Confirms a.1 a.2.1 a.2.2.1 a.2.2.2.1, .fn 24 [] (.one Ty.bool) fun a => F_law25_sane ] sa_law25_PrepareQuorum [.tmp 2] [.ty (Ty.sl (Ty.i .i64))] (.one Ty.bool) = fun a => F_law25_PrepareQuorum a.1 := by kernel_rfl
theorem s_law25_PrepareQuorum : KFun.Sound (U := U) Try.prog (.fn 9 [.ty (Ty.sl (Ty.i .i64))] (.one Ty.bool) fun a => F_law25_PrepareQuorum a.1) := fnK_sound (K := K) (Γ := [.nw 11 [.ty (Ty.sl (Ty.i .i64))] (Ty.st .Src) fun a => F_play_New a.1, .rc 26 (Ty.st .Src) [.ty (Ty.i .i64), .ty (Ty.i .i64)] (.one (Ty.i .i64)) fun s a => F_play_Src_Range s a.1 a.2.1, .rc 18 (Ty.st .Src) [] (.one (Ty.st .Ballot)) fun s a => F_play_Src_Low s , .rc 31 (Ty.st .Src) [.ty (Ty.i .i64)] (.one (Ty.st .Trust)) fun s a => F_play_Src_Trust s a.1, .fn 39 [.ty (Ty.st .Config), .ty (Ty.i .i64)] (.one (Ty.i .i64)) fun a => F_ref09_Greatest a.1 a.2.1, .fn 36 [.ty (Ty.i .i64), .ty (Ty.st .Trust), .ty (Ty.sl (Ty.st .Envelope)), .ty (Ty.st .Ballot)] (.one Ty.bool) fun a => F_prepare_Accepts a.1 a.2.1 a.2.2.1 a.2.2.2.1, .fn 40 [.ty (Ty.i .i64), .ty (Ty.st .Trust), .ty (Ty.sl (Ty.st .Envelope)), .ty (Ty.st .Ballot)] (.one Ty.bool) fun a => F_prepare_Confirms a.1 a.2.1 a.2.2.1 a.2.2.2.1, .fn 24 [] (.one Ty.bool) fun a => F_law25_sane ]) ok_law25_PrepareQuorum (by kernel_rfl) (by decide) ⟨s_play_New, s_play_Src_Range, s_play_Src_Low, s_play_Src_Trust, s_ref09_Greatest, s_prepare_Accepts, s_prepare_Confirms, s_law25_sane, trivial⟩ (fun a => congrFun e_law25_PrepareQuorum a)

/-! ### trustquorum/trustquorumlaw26.commits -/
def sa_law26_commits : SA U :=
 (.seq
  (.reg
  (.op ⟨(some 0), none, .mov (.cst (.nils))⟩
  .nil))
  (.seq
   (.reg
   (.op ⟨(some 1), none, .mov (.cst (.nils))⟩
   .nil))
   (.seq
    (.seq
     (.reg
     (.op ⟨(some 2), none, .mov (.cst (.int .i64 0))⟩
     .nil))
     (.block 0
      (.ps (.own 1 31 15 (Ty.st .Envelope))
      (.loop ⟨[.val 2 (Ty.i .i64), .own 1 3 1 31 15 (Ty.st .Envelope)], []⟩
       (.seq
        (.seq
         (.reg
         (.op ⟨(some 4), none, .mov (.tmp 2)⟩
         (.op ⟨(some 5), none, .bin .lss (.tmp 4) (.cst (.int .i64 3))⟩
         .nil)))
         (.cond (.tmp 5)
          .skip
          (.exit 0)))
        (.seq
         (.block 1
          (.seq
           (.reg
           (.op ⟨(some 8), none, .mov (.tmp 2)⟩
           (.op ⟨(some 9), none, .call 41 [(.cst (.int .i64 3)), (.cst (.int .i64 3))]⟩
           (.op ⟨(some 10), none, .build [.int .i64 0, .str ⟨#[]⟩] [(0, 1, (.cst (.int .i64 5))), (1, 1, (.cst (.str ⟨#[97]⟩)))]⟩
           (.op ⟨(some 11), none, .build [.int .i64 0, .str ⟨#[]⟩] [(0, 1, (.cst (.int .i64 5))), (1, 1, (.cst (.str ⟨#[97]⟩)))]⟩
           (.op ⟨(some 12), none, .build [.int .i64 0, .int .i64 0, .int .i64 0, .int .i64 0, .nils, .nils, .int .i64 0, .int .i64 0, .str ⟨#[]⟩, .int .i64 0, .str ⟨#[]⟩, .int .i64 0, .str ⟨#[]⟩, .int .i64 0, .int .i64 0] [(0, 1, (.tmp 8)), (1, 1, (.cst (.int .i64 1))), (2, 1, (.cst (.int .i64 1))), (3, 3, (.tmp 9)), (6, 1, (.cst (.int .i64 2))), (7, 2, (.tmp 10)), (9, 2, (.tmp 11)), (13, 1, (.cst (.int .i64 2))), (14, 1, (.cst (.int .i64 5)))]⟩
           (.op ⟨(some 3), none, .alloc [.int .i64 0, .int .i64 0, .int .i64 0, .int .i64 0, .nils, .nils, .int .i64 0, .int .i64 0, .str ⟨#[]⟩, .int .i64 0, .str ⟨#[]⟩, .int .i64 0, .str ⟨#[]⟩, .int .i64 0, .int .i64 0]⟩
           (.op ⟨none, none, .store 15 (.tmp 3) (.tmp 12)⟩
           .nil))))))))
           (.join ⟨[.box 11 1 (Ty.st .Envelope) []], [1, 2, 3]⟩
            (.seq
             (.reg
             (.op ⟨(some 13), none, .mov (.tmp 2)⟩
             (.op ⟨(some 14), none, .bin .eql (.tmp 13) (.cst (.int .i64 1))⟩
             .nil)))
             (.cond (.tmp 14)
              (.reg
              (.op ⟨(some 15), none, .faddr 13 (.tmp 3)⟩
              (.op ⟨none, none, .store 1 (.tmp 15) (.cst (.int .i64 3))⟩
              .nil)))
              .skip))
            (.reg
            (.op ⟨(some 16), none, .mov (.tmp 1)⟩
            (.op ⟨(some 17), none, .load (some 15) (.tmp 3)⟩
            (.op ⟨(some 18), none, .bsl false 31 15 (List.replicate 1 [.int .i64 0, .int .i64 0, .int .i64 0, .int .i64 0, .nils, .nils, .int .i64 0, .int .i64 0, .str ⟨#[]⟩, .int .i64 0, .str ⟨#[]⟩, .int .i64 0, .str ⟨#[]⟩, .int .i64 0, .int .i64 0]) [(0, (.tmp 17))]⟩
            (.op ⟨(some 19), none, .app 31 15 176 (.tmp 16) (.tmp 18)⟩
            (.op ⟨(some 1), none, .mov (.tmp 19)⟩
            .nil)))))))))
         (.reg
         (.op ⟨(some 6), none, .mov (.tmp 2)⟩
         (.op ⟨(some 7), none, .bin .add (.tmp 6) (.cst (.int .i64 1))⟩
         (.op ⟨(some 2), none, .mov (.tmp 7)⟩
         .nil))))))))))
    (.seq
     (.reg
     (.op ⟨(some 20), none, .mov (.tmp 1)⟩
     (.op ⟨(some 0), none, .mov (.tmp 20)⟩
     .nil)))
     .ret))))
theorem ok_law26_commits : FnOk Try.prog 85 21 (SA.erase sa_law26_commits) [.tmp 0] := ⟨Try.f85, [], Try.func85, rfl, by kernel_rfl, by kernel_rfl, by kernel_rfl⟩
noncomputable def F_law26_commits  : Option (List TEnvelope) :=
loopO (fun (v1 : Int × (List TEnvelope) × Unit) =>
bif (decide (v1.1 < (3 : Int))) then
Option.bind (F_play_Flat (3 : Int) (3 : Int)) fun r2 =>
letJ (fun (v3 : TEnvelope × Unit) =>
bif lenOk 176 (List.length v1.2.1 + List.length [(TEnvelope.mk v3.1.Node v3.1.Slot v3.1.Seq (TTrust.mk v3.1.Trust.Threshold v3.1.Trust.Nodes v3.1.Trust.Inner) v3.1.Kind v3.1.Ballot v3.1.Prepared v3.1.Prime v3.1.Low v3.1.High)]) then
some (Sum.inl ((addI .i64 v1.1 (1 : Int)), (v1.2.1 ++ [(TEnvelope.mk v3.1.Node v3.1.Slot v3.1.Seq (TTrust.mk v3.1.Trust.Threshold v3.1.Trust.Nodes v3.1.Trust.Inner) v3.1.Kind v3.1.Ballot v3.1.Prepared v3.1.Prime v3.1.Low v3.1.High)]), ()))
else none) fun j4 =>
bif (decide (v1.1 = (1 : Int))) then
j4 ((TEnvelope.mk v1.1 (1 : Int) (1 : Int) (TTrust.mk r2.Threshold r2.Nodes r2.Inner) (2 : Int) (TBallot.mk (5 : Int) (ByteArray.mk #[97])) (TBallot.mk (5 : Int) (ByteArray.mk #[97])) (TBallot.mk (0 : Int) (ByteArray.mk #[])) (3 : Int) (5 : Int)), ())
else
j4 ((TEnvelope.mk v1.1 (1 : Int) (1 : Int) (TTrust.mk r2.Threshold r2.Nodes r2.Inner) (2 : Int) (TBallot.mk (5 : Int) (ByteArray.mk #[97])) (TBallot.mk (5 : Int) (ByteArray.mk #[97])) (TBallot.mk (0 : Int) (ByteArray.mk #[])) (2 : Int) (5 : Int)), ())
else
Option.map Sum.inr (some v1.2.1)) ((0 : Int), ([] : List TEnvelope), ())
theorem e_law26_commits : fnK K [.fn 41 [.ty (Ty.i .i64), .ty (Ty.i .i64)] (.one (Ty.st .Trust)) fun a => F_play_Flat a.1 a.2.1] sa_law26_commits [.tmp 0] [] (.one (Ty.sl (Ty.st .Envelope))) = fun a => F_law26_commits  := by kernel_rfl
theorem s_law26_commits : KFun.Sound (U := U) Try.prog (.fn 85 [] (.one (Ty.sl (Ty.st .Envelope))) fun a => F_law26_commits ) := fnK_sound (K := K) (Γ := [.fn 41 [.ty (Ty.i .i64), .ty (Ty.i .i64)] (.one (Ty.st .Trust)) fun a => F_play_Flat a.1 a.2.1]) ok_law26_commits (by kernel_rfl) (by decide) ⟨s_play_Flat, trivial⟩ (fun a => congrFun e_law26_commits a)

/-! ### slices.Backward[[]int,int] -/
def sa_slices_Backward_int_int : SA U :=
 (.seq
  (.reg
  (.op ⟨(some 1), none, .box (.tmp 0)⟩
  (.op ⟨(some 2), none, .mov (.cst (.any))⟩
  .nil)))
  (.seq
   (.reg
   (.op ⟨(some 3), none, .mkf 112 [(.tmp 1)]⟩
   (.op ⟨(some 2), none, .mov (.tmp 3)⟩
   .nil)))
   .ret))
theorem ok_slices_Backward_int_int : FnOk Try.prog 78 4 (SA.erase sa_slices_Backward_int_int) [.tmp 2] := ⟨Try.f78, [], Try.func78, rfl, by kernel_rfl, by kernel_rfl, by kernel_rfl⟩
noncomputable def F_slices_Backward_int_int (a0 : (List Int)) : Option ((List Int) × Unit) :=
some (a0, ())
theorem e_slices_Backward_int_int : fnK K [] sa_slices_Backward_int_int [.tmp 2] [.ty (Ty.sl (Ty.i .i64))] (.fn (.clo 112 [.ref (.ty (Ty.sl (Ty.i .i64)))])) = fun a => F_slices_Backward_int_int a.1 := by kernel_rfl
theorem s_slices_Backward_int_int : KFun.Sound (U := U) Try.prog (.fn 78 [.ty (Ty.sl (Ty.i .i64))] (.fn (.clo 112 [.ref (.ty (Ty.sl (Ty.i .i64)))])) fun a => F_slices_Backward_int_int a.1) := fnK_sound (K := K) (Γ := []) ok_slices_Backward_int_int (by kernel_rfl) (by decide) trivial (fun a => congrFun e_slices_Backward_int_int a)

/-! ### trustquorum/commit.accepts -/
def sa_commit_accepts : SA U :=
 (.seq
  (.reg
  (.op ⟨(some 3), none, .box (.tmp 0)⟩
  (.op ⟨(some 4), none, .box (.tmp 1)⟩
  (.op ⟨(some 5), none, .box (.tmp 2)⟩
  (.op ⟨(some 6), none, .mov (.cst (.any))⟩
  .nil)))))
  (.seq
   (.reg
   (.op ⟨(some 7), none, .mkf 134 [(.tmp 3), (.tmp 4), (.tmp 5)]⟩
   (.op ⟨(some 6), none, .mov (.tmp 7)⟩
   .nil)))
   .ret))
theorem ok_commit_accepts : FnOk Try.prog 114 8 (SA.erase sa_commit_accepts) [.tmp 6] := ⟨Try.f114, [], Try.func114, rfl, by kernel_rfl, by kernel_rfl, by kernel_rfl⟩
noncomputable def F_commit_accepts (a0 : ByteArray) (a1 : Int) (a2 : Int) : Option (ByteArray × Int × Int × Unit) :=
some (a0, a1, a2, ())
theorem e_commit_accepts : fnK K [] sa_commit_accepts [.tmp 6] [.ty Ty.str, .ty (Ty.i .i64), .ty (Ty.i .i64)] (.fn (.clo 134 [.ref (.ty Ty.str), .ref (.ty (Ty.i .i64)), .ref (.ty (Ty.i .i64))])) = fun a => F_commit_accepts a.1 a.2.1 a.2.2.1 := by kernel_rfl
theorem s_commit_accepts : KFun.Sound (U := U) Try.prog (.fn 114 [.ty Ty.str, .ty (Ty.i .i64), .ty (Ty.i .i64)] (.fn (.clo 134 [.ref (.ty Ty.str), .ref (.ty (Ty.i .i64)), .ref (.ty (Ty.i .i64))])) fun a => F_commit_accepts a.1 a.2.1 a.2.2.1) := fnK_sound (K := K) (Γ := []) ok_commit_accepts (by kernel_rfl) (by decide) trivial (fun a => congrFun e_commit_accepts a)

/-! ### trustquorum/commit.ready$1 -/
def sa_commit_ready_1 : SA U :=
 (.seq
  (.reg
  (.op ⟨(some 4), none, .box (.tmp 0)⟩
  (.op ⟨(some 5), none, .mov (.cst (.bool false))⟩
  .nil)))
  (.seq
   (.reg
   (.op ⟨(some 6), none, .load (some 15) (.tmp 4)⟩
   (.op ⟨(some 7), none, .load none (.tmp 1)⟩
   (.op ⟨(some 8), none, .load none (.tmp 2)⟩
   (.op ⟨(some 9), none, .load none (.tmp 3)⟩
   (.op ⟨(some 10), none, .call 47 [(.tmp 6), (.tmp 7), (.tmp 8), (.tmp 9)]⟩
   (.op ⟨(some 5), none, .mov (.tmp 10)⟩
   .nil)))))))
   .ret))
theorem ok_commit_ready_1 : FnOk Try.prog 113 11 (SA.erase sa_commit_ready_1) [.tmp 5] := ⟨Try.f113, [], Try.func113, rfl, by kernel_rfl, by kernel_rfl, by kernel_rfl⟩
noncomputable def F_commit_ready_1 (a0 : TRight) (a1 : ByteArray) (a2 : Int) (a3 : Int) : Option Bool :=
Option.bind (F_envelopes_Right_VotesCommit (TRight.mk (TEnvelope.mk a0.Envelope.Node a0.Envelope.Slot a0.Envelope.Seq (TTrust.mk a0.Envelope.Trust.Threshold a0.Envelope.Trust.Nodes a0.Envelope.Trust.Inner) a0.Envelope.Kind a0.Envelope.Ballot a0.Envelope.Prepared a0.Envelope.Prime a0.Envelope.Low a0.Envelope.High)) a1 a2 a3) fun r1 =>
some r1
theorem e_commit_ready_1 : fnK K [.fn 47 [.ty (Ty.st .Right), .ty Ty.str, .ty (Ty.i .i64), .ty (Ty.i .i64)] (.one Ty.bool) fun a => F_envelopes_Right_VotesCommit a.1 a.2.1 a.2.2.1 a.2.2.2.1] sa_commit_ready_1 [.tmp 5] [.ty (Ty.st .Right), .ref (.ty Ty.str), .ref (.ty (Ty.i .i64)), .ref (.ty (Ty.i .i64))] (.one Ty.bool) = fun a => F_commit_ready_1 a.1 a.2.1 a.2.2.1 a.2.2.2.1 := by kernel_rfl
theorem s_commit_ready_1 : KFun.Sound (U := U) Try.prog (.fn 113 [.ty (Ty.st .Right), .ref (.ty Ty.str), .ref (.ty (Ty.i .i64)), .ref (.ty (Ty.i .i64))] (.one Ty.bool) fun a => F_commit_ready_1 a.1 a.2.1 a.2.2.1 a.2.2.2.1) := fnK_sound (K := K) (Γ := [.fn 47 [.ty (Ty.st .Right), .ty Ty.str, .ty (Ty.i .i64), .ty (Ty.i .i64)] (.one Ty.bool) fun a => F_envelopes_Right_VotesCommit a.1 a.2.1 a.2.2.1 a.2.2.2.1]) ok_commit_ready_1 (by kernel_rfl) (by decide) ⟨s_envelopes_Right_VotesCommit, trivial⟩ (fun a => congrFun e_commit_ready_1 a)

/-! ### trustquorum/commit.accepts$1 -/
def sa_commit_accepts_1 : SA U :=
 (.seq
  (.reg
  (.op ⟨(some 4), none, .box (.tmp 0)⟩
  (.op ⟨(some 5), none, .mov (.cst (.bool false))⟩
  .nil)))
  (.seq
   (.reg
   (.op ⟨(some 6), none, .load (some 15) (.tmp 4)⟩
   (.op ⟨(some 7), none, .load none (.tmp 1)⟩
   (.op ⟨(some 8), none, .load none (.tmp 2)⟩
   (.op ⟨(some 9), none, .load none (.tmp 3)⟩
   (.op ⟨(some 10), none, .call 57 [(.tmp 6), (.tmp 7), (.tmp 8), (.tmp 9)]⟩
   (.op ⟨(some 5), none, .mov (.tmp 10)⟩
   .nil)))))))
   .ret))
theorem ok_commit_accepts_1 : FnOk Try.prog 134 11 (SA.erase sa_commit_accepts_1) [.tmp 5] := ⟨Try.f134, [], Try.func134, rfl, by kernel_rfl, by kernel_rfl, by kernel_rfl⟩
noncomputable def F_commit_accepts_1 (a0 : TRight) (a1 : ByteArray) (a2 : Int) (a3 : Int) : Option Bool :=
Option.bind (F_envelopes_Right_AcceptsCommit (TRight.mk (TEnvelope.mk a0.Envelope.Node a0.Envelope.Slot a0.Envelope.Seq (TTrust.mk a0.Envelope.Trust.Threshold a0.Envelope.Trust.Nodes a0.Envelope.Trust.Inner) a0.Envelope.Kind a0.Envelope.Ballot a0.Envelope.Prepared a0.Envelope.Prime a0.Envelope.Low a0.Envelope.High)) a1 a2 a3) fun r1 =>
some r1
theorem e_commit_accepts_1 : fnK K [.fn 57 [.ty (Ty.st .Right), .ty Ty.str, .ty (Ty.i .i64), .ty (Ty.i .i64)] (.one Ty.bool) fun a => F_envelopes_Right_AcceptsCommit a.1 a.2.1 a.2.2.1 a.2.2.2.1] sa_commit_accepts_1 [.tmp 5] [.ty (Ty.st .Right), .ref (.ty Ty.str), .ref (.ty (Ty.i .i64)), .ref (.ty (Ty.i .i64))] (.one Ty.bool) = fun a => F_commit_accepts_1 a.1 a.2.1 a.2.2.1 a.2.2.2.1 := by kernel_rfl
theorem s_commit_accepts_1 : KFun.Sound (U := U) Try.prog (.fn 134 [.ty (Ty.st .Right), .ref (.ty Ty.str), .ref (.ty (Ty.i .i64)), .ref (.ty (Ty.i .i64))] (.one Ty.bool) fun a => F_commit_accepts_1 a.1 a.2.1 a.2.2.1 a.2.2.2.1) := fnK_sound (K := K) (Γ := [.fn 57 [.ty (Ty.st .Right), .ty Ty.str, .ty (Ty.i .i64), .ty (Ty.i .i64)] (.one Ty.bool) fun a => F_envelopes_Right_AcceptsCommit a.1 a.2.1 a.2.2.1 a.2.2.2.1]) ok_commit_accepts_1 (by kernel_rfl) (by decide) ⟨s_envelopes_Right_AcceptsCommit, trivial⟩ (fun a => congrFun e_commit_accepts_1 a)

/-! ### (trustquorum/prepare.Seen).Accepts$1 -/
def sa_prepare_Seen_Accepts_1_c113_c134 : SA U :=
 (.seq
  (.reg
  (.op ⟨(some 3), none, .box (.tmp 0)⟩
  (.op ⟨(some 4), none, .mov (.cst (.bool false))⟩
  .nil)))
  (.seq
   (.reg
   (.op ⟨(some 5), none, .load none (.tmp 1)⟩
   (.op ⟨(some 6), none, .load (some 15) (.tmp 3)⟩
   (.op ⟨(some 7), none, .callv (.tmp 5) [(.tmp 6)]⟩
   (.op ⟨(some 8), none, .mov (.tmp 7)⟩
   (.ite 8 false
    (.op ⟨(some 9), (some (8, false)), .load none (.tmp 2)⟩
    (.op ⟨(some 10), (some (8, false)), .load (some 15) (.tmp 3)⟩
    (.op ⟨(some 11), (some (8, false)), .callv (.tmp 9) [(.tmp 10)]⟩
    .nil)))
    12 none (.cst (.bool true)) (.tmp 11)
   (.op ⟨(some 4), none, .mov (.tmp 12)⟩
   .nil)))))))
   .ret))
theorem ok_prepare_Seen_Accepts_1_c113_c134 : FnOk Try.prog 125 13 (SA.erase sa_prepare_Seen_Accepts_1_c113_c134) [.tmp 4] := ⟨Try.f125, [], Try.func125, rfl, by kernel_rfl, by kernel_rfl, by kernel_rfl⟩
noncomputable def F_prepare_Seen_Accepts_1_c113_c134 (a0 : TRight) (a1 : ByteArray) (a2 : Int) (a3 : Int) (a4 : ByteArray) (a5 : Int) (a6 : Int) : Option Bool :=
Option.bind (F_commit_ready_1 (TRight.mk (TEnvelope.mk a0.Envelope.Node a0.Envelope.Slot a0.Envelope.Seq (TTrust.mk a0.Envelope.Trust.Threshold a0.Envelope.Trust.Nodes a0.Envelope.Trust.Inner) a0.Envelope.Kind a0.Envelope.Ballot a0.Envelope.Prepared a0.Envelope.Prime a0.Envelope.Low a0.Envelope.High)) a1 a2 a3) fun r1 =>
Option.bind (bif r1 then some true
else
Option.bind (F_commit_accepts_1 (TRight.mk (TEnvelope.mk a0.Envelope.Node a0.Envelope.Slot a0.Envelope.Seq (TTrust.mk a0.Envelope.Trust.Threshold a0.Envelope.Trust.Nodes a0.Envelope.Trust.Inner) a0.Envelope.Kind a0.Envelope.Ballot a0.Envelope.Prepared a0.Envelope.Prime a0.Envelope.Low a0.Envelope.High)) a4 a5 a6) fun r2 =>
some r2) fun b3 =>
some b3
theorem e_prepare_Seen_Accepts_1_c113_c134 : fnK K [.fn 113 [.ty (Ty.st .Right), .ref (.ty Ty.str), .ref (.ty (Ty.i .i64)), .ref (.ty (Ty.i .i64))] (.one Ty.bool) fun a => F_commit_ready_1 a.1 a.2.1 a.2.2.1 a.2.2.2.1, .fn 134 [.ty (Ty.st .Right), .ref (.ty Ty.str), .ref (.ty (Ty.i .i64)), .ref (.ty (Ty.i .i64))] (.one Ty.bool) fun a => F_commit_accepts_1 a.1 a.2.1 a.2.2.1 a.2.2.2.1] sa_prepare_Seen_Accepts_1_c113_c134 [.tmp 4] [.ty (Ty.st .Right), .ref (.clo 113 [.ref (.ty Ty.str), .ref (.ty (Ty.i .i64)), .ref (.ty (Ty.i .i64))]), .ref (.clo 134 [.ref (.ty Ty.str), .ref (.ty (Ty.i .i64)), .ref (.ty (Ty.i .i64))])] (.one Ty.bool) = fun a => F_prepare_Seen_Accepts_1_c113_c134 a.1 a.2.1.1 a.2.1.2.1 a.2.1.2.2.1 a.2.2.1.1 a.2.2.1.2.1 a.2.2.1.2.2.1 := by kernel_rfl
theorem s_prepare_Seen_Accepts_1_c113_c134 : KFun.Sound (U := U) Try.prog (.fn 125 [.ty (Ty.st .Right), .ref (.clo 113 [.ref (.ty Ty.str), .ref (.ty (Ty.i .i64)), .ref (.ty (Ty.i .i64))]), .ref (.clo 134 [.ref (.ty Ty.str), .ref (.ty (Ty.i .i64)), .ref (.ty (Ty.i .i64))])] (.one Ty.bool) fun a => F_prepare_Seen_Accepts_1_c113_c134 a.1 a.2.1.1 a.2.1.2.1 a.2.1.2.2.1 a.2.2.1.1 a.2.2.1.2.1 a.2.2.1.2.2.1) := fnK_sound (K := K) (Γ := [.fn 113 [.ty (Ty.st .Right), .ref (.ty Ty.str), .ref (.ty (Ty.i .i64)), .ref (.ty (Ty.i .i64))] (.one Ty.bool) fun a => F_commit_ready_1 a.1 a.2.1 a.2.2.1 a.2.2.2.1, .fn 134 [.ty (Ty.st .Right), .ref (.ty Ty.str), .ref (.ty (Ty.i .i64)), .ref (.ty (Ty.i .i64))] (.one Ty.bool) fun a => F_commit_accepts_1 a.1 a.2.1 a.2.2.1 a.2.2.2.1]) ok_prepare_Seen_Accepts_1_c113_c134 (by kernel_rfl) (by decide) ⟨s_commit_ready_1, s_commit_accepts_1, trivial⟩ (fun a => congrFun e_prepare_Seen_Accepts_1_c113_c134 a)

/-! ### (trustquorum/prepare.Seen).Who -/
def sa_prepare_Seen_Who_c125_c113_c134 : SA U :=
 (.seq
  (.reg
  (.op ⟨(some 2), none, .box (.tmp 0)⟩
  (.op ⟨(some 4), none, .mov (.cst (.int .i64 0))⟩
  .nil)))
  (.seq
   (.reg
   (.op ⟨(some 5), none, .mov (.cst (.int .i64 0))⟩
   .nil))
   (.seq
    (.seq
     (.reg
     (.op ⟨(some 8), none, .faddr 2 (.tmp 2)⟩
     (.op ⟨(some 9), none, .load none (.tmp 8)⟩
     (.op ⟨(some 10), none, .len false (.tmp 9)⟩
     (.op ⟨(some 11), none, .mov (.cst (.int .i64 0))⟩
     .nil)))))
     (.block 0
      (.loop ⟨[.val 5 (Ty.i .i64), .val 11 (Ty.i .i64)], [1, 9, 10]⟩
       (.seq
        (.reg
        (.op ⟨(some 12), none, .bin .lss (.tmp 11) (.tmp 10)⟩
        .nil))
        (.seq
         (.cond (.tmp 12)
          .skip
          (.exit 0))
         (.join ⟨[.val 5 (Ty.i .i64)], [1, 9, 10, 11]⟩
          (.block 1
           (.seq
            (.reg
            (.op ⟨(some 13), none, .iaddr 15 (.tmp 9) (.tmp 11)⟩
            (.op ⟨(some 14), none, .load (some 15) (.tmp 13)⟩
            (.op ⟨(some 7), none, .alloc [.int .i64 0, .int .i64 0, .int .i64 0, .int .i64 0, .nils, .nils, .int .i64 0, .int .i64 0, .str ⟨#[]⟩, .int .i64 0, .str ⟨#[]⟩, .int .i64 0, .str ⟨#[]⟩, .int .i64 0, .int .i64 0]⟩
            (.op ⟨none, none, .store 15 (.tmp 7) (.tmp 14)⟩
            .nil)))))
            (.seq
             (.reg
             (.op ⟨(some 15), none, .mov (.tmp 1)⟩
             (.op ⟨(some 16), none, .load (some 15) (.tmp 7)⟩
             (.op ⟨(some 17), none, .callv (.tmp 15) [(.tmp 16)]⟩
             .nil))))
             (.cond (.tmp 17)
              (.reg
              (.op ⟨(some 18), none, .mov (.tmp 5)⟩
              (.op ⟨(some 19), none, .faddr 0 (.tmp 7)⟩
              (.op ⟨(some 20), none, .faddr 0 (.tmp 19)⟩
              (.op ⟨(some 21), none, .load none (.tmp 20)⟩
              (.op ⟨(some 22), none, .bin .shl (.cst (.int .i64 1)) (.tmp 21)⟩
              (.op ⟨(some 23), none, .bin .or (.tmp 18) (.tmp 22)⟩
              (.op ⟨(some 5), none, .mov (.tmp 23)⟩
              .nil))))))))
              .skip))))
          (.reg
          (.op ⟨(some 24), none, .bin .add (.tmp 11) (.cst (.int .i64 1))⟩
          (.op ⟨(some 11), none, .mov (.tmp 24)⟩
          .nil)))))))))
    (.seq
     (.reg
     (.op ⟨(some 25), none, .mov (.tmp 5)⟩
     (.op ⟨(some 4), none, .mov (.tmp 25)⟩
     .nil)))
     .ret))))
theorem ok_prepare_Seen_Who_c125_c113_c134 : FnOk Try.prog 108 26 (SA.erase sa_prepare_Seen_Who_c125_c113_c134) [.tmp 4] := ⟨Try.f108, [], Try.func108, rfl, by kernel_rfl, by kernel_rfl, by kernel_rfl⟩
noncomputable def F_prepare_Seen_Who_c125_c113_c134 (a0 : TSeen) (a1 : ByteArray) (a2 : Int) (a3 : Int) (a4 : ByteArray) (a5 : Int) (a6 : Int) : Option Int :=
loopO (fun (v1 : Int × Int × Unit) =>
bif (decide (v1.2.1 < ((List.length a0.Heard : Nat) : Int))) then
letJ (fun (v2 : Int × Unit) =>
some (Sum.inl (v2.1, (addI .i64 v1.2.1 (1 : Int)), ()))) fun j3 =>
Option.bind (idx a0.Heard v1.2.1) fun x4 =>
Option.bind (F_prepare_Seen_Accepts_1_c113_c134 (TRight.mk (TEnvelope.mk x4.Envelope.Node x4.Envelope.Slot x4.Envelope.Seq (TTrust.mk x4.Envelope.Trust.Threshold x4.Envelope.Trust.Nodes x4.Envelope.Trust.Inner) x4.Envelope.Kind x4.Envelope.Ballot x4.Envelope.Prepared x4.Envelope.Prime x4.Envelope.Low x4.Envelope.High)) a1 a2 a3 a4 a5 a6) fun r5 =>
bif r5 then
if x4.Envelope.Node < 0 then none else
j3 ((orI .i64 v1.1 (shlI .i64 (1 : Int) x4.Envelope.Node)), ())
else
j3 (v1.1, ())
else
Option.map Sum.inr (some v1.1)) ((0 : Int), (0 : Int), ())
theorem e_prepare_Seen_Who_c125_c113_c134 : fnK K [.fn 125 [.ty (Ty.st .Right), .ref (.clo 113 [.ref (.ty Ty.str), .ref (.ty (Ty.i .i64)), .ref (.ty (Ty.i .i64))]), .ref (.clo 134 [.ref (.ty Ty.str), .ref (.ty (Ty.i .i64)), .ref (.ty (Ty.i .i64))])] (.one Ty.bool) fun a => F_prepare_Seen_Accepts_1_c113_c134 a.1 a.2.1.1 a.2.1.2.1 a.2.1.2.2.1 a.2.2.1.1 a.2.2.1.2.1 a.2.2.1.2.2.1] sa_prepare_Seen_Who_c125_c113_c134 [.tmp 4] [.ty (Ty.st .Seen), .clo 125 [.ref (.clo 113 [.ref (.ty Ty.str), .ref (.ty (Ty.i .i64)), .ref (.ty (Ty.i .i64))]), .ref (.clo 134 [.ref (.ty Ty.str), .ref (.ty (Ty.i .i64)), .ref (.ty (Ty.i .i64))])]] (.one (Ty.i .i64)) = fun a => F_prepare_Seen_Who_c125_c113_c134 a.1 a.2.1.1.1 a.2.1.1.2.1 a.2.1.1.2.2.1 a.2.1.2.1.1 a.2.1.2.1.2.1 a.2.1.2.1.2.2.1 := by kernel_rfl
theorem s_prepare_Seen_Who_c125_c113_c134 : KFun.Sound (U := U) Try.prog (.fn 108 [.ty (Ty.st .Seen), .clo 125 [.ref (.clo 113 [.ref (.ty Ty.str), .ref (.ty (Ty.i .i64)), .ref (.ty (Ty.i .i64))]), .ref (.clo 134 [.ref (.ty Ty.str), .ref (.ty (Ty.i .i64)), .ref (.ty (Ty.i .i64))])]] (.one (Ty.i .i64)) fun a => F_prepare_Seen_Who_c125_c113_c134 a.1 a.2.1.1.1 a.2.1.1.2.1 a.2.1.1.2.2.1 a.2.1.2.1.1 a.2.1.2.1.2.1 a.2.1.2.1.2.2.1) := fnK_sound (K := K) (Γ := [.fn 125 [.ty (Ty.st .Right), .ref (.clo 113 [.ref (.ty Ty.str), .ref (.ty (Ty.i .i64)), .ref (.ty (Ty.i .i64))]), .ref (.clo 134 [.ref (.ty Ty.str), .ref (.ty (Ty.i .i64)), .ref (.ty (Ty.i .i64))])] (.one Ty.bool) fun a => F_prepare_Seen_Accepts_1_c113_c134 a.1 a.2.1.1 a.2.1.2.1 a.2.1.2.2.1 a.2.2.1.1 a.2.2.1.2.1 a.2.2.1.2.2.1]) ok_prepare_Seen_Who_c125_c113_c134 (by kernel_rfl) (by decide) ⟨s_prepare_Seen_Accepts_1_c113_c134, trivial⟩ (fun a => congrFun e_prepare_Seen_Who_c125_c113_c134 a)

/-! ### (trustquorum/prepare.Seen).Who -/
def sa_prepare_Seen_Who_c134 : SA U :=
 (.seq
  (.reg
  (.op ⟨(some 2), none, .box (.tmp 0)⟩
  (.op ⟨(some 4), none, .mov (.cst (.int .i64 0))⟩
  .nil)))
  (.seq
   (.reg
   (.op ⟨(some 5), none, .mov (.cst (.int .i64 0))⟩
   .nil))
   (.seq
    (.seq
     (.reg
     (.op ⟨(some 8), none, .faddr 2 (.tmp 2)⟩
     (.op ⟨(some 9), none, .load none (.tmp 8)⟩
     (.op ⟨(some 10), none, .len false (.tmp 9)⟩
     (.op ⟨(some 11), none, .mov (.cst (.int .i64 0))⟩
     .nil)))))
     (.block 0
      (.loop ⟨[.val 5 (Ty.i .i64), .val 11 (Ty.i .i64)], [1, 9, 10]⟩
       (.seq
        (.reg
        (.op ⟨(some 12), none, .bin .lss (.tmp 11) (.tmp 10)⟩
        .nil))
        (.seq
         (.cond (.tmp 12)
          .skip
          (.exit 0))
         (.join ⟨[.val 5 (Ty.i .i64)], [1, 9, 10, 11]⟩
          (.block 1
           (.seq
            (.reg
            (.op ⟨(some 13), none, .iaddr 15 (.tmp 9) (.tmp 11)⟩
            (.op ⟨(some 14), none, .load (some 15) (.tmp 13)⟩
            (.op ⟨(some 7), none, .alloc [.int .i64 0, .int .i64 0, .int .i64 0, .int .i64 0, .nils, .nils, .int .i64 0, .int .i64 0, .str ⟨#[]⟩, .int .i64 0, .str ⟨#[]⟩, .int .i64 0, .str ⟨#[]⟩, .int .i64 0, .int .i64 0]⟩
            (.op ⟨none, none, .store 15 (.tmp 7) (.tmp 14)⟩
            .nil)))))
            (.seq
             (.reg
             (.op ⟨(some 15), none, .mov (.tmp 1)⟩
             (.op ⟨(some 16), none, .load (some 15) (.tmp 7)⟩
             (.op ⟨(some 17), none, .callv (.tmp 15) [(.tmp 16)]⟩
             .nil))))
             (.cond (.tmp 17)
              (.reg
              (.op ⟨(some 18), none, .mov (.tmp 5)⟩
              (.op ⟨(some 19), none, .faddr 0 (.tmp 7)⟩
              (.op ⟨(some 20), none, .faddr 0 (.tmp 19)⟩
              (.op ⟨(some 21), none, .load none (.tmp 20)⟩
              (.op ⟨(some 22), none, .bin .shl (.cst (.int .i64 1)) (.tmp 21)⟩
              (.op ⟨(some 23), none, .bin .or (.tmp 18) (.tmp 22)⟩
              (.op ⟨(some 5), none, .mov (.tmp 23)⟩
              .nil))))))))
              .skip))))
          (.reg
          (.op ⟨(some 24), none, .bin .add (.tmp 11) (.cst (.int .i64 1))⟩
          (.op ⟨(some 11), none, .mov (.tmp 24)⟩
          .nil)))))))))
    (.seq
     (.reg
     (.op ⟨(some 25), none, .mov (.tmp 5)⟩
     (.op ⟨(some 4), none, .mov (.tmp 25)⟩
     .nil)))
     .ret))))
theorem ok_prepare_Seen_Who_c134 : FnOk Try.prog 108 26 (SA.erase sa_prepare_Seen_Who_c134) [.tmp 4] := ⟨Try.f108, [], Try.func108, rfl, by kernel_rfl, by kernel_rfl, by kernel_rfl⟩
noncomputable def F_prepare_Seen_Who_c134 (a0 : TSeen) (a1 : ByteArray) (a2 : Int) (a3 : Int) : Option Int :=
loopO (fun (v1 : Int × Int × Unit) =>
bif (decide (v1.2.1 < ((List.length a0.Heard : Nat) : Int))) then
letJ (fun (v2 : Int × Unit) =>
some (Sum.inl (v2.1, (addI .i64 v1.2.1 (1 : Int)), ()))) fun j3 =>
Option.bind (idx a0.Heard v1.2.1) fun x4 =>
Option.bind (F_commit_accepts_1 (TRight.mk (TEnvelope.mk x4.Envelope.Node x4.Envelope.Slot x4.Envelope.Seq (TTrust.mk x4.Envelope.Trust.Threshold x4.Envelope.Trust.Nodes x4.Envelope.Trust.Inner) x4.Envelope.Kind x4.Envelope.Ballot x4.Envelope.Prepared x4.Envelope.Prime x4.Envelope.Low x4.Envelope.High)) a1 a2 a3) fun r5 =>
bif r5 then
if x4.Envelope.Node < 0 then none else
j3 ((orI .i64 v1.1 (shlI .i64 (1 : Int) x4.Envelope.Node)), ())
else
j3 (v1.1, ())
else
Option.map Sum.inr (some v1.1)) ((0 : Int), (0 : Int), ())
theorem e_prepare_Seen_Who_c134 : fnK K [.fn 134 [.ty (Ty.st .Right), .ref (.ty Ty.str), .ref (.ty (Ty.i .i64)), .ref (.ty (Ty.i .i64))] (.one Ty.bool) fun a => F_commit_accepts_1 a.1 a.2.1 a.2.2.1 a.2.2.2.1] sa_prepare_Seen_Who_c134 [.tmp 4] [.ty (Ty.st .Seen), .clo 134 [.ref (.ty Ty.str), .ref (.ty (Ty.i .i64)), .ref (.ty (Ty.i .i64))]] (.one (Ty.i .i64)) = fun a => F_prepare_Seen_Who_c134 a.1 a.2.1.1 a.2.1.2.1 a.2.1.2.2.1 := by kernel_rfl
theorem s_prepare_Seen_Who_c134 : KFun.Sound (U := U) Try.prog (.fn 108 [.ty (Ty.st .Seen), .clo 134 [.ref (.ty Ty.str), .ref (.ty (Ty.i .i64)), .ref (.ty (Ty.i .i64))]] (.one (Ty.i .i64)) fun a => F_prepare_Seen_Who_c134 a.1 a.2.1.1 a.2.1.2.1 a.2.1.2.2.1) := fnK_sound (K := K) (Γ := [.fn 134 [.ty (Ty.st .Right), .ref (.ty Ty.str), .ref (.ty (Ty.i .i64)), .ref (.ty (Ty.i .i64))] (.one Ty.bool) fun a => F_commit_accepts_1 a.1 a.2.1 a.2.2.1 a.2.2.2.1]) ok_prepare_Seen_Who_c134 (by kernel_rfl) (by decide) ⟨s_commit_accepts_1, trivial⟩ (fun a => congrFun e_prepare_Seen_Who_c134 a)

/-! ### (trustquorum/prepare.Seen).Accepts -/
def sa_prepare_Seen_Accepts_c113_c134 : SA U :=
 (.seq
  (.reg
  (.op ⟨(some 3), none, .box (.tmp 0)⟩
  (.op ⟨(some 4), none, .box (.tmp 1)⟩
  (.op ⟨(some 5), none, .box (.tmp 2)⟩
  (.op ⟨(some 6), none, .mov (.cst (.bool false))⟩
  .nil)))))
  (.seq
   (.reg
   (.op ⟨(some 8), none, .load (some 3) (.tmp 3)⟩
   (.op ⟨(some 9), none, .mkf 125 [(.tmp 4), (.tmp 5)]⟩
   (.op ⟨(some 10), none, .call 108 [(.tmp 8), (.tmp 9)]⟩
   (.op ⟨(some 7), none, .mov (.tmp 10)⟩
   .nil)))))
   (.seq
    (.drw [(0, 2), (1, 2), (0, 3), (1, 3), (0, 5), (1, 5), (2, 5), (3, 5), (0, 6), (1, 6), (2, 6), (3, 6), (5, 6), (0, 7), (1, 7), (2, 7), (3, 7)]
    (.op ⟨(some 11), none, .faddr 1 (.tmp 3)⟩
    (.op ⟨(some 12), none, .load (some 1) (.tmp 11)⟩
    (.op ⟨(some 13), none, .faddr 0 (.tmp 3)⟩
    (.op ⟨(some 14), none, .load none (.tmp 13)⟩
    (.op ⟨(some 15), none, .mov (.tmp 7)⟩
    (.op ⟨(some 16), none, .load (some 3) (.tmp 3)⟩
    (.op ⟨(some 17), none, .load none (.tmp 5)⟩
    (.op ⟨(some 18), none, .call 108 [(.tmp 16), (.tmp 17)]⟩
    (.op ⟨(some 19), none, .call 126 [(.tmp 12), (.tmp 14), (.tmp 15), (.tmp 18)]⟩
    (.op ⟨(some 6), none, .mov (.tmp 19)⟩
    .nil)))))))))))
    .ret)))
theorem ok_prepare_Seen_Accepts_c113_c134 : FnOk Try.prog 101 20 (SA.erase sa_prepare_Seen_Accepts_c113_c134) [.tmp 6] := ⟨Try.f101, [], Try.func101, rfl, by kernel_rfl, by kernel_rfl, by kernel_rfl⟩
noncomputable def F_prepare_Seen_Accepts_c113_c134 (a0 : TSeen) (a1 : ByteArray) (a2 : Int) (a3 : Int) (a4 : ByteArray) (a5 : Int) (a6 : Int) : Option Bool :=
Option.bind (F_prepare_Seen_Who_c125_c113_c134 a0 a1 a2 a3 a4 a5 a6) fun r1 =>
Option.bind (F_prepare_Seen_Who_c134 a0 a4 a5 a6) fun r2 =>
Option.bind (F_federated_Accepts a0.View a0.Node r1 r2) fun r3 =>
some r3
theorem e_prepare_Seen_Accepts_c113_c134 : fnK K [.fn 108 [.ty (Ty.st .Seen), .clo 125 [.ref (.clo 113 [.ref (.ty Ty.str), .ref (.ty (Ty.i .i64)), .ref (.ty (Ty.i .i64))]), .ref (.clo 134 [.ref (.ty Ty.str), .ref (.ty (Ty.i .i64)), .ref (.ty (Ty.i .i64))])]] (.one (Ty.i .i64)) fun a => F_prepare_Seen_Who_c125_c113_c134 a.1 a.2.1.1.1 a.2.1.1.2.1 a.2.1.1.2.2.1 a.2.1.2.1.1 a.2.1.2.1.2.1 a.2.1.2.1.2.2.1, .fn 108 [.ty (Ty.st .Seen), .clo 134 [.ref (.ty Ty.str), .ref (.ty (Ty.i .i64)), .ref (.ty (Ty.i .i64))]] (.one (Ty.i .i64)) fun a => F_prepare_Seen_Who_c134 a.1 a.2.1.1 a.2.1.2.1 a.2.1.2.2.1, .fn 126 [.ty (Ty.st .Config), .ty (Ty.i .i64), .ty (Ty.i .i64), .ty (Ty.i .i64)] (.one Ty.bool) fun a => F_federated_Accepts a.1 a.2.1 a.2.2.1 a.2.2.2.1] sa_prepare_Seen_Accepts_c113_c134 [.tmp 6] [.ty (Ty.st .Seen), .clo 113 [.ref (.ty Ty.str), .ref (.ty (Ty.i .i64)), .ref (.ty (Ty.i .i64))], .clo 134 [.ref (.ty Ty.str), .ref (.ty (Ty.i .i64)), .ref (.ty (Ty.i .i64))]] (.one Ty.bool) = fun a => F_prepare_Seen_Accepts_c113_c134 a.1 a.2.1.1 a.2.1.2.1 a.2.1.2.2.1 a.2.2.1.1 a.2.2.1.2.1 a.2.2.1.2.2.1 := by kernel_rfl
theorem s_prepare_Seen_Accepts_c113_c134 : KFun.Sound (U := U) Try.prog (.fn 101 [.ty (Ty.st .Seen), .clo 113 [.ref (.ty Ty.str), .ref (.ty (Ty.i .i64)), .ref (.ty (Ty.i .i64))], .clo 134 [.ref (.ty Ty.str), .ref (.ty (Ty.i .i64)), .ref (.ty (Ty.i .i64))]] (.one Ty.bool) fun a => F_prepare_Seen_Accepts_c113_c134 a.1 a.2.1.1 a.2.1.2.1 a.2.1.2.2.1 a.2.2.1.1 a.2.2.1.2.1 a.2.2.1.2.2.1) := fnK_sound (K := K) (Γ := [.fn 108 [.ty (Ty.st .Seen), .clo 125 [.ref (.clo 113 [.ref (.ty Ty.str), .ref (.ty (Ty.i .i64)), .ref (.ty (Ty.i .i64))]), .ref (.clo 134 [.ref (.ty Ty.str), .ref (.ty (Ty.i .i64)), .ref (.ty (Ty.i .i64))])]] (.one (Ty.i .i64)) fun a => F_prepare_Seen_Who_c125_c113_c134 a.1 a.2.1.1.1 a.2.1.1.2.1 a.2.1.1.2.2.1 a.2.1.2.1.1 a.2.1.2.1.2.1 a.2.1.2.1.2.2.1, .fn 108 [.ty (Ty.st .Seen), .clo 134 [.ref (.ty Ty.str), .ref (.ty (Ty.i .i64)), .ref (.ty (Ty.i .i64))]] (.one (Ty.i .i64)) fun a => F_prepare_Seen_Who_c134 a.1 a.2.1.1 a.2.1.2.1 a.2.1.2.2.1, .fn 126 [.ty (Ty.st .Config), .ty (Ty.i .i64), .ty (Ty.i .i64), .ty (Ty.i .i64)] (.one Ty.bool) fun a => F_federated_Accepts a.1 a.2.1 a.2.2.1 a.2.2.2.1]) ok_prepare_Seen_Accepts_c113_c134 (by kernel_rfl) (by decide) ⟨s_prepare_Seen_Who_c125_c113_c134, s_prepare_Seen_Who_c134, s_federated_Accepts, trivial⟩ (fun a => congrFun e_prepare_Seen_Accepts_c113_c134 a)

/-! ### trustquorum/commit.ready -/
def sa_commit_ready : SA U :=
 (.seq
  (.reg
  (.op ⟨(some 4), none, .box (.tmp 0)⟩
  (.op ⟨(some 5), none, .box (.tmp 1)⟩
  (.op ⟨(some 6), none, .box (.tmp 2)⟩
  (.op ⟨(some 7), none, .box (.tmp 3)⟩
  (.op ⟨(some 8), none, .mov (.cst (.bool false))⟩
  .nil))))))
  (.seq
   (.drw [(0, 2), (0, 3), (2, 3), (0, 4), (2, 4), (3, 4), (0, 5)]
   (.op ⟨(some 9), none, .load (some 3) (.tmp 4)⟩
   (.op ⟨(some 10), none, .mkf 113 [(.tmp 5), (.tmp 6), (.tmp 7)]⟩
   (.op ⟨(some 11), none, .load none (.tmp 5)⟩
   (.op ⟨(some 12), none, .load none (.tmp 6)⟩
   (.op ⟨(some 13), none, .load none (.tmp 7)⟩
   (.op ⟨(some 14), none, .call 114 [(.tmp 11), (.tmp 12), (.tmp 13)]⟩
   (.op ⟨(some 15), none, .call 101 [(.tmp 9), (.tmp 10), (.tmp 14)]⟩
   (.op ⟨(some 8), none, .mov (.tmp 15)⟩
   .nil)))))))))
   .ret))
theorem ok_commit_ready : FnOk Try.prog 79 16 (SA.erase sa_commit_ready) [.tmp 8] := ⟨Try.f79, [], Try.func79, rfl, by kernel_rfl, by kernel_rfl, by kernel_rfl⟩
noncomputable def F_commit_ready (a0 : TSeen) (a1 : ByteArray) (a2 : Int) (a3 : Int) : Option Bool :=
Option.bind (F_commit_accepts a1 a2 a3) fun r1 =>
Option.bind (F_prepare_Seen_Accepts_c113_c134 a0 a1 a2 a3 r1.1 r1.2.1 r1.2.2.1) fun r2 =>
some r2
theorem e_commit_ready : fnK K [.fn 114 [.ty Ty.str, .ty (Ty.i .i64), .ty (Ty.i .i64)] (.fn (.clo 134 [.ref (.ty Ty.str), .ref (.ty (Ty.i .i64)), .ref (.ty (Ty.i .i64))])) fun a => F_commit_accepts a.1 a.2.1 a.2.2.1, .fn 101 [.ty (Ty.st .Seen), .clo 113 [.ref (.ty Ty.str), .ref (.ty (Ty.i .i64)), .ref (.ty (Ty.i .i64))], .clo 134 [.ref (.ty Ty.str), .ref (.ty (Ty.i .i64)), .ref (.ty (Ty.i .i64))]] (.one Ty.bool) fun a => F_prepare_Seen_Accepts_c113_c134 a.1 a.2.1.1 a.2.1.2.1 a.2.1.2.2.1 a.2.2.1.1 a.2.2.1.2.1 a.2.2.1.2.2.1] sa_commit_ready [.tmp 8] [.ty (Ty.st .Seen), .ty Ty.str, .ty (Ty.i .i64), .ty (Ty.i .i64)] (.one Ty.bool) = fun a => F_commit_ready a.1 a.2.1 a.2.2.1 a.2.2.2.1 := by kernel_rfl
theorem s_commit_ready : KFun.Sound (U := U) Try.prog (.fn 79 [.ty (Ty.st .Seen), .ty Ty.str, .ty (Ty.i .i64), .ty (Ty.i .i64)] (.one Ty.bool) fun a => F_commit_ready a.1 a.2.1 a.2.2.1 a.2.2.2.1) := fnK_sound (K := K) (Γ := [.fn 114 [.ty Ty.str, .ty (Ty.i .i64), .ty (Ty.i .i64)] (.fn (.clo 134 [.ref (.ty Ty.str), .ref (.ty (Ty.i .i64)), .ref (.ty (Ty.i .i64))])) fun a => F_commit_accepts a.1 a.2.1 a.2.2.1, .fn 101 [.ty (Ty.st .Seen), .clo 113 [.ref (.ty Ty.str), .ref (.ty (Ty.i .i64)), .ref (.ty (Ty.i .i64))], .clo 134 [.ref (.ty Ty.str), .ref (.ty (Ty.i .i64)), .ref (.ty (Ty.i .i64))]] (.one Ty.bool) fun a => F_prepare_Seen_Accepts_c113_c134 a.1 a.2.1.1 a.2.1.2.1 a.2.1.2.2.1 a.2.2.1.1 a.2.2.1.2.1 a.2.2.1.2.2.1]) ok_commit_ready (by kernel_rfl) (by decide) ⟨s_commit_accepts, s_prepare_Seen_Accepts_c113_c134, trivial⟩ (fun a => congrFun e_commit_ready a)

/-! ### (trustquorum/prepare.Seen).Confirms -/
def sa_prepare_Seen_Confirms_c134 : SA U :=
 (.seq
  (.reg
  (.op ⟨(some 2), none, .box (.tmp 0)⟩
  (.op ⟨(some 4), none, .mov (.cst (.bool false))⟩
  .nil)))
  (.seq
   (.drw [(0, 2), (1, 2), (0, 3), (1, 3), (0, 4), (1, 4), (2, 4), (3, 4), (0, 6), (1, 6), (2, 6), (3, 6)]
   (.op ⟨(some 5), none, .faddr 1 (.tmp 2)⟩
   (.op ⟨(some 6), none, .load (some 1) (.tmp 5)⟩
   (.op ⟨(some 7), none, .faddr 0 (.tmp 2)⟩
   (.op ⟨(some 8), none, .load none (.tmp 7)⟩
   (.op ⟨(some 9), none, .load (some 3) (.tmp 2)⟩
   (.op ⟨(some 10), none, .mov (.tmp 1)⟩
   (.op ⟨(some 11), none, .call 108 [(.tmp 9), (.tmp 10)]⟩
   (.op ⟨(some 12), none, .call 107 [(.tmp 6), (.tmp 8), (.tmp 11)]⟩
   (.op ⟨(some 4), none, .mov (.tmp 12)⟩
   .nil))))))))))
   .ret))
theorem ok_prepare_Seen_Confirms_c134 : FnOk Try.prog 75 13 (SA.erase sa_prepare_Seen_Confirms_c134) [.tmp 4] := ⟨Try.f75, [], Try.func75, rfl, by kernel_rfl, by kernel_rfl, by kernel_rfl⟩
noncomputable def F_prepare_Seen_Confirms_c134 (a0 : TSeen) (a1 : ByteArray) (a2 : Int) (a3 : Int) : Option Bool :=
Option.bind (F_prepare_Seen_Who_c134 a0 a1 a2 a3) fun r1 =>
Option.bind (F_federated_Confirms a0.View a0.Node r1) fun r2 =>
some r2
theorem e_prepare_Seen_Confirms_c134 : fnK K [.fn 108 [.ty (Ty.st .Seen), .clo 134 [.ref (.ty Ty.str), .ref (.ty (Ty.i .i64)), .ref (.ty (Ty.i .i64))]] (.one (Ty.i .i64)) fun a => F_prepare_Seen_Who_c134 a.1 a.2.1.1 a.2.1.2.1 a.2.1.2.2.1, .fn 107 [.ty (Ty.st .Config), .ty (Ty.i .i64), .ty (Ty.i .i64)] (.one Ty.bool) fun a => F_federated_Confirms a.1 a.2.1 a.2.2.1] sa_prepare_Seen_Confirms_c134 [.tmp 4] [.ty (Ty.st .Seen), .clo 134 [.ref (.ty Ty.str), .ref (.ty (Ty.i .i64)), .ref (.ty (Ty.i .i64))]] (.one Ty.bool) = fun a => F_prepare_Seen_Confirms_c134 a.1 a.2.1.1 a.2.1.2.1 a.2.1.2.2.1 := by kernel_rfl
theorem s_prepare_Seen_Confirms_c134 : KFun.Sound (U := U) Try.prog (.fn 75 [.ty (Ty.st .Seen), .clo 134 [.ref (.ty Ty.str), .ref (.ty (Ty.i .i64)), .ref (.ty (Ty.i .i64))]] (.one Ty.bool) fun a => F_prepare_Seen_Confirms_c134 a.1 a.2.1.1 a.2.1.2.1 a.2.1.2.2.1) := fnK_sound (K := K) (Γ := [.fn 108 [.ty (Ty.st .Seen), .clo 134 [.ref (.ty Ty.str), .ref (.ty (Ty.i .i64)), .ref (.ty (Ty.i .i64))]] (.one (Ty.i .i64)) fun a => F_prepare_Seen_Who_c134 a.1 a.2.1.1 a.2.1.2.1 a.2.1.2.2.1, .fn 107 [.ty (Ty.st .Config), .ty (Ty.i .i64), .ty (Ty.i .i64)] (.one Ty.bool) fun a => F_federated_Confirms a.1 a.2.1 a.2.2.1]) ok_prepare_Seen_Confirms_c134 (by kernel_rfl) (by decide) ⟨s_prepare_Seen_Who_c134, s_federated_Confirms, trivial⟩ (fun a => congrFun e_prepare_Seen_Confirms_c134 a)

/-! ### trustquorum/commit.sure -/
def sa_commit_sure : SA U :=
 (.seq
  (.reg
  (.op ⟨(some 4), none, .box (.tmp 0)⟩
  (.op ⟨(some 8), none, .mov (.cst (.bool false))⟩
  .nil)))
  (.seq
   (.drw [(0, 4)]
   (.op ⟨(some 9), none, .load (some 3) (.tmp 4)⟩
   (.op ⟨(some 10), none, .mov (.tmp 1)⟩
   (.op ⟨(some 11), none, .mov (.tmp 2)⟩
   (.op ⟨(some 12), none, .mov (.tmp 3)⟩
   (.op ⟨(some 13), none, .call 114 [(.tmp 10), (.tmp 11), (.tmp 12)]⟩
   (.op ⟨(some 14), none, .call 75 [(.tmp 9), (.tmp 13)]⟩
   (.op ⟨(some 8), none, .mov (.tmp 14)⟩
   .nil))))))))
   .ret))
theorem ok_commit_sure : FnOk Try.prog 83 15 (SA.erase sa_commit_sure) [.tmp 8] := ⟨Try.f83, [], Try.func83, rfl, by kernel_rfl, by kernel_rfl, by kernel_rfl⟩
noncomputable def F_commit_sure (a0 : TSeen) (a1 : ByteArray) (a2 : Int) (a3 : Int) : Option Bool :=
Option.bind (F_commit_accepts a1 a2 a3) fun r1 =>
Option.bind (F_prepare_Seen_Confirms_c134 a0 r1.1 r1.2.1 r1.2.2.1) fun r2 =>
some r2
theorem e_commit_sure : fnK K [.fn 114 [.ty Ty.str, .ty (Ty.i .i64), .ty (Ty.i .i64)] (.fn (.clo 134 [.ref (.ty Ty.str), .ref (.ty (Ty.i .i64)), .ref (.ty (Ty.i .i64))])) fun a => F_commit_accepts a.1 a.2.1 a.2.2.1, .fn 75 [.ty (Ty.st .Seen), .clo 134 [.ref (.ty Ty.str), .ref (.ty (Ty.i .i64)), .ref (.ty (Ty.i .i64))]] (.one Ty.bool) fun a => F_prepare_Seen_Confirms_c134 a.1 a.2.1.1 a.2.1.2.1 a.2.1.2.2.1] sa_commit_sure [.tmp 8] [.ty (Ty.st .Seen), .ty Ty.str, .ty (Ty.i .i64), .ty (Ty.i .i64)] (.one Ty.bool) = fun a => F_commit_sure a.1 a.2.1 a.2.2.1 a.2.2.2.1 := by kernel_rfl
theorem s_commit_sure : KFun.Sound (U := U) Try.prog (.fn 83 [.ty (Ty.st .Seen), .ty Ty.str, .ty (Ty.i .i64), .ty (Ty.i .i64)] (.one Ty.bool) fun a => F_commit_sure a.1 a.2.1 a.2.2.1 a.2.2.2.1) := fnK_sound (K := K) (Γ := [.fn 114 [.ty Ty.str, .ty (Ty.i .i64), .ty (Ty.i .i64)] (.fn (.clo 134 [.ref (.ty Ty.str), .ref (.ty (Ty.i .i64)), .ref (.ty (Ty.i .i64))])) fun a => F_commit_accepts a.1 a.2.1 a.2.2.1, .fn 75 [.ty (Ty.st .Seen), .clo 134 [.ref (.ty Ty.str), .ref (.ty (Ty.i .i64)), .ref (.ty (Ty.i .i64))]] (.one Ty.bool) fun a => F_prepare_Seen_Confirms_c134 a.1 a.2.1.1 a.2.1.2.1 a.2.1.2.2.1]) ok_commit_sure (by kernel_rfl) (by decide) ⟨s_commit_accepts, s_prepare_Seen_Confirms_c134, trivial⟩ (fun a => congrFun e_commit_sure a)

/-! ### trustquorum/commit.Accepts -/
def sa_commit_Accepts : SA U :=
 (.seq
  (.reg
  (.op ⟨(some 7), none, .box (.tmp 1)⟩
  (.op ⟨(some 12), none, .mov (.cst (.bool false))⟩
  .nil)))
  (.seq
   (.reg
   (.op ⟨(some 13), none, .mov (.tmp 0)⟩
   (.op ⟨(some 14), none, .load (some 3) (.tmp 7)⟩
   (.op ⟨(some 15), none, .mov (.tmp 2)⟩
   (.op ⟨(some 16), none, .call 65 [(.tmp 13), (.tmp 14), (.tmp 15)]⟩
   (.op ⟨(some 17), none, .mov (.tmp 3)⟩
   (.op ⟨(some 18), none, .mov (.tmp 4)⟩
   (.op ⟨(some 19), none, .mov (.tmp 5)⟩
   (.op ⟨(some 20), none, .call 79 [(.tmp 16), (.tmp 17), (.tmp 18), (.tmp 19)]⟩
   (.op ⟨(some 12), none, .mov (.tmp 20)⟩
   .nil))))))))))
   .ret))
theorem ok_commit_Accepts : FnOk Try.prog 86 21 (SA.erase sa_commit_Accepts) [.tmp 12] := ⟨Try.f86, [], Try.func86, rfl, by kernel_rfl, by kernel_rfl, by kernel_rfl⟩
noncomputable def F_commit_Accepts (a0 : Int) (a1 : TTrust) (a2 : (List TEnvelope)) (a3 : ByteArray) (a4 : Int) (a5 : Int) : Option Bool :=
Option.bind (F_prepare_Look a0 (TTrust.mk a1.Threshold a1.Nodes a1.Inner) a2) fun r1 =>
Option.bind (F_commit_ready r1 a3 a4 a5) fun r2 =>
some r2
theorem e_commit_Accepts : fnK K [.fn 65 [.ty (Ty.i .i64), .ty (Ty.st .Trust), .ty (Ty.sl (Ty.st .Envelope))] (.one (Ty.st .Seen)) fun a => F_prepare_Look a.1 a.2.1 a.2.2.1, .fn 79 [.ty (Ty.st .Seen), .ty Ty.str, .ty (Ty.i .i64), .ty (Ty.i .i64)] (.one Ty.bool) fun a => F_commit_ready a.1 a.2.1 a.2.2.1 a.2.2.2.1] sa_commit_Accepts [.tmp 12] [.ty (Ty.i .i64), .ty (Ty.st .Trust), .ty (Ty.sl (Ty.st .Envelope)), .ty Ty.str, .ty (Ty.i .i64), .ty (Ty.i .i64)] (.one Ty.bool) = fun a => F_commit_Accepts a.1 a.2.1 a.2.2.1 a.2.2.2.1 a.2.2.2.2.1 a.2.2.2.2.2.1 := by kernel_rfl
theorem s_commit_Accepts : KFun.Sound (U := U) Try.prog (.fn 86 [.ty (Ty.i .i64), .ty (Ty.st .Trust), .ty (Ty.sl (Ty.st .Envelope)), .ty Ty.str, .ty (Ty.i .i64), .ty (Ty.i .i64)] (.one Ty.bool) fun a => F_commit_Accepts a.1 a.2.1 a.2.2.1 a.2.2.2.1 a.2.2.2.2.1 a.2.2.2.2.2.1) := fnK_sound (K := K) (Γ := [.fn 65 [.ty (Ty.i .i64), .ty (Ty.st .Trust), .ty (Ty.sl (Ty.st .Envelope))] (.one (Ty.st .Seen)) fun a => F_prepare_Look a.1 a.2.1 a.2.2.1, .fn 79 [.ty (Ty.st .Seen), .ty Ty.str, .ty (Ty.i .i64), .ty (Ty.i .i64)] (.one Ty.bool) fun a => F_commit_ready a.1 a.2.1 a.2.2.1 a.2.2.2.1]) ok_commit_Accepts (by kernel_rfl) (by decide) ⟨s_prepare_Look, s_commit_ready, trivial⟩ (fun a => congrFun e_commit_Accepts a)

/-! ### trustquorum/trustquorumref01.Same -/
def sa_ref01_Same : SA U :=
 (.seq
  (.reg
  (.op ⟨(some 4), none, .mov (.cst (.bool false))⟩
  .nil))
  (.seq
   (.seq
    (.reg
    (.op ⟨(some 6), none, .mov (.tmp 0)⟩
    (.op ⟨(some 7), none, .len false (.tmp 6)⟩
    (.op ⟨(some 8), none, .mov (.tmp 1)⟩
    (.op ⟨(some 9), none, .len false (.tmp 8)⟩
    (.op ⟨(some 10), none, .bin .neq (.tmp 7) (.tmp 9)⟩
    .nil))))))
    (.cond (.tmp 10)
     (.seq
      (.reg
      (.op ⟨(some 4), none, .mov (.cst (.bool false))⟩
      .nil))
      .ret)
     .skip))
   (.seq
    (.seq
     (.reg
     (.op ⟨(some 11), none, .mov (.tmp 0)⟩
     (.op ⟨(some 12), none, .len false (.tmp 11)⟩
     (.op ⟨(some 13), none, .mov (.cst (.int .i64 0))⟩
     .nil))))
     (.block 0
      (.loop ⟨[.val 13 (Ty.i .i64)], [0, 1, 12]⟩
       (.seq
        (.reg
        (.op ⟨(some 14), none, .bin .lss (.tmp 13) (.tmp 12)⟩
        .nil))
        (.seq
         (.cond (.tmp 14)
          .skip
          (.exit 0))
         (.seq
          (.block 1
           (.seq
            (.reg
            (.op ⟨(some 15), none, .mov (.tmp 13)⟩
            (.op ⟨(some 5), none, .mov (.tmp 15)⟩
            .nil)))
            (.seq
             (.drw [(2, 6), (3, 6), (2, 7), (3, 7)]
             (.op ⟨(some 16), none, .mov (.tmp 0)⟩
             (.op ⟨(some 17), none, .mov (.tmp 5)⟩
             (.op ⟨(some 18), none, .iaddr 1 (.tmp 16) (.tmp 17)⟩
             (.op ⟨(some 19), none, .load none (.tmp 18)⟩
             (.op ⟨(some 20), none, .mov (.tmp 1)⟩
             (.op ⟨(some 21), none, .mov (.tmp 5)⟩
             (.op ⟨(some 22), none, .iaddr 1 (.tmp 20) (.tmp 21)⟩
             (.op ⟨(some 23), none, .load none (.tmp 22)⟩
             (.op ⟨(some 24), none, .bin .neq (.tmp 19) (.tmp 23)⟩
             .nil))))))))))
             (.cond (.tmp 24)
              (.seq
               (.reg
               (.op ⟨(some 4), none, .mov (.cst (.bool false))⟩
               .nil))
               .ret)
              .skip))))
          (.reg
          (.op ⟨(some 25), none, .bin .add (.tmp 13) (.cst (.int .i64 1))⟩
          (.op ⟨(some 13), none, .mov (.tmp 25)⟩
          .nil)))))))))
    (.seq
     (.reg
     (.op ⟨(some 4), none, .mov (.cst (.bool true))⟩
     .nil))
     .ret))))
theorem ok_ref01_Same : FnOk Try.prog 128 26 (SA.erase sa_ref01_Same) [.tmp 4] := ⟨Try.f128, [], Try.func128, rfl, by kernel_rfl, by kernel_rfl, by kernel_rfl⟩
noncomputable def F_ref01_Same (a0 : (List Int)) (a1 : (List Int)) : Option Bool :=
bif (!decide (((List.length a0 : Nat) : Int) = ((List.length a1 : Nat) : Int))) then
some false
else
loopO (fun (v1 : Int × Unit) =>
bif (decide (v1.1 < ((List.length a0 : Nat) : Int))) then
Option.bind (idx a0 v1.1) fun x2 =>
Option.bind (idx a1 v1.1) fun x3 =>
bif (!decide (x2 = x3)) then
Option.map Sum.inr (some false)
else
some (Sum.inl ((addI .i64 v1.1 (1 : Int)), ()))
else
Option.map Sum.inr (some true)) ((0 : Int), ())
theorem e_ref01_Same : fnK K [] sa_ref01_Same [.tmp 4] [.ty (Ty.sl (Ty.i .i64)), .ty (Ty.sl (Ty.i .i64))] (.one Ty.bool) = fun a => F_ref01_Same a.1 a.2.1 := by kernel_rfl
theorem s_ref01_Same : KFun.Sound (U := U) Try.prog (.fn 128 [.ty (Ty.sl (Ty.i .i64)), .ty (Ty.sl (Ty.i .i64))] (.one Ty.bool) fun a => F_ref01_Same a.1 a.2.1) := fnK_sound (K := K) (Γ := []) ok_ref01_Same (by kernel_rfl) (by decide) trivial (fun a => congrFun e_ref01_Same a)

/-! ### trustquorum/trustquorumref02.Same -/
def sa_ref02_Same : SA U :=
 (.seq
  (.reg
  (.op ⟨(some 2), none, .box (.tmp 0)⟩
  (.op ⟨(some 3), none, .box (.tmp 1)⟩
  (.op ⟨(some 4), none, .mov (.cst (.bool false))⟩
  .nil))))
  (.seq
   (.seq
    (.reg
    (.op ⟨(some 6), none, .faddr 0 (.tmp 2)⟩
    (.op ⟨(some 7), none, .load none (.tmp 6)⟩
    (.op ⟨(some 8), none, .faddr 0 (.tmp 3)⟩
    (.op ⟨(some 9), none, .load none (.tmp 8)⟩
    (.op ⟨(some 10), none, .bin .neq (.tmp 7) (.tmp 9)⟩
    (.op ⟨(some 11), none, .mov (.tmp 10)⟩
    (.ite 11 false
     (.op ⟨(some 12), (some (11, false)), .faddr 1 (.tmp 2)⟩
     (.op ⟨(some 13), (some (11, false)), .load none (.tmp 12)⟩
     (.op ⟨(some 14), (some (11, false)), .faddr 1 (.tmp 3)⟩
     (.op ⟨(some 15), (some (11, false)), .load none (.tmp 14)⟩
     (.op ⟨(some 16), (some (11, false)), .call 128 [(.tmp 13), (.tmp 15)]⟩
     (.op ⟨(some 17), (some (11, false)), .not (.tmp 16)⟩
     .nil))))))
     18 none (.cst (.bool true)) (.tmp 17)
    (.op ⟨(some 19), none, .mov (.tmp 18)⟩
    (.ite 19 false
     (.op ⟨(some 20), (some (19, false)), .faddr 2 (.tmp 2)⟩
     (.op ⟨(some 21), (some (19, false)), .load none (.tmp 20)⟩
     (.op ⟨(some 22), (some (19, false)), .len false (.tmp 21)⟩
     (.op ⟨(some 23), (some (19, false)), .faddr 2 (.tmp 3)⟩
     (.op ⟨(some 24), (some (19, false)), .load none (.tmp 23)⟩
     (.op ⟨(some 25), (some (19, false)), .len false (.tmp 24)⟩
     (.op ⟨(some 26), (some (19, false)), .bin .neq (.tmp 22) (.tmp 25)⟩
     .nil)))))))
     27 none (.cst (.bool true)) (.tmp 26)
    .nil))))))))))
    (.cond (.tmp 27)
     (.seq
      (.reg
      (.op ⟨(some 4), none, .mov (.cst (.bool false))⟩
      .nil))
      .ret)
     .skip))
   (.seq
    (.seq
     (.reg
     (.op ⟨(some 28), none, .faddr 2 (.tmp 2)⟩
     (.op ⟨(some 29), none, .load none (.tmp 28)⟩
     (.op ⟨(some 30), none, .len false (.tmp 29)⟩
     (.op ⟨(some 31), none, .mov (.cst (.int .i64 0))⟩
     .nil)))))
     (.block 0
      (.loop ⟨[.val 31 (Ty.i .i64)], [2, 3, 30]⟩
       (.seq
        (.reg
        (.op ⟨(some 32), none, .bin .lss (.tmp 31) (.tmp 30)⟩
        .nil))
        (.seq
         (.cond (.tmp 32)
          .skip
          (.exit 0))
         (.seq
          (.block 1
           (.seq
            (.reg
            (.op ⟨(some 33), none, .mov (.tmp 31)⟩
            (.op ⟨(some 5), none, .mov (.tmp 33)⟩
            .nil)))
            (.seq
             (.drw [(0, 5), (1, 5), (3, 5), (4, 5), (0, 6), (1, 6), (3, 6), (4, 6), (0, 8), (1, 8), (3, 8), (4, 8), (0, 9), (1, 9), (3, 9), (4, 9)]
             (.op ⟨(some 34), none, .faddr 2 (.tmp 2)⟩
             (.op ⟨(some 35), none, .load none (.tmp 34)⟩
             (.op ⟨(some 36), none, .mov (.tmp 5)⟩
             (.op ⟨(some 37), none, .iaddr 3 (.tmp 35) (.tmp 36)⟩
             (.op ⟨(some 38), none, .load (some 3) (.tmp 37)⟩
             (.op ⟨(some 39), none, .faddr 2 (.tmp 3)⟩
             (.op ⟨(some 40), none, .load none (.tmp 39)⟩
             (.op ⟨(some 41), none, .mov (.tmp 5)⟩
             (.op ⟨(some 42), none, .iaddr 3 (.tmp 40) (.tmp 41)⟩
             (.op ⟨(some 43), none, .load (some 3) (.tmp 42)⟩
             (.op ⟨(some 44), none, .call 105 [(.tmp 38), (.tmp 43)]⟩
             (.op ⟨(some 45), none, .not (.tmp 44)⟩
             .nil)))))))))))))
             (.cond (.tmp 45)
              (.seq
               (.reg
               (.op ⟨(some 4), none, .mov (.cst (.bool false))⟩
               .nil))
               .ret)
              .skip))))
          (.reg
          (.op ⟨(some 46), none, .bin .add (.tmp 31) (.cst (.int .i64 1))⟩
          (.op ⟨(some 31), none, .mov (.tmp 46)⟩
          .nil)))))))))
    (.seq
     (.reg
     (.op ⟨(some 4), none, .mov (.cst (.bool true))⟩
     .nil))
     .ret))))
theorem ok_ref02_Same : FnOk Try.prog 105 47 (SA.erase sa_ref02_Same) [.tmp 4] := ⟨Try.f105, [], Try.func105, rfl, by kernel_rfl, by kernel_rfl, by kernel_rfl⟩
noncomputable def B_ref02_Same (rec : (TTrust × TTrust × Unit) → Option Bool) (a0 : TTrust) (a1 : TTrust) : Option Bool :=
Option.bind (bif (!decide (a0.Threshold = a1.Threshold)) then some true
else
Option.bind (F_ref01_Same a0.Nodes a1.Nodes) fun r1 =>
some (!r1)) fun b2 =>
Option.bind (bif b2 then some true
else
some (!decide (((List.length a0.Inner : Nat) : Int) = ((List.length a1.Inner : Nat) : Int)))) fun b3 =>
bif b3 then
some false
else
loopO (fun (v4 : Int × Unit) =>
bif (decide (v4.1 < ((List.length a0.Inner : Nat) : Int))) then
Option.bind (idx a0.Inner v4.1) fun x5 =>
Option.bind (idx a1.Inner v4.1) fun x6 =>
Option.bind (rec ((TTrust.mk x5.Threshold x5.Nodes x5.Inner), (TTrust.mk x6.Threshold x6.Nodes x6.Inner), ())) fun r7 =>
bif (!r7) then
Option.map Sum.inr (some false)
else
some (Sum.inl ((addI .i64 v4.1 (1 : Int)), ()))
else
Option.map Sum.inr (some true)) ((0 : Int), ())
noncomputable def I_ref02_Same : Nat → (TTrust × TTrust × Unit) → Option Bool := iterF (fun rec a => B_ref02_Same rec a.1 a.2.1)
noncomputable def F_ref02_Same (a0 : TTrust) (a1 : TTrust) : Option Bool := I_ref02_Same (SizeOf.sizeOf a0 + SizeOf.sizeOf a1 + 1) (a0, a1, ())
theorem e_ref02_Same : (fun G => fnK K (.fn 105 [.ty (Ty.st .Trust), .ty (Ty.st .Trust)] (.one Ty.bool) G :: [.fn 128 [.ty (Ty.sl (Ty.i .i64)), .ty (Ty.sl (Ty.i .i64))] (.one Ty.bool) fun a => F_ref01_Same a.1 a.2.1]) sa_ref02_Same [.tmp 4] [.ty (Ty.st .Trust), .ty (Ty.st .Trust)] (.one Ty.bool)) = (fun G a => B_ref02_Same G a.1 a.2.1) := by kernel_rfl
theorem n_ref02_Same : ∀ n, KFun.Sound (U := U) Try.prog (.fn 105 [.ty (Ty.st .Trust), .ty (Ty.st .Trust)] (.one Ty.bool) (I_ref02_Same n))
  | 0 => ⟨ok_ref02_Same.enters, fun a r h => by cases h⟩
  | n + 1 => fnK_sound (K := K) (r := .one Ty.bool) (Γ := .fn 105 [.ty (Ty.st .Trust), .ty (Ty.st .Trust)] (.one Ty.bool) (I_ref02_Same n) :: [.fn 128 [.ty (Ty.sl (Ty.i .i64)), .ty (Ty.sl (Ty.i .i64))] (.one Ty.bool) fun a => F_ref01_Same a.1 a.2.1]) (F := I_ref02_Same (n + 1)) ok_ref02_Same (by kernel_rfl) (by decide) ⟨n_ref02_Same n, s_ref01_Same, trivial⟩ (fun a => congrFun (congrFun e_ref02_Same (I_ref02_Same n)) a)
theorem s_ref02_Same : KFun.Sound (U := U) Try.prog (.fn 105 [.ty (Ty.st .Trust), .ty (Ty.st .Trust)] (.one Ty.bool) fun a => F_ref02_Same a.1 a.2.1) := ⟨ok_ref02_Same.enters, fun a r h => (n_ref02_Same _).2 a r h⟩

/-! ### (*slices.xorshift).Next -/
def sa_slices_xorshift_Next : SA U :=
 (.seq
  (.reg
  (.op ⟨(some 2), none, .mov (.cst (.int .u64 0))⟩
  .nil))
  (.seq
   (.drw [(1, 4), (2, 4), (1, 5), (2, 5)]
   (.op ⟨(some 3), none, .mov (.tmp 0)⟩
   (.op ⟨(some 4), none, .nilck (.tmp 3)⟩
   (.op ⟨(some 5), none, .load none (.tmp 4)⟩
   (.op ⟨(some 6), none, .mov (.tmp 0)⟩
   (.op ⟨(some 7), none, .nilck (.tmp 6)⟩
   (.op ⟨(some 8), none, .load none (.tmp 7)⟩
   (.op ⟨(some 9), none, .bin .shl (.tmp 8) (.cst (.int .u64 13))⟩
   (.op ⟨(some 10), none, .bin .xor (.tmp 5) (.tmp 9)⟩
   (.op ⟨(some 11), none, .nilck (.tmp 3)⟩
   (.op ⟨none, none, .store 1 (.tmp 11) (.tmp 10)⟩
   .nil)))))))))))
   (.seq
    (.drw [(1, 4), (2, 4), (1, 5), (2, 5)]
    (.op ⟨(some 12), none, .mov (.tmp 0)⟩
    (.op ⟨(some 13), none, .nilck (.tmp 12)⟩
    (.op ⟨(some 14), none, .load none (.tmp 13)⟩
    (.op ⟨(some 15), none, .mov (.tmp 0)⟩
    (.op ⟨(some 16), none, .nilck (.tmp 15)⟩
    (.op ⟨(some 17), none, .load none (.tmp 16)⟩
    (.op ⟨(some 18), none, .bin .shr (.tmp 17) (.cst (.int .u64 7))⟩
    (.op ⟨(some 19), none, .bin .xor (.tmp 14) (.tmp 18)⟩
    (.op ⟨(some 20), none, .nilck (.tmp 12)⟩
    (.op ⟨none, none, .store 1 (.tmp 20) (.tmp 19)⟩
    .nil)))))))))))
    (.seq
     (.drw [(1, 4), (2, 4), (1, 5), (2, 5)]
     (.op ⟨(some 21), none, .mov (.tmp 0)⟩
     (.op ⟨(some 22), none, .nilck (.tmp 21)⟩
     (.op ⟨(some 23), none, .load none (.tmp 22)⟩
     (.op ⟨(some 24), none, .mov (.tmp 0)⟩
     (.op ⟨(some 25), none, .nilck (.tmp 24)⟩
     (.op ⟨(some 26), none, .load none (.tmp 25)⟩
     (.op ⟨(some 27), none, .bin .shl (.tmp 26) (.cst (.int .u64 17))⟩
     (.op ⟨(some 28), none, .bin .xor (.tmp 23) (.tmp 27)⟩
     (.op ⟨(some 29), none, .nilck (.tmp 21)⟩
     (.op ⟨none, none, .store 1 (.tmp 29) (.tmp 28)⟩
     .nil)))))))))))
     (.seq
      (.reg
      (.op ⟨(some 30), none, .mov (.tmp 0)⟩
      (.op ⟨(some 31), none, .nilck (.tmp 30)⟩
      (.op ⟨(some 32), none, .load none (.tmp 31)⟩
      (.op ⟨(some 2), none, .mov (.tmp 32)⟩
      .nil)))))
      .ret)))))
theorem ok_slices_xorshift_Next : FnOk Try.prog 163 33 (SA.erase sa_slices_xorshift_Next) [.tmp 2] := ⟨Try.f163, [], Try.func163, rfl, by kernel_rfl, by kernel_rfl, by kernel_rfl⟩
noncomputable def F_slices_xorshift_Next (s : Int)  : Option (Int × Int) :=
some ((xorI .u64 (xorI .u64 (xorI .u64 s (shlI .u64 s (13 : Int))) (shrI .u64 (xorI .u64 s (shlI .u64 s (13 : Int))) (7 : Int))) (shlI .u64 (xorI .u64 (xorI .u64 s (shlI .u64 s (13 : Int))) (shrI .u64 (xorI .u64 s (shlI .u64 s (13 : Int))) (7 : Int))) (17 : Int))), (xorI .u64 (xorI .u64 (xorI .u64 s (shlI .u64 s (13 : Int))) (shrI .u64 (xorI .u64 s (shlI .u64 s (13 : Int))) (7 : Int))) (shlI .u64 (xorI .u64 (xorI .u64 s (shlI .u64 s (13 : Int))) (shrI .u64 (xorI .u64 s (shlI .u64 s (13 : Int))) (7 : Int))) (17 : Int))))
theorem e_slices_xorshift_Next : rcK K [] sa_slices_xorshift_Next [.tmp 2] (Ty.i .u64) [] (.one (Ty.i .u64)) = fun s a => F_slices_xorshift_Next s  := by kernel_rfl
theorem s_slices_xorshift_Next : KFun.Sound (U := U) Try.prog (.rc 163 (Ty.i .u64) [] (.one (Ty.i .u64)) fun s a => F_slices_xorshift_Next s ) := rcK_sound (K := K) (Γ := []) ok_slices_xorshift_Next (by kernel_rfl) (by decide) trivial (fun s a => congrFun (congrFun e_slices_xorshift_Next s) a)

end Go.Proofs.Ytncjalhhkmojlaa
