/-
  Functions of the program as plain functions, each held against the program by the kernel. Printed by a program.
-/
import Derived.Test.YtncjalhhkmojlaaFnA
import Derived.Test.YtncjalhhkmojlaaProg
import Derived.KernelRfl
set_option linter.unusedVariables false
namespace Go.Proofs.Ytncjalhhkmojlaa
open Go.TQ

/-! ### trustquorum/envelopes.Valid -/
def sa_envelopes_Valid : SA U :=
 (.seq
  (.reg
  (.op ⟨(some 1), none, .box (.tmp 0)⟩
  (.op ⟨(some 2), none, .mov (.cst (.bool false))⟩
  .nil)))
  (.seq
   (.seq
    (.reg
    (.op ⟨(some 4), none, .faddr 0 (.tmp 1)⟩
    (.op ⟨(some 5), none, .load none (.tmp 4)⟩
    (.op ⟨(some 6), none, .bin .lss (.tmp 5) (.cst (.int .i64 0))⟩
    (.op ⟨(some 7), none, .mov (.tmp 6)⟩
    (.ite 7 false
     (.op ⟨(some 8), (some (7, false)), .faddr 0 (.tmp 1)⟩
     (.op ⟨(some 9), (some (7, false)), .load none (.tmp 8)⟩
     (.op ⟨(some 10), (some (7, false)), .bin .geq (.tmp 9) (.cst (.int .i64 10))⟩
     .nil)))
     11 none (.cst (.bool true)) (.tmp 10)
    (.op ⟨(some 12), none, .mov (.tmp 11)⟩
    (.ite 12 false
     (.op ⟨(some 13), (some (12, false)), .faddr 1 (.tmp 1)⟩
     (.op ⟨(some 14), (some (12, false)), .load none (.tmp 13)⟩
     (.op ⟨(some 15), (some (12, false)), .bin .lss (.tmp 14) (.cst (.int .i64 1))⟩
     .nil)))
     16 none (.cst (.bool true)) (.tmp 15)
    (.op ⟨(some 17), none, .mov (.tmp 16)⟩
    (.ite 17 false
     (.op ⟨(some 18), (some (17, false)), .faddr 1 (.tmp 1)⟩
     (.op ⟨(some 19), (some (17, false)), .load none (.tmp 18)⟩
     (.op ⟨(some 20), (some (17, false)), .bin .gtr (.tmp 19) (.cst (.int .i64 1000000))⟩
     .nil)))
     21 none (.cst (.bool true)) (.tmp 20)
    (.op ⟨(some 22), none, .mov (.tmp 21)⟩
    (.ite 22 false
     (.op ⟨(some 23), (some (22, false)), .faddr 2 (.tmp 1)⟩
     (.op ⟨(some 24), (some (22, false)), .load none (.tmp 23)⟩
     (.op ⟨(some 25), (some (22, false)), .bin .lss (.tmp 24) (.cst (.int .i64 1))⟩
     .nil)))
     26 none (.cst (.bool true)) (.tmp 25)
    (.op ⟨(some 27), none, .mov (.tmp 26)⟩
    (.ite 27 false
     (.op ⟨(some 28), (some (27, false)), .faddr 2 (.tmp 1)⟩
     (.op ⟨(some 29), (some (27, false)), .load none (.tmp 28)⟩
     (.op ⟨(some 30), (some (27, false)), .bin .gtr (.tmp 29) (.cst (.int .i64 1000000))⟩
     .nil)))
     31 none (.cst (.bool true)) (.tmp 30)
    (.op ⟨(some 32), none, .mov (.tmp 31)⟩
    (.ite 32 false
     (.op ⟨(some 33), (some (32, false)), .faddr 3 (.tmp 1)⟩
     (.op ⟨(some 34), (some (32, false)), .load (some 3) (.tmp 33)⟩
     (.op ⟨(some 35), (some (32, false)), .call 53 [(.tmp 34)]⟩
     (.op ⟨(some 36), (some (32, false)), .bin .neq (.tmp 35) (.cst (.int .i64 0))⟩
     .nil))))
     37 none (.cst (.bool true)) (.tmp 36)
    .nil))))))))))))))))
    (.cond (.tmp 37)
     (.seq
      (.reg
      (.op ⟨(some 2), none, .mov (.cst (.bool false))⟩
      .nil))
      .ret)
     .skip))
   (.seq
    (.reg
    (.op ⟨(some 38), none, .faddr 13 (.tmp 1)⟩
    (.op ⟨(some 39), none, .load none (.tmp 38)⟩
    (.op ⟨(some 40), none, .bin .geq (.tmp 39) (.cst (.int .i64 1))⟩
    (.op ⟨(some 41), none, .mov (.tmp 40)⟩
    (.ite 41 true
     (.op ⟨(some 42), (some (41, true)), .faddr 14 (.tmp 1)⟩
     (.op ⟨(some 43), (some (41, true)), .load none (.tmp 42)⟩
     (.op ⟨(some 44), (some (41, true)), .faddr 13 (.tmp 1)⟩
     (.op ⟨(some 45), (some (41, true)), .load none (.tmp 44)⟩
     (.op ⟨(some 46), (some (41, true)), .bin .geq (.tmp 43) (.tmp 45)⟩
     .nil)))))
     47 none (.tmp 46) (.cst (.bool false))
    (.op ⟨(some 48), none, .mov (.tmp 47)⟩
    (.ite 48 true
     (.op ⟨(some 49), (some (48, true)), .faddr 14 (.tmp 1)⟩
     (.op ⟨(some 50), (some (48, true)), .load none (.tmp 49)⟩
     (.op ⟨(some 51), (some (48, true)), .bin .leq (.tmp 50) (.cst (.int .i64 1000))⟩
     .nil)))
     52 none (.tmp 51) (.cst (.bool false))
    (.op ⟨(some 3), none, .mov (.tmp 52)⟩
    .nil)))))))))
    (.seq
     (.seq
      (.reg
      (.op ⟨(some 53), none, .faddr 6 (.tmp 1)⟩
      (.op ⟨(some 54), none, .load none (.tmp 53)⟩
      .nil)))
      (.block 0
       (.seq
        (.reg
        (.op ⟨(some 56), none, .bin .eql (.tmp 54) (.cst (.int .i64 1))⟩
        (.op ⟨(some 55), none, .mov (.tmp 56)⟩
        .nil)))
        (.cond (.tmp 55)
         (.seq
          (.reg
          (.op ⟨(some 57), none, .load (some 15) (.tmp 1)⟩
          (.op ⟨(some 58), none, .call 54 [(.tmp 57)]⟩
          (.op ⟨(some 2), none, .mov (.tmp 58)⟩
          .nil))))
          .ret)
         (.seq
          (.reg
          (.op ⟨(some 60), none, .bin .eql (.tmp 54) (.cst (.int .i64 2))⟩
          (.op ⟨(some 59), none, .mov (.tmp 60)⟩
          .nil)))
          (.cond (.tmp 59)
           (.seq
            (.reg
            (.op ⟨(some 61), none, .faddr 7 (.tmp 1)⟩
            (.op ⟨(some 62), none, .load (some 2) (.tmp 61)⟩
            (.op ⟨(some 63), none, .call 55 [(.tmp 62)]⟩
            (.op ⟨(some 64), none, .mov (.tmp 63)⟩
            (.ite 64 true
             (.op ⟨(some 65), (some (64, true)), .faddr 9 (.tmp 1)⟩
             (.op ⟨(some 66), (some (64, true)), .load (some 2) (.tmp 65)⟩
             (.op ⟨(some 67), (some (64, true)), .call 56 [(.tmp 66)]⟩
             .nil)))
             68 none (.tmp 67) (.cst (.bool false))
            (.op ⟨(some 69), none, .mov (.tmp 68)⟩
            (.ite 69 true
             (.op ⟨(some 70), (some (69, true)), .faddr 9 (.tmp 1)⟩
             (.op ⟨(some 71), (some (69, true)), .load (some 2) (.tmp 70)⟩
             (.op ⟨(some 72), (some (69, true)), .faddr 7 (.tmp 1)⟩
             (.op ⟨(some 73), (some (69, true)), .load (some 2) (.tmp 72)⟩
             (.op ⟨(some 74), (some (69, true)), .call 50 [(.tmp 71), (.tmp 73)]⟩
             .nil)))))
             75 none (.tmp 74) (.cst (.bool false))
            (.op ⟨(some 76), none, .mov (.tmp 75)⟩
            (.ite 76 true
             (.op ⟨(some 77), (some (76, true)), .faddr 11 (.tmp 1)⟩
             (.op ⟨(some 78), (some (76, true)), .load (some 2) (.tmp 77)⟩
             (.op ⟨(some 79), (some (76, true)), .call 48 [(.tmp 78)]⟩
             .nil)))
             80 none (.tmp 79) (.cst (.bool false))
            (.op ⟨(some 81), none, .mov (.tmp 80)⟩
            (.ite 81 true
             (.op ⟨(some 82), (some (81, true)), .mov (.tmp 3)⟩
             .nil)
             83 none (.tmp 82) (.cst (.bool false))
            (.op ⟨(some 84), none, .mov (.tmp 83)⟩
            (.ite 84 true
             (.op ⟨(some 85), (some (84, true)), .faddr 14 (.tmp 1)⟩
             (.op ⟨(some 86), (some (84, true)), .load none (.tmp 85)⟩
             (.op ⟨(some 87), (some (84, true)), .faddr 9 (.tmp 1)⟩
             (.op ⟨(some 88), (some (84, true)), .faddr 0 (.tmp 87)⟩
             (.op ⟨(some 89), (some (84, true)), .load none (.tmp 88)⟩
             (.op ⟨(some 90), (some (84, true)), .bin .leq (.tmp 86) (.tmp 89)⟩
             .nil))))))
             91 none (.tmp 90) (.cst (.bool false))
            (.op ⟨(some 2), none, .mov (.tmp 91)⟩
            .nil)))))))))))))))
            .ret)
           (.seq
            (.reg
            (.op ⟨(some 93), none, .bin .eql (.tmp 54) (.cst (.int .i64 3))⟩
            (.op ⟨(some 92), none, .mov (.tmp 93)⟩
            .nil)))
            (.cond (.tmp 92)
             (.seq
              (.reg
              (.op ⟨(some 94), none, .faddr 7 (.tmp 1)⟩
              (.op ⟨(some 95), none, .load (some 2) (.tmp 94)⟩
              (.op ⟨(some 96), none, .call 56 [(.tmp 95)]⟩
              (.op ⟨(some 97), none, .mov (.tmp 96)⟩
              (.ite 97 true
               (.op ⟨(some 98), (some (97, true)), .faddr 9 (.tmp 1)⟩
               (.op ⟨(some 99), (some (97, true)), .load (some 2) (.tmp 98)⟩
               (.op ⟨(some 100), (some (97, true)), .call 48 [(.tmp 99)]⟩
               .nil)))
               101 none (.tmp 100) (.cst (.bool false))
              (.op ⟨(some 102), none, .mov (.tmp 101)⟩
              (.ite 102 true
               (.op ⟨(some 103), (some (102, true)), .faddr 11 (.tmp 1)⟩
               (.op ⟨(some 104), (some (102, true)), .load (some 2) (.tmp 103)⟩
               (.op ⟨(some 105), (some (102, true)), .call 48 [(.tmp 104)]⟩
               .nil)))
               106 none (.tmp 105) (.cst (.bool false))
              (.op ⟨(some 107), none, .mov (.tmp 106)⟩
              (.ite 107 true
               (.op ⟨(some 108), (some (107, true)), .mov (.tmp 3)⟩
               .nil)
               109 none (.tmp 108) (.cst (.bool false))
              (.op ⟨(some 2), none, .mov (.tmp 109)⟩
              .nil)))))))))))
              .ret)
             .skip))))))))
     (.seq
      (.reg
      (.op ⟨(some 2), none, .mov (.cst (.bool false))⟩
      .nil))
      .ret)))))
theorem ok_envelopes_Valid : FnOk Try.prog 25 110 (SA.erase sa_envelopes_Valid) [.tmp 2] := ⟨Try.f25, [], Try.func25, rfl, by kernel_rfl, by kernel_rfl, by kernel_rfl⟩
noncomputable def F_envelopes_Valid (a0 : TEnvelope) : Option Bool :=
Option.bind (bif (decide (a0.Node < (0 : Int))) then some true
else
some (decide ((10 : Int) ≤ a0.Node))) fun b1 =>
Option.bind (bif b1 then some true
else
some (decide (a0.Slot < (1 : Int)))) fun b2 =>
Option.bind (bif b2 then some true
else
some (decide ((1000000 : Int) < a0.Slot))) fun b3 =>
Option.bind (bif b3 then some true
else
some (decide (a0.Seq < (1 : Int)))) fun b4 =>
Option.bind (bif b4 then some true
else
some (decide ((1000000 : Int) < a0.Seq))) fun b5 =>
Option.bind (bif b5 then some true
else
Option.bind (F_threshold_Valid (TTrust.mk a0.Trust.Threshold a0.Trust.Nodes a0.Trust.Inner)) fun r6 =>
some (!decide (r6 = (0 : Int)))) fun b7 =>
bif b7 then
some false
else
Option.bind (bif (decide ((1 : Int) ≤ a0.Low)) then
some (decide (a0.Low ≤ a0.High))
else some false) fun b8 =>
Option.bind (bif b8 then
some (decide (a0.High ≤ (1000 : Int)))
else some false) fun b9 =>
bif (decide (a0.Kind = (1 : Int))) then
Option.bind (F_envelopes_prepares (TEnvelope.mk a0.Node a0.Slot a0.Seq (TTrust.mk a0.Trust.Threshold a0.Trust.Nodes a0.Trust.Inner) a0.Kind a0.Ballot a0.Prepared a0.Prime a0.Low a0.High)) fun r10 =>
some r10
else
bif (decide (a0.Kind = (2 : Int))) then
Option.bind (F_envelopes_finite a0.Ballot) fun r11 =>
Option.bind (bif r11 then
Option.bind (F_ballots_Valid a0.Prepared) fun r12 =>
some r12
else some false) fun b13 =>
Option.bind (bif b13 then
Option.bind (F_ballots_Compatible a0.Prepared a0.Ballot) fun r14 =>
some r14
else some false) fun b15 =>
Option.bind (bif b15 then
Option.bind (F_ballots_Zero a0.Prime) fun r16 =>
some r16
else some false) fun b17 =>
Option.bind (bif b17 then
some b9
else some false) fun b18 =>
Option.bind (bif b18 then
some (decide (a0.High ≤ a0.Prepared.Counter))
else some false) fun b19 =>
some b19
else
bif (decide (a0.Kind = (3 : Int))) then
Option.bind (F_ballots_Valid a0.Ballot) fun r20 =>
Option.bind (bif r20 then
Option.bind (F_ballots_Zero a0.Prepared) fun r21 =>
some r21
else some false) fun b22 =>
Option.bind (bif b22 then
Option.bind (F_ballots_Zero a0.Prime) fun r23 =>
some r23
else some false) fun b24 =>
Option.bind (bif b24 then
some b9
else some false) fun b25 =>
some b25
else
some false
theorem e_envelopes_Valid : fnK K [.fn 53 [.ty (Ty.st .Trust)] (.one (Ty.i .i64)) fun a => F_threshold_Valid a.1, .fn 54 [.ty (Ty.st .Envelope)] (.one Ty.bool) fun a => F_envelopes_prepares a.1, .fn 55 [.ty (Ty.st .Ballot)] (.one Ty.bool) fun a => F_envelopes_finite a.1, .fn 56 [.ty (Ty.st .Ballot)] (.one Ty.bool) fun a => F_ballots_Valid a.1, .fn 50 [.ty (Ty.st .Ballot), .ty (Ty.st .Ballot)] (.one Ty.bool) fun a => F_ballots_Compatible a.1 a.2.1, .fn 48 [.ty (Ty.st .Ballot)] (.one Ty.bool) fun a => F_ballots_Zero a.1] sa_envelopes_Valid [.tmp 2] [.ty (Ty.st .Envelope)] (.one Ty.bool) = fun a => F_envelopes_Valid a.1 := by kernel_rfl
theorem s_envelopes_Valid : KFun.Sound (U := U) Try.prog (.fn 25 [.ty (Ty.st .Envelope)] (.one Ty.bool) fun a => F_envelopes_Valid a.1) := fnK_sound (K := K) (Γ := [.fn 53 [.ty (Ty.st .Trust)] (.one (Ty.i .i64)) fun a => F_threshold_Valid a.1, .fn 54 [.ty (Ty.st .Envelope)] (.one Ty.bool) fun a => F_envelopes_prepares a.1, .fn 55 [.ty (Ty.st .Ballot)] (.one Ty.bool) fun a => F_envelopes_finite a.1, .fn 56 [.ty (Ty.st .Ballot)] (.one Ty.bool) fun a => F_ballots_Valid a.1, .fn 50 [.ty (Ty.st .Ballot), .ty (Ty.st .Ballot)] (.one Ty.bool) fun a => F_ballots_Compatible a.1 a.2.1, .fn 48 [.ty (Ty.st .Ballot)] (.one Ty.bool) fun a => F_ballots_Zero a.1]) ok_envelopes_Valid (by kernel_rfl) (by decide) ⟨s_threshold_Valid, s_envelopes_prepares, s_envelopes_finite, s_ballots_Valid, s_ballots_Compatible, s_ballots_Zero, trivial⟩ (fun a => congrFun e_envelopes_Valid a)

/-! ### (trustquorum/envelopes.Right).from -/
def sa_envelopes_Right_from : SA U :=
 (.seq
  (.reg
  (.op ⟨(some 4), none, .box (.tmp 0)⟩
  (.op ⟨(some 8), none, .mov (.cst (.bool false))⟩
  .nil)))
  (.seq
   (.reg
   (.op ⟨(some 9), none, .mov (.tmp 2)⟩
   (.op ⟨(some 10), none, .bin .geq (.tmp 9) (.cst (.int .i64 1))⟩
   (.op ⟨(some 11), none, .mov (.tmp 10)⟩
   (.ite 11 true
    (.op ⟨(some 12), (some (11, true)), .mov (.tmp 2)⟩
    (.op ⟨(some 13), (some (11, true)), .mov (.tmp 3)⟩
    (.op ⟨(some 14), (some (11, true)), .bin .leq (.tmp 12) (.tmp 13)⟩
    .nil)))
    15 none (.tmp 14) (.cst (.bool false))
   (.op ⟨(some 16), none, .mov (.tmp 15)⟩
   (.ite 16 true
    (.op ⟨(some 17), (some (16, true)), .faddr 0 (.tmp 4)⟩
    (.op ⟨(some 18), (some (16, true)), .faddr 7 (.tmp 17)⟩
    (.op ⟨(some 19), (some (16, true)), .faddr 1 (.tmp 18)⟩
    (.op ⟨(some 20), (some (16, true)), .load none (.tmp 19)⟩
    (.op ⟨(some 21), (some (16, true)), .mov (.tmp 1)⟩
    (.op ⟨(some 22), (some (16, true)), .bin .eql (.tmp 20) (.tmp 21)⟩
    .nil))))))
    23 none (.tmp 22) (.cst (.bool false))
   (.op ⟨(some 24), none, .mov (.tmp 23)⟩
   (.ite 24 true
    (.op ⟨(some 25), (some (24, true)), .faddr 0 (.tmp 4)⟩
    (.op ⟨(some 26), (some (24, true)), .faddr 13 (.tmp 25)⟩
    (.op ⟨(some 27), (some (24, true)), .load none (.tmp 26)⟩
    (.op ⟨(some 28), (some (24, true)), .mov (.tmp 2)⟩
    (.op ⟨(some 29), (some (24, true)), .bin .leq (.tmp 27) (.tmp 28)⟩
    .nil)))))
    30 none (.tmp 29) (.cst (.bool false))
   (.op ⟨(some 8), none, .mov (.tmp 30)⟩
   .nil))))))))))
   .ret))
theorem ok_envelopes_Right_from : FnOk Try.prog 89 31 (SA.erase sa_envelopes_Right_from) [.tmp 8] := ⟨Try.f89, [], Try.func89, rfl, by kernel_rfl, by kernel_rfl, by kernel_rfl⟩
noncomputable def F_envelopes_Right_from (a0 : TRight) (a1 : ByteArray) (a2 : Int) (a3 : Int) : Option Bool :=
Option.bind (bif (decide ((1 : Int) ≤ a2)) then
some (decide (a2 ≤ a3))
else some false) fun b1 =>
Option.bind (bif b1 then
some (decide (a0.Envelope.Ballot.Value = a1))
else some false) fun b2 =>
Option.bind (bif b2 then
some (decide (a0.Envelope.Low ≤ a2))
else some false) fun b3 =>
some b3
theorem e_envelopes_Right_from : fnK K [] sa_envelopes_Right_from [.tmp 8] [.ty (Ty.st .Right), .ty Ty.str, .ty (Ty.i .i64), .ty (Ty.i .i64)] (.one Ty.bool) = fun a => F_envelopes_Right_from a.1 a.2.1 a.2.2.1 a.2.2.2.1 := by kernel_rfl
theorem s_envelopes_Right_from : KFun.Sound (U := U) Try.prog (.fn 89 [.ty (Ty.st .Right), .ty Ty.str, .ty (Ty.i .i64), .ty (Ty.i .i64)] (.one Ty.bool) fun a => F_envelopes_Right_from a.1 a.2.1 a.2.2.1 a.2.2.2.1) := fnK_sound (K := K) (Γ := []) ok_envelopes_Right_from (by kernel_rfl) (by decide) trivial (fun a => congrFun e_envelopes_Right_from a)

/-! ### (trustquorum/envelopes.Right).VotesCommit -/
def sa_envelopes_Right_VotesCommit : SA U :=
 (.seq
  (.reg
  (.op ⟨(some 4), none, .box (.tmp 0)⟩
  (.op ⟨(some 8), none, .mov (.cst (.bool false))⟩
  .nil)))
  (.seq
   (.reg
   (.op ⟨(some 9), none, .load (some 15) (.tmp 4)⟩
   (.op ⟨(some 10), none, .mov (.tmp 1)⟩
   (.op ⟨(some 11), none, .mov (.tmp 2)⟩
   (.op ⟨(some 12), none, .mov (.tmp 3)⟩
   (.op ⟨(some 13), none, .call 89 [(.tmp 9), (.tmp 10), (.tmp 11), (.tmp 12)]⟩
   (.op ⟨(some 14), none, .mov (.tmp 13)⟩
   (.ite 14 true
    (.op ⟨(some 15), (some (14, true)), .faddr 0 (.tmp 4)⟩
    (.op ⟨(some 16), (some (14, true)), .faddr 6 (.tmp 15)⟩
    (.op ⟨(some 17), (some (14, true)), .load none (.tmp 16)⟩
    (.op ⟨(some 18), (some (14, true)), .bin .neq (.tmp 17) (.cst (.int .i64 1))⟩
    (.op ⟨(some 19), (some (14, true)), .mov (.tmp 18)⟩
    (.ite 19 false
     (.op ⟨(some 20), (some (19, false)), .faddr 0 (.tmp 4)⟩
     (.op ⟨(some 21), (some (19, false)), .faddr 13 (.tmp 20)⟩
     (.op ⟨(some 22), (some (19, false)), .load none (.tmp 21)⟩
     (.op ⟨(some 23), (some (19, false)), .bin .neq (.tmp 22) (.cst (.int .i64 0))⟩
     (.op ⟨(some 24), (some (19, false)), .mov (.tmp 23)⟩
     (.ite 24 true
      (.op ⟨(some 25), (some (24, true)), .mov (.tmp 3)⟩
      (.op ⟨(some 26), (some (24, true)), .faddr 0 (.tmp 4)⟩
      (.op ⟨(some 27), (some (24, true)), .faddr 14 (.tmp 26)⟩
      (.op ⟨(some 28), (some (24, true)), .load none (.tmp 27)⟩
      (.op ⟨(some 29), (some (24, true)), .bin .leq (.tmp 25) (.tmp 28)⟩
      .nil)))))
      30 (some (19, false)) (.tmp 29) (.cst (.bool false))
     .nil))))))
     31 (some (14, true)) (.cst (.bool true)) (.tmp 30)
    .nil))))))
    32 none (.tmp 31) (.cst (.bool false))
   (.op ⟨(some 8), none, .mov (.tmp 32)⟩
   .nil)))))))))
   .ret))
theorem ok_envelopes_Right_VotesCommit : FnOk Try.prog 47 33 (SA.erase sa_envelopes_Right_VotesCommit) [.tmp 8] := ⟨Try.f47, [], Try.func47, rfl, by kernel_rfl, by kernel_rfl, by kernel_rfl⟩
noncomputable def F_envelopes_Right_VotesCommit (a0 : TRight) (a1 : ByteArray) (a2 : Int) (a3 : Int) : Option Bool :=
Option.bind (F_envelopes_Right_from (TRight.mk (TEnvelope.mk a0.Envelope.Node a0.Envelope.Slot a0.Envelope.Seq (TTrust.mk a0.Envelope.Trust.Threshold a0.Envelope.Trust.Nodes a0.Envelope.Trust.Inner) a0.Envelope.Kind a0.Envelope.Ballot a0.Envelope.Prepared a0.Envelope.Prime a0.Envelope.Low a0.Envelope.High)) a1 a2 a3) fun r1 =>
Option.bind (bif r1 then
Option.bind (bif (!decide (a0.Envelope.Kind = (1 : Int))) then some true
else
Option.bind (bif (!decide (a0.Envelope.Low = (0 : Int))) then
some (decide (a3 ≤ a0.Envelope.High))
else some false) fun b2 =>
some b2) fun b3 =>
some b3
else some false) fun b4 =>
some b4
theorem e_envelopes_Right_VotesCommit : fnK K [.fn 89 [.ty (Ty.st .Right), .ty Ty.str, .ty (Ty.i .i64), .ty (Ty.i .i64)] (.one Ty.bool) fun a => F_envelopes_Right_from a.1 a.2.1 a.2.2.1 a.2.2.2.1] sa_envelopes_Right_VotesCommit [.tmp 8] [.ty (Ty.st .Right), .ty Ty.str, .ty (Ty.i .i64), .ty (Ty.i .i64)] (.one Ty.bool) = fun a => F_envelopes_Right_VotesCommit a.1 a.2.1 a.2.2.1 a.2.2.2.1 := by kernel_rfl
theorem s_envelopes_Right_VotesCommit : KFun.Sound (U := U) Try.prog (.fn 47 [.ty (Ty.st .Right), .ty Ty.str, .ty (Ty.i .i64), .ty (Ty.i .i64)] (.one Ty.bool) fun a => F_envelopes_Right_VotesCommit a.1 a.2.1 a.2.2.1 a.2.2.2.1) := fnK_sound (K := K) (Γ := [.fn 89 [.ty (Ty.st .Right), .ty Ty.str, .ty (Ty.i .i64), .ty (Ty.i .i64)] (.one Ty.bool) fun a => F_envelopes_Right_from a.1 a.2.1 a.2.2.1 a.2.2.2.1]) ok_envelopes_Right_VotesCommit (by kernel_rfl) (by decide) ⟨s_envelopes_Right_from, trivial⟩ (fun a => congrFun e_envelopes_Right_VotesCommit a)

/-! ### trustquorum/envelopes.VotesCommit -/
def sa_envelopes_VotesCommit : SA U :=
 (.seq
  (.reg
  (.op ⟨(some 4), none, .box (.tmp 0)⟩
  (.op ⟨(some 8), none, .mov (.cst (.bool false))⟩
  .nil)))
  (.seq
   (.reg
   (.op ⟨(some 9), none, .load (some 15) (.tmp 4)⟩
   (.op ⟨(some 10), none, .call 25 [(.tmp 9)]⟩
   (.op ⟨(some 11), none, .mov (.tmp 10)⟩
   (.ite 11 true
    (.op ⟨(some 12), (some (11, true)), .load (some 15) (.tmp 4)⟩
    (.op ⟨(some 13), (some (11, true)), .build [.int .i64 0, .int .i64 0, .int .i64 0, .int .i64 0, .nils, .nils, .int .i64 0, .int .i64 0, .str ⟨#[]⟩, .int .i64 0, .str ⟨#[]⟩, .int .i64 0, .str ⟨#[]⟩, .int .i64 0, .int .i64 0] [(0, 15, (.tmp 12))]⟩
    (.op ⟨(some 14), (some (11, true)), .mov (.tmp 1)⟩
    (.op ⟨(some 15), (some (11, true)), .mov (.tmp 2)⟩
    (.op ⟨(some 16), (some (11, true)), .mov (.tmp 3)⟩
    (.op ⟨(some 17), (some (11, true)), .call 47 [(.tmp 13), (.tmp 14), (.tmp 15), (.tmp 16)]⟩
    .nil))))))
    18 none (.tmp 17) (.cst (.bool false))
   (.op ⟨(some 8), none, .mov (.tmp 18)⟩
   .nil))))))
   .ret))
theorem ok_envelopes_VotesCommit : FnOk Try.prog 15 19 (SA.erase sa_envelopes_VotesCommit) [.tmp 8] := ⟨Try.f15, [], Try.func15, rfl, by kernel_rfl, by kernel_rfl, by kernel_rfl⟩
noncomputable def F_envelopes_VotesCommit (a0 : TEnvelope) (a1 : ByteArray) (a2 : Int) (a3 : Int) : Option Bool :=
Option.bind (F_envelopes_Valid (TEnvelope.mk a0.Node a0.Slot a0.Seq (TTrust.mk a0.Trust.Threshold a0.Trust.Nodes a0.Trust.Inner) a0.Kind a0.Ballot a0.Prepared a0.Prime a0.Low a0.High)) fun r1 =>
Option.bind (bif r1 then
Option.bind (F_envelopes_Right_VotesCommit (TRight.mk (TEnvelope.mk a0.Node a0.Slot a0.Seq (TTrust.mk a0.Trust.Threshold a0.Trust.Nodes a0.Trust.Inner) a0.Kind a0.Ballot a0.Prepared a0.Prime a0.Low a0.High)) a1 a2 a3) fun r2 =>
some r2
else some false) fun b3 =>
some b3
theorem e_envelopes_VotesCommit : fnK K [.fn 25 [.ty (Ty.st .Envelope)] (.one Ty.bool) fun a => F_envelopes_Valid a.1, .fn 47 [.ty (Ty.st .Right), .ty Ty.str, .ty (Ty.i .i64), .ty (Ty.i .i64)] (.one Ty.bool) fun a => F_envelopes_Right_VotesCommit a.1 a.2.1 a.2.2.1 a.2.2.2.1] sa_envelopes_VotesCommit [.tmp 8] [.ty (Ty.st .Envelope), .ty Ty.str, .ty (Ty.i .i64), .ty (Ty.i .i64)] (.one Ty.bool) = fun a => F_envelopes_VotesCommit a.1 a.2.1 a.2.2.1 a.2.2.2.1 := by kernel_rfl
theorem s_envelopes_VotesCommit : KFun.Sound (U := U) Try.prog (.fn 15 [.ty (Ty.st .Envelope), .ty Ty.str, .ty (Ty.i .i64), .ty (Ty.i .i64)] (.one Ty.bool) fun a => F_envelopes_VotesCommit a.1 a.2.1 a.2.2.1 a.2.2.2.1) := fnK_sound (K := K) (Γ := [.fn 25 [.ty (Ty.st .Envelope)] (.one Ty.bool) fun a => F_envelopes_Valid a.1, .fn 47 [.ty (Ty.st .Right), .ty Ty.str, .ty (Ty.i .i64), .ty (Ty.i .i64)] (.one Ty.bool) fun a => F_envelopes_Right_VotesCommit a.1 a.2.1 a.2.2.1 a.2.2.2.1]) ok_envelopes_VotesCommit (by kernel_rfl) (by decide) ⟨s_envelopes_Valid, s_envelopes_Right_VotesCommit, trivial⟩ (fun a => congrFun e_envelopes_VotesCommit a)

/-! ### trustquorum/trustquorumplay.Flat -/
def sa_play_Flat : SA U :=
 (.seq
  (.reg
  (.op ⟨(some 4), none, .alloc [.int .i64 0, .nils, .nils]⟩
  .nil))
  (.seq
   (.reg
   (.op ⟨(some 7), none, .mov (.tmp 1)⟩
   (.op ⟨(some 8), none, .build [.int .i64 0, .nils, .nils] [(0, 1, (.tmp 7))]⟩
   (.op ⟨(some 5), none, .alloc [.int .i64 0, .nils, .nils]⟩
   (.op ⟨none, none, .store 3 (.tmp 5) (.tmp 8)⟩
   .nil)))))
   (.seq
    (.seq
     (.reg
     (.op ⟨(some 6), none, .mov (.cst (.int .i64 0))⟩
     .nil))
     (.block 0
      (.ps (.ownB 5 1 3 1 (Ty.i .i64))
      (.loop ⟨[.val 6 (Ty.i .i64), .box 3 1 (Ty.st .Trust) [(1, 6, 1)], .rowb 6 1 3 1 (Ty.i .i64)], [0, 4, 5]⟩
       (.seq
        (.seq
         (.reg
         (.op ⟨(some 9), none, .mov (.tmp 6)⟩
         (.op ⟨(some 10), none, .mov (.tmp 0)⟩
         (.op ⟨(some 11), none, .bin .lss (.tmp 9) (.tmp 10)⟩
         .nil))))
         (.cond (.tmp 11)
          .skip
          (.exit 0)))
        (.seq
         (.block 1
          (.reg
          (.op ⟨(some 14), none, .faddr 1 (.tmp 5)⟩
          (.op ⟨(some 15), none, .load none (.tmp 14)⟩
          (.op ⟨(some 16), none, .mov (.tmp 6)⟩
          (.op ⟨(some 17), none, .bsl false 3 1 (List.replicate 1 [.int .i64 0]) [(0, (.tmp 16))]⟩
          (.op ⟨(some 18), none, .app 3 1 8 (.tmp 15) (.tmp 17)⟩
          (.op ⟨(some 19), none, .faddr 1 (.tmp 5)⟩
          (.op ⟨none, none, .store 1 (.tmp 19) (.tmp 18)⟩
          .nil)))))))))
         (.reg
         (.op ⟨(some 12), none, .mov (.tmp 6)⟩
         (.op ⟨(some 13), none, .bin .add (.tmp 12) (.cst (.int .i64 1))⟩
         (.op ⟨(some 6), none, .mov (.tmp 13)⟩
         .nil))))))))))
    (.seq
     (.reg
     (.op ⟨(some 20), none, .load (some 3) (.tmp 5)⟩
     (.op ⟨none, none, .store 3 (.tmp 4) (.tmp 20)⟩
     .nil)))
     .ret))))
theorem ok_play_Flat : FnOk Try.prog 41 21 (SA.erase sa_play_Flat) [.cell 4 (some 3)] := ⟨Try.f41, [], Try.func41, rfl, by kernel_rfl, by kernel_rfl, by kernel_rfl⟩
noncomputable def F_play_Flat (a0 : Int) (a1 : Int) : Option TTrust :=
loopO (fun (v1 : Int × TTrust × (List Int) × Unit) =>
bif (decide (v1.1 < a0)) then
bif lenOk 8 (List.length v1.2.2.1 + List.length [v1.1]) then
some (Sum.inl ((addI .i64 v1.1 (1 : Int)), (TTrust.mk v1.2.1.Threshold ([] : List Int) v1.2.1.Inner), (v1.2.2.1 ++ [v1.1]), ()))
else none
else
Option.map Sum.inr (some (TTrust.mk v1.2.1.Threshold v1.2.2.1 v1.2.1.Inner))) ((0 : Int), (TTrust.mk a1 ([] : List Int) ([] : List TTrust)), ([] : List Int), ())
theorem e_play_Flat : fnK K [] sa_play_Flat [.cell 4 (some 3)] [.ty (Ty.i .i64), .ty (Ty.i .i64)] (.one (Ty.st .Trust)) = fun a => F_play_Flat a.1 a.2.1 := by kernel_rfl
theorem s_play_Flat : KFun.Sound (U := U) Try.prog (.fn 41 [.ty (Ty.i .i64), .ty (Ty.i .i64)] (.one (Ty.st .Trust)) fun a => F_play_Flat a.1 a.2.1) := fnK_sound (K := K) (Γ := []) ok_play_Flat (by kernel_rfl) (by decide) trivial (fun a => congrFun e_play_Flat a)

/-! ### (trustquorum/envelopes.Right).AcceptsCommit -/
def sa_envelopes_Right_AcceptsCommit : SA U :=
 (.seq
  (.reg
  (.op ⟨(some 4), none, .box (.tmp 0)⟩
  (.op ⟨(some 8), none, .mov (.cst (.bool false))⟩
  .nil)))
  (.seq
   (.reg
   (.op ⟨(some 9), none, .load (some 15) (.tmp 4)⟩
   (.op ⟨(some 10), none, .mov (.tmp 1)⟩
   (.op ⟨(some 11), none, .mov (.tmp 2)⟩
   (.op ⟨(some 12), none, .mov (.tmp 3)⟩
   (.op ⟨(some 13), none, .call 89 [(.tmp 9), (.tmp 10), (.tmp 11), (.tmp 12)]⟩
   (.op ⟨(some 14), none, .mov (.tmp 13)⟩
   (.ite 14 true
    (.op ⟨(some 15), (some (14, true)), .faddr 0 (.tmp 4)⟩
    (.op ⟨(some 16), (some (14, true)), .faddr 6 (.tmp 15)⟩
    (.op ⟨(some 17), (some (14, true)), .load none (.tmp 16)⟩
    (.op ⟨(some 18), (some (14, true)), .bin .eql (.tmp 17) (.cst (.int .i64 3))⟩
    (.op ⟨(some 19), (some (14, true)), .mov (.tmp 18)⟩
    (.ite 19 false
     (.op ⟨(some 20), (some (19, false)), .faddr 0 (.tmp 4)⟩
     (.op ⟨(some 21), (some (19, false)), .faddr 6 (.tmp 20)⟩
     (.op ⟨(some 22), (some (19, false)), .load none (.tmp 21)⟩
     (.op ⟨(some 23), (some (19, false)), .bin .eql (.tmp 22) (.cst (.int .i64 2))⟩
     (.op ⟨(some 24), (some (19, false)), .mov (.tmp 23)⟩
     (.ite 24 true
      (.op ⟨(some 25), (some (24, true)), .mov (.tmp 3)⟩
      (.op ⟨(some 26), (some (24, true)), .faddr 0 (.tmp 4)⟩
      (.op ⟨(some 27), (some (24, true)), .faddr 14 (.tmp 26)⟩
      (.op ⟨(some 28), (some (24, true)), .load none (.tmp 27)⟩
      (.op ⟨(some 29), (some (24, true)), .bin .leq (.tmp 25) (.tmp 28)⟩
      .nil)))))
      30 (some (19, false)) (.tmp 29) (.cst (.bool false))
     .nil))))))
     31 (some (14, true)) (.cst (.bool true)) (.tmp 30)
    .nil))))))
    32 none (.tmp 31) (.cst (.bool false))
   (.op ⟨(some 8), none, .mov (.tmp 32)⟩
   .nil)))))))))
   .ret))
theorem ok_envelopes_Right_AcceptsCommit : FnOk Try.prog 57 33 (SA.erase sa_envelopes_Right_AcceptsCommit) [.tmp 8] := ⟨Try.f57, [], Try.func57, rfl, by kernel_rfl, by kernel_rfl, by kernel_rfl⟩
noncomputable def F_envelopes_Right_AcceptsCommit (a0 : TRight) (a1 : ByteArray) (a2 : Int) (a3 : Int) : Option Bool :=
Option.bind (F_envelopes_Right_from (TRight.mk (TEnvelope.mk a0.Envelope.Node a0.Envelope.Slot a0.Envelope.Seq (TTrust.mk a0.Envelope.Trust.Threshold a0.Envelope.Trust.Nodes a0.Envelope.Trust.Inner) a0.Envelope.Kind a0.Envelope.Ballot a0.Envelope.Prepared a0.Envelope.Prime a0.Envelope.Low a0.Envelope.High)) a1 a2 a3) fun r1 =>
Option.bind (bif r1 then
Option.bind (bif (decide (a0.Envelope.Kind = (3 : Int))) then some true
else
Option.bind (bif (decide (a0.Envelope.Kind = (2 : Int))) then
some (decide (a3 ≤ a0.Envelope.High))
else some false) fun b2 =>
some b2) fun b3 =>
some b3
else some false) fun b4 =>
some b4
theorem e_envelopes_Right_AcceptsCommit : fnK K [.fn 89 [.ty (Ty.st .Right), .ty Ty.str, .ty (Ty.i .i64), .ty (Ty.i .i64)] (.one Ty.bool) fun a => F_envelopes_Right_from a.1 a.2.1 a.2.2.1 a.2.2.2.1] sa_envelopes_Right_AcceptsCommit [.tmp 8] [.ty (Ty.st .Right), .ty Ty.str, .ty (Ty.i .i64), .ty (Ty.i .i64)] (.one Ty.bool) = fun a => F_envelopes_Right_AcceptsCommit a.1 a.2.1 a.2.2.1 a.2.2.2.1 := by kernel_rfl
theorem s_envelopes_Right_AcceptsCommit : KFun.Sound (U := U) Try.prog (.fn 57 [.ty (Ty.st .Right), .ty Ty.str, .ty (Ty.i .i64), .ty (Ty.i .i64)] (.one Ty.bool) fun a => F_envelopes_Right_AcceptsCommit a.1 a.2.1 a.2.2.1 a.2.2.2.1) := fnK_sound (K := K) (Γ := [.fn 89 [.ty (Ty.st .Right), .ty Ty.str, .ty (Ty.i .i64), .ty (Ty.i .i64)] (.one Ty.bool) fun a => F_envelopes_Right_from a.1 a.2.1 a.2.2.1 a.2.2.2.1]) ok_envelopes_Right_AcceptsCommit (by kernel_rfl) (by decide) ⟨s_envelopes_Right_from, trivial⟩ (fun a => congrFun e_envelopes_Right_AcceptsCommit a)

/-! ### trustquorum/envelopes.AcceptsCommit -/
def sa_envelopes_AcceptsCommit : SA U :=
 (.seq
  (.reg
  (.op ⟨(some 4), none, .box (.tmp 0)⟩
  (.op ⟨(some 8), none, .mov (.cst (.bool false))⟩
  .nil)))
  (.seq
   (.reg
   (.op ⟨(some 9), none, .load (some 15) (.tmp 4)⟩
   (.op ⟨(some 10), none, .call 25 [(.tmp 9)]⟩
   (.op ⟨(some 11), none, .mov (.tmp 10)⟩
   (.ite 11 true
    (.op ⟨(some 12), (some (11, true)), .load (some 15) (.tmp 4)⟩
    (.op ⟨(some 13), (some (11, true)), .build [.int .i64 0, .int .i64 0, .int .i64 0, .int .i64 0, .nils, .nils, .int .i64 0, .int .i64 0, .str ⟨#[]⟩, .int .i64 0, .str ⟨#[]⟩, .int .i64 0, .str ⟨#[]⟩, .int .i64 0, .int .i64 0] [(0, 15, (.tmp 12))]⟩
    (.op ⟨(some 14), (some (11, true)), .mov (.tmp 1)⟩
    (.op ⟨(some 15), (some (11, true)), .mov (.tmp 2)⟩
    (.op ⟨(some 16), (some (11, true)), .mov (.tmp 3)⟩
    (.op ⟨(some 17), (some (11, true)), .call 57 [(.tmp 13), (.tmp 14), (.tmp 15), (.tmp 16)]⟩
    .nil))))))
    18 none (.tmp 17) (.cst (.bool false))
   (.op ⟨(some 8), none, .mov (.tmp 18)⟩
   .nil))))))
   .ret))
theorem ok_envelopes_AcceptsCommit : FnOk Try.prog 27 19 (SA.erase sa_envelopes_AcceptsCommit) [.tmp 8] := ⟨Try.f27, [], Try.func27, rfl, by kernel_rfl, by kernel_rfl, by kernel_rfl⟩
noncomputable def F_envelopes_AcceptsCommit (a0 : TEnvelope) (a1 : ByteArray) (a2 : Int) (a3 : Int) : Option Bool :=
Option.bind (F_envelopes_Valid (TEnvelope.mk a0.Node a0.Slot a0.Seq (TTrust.mk a0.Trust.Threshold a0.Trust.Nodes a0.Trust.Inner) a0.Kind a0.Ballot a0.Prepared a0.Prime a0.Low a0.High)) fun r1 =>
Option.bind (bif r1 then
Option.bind (F_envelopes_Right_AcceptsCommit (TRight.mk (TEnvelope.mk a0.Node a0.Slot a0.Seq (TTrust.mk a0.Trust.Threshold a0.Trust.Nodes a0.Trust.Inner) a0.Kind a0.Ballot a0.Prepared a0.Prime a0.Low a0.High)) a1 a2 a3) fun r2 =>
some r2
else some false) fun b3 =>
some b3
theorem e_envelopes_AcceptsCommit : fnK K [.fn 25 [.ty (Ty.st .Envelope)] (.one Ty.bool) fun a => F_envelopes_Valid a.1, .fn 57 [.ty (Ty.st .Right), .ty Ty.str, .ty (Ty.i .i64), .ty (Ty.i .i64)] (.one Ty.bool) fun a => F_envelopes_Right_AcceptsCommit a.1 a.2.1 a.2.2.1 a.2.2.2.1] sa_envelopes_AcceptsCommit [.tmp 8] [.ty (Ty.st .Envelope), .ty Ty.str, .ty (Ty.i .i64), .ty (Ty.i .i64)] (.one Ty.bool) = fun a => F_envelopes_AcceptsCommit a.1 a.2.1 a.2.2.1 a.2.2.2.1 := by kernel_rfl
theorem s_envelopes_AcceptsCommit : KFun.Sound (U := U) Try.prog (.fn 27 [.ty (Ty.st .Envelope), .ty Ty.str, .ty (Ty.i .i64), .ty (Ty.i .i64)] (.one Ty.bool) fun a => F_envelopes_AcceptsCommit a.1 a.2.1 a.2.2.1 a.2.2.2.1) := fnK_sound (K := K) (Γ := [.fn 25 [.ty (Ty.st .Envelope)] (.one Ty.bool) fun a => F_envelopes_Valid a.1, .fn 57 [.ty (Ty.st .Right), .ty Ty.str, .ty (Ty.i .i64), .ty (Ty.i .i64)] (.one Ty.bool) fun a => F_envelopes_Right_AcceptsCommit a.1 a.2.1 a.2.2.1 a.2.2.2.1]) ok_envelopes_AcceptsCommit (by kernel_rfl) (by decide) ⟨s_envelopes_Valid, s_envelopes_Right_AcceptsCommit, trivial⟩ (fun a => congrFun e_envelopes_AcceptsCommit a)

/-! ### (trustquorum/envelopes.Right).Count -/
def sa_envelopes_Right_Count : SA U :=
 (.seq
  (.reg
  (.op ⟨(some 1), none, .box (.tmp 0)⟩
  (.op ⟨(some 2), none, .mov (.cst (.int .i64 0))⟩
  .nil)))
  (.seq
   (.seq
    (.reg
    (.op ⟨(some 3), none, .faddr 0 (.tmp 1)⟩
    (.op ⟨(some 4), none, .faddr 6 (.tmp 3)⟩
    (.op ⟨(some 5), none, .load none (.tmp 4)⟩
    (.op ⟨(some 6), none, .bin .eql (.tmp 5) (.cst (.int .i64 3))⟩
    .nil)))))
    (.cond (.tmp 6)
     (.seq
      (.reg
      (.op ⟨(some 2), none, .mov (.cst (.int .i64 1000000))⟩
      .nil))
      .ret)
     .skip))
   (.seq
    (.reg
    (.op ⟨(some 7), none, .faddr 0 (.tmp 1)⟩
    (.op ⟨(some 8), none, .faddr 7 (.tmp 7)⟩
    (.op ⟨(some 9), none, .faddr 0 (.tmp 8)⟩
    (.op ⟨(some 10), none, .load none (.tmp 9)⟩
    (.op ⟨(some 2), none, .mov (.tmp 10)⟩
    .nil))))))
    .ret)))
theorem ok_envelopes_Right_Count : FnOk Try.prog 60 11 (SA.erase sa_envelopes_Right_Count) [.tmp 2] := ⟨Try.f60, [], Try.func60, rfl, by kernel_rfl, by kernel_rfl, by kernel_rfl⟩
noncomputable def F_envelopes_Right_Count (a0 : TRight) : Option Int :=
bif (decide (a0.Envelope.Kind = (3 : Int))) then
some (1000000 : Int)
else
some a0.Envelope.Ballot.Counter
theorem e_envelopes_Right_Count : fnK K [] sa_envelopes_Right_Count [.tmp 2] [.ty (Ty.st .Right)] (.one (Ty.i .i64)) = fun a => F_envelopes_Right_Count a.1 := by kernel_rfl
theorem s_envelopes_Right_Count : KFun.Sound (U := U) Try.prog (.fn 60 [.ty (Ty.st .Right)] (.one (Ty.i .i64)) fun a => F_envelopes_Right_Count a.1) := fnK_sound (K := K) (Γ := []) ok_envelopes_Right_Count (by kernel_rfl) (by decide) trivial (fun a => congrFun e_envelopes_Right_Count a)

/-! ### trustquorum/envelopes.Counter -/
def sa_envelopes_Counter : SA U :=
 (.seq
  (.reg
  (.op ⟨(some 1), none, .box (.tmp 0)⟩
  (.op ⟨(some 2), none, .mov (.cst (.int .i64 0))⟩
  .nil)))
  (.seq
   (.seq
    (.reg
    (.op ⟨(some 3), none, .load (some 15) (.tmp 1)⟩
    (.op ⟨(some 4), none, .call 25 [(.tmp 3)]⟩
    (.op ⟨(some 5), none, .not (.tmp 4)⟩
    .nil))))
    (.cond (.tmp 5)
     (.seq
      (.reg
      (.op ⟨(some 2), none, .mov (.cst (.int .i64 0))⟩
      .nil))
      .ret)
     .skip))
   (.seq
    (.reg
    (.op ⟨(some 6), none, .load (some 15) (.tmp 1)⟩
    (.op ⟨(some 7), none, .build [.int .i64 0, .int .i64 0, .int .i64 0, .int .i64 0, .nils, .nils, .int .i64 0, .int .i64 0, .str ⟨#[]⟩, .int .i64 0, .str ⟨#[]⟩, .int .i64 0, .str ⟨#[]⟩, .int .i64 0, .int .i64 0] [(0, 15, (.tmp 6))]⟩
    (.op ⟨(some 8), none, .call 60 [(.tmp 7)]⟩
    (.op ⟨(some 2), none, .mov (.tmp 8)⟩
    .nil)))))
    .ret)))
theorem ok_envelopes_Counter : FnOk Try.prog 32 9 (SA.erase sa_envelopes_Counter) [.tmp 2] := ⟨Try.f32, [], Try.func32, rfl, by kernel_rfl, by kernel_rfl, by kernel_rfl⟩
noncomputable def F_envelopes_Counter (a0 : TEnvelope) : Option Int :=
Option.bind (F_envelopes_Valid (TEnvelope.mk a0.Node a0.Slot a0.Seq (TTrust.mk a0.Trust.Threshold a0.Trust.Nodes a0.Trust.Inner) a0.Kind a0.Ballot a0.Prepared a0.Prime a0.Low a0.High)) fun r1 =>
bif (!r1) then
some (0 : Int)
else
Option.bind (F_envelopes_Right_Count (TRight.mk (TEnvelope.mk a0.Node a0.Slot a0.Seq (TTrust.mk a0.Trust.Threshold a0.Trust.Nodes a0.Trust.Inner) a0.Kind a0.Ballot a0.Prepared a0.Prime a0.Low a0.High))) fun r2 =>
some r2
theorem e_envelopes_Counter : fnK K [.fn 25 [.ty (Ty.st .Envelope)] (.one Ty.bool) fun a => F_envelopes_Valid a.1, .fn 60 [.ty (Ty.st .Right)] (.one (Ty.i .i64)) fun a => F_envelopes_Right_Count a.1] sa_envelopes_Counter [.tmp 2] [.ty (Ty.st .Envelope)] (.one (Ty.i .i64)) = fun a => F_envelopes_Counter a.1 := by kernel_rfl
theorem s_envelopes_Counter : KFun.Sound (U := U) Try.prog (.fn 32 [.ty (Ty.st .Envelope)] (.one (Ty.i .i64)) fun a => F_envelopes_Counter a.1) := fnK_sound (K := K) (Γ := [.fn 25 [.ty (Ty.st .Envelope)] (.one Ty.bool) fun a => F_envelopes_Valid a.1, .fn 60 [.ty (Ty.st .Right)] (.one (Ty.i .i64)) fun a => F_envelopes_Right_Count a.1]) ok_envelopes_Counter (by kernel_rfl) (by decide) ⟨s_envelopes_Valid, s_envelopes_Right_Count, trivial⟩ (fun a => congrFun e_envelopes_Counter a)

/-! ### trustquorum/trustquorumlaw24.sane -/
def sa_law24_sane : SA U :=
 (.seq
  (.reg
  (.op ⟨(some 0), none, .mov (.cst (.bool false))⟩
  .nil))
  (.seq
   (.reg
   (.op ⟨(some 2), none, .call 41 [(.cst (.int .i64 3)), (.cst (.int .i64 2))]⟩
   (.op ⟨(some 3), none, .build [.int .i64 0, .str ⟨#[]⟩] [(0, 1, (.cst (.int .i64 3))), (1, 1, (.cst (.str ⟨#[97]⟩)))]⟩
   (.op ⟨(some 4), none, .build [.int .i64 0, .str ⟨#[]⟩] [(0, 1, (.cst (.int .i64 3))), (1, 1, (.cst (.str ⟨#[97]⟩)))]⟩
   (.op ⟨(some 5), none, .build [.int .i64 0, .int .i64 0, .int .i64 0, .int .i64 0, .nils, .nils, .int .i64 0, .int .i64 0, .str ⟨#[]⟩, .int .i64 0, .str ⟨#[]⟩, .int .i64 0, .str ⟨#[]⟩, .int .i64 0, .int .i64 0] [(1, 1, (.cst (.int .i64 1))), (2, 1, (.cst (.int .i64 1))), (3, 3, (.tmp 2)), (6, 1, (.cst (.int .i64 1))), (7, 2, (.tmp 3)), (9, 2, (.tmp 4)), (13, 1, (.cst (.int .i64 2))), (14, 1, (.cst (.int .i64 3)))]⟩
   (.op ⟨(some 1), none, .alloc [.int .i64 0, .int .i64 0, .int .i64 0, .int .i64 0, .nils, .nils, .int .i64 0, .int .i64 0, .str ⟨#[]⟩, .int .i64 0, .str ⟨#[]⟩, .int .i64 0, .str ⟨#[]⟩, .int .i64 0, .int .i64 0]⟩
   (.op ⟨none, none, .store 15 (.tmp 1) (.tmp 5)⟩
   .nil)))))))
   (.seq
    (.reg
    (.op ⟨(some 6), none, .load (some 15) (.tmp 1)⟩
    (.op ⟨(some 7), none, .call 25 [(.tmp 6)]⟩
    (.op ⟨(some 8), none, .mov (.tmp 7)⟩
    (.ite 8 true
     (.op ⟨(some 9), (some (8, true)), .load (some 15) (.tmp 1)⟩
     (.op ⟨(some 10), (some (8, true)), .call 15 [(.tmp 9), (.cst (.str ⟨#[97]⟩)), (.cst (.int .i64 2)), (.cst (.int .i64 3))]⟩
     .nil))
     11 none (.tmp 10) (.cst (.bool false))
    (.op ⟨(some 12), none, .mov (.tmp 11)⟩
    (.ite 12 true
     (.op ⟨(some 13), (some (12, true)), .load (some 15) (.tmp 1)⟩
     (.op ⟨(some 14), (some (12, true)), .call 27 [(.tmp 13), (.cst (.str ⟨#[97]⟩)), (.cst (.int .i64 2)), (.cst (.int .i64 3))]⟩
     (.op ⟨(some 15), (some (12, true)), .not (.tmp 14)⟩
     .nil)))
     16 none (.tmp 15) (.cst (.bool false))
    (.op ⟨(some 17), none, .mov (.tmp 16)⟩
    (.ite 17 true
     (.op ⟨(some 18), (some (17, true)), .load (some 15) (.tmp 1)⟩
     (.op ⟨(some 19), (some (17, true)), .call 32 [(.tmp 18)]⟩
     (.op ⟨(some 20), (some (17, true)), .bin .eql (.tmp 19) (.cst (.int .i64 3))⟩
     .nil)))
     21 none (.tmp 20) (.cst (.bool false))
    (.op ⟨(some 0), none, .mov (.tmp 21)⟩
    .nil))))))))))
    .ret)))
theorem ok_law24_sane : FnOk Try.prog 16 22 (SA.erase sa_law24_sane) [.tmp 0] := ⟨Try.f16, [], Try.func16, rfl, by kernel_rfl, by kernel_rfl, by kernel_rfl⟩
noncomputable def F_law24_sane  : Option Bool :=
Option.bind (F_play_Flat (3 : Int) (2 : Int)) fun r1 =>
Option.bind (F_envelopes_Valid (TEnvelope.mk (0 : Int) (1 : Int) (1 : Int) (TTrust.mk r1.Threshold r1.Nodes r1.Inner) (1 : Int) (TBallot.mk (3 : Int) (ByteArray.mk #[97])) (TBallot.mk (3 : Int) (ByteArray.mk #[97])) (TBallot.mk (0 : Int) (ByteArray.mk #[])) (2 : Int) (3 : Int))) fun r2 =>
Option.bind (bif r2 then
Option.bind (F_envelopes_VotesCommit (TEnvelope.mk (0 : Int) (1 : Int) (1 : Int) (TTrust.mk r1.Threshold r1.Nodes r1.Inner) (1 : Int) (TBallot.mk (3 : Int) (ByteArray.mk #[97])) (TBallot.mk (3 : Int) (ByteArray.mk #[97])) (TBallot.mk (0 : Int) (ByteArray.mk #[])) (2 : Int) (3 : Int)) (ByteArray.mk #[97]) (2 : Int) (3 : Int)) fun r3 =>
some r3
else some false) fun b4 =>
Option.bind (bif b4 then
Option.bind (F_envelopes_AcceptsCommit (TEnvelope.mk (0 : Int) (1 : Int) (1 : Int) (TTrust.mk r1.Threshold r1.Nodes r1.Inner) (1 : Int) (TBallot.mk (3 : Int) (ByteArray.mk #[97])) (TBallot.mk (3 : Int) (ByteArray.mk #[97])) (TBallot.mk (0 : Int) (ByteArray.mk #[])) (2 : Int) (3 : Int)) (ByteArray.mk #[97]) (2 : Int) (3 : Int)) fun r5 =>
some (!r5)
else some false) fun b6 =>
Option.bind (bif b6 then
Option.bind (F_envelopes_Counter (TEnvelope.mk (0 : Int) (1 : Int) (1 : Int) (TTrust.mk r1.Threshold r1.Nodes r1.Inner) (1 : Int) (TBallot.mk (3 : Int) (ByteArray.mk #[97])) (TBallot.mk (3 : Int) (ByteArray.mk #[97])) (TBallot.mk (0 : Int) (ByteArray.mk #[])) (2 : Int) (3 : Int))) fun r7 =>
some (decide (r7 = (3 : Int)))
else some false) fun b8 =>
some b8
theorem e_law24_sane : fnK K [.fn 41 [.ty (Ty.i .i64), .ty (Ty.i .i64)] (.one (Ty.st .Trust)) fun a => F_play_Flat a.1 a.2.1, .fn 25 [.ty (Ty.st .Envelope)] (.one Ty.bool) fun a => F_envelopes_Valid a.1, .fn 15 [.ty (Ty.st .Envelope), .ty Ty.str, .ty (Ty.i .i64), .ty (Ty.i .i64)] (.one Ty.bool) fun a => F_envelopes_VotesCommit a.1 a.2.1 a.2.2.1 a.2.2.2.1, .fn 27 [.ty (Ty.st .Envelope), .ty Ty.str, .ty (Ty.i .i64), .ty (Ty.i .i64)] (.one Ty.bool) fun a => F_envelopes_AcceptsCommit a.1 a.2.1 a.2.2.1 a.2.2.2.1, .fn 32 [.ty (Ty.st .Envelope)] (.one (Ty.i .i64)) fun a => F_envelopes_Counter a.1] sa_law24_sane [.tmp 0] [] (.one Ty.bool) = fun a => F_law24_sane  := by kernel_rfl
theorem s_law24_sane : KFun.Sound (U := U) Try.prog (.fn 16 [] (.one Ty.bool) fun a => F_law24_sane ) := fnK_sound (K := K) (Γ := [.fn 41 [.ty (Ty.i .i64), .ty (Ty.i .i64)] (.one (Ty.st .Trust)) fun a => F_play_Flat a.1 a.2.1, .fn 25 [.ty (Ty.st .Envelope)] (.one Ty.bool) fun a => F_envelopes_Valid a.1, .fn 15 [.ty (Ty.st .Envelope), .ty Ty.str, .ty (Ty.i .i64), .ty (Ty.i .i64)] (.one Ty.bool) fun a => F_envelopes_VotesCommit a.1 a.2.1 a.2.2.1 a.2.2.2.1, .fn 27 [.ty (Ty.st .Envelope), .ty Ty.str, .ty (Ty.i .i64), .ty (Ty.i .i64)] (.one Ty.bool) fun a => F_envelopes_AcceptsCommit a.1 a.2.1 a.2.2.1 a.2.2.2.1, .fn 32 [.ty (Ty.st .Envelope)] (.one (Ty.i .i64)) fun a => F_envelopes_Counter a.1]) ok_law24_sane (by kernel_rfl) (by decide) ⟨s_play_Flat, s_envelopes_Valid, s_envelopes_VotesCommit, s_envelopes_AcceptsCommit, s_envelopes_Counter, trivial⟩ (fun a => congrFun e_law24_sane a)

/-! ### trustquorum/trustquorumlaw24.EnvelopesConsistent -/
def sa_law24_EnvelopesConsistent : SA U :=
 (.seq
  (.reg
  (.op ⟨(some 4), none, .mov (.cst (.bool false))⟩
  .nil))
  (.seq
   (.reg
   (.op ⟨(some 10), none, .mov (.tmp 0)⟩
   (.op ⟨(some 11), none, .call 11 [(.tmp 10)]⟩
   (.op ⟨(some 5), none, .mov (.tmp 11)⟩
   .nil))))
   (.seq
    (.reg
    (.op ⟨(some 12), none, .mov (.tmp 5)⟩
    (.op ⟨(some 13), none, .mov (.tmp 5)⟩
    (.op ⟨(some 14), none, .call 13 [(.tmp 13), (.cst (.int .i64 5))]⟩
    (.op ⟨(some 15), none, .call 12 [(.tmp 12), (.tmp 14), (.cst (.int .i64 1)), (.cst (.int .i64 5))]⟩
    (.op ⟨(some 6), none, .alloc [.int .i64 0, .int .i64 0, .int .i64 0, .int .i64 0, .nils, .nils, .int .i64 0, .int .i64 0, .str ⟨#[]⟩, .int .i64 0, .str ⟨#[]⟩, .int .i64 0, .str ⟨#[]⟩, .int .i64 0, .int .i64 0]⟩
    (.op ⟨none, none, .store 15 (.tmp 6) (.tmp 15)⟩
    .nil)))))))
    (.seq
     (.reg
     (.op ⟨(some 16), none, .mov (.tmp 1)⟩
     (.op ⟨(some 17), none, .conv .i64 (.tmp 16)⟩
     (.op ⟨(some 18), none, .bin .rem (.tmp 17) (.cst (.int .i64 8))⟩
     (.op ⟨(some 19), none, .bin .add (.cst (.int .i64 1)) (.tmp 18)⟩
     (.op ⟨(some 20), none, .mov (.tmp 5)⟩
     (.op ⟨(some 21), none, .call 14 [(.tmp 20)]⟩
     (.op ⟨(some 7), none, .mov (.tmp 19)⟩
     (.op ⟨(some 8), none, .mov (.tmp 21)⟩
     .nil)))))))))
     (.seq
      (.seq
       (.reg
       (.op ⟨(some 22), none, .load (some 15) (.tmp 6)⟩
       (.op ⟨(some 23), none, .mov (.tmp 8)⟩
       (.op ⟨(some 24), none, .mov (.tmp 7)⟩
       (.op ⟨(some 25), none, .mov (.tmp 7)⟩
       (.op ⟨(some 26), none, .call 15 [(.tmp 22), (.tmp 23), (.tmp 24), (.tmp 25)]⟩
       (.op ⟨(some 27), none, .not (.tmp 26)⟩
       (.op ⟨(some 28), none, .mov (.tmp 27)⟩
       (.ite 28 false
        (.op ⟨(some 29), (some (28, false)), .faddr 6 (.tmp 6)⟩
        (.op ⟨(some 30), (some (28, false)), .load none (.tmp 29)⟩
        (.op ⟨(some 31), (some (28, false)), .bin .neq (.tmp 30) (.cst (.int .i64 1))⟩
        .nil)))
        32 none (.cst (.bool true)) (.tmp 31)
       .nil)))))))))
       (.cond (.tmp 32)
        (.seq
         (.reg
         (.op ⟨(some 33), none, .call 16 []⟩
         (.op ⟨(some 4), none, .mov (.tmp 33)⟩
         .nil)))
         .ret)
        .skip))
      (.seq
       (.reg
       (.op ⟨(some 34), none, .mov (.tmp 7)⟩
       (.op ⟨(some 35), none, .mov (.tmp 8)⟩
       (.op ⟨(some 36), none, .build [.int .i64 0, .str ⟨#[]⟩] [(0, 1, (.tmp 34)), (1, 1, (.tmp 35))]⟩
       (.op ⟨(some 9), none, .alloc [.int .i64 0, .str ⟨#[]⟩]⟩
       (.op ⟨none, none, .store 2 (.tmp 9) (.tmp 36)⟩
       .nil))))))
       (.seq
        (.reg
        (.op ⟨(some 37), none, .faddr 9 (.tmp 6)⟩
        (.op ⟨(some 38), none, .load (some 2) (.tmp 37)⟩
        (.op ⟨(some 39), none, .load (some 2) (.tmp 9)⟩
        (.op ⟨(some 40), none, .call 17 [(.tmp 38), (.tmp 39)]⟩
        (.op ⟨(some 41), none, .not (.tmp 40)⟩
        (.op ⟨(some 42), none, .mov (.tmp 41)⟩
        (.ite 42 true
         (.op ⟨(some 43), (some (42, true)), .faddr 11 (.tmp 6)⟩
         (.op ⟨(some 44), (some (42, true)), .load (some 2) (.tmp 43)⟩
         (.op ⟨(some 45), (some (42, true)), .load (some 2) (.tmp 9)⟩
         (.op ⟨(some 46), (some (42, true)), .call 17 [(.tmp 44), (.tmp 45)]⟩
         (.op ⟨(some 47), (some (42, true)), .not (.tmp 46)⟩
         .nil)))))
         48 none (.tmp 47) (.cst (.bool false))
        (.op ⟨(some 49), none, .mov (.tmp 48)⟩
        (.ite 49 true
         (.op ⟨(some 50), (some (49, true)), .call 16 []⟩
         .nil)
         51 none (.tmp 50) (.cst (.bool false))
        (.op ⟨(some 4), none, .mov (.tmp 51)⟩
        .nil)))))))))))
        .ret)))))))
theorem ok_law24_EnvelopesConsistent : FnOk Try.prog 3 52 (SA.erase sa_law24_EnvelopesConsistent) [.tmp 4] := ⟨Try.f3, [], Try.func3, rfl, by kernel_rfl, by kernel_rfl, by kernel_rfl⟩
noncomputable def F_law24_EnvelopesConsistent (a0 : (List Int)) (a1 : Int) : Option Bool :=
Option.bind (F_play_New a0) fun r1 =>
Option.bind (F_play_Src_N r1 (5 : Int)) fun p2 =>
Option.bind (F_play_Src_Envelope p2.2 p2.1 (1 : Int) (5 : Int)) fun p3 =>
Option.bind (F_play_Src_Value p3.2) fun p4 =>
Option.bind (F_envelopes_VotesCommit (TEnvelope.mk p3.1.Node p3.1.Slot p3.1.Seq (TTrust.mk p3.1.Trust.Threshold p3.1.Trust.Nodes p3.1.Trust.Inner) p3.1.Kind p3.1.Ballot p3.1.Prepared p3.1.Prime p3.1.Low p3.1.High) p4.1 (addI .i64 (1 : Int) (remI .i64 (convI .i64 a1) (8 : Int))) (addI .i64 (1 : Int) (remI .i64 (convI .i64 a1) (8 : Int)))) fun r5 =>
Option.bind (bif (!r5) then some true
else
some (!decide (p3.1.Kind = (1 : Int)))) fun b6 =>
bif b6 then
Option.bind (F_law24_sane) fun r7 =>
some r7
else
Option.bind (F_ref23_Aborts p3.1.Prepared (TBallot.mk (addI .i64 (1 : Int) (remI .i64 (convI .i64 a1) (8 : Int))) p4.1)) fun r8 =>
Option.bind (bif (!r8) then
Option.bind (F_ref23_Aborts p3.1.Prime (TBallot.mk (addI .i64 (1 : Int) (remI .i64 (convI .i64 a1) (8 : Int))) p4.1)) fun r9 =>
some (!r9)
else some false) fun b10 =>
Option.bind (bif b10 then
Option.bind (F_law24_sane) fun r11 =>
some r11
else some false) fun b12 =>
some b12
theorem e_law24_EnvelopesConsistent : fnK K [.nw 11 [.ty (Ty.sl (Ty.i .i64))] (Ty.st .Src) fun a => F_play_New a.1, .rc 13 (Ty.st .Src) [.ty (Ty.i .i64)] (.one (Ty.i .i64)) fun s a => F_play_Src_N s a.1, .rc 12 (Ty.st .Src) [.ty (Ty.i .i64), .ty (Ty.i .i64), .ty (Ty.i .i64)] (.one (Ty.st .Envelope)) fun s a => F_play_Src_Envelope s a.1 a.2.1 a.2.2.1, .rc 14 (Ty.st .Src) [] (.one Ty.str) fun s a => F_play_Src_Value s , .fn 15 [.ty (Ty.st .Envelope), .ty Ty.str, .ty (Ty.i .i64), .ty (Ty.i .i64)] (.one Ty.bool) fun a => F_envelopes_VotesCommit a.1 a.2.1 a.2.2.1 a.2.2.2.1, .fn 16 [] (.one Ty.bool) fun a => F_law24_sane , .fn 17 [.ty (Ty.st .Ballot), .ty (Ty.st .Ballot)] (.one Ty.bool) fun a => F_ref23_Aborts a.1 a.2.1] sa_law24_EnvelopesConsistent [.tmp 4] [.ty (Ty.sl (Ty.i .i64)), .ty (Ty.i .u8)] (.one Ty.bool) = fun a => F_law24_EnvelopesConsistent a.1 a.2.1 := by kernel_rfl
theorem s_law24_EnvelopesConsistent : KFun.Sound (U := U) Try.prog (.fn 3 [.ty (Ty.sl (Ty.i .i64)), .ty (Ty.i .u8)] (.one Ty.bool) fun a => F_law24_EnvelopesConsistent a.1 a.2.1) := fnK_sound (K := K) (Γ := [.nw 11 [.ty (Ty.sl (Ty.i .i64))] (Ty.st .Src) fun a => F_play_New a.1, .rc 13 (Ty.st .Src) [.ty (Ty.i .i64)] (.one (Ty.i .i64)) fun s a => F_play_Src_N s a.1, .rc 12 (Ty.st .Src) [.ty (Ty.i .i64), .ty (Ty.i .i64), .ty (Ty.i .i64)] (.one (Ty.st .Envelope)) fun s a => F_play_Src_Envelope s a.1 a.2.1 a.2.2.1, .rc 14 (Ty.st .Src) [] (.one Ty.str) fun s a => F_play_Src_Value s , .fn 15 [.ty (Ty.st .Envelope), .ty Ty.str, .ty (Ty.i .i64), .ty (Ty.i .i64)] (.one Ty.bool) fun a => F_envelopes_VotesCommit a.1 a.2.1 a.2.2.1 a.2.2.2.1, .fn 16 [] (.one Ty.bool) fun a => F_law24_sane , .fn 17 [.ty (Ty.st .Ballot), .ty (Ty.st .Ballot)] (.one Ty.bool) fun a => F_ref23_Aborts a.1 a.2.1]) ok_law24_EnvelopesConsistent (by kernel_rfl) (by decide) ⟨s_play_New, s_play_Src_N, s_play_Src_Envelope, s_play_Src_Value, s_envelopes_VotesCommit, s_law24_sane, s_ref23_Aborts, trivial⟩ (fun a => congrFun e_law24_EnvelopesConsistent a)

/-! ### trustquorum/prepare.Join -/
def sa_prepare_Join : SA U :=
 (.seq
  (.reg
  (.op ⟨(some 3), none, .box (.tmp 0)⟩
  (.op ⟨(some 4), none, .box (.tmp 1)⟩
  (.op ⟨(some 5), none, .box (.tmp 2)⟩
  (.op ⟨(some 6), none, .alloc [.int .i64 0, .str ⟨#[]⟩]⟩
  (.op ⟨(some 7), none, .alloc [.int .i64 0, .str ⟨#[]⟩]⟩
  .nil))))))
  (.join ⟨[.box 1 1 (Ty.st .Ballot) [], .box 3 1 (Ty.st .Ballot) [], .box 4 1 (Ty.st .Ballot) []], [3, 4, 6, 7]⟩
   (.block 0
    (.seq
     (.reg
     (.op ⟨(some 9), none, .load (some 2) (.tmp 5)⟩
     (.op ⟨(some 10), none, .call 48 [(.tmp 9)]⟩
     (.op ⟨(some 8), none, .mov (.tmp 10)⟩
     .nil))))
     (.cond (.tmp 8)
      .skip
      (.seq
       (.reg
       (.op ⟨(some 12), none, .load (some 2) (.tmp 3)⟩
       (.op ⟨(some 13), none, .call 48 [(.tmp 12)]⟩
       (.op ⟨(some 11), none, .mov (.tmp 13)⟩
       .nil))))
       (.cond (.tmp 11)
        (.seq
         (.drw [(0, 1), (1, 2)]
         (.op ⟨(some 14), none, .load (some 2) (.tmp 5)⟩
         (.op ⟨(some 15), none, .load (some 2) (.tmp 4)⟩
         (.op ⟨none, none, .store 2 (.tmp 6) (.tmp 14)⟩
         (.op ⟨none, none, .store 2 (.tmp 7) (.tmp 15)⟩
         .nil)))))
         .ret)
        (.seq
         (.reg
         (.op ⟨(some 17), none, .load (some 2) (.tmp 3)⟩
         (.op ⟨(some 18), none, .load (some 2) (.tmp 5)⟩
         (.op ⟨(some 19), none, .call 49 [(.tmp 17), (.tmp 18)]⟩
         (.op ⟨(some 16), none, .mov (.tmp 19)⟩
         .nil)))))
         (.cond (.tmp 16)
          (.join ⟨[.box 1 1 (Ty.st .Ballot) []], [3, 4, 5, 6, 7]⟩
           (.block 1
            (.seq
             (.reg
             (.op ⟨(some 21), none, .load (some 2) (.tmp 3)⟩
             (.op ⟨(some 22), none, .load (some 2) (.tmp 5)⟩
             (.op ⟨(some 23), none, .call 50 [(.tmp 21), (.tmp 22)]⟩
             (.op ⟨(some 24), none, .not (.tmp 23)⟩
             (.op ⟨(some 20), none, .mov (.tmp 24)⟩
             .nil))))))
             (.cond (.tmp 20)
              (.reg
              (.op ⟨(some 25), none, .load (some 2) (.tmp 3)⟩
              (.op ⟨none, none, .store 2 (.tmp 4) (.tmp 25)⟩
              .nil)))
              (.seq
               (.reg
               (.op ⟨(some 27), none, .load (some 2) (.tmp 4)⟩
               (.op ⟨(some 28), none, .load (some 2) (.tmp 5)⟩
               (.op ⟨(some 29), none, .call 50 [(.tmp 27), (.tmp 28)]⟩
               (.op ⟨(some 26), none, .mov (.tmp 29)⟩
               .nil)))))
               (.cond (.tmp 26)
                (.reg
                (.op ⟨(some 30), none, .build [.int .i64 0, .str ⟨#[]⟩] []⟩
                (.op ⟨none, none, .store 2 (.tmp 4) (.tmp 30)⟩
                .nil)))
                .skip)))))
           (.seq
            (.drw [(0, 1), (1, 2)]
            (.op ⟨(some 31), none, .load (some 2) (.tmp 5)⟩
            (.op ⟨(some 32), none, .load (some 2) (.tmp 4)⟩
            (.op ⟨none, none, .store 2 (.tmp 6) (.tmp 31)⟩
            (.op ⟨none, none, .store 2 (.tmp 7) (.tmp 32)⟩
            .nil)))))
            .ret))
          (.seq
           (.reg
           (.op ⟨(some 34), none, .load (some 2) (.tmp 5)⟩
           (.op ⟨(some 35), none, .load (some 2) (.tmp 3)⟩
           (.op ⟨(some 36), none, .call 49 [(.tmp 34), (.tmp 35)]⟩
           (.op ⟨(some 37), none, .mov (.tmp 36)⟩
           (.ite 37 true
            (.op ⟨(some 38), (some (37, true)), .load (some 2) (.tmp 3)⟩
            (.op ⟨(some 39), (some (37, true)), .load (some 2) (.tmp 5)⟩
            (.op ⟨(some 40), (some (37, true)), .call 50 [(.tmp 38), (.tmp 39)]⟩
            (.op ⟨(some 41), (some (37, true)), .not (.tmp 40)⟩
            .nil))))
            42 none (.tmp 41) (.cst (.bool false))
           (.op ⟨(some 43), none, .mov (.tmp 42)⟩
           (.ite 43 true
            (.op ⟨(some 44), (some (43, true)), .load (some 2) (.tmp 4)⟩
            (.op ⟨(some 45), (some (43, true)), .call 48 [(.tmp 44)]⟩
            (.op ⟨(some 46), (some (43, true)), .mov (.tmp 45)⟩
            (.ite 46 false
             (.op ⟨(some 47), (some (46, false)), .load (some 2) (.tmp 4)⟩
             (.op ⟨(some 48), (some (46, false)), .load (some 2) (.tmp 5)⟩
             (.op ⟨(some 49), (some (46, false)), .call 49 [(.tmp 47), (.tmp 48)]⟩
             .nil)))
             50 (some (43, true)) (.cst (.bool true)) (.tmp 49)
            .nil))))
            51 none (.tmp 50) (.cst (.bool false))
           (.op ⟨(some 33), none, .mov (.tmp 51)⟩
           .nil)))))))))
           (.cond (.tmp 33)
            (.seq
             (.drw [(0, 1), (1, 2)]
             (.op ⟨(some 52), none, .load (some 2) (.tmp 3)⟩
             (.op ⟨(some 53), none, .load (some 2) (.tmp 5)⟩
             (.op ⟨none, none, .store 2 (.tmp 6) (.tmp 52)⟩
             (.op ⟨none, none, .store 2 (.tmp 7) (.tmp 53)⟩
             .nil)))))
             .ret)
            .skip)))))))))
   (.seq
    (.drw [(0, 1), (1, 2)]
    (.op ⟨(some 54), none, .load (some 2) (.tmp 3)⟩
    (.op ⟨(some 55), none, .load (some 2) (.tmp 4)⟩
    (.op ⟨none, none, .store 2 (.tmp 6) (.tmp 54)⟩
    (.op ⟨none, none, .store 2 (.tmp 7) (.tmp 55)⟩
    .nil)))))
    .ret)))
theorem ok_prepare_Join : FnOk Try.prog 19 56 (SA.erase sa_prepare_Join) [.cell 6 (some 2), .cell 7 (some 2)] := ⟨Try.f19, [], Try.func19, rfl, by kernel_rfl, by kernel_rfl, by kernel_rfl⟩
noncomputable def F_prepare_Join (a0 : TBallot) (a1 : TBallot) (a2 : TBallot) : Option (TBallot × TBallot × Unit) :=
letJ (fun (v1 : TBallot × TBallot × TBallot × Unit) =>
some (a0, v1.1, ())) fun j2 =>
Option.bind (F_ballots_Zero a2) fun r3 =>
bif r3 then
j2 (a1, (TBallot.mk (0 : Int) (ByteArray.mk #[])), (TBallot.mk (0 : Int) (ByteArray.mk #[])), ())
else
Option.bind (F_ballots_Zero a0) fun r4 =>
bif r4 then
some (a2, a1, ())
else
Option.bind (F_ballots_Less a0 a2) fun r5 =>
bif r5 then
letJ (fun (v6 : TBallot × Unit) =>
some (a2, v6.1, ())) fun j7 =>
Option.bind (F_ballots_Compatible a0 a2) fun r8 =>
bif (!r8) then
j7 (a0, ())
else
Option.bind (F_ballots_Compatible a1 a2) fun r9 =>
bif r9 then
j7 ((TBallot.mk (0 : Int) (ByteArray.mk #[])), ())
else
j7 (a1, ())
else
Option.bind (F_ballots_Less a2 a0) fun r10 =>
Option.bind (bif r10 then
Option.bind (F_ballots_Compatible a0 a2) fun r11 =>
some (!r11)
else some false) fun b12 =>
Option.bind (bif b12 then
Option.bind (F_ballots_Zero a1) fun r13 =>
Option.bind (bif r13 then some true
else
Option.bind (F_ballots_Less a1 a2) fun r14 =>
some r14) fun b15 =>
some b15
else some false) fun b16 =>
bif b16 then
some (a0, a2, ())
else
j2 (a1, (TBallot.mk (0 : Int) (ByteArray.mk #[])), (TBallot.mk (0 : Int) (ByteArray.mk #[])), ())
theorem e_prepare_Join : fnK K [.fn 48 [.ty (Ty.st .Ballot)] (.one Ty.bool) fun a => F_ballots_Zero a.1, .fn 49 [.ty (Ty.st .Ballot), .ty (Ty.st .Ballot)] (.one Ty.bool) fun a => F_ballots_Less a.1 a.2.1, .fn 50 [.ty (Ty.st .Ballot), .ty (Ty.st .Ballot)] (.one Ty.bool) fun a => F_ballots_Compatible a.1 a.2.1] sa_prepare_Join [.cell 6 (some 2), .cell 7 (some 2)] [.ty (Ty.st .Ballot), .ty (Ty.st .Ballot), .ty (Ty.st .Ballot)] (.many [(Ty.st .Ballot), (Ty.st .Ballot)]) = fun a => F_prepare_Join a.1 a.2.1 a.2.2.1 := by kernel_rfl
theorem s_prepare_Join : KFun.Sound (U := U) Try.prog (.fn 19 [.ty (Ty.st .Ballot), .ty (Ty.st .Ballot), .ty (Ty.st .Ballot)] (.many [(Ty.st .Ballot), (Ty.st .Ballot)]) fun a => F_prepare_Join a.1 a.2.1 a.2.2.1) := fnK_sound (K := K) (Γ := [.fn 48 [.ty (Ty.st .Ballot)] (.one Ty.bool) fun a => F_ballots_Zero a.1, .fn 49 [.ty (Ty.st .Ballot), .ty (Ty.st .Ballot)] (.one Ty.bool) fun a => F_ballots_Less a.1 a.2.1, .fn 50 [.ty (Ty.st .Ballot), .ty (Ty.st .Ballot)] (.one Ty.bool) fun a => F_ballots_Compatible a.1 a.2.1]) ok_prepare_Join (by kernel_rfl) (by decide) ⟨s_ballots_Zero, s_ballots_Less, s_ballots_Compatible, trivial⟩ (fun a => congrFun e_prepare_Join a)

/-! ### slices.Clone[[]int,int] -/
def sa_slices_Clone_int_int : SA U :=
 (.seq
  (.reg
  (.op ⟨(some 2), none, .mov (.cst (.nils))⟩
  .nil))
  (.seq
   (.seq
    (.reg
    (.op ⟨(some 3), none, .mov (.tmp 0)⟩
    (.op ⟨(some 4), none, .isnil false (.tmp 3)⟩
    .nil)))
    (.cond (.tmp 4)
     (.seq
      (.reg
      (.op ⟨(some 2), none, .mov (.cst (.nils))⟩
      .nil))
      .ret)
     .skip))
   (.seq
    (.reg
    (.op ⟨(some 5), none, .bsl true 3 1 (List.replicate 0 [.int .i64 0]) []⟩
    (.op ⟨(some 6), none, .mov (.tmp 0)⟩
    (.op ⟨(some 7), none, .app 3 1 8 (.tmp 5) (.tmp 6)⟩
    (.op ⟨(some 2), none, .mov (.tmp 7)⟩
    .nil)))))
    .ret)))
theorem ok_slices_Clone_int_int : FnOk Try.prog 120 8 (SA.erase sa_slices_Clone_int_int) [.tmp 2] := ⟨Try.f120, [5], Try.func120, rfl, by kernel_rfl, by kernel_rfl, by kernel_rfl⟩
noncomputable def F_slices_Clone_int_int (a0 : (List Int)) : Option (List Int) :=
bif List.isEmpty a0 then
both (some ([] : List Int)) (bif lenOk 8 (List.length ([] : List Int) + List.length a0) then
some (([] : List Int) ++ a0)
else none)
else
bif lenOk 8 (List.length ([] : List Int) + List.length a0) then
some (([] : List Int) ++ a0)
else none
theorem e_slices_Clone_int_int : fnK K [] sa_slices_Clone_int_int [.tmp 2] [.ty (Ty.sl (Ty.i .i64))] (.one (Ty.sl (Ty.i .i64))) = fun a => F_slices_Clone_int_int a.1 := by kernel_rfl
theorem s_slices_Clone_int_int : KFun.Sound (U := U) Try.prog (.fn 120 [.ty (Ty.sl (Ty.i .i64))] (.one (Ty.sl (Ty.i .i64))) fun a => F_slices_Clone_int_int a.1) := fnK_sound (K := K) (Γ := []) ok_slices_Clone_int_int (by kernel_rfl) (by decide) trivial (fun a => congrFun e_slices_Clone_int_int a)

/-! ### trustquorum/copies.Trust -/
def sa_copies_Trust : SA U :=
 (.seq
  (.reg
  (.op ⟨(some 1), none, .box (.tmp 0)⟩
  (.op ⟨(some 2), none, .alloc [.int .i64 0, .nils, .nils]⟩
  .nil)))
  (.seq
   (.drw [(0, 2), (1, 2), (0, 3), (1, 3), (0, 4), (1, 4), (0, 6), (1, 6), (2, 6), (3, 6), (4, 6)]
   (.op ⟨(some 6), none, .faddr 0 (.tmp 1)⟩
   (.op ⟨(some 7), none, .load none (.tmp 6)⟩
   (.op ⟨(some 8), none, .faddr 1 (.tmp 1)⟩
   (.op ⟨(some 9), none, .load none (.tmp 8)⟩
   (.op ⟨(some 10), none, .call 120 [(.tmp 9)]⟩
   (.op ⟨(some 11), none, .build [.int .i64 0, .nils, .nils] [(0, 1, (.tmp 7)), (1, 1, (.tmp 10))]⟩
   (.op ⟨(some 3), none, .alloc [.int .i64 0, .nils, .nils]⟩
   (.op ⟨none, none, .store 3 (.tmp 3) (.tmp 11)⟩
   .nil)))))))))
   (.seq
    (.seq
     (.reg
     (.op ⟨(some 12), none, .faddr 2 (.tmp 1)⟩
     (.op ⟨(some 13), none, .load none (.tmp 12)⟩
     (.op ⟨(some 14), none, .len false (.tmp 13)⟩
     (.op ⟨(some 15), none, .mov (.cst (.int .i64 0))⟩
     .nil)))))
     (.block 0
      (.ps (.ownB 3 2 27 3 (Ty.st .Trust))
      (.loop ⟨[.val 15 (Ty.i .i64), .box 8 1 (Ty.st .Trust) [(2, 14, 1)], .rowb 14 1 27 3 (Ty.st .Trust)], [2, 3, 13, 14]⟩
       (.seq
        (.reg
        (.op ⟨(some 16), none, .bin .lss (.tmp 15) (.tmp 14)⟩
        .nil))
        (.seq
         (.cond (.tmp 16)
          .skip
          (.exit 0))
         (.seq
          (.block 1
           (.seq
            (.reg
            (.op ⟨(some 17), none, .iaddr 3 (.tmp 13) (.tmp 15)⟩
            (.op ⟨(some 18), none, .load (some 3) (.tmp 17)⟩
            (.op ⟨(some 5), none, .alloc [.int .i64 0, .nils, .nils]⟩
            (.op ⟨none, none, .store 3 (.tmp 5) (.tmp 18)⟩
            .nil)))))
            (.drw [(0, 2), (1, 2), (0, 3), (1, 3), (0, 4), (1, 4)]
            (.op ⟨(some 19), none, .faddr 2 (.tmp 3)⟩
            (.op ⟨(some 20), none, .load none (.tmp 19)⟩
            (.op ⟨(some 21), none, .load (some 3) (.tmp 5)⟩
            (.op ⟨(some 22), none, .call 91 [(.tmp 21)]⟩
            (.op ⟨(some 23), none, .bsl false 27 3 (List.replicate 1 [.int .i64 0, .nils, .nils]) [(0, (.tmp 22))]⟩
            (.op ⟨(some 24), none, .app 27 3 56 (.tmp 20) (.tmp 23)⟩
            (.op ⟨(some 25), none, .faddr 2 (.tmp 3)⟩
            (.op ⟨none, none, .store 1 (.tmp 25) (.tmp 24)⟩
            .nil)))))))))))
          (.reg
          (.op ⟨(some 26), none, .bin .add (.tmp 15) (.cst (.int .i64 1))⟩
          (.op ⟨(some 15), none, .mov (.tmp 26)⟩
          .nil))))))))))
    (.seq
     (.reg
     (.op ⟨(some 27), none, .load (some 3) (.tmp 3)⟩
     (.op ⟨none, none, .store 3 (.tmp 2) (.tmp 27)⟩
     .nil)))
     .ret))))
theorem ok_copies_Trust : FnOk Try.prog 91 28 (SA.erase sa_copies_Trust) [.cell 2 (some 3)] := ⟨Try.f91, [], Try.func91, rfl, by kernel_rfl, by kernel_rfl, by kernel_rfl⟩
noncomputable def B_copies_Trust (rec : (TTrust × Unit) → Option TTrust) (a0 : TTrust) : Option TTrust :=
Option.bind (F_slices_Clone_int_int a0.Nodes) fun r1 =>
loopO (fun (v2 : Int × TTrust × (List TTrust) × Unit) =>
bif (decide (v2.1 < ((List.length a0.Inner : Nat) : Int))) then
Option.bind (idx a0.Inner v2.1) fun x3 =>
Option.bind (rec ((TTrust.mk x3.Threshold x3.Nodes x3.Inner), ())) fun r4 =>
bif lenOk 56 (List.length v2.2.2.1 + List.length [(TTrust.mk r4.Threshold r4.Nodes r4.Inner)]) then
some (Sum.inl ((addI .i64 v2.1 (1 : Int)), (TTrust.mk v2.2.1.Threshold v2.2.1.Nodes ([] : List TTrust)), (v2.2.2.1 ++ [(TTrust.mk r4.Threshold r4.Nodes r4.Inner)]), ()))
else none
else
Option.map Sum.inr (some (TTrust.mk v2.2.1.Threshold v2.2.1.Nodes v2.2.2.1))) ((0 : Int), (TTrust.mk a0.Threshold r1 ([] : List TTrust)), ([] : List TTrust), ())
noncomputable def I_copies_Trust : Nat → (TTrust × Unit) → Option TTrust := iterF (fun rec a => B_copies_Trust rec a.1)
noncomputable def F_copies_Trust (a0 : TTrust) : Option TTrust := I_copies_Trust (SizeOf.sizeOf a0 + 1) (a0, ())
theorem e_copies_Trust : (fun G => fnK K (.fn 91 [.ty (Ty.st .Trust)] (.one (Ty.st .Trust)) G :: [.fn 120 [.ty (Ty.sl (Ty.i .i64))] (.one (Ty.sl (Ty.i .i64))) fun a => F_slices_Clone_int_int a.1]) sa_copies_Trust [.cell 2 (some 3)] [.ty (Ty.st .Trust)] (.one (Ty.st .Trust))) = (fun G a => B_copies_Trust G a.1) := by kernel_rfl
theorem n_copies_Trust : ∀ n, KFun.Sound (U := U) Try.prog (.fn 91 [.ty (Ty.st .Trust)] (.one (Ty.st .Trust)) (I_copies_Trust n))
  | 0 => ⟨ok_copies_Trust.enters, fun a r h => by cases h⟩
  | n + 1 => fnK_sound (K := K) (r := .one (Ty.st .Trust)) (Γ := .fn 91 [.ty (Ty.st .Trust)] (.one (Ty.st .Trust)) (I_copies_Trust n) :: [.fn 120 [.ty (Ty.sl (Ty.i .i64))] (.one (Ty.sl (Ty.i .i64))) fun a => F_slices_Clone_int_int a.1]) (F := I_copies_Trust (n + 1)) ok_copies_Trust (by kernel_rfl) (by decide) ⟨n_copies_Trust n, s_slices_Clone_int_int, trivial⟩ (fun a => congrFun (congrFun e_copies_Trust (I_copies_Trust n)) a)
theorem s_copies_Trust : KFun.Sound (U := U) Try.prog (.fn 91 [.ty (Ty.st .Trust)] (.one (Ty.st .Trust)) fun a => F_copies_Trust a.1) := ⟨ok_copies_Trust.enters, fun a r h => (n_copies_Trust _).2 a r h⟩

/-! ### trustquorum/prepare.View -/
def sa_prepare_View : SA U :=
 (.seq
  (.reg
  (.op ⟨(some 4), none, .box (.tmp 1)⟩
  (.op ⟨(some 6), none, .alloc [.nils]⟩
  .nil)))
  (.seq
   (.reg
   (.op ⟨(some 10), none, .mks 64 4 64 [.bool false, .int .i64 0, .nils, .nils] (.cst (.int .i64 10)) (.cst (.int .i64 10))⟩
   (.op ⟨(some 11), none, .build [.nils] [(0, 1, (.tmp 10))]⟩
   (.op ⟨(some 7), none, .alloc [.nils]⟩
   (.op ⟨none, none, .store 1 (.tmp 7) (.tmp 11)⟩
   .nil)))))
   (.seq
    (.seq
     (.reg
     (.op ⟨(some 12), none, .mov (.tmp 0)⟩
     (.op ⟨(some 13), none, .bin .lss (.tmp 12) (.cst (.int .i64 0))⟩
     (.op ⟨(some 14), none, .mov (.tmp 13)⟩
     (.ite 14 false
      (.op ⟨(some 15), (some (14, false)), .mov (.tmp 0)⟩
      (.op ⟨(some 16), (some (14, false)), .bin .geq (.tmp 15) (.cst (.int .i64 10))⟩
      .nil))
      17 none (.cst (.bool true)) (.tmp 16)
     .nil)))))
     (.cond (.tmp 17)
      (.seq
       (.reg
       (.op ⟨(some 18), none, .load (some 1) (.tmp 7)⟩
       (.op ⟨none, none, .store 1 (.tmp 6) (.tmp 18)⟩
       .nil)))
       .ret)
      .skip))
    (.seq
     (.drw [(0, 3), (1, 3), (0, 4), (1, 4)]
     (.op ⟨(some 19), none, .faddr 0 (.tmp 7)⟩
     (.op ⟨(some 20), none, .load none (.tmp 19)⟩
     (.op ⟨(some 21), none, .mov (.tmp 0)⟩
     (.op ⟨(some 22), none, .load (some 3) (.tmp 4)⟩
     (.op ⟨(some 23), none, .call 91 [(.tmp 22)]⟩
     (.op ⟨(some 24), none, .build [.bool false, .int .i64 0, .nils, .nils] [(0, 1, (.cst (.bool true))), (1, 3, (.tmp 23))]⟩
     (.op ⟨(some 25), none, .iaddr 4 (.tmp 20) (.tmp 21)⟩
     (.op ⟨none, none, .store 4 (.tmp 25) (.tmp 24)⟩
     .nil)))))))))
     (.seq
      (.seq
       (.reg
       (.op ⟨(some 26), none, .mov (.tmp 2)⟩
       (.op ⟨(some 27), none, .len false (.tmp 26)⟩
       (.op ⟨(some 28), none, .mov (.cst (.int .i64 0))⟩
       .nil))))
       (.block 0
        (.loop ⟨[.val 28 (Ty.i .i64), .box 4 1 (Ty.st .Config) [(0, 2, 1)], .rowb 2 1 64 4 (Ty.st .Member)], [6, 7, 26, 27]⟩
         (.seq
          (.reg
          (.op ⟨(some 29), none, .bin .lss (.tmp 28) (.tmp 27)⟩
          .nil))
          (.seq
           (.cond (.tmp 29)
            .skip
            (.exit 0))
           (.join ⟨[.box 4 1 (Ty.st .Config) [(0, 2, 1)], .rowb 2 1 64 4 (Ty.st .Member)], [6, 7, 26, 27, 28]⟩
            (.block 1
             (.seq
              (.reg
              (.op ⟨(some 30), none, .iaddr 15 (.tmp 26) (.tmp 28)⟩
              (.op ⟨(some 31), none, .load (some 15) (.tmp 30)⟩
              (.op ⟨(some 9), none, .alloc [.int .i64 0, .int .i64 0, .int .i64 0, .int .i64 0, .nils, .nils, .int .i64 0, .int .i64 0, .str ⟨#[]⟩, .int .i64 0, .str ⟨#[]⟩, .int .i64 0, .str ⟨#[]⟩, .int .i64 0, .int .i64 0]⟩
              (.op ⟨none, none, .store 15 (.tmp 9) (.tmp 31)⟩
              .nil)))))
              (.seq
               (.reg
               (.op ⟨(some 32), none, .load (some 15) (.tmp 9)⟩
               (.op ⟨(some 33), none, .call 25 [(.tmp 32)]⟩
               (.op ⟨(some 34), none, .mov (.tmp 33)⟩
               (.ite 34 true
                (.op ⟨(some 35), (some (34, true)), .faddr 0 (.tmp 7)⟩
                (.op ⟨(some 36), (some (34, true)), .load none (.tmp 35)⟩
                (.op ⟨(some 37), (some (34, true)), .faddr 0 (.tmp 9)⟩
                (.op ⟨(some 38), (some (34, true)), .load none (.tmp 37)⟩
                (.op ⟨(some 39), (some (34, true)), .iaddr 4 (.tmp 36) (.tmp 38)⟩
                (.op ⟨(some 40), (some (34, true)), .faddr 0 (.tmp 39)⟩
                (.op ⟨(some 41), (some (34, true)), .load none (.tmp 40)⟩
                (.op ⟨(some 42), (some (34, true)), .not (.tmp 41)⟩
                .nil))))))))
                43 none (.tmp 42) (.cst (.bool false))
               .nil)))))
               (.cond (.tmp 43)
                (.drw [(0, 2), (1, 2), (0, 3), (1, 3), (0, 4), (1, 4), (2, 4), (3, 4), (0, 5), (1, 5), (2, 5), (3, 5), (0, 6), (1, 6), (2, 6), (3, 6)]
                (.op ⟨(some 44), none, .faddr 0 (.tmp 7)⟩
                (.op ⟨(some 45), none, .load none (.tmp 44)⟩
                (.op ⟨(some 46), none, .faddr 0 (.tmp 9)⟩
                (.op ⟨(some 47), none, .load none (.tmp 46)⟩
                (.op ⟨(some 48), none, .faddr 3 (.tmp 9)⟩
                (.op ⟨(some 49), none, .load (some 3) (.tmp 48)⟩
                (.op ⟨(some 50), none, .call 91 [(.tmp 49)]⟩
                (.op ⟨(some 51), none, .build [.bool false, .int .i64 0, .nils, .nils] [(0, 1, (.cst (.bool true))), (1, 3, (.tmp 50))]⟩
                (.op ⟨(some 52), none, .iaddr 4 (.tmp 45) (.tmp 47)⟩
                (.op ⟨none, none, .store 4 (.tmp 52) (.tmp 51)⟩
                .nil)))))))))))
                .skip))))
            (.reg
            (.op ⟨(some 53), none, .bin .add (.tmp 28) (.cst (.int .i64 1))⟩
            (.op ⟨(some 28), none, .mov (.tmp 53)⟩
            .nil)))))))))
      (.seq
       (.reg
       (.op ⟨(some 54), none, .load (some 1) (.tmp 7)⟩
       (.op ⟨none, none, .store 1 (.tmp 6) (.tmp 54)⟩
       .nil)))
       .ret))))))
theorem ok_prepare_View : FnOk Try.prog 52 55 (SA.erase sa_prepare_View) [.cell 6 (some 1)] := ⟨Try.f52, [], Try.func52, rfl, by kernel_rfl, by kernel_rfl, by kernel_rfl⟩
noncomputable def F_prepare_View (a0 : Int) (a1 : TTrust) (a2 : (List TEnvelope)) : Option TConfig :=
bif decide ((10 : Int) = (10 : Int)) && decide (0 ≤ (10 : Int)) && lenOk 64 (Int.toNat (10 : Int)) then
Option.bind (bif (decide (a0 < (0 : Int))) then some true
else
some (decide ((10 : Int) ≤ a0))) fun b1 =>
bif b1 then
some (TConfig.mk (List.replicate (Int.toNat (10 : Int)) (TMember.mk false (TTrust.mk (0 : Int) ([] : List Int) ([] : List TTrust)))))
else
Option.bind (F_copies_Trust (TTrust.mk a1.Threshold a1.Nodes a1.Inner)) fun r2 =>
Option.bind (idx (List.replicate (Int.toNat (10 : Int)) (TMember.mk false (TTrust.mk (0 : Int) ([] : List Int) ([] : List TTrust)))) a0) fun x3 =>
Option.bind ((List.replicate (Int.toNat (10 : Int)) (TMember.mk false (TTrust.mk (0 : Int) ([] : List Int) ([] : List TTrust))))[(Int.toNat a0)]?) fun x4 =>
loopO (fun (v5 : Int × TConfig × (List TMember) × Unit) =>
bif (decide (v5.1 < ((List.length a2 : Nat) : Int))) then
letJ (fun (v6 : TConfig × (List TMember) × Unit) =>
some (Sum.inl ((addI .i64 v5.1 (1 : Int)), (TConfig.mk ([] : List TMember)), v6.2.1, ()))) fun j7 =>
Option.bind (idx a2 v5.1) fun x8 =>
Option.bind (F_envelopes_Valid (TEnvelope.mk x8.Node x8.Slot x8.Seq (TTrust.mk x8.Trust.Threshold x8.Trust.Nodes x8.Trust.Inner) x8.Kind x8.Ballot x8.Prepared x8.Prime x8.Low x8.High)) fun r9 =>
Option.bind (bif r9 then
Option.bind (idx v5.2.2.1 x8.Node) fun x10 =>
Option.bind (v5.2.2.1[(Int.toNat x8.Node)]?) fun x11 =>
Option.bind (v5.2.2.1[(Int.toNat x8.Node)]?) fun x12 =>
some (!x12.Declared)
else some false) fun b13 =>
bif b13 then
Option.bind (F_copies_Trust (TTrust.mk x8.Trust.Threshold x8.Trust.Nodes x8.Trust.Inner)) fun r14 =>
Option.bind (idx v5.2.2.1 x8.Node) fun x15 =>
Option.bind (v5.2.2.1[(Int.toNat x8.Node)]?) fun x16 =>
j7 ((TConfig.mk ([] : List TMember)), (v5.2.2.1.set (Int.toNat x8.Node) (TMember.mk true (TTrust.mk r14.Threshold r14.Nodes r14.Inner))), ())
else
j7 ((TConfig.mk ([] : List TMember)), v5.2.2.1, ())
else
Option.map Sum.inr (some (TConfig.mk v5.2.2.1))) ((0 : Int), (TConfig.mk ([] : List TMember)), ((List.replicate (Int.toNat (10 : Int)) (TMember.mk false (TTrust.mk (0 : Int) ([] : List Int) ([] : List TTrust)))).set (Int.toNat a0) (TMember.mk true (TTrust.mk r2.Threshold r2.Nodes r2.Inner))), ())
else none
theorem e_prepare_View : fnK K [.fn 91 [.ty (Ty.st .Trust)] (.one (Ty.st .Trust)) fun a => F_copies_Trust a.1, .fn 25 [.ty (Ty.st .Envelope)] (.one Ty.bool) fun a => F_envelopes_Valid a.1] sa_prepare_View [.cell 6 (some 1)] [.ty (Ty.i .i64), .ty (Ty.st .Trust), .ty (Ty.sl (Ty.st .Envelope))] (.one (Ty.st .Config)) = fun a => F_prepare_View a.1 a.2.1 a.2.2.1 := by kernel_rfl
theorem s_prepare_View : KFun.Sound (U := U) Try.prog (.fn 52 [.ty (Ty.i .i64), .ty (Ty.st .Trust), .ty (Ty.sl (Ty.st .Envelope))] (.one (Ty.st .Config)) fun a => F_prepare_View a.1 a.2.1 a.2.2.1) := fnK_sound (K := K) (Γ := [.fn 91 [.ty (Ty.st .Trust)] (.one (Ty.st .Trust)) fun a => F_copies_Trust a.1, .fn 25 [.ty (Ty.st .Envelope)] (.one Ty.bool) fun a => F_envelopes_Valid a.1]) ok_prepare_View (by kernel_rfl) (by decide) ⟨s_copies_Trust, s_envelopes_Valid, trivial⟩ (fun a => congrFun e_prepare_View a)

/-! ### trustquorum/trustquorumlaw25.sane -/
def sa_law25_sane : SA U :=
 (.seq
  (.reg
  (.op ⟨(some 0), none, .mov (.cst (.bool false))⟩
  .nil))
  (.seq
   (.reg
   (.op ⟨(some 5), none, .build [.int .i64 0, .str ⟨#[]⟩] [(0, 1, (.cst (.int .i64 2))), (1, 1, (.cst (.str ⟨#[97]⟩)))]⟩
   (.op ⟨(some 6), none, .build [.int .i64 0, .str ⟨#[]⟩] []⟩
   (.op ⟨(some 7), none, .build [.int .i64 0, .str ⟨#[]⟩] [(0, 1, (.cst (.int .i64 3))), (1, 1, (.cst (.str ⟨#[98]⟩)))]⟩
   (.op ⟨(some 8), none, .call 19 [(.tmp 5), (.tmp 6), (.tmp 7)]⟩
   (.op ⟨(some 4), none, .mov (.tmp 8)⟩
   (.op ⟨(some 9), none, .extr 0 (.tmp 4)⟩
   (.op ⟨(some 10), none, .extr 1 (.tmp 4)⟩
   (.op ⟨(some 1), none, .alloc [.int .i64 0, .str ⟨#[]⟩]⟩
   (.op ⟨(some 2), none, .alloc [.int .i64 0, .str ⟨#[]⟩]⟩
   (.op ⟨none, none, .store 2 (.tmp 1) (.tmp 9)⟩
   (.op ⟨none, none, .store 2 (.tmp 2) (.tmp 10)⟩
   .nil))))))))))))
   (.seq
    (.reg
    (.op ⟨(some 11), none, .call 41 [(.cst (.int .i64 2)), (.cst (.int .i64 1))]⟩
    (.op ⟨(some 12), none, .call 52 [(.cst (.int .i64 0)), (.tmp 11), (.cst (.nils))]⟩
    (.op ⟨(some 3), none, .alloc [.nils]⟩
    (.op ⟨none, none, .store 1 (.tmp 3) (.tmp 12)⟩
    .nil)))))
    (.seq
     (.reg
     (.op ⟨(some 13), none, .load (some 2) (.tmp 1)⟩
     (.op ⟨(some 14), none, .build [.int .i64 0, .str ⟨#[]⟩] [(0, 1, (.cst (.int .i64 3))), (1, 1, (.cst (.str ⟨#[98]⟩)))]⟩
     (.op ⟨(some 15), none, .eq2 false (.tmp 13) (.tmp 14)⟩
     (.op ⟨(some 16), none, .mov (.tmp 15)⟩
     (.ite 16 true
      (.op ⟨(some 17), (some (16, true)), .load (some 2) (.tmp 2)⟩
      (.op ⟨(some 18), (some (16, true)), .build [.int .i64 0, .str ⟨#[]⟩] [(0, 1, (.cst (.int .i64 2))), (1, 1, (.cst (.str ⟨#[97]⟩)))]⟩
      (.op ⟨(some 19), (some (16, true)), .eq2 false (.tmp 17) (.tmp 18)⟩
      .nil)))
      20 none (.tmp 19) (.cst (.bool false))
     (.op ⟨(some 21), none, .mov (.tmp 20)⟩
     (.ite 21 true
      (.op ⟨(some 22), (some (21, true)), .faddr 0 (.tmp 3)⟩
      (.op ⟨(some 23), (some (21, true)), .load none (.tmp 22)⟩
      (.op ⟨(some 24), (some (21, true)), .len false (.tmp 23)⟩
      (.op ⟨(some 25), (some (21, true)), .bin .eql (.tmp 24) (.cst (.int .i64 10))⟩
      .nil))))
      26 none (.tmp 25) (.cst (.bool false))
     (.op ⟨(some 27), none, .mov (.tmp 26)⟩
     (.ite 27 true
      (.op ⟨(some 28), (some (27, true)), .faddr 0 (.tmp 3)⟩
      (.op ⟨(some 29), (some (27, true)), .load none (.tmp 28)⟩
      (.op ⟨(some 30), (some (27, true)), .iaddr 4 (.tmp 29) (.cst (.int .i64 0))⟩
      (.op ⟨(some 31), (some (27, true)), .faddr 0 (.tmp 30)⟩
      (.op ⟨(some 32), (some (27, true)), .load none (.tmp 31)⟩
      .nil)))))
      33 none (.tmp 32) (.cst (.bool false))
     (.op ⟨(some 0), none, .mov (.tmp 33)⟩
     .nil)))))))))))
     .ret))))
theorem ok_law25_sane : FnOk Try.prog 24 34 (SA.erase sa_law25_sane) [.tmp 0] := ⟨Try.f24, [], Try.func24, rfl, by kernel_rfl, by kernel_rfl, by kernel_rfl⟩
noncomputable def F_law25_sane  : Option Bool :=
Option.bind (F_prepare_Join (TBallot.mk (2 : Int) (ByteArray.mk #[97])) (TBallot.mk (0 : Int) (ByteArray.mk #[])) (TBallot.mk (3 : Int) (ByteArray.mk #[98]))) fun r1 =>
Option.bind (F_play_Flat (2 : Int) (1 : Int)) fun r2 =>
Option.bind (F_prepare_View (0 : Int) (TTrust.mk r2.Threshold r2.Nodes r2.Inner) ([] : List TEnvelope)) fun r3 =>
Option.bind (bif (eq2 false r1.1.Counter (3 : Int) r1.1.Value (ByteArray.mk #[98])) then
some (eq2 false r1.2.1.Counter (2 : Int) r1.2.1.Value (ByteArray.mk #[97]))
else some false) fun b4 =>
Option.bind (bif b4 then
some (decide (((List.length r3.Members : Nat) : Int) = (10 : Int)))
else some false) fun b5 =>
Option.bind (bif b5 then
Option.bind (idx r3.Members (0 : Int)) fun x6 =>
some x6.Declared
else some false) fun b7 =>
some b7
theorem e_law25_sane : fnK K [.fn 19 [.ty (Ty.st .Ballot), .ty (Ty.st .Ballot), .ty (Ty.st .Ballot)] (.many [(Ty.st .Ballot), (Ty.st .Ballot)]) fun a => F_prepare_Join a.1 a.2.1 a.2.2.1, .fn 41 [.ty (Ty.i .i64), .ty (Ty.i .i64)] (.one (Ty.st .Trust)) fun a => F_play_Flat a.1 a.2.1, .fn 52 [.ty (Ty.i .i64), .ty (Ty.st .Trust), .ty (Ty.sl (Ty.st .Envelope))] (.one (Ty.st .Config)) fun a => F_prepare_View a.1 a.2.1 a.2.2.1] sa_law25_sane [.tmp 0] [] (.one Ty.bool) = fun a => F_law25_sane  := by kernel_rfl
theorem s_law25_sane : KFun.Sound (U := U) Try.prog (.fn 24 [] (.one Ty.bool) fun a => F_law25_sane ) := fnK_sound (K := K) (Γ := [.fn 19 [.ty (Ty.st .Ballot), .ty (Ty.st .Ballot), .ty (Ty.st .Ballot)] (.many [(Ty.st .Ballot), (Ty.st .Ballot)]) fun a => F_prepare_Join a.1 a.2.1 a.2.2.1, .fn 41 [.ty (Ty.i .i64), .ty (Ty.i .i64)] (.one (Ty.st .Trust)) fun a => F_play_Flat a.1 a.2.1, .fn 52 [.ty (Ty.i .i64), .ty (Ty.st .Trust), .ty (Ty.sl (Ty.st .Envelope))] (.one (Ty.st .Config)) fun a => F_prepare_View a.1 a.2.1 a.2.2.1]) ok_law25_sane (by kernel_rfl) (by decide) ⟨s_prepare_Join, s_play_Flat, s_prepare_View, trivial⟩ (fun a => congrFun e_law25_sane a)

/-! ### trustquorum/trustquorumlaw25.PrepareJoins -/
def sa_law25_PrepareJoins : SA U :=
 (.seq
  (.reg
  (.op ⟨(some 2), none, .mov (.cst (.bool false))⟩
  .nil))
  (.seq
   (.reg
   (.op ⟨(some 11), none, .mov (.tmp 0)⟩
   (.op ⟨(some 12), none, .call 11 [(.tmp 11)]⟩
   (.op ⟨(some 3), none, .mov (.tmp 12)⟩
   .nil))))
   (.seq
    (.reg
    (.op ⟨(some 4), none, .alloc [.int .i64 0, .str ⟨#[]⟩]⟩
    (.op ⟨(some 5), none, .alloc [.int .i64 0, .str ⟨#[]⟩]⟩
    .nil)))
    (.seq
     (.reg
     (.op ⟨(some 6), none, .mov (.cst (.nils))⟩
     .nil))
     (.seq
      (.seq
       (.reg
       (.op ⟨(some 13), none, .mov (.tmp 3)⟩
       (.op ⟨(some 14), none, .call 13 [(.tmp 13), (.cst (.int .i64 8))]⟩
       (.op ⟨(some 7), none, .mov (.tmp 14)⟩
       .nil))))
       (.block 0
        (.ps (.own 6 29 2 (Ty.st .Ballot))
        (.loop ⟨[.val 7 (Ty.i .i64), .own 6 10 1 29 2 (Ty.st .Ballot), .box 2 1 (Ty.st .Src) [], .box 4 1 (Ty.st .Ballot) [], .box 5 1 (Ty.st .Ballot) []], [3, 4, 5]⟩
         (.seq
          (.seq
           (.reg
           (.op ⟨(some 15), none, .mov (.tmp 7)⟩
           (.op ⟨(some 16), none, .bin .gtr (.tmp 15) (.cst (.int .i64 0))⟩
           .nil)))
           (.cond (.tmp 16)
            .skip
            (.exit 0)))
          (.seq
           (.block 1
            (.seq
             (.reg
             (.op ⟨(some 19), none, .mov (.tmp 3)⟩
             (.op ⟨(some 20), none, .call 18 [(.tmp 19)]⟩
             (.op ⟨(some 8), none, .alloc [.int .i64 0, .str ⟨#[]⟩]⟩
             (.op ⟨none, none, .store 2 (.tmp 8) (.tmp 20)⟩
             .nil)))))
             (.seq
              (.reg
              (.op ⟨(some 22), none, .load (some 2) (.tmp 4)⟩
              (.op ⟨(some 23), none, .load (some 2) (.tmp 5)⟩
              (.op ⟨(some 24), none, .load (some 2) (.tmp 8)⟩
              (.op ⟨(some 25), none, .call 19 [(.tmp 22), (.tmp 23), (.tmp 24)]⟩
              (.op ⟨(some 21), none, .mov (.tmp 25)⟩
              (.op ⟨(some 26), none, .extr 0 (.tmp 21)⟩
              (.op ⟨(some 27), none, .extr 1 (.tmp 21)⟩
              (.op ⟨none, none, .store 2 (.tmp 4) (.tmp 26)⟩
              (.op ⟨none, none, .store 2 (.tmp 5) (.tmp 27)⟩
              .nil))))))))))
              (.seq
               (.reg
               (.op ⟨(some 28), none, .mov (.tmp 6)⟩
               (.op ⟨(some 29), none, .load (some 2) (.tmp 8)⟩
               (.op ⟨(some 30), none, .bsl false 29 2 (List.replicate 1 [.int .i64 0, .str ⟨#[]⟩]) [(0, (.tmp 29))]⟩
               (.op ⟨(some 31), none, .app 29 2 24 (.tmp 28) (.tmp 30)⟩
               (.op ⟨(some 6), none, .mov (.tmp 31)⟩
               .nil))))))
               (.seq
                (.seq
                 (.reg
                 (.op ⟨(some 32), none, .load (some 2) (.tmp 4)⟩
                 (.op ⟨(some 33), none, .call 20 [(.tmp 32)]⟩
                 (.op ⟨(some 34), none, .mov (.tmp 33)⟩
                 (.ite 34 false
                  (.op ⟨(some 35), (some (34, false)), .load (some 2) (.tmp 5)⟩
                  (.op ⟨(some 36), (some (34, false)), .call 20 [(.tmp 35)]⟩
                  (.op ⟨(some 37), (some (34, false)), .not (.tmp 36)⟩
                  (.op ⟨(some 38), (some (34, false)), .mov (.tmp 37)⟩
                  (.ite 38 true
                   (.op ⟨(some 39), (some (38, true)), .load (some 2) (.tmp 5)⟩
                   (.op ⟨(some 40), (some (38, true)), .load (some 2) (.tmp 4)⟩
                   (.op ⟨(some 41), (some (38, true)), .call 21 [(.tmp 39), (.tmp 40)]⟩
                   (.op ⟨(some 42), (some (38, true)), .not (.tmp 41)⟩
                   (.op ⟨(some 43), (some (38, true)), .mov (.tmp 42)⟩
                   (.ite 43 false
                    (.op ⟨(some 44), (some (43, false)), .load (some 2) (.tmp 5)⟩
                    (.op ⟨(some 45), (some (43, false)), .load (some 2) (.tmp 4)⟩
                    (.op ⟨(some 46), (some (43, false)), .call 22 [(.tmp 44), (.tmp 45)]⟩
                    .nil)))
                    47 (some (38, true)) (.cst (.bool true)) (.tmp 46)
                   .nil))))))
                   48 (some (34, false)) (.tmp 47) (.cst (.bool false))
                  .nil)))))
                  49 none (.cst (.bool true)) (.tmp 48)
                 .nil)))))
                 (.cond (.tmp 49)
                  (.seq
                   (.reg
                   (.op ⟨(some 2), none, .mov (.cst (.bool false))⟩
                   .nil))
                   .ret)
                  .skip))
                (.seq
                 (.reg
                 (.op ⟨(some 50), none, .mov (.tmp 6)⟩
                 (.op ⟨(some 51), none, .len false (.tmp 50)⟩
                 (.op ⟨(some 52), none, .mov (.cst (.int .i64 0))⟩
                 .nil))))
                 (.block 2
                  (.loop ⟨[.val 52 (Ty.i .i64)], [3, 4, 5, 6, 7, 50, 51]⟩
                   (.seq
                    (.reg
                    (.op ⟨(some 53), none, .bin .lss (.tmp 52) (.tmp 51)⟩
                    .nil))
                    (.seq
                     (.cond (.tmp 53)
                      .skip
                      (.exit 2))
                     (.seq
                      (.block 3
                       (.seq
                        (.reg
                        (.op ⟨(some 54), none, .iaddr 2 (.tmp 50) (.tmp 52)⟩
                        (.op ⟨(some 55), none, .load (some 2) (.tmp 54)⟩
                        (.op ⟨(some 10), none, .alloc [.int .i64 0, .str ⟨#[]⟩]⟩
                        (.op ⟨none, none, .store 2 (.tmp 10) (.tmp 55)⟩
                        .nil)))))
                        (.seq
                         (.reg
                         (.op ⟨(some 56), none, .load (some 2) (.tmp 4)⟩
                         (.op ⟨(some 57), none, .load (some 2) (.tmp 5)⟩
                         (.op ⟨(some 58), none, .load (some 2) (.tmp 10)⟩
                         (.op ⟨(some 59), none, .call 23 [(.tmp 56), (.tmp 57), (.tmp 58)]⟩
                         (.op ⟨(some 60), none, .not (.tmp 59)⟩
                         .nil))))))
                         (.cond (.tmp 60)
                          (.seq
                           (.reg
                           (.op ⟨(some 2), none, .mov (.cst (.bool false))⟩
                           .nil))
                           .ret)
                          .skip))))
                      (.reg
                      (.op ⟨(some 61), none, .bin .add (.tmp 52) (.cst (.int .i64 1))⟩
                      (.op ⟨(some 52), none, .mov (.tmp 61)⟩
                      .nil))))))))))))))
           (.reg
           (.op ⟨(some 17), none, .mov (.tmp 7)⟩
           (.op ⟨(some 18), none, .bin .sub (.tmp 17) (.cst (.int .i64 1))⟩
           (.op ⟨(some 7), none, .mov (.tmp 18)⟩
           .nil))))))))))
      (.seq
       (.reg
       (.op ⟨(some 62), none, .mov (.tmp 6)⟩
       (.op ⟨(some 63), none, .len false (.tmp 62)⟩
       (.op ⟨(some 64), none, .bin .gtr (.tmp 63) (.cst (.int .i64 0))⟩
       (.op ⟨(some 65), none, .mov (.tmp 64)⟩
       (.ite 65 false
        (.op ⟨(some 66), (some (65, false)), .load (some 2) (.tmp 4)⟩
        (.op ⟨(some 67), (some (65, false)), .call 20 [(.tmp 66)]⟩
        .nil))
        68 none (.cst (.bool true)) (.tmp 67)
       (.op ⟨(some 69), none, .mov (.tmp 68)⟩
       (.ite 69 true
        (.op ⟨(some 70), (some (69, true)), .call 24 []⟩
        .nil)
        71 none (.tmp 70) (.cst (.bool false))
       (.op ⟨(some 2), none, .mov (.tmp 71)⟩
       .nil)))))))))
       .ret))))))
theorem ok_law25_PrepareJoins : FnOk Try.prog 4 72 (SA.erase sa_law25_PrepareJoins) [.tmp 2] := ⟨Try.f4, [], Try.func4, rfl, by kernel_rfl, by kernel_rfl, by kernel_rfl⟩
noncomputable def F_law25_PrepareJoins (a0 : (List Int)) : Option Bool :=
Option.bind (F_play_New a0) fun r1 =>
Option.bind (F_play_Src_N r1 (8 : Int)) fun p2 =>
loopO (fun (v3 : Int × (List TBallot) × TSrc × TBallot × TBallot × Unit) =>
bif (decide ((0 : Int) < v3.1)) then
Option.bind (F_play_Src_Low v3.2.2.1) fun p4 =>
Option.bind (F_prepare_Join v3.2.2.2.1 v3.2.2.2.2.1 p4.1) fun r5 =>
bif lenOk 24 (List.length v3.2.1 + List.length [p4.1]) then
Option.bind (F_ref23_Zero r5.1) fun r6 =>
Option.bind (bif r6 then some true
else
Option.bind (F_ref23_Zero r5.2.1) fun r7 =>
Option.bind (bif (!r7) then
Option.bind (F_ref23_Less r5.2.1 r5.1) fun r8 =>
Option.bind (bif (!r8) then some true
else
Option.bind (F_ref23_Compatible r5.2.1 r5.1) fun r9 =>
some r9) fun b10 =>
some b10
else some false) fun b11 =>
some b11) fun b12 =>
bif b12 then
Option.map Sum.inr (some false)
else
loopO (fun (v13 : Int × Unit) =>
bif (decide (v13.1 < ((List.length (v3.2.1 ++ [p4.1]) : Nat) : Int))) then
Option.bind (idx (v3.2.1 ++ [p4.1]) v13.1) fun x14 =>
Option.bind ((v3.2.1 ++ [p4.1])[(Int.toNat v13.1)]?) fun x15 =>
Option.bind (F_ref23_Prepares r5.1 r5.2.1 x15) fun r16 =>
bif (!r16) then
Option.map Sum.inr (Option.map Sum.inr (some false))
else
some (Sum.inl ((addI .i64 v13.1 (1 : Int)), ()))
else
Option.map Sum.inr (some (Sum.inl ((subI .i64 v3.1 (1 : Int)), (v3.2.1 ++ [p4.1]), p4.2, r5.1, r5.2.1, ())))) ((0 : Int), ())
else none
else
Option.map Sum.inr (Option.bind (bif (decide ((0 : Int) < ((List.length v3.2.1 : Nat) : Int))) then some true
else
Option.bind (F_ref23_Zero v3.2.2.2.1) fun r17 =>
some r17) fun b18 =>
Option.bind (bif b18 then
Option.bind (F_law25_sane) fun r19 =>
some r19
else some false) fun b20 =>
some b20)) (p2.1, ([] : List TBallot), p2.2, (TBallot.mk (0 : Int) (ByteArray.mk #[])), (TBallot.mk (0 : Int) (ByteArray.mk #[])), ())
theorem e_law25_PrepareJoins : fnK K [.nw 11 [.ty (Ty.sl (Ty.i .i64))] (Ty.st .Src) fun a => F_play_New a.1, .rc 13 (Ty.st .Src) [.ty (Ty.i .i64)] (.one (Ty.i .i64)) fun s a => F_play_Src_N s a.1, .rc 18 (Ty.st .Src) [] (.one (Ty.st .Ballot)) fun s a => F_play_Src_Low s , .fn 19 [.ty (Ty.st .Ballot), .ty (Ty.st .Ballot), .ty (Ty.st .Ballot)] (.many [(Ty.st .Ballot), (Ty.st .Ballot)]) fun a => F_prepare_Join a.1 a.2.1 a.2.2.1, .fn 20 [.ty (Ty.st .Ballot)] (.one Ty.bool) fun a => F_ref23_Zero a.1, .fn 21 [.ty (Ty.st .Ballot), .ty (Ty.st .Ballot)] (.one Ty.bool) fun a => F_ref23_Less a.1 a.2.1, .fn 22 [.ty (Ty.st .Ballot), .ty (Ty.st .Ballot)] (.one Ty.bool) fun a => F_ref23_Compatible a.1 a.2.1, .fn 23 [.ty (Ty.st .Ballot), .ty (Ty.st .Ballot), .ty (Ty.st .Ballot)] (.one Ty.bool) fun a => F_ref23_Prepares a.1 a.2.1 a.2.2.1, .fn 24 [] (.one Ty.bool) fun a => F_law25_sane ] sa_law25_PrepareJoins [.tmp 2] [.ty (Ty.sl (Ty.i .i64))] (.one Ty.bool) = fun a => F_law25_PrepareJoins a.1 := by kernel_rfl
theorem s_law25_PrepareJoins : KFun.Sound (U := U) Try.prog (.fn 4 [.ty (Ty.sl (Ty.i .i64))] (.one Ty.bool) fun a => F_law25_PrepareJoins a.1) := fnK_sound (K := K) (Γ := [.nw 11 [.ty (Ty.sl (Ty.i .i64))] (Ty.st .Src) fun a => F_play_New a.1, .rc 13 (Ty.st .Src) [.ty (Ty.i .i64)] (.one (Ty.i .i64)) fun s a => F_play_Src_N s a.1, .rc 18 (Ty.st .Src) [] (.one (Ty.st .Ballot)) fun s a => F_play_Src_Low s , .fn 19 [.ty (Ty.st .Ballot), .ty (Ty.st .Ballot), .ty (Ty.st .Ballot)] (.many [(Ty.st .Ballot), (Ty.st .Ballot)]) fun a => F_prepare_Join a.1 a.2.1 a.2.2.1, .fn 20 [.ty (Ty.st .Ballot)] (.one Ty.bool) fun a => F_ref23_Zero a.1, .fn 21 [.ty (Ty.st .Ballot), .ty (Ty.st .Ballot)] (.one Ty.bool) fun a => F_ref23_Less a.1 a.2.1, .fn 22 [.ty (Ty.st .Ballot), .ty (Ty.st .Ballot)] (.one Ty.bool) fun a => F_ref23_Compatible a.1 a.2.1, .fn 23 [.ty (Ty.st .Ballot), .ty (Ty.st .Ballot), .ty (Ty.st .Ballot)] (.one Ty.bool) fun a => F_ref23_Prepares a.1 a.2.1 a.2.2.1, .fn 24 [] (.one Ty.bool) fun a => F_law25_sane ]) ok_law25_PrepareJoins (by kernel_rfl) (by decide) ⟨s_play_New, s_play_Src_N, s_play_Src_Low, s_prepare_Join, s_ref23_Zero, s_ref23_Less, s_ref23_Compatible, s_ref23_Prepares, s_law25_sane, trivial⟩ (fun a => congrFun e_law25_PrepareJoins a)

/-! ### (trustquorum/envelopes.Right).AcceptsPrepare -/
def sa_envelopes_Right_AcceptsPrepare : SA U :=
 (.seq
  (.reg
  (.op ⟨(some 2), none, .box (.tmp 0)⟩
  (.op ⟨(some 3), none, .box (.tmp 1)⟩
  (.op ⟨(some 4), none, .mov (.cst (.bool false))⟩
  .nil))))
  (.seq
   (.block 0
    (.seq
     (.reg
     (.op ⟨(some 6), none, .load (some 2) (.tmp 3)⟩
     (.op ⟨(some 7), none, .call 48 [(.tmp 6)]⟩
     (.op ⟨(some 5), none, .mov (.tmp 7)⟩
     .nil))))
     (.cond (.tmp 5)
      (.seq
       (.reg
       (.op ⟨(some 4), none, .mov (.cst (.bool false))⟩
       .nil))
       .ret)
      (.seq
       (.reg
       (.op ⟨(some 9), none, .faddr 0 (.tmp 2)⟩
       (.op ⟨(some 10), none, .faddr 6 (.tmp 9)⟩
       (.op ⟨(some 11), none, .load none (.tmp 10)⟩
       (.op ⟨(some 12), none, .bin .eql (.tmp 11) (.cst (.int .i64 1))⟩
       (.op ⟨(some 8), none, .mov (.tmp 12)⟩
       .nil))))))
       (.cond (.tmp 8)
        (.seq
         (.reg
         (.op ⟨(some 13), none, .faddr 0 (.tmp 2)⟩
         (.op ⟨(some 14), none, .faddr 9 (.tmp 13)⟩
         (.op ⟨(some 15), none, .load (some 2) (.tmp 14)⟩
         (.op ⟨(some 16), none, .faddr 0 (.tmp 2)⟩
         (.op ⟨(some 17), none, .faddr 11 (.tmp 16)⟩
         (.op ⟨(some 18), none, .load (some 2) (.tmp 17)⟩
         (.op ⟨(some 19), none, .load (some 2) (.tmp 3)⟩
         (.op ⟨(some 20), none, .call 97 [(.tmp 15), (.tmp 18), (.tmp 19)]⟩
         (.op ⟨(some 4), none, .mov (.tmp 20)⟩
         .nil))))))))))
         .ret)
        (.seq
         (.reg
         (.op ⟨(some 22), none, .faddr 0 (.tmp 2)⟩
         (.op ⟨(some 23), none, .faddr 6 (.tmp 22)⟩
         (.op ⟨(some 24), none, .load none (.tmp 23)⟩
         (.op ⟨(some 25), none, .bin .eql (.tmp 24) (.cst (.int .i64 2))⟩
         (.op ⟨(some 21), none, .mov (.tmp 25)⟩
         .nil))))))
         (.cond (.tmp 21)
          (.seq
           (.reg
           (.op ⟨(some 26), none, .faddr 0 (.tmp 2)⟩
           (.op ⟨(some 27), none, .faddr 9 (.tmp 26)⟩
           (.op ⟨(some 28), none, .load (some 2) (.tmp 27)⟩
           (.op ⟨(some 29), none, .load (some 2) (.tmp 3)⟩
           (.op ⟨(some 30), none, .call 99 [(.tmp 28), (.tmp 29)]⟩
           (.op ⟨(some 4), none, .mov (.tmp 30)⟩
           .nil)))))))
           .ret)
          .skip)))))))
   (.seq
    (.reg
    (.op ⟨(some 31), none, .faddr 0 (.tmp 2)⟩
    (.op ⟨(some 32), none, .faddr 7 (.tmp 31)⟩
    (.op ⟨(some 33), none, .load (some 2) (.tmp 32)⟩
    (.op ⟨(some 34), none, .load (some 2) (.tmp 3)⟩
    (.op ⟨(some 35), none, .call 50 [(.tmp 33), (.tmp 34)]⟩
    (.op ⟨(some 4), none, .mov (.tmp 35)⟩
    .nil)))))))
    .ret)))
theorem ok_envelopes_Right_AcceptsPrepare : FnOk Try.prog 58 36 (SA.erase sa_envelopes_Right_AcceptsPrepare) [.tmp 4] := ⟨Try.f58, [], Try.func58, rfl, by kernel_rfl, by kernel_rfl, by kernel_rfl⟩
noncomputable def F_envelopes_Right_AcceptsPrepare (a0 : TRight) (a1 : TBallot) : Option Bool :=
Option.bind (F_ballots_Zero a1) fun r1 =>
bif r1 then
some false
else
bif (decide (a0.Envelope.Kind = (1 : Int))) then
Option.bind (F_ballots_Prepares a0.Envelope.Prepared a0.Envelope.Prime a1) fun r2 =>
some r2
else
bif (decide (a0.Envelope.Kind = (2 : Int))) then
Option.bind (F_ballots_Covers a0.Envelope.Prepared a1) fun r3 =>
some r3
else
Option.bind (F_ballots_Compatible a0.Envelope.Ballot a1) fun r4 =>
some r4
theorem e_envelopes_Right_AcceptsPrepare : fnK K [.fn 48 [.ty (Ty.st .Ballot)] (.one Ty.bool) fun a => F_ballots_Zero a.1, .fn 97 [.ty (Ty.st .Ballot), .ty (Ty.st .Ballot), .ty (Ty.st .Ballot)] (.one Ty.bool) fun a => F_ballots_Prepares a.1 a.2.1 a.2.2.1, .fn 99 [.ty (Ty.st .Ballot), .ty (Ty.st .Ballot)] (.one Ty.bool) fun a => F_ballots_Covers a.1 a.2.1, .fn 50 [.ty (Ty.st .Ballot), .ty (Ty.st .Ballot)] (.one Ty.bool) fun a => F_ballots_Compatible a.1 a.2.1] sa_envelopes_Right_AcceptsPrepare [.tmp 4] [.ty (Ty.st .Right), .ty (Ty.st .Ballot)] (.one Ty.bool) = fun a => F_envelopes_Right_AcceptsPrepare a.1 a.2.1 := by kernel_rfl
theorem s_envelopes_Right_AcceptsPrepare : KFun.Sound (U := U) Try.prog (.fn 58 [.ty (Ty.st .Right), .ty (Ty.st .Ballot)] (.one Ty.bool) fun a => F_envelopes_Right_AcceptsPrepare a.1 a.2.1) := fnK_sound (K := K) (Γ := [.fn 48 [.ty (Ty.st .Ballot)] (.one Ty.bool) fun a => F_ballots_Zero a.1, .fn 97 [.ty (Ty.st .Ballot), .ty (Ty.st .Ballot), .ty (Ty.st .Ballot)] (.one Ty.bool) fun a => F_ballots_Prepares a.1 a.2.1 a.2.2.1, .fn 99 [.ty (Ty.st .Ballot), .ty (Ty.st .Ballot)] (.one Ty.bool) fun a => F_ballots_Covers a.1 a.2.1, .fn 50 [.ty (Ty.st .Ballot), .ty (Ty.st .Ballot)] (.one Ty.bool) fun a => F_ballots_Compatible a.1 a.2.1]) ok_envelopes_Right_AcceptsPrepare (by kernel_rfl) (by decide) ⟨s_ballots_Zero, s_ballots_Prepares, s_ballots_Covers, s_ballots_Compatible, trivial⟩ (fun a => congrFun e_envelopes_Right_AcceptsPrepare a)

/-! ### trustquorum/envelopes.AcceptsPrepare -/
def sa_envelopes_AcceptsPrepare : SA U :=
 (.seq
  (.reg
  (.op ⟨(some 2), none, .box (.tmp 0)⟩
  (.op ⟨(some 3), none, .box (.tmp 1)⟩
  (.op ⟨(some 4), none, .mov (.cst (.bool false))⟩
  .nil))))
  (.seq
   (.reg
   (.op ⟨(some 5), none, .load (some 15) (.tmp 2)⟩
   (.op ⟨(some 6), none, .call 25 [(.tmp 5)]⟩
   (.op ⟨(some 7), none, .mov (.tmp 6)⟩
   (.ite 7 true
    (.op ⟨(some 8), (some (7, true)), .load (some 15) (.tmp 2)⟩
    (.op ⟨(some 9), (some (7, true)), .build [.int .i64 0, .int .i64 0, .int .i64 0, .int .i64 0, .nils, .nils, .int .i64 0, .int .i64 0, .str ⟨#[]⟩, .int .i64 0, .str ⟨#[]⟩, .int .i64 0, .str ⟨#[]⟩, .int .i64 0, .int .i64 0] [(0, 15, (.tmp 8))]⟩
    (.op ⟨(some 10), (some (7, true)), .load (some 2) (.tmp 3)⟩
    (.op ⟨(some 11), (some (7, true)), .call 58 [(.tmp 9), (.tmp 10)]⟩
    .nil))))
    12 none (.tmp 11) (.cst (.bool false))
   (.op ⟨(some 4), none, .mov (.tmp 12)⟩
   .nil))))))
   .ret))
theorem ok_envelopes_AcceptsPrepare : FnOk Try.prog 28 13 (SA.erase sa_envelopes_AcceptsPrepare) [.tmp 4] := ⟨Try.f28, [], Try.func28, rfl, by kernel_rfl, by kernel_rfl, by kernel_rfl⟩
noncomputable def F_envelopes_AcceptsPrepare (a0 : TEnvelope) (a1 : TBallot) : Option Bool :=
Option.bind (F_envelopes_Valid (TEnvelope.mk a0.Node a0.Slot a0.Seq (TTrust.mk a0.Trust.Threshold a0.Trust.Nodes a0.Trust.Inner) a0.Kind a0.Ballot a0.Prepared a0.Prime a0.Low a0.High)) fun r1 =>
Option.bind (bif r1 then
Option.bind (F_envelopes_Right_AcceptsPrepare (TRight.mk (TEnvelope.mk a0.Node a0.Slot a0.Seq (TTrust.mk a0.Trust.Threshold a0.Trust.Nodes a0.Trust.Inner) a0.Kind a0.Ballot a0.Prepared a0.Prime a0.Low a0.High)) a1) fun r2 =>
some r2
else some false) fun b3 =>
some b3
theorem e_envelopes_AcceptsPrepare : fnK K [.fn 25 [.ty (Ty.st .Envelope)] (.one Ty.bool) fun a => F_envelopes_Valid a.1, .fn 58 [.ty (Ty.st .Right), .ty (Ty.st .Ballot)] (.one Ty.bool) fun a => F_envelopes_Right_AcceptsPrepare a.1 a.2.1] sa_envelopes_AcceptsPrepare [.tmp 4] [.ty (Ty.st .Envelope), .ty (Ty.st .Ballot)] (.one Ty.bool) = fun a => F_envelopes_AcceptsPrepare a.1 a.2.1 := by kernel_rfl
theorem s_envelopes_AcceptsPrepare : KFun.Sound (U := U) Try.prog (.fn 28 [.ty (Ty.st .Envelope), .ty (Ty.st .Ballot)] (.one Ty.bool) fun a => F_envelopes_AcceptsPrepare a.1 a.2.1) := fnK_sound (K := K) (Γ := [.fn 25 [.ty (Ty.st .Envelope)] (.one Ty.bool) fun a => F_envelopes_Valid a.1, .fn 58 [.ty (Ty.st .Right), .ty (Ty.st .Ballot)] (.one Ty.bool) fun a => F_envelopes_Right_AcceptsPrepare a.1 a.2.1]) ok_envelopes_AcceptsPrepare (by kernel_rfl) (by decide) ⟨s_envelopes_Valid, s_envelopes_Right_AcceptsPrepare, trivial⟩ (fun a => congrFun e_envelopes_AcceptsPrepare a)

/-! ### (trustquorum/envelopes.Right).VotesPrepare -/
def sa_envelopes_Right_VotesPrepare : SA U :=
 (.seq
  (.reg
  (.op ⟨(some 2), none, .box (.tmp 0)⟩
  (.op ⟨(some 3), none, .box (.tmp 1)⟩
  (.op ⟨(some 4), none, .mov (.cst (.bool false))⟩
  .nil))))
  (.seq
   (.block 0
    (.seq
     (.reg
     (.op ⟨(some 6), none, .load (some 2) (.tmp 3)⟩
     (.op ⟨(some 7), none, .call 48 [(.tmp 6)]⟩
     (.op ⟨(some 5), none, .mov (.tmp 7)⟩
     .nil))))
     (.cond (.tmp 5)
      (.seq
       (.reg
       (.op ⟨(some 4), none, .mov (.cst (.bool false))⟩
       .nil))
       .ret)
      (.seq
       (.reg
       (.op ⟨(some 9), none, .faddr 0 (.tmp 2)⟩
       (.op ⟨(some 10), none, .faddr 6 (.tmp 9)⟩
       (.op ⟨(some 11), none, .load none (.tmp 10)⟩
       (.op ⟨(some 12), none, .bin .eql (.tmp 11) (.cst (.int .i64 1))⟩
       (.op ⟨(some 8), none, .mov (.tmp 12)⟩
       .nil))))))
       (.cond (.tmp 8)
        (.seq
         (.reg
         (.op ⟨(some 13), none, .faddr 0 (.tmp 2)⟩
         (.op ⟨(some 14), none, .faddr 7 (.tmp 13)⟩
         (.op ⟨(some 15), none, .load (some 2) (.tmp 14)⟩
         (.op ⟨(some 16), none, .load (some 2) (.tmp 3)⟩
         (.op ⟨(some 17), none, .call 99 [(.tmp 15), (.tmp 16)]⟩
         (.op ⟨(some 4), none, .mov (.tmp 17)⟩
         .nil)))))))
         .ret)
        .skip)))))
   (.seq
    (.reg
    (.op ⟨(some 18), none, .faddr 0 (.tmp 2)⟩
    (.op ⟨(some 19), none, .faddr 7 (.tmp 18)⟩
    (.op ⟨(some 20), none, .load (some 2) (.tmp 19)⟩
    (.op ⟨(some 21), none, .load (some 2) (.tmp 3)⟩
    (.op ⟨(some 22), none, .call 50 [(.tmp 20), (.tmp 21)]⟩
    (.op ⟨(some 4), none, .mov (.tmp 22)⟩
    .nil)))))))
    .ret)))
theorem ok_envelopes_Right_VotesPrepare : FnOk Try.prog 59 23 (SA.erase sa_envelopes_Right_VotesPrepare) [.tmp 4] := ⟨Try.f59, [], Try.func59, rfl, by kernel_rfl, by kernel_rfl, by kernel_rfl⟩
noncomputable def F_envelopes_Right_VotesPrepare (a0 : TRight) (a1 : TBallot) : Option Bool :=
Option.bind (F_ballots_Zero a1) fun r1 =>
bif r1 then
some false
else
bif (decide (a0.Envelope.Kind = (1 : Int))) then
Option.bind (F_ballots_Covers a0.Envelope.Ballot a1) fun r2 =>
some r2
else
Option.bind (F_ballots_Compatible a0.Envelope.Ballot a1) fun r3 =>
some r3
theorem e_envelopes_Right_VotesPrepare : fnK K [.fn 48 [.ty (Ty.st .Ballot)] (.one Ty.bool) fun a => F_ballots_Zero a.1, .fn 99 [.ty (Ty.st .Ballot), .ty (Ty.st .Ballot)] (.one Ty.bool) fun a => F_ballots_Covers a.1 a.2.1, .fn 50 [.ty (Ty.st .Ballot), .ty (Ty.st .Ballot)] (.one Ty.bool) fun a => F_ballots_Compatible a.1 a.2.1] sa_envelopes_Right_VotesPrepare [.tmp 4] [.ty (Ty.st .Right), .ty (Ty.st .Ballot)] (.one Ty.bool) = fun a => F_envelopes_Right_VotesPrepare a.1 a.2.1 := by kernel_rfl
theorem s_envelopes_Right_VotesPrepare : KFun.Sound (U := U) Try.prog (.fn 59 [.ty (Ty.st .Right), .ty (Ty.st .Ballot)] (.one Ty.bool) fun a => F_envelopes_Right_VotesPrepare a.1 a.2.1) := fnK_sound (K := K) (Γ := [.fn 48 [.ty (Ty.st .Ballot)] (.one Ty.bool) fun a => F_ballots_Zero a.1, .fn 99 [.ty (Ty.st .Ballot), .ty (Ty.st .Ballot)] (.one Ty.bool) fun a => F_ballots_Covers a.1 a.2.1, .fn 50 [.ty (Ty.st .Ballot), .ty (Ty.st .Ballot)] (.one Ty.bool) fun a => F_ballots_Compatible a.1 a.2.1]) ok_envelopes_Right_VotesPrepare (by kernel_rfl) (by decide) ⟨s_ballots_Zero, s_ballots_Covers, s_ballots_Compatible, trivial⟩ (fun a => congrFun e_envelopes_Right_VotesPrepare a)

/-! ### trustquorum/envelopes.VotesPrepare -/
def sa_envelopes_VotesPrepare : SA U :=
 (.seq
  (.reg
  (.op ⟨(some 2), none, .box (.tmp 0)⟩
  (.op ⟨(some 3), none, .box (.tmp 1)⟩
  (.op ⟨(some 4), none, .mov (.cst (.bool false))⟩
  .nil))))
  (.seq
   (.reg
   (.op ⟨(some 5), none, .load (some 15) (.tmp 2)⟩
   (.op ⟨(some 6), none, .call 25 [(.tmp 5)]⟩
   (.op ⟨(some 7), none, .mov (.tmp 6)⟩
   (.ite 7 true
    (.op ⟨(some 8), (some (7, true)), .load (some 15) (.tmp 2)⟩
    (.op ⟨(some 9), (some (7, true)), .build [.int .i64 0, .int .i64 0, .int .i64 0, .int .i64 0, .nils, .nils, .int .i64 0, .int .i64 0, .str ⟨#[]⟩, .int .i64 0, .str ⟨#[]⟩, .int .i64 0, .str ⟨#[]⟩, .int .i64 0, .int .i64 0] [(0, 15, (.tmp 8))]⟩
    (.op ⟨(some 10), (some (7, true)), .load (some 2) (.tmp 3)⟩
    (.op ⟨(some 11), (some (7, true)), .call 59 [(.tmp 9), (.tmp 10)]⟩
    .nil))))
    12 none (.tmp 11) (.cst (.bool false))
   (.op ⟨(some 4), none, .mov (.tmp 12)⟩
   .nil))))))
   .ret))
theorem ok_envelopes_VotesPrepare : FnOk Try.prog 30 13 (SA.erase sa_envelopes_VotesPrepare) [.tmp 4] := ⟨Try.f30, [], Try.func30, rfl, by kernel_rfl, by kernel_rfl, by kernel_rfl⟩
noncomputable def F_envelopes_VotesPrepare (a0 : TEnvelope) (a1 : TBallot) : Option Bool :=
Option.bind (F_envelopes_Valid (TEnvelope.mk a0.Node a0.Slot a0.Seq (TTrust.mk a0.Trust.Threshold a0.Trust.Nodes a0.Trust.Inner) a0.Kind a0.Ballot a0.Prepared a0.Prime a0.Low a0.High)) fun r1 =>
Option.bind (bif r1 then
Option.bind (F_envelopes_Right_VotesPrepare (TRight.mk (TEnvelope.mk a0.Node a0.Slot a0.Seq (TTrust.mk a0.Trust.Threshold a0.Trust.Nodes a0.Trust.Inner) a0.Kind a0.Ballot a0.Prepared a0.Prime a0.Low a0.High)) a1) fun r2 =>
some r2
else some false) fun b3 =>
some b3
theorem e_envelopes_VotesPrepare : fnK K [.fn 25 [.ty (Ty.st .Envelope)] (.one Ty.bool) fun a => F_envelopes_Valid a.1, .fn 59 [.ty (Ty.st .Right), .ty (Ty.st .Ballot)] (.one Ty.bool) fun a => F_envelopes_Right_VotesPrepare a.1 a.2.1] sa_envelopes_VotesPrepare [.tmp 4] [.ty (Ty.st .Envelope), .ty (Ty.st .Ballot)] (.one Ty.bool) = fun a => F_envelopes_VotesPrepare a.1 a.2.1 := by kernel_rfl
theorem s_envelopes_VotesPrepare : KFun.Sound (U := U) Try.prog (.fn 30 [.ty (Ty.st .Envelope), .ty (Ty.st .Ballot)] (.one Ty.bool) fun a => F_envelopes_VotesPrepare a.1 a.2.1) := fnK_sound (K := K) (Γ := [.fn 25 [.ty (Ty.st .Envelope)] (.one Ty.bool) fun a => F_envelopes_Valid a.1, .fn 59 [.ty (Ty.st .Right), .ty (Ty.st .Ballot)] (.one Ty.bool) fun a => F_envelopes_Right_VotesPrepare a.1 a.2.1]) ok_envelopes_VotesPrepare (by kernel_rfl) (by decide) ⟨s_envelopes_Valid, s_envelopes_Right_VotesPrepare, trivial⟩ (fun a => congrFun e_envelopes_VotesPrepare a)

/-! ### trustquorum/trustquorumlaw24.EnvelopesImply -/
def sa_law24_EnvelopesImply : SA U :=
 (.seq
  (.reg
  (.op ⟨(some 2), none, .mov (.cst (.bool false))⟩
  .nil))
  (.seq
   (.reg
   (.op ⟨(some 13), none, .mov (.tmp 0)⟩
   (.op ⟨(some 14), none, .call 11 [(.tmp 13)]⟩
   (.op ⟨(some 3), none, .mov (.tmp 14)⟩
   .nil))))
   (.seq
    (.reg
    (.op ⟨(some 15), none, .mov (.tmp 3)⟩
    (.op ⟨(some 16), none, .mov (.tmp 3)⟩
    (.op ⟨(some 17), none, .call 13 [(.tmp 16), (.cst (.int .i64 5))]⟩
    (.op ⟨(some 18), none, .call 12 [(.tmp 15), (.tmp 17), (.cst (.int .i64 1)), (.cst (.int .i64 5))]⟩
    (.op ⟨(some 4), none, .alloc [.int .i64 0, .int .i64 0, .int .i64 0, .int .i64 0, .nils, .nils, .int .i64 0, .int .i64 0, .str ⟨#[]⟩, .int .i64 0, .str ⟨#[]⟩, .int .i64 0, .str ⟨#[]⟩, .int .i64 0, .int .i64 0]⟩
    (.op ⟨none, none, .store 15 (.tmp 4) (.tmp 18)⟩
    .nil)))))))
    (.seq
     (.seq
      (.reg
      (.op ⟨(some 19), none, .load (some 15) (.tmp 4)⟩
      (.op ⟨(some 20), none, .call 25 [(.tmp 19)]⟩
      (.op ⟨(some 21), none, .not (.tmp 20)⟩
      .nil))))
      (.cond (.tmp 21)
       (.seq
        (.reg
        (.op ⟨(some 2), none, .mov (.cst (.bool false))⟩
        .nil))
        .ret)
       .skip))
     (.seq
      (.reg
      (.op ⟨(some 22), none, .mov (.tmp 3)⟩
      (.op ⟨(some 23), none, .call 26 [(.tmp 22), (.cst (.int .i64 1)), (.cst (.int .i64 6))]⟩
      (.op ⟨(some 5), none, .mov (.tmp 23)⟩
      .nil))))
      (.seq
       (.reg
       (.op ⟨(some 24), none, .mov (.tmp 5)⟩
       (.op ⟨(some 25), none, .mov (.tmp 3)⟩
       (.op ⟨(some 26), none, .call 13 [(.tmp 25), (.cst (.int .i64 4))]⟩
       (.op ⟨(some 27), none, .bin .add (.tmp 24) (.tmp 26)⟩
       (.op ⟨(some 6), none, .mov (.tmp 27)⟩
       .nil))))))
       (.seq
        (.reg
        (.op ⟨(some 28), none, .mov (.tmp 3)⟩
        (.op ⟨(some 29), none, .mov (.tmp 5)⟩
        (.op ⟨(some 30), none, .mov (.tmp 6)⟩
        (.op ⟨(some 31), none, .call 26 [(.tmp 28), (.tmp 29), (.tmp 30)]⟩
        (.op ⟨(some 32), none, .mov (.tmp 6)⟩
        (.op ⟨(some 7), none, .mov (.tmp 31)⟩
        (.op ⟨(some 8), none, .mov (.tmp 32)⟩
        .nil))))))))
        (.seq
         (.reg
         (.op ⟨(some 33), none, .mov (.tmp 3)⟩
         (.op ⟨(some 34), none, .call 14 [(.tmp 33)]⟩
         (.op ⟨(some 35), none, .mov (.tmp 3)⟩
         (.op ⟨(some 36), none, .call 14 [(.tmp 35)]⟩
         (.op ⟨(some 9), none, .mov (.tmp 34)⟩
         (.op ⟨(some 10), none, .mov (.tmp 36)⟩
         .nil)))))))
         (.seq
          (.reg
          (.op ⟨(some 37), none, .mov (.tmp 3)⟩
          (.op ⟨(some 38), none, .call 18 [(.tmp 37)]⟩
          (.op ⟨(some 39), none, .mov (.tmp 3)⟩
          (.op ⟨(some 40), none, .call 18 [(.tmp 39)]⟩
          (.op ⟨(some 11), none, .alloc [.int .i64 0, .str ⟨#[]⟩]⟩
          (.op ⟨(some 12), none, .alloc [.int .i64 0, .str ⟨#[]⟩]⟩
          (.op ⟨none, none, .store 2 (.tmp 11) (.tmp 38)⟩
          (.op ⟨none, none, .store 2 (.tmp 12) (.tmp 40)⟩
          .nil)))))))))
          (.seq
           (.seq
            (.reg
            (.op ⟨(some 41), none, .load (some 15) (.tmp 4)⟩
            (.op ⟨(some 42), none, .mov (.tmp 9)⟩
            (.op ⟨(some 43), none, .mov (.tmp 5)⟩
            (.op ⟨(some 44), none, .mov (.tmp 6)⟩
            (.op ⟨(some 45), none, .call 27 [(.tmp 41), (.tmp 42), (.tmp 43), (.tmp 44)]⟩
            (.op ⟨(some 46), none, .mov (.tmp 45)⟩
            (.ite 46 true
             (.op ⟨(some 47), (some (46, true)), .load (some 15) (.tmp 4)⟩
             (.op ⟨(some 48), (some (46, true)), .mov (.tmp 9)⟩
             (.op ⟨(some 49), (some (46, true)), .mov (.tmp 5)⟩
             (.op ⟨(some 50), (some (46, true)), .mov (.tmp 6)⟩
             (.op ⟨(some 51), (some (46, true)), .call 15 [(.tmp 47), (.tmp 48), (.tmp 49), (.tmp 50)]⟩
             (.op ⟨(some 52), (some (46, true)), .not (.tmp 51)⟩
             .nil))))))
             53 none (.tmp 52) (.cst (.bool false))
            (.op ⟨(some 54), none, .mov (.tmp 53)⟩
            (.ite 54 false
             (.op ⟨(some 55), (some (54, false)), .load (some 15) (.tmp 4)⟩
             (.op ⟨(some 56), (some (54, false)), .mov (.tmp 9)⟩
             (.op ⟨(some 57), (some (54, false)), .mov (.tmp 5)⟩
             (.op ⟨(some 58), (some (54, false)), .mov (.tmp 6)⟩
             (.op ⟨(some 59), (some (54, false)), .call 15 [(.tmp 55), (.tmp 56), (.tmp 57), (.tmp 58)]⟩
             (.op ⟨(some 60), (some (54, false)), .mov (.tmp 59)⟩
             (.ite 60 true
              (.op ⟨(some 61), (some (60, true)), .load (some 15) (.tmp 4)⟩
              (.op ⟨(some 62), (some (60, true)), .mov (.tmp 9)⟩
              (.op ⟨(some 63), (some (60, true)), .mov (.tmp 7)⟩
              (.op ⟨(some 64), (some (60, true)), .mov (.tmp 8)⟩
              (.op ⟨(some 65), (some (60, true)), .call 15 [(.tmp 61), (.tmp 62), (.tmp 63), (.tmp 64)]⟩
              (.op ⟨(some 66), (some (60, true)), .not (.tmp 65)⟩
              .nil))))))
              67 (some (54, false)) (.tmp 66) (.cst (.bool false))
             .nil)))))))
             68 none (.cst (.bool true)) (.tmp 67)
            (.op ⟨(some 69), none, .mov (.tmp 68)⟩
            (.ite 69 false
             (.op ⟨(some 70), (some (69, false)), .load (some 15) (.tmp 4)⟩
             (.op ⟨(some 71), (some (69, false)), .mov (.tmp 9)⟩
             (.op ⟨(some 72), (some (69, false)), .mov (.tmp 5)⟩
             (.op ⟨(some 73), (some (69, false)), .mov (.tmp 6)⟩
             (.op ⟨(some 74), (some (69, false)), .call 27 [(.tmp 70), (.tmp 71), (.tmp 72), (.tmp 73)]⟩
             (.op ⟨(some 75), (some (69, false)), .mov (.tmp 74)⟩
             (.ite 75 true
              (.op ⟨(some 76), (some (75, true)), .load (some 15) (.tmp 4)⟩
              (.op ⟨(some 77), (some (75, true)), .mov (.tmp 9)⟩
              (.op ⟨(some 78), (some (75, true)), .mov (.tmp 7)⟩
              (.op ⟨(some 79), (some (75, true)), .mov (.tmp 8)⟩
              (.op ⟨(some 80), (some (75, true)), .call 27 [(.tmp 76), (.tmp 77), (.tmp 78), (.tmp 79)]⟩
              (.op ⟨(some 81), (some (75, true)), .not (.tmp 80)⟩
              .nil))))))
              82 (some (69, false)) (.tmp 81) (.cst (.bool false))
             .nil)))))))
             83 none (.cst (.bool true)) (.tmp 82)
            .nil))))))))))))
            (.cond (.tmp 83)
             (.seq
              (.reg
              (.op ⟨(some 2), none, .mov (.cst (.bool false))⟩
              .nil))
              .ret)
             .skip))
           (.seq
            (.seq
             (.reg
             (.op ⟨(some 84), none, .mov (.tmp 9)⟩
             (.op ⟨(some 85), none, .mov (.tmp 10)⟩
             (.op ⟨(some 86), none, .bin .neq (.tmp 84) (.tmp 85)⟩
             (.op ⟨(some 87), none, .mov (.tmp 86)⟩
             (.ite 87 true
              (.op ⟨(some 88), (some (87, true)), .load (some 15) (.tmp 4)⟩
              (.op ⟨(some 89), (some (87, true)), .mov (.tmp 9)⟩
              (.op ⟨(some 90), (some (87, true)), .mov (.tmp 5)⟩
              (.op ⟨(some 91), (some (87, true)), .mov (.tmp 6)⟩
              (.op ⟨(some 92), (some (87, true)), .call 15 [(.tmp 88), (.tmp 89), (.tmp 90), (.tmp 91)]⟩
              .nil)))))
              93 none (.tmp 92) (.cst (.bool false))
             (.op ⟨(some 94), none, .mov (.tmp 93)⟩
             (.ite 94 true
              (.op ⟨(some 95), (some (94, true)), .load (some 15) (.tmp 4)⟩
              (.op ⟨(some 96), (some (94, true)), .mov (.tmp 10)⟩
              (.op ⟨(some 97), (some (94, true)), .mov (.tmp 5)⟩
              (.op ⟨(some 98), (some (94, true)), .mov (.tmp 6)⟩
              (.op ⟨(some 99), (some (94, true)), .call 15 [(.tmp 95), (.tmp 96), (.tmp 97), (.tmp 98)]⟩
              .nil)))))
              100 none (.tmp 99) (.cst (.bool false))
             .nil))))))))
             (.cond (.tmp 100)
              (.seq
               (.reg
               (.op ⟨(some 2), none, .mov (.cst (.bool false))⟩
               .nil))
               .ret)
              .skip))
            (.seq
             (.reg
             (.op ⟨(some 101), none, .load (some 15) (.tmp 4)⟩
             (.op ⟨(some 102), none, .load (some 2) (.tmp 11)⟩
             (.op ⟨(some 103), none, .call 28 [(.tmp 101), (.tmp 102)]⟩
             (.op ⟨(some 104), none, .not (.tmp 103)⟩
             (.op ⟨(some 105), none, .mov (.tmp 104)⟩
             (.ite 105 false
              (.op ⟨(some 106), (some (105, false)), .load (some 2) (.tmp 11)⟩
              (.op ⟨(some 107), (some (105, false)), .load (some 2) (.tmp 12)⟩
              (.op ⟨(some 108), (some (105, false)), .call 29 [(.tmp 106), (.tmp 107)]⟩
              (.op ⟨(some 109), (some (105, false)), .not (.tmp 108)⟩
              .nil))))
              110 none (.cst (.bool true)) (.tmp 109)
             (.op ⟨(some 111), none, .mov (.tmp 110)⟩
             (.ite 111 false
              (.op ⟨(some 112), (some (111, false)), .load (some 15) (.tmp 4)⟩
              (.op ⟨(some 113), (some (111, false)), .load (some 2) (.tmp 12)⟩
              (.op ⟨(some 114), (some (111, false)), .call 28 [(.tmp 112), (.tmp 113)]⟩
              .nil)))
              115 none (.cst (.bool true)) (.tmp 114)
             (.op ⟨(some 116), none, .mov (.tmp 115)⟩
             (.ite 116 true
              (.op ⟨(some 117), (some (116, true)), .load (some 15) (.tmp 4)⟩
              (.op ⟨(some 118), (some (116, true)), .load (some 2) (.tmp 11)⟩
              (.op ⟨(some 119), (some (116, true)), .call 30 [(.tmp 117), (.tmp 118)]⟩
              (.op ⟨(some 120), (some (116, true)), .not (.tmp 119)⟩
              (.op ⟨(some 121), (some (116, true)), .mov (.tmp 120)⟩
              (.ite 121 false
               (.op ⟨(some 122), (some (121, false)), .load (some 2) (.tmp 11)⟩
               (.op ⟨(some 123), (some (121, false)), .load (some 2) (.tmp 12)⟩
               (.op ⟨(some 124), (some (121, false)), .call 29 [(.tmp 122), (.tmp 123)]⟩
               (.op ⟨(some 125), (some (121, false)), .not (.tmp 124)⟩
               .nil))))
               126 (some (116, true)) (.cst (.bool true)) (.tmp 125)
              (.op ⟨(some 127), (some (116, true)), .mov (.tmp 126)⟩
              (.ite 127 false
               (.op ⟨(some 128), (some (127, false)), .load (some 15) (.tmp 4)⟩
               (.op ⟨(some 129), (some (127, false)), .load (some 2) (.tmp 12)⟩
               (.op ⟨(some 130), (some (127, false)), .call 30 [(.tmp 128), (.tmp 129)]⟩
               .nil)))
               131 (some (116, true)) (.cst (.bool true)) (.tmp 130)
              .nil))))))))
              132 none (.tmp 131) (.cst (.bool false))
             (.op ⟨(some 133), none, .mov (.tmp 132)⟩
             (.ite 133 true
              (.op ⟨(some 134), (some (133, true)), .call 16 []⟩
              .nil)
              135 none (.tmp 134) (.cst (.bool false))
             (.op ⟨(some 2), none, .mov (.tmp 135)⟩
             .nil))))))))))))))
             .ret))))))))))))
theorem ok_law24_EnvelopesImply : FnOk Try.prog 5 136 (SA.erase sa_law24_EnvelopesImply) [.tmp 2] := ⟨Try.f5, [], Try.func5, rfl, by kernel_rfl, by kernel_rfl, by kernel_rfl⟩
noncomputable def F_law24_EnvelopesImply (a0 : (List Int)) : Option Bool :=
Option.bind (F_play_New a0) fun r1 =>
Option.bind (F_play_Src_N r1 (5 : Int)) fun p2 =>
Option.bind (F_play_Src_Envelope p2.2 p2.1 (1 : Int) (5 : Int)) fun p3 =>
Option.bind (F_envelopes_Valid (TEnvelope.mk p3.1.Node p3.1.Slot p3.1.Seq (TTrust.mk p3.1.Trust.Threshold p3.1.Trust.Nodes p3.1.Trust.Inner) p3.1.Kind p3.1.Ballot p3.1.Prepared p3.1.Prime p3.1.Low p3.1.High)) fun r4 =>
bif (!r4) then
some false
else
Option.bind (F_play_Src_Range p3.2 (1 : Int) (6 : Int)) fun p5 =>
Option.bind (F_play_Src_N p5.2 (4 : Int)) fun p6 =>
Option.bind (F_play_Src_Range p6.2 p5.1 (addI .i64 p5.1 p6.1)) fun p7 =>
Option.bind (F_play_Src_Value p7.2) fun p8 =>
Option.bind (F_play_Src_Value p8.2) fun p9 =>
Option.bind (F_play_Src_Low p9.2) fun p10 =>
Option.bind (F_play_Src_Low p10.2) fun p11 =>
Option.bind (F_envelopes_AcceptsCommit (TEnvelope.mk p3.1.Node p3.1.Slot p3.1.Seq (TTrust.mk p3.1.Trust.Threshold p3.1.Trust.Nodes p3.1.Trust.Inner) p3.1.Kind p3.1.Ballot p3.1.Prepared p3.1.Prime p3.1.Low p3.1.High) p8.1 p5.1 (addI .i64 p5.1 p6.1)) fun r12 =>
Option.bind (bif r12 then
Option.bind (F_envelopes_VotesCommit (TEnvelope.mk p3.1.Node p3.1.Slot p3.1.Seq (TTrust.mk p3.1.Trust.Threshold p3.1.Trust.Nodes p3.1.Trust.Inner) p3.1.Kind p3.1.Ballot p3.1.Prepared p3.1.Prime p3.1.Low p3.1.High) p8.1 p5.1 (addI .i64 p5.1 p6.1)) fun r13 =>
some (!r13)
else some false) fun b14 =>
Option.bind (bif b14 then some true
else
Option.bind (F_envelopes_VotesCommit (TEnvelope.mk p3.1.Node p3.1.Slot p3.1.Seq (TTrust.mk p3.1.Trust.Threshold p3.1.Trust.Nodes p3.1.Trust.Inner) p3.1.Kind p3.1.Ballot p3.1.Prepared p3.1.Prime p3.1.Low p3.1.High) p8.1 p5.1 (addI .i64 p5.1 p6.1)) fun r15 =>
Option.bind (bif r15 then
Option.bind (F_envelopes_VotesCommit (TEnvelope.mk p3.1.Node p3.1.Slot p3.1.Seq (TTrust.mk p3.1.Trust.Threshold p3.1.Trust.Nodes p3.1.Trust.Inner) p3.1.Kind p3.1.Ballot p3.1.Prepared p3.1.Prime p3.1.Low p3.1.High) p8.1 p7.1 (addI .i64 p5.1 p6.1)) fun r16 =>
some (!r16)
else some false) fun b17 =>
some b17) fun b18 =>
Option.bind (bif b18 then some true
else
Option.bind (F_envelopes_AcceptsCommit (TEnvelope.mk p3.1.Node p3.1.Slot p3.1.Seq (TTrust.mk p3.1.Trust.Threshold p3.1.Trust.Nodes p3.1.Trust.Inner) p3.1.Kind p3.1.Ballot p3.1.Prepared p3.1.Prime p3.1.Low p3.1.High) p8.1 p5.1 (addI .i64 p5.1 p6.1)) fun r19 =>
Option.bind (bif r19 then
Option.bind (F_envelopes_AcceptsCommit (TEnvelope.mk p3.1.Node p3.1.Slot p3.1.Seq (TTrust.mk p3.1.Trust.Threshold p3.1.Trust.Nodes p3.1.Trust.Inner) p3.1.Kind p3.1.Ballot p3.1.Prepared p3.1.Prime p3.1.Low p3.1.High) p8.1 p7.1 (addI .i64 p5.1 p6.1)) fun r20 =>
some (!r20)
else some false) fun b21 =>
some b21) fun b22 =>
bif b22 then
some false
else
Option.bind (bif (!decide (p8.1 = p9.1)) then
Option.bind (F_envelopes_VotesCommit (TEnvelope.mk p3.1.Node p3.1.Slot p3.1.Seq (TTrust.mk p3.1.Trust.Threshold p3.1.Trust.Nodes p3.1.Trust.Inner) p3.1.Kind p3.1.Ballot p3.1.Prepared p3.1.Prime p3.1.Low p3.1.High) p8.1 p5.1 (addI .i64 p5.1 p6.1)) fun r23 =>
some r23
else some false) fun b24 =>
Option.bind (bif b24 then
Option.bind (F_envelopes_VotesCommit (TEnvelope.mk p3.1.Node p3.1.Slot p3.1.Seq (TTrust.mk p3.1.Trust.Threshold p3.1.Trust.Nodes p3.1.Trust.Inner) p3.1.Kind p3.1.Ballot p3.1.Prepared p3.1.Prime p3.1.Low p3.1.High) p9.1 p5.1 (addI .i64 p5.1 p6.1)) fun r25 =>
some r25
else some false) fun b26 =>
bif b26 then
some false
else
Option.bind (F_envelopes_AcceptsPrepare (TEnvelope.mk p3.1.Node p3.1.Slot p3.1.Seq (TTrust.mk p3.1.Trust.Threshold p3.1.Trust.Nodes p3.1.Trust.Inner) p3.1.Kind p3.1.Ballot p3.1.Prepared p3.1.Prime p3.1.Low p3.1.High) p10.1) fun r27 =>
Option.bind (bif (!r27) then some true
else
Option.bind (F_ref23_Covers p10.1 p11.1) fun r28 =>
some (!r28)) fun b29 =>
Option.bind (bif b29 then some true
else
Option.bind (F_envelopes_AcceptsPrepare (TEnvelope.mk p3.1.Node p3.1.Slot p3.1.Seq (TTrust.mk p3.1.Trust.Threshold p3.1.Trust.Nodes p3.1.Trust.Inner) p3.1.Kind p3.1.Ballot p3.1.Prepared p3.1.Prime p3.1.Low p3.1.High) p11.1) fun r30 =>
some r30) fun b31 =>
Option.bind (bif b31 then
Option.bind (F_envelopes_VotesPrepare (TEnvelope.mk p3.1.Node p3.1.Slot p3.1.Seq (TTrust.mk p3.1.Trust.Threshold p3.1.Trust.Nodes p3.1.Trust.Inner) p3.1.Kind p3.1.Ballot p3.1.Prepared p3.1.Prime p3.1.Low p3.1.High) p10.1) fun r32 =>
Option.bind (bif (!r32) then some true
else
Option.bind (F_ref23_Covers p10.1 p11.1) fun r33 =>
some (!r33)) fun b34 =>
Option.bind (bif b34 then some true
else
Option.bind (F_envelopes_VotesPrepare (TEnvelope.mk p3.1.Node p3.1.Slot p3.1.Seq (TTrust.mk p3.1.Trust.Threshold p3.1.Trust.Nodes p3.1.Trust.Inner) p3.1.Kind p3.1.Ballot p3.1.Prepared p3.1.Prime p3.1.Low p3.1.High) p11.1) fun r35 =>
some r35) fun b36 =>
some b36
else some false) fun b37 =>
Option.bind (bif b37 then
Option.bind (F_law24_sane) fun r38 =>
some r38
else some false) fun b39 =>
some b39
theorem e_law24_EnvelopesImply : fnK K [.nw 11 [.ty (Ty.sl (Ty.i .i64))] (Ty.st .Src) fun a => F_play_New a.1, .rc 13 (Ty.st .Src) [.ty (Ty.i .i64)] (.one (Ty.i .i64)) fun s a => F_play_Src_N s a.1, .rc 12 (Ty.st .Src) [.ty (Ty.i .i64), .ty (Ty.i .i64), .ty (Ty.i .i64)] (.one (Ty.st .Envelope)) fun s a => F_play_Src_Envelope s a.1 a.2.1 a.2.2.1, .fn 25 [.ty (Ty.st .Envelope)] (.one Ty.bool) fun a => F_envelopes_Valid a.1, .rc 26 (Ty.st .Src) [.ty (Ty.i .i64), .ty (Ty.i .i64)] (.one (Ty.i .i64)) fun s a => F_play_Src_Range s a.1 a.2.1, .rc 14 (Ty.st .Src) [] (.one Ty.str) fun s a => F_play_Src_Value s , .rc 18 (Ty.st .Src) [] (.one (Ty.st .Ballot)) fun s a => F_play_Src_Low s , .fn 27 [.ty (Ty.st .Envelope), .ty Ty.str, .ty (Ty.i .i64), .ty (Ty.i .i64)] (.one Ty.bool) fun a => F_envelopes_AcceptsCommit a.1 a.2.1 a.2.2.1 a.2.2.2.1, .fn 15 [.ty (Ty.st .Envelope), .ty Ty.str, .ty (Ty.i .i64), .ty (Ty.i .i64)] (.one Ty.bool) fun a => F_envelopes_VotesCommit a.1 a.2.1 a.2.2.1 a.2.2.2.1, .fn 28 [.ty (Ty.st .Envelope), .ty (Ty.st .Ballot)] (.one Ty.bool) fun a => F_envelopes_AcceptsPrepare a.1 a.2.1, .fn 29 [.ty (Ty.st .Ballot), .ty (Ty.st .Ballot)] (.one Ty.bool) fun a => F_ref23_Covers a.1 a.2.1, .fn 30 [.ty (Ty.st .Envelope), .ty (Ty.st .Ballot)] (.one Ty.bool) fun a => F_envelopes_VotesPrepare a.1 a.2.1, .fn 16 [] (.one Ty.bool) fun a => F_law24_sane ] sa_law24_EnvelopesImply [.tmp 2] [.ty (Ty.sl (Ty.i .i64))] (.one Ty.bool) = fun a => F_law24_EnvelopesImply a.1 := by kernel_rfl
theorem s_law24_EnvelopesImply : KFun.Sound (U := U) Try.prog (.fn 5 [.ty (Ty.sl (Ty.i .i64))] (.one Ty.bool) fun a => F_law24_EnvelopesImply a.1) := fnK_sound (K := K) (Γ := [.nw 11 [.ty (Ty.sl (Ty.i .i64))] (Ty.st .Src) fun a => F_play_New a.1, .rc 13 (Ty.st .Src) [.ty (Ty.i .i64)] (.one (Ty.i .i64)) fun s a => F_play_Src_N s a.1, .rc 12 (Ty.st .Src) [.ty (Ty.i .i64), .ty (Ty.i .i64), .ty (Ty.i .i64)] (.one (Ty.st .Envelope)) fun s a => F_play_Src_Envelope s a.1 a.2.1 a.2.2.1, .fn 25 [.ty (Ty.st .Envelope)] (.one Ty.bool) fun a => F_envelopes_Valid a.1, .rc 26 (Ty.st .Src) [.ty (Ty.i .i64), .ty (Ty.i .i64)] (.one (Ty.i .i64)) fun s a => F_play_Src_Range s a.1 a.2.1, .rc 14 (Ty.st .Src) [] (.one Ty.str) fun s a => F_play_Src_Value s , .rc 18 (Ty.st .Src) [] (.one (Ty.st .Ballot)) fun s a => F_play_Src_Low s , .fn 27 [.ty (Ty.st .Envelope), .ty Ty.str, .ty (Ty.i .i64), .ty (Ty.i .i64)] (.one Ty.bool) fun a => F_envelopes_AcceptsCommit a.1 a.2.1 a.2.2.1 a.2.2.2.1, .fn 15 [.ty (Ty.st .Envelope), .ty Ty.str, .ty (Ty.i .i64), .ty (Ty.i .i64)] (.one Ty.bool) fun a => F_envelopes_VotesCommit a.1 a.2.1 a.2.2.1 a.2.2.2.1, .fn 28 [.ty (Ty.st .Envelope), .ty (Ty.st .Ballot)] (.one Ty.bool) fun a => F_envelopes_AcceptsPrepare a.1 a.2.1, .fn 29 [.ty (Ty.st .Ballot), .ty (Ty.st .Ballot)] (.one Ty.bool) fun a => F_ref23_Covers a.1 a.2.1, .fn 30 [.ty (Ty.st .Envelope), .ty (Ty.st .Ballot)] (.one Ty.bool) fun a => F_envelopes_VotesPrepare a.1 a.2.1, .fn 16 [] (.one Ty.bool) fun a => F_law24_sane ]) ok_law24_EnvelopesImply (by kernel_rfl) (by decide) ⟨s_play_New, s_play_Src_N, s_play_Src_Envelope, s_envelopes_Valid, s_play_Src_Range, s_play_Src_Value, s_play_Src_Low, s_envelopes_AcceptsCommit, s_envelopes_VotesCommit, s_envelopes_AcceptsPrepare, s_ref23_Covers, s_envelopes_VotesPrepare, s_law24_sane, trivial⟩ (fun a => congrFun e_law24_EnvelopesImply a)

/-! ### trustquorum/trustquorumlaw24.EnvelopesForever -/
def sa_law24_EnvelopesForever : SA U :=
 (.seq
  (.reg
  (.op ⟨(some 6), none, .mov (.cst (.bool false))⟩
  .nil))
  (.seq
   (.reg
   (.op ⟨(some 14), none, .mov (.tmp 0)⟩
   (.op ⟨(some 15), none, .call 11 [(.tmp 14)]⟩
   (.op ⟨(some 7), none, .mov (.tmp 15)⟩
   .nil))))
   (.seq
    (.reg
    (.op ⟨(some 16), none, .mov (.tmp 7)⟩
    (.op ⟨(some 17), none, .call 14 [(.tmp 16)]⟩
    (.op ⟨(some 8), none, .mov (.tmp 17)⟩
    .nil))))
    (.seq
     (.reg
     (.op ⟨(some 18), none, .mov (.tmp 7)⟩
     (.op ⟨(some 19), none, .call 26 [(.tmp 18), (.cst (.int .i64 1)), (.cst (.int .i64 5))]⟩
     (.op ⟨(some 9), none, .mov (.tmp 19)⟩
     .nil))))
     (.seq
      (.reg
      (.op ⟨(some 20), none, .mov (.tmp 7)⟩
      (.op ⟨(some 21), none, .call 13 [(.tmp 20), (.cst (.int .i64 5))]⟩
      (.op ⟨(some 22), none, .mov (.tmp 7)⟩
      (.op ⟨(some 23), none, .call 31 [(.tmp 22), (.cst (.int .i64 5))]⟩
      (.op ⟨(some 24), none, .mov (.tmp 9)⟩
      (.op ⟨(some 25), none, .mov (.tmp 8)⟩
      (.op ⟨(some 26), none, .build [.int .i64 0, .str ⟨#[]⟩] [(0, 1, (.tmp 24)), (1, 1, (.tmp 25))]⟩
      (.op ⟨(some 27), none, .mov (.tmp 9)⟩
      (.op ⟨(some 28), none, .mov (.tmp 9)⟩
      (.op ⟨(some 29), none, .mov (.tmp 7)⟩
      (.op ⟨(some 30), none, .call 13 [(.tmp 29), (.cst (.int .i64 3))]⟩
      (.op ⟨(some 31), none, .bin .add (.tmp 28) (.tmp 30)⟩
      (.op ⟨(some 32), none, .build [.int .i64 0, .int .i64 0, .int .i64 0, .int .i64 0, .nils, .nils, .int .i64 0, .int .i64 0, .str ⟨#[]⟩, .int .i64 0, .str ⟨#[]⟩, .int .i64 0, .str ⟨#[]⟩, .int .i64 0, .int .i64 0] [(0, 1, (.tmp 21)), (1, 1, (.cst (.int .i64 1))), (2, 1, (.cst (.int .i64 1))), (3, 3, (.tmp 23)), (6, 1, (.cst (.int .i64 3))), (7, 2, (.tmp 26)), (13, 1, (.tmp 27)), (14, 1, (.tmp 31))]⟩
      (.op ⟨(some 10), none, .alloc [.int .i64 0, .int .i64 0, .int .i64 0, .int .i64 0, .nils, .nils, .int .i64 0, .int .i64 0, .str ⟨#[]⟩, .int .i64 0, .str ⟨#[]⟩, .int .i64 0, .str ⟨#[]⟩, .int .i64 0, .int .i64 0]⟩
      (.op ⟨none, none, .store 15 (.tmp 10) (.tmp 32)⟩
      .nil))))))))))))))))
      (.seq
       (.reg
       (.op ⟨(some 33), none, .mov (.tmp 9)⟩
       (.op ⟨(some 34), none, .mov (.tmp 1)⟩
       (.op ⟨(some 35), none, .conv .i64 (.tmp 34)⟩
       (.op ⟨(some 36), none, .bin .add (.tmp 33) (.tmp 35)⟩
       (.op ⟨(some 11), none, .mov (.tmp 36)⟩
       .nil))))))
       (.seq
        (.reg
        (.op ⟨(some 37), none, .mov (.tmp 11)⟩
        (.op ⟨(some 38), none, .mov (.tmp 2)⟩
        (.op ⟨(some 39), none, .conv .i64 (.tmp 38)⟩
        (.op ⟨(some 40), none, .bin .add (.tmp 37) (.tmp 39)⟩
        (.op ⟨(some 12), none, .mov (.tmp 40)⟩
        .nil))))))
        (.seq
         (.reg
         (.op ⟨(some 41), none, .mov (.tmp 7)⟩
         (.op ⟨(some 42), none, .call 14 [(.tmp 41)]⟩
         (.op ⟨(some 13), none, .mov (.tmp 42)⟩
         .nil))))
         (.seq
          (.reg
          (.op ⟨(some 43), none, .load (some 15) (.tmp 10)⟩
          (.op ⟨(some 44), none, .call 25 [(.tmp 43)]⟩
          (.op ⟨(some 45), none, .mov (.tmp 44)⟩
          (.ite 45 true
           (.op ⟨(some 46), (some (45, true)), .load (some 15) (.tmp 10)⟩
           (.op ⟨(some 47), (some (45, true)), .mov (.tmp 8)⟩
           (.op ⟨(some 48), (some (45, true)), .mov (.tmp 11)⟩
           (.op ⟨(some 49), (some (45, true)), .mov (.tmp 12)⟩
           (.op ⟨(some 50), (some (45, true)), .call 27 [(.tmp 46), (.tmp 47), (.tmp 48), (.tmp 49)]⟩
           .nil)))))
           51 none (.tmp 50) (.cst (.bool false))
          (.op ⟨(some 52), none, .mov (.tmp 51)⟩
          (.ite 52 true
           (.op ⟨(some 53), (some (52, true)), .load (some 15) (.tmp 10)⟩
           (.op ⟨(some 54), (some (52, true)), .mov (.tmp 12)⟩
           (.op ⟨(some 55), (some (52, true)), .mov (.tmp 8)⟩
           (.op ⟨(some 56), (some (52, true)), .build [.int .i64 0, .str ⟨#[]⟩] [(0, 1, (.tmp 54)), (1, 1, (.tmp 55))]⟩
           (.op ⟨(some 57), (some (52, true)), .call 28 [(.tmp 53), (.tmp 56)]⟩
           .nil)))))
           58 none (.tmp 57) (.cst (.bool false))
          (.op ⟨(some 59), none, .mov (.tmp 58)⟩
          (.ite 59 true
           (.op ⟨(some 60), (some (59, true)), .mov (.tmp 13)⟩
           (.op ⟨(some 61), (some (59, true)), .mov (.tmp 8)⟩
           (.op ⟨(some 62), (some (59, true)), .bin .eql (.tmp 60) (.tmp 61)⟩
           (.op ⟨(some 63), (some (59, true)), .mov (.tmp 62)⟩
           (.ite 63 false
            (.op ⟨(some 64), (some (63, false)), .load (some 15) (.tmp 10)⟩
            (.op ⟨(some 65), (some (63, false)), .mov (.tmp 13)⟩
            (.op ⟨(some 66), (some (63, false)), .mov (.tmp 11)⟩
            (.op ⟨(some 67), (some (63, false)), .mov (.tmp 12)⟩
            (.op ⟨(some 68), (some (63, false)), .call 15 [(.tmp 64), (.tmp 65), (.tmp 66), (.tmp 67)]⟩
            (.op ⟨(some 69), (some (63, false)), .not (.tmp 68)⟩
            (.op ⟨(some 70), (some (63, false)), .mov (.tmp 69)⟩
            (.ite 70 true
             (.op ⟨(some 71), (some (70, true)), .load (some 15) (.tmp 10)⟩
             (.op ⟨(some 72), (some (70, true)), .mov (.tmp 11)⟩
             (.op ⟨(some 73), (some (70, true)), .mov (.tmp 13)⟩
             (.op ⟨(some 74), (some (70, true)), .build [.int .i64 0, .str ⟨#[]⟩] [(0, 1, (.tmp 72)), (1, 1, (.tmp 73))]⟩
             (.op ⟨(some 75), (some (70, true)), .call 30 [(.tmp 71), (.tmp 74)]⟩
             (.op ⟨(some 76), (some (70, true)), .not (.tmp 75)⟩
             .nil))))))
             77 (some (63, false)) (.tmp 76) (.cst (.bool false))
            .nil))))))))
            78 (some (59, true)) (.cst (.bool true)) (.tmp 77)
           .nil)))))
           79 none (.tmp 78) (.cst (.bool false))
          (.op ⟨(some 80), none, .mov (.tmp 79)⟩
          (.ite 80 true
           (.op ⟨(some 81), (some (80, true)), .mov (.tmp 9)⟩
           (.op ⟨(some 82), (some (80, true)), .bin .eql (.tmp 81) (.cst (.int .i64 1))⟩
           (.op ⟨(some 83), (some (80, true)), .mov (.tmp 82)⟩
           (.ite 83 false
            (.op ⟨(some 84), (some (83, false)), .load (some 15) (.tmp 10)⟩
            (.op ⟨(some 85), (some (83, false)), .mov (.tmp 8)⟩
            (.op ⟨(some 86), (some (83, false)), .mov (.tmp 9)⟩
            (.op ⟨(some 87), (some (83, false)), .bin .sub (.tmp 86) (.cst (.int .i64 1))⟩
            (.op ⟨(some 88), (some (83, false)), .mov (.tmp 12)⟩
            (.op ⟨(some 89), (some (83, false)), .call 27 [(.tmp 84), (.tmp 85), (.tmp 87), (.tmp 88)]⟩
            (.op ⟨(some 90), (some (83, false)), .not (.tmp 89)⟩
            .nil)))))))
            91 (some (80, true)) (.cst (.bool true)) (.tmp 90)
           .nil))))
           92 none (.tmp 91) (.cst (.bool false))
          (.op ⟨(some 93), none, .mov (.tmp 92)⟩
          (.ite 93 true
           (.op ⟨(some 94), (some (93, true)), .load (some 15) (.tmp 10)⟩
           (.op ⟨(some 95), (some (93, true)), .call 32 [(.tmp 94)]⟩
           (.op ⟨(some 96), (some (93, true)), .bin .eql (.tmp 95) (.cst (.int .i64 1000000))⟩
           .nil)))
           97 none (.tmp 96) (.cst (.bool false))
          (.op ⟨(some 98), none, .mov (.tmp 97)⟩
          (.ite 98 true
           (.op ⟨(some 99), (some (98, true)), .call 16 []⟩
           .nil)
           100 none (.tmp 99) (.cst (.bool false))
          (.op ⟨(some 6), none, .mov (.tmp 100)⟩
          .nil))))))))))))))))
          .ret)))))))))
theorem ok_law24_EnvelopesForever : FnOk Try.prog 6 101 (SA.erase sa_law24_EnvelopesForever) [.tmp 6] := ⟨Try.f6, [], Try.func6, rfl, by kernel_rfl, by kernel_rfl, by kernel_rfl⟩
noncomputable def F_law24_EnvelopesForever (a0 : (List Int)) (a1 : Int) (a2 : Int) : Option Bool :=
Option.bind (F_play_New a0) fun r1 =>
Option.bind (F_play_Src_Value r1) fun p2 =>
Option.bind (F_play_Src_Range p2.2 (1 : Int) (5 : Int)) fun p3 =>
Option.bind (F_play_Src_N p3.2 (5 : Int)) fun p4 =>
Option.bind (F_play_Src_Trust p4.2 (5 : Int)) fun p5 =>
Option.bind (F_play_Src_N p5.2 (3 : Int)) fun p6 =>
Option.bind (F_play_Src_Value p6.2) fun p7 =>
Option.bind (F_envelopes_Valid (TEnvelope.mk p4.1 (1 : Int) (1 : Int) (TTrust.mk p5.1.Threshold p5.1.Nodes p5.1.Inner) (3 : Int) (TBallot.mk p3.1 p2.1) (TBallot.mk (0 : Int) (ByteArray.mk #[])) (TBallot.mk (0 : Int) (ByteArray.mk #[])) p3.1 (addI .i64 p3.1 p6.1))) fun r8 =>
Option.bind (bif r8 then
Option.bind (F_envelopes_AcceptsCommit (TEnvelope.mk p4.1 (1 : Int) (1 : Int) (TTrust.mk p5.1.Threshold p5.1.Nodes p5.1.Inner) (3 : Int) (TBallot.mk p3.1 p2.1) (TBallot.mk (0 : Int) (ByteArray.mk #[])) (TBallot.mk (0 : Int) (ByteArray.mk #[])) p3.1 (addI .i64 p3.1 p6.1)) p2.1 (addI .i64 p3.1 (convI .i64 a1)) (addI .i64 (addI .i64 p3.1 (convI .i64 a1)) (convI .i64 a2))) fun r9 =>
some r9
else some false) fun b10 =>
Option.bind (bif b10 then
Option.bind (F_envelopes_AcceptsPrepare (TEnvelope.mk p4.1 (1 : Int) (1 : Int) (TTrust.mk p5.1.Threshold p5.1.Nodes p5.1.Inner) (3 : Int) (TBallot.mk p3.1 p2.1) (TBallot.mk (0 : Int) (ByteArray.mk #[])) (TBallot.mk (0 : Int) (ByteArray.mk #[])) p3.1 (addI .i64 p3.1 p6.1)) (TBallot.mk (addI .i64 (addI .i64 p3.1 (convI .i64 a1)) (convI .i64 a2)) p2.1)) fun r11 =>
some r11
else some false) fun b12 =>
Option.bind (bif b12 then
Option.bind (bif (decide (p7.1 = p2.1)) then some true
else
Option.bind (F_envelopes_VotesCommit (TEnvelope.mk p4.1 (1 : Int) (1 : Int) (TTrust.mk p5.1.Threshold p5.1.Nodes p5.1.Inner) (3 : Int) (TBallot.mk p3.1 p2.1) (TBallot.mk (0 : Int) (ByteArray.mk #[])) (TBallot.mk (0 : Int) (ByteArray.mk #[])) p3.1 (addI .i64 p3.1 p6.1)) p7.1 (addI .i64 p3.1 (convI .i64 a1)) (addI .i64 (addI .i64 p3.1 (convI .i64 a1)) (convI .i64 a2))) fun r13 =>
Option.bind (bif (!r13) then
Option.bind (F_envelopes_VotesPrepare (TEnvelope.mk p4.1 (1 : Int) (1 : Int) (TTrust.mk p5.1.Threshold p5.1.Nodes p5.1.Inner) (3 : Int) (TBallot.mk p3.1 p2.1) (TBallot.mk (0 : Int) (ByteArray.mk #[])) (TBallot.mk (0 : Int) (ByteArray.mk #[])) p3.1 (addI .i64 p3.1 p6.1)) (TBallot.mk (addI .i64 p3.1 (convI .i64 a1)) p7.1)) fun r14 =>
some (!r14)
else some false) fun b15 =>
some b15) fun b16 =>
some b16
else some false) fun b17 =>
Option.bind (bif b17 then
Option.bind (bif (decide (p3.1 = (1 : Int))) then some true
else
Option.bind (F_envelopes_AcceptsCommit (TEnvelope.mk p4.1 (1 : Int) (1 : Int) (TTrust.mk p5.1.Threshold p5.1.Nodes p5.1.Inner) (3 : Int) (TBallot.mk p3.1 p2.1) (TBallot.mk (0 : Int) (ByteArray.mk #[])) (TBallot.mk (0 : Int) (ByteArray.mk #[])) p3.1 (addI .i64 p3.1 p6.1)) p2.1 (subI .i64 p3.1 (1 : Int)) (addI .i64 (addI .i64 p3.1 (convI .i64 a1)) (convI .i64 a2))) fun r18 =>
some (!r18)) fun b19 =>
some b19
else some false) fun b20 =>
Option.bind (bif b20 then
Option.bind (F_envelopes_Counter (TEnvelope.mk p4.1 (1 : Int) (1 : Int) (TTrust.mk p5.1.Threshold p5.1.Nodes p5.1.Inner) (3 : Int) (TBallot.mk p3.1 p2.1) (TBallot.mk (0 : Int) (ByteArray.mk #[])) (TBallot.mk (0 : Int) (ByteArray.mk #[])) p3.1 (addI .i64 p3.1 p6.1))) fun r21 =>
some (decide (r21 = (1000000 : Int)))
else some false) fun b22 =>
Option.bind (bif b22 then
Option.bind (F_law24_sane) fun r23 =>
some r23
else some false) fun b24 =>
some b24
theorem e_law24_EnvelopesForever : fnK K [.nw 11 [.ty (Ty.sl (Ty.i .i64))] (Ty.st .Src) fun a => F_play_New a.1, .rc 14 (Ty.st .Src) [] (.one Ty.str) fun s a => F_play_Src_Value s , .rc 26 (Ty.st .Src) [.ty (Ty.i .i64), .ty (Ty.i .i64)] (.one (Ty.i .i64)) fun s a => F_play_Src_Range s a.1 a.2.1, .rc 13 (Ty.st .Src) [.ty (Ty.i .i64)] (.one (Ty.i .i64)) fun s a => F_play_Src_N s a.1, .rc 31 (Ty.st .Src) [.ty (Ty.i .i64)] (.one (Ty.st .Trust)) fun s a => F_play_Src_Trust s a.1, .fn 25 [.ty (Ty.st .Envelope)] (.one Ty.bool) fun a => F_envelopes_Valid a.1, .fn 27 [.ty (Ty.st .Envelope), .ty Ty.str, .ty (Ty.i .i64), .ty (Ty.i .i64)] (.one Ty.bool) fun a => F_envelopes_AcceptsCommit a.1 a.2.1 a.2.2.1 a.2.2.2.1, .fn 28 [.ty (Ty.st .Envelope), .ty (Ty.st .Ballot)] (.one Ty.bool) fun a => F_envelopes_AcceptsPrepare a.1 a.2.1, .fn 15 [.ty (Ty.st .Envelope), .ty Ty.str, .ty (Ty.i .i64), .ty (Ty.i .i64)] (.one Ty.bool) fun a => F_envelopes_VotesCommit a.1 a.2.1 a.2.2.1 a.2.2.2.1, .fn 30 [.ty (Ty.st .Envelope), .ty (Ty.st .Ballot)] (.one Ty.bool) fun a => F_envelopes_VotesPrepare a.1 a.2.1, .fn 32 [.ty (Ty.st .Envelope)] (.one (Ty.i .i64)) fun a => F_envelopes_Counter a.1, .fn 16 [] (.one Ty.bool) fun a => F_law24_sane ] sa_law24_EnvelopesForever [.tmp 6] [.ty (Ty.sl (Ty.i .i64)), .ty (Ty.i .u8), .ty (Ty.i .u8)] (.one Ty.bool) = fun a => F_law24_EnvelopesForever a.1 a.2.1 a.2.2.1 := by kernel_rfl
theorem s_law24_EnvelopesForever : KFun.Sound (U := U) Try.prog (.fn 6 [.ty (Ty.sl (Ty.i .i64)), .ty (Ty.i .u8), .ty (Ty.i .u8)] (.one Ty.bool) fun a => F_law24_EnvelopesForever a.1 a.2.1 a.2.2.1) := fnK_sound (K := K) (Γ := [.nw 11 [.ty (Ty.sl (Ty.i .i64))] (Ty.st .Src) fun a => F_play_New a.1, .rc 14 (Ty.st .Src) [] (.one Ty.str) fun s a => F_play_Src_Value s , .rc 26 (Ty.st .Src) [.ty (Ty.i .i64), .ty (Ty.i .i64)] (.one (Ty.i .i64)) fun s a => F_play_Src_Range s a.1 a.2.1, .rc 13 (Ty.st .Src) [.ty (Ty.i .i64)] (.one (Ty.i .i64)) fun s a => F_play_Src_N s a.1, .rc 31 (Ty.st .Src) [.ty (Ty.i .i64)] (.one (Ty.st .Trust)) fun s a => F_play_Src_Trust s a.1, .fn 25 [.ty (Ty.st .Envelope)] (.one Ty.bool) fun a => F_envelopes_Valid a.1, .fn 27 [.ty (Ty.st .Envelope), .ty Ty.str, .ty (Ty.i .i64), .ty (Ty.i .i64)] (.one Ty.bool) fun a => F_envelopes_AcceptsCommit a.1 a.2.1 a.2.2.1 a.2.2.2.1, .fn 28 [.ty (Ty.st .Envelope), .ty (Ty.st .Ballot)] (.one Ty.bool) fun a => F_envelopes_AcceptsPrepare a.1 a.2.1, .fn 15 [.ty (Ty.st .Envelope), .ty Ty.str, .ty (Ty.i .i64), .ty (Ty.i .i64)] (.one Ty.bool) fun a => F_envelopes_VotesCommit a.1 a.2.1 a.2.2.1 a.2.2.2.1, .fn 30 [.ty (Ty.st .Envelope), .ty (Ty.st .Ballot)] (.one Ty.bool) fun a => F_envelopes_VotesPrepare a.1 a.2.1, .fn 32 [.ty (Ty.st .Envelope)] (.one (Ty.i .i64)) fun a => F_envelopes_Counter a.1, .fn 16 [] (.one Ty.bool) fun a => F_law24_sane ]) ok_law24_EnvelopesForever (by kernel_rfl) (by decide) ⟨s_play_New, s_play_Src_Value, s_play_Src_Range, s_play_Src_N, s_play_Src_Trust, s_envelopes_Valid, s_envelopes_AcceptsCommit, s_envelopes_AcceptsPrepare, s_envelopes_VotesCommit, s_envelopes_VotesPrepare, s_envelopes_Counter, s_law24_sane, trivial⟩ (fun a => congrFun e_law24_EnvelopesForever a)

/-! ### (*trustquorum/trustquorumplay.Src).Some -/
def sa_play_Src_Some : SA U :=
 (.seq
  (.reg
  (.op ⟨(some 4), none, .mov (.cst (.int .i64 0))⟩
  .nil))
  (.seq
   (.reg
   (.op ⟨(some 5), none, .mov (.cst (.int .i64 0))⟩
   .nil))
   (.seq
    (.seq
     (.reg
     (.op ⟨(some 6), none, .mov (.cst (.int .i64 0))⟩
     .nil))
     (.block 0
      (.loop ⟨[.val 5 (Ty.i .i64), .val 6 (Ty.i .i64), .box 0 0 (Ty.st .Src) []], [0, 1]⟩
       (.seq
        (.seq
         (.reg
         (.op ⟨(some 7), none, .mov (.tmp 6)⟩
         (.op ⟨(some 8), none, .mov (.tmp 1)⟩
         (.op ⟨(some 9), none, .bin .lss (.tmp 7) (.tmp 8)⟩
         .nil))))
         (.cond (.tmp 9)
          .skip
          (.exit 0)))
        (.seq
         (.block 1
          (.reg
          (.op ⟨(some 12), none, .mov (.tmp 5)⟩
          (.op ⟨(some 13), none, .mov (.tmp 0)⟩
          (.op ⟨(some 14), none, .call 13 [(.tmp 13), (.cst (.int .i64 2))]⟩
          (.op ⟨(some 15), none, .mov (.tmp 6)⟩
          (.op ⟨(some 16), none, .conv .u64 (.tmp 15)⟩
          (.op ⟨(some 17), none, .bin .shl (.tmp 14) (.tmp 16)⟩
          (.op ⟨(some 18), none, .bin .or (.tmp 12) (.tmp 17)⟩
          (.op ⟨(some 5), none, .mov (.tmp 18)⟩
          .nil))))))))))
         (.reg
         (.op ⟨(some 10), none, .mov (.tmp 6)⟩
         (.op ⟨(some 11), none, .bin .add (.tmp 10) (.cst (.int .i64 1))⟩
         (.op ⟨(some 6), none, .mov (.tmp 11)⟩
         .nil)))))))))
    (.seq
     (.reg
     (.op ⟨(some 19), none, .mov (.tmp 5)⟩
     (.op ⟨(some 4), none, .mov (.tmp 19)⟩
     .nil)))
     .ret))))
theorem ok_play_Src_Some : FnOk Try.prog 33 20 (SA.erase sa_play_Src_Some) [.tmp 4] := ⟨Try.f33, [], Try.func33, rfl, by kernel_rfl, by kernel_rfl, by kernel_rfl⟩
noncomputable def F_play_Src_Some (s : TSrc) (a0 : Int) : Option (Int × TSrc) :=
loopO (fun (v1 : Int × Int × TSrc × Unit) =>
bif (decide (v1.2.1 < a0)) then
Option.bind (F_play_Src_N v1.2.2.1 (2 : Int)) fun p2 =>
if (convI .u64 v1.2.1) < 0 then none else
some (Sum.inl ((orI .i64 v1.1 (shlI .i64 p2.1 (convI .u64 v1.2.1))), (addI .i64 v1.2.1 (1 : Int)), p2.2, ()))
else
Option.map Sum.inr (some (v1.1, v1.2.2.1))) ((0 : Int), (0 : Int), s, ())
theorem e_play_Src_Some : rcK K [.rc 13 (Ty.st .Src) [.ty (Ty.i .i64)] (.one (Ty.i .i64)) fun s a => F_play_Src_N s a.1] sa_play_Src_Some [.tmp 4] (Ty.st .Src) [.ty (Ty.i .i64)] (.one (Ty.i .i64)) = fun s a => F_play_Src_Some s a.1 := by kernel_rfl
theorem s_play_Src_Some : KFun.Sound (U := U) Try.prog (.rc 33 (Ty.st .Src) [.ty (Ty.i .i64)] (.one (Ty.i .i64)) fun s a => F_play_Src_Some s a.1) := rcK_sound (K := K) (Γ := [.rc 13 (Ty.st .Src) [.ty (Ty.i .i64)] (.one (Ty.i .i64)) fun s a => F_play_Src_N s a.1]) ok_play_Src_Some (by kernel_rfl) (by decide) ⟨s_play_Src_N, trivial⟩ (fun s a => congrFun (congrFun e_play_Src_Some s) a)

/-! ### trustquorum/trustquorumref25.View -/
def sa_ref25_View : SA U :=
 (.seq
  (.reg
  (.op ⟨(some 4), none, .box (.tmp 1)⟩
  (.op ⟨(some 6), none, .alloc [.nils]⟩
  .nil)))
  (.seq
   (.reg
   (.op ⟨(some 10), none, .mks 64 4 64 [.bool false, .int .i64 0, .nils, .nils] (.cst (.int .i64 10)) (.cst (.int .i64 10))⟩
   (.op ⟨(some 11), none, .build [.nils] [(0, 1, (.tmp 10))]⟩
   (.op ⟨(some 7), none, .alloc [.nils]⟩
   (.op ⟨none, none, .store 1 (.tmp 7) (.tmp 11)⟩
   .nil)))))
   (.seq
    (.seq
     (.reg
     (.op ⟨(some 12), none, .mov (.tmp 0)⟩
     (.op ⟨(some 13), none, .bin .lss (.tmp 12) (.cst (.int .i64 0))⟩
     (.op ⟨(some 14), none, .mov (.tmp 13)⟩
     (.ite 14 false
      (.op ⟨(some 15), (some (14, false)), .mov (.tmp 0)⟩
      (.op ⟨(some 16), (some (14, false)), .bin .gtr (.tmp 15) (.cst (.int .i64 9))⟩
      .nil))
      17 none (.cst (.bool true)) (.tmp 16)
     .nil)))))
     (.cond (.tmp 17)
      (.seq
       (.reg
       (.op ⟨(some 18), none, .load (some 1) (.tmp 7)⟩
       (.op ⟨none, none, .store 1 (.tmp 6) (.tmp 18)⟩
       .nil)))
       .ret)
      .skip))
    (.seq
     (.reg
     (.op ⟨(some 19), none, .faddr 0 (.tmp 7)⟩
     (.op ⟨(some 20), none, .load none (.tmp 19)⟩
     (.op ⟨(some 21), none, .mov (.tmp 0)⟩
     (.op ⟨(some 22), none, .load (some 3) (.tmp 4)⟩
     (.op ⟨(some 23), none, .build [.bool false, .int .i64 0, .nils, .nils] [(0, 1, (.cst (.bool true))), (1, 3, (.tmp 22))]⟩
     (.op ⟨(some 24), none, .iaddr 4 (.tmp 20) (.tmp 21)⟩
     (.op ⟨none, none, .store 4 (.tmp 24) (.tmp 23)⟩
     .nil))))))))
     (.seq
      (.seq
       (.reg
       (.op ⟨(some 25), none, .mov (.tmp 2)⟩
       (.op ⟨(some 26), none, .len false (.tmp 25)⟩
       (.op ⟨(some 27), none, .mov (.cst (.int .i64 0))⟩
       .nil))))
       (.block 0
        (.loop ⟨[.val 27 (Ty.i .i64), .box 4 1 (Ty.st .Config) [(0, 2, 1)], .rowb 2 1 64 4 (Ty.st .Member)], [6, 7, 25, 26]⟩
         (.seq
          (.reg
          (.op ⟨(some 28), none, .bin .lss (.tmp 27) (.tmp 26)⟩
          .nil))
          (.seq
           (.cond (.tmp 28)
            .skip
            (.exit 0))
           (.join ⟨[.box 4 1 (Ty.st .Config) [(0, 2, 1)], .rowb 2 1 64 4 (Ty.st .Member)], [6, 7, 25, 26, 27]⟩
            (.block 1
             (.seq
              (.reg
              (.op ⟨(some 29), none, .iaddr 15 (.tmp 25) (.tmp 27)⟩
              (.op ⟨(some 30), none, .load (some 15) (.tmp 29)⟩
              (.op ⟨(some 9), none, .alloc [.int .i64 0, .int .i64 0, .int .i64 0, .int .i64 0, .nils, .nils, .int .i64 0, .int .i64 0, .str ⟨#[]⟩, .int .i64 0, .str ⟨#[]⟩, .int .i64 0, .str ⟨#[]⟩, .int .i64 0, .int .i64 0]⟩
              (.op ⟨none, none, .store 15 (.tmp 9) (.tmp 30)⟩
              .nil)))))
              (.seq
               (.reg
               (.op ⟨(some 31), none, .load (some 15) (.tmp 9)⟩
               (.op ⟨(some 32), none, .call 45 [(.tmp 31)]⟩
               (.op ⟨(some 33), none, .mov (.tmp 32)⟩
               (.ite 33 true
                (.op ⟨(some 34), (some (33, true)), .faddr 0 (.tmp 7)⟩
                (.op ⟨(some 35), (some (33, true)), .load none (.tmp 34)⟩
                (.op ⟨(some 36), (some (33, true)), .faddr 0 (.tmp 9)⟩
                (.op ⟨(some 37), (some (33, true)), .load none (.tmp 36)⟩
                (.op ⟨(some 38), (some (33, true)), .iaddr 4 (.tmp 35) (.tmp 37)⟩
                (.op ⟨(some 39), (some (33, true)), .faddr 0 (.tmp 38)⟩
                (.op ⟨(some 40), (some (33, true)), .load none (.tmp 39)⟩
                (.op ⟨(some 41), (some (33, true)), .not (.tmp 40)⟩
                .nil))))))))
                42 none (.tmp 41) (.cst (.bool false))
               .nil)))))
               (.cond (.tmp 42)
                (.reg
                (.op ⟨(some 43), none, .faddr 0 (.tmp 7)⟩
                (.op ⟨(some 44), none, .load none (.tmp 43)⟩
                (.op ⟨(some 45), none, .faddr 0 (.tmp 9)⟩
                (.op ⟨(some 46), none, .load none (.tmp 45)⟩
                (.op ⟨(some 47), none, .faddr 3 (.tmp 9)⟩
                (.op ⟨(some 48), none, .load (some 3) (.tmp 47)⟩
                (.op ⟨(some 49), none, .build [.bool false, .int .i64 0, .nils, .nils] [(0, 1, (.cst (.bool true))), (1, 3, (.tmp 48))]⟩
                (.op ⟨(some 50), none, .iaddr 4 (.tmp 44) (.tmp 46)⟩
                (.op ⟨none, none, .store 4 (.tmp 50) (.tmp 49)⟩
                .nil))))))))))
                .skip))))
            (.reg
            (.op ⟨(some 51), none, .bin .add (.tmp 27) (.cst (.int .i64 1))⟩
            (.op ⟨(some 27), none, .mov (.tmp 51)⟩
            .nil)))))))))
      (.seq
       (.reg
       (.op ⟨(some 52), none, .load (some 1) (.tmp 7)⟩
       (.op ⟨none, none, .store 1 (.tmp 6) (.tmp 52)⟩
       .nil)))
       .ret))))))
theorem ok_ref25_View : FnOk Try.prog 35 53 (SA.erase sa_ref25_View) [.cell 6 (some 1)] := ⟨Try.f35, [], Try.func35, rfl, by kernel_rfl, by kernel_rfl, by kernel_rfl⟩
noncomputable def F_ref25_View (a0 : Int) (a1 : TTrust) (a2 : (List TEnvelope)) : Option TConfig :=
bif decide ((10 : Int) = (10 : Int)) && decide (0 ≤ (10 : Int)) && lenOk 64 (Int.toNat (10 : Int)) then
Option.bind (bif (decide (a0 < (0 : Int))) then some true
else
some (decide ((9 : Int) < a0))) fun b1 =>
bif b1 then
some (TConfig.mk (List.replicate (Int.toNat (10 : Int)) (TMember.mk false (TTrust.mk (0 : Int) ([] : List Int) ([] : List TTrust)))))
else
Option.bind (idx (List.replicate (Int.toNat (10 : Int)) (TMember.mk false (TTrust.mk (0 : Int) ([] : List Int) ([] : List TTrust)))) a0) fun x2 =>
Option.bind ((List.replicate (Int.toNat (10 : Int)) (TMember.mk false (TTrust.mk (0 : Int) ([] : List Int) ([] : List TTrust))))[(Int.toNat a0)]?) fun x3 =>
loopO (fun (v4 : Int × TConfig × (List TMember) × Unit) =>
bif (decide (v4.1 < ((List.length a2 : Nat) : Int))) then
letJ (fun (v5 : TConfig × (List TMember) × Unit) =>
some (Sum.inl ((addI .i64 v4.1 (1 : Int)), (TConfig.mk ([] : List TMember)), v5.2.1, ()))) fun j6 =>
Option.bind (idx a2 v4.1) fun x7 =>
Option.bind (F_ref24_Valid (TEnvelope.mk x7.Node x7.Slot x7.Seq (TTrust.mk x7.Trust.Threshold x7.Trust.Nodes x7.Trust.Inner) x7.Kind x7.Ballot x7.Prepared x7.Prime x7.Low x7.High)) fun r8 =>
Option.bind (bif r8 then
Option.bind (idx v4.2.2.1 x7.Node) fun x9 =>
Option.bind (v4.2.2.1[(Int.toNat x7.Node)]?) fun x10 =>
Option.bind (v4.2.2.1[(Int.toNat x7.Node)]?) fun x11 =>
some (!x11.Declared)
else some false) fun b12 =>
bif b12 then
Option.bind (idx v4.2.2.1 x7.Node) fun x13 =>
Option.bind (v4.2.2.1[(Int.toNat x7.Node)]?) fun x14 =>
j6 ((TConfig.mk ([] : List TMember)), (v4.2.2.1.set (Int.toNat x7.Node) (TMember.mk true (TTrust.mk x7.Trust.Threshold x7.Trust.Nodes x7.Trust.Inner))), ())
else
j6 ((TConfig.mk ([] : List TMember)), v4.2.2.1, ())
else
Option.map Sum.inr (some (TConfig.mk v4.2.2.1))) ((0 : Int), (TConfig.mk ([] : List TMember)), ((List.replicate (Int.toNat (10 : Int)) (TMember.mk false (TTrust.mk (0 : Int) ([] : List Int) ([] : List TTrust)))).set (Int.toNat a0) (TMember.mk true (TTrust.mk a1.Threshold a1.Nodes a1.Inner))), ())
else none
theorem e_ref25_View : fnK K [.fn 45 [.ty (Ty.st .Envelope)] (.one Ty.bool) fun a => F_ref24_Valid a.1] sa_ref25_View [.cell 6 (some 1)] [.ty (Ty.i .i64), .ty (Ty.st .Trust), .ty (Ty.sl (Ty.st .Envelope))] (.one (Ty.st .Config)) = fun a => F_ref25_View a.1 a.2.1 a.2.2.1 := by kernel_rfl
theorem s_ref25_View : KFun.Sound (U := U) Try.prog (.fn 35 [.ty (Ty.i .i64), .ty (Ty.st .Trust), .ty (Ty.sl (Ty.st .Envelope))] (.one (Ty.st .Config)) fun a => F_ref25_View a.1 a.2.1 a.2.2.1) := fnK_sound (K := K) (Γ := [.fn 45 [.ty (Ty.st .Envelope)] (.one Ty.bool) fun a => F_ref24_Valid a.1]) ok_ref25_View (by kernel_rfl) (by decide) ⟨s_ref24_Valid, trivial⟩ (fun a => congrFun e_ref25_View a)

/-! ### trustquorum/trustquorumref06.Declared -/
def sa_ref06_Declared : SA U :=
 (.seq
  (.reg
  (.op ⟨(some 1), none, .box (.tmp 0)⟩
  (.op ⟨(some 2), none, .mov (.cst (.int .i64 0))⟩
  .nil)))
  (.seq
   (.reg
   (.op ⟨(some 3), none, .mov (.cst (.int .i64 0))⟩
   .nil))
   (.seq
    (.seq
     (.reg
     (.op ⟨(some 6), none, .faddr 0 (.tmp 1)⟩
     (.op ⟨(some 7), none, .load none (.tmp 6)⟩
     (.op ⟨(some 8), none, .len false (.tmp 7)⟩
     (.op ⟨(some 9), none, .mov (.cst (.int .i64 0))⟩
     .nil)))))
     (.block 0
      (.loop ⟨[.val 3 (Ty.i .i64), .val 9 (Ty.i .i64)], [7, 8]⟩
       (.seq
        (.reg
        (.op ⟨(some 10), none, .bin .lss (.tmp 9) (.tmp 8)⟩
        .nil))
        (.seq
         (.cond (.tmp 10)
          .skip
          (.exit 0))
         (.join ⟨[.val 3 (Ty.i .i64)], [7, 8, 9]⟩
          (.block 1
           (.seq
            (.reg
            (.op ⟨(some 11), none, .mov (.tmp 9)⟩
            (.op ⟨(some 12), none, .iaddr 4 (.tmp 7) (.tmp 9)⟩
            (.op ⟨(some 13), none, .load (some 4) (.tmp 12)⟩
            (.op ⟨(some 5), none, .alloc [.bool false, .int .i64 0, .nils, .nils]⟩
            (.op ⟨(some 4), none, .mov (.tmp 11)⟩
            (.op ⟨none, none, .store 4 (.tmp 5) (.tmp 13)⟩
            .nil)))))))
            (.seq
             (.reg
             (.op ⟨(some 14), none, .mov (.tmp 4)⟩
             (.op ⟨(some 15), none, .bin .lss (.tmp 14) (.cst (.int .i64 10))⟩
             (.op ⟨(some 16), none, .mov (.tmp 15)⟩
             (.ite 16 true
              (.op ⟨(some 17), (some (16, true)), .faddr 0 (.tmp 5)⟩
              (.op ⟨(some 18), (some (16, true)), .load none (.tmp 17)⟩
              .nil))
              19 none (.tmp 18) (.cst (.bool false))
             .nil)))))
             (.cond (.tmp 19)
              (.reg
              (.op ⟨(some 20), none, .mov (.tmp 3)⟩
              (.op ⟨(some 21), none, .mov (.tmp 4)⟩
              (.op ⟨(some 22), none, .bin .shl (.cst (.int .i64 1)) (.tmp 21)⟩
              (.op ⟨(some 23), none, .bin .or (.tmp 20) (.tmp 22)⟩
              (.op ⟨(some 3), none, .mov (.tmp 23)⟩
              .nil))))))
              .skip))))
          (.reg
          (.op ⟨(some 24), none, .bin .add (.tmp 9) (.cst (.int .i64 1))⟩
          (.op ⟨(some 9), none, .mov (.tmp 24)⟩
          .nil)))))))))
    (.seq
     (.reg
     (.op ⟨(some 25), none, .mov (.tmp 3)⟩
     (.op ⟨(some 2), none, .mov (.tmp 25)⟩
     .nil)))
     .ret))))
theorem ok_ref06_Declared : FnOk Try.prog 63 26 (SA.erase sa_ref06_Declared) [.tmp 2] := ⟨Try.f63, [], Try.func63, rfl, by kernel_rfl, by kernel_rfl, by kernel_rfl⟩
noncomputable def F_ref06_Declared (a0 : TConfig) : Option Int :=
loopO (fun (v1 : Int × Int × Unit) =>
bif (decide (v1.2.1 < ((List.length a0.Members : Nat) : Int))) then
letJ (fun (v2 : Int × Unit) =>
some (Sum.inl (v2.1, (addI .i64 v1.2.1 (1 : Int)), ()))) fun j3 =>
Option.bind (idx a0.Members v1.2.1) fun x4 =>
Option.bind (bif (decide (v1.2.1 < (10 : Int))) then
some x4.Declared
else some false) fun b5 =>
bif b5 then
if v1.2.1 < 0 then none else
j3 ((orI .i64 v1.1 (shlI .i64 (1 : Int) v1.2.1)), ())
else
j3 (v1.1, ())
else
Option.map Sum.inr (some v1.1)) ((0 : Int), (0 : Int), ())
theorem e_ref06_Declared : fnK K [] sa_ref06_Declared [.tmp 2] [.ty (Ty.st .Config)] (.one (Ty.i .i64)) = fun a => F_ref06_Declared a.1 := by kernel_rfl
theorem s_ref06_Declared : KFun.Sound (U := U) Try.prog (.fn 63 [.ty (Ty.st .Config)] (.one (Ty.i .i64)) fun a => F_ref06_Declared a.1) := fnK_sound (K := K) (Γ := []) ok_ref06_Declared (by kernel_rfl) (by decide) trivial (fun a => congrFun e_ref06_Declared a)

/-! ### trustquorum/trustquorumref02.Satisfied -/
def sa_ref02_Satisfied : SA U :=
 (.seq
  (.reg
  (.op ⟨(some 2), none, .box (.tmp 0)⟩
  (.op ⟨(some 4), none, .mov (.cst (.bool false))⟩
  .nil)))
  (.seq
   (.seq
    (.reg
    (.op ⟨(some 10), none, .mov (.tmp 1)⟩
    (.op ⟨(some 11), none, .call 61 [(.tmp 10)]⟩
    (.op ⟨(some 12), none, .not (.tmp 11)⟩
    .nil))))
    (.cond (.tmp 12)
     (.seq
      (.reg
      (.op ⟨(some 4), none, .mov (.cst (.bool false))⟩
      .nil))
      .ret)
     .skip))
   (.seq
    (.reg
    (.op ⟨(some 5), none, .mov (.cst (.int .i64 0))⟩
    .nil))
    (.seq
     (.seq
      (.reg
      (.op ⟨(some 13), none, .faddr 1 (.tmp 2)⟩
      (.op ⟨(some 14), none, .load none (.tmp 13)⟩
      (.op ⟨(some 15), none, .len false (.tmp 14)⟩
      (.op ⟨(some 16), none, .mov (.cst (.int .i64 0))⟩
      .nil)))))
      (.block 0
       (.loop ⟨[.val 5 (Ty.i .i64), .val 16 (Ty.i .i64)], [1, 2, 14, 15]⟩
        (.seq
         (.reg
         (.op ⟨(some 17), none, .bin .lss (.tmp 16) (.tmp 15)⟩
         .nil))
         (.seq
          (.cond (.tmp 17)
           .skip
           (.exit 0))
          (.join ⟨[.val 5 (Ty.i .i64)], [1, 2, 14, 15, 16]⟩
           (.block 1
            (.seq
             (.reg
             (.op ⟨(some 18), none, .iaddr 1 (.tmp 14) (.tmp 16)⟩
             (.op ⟨(some 19), none, .load none (.tmp 18)⟩
             (.op ⟨(some 7), none, .mov (.tmp 19)⟩
             .nil))))
             (.seq
              (.reg
              (.op ⟨(some 20), none, .mov (.tmp 1)⟩
              (.op ⟨(some 21), none, .mov (.tmp 7)⟩
              (.op ⟨(some 22), none, .call 62 [(.tmp 20), (.tmp 21)]⟩
              .nil))))
              (.cond (.tmp 22)
               (.reg
               (.op ⟨(some 23), none, .mov (.tmp 5)⟩
               (.op ⟨(some 24), none, .bin .add (.tmp 23) (.cst (.int .i64 1))⟩
               (.op ⟨(some 5), none, .mov (.tmp 24)⟩
               .nil))))
               .skip))))
           (.reg
           (.op ⟨(some 25), none, .bin .add (.tmp 16) (.cst (.int .i64 1))⟩
           (.op ⟨(some 16), none, .mov (.tmp 25)⟩
           .nil)))))))))
     (.seq
      (.seq
       (.reg
       (.op ⟨(some 26), none, .faddr 2 (.tmp 2)⟩
       (.op ⟨(some 27), none, .load none (.tmp 26)⟩
       (.op ⟨(some 28), none, .len false (.tmp 27)⟩
       (.op ⟨(some 29), none, .mov (.cst (.int .i64 0))⟩
       .nil)))))
       (.block 2
        (.loop ⟨[.val 5 (Ty.i .i64), .val 29 (Ty.i .i64)], [1, 2, 27, 28]⟩
         (.seq
          (.reg
          (.op ⟨(some 30), none, .bin .lss (.tmp 29) (.tmp 28)⟩
          .nil))
          (.seq
           (.cond (.tmp 30)
            .skip
            (.exit 2))
           (.join ⟨[.val 5 (Ty.i .i64)], [1, 2, 27, 28, 29]⟩
            (.block 3
             (.seq
              (.reg
              (.op ⟨(some 31), none, .iaddr 3 (.tmp 27) (.tmp 29)⟩
              (.op ⟨(some 32), none, .load (some 3) (.tmp 31)⟩
              (.op ⟨(some 9), none, .alloc [.int .i64 0, .nils, .nils]⟩
              (.op ⟨none, none, .store 3 (.tmp 9) (.tmp 32)⟩
              .nil)))))
              (.seq
               (.reg
               (.op ⟨(some 33), none, .load (some 3) (.tmp 9)⟩
               (.op ⟨(some 34), none, .mov (.tmp 1)⟩
               (.op ⟨(some 35), none, .call 64 [(.tmp 33), (.tmp 34)]⟩
               .nil))))
               (.cond (.tmp 35)
                (.reg
                (.op ⟨(some 36), none, .mov (.tmp 5)⟩
                (.op ⟨(some 37), none, .bin .add (.tmp 36) (.cst (.int .i64 1))⟩
                (.op ⟨(some 5), none, .mov (.tmp 37)⟩
                .nil))))
                .skip))))
            (.reg
            (.op ⟨(some 38), none, .bin .add (.tmp 29) (.cst (.int .i64 1))⟩
            (.op ⟨(some 29), none, .mov (.tmp 38)⟩
            .nil)))))))))
      (.seq
       (.reg
       (.op ⟨(some 39), none, .mov (.tmp 5)⟩
       (.op ⟨(some 40), none, .faddr 0 (.tmp 2)⟩
       (.op ⟨(some 41), none, .load none (.tmp 40)⟩
       (.op ⟨(some 42), none, .bin .geq (.tmp 39) (.tmp 41)⟩
       (.op ⟨(some 4), none, .mov (.tmp 42)⟩
       .nil))))))
       .ret))))))
theorem ok_ref02_Satisfied : FnOk Try.prog 64 43 (SA.erase sa_ref02_Satisfied) [.tmp 4] := ⟨Try.f64, [], Try.func64, rfl, by kernel_rfl, by kernel_rfl, by kernel_rfl⟩
noncomputable def B_ref02_Satisfied (rec : (TTrust × Int × Unit) → Option Bool) (a0 : TTrust) (a1 : Int) : Option Bool :=
Option.bind (F_ref01_Valid a1) fun r1 =>
bif (!r1) then
some false
else
loopO (fun (v2 : Int × Int × Unit) =>
bif (decide (v2.2.1 < ((List.length a0.Nodes : Nat) : Int))) then
letJ (fun (v3 : Int × Unit) =>
some (Sum.inl (v3.1, (addI .i64 v2.2.1 (1 : Int)), ()))) fun j4 =>
Option.bind (idx a0.Nodes v2.2.1) fun x5 =>
Option.bind (F_ref01_Has a1 x5) fun r6 =>
bif r6 then
j4 ((addI .i64 v2.1 (1 : Int)), ())
else
j4 (v2.1, ())
else
Option.map Sum.inr (loopO (fun (v7 : Int × Int × Unit) =>
bif (decide (v7.2.1 < ((List.length a0.Inner : Nat) : Int))) then
letJ (fun (v8 : Int × Unit) =>
some (Sum.inl (v8.1, (addI .i64 v7.2.1 (1 : Int)), ()))) fun j9 =>
Option.bind (idx a0.Inner v7.2.1) fun x10 =>
Option.bind (rec ((TTrust.mk x10.Threshold x10.Nodes x10.Inner), a1, ())) fun r11 =>
bif r11 then
j9 ((addI .i64 v7.1 (1 : Int)), ())
else
j9 (v7.1, ())
else
Option.map Sum.inr (some (decide (a0.Threshold ≤ v7.1)))) (v2.1, (0 : Int), ()))) ((0 : Int), (0 : Int), ())
noncomputable def I_ref02_Satisfied : Nat → (TTrust × Int × Unit) → Option Bool := iterF (fun rec a => B_ref02_Satisfied rec a.1 a.2.1)
noncomputable def F_ref02_Satisfied (a0 : TTrust) (a1 : Int) : Option Bool := I_ref02_Satisfied (SizeOf.sizeOf a0 + SizeOf.sizeOf a1 + 1) (a0, a1, ())
theorem e_ref02_Satisfied : (fun G => fnK K (.fn 64 [.ty (Ty.st .Trust), .ty (Ty.i .i64)] (.one Ty.bool) G :: [.fn 61 [.ty (Ty.i .i64)] (.one Ty.bool) fun a => F_ref01_Valid a.1, .fn 62 [.ty (Ty.i .i64), .ty (Ty.i .i64)] (.one Ty.bool) fun a => F_ref01_Has a.1 a.2.1]) sa_ref02_Satisfied [.tmp 4] [.ty (Ty.st .Trust), .ty (Ty.i .i64)] (.one Ty.bool)) = (fun G a => B_ref02_Satisfied G a.1 a.2.1) := by kernel_rfl
theorem n_ref02_Satisfied : ∀ n, KFun.Sound (U := U) Try.prog (.fn 64 [.ty (Ty.st .Trust), .ty (Ty.i .i64)] (.one Ty.bool) (I_ref02_Satisfied n))
  | 0 => ⟨ok_ref02_Satisfied.enters, fun a r h => by cases h⟩
  | n + 1 => fnK_sound (K := K) (r := .one Ty.bool) (Γ := .fn 64 [.ty (Ty.st .Trust), .ty (Ty.i .i64)] (.one Ty.bool) (I_ref02_Satisfied n) :: [.fn 61 [.ty (Ty.i .i64)] (.one Ty.bool) fun a => F_ref01_Valid a.1, .fn 62 [.ty (Ty.i .i64), .ty (Ty.i .i64)] (.one Ty.bool) fun a => F_ref01_Has a.1 a.2.1]) (F := I_ref02_Satisfied (n + 1)) ok_ref02_Satisfied (by kernel_rfl) (by decide) ⟨n_ref02_Satisfied n, s_ref01_Valid, s_ref01_Has, trivial⟩ (fun a => congrFun (congrFun e_ref02_Satisfied (I_ref02_Satisfied n)) a)
theorem s_ref02_Satisfied : KFun.Sound (U := U) Try.prog (.fn 64 [.ty (Ty.st .Trust), .ty (Ty.i .i64)] (.one Ty.bool) fun a => F_ref02_Satisfied a.1 a.2.1) := ⟨ok_ref02_Satisfied.enters, fun a r h => (n_ref02_Satisfied _).2 a r h⟩

/-! ### trustquorum/trustquorumref11.Blocks -/
def sa_ref11_Blocks : SA U :=
 (.seq
  (.reg
  (.op ⟨(some 3), none, .box (.tmp 0)⟩
  (.op ⟨(some 6), none, .mov (.cst (.bool false))⟩
  .nil)))
  (.seq
   (.seq
    (.reg
    (.op ⟨(some 7), none, .mov (.tmp 2)⟩
    (.op ⟨(some 8), none, .call 61 [(.tmp 7)]⟩
    (.op ⟨(some 9), none, .not (.tmp 8)⟩
    (.op ⟨(some 10), none, .mov (.tmp 9)⟩
    (.ite 10 false
     (.op ⟨(some 11), (some (10, false)), .load (some 1) (.tmp 3)⟩
     (.op ⟨(some 12), (some (10, false)), .call 63 [(.tmp 11)]⟩
     (.op ⟨(some 13), (some (10, false)), .mov (.tmp 1)⟩
     (.op ⟨(some 14), (some (10, false)), .call 62 [(.tmp 12), (.tmp 13)]⟩
     (.op ⟨(some 15), (some (10, false)), .not (.tmp 14)⟩
     .nil)))))
     16 none (.cst (.bool true)) (.tmp 15)
    .nil))))))
    (.cond (.tmp 16)
     (.seq
      (.reg
      (.op ⟨(some 6), none, .mov (.cst (.bool false))⟩
      .nil))
      .ret)
     .skip))
   (.seq
    (.drw []
    (.op ⟨(some 17), none, .faddr 0 (.tmp 3)⟩
    (.op ⟨(some 18), none, .load none (.tmp 17)⟩
    (.op ⟨(some 19), none, .mov (.tmp 1)⟩
    (.op ⟨(some 20), none, .iaddr 4 (.tmp 18) (.tmp 19)⟩
    (.op ⟨(some 21), none, .faddr 1 (.tmp 20)⟩
    (.op ⟨(some 22), none, .load (some 3) (.tmp 21)⟩
    (.op ⟨(some 23), none, .mov (.tmp 2)⟩
    (.op ⟨(some 24), none, .bin .sub (.cst (.int .i64 1023)) (.tmp 23)⟩
    (.op ⟨(some 25), none, .mov (.tmp 1)⟩
    (.op ⟨(some 26), none, .bin .shl (.cst (.int .i64 1)) (.tmp 25)⟩
    (.op ⟨(some 27), none, .bin .or (.tmp 24) (.tmp 26)⟩
    (.op ⟨(some 28), none, .call 64 [(.tmp 22), (.tmp 27)]⟩
    (.op ⟨(some 29), none, .not (.tmp 28)⟩
    (.op ⟨(some 6), none, .mov (.tmp 29)⟩
    .nil)))))))))))))))
    .ret)))
theorem ok_ref11_Blocks : FnOk Try.prog 34 30 (SA.erase sa_ref11_Blocks) [.tmp 6] := ⟨Try.f34, [], Try.func34, rfl, by kernel_rfl, by kernel_rfl, by kernel_rfl⟩
noncomputable def F_ref11_Blocks (a0 : TConfig) (a1 : Int) (a2 : Int) : Option Bool :=
Option.bind (F_ref01_Valid a2) fun r1 =>
Option.bind (bif (!r1) then some true
else
Option.bind (F_ref06_Declared a0) fun r2 =>
Option.bind (F_ref01_Has r2 a1) fun r3 =>
some (!r3)) fun b4 =>
bif b4 then
some false
else
Option.bind (idx a0.Members a1) fun x5 =>
if a1 < 0 then none else
Option.bind (F_ref02_Satisfied (TTrust.mk x5.Trust.Threshold x5.Trust.Nodes x5.Trust.Inner) (orI .i64 (subI .i64 (1023 : Int) a2) (shlI .i64 (1 : Int) a1))) fun r6 =>
some (!r6)
theorem e_ref11_Blocks : fnK K [.fn 61 [.ty (Ty.i .i64)] (.one Ty.bool) fun a => F_ref01_Valid a.1, .fn 63 [.ty (Ty.st .Config)] (.one (Ty.i .i64)) fun a => F_ref06_Declared a.1, .fn 62 [.ty (Ty.i .i64), .ty (Ty.i .i64)] (.one Ty.bool) fun a => F_ref01_Has a.1 a.2.1, .fn 64 [.ty (Ty.st .Trust), .ty (Ty.i .i64)] (.one Ty.bool) fun a => F_ref02_Satisfied a.1 a.2.1] sa_ref11_Blocks [.tmp 6] [.ty (Ty.st .Config), .ty (Ty.i .i64), .ty (Ty.i .i64)] (.one Ty.bool) = fun a => F_ref11_Blocks a.1 a.2.1 a.2.2.1 := by kernel_rfl
theorem s_ref11_Blocks : KFun.Sound (U := U) Try.prog (.fn 34 [.ty (Ty.st .Config), .ty (Ty.i .i64), .ty (Ty.i .i64)] (.one Ty.bool) fun a => F_ref11_Blocks a.1 a.2.1 a.2.2.1) := fnK_sound (K := K) (Γ := [.fn 61 [.ty (Ty.i .i64)] (.one Ty.bool) fun a => F_ref01_Valid a.1, .fn 63 [.ty (Ty.st .Config)] (.one (Ty.i .i64)) fun a => F_ref06_Declared a.1, .fn 62 [.ty (Ty.i .i64), .ty (Ty.i .i64)] (.one Ty.bool) fun a => F_ref01_Has a.1 a.2.1, .fn 64 [.ty (Ty.st .Trust), .ty (Ty.i .i64)] (.one Ty.bool) fun a => F_ref02_Satisfied a.1 a.2.1]) ok_ref11_Blocks (by kernel_rfl) (by decide) ⟨s_ref01_Valid, s_ref06_Declared, s_ref01_Has, s_ref02_Satisfied, trivial⟩ (fun a => congrFun e_ref11_Blocks a)

/-! ### trustquorum/envelopes.Rights -/
def sa_envelopes_Rights : SA U :=
 (.seq
  (.reg
  (.op ⟨(some 2), none, .mov (.cst (.nils))⟩
  .nil))
  (.seq
   (.reg
   (.op ⟨(some 3), none, .mov (.cst (.nils))⟩
   .nil))
   (.seq
    (.seq
     (.reg
     (.op ⟨(some 6), none, .mov (.tmp 0)⟩
     (.op ⟨(some 7), none, .len false (.tmp 6)⟩
     (.op ⟨(some 8), none, .mov (.cst (.int .i64 0))⟩
     .nil))))
     (.block 0
      (.ps (.own 3 76 15 (Ty.st .Right))
      (.loop ⟨[.val 8 (Ty.i .i64), .own 3 5 1 76 15 (Ty.st .Right)], [6, 7]⟩
       (.seq
        (.reg
        (.op ⟨(some 9), none, .bin .lss (.tmp 8) (.tmp 7)⟩
        .nil))
        (.seq
         (.cond (.tmp 9)
          .skip
          (.exit 0))
         (.join ⟨[.own 3 5 1 76 15 (Ty.st .Right)], [6, 7, 8]⟩
          (.block 1
           (.seq
            (.reg
            (.op ⟨(some 10), none, .iaddr 15 (.tmp 6) (.tmp 8)⟩
            (.op ⟨(some 11), none, .load (some 15) (.tmp 10)⟩
            (.op ⟨(some 5), none, .alloc [.int .i64 0, .int .i64 0, .int .i64 0, .int .i64 0, .nils, .nils, .int .i64 0, .int .i64 0, .str ⟨#[]⟩, .int .i64 0, .str ⟨#[]⟩, .int .i64 0, .str ⟨#[]⟩, .int .i64 0, .int .i64 0]⟩
            (.op ⟨none, none, .store 15 (.tmp 5) (.tmp 11)⟩
            .nil)))))
            (.seq
             (.reg
             (.op ⟨(some 12), none, .load (some 15) (.tmp 5)⟩
             (.op ⟨(some 13), none, .call 25 [(.tmp 12)]⟩
             .nil)))
             (.cond (.tmp 13)
              (.reg
              (.op ⟨(some 14), none, .mov (.tmp 3)⟩
              (.op ⟨(some 15), none, .load (some 15) (.tmp 5)⟩
              (.op ⟨(some 16), none, .build [.int .i64 0, .int .i64 0, .int .i64 0, .int .i64 0, .nils, .nils, .int .i64 0, .int .i64 0, .str ⟨#[]⟩, .int .i64 0, .str ⟨#[]⟩, .int .i64 0, .str ⟨#[]⟩, .int .i64 0, .int .i64 0] [(0, 15, (.tmp 15))]⟩
              (.op ⟨(some 17), none, .bsl false 76 15 (List.replicate 1 [.int .i64 0, .int .i64 0, .int .i64 0, .int .i64 0, .nils, .nils, .int .i64 0, .int .i64 0, .str ⟨#[]⟩, .int .i64 0, .str ⟨#[]⟩, .int .i64 0, .str ⟨#[]⟩, .int .i64 0, .int .i64 0]) [(0, (.tmp 16))]⟩
              (.op ⟨(some 18), none, .app 76 15 176 (.tmp 14) (.tmp 17)⟩
              (.op ⟨(some 3), none, .mov (.tmp 18)⟩
              .nil)))))))
              .skip))))
          (.reg
          (.op ⟨(some 19), none, .bin .add (.tmp 8) (.cst (.int .i64 1))⟩
          (.op ⟨(some 8), none, .mov (.tmp 19)⟩
          .nil))))))))))
    (.seq
     (.reg
     (.op ⟨(some 20), none, .mov (.tmp 3)⟩
     (.op ⟨(some 2), none, .mov (.tmp 20)⟩
     .nil)))
     .ret))))
theorem ok_envelopes_Rights : FnOk Try.prog 100 21 (SA.erase sa_envelopes_Rights) [.tmp 2] := ⟨Try.f100, [], Try.func100, rfl, by kernel_rfl, by kernel_rfl, by kernel_rfl⟩
noncomputable def F_envelopes_Rights (a0 : (List TEnvelope)) : Option (List TRight) :=
loopO (fun (v1 : Int × (List TRight) × Unit) =>
bif (decide (v1.1 < ((List.length a0 : Nat) : Int))) then
letJ (fun (v2 : (List TRight) × Unit) =>
some (Sum.inl ((addI .i64 v1.1 (1 : Int)), v2.1, ()))) fun j3 =>
Option.bind (idx a0 v1.1) fun x4 =>
Option.bind (F_envelopes_Valid (TEnvelope.mk x4.Node x4.Slot x4.Seq (TTrust.mk x4.Trust.Threshold x4.Trust.Nodes x4.Trust.Inner) x4.Kind x4.Ballot x4.Prepared x4.Prime x4.Low x4.High)) fun r5 =>
bif r5 then
bif lenOk 176 (List.length v1.2.1 + List.length [(TRight.mk (TEnvelope.mk x4.Node x4.Slot x4.Seq (TTrust.mk x4.Trust.Threshold x4.Trust.Nodes x4.Trust.Inner) x4.Kind x4.Ballot x4.Prepared x4.Prime x4.Low x4.High))]) then
j3 ((v1.2.1 ++ [(TRight.mk (TEnvelope.mk x4.Node x4.Slot x4.Seq (TTrust.mk x4.Trust.Threshold x4.Trust.Nodes x4.Trust.Inner) x4.Kind x4.Ballot x4.Prepared x4.Prime x4.Low x4.High))]), ())
else none
else
j3 (v1.2.1, ())
else
Option.map Sum.inr (some v1.2.1)) ((0 : Int), ([] : List TRight), ())
theorem e_envelopes_Rights : fnK K [.fn 25 [.ty (Ty.st .Envelope)] (.one Ty.bool) fun a => F_envelopes_Valid a.1] sa_envelopes_Rights [.tmp 2] [.ty (Ty.sl (Ty.st .Envelope))] (.one (Ty.sl (Ty.st .Right))) = fun a => F_envelopes_Rights a.1 := by kernel_rfl
theorem s_envelopes_Rights : KFun.Sound (U := U) Try.prog (.fn 100 [.ty (Ty.sl (Ty.st .Envelope))] (.one (Ty.sl (Ty.st .Right))) fun a => F_envelopes_Rights a.1) := fnK_sound (K := K) (Γ := [.fn 25 [.ty (Ty.st .Envelope)] (.one Ty.bool) fun a => F_envelopes_Valid a.1]) ok_envelopes_Rights (by kernel_rfl) (by decide) ⟨s_envelopes_Valid, trivial⟩ (fun a => congrFun e_envelopes_Rights a)

/-! ### trustquorum/prepare.Look -/
def sa_prepare_Look : SA U :=
 (.seq
  (.reg
  (.op ⟨(some 4), none, .box (.tmp 1)⟩
  (.op ⟨(some 6), none, .alloc [.int .i64 0, .nils, .nils]⟩
  .nil)))
  (.seq
   (.reg
   (.op ⟨(some 7), none, .mov (.tmp 0)⟩
   (.op ⟨(some 8), none, .mov (.tmp 0)⟩
   (.op ⟨(some 9), none, .load (some 3) (.tmp 4)⟩
   (.op ⟨(some 10), none, .mov (.tmp 2)⟩
   (.op ⟨(some 11), none, .call 52 [(.tmp 8), (.tmp 9), (.tmp 10)]⟩
   (.op ⟨(some 12), none, .mov (.tmp 2)⟩
   (.op ⟨(some 13), none, .call 100 [(.tmp 12)]⟩
   (.op ⟨(some 14), none, .build [.int .i64 0, .nils, .nils] [(0, 1, (.tmp 7)), (1, 1, (.tmp 11)), (2, 1, (.tmp 13))]⟩
   (.op ⟨none, none, .store 3 (.tmp 6) (.tmp 14)⟩
   .nil))))))))))
   .ret))
theorem ok_prepare_Look : FnOk Try.prog 65 15 (SA.erase sa_prepare_Look) [.cell 6 (some 3)] := ⟨Try.f65, [], Try.func65, rfl, by kernel_rfl, by kernel_rfl, by kernel_rfl⟩
noncomputable def F_prepare_Look (a0 : Int) (a1 : TTrust) (a2 : (List TEnvelope)) : Option TSeen :=
Option.bind (F_prepare_View a0 (TTrust.mk a1.Threshold a1.Nodes a1.Inner) a2) fun r1 =>
Option.bind (F_envelopes_Rights a2) fun r2 =>
some (TSeen.mk a0 r1 r2)
theorem e_prepare_Look : fnK K [.fn 52 [.ty (Ty.i .i64), .ty (Ty.st .Trust), .ty (Ty.sl (Ty.st .Envelope))] (.one (Ty.st .Config)) fun a => F_prepare_View a.1 a.2.1 a.2.2.1, .fn 100 [.ty (Ty.sl (Ty.st .Envelope))] (.one (Ty.sl (Ty.st .Right))) fun a => F_envelopes_Rights a.1] sa_prepare_Look [.cell 6 (some 3)] [.ty (Ty.i .i64), .ty (Ty.st .Trust), .ty (Ty.sl (Ty.st .Envelope))] (.one (Ty.st .Seen)) = fun a => F_prepare_Look a.1 a.2.1 a.2.2.1 := by kernel_rfl
theorem s_prepare_Look : KFun.Sound (U := U) Try.prog (.fn 65 [.ty (Ty.i .i64), .ty (Ty.st .Trust), .ty (Ty.sl (Ty.st .Envelope))] (.one (Ty.st .Seen)) fun a => F_prepare_Look a.1 a.2.1 a.2.2.1) := fnK_sound (K := K) (Γ := [.fn 52 [.ty (Ty.i .i64), .ty (Ty.st .Trust), .ty (Ty.sl (Ty.st .Envelope))] (.one (Ty.st .Config)) fun a => F_prepare_View a.1 a.2.1 a.2.2.1, .fn 100 [.ty (Ty.sl (Ty.st .Envelope))] (.one (Ty.sl (Ty.st .Right))) fun a => F_envelopes_Rights a.1]) ok_prepare_Look (by kernel_rfl) (by decide) ⟨s_prepare_View, s_envelopes_Rights, trivial⟩ (fun a => congrFun e_prepare_Look a)

/-! ### trustquorum/prepare.accepts -/
def sa_prepare_accepts : SA U :=
 (.seq
  (.reg
  (.op ⟨(some 1), none, .box (.tmp 0)⟩
  (.op ⟨(some 2), none, .mov (.cst (.any))⟩
  .nil)))
  (.seq
   (.reg
   (.op ⟨(some 3), none, .mkf 109 [(.tmp 1)]⟩
   (.op ⟨(some 2), none, .mov (.tmp 3)⟩
   .nil)))
   .ret))
theorem ok_prepare_accepts : FnOk Try.prog 76 4 (SA.erase sa_prepare_accepts) [.tmp 2] := ⟨Try.f76, [], Try.func76, rfl, by kernel_rfl, by kernel_rfl, by kernel_rfl⟩
noncomputable def F_prepare_accepts (a0 : TBallot) : Option (TBallot × Unit) :=
some (a0, ())
theorem e_prepare_accepts : fnK K [] sa_prepare_accepts [.tmp 2] [.ty (Ty.st .Ballot)] (.fn (.clo 109 [.ref (.ty (Ty.st .Ballot))])) = fun a => F_prepare_accepts a.1 := by kernel_rfl
theorem s_prepare_accepts : KFun.Sound (U := U) Try.prog (.fn 76 [.ty (Ty.st .Ballot)] (.fn (.clo 109 [.ref (.ty (Ty.st .Ballot))])) fun a => F_prepare_accepts a.1) := fnK_sound (K := K) (Γ := []) ok_prepare_accepts (by kernel_rfl) (by decide) trivial (fun a => congrFun e_prepare_accepts a)

/-! ### (trustquorum/prepare.Seen).ready$1 -/
def sa_prepare_Seen_ready_1 : SA U :=
 (.seq
  (.reg
  (.op ⟨(some 2), none, .box (.tmp 0)⟩
  (.op ⟨(some 3), none, .mov (.cst (.bool false))⟩
  .nil)))
  (.seq
   (.reg
   (.op ⟨(some 4), none, .load (some 15) (.tmp 2)⟩
   (.op ⟨(some 5), none, .load (some 2) (.tmp 1)⟩
   (.op ⟨(some 6), none, .call 59 [(.tmp 4), (.tmp 5)]⟩
   (.op ⟨(some 3), none, .mov (.tmp 6)⟩
   .nil)))))
   .ret))
theorem ok_prepare_Seen_ready_1 : FnOk Try.prog 102 7 (SA.erase sa_prepare_Seen_ready_1) [.tmp 3] := ⟨Try.f102, [], Try.func102, rfl, by kernel_rfl, by kernel_rfl, by kernel_rfl⟩
noncomputable def F_prepare_Seen_ready_1 (a0 : TRight) (a1 : TBallot) : Option Bool :=
Option.bind (F_envelopes_Right_VotesPrepare (TRight.mk (TEnvelope.mk a0.Envelope.Node a0.Envelope.Slot a0.Envelope.Seq (TTrust.mk a0.Envelope.Trust.Threshold a0.Envelope.Trust.Nodes a0.Envelope.Trust.Inner) a0.Envelope.Kind a0.Envelope.Ballot a0.Envelope.Prepared a0.Envelope.Prime a0.Envelope.Low a0.Envelope.High)) a1) fun r1 =>
some r1
theorem e_prepare_Seen_ready_1 : fnK K [.fn 59 [.ty (Ty.st .Right), .ty (Ty.st .Ballot)] (.one Ty.bool) fun a => F_envelopes_Right_VotesPrepare a.1 a.2.1] sa_prepare_Seen_ready_1 [.tmp 3] [.ty (Ty.st .Right), .ref (.ty (Ty.st .Ballot))] (.one Ty.bool) = fun a => F_prepare_Seen_ready_1 a.1 a.2.1 := by kernel_rfl
theorem s_prepare_Seen_ready_1 : KFun.Sound (U := U) Try.prog (.fn 102 [.ty (Ty.st .Right), .ref (.ty (Ty.st .Ballot))] (.one Ty.bool) fun a => F_prepare_Seen_ready_1 a.1 a.2.1) := fnK_sound (K := K) (Γ := [.fn 59 [.ty (Ty.st .Right), .ty (Ty.st .Ballot)] (.one Ty.bool) fun a => F_envelopes_Right_VotesPrepare a.1 a.2.1]) ok_prepare_Seen_ready_1 (by kernel_rfl) (by decide) ⟨s_envelopes_Right_VotesPrepare, trivial⟩ (fun a => congrFun e_prepare_Seen_ready_1 a)

/-! ### trustquorum/prepare.accepts$1 -/
def sa_prepare_accepts_1 : SA U :=
 (.seq
  (.reg
  (.op ⟨(some 2), none, .box (.tmp 0)⟩
  (.op ⟨(some 3), none, .mov (.cst (.bool false))⟩
  .nil)))
  (.seq
   (.reg
   (.op ⟨(some 4), none, .load (some 15) (.tmp 2)⟩
   (.op ⟨(some 5), none, .load (some 2) (.tmp 1)⟩
   (.op ⟨(some 6), none, .call 58 [(.tmp 4), (.tmp 5)]⟩
   (.op ⟨(some 3), none, .mov (.tmp 6)⟩
   .nil)))))
   .ret))
theorem ok_prepare_accepts_1 : FnOk Try.prog 109 7 (SA.erase sa_prepare_accepts_1) [.tmp 3] := ⟨Try.f109, [], Try.func109, rfl, by kernel_rfl, by kernel_rfl, by kernel_rfl⟩
noncomputable def F_prepare_accepts_1 (a0 : TRight) (a1 : TBallot) : Option Bool :=
Option.bind (F_envelopes_Right_AcceptsPrepare (TRight.mk (TEnvelope.mk a0.Envelope.Node a0.Envelope.Slot a0.Envelope.Seq (TTrust.mk a0.Envelope.Trust.Threshold a0.Envelope.Trust.Nodes a0.Envelope.Trust.Inner) a0.Envelope.Kind a0.Envelope.Ballot a0.Envelope.Prepared a0.Envelope.Prime a0.Envelope.Low a0.Envelope.High)) a1) fun r1 =>
some r1
theorem e_prepare_accepts_1 : fnK K [.fn 58 [.ty (Ty.st .Right), .ty (Ty.st .Ballot)] (.one Ty.bool) fun a => F_envelopes_Right_AcceptsPrepare a.1 a.2.1] sa_prepare_accepts_1 [.tmp 3] [.ty (Ty.st .Right), .ref (.ty (Ty.st .Ballot))] (.one Ty.bool) = fun a => F_prepare_accepts_1 a.1 a.2.1 := by kernel_rfl
theorem s_prepare_accepts_1 : KFun.Sound (U := U) Try.prog (.fn 109 [.ty (Ty.st .Right), .ref (.ty (Ty.st .Ballot))] (.one Ty.bool) fun a => F_prepare_accepts_1 a.1 a.2.1) := fnK_sound (K := K) (Γ := [.fn 58 [.ty (Ty.st .Right), .ty (Ty.st .Ballot)] (.one Ty.bool) fun a => F_envelopes_Right_AcceptsPrepare a.1 a.2.1]) ok_prepare_accepts_1 (by kernel_rfl) (by decide) ⟨s_envelopes_Right_AcceptsPrepare, trivial⟩ (fun a => congrFun e_prepare_accepts_1 a)

/-! ### (trustquorum/prepare.Seen).Accepts$1 -/
def sa_prepare_Seen_Accepts_1_c102_c109 : SA U :=
 (.seq
  (.reg
  (.op ⟨(some 3), none, .box (.tmp 0)⟩
  (.op ⟨(some 4), none, .mov (.cst (.bool false))⟩
  .nil)))
  (.seq
   (.reg
   (.op ⟨(some 5), none, .load none (.tmp 1)⟩
   (.op ⟨(some 6), none, .load (some 15) (.tmp 3)⟩
   (.op ⟨(some 7), none, .callv (.tmp 5) [(.tmp 6)]⟩
   (.op ⟨(some 8), none, .mov (.tmp 7)⟩
   (.ite 8 false
    (.op ⟨(some 9), (some (8, false)), .load none (.tmp 2)⟩
    (.op ⟨(some 10), (some (8, false)), .load (some 15) (.tmp 3)⟩
    (.op ⟨(some 11), (some (8, false)), .callv (.tmp 9) [(.tmp 10)]⟩
    .nil)))
    12 none (.cst (.bool true)) (.tmp 11)
   (.op ⟨(some 4), none, .mov (.tmp 12)⟩
   .nil)))))))
   .ret))
theorem ok_prepare_Seen_Accepts_1_c102_c109 : FnOk Try.prog 125 13 (SA.erase sa_prepare_Seen_Accepts_1_c102_c109) [.tmp 4] := ⟨Try.f125, [], Try.func125, rfl, by kernel_rfl, by kernel_rfl, by kernel_rfl⟩
noncomputable def F_prepare_Seen_Accepts_1_c102_c109 (a0 : TRight) (a1 : TBallot) (a2 : TBallot) : Option Bool :=
Option.bind (F_prepare_Seen_ready_1 (TRight.mk (TEnvelope.mk a0.Envelope.Node a0.Envelope.Slot a0.Envelope.Seq (TTrust.mk a0.Envelope.Trust.Threshold a0.Envelope.Trust.Nodes a0.Envelope.Trust.Inner) a0.Envelope.Kind a0.Envelope.Ballot a0.Envelope.Prepared a0.Envelope.Prime a0.Envelope.Low a0.Envelope.High)) a1) fun r1 =>
Option.bind (bif r1 then some true
else
Option.bind (F_prepare_accepts_1 (TRight.mk (TEnvelope.mk a0.Envelope.Node a0.Envelope.Slot a0.Envelope.Seq (TTrust.mk a0.Envelope.Trust.Threshold a0.Envelope.Trust.Nodes a0.Envelope.Trust.Inner) a0.Envelope.Kind a0.Envelope.Ballot a0.Envelope.Prepared a0.Envelope.Prime a0.Envelope.Low a0.Envelope.High)) a2) fun r2 =>
some r2) fun b3 =>
some b3
theorem e_prepare_Seen_Accepts_1_c102_c109 : fnK K [.fn 102 [.ty (Ty.st .Right), .ref (.ty (Ty.st .Ballot))] (.one Ty.bool) fun a => F_prepare_Seen_ready_1 a.1 a.2.1, .fn 109 [.ty (Ty.st .Right), .ref (.ty (Ty.st .Ballot))] (.one Ty.bool) fun a => F_prepare_accepts_1 a.1 a.2.1] sa_prepare_Seen_Accepts_1_c102_c109 [.tmp 4] [.ty (Ty.st .Right), .ref (.clo 102 [.ref (.ty (Ty.st .Ballot))]), .ref (.clo 109 [.ref (.ty (Ty.st .Ballot))])] (.one Ty.bool) = fun a => F_prepare_Seen_Accepts_1_c102_c109 a.1 a.2.1.1 a.2.2.1.1 := by kernel_rfl
theorem s_prepare_Seen_Accepts_1_c102_c109 : KFun.Sound (U := U) Try.prog (.fn 125 [.ty (Ty.st .Right), .ref (.clo 102 [.ref (.ty (Ty.st .Ballot))]), .ref (.clo 109 [.ref (.ty (Ty.st .Ballot))])] (.one Ty.bool) fun a => F_prepare_Seen_Accepts_1_c102_c109 a.1 a.2.1.1 a.2.2.1.1) := fnK_sound (K := K) (Γ := [.fn 102 [.ty (Ty.st .Right), .ref (.ty (Ty.st .Ballot))] (.one Ty.bool) fun a => F_prepare_Seen_ready_1 a.1 a.2.1, .fn 109 [.ty (Ty.st .Right), .ref (.ty (Ty.st .Ballot))] (.one Ty.bool) fun a => F_prepare_accepts_1 a.1 a.2.1]) ok_prepare_Seen_Accepts_1_c102_c109 (by kernel_rfl) (by decide) ⟨s_prepare_Seen_ready_1, s_prepare_accepts_1, trivial⟩ (fun a => congrFun e_prepare_Seen_Accepts_1_c102_c109 a)

/-! ### (trustquorum/prepare.Seen).Who -/
def sa_prepare_Seen_Who_c125_c102_c109 : SA U :=
 (.seq
  (.reg
  (.op ⟨(some 2), none, .box (.tmp 0)⟩
  (.op ⟨(some 4), none, .mov (.cst (.int .i64 0))⟩
  .nil)))
  (.seq
   (.reg
   (.op ⟨(some 5), none, .mov (.cst (.int .i64 0))⟩
   .nil))
   (.seq
    (.seq
     (.reg
     (.op ⟨(some 8), none, .faddr 2 (.tmp 2)⟩
     (.op ⟨(some 9), none, .load none (.tmp 8)⟩
     (.op ⟨(some 10), none, .len false (.tmp 9)⟩
     (.op ⟨(some 11), none, .mov (.cst (.int .i64 0))⟩
     .nil)))))
     (.block 0
      (.loop ⟨[.val 5 (Ty.i .i64), .val 11 (Ty.i .i64)], [1, 9, 10]⟩
       (.seq
        (.reg
        (.op ⟨(some 12), none, .bin .lss (.tmp 11) (.tmp 10)⟩
        .nil))
        (.seq
         (.cond (.tmp 12)
          .skip
          (.exit 0))
         (.join ⟨[.val 5 (Ty.i .i64)], [1, 9, 10, 11]⟩
          (.block 1
           (.seq
            (.reg
            (.op ⟨(some 13), none, .iaddr 15 (.tmp 9) (.tmp 11)⟩
            (.op ⟨(some 14), none, .load (some 15) (.tmp 13)⟩
            (.op ⟨(some 7), none, .alloc [.int .i64 0, .int .i64 0, .int .i64 0, .int .i64 0, .nils, .nils, .int .i64 0, .int .i64 0, .str ⟨#[]⟩, .int .i64 0, .str ⟨#[]⟩, .int .i64 0, .str ⟨#[]⟩, .int .i64 0, .int .i64 0]⟩
            (.op ⟨none, none, .store 15 (.tmp 7) (.tmp 14)⟩
            .nil)))))
            (.seq
             (.reg
             (.op ⟨(some 15), none, .mov (.tmp 1)⟩
             (.op ⟨(some 16), none, .load (some 15) (.tmp 7)⟩
             (.op ⟨(some 17), none, .callv (.tmp 15) [(.tmp 16)]⟩
             .nil))))
             (.cond (.tmp 17)
              (.reg
              (.op ⟨(some 18), none, .mov (.tmp 5)⟩
              (.op ⟨(some 19), none, .faddr 0 (.tmp 7)⟩
              (.op ⟨(some 20), none, .faddr 0 (.tmp 19)⟩
              (.op ⟨(some 21), none, .load none (.tmp 20)⟩
              (.op ⟨(some 22), none, .bin .shl (.cst (.int .i64 1)) (.tmp 21)⟩
              (.op ⟨(some 23), none, .bin .or (.tmp 18) (.tmp 22)⟩
              (.op ⟨(some 5), none, .mov (.tmp 23)⟩
              .nil))))))))
              .skip))))
          (.reg
          (.op ⟨(some 24), none, .bin .add (.tmp 11) (.cst (.int .i64 1))⟩
          (.op ⟨(some 11), none, .mov (.tmp 24)⟩
          .nil)))))))))
    (.seq
     (.reg
     (.op ⟨(some 25), none, .mov (.tmp 5)⟩
     (.op ⟨(some 4), none, .mov (.tmp 25)⟩
     .nil)))
     .ret))))
theorem ok_prepare_Seen_Who_c125_c102_c109 : FnOk Try.prog 108 26 (SA.erase sa_prepare_Seen_Who_c125_c102_c109) [.tmp 4] := ⟨Try.f108, [], Try.func108, rfl, by kernel_rfl, by kernel_rfl, by kernel_rfl⟩
noncomputable def F_prepare_Seen_Who_c125_c102_c109 (a0 : TSeen) (a1 : TBallot) (a2 : TBallot) : Option Int :=
loopO (fun (v1 : Int × Int × Unit) =>
bif (decide (v1.2.1 < ((List.length a0.Heard : Nat) : Int))) then
letJ (fun (v2 : Int × Unit) =>
some (Sum.inl (v2.1, (addI .i64 v1.2.1 (1 : Int)), ()))) fun j3 =>
Option.bind (idx a0.Heard v1.2.1) fun x4 =>
Option.bind (F_prepare_Seen_Accepts_1_c102_c109 (TRight.mk (TEnvelope.mk x4.Envelope.Node x4.Envelope.Slot x4.Envelope.Seq (TTrust.mk x4.Envelope.Trust.Threshold x4.Envelope.Trust.Nodes x4.Envelope.Trust.Inner) x4.Envelope.Kind x4.Envelope.Ballot x4.Envelope.Prepared x4.Envelope.Prime x4.Envelope.Low x4.Envelope.High)) a1 a2) fun r5 =>
bif r5 then
if x4.Envelope.Node < 0 then none else
j3 ((orI .i64 v1.1 (shlI .i64 (1 : Int) x4.Envelope.Node)), ())
else
j3 (v1.1, ())
else
Option.map Sum.inr (some v1.1)) ((0 : Int), (0 : Int), ())
theorem e_prepare_Seen_Who_c125_c102_c109 : fnK K [.fn 125 [.ty (Ty.st .Right), .ref (.clo 102 [.ref (.ty (Ty.st .Ballot))]), .ref (.clo 109 [.ref (.ty (Ty.st .Ballot))])] (.one Ty.bool) fun a => F_prepare_Seen_Accepts_1_c102_c109 a.1 a.2.1.1 a.2.2.1.1] sa_prepare_Seen_Who_c125_c102_c109 [.tmp 4] [.ty (Ty.st .Seen), .clo 125 [.ref (.clo 102 [.ref (.ty (Ty.st .Ballot))]), .ref (.clo 109 [.ref (.ty (Ty.st .Ballot))])]] (.one (Ty.i .i64)) = fun a => F_prepare_Seen_Who_c125_c102_c109 a.1 a.2.1.1.1 a.2.1.2.1.1 := by kernel_rfl
theorem s_prepare_Seen_Who_c125_c102_c109 : KFun.Sound (U := U) Try.prog (.fn 108 [.ty (Ty.st .Seen), .clo 125 [.ref (.clo 102 [.ref (.ty (Ty.st .Ballot))]), .ref (.clo 109 [.ref (.ty (Ty.st .Ballot))])]] (.one (Ty.i .i64)) fun a => F_prepare_Seen_Who_c125_c102_c109 a.1 a.2.1.1.1 a.2.1.2.1.1) := fnK_sound (K := K) (Γ := [.fn 125 [.ty (Ty.st .Right), .ref (.clo 102 [.ref (.ty (Ty.st .Ballot))]), .ref (.clo 109 [.ref (.ty (Ty.st .Ballot))])] (.one Ty.bool) fun a => F_prepare_Seen_Accepts_1_c102_c109 a.1 a.2.1.1 a.2.2.1.1]) ok_prepare_Seen_Who_c125_c102_c109 (by kernel_rfl) (by decide) ⟨s_prepare_Seen_Accepts_1_c102_c109, trivial⟩ (fun a => congrFun e_prepare_Seen_Who_c125_c102_c109 a)

/-! ### (trustquorum/prepare.Seen).Who -/
def sa_prepare_Seen_Who_c109 : SA U :=
 (.seq
  (.reg
  (.op ⟨(some 2), none, .box (.tmp 0)⟩
  (.op ⟨(some 4), none, .mov (.cst (.int .i64 0))⟩
  .nil)))
  (.seq
   (.reg
   (.op ⟨(some 5), none, .mov (.cst (.int .i64 0))⟩
   .nil))
   (.seq
    (.seq
     (.reg
     (.op ⟨(some 8), none, .faddr 2 (.tmp 2)⟩
     (.op ⟨(some 9), none, .load none (.tmp 8)⟩
     (.op ⟨(some 10), none, .len false (.tmp 9)⟩
     (.op ⟨(some 11), none, .mov (.cst (.int .i64 0))⟩
     .nil)))))
     (.block 0
      (.loop ⟨[.val 5 (Ty.i .i64), .val 11 (Ty.i .i64)], [1, 9, 10]⟩
       (.seq
        (.reg
        (.op ⟨(some 12), none, .bin .lss (.tmp 11) (.tmp 10)⟩
        .nil))
        (.seq
         (.cond (.tmp 12)
          .skip
          (.exit 0))
         (.join ⟨[.val 5 (Ty.i .i64)], [1, 9, 10, 11]⟩
          (.block 1
           (.seq
            (.reg
            (.op ⟨(some 13), none, .iaddr 15 (.tmp 9) (.tmp 11)⟩
            (.op ⟨(some 14), none, .load (some 15) (.tmp 13)⟩
            (.op ⟨(some 7), none, .alloc [.int .i64 0, .int .i64 0, .int .i64 0, .int .i64 0, .nils, .nils, .int .i64 0, .int .i64 0, .str ⟨#[]⟩, .int .i64 0, .str ⟨#[]⟩, .int .i64 0, .str ⟨#[]⟩, .int .i64 0, .int .i64 0]⟩
            (.op ⟨none, none, .store 15 (.tmp 7) (.tmp 14)⟩
            .nil)))))
            (.seq
             (.reg
             (.op ⟨(some 15), none, .mov (.tmp 1)⟩
             (.op ⟨(some 16), none, .load (some 15) (.tmp 7)⟩
             (.op ⟨(some 17), none, .callv (.tmp 15) [(.tmp 16)]⟩
             .nil))))
             (.cond (.tmp 17)
              (.reg
              (.op ⟨(some 18), none, .mov (.tmp 5)⟩
              (.op ⟨(some 19), none, .faddr 0 (.tmp 7)⟩
              (.op ⟨(some 20), none, .faddr 0 (.tmp 19)⟩
              (.op ⟨(some 21), none, .load none (.tmp 20)⟩
              (.op ⟨(some 22), none, .bin .shl (.cst (.int .i64 1)) (.tmp 21)⟩
              (.op ⟨(some 23), none, .bin .or (.tmp 18) (.tmp 22)⟩
              (.op ⟨(some 5), none, .mov (.tmp 23)⟩
              .nil))))))))
              .skip))))
          (.reg
          (.op ⟨(some 24), none, .bin .add (.tmp 11) (.cst (.int .i64 1))⟩
          (.op ⟨(some 11), none, .mov (.tmp 24)⟩
          .nil)))))))))
    (.seq
     (.reg
     (.op ⟨(some 25), none, .mov (.tmp 5)⟩
     (.op ⟨(some 4), none, .mov (.tmp 25)⟩
     .nil)))
     .ret))))
theorem ok_prepare_Seen_Who_c109 : FnOk Try.prog 108 26 (SA.erase sa_prepare_Seen_Who_c109) [.tmp 4] := ⟨Try.f108, [], Try.func108, rfl, by kernel_rfl, by kernel_rfl, by kernel_rfl⟩
noncomputable def F_prepare_Seen_Who_c109 (a0 : TSeen) (a1 : TBallot) : Option Int :=
loopO (fun (v1 : Int × Int × Unit) =>
bif (decide (v1.2.1 < ((List.length a0.Heard : Nat) : Int))) then
letJ (fun (v2 : Int × Unit) =>
some (Sum.inl (v2.1, (addI .i64 v1.2.1 (1 : Int)), ()))) fun j3 =>
Option.bind (idx a0.Heard v1.2.1) fun x4 =>
Option.bind (F_prepare_accepts_1 (TRight.mk (TEnvelope.mk x4.Envelope.Node x4.Envelope.Slot x4.Envelope.Seq (TTrust.mk x4.Envelope.Trust.Threshold x4.Envelope.Trust.Nodes x4.Envelope.Trust.Inner) x4.Envelope.Kind x4.Envelope.Ballot x4.Envelope.Prepared x4.Envelope.Prime x4.Envelope.Low x4.Envelope.High)) a1) fun r5 =>
bif r5 then
if x4.Envelope.Node < 0 then none else
j3 ((orI .i64 v1.1 (shlI .i64 (1 : Int) x4.Envelope.Node)), ())
else
j3 (v1.1, ())
else
Option.map Sum.inr (some v1.1)) ((0 : Int), (0 : Int), ())
theorem e_prepare_Seen_Who_c109 : fnK K [.fn 109 [.ty (Ty.st .Right), .ref (.ty (Ty.st .Ballot))] (.one Ty.bool) fun a => F_prepare_accepts_1 a.1 a.2.1] sa_prepare_Seen_Who_c109 [.tmp 4] [.ty (Ty.st .Seen), .clo 109 [.ref (.ty (Ty.st .Ballot))]] (.one (Ty.i .i64)) = fun a => F_prepare_Seen_Who_c109 a.1 a.2.1.1 := by kernel_rfl
theorem s_prepare_Seen_Who_c109 : KFun.Sound (U := U) Try.prog (.fn 108 [.ty (Ty.st .Seen), .clo 109 [.ref (.ty (Ty.st .Ballot))]] (.one (Ty.i .i64)) fun a => F_prepare_Seen_Who_c109 a.1 a.2.1.1) := fnK_sound (K := K) (Γ := [.fn 109 [.ty (Ty.st .Right), .ref (.ty (Ty.st .Ballot))] (.one Ty.bool) fun a => F_prepare_accepts_1 a.1 a.2.1]) ok_prepare_Seen_Who_c109 (by kernel_rfl) (by decide) ⟨s_prepare_accepts_1, trivial⟩ (fun a => congrFun e_prepare_Seen_Who_c109 a)

/-! ### trustquorum/configuration.Declared -/
def sa_configuration_Declared : SA U :=
 (.seq
  (.reg
  (.op ⟨(some 1), none, .box (.tmp 0)⟩
  (.op ⟨(some 2), none, .mov (.cst (.int .i64 0))⟩
  .nil)))
  (.seq
   (.reg
   (.op ⟨(some 3), none, .mov (.cst (.int .i64 0))⟩
   .nil))
   (.seq
    (.seq
     (.reg
     (.op ⟨(some 6), none, .faddr 0 (.tmp 1)⟩
     (.op ⟨(some 7), none, .load none (.tmp 6)⟩
     (.op ⟨(some 8), none, .len false (.tmp 7)⟩
     (.op ⟨(some 9), none, .mov (.cst (.int .i64 0))⟩
     .nil)))))
     (.block 0
      (.loop ⟨[.val 3 (Ty.i .i64), .val 9 (Ty.i .i64)], [7, 8]⟩
       (.seq
        (.reg
        (.op ⟨(some 10), none, .bin .lss (.tmp 9) (.tmp 8)⟩
        .nil))
        (.seq
         (.cond (.tmp 10)
          .skip
          (.exit 0))
         (.join ⟨[.val 3 (Ty.i .i64)], [7, 8, 9]⟩
          (.block 1
           (.seq
            (.reg
            (.op ⟨(some 11), none, .mov (.tmp 9)⟩
            (.op ⟨(some 12), none, .iaddr 4 (.tmp 7) (.tmp 9)⟩
            (.op ⟨(some 13), none, .load (some 4) (.tmp 12)⟩
            (.op ⟨(some 5), none, .alloc [.bool false, .int .i64 0, .nils, .nils]⟩
            (.op ⟨(some 4), none, .mov (.tmp 11)⟩
            (.op ⟨none, none, .store 4 (.tmp 5) (.tmp 13)⟩
            .nil)))))))
            (.seq
             (.reg
             (.op ⟨(some 14), none, .faddr 0 (.tmp 5)⟩
             (.op ⟨(some 15), none, .load none (.tmp 14)⟩
             (.op ⟨(some 16), none, .mov (.tmp 15)⟩
             (.ite 16 true
              (.op ⟨(some 17), (some (16, true)), .mov (.tmp 4)⟩
              (.op ⟨(some 18), (some (16, true)), .bin .lss (.tmp 17) (.cst (.int .i64 10))⟩
              .nil))
              19 none (.tmp 18) (.cst (.bool false))
             .nil)))))
             (.cond (.tmp 19)
              (.reg
              (.op ⟨(some 20), none, .mov (.tmp 3)⟩
              (.op ⟨(some 21), none, .mov (.tmp 4)⟩
              (.op ⟨(some 22), none, .bin .shl (.cst (.int .i64 1)) (.tmp 21)⟩
              (.op ⟨(some 23), none, .bin .or (.tmp 20) (.tmp 22)⟩
              (.op ⟨(some 3), none, .mov (.tmp 23)⟩
              .nil))))))
              .skip))))
          (.reg
          (.op ⟨(some 24), none, .bin .add (.tmp 9) (.cst (.int .i64 1))⟩
          (.op ⟨(some 9), none, .mov (.tmp 24)⟩
          .nil)))))))))
    (.seq
     (.reg
     (.op ⟨(some 25), none, .mov (.tmp 3)⟩
     (.op ⟨(some 2), none, .mov (.tmp 25)⟩
     .nil)))
     .ret))))
theorem ok_configuration_Declared : FnOk Try.prog 146 26 (SA.erase sa_configuration_Declared) [.tmp 2] := ⟨Try.f146, [], Try.func146, rfl, by kernel_rfl, by kernel_rfl, by kernel_rfl⟩
noncomputable def F_configuration_Declared (a0 : TConfig) : Option Int :=
loopO (fun (v1 : Int × Int × Unit) =>
bif (decide (v1.2.1 < ((List.length a0.Members : Nat) : Int))) then
letJ (fun (v2 : Int × Unit) =>
some (Sum.inl (v2.1, (addI .i64 v1.2.1 (1 : Int)), ()))) fun j3 =>
Option.bind (idx a0.Members v1.2.1) fun x4 =>
Option.bind (bif x4.Declared then
some (decide (v1.2.1 < (10 : Int)))
else some false) fun b5 =>
bif b5 then
if v1.2.1 < 0 then none else
j3 ((orI .i64 v1.1 (shlI .i64 (1 : Int) v1.2.1)), ())
else
j3 (v1.1, ())
else
Option.map Sum.inr (some v1.1)) ((0 : Int), (0 : Int), ())
theorem e_configuration_Declared : fnK K [] sa_configuration_Declared [.tmp 2] [.ty (Ty.st .Config)] (.one (Ty.i .i64)) = fun a => F_configuration_Declared a.1 := by kernel_rfl
theorem s_configuration_Declared : KFun.Sound (U := U) Try.prog (.fn 146 [.ty (Ty.st .Config)] (.one (Ty.i .i64)) fun a => F_configuration_Declared a.1) := fnK_sound (K := K) (Γ := []) ok_configuration_Declared (by kernel_rfl) (by decide) trivial (fun a => congrFun e_configuration_Declared a)

end Go.Proofs.Ytncjalhhkmojlaa
