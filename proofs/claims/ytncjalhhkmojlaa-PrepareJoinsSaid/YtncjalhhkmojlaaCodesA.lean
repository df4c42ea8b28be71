/-
  The resolved code of functions of the program, each held against the program by the kernel. Printed by a program.
-/
import Derived.Test.YtncjalhhkmojlaaFun
import Derived.Test.YtncjalhhkmojlaaProg
import Derived.KernelRfl
namespace Go.Proofs.Ytncjalhhkmojlaa
open Go.TQ

/-- trustquorum/trustquorumlaw24.EnvelopesConsistent -/
def c_trustquorumlaw24_EnvelopesConsistent : SC :=
  (.seq
   (.reg
     [⟨(some 4), none, .mov (.cst (.bool false))⟩])
   (.seq
    (.reg
      [⟨(some 10), none, .mov (.tmp 0)⟩,
      ⟨(some 11), none, .call 11 [(.tmp 10)]⟩,
      ⟨(some 5), none, .mov (.tmp 11)⟩])
    (.seq
     (.reg
       [⟨(some 12), none, .mov (.tmp 5)⟩,
       ⟨(some 13), none, .mov (.tmp 5)⟩,
       ⟨(some 14), none, .call 13 [(.tmp 13), (.cst (.int .i64 5))]⟩,
       ⟨(some 15), none, .call 12 [(.tmp 12), (.tmp 14), (.cst (.int .i64 1)), (.cst (.int .i64 5))]⟩,
       ⟨(some 6), none, .alloc [.int .i64 0, .int .i64 0, .int .i64 0, .int .i64 0, .nils, .nils, .int .i64 0, .int .i64 0, .str ⟨#[]⟩, .int .i64 0, .str ⟨#[]⟩, .int .i64 0, .str ⟨#[]⟩, .int .i64 0, .int .i64 0]⟩,
       ⟨none, none, .store 15 (.tmp 6) (.tmp 15)⟩])
     (.seq
      (.reg
        [⟨(some 16), none, .mov (.tmp 1)⟩,
        ⟨(some 17), none, .conv .i64 (.tmp 16)⟩,
        ⟨(some 18), none, .bin .rem (.tmp 17) (.cst (.int .i64 8))⟩,
        ⟨(some 19), none, .bin .add (.cst (.int .i64 1)) (.tmp 18)⟩,
        ⟨(some 20), none, .mov (.tmp 5)⟩,
        ⟨(some 21), none, .call 14 [(.tmp 20)]⟩,
        ⟨(some 7), none, .mov (.tmp 19)⟩,
        ⟨(some 8), none, .mov (.tmp 21)⟩])
      (.seq
       (.seq
        (.reg
          [⟨(some 22), none, .load (some 15) (.tmp 6)⟩,
          ⟨(some 23), none, .mov (.tmp 8)⟩,
          ⟨(some 24), none, .mov (.tmp 7)⟩,
          ⟨(some 25), none, .mov (.tmp 7)⟩,
          ⟨(some 26), none, .call 15 [(.tmp 22), (.tmp 23), (.tmp 24), (.tmp 25)]⟩,
          ⟨(some 27), none, .not (.tmp 26)⟩,
          ⟨(some 28), none, .mov (.tmp 27)⟩,
          ⟨(some 29), (some (28, false)), .faddr 6 (.tmp 6)⟩,
          ⟨(some 30), (some (28, false)), .load none (.tmp 29)⟩,
          ⟨(some 31), (some (28, false)), .bin .neq (.tmp 30) (.cst (.int .i64 1))⟩,
          ⟨(some 32), none, .pick (.tmp 28) (.cst (.bool true)) (.tmp 31)⟩])
        (.cond (.tmp 32)
         (.seq
          (.reg
            [⟨(some 33), none, .call 16 []⟩,
            ⟨(some 4), none, .mov (.tmp 33)⟩])
          .ret)
         .skip))
       (.seq
        (.reg
          [⟨(some 34), none, .mov (.tmp 7)⟩,
          ⟨(some 35), none, .mov (.tmp 8)⟩,
          ⟨(some 36), none, .build [.int .i64 0, .str ⟨#[]⟩] [(0, 1, (.tmp 34)), (1, 1, (.tmp 35))]⟩,
          ⟨(some 9), none, .alloc [.int .i64 0, .str ⟨#[]⟩]⟩,
          ⟨none, none, .store 2 (.tmp 9) (.tmp 36)⟩])
        (.seq
         (.reg
           [⟨(some 37), none, .faddr 9 (.tmp 6)⟩,
           ⟨(some 38), none, .load (some 2) (.tmp 37)⟩,
           ⟨(some 39), none, .load (some 2) (.tmp 9)⟩,
           ⟨(some 40), none, .call 17 [(.tmp 38), (.tmp 39)]⟩,
           ⟨(some 41), none, .not (.tmp 40)⟩,
           ⟨(some 42), none, .mov (.tmp 41)⟩,
           ⟨(some 43), (some (42, true)), .faddr 11 (.tmp 6)⟩,
           ⟨(some 44), (some (42, true)), .load (some 2) (.tmp 43)⟩,
           ⟨(some 45), (some (42, true)), .load (some 2) (.tmp 9)⟩,
           ⟨(some 46), (some (42, true)), .call 17 [(.tmp 44), (.tmp 45)]⟩,
           ⟨(some 47), (some (42, true)), .not (.tmp 46)⟩,
           ⟨(some 48), none, .pick (.tmp 42) (.tmp 47) (.cst (.bool false))⟩,
           ⟨(some 49), none, .mov (.tmp 48)⟩,
           ⟨(some 50), (some (49, true)), .call 16 []⟩,
           ⟨(some 51), none, .pick (.tmp 49) (.tmp 50) (.cst (.bool false))⟩,
           ⟨(some 4), none, .mov (.tmp 51)⟩])
         .ret)))))))
theorem ok_trustquorumlaw24_EnvelopesConsistent : FnOk Try.prog 3 52 c_trustquorumlaw24_EnvelopesConsistent [.tmp 4] :=
  ⟨Try.f3, [], Try.func3, rfl, by kernel_rfl, by kernel_rfl, by kernel_rfl⟩

/-- trustquorum/trustquorumlaw25.PrepareJoins -/
def c_trustquorumlaw25_PrepareJoins : SC :=
  (.seq
   (.reg
     [⟨(some 2), none, .mov (.cst (.bool false))⟩])
   (.seq
    (.reg
      [⟨(some 11), none, .mov (.tmp 0)⟩,
      ⟨(some 12), none, .call 11 [(.tmp 11)]⟩,
      ⟨(some 3), none, .mov (.tmp 12)⟩])
    (.seq
     (.reg
       [⟨(some 4), none, .alloc [.int .i64 0, .str ⟨#[]⟩]⟩,
       ⟨(some 5), none, .alloc [.int .i64 0, .str ⟨#[]⟩]⟩])
     (.seq
      (.reg
        [⟨(some 6), none, .mov (.cst (.nils))⟩])
      (.seq
       (.seq
        (.reg
          [⟨(some 13), none, .mov (.tmp 3)⟩,
          ⟨(some 14), none, .call 13 [(.tmp 13), (.cst (.int .i64 8))]⟩,
          ⟨(some 7), none, .mov (.tmp 14)⟩])
        (.block 0
         (.loop
          (.seq
           (.seq
            (.reg
              [⟨(some 15), none, .mov (.tmp 7)⟩,
              ⟨(some 16), none, .bin .gtr (.tmp 15) (.cst (.int .i64 0))⟩])
            (.cond (.tmp 16)
             .skip
             (.exit 0)))
           (.seq
            (.block 1
             (.seq
              (.reg
                [⟨(some 19), none, .mov (.tmp 3)⟩,
                ⟨(some 20), none, .call 18 [(.tmp 19)]⟩,
                ⟨(some 8), none, .alloc [.int .i64 0, .str ⟨#[]⟩]⟩,
                ⟨none, none, .store 2 (.tmp 8) (.tmp 20)⟩])
              (.seq
               (.reg
                 [⟨(some 22), none, .load (some 2) (.tmp 4)⟩,
                 ⟨(some 23), none, .load (some 2) (.tmp 5)⟩,
                 ⟨(some 24), none, .load (some 2) (.tmp 8)⟩,
                 ⟨(some 25), none, .call 19 [(.tmp 22), (.tmp 23), (.tmp 24)]⟩,
                 ⟨(some 21), none, .mov (.tmp 25)⟩,
                 ⟨(some 26), none, .extr 0 (.tmp 21)⟩,
                 ⟨(some 27), none, .extr 1 (.tmp 21)⟩,
                 ⟨none, none, .store 2 (.tmp 4) (.tmp 26)⟩,
                 ⟨none, none, .store 2 (.tmp 5) (.tmp 27)⟩])
               (.seq
                (.reg
                  [⟨(some 28), none, .mov (.tmp 6)⟩,
                  ⟨(some 29), none, .load (some 2) (.tmp 8)⟩,
                  ⟨(some 30), none, .bsl false 29 2 (List.replicate 1 [.int .i64 0, .str ⟨#[]⟩]) [(0, (.tmp 29))]⟩,
                  ⟨(some 31), none, .app 29 2 24 (.tmp 28) (.tmp 30)⟩,
                  ⟨(some 6), none, .mov (.tmp 31)⟩])
                (.seq
                 (.seq
                  (.reg
                    [⟨(some 32), none, .load (some 2) (.tmp 4)⟩,
                    ⟨(some 33), none, .call 20 [(.tmp 32)]⟩,
                    ⟨(some 34), none, .mov (.tmp 33)⟩,
                    ⟨(some 35), (some (34, false)), .load (some 2) (.tmp 5)⟩,
                    ⟨(some 36), (some (34, false)), .call 20 [(.tmp 35)]⟩,
                    ⟨(some 37), (some (34, false)), .not (.tmp 36)⟩,
                    ⟨(some 38), (some (34, false)), .mov (.tmp 37)⟩,
                    ⟨(some 39), (some (38, true)), .load (some 2) (.tmp 5)⟩,
                    ⟨(some 40), (some (38, true)), .load (some 2) (.tmp 4)⟩,
                    ⟨(some 41), (some (38, true)), .call 21 [(.tmp 39), (.tmp 40)]⟩,
                    ⟨(some 42), (some (38, true)), .not (.tmp 41)⟩,
                    ⟨(some 43), (some (38, true)), .mov (.tmp 42)⟩,
                    ⟨(some 44), (some (43, false)), .load (some 2) (.tmp 5)⟩,
                    ⟨(some 45), (some (43, false)), .load (some 2) (.tmp 4)⟩,
                    ⟨(some 46), (some (43, false)), .call 22 [(.tmp 44), (.tmp 45)]⟩,
                    ⟨(some 47), (some (38, true)), .pick (.tmp 43) (.cst (.bool true)) (.tmp 46)⟩,
                    ⟨(some 48), (some (34, false)), .pick (.tmp 38) (.tmp 47) (.cst (.bool false))⟩,
                    ⟨(some 49), none, .pick (.tmp 34) (.cst (.bool true)) (.tmp 48)⟩])
                  (.cond (.tmp 49)
                   (.seq
                    (.reg
                      [⟨(some 2), none, .mov (.cst (.bool false))⟩])
                    .ret)
                   .skip))
                 (.seq
                  (.reg
                    [⟨(some 50), none, .mov (.tmp 6)⟩,
                    ⟨(some 51), none, .len false (.tmp 50)⟩,
                    ⟨(some 52), none, .mov (.cst (.int .i64 0))⟩])
                  (.block 2
                   (.loop
                    (.seq
                     (.reg
                       [⟨(some 53), none, .bin .lss (.tmp 52) (.tmp 51)⟩])
                     (.seq
                      (.cond (.tmp 53)
                       .skip
                       (.exit 2))
                      (.seq
                       (.block 3
                        (.seq
                         (.reg
                           [⟨(some 54), none, .iaddr 2 (.tmp 50) (.tmp 52)⟩,
                           ⟨(some 55), none, .load (some 2) (.tmp 54)⟩,
                           ⟨(some 10), none, .alloc [.int .i64 0, .str ⟨#[]⟩]⟩,
                           ⟨none, none, .store 2 (.tmp 10) (.tmp 55)⟩])
                         (.seq
                          (.reg
                            [⟨(some 56), none, .load (some 2) (.tmp 4)⟩,
                            ⟨(some 57), none, .load (some 2) (.tmp 5)⟩,
                            ⟨(some 58), none, .load (some 2) (.tmp 10)⟩,
                            ⟨(some 59), none, .call 23 [(.tmp 56), (.tmp 57), (.tmp 58)]⟩,
                            ⟨(some 60), none, .not (.tmp 59)⟩])
                          (.cond (.tmp 60)
                           (.seq
                            (.reg
                              [⟨(some 2), none, .mov (.cst (.bool false))⟩])
                            .ret)
                           .skip))))
                       (.reg
                         [⟨(some 61), none, .bin .add (.tmp 52) (.cst (.int .i64 1))⟩,
                         ⟨(some 52), none, .mov (.tmp 61)⟩]))))))))))))
            (.reg
              [⟨(some 17), none, .mov (.tmp 7)⟩,
              ⟨(some 18), none, .bin .sub (.tmp 17) (.cst (.int .i64 1))⟩,
              ⟨(some 7), none, .mov (.tmp 18)⟩]))))))
       (.seq
        (.reg
          [⟨(some 62), none, .mov (.tmp 6)⟩,
          ⟨(some 63), none, .len false (.tmp 62)⟩,
          ⟨(some 64), none, .bin .gtr (.tmp 63) (.cst (.int .i64 0))⟩,
          ⟨(some 65), none, .mov (.tmp 64)⟩,
          ⟨(some 66), (some (65, false)), .load (some 2) (.tmp 4)⟩,
          ⟨(some 67), (some (65, false)), .call 20 [(.tmp 66)]⟩,
          ⟨(some 68), none, .pick (.tmp 65) (.cst (.bool true)) (.tmp 67)⟩,
          ⟨(some 69), none, .mov (.tmp 68)⟩,
          ⟨(some 70), (some (69, true)), .call 24 []⟩,
          ⟨(some 71), none, .pick (.tmp 69) (.tmp 70) (.cst (.bool false))⟩,
          ⟨(some 2), none, .mov (.tmp 71)⟩])
        .ret))))))
theorem ok_trustquorumlaw25_PrepareJoins : FnOk Try.prog 4 72 c_trustquorumlaw25_PrepareJoins [.tmp 2] :=
  ⟨Try.f4, [], Try.func4, rfl, by kernel_rfl, by kernel_rfl, by kernel_rfl⟩

/-- trustquorum/trustquorumlaw24.EnvelopesImply -/
def c_trustquorumlaw24_EnvelopesImply : SC :=
  (.seq
   (.reg
     [⟨(some 2), none, .mov (.cst (.bool false))⟩])
   (.seq
    (.reg
      [⟨(some 13), none, .mov (.tmp 0)⟩,
      ⟨(some 14), none, .call 11 [(.tmp 13)]⟩,
      ⟨(some 3), none, .mov (.tmp 14)⟩])
    (.seq
     (.reg
       [⟨(some 15), none, .mov (.tmp 3)⟩,
       ⟨(some 16), none, .mov (.tmp 3)⟩,
       ⟨(some 17), none, .call 13 [(.tmp 16), (.cst (.int .i64 5))]⟩,
       ⟨(some 18), none, .call 12 [(.tmp 15), (.tmp 17), (.cst (.int .i64 1)), (.cst (.int .i64 5))]⟩,
       ⟨(some 4), none, .alloc [.int .i64 0, .int .i64 0, .int .i64 0, .int .i64 0, .nils, .nils, .int .i64 0, .int .i64 0, .str ⟨#[]⟩, .int .i64 0, .str ⟨#[]⟩, .int .i64 0, .str ⟨#[]⟩, .int .i64 0, .int .i64 0]⟩,
       ⟨none, none, .store 15 (.tmp 4) (.tmp 18)⟩])
     (.seq
      (.seq
       (.reg
         [⟨(some 19), none, .load (some 15) (.tmp 4)⟩,
         ⟨(some 20), none, .call 25 [(.tmp 19)]⟩,
         ⟨(some 21), none, .not (.tmp 20)⟩])
       (.cond (.tmp 21)
        (.seq
         (.reg
           [⟨(some 2), none, .mov (.cst (.bool false))⟩])
         .ret)
        .skip))
      (.seq
       (.reg
         [⟨(some 22), none, .mov (.tmp 3)⟩,
         ⟨(some 23), none, .call 26 [(.tmp 22), (.cst (.int .i64 1)), (.cst (.int .i64 6))]⟩,
         ⟨(some 5), none, .mov (.tmp 23)⟩])
       (.seq
        (.reg
          [⟨(some 24), none, .mov (.tmp 5)⟩,
          ⟨(some 25), none, .mov (.tmp 3)⟩,
          ⟨(some 26), none, .call 13 [(.tmp 25), (.cst (.int .i64 4))]⟩,
          ⟨(some 27), none, .bin .add (.tmp 24) (.tmp 26)⟩,
          ⟨(some 6), none, .mov (.tmp 27)⟩])
        (.seq
         (.reg
           [⟨(some 28), none, .mov (.tmp 3)⟩,
           ⟨(some 29), none, .mov (.tmp 5)⟩,
           ⟨(some 30), none, .mov (.tmp 6)⟩,
           ⟨(some 31), none, .call 26 [(.tmp 28), (.tmp 29), (.tmp 30)]⟩,
           ⟨(some 32), none, .mov (.tmp 6)⟩,
           ⟨(some 7), none, .mov (.tmp 31)⟩,
           ⟨(some 8), none, .mov (.tmp 32)⟩])
         (.seq
          (.reg
            [⟨(some 33), none, .mov (.tmp 3)⟩,
            ⟨(some 34), none, .call 14 [(.tmp 33)]⟩,
            ⟨(some 35), none, .mov (.tmp 3)⟩,
            ⟨(some 36), none, .call 14 [(.tmp 35)]⟩,
            ⟨(some 9), none, .mov (.tmp 34)⟩,
            ⟨(some 10), none, .mov (.tmp 36)⟩])
          (.seq
           (.reg
             [⟨(some 37), none, .mov (.tmp 3)⟩,
             ⟨(some 38), none, .call 18 [(.tmp 37)]⟩,
             ⟨(some 39), none, .mov (.tmp 3)⟩,
             ⟨(some 40), none, .call 18 [(.tmp 39)]⟩,
             ⟨(some 11), none, .alloc [.int .i64 0, .str ⟨#[]⟩]⟩,
             ⟨(some 12), none, .alloc [.int .i64 0, .str ⟨#[]⟩]⟩,
             ⟨none, none, .store 2 (.tmp 11) (.tmp 38)⟩,
             ⟨none, none, .store 2 (.tmp 12) (.tmp 40)⟩])
           (.seq
            (.seq
             (.reg
               [⟨(some 41), none, .load (some 15) (.tmp 4)⟩,
               ⟨(some 42), none, .mov (.tmp 9)⟩,
               ⟨(some 43), none, .mov (.tmp 5)⟩,
               ⟨(some 44), none, .mov (.tmp 6)⟩,
               ⟨(some 45), none, .call 27 [(.tmp 41), (.tmp 42), (.tmp 43), (.tmp 44)]⟩,
               ⟨(some 46), none, .mov (.tmp 45)⟩,
               ⟨(some 47), (some (46, true)), .load (some 15) (.tmp 4)⟩,
               ⟨(some 48), (some (46, true)), .mov (.tmp 9)⟩,
               ⟨(some 49), (some (46, true)), .mov (.tmp 5)⟩,
               ⟨(some 50), (some (46, true)), .mov (.tmp 6)⟩,
               ⟨(some 51), (some (46, true)), .call 15 [(.tmp 47), (.tmp 48), (.tmp 49), (.tmp 50)]⟩,
               ⟨(some 52), (some (46, true)), .not (.tmp 51)⟩,
               ⟨(some 53), none, .pick (.tmp 46) (.tmp 52) (.cst (.bool false))⟩,
               ⟨(some 54), none, .mov (.tmp 53)⟩,
               ⟨(some 55), (some (54, false)), .load (some 15) (.tmp 4)⟩,
               ⟨(some 56), (some (54, false)), .mov (.tmp 9)⟩,
               ⟨(some 57), (some (54, false)), .mov (.tmp 5)⟩,
               ⟨(some 58), (some (54, false)), .mov (.tmp 6)⟩,
               ⟨(some 59), (some (54, false)), .call 15 [(.tmp 55), (.tmp 56), (.tmp 57), (.tmp 58)]⟩,
               ⟨(some 60), (some (54, false)), .mov (.tmp 59)⟩,
               ⟨(some 61), (some (60, true)), .load (some 15) (.tmp 4)⟩,
               ⟨(some 62), (some (60, true)), .mov (.tmp 9)⟩,
               ⟨(some 63), (some (60, true)), .mov (.tmp 7)⟩,
               ⟨(some 64), (some (60, true)), .mov (.tmp 8)⟩,
               ⟨(some 65), (some (60, true)), .call 15 [(.tmp 61), (.tmp 62), (.tmp 63), (.tmp 64)]⟩,
               ⟨(some 66), (some (60, true)), .not (.tmp 65)⟩,
               ⟨(some 67), (some (54, false)), .pick (.tmp 60) (.tmp 66) (.cst (.bool false))⟩,
               ⟨(some 68), none, .pick (.tmp 54) (.cst (.bool true)) (.tmp 67)⟩,
               ⟨(some 69), none, .mov (.tmp 68)⟩,
               ⟨(some 70), (some (69, false)), .load (some 15) (.tmp 4)⟩,
               ⟨(some 71), (some (69, false)), .mov (.tmp 9)⟩,
               ⟨(some 72), (some (69, false)), .mov (.tmp 5)⟩,
               ⟨(some 73), (some (69, false)), .mov (.tmp 6)⟩,
               ⟨(some 74), (some (69, false)), .call 27 [(.tmp 70), (.tmp 71), (.tmp 72), (.tmp 73)]⟩,
               ⟨(some 75), (some (69, false)), .mov (.tmp 74)⟩,
               ⟨(some 76), (some (75, true)), .load (some 15) (.tmp 4)⟩,
               ⟨(some 77), (some (75, true)), .mov (.tmp 9)⟩,
               ⟨(some 78), (some (75, true)), .mov (.tmp 7)⟩,
               ⟨(some 79), (some (75, true)), .mov (.tmp 8)⟩,
               ⟨(some 80), (some (75, true)), .call 27 [(.tmp 76), (.tmp 77), (.tmp 78), (.tmp 79)]⟩,
               ⟨(some 81), (some (75, true)), .not (.tmp 80)⟩,
               ⟨(some 82), (some (69, false)), .pick (.tmp 75) (.tmp 81) (.cst (.bool false))⟩,
               ⟨(some 83), none, .pick (.tmp 69) (.cst (.bool true)) (.tmp 82)⟩])
             (.cond (.tmp 83)
              (.seq
               (.reg
                 [⟨(some 2), none, .mov (.cst (.bool false))⟩])
               .ret)
              .skip))
            (.seq
             (.seq
              (.reg
                [⟨(some 84), none, .mov (.tmp 9)⟩,
                ⟨(some 85), none, .mov (.tmp 10)⟩,
                ⟨(some 86), none, .bin .neq (.tmp 84) (.tmp 85)⟩,
                ⟨(some 87), none, .mov (.tmp 86)⟩,
                ⟨(some 88), (some (87, true)), .load (some 15) (.tmp 4)⟩,
                ⟨(some 89), (some (87, true)), .mov (.tmp 9)⟩,
                ⟨(some 90), (some (87, true)), .mov (.tmp 5)⟩,
                ⟨(some 91), (some (87, true)), .mov (.tmp 6)⟩,
                ⟨(some 92), (some (87, true)), .call 15 [(.tmp 88), (.tmp 89), (.tmp 90), (.tmp 91)]⟩,
                ⟨(some 93), none, .pick (.tmp 87) (.tmp 92) (.cst (.bool false))⟩,
                ⟨(some 94), none, .mov (.tmp 93)⟩,
                ⟨(some 95), (some (94, true)), .load (some 15) (.tmp 4)⟩,
                ⟨(some 96), (some (94, true)), .mov (.tmp 10)⟩,
                ⟨(some 97), (some (94, true)), .mov (.tmp 5)⟩,
                ⟨(some 98), (some (94, true)), .mov (.tmp 6)⟩,
                ⟨(some 99), (some (94, true)), .call 15 [(.tmp 95), (.tmp 96), (.tmp 97), (.tmp 98)]⟩,
                ⟨(some 100), none, .pick (.tmp 94) (.tmp 99) (.cst (.bool false))⟩])
              (.cond (.tmp 100)
               (.seq
                (.reg
                  [⟨(some 2), none, .mov (.cst (.bool false))⟩])
                .ret)
               .skip))
             (.seq
              (.reg
                [⟨(some 101), none, .load (some 15) (.tmp 4)⟩,
                ⟨(some 102), none, .load (some 2) (.tmp 11)⟩,
                ⟨(some 103), none, .call 28 [(.tmp 101), (.tmp 102)]⟩,
                ⟨(some 104), none, .not (.tmp 103)⟩,
                ⟨(some 105), none, .mov (.tmp 104)⟩,
                ⟨(some 106), (some (105, false)), .load (some 2) (.tmp 11)⟩,
                ⟨(some 107), (some (105, false)), .load (some 2) (.tmp 12)⟩,
                ⟨(some 108), (some (105, false)), .call 29 [(.tmp 106), (.tmp 107)]⟩,
                ⟨(some 109), (some (105, false)), .not (.tmp 108)⟩,
                ⟨(some 110), none, .pick (.tmp 105) (.cst (.bool true)) (.tmp 109)⟩,
                ⟨(some 111), none, .mov (.tmp 110)⟩,
                ⟨(some 112), (some (111, false)), .load (some 15) (.tmp 4)⟩,
                ⟨(some 113), (some (111, false)), .load (some 2) (.tmp 12)⟩,
                ⟨(some 114), (some (111, false)), .call 28 [(.tmp 112), (.tmp 113)]⟩,
                ⟨(some 115), none, .pick (.tmp 111) (.cst (.bool true)) (.tmp 114)⟩,
                ⟨(some 116), none, .mov (.tmp 115)⟩,
                ⟨(some 117), (some (116, true)), .load (some 15) (.tmp 4)⟩,
                ⟨(some 118), (some (116, true)), .load (some 2) (.tmp 11)⟩,
                ⟨(some 119), (some (116, true)), .call 30 [(.tmp 117), (.tmp 118)]⟩,
                ⟨(some 120), (some (116, true)), .not (.tmp 119)⟩,
                ⟨(some 121), (some (116, true)), .mov (.tmp 120)⟩,
                ⟨(some 122), (some (121, false)), .load (some 2) (.tmp 11)⟩,
                ⟨(some 123), (some (121, false)), .load (some 2) (.tmp 12)⟩,
                ⟨(some 124), (some (121, false)), .call 29 [(.tmp 122), (.tmp 123)]⟩,
                ⟨(some 125), (some (121, false)), .not (.tmp 124)⟩,
                ⟨(some 126), (some (116, true)), .pick (.tmp 121) (.cst (.bool true)) (.tmp 125)⟩,
                ⟨(some 127), (some (116, true)), .mov (.tmp 126)⟩,
                ⟨(some 128), (some (127, false)), .load (some 15) (.tmp 4)⟩,
                ⟨(some 129), (some (127, false)), .load (some 2) (.tmp 12)⟩,
                ⟨(some 130), (some (127, false)), .call 30 [(.tmp 128), (.tmp 129)]⟩,
                ⟨(some 131), (some (116, true)), .pick (.tmp 127) (.cst (.bool true)) (.tmp 130)⟩,
                ⟨(some 132), none, .pick (.tmp 116) (.tmp 131) (.cst (.bool false))⟩,
                ⟨(some 133), none, .mov (.tmp 132)⟩,
                ⟨(some 134), (some (133, true)), .call 16 []⟩,
                ⟨(some 135), none, .pick (.tmp 133) (.tmp 134) (.cst (.bool false))⟩,
                ⟨(some 2), none, .mov (.tmp 135)⟩])
              .ret))))))))))))
theorem ok_trustquorumlaw24_EnvelopesImply : FnOk Try.prog 5 136 c_trustquorumlaw24_EnvelopesImply [.tmp 2] :=
  ⟨Try.f5, [], Try.func5, rfl, by kernel_rfl, by kernel_rfl, by kernel_rfl⟩

/-- trustquorum/trustquorumlaw24.EnvelopesForever -/
def c_trustquorumlaw24_EnvelopesForever : SC :=
  (.seq
   (.reg
     [⟨(some 6), none, .mov (.cst (.bool false))⟩])
   (.seq
    (.reg
      [⟨(some 14), none, .mov (.tmp 0)⟩,
      ⟨(some 15), none, .call 11 [(.tmp 14)]⟩,
      ⟨(some 7), none, .mov (.tmp 15)⟩])
    (.seq
     (.reg
       [⟨(some 16), none, .mov (.tmp 7)⟩,
       ⟨(some 17), none, .call 14 [(.tmp 16)]⟩,
       ⟨(some 8), none, .mov (.tmp 17)⟩])
     (.seq
      (.reg
        [⟨(some 18), none, .mov (.tmp 7)⟩,
        ⟨(some 19), none, .call 26 [(.tmp 18), (.cst (.int .i64 1)), (.cst (.int .i64 5))]⟩,
        ⟨(some 9), none, .mov (.tmp 19)⟩])
      (.seq
       (.reg
         [⟨(some 20), none, .mov (.tmp 7)⟩,
         ⟨(some 21), none, .call 13 [(.tmp 20), (.cst (.int .i64 5))]⟩,
         ⟨(some 22), none, .mov (.tmp 7)⟩,
         ⟨(some 23), none, .call 31 [(.tmp 22), (.cst (.int .i64 5))]⟩,
         ⟨(some 24), none, .mov (.tmp 9)⟩,
         ⟨(some 25), none, .mov (.tmp 8)⟩,
         ⟨(some 26), none, .build [.int .i64 0, .str ⟨#[]⟩] [(0, 1, (.tmp 24)), (1, 1, (.tmp 25))]⟩,
         ⟨(some 27), none, .mov (.tmp 9)⟩,
         ⟨(some 28), none, .mov (.tmp 9)⟩,
         ⟨(some 29), none, .mov (.tmp 7)⟩,
         ⟨(some 30), none, .call 13 [(.tmp 29), (.cst (.int .i64 3))]⟩,
         ⟨(some 31), none, .bin .add (.tmp 28) (.tmp 30)⟩,
         ⟨(some 32), none, .build [.int .i64 0, .int .i64 0, .int .i64 0, .int .i64 0, .nils, .nils, .int .i64 0, .int .i64 0, .str ⟨#[]⟩, .int .i64 0, .str ⟨#[]⟩, .int .i64 0, .str ⟨#[]⟩, .int .i64 0, .int .i64 0] [(0, 1, (.tmp 21)), (1, 1, (.cst (.int .i64 1))), (2, 1, (.cst (.int .i64 1))), (3, 3, (.tmp 23)), (6, 1, (.cst (.int .i64 3))), (7, 2, (.tmp 26)), (13, 1, (.tmp 27)), (14, 1, (.tmp 31))]⟩,
         ⟨(some 10), none, .alloc [.int .i64 0, .int .i64 0, .int .i64 0, .int .i64 0, .nils, .nils, .int .i64 0, .int .i64 0, .str ⟨#[]⟩, .int .i64 0, .str ⟨#[]⟩, .int .i64 0, .str ⟨#[]⟩, .int .i64 0, .int .i64 0]⟩,
         ⟨none, none, .store 15 (.tmp 10) (.tmp 32)⟩])
       (.seq
        (.reg
          [⟨(some 33), none, .mov (.tmp 9)⟩,
          ⟨(some 34), none, .mov (.tmp 1)⟩,
          ⟨(some 35), none, .conv .i64 (.tmp 34)⟩,
          ⟨(some 36), none, .bin .add (.tmp 33) (.tmp 35)⟩,
          ⟨(some 11), none, .mov (.tmp 36)⟩])
        (.seq
         (.reg
           [⟨(some 37), none, .mov (.tmp 11)⟩,
           ⟨(some 38), none, .mov (.tmp 2)⟩,
           ⟨(some 39), none, .conv .i64 (.tmp 38)⟩,
           ⟨(some 40), none, .bin .add (.tmp 37) (.tmp 39)⟩,
           ⟨(some 12), none, .mov (.tmp 40)⟩])
         (.seq
          (.reg
            [⟨(some 41), none, .mov (.tmp 7)⟩,
            ⟨(some 42), none, .call 14 [(.tmp 41)]⟩,
            ⟨(some 13), none, .mov (.tmp 42)⟩])
          (.seq
           (.reg
             [⟨(some 43), none, .load (some 15) (.tmp 10)⟩,
             ⟨(some 44), none, .call 25 [(.tmp 43)]⟩,
             ⟨(some 45), none, .mov (.tmp 44)⟩,
             ⟨(some 46), (some (45, true)), .load (some 15) (.tmp 10)⟩,
             ⟨(some 47), (some (45, true)), .mov (.tmp 8)⟩,
             ⟨(some 48), (some (45, true)), .mov (.tmp 11)⟩,
             ⟨(some 49), (some (45, true)), .mov (.tmp 12)⟩,
             ⟨(some 50), (some (45, true)), .call 27 [(.tmp 46), (.tmp 47), (.tmp 48), (.tmp 49)]⟩,
             ⟨(some 51), none, .pick (.tmp 45) (.tmp 50) (.cst (.bool false))⟩,
             ⟨(some 52), none, .mov (.tmp 51)⟩,
             ⟨(some 53), (some (52, true)), .load (some 15) (.tmp 10)⟩,
             ⟨(some 54), (some (52, true)), .mov (.tmp 12)⟩,
             ⟨(some 55), (some (52, true)), .mov (.tmp 8)⟩,
             ⟨(some 56), (some (52, true)), .build [.int .i64 0, .str ⟨#[]⟩] [(0, 1, (.tmp 54)), (1, 1, (.tmp 55))]⟩,
             ⟨(some 57), (some (52, true)), .call 28 [(.tmp 53), (.tmp 56)]⟩,
             ⟨(some 58), none, .pick (.tmp 52) (.tmp 57) (.cst (.bool false))⟩,
             ⟨(some 59), none, .mov (.tmp 58)⟩,
             ⟨(some 60), (some (59, true)), .mov (.tmp 13)⟩,
             ⟨(some 61), (some (59, true)), .mov (.tmp 8)⟩,
             ⟨(some 62), (some (59, true)), .bin .eql (.tmp 60) (.tmp 61)⟩,
             ⟨(some 63), (some (59, true)), .mov (.tmp 62)⟩,
             ⟨(some 64), (some (63, false)), .load (some 15) (.tmp 10)⟩,
             ⟨(some 65), (some (63, false)), .mov (.tmp 13)⟩,
             ⟨(some 66), (some (63, false)), .mov (.tmp 11)⟩,
             ⟨(some 67), (some (63, false)), .mov (.tmp 12)⟩,
             ⟨(some 68), (some (63, false)), .call 15 [(.tmp 64), (.tmp 65), (.tmp 66), (.tmp 67)]⟩,
             ⟨(some 69), (some (63, false)), .not (.tmp 68)⟩,
             ⟨(some 70), (some (63, false)), .mov (.tmp 69)⟩,
             ⟨(some 71), (some (70, true)), .load (some 15) (.tmp 10)⟩,
             ⟨(some 72), (some (70, true)), .mov (.tmp 11)⟩,
             ⟨(some 73), (some (70, true)), .mov (.tmp 13)⟩,
             ⟨(some 74), (some (70, true)), .build [.int .i64 0, .str ⟨#[]⟩] [(0, 1, (.tmp 72)), (1, 1, (.tmp 73))]⟩,
             ⟨(some 75), (some (70, true)), .call 30 [(.tmp 71), (.tmp 74)]⟩,
             ⟨(some 76), (some (70, true)), .not (.tmp 75)⟩,
             ⟨(some 77), (some (63, false)), .pick (.tmp 70) (.tmp 76) (.cst (.bool false))⟩,
             ⟨(some 78), (some (59, true)), .pick (.tmp 63) (.cst (.bool true)) (.tmp 77)⟩,
             ⟨(some 79), none, .pick (.tmp 59) (.tmp 78) (.cst (.bool false))⟩,
             ⟨(some 80), none, .mov (.tmp 79)⟩,
             ⟨(some 81), (some (80, true)), .mov (.tmp 9)⟩,
             ⟨(some 82), (some (80, true)), .bin .eql (.tmp 81) (.cst (.int .i64 1))⟩,
             ⟨(some 83), (some (80, true)), .mov (.tmp 82)⟩,
             ⟨(some 84), (some (83, false)), .load (some 15) (.tmp 10)⟩,
             ⟨(some 85), (some (83, false)), .mov (.tmp 8)⟩,
             ⟨(some 86), (some (83, false)), .mov (.tmp 9)⟩,
             ⟨(some 87), (some (83, false)), .bin .sub (.tmp 86) (.cst (.int .i64 1))⟩,
             ⟨(some 88), (some (83, false)), .mov (.tmp 12)⟩,
             ⟨(some 89), (some (83, false)), .call 27 [(.tmp 84), (.tmp 85), (.tmp 87), (.tmp 88)]⟩,
             ⟨(some 90), (some (83, false)), .not (.tmp 89)⟩,
             ⟨(some 91), (some (80, true)), .pick (.tmp 83) (.cst (.bool true)) (.tmp 90)⟩,
             ⟨(some 92), none, .pick (.tmp 80) (.tmp 91) (.cst (.bool false))⟩,
             ⟨(some 93), none, .mov (.tmp 92)⟩,
             ⟨(some 94), (some (93, true)), .load (some 15) (.tmp 10)⟩,
             ⟨(some 95), (some (93, true)), .call 32 [(.tmp 94)]⟩,
             ⟨(some 96), (some (93, true)), .bin .eql (.tmp 95) (.cst (.int .i64 1000000))⟩,
             ⟨(some 97), none, .pick (.tmp 93) (.tmp 96) (.cst (.bool false))⟩,
             ⟨(some 98), none, .mov (.tmp 97)⟩,
             ⟨(some 99), (some (98, true)), .call 16 []⟩,
             ⟨(some 100), none, .pick (.tmp 98) (.tmp 99) (.cst (.bool false))⟩,
             ⟨(some 6), none, .mov (.tmp 100)⟩])
           .ret)))))))))
theorem ok_trustquorumlaw24_EnvelopesForever : FnOk Try.prog 6 101 c_trustquorumlaw24_EnvelopesForever [.tmp 6] :=
  ⟨Try.f6, [], Try.func6, rfl, by kernel_rfl, by kernel_rfl, by kernel_rfl⟩

/-- trustquorum/trustquorumplay.New -/
def c_trustquorumplay_New : SC :=
  (.seq
   (.reg
     [⟨(some 2), none, .mov (.cst (.nilp))⟩])
   (.seq
    (.reg
      [⟨(some 3), none, .mov (.tmp 0)⟩,
      ⟨(some 4), none, .mov (.tmp 0)⟩,
      ⟨(some 5), none, .len false (.tmp 4)⟩,
      ⟨(some 6), none, .minmax false (.tmp 5) (.cst (.int .i64 800))⟩,
      ⟨(some 7), none, .slc 1 (.tmp 3) none (some (.tmp 6))⟩,
      ⟨(some 8), none, .build [.nils, .int .i64 0] [(0, 1, (.tmp 7))]⟩,
      ⟨(some 9), none, .box (.tmp 8)⟩,
      ⟨(some 2), none, .mov (.tmp 9)⟩])
    .ret))
theorem ok_trustquorumplay_New : FnOk Try.prog 11 10 c_trustquorumplay_New [.tmp 2] :=
  ⟨Try.f11, [], Try.func11, rfl, by kernel_rfl, by kernel_rfl, by kernel_rfl⟩

/-- (*trustquorum/trustquorumplay.Src).Envelope -/
def c_trustquorumplay_Src_Envelope : SC :=
  (.seq
   (.reg
     [⟨(some 8), none, .alloc [.int .i64 0, .int .i64 0, .int .i64 0, .int .i64 0, .nils, .nils, .int .i64 0, .int .i64 0, .str ⟨#[]⟩, .int .i64 0, .str ⟨#[]⟩, .int .i64 0, .str ⟨#[]⟩, .int .i64 0, .int .i64 0]⟩])
   (.seq
    (.reg
      [⟨(some 11), none, .mov (.tmp 1)⟩,
      ⟨(some 12), none, .mov (.tmp 2)⟩,
      ⟨(some 13), none, .mov (.tmp 0)⟩,
      ⟨(some 14), none, .call 26 [(.tmp 13), (.cst (.int .i64 1)), (.cst (.int .i64 9))]⟩,
      ⟨(some 15), none, .mov (.tmp 0)⟩,
      ⟨(some 16), none, .mov (.tmp 3)⟩,
      ⟨(some 17), none, .call 31 [(.tmp 15), (.tmp 16)]⟩,
      ⟨(some 18), none, .build [.int .i64 0, .int .i64 0, .int .i64 0, .int .i64 0, .nils, .nils, .int .i64 0, .int .i64 0, .str ⟨#[]⟩, .int .i64 0, .str ⟨#[]⟩, .int .i64 0, .str ⟨#[]⟩, .int .i64 0, .int .i64 0] [(0, 1, (.tmp 11)), (1, 1, (.tmp 12)), (2, 1, (.tmp 14)), (3, 3, (.tmp 17))]⟩,
      ⟨(some 9), none, .alloc [.int .i64 0, .int .i64 0, .int .i64 0, .int .i64 0, .nils, .nils, .int .i64 0, .int .i64 0, .str ⟨#[]⟩, .int .i64 0, .str ⟨#[]⟩, .int .i64 0, .str ⟨#[]⟩, .int .i64 0, .int .i64 0]⟩,
      ⟨none, none, .store 15 (.tmp 9) (.tmp 18)⟩])
    (.seq
     (.reg
       [⟨(some 19), none, .mov (.tmp 0)⟩,
       ⟨(some 20), none, .call 14 [(.tmp 19)]⟩,
       ⟨(some 10), none, .mov (.tmp 20)⟩])
     (.seq
      (.seq
       (.reg
         [⟨(some 21), none, .mov (.tmp 0)⟩,
         ⟨(some 22), none, .call 13 [(.tmp 21), (.cst (.int .i64 4))]⟩])
       (.block 0
        (.seq
         (.block 3
          (.seq
           (.block 2
            (.seq
             (.block 1
              (.seq
               (.seq
                (.seq
                 (.reg
                   [⟨(some 24), none, .bin .eql (.tmp 22) (.cst (.int .i64 0))⟩,
                   ⟨(some 23), none, .mov (.tmp 24)⟩])
                 (.cond (.tmp 23)
                  (.exit 1)
                  .skip))
                (.seq
                 (.reg
                   [⟨(some 26), none, .bin .eql (.tmp 22) (.cst (.int .i64 1))⟩,
                   ⟨(some 25), none, .mov (.tmp 26)⟩])
                 (.cond (.tmp 25)
                  (.exit 2)
                  .skip)))
               (.exit 3)))
             (.seq
              (.seq
               (.reg
                 [⟨(some 27), none, .mov (.tmp 0)⟩,
                 ⟨(some 28), none, .call 26 [(.tmp 27), (.cst (.int .i64 1)), (.cst (.int .i64 7))]⟩,
                 ⟨(some 29), none, .mov (.tmp 10)⟩,
                 ⟨(some 30), none, .build [.int .i64 0, .str ⟨#[]⟩] [(0, 1, (.tmp 28)), (1, 1, (.tmp 29))]⟩,
                 ⟨(some 31), none, .faddr 6 (.tmp 9)⟩,
                 ⟨none, none, .store 1 (.tmp 31) (.cst (.int .i64 2))⟩,
                 ⟨(some 32), none, .faddr 7 (.tmp 9)⟩,
                 ⟨none, none, .store 2 (.tmp 32) (.tmp 30)⟩])
               (.seq
                (.reg
                  [⟨(some 33), none, .mov (.tmp 0)⟩,
                  ⟨(some 34), none, .call 26 [(.tmp 33), (.cst (.int .i64 1)), (.cst (.int .i64 4))]⟩,
                  ⟨(some 35), none, .faddr 13 (.tmp 9)⟩,
                  ⟨none, none, .store 1 (.tmp 35) (.tmp 34)⟩])
                (.seq
                 (.drw [(0, 3), (1, 3)]
                   [⟨(some 36), none, .faddr 13 (.tmp 9)⟩,
                   ⟨(some 37), none, .load none (.tmp 36)⟩,
                   ⟨(some 38), none, .mov (.tmp 0)⟩,
                   ⟨(some 39), none, .call 13 [(.tmp 38), (.cst (.int .i64 3))]⟩,
                   ⟨(some 40), none, .bin .add (.tmp 37) (.tmp 39)⟩,
                   ⟨(some 41), none, .faddr 14 (.tmp 9)⟩,
                   ⟨none, none, .store 1 (.tmp 41) (.tmp 40)⟩])
                 (.drw [(0, 3), (1, 3)]
                   [⟨(some 42), none, .faddr 14 (.tmp 9)⟩,
                   ⟨(some 43), none, .load none (.tmp 42)⟩,
                   ⟨(some 44), none, .mov (.tmp 0)⟩,
                   ⟨(some 45), none, .call 13 [(.tmp 44), (.cst (.int .i64 3))]⟩,
                   ⟨(some 46), none, .bin .add (.tmp 43) (.tmp 45)⟩,
                   ⟨(some 47), none, .mov (.tmp 10)⟩,
                   ⟨(some 48), none, .build [.int .i64 0, .str ⟨#[]⟩] [(0, 1, (.tmp 46)), (1, 1, (.tmp 47))]⟩,
                   ⟨(some 49), none, .faddr 9 (.tmp 9)⟩,
                   ⟨none, none, .store 2 (.tmp 49) (.tmp 48)⟩]))))
              (.exit 0))))
           (.seq
            (.reg
              [⟨(some 50), none, .mov (.tmp 0)⟩,
              ⟨(some 51), none, .call 13 [(.tmp 50), (.cst (.int .i64 3))]⟩,
              ⟨(some 52), none, .bin .gtr (.tmp 51) (.cst (.int .i64 0))⟩])
            (.cond (.tmp 52)
             (.seq
              (.reg
                [⟨(some 53), none, .mov (.tmp 0)⟩,
                ⟨(some 54), none, .call 26 [(.tmp 53), (.cst (.int .i64 1)), (.cst (.int .i64 7))]⟩,
                ⟨(some 55), none, .mov (.tmp 10)⟩,
                ⟨(some 56), none, .build [.int .i64 0, .str ⟨#[]⟩] [(0, 1, (.tmp 54)), (1, 1, (.tmp 55))]⟩,
                ⟨(some 57), none, .faddr 6 (.tmp 9)⟩,
                ⟨none, none, .store 1 (.tmp 57) (.cst (.int .i64 3))⟩,
                ⟨(some 58), none, .faddr 7 (.tmp 9)⟩,
                ⟨none, none, .store 2 (.tmp 58) (.tmp 56)⟩])
              (.seq
               (.reg
                 [⟨(some 59), none, .mov (.tmp 0)⟩,
                 ⟨(some 60), none, .call 26 [(.tmp 59), (.cst (.int .i64 1)), (.cst (.int .i64 4))]⟩,
                 ⟨(some 61), none, .faddr 13 (.tmp 9)⟩,
                 ⟨none, none, .store 1 (.tmp 61) (.tmp 60)⟩])
               (.seq
                (.drw [(0, 3), (1, 3)]
                  [⟨(some 62), none, .faddr 13 (.tmp 9)⟩,
                  ⟨(some 63), none, .load none (.tmp 62)⟩,
                  ⟨(some 64), none, .mov (.tmp 0)⟩,
                  ⟨(some 65), none, .call 13 [(.tmp 64), (.cst (.int .i64 3))]⟩,
                  ⟨(some 66), none, .bin .add (.tmp 63) (.tmp 65)⟩,
                  ⟨(some 67), none, .faddr 14 (.tmp 9)⟩,
                  ⟨none, none, .store 1 (.tmp 67) (.tmp 66)⟩])
                (.exit 0))))
             .skip))))
         (.seq
          (.seq
           (.reg
             [⟨(some 68), none, .mov (.tmp 0)⟩,
             ⟨(some 69), none, .call 26 [(.tmp 68), (.cst (.int .i64 1)), (.cst (.int .i64 7))]⟩,
             ⟨(some 70), none, .mov (.tmp 10)⟩,
             ⟨(some 71), none, .build [.int .i64 0, .str ⟨#[]⟩] [(0, 1, (.tmp 69)), (1, 1, (.tmp 70))]⟩,
             ⟨(some 72), none, .faddr 6 (.tmp 9)⟩,
             ⟨none, none, .store 1 (.tmp 72) (.cst (.int .i64 1))⟩,
             ⟨(some 73), none, .faddr 7 (.tmp 9)⟩,
             ⟨none, none, .store 2 (.tmp 73) (.tmp 71)⟩])
           (.seq
            (.seq
             (.reg
               [⟨(some 74), none, .mov (.tmp 0)⟩,
               ⟨(some 75), none, .call 13 [(.tmp 74), (.cst (.int .i64 3))]⟩,
               ⟨(some 76), none, .bin .gtr (.tmp 75) (.cst (.int .i64 0))⟩])
             (.cond (.tmp 76)
              (.seq
               (.reg
                 [⟨(some 77), none, .mov (.tmp 0)⟩,
                 ⟨(some 78), none, .call 18 [(.tmp 77)]⟩,
                 ⟨(some 79), none, .faddr 9 (.tmp 9)⟩,
                 ⟨none, none, .store 2 (.tmp 79) (.tmp 78)⟩])
               (.seq
                (.reg
                  [⟨(some 80), none, .mov (.tmp 0)⟩,
                  ⟨(some 81), none, .call 13 [(.tmp 80), (.cst (.int .i64 2))]⟩,
                  ⟨(some 82), none, .bin .eql (.tmp 81) (.cst (.int .i64 1))⟩])
                (.cond (.tmp 82)
                 (.reg
                   [⟨(some 83), none, .mov (.tmp 0)⟩,
                   ⟨(some 84), none, .call 18 [(.tmp 83)]⟩,
                   ⟨(some 85), none, .faddr 11 (.tmp 9)⟩,
                   ⟨none, none, .store 2 (.tmp 85) (.tmp 84)⟩])
                 .skip)))
              .skip))
            (.seq
             (.reg
               [⟨(some 86), none, .mov (.tmp 0)⟩,
               ⟨(some 87), none, .faddr 7 (.tmp 9)⟩,
               ⟨(some 88), none, .faddr 0 (.tmp 87)⟩,
               ⟨(some 89), none, .load none (.tmp 88)⟩,
               ⟨(some 90), none, .bin .add (.tmp 89) (.cst (.int .i64 1))⟩,
               ⟨(some 91), none, .call 13 [(.tmp 86), (.tmp 90)]⟩,
               ⟨(some 92), none, .faddr 14 (.tmp 9)⟩,
               ⟨none, none, .store 1 (.tmp 92) (.tmp 91)⟩])
             (.seq
              (.reg
                [⟨(some 93), none, .mov (.tmp 0)⟩,
                ⟨(some 94), none, .faddr 14 (.tmp 9)⟩,
                ⟨(some 95), none, .load none (.tmp 94)⟩,
                ⟨(some 96), none, .bin .add (.tmp 95) (.cst (.int .i64 1))⟩,
                ⟨(some 97), none, .call 13 [(.tmp 93), (.tmp 96)]⟩,
                ⟨(some 98), none, .faddr 13 (.tmp 9)⟩,
                ⟨none, none, .store 1 (.tmp 98) (.tmp 97)⟩])
              (.seq
               (.seq
                (.reg
                  [⟨(some 99), none, .load (some 15) (.tmp 9)⟩,
                  ⟨(some 100), none, .call 45 [(.tmp 99)]⟩,
                  ⟨(some 101), none, .not (.tmp 100)⟩])
                (.cond (.tmp 101)
                 (.reg
                   [⟨(some 102), none, .faddr 13 (.tmp 9)⟩,
                   ⟨none, none, .store 1 (.tmp 102) (.cst (.int .i64 0))⟩])
                 .skip))
               (.seq
                (.seq
                 (.reg
                   [⟨(some 103), none, .load (some 15) (.tmp 9)⟩,
                   ⟨(some 104), none, .call 45 [(.tmp 103)]⟩,
                   ⟨(some 105), none, .not (.tmp 104)⟩])
                 (.cond (.tmp 105)
                  (.reg
                    [⟨(some 106), none, .faddr 14 (.tmp 9)⟩,
                    ⟨none, none, .store 1 (.tmp 106) (.cst (.int .i64 0))⟩])
                  .skip))
                (.seq
                 (.reg
                   [⟨(some 107), none, .load (some 15) (.tmp 9)⟩,
                   ⟨(some 108), none, .call 45 [(.tmp 107)]⟩,
                   ⟨(some 109), none, .not (.tmp 108)⟩])
                 (.cond (.tmp 109)
                  (.reg
                    [⟨(some 110), none, .build [.int .i64 0, .str ⟨#[]⟩] []⟩,
                    ⟨(some 111), none, .faddr 11 (.tmp 9)⟩,
                    ⟨none, none, .store 2 (.tmp 111) (.tmp 110)⟩])
                  .skip))))))))
          (.exit 0)))))
      (.seq
       (.reg
         [⟨(some 112), none, .load (some 15) (.tmp 9)⟩,
         ⟨none, none, .store 15 (.tmp 8) (.tmp 112)⟩])
       .ret)))))
theorem ok_trustquorumplay_Src_Envelope : FnOk Try.prog 12 113 c_trustquorumplay_Src_Envelope [.cell 8 (some 15)] :=
  ⟨Try.f12, [], Try.func12, rfl, by kernel_rfl, by kernel_rfl, by kernel_rfl⟩

/-- (*trustquorum/trustquorumplay.Src).N -/
def c_trustquorumplay_Src_N : SC :=
  (.seq
   (.reg
     [⟨(some 4), none, .mov (.cst (.int .i64 0))⟩])
   (.seq
    (.seq
     (.drw [(1, 5), (2, 5), (3, 5), (1, 6), (2, 6), (3, 6), (1, 7), (2, 7), (3, 7), (1, 8), (2, 8), (3, 8)]
       [⟨(some 5), none, .mov (.tmp 0)⟩,
       ⟨(some 6), none, .nilck (.tmp 5)⟩,
       ⟨(some 7), none, .faddr 1 (.tmp 6)⟩,
       ⟨(some 8), none, .load none (.tmp 7)⟩,
       ⟨(some 9), none, .mov (.tmp 0)⟩,
       ⟨(some 10), none, .nilck (.tmp 9)⟩,
       ⟨(some 11), none, .faddr 0 (.tmp 10)⟩,
       ⟨(some 12), none, .load none (.tmp 11)⟩,
       ⟨(some 13), none, .len false (.tmp 12)⟩,
       ⟨(some 14), none, .bin .geq (.tmp 8) (.tmp 13)⟩,
       ⟨(some 15), none, .mov (.tmp 14)⟩,
       ⟨(some 16), (some (15, false)), .mov (.tmp 1)⟩,
       ⟨(some 17), (some (15, false)), .bin .lss (.tmp 16) (.cst (.int .i64 1))⟩,
       ⟨(some 18), none, .pick (.tmp 15) (.cst (.bool true)) (.tmp 17)⟩])
     (.cond (.tmp 18)
      (.seq
       (.reg
         [⟨(some 4), none, .mov (.cst (.int .i64 0))⟩])
       .ret)
      .skip))
    (.seq
     (.reg
       [⟨(some 19), none, .mov (.tmp 0)⟩,
       ⟨(some 20), none, .nilck (.tmp 19)⟩,
       ⟨(some 21), none, .faddr 1 (.tmp 20)⟩,
       ⟨(some 22), none, .load none (.tmp 21)⟩,
       ⟨(some 23), none, .bin .add (.tmp 22) (.cst (.int .i64 1))⟩,
       ⟨(some 24), none, .nilck (.tmp 19)⟩,
       ⟨(some 25), none, .faddr 1 (.tmp 24)⟩,
       ⟨none, none, .store 1 (.tmp 25) (.tmp 23)⟩])
     (.seq
      (.drw [(1, 5), (2, 5), (3, 5), (1, 6), (2, 6), (3, 6), (1, 7), (2, 7), (3, 7)]
        [⟨(some 26), none, .mov (.tmp 0)⟩,
        ⟨(some 27), none, .nilck (.tmp 26)⟩,
        ⟨(some 28), none, .faddr 0 (.tmp 27)⟩,
        ⟨(some 29), none, .load none (.tmp 28)⟩,
        ⟨(some 30), none, .mov (.tmp 0)⟩,
        ⟨(some 31), none, .nilck (.tmp 30)⟩,
        ⟨(some 32), none, .faddr 1 (.tmp 31)⟩,
        ⟨(some 33), none, .load none (.tmp 32)⟩,
        ⟨(some 34), none, .bin .sub (.tmp 33) (.cst (.int .i64 1))⟩,
        ⟨(some 35), none, .iaddr 1 (.tmp 29) (.tmp 34)⟩,
        ⟨(some 36), none, .load none (.tmp 35)⟩,
        ⟨(some 37), none, .mov (.tmp 1)⟩,
        ⟨(some 38), none, .bin .rem (.tmp 36) (.tmp 37)⟩,
        ⟨(some 39), none, .mov (.tmp 1)⟩,
        ⟨(some 40), none, .bin .add (.tmp 38) (.tmp 39)⟩,
        ⟨(some 41), none, .mov (.tmp 1)⟩,
        ⟨(some 42), none, .bin .rem (.tmp 40) (.tmp 41)⟩,
        ⟨(some 4), none, .mov (.tmp 42)⟩])
      .ret))))
theorem ok_trustquorumplay_Src_N : FnOk Try.prog 13 43 c_trustquorumplay_Src_N [.tmp 4] :=
  ⟨Try.f13, [], Try.func13, rfl, by kernel_rfl, by kernel_rfl, by kernel_rfl⟩

/-- (*trustquorum/trustquorumplay.Src).Value -/
def c_trustquorumplay_Src_Value : SC :=
  (.seq
   (.reg
     [⟨(some 2), none, .mov (.cst (.str ⟨#[]⟩))⟩])
   (.seq
    (.reg
      [⟨(some 3), none, .mov (.tmp 0)⟩,
      ⟨(some 4), none, .bsl false 9 1 (List.replicate 4 [.str ⟨#[]⟩]) [(0, (.cst (.str ⟨#[97]⟩))), (1, (.cst (.str ⟨#[98]⟩))), (2, (.cst (.str ⟨#[99]⟩))), (3, (.cst (.str ⟨#[97, 97]⟩)))]⟩,
      ⟨(some 5), none, .call 46 [(.tmp 3), (.tmp 4)]⟩,
      ⟨(some 2), none, .mov (.tmp 5)⟩])
    .ret))
theorem ok_trustquorumplay_Src_Value : FnOk Try.prog 14 6 c_trustquorumplay_Src_Value [.tmp 2] :=
  ⟨Try.f14, [], Try.func14, rfl, by kernel_rfl, by kernel_rfl, by kernel_rfl⟩

/-- trustquorum/envelopes.VotesCommit -/
def c_envelopes_VotesCommit : SC :=
  (.seq
   (.reg
     [⟨(some 4), none, .box (.tmp 0)⟩,
     ⟨(some 8), none, .mov (.cst (.bool false))⟩])
   (.seq
    (.reg
      [⟨(some 9), none, .load (some 15) (.tmp 4)⟩,
      ⟨(some 10), none, .call 25 [(.tmp 9)]⟩,
      ⟨(some 11), none, .mov (.tmp 10)⟩,
      ⟨(some 12), (some (11, true)), .load (some 15) (.tmp 4)⟩,
      ⟨(some 13), (some (11, true)), .build [.int .i64 0, .int .i64 0, .int .i64 0, .int .i64 0, .nils, .nils, .int .i64 0, .int .i64 0, .str ⟨#[]⟩, .int .i64 0, .str ⟨#[]⟩, .int .i64 0, .str ⟨#[]⟩, .int .i64 0, .int .i64 0] [(0, 15, (.tmp 12))]⟩,
      ⟨(some 14), (some (11, true)), .mov (.tmp 1)⟩,
      ⟨(some 15), (some (11, true)), .mov (.tmp 2)⟩,
      ⟨(some 16), (some (11, true)), .mov (.tmp 3)⟩,
      ⟨(some 17), (some (11, true)), .call 47 [(.tmp 13), (.tmp 14), (.tmp 15), (.tmp 16)]⟩,
      ⟨(some 18), none, .pick (.tmp 11) (.tmp 17) (.cst (.bool false))⟩,
      ⟨(some 8), none, .mov (.tmp 18)⟩])
    .ret))
theorem ok_envelopes_VotesCommit : FnOk Try.prog 15 19 c_envelopes_VotesCommit [.tmp 8] :=
  ⟨Try.f15, [], Try.func15, rfl, by kernel_rfl, by kernel_rfl, by kernel_rfl⟩

/-- trustquorum/trustquorumlaw24.sane -/
def c_trustquorumlaw24_sane : SC :=
  (.seq
   (.reg
     [⟨(some 0), none, .mov (.cst (.bool false))⟩])
   (.seq
    (.reg
      [⟨(some 2), none, .call 41 [(.cst (.int .i64 3)), (.cst (.int .i64 2))]⟩,
      ⟨(some 3), none, .build [.int .i64 0, .str ⟨#[]⟩] [(0, 1, (.cst (.int .i64 3))), (1, 1, (.cst (.str ⟨#[97]⟩)))]⟩,
      ⟨(some 4), none, .build [.int .i64 0, .str ⟨#[]⟩] [(0, 1, (.cst (.int .i64 3))), (1, 1, (.cst (.str ⟨#[97]⟩)))]⟩,
      ⟨(some 5), none, .build [.int .i64 0, .int .i64 0, .int .i64 0, .int .i64 0, .nils, .nils, .int .i64 0, .int .i64 0, .str ⟨#[]⟩, .int .i64 0, .str ⟨#[]⟩, .int .i64 0, .str ⟨#[]⟩, .int .i64 0, .int .i64 0] [(1, 1, (.cst (.int .i64 1))), (2, 1, (.cst (.int .i64 1))), (3, 3, (.tmp 2)), (6, 1, (.cst (.int .i64 1))), (7, 2, (.tmp 3)), (9, 2, (.tmp 4)), (13, 1, (.cst (.int .i64 2))), (14, 1, (.cst (.int .i64 3)))]⟩,
      ⟨(some 1), none, .alloc [.int .i64 0, .int .i64 0, .int .i64 0, .int .i64 0, .nils, .nils, .int .i64 0, .int .i64 0, .str ⟨#[]⟩, .int .i64 0, .str ⟨#[]⟩, .int .i64 0, .str ⟨#[]⟩, .int .i64 0, .int .i64 0]⟩,
      ⟨none, none, .store 15 (.tmp 1) (.tmp 5)⟩])
    (.seq
     (.reg
       [⟨(some 6), none, .load (some 15) (.tmp 1)⟩,
       ⟨(some 7), none, .call 25 [(.tmp 6)]⟩,
       ⟨(some 8), none, .mov (.tmp 7)⟩,
       ⟨(some 9), (some (8, true)), .load (some 15) (.tmp 1)⟩,
       ⟨(some 10), (some (8, true)), .call 15 [(.tmp 9), (.cst (.str ⟨#[97]⟩)), (.cst (.int .i64 2)), (.cst (.int .i64 3))]⟩,
       ⟨(some 11), none, .pick (.tmp 8) (.tmp 10) (.cst (.bool false))⟩,
       ⟨(some 12), none, .mov (.tmp 11)⟩,
       ⟨(some 13), (some (12, true)), .load (some 15) (.tmp 1)⟩,
       ⟨(some 14), (some (12, true)), .call 27 [(.tmp 13), (.cst (.str ⟨#[97]⟩)), (.cst (.int .i64 2)), (.cst (.int .i64 3))]⟩,
       ⟨(some 15), (some (12, true)), .not (.tmp 14)⟩,
       ⟨(some 16), none, .pick (.tmp 12) (.tmp 15) (.cst (.bool false))⟩,
       ⟨(some 17), none, .mov (.tmp 16)⟩,
       ⟨(some 18), (some (17, true)), .load (some 15) (.tmp 1)⟩,
       ⟨(some 19), (some (17, true)), .call 32 [(.tmp 18)]⟩,
       ⟨(some 20), (some (17, true)), .bin .eql (.tmp 19) (.cst (.int .i64 3))⟩,
       ⟨(some 21), none, .pick (.tmp 17) (.tmp 20) (.cst (.bool false))⟩,
       ⟨(some 0), none, .mov (.tmp 21)⟩])
     .ret)))
theorem ok_trustquorumlaw24_sane : FnOk Try.prog 16 22 c_trustquorumlaw24_sane [.tmp 0] :=
  ⟨Try.f16, [], Try.func16, rfl, by kernel_rfl, by kernel_rfl, by kernel_rfl⟩

/-- trustquorum/trustquorumref23.Aborts -/
def c_trustquorumref23_Aborts : SC :=
  (.seq
   (.reg
     [⟨(some 2), none, .box (.tmp 0)⟩,
     ⟨(some 3), none, .box (.tmp 1)⟩,
     ⟨(some 4), none, .mov (.cst (.bool false))⟩])
   (.seq
    (.reg
      [⟨(some 5), none, .load (some 2) (.tmp 2)⟩,
      ⟨(some 6), none, .call 20 [(.tmp 5)]⟩,
      ⟨(some 7), none, .not (.tmp 6)⟩,
      ⟨(some 8), none, .mov (.tmp 7)⟩,
      ⟨(some 9), (some (8, true)), .load (some 2) (.tmp 2)⟩,
      ⟨(some 10), (some (8, true)), .load (some 2) (.tmp 3)⟩,
      ⟨(some 11), (some (8, true)), .call 22 [(.tmp 9), (.tmp 10)]⟩,
      ⟨(some 12), (some (8, true)), .not (.tmp 11)⟩,
      ⟨(some 13), none, .pick (.tmp 8) (.tmp 12) (.cst (.bool false))⟩,
      ⟨(some 14), none, .mov (.tmp 13)⟩,
      ⟨(some 15), (some (14, true)), .load (some 2) (.tmp 3)⟩,
      ⟨(some 16), (some (14, true)), .load (some 2) (.tmp 2)⟩,
      ⟨(some 17), (some (14, true)), .call 21 [(.tmp 15), (.tmp 16)]⟩,
      ⟨(some 18), none, .pick (.tmp 14) (.tmp 17) (.cst (.bool false))⟩,
      ⟨(some 4), none, .mov (.tmp 18)⟩])
    .ret))
theorem ok_trustquorumref23_Aborts : FnOk Try.prog 17 19 c_trustquorumref23_Aborts [.tmp 4] :=
  ⟨Try.f17, [], Try.func17, rfl, by kernel_rfl, by kernel_rfl, by kernel_rfl⟩

/-- (*trustquorum/trustquorumplay.Src).Low -/
def c_trustquorumplay_Src_Low : SC :=
  (.seq
   (.reg
     [⟨(some 2), none, .alloc [.int .i64 0, .str ⟨#[]⟩]⟩])
   (.seq
    (.reg
      [⟨(some 3), none, .mov (.tmp 0)⟩,
      ⟨(some 4), none, .call 26 [(.tmp 3), (.cst (.int .i64 1)), (.cst (.int .i64 6))]⟩,
      ⟨(some 5), none, .mov (.tmp 0)⟩,
      ⟨(some 6), none, .call 14 [(.tmp 5)]⟩,
      ⟨(some 7), none, .build [.int .i64 0, .str ⟨#[]⟩] [(0, 1, (.tmp 4)), (1, 1, (.tmp 6))]⟩,
      ⟨none, none, .store 2 (.tmp 2) (.tmp 7)⟩])
    .ret))
theorem ok_trustquorumplay_Src_Low : FnOk Try.prog 18 8 c_trustquorumplay_Src_Low [.cell 2 (some 2)] :=
  ⟨Try.f18, [], Try.func18, rfl, by kernel_rfl, by kernel_rfl, by kernel_rfl⟩

/-- trustquorum/prepare.Join -/
def c_prepare_Join : SC :=
  (.seq
   (.reg
     [⟨(some 3), none, .box (.tmp 0)⟩,
     ⟨(some 4), none, .box (.tmp 1)⟩,
     ⟨(some 5), none, .box (.tmp 2)⟩,
     ⟨(some 6), none, .alloc [.int .i64 0, .str ⟨#[]⟩]⟩,
     ⟨(some 7), none, .alloc [.int .i64 0, .str ⟨#[]⟩]⟩])
   (.seq
    (.block 0
     (.seq
      (.reg
        [⟨(some 9), none, .load (some 2) (.tmp 5)⟩,
        ⟨(some 10), none, .call 48 [(.tmp 9)]⟩,
        ⟨(some 8), none, .mov (.tmp 10)⟩])
      (.cond (.tmp 8)
       .skip
       (.seq
        (.reg
          [⟨(some 12), none, .load (some 2) (.tmp 3)⟩,
          ⟨(some 13), none, .call 48 [(.tmp 12)]⟩,
          ⟨(some 11), none, .mov (.tmp 13)⟩])
        (.cond (.tmp 11)
         (.seq
          (.drw [(0, 1), (1, 2)]
            [⟨(some 14), none, .load (some 2) (.tmp 5)⟩,
            ⟨(some 15), none, .load (some 2) (.tmp 4)⟩,
            ⟨none, none, .store 2 (.tmp 6) (.tmp 14)⟩,
            ⟨none, none, .store 2 (.tmp 7) (.tmp 15)⟩])
          .ret)
         (.seq
          (.reg
            [⟨(some 17), none, .load (some 2) (.tmp 3)⟩,
            ⟨(some 18), none, .load (some 2) (.tmp 5)⟩,
            ⟨(some 19), none, .call 49 [(.tmp 17), (.tmp 18)]⟩,
            ⟨(some 16), none, .mov (.tmp 19)⟩])
          (.cond (.tmp 16)
           (.seq
            (.block 1
             (.seq
              (.reg
                [⟨(some 21), none, .load (some 2) (.tmp 3)⟩,
                ⟨(some 22), none, .load (some 2) (.tmp 5)⟩,
                ⟨(some 23), none, .call 50 [(.tmp 21), (.tmp 22)]⟩,
                ⟨(some 24), none, .not (.tmp 23)⟩,
                ⟨(some 20), none, .mov (.tmp 24)⟩])
              (.cond (.tmp 20)
               (.reg
                 [⟨(some 25), none, .load (some 2) (.tmp 3)⟩,
                 ⟨none, none, .store 2 (.tmp 4) (.tmp 25)⟩])
               (.seq
                (.reg
                  [⟨(some 27), none, .load (some 2) (.tmp 4)⟩,
                  ⟨(some 28), none, .load (some 2) (.tmp 5)⟩,
                  ⟨(some 29), none, .call 50 [(.tmp 27), (.tmp 28)]⟩,
                  ⟨(some 26), none, .mov (.tmp 29)⟩])
                (.cond (.tmp 26)
                 (.reg
                   [⟨(some 30), none, .build [.int .i64 0, .str ⟨#[]⟩] []⟩,
                   ⟨none, none, .store 2 (.tmp 4) (.tmp 30)⟩])
                 .skip)))))
            (.seq
             (.drw [(0, 1), (1, 2)]
               [⟨(some 31), none, .load (some 2) (.tmp 5)⟩,
               ⟨(some 32), none, .load (some 2) (.tmp 4)⟩,
               ⟨none, none, .store 2 (.tmp 6) (.tmp 31)⟩,
               ⟨none, none, .store 2 (.tmp 7) (.tmp 32)⟩])
             .ret))
           (.seq
            (.reg
              [⟨(some 34), none, .load (some 2) (.tmp 5)⟩,
              ⟨(some 35), none, .load (some 2) (.tmp 3)⟩,
              ⟨(some 36), none, .call 49 [(.tmp 34), (.tmp 35)]⟩,
              ⟨(some 37), none, .mov (.tmp 36)⟩,
              ⟨(some 38), (some (37, true)), .load (some 2) (.tmp 3)⟩,
              ⟨(some 39), (some (37, true)), .load (some 2) (.tmp 5)⟩,
              ⟨(some 40), (some (37, true)), .call 50 [(.tmp 38), (.tmp 39)]⟩,
              ⟨(some 41), (some (37, true)), .not (.tmp 40)⟩,
              ⟨(some 42), none, .pick (.tmp 37) (.tmp 41) (.cst (.bool false))⟩,
              ⟨(some 43), none, .mov (.tmp 42)⟩,
              ⟨(some 44), (some (43, true)), .load (some 2) (.tmp 4)⟩,
              ⟨(some 45), (some (43, true)), .call 48 [(.tmp 44)]⟩,
              ⟨(some 46), (some (43, true)), .mov (.tmp 45)⟩,
              ⟨(some 47), (some (46, false)), .load (some 2) (.tmp 4)⟩,
              ⟨(some 48), (some (46, false)), .load (some 2) (.tmp 5)⟩,
              ⟨(some 49), (some (46, false)), .call 49 [(.tmp 47), (.tmp 48)]⟩,
              ⟨(some 50), (some (43, true)), .pick (.tmp 46) (.cst (.bool true)) (.tmp 49)⟩,
              ⟨(some 51), none, .pick (.tmp 43) (.tmp 50) (.cst (.bool false))⟩,
              ⟨(some 33), none, .mov (.tmp 51)⟩])
            (.cond (.tmp 33)
             (.seq
              (.drw [(0, 1), (1, 2)]
                [⟨(some 52), none, .load (some 2) (.tmp 3)⟩,
                ⟨(some 53), none, .load (some 2) (.tmp 5)⟩,
                ⟨none, none, .store 2 (.tmp 6) (.tmp 52)⟩,
                ⟨none, none, .store 2 (.tmp 7) (.tmp 53)⟩])
              .ret)
             .skip)))))))))
    (.seq
     (.drw [(0, 1), (1, 2)]
       [⟨(some 54), none, .load (some 2) (.tmp 3)⟩,
       ⟨(some 55), none, .load (some 2) (.tmp 4)⟩,
       ⟨none, none, .store 2 (.tmp 6) (.tmp 54)⟩,
       ⟨none, none, .store 2 (.tmp 7) (.tmp 55)⟩])
     .ret)))
theorem ok_prepare_Join : FnOk Try.prog 19 56 c_prepare_Join [.cell 6 (some 2), .cell 7 (some 2)] :=
  ⟨Try.f19, [], Try.func19, rfl, by kernel_rfl, by kernel_rfl, by kernel_rfl⟩

/-- trustquorum/trustquorumref23.Zero -/
def c_trustquorumref23_Zero : SC :=
  (.seq
   (.reg
     [⟨(some 1), none, .box (.tmp 0)⟩,
     ⟨(some 2), none, .mov (.cst (.bool false))⟩])
   (.seq
    (.reg
      [⟨(some 3), none, .load (some 2) (.tmp 1)⟩,
      ⟨(some 4), none, .build [.int .i64 0, .str ⟨#[]⟩] []⟩,
      ⟨(some 5), none, .eq2 false (.tmp 3) (.tmp 4)⟩,
      ⟨(some 2), none, .mov (.tmp 5)⟩])
    .ret))
theorem ok_trustquorumref23_Zero : FnOk Try.prog 20 6 c_trustquorumref23_Zero [.tmp 2] :=
  ⟨Try.f20, [], Try.func20, rfl, by kernel_rfl, by kernel_rfl, by kernel_rfl⟩

/-- trustquorum/trustquorumref23.Less -/
def c_trustquorumref23_Less : SC :=
  (.seq
   (.reg
     [⟨(some 2), none, .box (.tmp 0)⟩,
     ⟨(some 3), none, .box (.tmp 1)⟩,
     ⟨(some 4), none, .mov (.cst (.bool false))⟩])
   (.seq
    (.seq
     (.reg
       [⟨(some 5), none, .faddr 0 (.tmp 2)⟩,
       ⟨(some 6), none, .load none (.tmp 5)⟩,
       ⟨(some 7), none, .faddr 0 (.tmp 3)⟩,
       ⟨(some 8), none, .load none (.tmp 7)⟩,
       ⟨(some 9), none, .bin .neq (.tmp 6) (.tmp 8)⟩])
     (.cond (.tmp 9)
      (.seq
       (.reg
         [⟨(some 10), none, .faddr 0 (.tmp 2)⟩,
         ⟨(some 11), none, .load none (.tmp 10)⟩,
         ⟨(some 12), none, .faddr 0 (.tmp 3)⟩,
         ⟨(some 13), none, .load none (.tmp 12)⟩,
         ⟨(some 14), none, .bin .lss (.tmp 11) (.tmp 13)⟩,
         ⟨(some 4), none, .mov (.tmp 14)⟩])
       .ret)
      .skip))
    (.seq
     (.reg
       [⟨(some 15), none, .faddr 1 (.tmp 2)⟩,
       ⟨(some 16), none, .load none (.tmp 15)⟩,
       ⟨(some 17), none, .faddr 1 (.tmp 3)⟩,
       ⟨(some 18), none, .load none (.tmp 17)⟩,
       ⟨(some 19), none, .call 51 [(.tmp 16), (.tmp 18)]⟩,
       ⟨(some 4), none, .mov (.tmp 19)⟩])
     .ret)))
theorem ok_trustquorumref23_Less : FnOk Try.prog 21 20 c_trustquorumref23_Less [.tmp 4] :=
  ⟨Try.f21, [], Try.func21, rfl, by kernel_rfl, by kernel_rfl, by kernel_rfl⟩

/-- trustquorum/trustquorumref23.Compatible -/
def c_trustquorumref23_Compatible : SC :=
  (.seq
   (.reg
     [⟨(some 2), none, .box (.tmp 0)⟩,
     ⟨(some 3), none, .box (.tmp 1)⟩,
     ⟨(some 4), none, .mov (.cst (.bool false))⟩])
   (.seq
    (.reg
      [⟨(some 5), none, .faddr 1 (.tmp 2)⟩,
      ⟨(some 6), none, .load none (.tmp 5)⟩,
      ⟨(some 7), none, .faddr 1 (.tmp 3)⟩,
      ⟨(some 8), none, .load none (.tmp 7)⟩,
      ⟨(some 9), none, .bin .eql (.tmp 6) (.tmp 8)⟩,
      ⟨(some 4), none, .mov (.tmp 9)⟩])
    .ret))
theorem ok_trustquorumref23_Compatible : FnOk Try.prog 22 10 c_trustquorumref23_Compatible [.tmp 4] :=
  ⟨Try.f22, [], Try.func22, rfl, by kernel_rfl, by kernel_rfl, by kernel_rfl⟩

/-- trustquorum/trustquorumref23.Prepares -/
def c_trustquorumref23_Prepares : SC :=
  (.seq
   (.reg
     [⟨(some 3), none, .box (.tmp 0)⟩,
     ⟨(some 4), none, .box (.tmp 1)⟩,
     ⟨(some 5), none, .box (.tmp 2)⟩,
     ⟨(some 6), none, .mov (.cst (.bool false))⟩])
   (.seq
    (.reg
      [⟨(some 7), none, .load (some 2) (.tmp 3)⟩,
      ⟨(some 8), none, .load (some 2) (.tmp 5)⟩,
      ⟨(some 9), none, .call 29 [(.tmp 7), (.tmp 8)]⟩,
      ⟨(some 10), none, .mov (.tmp 9)⟩,
      ⟨(some 11), (some (10, false)), .load (some 2) (.tmp 4)⟩,
      ⟨(some 12), (some (10, false)), .load (some 2) (.tmp 5)⟩,
      ⟨(some 13), (some (10, false)), .call 29 [(.tmp 11), (.tmp 12)]⟩,
      ⟨(some 14), none, .pick (.tmp 10) (.cst (.bool true)) (.tmp 13)⟩,
      ⟨(some 15), none, .mov (.tmp 14)⟩,
      ⟨(some 16), (some (15, false)), .load (some 2) (.tmp 4)⟩,
      ⟨(some 17), (some (15, false)), .call 20 [(.tmp 16)]⟩,
      ⟨(some 18), (some (15, false)), .not (.tmp 17)⟩,
      ⟨(some 19), (some (15, false)), .mov (.tmp 18)⟩,
      ⟨(some 20), (some (19, true)), .load (some 2) (.tmp 5)⟩,
      ⟨(some 21), (some (19, true)), .load (some 2) (.tmp 4)⟩,
      ⟨(some 22), (some (19, true)), .call 21 [(.tmp 20), (.tmp 21)]⟩,
      ⟨(some 23), (some (15, false)), .pick (.tmp 19) (.tmp 22) (.cst (.bool false))⟩,
      ⟨(some 24), none, .pick (.tmp 15) (.cst (.bool true)) (.tmp 23)⟩,
      ⟨(some 6), none, .mov (.tmp 24)⟩])
    .ret))
theorem ok_trustquorumref23_Prepares : FnOk Try.prog 23 25 c_trustquorumref23_Prepares [.tmp 6] :=
  ⟨Try.f23, [], Try.func23, rfl, by kernel_rfl, by kernel_rfl, by kernel_rfl⟩

/-- trustquorum/trustquorumlaw25.sane -/
def c_trustquorumlaw25_sane : SC :=
  (.seq
   (.reg
     [⟨(some 0), none, .mov (.cst (.bool false))⟩])
   (.seq
    (.reg
      [⟨(some 5), none, .build [.int .i64 0, .str ⟨#[]⟩] [(0, 1, (.cst (.int .i64 2))), (1, 1, (.cst (.str ⟨#[97]⟩)))]⟩,
      ⟨(some 6), none, .build [.int .i64 0, .str ⟨#[]⟩] []⟩,
      ⟨(some 7), none, .build [.int .i64 0, .str ⟨#[]⟩] [(0, 1, (.cst (.int .i64 3))), (1, 1, (.cst (.str ⟨#[98]⟩)))]⟩,
      ⟨(some 8), none, .call 19 [(.tmp 5), (.tmp 6), (.tmp 7)]⟩,
      ⟨(some 4), none, .mov (.tmp 8)⟩,
      ⟨(some 9), none, .extr 0 (.tmp 4)⟩,
      ⟨(some 10), none, .extr 1 (.tmp 4)⟩,
      ⟨(some 1), none, .alloc [.int .i64 0, .str ⟨#[]⟩]⟩,
      ⟨(some 2), none, .alloc [.int .i64 0, .str ⟨#[]⟩]⟩,
      ⟨none, none, .store 2 (.tmp 1) (.tmp 9)⟩,
      ⟨none, none, .store 2 (.tmp 2) (.tmp 10)⟩])
    (.seq
     (.reg
       [⟨(some 11), none, .call 41 [(.cst (.int .i64 2)), (.cst (.int .i64 1))]⟩,
       ⟨(some 12), none, .call 52 [(.cst (.int .i64 0)), (.tmp 11), (.cst (.nils))]⟩,
       ⟨(some 3), none, .alloc [.nils]⟩,
       ⟨none, none, .store 1 (.tmp 3) (.tmp 12)⟩])
     (.seq
      (.reg
        [⟨(some 13), none, .load (some 2) (.tmp 1)⟩,
        ⟨(some 14), none, .build [.int .i64 0, .str ⟨#[]⟩] [(0, 1, (.cst (.int .i64 3))), (1, 1, (.cst (.str ⟨#[98]⟩)))]⟩,
        ⟨(some 15), none, .eq2 false (.tmp 13) (.tmp 14)⟩,
        ⟨(some 16), none, .mov (.tmp 15)⟩,
        ⟨(some 17), (some (16, true)), .load (some 2) (.tmp 2)⟩,
        ⟨(some 18), (some (16, true)), .build [.int .i64 0, .str ⟨#[]⟩] [(0, 1, (.cst (.int .i64 2))), (1, 1, (.cst (.str ⟨#[97]⟩)))]⟩,
        ⟨(some 19), (some (16, true)), .eq2 false (.tmp 17) (.tmp 18)⟩,
        ⟨(some 20), none, .pick (.tmp 16) (.tmp 19) (.cst (.bool false))⟩,
        ⟨(some 21), none, .mov (.tmp 20)⟩,
        ⟨(some 22), (some (21, true)), .faddr 0 (.tmp 3)⟩,
        ⟨(some 23), (some (21, true)), .load none (.tmp 22)⟩,
        ⟨(some 24), (some (21, true)), .len false (.tmp 23)⟩,
        ⟨(some 25), (some (21, true)), .bin .eql (.tmp 24) (.cst (.int .i64 10))⟩,
        ⟨(some 26), none, .pick (.tmp 21) (.tmp 25) (.cst (.bool false))⟩,
        ⟨(some 27), none, .mov (.tmp 26)⟩,
        ⟨(some 28), (some (27, true)), .faddr 0 (.tmp 3)⟩,
        ⟨(some 29), (some (27, true)), .load none (.tmp 28)⟩,
        ⟨(some 30), (some (27, true)), .iaddr 4 (.tmp 29) (.cst (.int .i64 0))⟩,
        ⟨(some 31), (some (27, true)), .faddr 0 (.tmp 30)⟩,
        ⟨(some 32), (some (27, true)), .load none (.tmp 31)⟩,
        ⟨(some 33), none, .pick (.tmp 27) (.tmp 32) (.cst (.bool false))⟩,
        ⟨(some 0), none, .mov (.tmp 33)⟩])
      .ret))))
theorem ok_trustquorumlaw25_sane : FnOk Try.prog 24 34 c_trustquorumlaw25_sane [.tmp 0] :=
  ⟨Try.f24, [], Try.func24, rfl, by kernel_rfl, by kernel_rfl, by kernel_rfl⟩

/-- trustquorum/envelopes.Valid -/
def c_envelopes_Valid : SC :=
  (.seq
   (.reg
     [⟨(some 1), none, .box (.tmp 0)⟩,
     ⟨(some 2), none, .mov (.cst (.bool false))⟩])
   (.seq
    (.seq
     (.reg
       [⟨(some 4), none, .faddr 0 (.tmp 1)⟩,
       ⟨(some 5), none, .load none (.tmp 4)⟩,
       ⟨(some 6), none, .bin .lss (.tmp 5) (.cst (.int .i64 0))⟩,
       ⟨(some 7), none, .mov (.tmp 6)⟩,
       ⟨(some 8), (some (7, false)), .faddr 0 (.tmp 1)⟩,
       ⟨(some 9), (some (7, false)), .load none (.tmp 8)⟩,
       ⟨(some 10), (some (7, false)), .bin .geq (.tmp 9) (.cst (.int .i64 10))⟩,
       ⟨(some 11), none, .pick (.tmp 7) (.cst (.bool true)) (.tmp 10)⟩,
       ⟨(some 12), none, .mov (.tmp 11)⟩,
       ⟨(some 13), (some (12, false)), .faddr 1 (.tmp 1)⟩,
       ⟨(some 14), (some (12, false)), .load none (.tmp 13)⟩,
       ⟨(some 15), (some (12, false)), .bin .lss (.tmp 14) (.cst (.int .i64 1))⟩,
       ⟨(some 16), none, .pick (.tmp 12) (.cst (.bool true)) (.tmp 15)⟩,
       ⟨(some 17), none, .mov (.tmp 16)⟩,
       ⟨(some 18), (some (17, false)), .faddr 1 (.tmp 1)⟩,
       ⟨(some 19), (some (17, false)), .load none (.tmp 18)⟩,
       ⟨(some 20), (some (17, false)), .bin .gtr (.tmp 19) (.cst (.int .i64 1000000))⟩,
       ⟨(some 21), none, .pick (.tmp 17) (.cst (.bool true)) (.tmp 20)⟩,
       ⟨(some 22), none, .mov (.tmp 21)⟩,
       ⟨(some 23), (some (22, false)), .faddr 2 (.tmp 1)⟩,
       ⟨(some 24), (some (22, false)), .load none (.tmp 23)⟩,
       ⟨(some 25), (some (22, false)), .bin .lss (.tmp 24) (.cst (.int .i64 1))⟩,
       ⟨(some 26), none, .pick (.tmp 22) (.cst (.bool true)) (.tmp 25)⟩,
       ⟨(some 27), none, .mov (.tmp 26)⟩,
       ⟨(some 28), (some (27, false)), .faddr 2 (.tmp 1)⟩,
       ⟨(some 29), (some (27, false)), .load none (.tmp 28)⟩,
       ⟨(some 30), (some (27, false)), .bin .gtr (.tmp 29) (.cst (.int .i64 1000000))⟩,
       ⟨(some 31), none, .pick (.tmp 27) (.cst (.bool true)) (.tmp 30)⟩,
       ⟨(some 32), none, .mov (.tmp 31)⟩,
       ⟨(some 33), (some (32, false)), .faddr 3 (.tmp 1)⟩,
       ⟨(some 34), (some (32, false)), .load (some 3) (.tmp 33)⟩,
       ⟨(some 35), (some (32, false)), .call 53 [(.tmp 34)]⟩,
       ⟨(some 36), (some (32, false)), .bin .neq (.tmp 35) (.cst (.int .i64 0))⟩,
       ⟨(some 37), none, .pick (.tmp 32) (.cst (.bool true)) (.tmp 36)⟩])
     (.cond (.tmp 37)
      (.seq
       (.reg
         [⟨(some 2), none, .mov (.cst (.bool false))⟩])
       .ret)
      .skip))
    (.seq
     (.reg
       [⟨(some 38), none, .faddr 13 (.tmp 1)⟩,
       ⟨(some 39), none, .load none (.tmp 38)⟩,
       ⟨(some 40), none, .bin .geq (.tmp 39) (.cst (.int .i64 1))⟩,
       ⟨(some 41), none, .mov (.tmp 40)⟩,
       ⟨(some 42), (some (41, true)), .faddr 14 (.tmp 1)⟩,
       ⟨(some 43), (some (41, true)), .load none (.tmp 42)⟩,
       ⟨(some 44), (some (41, true)), .faddr 13 (.tmp 1)⟩,
       ⟨(some 45), (some (41, true)), .load none (.tmp 44)⟩,
       ⟨(some 46), (some (41, true)), .bin .geq (.tmp 43) (.tmp 45)⟩,
       ⟨(some 47), none, .pick (.tmp 41) (.tmp 46) (.cst (.bool false))⟩,
       ⟨(some 48), none, .mov (.tmp 47)⟩,
       ⟨(some 49), (some (48, true)), .faddr 14 (.tmp 1)⟩,
       ⟨(some 50), (some (48, true)), .load none (.tmp 49)⟩,
       ⟨(some 51), (some (48, true)), .bin .leq (.tmp 50) (.cst (.int .i64 1000))⟩,
       ⟨(some 52), none, .pick (.tmp 48) (.tmp 51) (.cst (.bool false))⟩,
       ⟨(some 3), none, .mov (.tmp 52)⟩])
     (.seq
      (.seq
       (.reg
         [⟨(some 53), none, .faddr 6 (.tmp 1)⟩,
         ⟨(some 54), none, .load none (.tmp 53)⟩])
       (.block 0
        (.seq
         (.reg
           [⟨(some 56), none, .bin .eql (.tmp 54) (.cst (.int .i64 1))⟩,
           ⟨(some 55), none, .mov (.tmp 56)⟩])
         (.cond (.tmp 55)
          (.seq
           (.reg
             [⟨(some 57), none, .load (some 15) (.tmp 1)⟩,
             ⟨(some 58), none, .call 54 [(.tmp 57)]⟩,
             ⟨(some 2), none, .mov (.tmp 58)⟩])
           .ret)
          (.seq
           (.reg
             [⟨(some 60), none, .bin .eql (.tmp 54) (.cst (.int .i64 2))⟩,
             ⟨(some 59), none, .mov (.tmp 60)⟩])
           (.cond (.tmp 59)
            (.seq
             (.reg
               [⟨(some 61), none, .faddr 7 (.tmp 1)⟩,
               ⟨(some 62), none, .load (some 2) (.tmp 61)⟩,
               ⟨(some 63), none, .call 55 [(.tmp 62)]⟩,
               ⟨(some 64), none, .mov (.tmp 63)⟩,
               ⟨(some 65), (some (64, true)), .faddr 9 (.tmp 1)⟩,
               ⟨(some 66), (some (64, true)), .load (some 2) (.tmp 65)⟩,
               ⟨(some 67), (some (64, true)), .call 56 [(.tmp 66)]⟩,
               ⟨(some 68), none, .pick (.tmp 64) (.tmp 67) (.cst (.bool false))⟩,
               ⟨(some 69), none, .mov (.tmp 68)⟩,
               ⟨(some 70), (some (69, true)), .faddr 9 (.tmp 1)⟩,
               ⟨(some 71), (some (69, true)), .load (some 2) (.tmp 70)⟩,
               ⟨(some 72), (some (69, true)), .faddr 7 (.tmp 1)⟩,
               ⟨(some 73), (some (69, true)), .load (some 2) (.tmp 72)⟩,
               ⟨(some 74), (some (69, true)), .call 50 [(.tmp 71), (.tmp 73)]⟩,
               ⟨(some 75), none, .pick (.tmp 69) (.tmp 74) (.cst (.bool false))⟩,
               ⟨(some 76), none, .mov (.tmp 75)⟩,
               ⟨(some 77), (some (76, true)), .faddr 11 (.tmp 1)⟩,
               ⟨(some 78), (some (76, true)), .load (some 2) (.tmp 77)⟩,
               ⟨(some 79), (some (76, true)), .call 48 [(.tmp 78)]⟩,
               ⟨(some 80), none, .pick (.tmp 76) (.tmp 79) (.cst (.bool false))⟩,
               ⟨(some 81), none, .mov (.tmp 80)⟩,
               ⟨(some 82), (some (81, true)), .mov (.tmp 3)⟩,
               ⟨(some 83), none, .pick (.tmp 81) (.tmp 82) (.cst (.bool false))⟩,
               ⟨(some 84), none, .mov (.tmp 83)⟩,
               ⟨(some 85), (some (84, true)), .faddr 14 (.tmp 1)⟩,
               ⟨(some 86), (some (84, true)), .load none (.tmp 85)⟩,
               ⟨(some 87), (some (84, true)), .faddr 9 (.tmp 1)⟩,
               ⟨(some 88), (some (84, true)), .faddr 0 (.tmp 87)⟩,
               ⟨(some 89), (some (84, true)), .load none (.tmp 88)⟩,
               ⟨(some 90), (some (84, true)), .bin .leq (.tmp 86) (.tmp 89)⟩,
               ⟨(some 91), none, .pick (.tmp 84) (.tmp 90) (.cst (.bool false))⟩,
               ⟨(some 2), none, .mov (.tmp 91)⟩])
             .ret)
            (.seq
             (.reg
               [⟨(some 93), none, .bin .eql (.tmp 54) (.cst (.int .i64 3))⟩,
               ⟨(some 92), none, .mov (.tmp 93)⟩])
             (.cond (.tmp 92)
              (.seq
               (.reg
                 [⟨(some 94), none, .faddr 7 (.tmp 1)⟩,
                 ⟨(some 95), none, .load (some 2) (.tmp 94)⟩,
                 ⟨(some 96), none, .call 56 [(.tmp 95)]⟩,
                 ⟨(some 97), none, .mov (.tmp 96)⟩,
                 ⟨(some 98), (some (97, true)), .faddr 9 (.tmp 1)⟩,
                 ⟨(some 99), (some (97, true)), .load (some 2) (.tmp 98)⟩,
                 ⟨(some 100), (some (97, true)), .call 48 [(.tmp 99)]⟩,
                 ⟨(some 101), none, .pick (.tmp 97) (.tmp 100) (.cst (.bool false))⟩,
                 ⟨(some 102), none, .mov (.tmp 101)⟩,
                 ⟨(some 103), (some (102, true)), .faddr 11 (.tmp 1)⟩,
                 ⟨(some 104), (some (102, true)), .load (some 2) (.tmp 103)⟩,
                 ⟨(some 105), (some (102, true)), .call 48 [(.tmp 104)]⟩,
                 ⟨(some 106), none, .pick (.tmp 102) (.tmp 105) (.cst (.bool false))⟩,
                 ⟨(some 107), none, .mov (.tmp 106)⟩,
                 ⟨(some 108), (some (107, true)), .mov (.tmp 3)⟩,
                 ⟨(some 109), none, .pick (.tmp 107) (.tmp 108) (.cst (.bool false))⟩,
                 ⟨(some 2), none, .mov (.tmp 109)⟩])
               .ret)
              .skip))))))))
      (.seq
       (.reg
         [⟨(some 2), none, .mov (.cst (.bool false))⟩])
       .ret)))))
theorem ok_envelopes_Valid : FnOk Try.prog 25 110 c_envelopes_Valid [.tmp 2] :=
  ⟨Try.f25, [], Try.func25, rfl, by kernel_rfl, by kernel_rfl, by kernel_rfl⟩

/-- (*trustquorum/trustquorumplay.Src).Range -/
def c_trustquorumplay_Src_Range : SC :=
  (.seq
   (.reg
     [⟨(some 6), none, .mov (.cst (.int .i64 0))⟩])
   (.seq
    (.reg
      [⟨(some 7), none, .mov (.tmp 1)⟩,
      ⟨(some 8), none, .mov (.tmp 0)⟩,
      ⟨(some 9), none, .mov (.tmp 2)⟩,
      ⟨(some 10), none, .mov (.tmp 1)⟩,
      ⟨(some 11), none, .bin .sub (.tmp 9) (.tmp 10)⟩,
      ⟨(some 12), none, .bin .add (.tmp 11) (.cst (.int .i64 1))⟩,
      ⟨(some 13), none, .call 13 [(.tmp 8), (.tmp 12)]⟩,
      ⟨(some 14), none, .bin .add (.tmp 7) (.tmp 13)⟩,
      ⟨(some 6), none, .mov (.tmp 14)⟩])
    .ret))
theorem ok_trustquorumplay_Src_Range : FnOk Try.prog 26 15 c_trustquorumplay_Src_Range [.tmp 6] :=
  ⟨Try.f26, [], Try.func26, rfl, by kernel_rfl, by kernel_rfl, by kernel_rfl⟩

/-- trustquorum/envelopes.AcceptsCommit -/
def c_envelopes_AcceptsCommit : SC :=
  (.seq
   (.reg
     [⟨(some 4), none, .box (.tmp 0)⟩,
     ⟨(some 8), none, .mov (.cst (.bool false))⟩])
   (.seq
    (.reg
      [⟨(some 9), none, .load (some 15) (.tmp 4)⟩,
      ⟨(some 10), none, .call 25 [(.tmp 9)]⟩,
      ⟨(some 11), none, .mov (.tmp 10)⟩,
      ⟨(some 12), (some (11, true)), .load (some 15) (.tmp 4)⟩,
      ⟨(some 13), (some (11, true)), .build [.int .i64 0, .int .i64 0, .int .i64 0, .int .i64 0, .nils, .nils, .int .i64 0, .int .i64 0, .str ⟨#[]⟩, .int .i64 0, .str ⟨#[]⟩, .int .i64 0, .str ⟨#[]⟩, .int .i64 0, .int .i64 0] [(0, 15, (.tmp 12))]⟩,
      ⟨(some 14), (some (11, true)), .mov (.tmp 1)⟩,
      ⟨(some 15), (some (11, true)), .mov (.tmp 2)⟩,
      ⟨(some 16), (some (11, true)), .mov (.tmp 3)⟩,
      ⟨(some 17), (some (11, true)), .call 57 [(.tmp 13), (.tmp 14), (.tmp 15), (.tmp 16)]⟩,
      ⟨(some 18), none, .pick (.tmp 11) (.tmp 17) (.cst (.bool false))⟩,
      ⟨(some 8), none, .mov (.tmp 18)⟩])
    .ret))
theorem ok_envelopes_AcceptsCommit : FnOk Try.prog 27 19 c_envelopes_AcceptsCommit [.tmp 8] :=
  ⟨Try.f27, [], Try.func27, rfl, by kernel_rfl, by kernel_rfl, by kernel_rfl⟩

/-- trustquorum/envelopes.AcceptsPrepare -/
def c_envelopes_AcceptsPrepare : SC :=
  (.seq
   (.reg
     [⟨(some 2), none, .box (.tmp 0)⟩,
     ⟨(some 3), none, .box (.tmp 1)⟩,
     ⟨(some 4), none, .mov (.cst (.bool false))⟩])
   (.seq
    (.reg
      [⟨(some 5), none, .load (some 15) (.tmp 2)⟩,
      ⟨(some 6), none, .call 25 [(.tmp 5)]⟩,
      ⟨(some 7), none, .mov (.tmp 6)⟩,
      ⟨(some 8), (some (7, true)), .load (some 15) (.tmp 2)⟩,
      ⟨(some 9), (some (7, true)), .build [.int .i64 0, .int .i64 0, .int .i64 0, .int .i64 0, .nils, .nils, .int .i64 0, .int .i64 0, .str ⟨#[]⟩, .int .i64 0, .str ⟨#[]⟩, .int .i64 0, .str ⟨#[]⟩, .int .i64 0, .int .i64 0] [(0, 15, (.tmp 8))]⟩,
      ⟨(some 10), (some (7, true)), .load (some 2) (.tmp 3)⟩,
      ⟨(some 11), (some (7, true)), .call 58 [(.tmp 9), (.tmp 10)]⟩,
      ⟨(some 12), none, .pick (.tmp 7) (.tmp 11) (.cst (.bool false))⟩,
      ⟨(some 4), none, .mov (.tmp 12)⟩])
    .ret))
theorem ok_envelopes_AcceptsPrepare : FnOk Try.prog 28 13 c_envelopes_AcceptsPrepare [.tmp 4] :=
  ⟨Try.f28, [], Try.func28, rfl, by kernel_rfl, by kernel_rfl, by kernel_rfl⟩

/-- trustquorum/trustquorumref23.Covers -/
def c_trustquorumref23_Covers : SC :=
  (.seq
   (.reg
     [⟨(some 2), none, .box (.tmp 0)⟩,
     ⟨(some 3), none, .box (.tmp 1)⟩,
     ⟨(some 4), none, .mov (.cst (.bool false))⟩])
   (.seq
    (.reg
      [⟨(some 5), none, .load (some 2) (.tmp 2)⟩,
      ⟨(some 6), none, .call 20 [(.tmp 5)]⟩,
      ⟨(some 7), none, .not (.tmp 6)⟩,
      ⟨(some 8), none, .mov (.tmp 7)⟩,
      ⟨(some 9), (some (8, true)), .load (some 2) (.tmp 2)⟩,
      ⟨(some 10), (some (8, true)), .load (some 2) (.tmp 3)⟩,
      ⟨(some 11), (some (8, true)), .call 22 [(.tmp 9), (.tmp 10)]⟩,
      ⟨(some 12), none, .pick (.tmp 8) (.tmp 11) (.cst (.bool false))⟩,
      ⟨(some 13), none, .mov (.tmp 12)⟩,
      ⟨(some 14), (some (13, true)), .faddr 0 (.tmp 2)⟩,
      ⟨(some 15), (some (13, true)), .load none (.tmp 14)⟩,
      ⟨(some 16), (some (13, true)), .faddr 0 (.tmp 3)⟩,
      ⟨(some 17), (some (13, true)), .load none (.tmp 16)⟩,
      ⟨(some 18), (some (13, true)), .bin .geq (.tmp 15) (.tmp 17)⟩,
      ⟨(some 19), none, .pick (.tmp 13) (.tmp 18) (.cst (.bool false))⟩,
      ⟨(some 4), none, .mov (.tmp 19)⟩])
    .ret))
theorem ok_trustquorumref23_Covers : FnOk Try.prog 29 20 c_trustquorumref23_Covers [.tmp 4] :=
  ⟨Try.f29, [], Try.func29, rfl, by kernel_rfl, by kernel_rfl, by kernel_rfl⟩

/-- trustquorum/envelopes.VotesPrepare -/
def c_envelopes_VotesPrepare : SC :=
  (.seq
   (.reg
     [⟨(some 2), none, .box (.tmp 0)⟩,
     ⟨(some 3), none, .box (.tmp 1)⟩,
     ⟨(some 4), none, .mov (.cst (.bool false))⟩])
   (.seq
    (.reg
      [⟨(some 5), none, .load (some 15) (.tmp 2)⟩,
      ⟨(some 6), none, .call 25 [(.tmp 5)]⟩,
      ⟨(some 7), none, .mov (.tmp 6)⟩,
      ⟨(some 8), (some (7, true)), .load (some 15) (.tmp 2)⟩,
      ⟨(some 9), (some (7, true)), .build [.int .i64 0, .int .i64 0, .int .i64 0, .int .i64 0, .nils, .nils, .int .i64 0, .int .i64 0, .str ⟨#[]⟩, .int .i64 0, .str ⟨#[]⟩, .int .i64 0, .str ⟨#[]⟩, .int .i64 0, .int .i64 0] [(0, 15, (.tmp 8))]⟩,
      ⟨(some 10), (some (7, true)), .load (some 2) (.tmp 3)⟩,
      ⟨(some 11), (some (7, true)), .call 59 [(.tmp 9), (.tmp 10)]⟩,
      ⟨(some 12), none, .pick (.tmp 7) (.tmp 11) (.cst (.bool false))⟩,
      ⟨(some 4), none, .mov (.tmp 12)⟩])
    .ret))
theorem ok_envelopes_VotesPrepare : FnOk Try.prog 30 13 c_envelopes_VotesPrepare [.tmp 4] :=
  ⟨Try.f30, [], Try.func30, rfl, by kernel_rfl, by kernel_rfl, by kernel_rfl⟩

/-- (*trustquorum/trustquorumplay.Src).Trust -/
def c_trustquorumplay_Src_Trust : SC :=
  (.seq
   (.reg
     [⟨(some 4), none, .alloc [.int .i64 0, .nils, .nils]⟩])
   (.seq
    (.reg
      [⟨(some 5), none, .alloc [.int .i64 0, .nils, .nils]⟩])
    (.seq
     (.seq
      (.reg
        [⟨(some 6), none, .mov (.cst (.int .i64 0))⟩])
      (.block 0
       (.loop
        (.seq
         (.seq
          (.reg
            [⟨(some 8), none, .mov (.tmp 6)⟩,
            ⟨(some 9), none, .mov (.tmp 1)⟩,
            ⟨(some 10), none, .bin .lss (.tmp 8) (.tmp 9)⟩])
          (.cond (.tmp 10)
           .skip
           (.exit 0)))
         (.seq
          (.block 1
           (.seq
            (.reg
              [⟨(some 13), none, .mov (.tmp 0)⟩,
              ⟨(some 14), none, .call 13 [(.tmp 13), (.cst (.int .i64 5))]⟩,
              ⟨(some 15), none, .bin .gtr (.tmp 14) (.cst (.int .i64 0))⟩])
            (.cond (.tmp 15)
             (.reg
               [⟨(some 16), none, .faddr 1 (.tmp 5)⟩,
               ⟨(some 17), none, .load none (.tmp 16)⟩,
               ⟨(some 18), none, .mov (.tmp 6)⟩,
               ⟨(some 19), none, .bsl false 3 1 (List.replicate 1 [.int .i64 0]) [(0, (.tmp 18))]⟩,
               ⟨(some 20), none, .app 3 1 8 (.tmp 17) (.tmp 19)⟩,
               ⟨(some 21), none, .faddr 1 (.tmp 5)⟩,
               ⟨none, none, .store 1 (.tmp 21) (.tmp 20)⟩])
             .skip)))
          (.reg
            [⟨(some 11), none, .mov (.tmp 6)⟩,
            ⟨(some 12), none, .bin .add (.tmp 11) (.cst (.int .i64 1))⟩,
            ⟨(some 6), none, .mov (.tmp 12)⟩]))))))
     (.seq
      (.seq
       (.reg
         [⟨(some 22), none, .faddr 1 (.tmp 5)⟩,
         ⟨(some 23), none, .load none (.tmp 22)⟩,
         ⟨(some 24), none, .len false (.tmp 23)⟩,
         ⟨(some 25), none, .bin .eql (.tmp 24) (.cst (.int .i64 0))⟩])
       (.cond (.tmp 25)
        (.reg
          [⟨(some 26), none, .mov (.tmp 0)⟩,
          ⟨(some 27), none, .mov (.tmp 1)⟩,
          ⟨(some 28), none, .call 13 [(.tmp 26), (.tmp 27)]⟩,
          ⟨(some 29), none, .bsl false 3 1 (List.replicate 1 [.int .i64 0]) [(0, (.tmp 28))]⟩,
          ⟨(some 30), none, .faddr 1 (.tmp 5)⟩,
          ⟨none, none, .store 1 (.tmp 30) (.tmp 29)⟩])
        .skip))
      (.seq
       (.seq
        (.reg
          [⟨(some 31), none, .mov (.tmp 0)⟩,
          ⟨(some 32), none, .call 13 [(.tmp 31), (.cst (.int .i64 4))]⟩,
          ⟨(some 33), none, .bin .eql (.tmp 32) (.cst (.int .i64 3))⟩])
        (.cond (.tmp 33)
         (.drw [(0, 4), (1, 4), (0, 5), (1, 5), (0, 7), (1, 7)]
           [⟨(some 34), none, .faddr 2 (.tmp 5)⟩,
           ⟨(some 35), none, .load none (.tmp 34)⟩,
           ⟨(some 36), none, .mov (.tmp 0)⟩,
           ⟨(some 37), none, .mov (.tmp 1)⟩,
           ⟨(some 38), none, .call 13 [(.tmp 36), (.tmp 37)]⟩,
           ⟨(some 39), none, .bsl false 3 1 (List.replicate 1 [.int .i64 0]) [(0, (.tmp 38))]⟩,
           ⟨(some 40), none, .build [.int .i64 0, .nils, .nils] [(0, 1, (.cst (.int .i64 1))), (1, 1, (.tmp 39))]⟩,
           ⟨(some 41), none, .bsl false 27 3 (List.replicate 1 [.int .i64 0, .nils, .nils]) [(0, (.tmp 40))]⟩,
           ⟨(some 42), none, .app 27 3 56 (.tmp 35) (.tmp 41)⟩,
           ⟨(some 43), none, .faddr 2 (.tmp 5)⟩,
           ⟨none, none, .store 1 (.tmp 43) (.tmp 42)⟩])
         .skip))
       (.seq
        (.reg
          [⟨(some 44), none, .faddr 1 (.tmp 5)⟩,
          ⟨(some 45), none, .load none (.tmp 44)⟩,
          ⟨(some 46), none, .len false (.tmp 45)⟩,
          ⟨(some 47), none, .faddr 2 (.tmp 5)⟩,
          ⟨(some 48), none, .load none (.tmp 47)⟩,
          ⟨(some 49), none, .len false (.tmp 48)⟩,
          ⟨(some 50), none, .bin .add (.tmp 46) (.tmp 49)⟩,
          ⟨(some 7), none, .mov (.tmp 50)⟩])
        (.seq
         (.reg
           [⟨(some 51), none, .mov (.tmp 0)⟩,
           ⟨(some 52), none, .mov (.tmp 7)⟩,
           ⟨(some 53), none, .bin .add (.tmp 52) (.cst (.int .i64 1))⟩,
           ⟨(some 54), none, .bin .quo (.tmp 53) (.cst (.int .i64 2))⟩,
           ⟨(some 55), none, .mov (.tmp 7)⟩,
           ⟨(some 56), none, .call 26 [(.tmp 51), (.tmp 54), (.tmp 55)]⟩,
           ⟨(some 57), none, .faddr 0 (.tmp 5)⟩,
           ⟨none, none, .store 1 (.tmp 57) (.tmp 56)⟩])
         (.seq
          (.seq
           (.reg
             [⟨(some 58), none, .mov (.tmp 0)⟩,
             ⟨(some 59), none, .call 13 [(.tmp 58), (.cst (.int .i64 6))]⟩,
             ⟨(some 60), none, .bin .eql (.tmp 59) (.cst (.int .i64 5))⟩])
           (.cond (.tmp 60)
            (.reg
              [⟨(some 61), none, .faddr 0 (.tmp 5)⟩,
              ⟨none, none, .store 1 (.tmp 61) (.cst (.int .i64 1))⟩])
            .skip))
          (.seq
           (.reg
             [⟨(some 62), none, .load (some 3) (.tmp 5)⟩,
             ⟨none, none, .store 3 (.tmp 4) (.tmp 62)⟩])
           .ret)))))))))
theorem ok_trustquorumplay_Src_Trust : FnOk Try.prog 31 63 c_trustquorumplay_Src_Trust [.cell 4 (some 3)] :=
  ⟨Try.f31, [], Try.func31, rfl, by kernel_rfl, by kernel_rfl, by kernel_rfl⟩

/-- trustquorum/envelopes.Counter -/
def c_envelopes_Counter : SC :=
  (.seq
   (.reg
     [⟨(some 1), none, .box (.tmp 0)⟩,
     ⟨(some 2), none, .mov (.cst (.int .i64 0))⟩])
   (.seq
    (.seq
     (.reg
       [⟨(some 3), none, .load (some 15) (.tmp 1)⟩,
       ⟨(some 4), none, .call 25 [(.tmp 3)]⟩,
       ⟨(some 5), none, .not (.tmp 4)⟩])
     (.cond (.tmp 5)
      (.seq
       (.reg
         [⟨(some 2), none, .mov (.cst (.int .i64 0))⟩])
       .ret)
      .skip))
    (.seq
     (.reg
       [⟨(some 6), none, .load (some 15) (.tmp 1)⟩,
       ⟨(some 7), none, .build [.int .i64 0, .int .i64 0, .int .i64 0, .int .i64 0, .nils, .nils, .int .i64 0, .int .i64 0, .str ⟨#[]⟩, .int .i64 0, .str ⟨#[]⟩, .int .i64 0, .str ⟨#[]⟩, .int .i64 0, .int .i64 0] [(0, 15, (.tmp 6))]⟩,
       ⟨(some 8), none, .call 60 [(.tmp 7)]⟩,
       ⟨(some 2), none, .mov (.tmp 8)⟩])
     .ret)))
theorem ok_envelopes_Counter : FnOk Try.prog 32 9 c_envelopes_Counter [.tmp 2] :=
  ⟨Try.f32, [], Try.func32, rfl, by kernel_rfl, by kernel_rfl, by kernel_rfl⟩

/-- trustquorum/trustquorumplay.Flat -/
def c_trustquorumplay_Flat : SC :=
  (.seq
   (.reg
     [⟨(some 4), none, .alloc [.int .i64 0, .nils, .nils]⟩])
   (.seq
    (.reg
      [⟨(some 7), none, .mov (.tmp 1)⟩,
      ⟨(some 8), none, .build [.int .i64 0, .nils, .nils] [(0, 1, (.tmp 7))]⟩,
      ⟨(some 5), none, .alloc [.int .i64 0, .nils, .nils]⟩,
      ⟨none, none, .store 3 (.tmp 5) (.tmp 8)⟩])
    (.seq
     (.seq
      (.reg
        [⟨(some 6), none, .mov (.cst (.int .i64 0))⟩])
      (.block 0
       (.loop
        (.seq
         (.seq
          (.reg
            [⟨(some 9), none, .mov (.tmp 6)⟩,
            ⟨(some 10), none, .mov (.tmp 0)⟩,
            ⟨(some 11), none, .bin .lss (.tmp 9) (.tmp 10)⟩])
          (.cond (.tmp 11)
           .skip
           (.exit 0)))
         (.seq
          (.block 1
           (.reg
             [⟨(some 14), none, .faddr 1 (.tmp 5)⟩,
             ⟨(some 15), none, .load none (.tmp 14)⟩,
             ⟨(some 16), none, .mov (.tmp 6)⟩,
             ⟨(some 17), none, .bsl false 3 1 (List.replicate 1 [.int .i64 0]) [(0, (.tmp 16))]⟩,
             ⟨(some 18), none, .app 3 1 8 (.tmp 15) (.tmp 17)⟩,
             ⟨(some 19), none, .faddr 1 (.tmp 5)⟩,
             ⟨none, none, .store 1 (.tmp 19) (.tmp 18)⟩]))
          (.reg
            [⟨(some 12), none, .mov (.tmp 6)⟩,
            ⟨(some 13), none, .bin .add (.tmp 12) (.cst (.int .i64 1))⟩,
            ⟨(some 6), none, .mov (.tmp 13)⟩]))))))
     (.seq
      (.reg
        [⟨(some 20), none, .load (some 3) (.tmp 5)⟩,
        ⟨none, none, .store 3 (.tmp 4) (.tmp 20)⟩])
      .ret))))
theorem ok_trustquorumplay_Flat : FnOk Try.prog 41 21 c_trustquorumplay_Flat [.cell 4 (some 3)] :=
  ⟨Try.f41, [], Try.func41, rfl, by kernel_rfl, by kernel_rfl, by kernel_rfl⟩

/-- trustquorum/trustquorumref24.Valid -/
def c_trustquorumref24_Valid : SC :=
  (.seq
   (.reg
     [⟨(some 1), none, .box (.tmp 0)⟩,
     ⟨(some 2), none, .mov (.cst (.bool false))⟩])
   (.seq
    (.seq
     (.reg
       [⟨(some 6), none, .faddr 0 (.tmp 1)⟩,
       ⟨(some 7), none, .load none (.tmp 6)⟩,
       ⟨(some 8), none, .bin .lss (.tmp 7) (.cst (.int .i64 0))⟩,
       ⟨(some 9), none, .mov (.tmp 8)⟩,
       ⟨(some 10), (some (9, false)), .faddr 0 (.tmp 1)⟩,
       ⟨(some 11), (some (9, false)), .load none (.tmp 10)⟩,
       ⟨(some 12), (some (9, false)), .bin .gtr (.tmp 11) (.cst (.int .i64 9))⟩,
       ⟨(some 13), none, .pick (.tmp 9) (.cst (.bool true)) (.tmp 12)⟩,
       ⟨(some 14), none, .mov (.tmp 13)⟩,
       ⟨(some 15), (some (14, false)), .faddr 1 (.tmp 1)⟩,
       ⟨(some 16), (some (14, false)), .load none (.tmp 15)⟩,
       ⟨(some 17), (some (14, false)), .bin .lss (.tmp 16) (.cst (.int .i64 1))⟩,
       ⟨(some 18), none, .pick (.tmp 14) (.cst (.bool true)) (.tmp 17)⟩,
       ⟨(some 19), none, .mov (.tmp 18)⟩,
       ⟨(some 20), (some (19, false)), .faddr 1 (.tmp 1)⟩,
       ⟨(some 21), (some (19, false)), .load none (.tmp 20)⟩,
       ⟨(some 22), (some (19, false)), .bin .gtr (.tmp 21) (.cst (.int .i64 1000000))⟩,
       ⟨(some 23), none, .pick (.tmp 19) (.cst (.bool true)) (.tmp 22)⟩,
       ⟨(some 24), none, .mov (.tmp 23)⟩,
       ⟨(some 25), (some (24, false)), .faddr 2 (.tmp 1)⟩,
       ⟨(some 26), (some (24, false)), .load none (.tmp 25)⟩,
       ⟨(some 27), (some (24, false)), .bin .lss (.tmp 26) (.cst (.int .i64 1))⟩,
       ⟨(some 28), none, .pick (.tmp 24) (.cst (.bool true)) (.tmp 27)⟩,
       ⟨(some 29), none, .mov (.tmp 28)⟩,
       ⟨(some 30), (some (29, false)), .faddr 2 (.tmp 1)⟩,
       ⟨(some 31), (some (29, false)), .load none (.tmp 30)⟩,
       ⟨(some 32), (some (29, false)), .bin .gtr (.tmp 31) (.cst (.int .i64 1000000))⟩,
       ⟨(some 33), none, .pick (.tmp 29) (.cst (.bool true)) (.tmp 32)⟩,
       ⟨(some 34), none, .mov (.tmp 33)⟩,
       ⟨(some 35), (some (34, false)), .faddr 3 (.tmp 1)⟩,
       ⟨(some 36), (some (34, false)), .load (some 3) (.tmp 35)⟩,
       ⟨(some 37), (some (34, false)), .call 87 [(.tmp 36)]⟩,
       ⟨(some 38), (some (34, false)), .bin .neq (.tmp 37) (.cst (.int .i64 0))⟩,
       ⟨(some 39), none, .pick (.tmp 34) (.cst (.bool true)) (.tmp 38)⟩,
       ⟨(some 40), none, .mov (.tmp 39)⟩,
       ⟨(some 41), (some (40, false)), .faddr 7 (.tmp 1)⟩,
       ⟨(some 42), (some (40, false)), .load (some 2) (.tmp 41)⟩,
       ⟨(some 43), (some (40, false)), .call 88 [(.tmp 42)]⟩,
       ⟨(some 44), (some (40, false)), .not (.tmp 43)⟩,
       ⟨(some 45), none, .pick (.tmp 40) (.cst (.bool true)) (.tmp 44)⟩])
     (.cond (.tmp 45)
      (.seq
       (.reg
         [⟨(some 2), none, .mov (.cst (.bool false))⟩])
       .ret)
      .skip))
    (.seq
     (.reg
       [⟨(some 46), none, .faddr 9 (.tmp 1)⟩,
       ⟨(some 47), none, .load (some 2) (.tmp 46)⟩,
       ⟨(some 48), none, .call 20 [(.tmp 47)]⟩,
       ⟨(some 3), none, .mov (.tmp 48)⟩])
     (.seq
      (.drw [(0, 2), (1, 2), (0, 3), (1, 3), (0, 4), (1, 4), (0, 6), (1, 6), (2, 6), (3, 6), (4, 6), (0, 7), (1, 7), (2, 7), (3, 7), (4, 7), (0, 8), (1, 8), (2, 8), (3, 8), (4, 8), (6, 8), (7, 8), (0, 9), (1, 9), (2, 9), (3, 9), (4, 9), (6, 9), (7, 9), (0, 10), (1, 10), (2, 10), (3, 10), (4, 10), (6, 10), (7, 10), (0, 12), (1, 12), (2, 12), (3, 12), (4, 12), (6, 12), (7, 12), (8, 12), (9, 12), (10, 12), (0, 13), (1, 13), (2, 13), (3, 13), (4, 13), (6, 13), (7, 13), (8, 13), (9, 13), (10, 13), (12, 13), (6, 14), (7, 14), (8, 14), (9, 14), (10, 14)]
        [⟨(some 49), none, .faddr 13 (.tmp 1)⟩,
        ⟨(some 50), none, .load none (.tmp 49)⟩,
        ⟨(some 51), none, .faddr 7 (.tmp 1)⟩,
        ⟨(some 52), none, .faddr 1 (.tmp 51)⟩,
        ⟨(some 53), none, .load none (.tmp 52)⟩,
        ⟨(some 54), none, .build [.int .i64 0, .str ⟨#[]⟩] [(0, 1, (.tmp 50)), (1, 1, (.tmp 53))]⟩,
        ⟨(some 55), none, .faddr 14 (.tmp 1)⟩,
        ⟨(some 56), none, .load none (.tmp 55)⟩,
        ⟨(some 57), none, .faddr 7 (.tmp 1)⟩,
        ⟨(some 58), none, .faddr 1 (.tmp 57)⟩,
        ⟨(some 59), none, .load none (.tmp 58)⟩,
        ⟨(some 60), none, .build [.int .i64 0, .str ⟨#[]⟩] [(0, 1, (.tmp 56)), (1, 1, (.tmp 59))]⟩,
        ⟨(some 4), none, .alloc [.int .i64 0, .str ⟨#[]⟩]⟩,
        ⟨(some 5), none, .alloc [.int .i64 0, .str ⟨#[]⟩]⟩,
        ⟨none, none, .store 2 (.tmp 4) (.tmp 54)⟩,
        ⟨none, none, .store 2 (.tmp 5) (.tmp 60)⟩])
      (.seq
       (.seq
        (.reg
          [⟨(some 61), none, .faddr 6 (.tmp 1)⟩,
          ⟨(some 62), none, .load none (.tmp 61)⟩])
        (.block 0
         (.seq
          (.reg
            [⟨(some 64), none, .bin .eql (.tmp 62) (.cst (.int .i64 1))⟩,
            ⟨(some 63), none, .mov (.tmp 64)⟩])
          (.cond (.tmp 63)
           (.seq
            (.seq
             (.reg
               [⟨(some 65), none, .faddr 7 (.tmp 1)⟩,
               ⟨(some 66), none, .faddr 0 (.tmp 65)⟩,
               ⟨(some 67), none, .load none (.tmp 66)⟩,
               ⟨(some 68), none, .bin .gtr (.tmp 67) (.cst (.int .i64 1000))⟩,
               ⟨(some 69), none, .mov (.tmp 68)⟩,
               ⟨(some 70), (some (69, false)), .mov (.tmp 3)⟩,
               ⟨(some 71), (some (69, false)), .not (.tmp 70)⟩,
               ⟨(some 72), (some (69, false)), .mov (.tmp 71)⟩,
               ⟨(some 73), (some (72, true)), .faddr 9 (.tmp 1)⟩,
               ⟨(some 74), (some (72, true)), .load (some 2) (.tmp 73)⟩,
               ⟨(some 75), (some (72, true)), .call 88 [(.tmp 74)]⟩,
               ⟨(some 76), (some (72, true)), .not (.tmp 75)⟩,
               ⟨(some 77), (some (69, false)), .pick (.tmp 72) (.tmp 76) (.cst (.bool false))⟩,
               ⟨(some 78), none, .pick (.tmp 69) (.cst (.bool true)) (.tmp 77)⟩])
             (.cond (.tmp 78)
              (.seq
               (.reg
                 [⟨(some 2), none, .mov (.cst (.bool false))⟩])
               .ret)
              .skip))
            (.seq
             (.seq
              (.reg
                [⟨(some 79), none, .faddr 11 (.tmp 1)⟩,
                ⟨(some 80), none, .load (some 2) (.tmp 79)⟩,
                ⟨(some 81), none, .call 20 [(.tmp 80)]⟩,
                ⟨(some 82), none, .not (.tmp 81)⟩,
                ⟨(some 83), none, .mov (.tmp 82)⟩,
                ⟨(some 84), (some (83, true)), .mov (.tmp 3)⟩,
                ⟨(some 85), (some (83, true)), .mov (.tmp 84)⟩,
                ⟨(some 86), (some (85, false)), .faddr 11 (.tmp 1)⟩,
                ⟨(some 87), (some (85, false)), .load (some 2) (.tmp 86)⟩,
                ⟨(some 88), (some (85, false)), .call 88 [(.tmp 87)]⟩,
                ⟨(some 89), (some (85, false)), .not (.tmp 88)⟩,
                ⟨(some 90), (some (83, true)), .pick (.tmp 85) (.cst (.bool true)) (.tmp 89)⟩,
                ⟨(some 91), (some (83, true)), .mov (.tmp 90)⟩,
                ⟨(some 92), (some (91, false)), .faddr 11 (.tmp 1)⟩,
                ⟨(some 93), (some (91, false)), .load (some 2) (.tmp 92)⟩,
                ⟨(some 94), (some (91, false)), .faddr 9 (.tmp 1)⟩,
                ⟨(some 95), (some (91, false)), .load (some 2) (.tmp 94)⟩,
                ⟨(some 96), (some (91, false)), .call 21 [(.tmp 93), (.tmp 95)]⟩,
                ⟨(some 97), (some (91, false)), .not (.tmp 96)⟩,
                ⟨(some 98), (some (83, true)), .pick (.tmp 91) (.cst (.bool true)) (.tmp 97)⟩,
                ⟨(some 99), (some (83, true)), .mov (.tmp 98)⟩,
                ⟨(some 100), (some (99, false)), .faddr 11 (.tmp 1)⟩,
                ⟨(some 101), (some (99, false)), .load (some 2) (.tmp 100)⟩,
                ⟨(some 102), (some (99, false)), .faddr 9 (.tmp 1)⟩,
                ⟨(some 103), (some (99, false)), .load (some 2) (.tmp 102)⟩,
                ⟨(some 104), (some (99, false)), .call 22 [(.tmp 101), (.tmp 103)]⟩,
                ⟨(some 105), (some (83, true)), .pick (.tmp 99) (.cst (.bool true)) (.tmp 104)⟩,
                ⟨(some 106), none, .pick (.tmp 83) (.tmp 105) (.cst (.bool false))⟩])
              (.cond (.tmp 106)
               (.seq
                (.reg
                  [⟨(some 2), none, .mov (.cst (.bool false))⟩])
                .ret)
               .skip))
             (.seq
              (.seq
               (.reg
                 [⟨(some 107), none, .faddr 13 (.tmp 1)⟩,
                 ⟨(some 108), none, .load none (.tmp 107)⟩,
                 ⟨(some 109), none, .bin .lss (.tmp 108) (.cst (.int .i64 0))⟩,
                 ⟨(some 110), none, .mov (.tmp 109)⟩,
                 ⟨(some 111), (some (110, false)), .faddr 13 (.tmp 1)⟩,
                 ⟨(some 112), (some (110, false)), .load none (.tmp 111)⟩,
                 ⟨(some 113), (some (110, false)), .faddr 14 (.tmp 1)⟩,
                 ⟨(some 114), (some (110, false)), .load none (.tmp 113)⟩,
                 ⟨(some 115), (some (110, false)), .bin .gtr (.tmp 112) (.tmp 114)⟩,
                 ⟨(some 116), none, .pick (.tmp 110) (.cst (.bool true)) (.tmp 115)⟩,
                 ⟨(some 117), none, .mov (.tmp 116)⟩,
                 ⟨(some 118), (some (117, false)), .faddr 14 (.tmp 1)⟩,
                 ⟨(some 119), (some (117, false)), .load none (.tmp 118)⟩,
                 ⟨(some 120), (some (117, false)), .faddr 7 (.tmp 1)⟩,
                 ⟨(some 121), (some (117, false)), .faddr 0 (.tmp 120)⟩,
                 ⟨(some 122), (some (117, false)), .load none (.tmp 121)⟩,
                 ⟨(some 123), (some (117, false)), .bin .gtr (.tmp 119) (.tmp 122)⟩,
                 ⟨(some 124), none, .pick (.tmp 117) (.cst (.bool true)) (.tmp 123)⟩])
               (.cond (.tmp 124)
                (.seq
                 (.reg
                   [⟨(some 2), none, .mov (.cst (.bool false))⟩])
                 .ret)
                .skip))
              (.seq
               (.seq
                (.reg
                  [⟨(some 125), none, .faddr 14 (.tmp 1)⟩,
                  ⟨(some 126), none, .load none (.tmp 125)⟩,
                  ⟨(some 127), none, .bin .gtr (.tmp 126) (.cst (.int .i64 0))⟩,
                  ⟨(some 128), none, .mov (.tmp 127)⟩,
                  ⟨(some 129), (some (128, true)), .faddr 9 (.tmp 1)⟩,
                  ⟨(some 130), (some (128, true)), .load (some 2) (.tmp 129)⟩,
                  ⟨(some 131), (some (128, true)), .faddr 11 (.tmp 1)⟩,
                  ⟨(some 132), (some (128, true)), .load (some 2) (.tmp 131)⟩,
                  ⟨(some 133), (some (128, true)), .load (some 2) (.tmp 5)⟩,
                  ⟨(some 134), (some (128, true)), .call 23 [(.tmp 130), (.tmp 132), (.tmp 133)]⟩,
                  ⟨(some 135), (some (128, true)), .not (.tmp 134)⟩,
                  ⟨(some 136), none, .pick (.tmp 128) (.tmp 135) (.cst (.bool false))⟩])
                (.cond (.tmp 136)
                 (.seq
                  (.reg
                    [⟨(some 2), none, .mov (.cst (.bool false))⟩])
                  .ret)
                 .skip))
               (.seq
                (.reg
                  [⟨(some 137), none, .faddr 13 (.tmp 1)⟩,
                  ⟨(some 138), none, .load none (.tmp 137)⟩,
                  ⟨(some 139), none, .bin .eql (.tmp 138) (.cst (.int .i64 0))⟩,
                  ⟨(some 140), none, .mov (.tmp 139)⟩,
                  ⟨(some 141), (some (140, false)), .faddr 9 (.tmp 1)⟩,
                  ⟨(some 142), (some (140, false)), .load (some 2) (.tmp 141)⟩,
                  ⟨(some 143), (some (140, false)), .load (some 2) (.tmp 4)⟩,
                  ⟨(some 144), (some (140, false)), .call 17 [(.tmp 142), (.tmp 143)]⟩,
                  ⟨(some 145), (some (140, false)), .not (.tmp 144)⟩,
                  ⟨(some 146), (some (140, false)), .mov (.tmp 145)⟩,
                  ⟨(some 147), (some (146, true)), .faddr 11 (.tmp 1)⟩,
                  ⟨(some 148), (some (146, true)), .load (some 2) (.tmp 147)⟩,
                  ⟨(some 149), (some (146, true)), .load (some 2) (.tmp 4)⟩,
                  ⟨(some 150), (some (146, true)), .call 17 [(.tmp 148), (.tmp 149)]⟩,
                  ⟨(some 151), (some (146, true)), .not (.tmp 150)⟩,
                  ⟨(some 152), (some (140, false)), .pick (.tmp 146) (.tmp 151) (.cst (.bool false))⟩,
                  ⟨(some 153), none, .pick (.tmp 140) (.cst (.bool true)) (.tmp 152)⟩,
                  ⟨(some 2), none, .mov (.tmp 153)⟩])
                .ret)))))
           (.seq
            (.reg
              [⟨(some 155), none, .bin .eql (.tmp 62) (.cst (.int .i64 2))⟩,
              ⟨(some 154), none, .mov (.tmp 155)⟩])
            (.cond (.tmp 154)
             (.seq
              (.reg
                [⟨(some 156), none, .faddr 7 (.tmp 1)⟩,
                ⟨(some 157), none, .faddr 0 (.tmp 156)⟩,
                ⟨(some 158), none, .load none (.tmp 157)⟩,
                ⟨(some 159), none, .bin .leq (.tmp 158) (.cst (.int .i64 1000))⟩,
                ⟨(some 160), none, .mov (.tmp 159)⟩,
                ⟨(some 161), (some (160, true)), .faddr 9 (.tmp 1)⟩,
                ⟨(some 162), (some (160, true)), .load (some 2) (.tmp 161)⟩,
                ⟨(some 163), (some (160, true)), .call 88 [(.tmp 162)]⟩,
                ⟨(some 164), none, .pick (.tmp 160) (.tmp 163) (.cst (.bool false))⟩,
                ⟨(some 165), none, .mov (.tmp 164)⟩,
                ⟨(some 166), (some (165, true)), .faddr 9 (.tmp 1)⟩,
                ⟨(some 167), (some (165, true)), .load (some 2) (.tmp 166)⟩,
                ⟨(some 168), (some (165, true)), .faddr 7 (.tmp 1)⟩,
                ⟨(some 169), (some (165, true)), .load (some 2) (.tmp 168)⟩,
                ⟨(some 170), (some (165, true)), .call 22 [(.tmp 167), (.tmp 169)]⟩,
                ⟨(some 171), none, .pick (.tmp 165) (.tmp 170) (.cst (.bool false))⟩,
                ⟨(some 172), none, .mov (.tmp 171)⟩,
                ⟨(some 173), (some (172, true)), .faddr 11 (.tmp 1)⟩,
                ⟨(some 174), (some (172, true)), .load (some 2) (.tmp 173)⟩,
                ⟨(some 175), (some (172, true)), .call 20 [(.tmp 174)]⟩,
                ⟨(some 176), none, .pick (.tmp 172) (.tmp 175) (.cst (.bool false))⟩,
                ⟨(some 177), none, .mov (.tmp 176)⟩,
                ⟨(some 178), (some (177, true)), .faddr 13 (.tmp 1)⟩,
                ⟨(some 179), (some (177, true)), .load none (.tmp 178)⟩,
                ⟨(some 180), (some (177, true)), .bin .geq (.tmp 179) (.cst (.int .i64 1))⟩,
                ⟨(some 181), none, .pick (.tmp 177) (.tmp 180) (.cst (.bool false))⟩,
                ⟨(some 182), none, .mov (.tmp 181)⟩,
                ⟨(some 183), (some (182, true)), .faddr 13 (.tmp 1)⟩,
                ⟨(some 184), (some (182, true)), .load none (.tmp 183)⟩,
                ⟨(some 185), (some (182, true)), .faddr 14 (.tmp 1)⟩,
                ⟨(some 186), (some (182, true)), .load none (.tmp 185)⟩,
                ⟨(some 187), (some (182, true)), .bin .leq (.tmp 184) (.tmp 186)⟩,
                ⟨(some 188), none, .pick (.tmp 182) (.tmp 187) (.cst (.bool false))⟩,
                ⟨(some 189), none, .mov (.tmp 188)⟩,
                ⟨(some 190), (some (189, true)), .faddr 14 (.tmp 1)⟩,
                ⟨(some 191), (some (189, true)), .load none (.tmp 190)⟩,
                ⟨(some 192), (some (189, true)), .faddr 9 (.tmp 1)⟩,
                ⟨(some 193), (some (189, true)), .faddr 0 (.tmp 192)⟩,
                ⟨(some 194), (some (189, true)), .load none (.tmp 193)⟩,
                ⟨(some 195), (some (189, true)), .bin .leq (.tmp 191) (.tmp 194)⟩,
                ⟨(some 196), none, .pick (.tmp 189) (.tmp 195) (.cst (.bool false))⟩,
                ⟨(some 197), none, .mov (.tmp 196)⟩,
                ⟨(some 198), (some (197, true)), .faddr 14 (.tmp 1)⟩,
                ⟨(some 199), (some (197, true)), .load none (.tmp 198)⟩,
                ⟨(some 200), (some (197, true)), .bin .leq (.tmp 199) (.cst (.int .i64 1000))⟩,
                ⟨(some 201), none, .pick (.tmp 197) (.tmp 200) (.cst (.bool false))⟩,
                ⟨(some 2), none, .mov (.tmp 201)⟩])
              .ret)
             (.seq
              (.reg
                [⟨(some 203), none, .bin .eql (.tmp 62) (.cst (.int .i64 3))⟩,
                ⟨(some 202), none, .mov (.tmp 203)⟩])
              (.cond (.tmp 202)
               (.seq
                (.reg
                  [⟨(some 204), none, .mov (.tmp 3)⟩,
                  ⟨(some 205), none, .mov (.tmp 204)⟩,
                  ⟨(some 206), (some (205, true)), .faddr 11 (.tmp 1)⟩,
                  ⟨(some 207), (some (205, true)), .load (some 2) (.tmp 206)⟩,
                  ⟨(some 208), (some (205, true)), .call 20 [(.tmp 207)]⟩,
                  ⟨(some 209), none, .pick (.tmp 205) (.tmp 208) (.cst (.bool false))⟩,
                  ⟨(some 210), none, .mov (.tmp 209)⟩,
                  ⟨(some 211), (some (210, true)), .faddr 13 (.tmp 1)⟩,
                  ⟨(some 212), (some (210, true)), .load none (.tmp 211)⟩,
                  ⟨(some 213), (some (210, true)), .bin .geq (.tmp 212) (.cst (.int .i64 1))⟩,
                  ⟨(some 214), none, .pick (.tmp 210) (.tmp 213) (.cst (.bool false))⟩,
                  ⟨(some 215), none, .mov (.tmp 214)⟩,
                  ⟨(some 216), (some (215, true)), .faddr 13 (.tmp 1)⟩,
                  ⟨(some 217), (some (215, true)), .load none (.tmp 216)⟩,
                  ⟨(some 218), (some (215, true)), .faddr 14 (.tmp 1)⟩,
                  ⟨(some 219), (some (215, true)), .load none (.tmp 218)⟩,
                  ⟨(some 220), (some (215, true)), .bin .leq (.tmp 217) (.tmp 219)⟩,
                  ⟨(some 221), none, .pick (.tmp 215) (.tmp 220) (.cst (.bool false))⟩,
                  ⟨(some 222), none, .mov (.tmp 221)⟩,
                  ⟨(some 223), (some (222, true)), .faddr 14 (.tmp 1)⟩,
                  ⟨(some 224), (some (222, true)), .load none (.tmp 223)⟩,
                  ⟨(some 225), (some (222, true)), .bin .leq (.tmp 224) (.cst (.int .i64 1000))⟩,
                  ⟨(some 226), none, .pick (.tmp 222) (.tmp 225) (.cst (.bool false))⟩,
                  ⟨(some 2), none, .mov (.tmp 226)⟩])
                .ret)
               .skip))))))))
       (.seq
        (.reg
          [⟨(some 2), none, .mov (.cst (.bool false))⟩])
        .ret))))))
theorem ok_trustquorumref24_Valid : FnOk Try.prog 45 227 c_trustquorumref24_Valid [.tmp 2] :=
  ⟨Try.f45, [], Try.func45, rfl, by kernel_rfl, by kernel_rfl, by kernel_rfl⟩

/-- (*trustquorum/trustquorumplay.Src).Text -/
def c_trustquorumplay_Src_Text : SC :=
  (.seq
   (.reg
     [⟨(some 4), none, .mov (.cst (.str ⟨#[]⟩))⟩])
   (.seq
    (.reg
      [⟨(some 5), none, .mov (.tmp 1)⟩,
      ⟨(some 6), none, .mov (.tmp 0)⟩,
      ⟨(some 7), none, .mov (.tmp 1)⟩,
      ⟨(some 8), none, .len false (.tmp 7)⟩,
      ⟨(some 9), none, .call 13 [(.tmp 6), (.tmp 8)]⟩,
      ⟨(some 10), none, .iaddr 1 (.tmp 5) (.tmp 9)⟩,
      ⟨(some 11), none, .load none (.tmp 10)⟩,
      ⟨(some 4), none, .mov (.tmp 11)⟩])
    .ret))
theorem ok_trustquorumplay_Src_Text : FnOk Try.prog 46 12 c_trustquorumplay_Src_Text [.tmp 4] :=
  ⟨Try.f46, [], Try.func46, rfl, by kernel_rfl, by kernel_rfl, by kernel_rfl⟩

/-- (trustquorum/envelopes.Right).VotesCommit -/
def c_envelopes_Right_VotesCommit : SC :=
  (.seq
   (.reg
     [⟨(some 4), none, .box (.tmp 0)⟩,
     ⟨(some 8), none, .mov (.cst (.bool false))⟩])
   (.seq
    (.reg
      [⟨(some 9), none, .load (some 15) (.tmp 4)⟩,
      ⟨(some 10), none, .mov (.tmp 1)⟩,
      ⟨(some 11), none, .mov (.tmp 2)⟩,
      ⟨(some 12), none, .mov (.tmp 3)⟩,
      ⟨(some 13), none, .call 89 [(.tmp 9), (.tmp 10), (.tmp 11), (.tmp 12)]⟩,
      ⟨(some 14), none, .mov (.tmp 13)⟩,
      ⟨(some 15), (some (14, true)), .faddr 0 (.tmp 4)⟩,
      ⟨(some 16), (some (14, true)), .faddr 6 (.tmp 15)⟩,
      ⟨(some 17), (some (14, true)), .load none (.tmp 16)⟩,
      ⟨(some 18), (some (14, true)), .bin .neq (.tmp 17) (.cst (.int .i64 1))⟩,
      ⟨(some 19), (some (14, true)), .mov (.tmp 18)⟩,
      ⟨(some 20), (some (19, false)), .faddr 0 (.tmp 4)⟩,
      ⟨(some 21), (some (19, false)), .faddr 13 (.tmp 20)⟩,
      ⟨(some 22), (some (19, false)), .load none (.tmp 21)⟩,
      ⟨(some 23), (some (19, false)), .bin .neq (.tmp 22) (.cst (.int .i64 0))⟩,
      ⟨(some 24), (some (19, false)), .mov (.tmp 23)⟩,
      ⟨(some 25), (some (24, true)), .mov (.tmp 3)⟩,
      ⟨(some 26), (some (24, true)), .faddr 0 (.tmp 4)⟩,
      ⟨(some 27), (some (24, true)), .faddr 14 (.tmp 26)⟩,
      ⟨(some 28), (some (24, true)), .load none (.tmp 27)⟩,
      ⟨(some 29), (some (24, true)), .bin .leq (.tmp 25) (.tmp 28)⟩,
      ⟨(some 30), (some (19, false)), .pick (.tmp 24) (.tmp 29) (.cst (.bool false))⟩,
      ⟨(some 31), (some (14, true)), .pick (.tmp 19) (.cst (.bool true)) (.tmp 30)⟩,
      ⟨(some 32), none, .pick (.tmp 14) (.tmp 31) (.cst (.bool false))⟩,
      ⟨(some 8), none, .mov (.tmp 32)⟩])
    .ret))
theorem ok_envelopes_Right_VotesCommit : FnOk Try.prog 47 33 c_envelopes_Right_VotesCommit [.tmp 8] :=
  ⟨Try.f47, [], Try.func47, rfl, by kernel_rfl, by kernel_rfl, by kernel_rfl⟩

/-- trustquorum/ballots.Zero -/
def c_ballots_Zero : SC :=
  (.seq
   (.reg
     [⟨(some 1), none, .box (.tmp 0)⟩,
     ⟨(some 2), none, .mov (.cst (.bool false))⟩])
   (.seq
    (.reg
      [⟨(some 3), none, .load (some 2) (.tmp 1)⟩,
      ⟨(some 4), none, .build [.int .i64 0, .str ⟨#[]⟩] []⟩,
      ⟨(some 5), none, .eq2 false (.tmp 3) (.tmp 4)⟩,
      ⟨(some 2), none, .mov (.tmp 5)⟩])
    .ret))
theorem ok_ballots_Zero : FnOk Try.prog 48 6 c_ballots_Zero [.tmp 2] :=
  ⟨Try.f48, [], Try.func48, rfl, by kernel_rfl, by kernel_rfl, by kernel_rfl⟩

/-- trustquorum/ballots.Less -/
def c_ballots_Less : SC :=
  (.seq
   (.reg
     [⟨(some 2), none, .box (.tmp 0)⟩,
     ⟨(some 3), none, .box (.tmp 1)⟩,
     ⟨(some 4), none, .mov (.cst (.bool false))⟩])
   (.seq
    (.reg
      [⟨(some 5), none, .load (some 2) (.tmp 2)⟩,
      ⟨(some 6), none, .load (some 2) (.tmp 3)⟩,
      ⟨(some 7), none, .call 90 [(.tmp 5), (.tmp 6)]⟩,
      ⟨(some 8), none, .bin .lss (.tmp 7) (.cst (.int .i64 0))⟩,
      ⟨(some 4), none, .mov (.tmp 8)⟩])
    .ret))
theorem ok_ballots_Less : FnOk Try.prog 49 9 c_ballots_Less [.tmp 4] :=
  ⟨Try.f49, [], Try.func49, rfl, by kernel_rfl, by kernel_rfl, by kernel_rfl⟩

/-- trustquorum/ballots.Compatible -/
def c_ballots_Compatible : SC :=
  (.seq
   (.reg
     [⟨(some 2), none, .box (.tmp 0)⟩,
     ⟨(some 3), none, .box (.tmp 1)⟩,
     ⟨(some 4), none, .mov (.cst (.bool false))⟩])
   (.seq
    (.reg
      [⟨(some 5), none, .faddr 1 (.tmp 2)⟩,
      ⟨(some 6), none, .load none (.tmp 5)⟩,
      ⟨(some 7), none, .faddr 1 (.tmp 3)⟩,
      ⟨(some 8), none, .load none (.tmp 7)⟩,
      ⟨(some 9), none, .bin .eql (.tmp 6) (.tmp 8)⟩,
      ⟨(some 4), none, .mov (.tmp 9)⟩])
    .ret))
theorem ok_ballots_Compatible : FnOk Try.prog 50 10 c_ballots_Compatible [.tmp 4] :=
  ⟨Try.f50, [], Try.func50, rfl, by kernel_rfl, by kernel_rfl, by kernel_rfl⟩

/-- trustquorum/trustquorumref23.LessValue -/
def c_trustquorumref23_LessValue : SC :=
  (.seq
   (.reg
     [⟨(some 4), none, .mov (.cst (.bool false))⟩])
   (.seq
    (.seq
     (.reg
       [⟨(some 5), none, .mov (.tmp 0)⟩,
       ⟨(some 6), none, .len true (.tmp 5)⟩,
       ⟨(some 7), none, .mov (.tmp 1)⟩,
       ⟨(some 8), none, .len true (.tmp 7)⟩,
       ⟨(some 9), none, .bin .neq (.tmp 6) (.tmp 8)⟩])
     (.cond (.tmp 9)
      (.seq
       (.reg
         [⟨(some 10), none, .mov (.tmp 0)⟩,
         ⟨(some 11), none, .len true (.tmp 10)⟩,
         ⟨(some 12), none, .mov (.tmp 1)⟩,
         ⟨(some 13), none, .len true (.tmp 12)⟩,
         ⟨(some 14), none, .bin .lss (.tmp 11) (.tmp 13)⟩,
         ⟨(some 4), none, .mov (.tmp 14)⟩])
       .ret)
      .skip))
    (.seq
     (.reg
       [⟨(some 15), none, .mov (.tmp 0)⟩,
       ⟨(some 16), none, .mov (.tmp 1)⟩,
       ⟨(some 17), none, .bin .lss (.tmp 15) (.tmp 16)⟩,
       ⟨(some 4), none, .mov (.tmp 17)⟩])
     .ret)))
theorem ok_trustquorumref23_LessValue : FnOk Try.prog 51 18 c_trustquorumref23_LessValue [.tmp 4] :=
  ⟨Try.f51, [], Try.func51, rfl, by kernel_rfl, by kernel_rfl, by kernel_rfl⟩

/-- trustquorum/prepare.View -/
def c_prepare_View : SC :=
  (.seq
   (.reg
     [⟨(some 4), none, .box (.tmp 1)⟩,
     ⟨(some 6), none, .alloc [.nils]⟩])
   (.seq
    (.reg
      [⟨(some 10), none, .mks 64 4 64 [.bool false, .int .i64 0, .nils, .nils] (.cst (.int .i64 10)) (.cst (.int .i64 10))⟩,
      ⟨(some 11), none, .build [.nils] [(0, 1, (.tmp 10))]⟩,
      ⟨(some 7), none, .alloc [.nils]⟩,
      ⟨none, none, .store 1 (.tmp 7) (.tmp 11)⟩])
    (.seq
     (.seq
      (.reg
        [⟨(some 12), none, .mov (.tmp 0)⟩,
        ⟨(some 13), none, .bin .lss (.tmp 12) (.cst (.int .i64 0))⟩,
        ⟨(some 14), none, .mov (.tmp 13)⟩,
        ⟨(some 15), (some (14, false)), .mov (.tmp 0)⟩,
        ⟨(some 16), (some (14, false)), .bin .geq (.tmp 15) (.cst (.int .i64 10))⟩,
        ⟨(some 17), none, .pick (.tmp 14) (.cst (.bool true)) (.tmp 16)⟩])
      (.cond (.tmp 17)
       (.seq
        (.reg
          [⟨(some 18), none, .load (some 1) (.tmp 7)⟩,
          ⟨none, none, .store 1 (.tmp 6) (.tmp 18)⟩])
        .ret)
       .skip))
     (.seq
      (.drw [(0, 3), (1, 3), (0, 4), (1, 4)]
        [⟨(some 19), none, .faddr 0 (.tmp 7)⟩,
        ⟨(some 20), none, .load none (.tmp 19)⟩,
        ⟨(some 21), none, .mov (.tmp 0)⟩,
        ⟨(some 22), none, .load (some 3) (.tmp 4)⟩,
        ⟨(some 23), none, .call 91 [(.tmp 22)]⟩,
        ⟨(some 24), none, .build [.bool false, .int .i64 0, .nils, .nils] [(0, 1, (.cst (.bool true))), (1, 3, (.tmp 23))]⟩,
        ⟨(some 25), none, .iaddr 4 (.tmp 20) (.tmp 21)⟩,
        ⟨none, none, .store 4 (.tmp 25) (.tmp 24)⟩])
      (.seq
       (.seq
        (.reg
          [⟨(some 26), none, .mov (.tmp 2)⟩,
          ⟨(some 27), none, .len false (.tmp 26)⟩,
          ⟨(some 28), none, .mov (.cst (.int .i64 0))⟩])
        (.block 0
         (.loop
          (.seq
           (.reg
             [⟨(some 29), none, .bin .lss (.tmp 28) (.tmp 27)⟩])
           (.seq
            (.cond (.tmp 29)
             .skip
             (.exit 0))
            (.seq
             (.block 1
              (.seq
               (.reg
                 [⟨(some 30), none, .iaddr 15 (.tmp 26) (.tmp 28)⟩,
                 ⟨(some 31), none, .load (some 15) (.tmp 30)⟩,
                 ⟨(some 9), none, .alloc [.int .i64 0, .int .i64 0, .int .i64 0, .int .i64 0, .nils, .nils, .int .i64 0, .int .i64 0, .str ⟨#[]⟩, .int .i64 0, .str ⟨#[]⟩, .int .i64 0, .str ⟨#[]⟩, .int .i64 0, .int .i64 0]⟩,
                 ⟨none, none, .store 15 (.tmp 9) (.tmp 31)⟩])
               (.seq
                (.reg
                  [⟨(some 32), none, .load (some 15) (.tmp 9)⟩,
                  ⟨(some 33), none, .call 25 [(.tmp 32)]⟩,
                  ⟨(some 34), none, .mov (.tmp 33)⟩,
                  ⟨(some 35), (some (34, true)), .faddr 0 (.tmp 7)⟩,
                  ⟨(some 36), (some (34, true)), .load none (.tmp 35)⟩,
                  ⟨(some 37), (some (34, true)), .faddr 0 (.tmp 9)⟩,
                  ⟨(some 38), (some (34, true)), .load none (.tmp 37)⟩,
                  ⟨(some 39), (some (34, true)), .iaddr 4 (.tmp 36) (.tmp 38)⟩,
                  ⟨(some 40), (some (34, true)), .faddr 0 (.tmp 39)⟩,
                  ⟨(some 41), (some (34, true)), .load none (.tmp 40)⟩,
                  ⟨(some 42), (some (34, true)), .not (.tmp 41)⟩,
                  ⟨(some 43), none, .pick (.tmp 34) (.tmp 42) (.cst (.bool false))⟩])
                (.cond (.tmp 43)
                 (.drw [(0, 2), (1, 2), (0, 3), (1, 3), (0, 4), (1, 4), (2, 4), (3, 4), (0, 5), (1, 5), (2, 5), (3, 5), (0, 6), (1, 6), (2, 6), (3, 6)]
                   [⟨(some 44), none, .faddr 0 (.tmp 7)⟩,
                   ⟨(some 45), none, .load none (.tmp 44)⟩,
                   ⟨(some 46), none, .faddr 0 (.tmp 9)⟩,
                   ⟨(some 47), none, .load none (.tmp 46)⟩,
                   ⟨(some 48), none, .faddr 3 (.tmp 9)⟩,
                   ⟨(some 49), none, .load (some 3) (.tmp 48)⟩,
                   ⟨(some 50), none, .call 91 [(.tmp 49)]⟩,
                   ⟨(some 51), none, .build [.bool false, .int .i64 0, .nils, .nils] [(0, 1, (.cst (.bool true))), (1, 3, (.tmp 50))]⟩,
                   ⟨(some 52), none, .iaddr 4 (.tmp 45) (.tmp 47)⟩,
                   ⟨none, none, .store 4 (.tmp 52) (.tmp 51)⟩])
                 .skip))))
             (.reg
               [⟨(some 53), none, .bin .add (.tmp 28) (.cst (.int .i64 1))⟩,
               ⟨(some 28), none, .mov (.tmp 53)⟩])))))))
       (.seq
        (.reg
          [⟨(some 54), none, .load (some 1) (.tmp 7)⟩,
          ⟨none, none, .store 1 (.tmp 6) (.tmp 54)⟩])
        .ret))))))
theorem ok_prepare_View : FnOk Try.prog 52 55 c_prepare_View [.cell 6 (some 1)] :=
  ⟨Try.f52, [], Try.func52, rfl, by kernel_rfl, by kernel_rfl, by kernel_rfl⟩

/-- trustquorum/threshold.Valid -/
def c_threshold_Valid : SC :=
  (.seq
   (.reg
     [⟨(some 1), none, .box (.tmp 0)⟩,
     ⟨(some 2), none, .mov (.cst (.int .i64 0))⟩])
   (.seq
    (.seq
     (.reg
       [⟨(some 3), none, .load (some 3) (.tmp 1)⟩,
       ⟨(some 4), none, .call 92 [(.tmp 3)]⟩,
       ⟨(some 5), none, .bin .gtr (.tmp 4) (.cst (.int .i64 4))⟩,
       ⟨(some 6), none, .mov (.tmp 5)⟩,
       ⟨(some 7), (some (6, false)), .load (some 3) (.tmp 1)⟩,
       ⟨(some 8), (some (6, false)), .call 93 [(.tmp 7)]⟩,
       ⟨(some 9), (some (6, false)), .bin .gtr (.tmp 8) (.cst (.int .i64 200))⟩,
       ⟨(some 10), none, .pick (.tmp 6) (.cst (.bool true)) (.tmp 9)⟩])
     (.cond (.tmp 10)
      (.seq
       (.reg
         [⟨(some 2), none, .mov (.cst (.int .i64 3))⟩])
       .ret)
      .skip))
    (.seq
     (.reg
       [⟨(some 11), none, .load (some 3) (.tmp 1)⟩,
       ⟨(some 12), none, .call 94 [(.tmp 11)]⟩,
       ⟨(some 2), none, .mov (.tmp 12)⟩])
     .ret)))
theorem ok_threshold_Valid : FnOk Try.prog 53 13 c_threshold_Valid [.tmp 2] :=
  ⟨Try.f53, [], Try.func53, rfl, by kernel_rfl, by kernel_rfl, by kernel_rfl⟩

/-- trustquorum/envelopes.prepares -/
def c_envelopes_prepares : SC :=
  (.seq
   (.reg
     [⟨(some 1), none, .box (.tmp 0)⟩,
     ⟨(some 2), none, .mov (.cst (.bool false))⟩])
   (.seq
    (.reg
      [⟨(some 5), none, .faddr 11 (.tmp 1)⟩,
      ⟨(some 6), none, .load (some 2) (.tmp 5)⟩,
      ⟨(some 7), none, .call 48 [(.tmp 6)]⟩,
      ⟨(some 8), none, .mov (.tmp 7)⟩,
      ⟨(some 9), (some (8, false)), .faddr 9 (.tmp 1)⟩,
      ⟨(some 10), (some (8, false)), .load (some 2) (.tmp 9)⟩,
      ⟨(some 11), (some (8, false)), .call 48 [(.tmp 10)]⟩,
      ⟨(some 12), (some (8, false)), .not (.tmp 11)⟩,
      ⟨(some 13), (some (8, false)), .mov (.tmp 12)⟩,
      ⟨(some 14), (some (13, true)), .faddr 11 (.tmp 1)⟩,
      ⟨(some 15), (some (13, true)), .load (some 2) (.tmp 14)⟩,
      ⟨(some 16), (some (13, true)), .faddr 9 (.tmp 1)⟩,
      ⟨(some 17), (some (13, true)), .load (some 2) (.tmp 16)⟩,
      ⟨(some 18), (some (13, true)), .call 49 [(.tmp 15), (.tmp 17)]⟩,
      ⟨(some 19), (some (8, false)), .pick (.tmp 13) (.tmp 18) (.cst (.bool false))⟩,
      ⟨(some 20), (some (8, false)), .mov (.tmp 19)⟩,
      ⟨(some 21), (some (20, true)), .faddr 11 (.tmp 1)⟩,
      ⟨(some 22), (some (20, true)), .load (some 2) (.tmp 21)⟩,
      ⟨(some 23), (some (20, true)), .faddr 9 (.tmp 1)⟩,
      ⟨(some 24), (some (20, true)), .load (some 2) (.tmp 23)⟩,
      ⟨(some 25), (some (20, true)), .call 50 [(.tmp 22), (.tmp 24)]⟩,
      ⟨(some 26), (some (20, true)), .not (.tmp 25)⟩,
      ⟨(some 27), (some (8, false)), .pick (.tmp 20) (.tmp 26) (.cst (.bool false))⟩,
      ⟨(some 28), none, .pick (.tmp 8) (.cst (.bool true)) (.tmp 27)⟩,
      ⟨(some 3), none, .mov (.tmp 28)⟩])
    (.seq
     (.seq
      (.reg
        [⟨(some 29), none, .faddr 7 (.tmp 1)⟩,
        ⟨(some 30), none, .load (some 2) (.tmp 29)⟩,
        ⟨(some 31), none, .call 55 [(.tmp 30)]⟩,
        ⟨(some 32), none, .not (.tmp 31)⟩,
        ⟨(some 33), none, .mov (.tmp 32)⟩,
        ⟨(some 34), (some (33, false)), .faddr 9 (.tmp 1)⟩,
        ⟨(some 35), (some (33, false)), .load (some 2) (.tmp 34)⟩,
        ⟨(some 36), (some (33, false)), .call 95 [(.tmp 35)]⟩,
        ⟨(some 37), (some (33, false)), .not (.tmp 36)⟩,
        ⟨(some 38), none, .pick (.tmp 33) (.cst (.bool true)) (.tmp 37)⟩,
        ⟨(some 39), none, .mov (.tmp 38)⟩,
        ⟨(some 40), (some (39, false)), .faddr 11 (.tmp 1)⟩,
        ⟨(some 41), (some (39, false)), .load (some 2) (.tmp 40)⟩,
        ⟨(some 42), (some (39, false)), .call 95 [(.tmp 41)]⟩,
        ⟨(some 43), (some (39, false)), .not (.tmp 42)⟩,
        ⟨(some 44), none, .pick (.tmp 39) (.cst (.bool true)) (.tmp 43)⟩,
        ⟨(some 45), none, .mov (.tmp 44)⟩,
        ⟨(some 46), (some (45, false)), .mov (.tmp 3)⟩,
        ⟨(some 47), (some (45, false)), .not (.tmp 46)⟩,
        ⟨(some 48), none, .pick (.tmp 45) (.cst (.bool true)) (.tmp 47)⟩,
        ⟨(some 49), none, .mov (.tmp 48)⟩,
        ⟨(some 50), (some (49, false)), .faddr 13 (.tmp 1)⟩,
        ⟨(some 51), (some (49, false)), .load none (.tmp 50)⟩,
        ⟨(some 52), (some (49, false)), .bin .lss (.tmp 51) (.cst (.int .i64 0))⟩,
        ⟨(some 53), none, .pick (.tmp 49) (.cst (.bool true)) (.tmp 52)⟩,
        ⟨(some 54), none, .mov (.tmp 53)⟩,
        ⟨(some 55), (some (54, false)), .faddr 14 (.tmp 1)⟩,
        ⟨(some 56), (some (54, false)), .load none (.tmp 55)⟩,
        ⟨(some 57), (some (54, false)), .faddr 13 (.tmp 1)⟩,
        ⟨(some 58), (some (54, false)), .load none (.tmp 57)⟩,
        ⟨(some 59), (some (54, false)), .bin .lss (.tmp 56) (.tmp 58)⟩,
        ⟨(some 60), none, .pick (.tmp 54) (.cst (.bool true)) (.tmp 59)⟩,
        ⟨(some 61), none, .mov (.tmp 60)⟩,
        ⟨(some 62), (some (61, false)), .faddr 14 (.tmp 1)⟩,
        ⟨(some 63), (some (61, false)), .load none (.tmp 62)⟩,
        ⟨(some 64), (some (61, false)), .faddr 7 (.tmp 1)⟩,
        ⟨(some 65), (some (61, false)), .faddr 0 (.tmp 64)⟩,
        ⟨(some 66), (some (61, false)), .load none (.tmp 65)⟩,
        ⟨(some 67), (some (61, false)), .bin .gtr (.tmp 63) (.tmp 66)⟩,
        ⟨(some 68), none, .pick (.tmp 61) (.cst (.bool true)) (.tmp 67)⟩])
      (.cond (.tmp 68)
       (.seq
        (.reg
          [⟨(some 2), none, .mov (.cst (.bool false))⟩])
        .ret)
       .skip))
     (.seq
      (.reg
        [⟨(some 69), none, .load (some 15) (.tmp 1)⟩,
        ⟨(some 70), none, .faddr 13 (.tmp 1)⟩,
        ⟨(some 71), none, .load none (.tmp 70)⟩,
        ⟨(some 72), none, .call 96 [(.tmp 69), (.tmp 71)]⟩,
        ⟨(some 4), none, .alloc [.int .i64 0, .str ⟨#[]⟩]⟩,
        ⟨none, none, .store 2 (.tmp 4) (.tmp 72)⟩])
      (.seq
       (.drw [(4, 6), (5, 6), (4, 7), (5, 7), (4, 8), (5, 8), (6, 8), (7, 8), (4, 9), (5, 9), (6, 9), (7, 9), (8, 9), (4, 10), (5, 10), (6, 10), (7, 10), (8, 10), (4, 11), (5, 11), (6, 11), (7, 11), (19, 21), (20, 21), (25, 27), (26, 27)]
         [⟨(some 73), none, .faddr 14 (.tmp 1)⟩,
         ⟨(some 74), none, .load none (.tmp 73)⟩,
         ⟨(some 75), none, .bin .eql (.tmp 74) (.cst (.int .i64 0))⟩,
         ⟨(some 76), none, .mov (.tmp 75)⟩,
         ⟨(some 77), (some (76, false)), .faddr 9 (.tmp 1)⟩,
         ⟨(some 78), (some (76, false)), .load (some 2) (.tmp 77)⟩,
         ⟨(some 79), (some (76, false)), .faddr 11 (.tmp 1)⟩,
         ⟨(some 80), (some (76, false)), .load (some 2) (.tmp 79)⟩,
         ⟨(some 81), (some (76, false)), .load (some 15) (.tmp 1)⟩,
         ⟨(some 82), (some (76, false)), .faddr 14 (.tmp 1)⟩,
         ⟨(some 83), (some (76, false)), .load none (.tmp 82)⟩,
         ⟨(some 84), (some (76, false)), .call 96 [(.tmp 81), (.tmp 83)]⟩,
         ⟨(some 85), (some (76, false)), .call 97 [(.tmp 78), (.tmp 80), (.tmp 84)]⟩,
         ⟨(some 86), none, .pick (.tmp 76) (.cst (.bool true)) (.tmp 85)⟩,
         ⟨(some 87), none, .mov (.tmp 86)⟩,
         ⟨(some 88), (some (87, true)), .faddr 13 (.tmp 1)⟩,
         ⟨(some 89), (some (87, true)), .load none (.tmp 88)⟩,
         ⟨(some 90), (some (87, true)), .bin .eql (.tmp 89) (.cst (.int .i64 0))⟩,
         ⟨(some 91), (some (87, true)), .mov (.tmp 90)⟩,
         ⟨(some 92), (some (91, false)), .faddr 9 (.tmp 1)⟩,
         ⟨(some 93), (some (91, false)), .load (some 2) (.tmp 92)⟩,
         ⟨(some 94), (some (91, false)), .load (some 2) (.tmp 4)⟩,
         ⟨(some 95), (some (91, false)), .call 98 [(.tmp 93), (.tmp 94)]⟩,
         ⟨(some 96), (some (91, false)), .not (.tmp 95)⟩,
         ⟨(some 97), (some (91, false)), .mov (.tmp 96)⟩,
         ⟨(some 98), (some (97, true)), .faddr 11 (.tmp 1)⟩,
         ⟨(some 99), (some (97, true)), .load (some 2) (.tmp 98)⟩,
         ⟨(some 100), (some (97, true)), .load (some 2) (.tmp 4)⟩,
         ⟨(some 101), (some (97, true)), .call 98 [(.tmp 99), (.tmp 100)]⟩,
         ⟨(some 102), (some (97, true)), .not (.tmp 101)⟩,
         ⟨(some 103), (some (91, false)), .pick (.tmp 97) (.tmp 102) (.cst (.bool false))⟩,
         ⟨(some 104), (some (87, true)), .pick (.tmp 91) (.cst (.bool true)) (.tmp 103)⟩,
         ⟨(some 105), none, .pick (.tmp 87) (.tmp 104) (.cst (.bool false))⟩,
         ⟨(some 2), none, .mov (.tmp 105)⟩])
       .ret)))))
theorem ok_envelopes_prepares : FnOk Try.prog 54 106 c_envelopes_prepares [.tmp 2] :=
  ⟨Try.f54, [], Try.func54, rfl, by kernel_rfl, by kernel_rfl, by kernel_rfl⟩

/-- trustquorum/envelopes.finite -/
def c_envelopes_finite : SC :=
  (.seq
   (.reg
     [⟨(some 1), none, .box (.tmp 0)⟩,
     ⟨(some 2), none, .mov (.cst (.bool false))⟩])
   (.seq
    (.reg
      [⟨(some 3), none, .load (some 2) (.tmp 1)⟩,
      ⟨(some 4), none, .call 56 [(.tmp 3)]⟩,
      ⟨(some 5), none, .mov (.tmp 4)⟩,
      ⟨(some 6), (some (5, true)), .faddr 0 (.tmp 1)⟩,
      ⟨(some 7), (some (5, true)), .load none (.tmp 6)⟩,
      ⟨(some 8), (some (5, true)), .bin .leq (.tmp 7) (.cst (.int .i64 1000))⟩,
      ⟨(some 9), none, .pick (.tmp 5) (.tmp 8) (.cst (.bool false))⟩,
      ⟨(some 2), none, .mov (.tmp 9)⟩])
    .ret))
theorem ok_envelopes_finite : FnOk Try.prog 55 10 c_envelopes_finite [.tmp 2] :=
  ⟨Try.f55, [], Try.func55, rfl, by kernel_rfl, by kernel_rfl, by kernel_rfl⟩

/-- trustquorum/ballots.Valid -/
def c_ballots_Valid : SC :=
  (.seq
   (.reg
     [⟨(some 1), none, .box (.tmp 0)⟩,
     ⟨(some 2), none, .mov (.cst (.bool false))⟩])
   (.seq
    (.reg
      [⟨(some 4), none, .faddr 0 (.tmp 1)⟩,
      ⟨(some 5), none, .load none (.tmp 4)⟩,
      ⟨(some 6), none, .bin .geq (.tmp 5) (.cst (.int .i64 1))⟩,
      ⟨(some 7), none, .mov (.tmp 6)⟩,
      ⟨(some 8), (some (7, true)), .faddr 0 (.tmp 1)⟩,
      ⟨(some 9), (some (7, true)), .load none (.tmp 8)⟩,
      ⟨(some 10), (some (7, true)), .bin .leq (.tmp 9) (.cst (.int .i64 1000))⟩,
      ⟨(some 11), none, .pick (.tmp 7) (.tmp 10) (.cst (.bool false))⟩,
      ⟨(some 12), none, .mov (.tmp 11)⟩,
      ⟨(some 13), (some (12, false)), .faddr 0 (.tmp 1)⟩,
      ⟨(some 14), (some (12, false)), .load none (.tmp 13)⟩,
      ⟨(some 15), (some (12, false)), .bin .eql (.tmp 14) (.cst (.int .i64 1000000))⟩,
      ⟨(some 16), none, .pick (.tmp 12) (.cst (.bool true)) (.tmp 15)⟩,
      ⟨(some 3), none, .mov (.tmp 16)⟩])
    (.seq
     (.reg
       [⟨(some 17), none, .mov (.tmp 3)⟩,
       ⟨(some 18), none, .mov (.tmp 17)⟩,
       ⟨(some 19), (some (18, true)), .faddr 1 (.tmp 1)⟩,
       ⟨(some 20), (some (18, true)), .load none (.tmp 19)⟩,
       ⟨(some 21), (some (18, true)), .len true (.tmp 20)⟩,
       ⟨(some 22), (some (18, true)), .bin .geq (.tmp 21) (.cst (.int .i64 1))⟩,
       ⟨(some 23), none, .pick (.tmp 18) (.tmp 22) (.cst (.bool false))⟩,
       ⟨(some 24), none, .mov (.tmp 23)⟩,
       ⟨(some 25), (some (24, true)), .faddr 1 (.tmp 1)⟩,
       ⟨(some 26), (some (24, true)), .load none (.tmp 25)⟩,
       ⟨(some 27), (some (24, true)), .len true (.tmp 26)⟩,
       ⟨(some 28), (some (24, true)), .bin .leq (.tmp 27) (.cst (.int .i64 200))⟩,
       ⟨(some 29), none, .pick (.tmp 24) (.tmp 28) (.cst (.bool false))⟩,
       ⟨(some 2), none, .mov (.tmp 29)⟩])
     .ret)))
theorem ok_ballots_Valid : FnOk Try.prog 56 30 c_ballots_Valid [.tmp 2] :=
  ⟨Try.f56, [], Try.func56, rfl, by kernel_rfl, by kernel_rfl, by kernel_rfl⟩

/-- (trustquorum/envelopes.Right).AcceptsCommit -/
def c_envelopes_Right_AcceptsCommit : SC :=
  (.seq
   (.reg
     [⟨(some 4), none, .box (.tmp 0)⟩,
     ⟨(some 8), none, .mov (.cst (.bool false))⟩])
   (.seq
    (.reg
      [⟨(some 9), none, .load (some 15) (.tmp 4)⟩,
      ⟨(some 10), none, .mov (.tmp 1)⟩,
      ⟨(some 11), none, .mov (.tmp 2)⟩,
      ⟨(some 12), none, .mov (.tmp 3)⟩,
      ⟨(some 13), none, .call 89 [(.tmp 9), (.tmp 10), (.tmp 11), (.tmp 12)]⟩,
      ⟨(some 14), none, .mov (.tmp 13)⟩,
      ⟨(some 15), (some (14, true)), .faddr 0 (.tmp 4)⟩,
      ⟨(some 16), (some (14, true)), .faddr 6 (.tmp 15)⟩,
      ⟨(some 17), (some (14, true)), .load none (.tmp 16)⟩,
      ⟨(some 18), (some (14, true)), .bin .eql (.tmp 17) (.cst (.int .i64 3))⟩,
      ⟨(some 19), (some (14, true)), .mov (.tmp 18)⟩,
      ⟨(some 20), (some (19, false)), .faddr 0 (.tmp 4)⟩,
      ⟨(some 21), (some (19, false)), .faddr 6 (.tmp 20)⟩,
      ⟨(some 22), (some (19, false)), .load none (.tmp 21)⟩,
      ⟨(some 23), (some (19, false)), .bin .eql (.tmp 22) (.cst (.int .i64 2))⟩,
      ⟨(some 24), (some (19, false)), .mov (.tmp 23)⟩,
      ⟨(some 25), (some (24, true)), .mov (.tmp 3)⟩,
      ⟨(some 26), (some (24, true)), .faddr 0 (.tmp 4)⟩,
      ⟨(some 27), (some (24, true)), .faddr 14 (.tmp 26)⟩,
      ⟨(some 28), (some (24, true)), .load none (.tmp 27)⟩,
      ⟨(some 29), (some (24, true)), .bin .leq (.tmp 25) (.tmp 28)⟩,
      ⟨(some 30), (some (19, false)), .pick (.tmp 24) (.tmp 29) (.cst (.bool false))⟩,
      ⟨(some 31), (some (14, true)), .pick (.tmp 19) (.cst (.bool true)) (.tmp 30)⟩,
      ⟨(some 32), none, .pick (.tmp 14) (.tmp 31) (.cst (.bool false))⟩,
      ⟨(some 8), none, .mov (.tmp 32)⟩])
    .ret))
theorem ok_envelopes_Right_AcceptsCommit : FnOk Try.prog 57 33 c_envelopes_Right_AcceptsCommit [.tmp 8] :=
  ⟨Try.f57, [], Try.func57, rfl, by kernel_rfl, by kernel_rfl, by kernel_rfl⟩

/-- (trustquorum/envelopes.Right).AcceptsPrepare -/
def c_envelopes_Right_AcceptsPrepare : SC :=
  (.seq
   (.reg
     [⟨(some 2), none, .box (.tmp 0)⟩,
     ⟨(some 3), none, .box (.tmp 1)⟩,
     ⟨(some 4), none, .mov (.cst (.bool false))⟩])
   (.seq
    (.block 0
     (.seq
      (.reg
        [⟨(some 6), none, .load (some 2) (.tmp 3)⟩,
        ⟨(some 7), none, .call 48 [(.tmp 6)]⟩,
        ⟨(some 5), none, .mov (.tmp 7)⟩])
      (.cond (.tmp 5)
       (.seq
        (.reg
          [⟨(some 4), none, .mov (.cst (.bool false))⟩])
        .ret)
       (.seq
        (.reg
          [⟨(some 9), none, .faddr 0 (.tmp 2)⟩,
          ⟨(some 10), none, .faddr 6 (.tmp 9)⟩,
          ⟨(some 11), none, .load none (.tmp 10)⟩,
          ⟨(some 12), none, .bin .eql (.tmp 11) (.cst (.int .i64 1))⟩,
          ⟨(some 8), none, .mov (.tmp 12)⟩])
        (.cond (.tmp 8)
         (.seq
          (.reg
            [⟨(some 13), none, .faddr 0 (.tmp 2)⟩,
            ⟨(some 14), none, .faddr 9 (.tmp 13)⟩,
            ⟨(some 15), none, .load (some 2) (.tmp 14)⟩,
            ⟨(some 16), none, .faddr 0 (.tmp 2)⟩,
            ⟨(some 17), none, .faddr 11 (.tmp 16)⟩,
            ⟨(some 18), none, .load (some 2) (.tmp 17)⟩,
            ⟨(some 19), none, .load (some 2) (.tmp 3)⟩,
            ⟨(some 20), none, .call 97 [(.tmp 15), (.tmp 18), (.tmp 19)]⟩,
            ⟨(some 4), none, .mov (.tmp 20)⟩])
          .ret)
         (.seq
          (.reg
            [⟨(some 22), none, .faddr 0 (.tmp 2)⟩,
            ⟨(some 23), none, .faddr 6 (.tmp 22)⟩,
            ⟨(some 24), none, .load none (.tmp 23)⟩,
            ⟨(some 25), none, .bin .eql (.tmp 24) (.cst (.int .i64 2))⟩,
            ⟨(some 21), none, .mov (.tmp 25)⟩])
          (.cond (.tmp 21)
           (.seq
            (.reg
              [⟨(some 26), none, .faddr 0 (.tmp 2)⟩,
              ⟨(some 27), none, .faddr 9 (.tmp 26)⟩,
              ⟨(some 28), none, .load (some 2) (.tmp 27)⟩,
              ⟨(some 29), none, .load (some 2) (.tmp 3)⟩,
              ⟨(some 30), none, .call 99 [(.tmp 28), (.tmp 29)]⟩,
              ⟨(some 4), none, .mov (.tmp 30)⟩])
            .ret)
           .skip)))))))
    (.seq
     (.reg
       [⟨(some 31), none, .faddr 0 (.tmp 2)⟩,
       ⟨(some 32), none, .faddr 7 (.tmp 31)⟩,
       ⟨(some 33), none, .load (some 2) (.tmp 32)⟩,
       ⟨(some 34), none, .load (some 2) (.tmp 3)⟩,
       ⟨(some 35), none, .call 50 [(.tmp 33), (.tmp 34)]⟩,
       ⟨(some 4), none, .mov (.tmp 35)⟩])
     .ret)))
theorem ok_envelopes_Right_AcceptsPrepare : FnOk Try.prog 58 36 c_envelopes_Right_AcceptsPrepare [.tmp 4] :=
  ⟨Try.f58, [], Try.func58, rfl, by kernel_rfl, by kernel_rfl, by kernel_rfl⟩

/-- (trustquorum/envelopes.Right).VotesPrepare -/
def c_envelopes_Right_VotesPrepare : SC :=
  (.seq
   (.reg
     [⟨(some 2), none, .box (.tmp 0)⟩,
     ⟨(some 3), none, .box (.tmp 1)⟩,
     ⟨(some 4), none, .mov (.cst (.bool false))⟩])
   (.seq
    (.block 0
     (.seq
      (.reg
        [⟨(some 6), none, .load (some 2) (.tmp 3)⟩,
        ⟨(some 7), none, .call 48 [(.tmp 6)]⟩,
        ⟨(some 5), none, .mov (.tmp 7)⟩])
      (.cond (.tmp 5)
       (.seq
        (.reg
          [⟨(some 4), none, .mov (.cst (.bool false))⟩])
        .ret)
       (.seq
        (.reg
          [⟨(some 9), none, .faddr 0 (.tmp 2)⟩,
          ⟨(some 10), none, .faddr 6 (.tmp 9)⟩,
          ⟨(some 11), none, .load none (.tmp 10)⟩,
          ⟨(some 12), none, .bin .eql (.tmp 11) (.cst (.int .i64 1))⟩,
          ⟨(some 8), none, .mov (.tmp 12)⟩])
        (.cond (.tmp 8)
         (.seq
          (.reg
            [⟨(some 13), none, .faddr 0 (.tmp 2)⟩,
            ⟨(some 14), none, .faddr 7 (.tmp 13)⟩,
            ⟨(some 15), none, .load (some 2) (.tmp 14)⟩,
            ⟨(some 16), none, .load (some 2) (.tmp 3)⟩,
            ⟨(some 17), none, .call 99 [(.tmp 15), (.tmp 16)]⟩,
            ⟨(some 4), none, .mov (.tmp 17)⟩])
          .ret)
         .skip)))))
    (.seq
     (.reg
       [⟨(some 18), none, .faddr 0 (.tmp 2)⟩,
       ⟨(some 19), none, .faddr 7 (.tmp 18)⟩,
       ⟨(some 20), none, .load (some 2) (.tmp 19)⟩,
       ⟨(some 21), none, .load (some 2) (.tmp 3)⟩,
       ⟨(some 22), none, .call 50 [(.tmp 20), (.tmp 21)]⟩,
       ⟨(some 4), none, .mov (.tmp 22)⟩])
     .ret)))
theorem ok_envelopes_Right_VotesPrepare : FnOk Try.prog 59 23 c_envelopes_Right_VotesPrepare [.tmp 4] :=
  ⟨Try.f59, [], Try.func59, rfl, by kernel_rfl, by kernel_rfl, by kernel_rfl⟩

/-- (trustquorum/envelopes.Right).Count -/
def c_envelopes_Right_Count : SC :=
  (.seq
   (.reg
     [⟨(some 1), none, .box (.tmp 0)⟩,
     ⟨(some 2), none, .mov (.cst (.int .i64 0))⟩])
   (.seq
    (.seq
     (.reg
       [⟨(some 3), none, .faddr 0 (.tmp 1)⟩,
       ⟨(some 4), none, .faddr 6 (.tmp 3)⟩,
       ⟨(some 5), none, .load none (.tmp 4)⟩,
       ⟨(some 6), none, .bin .eql (.tmp 5) (.cst (.int .i64 3))⟩])
     (.cond (.tmp 6)
      (.seq
       (.reg
         [⟨(some 2), none, .mov (.cst (.int .i64 1000000))⟩])
       .ret)
      .skip))
    (.seq
     (.reg
       [⟨(some 7), none, .faddr 0 (.tmp 1)⟩,
       ⟨(some 8), none, .faddr 7 (.tmp 7)⟩,
       ⟨(some 9), none, .faddr 0 (.tmp 8)⟩,
       ⟨(some 10), none, .load none (.tmp 9)⟩,
       ⟨(some 2), none, .mov (.tmp 10)⟩])
     .ret)))
theorem ok_envelopes_Right_Count : FnOk Try.prog 60 11 c_envelopes_Right_Count [.tmp 2] :=
  ⟨Try.f60, [], Try.func60, rfl, by kernel_rfl, by kernel_rfl, by kernel_rfl⟩

/-- trustquorum/trustquorumref01.Valid -/
def c_trustquorumref01_Valid : SC :=
  (.seq
   (.reg
     [⟨(some 2), none, .mov (.cst (.bool false))⟩])
   (.seq
    (.reg
      [⟨(some 3), none, .mov (.tmp 0)⟩,
      ⟨(some 4), none, .bin .geq (.tmp 3) (.cst (.int .i64 0))⟩,
      ⟨(some 5), none, .mov (.tmp 4)⟩,
      ⟨(some 6), (some (5, true)), .mov (.tmp 0)⟩,
      ⟨(some 7), (some (5, true)), .bin .leq (.tmp 6) (.cst (.int .i64 1023))⟩,
      ⟨(some 8), none, .pick (.tmp 5) (.tmp 7) (.cst (.bool false))⟩,
      ⟨(some 2), none, .mov (.tmp 8)⟩])
    .ret))
theorem ok_trustquorumref01_Valid : FnOk Try.prog 61 9 c_trustquorumref01_Valid [.tmp 2] :=
  ⟨Try.f61, [], Try.func61, rfl, by kernel_rfl, by kernel_rfl, by kernel_rfl⟩

/-- trustquorum/trustquorumref01.Has -/
def c_trustquorumref01_Has : SC :=
  (.seq
   (.reg
     [⟨(some 4), none, .mov (.cst (.bool false))⟩])
   (.seq
    (.reg
      [⟨(some 5), none, .mov (.tmp 0)⟩,
      ⟨(some 6), none, .call 61 [(.tmp 5)]⟩,
      ⟨(some 7), none, .mov (.tmp 6)⟩,
      ⟨(some 8), (some (7, true)), .mov (.tmp 1)⟩,
      ⟨(some 9), (some (7, true)), .bin .geq (.tmp 8) (.cst (.int .i64 0))⟩,
      ⟨(some 10), none, .pick (.tmp 7) (.tmp 9) (.cst (.bool false))⟩,
      ⟨(some 11), none, .mov (.tmp 10)⟩,
      ⟨(some 12), (some (11, true)), .mov (.tmp 1)⟩,
      ⟨(some 13), (some (11, true)), .bin .lss (.tmp 12) (.cst (.int .i64 10))⟩,
      ⟨(some 14), none, .pick (.tmp 11) (.tmp 13) (.cst (.bool false))⟩,
      ⟨(some 15), none, .mov (.tmp 14)⟩,
      ⟨(some 16), (some (15, true)), .mov (.tmp 0)⟩,
      ⟨(some 17), (some (15, true)), .mov (.tmp 1)⟩,
      ⟨(some 18), (some (15, true)), .bin .shr (.tmp 16) (.tmp 17)⟩,
      ⟨(some 19), (some (15, true)), .bin .and (.tmp 18) (.cst (.int .i64 1))⟩,
      ⟨(some 20), (some (15, true)), .bin .eql (.tmp 19) (.cst (.int .i64 1))⟩,
      ⟨(some 21), none, .pick (.tmp 15) (.tmp 20) (.cst (.bool false))⟩,
      ⟨(some 4), none, .mov (.tmp 21)⟩])
    .ret))
theorem ok_trustquorumref01_Has : FnOk Try.prog 62 22 c_trustquorumref01_Has [.tmp 4] :=
  ⟨Try.f62, [], Try.func62, rfl, by kernel_rfl, by kernel_rfl, by kernel_rfl⟩

/-- trustquorum/trustquorumref02.Valid -/
def c_trustquorumref02_Valid : SC :=
  (.seq
   (.reg
     [⟨(some 1), none, .box (.tmp 0)⟩,
     ⟨(some 2), none, .mov (.cst (.int .i64 0))⟩])
   (.seq
    (.seq
     (.reg
       [⟨(some 3), none, .load (some 3) (.tmp 1)⟩,
       ⟨(some 4), none, .call 115 [(.tmp 3)]⟩,
       ⟨(some 5), none, .bin .gtr (.tmp 4) (.cst (.int .i64 4))⟩,
       ⟨(some 6), none, .mov (.tmp 5)⟩,
       ⟨(some 7), (some (6, false)), .load (some 3) (.tmp 1)⟩,
       ⟨(some 8), (some (6, false)), .call 116 [(.tmp 7)]⟩,
       ⟨(some 9), (some (6, false)), .bin .gtr (.tmp 8) (.cst (.int .i64 200))⟩,
       ⟨(some 10), none, .pick (.tmp 6) (.cst (.bool true)) (.tmp 9)⟩])
     (.cond (.tmp 10)
      (.seq
       (.reg
         [⟨(some 2), none, .mov (.cst (.int .i64 3))⟩])
       .ret)
      .skip))
    (.seq
     (.reg
       [⟨(some 11), none, .load (some 3) (.tmp 1)⟩,
       ⟨(some 12), none, .call 117 [(.tmp 11)]⟩,
       ⟨(some 2), none, .mov (.tmp 12)⟩])
     .ret)))
theorem ok_trustquorumref02_Valid : FnOk Try.prog 87 13 c_trustquorumref02_Valid [.tmp 2] :=
  ⟨Try.f87, [], Try.func87, rfl, by kernel_rfl, by kernel_rfl, by kernel_rfl⟩

/-- trustquorum/trustquorumref23.Valid -/
def c_trustquorumref23_Valid : SC :=
  (.seq
   (.reg
     [⟨(some 1), none, .box (.tmp 0)⟩,
     ⟨(some 2), none, .mov (.cst (.bool false))⟩])
   (.seq
    (.reg
      [⟨(some 3), none, .faddr 0 (.tmp 1)⟩,
      ⟨(some 4), none, .load none (.tmp 3)⟩,
      ⟨(some 5), none, .bin .geq (.tmp 4) (.cst (.int .i64 1))⟩,
      ⟨(some 6), none, .mov (.tmp 5)⟩,
      ⟨(some 7), (some (6, true)), .faddr 0 (.tmp 1)⟩,
      ⟨(some 8), (some (6, true)), .load none (.tmp 7)⟩,
      ⟨(some 9), (some (6, true)), .bin .leq (.tmp 8) (.cst (.int .i64 1000))⟩,
      ⟨(some 10), none, .pick (.tmp 6) (.tmp 9) (.cst (.bool false))⟩,
      ⟨(some 11), none, .mov (.tmp 10)⟩,
      ⟨(some 12), (some (11, false)), .faddr 0 (.tmp 1)⟩,
      ⟨(some 13), (some (11, false)), .load none (.tmp 12)⟩,
      ⟨(some 14), (some (11, false)), .bin .eql (.tmp 13) (.cst (.int .i64 1000000))⟩,
      ⟨(some 15), none, .pick (.tmp 11) (.cst (.bool true)) (.tmp 14)⟩,
      ⟨(some 16), none, .mov (.tmp 15)⟩,
      ⟨(some 17), (some (16, true)), .faddr 1 (.tmp 1)⟩,
      ⟨(some 18), (some (16, true)), .load none (.tmp 17)⟩,
      ⟨(some 19), (some (16, true)), .len true (.tmp 18)⟩,
      ⟨(some 20), (some (16, true)), .bin .geq (.tmp 19) (.cst (.int .i64 1))⟩,
      ⟨(some 21), none, .pick (.tmp 16) (.tmp 20) (.cst (.bool false))⟩,
      ⟨(some 22), none, .mov (.tmp 21)⟩,
      ⟨(some 23), (some (22, true)), .faddr 1 (.tmp 1)⟩,
      ⟨(some 24), (some (22, true)), .load none (.tmp 23)⟩,
      ⟨(some 25), (some (22, true)), .len true (.tmp 24)⟩,
      ⟨(some 26), (some (22, true)), .bin .leq (.tmp 25) (.cst (.int .i64 200))⟩,
      ⟨(some 27), none, .pick (.tmp 22) (.tmp 26) (.cst (.bool false))⟩,
      ⟨(some 2), none, .mov (.tmp 27)⟩])
    .ret))
theorem ok_trustquorumref23_Valid : FnOk Try.prog 88 28 c_trustquorumref23_Valid [.tmp 2] :=
  ⟨Try.f88, [], Try.func88, rfl, by kernel_rfl, by kernel_rfl, by kernel_rfl⟩

/-- (trustquorum/envelopes.Right).from -/
def c_envelopes_Right_from : SC :=
  (.seq
   (.reg
     [⟨(some 4), none, .box (.tmp 0)⟩,
     ⟨(some 8), none, .mov (.cst (.bool false))⟩])
   (.seq
    (.reg
      [⟨(some 9), none, .mov (.tmp 2)⟩,
      ⟨(some 10), none, .bin .geq (.tmp 9) (.cst (.int .i64 1))⟩,
      ⟨(some 11), none, .mov (.tmp 10)⟩,
      ⟨(some 12), (some (11, true)), .mov (.tmp 2)⟩,
      ⟨(some 13), (some (11, true)), .mov (.tmp 3)⟩,
      ⟨(some 14), (some (11, true)), .bin .leq (.tmp 12) (.tmp 13)⟩,
      ⟨(some 15), none, .pick (.tmp 11) (.tmp 14) (.cst (.bool false))⟩,
      ⟨(some 16), none, .mov (.tmp 15)⟩,
      ⟨(some 17), (some (16, true)), .faddr 0 (.tmp 4)⟩,
      ⟨(some 18), (some (16, true)), .faddr 7 (.tmp 17)⟩,
      ⟨(some 19), (some (16, true)), .faddr 1 (.tmp 18)⟩,
      ⟨(some 20), (some (16, true)), .load none (.tmp 19)⟩,
      ⟨(some 21), (some (16, true)), .mov (.tmp 1)⟩,
      ⟨(some 22), (some (16, true)), .bin .eql (.tmp 20) (.tmp 21)⟩,
      ⟨(some 23), none, .pick (.tmp 16) (.tmp 22) (.cst (.bool false))⟩,
      ⟨(some 24), none, .mov (.tmp 23)⟩,
      ⟨(some 25), (some (24, true)), .faddr 0 (.tmp 4)⟩,
      ⟨(some 26), (some (24, true)), .faddr 13 (.tmp 25)⟩,
      ⟨(some 27), (some (24, true)), .load none (.tmp 26)⟩,
      ⟨(some 28), (some (24, true)), .mov (.tmp 2)⟩,
      ⟨(some 29), (some (24, true)), .bin .leq (.tmp 27) (.tmp 28)⟩,
      ⟨(some 30), none, .pick (.tmp 24) (.tmp 29) (.cst (.bool false))⟩,
      ⟨(some 8), none, .mov (.tmp 30)⟩])
    .ret))
theorem ok_envelopes_Right_from : FnOk Try.prog 89 31 c_envelopes_Right_from [.tmp 8] :=
  ⟨Try.f89, [], Try.func89, rfl, by kernel_rfl, by kernel_rfl, by kernel_rfl⟩

/-- trustquorum/ballots.Compare -/
def c_ballots_Compare : SC :=
  (.seq
   (.reg
     [⟨(some 2), none, .box (.tmp 0)⟩,
     ⟨(some 3), none, .box (.tmp 1)⟩,
     ⟨(some 4), none, .mov (.cst (.int .i64 0))⟩])
   (.seq
    (.drw [(0, 2), (1, 2), (0, 3), (1, 3), (0, 5), (1, 5), (2, 5), (3, 5), (4, 5), (0, 6), (1, 6), (2, 6), (3, 6), (4, 6), (0, 7), (1, 7), (2, 7), (3, 7), (4, 7), (5, 7), (6, 7), (0, 8), (1, 8), (2, 8), (3, 8), (4, 8), (5, 8), (6, 8)]
      [⟨(some 5), none, .faddr 0 (.tmp 2)⟩,
      ⟨(some 6), none, .load none (.tmp 5)⟩,
      ⟨(some 7), none, .faddr 0 (.tmp 3)⟩,
      ⟨(some 8), none, .load none (.tmp 7)⟩,
      ⟨(some 9), none, .call 111 [(.tmp 6), (.tmp 8)]⟩,
      ⟨(some 10), none, .faddr 1 (.tmp 2)⟩,
      ⟨(some 11), none, .load none (.tmp 10)⟩,
      ⟨(some 12), none, .faddr 1 (.tmp 3)⟩,
      ⟨(some 13), none, .load none (.tmp 12)⟩,
      ⟨(some 14), none, .call 119 [(.tmp 11), (.tmp 13)]⟩,
      ⟨(some 15), none, .bsl false 3 1 (List.replicate 2 [.int .i64 0]) [(0, (.tmp 9)), (1, (.tmp 14))]⟩,
      ⟨(some 16), none, .call 118 [(.tmp 15)]⟩,
      ⟨(some 4), none, .mov (.tmp 16)⟩])
    .ret))
theorem ok_ballots_Compare : FnOk Try.prog 90 17 c_ballots_Compare [.tmp 4] :=
  ⟨Try.f90, [], Try.func90, rfl, by kernel_rfl, by kernel_rfl, by kernel_rfl⟩

/-- trustquorum/copies.Trust -/
def c_copies_Trust : SC :=
  (.seq
   (.reg
     [⟨(some 1), none, .box (.tmp 0)⟩,
     ⟨(some 2), none, .alloc [.int .i64 0, .nils, .nils]⟩])
   (.seq
    (.drw [(0, 2), (1, 2), (0, 3), (1, 3), (0, 4), (1, 4), (0, 6), (1, 6), (2, 6), (3, 6), (4, 6)]
      [⟨(some 6), none, .faddr 0 (.tmp 1)⟩,
      ⟨(some 7), none, .load none (.tmp 6)⟩,
      ⟨(some 8), none, .faddr 1 (.tmp 1)⟩,
      ⟨(some 9), none, .load none (.tmp 8)⟩,
      ⟨(some 10), none, .call 120 [(.tmp 9)]⟩,
      ⟨(some 11), none, .build [.int .i64 0, .nils, .nils] [(0, 1, (.tmp 7)), (1, 1, (.tmp 10))]⟩,
      ⟨(some 3), none, .alloc [.int .i64 0, .nils, .nils]⟩,
      ⟨none, none, .store 3 (.tmp 3) (.tmp 11)⟩])
    (.seq
     (.seq
      (.reg
        [⟨(some 12), none, .faddr 2 (.tmp 1)⟩,
        ⟨(some 13), none, .load none (.tmp 12)⟩,
        ⟨(some 14), none, .len false (.tmp 13)⟩,
        ⟨(some 15), none, .mov (.cst (.int .i64 0))⟩])
      (.block 0
       (.loop
        (.seq
         (.reg
           [⟨(some 16), none, .bin .lss (.tmp 15) (.tmp 14)⟩])
         (.seq
          (.cond (.tmp 16)
           .skip
           (.exit 0))
          (.seq
           (.block 1
            (.seq
             (.reg
               [⟨(some 17), none, .iaddr 3 (.tmp 13) (.tmp 15)⟩,
               ⟨(some 18), none, .load (some 3) (.tmp 17)⟩,
               ⟨(some 5), none, .alloc [.int .i64 0, .nils, .nils]⟩,
               ⟨none, none, .store 3 (.tmp 5) (.tmp 18)⟩])
             (.drw [(0, 2), (1, 2), (0, 3), (1, 3), (0, 4), (1, 4)]
               [⟨(some 19), none, .faddr 2 (.tmp 3)⟩,
               ⟨(some 20), none, .load none (.tmp 19)⟩,
               ⟨(some 21), none, .load (some 3) (.tmp 5)⟩,
               ⟨(some 22), none, .call 91 [(.tmp 21)]⟩,
               ⟨(some 23), none, .bsl false 27 3 (List.replicate 1 [.int .i64 0, .nils, .nils]) [(0, (.tmp 22))]⟩,
               ⟨(some 24), none, .app 27 3 56 (.tmp 20) (.tmp 23)⟩,
               ⟨(some 25), none, .faddr 2 (.tmp 3)⟩,
               ⟨none, none, .store 1 (.tmp 25) (.tmp 24)⟩])))
           (.reg
             [⟨(some 26), none, .bin .add (.tmp 15) (.cst (.int .i64 1))⟩,
             ⟨(some 15), none, .mov (.tmp 26)⟩])))))))
     (.seq
      (.reg
        [⟨(some 27), none, .load (some 3) (.tmp 3)⟩,
        ⟨none, none, .store 3 (.tmp 2) (.tmp 27)⟩])
      .ret))))
theorem ok_copies_Trust : FnOk Try.prog 91 28 c_copies_Trust [.cell 2 (some 3)] :=
  ⟨Try.f91, [], Try.func91, rfl, by kernel_rfl, by kernel_rfl, by kernel_rfl⟩

/-- trustquorum/threshold.Depth -/
def c_threshold_Depth : SC :=
  (.seq
   (.reg
     [⟨(some 1), none, .box (.tmp 0)⟩,
     ⟨(some 2), none, .mov (.cst (.int .i64 0))⟩])
   (.seq
    (.reg
      [⟨(some 3), none, .mov (.cst (.int .i64 0))⟩])
    (.seq
     (.seq
      (.reg
        [⟨(some 6), none, .faddr 2 (.tmp 1)⟩,
        ⟨(some 7), none, .load none (.tmp 6)⟩,
        ⟨(some 8), none, .len false (.tmp 7)⟩,
        ⟨(some 9), none, .mov (.cst (.int .i64 0))⟩])
      (.block 0
       (.loop
        (.seq
         (.reg
           [⟨(some 10), none, .bin .lss (.tmp 9) (.tmp 8)⟩])
         (.seq
          (.cond (.tmp 10)
           .skip
           (.exit 0))
          (.seq
           (.block 1
            (.seq
             (.reg
               [⟨(some 11), none, .iaddr 3 (.tmp 7) (.tmp 9)⟩,
               ⟨(some 12), none, .load (some 3) (.tmp 11)⟩,
               ⟨(some 5), none, .alloc [.int .i64 0, .nils, .nils]⟩,
               ⟨none, none, .store 3 (.tmp 5) (.tmp 12)⟩])
             (.reg
               [⟨(some 13), none, .mov (.tmp 3)⟩,
               ⟨(some 14), none, .load (some 3) (.tmp 5)⟩,
               ⟨(some 15), none, .call 92 [(.tmp 14)]⟩,
               ⟨(some 16), none, .minmax true (.tmp 13) (.tmp 15)⟩,
               ⟨(some 3), none, .mov (.tmp 16)⟩])))
           (.reg
             [⟨(some 17), none, .bin .add (.tmp 9) (.cst (.int .i64 1))⟩,
             ⟨(some 9), none, .mov (.tmp 17)⟩])))))))
     (.seq
      (.reg
        [⟨(some 18), none, .mov (.tmp 3)⟩,
        ⟨(some 19), none, .bin .add (.tmp 18) (.cst (.int .i64 1))⟩,
        ⟨(some 2), none, .mov (.tmp 19)⟩])
      .ret))))
theorem ok_threshold_Depth : FnOk Try.prog 92 20 c_threshold_Depth [.tmp 2] :=
  ⟨Try.f92, [], Try.func92, rfl, by kernel_rfl, by kernel_rfl, by kernel_rfl⟩

/-- trustquorum/threshold.Size -/
def c_threshold_Size : SC :=
  (.seq
   (.reg
     [⟨(some 1), none, .box (.tmp 0)⟩,
     ⟨(some 2), none, .mov (.cst (.int .i64 0))⟩])
   (.seq
    (.reg
      [⟨(some 6), none, .faddr 1 (.tmp 1)⟩,
      ⟨(some 7), none, .load none (.tmp 6)⟩,
      ⟨(some 8), none, .len false (.tmp 7)⟩,
      ⟨(some 9), none, .faddr 2 (.tmp 1)⟩,
      ⟨(some 10), none, .load none (.tmp 9)⟩,
      ⟨(some 11), none, .len false (.tmp 10)⟩,
      ⟨(some 12), none, .bin .add (.tmp 8) (.tmp 11)⟩,
      ⟨(some 3), none, .mov (.tmp 12)⟩])
    (.seq
     (.seq
      (.reg
        [⟨(some 13), none, .faddr 2 (.tmp 1)⟩,
        ⟨(some 14), none, .load none (.tmp 13)⟩,
        ⟨(some 15), none, .len false (.tmp 14)⟩,
        ⟨(some 16), none, .mov (.cst (.int .i64 0))⟩])
      (.block 0
       (.loop
        (.seq
         (.reg
           [⟨(some 17), none, .bin .lss (.tmp 16) (.tmp 15)⟩])
         (.seq
          (.cond (.tmp 17)
           .skip
           (.exit 0))
          (.seq
           (.block 1
            (.seq
             (.reg
               [⟨(some 18), none, .iaddr 3 (.tmp 14) (.tmp 16)⟩,
               ⟨(some 19), none, .load (some 3) (.tmp 18)⟩,
               ⟨(some 5), none, .alloc [.int .i64 0, .nils, .nils]⟩,
               ⟨none, none, .store 3 (.tmp 5) (.tmp 19)⟩])
             (.reg
               [⟨(some 20), none, .mov (.tmp 3)⟩,
               ⟨(some 21), none, .load (some 3) (.tmp 5)⟩,
               ⟨(some 22), none, .call 93 [(.tmp 21)]⟩,
               ⟨(some 23), none, .bin .add (.tmp 20) (.tmp 22)⟩,
               ⟨(some 3), none, .mov (.tmp 23)⟩])))
           (.reg
             [⟨(some 24), none, .bin .add (.tmp 16) (.cst (.int .i64 1))⟩,
             ⟨(some 16), none, .mov (.tmp 24)⟩])))))))
     (.seq
      (.reg
        [⟨(some 25), none, .mov (.tmp 3)⟩,
        ⟨(some 2), none, .mov (.tmp 25)⟩])
      .ret))))
theorem ok_threshold_Size : FnOk Try.prog 93 26 c_threshold_Size [.tmp 2] :=
  ⟨Try.f93, [], Try.func93, rfl, by kernel_rfl, by kernel_rfl, by kernel_rfl⟩

/-- trustquorum/threshold.level -/
def c_threshold_level : SC :=
  (.seq
   (.reg
     [⟨(some 1), none, .box (.tmp 0)⟩,
     ⟨(some 2), none, .mov (.cst (.int .i64 0))⟩])
   (.seq
    (.seq
     (.reg
       [⟨(some 8), none, .faddr 0 (.tmp 1)⟩,
       ⟨(some 9), none, .load none (.tmp 8)⟩,
       ⟨(some 10), none, .bin .lss (.tmp 9) (.cst (.int .i64 1))⟩,
       ⟨(some 11), none, .mov (.tmp 10)⟩,
       ⟨(some 12), (some (11, false)), .faddr 0 (.tmp 1)⟩,
       ⟨(some 13), (some (11, false)), .load none (.tmp 12)⟩,
       ⟨(some 14), (some (11, false)), .faddr 1 (.tmp 1)⟩,
       ⟨(some 15), (some (11, false)), .load none (.tmp 14)⟩,
       ⟨(some 16), (some (11, false)), .len false (.tmp 15)⟩,
       ⟨(some 17), (some (11, false)), .faddr 2 (.tmp 1)⟩,
       ⟨(some 18), (some (11, false)), .load none (.tmp 17)⟩,
       ⟨(some 19), (some (11, false)), .len false (.tmp 18)⟩,
       ⟨(some 20), (some (11, false)), .bin .add (.tmp 16) (.tmp 19)⟩,
       ⟨(some 21), (some (11, false)), .bin .gtr (.tmp 13) (.tmp 20)⟩,
       ⟨(some 22), none, .pick (.tmp 11) (.cst (.bool true)) (.tmp 21)⟩])
     (.cond (.tmp 22)
      (.seq
       (.reg
         [⟨(some 2), none, .mov (.cst (.int .i64 4))⟩])
       .ret)
      .skip))
    (.seq
     (.seq
      (.reg
        [⟨(some 23), none, .faddr 1 (.tmp 1)⟩,
        ⟨(some 24), none, .load none (.tmp 23)⟩,
        ⟨(some 25), none, .call 121 [(.tmp 24), (.cst (.clo 122 []))]⟩])
      (.cond (.tmp 25)
       (.seq
        (.reg
          [⟨(some 2), none, .mov (.cst (.int .i64 5))⟩])
        .ret)
       .skip))
     (.seq
      (.seq
       (.reg
         [⟨(some 27), none, .faddr 1 (.tmp 1)⟩,
         ⟨(some 28), none, .load none (.tmp 27)⟩,
         ⟨(some 29), none, .call 124 [(.tmp 28)]⟩,
         ⟨(some 26), none, .mov (.tmp 29)⟩,
         ⟨(some 30), none, .extr 0 (.tmp 26)⟩,
         ⟨(some 31), none, .extr 1 (.tmp 26)⟩,
         ⟨(some 3), none, .mov (.tmp 30)⟩,
         ⟨(some 4), none, .mov (.tmp 31)⟩])
       (.seq
        (.reg
          [⟨(some 32), none, .mov (.tmp 4)⟩,
          ⟨(some 33), none, .bin .neq (.tmp 32) (.cst (.int .i64 0))⟩])
        (.cond (.tmp 33)
         (.seq
          (.reg
            [⟨(some 34), none, .mov (.tmp 4)⟩,
            ⟨(some 2), none, .mov (.tmp 34)⟩])
          .ret)
         .skip)))
      (.seq
       (.seq
        (.reg
          [⟨(some 35), none, .faddr 2 (.tmp 1)⟩,
          ⟨(some 36), none, .load none (.tmp 35)⟩,
          ⟨(some 37), none, .len false (.tmp 36)⟩,
          ⟨(some 38), none, .mov (.cst (.int .i64 0))⟩])
        (.block 0
         (.loop
          (.seq
           (.reg
             [⟨(some 39), none, .bin .lss (.tmp 38) (.tmp 37)⟩])
           (.seq
            (.cond (.tmp 39)
             .skip
             (.exit 0))
            (.seq
             (.block 1
              (.seq
               (.reg
                 [⟨(some 40), none, .iaddr 3 (.tmp 36) (.tmp 38)⟩,
                 ⟨(some 41), none, .load (some 3) (.tmp 40)⟩,
                 ⟨(some 6), none, .alloc [.int .i64 0, .nils, .nils]⟩,
                 ⟨none, none, .store 3 (.tmp 6) (.tmp 41)⟩])
               (.seq
                (.reg
                  [⟨(some 42), none, .load (some 3) (.tmp 6)⟩,
                  ⟨(some 43), none, .call 94 [(.tmp 42)]⟩,
                  ⟨(some 7), none, .mov (.tmp 43)⟩])
                (.seq
                 (.reg
                   [⟨(some 44), none, .mov (.tmp 7)⟩,
                   ⟨(some 45), none, .bin .neq (.tmp 44) (.cst (.int .i64 0))⟩])
                 (.cond (.tmp 45)
                  (.seq
                   (.reg
                     [⟨(some 46), none, .mov (.tmp 7)⟩,
                     ⟨(some 2), none, .mov (.tmp 46)⟩])
                   .ret)
                  .skip)))))
             (.reg
               [⟨(some 47), none, .bin .add (.tmp 38) (.cst (.int .i64 1))⟩,
               ⟨(some 38), none, .mov (.tmp 47)⟩])))))))
       (.seq
        (.reg
          [⟨(some 2), none, .mov (.cst (.int .i64 0))⟩])
        .ret))))))
theorem ok_threshold_level : FnOk Try.prog 94 48 c_threshold_level [.tmp 2] :=
  ⟨Try.f94, [], Try.func94, rfl, by kernel_rfl, by kernel_rfl, by kernel_rfl⟩

/-- trustquorum/envelopes.optional -/
def c_envelopes_optional : SC :=
  (.seq
   (.reg
     [⟨(some 1), none, .box (.tmp 0)⟩,
     ⟨(some 2), none, .mov (.cst (.bool false))⟩])
   (.seq
    (.reg
      [⟨(some 3), none, .load (some 2) (.tmp 1)⟩,
      ⟨(some 4), none, .call 48 [(.tmp 3)]⟩,
      ⟨(some 5), none, .mov (.tmp 4)⟩,
      ⟨(some 6), (some (5, false)), .load (some 2) (.tmp 1)⟩,
      ⟨(some 7), (some (5, false)), .call 56 [(.tmp 6)]⟩,
      ⟨(some 8), none, .pick (.tmp 5) (.cst (.bool true)) (.tmp 7)⟩,
      ⟨(some 2), none, .mov (.tmp 8)⟩])
    .ret))
theorem ok_envelopes_optional : FnOk Try.prog 95 9 c_envelopes_optional [.tmp 2] :=
  ⟨Try.f95, [], Try.func95, rfl, by kernel_rfl, by kernel_rfl, by kernel_rfl⟩

/-- trustquorum/envelopes.at -/
def c_envelopes_at : SC :=
  (.seq
   (.reg
     [⟨(some 2), none, .box (.tmp 0)⟩,
     ⟨(some 4), none, .alloc [.int .i64 0, .str ⟨#[]⟩]⟩])
   (.seq
    (.reg
      [⟨(some 5), none, .mov (.tmp 1)⟩,
      ⟨(some 6), none, .faddr 7 (.tmp 2)⟩,
      ⟨(some 7), none, .faddr 1 (.tmp 6)⟩,
      ⟨(some 8), none, .load none (.tmp 7)⟩,
      ⟨(some 9), none, .build [.int .i64 0, .str ⟨#[]⟩] [(0, 1, (.tmp 5)), (1, 1, (.tmp 8))]⟩,
      ⟨none, none, .store 2 (.tmp 4) (.tmp 9)⟩])
    .ret))
theorem ok_envelopes_at : FnOk Try.prog 96 10 c_envelopes_at [.cell 4 (some 2)] :=
  ⟨Try.f96, [], Try.func96, rfl, by kernel_rfl, by kernel_rfl, by kernel_rfl⟩

/-- trustquorum/ballots.Prepares -/
def c_ballots_Prepares : SC :=
  (.seq
   (.reg
     [⟨(some 3), none, .box (.tmp 0)⟩,
     ⟨(some 4), none, .box (.tmp 1)⟩,
     ⟨(some 5), none, .box (.tmp 2)⟩,
     ⟨(some 6), none, .mov (.cst (.bool false))⟩])
   (.seq
    (.reg
      [⟨(some 7), none, .load (some 2) (.tmp 3)⟩,
      ⟨(some 8), none, .load (some 2) (.tmp 5)⟩,
      ⟨(some 9), none, .call 99 [(.tmp 7), (.tmp 8)]⟩,
      ⟨(some 10), none, .mov (.tmp 9)⟩,
      ⟨(some 11), (some (10, false)), .load (some 2) (.tmp 4)⟩,
      ⟨(some 12), (some (10, false)), .load (some 2) (.tmp 5)⟩,
      ⟨(some 13), (some (10, false)), .call 99 [(.tmp 11), (.tmp 12)]⟩,
      ⟨(some 14), none, .pick (.tmp 10) (.cst (.bool true)) (.tmp 13)⟩,
      ⟨(some 15), none, .mov (.tmp 14)⟩,
      ⟨(some 16), (some (15, false)), .load (some 2) (.tmp 4)⟩,
      ⟨(some 17), (some (15, false)), .call 48 [(.tmp 16)]⟩,
      ⟨(some 18), (some (15, false)), .not (.tmp 17)⟩,
      ⟨(some 19), (some (15, false)), .mov (.tmp 18)⟩,
      ⟨(some 20), (some (19, true)), .load (some 2) (.tmp 5)⟩,
      ⟨(some 21), (some (19, true)), .load (some 2) (.tmp 4)⟩,
      ⟨(some 22), (some (19, true)), .call 49 [(.tmp 20), (.tmp 21)]⟩,
      ⟨(some 23), (some (15, false)), .pick (.tmp 19) (.tmp 22) (.cst (.bool false))⟩,
      ⟨(some 24), none, .pick (.tmp 15) (.cst (.bool true)) (.tmp 23)⟩,
      ⟨(some 6), none, .mov (.tmp 24)⟩])
    .ret))
theorem ok_ballots_Prepares : FnOk Try.prog 97 25 c_ballots_Prepares [.tmp 6] :=
  ⟨Try.f97, [], Try.func97, rfl, by kernel_rfl, by kernel_rfl, by kernel_rfl⟩

/-- trustquorum/ballots.Aborts -/
def c_ballots_Aborts : SC :=
  (.seq
   (.reg
     [⟨(some 2), none, .box (.tmp 0)⟩,
     ⟨(some 3), none, .box (.tmp 1)⟩,
     ⟨(some 4), none, .mov (.cst (.bool false))⟩])
   (.seq
    (.reg
      [⟨(some 5), none, .load (some 2) (.tmp 2)⟩,
      ⟨(some 6), none, .call 48 [(.tmp 5)]⟩,
      ⟨(some 7), none, .not (.tmp 6)⟩,
      ⟨(some 8), none, .mov (.tmp 7)⟩,
      ⟨(some 9), (some (8, true)), .load (some 2) (.tmp 2)⟩,
      ⟨(some 10), (some (8, true)), .load (some 2) (.tmp 3)⟩,
      ⟨(some 11), (some (8, true)), .call 50 [(.tmp 9), (.tmp 10)]⟩,
      ⟨(some 12), (some (8, true)), .not (.tmp 11)⟩,
      ⟨(some 13), none, .pick (.tmp 8) (.tmp 12) (.cst (.bool false))⟩,
      ⟨(some 14), none, .mov (.tmp 13)⟩,
      ⟨(some 15), (some (14, true)), .load (some 2) (.tmp 3)⟩,
      ⟨(some 16), (some (14, true)), .load (some 2) (.tmp 2)⟩,
      ⟨(some 17), (some (14, true)), .call 49 [(.tmp 15), (.tmp 16)]⟩,
      ⟨(some 18), none, .pick (.tmp 14) (.tmp 17) (.cst (.bool false))⟩,
      ⟨(some 4), none, .mov (.tmp 18)⟩])
    .ret))
theorem ok_ballots_Aborts : FnOk Try.prog 98 19 c_ballots_Aborts [.tmp 4] :=
  ⟨Try.f98, [], Try.func98, rfl, by kernel_rfl, by kernel_rfl, by kernel_rfl⟩

/-- trustquorum/ballots.Covers -/
def c_ballots_Covers : SC :=
  (.seq
   (.reg
     [⟨(some 2), none, .box (.tmp 0)⟩,
     ⟨(some 3), none, .box (.tmp 1)⟩,
     ⟨(some 4), none, .mov (.cst (.bool false))⟩])
   (.seq
    (.reg
      [⟨(some 5), none, .load (some 2) (.tmp 2)⟩,
      ⟨(some 6), none, .call 48 [(.tmp 5)]⟩,
      ⟨(some 7), none, .not (.tmp 6)⟩,
      ⟨(some 8), none, .mov (.tmp 7)⟩,
      ⟨(some 9), (some (8, true)), .load (some 2) (.tmp 2)⟩,
      ⟨(some 10), (some (8, true)), .load (some 2) (.tmp 3)⟩,
      ⟨(some 11), (some (8, true)), .call 50 [(.tmp 9), (.tmp 10)]⟩,
      ⟨(some 12), none, .pick (.tmp 8) (.tmp 11) (.cst (.bool false))⟩,
      ⟨(some 13), none, .mov (.tmp 12)⟩,
      ⟨(some 14), (some (13, true)), .faddr 0 (.tmp 2)⟩,
      ⟨(some 15), (some (13, true)), .load none (.tmp 14)⟩,
      ⟨(some 16), (some (13, true)), .faddr 0 (.tmp 3)⟩,
      ⟨(some 17), (some (13, true)), .load none (.tmp 16)⟩,
      ⟨(some 18), (some (13, true)), .bin .geq (.tmp 15) (.tmp 17)⟩,
      ⟨(some 19), none, .pick (.tmp 13) (.tmp 18) (.cst (.bool false))⟩,
      ⟨(some 4), none, .mov (.tmp 19)⟩])
    .ret))
theorem ok_ballots_Covers : FnOk Try.prog 99 20 c_ballots_Covers [.tmp 4] :=
  ⟨Try.f99, [], Try.func99, rfl, by kernel_rfl, by kernel_rfl, by kernel_rfl⟩

/-- cmp.Compare[int] -/
def c_cmp_Compare_int : SC :=
  (.seq
   (.reg
     [⟨(some 4), none, .mov (.cst (.int .i64 0))⟩])
   (.seq
    (.reg
      [⟨(some 7), none, .mov (.tmp 0)⟩,
      ⟨(some 8), none, .call 133 [(.tmp 7)]⟩,
      ⟨(some 5), none, .mov (.tmp 8)⟩])
    (.seq
     (.reg
       [⟨(some 9), none, .mov (.tmp 1)⟩,
       ⟨(some 10), none, .call 133 [(.tmp 9)]⟩,
       ⟨(some 6), none, .mov (.tmp 10)⟩])
     (.seq
      (.seq
       (.reg
         [⟨(some 11), none, .mov (.tmp 5)⟩])
       (.cond (.tmp 11)
        (.seq
         (.seq
          (.reg
            [⟨(some 12), none, .mov (.tmp 6)⟩])
          (.cond (.tmp 12)
           (.seq
            (.reg
              [⟨(some 4), none, .mov (.cst (.int .i64 0))⟩])
            .ret)
           .skip))
         (.seq
          (.reg
            [⟨(some 4), none, .mov (.cst (.int .i64 (-1)))⟩])
          .ret))
        .skip))
      (.seq
       (.seq
        (.reg
          [⟨(some 13), none, .mov (.tmp 6)⟩])
        (.cond (.tmp 13)
         (.seq
          (.reg
            [⟨(some 4), none, .mov (.cst (.int .i64 1))⟩])
          .ret)
         .skip))
       (.seq
        (.seq
         (.reg
           [⟨(some 14), none, .mov (.tmp 0)⟩,
           ⟨(some 15), none, .mov (.tmp 1)⟩,
           ⟨(some 16), none, .bin .lss (.tmp 14) (.tmp 15)⟩])
         (.cond (.tmp 16)
          (.seq
           (.reg
             [⟨(some 4), none, .mov (.cst (.int .i64 (-1)))⟩])
           .ret)
          .skip))
        (.seq
         (.seq
          (.reg
            [⟨(some 17), none, .mov (.tmp 0)⟩,
            ⟨(some 18), none, .mov (.tmp 1)⟩,
            ⟨(some 19), none, .bin .gtr (.tmp 17) (.tmp 18)⟩])
          (.cond (.tmp 19)
           (.seq
            (.reg
              [⟨(some 4), none, .mov (.cst (.int .i64 1))⟩])
            .ret)
           .skip))
         (.seq
          (.reg
            [⟨(some 4), none, .mov (.cst (.int .i64 0))⟩])
          .ret))))))))
theorem ok_cmp_Compare_int : FnOk Try.prog 111 20 c_cmp_Compare_int [.tmp 4] :=
  ⟨Try.f111, [], Try.func111, rfl, by kernel_rfl, by kernel_rfl, by kernel_rfl⟩

/-- trustquorum/trustquorumref02.Depth -/
def c_trustquorumref02_Depth : SC :=
  (.seq
   (.reg
     [⟨(some 1), none, .box (.tmp 0)⟩,
     ⟨(some 2), none, .mov (.cst (.int .i64 0))⟩])
   (.seq
    (.reg
      [⟨(some 3), none, .mov (.cst (.int .i64 0))⟩])
    (.seq
     (.seq
      (.reg
        [⟨(some 6), none, .faddr 2 (.tmp 1)⟩,
        ⟨(some 7), none, .load none (.tmp 6)⟩,
        ⟨(some 8), none, .len false (.tmp 7)⟩,
        ⟨(some 9), none, .mov (.cst (.int .i64 0))⟩])
      (.block 0
       (.loop
        (.seq
         (.reg
           [⟨(some 10), none, .bin .lss (.tmp 9) (.tmp 8)⟩])
         (.seq
          (.cond (.tmp 10)
           .skip
           (.exit 0))
          (.seq
           (.block 1
            (.seq
             (.reg
               [⟨(some 11), none, .iaddr 3 (.tmp 7) (.tmp 9)⟩,
               ⟨(some 12), none, .load (some 3) (.tmp 11)⟩,
               ⟨(some 5), none, .alloc [.int .i64 0, .nils, .nils]⟩,
               ⟨none, none, .store 3 (.tmp 5) (.tmp 12)⟩])
             (.reg
               [⟨(some 13), none, .mov (.tmp 3)⟩,
               ⟨(some 14), none, .load (some 3) (.tmp 5)⟩,
               ⟨(some 15), none, .call 115 [(.tmp 14)]⟩,
               ⟨(some 16), none, .minmax true (.tmp 13) (.tmp 15)⟩,
               ⟨(some 3), none, .mov (.tmp 16)⟩])))
           (.reg
             [⟨(some 17), none, .bin .add (.tmp 9) (.cst (.int .i64 1))⟩,
             ⟨(some 9), none, .mov (.tmp 17)⟩])))))))
     (.seq
      (.reg
        [⟨(some 18), none, .mov (.tmp 3)⟩,
        ⟨(some 19), none, .bin .add (.tmp 18) (.cst (.int .i64 1))⟩,
        ⟨(some 2), none, .mov (.tmp 19)⟩])
      .ret))))
theorem ok_trustquorumref02_Depth : FnOk Try.prog 115 20 c_trustquorumref02_Depth [.tmp 2] :=
  ⟨Try.f115, [], Try.func115, rfl, by kernel_rfl, by kernel_rfl, by kernel_rfl⟩

/-- trustquorum/trustquorumref02.Size -/
def c_trustquorumref02_Size : SC :=
  (.seq
   (.reg
     [⟨(some 1), none, .box (.tmp 0)⟩,
     ⟨(some 2), none, .mov (.cst (.int .i64 0))⟩])
   (.seq
    (.reg
      [⟨(some 6), none, .faddr 1 (.tmp 1)⟩,
      ⟨(some 7), none, .load none (.tmp 6)⟩,
      ⟨(some 8), none, .len false (.tmp 7)⟩,
      ⟨(some 9), none, .faddr 2 (.tmp 1)⟩,
      ⟨(some 10), none, .load none (.tmp 9)⟩,
      ⟨(some 11), none, .len false (.tmp 10)⟩,
      ⟨(some 12), none, .bin .add (.tmp 8) (.tmp 11)⟩,
      ⟨(some 3), none, .mov (.tmp 12)⟩])
    (.seq
     (.seq
      (.reg
        [⟨(some 13), none, .faddr 2 (.tmp 1)⟩,
        ⟨(some 14), none, .load none (.tmp 13)⟩,
        ⟨(some 15), none, .len false (.tmp 14)⟩,
        ⟨(some 16), none, .mov (.cst (.int .i64 0))⟩])
      (.block 0
       (.loop
        (.seq
         (.reg
           [⟨(some 17), none, .bin .lss (.tmp 16) (.tmp 15)⟩])
         (.seq
          (.cond (.tmp 17)
           .skip
           (.exit 0))
          (.seq
           (.block 1
            (.seq
             (.reg
               [⟨(some 18), none, .iaddr 3 (.tmp 14) (.tmp 16)⟩,
               ⟨(some 19), none, .load (some 3) (.tmp 18)⟩,
               ⟨(some 5), none, .alloc [.int .i64 0, .nils, .nils]⟩,
               ⟨none, none, .store 3 (.tmp 5) (.tmp 19)⟩])
             (.reg
               [⟨(some 20), none, .mov (.tmp 3)⟩,
               ⟨(some 21), none, .load (some 3) (.tmp 5)⟩,
               ⟨(some 22), none, .call 116 [(.tmp 21)]⟩,
               ⟨(some 23), none, .bin .add (.tmp 20) (.tmp 22)⟩,
               ⟨(some 3), none, .mov (.tmp 23)⟩])))
           (.reg
             [⟨(some 24), none, .bin .add (.tmp 16) (.cst (.int .i64 1))⟩,
             ⟨(some 16), none, .mov (.tmp 24)⟩])))))))
     (.seq
      (.reg
        [⟨(some 25), none, .mov (.tmp 3)⟩,
        ⟨(some 2), none, .mov (.tmp 25)⟩])
      .ret))))
theorem ok_trustquorumref02_Size : FnOk Try.prog 116 26 c_trustquorumref02_Size [.tmp 2] :=
  ⟨Try.f116, [], Try.func116, rfl, by kernel_rfl, by kernel_rfl, by kernel_rfl⟩

/-- trustquorum/trustquorumref02.check -/
def c_trustquorumref02_check : SC :=
  (.seq
   (.reg
     [⟨(some 1), none, .box (.tmp 0)⟩,
     ⟨(some 2), none, .mov (.cst (.int .i64 0))⟩])
   (.seq
    (.seq
     (.reg
       [⟨(some 10), none, .faddr 0 (.tmp 1)⟩,
       ⟨(some 11), none, .load none (.tmp 10)⟩,
       ⟨(some 12), none, .bin .lss (.tmp 11) (.cst (.int .i64 1))⟩,
       ⟨(some 13), none, .mov (.tmp 12)⟩,
       ⟨(some 14), (some (13, false)), .faddr 0 (.tmp 1)⟩,
       ⟨(some 15), (some (13, false)), .load none (.tmp 14)⟩,
       ⟨(some 16), (some (13, false)), .faddr 1 (.tmp 1)⟩,
       ⟨(some 17), (some (13, false)), .load none (.tmp 16)⟩,
       ⟨(some 18), (some (13, false)), .len false (.tmp 17)⟩,
       ⟨(some 19), (some (13, false)), .faddr 2 (.tmp 1)⟩,
       ⟨(some 20), (some (13, false)), .load none (.tmp 19)⟩,
       ⟨(some 21), (some (13, false)), .len false (.tmp 20)⟩,
       ⟨(some 22), (some (13, false)), .bin .add (.tmp 18) (.tmp 21)⟩,
       ⟨(some 23), (some (13, false)), .bin .gtr (.tmp 15) (.tmp 22)⟩,
       ⟨(some 24), none, .pick (.tmp 13) (.cst (.bool true)) (.tmp 23)⟩])
     (.cond (.tmp 24)
      (.seq
       (.reg
         [⟨(some 2), none, .mov (.cst (.int .i64 4))⟩])
       .ret)
      .skip))
    (.seq
     (.seq
      (.reg
        [⟨(some 25), none, .faddr 1 (.tmp 1)⟩,
        ⟨(some 26), none, .load none (.tmp 25)⟩,
        ⟨(some 27), none, .len false (.tmp 26)⟩,
        ⟨(some 28), none, .mov (.cst (.int .i64 0))⟩])
      (.block 0
       (.loop
        (.seq
         (.reg
           [⟨(some 29), none, .bin .lss (.tmp 28) (.tmp 27)⟩])
         (.seq
          (.cond (.tmp 29)
           .skip
           (.exit 0))
          (.seq
           (.block 1
            (.seq
             (.reg
               [⟨(some 30), none, .iaddr 1 (.tmp 26) (.tmp 28)⟩,
               ⟨(some 31), none, .load none (.tmp 30)⟩,
               ⟨(some 4), none, .mov (.tmp 31)⟩])
             (.seq
              (.reg
                [⟨(some 32), none, .mov (.tmp 4)⟩,
                ⟨(some 33), none, .bin .lss (.tmp 32) (.cst (.int .i64 0))⟩,
                ⟨(some 34), none, .mov (.tmp 33)⟩,
                ⟨(some 35), (some (34, false)), .mov (.tmp 4)⟩,
                ⟨(some 36), (some (34, false)), .bin .geq (.tmp 35) (.cst (.int .i64 10))⟩,
                ⟨(some 37), none, .pick (.tmp 34) (.cst (.bool true)) (.tmp 36)⟩])
              (.cond (.tmp 37)
               (.seq
                (.reg
                  [⟨(some 2), none, .mov (.cst (.int .i64 5))⟩])
                .ret)
               .skip))))
           (.reg
             [⟨(some 38), none, .bin .add (.tmp 28) (.cst (.int .i64 1))⟩,
             ⟨(some 28), none, .mov (.tmp 38)⟩])))))))
     (.seq
      (.seq
       (.reg
         [⟨(some 40), none, .faddr 1 (.tmp 1)⟩,
         ⟨(some 41), none, .load none (.tmp 40)⟩,
         ⟨(some 42), none, .call 135 [(.tmp 41)]⟩,
         ⟨(some 39), none, .mov (.tmp 42)⟩,
         ⟨(some 43), none, .extr 0 (.tmp 39)⟩,
         ⟨(some 44), none, .extr 1 (.tmp 39)⟩,
         ⟨(some 5), none, .mov (.tmp 43)⟩,
         ⟨(some 6), none, .mov (.tmp 44)⟩])
       (.seq
        (.reg
          [⟨(some 45), none, .mov (.tmp 6)⟩,
          ⟨(some 46), none, .bin .neq (.tmp 45) (.cst (.int .i64 0))⟩])
        (.cond (.tmp 46)
         (.seq
          (.reg
            [⟨(some 47), none, .mov (.tmp 6)⟩,
            ⟨(some 2), none, .mov (.tmp 47)⟩])
          .ret)
         .skip)))
      (.seq
       (.seq
        (.reg
          [⟨(some 48), none, .faddr 2 (.tmp 1)⟩,
          ⟨(some 49), none, .load none (.tmp 48)⟩,
          ⟨(some 50), none, .len false (.tmp 49)⟩,
          ⟨(some 51), none, .mov (.cst (.int .i64 0))⟩])
        (.block 2
         (.loop
          (.seq
           (.reg
             [⟨(some 52), none, .bin .lss (.tmp 51) (.tmp 50)⟩])
           (.seq
            (.cond (.tmp 52)
             .skip
             (.exit 2))
            (.seq
             (.block 3
              (.seq
               (.reg
                 [⟨(some 53), none, .iaddr 3 (.tmp 49) (.tmp 51)⟩,
                 ⟨(some 54), none, .load (some 3) (.tmp 53)⟩,
                 ⟨(some 8), none, .alloc [.int .i64 0, .nils, .nils]⟩,
                 ⟨none, none, .store 3 (.tmp 8) (.tmp 54)⟩])
               (.seq
                (.reg
                  [⟨(some 55), none, .load (some 3) (.tmp 8)⟩,
                  ⟨(some 56), none, .call 117 [(.tmp 55)]⟩,
                  ⟨(some 9), none, .mov (.tmp 56)⟩])
                (.seq
                 (.reg
                   [⟨(some 57), none, .mov (.tmp 9)⟩,
                   ⟨(some 58), none, .bin .neq (.tmp 57) (.cst (.int .i64 0))⟩])
                 (.cond (.tmp 58)
                  (.seq
                   (.reg
                     [⟨(some 59), none, .mov (.tmp 9)⟩,
                     ⟨(some 2), none, .mov (.tmp 59)⟩])
                   .ret)
                  .skip)))))
             (.reg
               [⟨(some 60), none, .bin .add (.tmp 51) (.cst (.int .i64 1))⟩,
               ⟨(some 51), none, .mov (.tmp 60)⟩])))))))
       (.seq
        (.reg
          [⟨(some 2), none, .mov (.cst (.int .i64 0))⟩])
        .ret))))))
theorem ok_trustquorumref02_check : FnOk Try.prog 117 61 c_trustquorumref02_check [.tmp 2] :=
  ⟨Try.f117, [], Try.func117, rfl, by kernel_rfl, by kernel_rfl, by kernel_rfl⟩

/-- cmp.Or[int] -/
def c_cmp_Or_int : SC :=
  (.seq
   (.reg
     [⟨(some 2), none, .mov (.cst (.int .i64 0))⟩])
   (.seq
    (.reg
      [⟨(some 3), none, .mov (.cst (.int .i64 0))⟩])
    (.seq
     (.seq
      (.reg
        [⟨(some 6), none, .mov (.tmp 0)⟩,
        ⟨(some 7), none, .len false (.tmp 6)⟩,
        ⟨(some 8), none, .mov (.cst (.int .i64 0))⟩])
      (.block 0
       (.loop
        (.seq
         (.reg
           [⟨(some 9), none, .bin .lss (.tmp 8) (.tmp 7)⟩])
         (.seq
          (.cond (.tmp 9)
           .skip
           (.exit 0))
          (.seq
           (.block 1
            (.seq
             (.reg
               [⟨(some 10), none, .iaddr 1 (.tmp 6) (.tmp 8)⟩,
               ⟨(some 11), none, .load none (.tmp 10)⟩,
               ⟨(some 5), none, .mov (.tmp 11)⟩])
             (.seq
              (.reg
                [⟨(some 12), none, .mov (.tmp 5)⟩,
                ⟨(some 13), none, .mov (.tmp 3)⟩,
                ⟨(some 14), none, .bin .neq (.tmp 12) (.tmp 13)⟩])
              (.cond (.tmp 14)
               (.seq
                (.reg
                  [⟨(some 15), none, .mov (.tmp 5)⟩,
                  ⟨(some 2), none, .mov (.tmp 15)⟩])
                .ret)
               .skip))))
           (.reg
             [⟨(some 16), none, .bin .add (.tmp 8) (.cst (.int .i64 1))⟩,
             ⟨(some 8), none, .mov (.tmp 16)⟩])))))))
     (.seq
      (.reg
        [⟨(some 17), none, .mov (.tmp 3)⟩,
        ⟨(some 2), none, .mov (.tmp 17)⟩])
      .ret))))
theorem ok_cmp_Or_int : FnOk Try.prog 118 18 c_cmp_Or_int [.tmp 2] :=
  ⟨Try.f118, [], Try.func118, rfl, by kernel_rfl, by kernel_rfl, by kernel_rfl⟩

/-- trustquorum/ballots.CompareValues -/
def c_ballots_CompareValues : SC :=
  (.seq
   (.reg
     [⟨(some 4), none, .mov (.cst (.int .i64 0))⟩])
   (.seq
    (.reg
      [⟨(some 5), none, .mov (.tmp 0)⟩,
      ⟨(some 6), none, .len true (.tmp 5)⟩,
      ⟨(some 7), none, .mov (.tmp 1)⟩,
      ⟨(some 8), none, .len true (.tmp 7)⟩,
      ⟨(some 9), none, .call 111 [(.tmp 6), (.tmp 8)]⟩,
      ⟨(some 10), none, .mov (.tmp 0)⟩,
      ⟨(some 11), none, .mov (.tmp 1)⟩,
      ⟨(some 12), none, .call 136 [(.tmp 10), (.tmp 11)]⟩,
      ⟨(some 13), none, .bsl false 3 1 (List.replicate 2 [.int .i64 0]) [(0, (.tmp 9)), (1, (.tmp 12))]⟩,
      ⟨(some 14), none, .call 118 [(.tmp 13)]⟩,
      ⟨(some 4), none, .mov (.tmp 14)⟩])
    .ret))
theorem ok_ballots_CompareValues : FnOk Try.prog 119 15 c_ballots_CompareValues [.tmp 4] :=
  ⟨Try.f119, [], Try.func119, rfl, by kernel_rfl, by kernel_rfl, by kernel_rfl⟩

/-- slices.Clone[[]int,int] -/
def c_slices_Clone_int_int : SC :=
  (.seq
   (.reg
     [⟨(some 2), none, .mov (.cst (.nils))⟩])
   (.seq
    (.seq
     (.reg
       [⟨(some 3), none, .mov (.tmp 0)⟩,
       ⟨(some 4), none, .isnil false (.tmp 3)⟩])
     (.cond (.tmp 4)
      (.seq
       (.reg
         [⟨(some 2), none, .mov (.cst (.nils))⟩])
       .ret)
      .skip))
    (.seq
     (.reg
       [⟨(some 5), none, .bsl true 3 1 (List.replicate 0 [.int .i64 0]) []⟩,
       ⟨(some 6), none, .mov (.tmp 0)⟩,
       ⟨(some 7), none, .app 3 1 8 (.tmp 5) (.tmp 6)⟩,
       ⟨(some 2), none, .mov (.tmp 7)⟩])
     .ret)))
theorem ok_slices_Clone_int_int : FnOk Try.prog 120 8 c_slices_Clone_int_int [.tmp 2] :=
  ⟨Try.f120, [5], Try.func120, rfl, by kernel_rfl, by kernel_rfl, by kernel_rfl⟩

/-- slices.ContainsFunc[[]int,int] -/
def c_slices_ContainsFunc_int_int : SC :=
  (.seq
   (.reg
     [⟨(some 4), none, .mov (.cst (.bool false))⟩])
   (.seq
    (.reg
      [⟨(some 5), none, .mov (.tmp 0)⟩,
      ⟨(some 6), none, .mov (.tmp 1)⟩,
      ⟨(some 7), none, .call 137 [(.tmp 5), (.tmp 6)]⟩,
      ⟨(some 8), none, .bin .geq (.tmp 7) (.cst (.int .i64 0))⟩,
      ⟨(some 4), none, .mov (.tmp 8)⟩])
    .ret))
theorem ok_slices_ContainsFunc_int_int : FnOk Try.prog 121 9 c_slices_ContainsFunc_int_int [.tmp 4] :=
  ⟨Try.f121, [], Try.func121, rfl, by kernel_rfl, by kernel_rfl, by kernel_rfl⟩

/-- trustquorum/threshold.level$1 -/
def c_threshold_level_1 : SC :=
  (.seq
   (.reg
     [⟨(some 2), none, .mov (.cst (.bool false))⟩])
   (.seq
    (.reg
      [⟨(some 3), none, .mov (.tmp 0)⟩,
      ⟨(some 4), none, .call 123 [(.tmp 3)]⟩,
      ⟨(some 5), none, .not (.tmp 4)⟩,
      ⟨(some 2), none, .mov (.tmp 5)⟩])
    .ret))
theorem ok_threshold_level_1 : FnOk Try.prog 122 6 c_threshold_level_1 [.tmp 2] :=
  ⟨Try.f122, [], Try.func122, rfl, by kernel_rfl, by kernel_rfl, by kernel_rfl⟩

/-- trustquorum/threshold.node -/
def c_threshold_node : SC :=
  (.seq
   (.reg
     [⟨(some 2), none, .mov (.cst (.bool false))⟩])
   (.seq
    (.reg
      [⟨(some 3), none, .mov (.tmp 0)⟩,
      ⟨(some 4), none, .bin .geq (.tmp 3) (.cst (.int .i64 0))⟩,
      ⟨(some 5), none, .mov (.tmp 4)⟩,
      ⟨(some 6), (some (5, true)), .mov (.tmp 0)⟩,
      ⟨(some 7), (some (5, true)), .bin .lss (.tmp 6) (.cst (.int .i64 10))⟩,
      ⟨(some 8), none, .pick (.tmp 5) (.tmp 7) (.cst (.bool false))⟩,
      ⟨(some 2), none, .mov (.tmp 8)⟩])
    .ret))
theorem ok_threshold_node : FnOk Try.prog 123 9 c_threshold_node [.tmp 2] :=
  ⟨Try.f123, [], Try.func123, rfl, by kernel_rfl, by kernel_rfl, by kernel_rfl⟩

/-- trustquorum/nodeset.Of -/
def c_nodeset_Of : SC :=
  (.seq
   (.reg
     [⟨(some 2), none, .mov (.cst (.int .i64 0))⟩,
     ⟨(some 3), none, .mov (.cst (.int .i64 0))⟩])
   (.seq
    (.reg
      [⟨(some 4), none, .mov (.cst (.int .i64 0))⟩])
    (.seq
     (.seq
      (.reg
        [⟨(some 7), none, .mov (.tmp 0)⟩,
        ⟨(some 8), none, .len false (.tmp 7)⟩,
        ⟨(some 9), none, .mov (.cst (.int .i64 0))⟩])
      (.block 0
       (.loop
        (.seq
         (.reg
           [⟨(some 10), none, .bin .lss (.tmp 9) (.tmp 8)⟩])
         (.seq
          (.cond (.tmp 10)
           .skip
           (.exit 0))
          (.seq
           (.block 1
            (.seq
             (.reg
               [⟨(some 11), none, .iaddr 1 (.tmp 7) (.tmp 9)⟩,
               ⟨(some 12), none, .load none (.tmp 11)⟩,
               ⟨(some 6), none, .mov (.tmp 12)⟩])
             (.seq
              (.seq
               (.reg
                 [⟨(some 13), none, .mov (.tmp 6)⟩,
                 ⟨(some 14), none, .bin .lss (.tmp 13) (.cst (.int .i64 0))⟩,
                 ⟨(some 15), none, .mov (.tmp 14)⟩,
                 ⟨(some 16), (some (15, false)), .mov (.tmp 6)⟩,
                 ⟨(some 17), (some (15, false)), .bin .geq (.tmp 16) (.cst (.int .i64 10))⟩,
                 ⟨(some 18), none, .pick (.tmp 15) (.cst (.bool true)) (.tmp 17)⟩])
               (.cond (.tmp 18)
                (.seq
                 (.reg
                   [⟨(some 2), none, .mov (.cst (.int .i64 0))⟩,
                   ⟨(some 3), none, .mov (.cst (.int .i64 5))⟩])
                 .ret)
                .skip))
              (.seq
               (.seq
                (.reg
                  [⟨(some 19), none, .mov (.tmp 4)⟩,
                  ⟨(some 20), none, .mov (.tmp 6)⟩,
                  ⟨(some 21), none, .call 129 [(.tmp 19), (.tmp 20)]⟩])
                (.cond (.tmp 21)
                 (.seq
                  (.reg
                    [⟨(some 2), none, .mov (.cst (.int .i64 0))⟩,
                    ⟨(some 3), none, .mov (.cst (.int .i64 6))⟩])
                  .ret)
                 .skip))
               (.reg
                 [⟨(some 22), none, .mov (.tmp 4)⟩,
                 ⟨(some 23), none, .mov (.tmp 6)⟩,
                 ⟨(some 24), none, .bin .shl (.cst (.int .i64 1)) (.tmp 23)⟩,
                 ⟨(some 25), none, .bin .or (.tmp 22) (.tmp 24)⟩,
                 ⟨(some 4), none, .mov (.tmp 25)⟩])))))
           (.reg
             [⟨(some 26), none, .bin .add (.tmp 9) (.cst (.int .i64 1))⟩,
             ⟨(some 9), none, .mov (.tmp 26)⟩])))))))
     (.seq
      (.reg
        [⟨(some 27), none, .mov (.tmp 4)⟩,
        ⟨(some 2), none, .mov (.tmp 27)⟩,
        ⟨(some 3), none, .mov (.cst (.int .i64 0))⟩])
      .ret))))
theorem ok_nodeset_Of : FnOk Try.prog 124 28 c_nodeset_Of [.tmp 2, .tmp 3] :=
  ⟨Try.f124, [], Try.func124, rfl, by kernel_rfl, by kernel_rfl, by kernel_rfl⟩

/-- trustquorum/nodeset.Has -/
def c_nodeset_Has : SC :=
  (.seq
   (.reg
     [⟨(some 4), none, .mov (.cst (.bool false))⟩])
   (.seq
    (.reg
      [⟨(some 5), none, .mov (.tmp 0)⟩,
      ⟨(some 6), none, .call 138 [(.tmp 5)]⟩,
      ⟨(some 7), none, .mov (.tmp 6)⟩,
      ⟨(some 8), (some (7, true)), .mov (.tmp 1)⟩,
      ⟨(some 9), (some (7, true)), .bin .geq (.tmp 8) (.cst (.int .i64 0))⟩,
      ⟨(some 10), none, .pick (.tmp 7) (.tmp 9) (.cst (.bool false))⟩,
      ⟨(some 11), none, .mov (.tmp 10)⟩,
      ⟨(some 12), (some (11, true)), .mov (.tmp 1)⟩,
      ⟨(some 13), (some (11, true)), .bin .lss (.tmp 12) (.cst (.int .i64 10))⟩,
      ⟨(some 14), none, .pick (.tmp 11) (.tmp 13) (.cst (.bool false))⟩,
      ⟨(some 15), none, .mov (.tmp 14)⟩,
      ⟨(some 16), (some (15, true)), .mov (.tmp 0)⟩,
      ⟨(some 17), (some (15, true)), .mov (.tmp 1)⟩,
      ⟨(some 18), (some (15, true)), .bin .shl (.cst (.int .i64 1)) (.tmp 17)⟩,
      ⟨(some 19), (some (15, true)), .bin .and (.tmp 16) (.tmp 18)⟩,
      ⟨(some 20), (some (15, true)), .bin .neq (.tmp 19) (.cst (.int .i64 0))⟩,
      ⟨(some 21), none, .pick (.tmp 15) (.tmp 20) (.cst (.bool false))⟩,
      ⟨(some 4), none, .mov (.tmp 21)⟩])
    .ret))
theorem ok_nodeset_Has : FnOk Try.prog 129 22 c_nodeset_Has [.tmp 4] :=
  ⟨Try.f129, [], Try.func129, rfl, by kernel_rfl, by kernel_rfl, by kernel_rfl⟩

/-- cmp.isNaN[int] -/
def c_cmp_isNaN_int : SC :=
  (.seq
   (.reg
     [⟨(some 2), none, .mov (.cst (.bool false))⟩])
   (.seq
    (.reg
      [⟨(some 3), none, .mov (.tmp 0)⟩,
      ⟨(some 4), none, .mov (.tmp 0)⟩,
      ⟨(some 5), none, .bin .neq (.tmp 3) (.tmp 4)⟩,
      ⟨(some 2), none, .mov (.tmp 5)⟩])
    .ret))
theorem ok_cmp_isNaN_int : FnOk Try.prog 133 6 c_cmp_isNaN_int [.tmp 2] :=
  ⟨Try.f133, [], Try.func133, rfl, by kernel_rfl, by kernel_rfl, by kernel_rfl⟩

/-- trustquorum/trustquorumref01.Of -/
def c_trustquorumref01_Of : SC :=
  (.seq
   (.reg
     [⟨(some 2), none, .mov (.cst (.int .i64 0))⟩,
     ⟨(some 3), none, .mov (.cst (.int .i64 0))⟩])
   (.seq
    (.reg
      [⟨(some 4), none, .mov (.cst (.int .i64 0))⟩])
    (.seq
     (.seq
      (.reg
        [⟨(some 7), none, .mov (.tmp 0)⟩,
        ⟨(some 8), none, .len false (.tmp 7)⟩,
        ⟨(some 9), none, .mov (.cst (.int .i64 0))⟩])
      (.block 0
       (.loop
        (.seq
         (.reg
           [⟨(some 10), none, .bin .lss (.tmp 9) (.tmp 8)⟩])
         (.seq
          (.cond (.tmp 10)
           .skip
           (.exit 0))
          (.seq
           (.block 1
            (.seq
             (.reg
               [⟨(some 11), none, .iaddr 1 (.tmp 7) (.tmp 9)⟩,
               ⟨(some 12), none, .load none (.tmp 11)⟩,
               ⟨(some 6), none, .mov (.tmp 12)⟩])
             (.seq
              (.seq
               (.reg
                 [⟨(some 13), none, .mov (.tmp 6)⟩,
                 ⟨(some 14), none, .bin .lss (.tmp 13) (.cst (.int .i64 0))⟩,
                 ⟨(some 15), none, .mov (.tmp 14)⟩,
                 ⟨(some 16), (some (15, false)), .mov (.tmp 6)⟩,
                 ⟨(some 17), (some (15, false)), .bin .geq (.tmp 16) (.cst (.int .i64 10))⟩,
                 ⟨(some 18), none, .pick (.tmp 15) (.cst (.bool true)) (.tmp 17)⟩])
               (.cond (.tmp 18)
                (.seq
                 (.reg
                   [⟨(some 2), none, .mov (.cst (.int .i64 0))⟩,
                   ⟨(some 3), none, .mov (.cst (.int .i64 5))⟩])
                 .ret)
                .skip))
              (.seq
               (.seq
                (.reg
                  [⟨(some 19), none, .mov (.tmp 4)⟩,
                  ⟨(some 20), none, .mov (.tmp 6)⟩,
                  ⟨(some 21), none, .call 62 [(.tmp 19), (.tmp 20)]⟩])
                (.cond (.tmp 21)
                 (.seq
                  (.reg
                    [⟨(some 2), none, .mov (.cst (.int .i64 0))⟩,
                    ⟨(some 3), none, .mov (.cst (.int .i64 6))⟩])
                  .ret)
                 .skip))
               (.reg
                 [⟨(some 22), none, .mov (.tmp 4)⟩,
                 ⟨(some 23), none, .mov (.tmp 6)⟩,
                 ⟨(some 24), none, .bin .shl (.cst (.int .i64 1)) (.tmp 23)⟩,
                 ⟨(some 25), none, .bin .or (.tmp 22) (.tmp 24)⟩,
                 ⟨(some 4), none, .mov (.tmp 25)⟩])))))
           (.reg
             [⟨(some 26), none, .bin .add (.tmp 9) (.cst (.int .i64 1))⟩,
             ⟨(some 9), none, .mov (.tmp 26)⟩])))))))
     (.seq
      (.reg
        [⟨(some 27), none, .mov (.tmp 4)⟩,
        ⟨(some 2), none, .mov (.tmp 27)⟩,
        ⟨(some 3), none, .mov (.cst (.int .i64 0))⟩])
      .ret))))
theorem ok_trustquorumref01_Of : FnOk Try.prog 135 28 c_trustquorumref01_Of [.tmp 2, .tmp 3] :=
  ⟨Try.f135, [], Try.func135, rfl, by kernel_rfl, by kernel_rfl, by kernel_rfl⟩

/-- cmp.Compare[string] -/
def c_cmp_Compare_string : SC :=
  (.seq
   (.reg
     [⟨(some 4), none, .mov (.cst (.int .i64 0))⟩])
   (.seq
    (.reg
      [⟨(some 7), none, .mov (.tmp 0)⟩,
      ⟨(some 8), none, .call 144 [(.tmp 7)]⟩,
      ⟨(some 5), none, .mov (.tmp 8)⟩])
    (.seq
     (.reg
       [⟨(some 9), none, .mov (.tmp 1)⟩,
       ⟨(some 10), none, .call 144 [(.tmp 9)]⟩,
       ⟨(some 6), none, .mov (.tmp 10)⟩])
     (.seq
      (.seq
       (.reg
         [⟨(some 11), none, .mov (.tmp 5)⟩])
       (.cond (.tmp 11)
        (.seq
         (.seq
          (.reg
            [⟨(some 12), none, .mov (.tmp 6)⟩])
          (.cond (.tmp 12)
           (.seq
            (.reg
              [⟨(some 4), none, .mov (.cst (.int .i64 0))⟩])
            .ret)
           .skip))
         (.seq
          (.reg
            [⟨(some 4), none, .mov (.cst (.int .i64 (-1)))⟩])
          .ret))
        .skip))
      (.seq
       (.seq
        (.reg
          [⟨(some 13), none, .mov (.tmp 6)⟩])
        (.cond (.tmp 13)
         (.seq
          (.reg
            [⟨(some 4), none, .mov (.cst (.int .i64 1))⟩])
          .ret)
         .skip))
       (.seq
        (.seq
         (.reg
           [⟨(some 14), none, .mov (.tmp 0)⟩,
           ⟨(some 15), none, .mov (.tmp 1)⟩,
           ⟨(some 16), none, .bin .lss (.tmp 14) (.tmp 15)⟩])
         (.cond (.tmp 16)
          (.seq
           (.reg
             [⟨(some 4), none, .mov (.cst (.int .i64 (-1)))⟩])
           .ret)
          .skip))
        (.seq
         (.seq
          (.reg
            [⟨(some 17), none, .mov (.tmp 0)⟩,
            ⟨(some 18), none, .mov (.tmp 1)⟩,
            ⟨(some 19), none, .bin .gtr (.tmp 17) (.tmp 18)⟩])
          (.cond (.tmp 19)
           (.seq
            (.reg
              [⟨(some 4), none, .mov (.cst (.int .i64 1))⟩])
            .ret)
           .skip))
         (.seq
          (.reg
            [⟨(some 4), none, .mov (.cst (.int .i64 0))⟩])
          .ret))))))))
theorem ok_cmp_Compare_string : FnOk Try.prog 136 20 c_cmp_Compare_string [.tmp 4] :=
  ⟨Try.f136, [], Try.func136, rfl, by kernel_rfl, by kernel_rfl, by kernel_rfl⟩

/-- slices.IndexFunc[[]int,int] -/
def c_slices_IndexFunc_int_int : SC :=
  (.seq
   (.reg
     [⟨(some 4), none, .mov (.cst (.int .i64 0))⟩])
   (.seq
    (.seq
     (.reg
       [⟨(some 6), none, .mov (.tmp 0)⟩,
       ⟨(some 7), none, .len false (.tmp 6)⟩,
       ⟨(some 8), none, .mov (.cst (.int .i64 0))⟩])
     (.block 0
      (.loop
       (.seq
        (.reg
          [⟨(some 9), none, .bin .lss (.tmp 8) (.tmp 7)⟩])
        (.seq
         (.cond (.tmp 9)
          .skip
          (.exit 0))
         (.seq
          (.block 1
           (.seq
            (.reg
              [⟨(some 10), none, .mov (.tmp 8)⟩,
              ⟨(some 5), none, .mov (.tmp 10)⟩])
            (.seq
             (.reg
               [⟨(some 11), none, .mov (.tmp 1)⟩,
               ⟨(some 12), none, .mov (.tmp 0)⟩,
               ⟨(some 13), none, .mov (.tmp 5)⟩,
               ⟨(some 14), none, .iaddr 1 (.tmp 12) (.tmp 13)⟩,
               ⟨(some 15), none, .load none (.tmp 14)⟩,
               ⟨(some 16), none, .callv (.tmp 11) [(.tmp 15)]⟩])
             (.cond (.tmp 16)
              (.seq
               (.reg
                 [⟨(some 17), none, .mov (.tmp 5)⟩,
                 ⟨(some 4), none, .mov (.tmp 17)⟩])
               .ret)
              .skip))))
          (.reg
            [⟨(some 18), none, .bin .add (.tmp 8) (.cst (.int .i64 1))⟩,
            ⟨(some 8), none, .mov (.tmp 18)⟩])))))))
    (.seq
     (.reg
       [⟨(some 4), none, .mov (.cst (.int .i64 (-1)))⟩])
     .ret)))
theorem ok_slices_IndexFunc_int_int : FnOk Try.prog 137 19 c_slices_IndexFunc_int_int [.tmp 4] :=
  ⟨Try.f137, [], Try.func137, rfl, by kernel_rfl, by kernel_rfl, by kernel_rfl⟩

/-- trustquorum/nodeset.Valid -/
def c_nodeset_Valid : SC :=
  (.seq
   (.reg
     [⟨(some 2), none, .mov (.cst (.bool false))⟩])
   (.seq
    (.reg
      [⟨(some 3), none, .mov (.tmp 0)⟩,
      ⟨(some 4), none, .call 145 [(.tmp 3), (.cst (.int .i64 10))]⟩,
      ⟨(some 2), none, .mov (.tmp 4)⟩])
    .ret))
theorem ok_nodeset_Valid : FnOk Try.prog 138 5 c_nodeset_Valid [.tmp 2] :=
  ⟨Try.f138, [], Try.func138, rfl, by kernel_rfl, by kernel_rfl, by kernel_rfl⟩

/-- cmp.isNaN[string] -/
def c_cmp_isNaN_string : SC :=
  (.seq
   (.reg
     [⟨(some 2), none, .mov (.cst (.bool false))⟩])
   (.seq
    (.reg
      [⟨(some 3), none, .mov (.tmp 0)⟩,
      ⟨(some 4), none, .mov (.tmp 0)⟩,
      ⟨(some 5), none, .bin .neq (.tmp 3) (.tmp 4)⟩,
      ⟨(some 2), none, .mov (.tmp 5)⟩])
    .ret))
theorem ok_cmp_isNaN_string : FnOk Try.prog 144 6 c_cmp_isNaN_string [.tmp 2] :=
  ⟨Try.f144, [], Try.func144, rfl, by kernel_rfl, by kernel_rfl, by kernel_rfl⟩

/-- trustquorum/nodeset.below -/
def c_nodeset_below : SC :=
  (.seq
   (.reg
     [⟨(some 4), none, .mov (.cst (.bool false))⟩])
   (.seq
    (.reg
      [⟨(some 5), none, .mov (.tmp 0)⟩,
      ⟨(some 6), none, .bin .geq (.tmp 5) (.cst (.int .i64 0))⟩,
      ⟨(some 7), none, .mov (.tmp 6)⟩,
      ⟨(some 8), (some (7, true)), .mov (.tmp 0)⟩,
      ⟨(some 9), (some (7, true)), .mov (.tmp 1)⟩,
      ⟨(some 10), (some (7, true)), .bin .shl (.cst (.int .i64 1)) (.tmp 9)⟩,
      ⟨(some 11), (some (7, true)), .bin .lss (.tmp 8) (.tmp 10)⟩,
      ⟨(some 12), none, .pick (.tmp 7) (.tmp 11) (.cst (.bool false))⟩,
      ⟨(some 4), none, .mov (.tmp 12)⟩])
    .ret))
theorem ok_nodeset_below : FnOk Try.prog 145 13 c_nodeset_below [.tmp 4] :=
  ⟨Try.f145, [], Try.func145, rfl, by kernel_rfl, by kernel_rfl, by kernel_rfl⟩

end Go.Proofs.Ytncjalhhkmojlaa
