/-
  Functions of the program as plain functions, each held against the program by the kernel. Printed by a program.
-/
import Derived.Test.YtncjalhhkmojlaaGreatPrepareExactFnA
import Derived.Test.YtncjalhhkmojlaaGreatProg
import Derived.KernelRfl
set_option linter.unusedVariables false
namespace Go.Proofs.YtncjalhhkmojlaaGreat
open Go.TQ

/-! ### trustquorum/prepare.Confirms -/
def sa_prepare_Confirms : SA U :=
 (sr
 (op 5 (.box (tm 1))
 (op 7 (.box (tm 3))
 (op 8 (.mov (.cst (.bool false)))
 .nil)))
 (.seq
 (.drw [(1, 4), (3, 4)]
 (mv 9 0
 (ldk 10 3 5
 (mv 11 2
 (cl 12 97 [9, 10, 11]
 (ldk 13 2 7
 (cl 14 109 [13]
 (cl 15 108 [12, 14]
 (mv 8 15
 .nil)))))))))
 .ret))
noncomputable def F_prepare_Confirms (a0 : Int) (a1 : TTrust) (a2 : (List TEnvelope)) (a3 : TBallot) : Option Bool :=
 Option.bind (F_prepare_Look a0 (TTrust.mk a1.Threshold a1.Nodes a1.Inner) a2) fun r1 =>
 Option.bind (F_prepare_accepts a3) fun r2 =>
 Option.bind (F_prepare_Seen_Confirms_c164 r1 r2.1) fun r3 =>
 some r3
noncomputable def k_prepare_Confirms : KS U Tryz.prog := ⟨.fn 36 [.ty (Ty.i .i64), .ty (Ty.st .Trust), .ty (Ty.sl (Ty.st .Envelope)), .ty (Ty.st .Ballot)] (.one Ty.bool) fun a => F_prepare_Confirms a.1 a.2.1 a.2.2.1 a.2.2.2.1, fnS (K := K) sa_prepare_Confirms 16 [.tmp 8] [k_prepare_Look, k_prepare_accepts, k_prepare_Seen_Confirms_c164] (fk Tryz.f36 [] Tryz.func36)⟩

/-! ### trustquorum/trustquorumref25.Join -/
def sa_ref25_Join : SA U :=
 (sr
 (op 3 (.box (tm 0))
 (op 4 (.box (tm 1))
 (op 5 (.box (tm 2))
 (op 6 (.alloc [.int .i64 0, .str ⟨#[]⟩])
 (op 7 (.alloc [.int .i64 0, .str ⟨#[]⟩])
 .nil)))))
 (.seq
 (.block 0
 (sr
 (ldk 9 2 5
 (cl 10 39 [9]
 (mv 8 10
 .nil)))
 (.cond (tm 8)
 (.seq
 (.drw [(0, 1), (1, 2)]
 (ldk 11 2 3
 (ldk 12 2 4
 (ops (.store 2 (tm 6) (tm 11))
 (ops (.store 2 (tm 7) (tm 12))
 .nil)))))
 .ret)
 (sr
 (ldk 14 2 3
 (cl 15 39 [14]
 (mv 13 15
 .nil)))
 (.cond (tm 13)
 (.seq
 (.drw [(0, 1), (1, 2)]
 (ldk 16 2 5
 (ldk 17 2 4
 (ops (.store 2 (tm 6) (tm 16))
 (ops (.store 2 (tm 7) (tm 17))
 .nil)))))
 .ret)
 (sr
 (ldk 19 2 3
 (ldk 20 2 5
 (cl 21 15 [19, 20]
 (mv 18 21
 .nil))))
 (.cond (tm 18)
 (.seq
 (sr
 (ldk 22 2 3
 (ldk 23 2 5
 (cl 24 106 [22, 23]
 (op 25 (.not (tm 24))
 .nil))))
 (.cond (tm 25)
 (.seq
 (.drw [(0, 1), (1, 2)]
 (ldk 26 2 5
 (ldk 27 2 3
 (ops (.store 2 (tm 6) (tm 26))
 (ops (.store 2 (tm 7) (tm 27))
 .nil)))))
 .ret)
 .skip))
 (.join ⟨[.box 1 1 (Ty.st .Ballot) []], [4, 5, 6, 7]⟩
 (sr
 (ldk 28 2 4
 (ldk 29 2 5
 (cl 30 106 [28, 29]
 .nil)))
 (.cond (tm 30)
 (.reg
 (op 31 (.build [.int .i64 0, .str ⟨#[]⟩] [])
 (ops (.store 2 (tm 4) (tm 31))
 .nil)))
 .skip))
 (.seq
 (.drw [(0, 1), (1, 2)]
 (ldk 32 2 5
 (ldk 33 2 4
 (ops (.store 2 (tm 6) (tm 32))
 (ops (.store 2 (tm 7) (tm 33))
 .nil)))))
 .ret)))
 (sr
 (ldk 35 2 5
 (ldk 36 2 3
 (cl 37 15 [35, 36]
 (mv 38 37
 (.ite 38 true
 (opg 39 38 true (.load (some 2) (tm 5))
 (opg 40 38 true (.load (some 2) (tm 3))
 (opg 41 38 true (.call 106 [(tm 39), (tm 40)])
 (opg 42 38 true (.not (tm 41))
 .nil))))
 43 none (tm 42) (.cst (.bool false))
 (mv 44 43
 (.ite 44 true
 (opg 45 44 true (.load (some 2) (tm 4))
 (opg 46 44 true (.call 39 [(tm 45)])
 (opg 47 44 true (.mov (tm 46))
 (.ite 47 false
 (opg 48 47 false (.load (some 2) (tm 4))
 (opg 49 47 false (.load (some 2) (tm 5))
 (opg 50 47 false (.call 15 [(tm 48), (tm 49)])
 .nil)))
 51 (some (44, true)) (.cst (.bool true)) (tm 50)
 .nil))))
 52 none (tm 51) (.cst (.bool false))
 (mv 34 52
 .nil))))))))
 (.cond (tm 34)
 (.seq
 (.drw [(0, 1), (1, 2)]
 (ldk 53 2 3
 (ldk 54 2 5
 (ops (.store 2 (tm 6) (tm 53))
 (ops (.store 2 (tm 7) (tm 54))
 .nil)))))
 .ret)
 .skip)))))))))
 (.seq
 (.drw [(0, 1), (1, 2)]
 (ldk 55 2 3
 (ldk 56 2 4
 (ops (.store 2 (tm 6) (tm 55))
 (ops (.store 2 (tm 7) (tm 56))
 .nil)))))
 .ret)))
noncomputable def F_ref25_Join (a0 : TBallot) (a1 : TBallot) (a2 : TBallot) : Option (TBallot × TBallot × Unit) :=
 Option.bind (F_ref23_Zero a2) fun r1 =>
 bif r1 then
 some (a0, a1, ())
 else
 Option.bind (F_ref23_Zero a0) fun r2 =>
 bif r2 then
 some (a2, a1, ())
 else
 Option.bind (F_ref23_Less a0 a2) fun r3 =>
 bif r3 then
 Option.bind (F_ref23_Compatible a0 a2) fun r4 =>
 bif (!r4) then
 some (a2, a0, ())
 else
 letJ (fun (v5 : TBallot × Unit) =>
 some (a2, v5.1, ())) fun j6 =>
 Option.bind (F_ref23_Compatible a1 a2) fun r7 =>
 bif r7 then
 j6 ((TBallot.mk (0 : Int) (ByteArray.mk #[])), ())
 else
 j6 (a1, ())
 else
 Option.bind (F_ref23_Less a2 a0) fun r8 =>
 Option.bind (bif r8 then
 Option.bind (F_ref23_Compatible a2 a0) fun r9 =>
 some (!r9)
 else some false) fun b10 =>
 Option.bind (bif b10 then
 Option.bind (F_ref23_Zero a1) fun r11 =>
 Option.bind (bif r11 then some true
 else
 Option.bind (F_ref23_Less a1 a2) fun r12 =>
 some r12) fun b13 =>
 some b13
 else some false) fun b14 =>
 bif b14 then
 some (a0, a2, ())
 else
 some (a0, a1, ())
noncomputable def k_ref25_Join : KS U Tryz.prog := ⟨.fn 37 [.ty (Ty.st .Ballot), .ty (Ty.st .Ballot), .ty (Ty.st .Ballot)] (.many [(Ty.st .Ballot), (Ty.st .Ballot)]) fun a => F_ref25_Join a.1 a.2.1 a.2.2.1, fnS (K := K) sa_ref25_Join 57 [.cell 6 (some 2), .cell 7 (some 2)] [k_ref23_Zero, k_ref23_Less, k_ref23_Compatible] (fk Tryz.f37 [] Tryz.func37)⟩

/-! ### trustquorum/prepare.endless -/
def sa_prepare_endless : SA U :=
 (sr
 (op 1 (.box (tm 0))
 (op 2 (.alloc [.int .i64 0, .str ⟨#[]⟩])
 .nil))
 (.join ⟨[.box 0 1 (Ty.st .Ballot) []], [1, 2]⟩
 (sr
 (fa 3 0 1
 (ld 4 3
 (op 5 (.bin .geq (tm 4) (ci 1000))
 .nil)))
 (.cond (tm 5)
 (.reg
 (fa 6 0 1
 (ops (.store 1 (tm 6) (ci 1000000))
 .nil)))
 .skip))
 (sr
 (ldk 7 2 1
 (ops (.store 2 (tm 2) (tm 7))
 .nil))
 .ret)))
noncomputable def F_prepare_endless (a0 : TBallot) : Option TBallot :=
 letJ (fun (v1 : TBallot × Unit) =>
 some v1.1) fun j2 =>
 bif (decide ((1000 : Int) ≤ a0.Counter)) then
 j2 ((TBallot.mk (1000000 : Int) a0.Value), ())
 else
 j2 (a0, ())
noncomputable def k_prepare_endless : KS U Tryz.prog := ⟨.fn 111 [.ty (Ty.st .Ballot)] (.one (Ty.st .Ballot)) fun a => F_prepare_endless a.1, fnS (K := K) sa_prepare_endless 8 [.cell 2 (some 2)] [] (fk Tryz.f111 [] Tryz.func111)⟩

/-! ### trustquorum/prepare.Next -/
def sa_prepare_Next : SA U :=
 (sr
 (op 7 (.box (tm 1))
 (op 9 (.box (tm 3))
 (op 10 (.box (tm 4))
 (op 12 (.alloc [.int .i64 0, .str ⟨#[]⟩])
 .nil))))
 (sr
 (mv 16 0
 (ldk 17 3 7
 (mv 18 2
 (cl 19 97 [16, 17, 18]
 (op 13 (.alloc [.int .i64 0, .nils, .nils])
 (ops (.store 3 (tm 13) (tm 19))
 .nil))))))
 (.seq
 (sr
 (mv 20 2
 (cl 21 13 [20]
 (op 22 (.len false (tm 21))
 (mc 23 0
 .nil))))
 (.block 0
 (.loop ⟨[.val 23 (Ty.i .i64), .box 3 1 (Ty.st .Ballot) []], [5, 9, 10, 12, 13, 21, 22]⟩
 (sr
 (op 24 (.bin .lss (tm 23) (tm 22))
 .nil)
 (.seq
 (.cond (tm 24)
 .skip
 (.exit 0))
 (.seq
 (.block 1
 (sr
 (ia 25 2 21 23
 (ldk 26 2 25
 (op 15 (.alloc [.int .i64 0, .str ⟨#[]⟩])
 (ops (.store 2 (tm 15) (tm 26))
 .nil))))
 (.join ⟨[.val 48 Ty.bool], [5, 9, 10, 12, 13, 15, 21, 22, 23]⟩
 (.drw [(9, 11), (10, 11), (9, 13), (10, 13), (11, 13), (12, 13), (18, 19)]
 (mv 27 5
 (op 28 (.bin .eql (tm 27) (.cst (.str ⟨#[]⟩)))
 (mv 29 28
 (.spl 29
 (opg 30 29 false (.faddr 1 (tm 15))
 (opg 31 29 false (.load none (tm 30))
 (opg 32 29 false (.mov (tm 5))
 (opg 33 29 false (.bin .eql (tm 31) (tm 32))
 (op 34 (.pick (tm 29) (.cst (.bool true)) (tm 33))
 (mv 35 34
 (.spl 35
 (opg 36 35 true (.load (some 2) (tm 9))
 (opg 37 35 true (.call 111 [(tm 36)])
 (opg 38 35 true (.load (some 2) (tm 10))
 (opg 39 35 true (.call 111 [(tm 38)])
 (opg 40 35 true (.load (some 2) (tm 15))
 (opg 41 35 true (.call 110 [(tm 37), (tm 39), (tm 40)])
 (opg 42 35 true (.not (tm 41))
 (op 43 (.pick (tm 35) (tm 42) (.cst (.bool false)))
 (mv 44 43
 (.spl 44
 (opg 45 44 true (.load (some 3) (tm 13))
 (opg 46 44 true (.load (some 2) (tm 15))
 (opg 47 44 true (.call 107 [(tm 45), (tm 46)])
 (op 48 (.pick (tm 44) (tm 47) (.cst (.bool false)))
 .nil))))))))))))))))))))))))))
 (.cond (tm 48)
 (sr
 (ldk 49 2 15
 (ops (.store 2 (tm 12) (tm 49))
 .nil))
 .ret)
 .skip))))
 (.reg
 (op 50 (.bin .add (tm 23) (ci 1))
 (mv 23 50
 .nil)))))))))
 (sr
 (op 51 (.build [.int .i64 0, .str ⟨#[]⟩] [])
 (ops (.store 2 (tm 12) (tm 51))
 .nil))
 .ret))))
noncomputable def F_prepare_Next (a0 : Int) (a1 : TTrust) (a2 : (List TEnvelope)) (a3 : TBallot) (a4 : TBallot) (a5 : ByteArray) : Option TBallot :=
 Option.bind (F_prepare_Look a0 (TTrust.mk a1.Threshold a1.Nodes a1.Inner) a2) fun r1 =>
 Option.bind (F_envelopes_Ballots a2) fun r2 =>
 loopO (fun (v3 : Int × TBallot × Unit) =>
 bif (decide (v3.1 < ((List.length r2 : Nat) : Int))) then
 Option.bind (idx r2 v3.1) fun x4 =>
 letJ (fun (v5 : Bool × Unit) =>
 bif v5.1 then
 Option.map Sum.inr (some x4)
 else
 some (Sum.inl ((addI .i64 v3.1 (1 : Int)), v3.2.1, ()))) fun j6 =>
 bif (decide (a5 = (ByteArray.mk #[]))) then
 Option.bind (F_prepare_endless a3) fun r7 =>
 Option.bind (F_prepare_endless a4) fun r8 =>
 Option.bind (F_ballots_Prepares r7 r8 x4) fun r9 =>
 bif (!r9) then
 Option.bind (F_prepare_Seen_ready r1 x4) fun r10 =>
 j6 (r10, ())
 else
 j6 (false, ())
 else
 bif (decide (x4.Value = a5)) then
 Option.bind (F_prepare_endless a3) fun r11 =>
 Option.bind (F_prepare_endless a4) fun r12 =>
 Option.bind (F_ballots_Prepares r11 r12 x4) fun r13 =>
 bif (!r13) then
 Option.bind (F_prepare_Seen_ready r1 x4) fun r14 =>
 j6 (r14, ())
 else
 j6 (false, ())
 else
 j6 (false, ())
 else
 Option.map Sum.inr (some (TBallot.mk (0 : Int) (ByteArray.mk #[])))) ((0 : Int), (TBallot.mk (0 : Int) (ByteArray.mk #[])), ())
noncomputable def k_prepare_Next : KS U Tryz.prog := ⟨.fn 38 [.ty (Ty.i .i64), .ty (Ty.st .Trust), .ty (Ty.sl (Ty.st .Envelope)), .ty (Ty.st .Ballot), .ty (Ty.st .Ballot), .ty Ty.str] (.one (Ty.st .Ballot)) fun a => F_prepare_Next a.1 a.2.1 a.2.2.1 a.2.2.2.1 a.2.2.2.2.1 a.2.2.2.2.2.1, fnS (K := K) sa_prepare_Next 52 [.cell 12 (some 2)] [k_prepare_Look, k_envelopes_Ballots, k_prepare_endless, k_ballots_Prepares, k_prepare_Seen_ready] (fk Tryz.f38 [] Tryz.func38)⟩

/-! ### trustquorum/prepare.Join -/
def sa_prepare_Join : SA U :=
 (sr
 (op 3 (.box (tm 0))
 (op 4 (.box (tm 1))
 (op 5 (.box (tm 2))
 (op 6 (.alloc [.int .i64 0, .str ⟨#[]⟩])
 (op 7 (.alloc [.int .i64 0, .str ⟨#[]⟩])
 .nil)))))
 (.join ⟨[.box 1 1 (Ty.st .Ballot) [], .box 3 1 (Ty.st .Ballot) [], .box 4 1 (Ty.st .Ballot) []], [3, 4, 6, 7]⟩
 (.block 0
 (sr
 (ldk 9 2 5
 (cl 10 85 [9]
 (mv 8 10
 .nil)))
 (.cond (tm 8)
 .skip
 (sr
 (ldk 12 2 3
 (cl 13 85 [12]
 (mv 11 13
 .nil)))
 (.cond (tm 11)
 (.seq
 (.drw [(0, 1), (1, 2)]
 (ldk 14 2 5
 (ldk 15 2 4
 (ops (.store 2 (tm 6) (tm 14))
 (ops (.store 2 (tm 7) (tm 15))
 .nil)))))
 .ret)
 (sr
 (ldk 17 2 3
 (ldk 18 2 5
 (cl 19 101 [17, 18]
 (mv 16 19
 .nil))))
 (.cond (tm 16)
 (.join ⟨[.box 1 1 (Ty.st .Ballot) []], [3, 4, 5, 6, 7]⟩
 (.block 1
 (sr
 (ldk 21 2 3
 (ldk 22 2 5
 (cl 23 114 [21, 22]
 (op 24 (.not (tm 23))
 (mv 20 24
 .nil)))))
 (.cond (tm 20)
 (.reg
 (ldk 25 2 3
 (ops (.store 2 (tm 4) (tm 25))
 .nil)))
 (sr
 (ldk 27 2 4
 (ldk 28 2 5
 (cl 29 114 [27, 28]
 (mv 26 29
 .nil))))
 (.cond (tm 26)
 (.reg
 (op 30 (.build [.int .i64 0, .str ⟨#[]⟩] [])
 (ops (.store 2 (tm 4) (tm 30))
 .nil)))
 .skip)))))
 (.seq
 (.drw [(0, 1), (1, 2)]
 (ldk 31 2 5
 (ldk 32 2 4
 (ops (.store 2 (tm 6) (tm 31))
 (ops (.store 2 (tm 7) (tm 32))
 .nil)))))
 .ret))
 (sr
 (ldk 34 2 5
 (ldk 35 2 3
 (cl 36 101 [34, 35]
 (mv 37 36
 (.ite 37 true
 (opg 38 37 true (.load (some 2) (tm 3))
 (opg 39 37 true (.load (some 2) (tm 5))
 (opg 40 37 true (.call 114 [(tm 38), (tm 39)])
 (opg 41 37 true (.not (tm 40))
 .nil))))
 42 none (tm 41) (.cst (.bool false))
 (mv 43 42
 (.ite 43 true
 (opg 44 43 true (.load (some 2) (tm 4))
 (opg 45 43 true (.call 85 [(tm 44)])
 (opg 46 43 true (.mov (tm 45))
 (.ite 46 false
 (opg 47 46 false (.load (some 2) (tm 4))
 (opg 48 46 false (.load (some 2) (tm 5))
 (opg 49 46 false (.call 101 [(tm 47), (tm 48)])
 .nil)))
 50 (some (43, true)) (.cst (.bool true)) (tm 49)
 .nil))))
 51 none (tm 50) (.cst (.bool false))
 (mv 33 51
 .nil))))))))
 (.cond (tm 33)
 (.seq
 (.drw [(0, 1), (1, 2)]
 (ldk 52 2 3
 (ldk 53 2 5
 (ops (.store 2 (tm 6) (tm 52))
 (ops (.store 2 (tm 7) (tm 53))
 .nil)))))
 .ret)
 .skip)))))))))
 (.seq
 (.drw [(0, 1), (1, 2)]
 (ldk 54 2 3
 (ldk 55 2 4
 (ops (.store 2 (tm 6) (tm 54))
 (ops (.store 2 (tm 7) (tm 55))
 .nil)))))
 .ret)))
noncomputable def F_prepare_Join (a0 : TBallot) (a1 : TBallot) (a2 : TBallot) : Option (TBallot × TBallot × Unit) :=
 letJ (fun (v1 : TBallot × TBallot × TBallot × Unit) =>
 some (a0, v1.1, ())) fun j2 =>
 Option.bind (F_ballots_Zero a2) fun r3 =>
 bif r3 then
 j2 (a1, (TBallot.mk (0 : Int) (ByteArray.mk #[])), (TBallot.mk (0 : Int) (ByteArray.mk #[])), ())
 else
 Option.bind (F_ballots_Zero a0) fun r4 =>
 bif r4 then
 some (a2, a1, ())
 else
 Option.bind (F_ballots_Less a0 a2) fun r5 =>
 bif r5 then
 letJ (fun (v6 : TBallot × Unit) =>
 some (a2, v6.1, ())) fun j7 =>
 Option.bind (F_ballots_Compatible a0 a2) fun r8 =>
 bif (!r8) then
 j7 (a0, ())
 else
 Option.bind (F_ballots_Compatible a1 a2) fun r9 =>
 bif r9 then
 j7 ((TBallot.mk (0 : Int) (ByteArray.mk #[])), ())
 else
 j7 (a1, ())
 else
 Option.bind (F_ballots_Less a2 a0) fun r10 =>
 Option.bind (bif r10 then
 Option.bind (F_ballots_Compatible a0 a2) fun r11 =>
 some (!r11)
 else some false) fun b12 =>
 Option.bind (bif b12 then
 Option.bind (F_ballots_Zero a1) fun r13 =>
 Option.bind (bif r13 then some true
 else
 Option.bind (F_ballots_Less a1 a2) fun r14 =>
 some r14) fun b15 =>
 some b15
 else some false) fun b16 =>
 bif b16 then
 some (a0, a2, ())
 else
 j2 (a1, (TBallot.mk (0 : Int) (ByteArray.mk #[])), (TBallot.mk (0 : Int) (ByteArray.mk #[])), ())
noncomputable def k_prepare_Join : KS U Tryz.prog := ⟨.fn 45 [.ty (Ty.st .Ballot), .ty (Ty.st .Ballot), .ty (Ty.st .Ballot)] (.many [(Ty.st .Ballot), (Ty.st .Ballot)]) fun a => F_prepare_Join a.1 a.2.1 a.2.2.1, fnS (K := K) sa_prepare_Join 56 [.cell 6 (some 2), .cell 7 (some 2)] [k_ballots_Zero, k_ballots_Less, k_ballots_Compatible] (fk Tryz.f45 [] Tryz.func45)⟩

/-! ### trustquorum/trustquorumlaw25.sane -/
def sa_law25_sane : SA U :=
 (sr
 (op 0 (.mov (.cst (.bool false)))
 .nil)
 (sr
 (op 5 (.build [.int .i64 0, .str ⟨#[]⟩] [(0, 1, (ci 2)), (1, 1, (.cst (.str ⟨#[97]⟩)))])
 (op 6 (.build [.int .i64 0, .str ⟨#[]⟩] [])
 (op 7 (.build [.int .i64 0, .str ⟨#[]⟩] [(0, 1, (ci 3)), (1, 1, (.cst (.str ⟨#[98]⟩)))])
 (cl 8 45 [5, 6, 7]
 (mv 4 8
 (op 9 (.extr 0 (tm 4))
 (op 10 (.extr 1 (tm 4))
 (op 1 (.alloc [.int .i64 0, .str ⟨#[]⟩])
 (op 2 (.alloc [.int .i64 0, .str ⟨#[]⟩])
 (ops (.store 2 (tm 1) (tm 9))
 (ops (.store 2 (tm 2) (tm 10))
 .nil)))))))))))
 (sr
 (op 11 (.call 30 [(ci 2), (ci 1)])
 (op 12 (.call 47 [(ci 0), (tm 11), (.cst (.nils))])
 (op 3 (.alloc [.nils])
 (ops (.store 1 (tm 3) (tm 12))
 .nil))))
 (sr
 (ldk 13 2 1
 (op 14 (.build [.int .i64 0, .str ⟨#[]⟩] [(0, 1, (ci 3)), (1, 1, (.cst (.str ⟨#[98]⟩)))])
 (op 15 (.eq2 false (tm 13) (tm 14))
 (mv 16 15
 (.ite 16 true
 (opg 17 16 true (.load (some 2) (tm 2))
 (opg 18 16 true (.build [.int .i64 0, .str ⟨#[]⟩] [(0, 1, (ci 2)), (1, 1, (.cst (.str ⟨#[97]⟩)))])
 (opg 19 16 true (.eq2 false (tm 17) (tm 18))
 .nil)))
 20 none (tm 19) (.cst (.bool false))
 (mv 21 20
 (.ite 21 true
 (opg 22 21 true (.faddr 0 (tm 3))
 (opg 23 21 true (.load none (tm 22))
 (opg 24 21 true (.len false (tm 23))
 (opg 25 21 true (.bin .eql (tm 24) (ci 10))
 .nil))))
 26 none (tm 25) (.cst (.bool false))
 (mv 27 26
 (.ite 27 true
 (opg 28 27 true (.faddr 0 (tm 3))
 (opg 29 27 true (.load none (tm 28))
 (opg 30 27 true (.iaddr 4 (tm 29) (ci 0))
 (opg 31 27 true (.faddr 0 (tm 30))
 (opg 32 27 true (.load none (tm 31))
 .nil)))))
 33 none (tm 32) (.cst (.bool false))
 (mv 0 33
 .nil))))))))))
 .ret))))
noncomputable def F_law25_sane  : Option Bool :=
 Option.bind (F_prepare_Join (TBallot.mk (2 : Int) (ByteArray.mk #[97])) (TBallot.mk (0 : Int) (ByteArray.mk #[])) (TBallot.mk (3 : Int) (ByteArray.mk #[98]))) fun r1 =>
 Option.bind (F_play_Flat (2 : Int) (1 : Int)) fun r2 =>
 Option.bind (F_prepare_View (0 : Int) (TTrust.mk r2.Threshold r2.Nodes r2.Inner) ([] : List TEnvelope)) fun r3 =>
 Option.bind (bif (eq2 false r1.1.Counter (3 : Int) r1.1.Value (ByteArray.mk #[98])) then
 some (eq2 false r1.2.1.Counter (2 : Int) r1.2.1.Value (ByteArray.mk #[97]))
 else some false) fun b4 =>
 Option.bind (bif b4 then
 some (decide (((List.length r3.Members : Nat) : Int) = (10 : Int)))
 else some false) fun b5 =>
 Option.bind (bif b5 then
 Option.bind (idx r3.Members (0 : Int)) fun x6 =>
 some x6.Declared
 else some false) fun b7 =>
 some b7
noncomputable def k_law25_sane : KS U Tryz.prog := ⟨.fn 41 [] (.one Ty.bool) fun a => F_law25_sane , fnS (K := K) sa_law25_sane 34 [.tmp 0] [k_prepare_Join, k_play_Flat, k_prepare_View] (fk Tryz.f41 [] Tryz.func41)⟩

/-! ### trustquorum/trustquorumlaw25.thin -/
def sa_law25_thin : SA U :=
 (sr
 (op 1 (.box (tm 0))
 (op 2 (.mov (.cst (.bool false)))
 .nil))
 (.seq
 (sr
 (fa 5 1 1
 (ld 6 5
 (op 7 (.len false (tm 6))
 (op 8 (.bin .gtr (tm 7) (ci 12))
 (mv 9 8
 (.ite 9 false
 (opg 10 9 false (.faddr 2 (tm 1))
 (opg 11 9 false (.load none (tm 10))
 (opg 12 9 false (.len false (tm 11))
 (opg 13 9 false (.bin .gtr (tm 12) (ci 4))
 .nil))))
 14 none (.cst (.bool true)) (tm 13)
 .nil))))))
 (.cond (tm 14)
 (sr
 (op 2 (.mov (.cst (.bool false)))
 .nil)
 .ret)
 .skip))
 (.seq
 (sr
 (fa 15 2 1
 (ld 16 15
 (op 17 (.len false (tm 16))
 (mc 18 0
 .nil))))
 (.block 0
 (.loop ⟨[.val 18 (Ty.i .i64)], [16, 17]⟩
 (sr
 (op 19 (.bin .lss (tm 18) (tm 17))
 .nil)
 (.seq
 (.cond (tm 19)
 .skip
 (.exit 0))
 (.seq
 (.block 1
 (sr
 (ia 20 3 16 18
 (ldk 21 3 20
 (op 4 (.alloc [.int .i64 0, .nils, .nils])
 (ops (.store 3 (tm 4) (tm 21))
 .nil))))
 (sr
 (fa 22 1 4
 (ld 23 22
 (op 24 (.len false (tm 23))
 (op 25 (.bin .gtr (tm 24) (ci 12))
 (mv 26 25
 (.ite 26 false
 (opg 27 26 false (.faddr 2 (tm 4))
 (opg 28 26 false (.load none (tm 27))
 (opg 29 26 false (.len false (tm 28))
 (opg 30 26 false (.bin .gtr (tm 29) (ci 0))
 .nil))))
 31 none (.cst (.bool true)) (tm 30)
 .nil))))))
 (.cond (tm 31)
 (sr
 (op 2 (.mov (.cst (.bool false)))
 .nil)
 .ret)
 .skip))))
 (.reg
 (op 32 (.bin .add (tm 18) (ci 1))
 (mv 18 32
 .nil)))))))))
 (sr
 (op 2 (.mov (.cst (.bool true)))
 .nil)
 .ret))))
noncomputable def F_law25_thin (a0 : TTrust) : Option Bool :=
 Option.bind (bif (decide ((12 : Int) < ((List.length a0.Nodes : Nat) : Int))) then some true
 else
 some (decide ((4 : Int) < ((List.length a0.Inner : Nat) : Int)))) fun b1 =>
 bif b1 then
 some false
 else
 loopO (fun (v2 : Int × Unit) =>
 bif (decide (v2.1 < ((List.length a0.Inner : Nat) : Int))) then
 Option.bind (idx a0.Inner v2.1) fun x3 =>
 Option.bind (bif (decide ((12 : Int) < ((List.length x3.Nodes : Nat) : Int))) then some true
 else
 some (decide ((0 : Int) < ((List.length x3.Inner : Nat) : Int)))) fun b4 =>
 bif b4 then
 Option.map Sum.inr (some false)
 else
 some (Sum.inl ((addI .i64 v2.1 (1 : Int)), ()))
 else
 Option.map Sum.inr (some true)) ((0 : Int), ())
noncomputable def k_law25_thin : KS U Tryz.prog := ⟨.fn 43 [.ty (Ty.st .Trust)] (.one Ty.bool) fun a => F_law25_thin a.1, fnS (K := K) sa_law25_thin 33 [.tmp 2] [] (fk Tryz.f43 [] Tryz.func43)⟩

/-! ### trustquorum/trustquorumlaw25.few -/
def sa_law25_few : SA U :=
 (sr
 (op 2 (.mov (.cst (.bool false)))
 .nil)
 (.seq
 (sr
 (mv 5 0
 (op 6 (.len false (tm 5))
 (mc 7 0
 .nil)))
 (.block 0
 (.loop ⟨[.val 7 (Ty.i .i64)], [0, 5, 6]⟩
 (sr
 (op 8 (.bin .lss (tm 7) (tm 6))
 .nil)
 (.seq
 (.cond (tm 8)
 .skip
 (.exit 0))
 (.seq
 (.block 1
 (sr
 (ia 9 15 5 7
 (ldk 10 15 9
 (op 4 (.alloc [.int .i64 0, .int .i64 0, .int .i64 0, .int .i64 0, .nils, .nils, .int .i64 0, .int .i64 0, .str ⟨#[]⟩, .int .i64 0, .str ⟨#[]⟩, .int .i64 0, .str ⟨#[]⟩, .int .i64 0, .int .i64 0])
 (ops (.store 15 (tm 4) (tm 10))
 .nil))))
 (sr
 (fa 11 3 4
 (ldk 12 3 11
 (cl 13 43 [12]
 (op 14 (.not (tm 13))
 (mv 15 14
 (.ite 15 false
 (opg 16 15 false (.faddr 7 (tm 4))
 (opg 17 15 false (.faddr 1 (tm 16))
 (opg 18 15 false (.load none (tm 17))
 (opg 19 15 false (.len true (tm 18))
 (opg 20 15 false (.faddr 9 (tm 4))
 (opg 21 15 false (.faddr 1 (tm 20))
 (opg 22 15 false (.load none (tm 21))
 (opg 23 15 false (.len true (tm 22))
 (opg 24 15 false (.bin .add (tm 19) (tm 23))
 (opg 25 15 false (.faddr 11 (tm 4))
 (opg 26 15 false (.faddr 1 (tm 25))
 (opg 27 15 false (.load none (tm 26))
 (opg 28 15 false (.len true (tm 27))
 (opg 29 15 false (.bin .add (tm 24) (tm 28))
 (opg 30 15 false (.bin .gtr (tm 29) (ci 500))
 .nil)))))))))))))))
 31 none (.cst (.bool true)) (tm 30)
 .nil))))))
 (.cond (tm 31)
 (sr
 (op 2 (.mov (.cst (.bool false)))
 .nil)
 .ret)
 .skip))))
 (.reg
 (op 32 (.bin .add (tm 7) (ci 1))
 (mv 7 32
 .nil)))))))))
 (sr
 (mv 33 0
 (op 34 (.len false (tm 33))
 (op 35 (.bin .leq (tm 34) (ci 12))
 (mv 2 35
 .nil))))
 .ret)))
noncomputable def F_law25_few (a0 : (List TEnvelope)) : Option Bool :=
 loopO (fun (v1 : Int × Unit) =>
 bif (decide (v1.1 < ((List.length a0 : Nat) : Int))) then
 Option.bind (idx a0 v1.1) fun x2 =>
 Option.bind (F_law25_thin (TTrust.mk x2.Trust.Threshold x2.Trust.Nodes x2.Trust.Inner)) fun r3 =>
 Option.bind (bif (!r3) then some true
 else
 some (decide ((500 : Int) < (addI .i64 (addI .i64 ((ByteArray.size x2.Ballot.Value : Nat) : Int) ((ByteArray.size x2.Prepared.Value : Nat) : Int)) ((ByteArray.size x2.Prime.Value : Nat) : Int))))) fun b4 =>
 bif b4 then
 Option.map Sum.inr (some false)
 else
 some (Sum.inl ((addI .i64 v1.1 (1 : Int)), ()))
 else
 Option.map Sum.inr (some (decide (((List.length a0 : Nat) : Int) ≤ (12 : Int))))) ((0 : Int), ())
noncomputable def k_law25_few : KS U Tryz.prog := ⟨.fn 42 [.ty (Ty.sl (Ty.st .Envelope))] (.one Ty.bool) fun a => F_law25_few a.1, fnS (K := K) sa_law25_few 36 [.tmp 2] [k_law25_thin] (fk Tryz.f42 [] Tryz.func42)⟩

/-! ### (*trustquorum/trustquorumplay.Src).Pick -/
def sa_play_Src_Pick : SA U :=
 (sr
 (mc 4 0
 .nil)
 (sr
 (mv 5 1
 (mv 6 0
 (mv 7 1
 (op 8 (.len false (tm 7))
 (cl 9 22 [6, 8]
 (ia 10 1 5 9
 (ld 11 10
 (mv 4 11
 .nil))))))))
 .ret))
noncomputable def F_play_Src_Pick (s : TSrc) (a0 : (List Int)) : Option (Int × TSrc) :=
 Option.bind (F_play_Src_N s ((List.length a0 : Nat) : Int)) fun p1 =>
 Option.bind (idx a0 p1.1) fun x2 =>
 some (x2, p1.2)
noncomputable def k_play_Src_Pick : KS U Tryz.prog := ⟨.rc 113 0 (Ty.st .Src) [.ty (Ty.sl (Ty.i .i64))] (.one (Ty.i .i64)) fun s a => F_play_Src_Pick s a.1, rcS (K := K) sa_play_Src_Pick 12 [.tmp 4] [k_play_Src_N] (fk Tryz.f113 [] Tryz.func113)⟩

/-! ### (*trustquorum/trustquorumplay.Src).Ballot -/
def sa_play_Src_Ballot : SA U :=
 (sr
 (op 2 (.alloc [.int .i64 0, .str ⟨#[]⟩])
 .nil)
 (sr
 (mv 3 0
 (op 4 (.bsl false 3 1 (List.replicate 7 [.int .i64 0]) [(0, (ci 1)), (1, (ci 2)), (2, (ci 3)), (3, (ci 4)), (4, (ci 5)), (5, (ci 1000)), (6, (ci 1000000))])
 (cl 5 113 [3, 4]
 (mv 6 0
 (cl 7 24 [6]
 (op 8 (.build [.int .i64 0, .str ⟨#[]⟩] [(0, 1, (tm 5)), (1, 1, (tm 7))])
 (ops (.store 2 (tm 2) (tm 8))
 .nil)))))))
 .ret))
noncomputable def F_play_Src_Ballot (s : TSrc)  : Option (TBallot × TSrc) :=
 Option.bind (F_play_Src_Pick s [(1 : Int), (2 : Int), (3 : Int), (4 : Int), (5 : Int), (1000 : Int), (1000000 : Int)]) fun p1 =>
 Option.bind (F_play_Src_Value p1.2) fun p2 =>
 some ((TBallot.mk p1.1 p2.1), p2.2)
noncomputable def k_play_Src_Ballot : KS U Tryz.prog := ⟨.rc 44 0 (Ty.st .Src) [] (.one (Ty.st .Ballot)) fun s a => F_play_Src_Ballot s , rcS (K := K) sa_play_Src_Ballot 9 [.cell 2 (some 2)] [k_play_Src_Pick, k_play_Src_Value] (fk Tryz.f44 [] Tryz.func44)⟩

/-! ### trustquorum/trustquorumref25.View -/
def sa_ref25_View : SA U :=
 (sr
 (op 4 (.box (tm 1))
 (op 6 (.alloc [.nils])
 .nil))
 (sr
 (op 10 (.mks 126 4 64 [.bool false, .int .i64 0, .nils, .nils] (ci 10) (ci 10))
 (op 11 (.build [.nils] [(0, 1, (tm 10))])
 (op 7 (.alloc [.nils])
 (ops (.store 1 (tm 7) (tm 11))
 .nil))))
 (.seq
 (sr
 (mv 12 0
 (op 13 (.bin .lss (tm 12) (ci 0))
 (mv 14 13
 (.ite 14 false
 (opg 15 14 false (.mov (tm 0))
 (opg 16 14 false (.bin .gtr (tm 15) (ci 9))
 .nil))
 17 none (.cst (.bool true)) (tm 16)
 .nil))))
 (.cond (tm 17)
 (sr
 (ldk 18 1 7
 (ops (.store 1 (tm 6) (tm 18))
 .nil))
 .ret)
 .skip))
 (sr
 (fa 19 0 7
 (ld 20 19
 (mv 21 0
 (ldk 22 3 4
 (op 23 (.build [.bool false, .int .i64 0, .nils, .nils] [(0, 1, (.cst (.bool true))), (1, 3, (tm 22))])
 (ia 24 4 20 21
 (ops (.store 4 (tm 24) (tm 23))
 .nil)))))))
 (.seq
 (sr
 (mv 25 2
 (op 26 (.len false (tm 25))
 (mc 27 0
 .nil)))
 (.block 0
 (.loop ⟨[.val 27 (Ty.i .i64), .box 4 1 (Ty.st .Config) [(0, 2, 1)], .rowb 2 1 126 4 (Ty.st .Member)], [6, 7, 25, 26]⟩
 (sr
 (op 28 (.bin .lss (tm 27) (tm 26))
 .nil)
 (.seq
 (.cond (tm 28)
 .skip
 (.exit 0))
 (.join ⟨[.box 4 1 (Ty.st .Config) [(0, 2, 1)], .rowb 2 1 126 4 (Ty.st .Member)], [6, 7, 25, 26, 27]⟩
 (.block 1
 (sr
 (ia 29 15 25 27
 (ldk 30 15 29
 (op 9 (.alloc [.int .i64 0, .int .i64 0, .int .i64 0, .int .i64 0, .nils, .nils, .int .i64 0, .int .i64 0, .str ⟨#[]⟩, .int .i64 0, .str ⟨#[]⟩, .int .i64 0, .str ⟨#[]⟩, .int .i64 0, .int .i64 0])
 (ops (.store 15 (tm 9) (tm 30))
 .nil))))
 (sr
 (ldk 31 15 9
 (cl 32 76 [31]
 (mv 33 32
 (.ite 33 true
 (opg 34 33 true (.faddr 0 (tm 7))
 (opg 35 33 true (.load none (tm 34))
 (opg 36 33 true (.faddr 0 (tm 9))
 (opg 37 33 true (.load none (tm 36))
 (opg 38 33 true (.iaddr 4 (tm 35) (tm 37))
 (opg 39 33 true (.faddr 0 (tm 38))
 (opg 40 33 true (.load none (tm 39))
 (opg 41 33 true (.not (tm 40))
 .nil))))))))
 42 none (tm 41) (.cst (.bool false))
 .nil))))
 (.cond (tm 42)
 (.reg
 (fa 43 0 7
 (ld 44 43
 (fa 45 0 9
 (ld 46 45
 (fa 47 3 9
 (ldk 48 3 47
 (op 49 (.build [.bool false, .int .i64 0, .nils, .nils] [(0, 1, (.cst (.bool true))), (1, 3, (tm 48))])
 (ia 50 4 44 46
 (ops (.store 4 (tm 50) (tm 49))
 .nil))))))))))
 .skip))))
 (.reg
 (op 51 (.bin .add (tm 27) (ci 1))
 (mv 27 51
 .nil)))))))))
 (sr
 (ldk 52 1 7
 (ops (.store 1 (tm 6) (tm 52))
 .nil))
 .ret))))))
noncomputable def F_ref25_View (a0 : Int) (a1 : TTrust) (a2 : (List TEnvelope)) : Option TConfig :=
 bif decide ((10 : Int) = (10 : Int)) && decide (0 ≤ (10 : Int)) && lenOk 64 (Int.toNat (10 : Int)) then
 Option.bind (bif (decide (a0 < (0 : Int))) then some true
 else
 some (decide ((9 : Int) < a0))) fun b1 =>
 bif b1 then
 some (TConfig.mk (List.replicate (Int.toNat (10 : Int)) (TMember.mk false (TTrust.mk (0 : Int) ([] : List Int) ([] : List TTrust)))))
 else
 Option.bind (idx (List.replicate (Int.toNat (10 : Int)) (TMember.mk false (TTrust.mk (0 : Int) ([] : List Int) ([] : List TTrust)))) a0) fun x2 =>
 Option.bind ((List.replicate (Int.toNat (10 : Int)) (TMember.mk false (TTrust.mk (0 : Int) ([] : List Int) ([] : List TTrust))))[(Int.toNat a0)]?) fun x3 =>
 loopO (fun (v4 : Int × TConfig × (List TMember) × Unit) =>
 bif (decide (v4.1 < ((List.length a2 : Nat) : Int))) then
 letJ (fun (v5 : TConfig × (List TMember) × Unit) =>
 some (Sum.inl ((addI .i64 v4.1 (1 : Int)), (TConfig.mk ([] : List TMember)), v5.2.1, ()))) fun j6 =>
 Option.bind (idx a2 v4.1) fun x7 =>
 Option.bind (F_ref24_Valid (TEnvelope.mk x7.Node x7.Slot x7.Seq (TTrust.mk x7.Trust.Threshold x7.Trust.Nodes x7.Trust.Inner) x7.Kind x7.Ballot x7.Prepared x7.Prime x7.Low x7.High)) fun r8 =>
 Option.bind (bif r8 then
 Option.bind (idx v4.2.2.1 x7.Node) fun x9 =>
 Option.bind (v4.2.2.1[(Int.toNat x7.Node)]?) fun x10 =>
 Option.bind (v4.2.2.1[(Int.toNat x7.Node)]?) fun x11 =>
 some (!x11.Declared)
 else some false) fun b12 =>
 bif b12 then
 Option.bind (idx v4.2.2.1 x7.Node) fun x13 =>
 Option.bind (v4.2.2.1[(Int.toNat x7.Node)]?) fun x14 =>
 j6 ((TConfig.mk ([] : List TMember)), (v4.2.2.1.set (Int.toNat x7.Node) (TMember.mk true (TTrust.mk x7.Trust.Threshold x7.Trust.Nodes x7.Trust.Inner))), ())
 else
 j6 ((TConfig.mk ([] : List TMember)), v4.2.2.1, ())
 else
 Option.map Sum.inr (some (TConfig.mk v4.2.2.1))) ((0 : Int), (TConfig.mk ([] : List TMember)), ((List.replicate (Int.toNat (10 : Int)) (TMember.mk false (TTrust.mk (0 : Int) ([] : List Int) ([] : List TTrust)))).set (Int.toNat a0) (TMember.mk true (TTrust.mk a1.Threshold a1.Nodes a1.Inner))), ())
 else none
noncomputable def k_ref25_View : KS U Tryz.prog := ⟨.fn 48 [.ty (Ty.i .i64), .ty (Ty.st .Trust), .ty (Ty.sl (Ty.st .Envelope))] (.one (Ty.st .Config)) fun a => F_ref25_View a.1 a.2.1 a.2.2.1, fnS (K := K) sa_ref25_View 53 [.cell 6 (some 1)] [k_ref24_Valid] (fk Tryz.f48 [] Tryz.func48)⟩

/-! ### trustquorum/trustquorumref01.Same -/
def sa_ref01_Same : SA U :=
 (sr
 (op 4 (.mov (.cst (.bool false)))
 .nil)
 (.seq
 (sr
 (mv 6 0
 (op 7 (.len false (tm 6))
 (mv 8 1
 (op 9 (.len false (tm 8))
 (op 10 (.bin .neq (tm 7) (tm 9))
 .nil)))))
 (.cond (tm 10)
 (sr
 (op 4 (.mov (.cst (.bool false)))
 .nil)
 .ret)
 .skip))
 (.seq
 (sr
 (mv 11 0
 (op 12 (.len false (tm 11))
 (mc 13 0
 .nil)))
 (.block 0
 (.loop ⟨[.val 13 (Ty.i .i64)], [0, 1, 12]⟩
 (sr
 (op 14 (.bin .lss (tm 13) (tm 12))
 .nil)
 (.seq
 (.cond (tm 14)
 .skip
 (.exit 0))
 (.seq
 (.block 1
 (sr
 (mv 15 13
 (mv 5 15
 .nil))
 (.seq
 (.drw [(2, 6), (3, 6), (2, 7), (3, 7)]
 (mv 16 0
 (mv 17 5
 (ia 18 1 16 17
 (ld 19 18
 (mv 20 1
 (mv 21 5
 (ia 22 1 20 21
 (ld 23 22
 (op 24 (.bin .neq (tm 19) (tm 23))
 .nil))))))))))
 (.cond (tm 24)
 (sr
 (op 4 (.mov (.cst (.bool false)))
 .nil)
 .ret)
 .skip))))
 (.reg
 (op 25 (.bin .add (tm 13) (ci 1))
 (mv 13 25
 .nil)))))))))
 (sr
 (op 4 (.mov (.cst (.bool true)))
 .nil)
 .ret))))
noncomputable def F_ref01_Same (a0 : (List Int)) (a1 : (List Int)) : Option Bool :=
 bif (!decide (((List.length a0 : Nat) : Int) = ((List.length a1 : Nat) : Int))) then
 some false
 else
 loopO (fun (v1 : Int × Unit) =>
 bif (decide (v1.1 < ((List.length a0 : Nat) : Int))) then
 Option.bind (idx a0 v1.1) fun x2 =>
 Option.bind (idx a1 v1.1) fun x3 =>
 bif (!decide (x2 = x3)) then
 Option.map Sum.inr (some false)
 else
 some (Sum.inl ((addI .i64 v1.1 (1 : Int)), ()))
 else
 Option.map Sum.inr (some true)) ((0 : Int), ())
noncomputable def k_ref01_Same : KS U Tryz.prog := ⟨.fn 190 [.ty (Ty.sl (Ty.i .i64)), .ty (Ty.sl (Ty.i .i64))] (.one Ty.bool) fun a => F_ref01_Same a.1 a.2.1, fnS (K := K) sa_ref01_Same 26 [.tmp 4] [] (fk Tryz.f190 [] Tryz.func190)⟩

/-! ### trustquorum/trustquorumref02.Same -/
def sa_ref02_Same : SA U :=
 (sr
 (op 2 (.box (tm 0))
 (op 3 (.box (tm 1))
 (op 4 (.mov (.cst (.bool false)))
 .nil)))
 (.seq
 (sr
 (fa 6 0 2
 (ld 7 6
 (fa 8 0 3
 (ld 9 8
 (op 10 (.bin .neq (tm 7) (tm 9))
 (mv 11 10
 (.ite 11 false
 (opg 12 11 false (.faddr 1 (tm 2))
 (opg 13 11 false (.load none (tm 12))
 (opg 14 11 false (.faddr 1 (tm 3))
 (opg 15 11 false (.load none (tm 14))
 (opg 16 11 false (.call 190 [(tm 13), (tm 15)])
 (opg 17 11 false (.not (tm 16))
 .nil))))))
 18 none (.cst (.bool true)) (tm 17)
 (mv 19 18
 (.ite 19 false
 (opg 20 19 false (.faddr 2 (tm 2))
 (opg 21 19 false (.load none (tm 20))
 (opg 22 19 false (.len false (tm 21))
 (opg 23 19 false (.faddr 2 (tm 3))
 (opg 24 19 false (.load none (tm 23))
 (opg 25 19 false (.len false (tm 24))
 (opg 26 19 false (.bin .neq (tm 22) (tm 25))
 .nil)))))))
 27 none (.cst (.bool true)) (tm 26)
 .nil)))))))))
 (.cond (tm 27)
 (sr
 (op 4 (.mov (.cst (.bool false)))
 .nil)
 .ret)
 .skip))
 (.seq
 (sr
 (fa 28 2 2
 (ld 29 28
 (op 30 (.len false (tm 29))
 (mc 31 0
 .nil))))
 (.block 0
 (.loop ⟨[.val 31 (Ty.i .i64)], [2, 3, 30]⟩
 (sr
 (op 32 (.bin .lss (tm 31) (tm 30))
 .nil)
 (.seq
 (.cond (tm 32)
 .skip
 (.exit 0))
 (.seq
 (.block 1
 (sr
 (mv 33 31
 (mv 5 33
 .nil))
 (.seq
 (.drw [(0, 5), (1, 5), (3, 5), (4, 5), (0, 6), (1, 6), (3, 6), (4, 6), (0, 8), (1, 8), (3, 8), (4, 8), (0, 9), (1, 9), (3, 9), (4, 9)]
 (fa 34 2 2
 (ld 35 34
 (mv 36 5
 (ia 37 3 35 36
 (ldk 38 3 37
 (fa 39 2 3
 (ld 40 39
 (mv 41 5
 (ia 42 3 40 41
 (ldk 43 3 42
 (cl 44 165 [38, 43]
 (op 45 (.not (tm 44))
 .nil)))))))))))))
 (.cond (tm 45)
 (sr
 (op 4 (.mov (.cst (.bool false)))
 .nil)
 .ret)
 .skip))))
 (.reg
 (op 46 (.bin .add (tm 31) (ci 1))
 (mv 31 46
 .nil)))))))))
 (sr
 (op 4 (.mov (.cst (.bool true)))
 .nil)
 .ret))))
noncomputable def B_ref02_Same (rec : (TTrust × TTrust × Unit) → Option Bool) (a0 : TTrust) (a1 : TTrust) : Option Bool :=
 Option.bind (bif (!decide (a0.Threshold = a1.Threshold)) then some true
 else
 Option.bind (F_ref01_Same a0.Nodes a1.Nodes) fun r1 =>
 some (!r1)) fun b2 =>
 Option.bind (bif b2 then some true
 else
 some (!decide (((List.length a0.Inner : Nat) : Int) = ((List.length a1.Inner : Nat) : Int)))) fun b3 =>
 bif b3 then
 some false
 else
 loopO (fun (v4 : Int × Unit) =>
 bif (decide (v4.1 < ((List.length a0.Inner : Nat) : Int))) then
 Option.bind (idx a0.Inner v4.1) fun x5 =>
 Option.bind (idx a1.Inner v4.1) fun x6 =>
 Option.bind (rec ((TTrust.mk x5.Threshold x5.Nodes x5.Inner), (TTrust.mk x6.Threshold x6.Nodes x6.Inner), ())) fun r7 =>
 bif (!r7) then
 Option.map Sum.inr (some false)
 else
 some (Sum.inl ((addI .i64 v4.1 (1 : Int)), ()))
 else
 Option.map Sum.inr (some true)) ((0 : Int), ())
noncomputable def I_ref02_Same : Nat → (TTrust × TTrust × Unit) → Option Bool := iterF (fun rec a => B_ref02_Same rec a.1 a.2.1)
noncomputable def F_ref02_Same (a0 : TTrust) (a1 : TTrust) : Option Bool := I_ref02_Same (SizeOf.sizeOf a0 + SizeOf.sizeOf a1 + 1) (a0, a1, ())
noncomputable def k_ref02_Same : KS U Tryz.prog := ⟨.fn 165 [.ty (Ty.st .Trust), .ty (Ty.st .Trust)] (.one Ty.bool) fun a => F_ref02_Same a.1 a.2.1, fnRS (K := K) («as» := [.ty (Ty.st .Trust), .ty (Ty.st .Trust)]) (r := .one Ty.bool) (B := fun rec a => B_ref02_Same rec a.1 a.2.1) sa_ref02_Same 47 [.tmp 4] [k_ref01_Same] (fk Tryz.f165 [] Tryz.func165) (hF := fun a => ⟨_, rfl⟩)⟩

/-! ### trustquorum/trustquorumref06.Same -/
def sa_ref06_Same : SA U :=
 (sr
 (op 2 (.box (tm 0))
 (op 3 (.box (tm 1))
 (op 4 (.mov (.cst (.bool false)))
 .nil)))
 (.seq
 (sr
 (fa 6 0 2
 (ld 7 6
 (op 8 (.len false (tm 7))
 (fa 9 0 3
 (ld 10 9
 (op 11 (.len false (tm 10))
 (op 12 (.bin .neq (tm 8) (tm 11))
 .nil)))))))
 (.cond (tm 12)
 (sr
 (op 4 (.mov (.cst (.bool false)))
 .nil)
 .ret)
 .skip))
 (.seq
 (sr
 (fa 13 0 2
 (ld 14 13
 (op 15 (.len false (tm 14))
 (mc 16 0
 .nil))))
 (.block 0
 (.loop ⟨[.val 16 (Ty.i .i64)], [2, 3, 15]⟩
 (sr
 (op 17 (.bin .lss (tm 16) (tm 15))
 .nil)
 (.seq
 (.cond (tm 17)
 .skip
 (.exit 0))
 (.seq
 (.block 1
 (sr
 (mv 18 16
 (mv 5 18
 .nil))
 (.join ⟨[.val 47 Ty.bool], [2, 3, 15, 16]⟩
 (.drw [(0, 6), (1, 6), (3, 6), (4, 6), (5, 6), (0, 7), (1, 7), (3, 7), (4, 7), (5, 7), (0, 9), (1, 9), (3, 9), (4, 9), (5, 9), (0, 10), (1, 10), (3, 10), (4, 10), (5, 10), (0, 11), (1, 11), (3, 11), (4, 11), (5, 11), (14, 20), (15, 20), (17, 20), (18, 20), (19, 20), (14, 21), (15, 21), (17, 21), (18, 21), (19, 21), (14, 23), (15, 23), (17, 23), (18, 23), (19, 23), (14, 24), (15, 24), (17, 24), (18, 24), (19, 24), (14, 25), (15, 25), (17, 25), (18, 25), (19, 25)]
 (fa 19 0 2
 (ld 20 19
 (mv 21 5
 (ia 22 4 20 21
 (fa 23 0 22
 (ld 24 23
 (fa 25 0 3
 (ld 26 25
 (mv 27 5
 (ia 28 4 26 27
 (fa 29 0 28
 (ld 30 29
 (op 31 (.eqb true (tm 24) (tm 30))
 (mv 32 31
 (.spl 32
 (opg 33 32 false (.faddr 0 (tm 2))
 (opg 34 32 false (.load none (tm 33))
 (opg 35 32 false (.mov (tm 5))
 (opg 36 32 false (.iaddr 4 (tm 34) (tm 35))
 (opg 37 32 false (.faddr 1 (tm 36))
 (opg 38 32 false (.load (some 3) (tm 37))
 (opg 39 32 false (.faddr 0 (tm 3))
 (opg 40 32 false (.load none (tm 39))
 (opg 41 32 false (.mov (tm 5))
 (opg 42 32 false (.iaddr 4 (tm 40) (tm 41))
 (opg 43 32 false (.faddr 1 (tm 42))
 (opg 44 32 false (.load (some 3) (tm 43))
 (opg 45 32 false (.call 165 [(tm 38), (tm 44)])
 (opg 46 32 false (.not (tm 45))
 (op 47 (.pick (tm 32) (.cst (.bool true)) (tm 46))
 .nil)))))))))))))))))))))))))))))))
 (.cond (tm 47)
 (sr
 (op 4 (.mov (.cst (.bool false)))
 .nil)
 .ret)
 .skip))))
 (.reg
 (op 48 (.bin .add (tm 16) (ci 1))
 (mv 16 48
 .nil)))))))))
 (sr
 (op 4 (.mov (.cst (.bool true)))
 .nil)
 .ret))))
noncomputable def F_ref06_Same (a0 : TConfig) (a1 : TConfig) : Option Bool :=
 bif (!decide (((List.length a0.Members : Nat) : Int) = ((List.length a1.Members : Nat) : Int))) then
 some false
 else
 loopO (fun (v1 : Int × Unit) =>
 bif (decide (v1.1 < ((List.length a0.Members : Nat) : Int))) then
 letJ (fun (v2 : Bool × Unit) =>
 bif v2.1 then
 Option.map Sum.inr (some false)
 else
 some (Sum.inl ((addI .i64 v1.1 (1 : Int)), ()))) fun j3 =>
 Option.bind (idx a0.Members v1.1) fun x4 =>
 Option.bind (idx a1.Members v1.1) fun x5 =>
 bif (xor true (decide (x4.Declared = x5.Declared))) then
 j3 (true, ())
 else
 Option.bind (idx a0.Members v1.1) fun x6 =>
 Option.bind (idx a1.Members v1.1) fun x7 =>
 Option.bind (F_ref02_Same (TTrust.mk x6.Trust.Threshold x6.Trust.Nodes x6.Trust.Inner) (TTrust.mk x7.Trust.Threshold x7.Trust.Nodes x7.Trust.Inner)) fun r8 =>
 j3 ((!r8), ())
 else
 Option.map Sum.inr (some true)) ((0 : Int), ())
noncomputable def k_ref06_Same : KS U Tryz.prog := ⟨.fn 115 [.ty (Ty.st .Config), .ty (Ty.st .Config)] (.one Ty.bool) fun a => F_ref06_Same a.1 a.2.1, fnS (K := K) sa_ref06_Same 49 [.tmp 4] [k_ref02_Same] (fk Tryz.f115 [] Tryz.func115)⟩

/-! ### trustquorum/trustquorumlaw25.same -/
def sa_law25_same : SA U :=
 (sr
 (op 2 (.box (tm 0))
 (op 3 (.box (tm 1))
 (op 4 (.mov (.cst (.bool false)))
 .nil)))
 (sr
 (ldk 5 1 2
 (ldk 6 1 3
 (cl 7 115 [5, 6]
 (mv 4 7
 .nil))))
 .ret))
noncomputable def F_law25_same (a0 : TConfig) (a1 : TConfig) : Option Bool :=
 Option.bind (F_ref06_Same a0 a1) fun r1 =>
 some r1
noncomputable def k_law25_same : KS U Tryz.prog := ⟨.fn 46 [.ty (Ty.st .Config), .ty (Ty.st .Config)] (.one Ty.bool) fun a => F_law25_same a.1 a.2.1, fnS (K := K) sa_law25_same 8 [.tmp 4] [k_ref06_Same] (fk Tryz.f46 [] Tryz.func46)⟩

/-! ### trustquorum/trustquorumref24.VotesPrepare -/
def sa_ref24_VotesPrepare : SA U :=
 (sr
 (op 2 (.box (tm 0))
 (op 3 (.box (tm 1))
 (op 4 (.mov (.cst (.bool false)))
 .nil)))
 (.seq
 (sr
 (ldk 5 15 2
 (cl 6 76 [5]
 (op 7 (.not (tm 6))
 (mv 8 7
 (.ite 8 false
 (opg 9 8 false (.load (some 2) (tm 3))
 (opg 10 8 false (.call 39 [(tm 9)])
 .nil))
 11 none (.cst (.bool true)) (tm 10)
 .nil)))))
 (.cond (tm 11)
 (sr
 (op 4 (.mov (.cst (.bool false)))
 .nil)
 .ret)
 .skip))
 (.seq
 (sr
 (fa 12 6 2
 (ld 13 12
 (op 14 (.bin .eql (tm 13) (ci 1))
 .nil)))
 (.cond (tm 14)
 (sr
 (fa 15 7 2
 (ldk 16 2 15
 (ldk 17 2 3
 (cl 18 112 [16, 17]
 (mv 4 18
 .nil)))))
 .ret)
 .skip))
 (sr
 (fa 19 7 2
 (ldk 20 2 19
 (ldk 21 2 3
 (cl 22 106 [20, 21]
 (mv 4 22
 .nil)))))
 .ret))))
noncomputable def F_ref24_VotesPrepare (a0 : TEnvelope) (a1 : TBallot) : Option Bool :=
 Option.bind (F_ref24_Valid (TEnvelope.mk a0.Node a0.Slot a0.Seq (TTrust.mk a0.Trust.Threshold a0.Trust.Nodes a0.Trust.Inner) a0.Kind a0.Ballot a0.Prepared a0.Prime a0.Low a0.High)) fun r1 =>
 Option.bind (bif (!r1) then some true
 else
 Option.bind (F_ref23_Zero a1) fun r2 =>
 some r2) fun b3 =>
 bif b3 then
 some false
 else
 bif (decide (a0.Kind = (1 : Int))) then
 Option.bind (F_ref23_Covers a0.Ballot a1) fun r4 =>
 some r4
 else
 Option.bind (F_ref23_Compatible a0.Ballot a1) fun r5 =>
 some r5
noncomputable def k_ref24_VotesPrepare : KS U Tryz.prog := ⟨.fn 79 [.ty (Ty.st .Envelope), .ty (Ty.st .Ballot)] (.one Ty.bool) fun a => F_ref24_VotesPrepare a.1 a.2.1, fnS (K := K) sa_ref24_VotesPrepare 23 [.tmp 4] [k_ref24_Valid, k_ref23_Zero, k_ref23_Covers, k_ref23_Compatible] (fk Tryz.f79 [] Tryz.func79)⟩

/-! ### trustquorum/trustquorumref24.Set -/
def sa_ref24_Set : SA U :=
 (sr
 (mc 4 0
 .nil)
 (sr
 (mc 5 0
 .nil)
 (.seq
 (sr
 (mv 8 0
 (op 9 (.len false (tm 8))
 (mc 10 0
 .nil)))
 (.block 0
 (.loop ⟨[.val 5 (Ty.i .i64), .val 10 (Ty.i .i64)], [1, 8, 9]⟩
 (sr
 (op 11 (.bin .lss (tm 10) (tm 9))
 .nil)
 (.seq
 (.cond (tm 11)
 .skip
 (.exit 0))
 (.join ⟨[.val 5 (Ty.i .i64)], [1, 8, 9, 10]⟩
 (.block 1
 (sr
 (mv 12 10
 (ia 13 15 8 10
 (ldk 14 15 13
 (op 7 (.alloc [.int .i64 0, .int .i64 0, .int .i64 0, .int .i64 0, .nils, .nils, .int .i64 0, .int .i64 0, .str ⟨#[]⟩, .int .i64 0, .str ⟨#[]⟩, .int .i64 0, .str ⟨#[]⟩, .int .i64 0, .int .i64 0])
 (mv 6 12
 (ops (.store 15 (tm 7) (tm 14))
 .nil))))))
 (sr
 (mv 15 6
 (mv 16 1
 (op 17 (.len false (tm 16))
 (op 18 (.bin .lss (tm 15) (tm 17))
 (mv 19 18
 (.ite 19 true
 (opg 20 19 true (.mov (tm 1))
 (opg 21 19 true (.mov (tm 6))
 (opg 22 19 true (.iaddr 1 (tm 20) (tm 21))
 (opg 23 19 true (.load none (tm 22))
 .nil))))
 24 none (tm 23) (.cst (.bool false))
 (mv 25 24
 (.ite 25 true
 (opg 26 25 true (.faddr 0 (tm 7))
 (opg 27 25 true (.load none (tm 26))
 (opg 28 25 true (.bin .geq (tm 27) (ci 0))
 .nil)))
 29 none (tm 28) (.cst (.bool false))
 (mv 30 29
 (.ite 30 true
 (opg 31 30 true (.faddr 0 (tm 7))
 (opg 32 30 true (.load none (tm 31))
 (opg 33 30 true (.bin .leq (tm 32) (ci 9))
 .nil)))
 34 none (tm 33) (.cst (.bool false))
 .nil))))))))))
 (.cond (tm 34)
 (.reg
 (mv 35 5
 (fa 36 0 7
 (ld 37 36
 (op 38 (.conv .u64 (tm 37))
 (op 39 (.bin .shl (ci 1) (tm 38))
 (op 40 (.bin .or (tm 35) (tm 39))
 (mv 5 40
 .nil))))))))
 .skip))))
 (.reg
 (op 41 (.bin .add (tm 10) (ci 1))
 (mv 10 41
 .nil)))))))))
 (sr
 (mv 42 5
 (mv 4 42
 .nil))
 .ret))))
noncomputable def F_ref24_Set (a0 : (List TEnvelope)) (a1 : (List Bool)) : Option Int :=
 loopO (fun (v1 : Int × Int × Unit) =>
 bif (decide (v1.2.1 < ((List.length a0 : Nat) : Int))) then
 letJ (fun (v2 : Int × Unit) =>
 some (Sum.inl (v2.1, (addI .i64 v1.2.1 (1 : Int)), ()))) fun j3 =>
 Option.bind (idx a0 v1.2.1) fun x4 =>
 Option.bind (bif (decide (v1.2.1 < ((List.length a1 : Nat) : Int))) then
 Option.bind (idx a1 v1.2.1) fun x5 =>
 some x5
 else some false) fun b6 =>
 Option.bind (bif b6 then
 some (decide ((0 : Int) ≤ x4.Node))
 else some false) fun b7 =>
 Option.bind (bif b7 then
 some (decide (x4.Node ≤ (9 : Int)))
 else some false) fun b8 =>
 bif b8 then
 if (convI .u64 x4.Node) < 0 then none else
 j3 ((orI .i64 v1.1 (shlI .i64 (1 : Int) (convI .u64 x4.Node))), ())
 else
 j3 (v1.1, ())
 else
 Option.map Sum.inr (some v1.1)) ((0 : Int), (0 : Int), ())
noncomputable def k_ref24_Set : KS U Tryz.prog := ⟨.fn 67 [.ty (Ty.sl (Ty.st .Envelope)), .ty (Ty.sl Ty.bool)] (.one (Ty.i .i64)) fun a => F_ref24_Set a.1 a.2.1, fnS (K := K) sa_ref24_Set 43 [.tmp 4] [] (fk Tryz.f67 [] Tryz.func67)⟩

/-! ### trustquorum/trustquorumref25.sets -/
def sa_ref25_sets : SA U :=
 (sr
 (op 3 (.box (tm 1))
 (mc 4 0
 (mc 5 0
 .nil)))
 (sr
 (op 6 (.mov (.cst (.nils)))
 (op 7 (.mov (.cst (.nils)))
 .nil))
 (.seq
 (sr
 (mv 11 0
 (op 12 (.len false (tm 11))
 (mc 13 0
 .nil)))
 (.block 0
 (.ps (.own 6 4 1 Ty.bool)
 (.ps (.own 7 4 1 Ty.bool)
 (.loop ⟨[.val 13 (Ty.i .i64), .own 6 8 1 4 1 Ty.bool, .own 7 9 1 4 1 Ty.bool], [0, 3, 11, 12]⟩
 (sr
 (op 14 (.bin .lss (tm 13) (tm 12))
 .nil)
 (.seq
 (.cond (tm 14)
 .skip
 (.exit 0))
 (.seq
 (.block 1
 (sr
 (ia 15 15 11 13
 (ldk 16 15 15
 (op 9 (.alloc [.int .i64 0, .int .i64 0, .int .i64 0, .int .i64 0, .nils, .nils, .int .i64 0, .int .i64 0, .str ⟨#[]⟩, .int .i64 0, .str ⟨#[]⟩, .int .i64 0, .str ⟨#[]⟩, .int .i64 0, .int .i64 0])
 (ops (.store 15 (tm 9) (tm 16))
 .nil))))
 (sr
 (ldk 17 15 9
 (ldk 18 2 3
 (cl 19 34 [17, 18]
 (mv 10 19
 .nil))))
 (.reg
 (mv 20 6
 (mv 21 10
 (mv 22 21
 (.ite 22 false
 (opg 23 22 false (.load (some 15) (tm 9))
 (opg 24 22 false (.load (some 2) (tm 3))
 (opg 25 22 false (.call 79 [(tm 23), (tm 24)])
 .nil)))
 26 none (.cst (.bool true)) (tm 25)
 (op 27 (.bsl false 4 1 (List.replicate 1 [.bool false]) [(0, (tm 26))])
 (op 28 (.app 4 1 1 (tm 20) (tm 27))
 (mv 29 7
 (mv 30 10
 (op 31 (.bsl false 4 1 (List.replicate 1 [.bool false]) [(0, (tm 30))])
 (op 32 (.app 4 1 1 (tm 29) (tm 31))
 (mv 6 28
 (mv 7 32
 .nil))))))))))))))))
 (.reg
 (op 33 (.bin .add (tm 13) (ci 1))
 (mv 13 33
 .nil)))))))))))
 (sr
 (mv 34 0
 (mv 35 6
 (cl 36 67 [34, 35]
 (mv 37 0
 (mv 38 7
 (cl 39 67 [37, 38]
 (mv 4 36
 (mv 5 39
 .nil))))))))
 .ret))))
noncomputable def F_ref25_sets (a0 : (List TEnvelope)) (a1 : TBallot) : Option (Int × Int × Unit) :=
 loopO (fun (v1 : Int × (List Bool) × (List Bool) × Unit) =>
 bif (decide (v1.1 < ((List.length a0 : Nat) : Int))) then
 Option.bind (idx a0 v1.1) fun x2 =>
 Option.bind (F_ref24_AcceptsPrepare (TEnvelope.mk x2.Node x2.Slot x2.Seq (TTrust.mk x2.Trust.Threshold x2.Trust.Nodes x2.Trust.Inner) x2.Kind x2.Ballot x2.Prepared x2.Prime x2.Low x2.High) a1) fun r3 =>
 Option.bind (bif r3 then some true
 else
 Option.bind (F_ref24_VotesPrepare (TEnvelope.mk x2.Node x2.Slot x2.Seq (TTrust.mk x2.Trust.Threshold x2.Trust.Nodes x2.Trust.Inner) x2.Kind x2.Ballot x2.Prepared x2.Prime x2.Low x2.High) a1) fun r4 =>
 some r4) fun b5 =>
 bif lenOk 1 (List.length v1.2.1 + List.length [b5]) then
 bif lenOk 1 (List.length v1.2.2.1 + List.length [r3]) then
 some (Sum.inl ((addI .i64 v1.1 (1 : Int)), (v1.2.1 ++ [b5]), (v1.2.2.1 ++ [r3]), ()))
 else none
 else none
 else
 Option.map Sum.inr (Option.bind (F_ref24_Set a0 v1.2.1) fun r6 =>
 Option.bind (F_ref24_Set a0 v1.2.2.1) fun r7 =>
 some (r6, r7, ()))) ((0 : Int), ([] : List Bool), ([] : List Bool), ())
noncomputable def k_ref25_sets : KS U Tryz.prog := ⟨.fn 117 [.ty (Ty.sl (Ty.st .Envelope)), .ty (Ty.st .Ballot)] (.many [(Ty.i .i64), (Ty.i .i64)]) fun a => F_ref25_sets a.1 a.2.1, fnS (K := K) sa_ref25_sets 40 [.tmp 4, .tmp 5] [k_ref24_AcceptsPrepare, k_ref24_VotesPrepare, k_ref24_Set] (fk Tryz.f117 [] Tryz.func117)⟩

/-! ### trustquorum/trustquorumref06.Declared -/
def sa_ref06_Declared : SA U :=
 (sr
 (op 1 (.box (tm 0))
 (mc 2 0
 .nil))
 (sr
 (mc 3 0
 .nil)
 (.seq
 (sr
 (fa 6 0 1
 (ld 7 6
 (op 8 (.len false (tm 7))
 (mc 9 0
 .nil))))
 (.block 0
 (.loop ⟨[.val 3 (Ty.i .i64), .val 9 (Ty.i .i64)], [7, 8]⟩
 (sr
 (op 10 (.bin .lss (tm 9) (tm 8))
 .nil)
 (.seq
 (.cond (tm 10)
 .skip
 (.exit 0))
 (.join ⟨[.val 3 (Ty.i .i64)], [7, 8, 9]⟩
 (.block 1
 (sr
 (mv 11 9
 (ia 12 4 7 9
 (ldk 13 4 12
 (op 5 (.alloc [.bool false, .int .i64 0, .nils, .nils])
 (mv 4 11
 (ops (.store 4 (tm 5) (tm 13))
 .nil))))))
 (sr
 (mv 14 4
 (op 15 (.bin .lss (tm 14) (ci 10))
 (mv 16 15
 (.ite 16 true
 (opg 17 16 true (.faddr 0 (tm 5))
 (opg 18 16 true (.load none (tm 17))
 .nil))
 19 none (tm 18) (.cst (.bool false))
 .nil))))
 (.cond (tm 19)
 (.reg
 (mv 20 3
 (mv 21 4
 (op 22 (.bin .shl (ci 1) (tm 21))
 (op 23 (.bin .or (tm 20) (tm 22))
 (mv 3 23
 .nil))))))
 .skip))))
 (.reg
 (op 24 (.bin .add (tm 9) (ci 1))
 (mv 9 24
 .nil)))))))))
 (sr
 (mv 25 3
 (mv 2 25
 .nil))
 .ret))))
noncomputable def F_ref06_Declared (a0 : TConfig) : Option Int :=
 loopO (fun (v1 : Int × Int × Unit) =>
 bif (decide (v1.2.1 < ((List.length a0.Members : Nat) : Int))) then
 letJ (fun (v2 : Int × Unit) =>
 some (Sum.inl (v2.1, (addI .i64 v1.2.1 (1 : Int)), ()))) fun j3 =>
 Option.bind (idx a0.Members v1.2.1) fun x4 =>
 Option.bind (bif (decide (v1.2.1 < (10 : Int))) then
 some x4.Declared
 else some false) fun b5 =>
 bif b5 then
 if v1.2.1 < 0 then none else
 j3 ((orI .i64 v1.1 (shlI .i64 (1 : Int) v1.2.1)), ())
 else
 j3 (v1.1, ())
 else
 Option.map Sum.inr (some v1.1)) ((0 : Int), (0 : Int), ())
noncomputable def k_ref06_Declared : KS U Tryz.prog := ⟨.fn 191 [.ty (Ty.st .Config)] (.one (Ty.i .i64)) fun a => F_ref06_Declared a.1, fnS (K := K) sa_ref06_Declared 26 [.tmp 2] [] (fk Tryz.f191 [] Tryz.func191)⟩

/-! ### trustquorum/trustquorumref02.Satisfied -/
def sa_ref02_Satisfied : SA U :=
 (sr
 (op 2 (.box (tm 0))
 (op 4 (.mov (.cst (.bool false)))
 .nil))
 (.seq
 (sr
 (mv 10 1
 (cl 11 167 [10]
 (op 12 (.not (tm 11))
 .nil)))
 (.cond (tm 12)
 (sr
 (op 4 (.mov (.cst (.bool false)))
 .nil)
 .ret)
 .skip))
 (sr
 (mc 5 0
 .nil)
 (.seq
 (sr
 (fa 13 1 2
 (ld 14 13
 (op 15 (.len false (tm 14))
 (mc 16 0
 .nil))))
 (.block 0
 (.loop ⟨[.val 5 (Ty.i .i64), .val 16 (Ty.i .i64)], [1, 2, 14, 15]⟩
 (sr
 (op 17 (.bin .lss (tm 16) (tm 15))
 .nil)
 (.seq
 (.cond (tm 17)
 .skip
 (.exit 0))
 (.join ⟨[.val 5 (Ty.i .i64)], [1, 2, 14, 15, 16]⟩
 (.block 1
 (sr
 (ia 18 1 14 16
 (ld 19 18
 (mv 7 19
 .nil)))
 (sr
 (mv 20 1
 (mv 21 7
 (cl 22 169 [20, 21]
 .nil)))
 (.cond (tm 22)
 (.reg
 (mv 23 5
 (op 24 (.bin .add (tm 23) (ci 1))
 (mv 5 24
 .nil))))
 .skip))))
 (.reg
 (op 25 (.bin .add (tm 16) (ci 1))
 (mv 16 25
 .nil)))))))))
 (.seq
 (sr
 (fa 26 2 2
 (ld 27 26
 (op 28 (.len false (tm 27))
 (mc 29 0
 .nil))))
 (.block 2
 (.loop ⟨[.val 5 (Ty.i .i64), .val 29 (Ty.i .i64)], [1, 2, 27, 28]⟩
 (sr
 (op 30 (.bin .lss (tm 29) (tm 28))
 .nil)
 (.seq
 (.cond (tm 30)
 .skip
 (.exit 2))
 (.join ⟨[.val 5 (Ty.i .i64)], [1, 2, 27, 28, 29]⟩
 (.block 3
 (sr
 (ia 31 3 27 29
 (ldk 32 3 31
 (op 9 (.alloc [.int .i64 0, .nils, .nils])
 (ops (.store 3 (tm 9) (tm 32))
 .nil))))
 (sr
 (ldk 33 3 9
 (mv 34 1
 (cl 35 192 [33, 34]
 .nil)))
 (.cond (tm 35)
 (.reg
 (mv 36 5
 (op 37 (.bin .add (tm 36) (ci 1))
 (mv 5 37
 .nil))))
 .skip))))
 (.reg
 (op 38 (.bin .add (tm 29) (ci 1))
 (mv 29 38
 .nil)))))))))
 (sr
 (mv 39 5
 (fa 40 0 2
 (ld 41 40
 (op 42 (.bin .geq (tm 39) (tm 41))
 (mv 4 42
 .nil)))))
 .ret))))))
noncomputable def B_ref02_Satisfied (rec : (TTrust × Int × Unit) → Option Bool) (a0 : TTrust) (a1 : Int) : Option Bool :=
 Option.bind (F_ref01_Valid a1) fun r1 =>
 bif (!r1) then
 some false
 else
 loopO (fun (v2 : Int × Int × Unit) =>
 bif (decide (v2.2.1 < ((List.length a0.Nodes : Nat) : Int))) then
 letJ (fun (v3 : Int × Unit) =>
 some (Sum.inl (v3.1, (addI .i64 v2.2.1 (1 : Int)), ()))) fun j4 =>
 Option.bind (idx a0.Nodes v2.2.1) fun x5 =>
 Option.bind (F_ref01_Has a1 x5) fun r6 =>
 bif r6 then
 j4 ((addI .i64 v2.1 (1 : Int)), ())
 else
 j4 (v2.1, ())
 else
 Option.map Sum.inr (loopO (fun (v7 : Int × Int × Unit) =>
 bif (decide (v7.2.1 < ((List.length a0.Inner : Nat) : Int))) then
 letJ (fun (v8 : Int × Unit) =>
 some (Sum.inl (v8.1, (addI .i64 v7.2.1 (1 : Int)), ()))) fun j9 =>
 Option.bind (idx a0.Inner v7.2.1) fun x10 =>
 Option.bind (rec ((TTrust.mk x10.Threshold x10.Nodes x10.Inner), a1, ())) fun r11 =>
 bif r11 then
 j9 ((addI .i64 v7.1 (1 : Int)), ())
 else
 j9 (v7.1, ())
 else
 Option.map Sum.inr (some (decide (a0.Threshold ≤ v7.1)))) (v2.1, (0 : Int), ()))) ((0 : Int), (0 : Int), ())
noncomputable def I_ref02_Satisfied : Nat → (TTrust × Int × Unit) → Option Bool := iterF (fun rec a => B_ref02_Satisfied rec a.1 a.2.1)
noncomputable def F_ref02_Satisfied (a0 : TTrust) (a1 : Int) : Option Bool := I_ref02_Satisfied (SizeOf.sizeOf a0 + SizeOf.sizeOf a1 + 1) (a0, a1, ())
noncomputable def k_ref02_Satisfied : KS U Tryz.prog := ⟨.fn 192 [.ty (Ty.st .Trust), .ty (Ty.i .i64)] (.one Ty.bool) fun a => F_ref02_Satisfied a.1 a.2.1, fnRS (K := K) («as» := [.ty (Ty.st .Trust), .ty (Ty.i .i64)]) (r := .one Ty.bool) (B := fun rec a => B_ref02_Satisfied rec a.1 a.2.1) sa_ref02_Satisfied 43 [.tmp 4] [k_ref01_Valid, k_ref01_Has] (fk Tryz.f192 [] Tryz.func192) (hF := fun a => ⟨_, rfl⟩)⟩

/-! ### trustquorum/trustquorumref11.Blocks -/
def sa_ref11_Blocks : SA U :=
 (sr
 (op 3 (.box (tm 0))
 (op 6 (.mov (.cst (.bool false)))
 .nil))
 (.seq
 (sr
 (mv 7 2
 (cl 8 167 [7]
 (op 9 (.not (tm 8))
 (mv 10 9
 (.ite 10 false
 (opg 11 10 false (.load (some 1) (tm 3))
 (opg 12 10 false (.call 191 [(tm 11)])
 (opg 13 10 false (.mov (tm 1))
 (opg 14 10 false (.call 169 [(tm 12), (tm 13)])
 (opg 15 10 false (.not (tm 14))
 .nil)))))
 16 none (.cst (.bool true)) (tm 15)
 .nil)))))
 (.cond (tm 16)
 (sr
 (op 6 (.mov (.cst (.bool false)))
 .nil)
 .ret)
 .skip))
 (.seq
 (.drw []
 (fa 17 0 3
 (ld 18 17
 (mv 19 1
 (ia 20 4 18 19
 (fa 21 1 20
 (ldk 22 3 21
 (mv 23 2
 (op 24 (.bin .sub (ci 1023) (tm 23))
 (mv 25 1
 (op 26 (.bin .shl (ci 1) (tm 25))
 (op 27 (.bin .or (tm 24) (tm 26))
 (cl 28 192 [22, 27]
 (op 29 (.not (tm 28))
 (mv 6 29
 .nil)))))))))))))))
 .ret)))
noncomputable def F_ref11_Blocks (a0 : TConfig) (a1 : Int) (a2 : Int) : Option Bool :=
 Option.bind (F_ref01_Valid a2) fun r1 =>
 Option.bind (bif (!r1) then some true
 else
 Option.bind (F_ref06_Declared a0) fun r2 =>
 Option.bind (F_ref01_Has r2 a1) fun r3 =>
 some (!r3)) fun b4 =>
 bif b4 then
 some false
 else
 Option.bind (idx a0.Members a1) fun x5 =>
 if a1 < 0 then none else
 Option.bind (F_ref02_Satisfied (TTrust.mk x5.Trust.Threshold x5.Trust.Nodes x5.Trust.Inner) (orI .i64 (subI .i64 (1023 : Int) a2) (shlI .i64 (1 : Int) a1))) fun r6 =>
 some (!r6)
noncomputable def k_ref11_Blocks : KS U Tryz.prog := ⟨.fn 168 [.ty (Ty.st .Config), .ty (Ty.i .i64), .ty (Ty.i .i64)] (.one Ty.bool) fun a => F_ref11_Blocks a.1 a.2.1 a.2.2.1, fnS (K := K) sa_ref11_Blocks 30 [.tmp 6] [k_ref01_Valid, k_ref06_Declared, k_ref01_Has, k_ref02_Satisfied] (fk Tryz.f168 [] Tryz.func168)⟩

/-! ### trustquorum/trustquorumref01.Nodes -/
def sa_ref01_Nodes : SA U :=
 (sr
 (op 2 (.mov (.cst (.nils)))
 .nil)
 (sr
 (op 3 (.mov (.cst (.nils)))
 .nil)
 (.seq
 (sr
 (mc 4 0
 .nil)
 (.block 0
 (.ps (.own 3 3 1 (Ty.i .i64))
 (.loop ⟨[.val 4 (Ty.i .i64), .own 3 3 1 3 1 (Ty.i .i64)], [0]⟩
 (.seq
 (sr
 (mv 5 4
 (op 6 (.bin .lss (tm 5) (ci 10))
 .nil))
 (.cond (tm 6)
 .skip
 (.exit 0)))
 (.join ⟨[.own 3 3 1 3 1 (Ty.i .i64)], [0, 4]⟩
 (.block 1
 (sr
 (mv 9 0
 (mv 10 4
 (cl 11 169 [9, 10]
 .nil)))
 (.cond (tm 11)
 (.reg
 (mv 12 3
 (mv 13 4
 (op 14 (.bsl false 3 1 (List.replicate 1 [.int .i64 0]) [(0, (tm 13))])
 (op 15 (.app 3 1 8 (tm 12) (tm 14))
 (mv 3 15
 .nil))))))
 .skip)))
 (.reg
 (mv 7 4
 (op 8 (.bin .add (tm 7) (ci 1))
 (mv 4 8
 .nil))))))))))
 (sr
 (mv 16 3
 (mv 2 16
 .nil))
 .ret))))
noncomputable def F_ref01_Nodes (a0 : Int) : Option (List Int) :=
 loopO (fun (v1 : Int × (List Int) × Unit) =>
 bif (decide (v1.1 < (10 : Int))) then
 letJ (fun (v2 : (List Int) × Unit) =>
 some (Sum.inl ((addI .i64 v1.1 (1 : Int)), v2.1, ()))) fun j3 =>
 Option.bind (F_ref01_Has a0 v1.1) fun r4 =>
 bif r4 then
 bif lenOk 8 (List.length v1.2.1 + List.length [v1.1]) then
 j3 ((v1.2.1 ++ [v1.1]), ())
 else none
 else
 j3 (v1.2.1, ())
 else
 Option.map Sum.inr (some v1.2.1)) ((0 : Int), ([] : List Int), ())
noncomputable def k_ref01_Nodes : KS U Tryz.prog := ⟨.fn 229 [.ty (Ty.i .i64)] (.one (Ty.sl (Ty.i .i64))) fun a => F_ref01_Nodes a.1, fnS (K := K) sa_ref01_Nodes 17 [.tmp 2] [k_ref01_Has] (fk Tryz.f229 [] Tryz.func229)⟩

/-! ### trustquorum/trustquorumref09.Elimination -/
def sa_ref09_Elimination : SA U :=
 (sr
 (op 2 (.box (tm 0))
 (op 4 (.mov (.cst (.nils)))
 .nil))
 (.seq
 (sr
 (mv 10 1
 (cl 11 167 [10]
 (op 12 (.not (tm 11))
 .nil)))
 (.cond (tm 12)
 (sr
 (op 4 (.mov (.cst (.nils)))
 .nil)
 .ret)
 .skip))
 (sr
 (mv 13 1
 (ldk 14 1 2
 (cl 15 191 [14]
 (op 16 (.bin .and (tm 13) (tm 15))
 (mv 5 16
 .nil)))))
 (sr
 (op 6 (.mov (.cst (.nils)))
 .nil)
 (.seq
 (sr
 (op 7 (.mov (.cst (.bool true)))
 .nil)
 (.block 0
 (.ps (.own 6 3 1 (Ty.i .i64))
 (.loop ⟨[.val 5 (Ty.i .i64), .val 7 Ty.bool, .own 6 12 1 3 1 (Ty.i .i64)], [2]⟩
 (.seq
 (sr
 (mv 17 7
 .nil)
 (.cond (tm 17)
 .skip
 (.exit 0)))
 (.block 1
 (sr
 (op 7 (.mov (.cst (.bool false)))
 .nil)
 (sr
 (mv 18 5
 (cl 19 229 [18]
 (op 20 (.len false (tm 19))
 (mc 21 0
 .nil))))
 (.block 2
 (.loop ⟨[.val 5 (Ty.i .i64), .val 7 Ty.bool, .val 21 (Ty.i .i64), .own 6 12 1 3 1 (Ty.i .i64)], [2, 19, 20]⟩
 (sr
 (op 22 (.bin .lss (tm 21) (tm 20))
 .nil)
 (.seq
 (.cond (tm 22)
 .skip
 (.exit 2))
 (.seq
 (.block 3
 (sr
 (ia 23 1 19 21
 (ld 24 23
 (mv 9 24
 .nil)))
 (sr
 (fa 25 0 2
 (ld 26 25
 (mv 27 9
 (ia 28 4 26 27
 (fa 29 1 28
 (ldk 30 3 29
 (mv 31 5
 (cl 32 192 [30, 31]
 (op 33 (.not (tm 32))
 .nil)))))))))
 (.cond (tm 33)
 (sr
 (mv 34 5
 (mv 35 9
 (op 36 (.bin .shl (ci 1) (tm 35))
 (op 37 (.bin .sub (tm 34) (tm 36))
 (mv 5 37
 .nil)))))
 (sr
 (mv 38 6
 (mv 39 9
 (op 40 (.bsl false 3 1 (List.replicate 1 [.int .i64 0]) [(0, (tm 39))])
 (op 41 (.app 3 1 8 (tm 38) (tm 40))
 (mv 6 41
 .nil)))))
 (sr
 (op 7 (.mov (.cst (.bool true)))
 .nil)
 (.exit 2))))
 .skip))))
 (.reg
 (op 42 (.bin .add (tm 21) (ci 1))
 (mv 21 42
 .nil))))))))))))))))
 (sr
 (mv 43 6
 (mv 4 43
 .nil))
 .ret))))))
noncomputable def F_ref09_Elimination (a0 : TConfig) (a1 : Int) : Option (List Int) :=
 Option.bind (F_ref01_Valid a1) fun r1 =>
 bif (!r1) then
 some ([] : List Int)
 else
 Option.bind (F_ref06_Declared a0) fun r2 =>
 loopO (fun (v3 : Int × Bool × (List Int) × Unit) =>
 bif v3.2.1 then
 Option.bind (F_ref01_Nodes v3.1) fun r4 =>
 loopO (fun (v5 : Int × Bool × Int × (List Int) × Unit) =>
 bif (decide (v5.2.2.1 < ((List.length r4 : Nat) : Int))) then
 Option.bind (idx r4 v5.2.2.1) fun x6 =>
 Option.bind (idx a0.Members x6) fun x7 =>
 Option.bind (F_ref02_Satisfied (TTrust.mk x7.Trust.Threshold x7.Trust.Nodes x7.Trust.Inner) v5.1) fun r8 =>
 bif (!r8) then
 if x6 < 0 then none else
 bif lenOk 8 (List.length v5.2.2.2.1 + List.length [x6]) then
 Option.map Sum.inr (some (Sum.inl ((subI .i64 v5.1 (shlI .i64 (1 : Int) x6)), true, (v5.2.2.2.1 ++ [x6]), ())))
 else none
 else
 some (Sum.inl (v5.1, v5.2.1, (addI .i64 v5.2.2.1 (1 : Int)), v5.2.2.2.1, ()))
 else
 Option.map Sum.inr (some (Sum.inl (v5.1, v5.2.1, v5.2.2.2.1, ())))) (v3.1, false, (0 : Int), v3.2.2.1, ())
 else
 Option.map Sum.inr (some v3.2.2.1)) ((andI .i64 a1 r2), true, ([] : List Int), ())
noncomputable def k_ref09_Elimination : KS U Tryz.prog := ⟨.fn 193 [.ty (Ty.st .Config), .ty (Ty.i .i64)] (.one (Ty.sl (Ty.i .i64))) fun a => F_ref09_Elimination a.1 a.2.1, fnS (K := K) sa_ref09_Elimination 44 [.tmp 4] [k_ref01_Valid, k_ref06_Declared, k_ref01_Nodes, k_ref02_Satisfied] (fk Tryz.f193 [] Tryz.func193)⟩

/-! ### trustquorum/trustquorumref09.Greatest -/
def sa_ref09_Greatest : SA U :=
 (sr
 (op 2 (.box (tm 0))
 (mc 4 0
 .nil))
 (.seq
 (sr
 (mv 8 1
 (cl 9 167 [8]
 (op 10 (.not (tm 9))
 .nil)))
 (.cond (tm 10)
 (sr
 (mc 4 0
 .nil)
 .ret)
 .skip))
 (sr
 (mv 11 1
 (ldk 12 1 2
 (cl 13 191 [12]
 (op 14 (.bin .and (tm 11) (tm 13))
 (mv 5 14
 .nil)))))
 (.seq
 (sr
 (ldk 15 1 2
 (mv 16 1
 (cl 17 193 [15, 16]
 (op 18 (.len false (tm 17))
 (mc 19 0
 .nil)))))
 (.block 0
 (.loop ⟨[.val 5 (Ty.i .i64), .val 19 (Ty.i .i64)], [17, 18]⟩
 (sr
 (op 20 (.bin .lss (tm 19) (tm 18))
 .nil)
 (.seq
 (.cond (tm 20)
 .skip
 (.exit 0))
 (.seq
 (.block 1
 (sr
 (ia 21 1 17 19
 (ld 22 21
 (mv 7 22
 .nil)))
 (.reg
 (mv 23 5
 (mv 24 7
 (op 25 (.bin .shl (ci 1) (tm 24))
 (op 26 (.bin .sub (tm 23) (tm 25))
 (mv 5 26
 .nil))))))))
 (.reg
 (op 27 (.bin .add (tm 19) (ci 1))
 (mv 19 27
 .nil)))))))))
 (sr
 (mv 28 5
 (mv 4 28
 .nil))
 .ret)))))
noncomputable def F_ref09_Greatest (a0 : TConfig) (a1 : Int) : Option Int :=
 Option.bind (F_ref01_Valid a1) fun r1 =>
 bif (!r1) then
 some (0 : Int)
 else
 Option.bind (F_ref06_Declared a0) fun r2 =>
 Option.bind (F_ref09_Elimination a0 a1) fun r3 =>
 loopO (fun (v4 : Int × Int × Unit) =>
 bif (decide (v4.2.1 < ((List.length r3 : Nat) : Int))) then
 Option.bind (idx r3 v4.2.1) fun x5 =>
 if x5 < 0 then none else
 some (Sum.inl ((subI .i64 v4.1 (shlI .i64 (1 : Int) x5)), (addI .i64 v4.2.1 (1 : Int)), ()))
 else
 Option.map Sum.inr (some v4.1)) ((andI .i64 a1 r2), (0 : Int), ())
noncomputable def k_ref09_Greatest : KS U Tryz.prog := ⟨.fn 170 [.ty (Ty.st .Config), .ty (Ty.i .i64)] (.one (Ty.i .i64)) fun a => F_ref09_Greatest a.1 a.2.1, fnS (K := K) sa_ref09_Greatest 29 [.tmp 4] [k_ref01_Valid, k_ref06_Declared, k_ref09_Elimination] (fk Tryz.f170 [] Tryz.func170)⟩

/-! ### trustquorum/trustquorumref18.Accepts -/
def sa_ref18_Accepts : SA U :=
 (sr
 (op 4 (.box (tm 0))
 (op 8 (.mov (.cst (.bool false)))
 .nil))
 (.seq
 (sr
 (mv 9 2
 (cl 10 167 [9]
 (op 11 (.not (tm 10))
 (mv 12 11
 (.ite 12 false
 (opg 13 12 false (.mov (tm 3))
 (opg 14 12 false (.call 167 [(tm 13)])
 (opg 15 12 false (.not (tm 14))
 .nil)))
 16 none (.cst (.bool true)) (tm 15)
 .nil)))))
 (.cond (tm 16)
 (sr
 (op 8 (.mov (.cst (.bool false)))
 .nil)
 .ret)
 .skip))
 (sr
 (ldk 17 1 4
 (mv 18 1
 (mv 19 3
 (cl 20 168 [17, 18, 19]
 (mv 21 20
 (.ite 21 false
 (opg 22 21 false (.load (some 1) (tm 4))
 (opg 23 21 false (.mov (tm 2))
 (opg 24 21 false (.mov (tm 3))
 (opg 25 21 false (.bin .or (tm 23) (tm 24))
 (opg 26 21 false (.call 170 [(tm 22), (tm 25)])
 (opg 27 21 false (.mov (tm 1))
 (opg 28 21 false (.call 169 [(tm 26), (tm 27)])
 .nil)))))))
 29 none (.cst (.bool true)) (tm 28)
 (mv 8 29
 .nil)))))))
 .ret)))
noncomputable def F_ref18_Accepts (a0 : TConfig) (a1 : Int) (a2 : Int) (a3 : Int) : Option Bool :=
 Option.bind (F_ref01_Valid a2) fun r1 =>
 Option.bind (bif (!r1) then some true
 else
 Option.bind (F_ref01_Valid a3) fun r2 =>
 some (!r2)) fun b3 =>
 bif b3 then
 some false
 else
 Option.bind (F_ref11_Blocks a0 a1 a3) fun r4 =>
 Option.bind (bif r4 then some true
 else
 Option.bind (F_ref09_Greatest a0 (orI .i64 a2 a3)) fun r5 =>
 Option.bind (F_ref01_Has r5 a1) fun r6 =>
 some r6) fun b7 =>
 some b7
noncomputable def k_ref18_Accepts : KS U Tryz.prog := ⟨.fn 118 [.ty (Ty.st .Config), .ty (Ty.i .i64), .ty (Ty.i .i64), .ty (Ty.i .i64)] (.one Ty.bool) fun a => F_ref18_Accepts a.1 a.2.1 a.2.2.1 a.2.2.2.1, fnS (K := K) sa_ref18_Accepts 30 [.tmp 8] [k_ref01_Valid, k_ref11_Blocks, k_ref09_Greatest, k_ref01_Has] (fk Tryz.f118 [] Tryz.func118)⟩

/-! ### trustquorum/trustquorumref25.Accepts -/
def sa_ref25_Accepts : SA U :=
 (sr
 (op 5 (.box (tm 1))
 (op 7 (.box (tm 3))
 (op 8 (.mov (.cst (.bool false)))
 .nil)))
 (sr
 (mv 12 2
 (ldk 13 2 7
 (cl 14 117 [12, 13]
 (mv 11 14
 (op 15 (.extr 0 (tm 11))
 (op 16 (.extr 1 (tm 11))
 (mv 9 15
 (mv 10 16
 .nil))))))))
 (sr
 (mv 17 0
 (ldk 18 3 5
 (mv 19 2
 (cl 20 48 [17, 18, 19]
 (mv 21 0
 (mv 22 9
 (mv 23 10
 (cl 24 118 [20, 21, 22, 23]
 (mv 8 24
 .nil)))))))))
 .ret)))
noncomputable def F_ref25_Accepts (a0 : Int) (a1 : TTrust) (a2 : (List TEnvelope)) (a3 : TBallot) : Option Bool :=
 Option.bind (F_ref25_sets a2 a3) fun r1 =>
 Option.bind (F_ref25_View a0 (TTrust.mk a1.Threshold a1.Nodes a1.Inner) a2) fun r2 =>
 Option.bind (F_ref18_Accepts r2 a0 r1.1 r1.2.1) fun r3 =>
 some r3
noncomputable def k_ref25_Accepts : KS U Tryz.prog := ⟨.fn 49 [.ty (Ty.i .i64), .ty (Ty.st .Trust), .ty (Ty.sl (Ty.st .Envelope)), .ty (Ty.st .Ballot)] (.one Ty.bool) fun a => F_ref25_Accepts a.1 a.2.1 a.2.2.1 a.2.2.2.1, fnS (K := K) sa_ref25_Accepts 25 [.tmp 8] [k_ref25_sets, k_ref25_View, k_ref18_Accepts] (fk Tryz.f49 [] Tryz.func49)⟩

/-! ### trustquorum/trustquorumref18.Confirms -/
def sa_ref18_Confirms : SA U :=
 (sr
 (op 3 (.box (tm 0))
 (op 6 (.mov (.cst (.bool false)))
 .nil))
 (sr
 (ldk 7 1 3
 (mv 8 2
 (cl 9 170 [7, 8]
 (mv 10 1
 (cl 11 169 [9, 10]
 (mv 6 11
 .nil))))))
 .ret))
noncomputable def F_ref18_Confirms (a0 : TConfig) (a1 : Int) (a2 : Int) : Option Bool :=
 Option.bind (F_ref09_Greatest a0 a2) fun r1 =>
 Option.bind (F_ref01_Has r1 a1) fun r2 =>
 some r2
noncomputable def k_ref18_Confirms : KS U Tryz.prog := ⟨.fn 119 [.ty (Ty.st .Config), .ty (Ty.i .i64), .ty (Ty.i .i64)] (.one Ty.bool) fun a => F_ref18_Confirms a.1 a.2.1 a.2.2.1, fnS (K := K) sa_ref18_Confirms 12 [.tmp 6] [k_ref09_Greatest, k_ref01_Has] (fk Tryz.f119 [] Tryz.func119)⟩

/-! ### trustquorum/trustquorumref25.Confirms -/
def sa_ref25_Confirms : SA U :=
 (sr
 (op 5 (.box (tm 1))
 (op 7 (.box (tm 3))
 (op 8 (.mov (.cst (.bool false)))
 .nil)))
 (sr
 (mv 12 2
 (ldk 13 2 7
 (cl 14 117 [12, 13]
 (mv 11 14
 (op 15 (.extr 0 (tm 11))
 (op 16 (.extr 1 (tm 11))
 (mv 9 15
 (mv 10 16
 .nil))))))))
 (sr
 (mv 17 0
 (ldk 18 3 5
 (mv 19 2
 (cl 20 48 [17, 18, 19]
 (mv 21 0
 (mv 22 10
 (cl 23 119 [20, 21, 22]
 (mv 8 23
 .nil))))))))
 .ret)))
noncomputable def F_ref25_Confirms (a0 : Int) (a1 : TTrust) (a2 : (List TEnvelope)) (a3 : TBallot) : Option Bool :=
 Option.bind (F_ref25_sets a2 a3) fun r1 =>
 Option.bind (F_ref25_View a0 (TTrust.mk a1.Threshold a1.Nodes a1.Inner) a2) fun r2 =>
 Option.bind (F_ref18_Confirms r2 a0 r1.2.1) fun r3 =>
 some r3
noncomputable def k_ref25_Confirms : KS U Tryz.prog := ⟨.fn 50 [.ty (Ty.i .i64), .ty (Ty.st .Trust), .ty (Ty.sl (Ty.st .Envelope)), .ty (Ty.st .Ballot)] (.one Ty.bool) fun a => F_ref25_Confirms a.1 a.2.1 a.2.2.1 a.2.2.2.1, fnS (K := K) sa_ref25_Confirms 24 [.tmp 8] [k_ref25_sets, k_ref25_View, k_ref18_Confirms] (fk Tryz.f50 [] Tryz.func50)⟩

/-! ### trustquorum/trustquorumref24.into -/
def sa_ref24_into : SA U :=
 (sr
 (op 3 (.box (tm 1))
 (op 4 (.mov (.cst (.nils)))
 .nil))
 (.seq
 (sr
 (ldk 6 2 3
 (cl 7 39 [6]
 .nil))
 (.cond (tm 7)
 (sr
 (mv 8 0
 (mv 4 8
 .nil))
 .ret)
 .skip))
 (sr
 (mc 5 0
 .nil)
 (.seq
 (.block 0
 (.loop ⟨[.val 5 (Ty.i .i64)], [0, 3]⟩
 (.seq
 (.join ⟨[.val 20 Ty.bool], [0, 3, 5]⟩
 (.drw [(5, 8), (5, 9)]
 (mv 9 5
 (mv 10 0
 (op 11 (.len false (tm 10))
 (op 12 (.bin .lss (tm 9) (tm 11))
 (mv 13 12
 (.spl 13
 (opg 14 13 true (.load (some 2) (tm 3))
 (opg 15 13 true (.mov (tm 0))
 (opg 16 13 true (.mov (tm 5))
 (opg 17 13 true (.iaddr 2 (tm 15) (tm 16))
 (opg 18 13 true (.load (some 2) (tm 17))
 (opg 19 13 true (.call 15 [(tm 14), (tm 18)])
 (op 20 (.pick (tm 13) (tm 19) (.cst (.bool false)))
 .nil))))))))))))))
 (.cond (tm 20)
 .skip
 (.exit 0)))
 (.block 1
 (.reg
 (mv 21 5
 (op 22 (.bin .add (tm 21) (ci 1))
 (mv 5 22
 .nil))))))))
 (.seq
 (.join ⟨[.val 34 Ty.bool], [0, 3, 5]⟩
 (.drw [(7, 9), (8, 9)]
 (mv 23 5
 (mv 24 0
 (op 25 (.len false (tm 24))
 (op 26 (.bin .lss (tm 23) (tm 25))
 (mv 27 26
 (.spl 27
 (opg 28 27 true (.mov (tm 0))
 (opg 29 27 true (.mov (tm 5))
 (opg 30 27 true (.iaddr 2 (tm 28) (tm 29))
 (opg 31 27 true (.load (some 2) (tm 30))
 (opg 32 27 true (.load (some 2) (tm 3))
 (opg 33 27 true (.eq2 false (tm 31) (tm 32))
 (op 34 (.pick (tm 27) (tm 33) (.cst (.bool false)))
 .nil))))))))))))))
 (.cond (tm 34)
 (sr
 (mv 35 0
 (mv 4 35
 .nil))
 .ret)
 .skip))
 (.seq
 (.drw [(2, 4), (3, 4), (2, 5), (3, 5), (2, 9), (3, 9), (4, 9), (5, 9), (6, 9)]
 (mv 36 0
 (mv 37 5
 (op 38 (.slc 2 (tm 36) none (some (tm 37)))
 (op 39 (.app 32 2 24 (.cst (.nils)) (tm 38))
 (ldk 40 2 3
 (op 41 (.bsl false 32 2 (List.replicate 1 [.int .i64 0, .str ⟨#[]⟩]) [(0, (tm 40))])
 (op 42 (.app 32 2 24 (tm 39) (tm 41))
 (mv 43 0
 (mv 44 5
 (op 45 (.slc 2 (tm 43) (some (tm 44)) none)
 (op 46 (.app 32 2 24 (tm 42) (tm 45))
 (mv 4 46
 .nil)))))))))))))
 .ret))))))
noncomputable def F_ref24_into (a0 : (List TBallot)) (a1 : TBallot) : Option (List TBallot) :=
 Option.bind (F_ref23_Zero a1) fun r1 =>
 bif r1 then
 some a0
 else
 loopO (fun (v2 : Int × Unit) =>
 letJ (fun (v3 : Bool × Unit) =>
 bif v3.1 then
 some (Sum.inl ((addI .i64 v2.1 (1 : Int)), ()))
 else
 Option.map Sum.inr (letJ (fun (v5 : Bool × Unit) =>
 bif v5.1 then
 some a0
 else
 bif slcOk (0 : Int) v2.1 (List.length a0) then
 bif lenOk 24 (List.length ((a0.take (Int.toNat v2.1)).drop (Int.toNat (0 : Int)))) then
 bif lenOk 24 (List.length ((a0.take (Int.toNat v2.1)).drop (Int.toNat (0 : Int))) + List.length [a1]) then
 bif slcOk v2.1 (a0.length : Int) (List.length a0) then
 bif lenOk 24 (List.length (((a0.take (Int.toNat v2.1)).drop (Int.toNat (0 : Int))) ++ [a1]) + List.length ((a0.take (Int.toNat (a0.length : Int))).drop (Int.toNat v2.1))) then
 some ((((a0.take (Int.toNat v2.1)).drop (Int.toNat (0 : Int))) ++ [a1]) ++ ((a0.take (Int.toNat (a0.length : Int))).drop (Int.toNat v2.1)))
 else none
 else none
 else none
 else none
 else none) fun j6 =>
 bif (decide (v2.1 < ((List.length a0 : Nat) : Int))) then
 Option.bind (idx a0 v2.1) fun x7 =>
 j6 ((eq2 false x7.Counter a1.Counter x7.Value a1.Value), ())
 else
 j6 (false, ()))) fun j4 =>
 bif (decide (v2.1 < ((List.length a0 : Nat) : Int))) then
 Option.bind (idx a0 v2.1) fun x8 =>
 Option.bind (F_ref23_Less a1 x8) fun r9 =>
 j4 (r9, ())
 else
 j4 (false, ())) ((0 : Int), ())
noncomputable def k_ref24_into : KS U Tryz.prog := ⟨.fn 126 [.ty (Ty.sl (Ty.st .Ballot)), .ty (Ty.st .Ballot)] (.one (Ty.sl (Ty.st .Ballot))) fun a => F_ref24_into a.1 a.2.1, fnS (K := K) sa_ref24_into 47 [.tmp 4] [k_ref23_Zero, k_ref23_Less] (fk Tryz.f126 [] Tryz.func126)⟩

/-! ### trustquorum/trustquorumref24.Ballots -/
def sa_ref24_Ballots : SA U :=
 (sr
 (op 2 (.mov (.cst (.nils)))
 .nil)
 (sr
 (op 3 (.mov (.cst (.nils)))
 .nil)
 (.seq
 (sr
 (mv 9 0
 (op 10 (.len false (tm 9))
 (mc 11 0
 .nil)))
 (.block 0
 (.loop ⟨[.val 3 (Ty.sl (Ty.st .Ballot)), .val 11 (Ty.i .i64)], [9, 10]⟩
 (sr
 (op 12 (.bin .lss (tm 11) (tm 10))
 .nil)
 (.seq
 (.cond (tm 12)
 .skip
 (.exit 0))
 (.join ⟨[.val 3 (Ty.sl (Ty.st .Ballot))], [9, 10, 11]⟩
 (.block 1
 (sr
 (ia 13 15 9 11
 (ldk 14 15 13
 (op 5 (.alloc [.int .i64 0, .int .i64 0, .int .i64 0, .int .i64 0, .nils, .nils, .int .i64 0, .int .i64 0, .str ⟨#[]⟩, .int .i64 0, .str ⟨#[]⟩, .int .i64 0, .str ⟨#[]⟩, .int .i64 0, .int .i64 0])
 (ops (.store 15 (tm 5) (tm 14))
 .nil))))
 (.seq
 (sr
 (ldk 15 15 5
 (cl 16 76 [15]
 (op 17 (.not (tm 16))
 .nil)))
 (.cond (tm 17)
 (.exit 1)
 .skip))
 (sr
 (fa 18 7 5
 (ldk 19 2 18
 (fa 20 9 5
 (ldk 21 2 20
 (fa 22 11 5
 (ldk 23 2 22
 (op 24 (.bsl false 32 2 (List.replicate 3 [.int .i64 0, .str ⟨#[]⟩]) [(0, (tm 19)), (1, (tm 21)), (2, (tm 23))])
 (mv 6 24
 .nil))))))))
 (.join ⟨[.val 6 (Ty.sl (Ty.st .Ballot))], [3, 9, 10, 11]⟩
 (sr
 (fa 25 6 5
 (ld 26 25
 (op 27 (.bin .neq (tm 26) (ci 1))
 .nil)))
 (.cond (tm 27)
 (.reg
 (fa 28 9 5
 (ldk 29 2 28
 (fa 30 7 5
 (fa 31 1 30
 (ld 32 31
 (op 33 (.build [.int .i64 0, .str ⟨#[]⟩] [(0, 1, (ci 1000000)), (1, 1, (tm 32))])
 (op 34 (.bsl false 32 2 (List.replicate 2 [.int .i64 0, .str ⟨#[]⟩]) [(0, (tm 29)), (1, (tm 33))])
 (mv 6 34
 .nil)))))))))
 .skip))
 (sr
 (mv 35 6
 (op 36 (.len false (tm 35))
 (mc 37 0
 .nil)))
 (.block 2
 (.loop ⟨[.val 3 (Ty.sl (Ty.st .Ballot)), .val 37 (Ty.i .i64)], [9, 10, 11, 35, 36]⟩
 (sr
 (op 38 (.bin .lss (tm 37) (tm 36))
 .nil)
 (.seq
 (.cond (tm 38)
 .skip
 (.exit 2))
 (.seq
 (.block 3
 (sr
 (ia 39 2 35 37
 (ldk 40 2 39
 (op 8 (.alloc [.int .i64 0, .str ⟨#[]⟩])
 (ops (.store 2 (tm 8) (tm 40))
 .nil))))
 (.reg
 (mv 41 3
 (ldk 42 2 8
 (cl 43 126 [41, 42]
 (mv 3 43
 .nil)))))))
 (.reg
 (op 44 (.bin .add (tm 37) (ci 1))
 (mv 37 44
 .nil))))))))))))))
 (.reg
 (op 45 (.bin .add (tm 11) (ci 1))
 (mv 11 45
 .nil)))))))))
 (sr
 (mv 46 3
 (mv 2 46
 .nil))
 .ret))))
noncomputable def F_ref24_Ballots (a0 : (List TEnvelope)) : Option (List TBallot) :=
 loopO (fun (v1 : (List TBallot) × Int × Unit) =>
 bif (decide (v1.2.1 < ((List.length a0 : Nat) : Int))) then
 letJ (fun (v2 : (List TBallot) × Unit) =>
 some (Sum.inl (v2.1, (addI .i64 v1.2.1 (1 : Int)), ()))) fun j3 =>
 Option.bind (idx a0 v1.2.1) fun x4 =>
 Option.bind (F_ref24_Valid (TEnvelope.mk x4.Node x4.Slot x4.Seq (TTrust.mk x4.Trust.Threshold x4.Trust.Nodes x4.Trust.Inner) x4.Kind x4.Ballot x4.Prepared x4.Prime x4.Low x4.High)) fun r5 =>
 bif (!r5) then
 j3 (v1.1, ())
 else
 letJ (fun (v6 : (List TBallot) × Unit) =>
 loopO (fun (v8 : (List TBallot) × Int × Unit) =>
 bif (decide (v8.2.1 < ((List.length v6.1 : Nat) : Int))) then
 Option.bind (idx v6.1 v8.2.1) fun x9 =>
 Option.bind (F_ref24_into v8.1 x9) fun r10 =>
 some (Sum.inl (r10, (addI .i64 v8.2.1 (1 : Int)), ()))
 else
 Option.map Sum.inr (j3 (v8.1, ()))) (v1.1, (0 : Int), ())) fun j7 =>
 bif (!decide (x4.Kind = (1 : Int))) then
 j7 ([x4.Prepared, (TBallot.mk (1000000 : Int) x4.Ballot.Value)], ())
 else
 j7 ([x4.Ballot, x4.Prepared, x4.Prime], ())
 else
 Option.map Sum.inr (some v1.1)) (([] : List TBallot), (0 : Int), ())
noncomputable def k_ref24_Ballots : KS U Tryz.prog := ⟨.fn 64 [.ty (Ty.sl (Ty.st .Envelope))] (.one (Ty.sl (Ty.st .Ballot))) fun a => F_ref24_Ballots a.1, fnS (K := K) sa_ref24_Ballots 47 [.tmp 2] [k_ref24_Valid, k_ref24_into] (fk Tryz.f64 [] Tryz.func64)⟩

/-! ### trustquorum/trustquorumref25.raised -/
def sa_ref25_raised : SA U :=
 (sr
 (op 1 (.box (tm 0))
 (op 2 (.alloc [.int .i64 0, .str ⟨#[]⟩])
 .nil))
 (.join ⟨[.box 0 1 (Ty.st .Ballot) []], [1, 2]⟩
 (sr
 (fa 3 0 1
 (ld 4 3
 (op 5 (.bin .geq (tm 4) (ci 1000))
 .nil)))
 (.cond (tm 5)
 (.reg
 (fa 6 0 1
 (ops (.store 1 (tm 6) (ci 1000000))
 .nil)))
 .skip))
 (sr
 (ldk 7 2 1
 (ops (.store 2 (tm 2) (tm 7))
 .nil))
 .ret)))
noncomputable def F_ref25_raised (a0 : TBallot) : Option TBallot :=
 letJ (fun (v1 : TBallot × Unit) =>
 some v1.1) fun j2 =>
 bif (decide ((1000 : Int) ≤ a0.Counter)) then
 j2 ((TBallot.mk (1000000 : Int) a0.Value), ())
 else
 j2 (a0, ())
noncomputable def k_ref25_raised : KS U Tryz.prog := ⟨.fn 120 [.ty (Ty.st .Ballot)] (.one (Ty.st .Ballot)) fun a => F_ref25_raised a.1, fnS (K := K) sa_ref25_raised 8 [.cell 2 (some 2)] [] (fk Tryz.f120 [] Tryz.func120)⟩

/-! ### trustquorum/trustquorumref25.Next -/
def sa_ref25_Next : SA U :=
 (sr
 (op 7 (.box (tm 1))
 (op 9 (.box (tm 3))
 (op 10 (.box (tm 4))
 (op 12 (.alloc [.int .i64 0, .str ⟨#[]⟩])
 .nil))))
 (.seq
 (sr
 (mv 15 2
 (cl 16 64 [15]
 (op 17 (.len false (tm 16))
 (mc 18 0
 .nil))))
 (.block 0
 (.loop ⟨[.val 18 (Ty.i .i64), .box 3 1 (Ty.st .Ballot) []], [0, 2, 5, 7, 9, 10, 12, 16, 17]⟩
 (sr
 (op 19 (.bin .lss (tm 18) (tm 17))
 .nil)
 (.seq
 (.cond (tm 19)
 .skip
 (.exit 0))
 (.join ⟨[.box 3 1 (Ty.st .Ballot) []], [0, 2, 5, 7, 9, 10, 12, 16, 17, 18]⟩
 (.block 1
 (sr
 (ia 20 2 16 18
 (ldk 21 2 20
 (op 14 (.alloc [.int .i64 0, .str ⟨#[]⟩])
 (ops (.store 2 (tm 14) (tm 21))
 .nil))))
 (.seq
 (.join ⟨[.val 37 Ty.bool], [0, 2, 5, 7, 9, 10, 12, 14, 16, 17, 18]⟩
 (.drw [(9, 11), (10, 11), (9, 13), (10, 13), (11, 13), (12, 13)]
 (mv 22 5
 (op 23 (.bin .neq (tm 22) (.cst (.str ⟨#[]⟩)))
 (mv 24 23
 (.spl 24
 (opg 25 24 true (.faddr 1 (tm 14))
 (opg 26 24 true (.load none (tm 25))
 (opg 27 24 true (.mov (tm 5))
 (opg 28 24 true (.bin .neq (tm 26) (tm 27))
 (op 29 (.pick (tm 24) (tm 28) (.cst (.bool false)))
 (mv 30 29
 (.spl 30
 (opg 31 30 false (.load (some 2) (tm 9))
 (opg 32 30 false (.call 120 [(tm 31)])
 (opg 33 30 false (.load (some 2) (tm 10))
 (opg 34 30 false (.call 120 [(tm 33)])
 (opg 35 30 false (.load (some 2) (tm 14))
 (opg 36 30 false (.call 40 [(tm 32), (tm 34), (tm 35)])
 (op 37 (.pick (tm 30) (.cst (.bool true)) (tm 36))
 .nil)))))))))))))))))))
 (.cond (tm 37)
 (.exit 1)
 .skip))
 (sr
 (mv 38 0
 (ldk 39 3 7
 (mv 40 2
 (ldk 41 2 14
 (cl 42 49 [38, 39, 40, 41]
 .nil)))))
 (.cond (tm 42)
 (sr
 (ldk 43 2 14
 (ops (.store 2 (tm 12) (tm 43))
 .nil))
 .ret)
 .skip)))))
 (.reg
 (op 44 (.bin .add (tm 18) (ci 1))
 (mv 18 44
 .nil)))))))))
 (sr
 (op 45 (.build [.int .i64 0, .str ⟨#[]⟩] [])
 (ops (.store 2 (tm 12) (tm 45))
 .nil))
 .ret)))
noncomputable def F_ref25_Next (a0 : Int) (a1 : TTrust) (a2 : (List TEnvelope)) (a3 : TBallot) (a4 : TBallot) (a5 : ByteArray) : Option TBallot :=
 Option.bind (F_ref24_Ballots a2) fun r1 =>
 loopO (fun (v2 : Int × TBallot × Unit) =>
 bif (decide (v2.1 < ((List.length r1 : Nat) : Int))) then
 letJ (fun (v3 : TBallot × Unit) =>
 some (Sum.inl ((addI .i64 v2.1 (1 : Int)), v3.1, ()))) fun j4 =>
 Option.bind (idx r1 v2.1) fun x5 =>
 letJ (fun (v6 : Bool × Unit) =>
 bif v6.1 then
 j4 (v2.2.1, ())
 else
 Option.bind (F_ref25_Accepts a0 (TTrust.mk a1.Threshold a1.Nodes a1.Inner) a2 x5) fun r8 =>
 bif r8 then
 Option.map Sum.inr (some x5)
 else
 j4 (v2.2.1, ())) fun j7 =>
 bif (!decide (a5 = (ByteArray.mk #[]))) then
 bif (!decide (x5.Value = a5)) then
 j7 (true, ())
 else
 Option.bind (F_ref25_raised a3) fun r9 =>
 Option.bind (F_ref25_raised a4) fun r10 =>
 Option.bind (F_ref23_Prepares r9 r10 x5) fun r11 =>
 j7 (r11, ())
 else
 Option.bind (F_ref25_raised a3) fun r12 =>
 Option.bind (F_ref25_raised a4) fun r13 =>
 Option.bind (F_ref23_Prepares r12 r13 x5) fun r14 =>
 j7 (r14, ())
 else
 Option.map Sum.inr (some (TBallot.mk (0 : Int) (ByteArray.mk #[])))) ((0 : Int), (TBallot.mk (0 : Int) (ByteArray.mk #[])), ())
noncomputable def k_ref25_Next : KS U Tryz.prog := ⟨.fn 51 [.ty (Ty.i .i64), .ty (Ty.st .Trust), .ty (Ty.sl (Ty.st .Envelope)), .ty (Ty.st .Ballot), .ty (Ty.st .Ballot), .ty Ty.str] (.one (Ty.st .Ballot)) fun a => F_ref25_Next a.1 a.2.1 a.2.2.1 a.2.2.2.1 a.2.2.2.2.1 a.2.2.2.2.2.1, fnS (K := K) sa_ref25_Next 46 [.cell 12 (some 2)] [k_ref24_Ballots, k_ref25_raised, k_ref23_Prepares, k_ref25_Accepts] (fk Tryz.f51 [] Tryz.func51)⟩

/-! ### trustquorum/prepare.Highest -/
def sa_prepare_Highest : SA U :=
 (sr
 (op 5 (.box (tm 1))
 (op 7 (.box (tm 3))
 (op 8 (.alloc [.int .i64 0, .str ⟨#[]⟩])
 .nil)))
 (sr
 (mv 12 0
 (ldk 13 3 5
 (mv 14 2
 (cl 15 97 [12, 13, 14]
 (op 9 (.alloc [.int .i64 0, .nils, .nils])
 (ops (.store 3 (tm 9) (tm 15))
 .nil))))))
 (.seq
 (sr
 (mv 16 2
 (cl 17 13 [16]
 (op 18 (.len false (tm 17))
 (mc 19 0
 .nil))))
 (.block 0
 (.loop ⟨[.val 19 (Ty.i .i64), .box 2 1 (Ty.st .Ballot) []], [7, 8, 9, 17, 18]⟩
 (sr
 (op 20 (.bin .lss (tm 19) (tm 18))
 .nil)
 (.seq
 (.cond (tm 20)
 .skip
 (.exit 0))
 (.seq
 (.block 1
 (sr
 (ia 21 2 17 19
 (ldk 22 2 21
 (op 11 (.alloc [.int .i64 0, .str ⟨#[]⟩])
 (ops (.store 2 (tm 11) (tm 22))
 .nil))))
 (.join ⟨[.val 36 Ty.bool], [7, 8, 9, 11, 17, 18, 19]⟩
 (.drw [(0, 1), (9, 10), (9, 11)]
 (ldk 23 2 7
 (ldk 24 2 11
 (cl 25 101 [23, 24]
 (mv 26 25
 (.spl 26
 (opg 27 26 true (.faddr 0 (tm 11))
 (opg 28 26 true (.load none (tm 27))
 (opg 29 26 true (.bin .leq (tm 28) (ci 1000))
 (op 30 (.pick (tm 26) (tm 29) (.cst (.bool false)))
 (mv 31 30
 (.spl 31
 (opg 32 31 true (.load (some 3) (tm 9))
 (opg 33 31 true (.load (some 2) (tm 11))
 (opg 34 31 true (.call 109 [(tm 33)])
 (opg 35 31 true (.call 108 [(tm 32), (tm 34)])
 (op 36 (.pick (tm 31) (tm 35) (.cst (.bool false)))
 .nil)))))))))))))))))
 (.cond (tm 36)
 (sr
 (ldk 37 2 11
 (ops (.store 2 (tm 8) (tm 37))
 .nil))
 .ret)
 .skip))))
 (.reg
 (op 38 (.bin .add (tm 19) (ci 1))
 (mv 19 38
 .nil)))))))))
 (sr
 (op 39 (.build [.int .i64 0, .str ⟨#[]⟩] [])
 (ops (.store 2 (tm 8) (tm 39))
 .nil))
 .ret))))
noncomputable def F_prepare_Highest (a0 : Int) (a1 : TTrust) (a2 : (List TEnvelope)) (a3 : TBallot) : Option TBallot :=
 Option.bind (F_prepare_Look a0 (TTrust.mk a1.Threshold a1.Nodes a1.Inner) a2) fun r1 =>
 Option.bind (F_envelopes_Ballots a2) fun r2 =>
 loopO (fun (v3 : Int × TBallot × Unit) =>
 bif (decide (v3.1 < ((List.length r2 : Nat) : Int))) then
 Option.bind (idx r2 v3.1) fun x4 =>
 letJ (fun (v5 : Bool × Unit) =>
 bif v5.1 then
 Option.map Sum.inr (some x4)
 else
 some (Sum.inl ((addI .i64 v3.1 (1 : Int)), v3.2.1, ()))) fun j6 =>
 Option.bind (F_ballots_Less a3 x4) fun r7 =>
 bif r7 then
 bif (decide (x4.Counter ≤ (1000 : Int))) then
 Option.bind (F_prepare_accepts x4) fun r8 =>
 Option.bind (F_prepare_Seen_Confirms_c164 r1 r8.1) fun r9 =>
 j6 (r9, ())
 else
 j6 (false, ())
 else
 j6 (false, ())
 else
 Option.map Sum.inr (some (TBallot.mk (0 : Int) (ByteArray.mk #[])))) ((0 : Int), (TBallot.mk (0 : Int) (ByteArray.mk #[])), ())
noncomputable def k_prepare_Highest : KS U Tryz.prog := ⟨.fn 52 [.ty (Ty.i .i64), .ty (Ty.st .Trust), .ty (Ty.sl (Ty.st .Envelope)), .ty (Ty.st .Ballot)] (.one (Ty.st .Ballot)) fun a => F_prepare_Highest a.1 a.2.1 a.2.2.1 a.2.2.2.1, fnS (K := K) sa_prepare_Highest 40 [.cell 8 (some 2)] [k_prepare_Look, k_envelopes_Ballots, k_ballots_Less, k_prepare_accepts, k_prepare_Seen_Confirms_c164] (fk Tryz.f52 [] Tryz.func52)⟩

/-! ### trustquorum/trustquorumref25.Highest -/
def sa_ref25_Highest : SA U :=
 (sr
 (op 5 (.box (tm 1))
 (op 7 (.box (tm 3))
 (op 8 (.alloc [.int .i64 0, .str ⟨#[]⟩])
 .nil)))
 (.seq
 (sr
 (mv 11 2
 (cl 12 64 [11]
 (op 13 (.len false (tm 12))
 (mc 14 0
 .nil))))
 (.block 0
 (.loop ⟨[.val 14 (Ty.i .i64), .box 2 1 (Ty.st .Ballot) []], [0, 2, 5, 7, 8, 12, 13]⟩
 (sr
 (op 15 (.bin .lss (tm 14) (tm 13))
 .nil)
 (.seq
 (.cond (tm 15)
 .skip
 (.exit 0))
 (.seq
 (.block 1
 (sr
 (ia 16 2 12 14
 (ldk 17 2 16
 (op 10 (.alloc [.int .i64 0, .str ⟨#[]⟩])
 (ops (.store 2 (tm 10) (tm 17))
 .nil))))
 (sr
 (fa 18 0 10
 (ld 19 18
 (op 20 (.bin .leq (tm 19) (ci 1000))
 (mv 21 20
 (.ite 21 true
 (opg 22 21 true (.load (some 2) (tm 7))
 (opg 23 21 true (.load (some 2) (tm 10))
 (opg 24 21 true (.call 15 [(tm 22), (tm 23)])
 .nil)))
 25 none (tm 24) (.cst (.bool false))
 (mv 26 25
 (.ite 26 true
 (opg 27 26 true (.mov (tm 0))
 (opg 28 26 true (.load (some 3) (tm 5))
 (opg 29 26 true (.mov (tm 2))
 (opg 30 26 true (.load (some 2) (tm 10))
 (opg 31 26 true (.call 50 [(tm 27), (tm 28), (tm 29), (tm 30)])
 .nil)))))
 32 none (tm 31) (.cst (.bool false))
 .nil)))))))
 (.cond (tm 32)
 (sr
 (ldk 33 2 10
 (ops (.store 2 (tm 8) (tm 33))
 .nil))
 .ret)
 .skip))))
 (.reg
 (op 34 (.bin .add (tm 14) (ci 1))
 (mv 14 34
 .nil)))))))))
 (sr
 (op 35 (.build [.int .i64 0, .str ⟨#[]⟩] [])
 (ops (.store 2 (tm 8) (tm 35))
 .nil))
 .ret)))
noncomputable def F_ref25_Highest (a0 : Int) (a1 : TTrust) (a2 : (List TEnvelope)) (a3 : TBallot) : Option TBallot :=
 Option.bind (F_ref24_Ballots a2) fun r1 =>
 loopO (fun (v2 : Int × TBallot × Unit) =>
 bif (decide (v2.1 < ((List.length r1 : Nat) : Int))) then
 Option.bind (idx r1 v2.1) fun x3 =>
 Option.bind (bif (decide (x3.Counter ≤ (1000 : Int))) then
 Option.bind (F_ref23_Less a3 x3) fun r4 =>
 some r4
 else some false) fun b5 =>
 Option.bind (bif b5 then
 Option.bind (F_ref25_Confirms a0 (TTrust.mk a1.Threshold a1.Nodes a1.Inner) a2 x3) fun r6 =>
 some r6
 else some false) fun b7 =>
 bif b7 then
 Option.map Sum.inr (some x3)
 else
 some (Sum.inl ((addI .i64 v2.1 (1 : Int)), v2.2.1, ()))
 else
 Option.map Sum.inr (some (TBallot.mk (0 : Int) (ByteArray.mk #[])))) ((0 : Int), (TBallot.mk (0 : Int) (ByteArray.mk #[])), ())
noncomputable def k_ref25_Highest : KS U Tryz.prog := ⟨.fn 53 [.ty (Ty.i .i64), .ty (Ty.st .Trust), .ty (Ty.sl (Ty.st .Envelope)), .ty (Ty.st .Ballot)] (.one (Ty.st .Ballot)) fun a => F_ref25_Highest a.1 a.2.1 a.2.2.1 a.2.2.2.1, fnS (K := K) sa_ref25_Highest 36 [.cell 8 (some 2)] [k_ref24_Ballots, k_ref23_Less, k_ref25_Confirms] (fk Tryz.f53 [] Tryz.func53)⟩

/-! ### trustquorum/trustquorumlaw25.PrepareExact -/
def sa_law25_PrepareExact : SA U :=
 (sr
 (op 10 (.box (tm 2))
 (op 12 (.box (tm 4))
 (op 13 (.box (tm 5))
 (op 14 (.box (tm 6))
 (op 16 (.mov (.cst (.bool false)))
 .nil)))))
 (.seq
 (sr
 (mv 30 1
 (cl 31 42 [30]
 (op 32 (.not (tm 31))
 (mv 33 32
 (.ite 33 false
 (opg 34 33 false (.load (some 3) (tm 10))
 (opg 35 33 false (.call 43 [(tm 34)])
 (opg 36 33 false (.not (tm 35))
 .nil)))
 37 none (.cst (.bool true)) (tm 36)
 (mv 38 37
 (.ite 38 false
 (opg 39 38 false (.faddr 1 (tm 12))
 (opg 40 38 false (.load none (tm 39))
 (opg 41 38 false (.len true (tm 40))
 (opg 42 38 false (.faddr 1 (tm 13))
 (opg 43 38 false (.load none (tm 42))
 (opg 44 38 false (.len true (tm 43))
 (opg 45 38 false (.bin .add (tm 41) (tm 44))
 (opg 46 38 false (.faddr 1 (tm 14))
 (opg 47 38 false (.load none (tm 46))
 (opg 48 38 false (.len true (tm 47))
 (opg 49 38 false (.bin .add (tm 45) (tm 48))
 (opg 50 38 false (.mov (tm 7))
 (opg 51 38 false (.len true (tm 50))
 (opg 52 38 false (.bin .add (tm 49) (tm 51))
 (opg 53 38 false (.bin .gtr (tm 52) (ci 600))
 .nil)))))))))))))))
 54 none (.cst (.bool true)) (tm 53)
 .nil)))))))
 (.cond (tm 54)
 (sr
 (cl 55 41 []
 (mv 16 55
 .nil))
 .ret)
 .skip))
 (sr
 (mv 56 0
 (cl 57 11 [56]
 (mv 17 57
 .nil)))
 (sr
 (mv 58 17
 (op 59 (.call 12 [(tm 58), (ci 5), (ci 1)])
 (mv 18 59
 .nil)))
 (.seq
 (.seq
 (.drw [(0, 1), (0, 2), (1, 2), (0, 5), (1, 5), (2, 5), (0, 7), (1, 7), (2, 7), (0, 9), (1, 9), (2, 9), (0, 12), (1, 12), (2, 12), (0, 15), (1, 15), (2, 15), (0, 19), (1, 19), (2, 19)]
 (ldk 60 2 12
 (ldk 61 2 13
 (ldk 62 2 14
 (op 63 (.build [.int .i64 0, .str ⟨#[]⟩, .int .i64 0, .str ⟨#[]⟩, .int .i64 0, .str ⟨#[]⟩] [(0, 2, (tm 60)), (2, 2, (tm 61)), (4, 2, (tm 62))])
 (mv 64 17
 (cl 65 44 [64]
 (mv 66 17
 (cl 67 44 [66]
 (mv 68 17
 (cl 69 44 [68]
 (op 70 (.build [.int .i64 0, .str ⟨#[]⟩, .int .i64 0, .str ⟨#[]⟩, .int .i64 0, .str ⟨#[]⟩] [(0, 2, (tm 65)), (2, 2, (tm 67)), (4, 2, (tm 69))])
 (mv 71 17
 (cl 72 33 [71]
 (op 73 (.build [.int .i64 0, .str ⟨#[]⟩] [])
 (mv 74 17
 (cl 75 33 [74]
 (op 76 (.build [.int .i64 0, .str ⟨#[]⟩, .int .i64 0, .str ⟨#[]⟩, .int .i64 0, .str ⟨#[]⟩] [(0, 2, (tm 72)), (2, 2, (tm 73)), (4, 2, (tm 75))])
 (op 77 (.build [.int .i64 0, .str ⟨#[]⟩] [])
 (mv 78 17
 (cl 79 33 [78]
 (op 80 (.build [.int .i64 0, .str ⟨#[]⟩] [])
 (op 81 (.build [.int .i64 0, .str ⟨#[]⟩, .int .i64 0, .str ⟨#[]⟩, .int .i64 0, .str ⟨#[]⟩] [(0, 2, (tm 77)), (2, 2, (tm 79)), (4, 2, (tm 80))])
 (op 82 (.build [.int .i64 0, .str ⟨#[]⟩, .int .i64 0, .str ⟨#[]⟩, .int .i64 0, .str ⟨#[]⟩, .int .i64 0, .str ⟨#[]⟩, .int .i64 0, .str ⟨#[]⟩, .int .i64 0, .str ⟨#[]⟩, .int .i64 0, .str ⟨#[]⟩, .int .i64 0, .str ⟨#[]⟩, .int .i64 0, .str ⟨#[]⟩, .int .i64 0, .str ⟨#[]⟩, .int .i64 0, .str ⟨#[]⟩, .int .i64 0, .str ⟨#[]⟩] [(0, 6, (tm 63)), (6, 6, (tm 70)), (12, 6, (tm 76)), (18, 6, (tm 81))])
 (mc 83 0
 .nil)))))))))))))))))))))))))
 (.block 0
 (.loop ⟨[.val 83 (Ty.i .i64), .box 31 1 (Ty.st .Src) []], [1, 3, 7, 10, 17, 18, 82]⟩
 (sr
 (op 84 (.bin .lss (tm 83) (ci 4))
 .nil)
 (.seq
 (.cond (tm 84)
 .skip
 (.exit 0))
 (.seq
 (.block 1
 (sr
 (op 85 (.aidx 64 (some 6) 4 6 (tm 82) (tm 83))
 (op 20 (.alloc [.int .i64 0, .str ⟨#[]⟩, .int .i64 0, .str ⟨#[]⟩, .int .i64 0, .str ⟨#[]⟩])
 (ops (.store 6 (tm 20) (tm 85))
 .nil)))
 (sr
 (op 87 (.aaddr 2 3 (tm 20) (ci 0))
 (ldk 88 2 87
 (op 89 (.aaddr 2 3 (tm 20) (ci 1))
 (ldk 90 2 89
 (op 91 (.aaddr 2 3 (tm 20) (ci 2))
 (ldk 92 2 91
 (cl 93 45 [88, 90, 92]
 (mv 86 93
 (op 94 (.extr 0 (tm 86))
 (op 95 (.extr 1 (tm 86))
 (op 21 (.alloc [.int .i64 0, .str ⟨#[]⟩])
 (op 22 (.alloc [.int .i64 0, .str ⟨#[]⟩])
 (ops (.store 2 (tm 21) (tm 94))
 (ops (.store 2 (tm 22) (tm 95))
 .nil))))))))))))))
 (sr
 (op 97 (.aaddr 2 3 (tm 20) (ci 0))
 (ldk 98 2 97
 (op 99 (.aaddr 2 3 (tm 20) (ci 1))
 (ldk 100 2 99
 (op 101 (.aaddr 2 3 (tm 20) (ci 2))
 (ldk 102 2 101
 (cl 103 37 [98, 100, 102]
 (mv 96 103
 (op 104 (.extr 0 (tm 96))
 (op 105 (.extr 1 (tm 96))
 (op 23 (.alloc [.int .i64 0, .str ⟨#[]⟩])
 (op 24 (.alloc [.int .i64 0, .str ⟨#[]⟩])
 (ops (.store 2 (tm 23) (tm 104))
 (ops (.store 2 (tm 24) (tm 105))
 .nil))))))))))))))
 (.seq
 (sr
 (ldk 106 2 21
 (ldk 107 2 23
 (op 108 (.eq2 true (tm 106) (tm 107))
 (mv 109 108
 (.ite 109 false
 (opg 110 109 false (.load (some 2) (tm 22))
 (opg 111 109 false (.load (some 2) (tm 24))
 (opg 112 109 false (.eq2 true (tm 110) (tm 111))
 .nil)))
 113 none (.cst (.bool true)) (tm 112)
 .nil)))))
 (.cond (tm 113)
 (sr
 (op 16 (.mov (.cst (.bool false)))
 .nil)
 .ret)
 .skip))
 (sr
 (mv 114 18
 (mv 115 1
 (op 116 (.build [.nils, .nils] [(0, 1, (tm 114)), (1, 1, (tm 115))])
 (mc 117 0
 .nil))))
 (.block 2
 (.loop ⟨[.val 117 (Ty.i .i64), .box 31 1 (Ty.st .Src) []], [1, 3, 7, 10, 17, 18, 20, 82, 83, 116]⟩
 (sr
 (op 118 (.bin .lss (tm 117) (ci 2))
 .nil)
 (.seq
 (.cond (tm 118)
 .skip
 (.exit 2))
 (.seq
 (.block 3
 (sr
 (mv 119 117
 (op 120 (.aidx 25 none 2 1 (tm 116) (tm 117))
 (mv 25 119
 (mv 26 120
 .nil))))
 (sr
 (mv 121 17
 (op 122 (.call 22 [(tm 121), (ci 5)])
 (mv 123 3
 (op 124 (.build [.int .i64 0, .int .i64 0] [(0, 1, (tm 122)), (1, 1, (tm 123))])
 (mc 125 0
 .nil)))))
 (.block 4
 (.loop ⟨[.val 125 (Ty.i .i64), .box 31 1 (Ty.st .Src) []], [1, 3, 7, 10, 17, 18, 20, 25, 26, 82, 83, 116, 117, 124]⟩
 (sr
 (op 126 (.bin .lss (tm 125) (ci 2))
 .nil)
 (.seq
 (.cond (tm 126)
 .skip
 (.exit 4))
 (.seq
 (.block 5
 (sr
 (op 127 (.aidx 3 none 2 1 (tm 124) (tm 125))
 (mv 28 127
 .nil))
 (sr
 (ldk 128 3 10
 (op 29 (.alloc [.int .i64 0, .nils, .nils])
 (ops (.store 3 (tm 29) (tm 128))
 .nil)))
 (.join ⟨[.box 31 1 (Ty.st .Src) [], .box 118 1 (Ty.st .Trust) []], [1, 3, 7, 10, 17, 18, 20, 25, 26, 28, 29, 82, 83, 116, 117, 124, 125]⟩
 (sr
 (mv 129 25
 (op 130 (.bin .eql (tm 129) (ci 0))
 .nil))
 (.cond (tm 130)
 (.reg
 (mv 131 17
 (op 132 (.call 23 [(tm 131), (ci 5)])
 (ops (.store 3 (tm 29) (tm 132))
 .nil))))
 .skip))
 (.seq
 (.join ⟨[.val 172 Ty.bool], [1, 3, 7, 10, 17, 18, 20, 25, 26, 28, 29, 82, 83, 116, 117, 124, 125]⟩
 (.drw [(1, 5), (3, 5), (12, 14), (12, 15), (12, 18), (14, 18), (15, 18), (16, 18), (12, 20), (14, 20), (15, 20), (16, 20), (18, 20), (12, 21), (14, 21), (15, 21), (16, 21), (18, 21), (27, 29), (27, 30), (27, 33), (29, 33), (30, 33), (31, 33), (27, 35), (29, 35), (30, 35), (31, 35), (33, 35), (27, 36), (29, 36), (30, 36), (31, 36), (33, 36)]
 (mv 133 28
 (ldk 134 3 29
 (mv 135 26
 (cl 136 47 [133, 134, 135]
 (mv 137 28
 (ldk 138 3 29
 (mv 139 26
 (cl 140 48 [137, 138, 139]
 (cl 141 46 [136, 140]
 (op 142 (.not (tm 141))
 (mv 143 142
 (.spl 143
 (opg 144 143 false (.mov (tm 28))
 (opg 145 143 false (.load (some 3) (tm 29))
 (opg 146 143 false (.mov (tm 26))
 (opg 147 143 false (.aaddr 2 3 (tm 20) (ci 2))
 (opg 148 143 false (.load (some 2) (tm 147))
 (opg 149 143 false (.call 35 [(tm 144), (tm 145), (tm 146), (tm 148)])
 (opg 150 143 false (.mov (tm 28))
 (opg 151 143 false (.load (some 3) (tm 29))
 (opg 152 143 false (.mov (tm 26))
 (opg 153 143 false (.aaddr 2 3 (tm 20) (ci 2))
 (opg 154 143 false (.load (some 2) (tm 153))
 (opg 155 143 false (.call 49 [(tm 150), (tm 151), (tm 152), (tm 154)])
 (opg 156 143 false (.eqb true (tm 149) (tm 155))
 (op 157 (.pick (tm 143) (.cst (.bool true)) (tm 156))
 (mv 158 157
 (.spl 158
 (opg 159 158 false (.mov (tm 28))
 (opg 160 158 false (.load (some 3) (tm 29))
 (opg 161 158 false (.mov (tm 26))
 (opg 162 158 false (.aaddr 2 3 (tm 20) (ci 2))
 (opg 163 158 false (.load (some 2) (tm 162))
 (opg 164 158 false (.call 36 [(tm 159), (tm 160), (tm 161), (tm 163)])
 (opg 165 158 false (.mov (tm 28))
 (opg 166 158 false (.load (some 3) (tm 29))
 (opg 167 158 false (.mov (tm 26))
 (opg 168 158 false (.aaddr 2 3 (tm 20) (ci 2))
 (opg 169 158 false (.load (some 2) (tm 168))
 (opg 170 158 false (.call 50 [(tm 165), (tm 166), (tm 167), (tm 169)])
 (opg 171 158 false (.eqb true (tm 164) (tm 170))
 (op 172 (.pick (tm 158) (.cst (.bool true)) (tm 171))
 .nil)))))))))))))))))))))))))))))))))))))))))))
 (.cond (tm 172)
 (sr
 (op 16 (.mov (.cst (.bool false)))
 .nil)
 .ret)
 .skip))
 (.join ⟨[.val 225 Ty.bool], [1, 3, 7, 10, 17, 18, 20, 25, 26, 82, 83, 116, 117, 124, 125]⟩
 (.drw [(1, 3), (1, 4), (1, 5), (3, 5), (4, 5), (1, 6), (3, 6), (4, 6), (1, 10), (3, 10), (4, 10), (5, 10), (6, 10), (8, 10), (1, 12), (3, 12), (4, 12), (5, 12), (6, 12), (8, 12), (10, 12), (1, 13), (3, 13), (4, 13), (5, 13), (6, 13), (8, 13), (10, 13), (1, 14), (3, 14), (4, 14), (5, 14), (6, 14), (8, 14), (10, 14), (12, 14), (13, 14), (1, 15), (3, 15), (4, 15), (5, 15), (6, 15), (8, 15), (10, 15), (12, 15), (13, 15), (21, 23), (21, 24), (21, 25), (23, 25), (24, 25), (21, 26), (23, 26), (24, 26), (21, 29), (23, 29), (24, 29), (25, 29), (26, 29), (27, 29), (21, 31), (23, 31), (24, 31), (25, 31), (26, 31), (27, 31), (29, 31), (21, 32), (23, 32), (24, 32), (25, 32), (26, 32), (27, 32), (29, 32), (21, 33), (23, 33), (24, 33), (25, 33), (26, 33), (27, 33), (29, 33), (31, 33), (32, 33), (21, 34), (23, 34), (24, 34), (25, 34), (26, 34), (27, 34), (29, 34), (31, 34), (32, 34), (40, 42), (40, 43), (40, 46), (42, 46), (43, 46), (44, 46), (40, 48), (42, 48), (43, 48), (44, 48), (46, 48), (40, 49), (42, 49), (43, 49), (44, 49), (46, 49)]
 (mv 173 28
 (ldk 174 3 29
 (mv 175 26
 (op 176 (.aaddr 2 3 (tm 20) (ci 0))
 (ldk 177 2 176
 (op 178 (.aaddr 2 3 (tm 20) (ci 1))
 (ldk 179 2 178
 (mv 180 7
 (cl 181 38 [173, 174, 175, 177, 179, 180]
 (mv 182 28
 (ldk 183 3 29
 (mv 184 26
 (op 185 (.aaddr 2 3 (tm 20) (ci 0))
 (ldk 186 2 185
 (op 187 (.aaddr 2 3 (tm 20) (ci 1))
 (ldk 188 2 187
 (mv 189 7
 (cl 190 51 [182, 183, 184, 186, 188, 189]
 (op 191 (.eq2 true (tm 181) (tm 190))
 (mv 192 191
 (.spl 192
 (opg 193 192 false (.mov (tm 28))
 (opg 194 192 false (.load (some 3) (tm 29))
 (opg 195 192 false (.mov (tm 26))
 (opg 196 192 false (.aaddr 2 3 (tm 20) (ci 0))
 (opg 197 192 false (.load (some 2) (tm 196))
 (opg 198 192 false (.aaddr 2 3 (tm 20) (ci 1))
 (opg 199 192 false (.load (some 2) (tm 198))
 (opg 200 192 false (.call 38 [(tm 193), (tm 194), (tm 195), (tm 197), (tm 199), (.cst (.str ⟨#[]⟩))])
 (opg 201 192 false (.mov (tm 28))
 (opg 202 192 false (.load (some 3) (tm 29))
 (opg 203 192 false (.mov (tm 26))
 (opg 204 192 false (.aaddr 2 3 (tm 20) (ci 0))
 (opg 205 192 false (.load (some 2) (tm 204))
 (opg 206 192 false (.aaddr 2 3 (tm 20) (ci 1))
 (opg 207 192 false (.load (some 2) (tm 206))
 (opg 208 192 false (.call 51 [(tm 201), (tm 202), (tm 203), (tm 205), (tm 207), (.cst (.str ⟨#[]⟩))])
 (opg 209 192 false (.eq2 true (tm 200) (tm 208))
 (op 210 (.pick (tm 192) (.cst (.bool true)) (tm 209))
 (mv 211 210
 (.spl 211
 (opg 212 211 false (.mov (tm 28))
 (opg 213 211 false (.load (some 3) (tm 29))
 (opg 214 211 false (.mov (tm 26))
 (opg 215 211 false (.aaddr 2 3 (tm 20) (ci 0))
 (opg 216 211 false (.load (some 2) (tm 215))
 (opg 217 211 false (.call 52 [(tm 212), (tm 213), (tm 214), (tm 216)])
 (opg 218 211 false (.mov (tm 28))
 (opg 219 211 false (.load (some 3) (tm 29))
 (opg 220 211 false (.mov (tm 26))
 (opg 221 211 false (.aaddr 2 3 (tm 20) (ci 0))
 (opg 222 211 false (.load (some 2) (tm 221))
 (opg 223 211 false (.call 53 [(tm 218), (tm 219), (tm 220), (tm 222)])
 (opg 224 211 false (.eq2 true (tm 217) (tm 223))
 (op 225 (.pick (tm 211) (.cst (.bool true)) (tm 224))
 .nil))))))))))))))))))))))))))))))))))))))))))))))))))))))))
 (.cond (tm 225)
 (sr
 (op 16 (.mov (.cst (.bool false)))
 .nil)
 .ret)
 .skip)))))))
 (.reg
 (op 226 (.bin .add (tm 125) (ci 1))
 (mv 125 226
 .nil)))))))))))
 (.reg
 (op 227 (.bin .add (tm 117) (ci 1))
 (mv 117 227
 .nil))))))))))))))
 (.reg
 (op 228 (.bin .add (tm 83) (ci 1))
 (mv 83 228
 .nil)))))))))
 (sr
 (cl 229 41 []
 (mv 16 229
 .nil))
 .ret))))))
noncomputable def F_law25_PrepareExact (a0 : (List Int)) (a1 : (List TEnvelope)) (a2 : TTrust) (a3 : Int) (a4 : TBallot) (a5 : TBallot) (a6 : TBallot) (a7 : ByteArray) : Option Bool :=
 Option.bind (F_law25_few a1) fun r1 =>
 Option.bind (bif (!r1) then some true
 else
 Option.bind (F_law25_thin (TTrust.mk a2.Threshold a2.Nodes a2.Inner)) fun r2 =>
 some (!r2)) fun b3 =>
 Option.bind (bif b3 then some true
 else
 some (decide ((600 : Int) < (addI .i64 (addI .i64 (addI .i64 ((ByteArray.size a4.Value : Nat) : Int) ((ByteArray.size a5.Value : Nat) : Int)) ((ByteArray.size a6.Value : Nat) : Int)) ((ByteArray.size a7 : Nat) : Int))))) fun b4 =>
 bif b4 then
 Option.bind (F_law25_sane) fun r5 =>
 some r5
 else
 Option.bind (F_play_New a0) fun r6 =>
 Option.bind (F_play_Src_Envelopes r6 (5 : Int) (1 : Int)) fun p7 =>
 Option.bind (F_play_Src_Ballot p7.2) fun p8 =>
 Option.bind (F_play_Src_Ballot p8.2) fun p9 =>
 Option.bind (F_play_Src_Ballot p9.2) fun p10 =>
 Option.bind (F_play_Src_Low p10.2) fun p11 =>
 Option.bind (F_play_Src_Low p11.2) fun p12 =>
 Option.bind (F_play_Src_Low p12.2) fun p13 =>
 loopO (fun (v14 : Int × TSrc × Unit) =>
 bif (decide (v14.1 < (4 : Int))) then
 Option.bind (idx [(TArr3Ballot.mk a4 a5 a6), (TArr3Ballot.mk p8.1 p9.1 p10.1), (TArr3Ballot.mk p11.1 (TBallot.mk (0 : Int) (ByteArray.mk #[])) p12.1), (TArr3Ballot.mk (TBallot.mk (0 : Int) (ByteArray.mk #[])) p13.1 (TBallot.mk (0 : Int) (ByteArray.mk #[])))] v14.1) fun x15 =>
 Option.bind (F_prepare_Join x15.c0 x15.c1 x15.c2) fun r16 =>
 Option.bind (F_ref25_Join x15.c0 x15.c1 x15.c2) fun r17 =>
 Option.bind (bif (eq2 true r16.1.Counter r17.1.Counter r16.1.Value r17.1.Value) then some true
 else
 some (eq2 true r16.2.1.Counter r17.2.1.Counter r16.2.1.Value r17.2.1.Value)) fun b18 =>
 bif b18 then
 Option.map Sum.inr (some false)
 else
 loopO (fun (v19 : Int × TSrc × Unit) =>
 bif (decide (v19.1 < (2 : Int))) then
 Option.bind (idx [p7.1, a1] v19.1) fun x20 =>
 Option.bind (F_play_Src_N v19.2.1 (5 : Int)) fun p21 =>
 loopO (fun (v22 : Int × TSrc × Unit) =>
 bif (decide (v22.1 < (2 : Int))) then
 Option.bind (idx [p21.1, a3] v22.1) fun x23 =>
 letJ (fun (v24 : TSrc × TTrust × Unit) =>
 letJ (fun (v26 : Bool × Unit) =>
 bif v26.1 then
 Option.map Sum.inr (Option.map Sum.inr (Option.map Sum.inr (some false)))
 else
 letJ (fun (v28 : Bool × Unit) =>
 bif v28.1 then
 Option.map Sum.inr (Option.map Sum.inr (Option.map Sum.inr (some false)))
 else
 some (Sum.inl ((addI .i64 v22.1 (1 : Int)), v24.1, ()))) fun j29 =>
 Option.bind (F_prepare_Next x23 (TTrust.mk v24.2.1.Threshold v24.2.1.Nodes v24.2.1.Inner) x20 x15.c0 x15.c1 a7) fun r30 =>
 Option.bind (F_ref25_Next x23 (TTrust.mk v24.2.1.Threshold v24.2.1.Nodes v24.2.1.Inner) x20 x15.c0 x15.c1 a7) fun r31 =>
 bif (eq2 true r30.Counter r31.Counter r30.Value r31.Value) then
 j29 (true, ())
 else
 Option.bind (F_prepare_Next x23 (TTrust.mk v24.2.1.Threshold v24.2.1.Nodes v24.2.1.Inner) x20 x15.c0 x15.c1 (ByteArray.mk #[])) fun r32 =>
 Option.bind (F_ref25_Next x23 (TTrust.mk v24.2.1.Threshold v24.2.1.Nodes v24.2.1.Inner) x20 x15.c0 x15.c1 (ByteArray.mk #[])) fun r33 =>
 bif (eq2 true r32.Counter r33.Counter r32.Value r33.Value) then
 j29 (true, ())
 else
 Option.bind (F_prepare_Highest x23 (TTrust.mk v24.2.1.Threshold v24.2.1.Nodes v24.2.1.Inner) x20 x15.c0) fun r34 =>
 Option.bind (F_ref25_Highest x23 (TTrust.mk v24.2.1.Threshold v24.2.1.Nodes v24.2.1.Inner) x20 x15.c0) fun r35 =>
 j29 ((eq2 true r34.Counter r35.Counter r34.Value r35.Value), ())) fun j27 =>
 Option.bind (F_prepare_View x23 (TTrust.mk v24.2.1.Threshold v24.2.1.Nodes v24.2.1.Inner) x20) fun r36 =>
 Option.bind (F_ref25_View x23 (TTrust.mk v24.2.1.Threshold v24.2.1.Nodes v24.2.1.Inner) x20) fun r37 =>
 Option.bind (F_law25_same r36 r37) fun r38 =>
 bif (!r38) then
 j27 (true, ())
 else
 Option.bind (F_prepare_Accepts x23 (TTrust.mk v24.2.1.Threshold v24.2.1.Nodes v24.2.1.Inner) x20 x15.c2) fun r39 =>
 Option.bind (F_ref25_Accepts x23 (TTrust.mk v24.2.1.Threshold v24.2.1.Nodes v24.2.1.Inner) x20 x15.c2) fun r40 =>
 bif (xor true (decide (r39 = r40))) then
 j27 (true, ())
 else
 Option.bind (F_prepare_Confirms x23 (TTrust.mk v24.2.1.Threshold v24.2.1.Nodes v24.2.1.Inner) x20 x15.c2) fun r41 =>
 Option.bind (F_ref25_Confirms x23 (TTrust.mk v24.2.1.Threshold v24.2.1.Nodes v24.2.1.Inner) x20 x15.c2) fun r42 =>
 j27 ((xor true (decide (r41 = r42))), ())) fun j25 =>
 bif (decide (v19.1 = (0 : Int))) then
 Option.bind (F_play_Src_Trust v22.2.1 (5 : Int)) fun p43 =>
 j25 (p43.2, (TTrust.mk p43.1.Threshold p43.1.Nodes p43.1.Inner), ())
 else
 j25 (v22.2.1, (TTrust.mk a2.Threshold a2.Nodes a2.Inner), ())
 else
 Option.map Sum.inr (some (Sum.inl ((addI .i64 v19.1 (1 : Int)), v22.2.1, ())))) ((0 : Int), p21.2, ())
 else
 Option.map Sum.inr (some (Sum.inl ((addI .i64 v14.1 (1 : Int)), v19.2.1, ())))) ((0 : Int), v14.2.1, ())
 else
 Option.map Sum.inr (Option.bind (F_law25_sane) fun r44 =>
 some r44)) ((0 : Int), p13.2, ())
noncomputable def k_law25_PrepareExact : KS U Tryz.prog := ⟨.fn 7 [.ty (Ty.sl (Ty.i .i64)), .ty (Ty.sl (Ty.st .Envelope)), .ty (Ty.st .Trust), .ty (Ty.i .i64), .ty (Ty.st .Ballot), .ty (Ty.st .Ballot), .ty (Ty.st .Ballot), .ty Ty.str] (.one Ty.bool) fun a => F_law25_PrepareExact a.1 a.2.1 a.2.2.1 a.2.2.2.1 a.2.2.2.2.1 a.2.2.2.2.2.1 a.2.2.2.2.2.2.1 a.2.2.2.2.2.2.2.1, fnS (K := K) sa_law25_PrepareExact 230 [.tmp 16] [k_law25_few, k_law25_thin, k_law25_sane, k_play_New, k_play_Src_Envelopes, k_play_Src_Ballot, k_play_Src_Low, k_prepare_Join, k_ref25_Join, k_play_Src_N, k_play_Src_Trust, k_prepare_View, k_ref25_View, k_law25_same, k_prepare_Accepts, k_ref25_Accepts, k_prepare_Confirms, k_ref25_Confirms, k_prepare_Next, k_ref25_Next, k_prepare_Highest, k_ref25_Highest] (fk Tryz.f7 [] Tryz.func7)⟩

end Go.Proofs.YtncjalhhkmojlaaGreat
