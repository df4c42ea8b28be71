/-
  Functions of the program as plain functions, each held against the program by the kernel. Printed by a program.
-/
import Derived.Test.YtncjalhhkmojlaaGreatCommitExactFnA
import Derived.Test.YtncjalhhkmojlaaGreatProg
import Derived.KernelRfl
set_option linter.unusedVariables false
namespace Go.Proofs.YtncjalhhkmojlaaGreat
open Go.TQ

/-! ### trustquorum/trustquorumlaw26.CommitExact -/
noncomputable def sa_law26_CommitExact : SA U := annA (scOf Tryz.prog 277 [] Tryz.f8) (.r (.r (.r (.l (.r (.l (.j ⟨[.val 78 (Ty.i .i64), .box 26 1 (Ty.st .Src) []], [3, 6, 7, 8, 11, 13, 14, 19, 77]⟩ (.l (.r (.r (.l (.l (.r (.r (.l (.j ⟨[.val 86 (Ty.i .i64), .box 26 1 (Ty.st .Src) []], [3, 6, 7, 8, 11, 13, 14, 19, 20, 21, 77, 78, 85]⟩ (.l (.r (.r (.l (.l (.r (.r (.j ⟨[.box 26 1 (Ty.st .Src) [], .box 48 1 (Ty.st .Trust) []], [3, 6, 7, 8, 11, 13, 14, 19, 20, 21, 23, 24, 77, 78, 85, 86]⟩ (.r (.b (.r (.l (.j ⟨[.val 98 (Ty.i .i64), .box 26 1 (Ty.st .Src) []], [3, 6, 7, 8, 11, 13, 14, 19, 20, 21, 23, 24, 77, 78, 85, 86, 97]⟩ (.l (.r (.r (.l (.l (.r (.l (.r (.l (.j ⟨[.val 110 (Ty.i .i64)], [3, 6, 7, 8, 11, 13, 14, 19, 20, 21, 23, 24, 26, 77, 78, 85, 86, 97, 98, 109]⟩ (.l (.r (.r (.l (.l (.r (.l (.j ⟨[.val 152 Ty.bool], [3, 6, 7, 8, 11, 13, 14, 19, 20, 21, 23, 24, 26, 28, 77, 78, 85, 86, 97, 98, 109, 110]⟩ .e))))))))))))))))))))) (.r (.l (.j ⟨[.val 226 (Ty.i .i64)], [3, 6, 7, 8, 11, 13, 14, 19, 20, 21, 23, 24, 77, 78, 85, 86, 225]⟩ .e)))))))))))))))))))))))))))))
noncomputable def F_law26_CommitExact (a0 : (List Int)) (a1 : (List TEnvelope)) (a2 : TTrust) (a3 : Int) (a4 : TBallot) (a5 : TBallot) (a6 : ByteArray) (a7 : Int) (a8 : Int) : Option Bool :=
 Option.bind (F_law26_few a1) fun r1 =>
 Option.bind (bif (!r1) then some true
 else
 Option.bind (F_law26_thin (TTrust.mk a2.Threshold a2.Nodes a2.Inner)) fun r2 =>
 some (!r2)) fun b3 =>
 Option.bind (bif b3 then some true
 else
 some (decide ((500 : Int) < (addI .i64 (addI .i64 ((ByteArray.size a4.Value : Nat) : Int) ((ByteArray.size a5.Value : Nat) : Int)) ((ByteArray.size a6 : Nat) : Int))))) fun b4 =>
 bif b4 then
 Option.bind (F_law26_sane) fun r5 =>
 some r5
 else
 Option.bind (F_play_New a0) fun r6 =>
 Option.bind (F_play_Src_Envelopes r6 (5 : Int) (1 : Int)) fun p7 =>
 Option.bind (F_law26_commits) fun r8 =>
 loopO (fun (v9 : Int × TSrc × Unit) =>
 bif (decide (v9.1 < (3 : Int))) then
 Option.bind (idx [p7.1, a1, r8] v9.1) fun x10 =>
 Option.bind (F_play_Src_N v9.2.1 (5 : Int)) fun p11 =>
 loopO (fun (v12 : Int × TSrc × Unit) =>
 bif (decide (v12.1 < (2 : Int))) then
 Option.bind (idx [p11.1, a3] v12.1) fun x13 =>
 letJ (fun (v14 : TSrc × TTrust × Unit) =>
 Option.bind (F_play_Src_Value v14.1) fun p16 =>
 loopO (fun (v17 : Int × TSrc × Unit) =>
 bif (decide (v17.1 < (2 : Int))) then
 Option.bind (idx [a6, p16.1] v17.1) fun x18 =>
 Option.bind (F_play_Src_Range v17.2.1 (1 : Int) (4 : Int)) fun p19 =>
 Option.bind (F_play_Src_Range p19.2 (1 : Int) (6 : Int)) fun p20 =>
 loopO (fun (v21 : Int × Unit) =>
 bif (decide (v21.1 < (2 : Int))) then
 Option.bind (idx [(TArr2I64.mk a7 a8), (TArr2I64.mk p19.1 p20.1)] v21.1) fun x22 =>
 letJ (fun (v23 : Bool × Unit) =>
 bif v23.1 then
 Option.map Sum.inr (Option.map Sum.inr (Option.map Sum.inr (Option.map Sum.inr (some false))))
 else
 Option.bind (F_commit_Extend x13 (TTrust.mk v14.2.1.Threshold v14.2.1.Nodes v14.2.1.Inner) x10 x18 x22.c0 x22.c1) fun r25 =>
 Option.bind (F_ref26_Extend x13 (TTrust.mk v14.2.1.Threshold v14.2.1.Nodes v14.2.1.Inner) x10 x18 x22.c0 x22.c1) fun r26 =>
 Option.bind (bif (!decide (r25.1 = r26.1)) then some true
 else
 some (!decide (r25.2.1 = r26.2.1))) fun b27 =>
 bif b27 then
 Option.map Sum.inr (Option.map Sum.inr (Option.map Sum.inr (Option.map Sum.inr (some false))))
 else
 some (Sum.inl ((addI .i64 v21.1 (1 : Int)), ()))) fun j24 =>
 Option.bind (F_commit_Accepts x13 (TTrust.mk v14.2.1.Threshold v14.2.1.Nodes v14.2.1.Inner) x10 x18 x22.c0 x22.c1) fun r28 =>
 Option.bind (F_ref26_Accepts x13 (TTrust.mk v14.2.1.Threshold v14.2.1.Nodes v14.2.1.Inner) x10 x18 x22.c0 x22.c1) fun r29 =>
 bif (xor true (decide (r28 = r29))) then
 j24 (true, ())
 else
 Option.bind (F_commit_Confirms x13 (TTrust.mk v14.2.1.Threshold v14.2.1.Nodes v14.2.1.Inner) x10 x18 x22.c0 x22.c1) fun r30 =>
 Option.bind (F_ref26_Confirms x13 (TTrust.mk v14.2.1.Threshold v14.2.1.Nodes v14.2.1.Inner) x10 x18 x22.c0 x22.c1) fun r31 =>
 j24 ((xor true (decide (r30 = r31))), ())
 else
 Option.map Sum.inr (Option.bind (F_commit_Final x13 (TTrust.mk v14.2.1.Threshold v14.2.1.Nodes v14.2.1.Inner) x10 x18) fun r32 =>
 Option.bind (F_ref26_Final x13 (TTrust.mk v14.2.1.Threshold v14.2.1.Nodes v14.2.1.Inner) x10 x18) fun r33 =>
 Option.bind (bif (!decide (r32.1 = r33.1)) then some true
 else
 some (!decide (r32.2.1 = r33.2.1))) fun b34 =>
 Option.bind (bif b34 then some true
 else
 some (xor true (decide (r32.2.2.1 = r33.2.2.1)))) fun b35 =>
 bif b35 then
 Option.map Sum.inr (Option.map Sum.inr (Option.map Sum.inr (some false)))
 else
 some (Sum.inl ((addI .i64 v17.1 (1 : Int)), p20.2, ())))) ((0 : Int), ())
 else
 Option.map Sum.inr (Option.bind (F_play_Src_Low v17.2.1) fun p36 =>
 loopO (fun (v37 : Int × Unit) =>
 bif (decide (v37.1 < (2 : Int))) then
 Option.bind (idx [(TArr2Ballot.mk a4 a5), (TArr2Ballot.mk p36.1 (TBallot.mk (0 : Int) (ByteArray.mk #[])))] v37.1) fun x38 =>
 Option.bind (F_commit_First x13 (TTrust.mk v14.2.1.Threshold v14.2.1.Nodes v14.2.1.Inner) x10 x38.c0 x38.c1) fun r39 =>
 Option.bind (F_ref26_First x13 (TTrust.mk v14.2.1.Threshold v14.2.1.Nodes v14.2.1.Inner) x10 x38.c0 x38.c1) fun r40 =>
 Option.bind (bif (!decide (r39.1 = r40.1)) then some true
 else
 some (!decide (r39.2.1 = r40.2.1))) fun b41 =>
 Option.bind (bif b41 then some true
 else
 some (!decide (r39.2.2.1 = r40.2.2.1))) fun b42 =>
 Option.bind (bif b42 then some true
 else
 some (xor true (decide (r39.2.2.2.1 = r40.2.2.2.1)))) fun b43 =>
 bif b43 then
 Option.map Sum.inr (Option.map Sum.inr (Option.map Sum.inr (some false)))
 else
 some (Sum.inl ((addI .i64 v37.1 (1 : Int)), ()))
 else
 Option.map Sum.inr (some (Sum.inl ((addI .i64 v12.1 (1 : Int)), p36.2, ())))) ((0 : Int), ()))) ((0 : Int), p16.2, ())) fun j15 =>
 bif (!decide (v9.1 = (1 : Int))) then
 Option.bind (F_play_Src_Trust v12.2.1 (5 : Int)) fun p44 =>
 j15 (p44.2, (TTrust.mk p44.1.Threshold p44.1.Nodes p44.1.Inner), ())
 else
 j15 (v12.2.1, (TTrust.mk a2.Threshold a2.Nodes a2.Inner), ())
 else
 Option.map Sum.inr (some (Sum.inl ((addI .i64 v9.1 (1 : Int)), v12.2.1, ())))) ((0 : Int), p11.2, ())
 else
 Option.map Sum.inr (Option.bind (F_law26_sane) fun r45 =>
 some r45)) ((0 : Int), p7.2, ())
noncomputable def k_law26_CommitExact : KS U Tryz.prog := ⟨.fn 8 [.ty (Ty.sl (Ty.i .i64)), .ty (Ty.sl (Ty.st .Envelope)), .ty (Ty.st .Trust), .ty (Ty.i .i64), .ty (Ty.st .Ballot), .ty (Ty.st .Ballot), .ty Ty.str, .ty (Ty.i .i64), .ty (Ty.i .i64)] (.one Ty.bool) fun a => F_law26_CommitExact a.1 a.2.1 a.2.2.1 a.2.2.2.1 a.2.2.2.2.1 a.2.2.2.2.2.1 a.2.2.2.2.2.2.1 a.2.2.2.2.2.2.2.1 a.2.2.2.2.2.2.2.2.1, fnS (K := K) sa_law26_CommitExact 277 [.tmp 18] [k_law26_few, k_law26_thin, k_law26_sane, k_play_New, k_play_Src_Envelopes, k_law26_commits, k_play_Src_N, k_play_Src_Trust, k_play_Src_Value, k_play_Src_Range, k_commit_Accepts, k_ref26_Accepts, k_commit_Confirms, k_ref26_Confirms, k_commit_Extend, k_ref26_Extend, k_commit_Final, k_ref26_Final, k_play_Src_Low, k_commit_First, k_ref26_First] (fk Tryz.f8 [] Tryz.func8)⟩

end Go.Proofs.YtncjalhhkmojlaaGreat
