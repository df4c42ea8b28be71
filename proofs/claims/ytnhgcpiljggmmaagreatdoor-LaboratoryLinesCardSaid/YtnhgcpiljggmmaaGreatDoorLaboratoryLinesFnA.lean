/-
  Functions of the program as plain functions, each held against the program by the kernel. Printed by a program.
-/
import Derived.Test.YtnhgcpiljggmmaaGreatDoorUni
import Derived.Test.YtnhgcpiljggmmaaGreatDoorHand
import Derived.Test.YtnhgcpiljggmmaaGreatDoorProg
import Derived.KernelRfl
set_option linter.unusedVariables false
namespace Go.Proofs.YtnhgcpiljggmmaaGreatDoor
open Go.TQ

/-! ### trustquorum/trustquorumplay.New -/
noncomputable def sa_play_New : SA U := annA (scOf Tryz.prog 10 [] Tryz.f6) .e
noncomputable def F_play_New (a0 : (List Int)) : Option TSrc :=
 bif slcOk (0 : Int) (minI ((List.length a0 : Nat) : Int) (800 : Int)) (List.length a0) then
 some (TSrc.mk ((a0.take (Int.toNat (minI ((List.length a0 : Nat) : Int) (800 : Int)))).drop (Int.toNat (0 : Int))) (0 : Int))
 else none
noncomputable def k_play_New : KS U Tryz.prog := ⟨.nw 6 [.ty (Ty.sl (Ty.i .i64))] (Ty.st .Src) fun a => F_play_New a.1, nwS (K := K) sa_play_New 10 2 [] (fk Tryz.f6 [] Tryz.func6)⟩

/-! ### (*trustquorum/trustquorumplay.Src).N -/
noncomputable def sa_play_Src_N : SA U := annA (scOf Tryz.prog 43 [] Tryz.f14) (.r (.l (.j ⟨[.val 18 Ty.bool], [0, 1]⟩ .e)))
noncomputable def F_play_Src_N (s : TSrc) (a0 : Int) : Option (Int × TSrc) :=
 letJ (fun (v1 : Bool × Unit) =>
 bif v1.1 then
 some ((0 : Int), s)
 else
 Option.bind (idx s.L (subI .i64 (addI .i64 s.At (1 : Int)) (1 : Int))) fun x3 =>
 if a0 = 0 then none else
 if a0 = 0 then none else
 some ((remI .i64 (addI .i64 (remI .i64 x3 a0) a0) a0), (TSrc.mk s.L (addI .i64 s.At (1 : Int))))) fun j2 =>
 bif (decide (((List.length s.L : Nat) : Int) ≤ s.At)) then
 j2 (true, ())
 else
 j2 ((decide (a0 < (1 : Int))), ())
noncomputable def k_play_Src_N : KS U Tryz.prog := ⟨.rc 14 0 (Ty.st .Src) [.ty (Ty.i .i64)] (.one (Ty.i .i64)) fun s a => F_play_Src_N s a.1, rcS (K := K) sa_play_Src_N 43 [.tmp 4] [] (fk Tryz.f14 [] Tryz.func14)⟩

/-! ### (*trustquorum/trustquorumplay.Src).Range -/
noncomputable def sa_play_Src_Range : SA U := annA (scOf Tryz.prog 15 [] Tryz.f7) .e
noncomputable def F_play_Src_Range (s : TSrc) (a0 : Int) (a1 : Int) : Option (Int × TSrc) :=
 Option.bind (F_play_Src_N s (addI .i64 (subI .i64 a1 a0) (1 : Int))) fun p1 =>
 some ((addI .i64 a0 p1.1), p1.2)
noncomputable def k_play_Src_Range : KS U Tryz.prog := ⟨.rc 7 0 (Ty.st .Src) [.ty (Ty.i .i64), .ty (Ty.i .i64)] (.one (Ty.i .i64)) fun s a => F_play_Src_Range s a.1 a.2.1, rcS (K := K) sa_play_Src_Range 15 [.tmp 6] [k_play_Src_N] (fk Tryz.f7 [] Tryz.func7)⟩

/-! ### (*trustquorum/trustquorumplay.Src).Some -/
noncomputable def sa_play_Src_Some : SA U := annA (scOf Tryz.prog 20 [] Tryz.f22) (.r (.r (.l (.r (.l (.j ⟨[.val 5 (Ty.i .i64), .val 6 (Ty.i .i64), .box 0 0 (Ty.st .Src) []], [0, 1]⟩ .e))))))
noncomputable def F_play_Src_Some (s : TSrc) (a0 : Int) : Option (Int × TSrc) :=
 loopO (fun (v1 : Int × Int × TSrc × Unit) =>
 bif (decide (v1.2.1 < a0)) then
 Option.bind (F_play_Src_N v1.2.2.1 (2 : Int)) fun p2 =>
 if (convI .u64 v1.2.1) < 0 then none else
 some (Sum.inl ((orI .i64 v1.1 (shlI .i64 p2.1 (convI .u64 v1.2.1))), (addI .i64 v1.2.1 (1 : Int)), p2.2, ()))
 else
 Option.map Sum.inr (some (v1.1, v1.2.2.1))) ((0 : Int), (0 : Int), s, ())
noncomputable def k_play_Src_Some : KS U Tryz.prog := ⟨.rc 22 0 (Ty.st .Src) [.ty (Ty.i .i64)] (.one (Ty.i .i64)) fun s a => F_play_Src_Some s a.1, rcS (K := K) sa_play_Src_Some 20 [.tmp 4] [k_play_Src_N] (fk Tryz.f22 [] Tryz.func22)⟩

/-! ### (*trustquorum/trustquorumplay.Src).Ill -/
noncomputable def sa_play_Src_Ill : SA U := annA (scOf Tryz.prog 20 [] Tryz.f9) (.r (.l (.r (.l (.j ⟨[.val 7 Ty.bool], [0, 1, 6]⟩ .e)))))
noncomputable def F_play_Src_Ill (s : TSrc) (a0 : Int) : Option (Int × TSrc) :=
 Option.bind (F_play_Src_N s (4 : Int)) fun p1 =>
 letJ (fun (v2 : Bool × Unit) =>
 bif v2.1 then
 some ((0 : Int), p1.2)
 else
 bif (decide (p1.1 = (2 : Int))) then
 Option.bind (F_play_Src_N p1.2 a0) fun p4 =>
 if (convI .u64 p4.1) < 0 then none else
 some ((shlI .i64 (1 : Int) (convI .u64 p4.1)), p4.2)
 else
 Option.bind (F_play_Src_Some p1.2 a0) fun p5 =>
 some (p5.1, p5.2)) fun j3 =>
 bif (decide (p1.1 = (0 : Int))) then
 j3 ((decide (p1.1 = (0 : Int))), ())
 else
 j3 ((decide (p1.1 = (1 : Int))), ())
noncomputable def k_play_Src_Ill : KS U Tryz.prog := ⟨.rc 9 0 (Ty.st .Src) [.ty (Ty.i .i64)] (.one (Ty.i .i64)) fun s a => F_play_Src_Ill s a.1, rcS (K := K) sa_play_Src_Ill 20 [.tmp 4] [k_play_Src_N, k_play_Src_Some] (fk Tryz.f9 [] Tryz.func9)⟩

/-! ### (*trustquorum/trustquorumplay.Src).Text -/
noncomputable def sa_play_Src_Text : SA U := annA (scOf Tryz.prog 12 [] Tryz.f15) .e
noncomputable def F_play_Src_Text (s : TSrc) (a0 : (List ByteArray)) : Option (ByteArray × TSrc) :=
 Option.bind (F_play_Src_N s ((List.length a0 : Nat) : Int)) fun p1 =>
 Option.bind (idx a0 p1.1) fun x2 =>
 some (x2, p1.2)
noncomputable def k_play_Src_Text : KS U Tryz.prog := ⟨.rc 15 0 (Ty.st .Src) [.ty (Ty.sl Ty.str)] (.one Ty.str) fun s a => F_play_Src_Text s a.1, rcS (K := K) sa_play_Src_Text 12 [.tmp 4] [k_play_Src_N] (fk Tryz.f15 [] Tryz.func15)⟩

/-! ### (*trustquorum/trustquorumplay.Src).Value -/
noncomputable def sa_play_Src_Value : SA U := annA (scOf Tryz.prog 6 [] Tryz.f137) .e
noncomputable def F_play_Src_Value (s : TSrc)  : Option (ByteArray × TSrc) :=
 Option.bind (F_play_Src_Text s [(ByteArray.mk #[97]), (ByteArray.mk #[98]), (ByteArray.mk #[99]), (ByteArray.mk #[97, 97])]) fun p1 =>
 some (p1.1, p1.2)
noncomputable def k_play_Src_Value : KS U Tryz.prog := ⟨.rc 137 0 (Ty.st .Src) [] (.one Ty.str) fun s a => F_play_Src_Value s , rcS (K := K) sa_play_Src_Value 6 [.tmp 2] [k_play_Src_Text] (fk Tryz.f137 [] Tryz.func137)⟩

/-! ### (*trustquorum/trustquorumplay.Src).Trust -/
noncomputable def sa_play_Src_Trust : SA U := annA (scOf Tryz.prog 63 [] Tryz.f35) (.r (.r (.b (.r (.l (.ps (.ownB 5 1 3 1 (Ty.i .i64)) (.ps (.ownB 5 2 41 3 (Ty.st .Trust)) (.j ⟨[.val 6 (Ty.i .i64), .box 0 0 (Ty.st .Src) [], .box 2 1 (Ty.st .Trust) [(1, 4, 1), (2, 5, 1)], .rowb 4 1 3 1 (Ty.i .i64), .rowb 5 1 41 3 (Ty.st .Trust)], [0, 1, 4, 5]⟩ (.l (.r (.j ⟨[.box 0 0 (Ty.st .Src) [], .box 2 1 (Ty.st .Trust) [(1, 4, 1), (2, 5, 1)], .rowb 4 1 3 1 (Ty.i .i64), .rowb 5 1 41 3 (Ty.st .Trust)], [0, 1, 4, 5, 6]⟩ .e)))))))) (.ps (.frzB 5 1) (.j ⟨[.box 0 0 (Ty.st .Src) [], .box 2 1 (Ty.st .Trust) [(2, 5, 1)], .rowb 5 1 41 3 (Ty.st .Trust)], [0, 1, 4, 5]⟩ (.r (.j ⟨[.box 0 0 (Ty.st .Src) [], .box 2 1 (Ty.st .Trust) [(2, 5, 1)], .rowb 5 1 41 3 (Ty.st .Trust)], [0, 4, 5]⟩ (.r (.r (.r (.j ⟨[.box 0 0 (Ty.st .Src) [], .box 2 1 (Ty.st .Trust) [(2, 5, 1)], .rowb 5 1 41 3 (Ty.st .Trust)], [4, 5]⟩ .e)))))))))))
noncomputable def F_play_Src_Trust (s : TSrc) (a0 : Int) : Option (TTrust × TSrc) :=
 loopO (fun (v1 : Int × TSrc × TTrust × (List Int) × (List TTrust) × Unit) =>
 bif (decide (v1.1 < a0)) then
 letJ (fun (v2 : TSrc × TTrust × (List Int) × (List TTrust) × Unit) =>
 some (Sum.inl ((addI .i64 v1.1 (1 : Int)), v2.1, (TTrust.mk v2.2.1.Threshold ([] : List Int) ([] : List TTrust)), v2.2.2.1, v2.2.2.2.1, ()))) fun j3 =>
 Option.bind (F_play_Src_N v1.2.1 (5 : Int)) fun p4 =>
 bif (decide ((0 : Int) < p4.1)) then
 bif lenOk 8 (List.length v1.2.2.2.1 + List.length [v1.1]) then
 j3 (p4.2, (TTrust.mk v1.2.2.1.Threshold ([] : List Int) ([] : List TTrust)), (v1.2.2.2.1 ++ [v1.1]), v1.2.2.2.2.1, ())
 else none
 else
 j3 (p4.2, (TTrust.mk v1.2.2.1.Threshold ([] : List Int) ([] : List TTrust)), v1.2.2.2.1, v1.2.2.2.2.1, ())
 else
 Option.map Sum.inr (letJ (fun (v5 : TSrc × TTrust × (List TTrust) × Unit) =>
 letJ (fun (v7 : TSrc × TTrust × (List TTrust) × Unit) =>
 Option.bind (F_play_Src_Range v7.1 (quoI .i64 (addI .i64 (addI .i64 ((List.length v7.2.1.Nodes : Nat) : Int) ((List.length v7.2.2.1 : Nat) : Int)) (1 : Int)) (2 : Int)) (addI .i64 ((List.length v7.2.1.Nodes : Nat) : Int) ((List.length v7.2.2.1 : Nat) : Int))) fun p9 =>
 letJ (fun (v10 : TSrc × TTrust × (List TTrust) × Unit) =>
 some ((TTrust.mk v10.2.1.Threshold v10.2.1.Nodes v10.2.2.1), v10.1)) fun j11 =>
 Option.bind (F_play_Src_N p9.2 (6 : Int)) fun p12 =>
 bif (decide (p12.1 = (5 : Int))) then
 j11 (p12.2, (TTrust.mk (1 : Int) v7.2.1.Nodes ([] : List TTrust)), v7.2.2.1, ())
 else
 j11 (p12.2, (TTrust.mk p9.1 v7.2.1.Nodes ([] : List TTrust)), v7.2.2.1, ())) fun j8 =>
 Option.bind (F_play_Src_N v5.1 (4 : Int)) fun p13 =>
 bif (decide (p13.1 = (3 : Int))) then
 Option.bind (F_play_Src_N p13.2 a0) fun p14 =>
 bif lenOk 56 (List.length v5.2.2.1 + List.length [(TTrust.mk (1 : Int) [p14.1] ([] : List TTrust))]) then
 j8 (p14.2, (TTrust.mk v5.2.1.Threshold v5.2.1.Nodes ([] : List TTrust)), (v5.2.2.1 ++ [(TTrust.mk (1 : Int) [p14.1] ([] : List TTrust))]), ())
 else none
 else
 j8 (p13.2, (TTrust.mk v5.2.1.Threshold v5.2.1.Nodes ([] : List TTrust)), v5.2.2.1, ())) fun j6 =>
 bif (decide (((List.length v1.2.2.2.1 : Nat) : Int) = (0 : Int))) then
 Option.bind (F_play_Src_N v1.2.1 a0) fun p15 =>
 j6 (p15.2, (TTrust.mk v1.2.2.1.Threshold [p15.1] ([] : List TTrust)), v1.2.2.2.2.1, ())
 else
 j6 (v1.2.1, (TTrust.mk v1.2.2.1.Threshold v1.2.2.2.1 ([] : List TTrust)), v1.2.2.2.2.1, ()))) ((0 : Int), s, (TTrust.mk (0 : Int) ([] : List Int) ([] : List TTrust)), ([] : List Int), ([] : List TTrust), ())
noncomputable def k_play_Src_Trust : KS U Tryz.prog := ⟨.rc 35 0 (Ty.st .Src) [.ty (Ty.i .i64)] (.one (Ty.st .Trust)) fun s a => F_play_Src_Trust s a.1, rcS (K := K) sa_play_Src_Trust 63 [.cell 4 (some 3)] [k_play_Src_N, k_play_Src_Range] (fk Tryz.f35 [] Tryz.func35)⟩

/-! ### (*trustquorum/trustquorumplay.Src).Low -/
noncomputable def sa_play_Src_Low : SA U := annA (scOf Tryz.prog 8 [] Tryz.f176) .e
noncomputable def F_play_Src_Low (s : TSrc)  : Option (TBallot × TSrc) :=
 Option.bind (F_play_Src_Range s (1 : Int) (6 : Int)) fun p1 =>
 Option.bind (F_play_Src_Value p1.2) fun p2 =>
 some ((TBallot.mk p1.1 p2.1), p2.2)
noncomputable def k_play_Src_Low : KS U Tryz.prog := ⟨.rc 176 0 (Ty.st .Src) [] (.one (Ty.st .Ballot)) fun s a => F_play_Src_Low s , rcS (K := K) sa_play_Src_Low 8 [.cell 2 (some 2)] [k_play_Src_Range, k_play_Src_Value] (fk Tryz.f176 [] Tryz.func176)⟩

/-! ### trustquorum/trustquorumref02.Depth -/
noncomputable def sa_ref02_Depth : SA U := annA (scOf Tryz.prog 20 [] Tryz.f93) (.r (.r (.l (.r (.l (.j ⟨[.val 3 (Ty.i .i64), .val 9 (Ty.i .i64)], [7, 8]⟩ .e))))))
noncomputable def B_ref02_Depth (rec : (TTrust × Unit) → Option Int) (a0 : TTrust) : Option Int :=
 loopO (fun (v1 : Int × Int × Unit) =>
 bif (decide (v1.2.1 < ((List.length a0.Inner : Nat) : Int))) then
 Option.bind (idx a0.Inner v1.2.1) fun x2 =>
 Option.bind (rec ((eTTrust x2), ())) fun r3 =>
 some (Sum.inl ((maxI v1.1 r3), (addI .i64 v1.2.1 (1 : Int)), ()))
 else
 Option.map Sum.inr (some (addI .i64 v1.1 (1 : Int)))) ((0 : Int), (0 : Int), ())
noncomputable def I_ref02_Depth : Nat → (TTrust × Unit) → Option Int := iterF (fun rec a => B_ref02_Depth rec a.1)
noncomputable def F_ref02_Depth (a0 : TTrust) : Option Int := I_ref02_Depth (SizeOf.sizeOf a0 + 1) (a0, ())
noncomputable def k_ref02_Depth : KS U Tryz.prog := ⟨.fn 93 [.ty (Ty.st .Trust)] (.one (Ty.i .i64)) fun a => F_ref02_Depth a.1, fnRS (K := K) («as» := [.ty (Ty.st .Trust)]) (r := .one (Ty.i .i64)) (B := fun rec a => B_ref02_Depth rec a.1) sa_ref02_Depth 20 [.tmp 2] [] (fk Tryz.f93 [] Tryz.func93) (hF := fun a => ⟨_, rfl⟩)⟩

/-! ### trustquorum/trustquorumref02.Size -/
noncomputable def sa_ref02_Size : SA U := annA (scOf Tryz.prog 26 [] Tryz.f94) (.r (.r (.l (.r (.l (.j ⟨[.val 3 (Ty.i .i64), .val 16 (Ty.i .i64)], [14, 15]⟩ .e))))))
noncomputable def B_ref02_Size (rec : (TTrust × Unit) → Option Int) (a0 : TTrust) : Option Int :=
 loopO (fun (v1 : Int × Int × Unit) =>
 bif (decide (v1.2.1 < ((List.length a0.Inner : Nat) : Int))) then
 Option.bind (idx a0.Inner v1.2.1) fun x2 =>
 Option.bind (rec ((eTTrust x2), ())) fun r3 =>
 some (Sum.inl ((addI .i64 v1.1 r3), (addI .i64 v1.2.1 (1 : Int)), ()))
 else
 Option.map Sum.inr (some v1.1)) ((addI .i64 ((List.length a0.Nodes : Nat) : Int) ((List.length a0.Inner : Nat) : Int)), (0 : Int), ())
noncomputable def I_ref02_Size : Nat → (TTrust × Unit) → Option Int := iterF (fun rec a => B_ref02_Size rec a.1)
noncomputable def F_ref02_Size (a0 : TTrust) : Option Int := I_ref02_Size (SizeOf.sizeOf a0 + 1) (a0, ())
noncomputable def k_ref02_Size : KS U Tryz.prog := ⟨.fn 94 [.ty (Ty.st .Trust)] (.one (Ty.i .i64)) fun a => F_ref02_Size a.1, fnRS (K := K) («as» := [.ty (Ty.st .Trust)]) (r := .one (Ty.i .i64)) (B := fun rec a => B_ref02_Size rec a.1) sa_ref02_Size 26 [.tmp 2] [] (fk Tryz.f94 [] Tryz.func94) (hF := fun a => ⟨_, rfl⟩)⟩

/-! ### trustquorum/trustquorumref01.Valid -/
noncomputable def sa_ref01_Valid : SA U := annA (scOf Tryz.prog 9 [] Tryz.f218) .e
noncomputable def F_ref01_Valid (a0 : Int) : Option Bool :=
 Option.bind (bif (decide ((0 : Int) ≤ a0)) then
 some (decide (a0 ≤ (1023 : Int)))
 else some false) fun b1 =>
 some b1
noncomputable def k_ref01_Valid : KS U Tryz.prog := ⟨.fn 218 [.ty (Ty.i .i64)] (.one Ty.bool) fun a => F_ref01_Valid a.1, fnS (K := K) sa_ref01_Valid 9 [.tmp 2] [] (fk Tryz.f218 [] Tryz.func218)⟩

/-! ### trustquorum/trustquorumref01.Has -/
noncomputable def sa_ref01_Has : SA U := annA (scOf Tryz.prog 22 [] Tryz.f178) .e
noncomputable def F_ref01_Has (a0 : Int) (a1 : Int) : Option Bool :=
 Option.bind (F_ref01_Valid a0) fun r1 =>
 Option.bind (bif r1 then
 some (decide ((0 : Int) ≤ a1))
 else some false) fun b2 =>
 Option.bind (bif b2 then
 some (decide (a1 < (10 : Int)))
 else some false) fun b3 =>
 Option.bind (bif b3 then
 if a1 < 0 then none else
 some (decide ((andI .i64 (shrI .i64 a0 a1) (1 : Int)) = (1 : Int)))
 else some false) fun b4 =>
 some b4
noncomputable def k_ref01_Has : KS U Tryz.prog := ⟨.fn 178 [.ty (Ty.i .i64), .ty (Ty.i .i64)] (.one Ty.bool) fun a => F_ref01_Has a.1 a.2.1, fnS (K := K) sa_ref01_Has 22 [.tmp 4] [k_ref01_Valid] (fk Tryz.f178 [] Tryz.func178)⟩

/-! ### trustquorum/trustquorumref01.Of -/
noncomputable def sa_ref01_Of : SA U := annA (scOf Tryz.prog 28 [] Tryz.f139) (.r (.r (.l (.r (.l (.j ⟨[.val 4 (Ty.i .i64), .val 9 (Ty.i .i64)], [7, 8]⟩ .e))))))
noncomputable def F_ref01_Of (a0 : (List Int)) : Option (Int × Int × Unit) :=
 loopO (fun (v1 : Int × Int × Unit) =>
 bif (decide (v1.2.1 < ((List.length a0 : Nat) : Int))) then
 Option.bind (idx a0 v1.2.1) fun x2 =>
 Option.bind (bif (decide (x2 < (0 : Int))) then some true
 else
 some (decide ((10 : Int) ≤ x2))) fun b3 =>
 bif b3 then
 Option.map Sum.inr (some ((0 : Int), (5 : Int), ()))
 else
 Option.bind (F_ref01_Has v1.1 x2) fun r4 =>
 bif r4 then
 Option.map Sum.inr (some ((0 : Int), (6 : Int), ()))
 else
 if x2 < 0 then none else
 some (Sum.inl ((orI .i64 v1.1 (shlI .i64 (1 : Int) x2)), (addI .i64 v1.2.1 (1 : Int)), ()))
 else
 Option.map Sum.inr (some (v1.1, (0 : Int), ()))) ((0 : Int), (0 : Int), ())
noncomputable def k_ref01_Of : KS U Tryz.prog := ⟨.fn 139 [.ty (Ty.sl (Ty.i .i64))] (.many [(Ty.i .i64), (Ty.i .i64)]) fun a => F_ref01_Of a.1, fnS (K := K) sa_ref01_Of 28 [.tmp 2, .tmp 3] [k_ref01_Has] (fk Tryz.f139 [] Tryz.func139)⟩

/-! ### trustquorum/trustquorumref02.check -/
noncomputable def sa_ref02_check : SA U := annA (scOf Tryz.prog 61 [] Tryz.f95) (.r (.r (.b (.r (.l (.j ⟨[.val 28 (Ty.i .i64)], [1, 26, 27]⟩ .e))) (.r (.l (.r (.l (.j ⟨[.val 51 (Ty.i .i64)], [49, 50]⟩ .e))))))))
noncomputable def B_ref02_check (rec : (TTrust × Unit) → Option Int) (a0 : TTrust) : Option Int :=
 Option.bind (bif (decide (a0.Threshold < (1 : Int))) then some true
 else
 some (decide ((addI .i64 ((List.length a0.Nodes : Nat) : Int) ((List.length a0.Inner : Nat) : Int)) < a0.Threshold))) fun b1 =>
 bif b1 then
 some (4 : Int)
 else
 loopO (fun (v2 : Int × Unit) =>
 bif (decide (v2.1 < ((List.length a0.Nodes : Nat) : Int))) then
 Option.bind (idx a0.Nodes v2.1) fun x3 =>
 Option.bind (bif (decide (x3 < (0 : Int))) then some true
 else
 some (decide ((10 : Int) ≤ x3))) fun b4 =>
 bif b4 then
 Option.map Sum.inr (some (5 : Int))
 else
 some (Sum.inl ((addI .i64 v2.1 (1 : Int)), ()))
 else
 Option.map Sum.inr (Option.bind (F_ref01_Of a0.Nodes) fun r5 =>
 bif (!decide (r5.2.1 = (0 : Int))) then
 some r5.2.1
 else
 loopO (fun (v6 : Int × Unit) =>
 bif (decide (v6.1 < ((List.length a0.Inner : Nat) : Int))) then
 Option.bind (idx a0.Inner v6.1) fun x7 =>
 Option.bind (rec ((eTTrust x7), ())) fun r8 =>
 bif (!decide (r8 = (0 : Int))) then
 Option.map Sum.inr (some r8)
 else
 some (Sum.inl ((addI .i64 v6.1 (1 : Int)), ()))
 else
 Option.map Sum.inr (some (0 : Int))) ((0 : Int), ()))) ((0 : Int), ())
noncomputable def I_ref02_check : Nat → (TTrust × Unit) → Option Int := iterF (fun rec a => B_ref02_check rec a.1)
noncomputable def F_ref02_check (a0 : TTrust) : Option Int := I_ref02_check (SizeOf.sizeOf a0 + 1) (a0, ())
noncomputable def k_ref02_check : KS U Tryz.prog := ⟨.fn 95 [.ty (Ty.st .Trust)] (.one (Ty.i .i64)) fun a => F_ref02_check a.1, fnRS (K := K) («as» := [.ty (Ty.st .Trust)]) (r := .one (Ty.i .i64)) (B := fun rec a => B_ref02_check rec a.1) sa_ref02_check 61 [.tmp 2] [k_ref01_Of] (fk Tryz.f95 [] Tryz.func95) (hF := fun a => ⟨_, rfl⟩)⟩

/-! ### trustquorum/trustquorumref02.Valid -/
noncomputable def sa_ref02_Valid : SA U := annA (scOf Tryz.prog 13 [] Tryz.f44) .e
noncomputable def F_ref02_Valid (a0 : TTrust) : Option Int :=
 Option.bind (F_ref02_Depth (eTTrust a0)) fun r1 =>
 Option.bind (bif (decide ((4 : Int) < r1)) then some true
 else
 Option.bind (F_ref02_Size (eTTrust a0)) fun r2 =>
 some (decide ((200 : Int) < r2))) fun b3 =>
 bif b3 then
 some (3 : Int)
 else
 Option.bind (F_ref02_check (eTTrust a0)) fun r4 =>
 some r4
noncomputable def k_ref02_Valid : KS U Tryz.prog := ⟨.fn 44 [.ty (Ty.st .Trust)] (.one (Ty.i .i64)) fun a => F_ref02_Valid a.1, fnS (K := K) sa_ref02_Valid 13 [.tmp 2] [k_ref02_Depth, k_ref02_Size, k_ref02_check] (fk Tryz.f44 [] Tryz.func44)⟩

/-! ### trustquorum/trustquorumref23.Valid -/
noncomputable def sa_ref23_Valid : SA U := annA (scOf Tryz.prog 28 [] Tryz.f213) .e
noncomputable def F_ref23_Valid (a0 : TBallot) : Option Bool :=
 Option.bind (bif (decide ((1 : Int) ≤ a0.Counter)) then
 some (decide (a0.Counter ≤ (1000 : Int)))
 else some false) fun b1 =>
 Option.bind (bif b1 then some true
 else
 some (decide (a0.Counter = (1000000 : Int)))) fun b2 =>
 Option.bind (bif b2 then
 some (decide ((1 : Int) ≤ ((ByteArray.size a0.Value : Nat) : Int)))
 else some false) fun b3 =>
 Option.bind (bif b3 then
 some (decide (((ByteArray.size a0.Value : Nat) : Int) ≤ (200 : Int)))
 else some false) fun b4 =>
 some b4
noncomputable def k_ref23_Valid : KS U Tryz.prog := ⟨.fn 213 [.ty (Ty.st .Ballot)] (.one Ty.bool) fun a => F_ref23_Valid a.1, fnS (K := K) sa_ref23_Valid 28 [.tmp 2] [] (fk Tryz.f213 [] Tryz.func213)⟩

/-! ### trustquorum/trustquorumref23.Zero -/
noncomputable def sa_ref23_Zero : SA U := annA (scOf Tryz.prog 6 [] Tryz.f207) .e
noncomputable def F_ref23_Zero (a0 : TBallot) : Option Bool :=
 some (eq2 false a0.Counter (0 : Int) a0.Value (ByteArray.mk #[]))
noncomputable def k_ref23_Zero : KS U Tryz.prog := ⟨.fn 207 [.ty (Ty.st .Ballot)] (.one Ty.bool) fun a => F_ref23_Zero a.1, fnS (K := K) sa_ref23_Zero 6 [.tmp 2] [] (fk Tryz.f207 [] Tryz.func207)⟩

/-! ### trustquorum/trustquorumref23.LessValue -/
noncomputable def sa_ref23_LessValue : SA U := annA (scOf Tryz.prog 18 [] Tryz.f239) .e
noncomputable def F_ref23_LessValue (a0 : ByteArray) (a1 : ByteArray) : Option Bool :=
 bif (!decide (((ByteArray.size a0 : Nat) : Int) = ((ByteArray.size a1 : Nat) : Int))) then
 some (decide (((ByteArray.size a0 : Nat) : Int) < ((ByteArray.size a1 : Nat) : Int)))
 else
 some (sless a0 a1)
noncomputable def k_ref23_LessValue : KS U Tryz.prog := ⟨.fn 239 [.ty Ty.str, .ty Ty.str] (.one Ty.bool) fun a => F_ref23_LessValue a.1 a.2.1, fnS (K := K) sa_ref23_LessValue 18 [.tmp 4] [] (fk Tryz.f239 [] Tryz.func239)⟩

/-! ### trustquorum/trustquorumref23.Less -/
noncomputable def sa_ref23_Less : SA U := annA (scOf Tryz.prog 20 [] Tryz.f214) .e
noncomputable def F_ref23_Less (a0 : TBallot) (a1 : TBallot) : Option Bool :=
 bif (!decide (a0.Counter = a1.Counter)) then
 some (decide (a0.Counter < a1.Counter))
 else
 Option.bind (F_ref23_LessValue a0.Value a1.Value) fun r1 =>
 some r1
noncomputable def k_ref23_Less : KS U Tryz.prog := ⟨.fn 214 [.ty (Ty.st .Ballot), .ty (Ty.st .Ballot)] (.one Ty.bool) fun a => F_ref23_Less a.1 a.2.1, fnS (K := K) sa_ref23_Less 20 [.tmp 4] [k_ref23_LessValue] (fk Tryz.f214 [] Tryz.func214)⟩

/-! ### trustquorum/trustquorumref23.Compatible -/
noncomputable def sa_ref23_Compatible : SA U := annA (scOf Tryz.prog 10 [] Tryz.f215) .e
noncomputable def F_ref23_Compatible (a0 : TBallot) (a1 : TBallot) : Option Bool :=
 some (decide (a0.Value = a1.Value))
noncomputable def k_ref23_Compatible : KS U Tryz.prog := ⟨.fn 215 [.ty (Ty.st .Ballot), .ty (Ty.st .Ballot)] (.one Ty.bool) fun a => F_ref23_Compatible a.1 a.2.1, fnS (K := K) sa_ref23_Compatible 10 [.tmp 4] [] (fk Tryz.f215 [] Tryz.func215)⟩

/-! ### trustquorum/trustquorumref23.Covers -/
noncomputable def sa_ref23_Covers : SA U := annA (scOf Tryz.prog 20 [] Tryz.f240) .e
noncomputable def F_ref23_Covers (a0 : TBallot) (a1 : TBallot) : Option Bool :=
 Option.bind (F_ref23_Zero a0) fun r1 =>
 Option.bind (bif (!r1) then
 Option.bind (F_ref23_Compatible a0 a1) fun r2 =>
 some r2
 else some false) fun b3 =>
 Option.bind (bif b3 then
 some (decide (a1.Counter ≤ a0.Counter))
 else some false) fun b4 =>
 some b4
noncomputable def k_ref23_Covers : KS U Tryz.prog := ⟨.fn 240 [.ty (Ty.st .Ballot), .ty (Ty.st .Ballot)] (.one Ty.bool) fun a => F_ref23_Covers a.1 a.2.1, fnS (K := K) sa_ref23_Covers 20 [.tmp 4] [k_ref23_Zero, k_ref23_Compatible] (fk Tryz.f240 [] Tryz.func240)⟩

/-! ### trustquorum/trustquorumref23.Prepares -/
noncomputable def sa_ref23_Prepares : SA U := annA (scOf Tryz.prog 25 [] Tryz.f216) .e
noncomputable def F_ref23_Prepares (a0 : TBallot) (a1 : TBallot) (a2 : TBallot) : Option Bool :=
 Option.bind (F_ref23_Covers a0 a2) fun r1 =>
 Option.bind (bif r1 then some true
 else
 Option.bind (F_ref23_Covers a1 a2) fun r2 =>
 some r2) fun b3 =>
 Option.bind (bif b3 then some true
 else
 Option.bind (F_ref23_Zero a1) fun r4 =>
 Option.bind (bif (!r4) then
 Option.bind (F_ref23_Less a2 a1) fun r5 =>
 some r5
 else some false) fun b6 =>
 some b6) fun b7 =>
 some b7
noncomputable def k_ref23_Prepares : KS U Tryz.prog := ⟨.fn 216 [.ty (Ty.st .Ballot), .ty (Ty.st .Ballot), .ty (Ty.st .Ballot)] (.one Ty.bool) fun a => F_ref23_Prepares a.1 a.2.1 a.2.2.1, fnS (K := K) sa_ref23_Prepares 25 [.tmp 6] [k_ref23_Covers, k_ref23_Zero, k_ref23_Less] (fk Tryz.f216 [] Tryz.func216)⟩

/-! ### trustquorum/trustquorumref23.Aborts -/
noncomputable def sa_ref23_Aborts : SA U := annA (scOf Tryz.prog 19 [] Tryz.f217) .e
noncomputable def F_ref23_Aborts (a0 : TBallot) (a1 : TBallot) : Option Bool :=
 Option.bind (F_ref23_Zero a0) fun r1 =>
 Option.bind (bif (!r1) then
 Option.bind (F_ref23_Compatible a0 a1) fun r2 =>
 some (!r2)
 else some false) fun b3 =>
 Option.bind (bif b3 then
 Option.bind (F_ref23_Less a1 a0) fun r4 =>
 some r4
 else some false) fun b5 =>
 some b5
noncomputable def k_ref23_Aborts : KS U Tryz.prog := ⟨.fn 217 [.ty (Ty.st .Ballot), .ty (Ty.st .Ballot)] (.one Ty.bool) fun a => F_ref23_Aborts a.1 a.2.1, fnS (K := K) sa_ref23_Aborts 19 [.tmp 4] [k_ref23_Zero, k_ref23_Compatible, k_ref23_Less] (fk Tryz.f217 [] Tryz.func217)⟩

/-! ### trustquorum/trustquorumref24.Valid -/
noncomputable def sa_ref24_Valid : SA U := annA (scOf Tryz.prog 227 [] Tryz.f177) .e
noncomputable def F_ref24_Valid (a0 : TEnvelope) : Option Bool :=
 Option.bind (bif (decide (a0.Node < (0 : Int))) then some true
 else
 some (decide ((9 : Int) < a0.Node))) fun b1 =>
 Option.bind (bif b1 then some true
 else
 some (decide (a0.Slot < (1 : Int)))) fun b2 =>
 Option.bind (bif b2 then some true
 else
 some (decide ((1000000 : Int) < a0.Slot))) fun b3 =>
 Option.bind (bif b3 then some true
 else
 some (decide (a0.Seq < (1 : Int)))) fun b4 =>
 Option.bind (bif b4 then some true
 else
 some (decide ((1000000 : Int) < a0.Seq))) fun b5 =>
 Option.bind (bif b5 then some true
 else
 Option.bind (F_ref02_Valid (eTTrust a0.Trust)) fun r6 =>
 some (!decide (r6 = (0 : Int)))) fun b7 =>
 Option.bind (bif b7 then some true
 else
 Option.bind (F_ref23_Valid a0.Ballot) fun r8 =>
 some (!r8)) fun b9 =>
 bif b9 then
 some false
 else
 Option.bind (F_ref23_Zero a0.Prepared) fun r10 =>
 bif (decide (a0.Kind = (1 : Int))) then
 Option.bind (bif (decide ((1000 : Int) < a0.Ballot.Counter)) then some true
 else
 Option.bind (bif (!r10) then
 Option.bind (F_ref23_Valid a0.Prepared) fun r11 =>
 some (!r11)
 else some false) fun b12 =>
 some b12) fun b13 =>
 bif b13 then
 some false
 else
 Option.bind (F_ref23_Zero a0.Prime) fun r14 =>
 Option.bind (bif (!r14) then
 Option.bind (bif r10 then some true
 else
 Option.bind (F_ref23_Valid a0.Prime) fun r15 =>
 some (!r15)) fun b16 =>
 Option.bind (bif b16 then some true
 else
 Option.bind (F_ref23_Less a0.Prime a0.Prepared) fun r17 =>
 some (!r17)) fun b18 =>
 Option.bind (bif b18 then some true
 else
 Option.bind (F_ref23_Compatible a0.Prime a0.Prepared) fun r19 =>
 some r19) fun b20 =>
 some b20
 else some false) fun b21 =>
 bif b21 then
 some false
 else
 Option.bind (bif (decide (a0.Low < (0 : Int))) then some true
 else
 some (decide (a0.High < a0.Low))) fun b22 =>
 Option.bind (bif b22 then some true
 else
 some (decide (a0.Ballot.Counter < a0.High))) fun b23 =>
 bif b23 then
 some false
 else
 Option.bind (bif (decide ((0 : Int) < a0.High)) then
 Option.bind (F_ref23_Prepares a0.Prepared a0.Prime (TBallot.mk a0.High a0.Ballot.Value)) fun r24 =>
 some (!r24)
 else some false) fun b25 =>
 bif b25 then
 some false
 else
 Option.bind (bif (decide (a0.Low = (0 : Int))) then some true
 else
 Option.bind (F_ref23_Aborts a0.Prepared (TBallot.mk a0.Low a0.Ballot.Value)) fun r26 =>
 Option.bind (bif (!r26) then
 Option.bind (F_ref23_Aborts a0.Prime (TBallot.mk a0.Low a0.Ballot.Value)) fun r27 =>
 some (!r27)
 else some false) fun b28 =>
 some b28) fun b29 =>
 some b29
 else
 bif (decide (a0.Kind = (2 : Int))) then
 Option.bind (bif (decide (a0.Ballot.Counter ≤ (1000 : Int))) then
 Option.bind (F_ref23_Valid a0.Prepared) fun r30 =>
 some r30
 else some false) fun b31 =>
 Option.bind (bif b31 then
 Option.bind (F_ref23_Compatible a0.Prepared a0.Ballot) fun r32 =>
 some r32
 else some false) fun b33 =>
 Option.bind (bif b33 then
 Option.bind (F_ref23_Zero a0.Prime) fun r34 =>
 some r34
 else some false) fun b35 =>
 Option.bind (bif b35 then
 some (decide ((1 : Int) ≤ a0.Low))
 else some false) fun b36 =>
 Option.bind (bif b36 then
 some (decide (a0.Low ≤ a0.High))
 else some false) fun b37 =>
 Option.bind (bif b37 then
 some (decide (a0.High ≤ a0.Prepared.Counter))
 else some false) fun b38 =>
 Option.bind (bif b38 then
 some (decide (a0.High ≤ (1000 : Int)))
 else some false) fun b39 =>
 some b39
 else
 bif (decide (a0.Kind = (3 : Int))) then
 Option.bind (bif r10 then
 Option.bind (F_ref23_Zero a0.Prime) fun r40 =>
 some r40
 else some false) fun b41 =>
 Option.bind (bif b41 then
 some (decide ((1 : Int) ≤ a0.Low))
 else some false) fun b42 =>
 Option.bind (bif b42 then
 some (decide (a0.Low ≤ a0.High))
 else some false) fun b43 =>
 Option.bind (bif b43 then
 some (decide (a0.High ≤ (1000 : Int)))
 else some false) fun b44 =>
 some b44
 else
 some false
noncomputable def k_ref24_Valid : KS U Tryz.prog := ⟨.fn 177 [.ty (Ty.st .Envelope)] (.one Ty.bool) fun a => F_ref24_Valid a.1, fnS (K := K) sa_ref24_Valid 227 [.tmp 2] [k_ref02_Valid, k_ref23_Valid, k_ref23_Zero, k_ref23_Less, k_ref23_Compatible, k_ref23_Prepares, k_ref23_Aborts] (fk Tryz.f177 [] Tryz.func177)⟩

/-! ### (*trustquorum/trustquorumplay.Src).Envelope -/
noncomputable def sa_play_Src_Envelope : SA U := annA (scOf Tryz.prog 113 [] Tryz.f138) (.r (.r (.r (.j ⟨[.box 0 0 (Ty.st .Src) [], .box 10 1 (Ty.st .Envelope) []], [8, 9]⟩ (.l (.r (.l (.j ⟨[.box 0 0 (Ty.st .Src) [], .box 10 1 (Ty.st .Envelope) []], [0, 8, 9, 10]⟩ (.r (.j ⟨[.box 0 0 (Ty.st .Src) [], .box 10 1 (Ty.st .Envelope) []], [8, 9]⟩ (.l (.r (.j ⟨[.box 0 0 (Ty.st .Src) [], .box 10 1 (Ty.st .Envelope) []], [0, 8, 9]⟩ (.r (.r (.r (.j ⟨[.box 10 1 (Ty.st .Envelope) []], [8, 9]⟩ (.r (.j ⟨[.box 10 1 (Ty.st .Envelope) []], [8, 9]⟩ .e)))))))))))))))))))
noncomputable def F_play_Src_Envelope (s : TSrc) (a0 : Int) (a1 : Int) (a2 : Int) : Option (TEnvelope × TSrc) :=
 Option.bind (F_play_Src_Range s (1 : Int) (9 : Int)) fun p1 =>
 Option.bind (F_play_Src_Trust p1.2 a2) fun p2 =>
 Option.bind (F_play_Src_Value p2.2) fun p3 =>
 letJ (fun (v4 : TSrc × TEnvelope × Unit) =>
 some ({ v4.2.1 with Trust := (eTTrust v4.2.1.Trust) }, v4.1)) fun j5 =>
 Option.bind (F_play_Src_N p3.2 (4 : Int)) fun p6 =>
 letJ (fun (v7 : TSrc × TEnvelope × Unit) =>
 letJ (fun (v9 : TSrc × TEnvelope × Unit) =>
 j5 (v9.1, { v9.2.1 with Trust := (eTTrust v9.2.1.Trust) }, ())) fun j10 =>
 Option.bind (F_play_Src_Range v7.1 (1 : Int) (7 : Int)) fun p11 =>
 letJ (fun (v12 : TSrc × TEnvelope × Unit) =>
 Option.bind (F_play_Src_N v12.1 (addI .i64 v12.2.1.Ballot.Counter (1 : Int))) fun p14 =>
 Option.bind (F_play_Src_N p14.2 (addI .i64 p14.1 (1 : Int))) fun p15 =>
 letJ (fun (v16 : TEnvelope × Unit) =>
 letJ (fun (v18 : TEnvelope × Unit) =>
 Option.bind (F_ref24_Valid { v18.1 with Trust := (eTTrust v18.1.Trust) }) fun r20 =>
 bif (!r20) then
 j10 (p15.2, { v18.1 with Trust := (eTTrust v18.1.Trust), Prime := (TBallot.mk (0 : Int) (ByteArray.mk #[])) }, ())
 else
 j10 (p15.2, { v18.1 with Trust := (eTTrust v18.1.Trust) }, ())) fun j19 =>
 Option.bind (F_ref24_Valid { v16.1 with Trust := (eTTrust v16.1.Trust) }) fun r21 =>
 bif (!r21) then
 j19 ({ v16.1 with Trust := (eTTrust v16.1.Trust), High := (0 : Int) }, ())
 else
 j19 ({ v16.1 with Trust := (eTTrust v16.1.Trust) }, ())) fun j17 =>
 Option.bind (F_ref24_Valid { v12.2.1 with Trust := (eTTrust v12.2.1.Trust), Low := p15.1, High := p14.1 }) fun r22 =>
 bif (!r22) then
 j17 ({ v12.2.1 with Trust := (eTTrust v12.2.1.Trust), Low := (0 : Int), High := p14.1 }, ())
 else
 j17 ({ v12.2.1 with Trust := (eTTrust v12.2.1.Trust), Low := p15.1, High := p14.1 }, ())) fun j13 =>
 Option.bind (F_play_Src_N p11.2 (3 : Int)) fun p23 =>
 bif (decide ((0 : Int) < p23.1)) then
 Option.bind (F_play_Src_Low p23.2) fun p24 =>
 Option.bind (F_play_Src_N p24.2 (2 : Int)) fun p25 =>
 bif (decide (p25.1 = (1 : Int))) then
 Option.bind (F_play_Src_Low p25.2) fun p26 =>
 j13 (p26.2, { v7.2.1 with Trust := (eTTrust v7.2.1.Trust), Kind := (1 : Int), Ballot := (TBallot.mk p11.1 p3.1), Prepared := p24.1, Prime := p26.1 }, ())
 else
 j13 (p25.2, { v7.2.1 with Trust := (eTTrust v7.2.1.Trust), Kind := (1 : Int), Ballot := (TBallot.mk p11.1 p3.1), Prepared := p24.1 }, ())
 else
 j13 (p23.2, { v7.2.1 with Trust := (eTTrust v7.2.1.Trust), Kind := (1 : Int), Ballot := (TBallot.mk p11.1 p3.1) }, ())) fun j8 =>
 bif (decide (p6.1 = (0 : Int))) then
 Option.bind (F_play_Src_Range p6.2 (1 : Int) (7 : Int)) fun p27 =>
 Option.bind (F_play_Src_Range p27.2 (1 : Int) (4 : Int)) fun p28 =>
 Option.bind (F_play_Src_N p28.2 (3 : Int)) fun p29 =>
 Option.bind (F_play_Src_N p29.2 (3 : Int)) fun p30 =>
 j5 (p30.2, (TEnvelope.mk a0 a1 p1.1 (eTTrust p2.1) (2 : Int) (TBallot.mk p27.1 p3.1) (TBallot.mk (addI .i64 (addI .i64 p28.1 p29.1) p30.1) p3.1) (TBallot.mk (0 : Int) (ByteArray.mk #[])) p28.1 (addI .i64 p28.1 p29.1)), ())
 else
 bif (decide (p6.1 = (1 : Int))) then
 Option.bind (F_play_Src_N p6.2 (3 : Int)) fun p31 =>
 bif (decide ((0 : Int) < p31.1)) then
 Option.bind (F_play_Src_Range p31.2 (1 : Int) (7 : Int)) fun p32 =>
 Option.bind (F_play_Src_Range p32.2 (1 : Int) (4 : Int)) fun p33 =>
 Option.bind (F_play_Src_N p33.2 (3 : Int)) fun p34 =>
 j5 (p34.2, (TEnvelope.mk a0 a1 p1.1 (eTTrust p2.1) (3 : Int) (TBallot.mk p32.1 p3.1) (TBallot.mk (0 : Int) (ByteArray.mk #[])) (TBallot.mk (0 : Int) (ByteArray.mk #[])) p33.1 (addI .i64 p33.1 p34.1)), ())
 else
 j8 (p31.2, (TEnvelope.mk a0 a1 p1.1 (eTTrust p2.1) (0 : Int) (TBallot.mk (0 : Int) (ByteArray.mk #[])) (TBallot.mk (0 : Int) (ByteArray.mk #[])) (TBallot.mk (0 : Int) (ByteArray.mk #[])) (0 : Int) (0 : Int)), ())
 else
 j8 (p6.2, (TEnvelope.mk a0 a1 p1.1 (eTTrust p2.1) (0 : Int) (TBallot.mk (0 : Int) (ByteArray.mk #[])) (TBallot.mk (0 : Int) (ByteArray.mk #[])) (TBallot.mk (0 : Int) (ByteArray.mk #[])) (0 : Int) (0 : Int)), ())
noncomputable def k_play_Src_Envelope : KS U Tryz.prog := ⟨.rc 138 0 (Ty.st .Src) [.ty (Ty.i .i64), .ty (Ty.i .i64), .ty (Ty.i .i64)] (.one (Ty.st .Envelope)) fun s a => F_play_Src_Envelope s a.1 a.2.1 a.2.2.1, rcS (K := K) sa_play_Src_Envelope 113 [.cell 8 (some 15)] [k_play_Src_Range, k_play_Src_Trust, k_play_Src_Value, k_play_Src_N, k_play_Src_Low, k_ref24_Valid] (fk Tryz.f138 [] Tryz.func138)⟩

/-! ### trustquorum/trustquorumref43.Lie -/
noncomputable def sa_ref43_Lie : SA U := annA (scOf Tryz.prog 24 [] Tryz.f96) .e
noncomputable def F_ref43_Lie (a0 : Int) (a1 : Int) (a2 : Int) (a3 : ByteArray) : Option TStep :=
 some (TStep.mk (5 : Int) a0 a1 (0 : Int) (0 : Int) (ByteArray.mk #[]) (TTrust.mk (0 : Int) ([] : List Int) ([] : List TTrust)) (TLetter.mk (2 : Int) a2 (TNomination.mk (0 : Int) (0 : Int) (TTrust.mk (0 : Int) ([] : List Int) ([] : List TTrust)) ([] : List ByteArray) ([] : List ByteArray)) (TEnvelope.mk a0 a2 (1 : Int) (TTrust.mk (1 : Int) [a0] ([] : List TTrust)) (3 : Int) (TBallot.mk (1 : Int) a3) (TBallot.mk (0 : Int) (ByteArray.mk #[])) (TBallot.mk (0 : Int) (ByteArray.mk #[])) (1 : Int) (1 : Int))) ([] : List Int))
noncomputable def k_ref43_Lie : KS U Tryz.prog := ⟨.fn 96 [.ty (Ty.i .i64), .ty (Ty.i .i64), .ty (Ty.i .i64), .ty Ty.str] (.one (Ty.st .Step)) fun a => F_ref43_Lie a.1 a.2.1 a.2.2.1 a.2.2.2.1, fnS (K := K) sa_ref43_Lie 24 [.cell 8 (some 34)] [] (fk Tryz.f96 [] Tryz.func96)⟩

/-! ### (*trustquorum/trustquorumplay.Src).Step -/
noncomputable def sa_play_Src_Step : SA U := annA (scOf Tryz.prog 114 [] Tryz.f92) (.r (.r (.j ⟨[.box 0 0 (Ty.st .Src) [], .box 1 1 (Ty.st .Step) []], [0, 6]⟩ (.l (.r (.l (.r (.r (.j ⟨[.val 22 Ty.bool], [0, 1, 2, 6, 7, 13]⟩ .e)))))))))
noncomputable def F_play_Src_Step (s : TSrc) (a0 : Int) (a1 : Int) : Option (TStep × TSrc) :=
 Option.bind (F_play_Src_N s a0) fun p1 =>
 letJ (fun (v2 : TSrc × TStep × Unit) =>
 Option.bind (F_play_Src_Range v2.1 (1 : Int) (3 : Int)) fun p4 =>
 some ((TStep.mk (2 : Int) (0 : Int) (0 : Int) (0 : Int) p4.1 (ByteArray.mk #[]) (TTrust.mk (0 : Int) ([] : List Int) ([] : List TTrust)) (TLetter.mk (0 : Int) (0 : Int) (TNomination.mk (0 : Int) (0 : Int) (TTrust.mk (0 : Int) ([] : List Int) ([] : List TTrust)) ([] : List ByteArray) ([] : List ByteArray)) (TEnvelope.mk (0 : Int) (0 : Int) (0 : Int) (TTrust.mk (0 : Int) ([] : List Int) ([] : List TTrust)) (0 : Int) (TBallot.mk (0 : Int) (ByteArray.mk #[])) (TBallot.mk (0 : Int) (ByteArray.mk #[])) (TBallot.mk (0 : Int) (ByteArray.mk #[])) (0 : Int) (0 : Int))) ([] : List Int)), p4.2)) fun j3 =>
 Option.bind (F_play_Src_N p1.2 (9 : Int)) fun p5 =>
 bif (decide (p5.1 = (0 : Int))) then
 Option.bind (F_play_Src_Range p5.2 (1 : Int) (2 : Int)) fun p6 =>
 Option.bind (F_play_Src_Value p6.2) fun p7 =>
 some ((TStep.mk (1 : Int) p1.1 (0 : Int) p6.1 (0 : Int) p7.1 (TTrust.mk (0 : Int) ([] : List Int) ([] : List TTrust)) (TLetter.mk (0 : Int) (0 : Int) (TNomination.mk (0 : Int) (0 : Int) (TTrust.mk (0 : Int) ([] : List Int) ([] : List TTrust)) ([] : List ByteArray) ([] : List ByteArray)) (TEnvelope.mk (0 : Int) (0 : Int) (0 : Int) (TTrust.mk (0 : Int) ([] : List Int) ([] : List TTrust)) (0 : Int) (TBallot.mk (0 : Int) (ByteArray.mk #[])) (TBallot.mk (0 : Int) (ByteArray.mk #[])) (TBallot.mk (0 : Int) (ByteArray.mk #[])) (0 : Int) (0 : Int))) ([] : List Int)), p7.2)
 else
 letJ (fun (v8 : Bool × Unit) =>
 bif v8.1 then
 Option.bind (F_play_Src_Value p5.2) fun p10 =>
 some ((TStep.mk (8 : Int) p1.1 (0 : Int) (1 : Int) (0 : Int) p10.1 (TTrust.mk (0 : Int) ([] : List Int) ([] : List TTrust)) (TLetter.mk (0 : Int) (0 : Int) (TNomination.mk (0 : Int) (0 : Int) (TTrust.mk (0 : Int) ([] : List Int) ([] : List TTrust)) ([] : List ByteArray) ([] : List ByteArray)) (TEnvelope.mk (0 : Int) (0 : Int) (0 : Int) (TTrust.mk (0 : Int) ([] : List Int) ([] : List TTrust)) (0 : Int) (TBallot.mk (0 : Int) (ByteArray.mk #[])) (TBallot.mk (0 : Int) (ByteArray.mk #[])) (TBallot.mk (0 : Int) (ByteArray.mk #[])) (0 : Int) (0 : Int))) ([] : List Int)), p10.2)
 else
 bif (decide (p5.1 = (3 : Int))) then
 Option.bind (F_play_Src_N p5.2 (3 : Int)) fun p11 =>
 bif (decide (p11.1 = (0 : Int))) then
 if (convI .u64 a0) < 0 then none else
 Option.bind (F_play_Src_N p11.2 (subI .i64 (shlI .i64 (1 : Int) (convI .u64 a0)) (1 : Int))) fun p12 =>
 some ((TStep.mk (6 : Int) (0 : Int) (0 : Int) (0 : Int) (0 : Int) (ByteArray.mk #[]) (TTrust.mk (0 : Int) ([] : List Int) ([] : List TTrust)) (TLetter.mk (0 : Int) (0 : Int) (TNomination.mk (0 : Int) (0 : Int) (TTrust.mk (0 : Int) ([] : List Int) ([] : List TTrust)) ([] : List ByteArray) ([] : List ByteArray)) (TEnvelope.mk (0 : Int) (0 : Int) (0 : Int) (TTrust.mk (0 : Int) ([] : List Int) ([] : List TTrust)) (0 : Int) (TBallot.mk (0 : Int) (ByteArray.mk #[])) (TBallot.mk (0 : Int) (ByteArray.mk #[])) (TBallot.mk (0 : Int) (ByteArray.mk #[])) (0 : Int) (0 : Int))) [(addI .i64 (1 : Int) p12.1)]), p12.2)
 else
 some ((TStep.mk (6 : Int) (0 : Int) (0 : Int) (0 : Int) (0 : Int) (ByteArray.mk #[]) (TTrust.mk (0 : Int) ([] : List Int) ([] : List TTrust)) (TLetter.mk (0 : Int) (0 : Int) (TNomination.mk (0 : Int) (0 : Int) (TTrust.mk (0 : Int) ([] : List Int) ([] : List TTrust)) ([] : List ByteArray) ([] : List ByteArray)) (TEnvelope.mk (0 : Int) (0 : Int) (0 : Int) (TTrust.mk (0 : Int) ([] : List Int) ([] : List TTrust)) (0 : Int) (TBallot.mk (0 : Int) (ByteArray.mk #[])) (TBallot.mk (0 : Int) (ByteArray.mk #[])) (TBallot.mk (0 : Int) (ByteArray.mk #[])) (0 : Int) (0 : Int))) ([] : List Int)), p11.2)
 else
 bif (decide (p5.1 = (4 : Int))) then
 Option.bind (F_play_Src_N p5.2 a0) fun p13 =>
 Option.bind (F_play_Src_N p13.2 (5 : Int)) fun p14 =>
 some ((TStep.mk (7 : Int) p1.1 p13.1 (0 : Int) p14.1 (ByteArray.mk #[]) (TTrust.mk (0 : Int) ([] : List Int) ([] : List TTrust)) (TLetter.mk (0 : Int) (0 : Int) (TNomination.mk (0 : Int) (0 : Int) (TTrust.mk (0 : Int) ([] : List Int) ([] : List TTrust)) ([] : List ByteArray) ([] : List ByteArray)) (TEnvelope.mk (0 : Int) (0 : Int) (0 : Int) (TTrust.mk (0 : Int) ([] : List Int) ([] : List TTrust)) (0 : Int) (TBallot.mk (0 : Int) (ByteArray.mk #[])) (TBallot.mk (0 : Int) (ByteArray.mk #[])) (TBallot.mk (0 : Int) (ByteArray.mk #[])) (0 : Int) (0 : Int))) ([] : List Int)), p14.2)
 else
 bif (decide (p5.1 = (5 : Int))) then
 Option.bind (F_play_Src_N p5.2 (4 : Int)) fun p15 =>
 bif (decide (p15.1 = (0 : Int))) then
 some ((TStep.mk (4 : Int) p1.1 (0 : Int) (0 : Int) (0 : Int) (ByteArray.mk #[]) (TTrust.mk (0 : Int) ([] : List Int) ([] : List TTrust)) (TLetter.mk (0 : Int) (0 : Int) (TNomination.mk (0 : Int) (0 : Int) (TTrust.mk (0 : Int) ([] : List Int) ([] : List TTrust)) ([] : List ByteArray) ([] : List ByteArray)) (TEnvelope.mk (0 : Int) (0 : Int) (0 : Int) (TTrust.mk (0 : Int) ([] : List Int) ([] : List TTrust)) (0 : Int) (TBallot.mk (0 : Int) (ByteArray.mk #[])) (TBallot.mk (0 : Int) (ByteArray.mk #[])) (TBallot.mk (0 : Int) (ByteArray.mk #[])) (0 : Int) (0 : Int))) ([] : List Int)), p15.2)
 else
 Option.bind (F_play_Src_Range p15.2 (1 : Int) (4 : Int)) fun p16 =>
 some ((TStep.mk (2 : Int) (0 : Int) (0 : Int) (0 : Int) p16.1 (ByteArray.mk #[]) (TTrust.mk (0 : Int) ([] : List Int) ([] : List TTrust)) (TLetter.mk (0 : Int) (0 : Int) (TNomination.mk (0 : Int) (0 : Int) (TTrust.mk (0 : Int) ([] : List Int) ([] : List TTrust)) ([] : List ByteArray) ([] : List ByteArray)) (TEnvelope.mk (0 : Int) (0 : Int) (0 : Int) (TTrust.mk (0 : Int) ([] : List Int) ([] : List TTrust)) (0 : Int) (TBallot.mk (0 : Int) (ByteArray.mk #[])) (TBallot.mk (0 : Int) (ByteArray.mk #[])) (TBallot.mk (0 : Int) (ByteArray.mk #[])) (0 : Int) (0 : Int))) ([] : List Int)), p16.2)
 else
 bif (decide (p5.1 = (6 : Int))) then
 if (convI .u64 p1.1) < 0 then none else
 bif (decide ((andI .i64 (shrI .i64 a1 (convI .u64 p1.1)) (1 : Int)) = (1 : Int))) then
 Option.bind (F_play_Src_Envelope p5.2 p1.1 (1 : Int) a0) fun p17 =>
 Option.bind (F_play_Src_N p17.2 (20 : Int)) fun p18 =>
 Option.bind (F_play_Src_N p18.2 a0) fun p19 =>
 some ((TStep.mk (5 : Int) p1.1 p19.1 (0 : Int) (0 : Int) (ByteArray.mk #[]) (TTrust.mk (0 : Int) ([] : List Int) ([] : List TTrust)) (TLetter.mk (2 : Int) (1 : Int) (TNomination.mk (0 : Int) (0 : Int) (TTrust.mk (0 : Int) ([] : List Int) ([] : List TTrust)) ([] : List ByteArray) ([] : List ByteArray)) { p17.1 with Seq := (addI .i64 p17.1.Seq p18.1), Trust := (eTTrust p17.1.Trust) }) ([] : List Int)), p19.2)
 else
 Option.bind (F_play_Src_N p5.2 (4 : Int)) fun p20 =>
 bif (decide (p20.1 = (0 : Int))) then
 Option.bind (F_play_Src_Trust p20.2 a0) fun p21 =>
 some ((TStep.mk (3 : Int) p1.1 (0 : Int) (0 : Int) (0 : Int) (ByteArray.mk #[]) (eTTrust p21.1) (TLetter.mk (0 : Int) (0 : Int) (TNomination.mk (0 : Int) (0 : Int) (TTrust.mk (0 : Int) ([] : List Int) ([] : List TTrust)) ([] : List ByteArray) ([] : List ByteArray)) (TEnvelope.mk (0 : Int) (0 : Int) (0 : Int) (TTrust.mk (0 : Int) ([] : List Int) ([] : List TTrust)) (0 : Int) (TBallot.mk (0 : Int) (ByteArray.mk #[])) (TBallot.mk (0 : Int) (ByteArray.mk #[])) (TBallot.mk (0 : Int) (ByteArray.mk #[])) (0 : Int) (0 : Int))) ([] : List Int)), p21.2)
 else
 j3 (p20.2, (TStep.mk (0 : Int) (0 : Int) (0 : Int) (0 : Int) (0 : Int) (ByteArray.mk #[]) (TTrust.mk (0 : Int) ([] : List Int) ([] : List TTrust)) (TLetter.mk (0 : Int) (0 : Int) (TNomination.mk (0 : Int) (0 : Int) (TTrust.mk (0 : Int) ([] : List Int) ([] : List TTrust)) ([] : List ByteArray) ([] : List ByteArray)) (TEnvelope.mk (0 : Int) (0 : Int) (0 : Int) (TTrust.mk (0 : Int) ([] : List Int) ([] : List TTrust)) (0 : Int) (TBallot.mk (0 : Int) (ByteArray.mk #[])) (TBallot.mk (0 : Int) (ByteArray.mk #[])) (TBallot.mk (0 : Int) (ByteArray.mk #[])) (0 : Int) (0 : Int))) ([] : List Int)), ())
 else
 bif (decide (p5.1 = (7 : Int))) then
 if (convI .u64 p1.1) < 0 then none else
 bif (decide ((andI .i64 (shrI .i64 a1 (convI .u64 p1.1)) (1 : Int)) = (1 : Int))) then
 Option.bind (F_play_Src_N p5.2 a0) fun p22 =>
 Option.bind (F_play_Src_Value p22.2) fun p23 =>
 Option.bind (F_ref43_Lie p1.1 p22.1 (1 : Int) p23.1) fun r24 =>
 some ({ r24 with Trust := (eTTrust r24.Trust), Letter := { r24.Letter with Nomination := { r24.Letter.Nomination with Trust := (eTTrust r24.Letter.Nomination.Trust) }, Envelope := { r24.Letter.Envelope with Trust := (eTTrust r24.Letter.Envelope.Trust) } } }, p23.2)
 else
 j3 (p5.2, (TStep.mk (0 : Int) (0 : Int) (0 : Int) (0 : Int) (0 : Int) (ByteArray.mk #[]) (TTrust.mk (0 : Int) ([] : List Int) ([] : List TTrust)) (TLetter.mk (0 : Int) (0 : Int) (TNomination.mk (0 : Int) (0 : Int) (TTrust.mk (0 : Int) ([] : List Int) ([] : List TTrust)) ([] : List ByteArray) ([] : List ByteArray)) (TEnvelope.mk (0 : Int) (0 : Int) (0 : Int) (TTrust.mk (0 : Int) ([] : List Int) ([] : List TTrust)) (0 : Int) (TBallot.mk (0 : Int) (ByteArray.mk #[])) (TBallot.mk (0 : Int) (ByteArray.mk #[])) (TBallot.mk (0 : Int) (ByteArray.mk #[])) (0 : Int) (0 : Int))) ([] : List Int)), ())
 else
 j3 (p5.2, (TStep.mk (0 : Int) (0 : Int) (0 : Int) (0 : Int) (0 : Int) (ByteArray.mk #[]) (TTrust.mk (0 : Int) ([] : List Int) ([] : List TTrust)) (TLetter.mk (0 : Int) (0 : Int) (TNomination.mk (0 : Int) (0 : Int) (TTrust.mk (0 : Int) ([] : List Int) ([] : List TTrust)) ([] : List ByteArray) ([] : List ByteArray)) (TEnvelope.mk (0 : Int) (0 : Int) (0 : Int) (TTrust.mk (0 : Int) ([] : List Int) ([] : List TTrust)) (0 : Int) (TBallot.mk (0 : Int) (ByteArray.mk #[])) (TBallot.mk (0 : Int) (ByteArray.mk #[])) (TBallot.mk (0 : Int) (ByteArray.mk #[])) (0 : Int) (0 : Int))) ([] : List Int)), ())) fun j9 =>
 bif (decide (p5.1 = (1 : Int))) then
 j9 ((decide (p5.1 = (1 : Int))), ())
 else
 j9 ((decide (p5.1 = (2 : Int))), ())
noncomputable def k_play_Src_Step : KS U Tryz.prog := ⟨.rc 92 0 (Ty.st .Src) [.ty (Ty.i .i64), .ty (Ty.i .i64)] (.one (Ty.st .Step)) fun s a => F_play_Src_Step s a.1 a.2.1, rcS (K := K) sa_play_Src_Step 114 [.cell 6 (some 34)] [k_play_Src_N, k_play_Src_Range, k_play_Src_Value, k_play_Src_Envelope, k_play_Src_Trust, k_ref43_Lie] (fk Tryz.f92 [] Tryz.func92)⟩

/-! ### (*trustquorum/trustquorumplay.Src).Steps -/
noncomputable def sa_play_Src_Steps : SA U := annA (scOf Tryz.prog 27 [] Tryz.f41) (.r (.r (.l (.r (.l (.ps (.own 9 51 34 (Ty.st .Step)) (.j ⟨[.val 10 (Ty.i .i64), .own 9 8 1 51 34 (Ty.st .Step), .box 0 0 (Ty.st .Src) []], [0, 1, 2]⟩ .e)))))))
noncomputable def F_play_Src_Steps (s : TSrc) (a0 : Int) (a1 : Int) (a2 : Int) : Option ((List TStep) × TSrc) :=
 Option.bind (F_play_Src_N s (addI .i64 a2 (1 : Int))) fun p1 =>
 loopO (fun (v2 : Int × (List TStep) × TSrc × Unit) =>
 bif (decide ((0 : Int) < v2.1)) then
 Option.bind (F_play_Src_Step v2.2.2.1 a0 a1) fun p3 =>
 bif lenOk 448 (List.length v2.2.1 + List.length [{ p3.1 with Trust := (eTTrust p3.1.Trust), Letter := { p3.1.Letter with Nomination := { p3.1.Letter.Nomination with Trust := (eTTrust p3.1.Letter.Nomination.Trust) }, Envelope := { p3.1.Letter.Envelope with Trust := (eTTrust p3.1.Letter.Envelope.Trust) } } }]) then
 some (Sum.inl ((subI .i64 v2.1 (1 : Int)), (v2.2.1 ++ [{ p3.1 with Trust := (eTTrust p3.1.Trust), Letter := { p3.1.Letter with Nomination := { p3.1.Letter.Nomination with Trust := (eTTrust p3.1.Letter.Nomination.Trust) }, Envelope := { p3.1.Letter.Envelope with Trust := (eTTrust p3.1.Letter.Envelope.Trust) } } }]), p3.2, ()))
 else none
 else
 Option.map Sum.inr (some (v2.2.1, v2.2.2.1))) (p1.1, ([] : List TStep), p1.2, ())
noncomputable def k_play_Src_Steps : KS U Tryz.prog := ⟨.rc 41 0 (Ty.st .Src) [.ty (Ty.i .i64), .ty (Ty.i .i64), .ty (Ty.i .i64)] (.one (Ty.sl (Ty.st .Step))) fun s a => F_play_Src_Steps s a.1 a.2.1 a.2.2.1, rcS (K := K) sa_play_Src_Steps 27 [.tmp 8] [k_play_Src_N, k_play_Src_Step] (fk Tryz.f41 [] Tryz.func41)⟩

/-! ### (*trustquorum/trustquorumplay.Src).Begin -/
noncomputable def sa_play_Src_Begin : SA U := annA (scOf Tryz.prog 37 [] Tryz.f20) (.r (.r (.l (.r (.l (.ps (.own 9 51 34 (Ty.st .Step)) (.j ⟨[.val 10 (Ty.i .i64), .own 9 4 1 51 34 (Ty.st .Step), .box 0 0 (Ty.st .Src) []], [0, 1, 2, 3]⟩ (.l (.r (.j ⟨[.own 9 4 1 51 34 (Ty.st .Step), .box 0 0 (Ty.st .Src) []], [0, 1, 2, 3, 10]⟩ .e))))))))))
noncomputable def F_play_Src_Begin (s : TSrc) (a0 : Int) (a1 : Int) (a2 : Int) : Option ((List TStep) × TSrc) :=
 loopO (fun (v1 : Int × (List TStep) × TSrc × Unit) =>
 bif (decide (v1.1 < a0)) then
 letJ (fun (v2 : (List TStep) × TSrc × Unit) =>
 some (Sum.inl ((addI .i64 v1.1 (1 : Int)), v2.1, v2.2.1, ()))) fun j3 =>
 if (convI .u64 v1.1) < 0 then none else
 bif (decide ((andI .i64 (shrI .i64 a1 (convI .u64 v1.1)) (1 : Int)) = (0 : Int))) then
 Option.bind (F_play_Src_Text v1.2.2.1 [(ByteArray.mk #[97]), (ByteArray.mk #[98])]) fun p4 =>
 bif lenOk 448 (List.length v1.2.1 + List.length [(TStep.mk (8 : Int) v1.1 (0 : Int) (1 : Int) (0 : Int) p4.1 (TTrust.mk (0 : Int) ([] : List Int) ([] : List TTrust)) (TLetter.mk (0 : Int) (0 : Int) (TNomination.mk (0 : Int) (0 : Int) (TTrust.mk (0 : Int) ([] : List Int) ([] : List TTrust)) ([] : List ByteArray) ([] : List ByteArray)) (TEnvelope.mk (0 : Int) (0 : Int) (0 : Int) (TTrust.mk (0 : Int) ([] : List Int) ([] : List TTrust)) (0 : Int) (TBallot.mk (0 : Int) (ByteArray.mk #[])) (TBallot.mk (0 : Int) (ByteArray.mk #[])) (TBallot.mk (0 : Int) (ByteArray.mk #[])) (0 : Int) (0 : Int))) ([] : List Int))]) then
 j3 ((v1.2.1 ++ [(TStep.mk (8 : Int) v1.1 (0 : Int) (1 : Int) (0 : Int) p4.1 (TTrust.mk (0 : Int) ([] : List Int) ([] : List TTrust)) (TLetter.mk (0 : Int) (0 : Int) (TNomination.mk (0 : Int) (0 : Int) (TTrust.mk (0 : Int) ([] : List Int) ([] : List TTrust)) ([] : List ByteArray) ([] : List ByteArray)) (TEnvelope.mk (0 : Int) (0 : Int) (0 : Int) (TTrust.mk (0 : Int) ([] : List Int) ([] : List TTrust)) (0 : Int) (TBallot.mk (0 : Int) (ByteArray.mk #[])) (TBallot.mk (0 : Int) (ByteArray.mk #[])) (TBallot.mk (0 : Int) (ByteArray.mk #[])) (0 : Int) (0 : Int))) ([] : List Int))]), p4.2, ())
 else none
 else
 j3 (v1.2.1, v1.2.2.1, ())
 else
 Option.map Sum.inr (Option.bind (F_play_Src_Steps v1.2.2.1 a0 a1 a2) fun p5 =>
 bif lenOk 448 (List.length v1.2.1 + List.length p5.1) then
 some ((v1.2.1 ++ p5.1), p5.2)
 else none)) ((0 : Int), ([] : List TStep), s, ())
noncomputable def k_play_Src_Begin : KS U Tryz.prog := ⟨.rc 20 0 (Ty.st .Src) [.ty (Ty.i .i64), .ty (Ty.i .i64), .ty (Ty.i .i64)] (.one (Ty.sl (Ty.st .Step))) fun s a => F_play_Src_Begin s a.1 a.2.1 a.2.2.1, rcS (K := K) sa_play_Src_Begin 37 [.tmp 8] [k_play_Src_Text, k_play_Src_Steps] (fk Tryz.f20 [] Tryz.func20)⟩

/-! ### trustquorum/trustquorumref45.in -/
noncomputable def sa_ref45_in : SA U := annA (scOf Tryz.prog 15 [] Tryz.f42) .e
noncomputable def F_ref45_in (a0 : Int) (a1 : Int) (a2 : Int) : Option Bool :=
 Option.bind (bif (decide (a1 ≤ a0)) then
 some (decide (a0 ≤ a2))
 else some false) fun b1 =>
 some b1
noncomputable def k_ref45_in : KS U Tryz.prog := ⟨.fn 42 [.ty (Ty.i .i64), .ty (Ty.i .i64), .ty (Ty.i .i64)] (.one Ty.bool) fun a => F_ref45_in a.1 a.2.1 a.2.2.1, fnS (K := K) sa_ref45_in 15 [.tmp 6] [] (fk Tryz.f42 [] Tryz.func42)⟩

/-! ### trustquorum/trustquorumref45.Word -/
noncomputable def sa_ref45_Word : SA U := annA (scOf Tryz.prog 41 [] Tryz.f43) (.r (.l (.r (.l (.j ⟨[.val 3 (Ty.i .i64)], [0]⟩ .e)))))
noncomputable def F_ref45_Word (a0 : ByteArray) : Option Bool :=
 loopO (fun (v1 : Int × Unit) =>
 bif (decide (v1.1 < ((ByteArray.size a0 : Nat) : Int))) then
 Option.bind (sidx a0 v1.1) fun x2 =>
 Option.bind (bif (decide ((97 : Int) ≤ x2)) then
 Option.bind (sidx a0 v1.1) fun x3 =>
 some (decide (x3 ≤ (122 : Int)))
 else some false) fun b4 =>
 Option.bind (bif b4 then some true
 else
 Option.bind (sidx a0 v1.1) fun x5 =>
 Option.bind (bif (decide ((48 : Int) ≤ x5)) then
 Option.bind (sidx a0 v1.1) fun x6 =>
 some (decide (x6 ≤ (57 : Int)))
 else some false) fun b7 =>
 some b7) fun b8 =>
 bif (!b8) then
 Option.map Sum.inr (some false)
 else
 some (Sum.inl ((addI .i64 v1.1 (1 : Int)), ()))
 else
 Option.map Sum.inr (Option.bind (bif (decide ((1 : Int) ≤ ((ByteArray.size a0 : Nat) : Int))) then
 some (decide (((ByteArray.size a0 : Nat) : Int) ≤ (20 : Int)))
 else some false) fun b9 =>
 some b9)) ((0 : Int), ())
noncomputable def k_ref45_Word : KS U Tryz.prog := ⟨.fn 43 [.ty Ty.str] (.one Ty.bool) fun a => F_ref45_Word a.1, fnS (K := K) sa_ref45_Word 41 [.tmp 2] [] (fk Tryz.f43 [] Tryz.func43)⟩

/-! ### trustquorum/trustquorumref45.Lie -/
noncomputable def sa_ref45_Lie : SA U := annA (scOf Tryz.prog 14 [] Tryz.f45) .e
noncomputable def F_ref45_Lie (a0 : Int) (a1 : Int) (a2 : Int) (a3 : ByteArray) : Option TStep :=
 Option.bind (F_ref43_Lie a0 a1 a2 a3) fun r1 =>
 some { r1 with Trust := (eTTrust r1.Trust), Letter := { r1.Letter with Nomination := { r1.Letter.Nomination with Trust := (eTTrust r1.Letter.Nomination.Trust) }, Envelope := { r1.Letter.Envelope with Trust := (eTTrust r1.Letter.Envelope.Trust) } } }
noncomputable def k_ref45_Lie : KS U Tryz.prog := ⟨.fn 45 [.ty (Ty.i .i64), .ty (Ty.i .i64), .ty (Ty.i .i64), .ty Ty.str] (.one (Ty.st .Step)) fun a => F_ref45_Lie a.1 a.2.1 a.2.2.1 a.2.2.2.1, fnS (K := K) sa_ref45_Lie 14 [.cell 8 (some 34)] [k_ref43_Lie] (fk Tryz.f45 [] Tryz.func45)⟩

/-! ### trustquorum/trustquorumref01.Same -/
noncomputable def sa_ref01_Same : SA U := annA (scOf Tryz.prog 26 [] Tryz.f91) (.r (.r (.l (.r (.l (.j ⟨[.val 13 (Ty.i .i64)], [0, 1, 12]⟩ .e))))))
noncomputable def F_ref01_Same (a0 : (List Int)) (a1 : (List Int)) : Option Bool :=
 bif (!decide (((List.length a0 : Nat) : Int) = ((List.length a1 : Nat) : Int))) then
 some false
 else
 loopO (fun (v1 : Int × Unit) =>
 bif (decide (v1.1 < ((List.length a0 : Nat) : Int))) then
 Option.bind (idx a0 v1.1) fun x2 =>
 Option.bind (idx a1 v1.1) fun x3 =>
 bif (!decide (x2 = x3)) then
 Option.map Sum.inr (some false)
 else
 some (Sum.inl ((addI .i64 v1.1 (1 : Int)), ()))
 else
 Option.map Sum.inr (some true)) ((0 : Int), ())
noncomputable def k_ref01_Same : KS U Tryz.prog := ⟨.fn 91 [.ty (Ty.sl (Ty.i .i64)), .ty (Ty.sl (Ty.i .i64))] (.one Ty.bool) fun a => F_ref01_Same a.1 a.2.1, fnS (K := K) sa_ref01_Same 26 [.tmp 4] [] (fk Tryz.f91 [] Tryz.func91)⟩

/-! ### trustquorum/trustquorumref02.Same -/
noncomputable def sa_ref02_Same : SA U := annA (scOf Tryz.prog 47 [] Tryz.f40) (.r (.r (.l (.r (.l (.j ⟨[.val 31 (Ty.i .i64)], [2, 3, 30]⟩ .e))))))
noncomputable def B_ref02_Same (rec : (TTrust × TTrust × Unit) → Option Bool) (a0 : TTrust) (a1 : TTrust) : Option Bool :=
 Option.bind (bif (!decide (a0.Threshold = a1.Threshold)) then some true
 else
 Option.bind (F_ref01_Same a0.Nodes a1.Nodes) fun r1 =>
 some (!r1)) fun b2 =>
 Option.bind (bif b2 then some true
 else
 some (!decide (((List.length a0.Inner : Nat) : Int) = ((List.length a1.Inner : Nat) : Int)))) fun b3 =>
 bif b3 then
 some false
 else
 loopO (fun (v4 : Int × Unit) =>
 bif (decide (v4.1 < ((List.length a0.Inner : Nat) : Int))) then
 Option.bind (idx a0.Inner v4.1) fun x5 =>
 Option.bind (idx a1.Inner v4.1) fun x6 =>
 Option.bind (rec ((eTTrust x5), (eTTrust x6), ())) fun r7 =>
 bif (!r7) then
 Option.map Sum.inr (some false)
 else
 some (Sum.inl ((addI .i64 v4.1 (1 : Int)), ()))
 else
 Option.map Sum.inr (some true)) ((0 : Int), ())
noncomputable def I_ref02_Same : Nat → (TTrust × TTrust × Unit) → Option Bool := iterF (fun rec a => B_ref02_Same rec a.1 a.2.1)
noncomputable def F_ref02_Same (a0 : TTrust) (a1 : TTrust) : Option Bool := I_ref02_Same (SizeOf.sizeOf a0 + SizeOf.sizeOf a1 + 1) (a0, a1, ())
noncomputable def k_ref02_Same : KS U Tryz.prog := ⟨.fn 40 [.ty (Ty.st .Trust), .ty (Ty.st .Trust)] (.one Ty.bool) fun a => F_ref02_Same a.1 a.2.1, fnRS (K := K) («as» := [.ty (Ty.st .Trust), .ty (Ty.st .Trust)]) (r := .one Ty.bool) (B := fun rec a => B_ref02_Same rec a.1 a.2.1) sa_ref02_Same 47 [.tmp 4] [k_ref01_Same] (fk Tryz.f40 [] Tryz.func40) (hF := fun a => ⟨_, rfl⟩)⟩

/-! ### trustquorum/trustquorumref24.Same -/
noncomputable def sa_ref24_Same : SA U := annA (scOf Tryz.prog 73 [] Tryz.f153) .e
noncomputable def F_ref24_Same (a0 : TEnvelope) (a1 : TEnvelope) : Option Bool :=
 Option.bind (bif (decide (a0.Node = a1.Node)) then
 some (decide (a0.Slot = a1.Slot))
 else some false) fun b1 =>
 Option.bind (bif b1 then
 some (decide (a0.Seq = a1.Seq))
 else some false) fun b2 =>
 Option.bind (bif b2 then
 Option.bind (F_ref02_Same (eTTrust a0.Trust) (eTTrust a1.Trust)) fun r3 =>
 some r3
 else some false) fun b4 =>
 Option.bind (bif b4 then
 some (decide (a0.Kind = a1.Kind))
 else some false) fun b5 =>
 Option.bind (bif b5 then
 some (eq2 false a0.Ballot.Counter a1.Ballot.Counter a0.Ballot.Value a1.Ballot.Value)
 else some false) fun b6 =>
 Option.bind (bif b6 then
 some (eq2 false a0.Prepared.Counter a1.Prepared.Counter a0.Prepared.Value a1.Prepared.Value)
 else some false) fun b7 =>
 Option.bind (bif b7 then
 some (eq2 false a0.Prime.Counter a1.Prime.Counter a0.Prime.Value a1.Prime.Value)
 else some false) fun b8 =>
 Option.bind (bif b8 then
 some (decide (a0.Low = a1.Low))
 else some false) fun b9 =>
 Option.bind (bif b9 then
 some (decide (a0.High = a1.High))
 else some false) fun b10 =>
 some b10
noncomputable def k_ref24_Same : KS U Tryz.prog := ⟨.fn 153 [.ty (Ty.st .Envelope), .ty (Ty.st .Envelope)] (.one Ty.bool) fun a => F_ref24_Same a.1 a.2.1, fnS (K := K) sa_ref24_Same 73 [.tmp 4] [k_ref02_Same] (fk Tryz.f153 [] Tryz.func153)⟩

/-! ### trustquorum/trustquorumref29.values -/
noncomputable def sa_ref29_values : SA U := annA (scOf Tryz.prog 26 [] Tryz.f188) (.r (.r (.l (.r (.l (.j ⟨[.val 13 (Ty.i .i64)], [0, 1, 12]⟩ .e))))))
noncomputable def F_ref29_values (a0 : (List ByteArray)) (a1 : (List ByteArray)) : Option Bool :=
 bif (!decide (((List.length a0 : Nat) : Int) = ((List.length a1 : Nat) : Int))) then
 some false
 else
 loopO (fun (v1 : Int × Unit) =>
 bif (decide (v1.1 < ((List.length a0 : Nat) : Int))) then
 Option.bind (idx a0 v1.1) fun x2 =>
 Option.bind (idx a1 v1.1) fun x3 =>
 bif (!decide (x2 = x3)) then
 Option.map Sum.inr (some false)
 else
 some (Sum.inl ((addI .i64 v1.1 (1 : Int)), ()))
 else
 Option.map Sum.inr (some true)) ((0 : Int), ())
noncomputable def k_ref29_values : KS U Tryz.prog := ⟨.fn 188 [.ty (Ty.sl Ty.str), .ty (Ty.sl Ty.str)] (.one Ty.bool) fun a => F_ref29_values a.1 a.2.1, fnS (K := K) sa_ref29_values 26 [.tmp 4] [] (fk Tryz.f188 [] Tryz.func188)⟩

/-! ### trustquorum/trustquorumref29.Nomination -/
noncomputable def sa_ref29_Nomination : SA U := annA (scOf Tryz.prog 38 [] Tryz.f154) .e
noncomputable def F_ref29_Nomination (a0 : TNomination) (a1 : TNomination) : Option Bool :=
 Option.bind (bif (decide (a0.Node = a1.Node)) then
 some (decide (a0.Seq = a1.Seq))
 else some false) fun b1 =>
 Option.bind (bif b1 then
 Option.bind (F_ref02_Same (eTTrust a0.Trust) (eTTrust a1.Trust)) fun r2 =>
 some r2
 else some false) fun b3 =>
 Option.bind (bif b3 then
 Option.bind (F_ref29_values a0.Votes a1.Votes) fun r4 =>
 some r4
 else some false) fun b5 =>
 Option.bind (bif b5 then
 Option.bind (F_ref29_values a0.Accepts a1.Accepts) fun r6 =>
 some r6
 else some false) fun b7 =>
 some b7
noncomputable def k_ref29_Nomination : KS U Tryz.prog := ⟨.fn 154 [.ty (Ty.st .Nomination), .ty (Ty.st .Nomination)] (.one Ty.bool) fun a => F_ref29_Nomination a.1 a.2.1, fnS (K := K) sa_ref29_Nomination 38 [.tmp 4] [k_ref02_Same, k_ref29_values] (fk Tryz.f154 [] Tryz.func154)⟩

/-! ### trustquorum/trustquorumref29.Letter -/
noncomputable def sa_ref29_Letter : SA U := annA (scOf Tryz.prog 31 [] Tryz.f110) .e
noncomputable def F_ref29_Letter (a0 : TLetter) (a1 : TLetter) : Option Bool :=
 Option.bind (bif (decide (a0.Kind = a1.Kind)) then
 some (decide (a0.Slot = a1.Slot))
 else some false) fun b1 =>
 Option.bind (bif b1 then
 Option.bind (F_ref24_Same { a0.Envelope with Trust := (eTTrust a0.Envelope.Trust) } { a1.Envelope with Trust := (eTTrust a1.Envelope.Trust) }) fun r2 =>
 some r2
 else some false) fun b3 =>
 Option.bind (bif b3 then
 Option.bind (F_ref29_Nomination { a0.Nomination with Trust := (eTTrust a0.Nomination.Trust) } { a1.Nomination with Trust := (eTTrust a1.Nomination.Trust) }) fun r4 =>
 some r4
 else some false) fun b5 =>
 some b5
noncomputable def k_ref29_Letter : KS U Tryz.prog := ⟨.fn 110 [.ty (Ty.st .Letter), .ty (Ty.st .Letter)] (.one Ty.bool) fun a => F_ref29_Letter a.1 a.2.1, fnS (K := K) sa_ref29_Letter 31 [.tmp 4] [k_ref24_Same, k_ref29_Nomination] (fk Tryz.f110 [] Tryz.func110)⟩

/-! ### trustquorum/trustquorumref31.Letter -/
noncomputable def sa_ref31_Letter : SA U := annA (scOf Tryz.prog 8 [] Tryz.f62) .e
noncomputable def F_ref31_Letter (a0 : TLetter) (a1 : TLetter) : Option Bool :=
 Option.bind (F_ref29_Letter { a0 with Nomination := { a0.Nomination with Trust := (eTTrust a0.Nomination.Trust) }, Envelope := { a0.Envelope with Trust := (eTTrust a0.Envelope.Trust) } } { a1 with Nomination := { a1.Nomination with Trust := (eTTrust a1.Nomination.Trust) }, Envelope := { a1.Envelope with Trust := (eTTrust a1.Envelope.Trust) } }) fun r1 =>
 some r1
noncomputable def k_ref31_Letter : KS U Tryz.prog := ⟨.fn 62 [.ty (Ty.st .Letter), .ty (Ty.st .Letter)] (.one Ty.bool) fun a => F_ref31_Letter a.1 a.2.1, fnS (K := K) sa_ref31_Letter 8 [.tmp 4] [k_ref29_Letter] (fk Tryz.f62 [] Tryz.func62)⟩

/-! ### trustquorum/trustquorumref31.Ints -/
noncomputable def sa_ref31_Ints : SA U := annA (scOf Tryz.prog 26 [] Tryz.f63) (.r (.r (.l (.r (.l (.j ⟨[.val 13 (Ty.i .i64)], [0, 1, 12]⟩ .e))))))
noncomputable def F_ref31_Ints (a0 : (List Int)) (a1 : (List Int)) : Option Bool :=
 bif (!decide (((List.length a0 : Nat) : Int) = ((List.length a1 : Nat) : Int))) then
 some false
 else
 loopO (fun (v1 : Int × Unit) =>
 bif (decide (v1.1 < ((List.length a0 : Nat) : Int))) then
 Option.bind (idx a0 v1.1) fun x2 =>
 Option.bind (idx a1 v1.1) fun x3 =>
 bif (!decide (x2 = x3)) then
 Option.map Sum.inr (some false)
 else
 some (Sum.inl ((addI .i64 v1.1 (1 : Int)), ()))
 else
 Option.map Sum.inr (some true)) ((0 : Int), ())
noncomputable def k_ref31_Ints : KS U Tryz.prog := ⟨.fn 63 [.ty (Ty.sl (Ty.i .i64)), .ty (Ty.sl (Ty.i .i64))] (.one Ty.bool) fun a => F_ref31_Ints a.1 a.2.1, fnS (K := K) sa_ref31_Ints 26 [.tmp 4] [] (fk Tryz.f63 [] Tryz.func63)⟩

/-! ### trustquorum/trustquorumref43.Equal -/
noncomputable def sa_ref43_Equal : SA U := annA (scOf Tryz.prog 66 [] Tryz.f30) .e
noncomputable def F_ref43_Equal (a0 : TStep) (a1 : TStep) : Option Bool :=
 Option.bind (bif (decide (a0.Kind = a1.Kind)) then
 some (decide (a0.Node = a1.Node))
 else some false) fun b1 =>
 Option.bind (bif b1 then
 some (decide (a0.To = a1.To))
 else some false) fun b2 =>
 Option.bind (bif b2 then
 some (decide (a0.Slot = a1.Slot))
 else some false) fun b3 =>
 Option.bind (bif b3 then
 some (decide (a0.Count = a1.Count))
 else some false) fun b4 =>
 Option.bind (bif b4 then
 some (decide (a0.Value = a1.Value))
 else some false) fun b5 =>
 Option.bind (bif b5 then
 Option.bind (F_ref02_Same (eTTrust a0.Trust) (eTTrust a1.Trust)) fun r6 =>
 some r6
 else some false) fun b7 =>
 Option.bind (bif b7 then
 Option.bind (F_ref31_Letter { a0.Letter with Nomination := { a0.Letter.Nomination with Trust := (eTTrust a0.Letter.Nomination.Trust) }, Envelope := { a0.Letter.Envelope with Trust := (eTTrust a0.Letter.Envelope.Trust) } } { a1.Letter with Nomination := { a1.Letter.Nomination with Trust := (eTTrust a1.Letter.Nomination.Trust) }, Envelope := { a1.Letter.Envelope with Trust := (eTTrust a1.Letter.Envelope.Trust) } }) fun r8 =>
 some r8
 else some false) fun b9 =>
 Option.bind (bif b9 then
 Option.bind (F_ref31_Ints a0.Parts a1.Parts) fun r10 =>
 some r10
 else some false) fun b11 =>
 some b11
noncomputable def k_ref43_Equal : KS U Tryz.prog := ⟨.fn 30 [.ty (Ty.st .Step), .ty (Ty.st .Step)] (.one Ty.bool) fun a => F_ref43_Equal a.1 a.2.1, fnS (K := K) sa_ref43_Equal 66 [.tmp 4] [k_ref02_Same, k_ref31_Letter, k_ref31_Ints] (fk Tryz.f30 [] Tryz.func30)⟩

/-! ### trustquorum/trustquorumref40.unsigned -/
noncomputable def sa_ref40_unsigned : SA U := annA (scOf Tryz.prog 23 [] Tryz.f140) (.r (.r (.l (.l (.j ⟨[.val 0 (Ty.i .u64), .val 3 Ty.str], []⟩ .e)))))
noncomputable def F_ref40_unsigned (a0 : Int) : Option ByteArray :=
 loopO (fun (v1 : Int × ByteArray × Unit) =>
 bif (decide ((9 : Int) < v1.1)) then
 Option.bind (bytesI [(convI .u8 (addI .u64 (48 : Int) (remI .u64 v1.1 (10 : Int))))]) fun x2 =>
 Option.bind (scat (ByteArray.mk (List.toArray x2)) v1.2.1) fun x3 =>
 some (Sum.inl ((quoI .u64 v1.1 (10 : Int)), x3, ()))
 else
 Option.map Sum.inr (Option.bind (bytesI [(convI .u8 (addI .u64 (48 : Int) v1.1))]) fun x4 =>
 Option.bind (scat (ByteArray.mk (List.toArray x4)) v1.2.1) fun x5 =>
 some x5)) (a0, (ByteArray.mk #[]), ())
noncomputable def k_ref40_unsigned : KS U Tryz.prog := ⟨.fn 140 [.ty (Ty.i .u64)] (.one Ty.str) fun a => F_ref40_unsigned a.1, fnS (K := K) sa_ref40_unsigned 23 [.tmp 2] [] (fk Tryz.f140 [] Tryz.func140)⟩

/-! ### trustquorum/trustquorumref40.Decimal -/
noncomputable def sa_ref40_Decimal : SA U := annA (scOf Tryz.prog 13 [] Tryz.f97) .e
noncomputable def F_ref40_Decimal (a0 : Int) : Option ByteArray :=
 bif (decide (a0 < (0 : Int))) then
 Option.bind (F_ref40_unsigned (subI .u64 0 (convI .u64 a0))) fun r1 =>
 Option.bind (scat (ByteArray.mk #[45]) r1) fun x2 =>
 some x2
 else
 Option.bind (F_ref40_unsigned (convI .u64 a0)) fun r3 =>
 some r3
noncomputable def k_ref40_Decimal : KS U Tryz.prog := ⟨.fn 97 [.ty (Ty.i .i64)] (.one Ty.str) fun a => F_ref40_Decimal a.1, fnS (K := K) sa_ref40_Decimal 13 [.tmp 2] [k_ref40_unsigned] (fk Tryz.f97 [] Tryz.func97)⟩

/-! ### strconv.Itoa -/
noncomputable def F_strconv_Itoa (a0 : Int) : Option ByteArray := itoaF a0
noncomputable def k_strconv_Itoa : KS U Tryz.prog := ⟨.fn 111 [.ty (Ty.i .i64)] (.one Ty.str) fun a => F_strconv_Itoa a.1, lib111⟩

/-! ### trustquorum/trustquorumref03.text -/
noncomputable def sa_ref03_text : SA U := annA (scOf Tryz.prog 43 [] Tryz.f141) (.r (.r (.r (.b (.r (.l (.j ⟨[.val 3 Ty.str, .val 4 Ty.str, .val 16 (Ty.i .i64)], [1, 14, 15]⟩ .e))) (.l (.r (.l (.j ⟨[.val 3 Ty.str, .val 4 Ty.str, .val 30 (Ty.i .i64)], [28, 29]⟩ .e))))))))
noncomputable def B_ref03_text (rec : (TTrust × Unit) → Option ByteArray) (a0 : TTrust) : Option ByteArray :=
 Option.bind (F_strconv_Itoa a0.Threshold) fun r1 =>
 Option.bind (scat r1 (ByteArray.mk #[32, 111, 102, 32, 40])) fun x2 =>
 loopO (fun (v3 : ByteArray × ByteArray × Int × Unit) =>
 bif (decide (v3.2.2.1 < ((List.length a0.Nodes : Nat) : Int))) then
 Option.bind (idx a0.Nodes v3.2.2.1) fun x4 =>
 Option.bind (scat v3.1 v3.2.1) fun x5 =>
 Option.bind (F_strconv_Itoa x4) fun r6 =>
 Option.bind (scat x5 r6) fun x7 =>
 some (Sum.inl (x7, (ByteArray.mk #[44, 32]), (addI .i64 v3.2.2.1 (1 : Int)), ()))
 else
 Option.map Sum.inr (loopO (fun (v8 : ByteArray × ByteArray × Int × Unit) =>
 bif (decide (v8.2.2.1 < ((List.length a0.Inner : Nat) : Int))) then
 Option.bind (idx a0.Inner v8.2.2.1) fun x9 =>
 Option.bind (scat v8.1 v8.2.1) fun x10 =>
 Option.bind (rec ((eTTrust x9), ())) fun r11 =>
 Option.bind (scat x10 r11) fun x12 =>
 some (Sum.inl (x12, (ByteArray.mk #[44, 32]), (addI .i64 v8.2.2.1 (1 : Int)), ()))
 else
 Option.map Sum.inr (Option.bind (scat v8.1 (ByteArray.mk #[41])) fun x13 =>
 some x13)) (v3.1, v3.2.1, (0 : Int), ()))) (x2, (ByteArray.mk #[]), (0 : Int), ())
noncomputable def I_ref03_text : Nat → (TTrust × Unit) → Option ByteArray := iterF (fun rec a => B_ref03_text rec a.1)
noncomputable def F_ref03_text (a0 : TTrust) : Option ByteArray := I_ref03_text (SizeOf.sizeOf a0 + 1) (a0, ())
noncomputable def k_ref03_text : KS U Tryz.prog := ⟨.fn 141 [.ty (Ty.st .Trust)] (.one Ty.str) fun a => F_ref03_text a.1, fnRS (K := K) («as» := [.ty (Ty.st .Trust)]) (r := .one Ty.str) (B := fun rec a => B_ref03_text rec a.1) sa_ref03_text 43 [.tmp 2] [k_strconv_Itoa] (fk Tryz.f141 [] Tryz.func141) (hF := fun a => ⟨_, rfl⟩)⟩

/-! ### trustquorum/trustquorumref03.Text -/
noncomputable def sa_ref03_Text : SA U := annA (scOf Tryz.prog 8 [] Tryz.f98) .e
noncomputable def F_ref03_Text (a0 : TTrust) : Option ByteArray :=
 Option.bind (F_ref02_Valid (eTTrust a0)) fun r1 =>
 bif (!decide (r1 = (0 : Int))) then
 some (ByteArray.mk #[63])
 else
 Option.bind (F_ref03_text (eTTrust a0)) fun r2 =>
 some r2
noncomputable def k_ref03_Text : KS U Tryz.prog := ⟨.fn 98 [.ty (Ty.st .Trust)] (.one Ty.str) fun a => F_ref03_Text a.1, fnS (K := K) sa_ref03_Text 8 [.tmp 2] [k_ref02_Valid, k_ref03_text] (fk Tryz.f98 [] Tryz.func98)⟩

/-! ### trustquorum/trustquorumref45.line -/
noncomputable def sa_ref45_line : SA U := annA (scOf Tryz.prog 117 [] Tryz.f46) (.r (.l (.r (.l (.r (.r (.r (.r (.r (.r (.r (.r (.r (.r (.r (.r (.r (.r (.r (.l (.r (.l (.r (.l (.j ⟨[.val 3 Ty.str, .val 106 (Ty.i .i64)], [104, 105]⟩ .e)))))))))))))))))))))))))
noncomputable def F_ref45_line (a0 : TStep) : Option ByteArray :=
 bif (decide (a0.Kind = (1 : Int))) then
 Option.bind (F_ref40_Decimal a0.Node) fun r1 =>
 Option.bind (scat (ByteArray.mk #[112, 114, 111, 112, 111, 115, 101, 32]) r1) fun x2 =>
 Option.bind (scat x2 (ByteArray.mk #[32])) fun x3 =>
 Option.bind (F_ref40_Decimal a0.Slot) fun r4 =>
 Option.bind (scat x3 r4) fun x5 =>
 Option.bind (scat x5 (ByteArray.mk #[32])) fun x6 =>
 Option.bind (scat x6 a0.Value) fun x7 =>
 some x7
 else
 bif (decide (a0.Kind = (8 : Int))) then
 Option.bind (F_ref40_Decimal a0.Node) fun r8 =>
 Option.bind (scat (ByteArray.mk #[112, 114, 101, 102, 101, 114, 32]) r8) fun x9 =>
 Option.bind (scat x9 (ByteArray.mk #[32])) fun x10 =>
 Option.bind (F_ref40_Decimal a0.Slot) fun r11 =>
 Option.bind (scat x10 r11) fun x12 =>
 Option.bind (scat x12 (ByteArray.mk #[32])) fun x13 =>
 Option.bind (scat x13 a0.Value) fun x14 =>
 some x14
 else
 bif (decide (a0.Kind = (2 : Int))) then
 Option.bind (F_ref40_Decimal a0.Count) fun r15 =>
 Option.bind (scat (ByteArray.mk #[116, 105, 99, 107, 32]) r15) fun x16 =>
 some x16
 else
 bif (decide (a0.Kind = (4 : Int))) then
 Option.bind (F_ref40_Decimal a0.Node) fun r17 =>
 Option.bind (scat (ByteArray.mk #[115, 116, 111, 112, 32]) r17) fun x18 =>
 some x18
 else
 bif (decide (a0.Kind = (7 : Int))) then
 Option.bind (F_ref40_Decimal a0.Node) fun r19 =>
 Option.bind (scat (ByteArray.mk #[100, 101, 108, 97, 121, 32]) r19) fun x20 =>
 Option.bind (scat x20 (ByteArray.mk #[32])) fun x21 =>
 Option.bind (F_ref40_Decimal a0.To) fun r22 =>
 Option.bind (scat x21 r22) fun x23 =>
 Option.bind (scat x23 (ByteArray.mk #[32])) fun x24 =>
 Option.bind (F_ref40_Decimal a0.Count) fun r25 =>
 Option.bind (scat x24 r25) fun x26 =>
 some x26
 else
 bif (decide (a0.Kind = (3 : Int))) then
 Option.bind (F_ref40_Decimal a0.Node) fun r27 =>
 Option.bind (scat (ByteArray.mk #[100, 101, 99, 108, 97, 114, 101, 32]) r27) fun x28 =>
 Option.bind (scat x28 (ByteArray.mk #[32])) fun x29 =>
 Option.bind (F_ref03_Text (eTTrust a0.Trust)) fun r30 =>
 Option.bind (scat x29 r30) fun x31 =>
 some x31
 else
 bif (decide (a0.Kind = (5 : Int))) then
 Option.bind (F_ref40_Decimal a0.Node) fun r32 =>
 Option.bind (scat (ByteArray.mk #[108, 105, 101, 32]) r32) fun x33 =>
 Option.bind (scat x33 (ByteArray.mk #[32])) fun x34 =>
 Option.bind (F_ref40_Decimal a0.To) fun r35 =>
 Option.bind (scat x34 r35) fun x36 =>
 Option.bind (scat x36 (ByteArray.mk #[32])) fun x37 =>
 Option.bind (F_ref40_Decimal a0.Letter.Slot) fun r38 =>
 Option.bind (scat x37 r38) fun x39 =>
 Option.bind (scat x39 (ByteArray.mk #[32])) fun x40 =>
 Option.bind (scat x40 a0.Letter.Envelope.Ballot.Value) fun x41 =>
 some x41
 else
 bif (decide (a0.Kind = (6 : Int))) then
 loopO (fun (v42 : ByteArray × Int × Unit) =>
 bif (decide (v42.2.1 < ((List.length a0.Parts : Nat) : Int))) then
 Option.bind (idx a0.Parts v42.2.1) fun x43 =>
 Option.bind (F_ref40_Decimal x43) fun r44 =>
 Option.bind (scat (ByteArray.mk #[32]) r44) fun x45 =>
 Option.bind (scat v42.1 x45) fun x46 =>
 some (Sum.inl (x46, (addI .i64 v42.2.1 (1 : Int)), ()))
 else
 Option.map Sum.inr (some v42.1)) ((ByteArray.mk #[112, 97, 114, 116]), (0 : Int), ())
 else
 some (ByteArray.mk #[])
noncomputable def k_ref45_line : KS U Tryz.prog := ⟨.fn 46 [.ty (Ty.st .Step)] (.one Ty.str) fun a => F_ref45_line a.1, fnS (K := K) sa_ref45_line 117 [.tmp 2] [k_ref40_Decimal, k_ref03_Text] (fk Tryz.f46 [] Tryz.func46)⟩

/-! ### trustquorum/trustquorumref45.Step -/
noncomputable def sa_ref45_Step : SA U := annA (scOf Tryz.prog 151 [] Tryz.f21) (.r (.r (.r (.j ⟨[.val 5 Ty.bool, .box 3 1 (Ty.st .Step) []], [1, 4]⟩ (.l (.r (.l (.j ⟨[.val 13 Ty.bool], [1, 4, 5, 12]⟩ (.r (.r (.r (.r (.r (.r (.r (.r (.r (.r (.r (.r (.r (.l (.r (.r (.r (.l (.j ⟨[.val 5 Ty.bool, .val 128 (Ty.i .i64)], [1, 4, 126, 127]⟩ .e)))))))))))))))))))))))))))
noncomputable def F_ref45_Step (a0 : TStep) : Option (ByteArray × Bool × Unit) :=
 Option.bind (F_ref45_in a0.Node (0 : Int) (9 : Int)) fun r1 =>
 letJ (fun (v2 : Bool × TStep × Unit) =>
 Option.bind (bif (!v2.1) then some true
 else
 Option.bind (F_ref43_Equal { a0 with Trust := (eTTrust a0.Trust), Letter := { a0.Letter with Nomination := { a0.Letter.Nomination with Trust := (eTTrust a0.Letter.Nomination.Trust) }, Envelope := { a0.Letter.Envelope with Trust := (eTTrust a0.Letter.Envelope.Trust) } } } { v2.2.1 with Kind := a0.Kind, Trust := (eTTrust v2.2.1.Trust), Letter := { v2.2.1.Letter with Nomination := { v2.2.1.Letter.Nomination with Trust := (eTTrust v2.2.1.Letter.Nomination.Trust) }, Envelope := { v2.2.1.Letter.Envelope with Trust := (eTTrust v2.2.1.Letter.Envelope.Trust) } } }) fun r4 =>
 some (!r4)) fun b5 =>
 bif b5 then
 some ((ByteArray.mk #[]), false, ())
 else
 Option.bind (F_ref45_line { a0 with Trust := (eTTrust a0.Trust), Letter := { a0.Letter with Nomination := { a0.Letter.Nomination with Trust := (eTTrust a0.Letter.Nomination.Trust) }, Envelope := { a0.Letter.Envelope with Trust := (eTTrust a0.Letter.Envelope.Trust) } } }) fun r6 =>
 some (r6, true, ())) fun j3 =>
 letJ (fun (v7 : Bool × Unit) =>
 bif v7.1 then
 Option.bind (bif r1 then
 Option.bind (F_ref45_in a0.Slot (1 : Int) (1000 : Int)) fun r9 =>
 some r9
 else some false) fun b10 =>
 Option.bind (bif b10 then
 Option.bind (F_ref45_Word a0.Value) fun r11 =>
 some r11
 else some false) fun b12 =>
 j3 (b12, (TStep.mk (0 : Int) a0.Node (0 : Int) a0.Slot (0 : Int) a0.Value (TTrust.mk (0 : Int) ([] : List Int) ([] : List TTrust)) (TLetter.mk (0 : Int) (0 : Int) (TNomination.mk (0 : Int) (0 : Int) (TTrust.mk (0 : Int) ([] : List Int) ([] : List TTrust)) ([] : List ByteArray) ([] : List ByteArray)) (TEnvelope.mk (0 : Int) (0 : Int) (0 : Int) (TTrust.mk (0 : Int) ([] : List Int) ([] : List TTrust)) (0 : Int) (TBallot.mk (0 : Int) (ByteArray.mk #[])) (TBallot.mk (0 : Int) (ByteArray.mk #[])) (TBallot.mk (0 : Int) (ByteArray.mk #[])) (0 : Int) (0 : Int))) ([] : List Int)), ())
 else
 bif (decide (a0.Kind = (2 : Int))) then
 Option.bind (F_ref45_in a0.Count (1 : Int) (1000 : Int)) fun r13 =>
 j3 (r13, (TStep.mk (0 : Int) (0 : Int) (0 : Int) (0 : Int) a0.Count (ByteArray.mk #[]) (TTrust.mk (0 : Int) ([] : List Int) ([] : List TTrust)) (TLetter.mk (0 : Int) (0 : Int) (TNomination.mk (0 : Int) (0 : Int) (TTrust.mk (0 : Int) ([] : List Int) ([] : List TTrust)) ([] : List ByteArray) ([] : List ByteArray)) (TEnvelope.mk (0 : Int) (0 : Int) (0 : Int) (TTrust.mk (0 : Int) ([] : List Int) ([] : List TTrust)) (0 : Int) (TBallot.mk (0 : Int) (ByteArray.mk #[])) (TBallot.mk (0 : Int) (ByteArray.mk #[])) (TBallot.mk (0 : Int) (ByteArray.mk #[])) (0 : Int) (0 : Int))) ([] : List Int)), ())
 else
 bif (decide (a0.Kind = (4 : Int))) then
 j3 (r1, (TStep.mk (0 : Int) a0.Node (0 : Int) (0 : Int) (0 : Int) (ByteArray.mk #[]) (TTrust.mk (0 : Int) ([] : List Int) ([] : List TTrust)) (TLetter.mk (0 : Int) (0 : Int) (TNomination.mk (0 : Int) (0 : Int) (TTrust.mk (0 : Int) ([] : List Int) ([] : List TTrust)) ([] : List ByteArray) ([] : List ByteArray)) (TEnvelope.mk (0 : Int) (0 : Int) (0 : Int) (TTrust.mk (0 : Int) ([] : List Int) ([] : List TTrust)) (0 : Int) (TBallot.mk (0 : Int) (ByteArray.mk #[])) (TBallot.mk (0 : Int) (ByteArray.mk #[])) (TBallot.mk (0 : Int) (ByteArray.mk #[])) (0 : Int) (0 : Int))) ([] : List Int)), ())
 else
 bif (decide (a0.Kind = (7 : Int))) then
 Option.bind (bif r1 then
 Option.bind (F_ref45_in a0.To (0 : Int) (9 : Int)) fun r14 =>
 some r14
 else some false) fun b15 =>
 Option.bind (bif b15 then
 Option.bind (F_ref45_in a0.Count (1 : Int) (1000 : Int)) fun r16 =>
 some r16
 else some false) fun b17 =>
 j3 (b17, (TStep.mk (0 : Int) a0.Node a0.To (0 : Int) a0.Count (ByteArray.mk #[]) (TTrust.mk (0 : Int) ([] : List Int) ([] : List TTrust)) (TLetter.mk (0 : Int) (0 : Int) (TNomination.mk (0 : Int) (0 : Int) (TTrust.mk (0 : Int) ([] : List Int) ([] : List TTrust)) ([] : List ByteArray) ([] : List ByteArray)) (TEnvelope.mk (0 : Int) (0 : Int) (0 : Int) (TTrust.mk (0 : Int) ([] : List Int) ([] : List TTrust)) (0 : Int) (TBallot.mk (0 : Int) (ByteArray.mk #[])) (TBallot.mk (0 : Int) (ByteArray.mk #[])) (TBallot.mk (0 : Int) (ByteArray.mk #[])) (0 : Int) (0 : Int))) ([] : List Int)), ())
 else
 bif (decide (a0.Kind = (3 : Int))) then
 Option.bind (bif r1 then
 Option.bind (F_ref02_Valid (eTTrust a0.Trust)) fun r18 =>
 some (decide (r18 = (0 : Int)))
 else some false) fun b19 =>
 j3 (b19, (TStep.mk (0 : Int) a0.Node (0 : Int) (0 : Int) (0 : Int) (ByteArray.mk #[]) (eTTrust a0.Trust) (TLetter.mk (0 : Int) (0 : Int) (TNomination.mk (0 : Int) (0 : Int) (TTrust.mk (0 : Int) ([] : List Int) ([] : List TTrust)) ([] : List ByteArray) ([] : List ByteArray)) (TEnvelope.mk (0 : Int) (0 : Int) (0 : Int) (TTrust.mk (0 : Int) ([] : List Int) ([] : List TTrust)) (0 : Int) (TBallot.mk (0 : Int) (ByteArray.mk #[])) (TBallot.mk (0 : Int) (ByteArray.mk #[])) (TBallot.mk (0 : Int) (ByteArray.mk #[])) (0 : Int) (0 : Int))) ([] : List Int)), ())
 else
 bif (decide (a0.Kind = (5 : Int))) then
 Option.bind (F_ref45_Lie a0.Node a0.To a0.Letter.Slot a0.Letter.Envelope.Ballot.Value) fun r20 =>
 Option.bind (bif r1 then
 Option.bind (F_ref45_in a0.To (0 : Int) (9 : Int)) fun r21 =>
 some r21
 else some false) fun b22 =>
 Option.bind (bif b22 then
 Option.bind (F_ref45_in a0.Letter.Slot (1 : Int) (1000 : Int)) fun r23 =>
 some r23
 else some false) fun b24 =>
 Option.bind (bif b24 then
 Option.bind (F_ref45_Word a0.Letter.Envelope.Ballot.Value) fun r25 =>
 some r25
 else some false) fun b26 =>
 j3 (b26, { r20 with Trust := (eTTrust r20.Trust), Letter := { r20.Letter with Nomination := { r20.Letter.Nomination with Trust := (eTTrust r20.Letter.Nomination.Trust) }, Envelope := { r20.Letter.Envelope with Trust := (eTTrust r20.Letter.Envelope.Trust) } } }, ())
 else
 bif (decide (a0.Kind = (6 : Int))) then
 loopO (fun (v27 : Bool × Int × Unit) =>
 bif (decide (v27.2.1 < ((List.length a0.Parts : Nat) : Int))) then
 Option.bind (idx a0.Parts v27.2.1) fun x28 =>
 Option.bind (bif v27.1 then
 Option.bind (F_ref45_in x28 (1 : Int) (1023 : Int)) fun r29 =>
 some r29
 else some false) fun b30 =>
 some (Sum.inl (b30, (addI .i64 v27.2.1 (1 : Int)), ()))
 else
 Option.map Sum.inr (j3 (v27.1, (TStep.mk (0 : Int) (0 : Int) (0 : Int) (0 : Int) (0 : Int) (ByteArray.mk #[]) (TTrust.mk (0 : Int) ([] : List Int) ([] : List TTrust)) (TLetter.mk (0 : Int) (0 : Int) (TNomination.mk (0 : Int) (0 : Int) (TTrust.mk (0 : Int) ([] : List Int) ([] : List TTrust)) ([] : List ByteArray) ([] : List ByteArray)) (TEnvelope.mk (0 : Int) (0 : Int) (0 : Int) (TTrust.mk (0 : Int) ([] : List Int) ([] : List TTrust)) (0 : Int) (TBallot.mk (0 : Int) (ByteArray.mk #[])) (TBallot.mk (0 : Int) (ByteArray.mk #[])) (TBallot.mk (0 : Int) (ByteArray.mk #[])) (0 : Int) (0 : Int))) a0.Parts), ()))) ((decide ((0 : Int) < ((List.length a0.Parts : Nat) : Int))), (0 : Int), ())
 else
 some ((ByteArray.mk #[]), false, ())) fun j8 =>
 bif (decide (a0.Kind = (1 : Int))) then
 j8 ((decide (a0.Kind = (1 : Int))), ())
 else
 j8 ((decide (a0.Kind = (8 : Int))), ())
noncomputable def k_ref45_Step : KS U Tryz.prog := ⟨.fn 21 [.ty (Ty.st .Step)] (.many [Ty.str, Ty.bool]) fun a => F_ref45_Step a.1, fnS (K := K) sa_ref45_Step 151 [.tmp 2, .tmp 3] [k_ref45_in, k_ref45_Word, k_ref02_Valid, k_ref45_Lie, k_ref43_Equal, k_ref45_line] (fk Tryz.f21 [] Tryz.func21)⟩

/-! ### trustquorum/trustquorumlaw45.lines -/
noncomputable def sa_law45_lines : SA U := annA (scOf Tryz.prog 33 [] Tryz.f8) (.r (.r (.l (.r (.l (.ps (.own 7 51 34 (Ty.st .Step)) (.j ⟨[.val 17 (Ty.i .i64), .own 7 9 1 51 34 (Ty.st .Step)], [15, 16]⟩ (.l (.r (.r (.j ⟨[.own 7 9 1 51 34 (Ty.st .Step)], [15, 16, 17]⟩ .e)))))))))))
noncomputable def F_law45_lines (s : TSrc) (a0 : Int) (a1 : Int) : Option ((List TStep) × TSrc) :=
 Option.bind (F_play_Src_Begin s a0 a1 (7 : Int)) fun p1 =>
 loopO (fun (v2 : Int × (List TStep) × Unit) =>
 bif (decide (v2.1 < ((List.length p1.1 : Nat) : Int))) then
 letJ (fun (v3 : (List TStep) × Unit) =>
 some (Sum.inl ((addI .i64 v2.1 (1 : Int)), v3.1, ()))) fun j4 =>
 Option.bind (idx p1.1 v2.1) fun x5 =>
 Option.bind (F_ref45_Step { x5 with Trust := (eTTrust x5.Trust), Letter := { x5.Letter with Nomination := { x5.Letter.Nomination with Trust := (eTTrust x5.Letter.Nomination.Trust) }, Envelope := { x5.Letter.Envelope with Trust := (eTTrust x5.Letter.Envelope.Trust) } } }) fun r6 =>
 bif r6.2.1 then
 bif lenOk 448 (List.length v2.2.1 + List.length [{ x5 with Trust := (eTTrust x5.Trust), Letter := { x5.Letter with Nomination := { x5.Letter.Nomination with Trust := (eTTrust x5.Letter.Nomination.Trust) }, Envelope := { x5.Letter.Envelope with Trust := (eTTrust x5.Letter.Envelope.Trust) } } }]) then
 j4 ((v2.2.1 ++ [{ x5 with Trust := (eTTrust x5.Trust), Letter := { x5.Letter with Nomination := { x5.Letter.Nomination with Trust := (eTTrust x5.Letter.Nomination.Trust) }, Envelope := { x5.Letter.Envelope with Trust := (eTTrust x5.Letter.Envelope.Trust) } } }]), ())
 else none
 else
 j4 (v2.2.1, ())
 else
 Option.map Sum.inr (some (v2.2.1, p1.2))) ((0 : Int), ([] : List TStep), ())
noncomputable def k_law45_lines : KS U Tryz.prog := ⟨.rc 8 0 (Ty.st .Src) [.ty (Ty.i .i64), .ty (Ty.i .i64)] (.one (Ty.sl (Ty.st .Step))) fun s a => F_law45_lines s a.1 a.2.1, rcS (K := K) sa_law45_lines 33 [.tmp 6] [k_play_Src_Begin, k_ref45_Step] (fk Tryz.f8 [] Tryz.func8)⟩

/-! ### trustquorum/laboratory.line$1 -/
noncomputable def sa_laboratory_line_1 : SA U := annA (scOf Tryz.prog 8 [] Tryz.f64) .e
noncomputable def F_laboratory_line_1 (a0 : Int) (a1 : TStep) : Option TStep :=
 some (TStep.mk a0 a1.Node (0 : Int) (0 : Int) (0 : Int) (ByteArray.mk #[]) (TTrust.mk (0 : Int) ([] : List Int) ([] : List TTrust)) (TLetter.mk (0 : Int) (0 : Int) (TNomination.mk (0 : Int) (0 : Int) (TTrust.mk (0 : Int) ([] : List Int) ([] : List TTrust)) ([] : List ByteArray) ([] : List ByteArray)) (TEnvelope.mk (0 : Int) (0 : Int) (0 : Int) (TTrust.mk (0 : Int) ([] : List Int) ([] : List TTrust)) (0 : Int) (TBallot.mk (0 : Int) (ByteArray.mk #[])) (TBallot.mk (0 : Int) (ByteArray.mk #[])) (TBallot.mk (0 : Int) (ByteArray.mk #[])) (0 : Int) (0 : Int))) ([] : List Int))
noncomputable def k_laboratory_line_1 : KS U Tryz.prog := ⟨.fn 64 [.ty (Ty.i .i64), .ref (.ty (Ty.st .Step))] (.one (Ty.st .Step)) fun a => F_laboratory_line_1 a.1 a.2.1, fnS (K := K) sa_laboratory_line_1 8 [.cell 3 (some 34)] [] (fk Tryz.f64 [] Tryz.func64)⟩

/-! ### strings.Join -/
noncomputable def F_strings_Join (a0 : (List ByteArray)) (a1 : ByteArray) : Option ByteArray := joinF a0 a1
noncomputable def k_strings_Join : KS U Tryz.prog := ⟨.fn 59 [.ty (Ty.sl Ty.str), .ty Ty.str] (.one Ty.str) fun a => F_strings_Join a.1 a.2.1, lib59⟩

/-! ### trustquorum/laboratory.words -/
noncomputable def sa_laboratory_words : SA U := annA (scOf Tryz.prog 33 [] Tryz.f65) (.r (.r (.l (.r (.l (.ps (.own 3 9 1 Ty.str) (.j ⟨[.val 10 (Ty.i .i64), .own 3 5 1 9 1 Ty.str], [8, 9]⟩ (.l (.r (.r (.j ⟨[.own 3 5 1 9 1 Ty.str], [8, 9, 10]⟩ .e)))))))))))
noncomputable def F_laboratory_words (a0 : (List TDyn)) : Option ByteArray :=
 loopO (fun (v1 : Int × (List ByteArray) × Unit) =>
 bif (decide (v1.1 < ((List.length a0 : Nat) : Int))) then
 letJ (fun (v2 : (List ByteArray) × Unit) =>
 some (Sum.inl ((addI .i64 v1.1 (1 : Int)), v2.1, ()))) fun j3 =>
 Option.bind (idx a0 v1.1) fun x4 =>
 bif (!x4.isS) then
 Option.bind (F_strconv_Itoa (cond x4.isS 0 x4.n)) fun r5 =>
 bif lenOk 16 (List.length v1.2.1 + List.length [r5]) then
 j3 ((v1.2.1 ++ [r5]), ())
 else none
 else
 bif x4.isS then
 bif lenOk 16 (List.length v1.2.1 + List.length [(cond x4.isS x4.s (ByteArray.mk #[]))]) then
 j3 ((v1.2.1 ++ [(cond x4.isS x4.s (ByteArray.mk #[]))]), ())
 else none
 else
 j3 (v1.2.1, ())
 else
 Option.map Sum.inr (Option.bind (F_strings_Join v1.2.1 (ByteArray.mk #[32])) fun r6 =>
 some r6)) ((0 : Int), ([] : List ByteArray), ())
noncomputable def k_laboratory_words : KS U Tryz.prog := ⟨.fn 65 [.ty (Ty.sl Ty.dyn)] (.one Ty.str) fun a => F_laboratory_words a.1, fnS (K := K) sa_laboratory_words 33 [.tmp 2] [k_strconv_Itoa, k_strings_Join] (fk Tryz.f65 [] Tryz.func65)⟩

/-! ### trustquorum/laboratory.node -/
noncomputable def sa_laboratory_node : SA U := annA (scOf Tryz.prog 9 [] Tryz.f66) .e
noncomputable def F_laboratory_node (a0 : Int) : Option Bool :=
 Option.bind (bif (decide ((0 : Int) ≤ a0)) then
 some (decide (a0 < (10 : Int)))
 else some false) fun b1 =>
 some b1
noncomputable def k_laboratory_node : KS U Tryz.prog := ⟨.fn 66 [.ty (Ty.i .i64)] (.one Ty.bool) fun a => F_laboratory_node a.1, fnS (K := K) sa_laboratory_node 9 [.tmp 2] [] (fk Tryz.f66 [] Tryz.func66)⟩

/-! ### trustquorum/laboratory.count -/
noncomputable def sa_laboratory_count : SA U := annA (scOf Tryz.prog 9 [] Tryz.f67) .e
noncomputable def F_laboratory_count (a0 : Int) : Option Bool :=
 Option.bind (bif (decide ((1 : Int) ≤ a0)) then
 some (decide (a0 ≤ (1000 : Int)))
 else some false) fun b1 =>
 some b1
noncomputable def k_laboratory_count : KS U Tryz.prog := ⟨.fn 67 [.ty (Ty.i .i64)] (.one Ty.bool) fun a => F_laboratory_count a.1, fnS (K := K) sa_laboratory_count 9 [.tmp 2] [] (fk Tryz.f67 [] Tryz.func67)⟩

/-! ### trustquorum/laboratory.Word -/
noncomputable def F_laboratory_Word (a0 : ByteArray) : Option Bool := wordF a0
noncomputable def k_laboratory_Word : KS U Tryz.prog := ⟨.fn 31 [.ty Ty.str] (.one Ty.bool) fun a => F_laboratory_Word a.1, lib31⟩

/-! ### trustquorum/laboratory.set -/
noncomputable def sa_laboratory_set : SA U := annA (scOf Tryz.prog 9 [] Tryz.f69) .e
noncomputable def F_laboratory_set (a0 : Int) : Option Bool :=
 Option.bind (bif (decide ((1 : Int) ≤ a0)) then
 some (decide (a0 < (1024 : Int)))
 else some false) fun b1 =>
 some b1
noncomputable def k_laboratory_set : KS U Tryz.prog := ⟨.fn 69 [.ty (Ty.i .i64)] (.one Ty.bool) fun a => F_laboratory_set a.1, fnS (K := K) sa_laboratory_set 9 [.tmp 2] [] (fk Tryz.f69 [] Tryz.func69)⟩

/-! ### trustquorum/laboratory.line$2 -/
noncomputable def sa_laboratory_line_2 : SA U := annA (scOf Tryz.prog 6 [] Tryz.f68) .e
noncomputable def F_laboratory_line_2 (a0 : Int) : Option Bool :=
 Option.bind (F_laboratory_set a0) fun r1 =>
 some (!r1)
noncomputable def k_laboratory_line_2 : KS U Tryz.prog := ⟨.fn 68 [.ty (Ty.i .i64)] (.one Ty.bool) fun a => F_laboratory_line_2 a.1, fnS (K := K) sa_laboratory_line_2 6 [.tmp 2] [k_laboratory_set] (fk Tryz.f68 [] Tryz.func68)⟩

/-! ### slices.IndexFunc[[]int,int] -/
noncomputable def sa_slices_IndexFunc_int_int_c68 : SA U := annA (scOf Tryz.prog 19 [] Tryz.f112) (.r (.l (.r (.l (.j ⟨[.val 8 (Ty.i .i64)], [0, 1, 7]⟩ .e)))))
noncomputable def F_slices_IndexFunc_int_int_c68 (a0 : (List Int)) : Option Int :=
 loopO (fun (v1 : Int × Unit) =>
 bif (decide (v1.1 < ((List.length a0 : Nat) : Int))) then
 Option.bind (idx a0 v1.1) fun x2 =>
 Option.bind (F_laboratory_line_2 x2) fun r3 =>
 bif r3 then
 Option.map Sum.inr (some v1.1)
 else
 some (Sum.inl ((addI .i64 v1.1 (1 : Int)), ()))
 else
 Option.map Sum.inr (some (-1 : Int))) ((0 : Int), ())
noncomputable def k_slices_IndexFunc_int_int_c68 : KS U Tryz.prog := ⟨.fn 112 [.ty (Ty.sl (Ty.i .i64)), .clo 68 []] (.one (Ty.i .i64)) fun a => F_slices_IndexFunc_int_int_c68 a.1, fnS (K := K) sa_slices_IndexFunc_int_int_c68 19 [.tmp 4] [k_laboratory_line_2] (fk Tryz.f112 [] Tryz.func112)⟩

/-! ### slices.ContainsFunc[[]int,int] -/
noncomputable def sa_slices_ContainsFunc_int_int_c68 : SA U := annA (scOf Tryz.prog 9 [] Tryz.f70) .e
noncomputable def F_slices_ContainsFunc_int_int_c68 (a0 : (List Int)) : Option Bool :=
 Option.bind (F_slices_IndexFunc_int_int_c68 a0) fun r1 =>
 some (decide ((0 : Int) ≤ r1))
noncomputable def k_slices_ContainsFunc_int_int_c68 : KS U Tryz.prog := ⟨.fn 70 [.ty (Ty.sl (Ty.i .i64)), .clo 68 []] (.one Ty.bool) fun a => F_slices_ContainsFunc_int_int_c68 a.1, fnS (K := K) sa_slices_ContainsFunc_int_int_c68 9 [.tmp 4] [k_slices_IndexFunc_int_int_c68] (fk Tryz.f70 [] Tryz.func70)⟩

/-! ### trustquorum/threshold.Depth -/
noncomputable def sa_threshold_Depth : SA U := annA (scOf Tryz.prog 20 [] Tryz.f114) (.r (.r (.l (.r (.l (.j ⟨[.val 3 (Ty.i .i64), .val 9 (Ty.i .i64)], [7, 8]⟩ .e))))))
noncomputable def B_threshold_Depth (rec : (TTrust × Unit) → Option Int) (a0 : TTrust) : Option Int :=
 loopO (fun (v1 : Int × Int × Unit) =>
 bif (decide (v1.2.1 < ((List.length a0.Inner : Nat) : Int))) then
 Option.bind (idx a0.Inner v1.2.1) fun x2 =>
 Option.bind (rec ((eTTrust x2), ())) fun r3 =>
 some (Sum.inl ((maxI v1.1 r3), (addI .i64 v1.2.1 (1 : Int)), ()))
 else
 Option.map Sum.inr (some (addI .i64 v1.1 (1 : Int)))) ((0 : Int), (0 : Int), ())
noncomputable def I_threshold_Depth : Nat → (TTrust × Unit) → Option Int := iterF (fun rec a => B_threshold_Depth rec a.1)
noncomputable def F_threshold_Depth (a0 : TTrust) : Option Int := I_threshold_Depth (SizeOf.sizeOf a0 + 1) (a0, ())
noncomputable def k_threshold_Depth : KS U Tryz.prog := ⟨.fn 114 [.ty (Ty.st .Trust)] (.one (Ty.i .i64)) fun a => F_threshold_Depth a.1, fnRS (K := K) («as» := [.ty (Ty.st .Trust)]) (r := .one (Ty.i .i64)) (B := fun rec a => B_threshold_Depth rec a.1) sa_threshold_Depth 20 [.tmp 2] [] (fk Tryz.f114 [] Tryz.func114) (hF := fun a => ⟨_, rfl⟩)⟩

/-! ### trustquorum/threshold.Size -/
noncomputable def sa_threshold_Size : SA U := annA (scOf Tryz.prog 26 [] Tryz.f115) (.r (.r (.l (.r (.l (.j ⟨[.val 3 (Ty.i .i64), .val 16 (Ty.i .i64)], [14, 15]⟩ .e))))))
noncomputable def B_threshold_Size (rec : (TTrust × Unit) → Option Int) (a0 : TTrust) : Option Int :=
 loopO (fun (v1 : Int × Int × Unit) =>
 bif (decide (v1.2.1 < ((List.length a0.Inner : Nat) : Int))) then
 Option.bind (idx a0.Inner v1.2.1) fun x2 =>
 Option.bind (rec ((eTTrust x2), ())) fun r3 =>
 some (Sum.inl ((addI .i64 v1.1 r3), (addI .i64 v1.2.1 (1 : Int)), ()))
 else
 Option.map Sum.inr (some v1.1)) ((addI .i64 ((List.length a0.Nodes : Nat) : Int) ((List.length a0.Inner : Nat) : Int)), (0 : Int), ())
noncomputable def I_threshold_Size : Nat → (TTrust × Unit) → Option Int := iterF (fun rec a => B_threshold_Size rec a.1)
noncomputable def F_threshold_Size (a0 : TTrust) : Option Int := I_threshold_Size (SizeOf.sizeOf a0 + 1) (a0, ())
noncomputable def k_threshold_Size : KS U Tryz.prog := ⟨.fn 115 [.ty (Ty.st .Trust)] (.one (Ty.i .i64)) fun a => F_threshold_Size a.1, fnRS (K := K) («as» := [.ty (Ty.st .Trust)]) (r := .one (Ty.i .i64)) (B := fun rec a => B_threshold_Size rec a.1) sa_threshold_Size 26 [.tmp 2] [] (fk Tryz.f115 [] Tryz.func115) (hF := fun a => ⟨_, rfl⟩)⟩

/-! ### trustquorum/threshold.node -/
noncomputable def sa_threshold_node : SA U := annA (scOf Tryz.prog 9 [] Tryz.f157) .e
noncomputable def F_threshold_node (a0 : Int) : Option Bool :=
 Option.bind (bif (decide ((0 : Int) ≤ a0)) then
 some (decide (a0 < (10 : Int)))
 else some false) fun b1 =>
 some b1
noncomputable def k_threshold_node : KS U Tryz.prog := ⟨.fn 157 [.ty (Ty.i .i64)] (.one Ty.bool) fun a => F_threshold_node a.1, fnS (K := K) sa_threshold_node 9 [.tmp 2] [] (fk Tryz.f157 [] Tryz.func157)⟩

/-! ### trustquorum/threshold.level$1 -/
noncomputable def sa_threshold_level_1 : SA U := annA (scOf Tryz.prog 6 [] Tryz.f156) .e
noncomputable def F_threshold_level_1 (a0 : Int) : Option Bool :=
 Option.bind (F_threshold_node a0) fun r1 =>
 some (!r1)
noncomputable def k_threshold_level_1 : KS U Tryz.prog := ⟨.fn 156 [.ty (Ty.i .i64)] (.one Ty.bool) fun a => F_threshold_level_1 a.1, fnS (K := K) sa_threshold_level_1 6 [.tmp 2] [k_threshold_node] (fk Tryz.f156 [] Tryz.func156)⟩

/-! ### slices.IndexFunc[[]int,int] -/
noncomputable def sa_slices_IndexFunc_int_int_c156 : SA U := annA (scOf Tryz.prog 19 [] Tryz.f112) (.r (.l (.r (.l (.j ⟨[.val 8 (Ty.i .i64)], [0, 1, 7]⟩ .e)))))
noncomputable def F_slices_IndexFunc_int_int_c156 (a0 : (List Int)) : Option Int :=
 loopO (fun (v1 : Int × Unit) =>
 bif (decide (v1.1 < ((List.length a0 : Nat) : Int))) then
 Option.bind (idx a0 v1.1) fun x2 =>
 Option.bind (F_threshold_level_1 x2) fun r3 =>
 bif r3 then
 Option.map Sum.inr (some v1.1)
 else
 some (Sum.inl ((addI .i64 v1.1 (1 : Int)), ()))
 else
 Option.map Sum.inr (some (-1 : Int))) ((0 : Int), ())
noncomputable def k_slices_IndexFunc_int_int_c156 : KS U Tryz.prog := ⟨.fn 112 [.ty (Ty.sl (Ty.i .i64)), .clo 156 []] (.one (Ty.i .i64)) fun a => F_slices_IndexFunc_int_int_c156 a.1, fnS (K := K) sa_slices_IndexFunc_int_int_c156 19 [.tmp 4] [k_threshold_level_1] (fk Tryz.f112 [] Tryz.func112)⟩

/-! ### slices.ContainsFunc[[]int,int] -/
noncomputable def sa_slices_ContainsFunc_int_int_c156 : SA U := annA (scOf Tryz.prog 9 [] Tryz.f70) .e
noncomputable def F_slices_ContainsFunc_int_int_c156 (a0 : (List Int)) : Option Bool :=
 Option.bind (F_slices_IndexFunc_int_int_c156 a0) fun r1 =>
 some (decide ((0 : Int) ≤ r1))
noncomputable def k_slices_ContainsFunc_int_int_c156 : KS U Tryz.prog := ⟨.fn 70 [.ty (Ty.sl (Ty.i .i64)), .clo 156 []] (.one Ty.bool) fun a => F_slices_ContainsFunc_int_int_c156 a.1, fnS (K := K) sa_slices_ContainsFunc_int_int_c156 9 [.tmp 4] [k_slices_IndexFunc_int_int_c156] (fk Tryz.f70 [] Tryz.func70)⟩

/-! ### trustquorum/nodeset.below -/
noncomputable def sa_nodeset_below : SA U := annA (scOf Tryz.prog 13 [] Tryz.f248) .e
noncomputable def F_nodeset_below (a0 : Int) (a1 : Int) : Option Bool :=
 Option.bind (bif (decide ((0 : Int) ≤ a0)) then
 if a1 < 0 then none else
 some (decide (a0 < (shlI .i64 (1 : Int) a1)))
 else some false) fun b1 =>
 some b1
noncomputable def k_nodeset_below : KS U Tryz.prog := ⟨.fn 248 [.ty (Ty.i .i64), .ty (Ty.i .i64)] (.one Ty.bool) fun a => F_nodeset_below a.1 a.2.1, fnS (K := K) sa_nodeset_below 13 [.tmp 4] [] (fk Tryz.f248 [] Tryz.func248)⟩

/-! ### trustquorum/nodeset.Valid -/
noncomputable def sa_nodeset_Valid : SA U := annA (scOf Tryz.prog 5 [] Tryz.f227) .e
noncomputable def F_nodeset_Valid (a0 : Int) : Option Bool :=
 Option.bind (F_nodeset_below a0 (10 : Int)) fun r1 =>
 some r1
noncomputable def k_nodeset_Valid : KS U Tryz.prog := ⟨.fn 227 [.ty (Ty.i .i64)] (.one Ty.bool) fun a => F_nodeset_Valid a.1, fnS (K := K) sa_nodeset_Valid 5 [.tmp 2] [k_nodeset_below] (fk Tryz.f227 [] Tryz.func227)⟩

/-! ### trustquorum/nodeset.Has -/
noncomputable def sa_nodeset_Has : SA U := annA (scOf Tryz.prog 22 [] Tryz.f190) .e
noncomputable def F_nodeset_Has (a0 : Int) (a1 : Int) : Option Bool :=
 Option.bind (F_nodeset_Valid a0) fun r1 =>
 Option.bind (bif r1 then
 some (decide ((0 : Int) ≤ a1))
 else some false) fun b2 =>
 Option.bind (bif b2 then
 some (decide (a1 < (10 : Int)))
 else some false) fun b3 =>
 Option.bind (bif b3 then
 if a1 < 0 then none else
 some (!decide ((andI .i64 a0 (shlI .i64 (1 : Int) a1)) = (0 : Int)))
 else some false) fun b4 =>
 some b4
noncomputable def k_nodeset_Has : KS U Tryz.prog := ⟨.fn 190 [.ty (Ty.i .i64), .ty (Ty.i .i64)] (.one Ty.bool) fun a => F_nodeset_Has a.1 a.2.1, fnS (K := K) sa_nodeset_Has 22 [.tmp 4] [k_nodeset_Valid] (fk Tryz.f190 [] Tryz.func190)⟩

/-! ### trustquorum/nodeset.Of -/
noncomputable def sa_nodeset_Of : SA U := annA (scOf Tryz.prog 28 [] Tryz.f158) (.r (.r (.l (.r (.l (.j ⟨[.val 4 (Ty.i .i64), .val 9 (Ty.i .i64)], [7, 8]⟩ .e))))))
noncomputable def F_nodeset_Of (a0 : (List Int)) : Option (Int × Int × Unit) :=
 loopO (fun (v1 : Int × Int × Unit) =>
 bif (decide (v1.2.1 < ((List.length a0 : Nat) : Int))) then
 Option.bind (idx a0 v1.2.1) fun x2 =>
 Option.bind (bif (decide (x2 < (0 : Int))) then some true
 else
 some (decide ((10 : Int) ≤ x2))) fun b3 =>
 bif b3 then
 Option.map Sum.inr (some ((0 : Int), (5 : Int), ()))
 else
 Option.bind (F_nodeset_Has v1.1 x2) fun r4 =>
 bif r4 then
 Option.map Sum.inr (some ((0 : Int), (6 : Int), ()))
 else
 if x2 < 0 then none else
 some (Sum.inl ((orI .i64 v1.1 (shlI .i64 (1 : Int) x2)), (addI .i64 v1.2.1 (1 : Int)), ()))
 else
 Option.map Sum.inr (some (v1.1, (0 : Int), ()))) ((0 : Int), (0 : Int), ())
noncomputable def k_nodeset_Of : KS U Tryz.prog := ⟨.fn 158 [.ty (Ty.sl (Ty.i .i64))] (.many [(Ty.i .i64), (Ty.i .i64)]) fun a => F_nodeset_Of a.1, fnS (K := K) sa_nodeset_Of 28 [.tmp 2, .tmp 3] [k_nodeset_Has] (fk Tryz.f158 [] Tryz.func158)⟩

/-! ### trustquorum/threshold.level -/
noncomputable def sa_threshold_level : SA U := annA (scOf Tryz.prog 48 [] Tryz.f116) (.r (.r (.r (.r (.l (.r (.l (.j ⟨[.val 38 (Ty.i .i64)], [36, 37]⟩ .e))))))))
noncomputable def B_threshold_level (rec : (TTrust × Unit) → Option Int) (a0 : TTrust) : Option Int :=
 Option.bind (bif (decide (a0.Threshold < (1 : Int))) then some true
 else
 some (decide ((addI .i64 ((List.length a0.Nodes : Nat) : Int) ((List.length a0.Inner : Nat) : Int)) < a0.Threshold))) fun b1 =>
 bif b1 then
 some (4 : Int)
 else
 Option.bind (F_slices_ContainsFunc_int_int_c156 a0.Nodes) fun r2 =>
 bif r2 then
 some (5 : Int)
 else
 Option.bind (F_nodeset_Of a0.Nodes) fun r3 =>
 bif (!decide (r3.2.1 = (0 : Int))) then
 some r3.2.1
 else
 loopO (fun (v4 : Int × Unit) =>
 bif (decide (v4.1 < ((List.length a0.Inner : Nat) : Int))) then
 Option.bind (idx a0.Inner v4.1) fun x5 =>
 Option.bind (rec ((eTTrust x5), ())) fun r6 =>
 bif (!decide (r6 = (0 : Int))) then
 Option.map Sum.inr (some r6)
 else
 some (Sum.inl ((addI .i64 v4.1 (1 : Int)), ()))
 else
 Option.map Sum.inr (some (0 : Int))) ((0 : Int), ())
noncomputable def I_threshold_level : Nat → (TTrust × Unit) → Option Int := iterF (fun rec a => B_threshold_level rec a.1)
noncomputable def F_threshold_level (a0 : TTrust) : Option Int := I_threshold_level (SizeOf.sizeOf a0 + 1) (a0, ())
noncomputable def k_threshold_level : KS U Tryz.prog := ⟨.fn 116 [.ty (Ty.st .Trust)] (.one (Ty.i .i64)) fun a => F_threshold_level a.1, fnRS (K := K) («as» := [.ty (Ty.st .Trust)]) (r := .one (Ty.i .i64)) (B := fun rec a => B_threshold_level rec a.1) sa_threshold_level 48 [.tmp 2] [k_slices_ContainsFunc_int_int_c156, k_nodeset_Of] (fk Tryz.f116 [] Tryz.func116) (hF := fun a => ⟨_, rfl⟩)⟩

/-! ### trustquorum/threshold.Valid -/
noncomputable def sa_threshold_Valid : SA U := annA (scOf Tryz.prog 13 [] Tryz.f72) .e
noncomputable def F_threshold_Valid (a0 : TTrust) : Option Int :=
 Option.bind (F_threshold_Depth (eTTrust a0)) fun r1 =>
 Option.bind (bif (decide ((4 : Int) < r1)) then some true
 else
 Option.bind (F_threshold_Size (eTTrust a0)) fun r2 =>
 some (decide ((200 : Int) < r2))) fun b3 =>
 bif b3 then
 some (3 : Int)
 else
 Option.bind (F_threshold_level (eTTrust a0)) fun r4 =>
 some r4
noncomputable def k_threshold_Valid : KS U Tryz.prog := ⟨.fn 72 [.ty (Ty.st .Trust)] (.one (Ty.i .i64)) fun a => F_threshold_Valid a.1, fnS (K := K) sa_threshold_Valid 13 [.tmp 2] [k_threshold_Depth, k_threshold_Size, k_threshold_level] (fk Tryz.f72 [] Tryz.func72)⟩

/-! ### trustquorum/notation.write -/
noncomputable def sa_notation_write : SA U := annA (scOf Tryz.prog 42 [] Tryz.f113) (.r (.r (.b (.r (.l (.ps (.own 3 9 1 Ty.str) (.j ⟨[.val 11 (Ty.i .i64), .own 3 7 1 9 1 Ty.str], [1, 9, 10]⟩ .e)))) (.l (.r (.l (.j ⟨[.val 24 (Ty.i .i64), .own 3 7 1 9 1 Ty.str], [1, 22, 23]⟩ .e)))))))
noncomputable def B_notation_write (rec : (TTrust × Unit) → Option ByteArray) (a0 : TTrust) : Option ByteArray :=
 loopO (fun (v1 : Int × (List ByteArray) × Unit) =>
 bif (decide (v1.1 < ((List.length a0.Nodes : Nat) : Int))) then
 Option.bind (idx a0.Nodes v1.1) fun x2 =>
 Option.bind (F_strconv_Itoa x2) fun r3 =>
 bif lenOk 16 (List.length v1.2.1 + List.length [r3]) then
 some (Sum.inl ((addI .i64 v1.1 (1 : Int)), (v1.2.1 ++ [r3]), ()))
 else none
 else
 Option.map Sum.inr (loopO (fun (v4 : Int × (List ByteArray) × Unit) =>
 bif (decide (v4.1 < ((List.length a0.Inner : Nat) : Int))) then
 Option.bind (idx a0.Inner v4.1) fun x5 =>
 Option.bind (rec ((eTTrust x5), ())) fun r6 =>
 bif lenOk 16 (List.length v4.2.1 + List.length [r6]) then
 some (Sum.inl ((addI .i64 v4.1 (1 : Int)), (v4.2.1 ++ [r6]), ()))
 else none
 else
 Option.map Sum.inr (Option.bind (F_strconv_Itoa a0.Threshold) fun r7 =>
 Option.bind (scat r7 (ByteArray.mk #[32, 111, 102, 32, 40])) fun x8 =>
 Option.bind (F_strings_Join v4.2.1 (ByteArray.mk #[44, 32])) fun r9 =>
 Option.bind (scat x8 r9) fun x10 =>
 Option.bind (scat x10 (ByteArray.mk #[41])) fun x11 =>
 some x11)) ((0 : Int), v1.2.1, ()))) ((0 : Int), ([] : List ByteArray), ())
noncomputable def I_notation_write : Nat → (TTrust × Unit) → Option ByteArray := iterF (fun rec a => B_notation_write rec a.1)
noncomputable def F_notation_write (a0 : TTrust) : Option ByteArray := I_notation_write (SizeOf.sizeOf a0 + 1) (a0, ())
noncomputable def k_notation_write : KS U Tryz.prog := ⟨.fn 113 [.ty (Ty.st .Trust)] (.one Ty.str) fun a => F_notation_write a.1, fnRS (K := K) («as» := [.ty (Ty.st .Trust)]) (r := .one Ty.str) (B := fun rec a => B_notation_write rec a.1) sa_notation_write 42 [.tmp 2] [k_strconv_Itoa, k_strings_Join] (fk Tryz.f113 [] Tryz.func113) (hF := fun a => ⟨_, rfl⟩)⟩

/-! ### trustquorum/notation.Text -/
noncomputable def sa_notation_Text : SA U := annA (scOf Tryz.prog 8 [] Tryz.f71) .e
noncomputable def F_notation_Text (a0 : TTrust) : Option ByteArray :=
 Option.bind (F_threshold_Valid (eTTrust a0)) fun r1 =>
 bif (!decide (r1 = (0 : Int))) then
 some (ByteArray.mk #[63])
 else
 Option.bind (F_notation_write (eTTrust a0)) fun r2 =>
 some r2
noncomputable def k_notation_Text : KS U Tryz.prog := ⟨.fn 71 [.ty (Ty.st .Trust)] (.one Ty.str) fun a => F_notation_Text a.1, fnS (K := K) sa_notation_Text 8 [.tmp 2] [k_threshold_Valid, k_notation_write] (fk Tryz.f71 [] Tryz.func71)⟩

/-! ### trustquorum/analyser.Lie -/
noncomputable def sa_analyser_Lie : SA U := annA (scOf Tryz.prog 26 [] Tryz.f108) .e
noncomputable def F_analyser_Lie (a0 : Int) (a1 : Int) (a2 : Int) (a3 : ByteArray) : Option TStep :=
 some (TStep.mk (5 : Int) a0 a1 (0 : Int) (0 : Int) (ByteArray.mk #[]) (TTrust.mk (0 : Int) ([] : List Int) ([] : List TTrust)) (TLetter.mk (2 : Int) a2 (TNomination.mk (0 : Int) (0 : Int) (TTrust.mk (0 : Int) ([] : List Int) ([] : List TTrust)) ([] : List ByteArray) ([] : List ByteArray)) (TEnvelope.mk a0 a2 (1 : Int) (TTrust.mk (1 : Int) [a0] ([] : List TTrust)) (3 : Int) (TBallot.mk (1 : Int) a3) (TBallot.mk (0 : Int) (ByteArray.mk #[])) (TBallot.mk (0 : Int) (ByteArray.mk #[])) (1 : Int) (1 : Int))) ([] : List Int))
noncomputable def k_analyser_Lie : KS U Tryz.prog := ⟨.fn 108 [.ty (Ty.i .i64), .ty (Ty.i .i64), .ty (Ty.i .i64), .ty Ty.str] (.one (Ty.st .Step)) fun a => F_analyser_Lie a.1 a.2.1 a.2.2.1 a.2.2.2.1, fnS (K := K) sa_analyser_Lie 26 [.cell 8 (some 34)] [] (fk Tryz.f108 [] Tryz.func108)⟩

/-! ### trustquorum/laboratory.Lie -/
noncomputable def sa_laboratory_Lie : SA U := annA (scOf Tryz.prog 14 [] Tryz.f60) .e
noncomputable def F_laboratory_Lie (a0 : Int) (a1 : Int) (a2 : Int) (a3 : ByteArray) : Option TStep :=
 Option.bind (F_analyser_Lie a0 a1 a2 a3) fun r1 =>
 some { r1 with Trust := (eTTrust r1.Trust), Letter := { r1.Letter with Nomination := { r1.Letter.Nomination with Trust := (eTTrust r1.Letter.Nomination.Trust) }, Envelope := { r1.Letter.Envelope with Trust := (eTTrust r1.Letter.Envelope.Trust) } } }
noncomputable def k_laboratory_Lie : KS U Tryz.prog := ⟨.fn 60 [.ty (Ty.i .i64), .ty (Ty.i .i64), .ty (Ty.i .i64), .ty Ty.str] (.one (Ty.st .Step)) fun a => F_laboratory_Lie a.1 a.2.1 a.2.2.1 a.2.2.2.1, fnS (K := K) sa_laboratory_Lie 14 [.cell 8 (some 34)] [k_analyser_Lie] (fk Tryz.f60 [] Tryz.func60)⟩

/-! ### trustquorum/laboratory.line -/
noncomputable def sa_laboratory_line : SA U := annA (scOf Tryz.prog 242 [134, 1] Tryz.f32) (.r (.r (.l (.r (.l (.j ⟨[.val 19 Ty.bool], [1, 3, 5, 18]⟩ (.r (.b (.r (.r (.r (.j ⟨[.val 7 Ty.str], [1, 3, 6]⟩ (.r (.j ⟨[.val 2 Ty.str, .val 4 Ty.bool, .box 2 1 (Ty.st .Step) []], [3]⟩ .e)))))) (.r (.r (.r (.r (.r (.b (.r (.r (.j ⟨[.val 2 Ty.str, .val 4 Ty.bool, .box 2 1 (Ty.st .Step) []], [3]⟩ .e))) (.r (.b (.r (.b (.r (.l (.j ⟨[.val 138 (Ty.i .i64), .own 9 17 1 20 1 Ty.dyn], [1, 3, 136, 137]⟩ .e))) (.r (.j ⟨[.val 2 Ty.str, .val 4 Ty.bool, .box 2 1 (Ty.st .Step) []], [3]⟩ .e)))) (.r (.b (.r (.r (.j ⟨[.val 2 Ty.str, .val 4 Ty.bool, .box 2 1 (Ty.st .Step) []], [3]⟩ .e))) (.r (.l (.r (.j ⟨[.val 2 Ty.str, .val 4 Ty.bool, .box 2 1 (Ty.st .Step) []], [3]⟩ .e))))))))))))))))))))))
noncomputable def F_laboratory_line (a0 : TStep) : Option (ByteArray × TStep × Bool × Unit) :=
 letJ (fun (v1 : Bool × Unit) =>
 bif v1.1 then
 Option.bind (F_laboratory_line_1 a0.Kind { a0 with Trust := (eTTrust a0.Trust), Letter := { a0.Letter with Nomination := { a0.Letter.Nomination with Trust := (eTTrust a0.Letter.Nomination.Trust) }, Envelope := { a0.Letter.Envelope with Trust := (eTTrust a0.Letter.Envelope.Trust) } } }) fun r3 =>
 letJ (fun (v4 : ByteArray × Unit) =>
 letJ (fun (v6 : ByteArray × Bool × TStep × Unit) =>
 some (v6.1, { v6.2.2.1 with Trust := (eTTrust v6.2.2.1.Trust), Letter := { v6.2.2.1.Letter with Nomination := { v6.2.2.1.Letter.Nomination with Trust := (eTTrust v6.2.2.1.Letter.Nomination.Trust) }, Envelope := { v6.2.2.1.Letter.Envelope with Trust := (eTTrust v6.2.2.1.Letter.Envelope.Trust) } } }, v6.2.1, ())) fun j7 =>
 Option.bind (F_laboratory_words [(TDyn.mk true (0 : Int) v4.1), (TDyn.mk false a0.Node (ByteArray.mk #[])), (TDyn.mk false a0.Slot (ByteArray.mk #[])), (TDyn.mk true (0 : Int) a0.Value)]) fun r8 =>
 Option.bind (F_laboratory_node a0.Node) fun r9 =>
 bif r9 then
 Option.bind (F_laboratory_count a0.Slot) fun r10 =>
 bif r10 then
 Option.bind (F_laboratory_Word a0.Value) fun r11 =>
 j7 (r8, r11, { r3 with Slot := a0.Slot, Value := a0.Value, Trust := (eTTrust r3.Trust), Letter := { r3.Letter with Nomination := { r3.Letter.Nomination with Trust := (eTTrust r3.Letter.Nomination.Trust) }, Envelope := { r3.Letter.Envelope with Trust := (eTTrust r3.Letter.Envelope.Trust) } } }, ())
 else
 j7 (r8, false, { r3 with Slot := a0.Slot, Value := a0.Value, Trust := (eTTrust r3.Trust), Letter := { r3.Letter with Nomination := { r3.Letter.Nomination with Trust := (eTTrust r3.Letter.Nomination.Trust) }, Envelope := { r3.Letter.Envelope with Trust := (eTTrust r3.Letter.Envelope.Trust) } } }, ())
 else
 j7 (r8, false, { r3 with Slot := a0.Slot, Value := a0.Value, Trust := (eTTrust r3.Trust), Letter := { r3.Letter with Nomination := { r3.Letter.Nomination with Trust := (eTTrust r3.Letter.Nomination.Trust) }, Envelope := { r3.Letter.Envelope with Trust := (eTTrust r3.Letter.Envelope.Trust) } } }, ())) fun j5 =>
 bif (decide (a0.Kind = (8 : Int))) then
 j5 ((ByteArray.mk #[112, 114, 101, 102, 101, 114]), ())
 else
 j5 ((ByteArray.mk #[112, 114, 111, 112, 111, 115, 101]), ())
 else
 bif (decide (a0.Kind = (2 : Int))) then
 Option.bind (F_laboratory_words [(TDyn.mk true (0 : Int) (ByteArray.mk #[116, 105, 99, 107])), (TDyn.mk false a0.Count (ByteArray.mk #[]))]) fun r12 =>
 Option.bind (F_laboratory_count a0.Count) fun r13 =>
 some (r12, (TStep.mk a0.Kind (0 : Int) (0 : Int) (0 : Int) a0.Count (ByteArray.mk #[]) (TTrust.mk (0 : Int) ([] : List Int) ([] : List TTrust)) (TLetter.mk (0 : Int) (0 : Int) (TNomination.mk (0 : Int) (0 : Int) (TTrust.mk (0 : Int) ([] : List Int) ([] : List TTrust)) ([] : List ByteArray) ([] : List ByteArray)) (TEnvelope.mk (0 : Int) (0 : Int) (0 : Int) (TTrust.mk (0 : Int) ([] : List Int) ([] : List TTrust)) (0 : Int) (TBallot.mk (0 : Int) (ByteArray.mk #[])) (TBallot.mk (0 : Int) (ByteArray.mk #[])) (TBallot.mk (0 : Int) (ByteArray.mk #[])) (0 : Int) (0 : Int))) ([] : List Int)), r13, ())
 else
 bif (decide (a0.Kind = (4 : Int))) then
 Option.bind (F_laboratory_words [(TDyn.mk true (0 : Int) (ByteArray.mk #[115, 116, 111, 112])), (TDyn.mk false a0.Node (ByteArray.mk #[]))]) fun r14 =>
 Option.bind (F_laboratory_line_1 a0.Kind { a0 with Trust := (eTTrust a0.Trust), Letter := { a0.Letter with Nomination := { a0.Letter.Nomination with Trust := (eTTrust a0.Letter.Nomination.Trust) }, Envelope := { a0.Letter.Envelope with Trust := (eTTrust a0.Letter.Envelope.Trust) } } }) fun r15 =>
 Option.bind (F_laboratory_node a0.Node) fun r16 =>
 some (r14, { r15 with Trust := (eTTrust r15.Trust), Letter := { r15.Letter with Nomination := { r15.Letter.Nomination with Trust := (eTTrust r15.Letter.Nomination.Trust) }, Envelope := { r15.Letter.Envelope with Trust := (eTTrust r15.Letter.Envelope.Trust) } } }, r16, ())
 else
 bif (decide (a0.Kind = (7 : Int))) then
 Option.bind (F_laboratory_line_1 a0.Kind { a0 with Trust := (eTTrust a0.Trust), Letter := { a0.Letter with Nomination := { a0.Letter.Nomination with Trust := (eTTrust a0.Letter.Nomination.Trust) }, Envelope := { a0.Letter.Envelope with Trust := (eTTrust a0.Letter.Envelope.Trust) } } }) fun r17 =>
 letJ (fun (v18 : ByteArray × Bool × TStep × Unit) =>
 some (v18.1, { v18.2.2.1 with Trust := (eTTrust v18.2.2.1.Trust), Letter := { v18.2.2.1.Letter with Nomination := { v18.2.2.1.Letter.Nomination with Trust := (eTTrust v18.2.2.1.Letter.Nomination.Trust) }, Envelope := { v18.2.2.1.Letter.Envelope with Trust := (eTTrust v18.2.2.1.Letter.Envelope.Trust) } } }, v18.2.1, ())) fun j19 =>
 Option.bind (F_laboratory_words [(TDyn.mk true (0 : Int) (ByteArray.mk #[100, 101, 108, 97, 121])), (TDyn.mk false a0.Node (ByteArray.mk #[])), (TDyn.mk false a0.To (ByteArray.mk #[])), (TDyn.mk false a0.Count (ByteArray.mk #[]))]) fun r20 =>
 Option.bind (F_laboratory_node a0.Node) fun r21 =>
 bif r21 then
 Option.bind (F_laboratory_node a0.To) fun r22 =>
 bif r22 then
 Option.bind (F_laboratory_count a0.Count) fun r23 =>
 j19 (r20, r23, { r17 with To := a0.To, Count := a0.Count, Trust := (eTTrust r17.Trust), Letter := { r17.Letter with Nomination := { r17.Letter.Nomination with Trust := (eTTrust r17.Letter.Nomination.Trust) }, Envelope := { r17.Letter.Envelope with Trust := (eTTrust r17.Letter.Envelope.Trust) } } }, ())
 else
 j19 (r20, false, { r17 with To := a0.To, Count := a0.Count, Trust := (eTTrust r17.Trust), Letter := { r17.Letter with Nomination := { r17.Letter.Nomination with Trust := (eTTrust r17.Letter.Nomination.Trust) }, Envelope := { r17.Letter.Envelope with Trust := (eTTrust r17.Letter.Envelope.Trust) } } }, ())
 else
 j19 (r20, false, { r17 with To := a0.To, Count := a0.Count, Trust := (eTTrust r17.Trust), Letter := { r17.Letter with Nomination := { r17.Letter.Nomination with Trust := (eTTrust r17.Letter.Nomination.Trust) }, Envelope := { r17.Letter.Envelope with Trust := (eTTrust r17.Letter.Envelope.Trust) } } }, ())
 else
 bif (decide (a0.Kind = (6 : Int))) then
 loopO (fun (v24 : Int × (List TDyn) × Unit) =>
 bif (decide (v24.1 < ((List.length a0.Parts : Nat) : Int))) then
 Option.bind (idx a0.Parts v24.1) fun x25 =>
 bif lenOk 16 (List.length v24.2.1 + List.length [(TDyn.mk false x25 (ByteArray.mk #[]))]) then
 some (Sum.inl ((addI .i64 v24.1 (1 : Int)), (v24.2.1 ++ [(TDyn.mk false x25 (ByteArray.mk #[]))]), ()))
 else none
 else
 Option.map Sum.inr (letJ (fun (v26 : ByteArray × Bool × TStep × Unit) =>
 some (v26.1, { v26.2.2.1 with Trust := (eTTrust v26.2.2.1.Trust), Letter := { v26.2.2.1.Letter with Nomination := { v26.2.2.1.Letter.Nomination with Trust := (eTTrust v26.2.2.1.Letter.Nomination.Trust) }, Envelope := { v26.2.2.1.Letter.Envelope with Trust := (eTTrust v26.2.2.1.Letter.Envelope.Trust) } } }, v26.2.1, ())) fun j27 =>
 Option.bind (F_laboratory_words v24.2.1) fun r28 =>
 bif (decide ((0 : Int) < ((List.length a0.Parts : Nat) : Int))) then
 Option.bind (F_slices_ContainsFunc_int_int_c68 a0.Parts) fun r29 =>
 j27 (r28, (!r29), (TStep.mk a0.Kind (0 : Int) (0 : Int) (0 : Int) (0 : Int) (ByteArray.mk #[]) (TTrust.mk (0 : Int) ([] : List Int) ([] : List TTrust)) (TLetter.mk (0 : Int) (0 : Int) (TNomination.mk (0 : Int) (0 : Int) (TTrust.mk (0 : Int) ([] : List Int) ([] : List TTrust)) ([] : List ByteArray) ([] : List ByteArray)) (TEnvelope.mk (0 : Int) (0 : Int) (0 : Int) (TTrust.mk (0 : Int) ([] : List Int) ([] : List TTrust)) (0 : Int) (TBallot.mk (0 : Int) (ByteArray.mk #[])) (TBallot.mk (0 : Int) (ByteArray.mk #[])) (TBallot.mk (0 : Int) (ByteArray.mk #[])) (0 : Int) (0 : Int))) a0.Parts), ())
 else
 j27 (r28, false, (TStep.mk a0.Kind (0 : Int) (0 : Int) (0 : Int) (0 : Int) (ByteArray.mk #[]) (TTrust.mk (0 : Int) ([] : List Int) ([] : List TTrust)) (TLetter.mk (0 : Int) (0 : Int) (TNomination.mk (0 : Int) (0 : Int) (TTrust.mk (0 : Int) ([] : List Int) ([] : List TTrust)) ([] : List ByteArray) ([] : List ByteArray)) (TEnvelope.mk (0 : Int) (0 : Int) (0 : Int) (TTrust.mk (0 : Int) ([] : List Int) ([] : List TTrust)) (0 : Int) (TBallot.mk (0 : Int) (ByteArray.mk #[])) (TBallot.mk (0 : Int) (ByteArray.mk #[])) (TBallot.mk (0 : Int) (ByteArray.mk #[])) (0 : Int) (0 : Int))) a0.Parts), ()))) ((0 : Int), [(TDyn.mk true (0 : Int) (ByteArray.mk #[112, 97, 114, 116]))], ())
 else
 bif (decide (a0.Kind = (3 : Int))) then
 Option.bind (F_laboratory_line_1 a0.Kind { a0 with Trust := (eTTrust a0.Trust), Letter := { a0.Letter with Nomination := { a0.Letter.Nomination with Trust := (eTTrust a0.Letter.Nomination.Trust) }, Envelope := { a0.Letter.Envelope with Trust := (eTTrust a0.Letter.Envelope.Trust) } } }) fun r30 =>
 letJ (fun (v31 : ByteArray × Bool × TStep × Unit) =>
 some (v31.1, { v31.2.2.1 with Trust := (eTTrust v31.2.2.1.Trust), Letter := { v31.2.2.1.Letter with Nomination := { v31.2.2.1.Letter.Nomination with Trust := (eTTrust v31.2.2.1.Letter.Nomination.Trust) }, Envelope := { v31.2.2.1.Letter.Envelope with Trust := (eTTrust v31.2.2.1.Letter.Envelope.Trust) } } }, v31.2.1, ())) fun j32 =>
 Option.bind (F_notation_Text (eTTrust a0.Trust)) fun r33 =>
 Option.bind (F_laboratory_words [(TDyn.mk true (0 : Int) (ByteArray.mk #[100, 101, 99, 108, 97, 114, 101])), (TDyn.mk false a0.Node (ByteArray.mk #[])), (TDyn.mk true (0 : Int) r33)]) fun r34 =>
 Option.bind (F_laboratory_node a0.Node) fun r35 =>
 bif r35 then
 Option.bind (F_threshold_Valid (eTTrust a0.Trust)) fun r36 =>
 j32 (r34, (decide (r36 = (0 : Int))), { r30 with Trust := (eTTrust a0.Trust), Letter := { r30.Letter with Nomination := { r30.Letter.Nomination with Trust := (eTTrust r30.Letter.Nomination.Trust) }, Envelope := { r30.Letter.Envelope with Trust := (eTTrust r30.Letter.Envelope.Trust) } } }, ())
 else
 j32 (r34, false, { r30 with Trust := (eTTrust a0.Trust), Letter := { r30.Letter with Nomination := { r30.Letter.Nomination with Trust := (eTTrust r30.Letter.Nomination.Trust) }, Envelope := { r30.Letter.Envelope with Trust := (eTTrust r30.Letter.Envelope.Trust) } } }, ())
 else
 bif (decide (a0.Kind = (5 : Int))) then
 letJ (fun (v37 : ByteArray × Bool × TStep × Unit) =>
 some (v37.1, { v37.2.2.1 with Trust := (eTTrust v37.2.2.1.Trust), Letter := { v37.2.2.1.Letter with Nomination := { v37.2.2.1.Letter.Nomination with Trust := (eTTrust v37.2.2.1.Letter.Nomination.Trust) }, Envelope := { v37.2.2.1.Letter.Envelope with Trust := (eTTrust v37.2.2.1.Letter.Envelope.Trust) } } }, v37.2.1, ())) fun j38 =>
 Option.bind (F_laboratory_words [(TDyn.mk true (0 : Int) (ByteArray.mk #[108, 105, 101])), (TDyn.mk false a0.Node (ByteArray.mk #[])), (TDyn.mk false a0.To (ByteArray.mk #[])), (TDyn.mk false a0.Letter.Slot (ByteArray.mk #[])), (TDyn.mk true (0 : Int) a0.Letter.Envelope.Ballot.Value)]) fun r39 =>
 Option.bind (F_laboratory_Lie a0.Node a0.To a0.Letter.Slot a0.Letter.Envelope.Ballot.Value) fun r40 =>
 Option.bind (F_laboratory_node a0.Node) fun r41 =>
 bif r41 then
 Option.bind (F_laboratory_node a0.To) fun r42 =>
 bif r42 then
 Option.bind (F_laboratory_count a0.Letter.Slot) fun r43 =>
 bif r43 then
 Option.bind (F_laboratory_Word a0.Letter.Envelope.Ballot.Value) fun r44 =>
 j38 (r39, r44, { r40 with Trust := (eTTrust r40.Trust), Letter := { r40.Letter with Nomination := { r40.Letter.Nomination with Trust := (eTTrust r40.Letter.Nomination.Trust) }, Envelope := { r40.Letter.Envelope with Trust := (eTTrust r40.Letter.Envelope.Trust) } } }, ())
 else
 j38 (r39, false, { r40 with Trust := (eTTrust r40.Trust), Letter := { r40.Letter with Nomination := { r40.Letter.Nomination with Trust := (eTTrust r40.Letter.Nomination.Trust) }, Envelope := { r40.Letter.Envelope with Trust := (eTTrust r40.Letter.Envelope.Trust) } } }, ())
 else
 j38 (r39, false, { r40 with Trust := (eTTrust r40.Trust), Letter := { r40.Letter with Nomination := { r40.Letter.Nomination with Trust := (eTTrust r40.Letter.Nomination.Trust) }, Envelope := { r40.Letter.Envelope with Trust := (eTTrust r40.Letter.Envelope.Trust) } } }, ())
 else
 j38 (r39, false, { r40 with Trust := (eTTrust r40.Trust), Letter := { r40.Letter with Nomination := { r40.Letter.Nomination with Trust := (eTTrust r40.Letter.Nomination.Trust) }, Envelope := { r40.Letter.Envelope with Trust := (eTTrust r40.Letter.Envelope.Trust) } } }, ())
 else
 some ((ByteArray.mk #[]), (TStep.mk (0 : Int) (0 : Int) (0 : Int) (0 : Int) (0 : Int) (ByteArray.mk #[]) (TTrust.mk (0 : Int) ([] : List Int) ([] : List TTrust)) (TLetter.mk (0 : Int) (0 : Int) (TNomination.mk (0 : Int) (0 : Int) (TTrust.mk (0 : Int) ([] : List Int) ([] : List TTrust)) ([] : List ByteArray) ([] : List ByteArray)) (TEnvelope.mk (0 : Int) (0 : Int) (0 : Int) (TTrust.mk (0 : Int) ([] : List Int) ([] : List TTrust)) (0 : Int) (TBallot.mk (0 : Int) (ByteArray.mk #[])) (TBallot.mk (0 : Int) (ByteArray.mk #[])) (TBallot.mk (0 : Int) (ByteArray.mk #[])) (0 : Int) (0 : Int))) ([] : List Int)), false, ())) fun j2 =>
 bif (decide (a0.Kind = (1 : Int))) then
 j2 ((decide (a0.Kind = (1 : Int))), ())
 else
 j2 ((decide (a0.Kind = (8 : Int))), ())
noncomputable def k_laboratory_line : KS U Tryz.prog := ⟨.fn 32 [.ty (Ty.st .Step)] (.many [Ty.str, (Ty.st .Step), Ty.bool]) fun a => F_laboratory_line a.1, fnS (K := K) sa_laboratory_line 242 [.tmp 2, .cell 3 (some 34), .tmp 4] [k_laboratory_line_1, k_laboratory_words, k_laboratory_node, k_laboratory_count, k_laboratory_Word, k_slices_ContainsFunc_int_int_c68, k_notation_Text, k_threshold_Valid, k_laboratory_Lie] (fk Tryz.f32 [134, 1] Tryz.func32)⟩

/-! ### slices.Equal[[]int,int] -/
noncomputable def sa_slices_Equal_int_int : SA U := annA (scOf Tryz.prog 26 [] Tryz.f75) (.r (.r (.l (.r (.l (.j ⟨[.val 13 (Ty.i .i64)], [0, 1, 12]⟩ .e))))))
noncomputable def F_slices_Equal_int_int (a0 : (List Int)) (a1 : (List Int)) : Option Bool :=
 bif (!decide (((List.length a0 : Nat) : Int) = ((List.length a1 : Nat) : Int))) then
 some false
 else
 loopO (fun (v1 : Int × Unit) =>
 bif (decide (v1.1 < ((List.length a0 : Nat) : Int))) then
 Option.bind (idx a0 v1.1) fun x2 =>
 Option.bind (idx a1 v1.1) fun x3 =>
 bif (!decide (x2 = x3)) then
 Option.map Sum.inr (some false)
 else
 some (Sum.inl ((addI .i64 v1.1 (1 : Int)), ()))
 else
 Option.map Sum.inr (some true)) ((0 : Int), ())
noncomputable def k_slices_Equal_int_int : KS U Tryz.prog := ⟨.fn 75 [.ty (Ty.sl (Ty.i .i64)), .ty (Ty.sl (Ty.i .i64))] (.one Ty.bool) fun a => F_slices_Equal_int_int a.1 a.2.1, fnS (K := K) sa_slices_Equal_int_int 26 [.tmp 4] [] (fk Tryz.f75 [] Tryz.func75)⟩

/-! ### slices.EqualFunc[[]trustquorum/api.Trust,[]trustquorum/api.Trust,trustquorum/api.Trust,trustquorum/api.Trust] -/
noncomputable def sa_slices_EqualFunc_api_Trust_api_Trust_api_Trust_api_Trust_c73 : SA U := annA (scOf Tryz.prog 32 [] Tryz.f117) (.r (.r (.l (.r (.l (.j ⟨[.val 17 (Ty.i .i64)], [1, 2, 15, 16]⟩ .e))))))
noncomputable def B_slices_EqualFunc_api_Trust_api_Trust_api_Trust_api_Trust_c73 (rec : (TTrust × TTrust × Unit) → Option Bool) (a0 : (List TTrust)) (a1 : (List TTrust)) : Option Bool :=
 bif (!decide (((List.length a0 : Nat) : Int) = ((List.length a1 : Nat) : Int))) then
 some false
 else
 loopO (fun (v1 : Int × Unit) =>
 bif (decide (v1.1 < ((List.length a0 : Nat) : Int))) then
 Option.bind (idx a0 v1.1) fun x2 =>
 Option.bind (idx a1 v1.1) fun x3 =>
 Option.bind (rec ((eTTrust x2), (eTTrust x3), ())) fun r4 =>
 bif (!r4) then
 Option.map Sum.inr (some false)
 else
 some (Sum.inl ((addI .i64 v1.1 (1 : Int)), ()))
 else
 Option.map Sum.inr (some true)) ((0 : Int), ())
noncomputable def k_slices_EqualFunc_api_Trust_api_Trust_api_Trust_api_Trust_c73 (g : (TTrust × TTrust × Unit) → Option Bool) (h : KFun.Sound Tryz.prog (U := U) (.fn 73 [.ty (Ty.st .Trust), .ty (Ty.st .Trust)] (.one Ty.bool) g)) : KS U Tryz.prog := ⟨.fn 117 [.ty (Ty.sl (Ty.st .Trust)), .ty (Ty.sl (Ty.st .Trust)), .clo 73 []] (.one Ty.bool) fun a => B_slices_EqualFunc_api_Trust_api_Trust_api_Trust_api_Trust_c73 g a.1 a.2.1, fnS (K := K) sa_slices_EqualFunc_api_Trust_api_Trust_api_Trust_api_Trust_c73 32 [.tmp 6] (⟨_, h⟩ :: []) (fk Tryz.f117 [] Tryz.func117)⟩

/-! ### trustquorum/threshold.Same -/
noncomputable def sa_threshold_Same : SA U := annA (scOf Tryz.prog 24 [] Tryz.f73) .e
noncomputable def B_threshold_Same (rec : (TTrust × TTrust × Unit) → Option Bool) (a0 : TTrust) (a1 : TTrust) : Option Bool :=
 Option.bind (bif (decide (a0.Threshold = a1.Threshold)) then
 Option.bind (F_slices_Equal_int_int a0.Nodes a1.Nodes) fun r1 =>
 some r1
 else some false) fun b2 =>
 Option.bind (bif b2 then
 Option.bind (B_slices_EqualFunc_api_Trust_api_Trust_api_Trust_api_Trust_c73 rec a0.Inner a1.Inner) fun r3 =>
 some r3
 else some false) fun b4 =>
 some b4
noncomputable def I_threshold_Same : Nat → (TTrust × TTrust × Unit) → Option Bool := iterF (fun rec a => B_threshold_Same rec a.1 a.2.1)
noncomputable def F_threshold_Same (a0 : TTrust) (a1 : TTrust) : Option Bool := I_threshold_Same (SizeOf.sizeOf a0 + SizeOf.sizeOf a1 + 1) (a0, a1, ())
noncomputable def k_threshold_Same : KS U Tryz.prog := ⟨.fn 73 [.ty (Ty.st .Trust), .ty (Ty.st .Trust)] (.one Ty.bool) fun a => F_threshold_Same a.1 a.2.1, fnRSG (K := K) («as» := [.ty (Ty.st .Trust), .ty (Ty.st .Trust)]) (r := .one Ty.bool) (B := fun rec a => B_threshold_Same rec a.1 a.2.1) sa_threshold_Same 24 [.tmp 4] (fun g h => [k_slices_EqualFunc_api_Trust_api_Trust_api_Trust_api_Trust_c73 g h, k_slices_Equal_int_int]) (fk Tryz.f73 [] Tryz.func73) (hF := fun a => ⟨_, rfl⟩)⟩

/-! ### slices.Equal[[]string,string] -/
noncomputable def sa_slices_Equal_string_string : SA U := annA (scOf Tryz.prog 26 [] Tryz.f118) (.r (.r (.l (.r (.l (.j ⟨[.val 13 (Ty.i .i64)], [0, 1, 12]⟩ .e))))))
noncomputable def F_slices_Equal_string_string (a0 : (List ByteArray)) (a1 : (List ByteArray)) : Option Bool :=
 bif (!decide (((List.length a0 : Nat) : Int) = ((List.length a1 : Nat) : Int))) then
 some false
 else
 loopO (fun (v1 : Int × Unit) =>
 bif (decide (v1.1 < ((List.length a0 : Nat) : Int))) then
 Option.bind (idx a0 v1.1) fun x2 =>
 Option.bind (idx a1 v1.1) fun x3 =>
 bif (!decide (x2 = x3)) then
 Option.map Sum.inr (some false)
 else
 some (Sum.inl ((addI .i64 v1.1 (1 : Int)), ()))
 else
 Option.map Sum.inr (some true)) ((0 : Int), ())
noncomputable def k_slices_Equal_string_string : KS U Tryz.prog := ⟨.fn 118 [.ty (Ty.sl Ty.str), .ty (Ty.sl Ty.str)] (.one Ty.bool) fun a => F_slices_Equal_string_string a.1 a.2.1, fnS (K := K) sa_slices_Equal_string_string 26 [.tmp 4] [] (fk Tryz.f118 [] Tryz.func118)⟩

/-! ### trustquorum/laboratory.letter -/
noncomputable def sa_laboratory_letter : SA U := annA (scOf Tryz.prog 138 [] Tryz.f74) .e
noncomputable def F_laboratory_letter (a0 : TLetter) (a1 : TLetter) : Option Bool :=
 Option.bind (bif (decide (a0.Nomination.Node = a1.Nomination.Node)) then
 some (decide (a0.Nomination.Seq = a1.Nomination.Seq))
 else some false) fun b1 =>
 Option.bind (bif b1 then
 Option.bind (F_threshold_Same (eTTrust a0.Nomination.Trust) (eTTrust a1.Nomination.Trust)) fun r2 =>
 some r2
 else some false) fun b3 =>
 Option.bind (bif b3 then
 Option.bind (F_slices_Equal_string_string a0.Nomination.Votes a1.Nomination.Votes) fun r4 =>
 some r4
 else some false) fun b5 =>
 Option.bind (bif b5 then
 Option.bind (F_slices_Equal_string_string a0.Nomination.Accepts a1.Nomination.Accepts) fun r6 =>
 some r6
 else some false) fun b7 =>
 Option.bind (bif (decide (a0.Envelope.Node = a1.Envelope.Node)) then
 some (decide (a0.Envelope.Slot = a1.Envelope.Slot))
 else some false) fun b8 =>
 Option.bind (bif b8 then
 some (decide (a0.Envelope.Seq = a1.Envelope.Seq))
 else some false) fun b9 =>
 Option.bind (bif b9 then
 Option.bind (F_threshold_Same (eTTrust a0.Envelope.Trust) (eTTrust a1.Envelope.Trust)) fun r10 =>
 some r10
 else some false) fun b11 =>
 Option.bind (bif b11 then
 some (decide (a0.Envelope.Kind = a1.Envelope.Kind))
 else some false) fun b12 =>
 Option.bind (bif b12 then
 some (eq2 false a0.Envelope.Ballot.Counter a1.Envelope.Ballot.Counter a0.Envelope.Ballot.Value a1.Envelope.Ballot.Value)
 else some false) fun b13 =>
 Option.bind (bif b13 then
 some (eq2 false a0.Envelope.Prepared.Counter a1.Envelope.Prepared.Counter a0.Envelope.Prepared.Value a1.Envelope.Prepared.Value)
 else some false) fun b14 =>
 Option.bind (bif b14 then
 some (eq2 false a0.Envelope.Prime.Counter a1.Envelope.Prime.Counter a0.Envelope.Prime.Value a1.Envelope.Prime.Value)
 else some false) fun b15 =>
 Option.bind (bif b15 then
 some (decide (a0.Envelope.Low = a1.Envelope.Low))
 else some false) fun b16 =>
 Option.bind (bif b16 then
 some (decide (a0.Envelope.High = a1.Envelope.High))
 else some false) fun b17 =>
 Option.bind (bif (decide (a0.Kind = a1.Kind)) then
 some (decide (a0.Slot = a1.Slot))
 else some false) fun b18 =>
 Option.bind (bif b18 then
 some b7
 else some false) fun b19 =>
 Option.bind (bif b19 then
 some b17
 else some false) fun b20 =>
 some b20
noncomputable def k_laboratory_letter : KS U Tryz.prog := ⟨.fn 74 [.ty (Ty.st .Letter), .ty (Ty.st .Letter)] (.one Ty.bool) fun a => F_laboratory_letter a.1 a.2.1, fnS (K := K) sa_laboratory_letter 138 [.tmp 4] [k_threshold_Same, k_slices_Equal_string_string] (fk Tryz.f74 [] Tryz.func74)⟩

/-! ### trustquorum/laboratory.same -/
noncomputable def sa_laboratory_same : SA U := annA (scOf Tryz.prog 66 [] Tryz.f33) .e
noncomputable def F_laboratory_same (a0 : TStep) (a1 : TStep) : Option Bool :=
 Option.bind (bif (decide (a0.Kind = a1.Kind)) then
 some (decide (a0.Node = a1.Node))
 else some false) fun b1 =>
 Option.bind (bif b1 then
 some (decide (a0.To = a1.To))
 else some false) fun b2 =>
 Option.bind (bif b2 then
 some (decide (a0.Slot = a1.Slot))
 else some false) fun b3 =>
 Option.bind (bif b3 then
 some (decide (a0.Count = a1.Count))
 else some false) fun b4 =>
 Option.bind (bif b4 then
 some (decide (a0.Value = a1.Value))
 else some false) fun b5 =>
 Option.bind (bif b5 then
 Option.bind (F_threshold_Same (eTTrust a0.Trust) (eTTrust a1.Trust)) fun r6 =>
 some r6
 else some false) fun b7 =>
 Option.bind (bif b7 then
 Option.bind (F_laboratory_letter { a0.Letter with Nomination := { a0.Letter.Nomination with Trust := (eTTrust a0.Letter.Nomination.Trust) }, Envelope := { a0.Letter.Envelope with Trust := (eTTrust a0.Letter.Envelope.Trust) } } { a1.Letter with Nomination := { a1.Letter.Nomination with Trust := (eTTrust a1.Letter.Nomination.Trust) }, Envelope := { a1.Letter.Envelope with Trust := (eTTrust a1.Letter.Envelope.Trust) } }) fun r8 =>
 some r8
 else some false) fun b9 =>
 Option.bind (bif b9 then
 Option.bind (F_slices_Equal_int_int a0.Parts a1.Parts) fun r10 =>
 some r10
 else some false) fun b11 =>
 some b11
noncomputable def k_laboratory_same : KS U Tryz.prog := ⟨.fn 33 [.ty (Ty.st .Step), .ty (Ty.st .Step)] (.one Ty.bool) fun a => F_laboratory_same a.1 a.2.1, fnS (K := K) sa_laboratory_same 66 [.tmp 4] [k_threshold_Same, k_laboratory_letter, k_slices_Equal_int_int] (fk Tryz.f33 [] Tryz.func33)⟩

/-! ### trustquorum/laboratory.Step -/
noncomputable def sa_laboratory_Step : SA U := annA (scOf Tryz.prog 22 [] Tryz.f16) .e
noncomputable def F_laboratory_Step (a0 : TStep) : Option (ByteArray × Bool × Unit) :=
 Option.bind (F_laboratory_line { a0 with Trust := (eTTrust a0.Trust), Letter := { a0.Letter with Nomination := { a0.Letter.Nomination with Trust := (eTTrust a0.Letter.Nomination.Trust) }, Envelope := { a0.Letter.Envelope with Trust := (eTTrust a0.Letter.Envelope.Trust) } } }) fun r1 =>
 Option.bind (bif (!r1.2.2.1) then some true
 else
 Option.bind (F_laboratory_same { a0 with Trust := (eTTrust a0.Trust), Letter := { a0.Letter with Nomination := { a0.Letter.Nomination with Trust := (eTTrust a0.Letter.Nomination.Trust) }, Envelope := { a0.Letter.Envelope with Trust := (eTTrust a0.Letter.Envelope.Trust) } } } { r1.2.1 with Trust := (eTTrust r1.2.1.Trust), Letter := { r1.2.1.Letter with Nomination := { r1.2.1.Letter.Nomination with Trust := (eTTrust r1.2.1.Letter.Nomination.Trust) }, Envelope := { r1.2.1.Letter.Envelope with Trust := (eTTrust r1.2.1.Letter.Envelope.Trust) } } }) fun r2 =>
 some (!r2)) fun b3 =>
 bif b3 then
 some ((ByteArray.mk #[]), false, ())
 else
 some (r1.1, true, ())
noncomputable def k_laboratory_Step : KS U Tryz.prog := ⟨.fn 16 [.ty (Ty.st .Step)] (.many [Ty.str, Ty.bool]) fun a => F_laboratory_Step a.1, fnS (K := K) sa_laboratory_Step 22 [.tmp 2, .tmp 3] [k_laboratory_line, k_laboratory_same] (fk Tryz.f16 [] Tryz.func16)⟩

/-! ### trustquorum/laboratory.Format -/
noncomputable def F_laboratory_Format (a0 : (List TStep)) : Option (ByteArray × Int × Unit) := formatF (fun b0 => F_laboratory_Step b0) a0
noncomputable def k_laboratory_Format : KS U Tryz.prog := ⟨.fn 10 [.ty (Ty.sl (Ty.st .Step))] (.many [Ty.str, (Ty.i .i64)]) fun a => F_laboratory_Format a.1, lib10 k_laboratory_Step.s⟩

/-! ### strings.Count -/
noncomputable def F_strings_Count (a0 : ByteArray) (a1 : ByteArray) : Option Int := countF a0 a1
noncomputable def k_strings_Count : KS U Tryz.prog := ⟨.fn 25 [.ty Ty.str, .ty Ty.str] (.one (Ty.i .i64)) fun a => F_strings_Count a.1 a.2.1, lib25⟩

/-! ### strings.Lines, collected -/
noncomputable def F_lines (a0 : ByteArray) : Option (List ByteArray) := linesF a0
noncomputable def k_lines : KS U Tryz.prog := ⟨.pr 27 26 [.ty Ty.str] 9 1 Ty.str fun a => F_lines a.1, libLines⟩

/-! ### strings.TrimSuffix -/
noncomputable def F_strings_TrimSuffix (a0 : ByteArray) (a1 : ByteArray) : Option ByteArray := trimF a0 a1
noncomputable def k_strings_TrimSuffix : KS U Tryz.prog := ⟨.fn 29 [.ty Ty.str, .ty Ty.str] (.one Ty.str) fun a => F_strings_TrimSuffix a.1 a.2.1, lib29⟩

/-! ### strings.Split -/
noncomputable def F_strings_Split (a0 : ByteArray) (a1 : ByteArray) : Option (List ByteArray) := splitF a0 a1
noncomputable def k_strings_Split : KS U Tryz.prog := ⟨.fw 54 [.ty Ty.str, .ty Ty.str] 9 1 Ty.str fun a => F_strings_Split a.1 a.2.1, lib54⟩

/-! ### (*trustquorum/laboratory.reader).word -/
noncomputable def sa_laboratory_reader_word : SA U := annA (scOf Tryz.prog 28 [] Tryz.f55) .e
noncomputable def F_laboratory_reader_word (s : TLaboratoryReader)  : Option (ByteArray × TLaboratoryReader) :=
 bif (decide (((List.length s.l : Nat) : Int) = (0 : Int))) then
 some ((ByteArray.mk #[]), (TLaboratoryReader.mk s.l true))
 else
 Option.bind (idx s.l (0 : Int)) fun x1 =>
 bif slcOk (1 : Int) (s.l.length : Int) (List.length s.l) then
 some (x1, (TLaboratoryReader.mk ((s.l.take (Int.toNat (s.l.length : Int))).drop (Int.toNat (1 : Int))) s.bad))
 else none
noncomputable def k_laboratory_reader_word : KS U Tryz.prog := ⟨.rc 55 0 (Ty.st .LaboratoryReader) [] (.one Ty.str) fun s a => F_laboratory_reader_word s , rcS (K := K) sa_laboratory_reader_word 28 [.tmp 2] [] (fk Tryz.f55 [] Tryz.func55)⟩

/-! ### strconv.Atoi -/
noncomputable def F_strconv_Atoi (a0 : ByteArray) : Option (Int × Bool × Unit) := atoiF a0
noncomputable def k_strconv_Atoi : KS U Tryz.prog := ⟨.fn 103 [.ty Ty.str] (.many [(Ty.i .i64), Ty.err]) fun a => F_strconv_Atoi a.1, lib103⟩

/-! ### (*trustquorum/laboratory.reader).number -/
noncomputable def sa_laboratory_reader_number : SA U := annA (scOf Tryz.prog 23 [] Tryz.f57) .e
noncomputable def F_laboratory_reader_number (s : TLaboratoryReader)  : Option (Int × TLaboratoryReader) :=
 Option.bind (F_laboratory_reader_word s) fun p1 =>
 Option.bind (F_strconv_Atoi p1.1) fun r2 =>
 Option.bind (bif p1.2.bad then some true
 else
 some (xor true r2.2.1)) fun b3 =>
 some (r2.1, (TLaboratoryReader.mk p1.2.l b3))
noncomputable def k_laboratory_reader_number : KS U Tryz.prog := ⟨.rc 57 0 (Ty.st .LaboratoryReader) [] (.one (Ty.i .i64)) fun s a => F_laboratory_reader_number s , rcS (K := K) sa_laboratory_reader_number 23 [.tmp 2] [k_laboratory_reader_word, k_strconv_Atoi] (fk Tryz.f57 [] Tryz.func57)⟩

/-! ### (*trustquorum/laboratory.reader).valued -/
noncomputable def F_laboratory_reader_valued (s : TLaboratoryReader) (t : TStep) : Option (TLaboratoryReader × TStep) := valuedF (fun s  => F_laboratory_reader_number s ) (fun s  => F_laboratory_reader_word s ) s t
noncomputable def k_laboratory_reader_valued : KS U Tryz.prog := ⟨.r2 56 (Ty.st .LaboratoryReader) (Ty.st .Step) fun s t => F_laboratory_reader_valued s t, lib56 k_laboratory_reader_number.s k_laboratory_reader_word.s⟩

/-! ### strings.HasPrefix -/
noncomputable def F_strings_HasPrefix (a0 : ByteArray) (a1 : ByteArray) : Option Bool := hasPrefixF a0 a1
noncomputable def k_strings_HasPrefix : KS U Tryz.prog := ⟨.fn 149 [.ty Ty.str, .ty Ty.str] (.one Ty.bool) fun a => F_strings_HasPrefix a.1 a.2.1, lib149⟩

/-! ### strings.IndexByte -/
noncomputable def F_strings_IndexByte (a0 : ByteArray) (a1 : Int) : Option Int := indexByteF a0 a1
noncomputable def k_strings_IndexByte : KS U Tryz.prog := ⟨.fn 53 [.ty Ty.str, .ty (Ty.i .u8)] (.one (Ty.i .i64)) fun a => F_strings_IndexByte a.1 a.2.1, lib53⟩

/-! ### trustquorum/notation.digit -/
noncomputable def sa_notation_digit : SA U := annA (scOf Tryz.prog 9 [] Tryz.f150) .e
noncomputable def F_notation_digit (a0 : Int) : Option Bool :=
 Option.bind (bif (decide ((48 : Int) ≤ a0)) then
 some (decide (a0 ≤ (57 : Int)))
 else some false) fun b1 =>
 some b1
noncomputable def k_notation_digit : KS U Tryz.prog := ⟨.fn 150 [.ty (Ty.i .u8)] (.one Ty.bool) fun a => F_notation_digit a.1, fnS (K := K) sa_notation_digit 9 [.tmp 2] [] (fk Tryz.f150 [] Tryz.func150)⟩

/-! ### (*trustquorum/notation.reader).next -/
noncomputable def sa_notation_reader_next : SA U := annA (scOf Tryz.prog 84 [] Tryz.f104) (.r (.b (.l (.j ⟨[.box 0 0 (Ty.st .NotationReader) []], [0]⟩ (.l (.l (.j ⟨[.val 37 Ty.bool], [0]⟩ .e))))) (.r (.r (.j ⟨[.val 3 (Ty.i .i64)], [0, 2]⟩ (.l (.l (.r (.r (.r (.r (.l (.j ⟨[.val 3 (Ty.i .i64)], [0, 2]⟩ .e)))))))))))))
noncomputable def F_notation_reader_next (s : TNotationReader)  : Option ((Unit) × TNotationReader) :=
 loopO (fun (v1 : TNotationReader × Unit) =>
 letJ (fun (v2 : Bool × Unit) =>
 bif v2.1 then
 some (Sum.inl ((TNotationReader.mk v1.1.text v1.1.token (addI .i64 v1.1.at_ (1 : Int))), ()))
 else
 Option.map Sum.inr (Option.bind (sslc v1.1.text v1.1.at_ (ByteArray.size v1.1.text)) fun x4 =>
 letJ (fun (v5 : Int × Unit) =>
 Option.bind (sslc x4 0 v5.1) fun x7 =>
 some ((()), (TNotationReader.mk v1.1.text x7 v1.1.at_))) fun j6 =>
 Option.bind (F_strings_HasPrefix x4 (ByteArray.mk #[111, 102])) fun r8 =>
 bif r8 then
 j6 ((2 : Int), ())
 else
 Option.bind (bif (!decide (x4 = (ByteArray.mk #[]))) then
 Option.bind (sidx x4 (0 : Int)) fun x9 =>
 Option.bind (F_strings_IndexByte (ByteArray.mk #[40, 41, 44]) x9) fun r10 =>
 some (decide ((0 : Int) ≤ r10))
 else some false) fun b11 =>
 bif b11 then
 j6 ((1 : Int), ())
 else
 loopO (fun (v12 : Int × Unit) =>
 Option.bind (bif (decide (v12.1 < ((ByteArray.size x4 : Nat) : Int))) then
 Option.bind (sidx x4 v12.1) fun x13 =>
 Option.bind (F_notation_digit x13) fun r14 =>
 some r14
 else some false) fun b15 =>
 bif b15 then
 some (Sum.inl ((addI .i64 v12.1 (1 : Int)), ()))
 else
 Option.map Sum.inr (j6 (v12.1, ()))) ((0 : Int), ()))) fun j3 =>
 bif (decide (v1.1.at_ < ((ByteArray.size v1.1.text : Nat) : Int))) then
 Option.bind (sidx v1.1.text v1.1.at_) fun x16 =>
 j3 ((decide (x16 = (32 : Int))), ())
 else
 j3 (false, ())) ((TNotationReader.mk s.text s.token (addI .i64 s.at_ ((ByteArray.size s.token : Nat) : Int))), ())
noncomputable def k_notation_reader_next : KS U Tryz.prog := ⟨.rc 104 0 (Ty.st .NotationReader) [] (.many []) fun s a => F_notation_reader_next s , rcS (K := K) sa_notation_reader_next 84 [] [k_strings_HasPrefix, k_strings_IndexByte, k_notation_digit] (fk Tryz.f104 [] Tryz.func104)⟩

/-! ### (*trustquorum/notation.reader).number -/
noncomputable def sa_notation_reader_number : SA U := annA (scOf Tryz.prog 42 [] Tryz.f105) .e
noncomputable def F_notation_reader_number (s : TNotationReader)  : Option ((Int × Bool × Unit) × TNotationReader) :=
 Option.bind (bif (decide (s.token = (ByteArray.mk #[]))) then some true
 else
 Option.bind (sidx s.token (0 : Int)) fun x1 =>
 Option.bind (F_notation_digit x1) fun r2 =>
 some (!r2)) fun b3 =>
 Option.bind (bif b3 then some true
 else
 some (decide ((4 : Int) < ((ByteArray.size s.token : Nat) : Int)))) fun b4 =>
 Option.bind (bif b4 then some true
 else
 Option.bind (bif (decide ((1 : Int) < ((ByteArray.size s.token : Nat) : Int))) then
 Option.bind (sidx s.token (0 : Int)) fun x5 =>
 some (decide (x5 = (48 : Int)))
 else some false) fun b6 =>
 some b6) fun b7 =>
 bif b7 then
 some (((0 : Int), false, ()), s)
 else
 Option.bind (F_strconv_Atoi s.token) fun r8 =>
 Option.bind (F_notation_reader_next s) fun p9 =>
 some ((r8.1, true, ()), p9.2)
noncomputable def k_notation_reader_number : KS U Tryz.prog := ⟨.rc 105 0 (Ty.st .NotationReader) [] (.many [(Ty.i .i64), Ty.bool]) fun s a => F_notation_reader_number s , rcS (K := K) sa_notation_reader_number 42 [.tmp 2, .tmp 3] [k_notation_digit, k_strconv_Atoi, k_notation_reader_next] (fk Tryz.f105 [] Tryz.func105)⟩

/-! ### (*trustquorum/notation.reader).take -/
noncomputable def sa_notation_reader_take : SA U := annA (scOf Tryz.prog 13 [] Tryz.f151) .e
noncomputable def F_notation_reader_take (s : TNotationReader) (a0 : ByteArray) : Option (Bool × TNotationReader) :=
 bif (!decide (s.token = a0)) then
 some (false, s)
 else
 Option.bind (F_notation_reader_next s) fun p1 =>
 some (true, p1.2)
noncomputable def k_notation_reader_take : KS U Tryz.prog := ⟨.rc 151 0 (Ty.st .NotationReader) [.ty Ty.str] (.one Ty.bool) fun s a => F_notation_reader_take s a.1, rcS (K := K) sa_notation_reader_take 13 [.tmp 4] [k_notation_reader_next] (fk Tryz.f151 [] Tryz.func151)⟩

/-! ### (*trustquorum/notation.reader).rest -/
noncomputable def sa_notation_reader_rest : SA U := annA (scOf Tryz.prog 63 [] Tryz.f106) (.r (.r (.b (.j ⟨[.val 20 Ty.bool, .box 0 0 (Ty.st .NotationReader) []], [0, 4, 6]⟩ (.l (.g [(4, .spl 16)]))) (.l (.ps (.ownB 6 2 41 3 (Ty.st .Trust)) (.ps (.ownB 6 1 3 1 (Ty.i .i64)) (.j ⟨[.box 0 0 (Ty.st .NotationReader) [], .box 1 1 (Ty.st .Trust) [], .box 5 1 (Ty.st .Trust) [(1, 8, 1), (2, 7, 1)], .rowb 7 1 41 3 (Ty.st .Trust), .rowb 8 1 3 1 (Ty.i .i64)], [0, 4, 6]⟩ (.l (.l (.r (.r (.j ⟨[.box 0 0 (Ty.st .NotationReader) [], .box 1 1 (Ty.st .Trust) [], .box 5 1 (Ty.st .Trust) [(1, 8, 1), (2, 7, 1)], .rowb 7 1 41 3 (Ty.st .Trust), .rowb 8 1 3 1 (Ty.i .i64)], [0, 4, 6]⟩ .e))))))))))))
noncomputable def B_notation_reader_rest (rec : TNotationReader → (Int × Unit) → Option ((TTrust × Bool × Unit) × TNotationReader)) (s : TNotationReader) (a0 : Int) : Option ((TTrust × Bool × Unit) × TNotationReader) :=
 letJ (fun (v1 : Bool × TNotationReader × Unit) =>
 bif v1.1 then
 some (((TTrust.mk a0 ([] : List Int) ([] : List TTrust)), false, ()), v1.2.1)
 else
 loopO (fun (v3 : TNotationReader × TTrust × TTrust × (List TTrust) × (List Int) × Unit) =>
 Option.bind (F_notation_reader_number v3.1) fun p4 =>
 bif (!p4.1.2.1) then
 Option.map Sum.inr (some (((TTrust.mk v3.2.2.1.Threshold v3.2.2.2.2.1 v3.2.2.2.1), false, ()), p4.2))
 else
 letJ (fun (v5 : TNotationReader × TTrust × TTrust × (List TTrust) × (List Int) × Unit) =>
 Option.bind (F_notation_reader_take v5.1 (ByteArray.mk #[41])) fun p7 =>
 bif p7.1 then
 Option.map Sum.inr (some (((TTrust.mk v5.2.2.1.Threshold v5.2.2.2.2.1 v5.2.2.2.1), true, ()), p7.2))
 else
 Option.bind (F_notation_reader_take p7.2 (ByteArray.mk #[44])) fun p8 =>
 bif (!p8.1) then
 Option.map Sum.inr (some (((TTrust.mk v5.2.2.1.Threshold v5.2.2.2.2.1 v5.2.2.2.1), false, ()), p8.2))
 else
 some (Sum.inl (p8.2, (eTTrust v5.2.1), (TTrust.mk v5.2.2.1.Threshold ([] : List Int) ([] : List TTrust)), v5.2.2.2.1, v5.2.2.2.2.1, ()))) fun j6 =>
 bif (decide (p4.2.token = (ByteArray.mk #[111, 102]))) then
 Option.bind (rec p4.2 (p4.1.1, ())) fun p9 =>
 bif (!p9.1.2.1) then
 Option.map Sum.inr (some (((TTrust.mk v3.2.2.1.Threshold v3.2.2.2.2.1 v3.2.2.2.1), false, ()), p9.2))
 else
 bif lenOk 56 (List.length v3.2.2.2.1 + List.length [(eTTrust p9.1.1)]) then
 j6 (p9.2, (eTTrust v3.2.1), (TTrust.mk v3.2.2.1.Threshold ([] : List Int) ([] : List TTrust)), (v3.2.2.2.1 ++ [(eTTrust p9.1.1)]), v3.2.2.2.2.1, ())
 else none
 else
 bif lenOk 8 (List.length v3.2.2.2.2.1 + List.length [p4.1.1]) then
 j6 (p4.2, (eTTrust v3.2.1), (TTrust.mk v3.2.2.1.Threshold ([] : List Int) ([] : List TTrust)), v3.2.2.2.1, (v3.2.2.2.2.1 ++ [p4.1.1]), ())
 else none) (v1.2.1, (TTrust.mk (0 : Int) ([] : List Int) ([] : List TTrust)), (TTrust.mk a0 ([] : List Int) ([] : List TTrust)), ([] : List TTrust), ([] : List Int), ())) fun j2 =>
 Option.bind (F_notation_reader_take s (ByteArray.mk #[111, 102])) fun p10 =>
 bif (!p10.1) then
 j2 (true, p10.2, ())
 else
 Option.bind (F_notation_reader_take p10.2 (ByteArray.mk #[40])) fun p11 =>
 j2 ((!p11.1), p11.2, ())
noncomputable def I_notation_reader_rest : Nat → TNotationReader → (Int × Unit) → Option ((TTrust × Bool × Unit) × TNotationReader) := iterF2 (fun rec s a => B_notation_reader_rest rec s a.1)
noncomputable def F_notation_reader_rest (s : TNotationReader) (a0 : Int) : Option ((TTrust × Bool × Unit) × TNotationReader) := I_notation_reader_rest (ByteArray.size s.text + 2) s (a0, ())
noncomputable def k_notation_reader_rest : KS U Tryz.prog := ⟨.rc 106 0 (Ty.st .NotationReader) [.ty (Ty.i .i64)] (.many [(Ty.st .Trust), Ty.bool]) fun s a => F_notation_reader_rest s a.1, rcRS (K := K) («as» := [.ty (Ty.i .i64)]) (r := .many [(Ty.st .Trust), Ty.bool]) (R := (Ty.st .NotationReader)) (B := fun rec s a => B_notation_reader_rest rec s a.1) sa_notation_reader_rest 63 [.cell 4 (some 3), .tmp 5] [k_notation_reader_take, k_notation_reader_number] (fk Tryz.f106 [] Tryz.func106) (hF := fun s a => ⟨_, rfl⟩)⟩

/-! ### trustquorum/notation.Parse -/
noncomputable def sa_notation_Parse : SA U := annA (scOf Tryz.prog 54 [] Tryz.f58) (.r (.r (.r (.r (.r (.r (.j ⟨[.val 8 Ty.bool, .box 8 1 (Ty.st .NotationReader) [], .box 12 1 (Ty.st .Trust) []], [0, 2, 5, 6]⟩ .e)))))))
noncomputable def F_notation_Parse (a0 : ByteArray) : Option (TTrust × Int × Int × Unit) :=
 bif (decide ((6000 : Int) < ((ByteArray.size a0 : Nat) : Int))) then
 some ((TTrust.mk (0 : Int) ([] : List Int) ([] : List TTrust)), (0 : Int), (3 : Int), ())
 else
 Option.bind (F_notation_reader_next (TNotationReader.mk a0 (ByteArray.mk #[]) (0 : Int))) fun p1 =>
 Option.bind (F_notation_reader_number p1.2) fun p2 =>
 letJ (fun (v3 : Bool × TNotationReader × TTrust × Unit) =>
 Option.bind (bif (!v3.1) then some true
 else
 some (decide (v3.2.1.at_ < ((ByteArray.size a0 : Nat) : Int)))) fun b5 =>
 bif b5 then
 some ((TTrust.mk (0 : Int) ([] : List Int) ([] : List TTrust)), v3.2.1.at_, (2 : Int), ())
 else
 Option.bind (F_threshold_Valid (eTTrust v3.2.2.1)) fun r6 =>
 bif (!decide (r6 = (0 : Int))) then
 some ((TTrust.mk (0 : Int) ([] : List Int) ([] : List TTrust)), (0 : Int), r6, ())
 else
 some ((eTTrust v3.2.2.1), (0 : Int), (0 : Int), ())) fun j4 =>
 bif p2.1.2.1 then
 Option.bind (F_notation_reader_rest p2.2 p2.1.1) fun p7 =>
 j4 (p7.1.2.1, p7.2, (eTTrust p7.1.1), ())
 else
 j4 (p2.1.2.1, p2.2, (TTrust.mk (0 : Int) ([] : List Int) ([] : List TTrust)), ())
noncomputable def k_notation_Parse : KS U Tryz.prog := ⟨.fn 58 [.ty Ty.str] (.many [(Ty.st .Trust), (Ty.i .i64), (Ty.i .i64)]) fun a => F_notation_Parse a.1, fnS (K := K) sa_notation_Parse 54 [.cell 2 (some 3), .tmp 3, .tmp 4] [k_notation_reader_next, k_notation_reader_number, k_notation_reader_rest, k_threshold_Valid] (fk Tryz.f58 [] Tryz.func58)⟩

/-! ### trustquorum/laboratory.read -/
noncomputable def sa_laboratory_read : SA U := annA (scOf Tryz.prog 128 [] Tryz.f28) (.r (.r (.r (.ps (.frzB 4 0) (.j ⟨[.box 5 1 (Ty.st .LaboratoryReader) [], .box 7 1 (Ty.st .Step) []], [2, 4, 5]⟩ (.b (.r (.l (.r (.b (.r (.g [(1, .two)])) (.r (.b (.r (.g [(1, .two)])) (.r (.r (.r (.r (.r (.r (.r (.l (.r (.l (.ps (.ownB 5 33 3 1 (Ty.i .i64)) (.j ⟨[.box 5 1 (Ty.st .LaboratoryReader) [], .box 7 1 (Ty.st .Step) [(33, 24, 1)], .rowb 24 1 3 1 (Ty.i .i64)], [2, 4, 5]⟩ (.l (.l (.r (.r (.ps (.frzB 5 33) .e))))))))))))))))))))))) (.j ⟨[.val 3 Ty.bool, .box 0 1 (Ty.st .Step) []], [2]⟩ .e)))))))
noncomputable def F_laboratory_read (a0 : ByteArray) : Option (TStep × Bool × Unit) :=
 Option.bind (F_strings_Split a0 (ByteArray.mk #[32])) fun r1 =>
 letJ (fun (v2 : TLaboratoryReader × TStep × Unit) =>
 letJ (fun (v4 : Bool × TStep × Unit) =>
 some ({ v4.2.1 with Trust := (eTTrust v4.2.1.Trust), Letter := { v4.2.1.Letter with Nomination := { v4.2.1.Letter.Nomination with Trust := (eTTrust v4.2.1.Letter.Nomination.Trust) }, Envelope := { v4.2.1.Letter.Envelope with Trust := (eTTrust v4.2.1.Letter.Envelope.Trust) } } }, v4.1, ())) fun j5 =>
 bif (!v2.1.bad) then
 j5 ((decide (((List.length v2.1.l : Nat) : Int) = (0 : Int))), { v2.2.1 with Trust := (eTTrust v2.2.1.Trust), Letter := { v2.2.1.Letter with Nomination := { v2.2.1.Letter.Nomination with Trust := (eTTrust v2.2.1.Letter.Nomination.Trust) }, Envelope := { v2.2.1.Letter.Envelope with Trust := (eTTrust v2.2.1.Letter.Envelope.Trust) } } }, ())
 else
 j5 (false, { v2.2.1 with Trust := (eTTrust v2.2.1.Trust), Letter := { v2.2.1.Letter with Nomination := { v2.2.1.Letter.Nomination with Trust := (eTTrust v2.2.1.Letter.Nomination.Trust) }, Envelope := { v2.2.1.Letter.Envelope with Trust := (eTTrust v2.2.1.Letter.Envelope.Trust) } } }, ())) fun j3 =>
 Option.bind (F_laboratory_reader_word (TLaboratoryReader.mk r1 false)) fun p6 =>
 bif (decide (p6.1 = (ByteArray.mk #[112, 114, 111, 112, 111, 115, 101]))) then
 Option.bind (F_laboratory_reader_valued p6.2 (TStep.mk (1 : Int) (0 : Int) (0 : Int) (0 : Int) (0 : Int) (ByteArray.mk #[]) (TTrust.mk (0 : Int) ([] : List Int) ([] : List TTrust)) (TLetter.mk (0 : Int) (0 : Int) (TNomination.mk (0 : Int) (0 : Int) (TTrust.mk (0 : Int) ([] : List Int) ([] : List TTrust)) ([] : List ByteArray) ([] : List ByteArray)) (TEnvelope.mk (0 : Int) (0 : Int) (0 : Int) (TTrust.mk (0 : Int) ([] : List Int) ([] : List TTrust)) (0 : Int) (TBallot.mk (0 : Int) (ByteArray.mk #[])) (TBallot.mk (0 : Int) (ByteArray.mk #[])) (TBallot.mk (0 : Int) (ByteArray.mk #[])) (0 : Int) (0 : Int))) ([] : List Int))) fun p7 =>
 j3 (p7.1, { p7.2 with Trust := (eTTrust p7.2.Trust), Letter := { p7.2.Letter with Nomination := { p7.2.Letter.Nomination with Trust := (eTTrust p7.2.Letter.Nomination.Trust) }, Envelope := { p7.2.Letter.Envelope with Trust := (eTTrust p7.2.Letter.Envelope.Trust) } } }, ())
 else
 bif (decide (p6.1 = (ByteArray.mk #[112, 114, 101, 102, 101, 114]))) then
 Option.bind (F_laboratory_reader_valued p6.2 (TStep.mk (8 : Int) (0 : Int) (0 : Int) (0 : Int) (0 : Int) (ByteArray.mk #[]) (TTrust.mk (0 : Int) ([] : List Int) ([] : List TTrust)) (TLetter.mk (0 : Int) (0 : Int) (TNomination.mk (0 : Int) (0 : Int) (TTrust.mk (0 : Int) ([] : List Int) ([] : List TTrust)) ([] : List ByteArray) ([] : List ByteArray)) (TEnvelope.mk (0 : Int) (0 : Int) (0 : Int) (TTrust.mk (0 : Int) ([] : List Int) ([] : List TTrust)) (0 : Int) (TBallot.mk (0 : Int) (ByteArray.mk #[])) (TBallot.mk (0 : Int) (ByteArray.mk #[])) (TBallot.mk (0 : Int) (ByteArray.mk #[])) (0 : Int) (0 : Int))) ([] : List Int))) fun p8 =>
 j3 (p8.1, { p8.2 with Trust := (eTTrust p8.2.Trust), Letter := { p8.2.Letter with Nomination := { p8.2.Letter.Nomination with Trust := (eTTrust p8.2.Letter.Nomination.Trust) }, Envelope := { p8.2.Letter.Envelope with Trust := (eTTrust p8.2.Letter.Envelope.Trust) } } }, ())
 else
 bif (decide (p6.1 = (ByteArray.mk #[116, 105, 99, 107]))) then
 Option.bind (F_laboratory_reader_number p6.2) fun p9 =>
 j3 (p9.2, (TStep.mk (2 : Int) (0 : Int) (0 : Int) (0 : Int) p9.1 (ByteArray.mk #[]) (TTrust.mk (0 : Int) ([] : List Int) ([] : List TTrust)) (TLetter.mk (0 : Int) (0 : Int) (TNomination.mk (0 : Int) (0 : Int) (TTrust.mk (0 : Int) ([] : List Int) ([] : List TTrust)) ([] : List ByteArray) ([] : List ByteArray)) (TEnvelope.mk (0 : Int) (0 : Int) (0 : Int) (TTrust.mk (0 : Int) ([] : List Int) ([] : List TTrust)) (0 : Int) (TBallot.mk (0 : Int) (ByteArray.mk #[])) (TBallot.mk (0 : Int) (ByteArray.mk #[])) (TBallot.mk (0 : Int) (ByteArray.mk #[])) (0 : Int) (0 : Int))) ([] : List Int)), ())
 else
 bif (decide (p6.1 = (ByteArray.mk #[115, 116, 111, 112]))) then
 Option.bind (F_laboratory_reader_number p6.2) fun p10 =>
 j3 (p10.2, (TStep.mk (4 : Int) p10.1 (0 : Int) (0 : Int) (0 : Int) (ByteArray.mk #[]) (TTrust.mk (0 : Int) ([] : List Int) ([] : List TTrust)) (TLetter.mk (0 : Int) (0 : Int) (TNomination.mk (0 : Int) (0 : Int) (TTrust.mk (0 : Int) ([] : List Int) ([] : List TTrust)) ([] : List ByteArray) ([] : List ByteArray)) (TEnvelope.mk (0 : Int) (0 : Int) (0 : Int) (TTrust.mk (0 : Int) ([] : List Int) ([] : List TTrust)) (0 : Int) (TBallot.mk (0 : Int) (ByteArray.mk #[])) (TBallot.mk (0 : Int) (ByteArray.mk #[])) (TBallot.mk (0 : Int) (ByteArray.mk #[])) (0 : Int) (0 : Int))) ([] : List Int)), ())
 else
 bif (decide (p6.1 = (ByteArray.mk #[100, 101, 108, 97, 121]))) then
 Option.bind (F_laboratory_reader_number p6.2) fun p11 =>
 Option.bind (F_laboratory_reader_number p11.2) fun p12 =>
 Option.bind (F_laboratory_reader_number p12.2) fun p13 =>
 j3 (p13.2, (TStep.mk (7 : Int) p11.1 p12.1 (0 : Int) p13.1 (ByteArray.mk #[]) (TTrust.mk (0 : Int) ([] : List Int) ([] : List TTrust)) (TLetter.mk (0 : Int) (0 : Int) (TNomination.mk (0 : Int) (0 : Int) (TTrust.mk (0 : Int) ([] : List Int) ([] : List TTrust)) ([] : List ByteArray) ([] : List ByteArray)) (TEnvelope.mk (0 : Int) (0 : Int) (0 : Int) (TTrust.mk (0 : Int) ([] : List Int) ([] : List TTrust)) (0 : Int) (TBallot.mk (0 : Int) (ByteArray.mk #[])) (TBallot.mk (0 : Int) (ByteArray.mk #[])) (TBallot.mk (0 : Int) (ByteArray.mk #[])) (0 : Int) (0 : Int))) ([] : List Int)), ())
 else
 bif (decide (p6.1 = (ByteArray.mk #[112, 97, 114, 116]))) then
 loopO (fun (v14 : TLaboratoryReader × TStep × (List Int) × Unit) =>
 bif (decide ((0 : Int) < ((List.length v14.1.l : Nat) : Int))) then
 Option.bind (F_laboratory_reader_number v14.1) fun p15 =>
 bif lenOk 8 (List.length v14.2.2.1 + List.length [p15.1]) then
 some (Sum.inl (p15.2, { v14.2.1 with Trust := (eTTrust v14.2.1.Trust), Letter := { v14.2.1.Letter with Nomination := { v14.2.1.Letter.Nomination with Trust := (eTTrust v14.2.1.Letter.Nomination.Trust) }, Envelope := { v14.2.1.Letter.Envelope with Trust := (eTTrust v14.2.1.Letter.Envelope.Trust) } }, Parts := ([] : List Int) }, (v14.2.2.1 ++ [p15.1]), ()))
 else none
 else
 Option.map Sum.inr (j3 (v14.1, { v14.2.1 with Trust := (eTTrust v14.2.1.Trust), Letter := { v14.2.1.Letter with Nomination := { v14.2.1.Letter.Nomination with Trust := (eTTrust v14.2.1.Letter.Nomination.Trust) }, Envelope := { v14.2.1.Letter.Envelope with Trust := (eTTrust v14.2.1.Letter.Envelope.Trust) } }, Parts := v14.2.2.1 }, ()))) (p6.2, (TStep.mk (6 : Int) (0 : Int) (0 : Int) (0 : Int) (0 : Int) (ByteArray.mk #[]) (TTrust.mk (0 : Int) ([] : List Int) ([] : List TTrust)) (TLetter.mk (0 : Int) (0 : Int) (TNomination.mk (0 : Int) (0 : Int) (TTrust.mk (0 : Int) ([] : List Int) ([] : List TTrust)) ([] : List ByteArray) ([] : List ByteArray)) (TEnvelope.mk (0 : Int) (0 : Int) (0 : Int) (TTrust.mk (0 : Int) ([] : List Int) ([] : List TTrust)) (0 : Int) (TBallot.mk (0 : Int) (ByteArray.mk #[])) (TBallot.mk (0 : Int) (ByteArray.mk #[])) (TBallot.mk (0 : Int) (ByteArray.mk #[])) (0 : Int) (0 : Int))) ([] : List Int)), ([] : List Int), ())
 else
 bif (decide (p6.1 = (ByteArray.mk #[100, 101, 99, 108, 97, 114, 101]))) then
 Option.bind (F_laboratory_reader_number p6.2) fun p16 =>
 Option.bind (F_strings_Join p16.2.l (ByteArray.mk #[32])) fun r17 =>
 Option.bind (F_notation_Parse r17) fun r18 =>
 Option.bind (bif p16.2.bad then some true
 else
 some (!decide (r18.2.2.1 = (0 : Int)))) fun b19 =>
 j3 ((TLaboratoryReader.mk ([] : List ByteArray) b19), (TStep.mk (3 : Int) p16.1 (0 : Int) (0 : Int) (0 : Int) (ByteArray.mk #[]) (eTTrust r18.1) (TLetter.mk (0 : Int) (0 : Int) (TNomination.mk (0 : Int) (0 : Int) (TTrust.mk (0 : Int) ([] : List Int) ([] : List TTrust)) ([] : List ByteArray) ([] : List ByteArray)) (TEnvelope.mk (0 : Int) (0 : Int) (0 : Int) (TTrust.mk (0 : Int) ([] : List Int) ([] : List TTrust)) (0 : Int) (TBallot.mk (0 : Int) (ByteArray.mk #[])) (TBallot.mk (0 : Int) (ByteArray.mk #[])) (TBallot.mk (0 : Int) (ByteArray.mk #[])) (0 : Int) (0 : Int))) ([] : List Int)), ())
 else
 bif (decide (p6.1 = (ByteArray.mk #[108, 105, 101]))) then
 Option.bind (F_laboratory_reader_number p6.2) fun p20 =>
 Option.bind (F_laboratory_reader_number p20.2) fun p21 =>
 Option.bind (F_laboratory_reader_number p21.2) fun p22 =>
 Option.bind (F_laboratory_reader_word p22.2) fun p23 =>
 Option.bind (F_laboratory_Lie p20.1 p21.1 p22.1 p23.1) fun r24 =>
 j3 (p23.2, { r24 with Trust := (eTTrust r24.Trust), Letter := { r24.Letter with Nomination := { r24.Letter.Nomination with Trust := (eTTrust r24.Letter.Nomination.Trust) }, Envelope := { r24.Letter.Envelope with Trust := (eTTrust r24.Letter.Envelope.Trust) } } }, ())
 else
 j3 (p6.2, (TStep.mk (0 : Int) (0 : Int) (0 : Int) (0 : Int) (0 : Int) (ByteArray.mk #[]) (TTrust.mk (0 : Int) ([] : List Int) ([] : List TTrust)) (TLetter.mk (0 : Int) (0 : Int) (TNomination.mk (0 : Int) (0 : Int) (TTrust.mk (0 : Int) ([] : List Int) ([] : List TTrust)) ([] : List ByteArray) ([] : List ByteArray)) (TEnvelope.mk (0 : Int) (0 : Int) (0 : Int) (TTrust.mk (0 : Int) ([] : List Int) ([] : List TTrust)) (0 : Int) (TBallot.mk (0 : Int) (ByteArray.mk #[])) (TBallot.mk (0 : Int) (ByteArray.mk #[])) (TBallot.mk (0 : Int) (ByteArray.mk #[])) (0 : Int) (0 : Int))) ([] : List Int)), ())
noncomputable def k_laboratory_read : KS U Tryz.prog := ⟨.fn 28 [.ty Ty.str] (.many [(Ty.st .Step), Ty.bool]) fun a => F_laboratory_read a.1, fnS (K := K) sa_laboratory_read 128 [.cell 2 (some 34), .tmp 3] [k_strings_Split, k_laboratory_reader_word, k_laboratory_reader_valued, k_laboratory_reader_number, k_strings_Join, k_notation_Parse, k_laboratory_Lie] (fk Tryz.f28 [] Tryz.func28)⟩

/-! ### trustquorum/laboratory.Parse -/
noncomputable def sa_laboratory_Parse : SA U := annA (scOf Tryz.prog 60 [] Tryz.f11) (.r (.r (.r (.l (.b (.g [(1, .pr)]) (.l (.ps (.own 5 51 34 (Ty.st .Step)) (.j ⟨[.val 24 (Ty.i .i64), .own 5 17 1 51 34 (Ty.st .Step)], [22, 23]⟩ .e))))))))
noncomputable def F_laboratory_Parse (a0 : ByteArray) : Option ((List TStep) × Int × Int × Unit) :=
 Option.bind (bif (decide ((20000 : Int) < ((ByteArray.size a0 : Nat) : Int))) then some true
 else
 Option.bind (F_strings_Count a0 (ByteArray.mk #[10])) fun r1 =>
 some (decide ((300 : Int) < r1))) fun b2 =>
 bif b2 then
 some (([] : List TStep), (0 : Int), (3 : Int), ())
 else
 Option.bind (F_lines a0) fun r3 =>
 loopO (fun (v4 : Int × (List TStep) × Unit) =>
 bif (decide (v4.1 < ((List.length r3 : Nat) : Int))) then
 Option.bind (idx r3 v4.1) fun x5 =>
 Option.bind (r3[(Int.toNat v4.1)]?) fun x6 =>
 Option.bind (F_strings_TrimSuffix x6 (ByteArray.mk #[10])) fun r7 =>
 Option.bind (F_laboratory_read r7) fun r8 =>
 Option.bind (F_laboratory_Step { r8.1 with Trust := (eTTrust r8.1.Trust), Letter := { r8.1.Letter with Nomination := { r8.1.Letter.Nomination with Trust := (eTTrust r8.1.Letter.Nomination.Trust) }, Envelope := { r8.1.Letter.Envelope with Trust := (eTTrust r8.1.Letter.Envelope.Trust) } } }) fun r9 =>
 Option.bind (bif (!r8.2.1) then some true
 else
 some (!r9.2.1)) fun b10 =>
 Option.bind (bif b10 then some true
 else
 Option.bind (scat r9.1 (ByteArray.mk #[10])) fun x11 =>
 some (!decide (x11 = x6))) fun b12 =>
 bif b12 then
 Option.map Sum.inr (some (([] : List TStep), (addI .i64 v4.1 (1 : Int)), (2 : Int), ()))
 else
 bif lenOk 448 (List.length v4.2.1 + List.length [{ r8.1 with Trust := (eTTrust r8.1.Trust), Letter := { r8.1.Letter with Nomination := { r8.1.Letter.Nomination with Trust := (eTTrust r8.1.Letter.Nomination.Trust) }, Envelope := { r8.1.Letter.Envelope with Trust := (eTTrust r8.1.Letter.Envelope.Trust) } } }]) then
 some (Sum.inl ((addI .i64 v4.1 (1 : Int)), (v4.2.1 ++ [{ r8.1 with Trust := (eTTrust r8.1.Trust), Letter := { r8.1.Letter with Nomination := { r8.1.Letter.Nomination with Trust := (eTTrust r8.1.Letter.Nomination.Trust) }, Envelope := { r8.1.Letter.Envelope with Trust := (eTTrust r8.1.Letter.Envelope.Trust) } } }]), ()))
 else none
 else
 Option.map Sum.inr (some (v4.2.1, (0 : Int), (0 : Int), ()))) ((0 : Int), ([] : List TStep), ())
noncomputable def k_laboratory_Parse : KS U Tryz.prog := ⟨.fn 11 [.ty Ty.str] (.many [(Ty.sl (Ty.st .Step)), (Ty.i .i64), (Ty.i .i64)]) fun a => F_laboratory_Parse a.1, fnS (K := K) sa_laboratory_Parse 60 [.tmp 2, .tmp 3, .tmp 4] [k_strings_Count, k_lines, k_strings_TrimSuffix, k_laboratory_read, k_laboratory_Step] (fk Tryz.f11 [] Tryz.func11)⟩

/-! ### trustquorum/trustquorumref43.Steps -/
noncomputable def sa_ref43_Steps : SA U := annA (scOf Tryz.prog 27 [] Tryz.f12) (.r (.r (.l (.r (.l (.j ⟨[.val 13 (Ty.i .i64)], [0, 1, 12]⟩ .e))))))
noncomputable def F_ref43_Steps (a0 : (List TStep)) (a1 : (List TStep)) : Option Bool :=
 bif (!decide (((List.length a0 : Nat) : Int) = ((List.length a1 : Nat) : Int))) then
 some false
 else
 loopO (fun (v1 : Int × Unit) =>
 bif (decide (v1.1 < ((List.length a0 : Nat) : Int))) then
 Option.bind (idx a0 v1.1) fun x2 =>
 Option.bind (idx a1 v1.1) fun x3 =>
 Option.bind (F_ref43_Equal { x2 with Trust := (eTTrust x2.Trust), Letter := { x2.Letter with Nomination := { x2.Letter.Nomination with Trust := (eTTrust x2.Letter.Nomination.Trust) }, Envelope := { x2.Letter.Envelope with Trust := (eTTrust x2.Letter.Envelope.Trust) } } } { x3 with Trust := (eTTrust x3.Trust), Letter := { x3.Letter with Nomination := { x3.Letter.Nomination with Trust := (eTTrust x3.Letter.Nomination.Trust) }, Envelope := { x3.Letter.Envelope with Trust := (eTTrust x3.Letter.Envelope.Trust) } } }) fun r4 =>
 bif (!r4) then
 Option.map Sum.inr (some false)
 else
 some (Sum.inl ((addI .i64 v1.1 (1 : Int)), ()))
 else
 Option.map Sum.inr (some true)) ((0 : Int), ())
noncomputable def k_ref43_Steps : KS U Tryz.prog := ⟨.fn 12 [.ty (Ty.sl (Ty.st .Step)), .ty (Ty.sl (Ty.st .Step))] (.one Ty.bool) fun a => F_ref43_Steps a.1 a.2.1, fnS (K := K) sa_ref43_Steps 27 [.tmp 4] [k_ref43_Equal] (fk Tryz.f12 [] Tryz.func12)⟩

/-! ### trustquorum/trustquorumlaw45.sane -/
noncomputable def sa_law45_sane : SA U := annA (scOf Tryz.prog 48 [] Tryz.f13) .e
noncomputable def F_law45_sane  : Option Bool :=
 Option.bind (F_laboratory_Parse (ByteArray.mk #[112, 114, 101, 102, 101, 114, 32, 48, 32, 49, 32, 97, 10])) fun r1 =>
 Option.bind (F_laboratory_Step (TStep.mk (8 : Int) (0 : Int) (0 : Int) (1 : Int) (0 : Int) (ByteArray.mk #[97]) (TTrust.mk (0 : Int) ([] : List Int) ([] : List TTrust)) (TLetter.mk (0 : Int) (0 : Int) (TNomination.mk (0 : Int) (0 : Int) (TTrust.mk (0 : Int) ([] : List Int) ([] : List TTrust)) ([] : List ByteArray) ([] : List ByteArray)) (TEnvelope.mk (0 : Int) (0 : Int) (0 : Int) (TTrust.mk (0 : Int) ([] : List Int) ([] : List TTrust)) (0 : Int) (TBallot.mk (0 : Int) (ByteArray.mk #[])) (TBallot.mk (0 : Int) (ByteArray.mk #[])) (TBallot.mk (0 : Int) (ByteArray.mk #[])) (0 : Int) (0 : Int))) ([] : List Int))) fun r2 =>
 Option.bind (bif (decide (r1.2.2.1 = (0 : Int))) then
 some (decide (r1.2.1 = (0 : Int)))
 else some false) fun b3 =>
 Option.bind (bif b3 then
 some (decide (((List.length r1.1 : Nat) : Int) = (1 : Int)))
 else some false) fun b4 =>
 Option.bind (bif b4 then
 Option.bind (idx r1.1 (0 : Int)) fun x5 =>
 some (decide (x5.Kind = (8 : Int)))
 else some false) fun b6 =>
 Option.bind (bif b6 then
 some r2.2.1
 else some false) fun b7 =>
 Option.bind (bif b7 then
 some (decide (r2.1 = (ByteArray.mk #[112, 114, 101, 102, 101, 114, 32, 48, 32, 49, 32, 97])))
 else some false) fun b8 =>
 Option.bind (bif b8 then
 Option.bind (F_laboratory_Word (ByteArray.mk #[97, 49])) fun r9 =>
 some r9
 else some false) fun b10 =>
 Option.bind (bif b10 then
 Option.bind (F_laboratory_Word (ByteArray.mk #[65])) fun r11 =>
 some (!r11)
 else some false) fun b12 =>
 some b12
noncomputable def k_law45_sane : KS U Tryz.prog := ⟨.fn 13 [] (.one Ty.bool) fun a => F_law45_sane , fnS (K := K) sa_law45_sane 48 [.tmp 0] [k_laboratory_Parse, k_laboratory_Step, k_laboratory_Word] (fk Tryz.f13 [] Tryz.func13)⟩

/-! ### trustquorum/trustquorumlaw45.LaboratoryLines -/
noncomputable def sa_law45_LaboratoryLines : SA U := annA (scOf Tryz.prog 109 [] Tryz.f4) (.r (.r (.r (.r (.r (.l (.r (.l (.j ⟨[.val 8 Ty.str, .val 34 (Ty.i .i64)], [1, 7, 32, 33]⟩ (.l (.r (.r (.l (.l (.r (.r (.r (.l (.r (.l (.j ⟨[.val 13 (Ty.i .i64)], [1, 7, 8, 11, 32, 33, 34]⟩ .e)))))))))))))))))))))
noncomputable def F_law45_LaboratoryLines (a0 : (List Int)) (a1 : Int) : Option Bool :=
 Option.bind (F_play_New a0) fun r1 =>
 Option.bind (F_play_Src_Range r1 (1 : Int) (4 : Int)) fun p2 =>
 Option.bind (F_play_Src_Ill p2.2 p2.1) fun p3 =>
 Option.bind (F_law45_lines p3.2 p2.1 p3.1) fun p4 =>
 loopO (fun (v5 : ByteArray × Int × Unit) =>
 bif (decide (v5.2.1 < ((List.length p4.1 : Nat) : Int))) then
 Option.bind (idx p4.1 v5.2.1) fun x6 =>
 Option.bind (F_laboratory_Step { x6 with Trust := (eTTrust x6.Trust), Letter := { x6.Letter with Nomination := { x6.Letter.Nomination with Trust := (eTTrust x6.Letter.Nomination.Trust) }, Envelope := { x6.Letter.Envelope with Trust := (eTTrust x6.Letter.Envelope.Trust) } } }) fun r7 =>
 bif (!r7.2.1) then
 Option.map Sum.inr (some false)
 else
 loopO (fun (v8 : Int × Unit) =>
 bif (decide (v8.1 < ((ByteArray.size r7.1 : Nat) : Int))) then
 Option.bind (sidx r7.1 v8.1) fun x9 =>
 bif (decide (x9 = (10 : Int))) then
 Option.map Sum.inr (Option.map Sum.inr (some false))
 else
 some (Sum.inl ((addI .i64 v8.1 (1 : Int)), ()))
 else
 Option.map Sum.inr (Option.bind (scat r7.1 (ByteArray.mk #[10])) fun x10 =>
 Option.bind (scat v5.1 x10) fun x11 =>
 some (Sum.inl (x11, (addI .i64 v5.2.1 (1 : Int)), ())))) ((0 : Int), ())
 else
 Option.map Sum.inr (Option.bind (F_laboratory_Format p4.1) fun r12 =>
 Option.bind (bif (!decide (r12.2.1 = (0 : Int))) then some true
 else
 some (!decide (r12.1 = v5.1))) fun b13 =>
 bif b13 then
 some false
 else
 if (addI .i64 ((List.length p4.1 : Nat) : Int) (1 : Int)) = 0 then none else
 bif slcOk (0 : Int) (remI .i64 (convI .i64 a1) (addI .i64 ((List.length p4.1 : Nat) : Int) (1 : Int))) (List.length p4.1) then
 Option.bind (F_laboratory_Format ((p4.1.take (Int.toNat (remI .i64 (convI .i64 a1) (addI .i64 ((List.length p4.1 : Nat) : Int) (1 : Int))))).drop (Int.toNat (0 : Int)))) fun r14 =>
 Option.bind (scat r14.1 (ByteArray.mk #[110, 111, 116, 104, 105, 110, 103, 32, 49, 10])) fun x15 =>
 Option.bind (scat x15 v5.1) fun x16 =>
 Option.bind (F_laboratory_Parse x16) fun r17 =>
 Option.bind (bif (decide (r14.2.1 = (0 : Int))) then
 some (decide (r17.2.1 = (addI .i64 (remI .i64 (convI .i64 a1) (addI .i64 ((List.length p4.1 : Nat) : Int) (1 : Int))) (1 : Int))))
 else some false) fun b18 =>
 Option.bind (bif b18 then
 some (decide (r17.2.2.1 = (2 : Int)))
 else some false) fun b19 =>
 Option.bind (bif b19 then
 Option.bind (F_law45_sane) fun r20 =>
 some r20
 else some false) fun b21 =>
 some b21
 else none)) ((ByteArray.mk #[]), (0 : Int), ())
noncomputable def k_law45_LaboratoryLines : KS U Tryz.prog := ⟨.fn 4 [.ty (Ty.sl (Ty.i .i64)), .ty (Ty.i .u8)] (.one Ty.bool) fun a => F_law45_LaboratoryLines a.1 a.2.1, fnS (K := K) sa_law45_LaboratoryLines 109 [.tmp 4] [k_play_New, k_play_Src_Range, k_play_Src_Ill, k_law45_lines, k_laboratory_Step, k_laboratory_Format, k_laboratory_Parse, k_law45_sane] (fk Tryz.f4 [] Tryz.func4)⟩

end Go.Proofs.YtnhgcpiljggmmaaGreatDoor
