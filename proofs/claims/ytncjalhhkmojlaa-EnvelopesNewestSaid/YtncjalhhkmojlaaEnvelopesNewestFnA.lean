/-
  Functions of the program as plain functions, each held against the program by the kernel. Printed by a program.
-/
import Derived.Test.YtncjalhhkmojlaaUni
import Derived.Test.YtncjalhhkmojlaaIns72
import Derived.Test.YtncjalhhkmojlaaInsU
import Derived.Test.YtncjalhhkmojlaaProg
import Derived.KernelRfl
set_option linter.unusedVariables false
namespace Go.Proofs.Ytncjalhhkmojlaa
open Go.TQ

/-! ### trustquorum/trustquorumplay.New -/
noncomputable def sa_play_New : SA U := annA (scOf Try.prog 10 [] Try.f11) .e
noncomputable def F_play_New (a0 : (List Int)) : Option TSrc :=
 bif slcOk (0 : Int) (minI ((List.length a0 : Nat) : Int) (800 : Int)) (List.length a0) then
 some (TSrc.mk ((a0.take (Int.toNat (minI ((List.length a0 : Nat) : Int) (800 : Int)))).drop (Int.toNat (0 : Int))) (0 : Int))
 else none
noncomputable def k_play_New : KS U Try.prog := ⟨.nw 11 [.ty (Ty.sl (Ty.i .i64))] (Ty.st .Src) fun a => F_play_New a.1, nwS (K := K) sa_play_New 10 2 [] (fk Try.f11 [] Try.func11)⟩

/-! ### (*trustquorum/trustquorumplay.Src).N -/
noncomputable def sa_play_Src_N : SA U := annA (scOf Try.prog 43 [] Try.f13) (.r (.l (.j ⟨[.val 18 Ty.bool], [0, 1]⟩ .e)))
noncomputable def F_play_Src_N (s : TSrc) (a0 : Int) : Option (Int × TSrc) :=
 letJ (fun (v1 : Bool × Unit) =>
 bif v1.1 then
 some ((0 : Int), s)
 else
 Option.bind (idx s.L (subI .i64 (addI .i64 s.At (1 : Int)) (1 : Int))) fun x3 =>
 if a0 = 0 then none else
 if a0 = 0 then none else
 some ((remI .i64 (addI .i64 (remI .i64 x3 a0) a0) a0), (TSrc.mk s.L (addI .i64 s.At (1 : Int))))) fun j2 =>
 bif (decide (((List.length s.L : Nat) : Int) ≤ s.At)) then
 j2 (true, ())
 else
 j2 ((decide (a0 < (1 : Int))), ())
noncomputable def k_play_Src_N : KS U Try.prog := ⟨.rc 13 0 (Ty.st .Src) [.ty (Ty.i .i64)] (.one (Ty.i .i64)) fun s a => F_play_Src_N s a.1, rcS (K := K) sa_play_Src_N 43 [.tmp 4] [] (fk Try.f13 [] Try.func13)⟩

/-! ### (*trustquorum/trustquorumplay.Src).Range -/
noncomputable def sa_play_Src_Range : SA U := annA (scOf Try.prog 15 [] Try.f26) .e
noncomputable def F_play_Src_Range (s : TSrc) (a0 : Int) (a1 : Int) : Option (Int × TSrc) :=
 Option.bind (F_play_Src_N s (addI .i64 (subI .i64 a1 a0) (1 : Int))) fun p1 =>
 some ((addI .i64 a0 p1.1), p1.2)
noncomputable def k_play_Src_Range : KS U Try.prog := ⟨.rc 26 0 (Ty.st .Src) [.ty (Ty.i .i64), .ty (Ty.i .i64)] (.one (Ty.i .i64)) fun s a => F_play_Src_Range s a.1 a.2.1, rcS (K := K) sa_play_Src_Range 15 [.tmp 6] [k_play_Src_N] (fk Try.f26 [] Try.func26)⟩

/-! ### (*trustquorum/trustquorumplay.Src).Trust -/
noncomputable def sa_play_Src_Trust : SA U := annA (scOf Try.prog 63 [] Try.f31) (.r (.r (.b (.r (.l (.ps (.ownB 5 1 3 1 (Ty.i .i64)) (.ps (.ownB 5 2 27 3 (Ty.st .Trust)) (.j ⟨[.val 6 (Ty.i .i64), .box 0 0 (Ty.st .Src) [], .box 2 1 (Ty.st .Trust) [(1, 4, 1), (2, 5, 1)], .rowb 4 1 3 1 (Ty.i .i64), .rowb 5 1 27 3 (Ty.st .Trust)], [0, 1, 4, 5]⟩ (.l (.r (.j ⟨[.box 0 0 (Ty.st .Src) [], .box 2 1 (Ty.st .Trust) [(1, 4, 1), (2, 5, 1)], .rowb 4 1 3 1 (Ty.i .i64), .rowb 5 1 27 3 (Ty.st .Trust)], [0, 1, 4, 5, 6]⟩ .e)))))))) (.ps (.frzB 5 1) (.j ⟨[.box 0 0 (Ty.st .Src) [], .box 2 1 (Ty.st .Trust) [(2, 5, 1)], .rowb 5 1 27 3 (Ty.st .Trust)], [0, 1, 4, 5]⟩ (.r (.j ⟨[.box 0 0 (Ty.st .Src) [], .box 2 1 (Ty.st .Trust) [(2, 5, 1)], .rowb 5 1 27 3 (Ty.st .Trust)], [0, 4, 5]⟩ (.r (.r (.r (.j ⟨[.box 0 0 (Ty.st .Src) [], .box 2 1 (Ty.st .Trust) [(2, 5, 1)], .rowb 5 1 27 3 (Ty.st .Trust)], [4, 5]⟩ .e)))))))))))
noncomputable def F_play_Src_Trust (s : TSrc) (a0 : Int) : Option (TTrust × TSrc) :=
 loopO (fun (v1 : Int × TSrc × TTrust × (List Int) × (List TTrust) × Unit) =>
 bif (decide (v1.1 < a0)) then
 letJ (fun (v2 : TSrc × TTrust × (List Int) × (List TTrust) × Unit) =>
 some (Sum.inl ((addI .i64 v1.1 (1 : Int)), v2.1, (TTrust.mk v2.2.1.Threshold ([] : List Int) ([] : List TTrust)), v2.2.2.1, v2.2.2.2.1, ()))) fun j3 =>
 Option.bind (F_play_Src_N v1.2.1 (5 : Int)) fun p4 =>
 bif (decide ((0 : Int) < p4.1)) then
 bif lenOk 8 (List.length v1.2.2.2.1 + List.length [v1.1]) then
 j3 (p4.2, (TTrust.mk v1.2.2.1.Threshold ([] : List Int) ([] : List TTrust)), (v1.2.2.2.1 ++ [v1.1]), v1.2.2.2.2.1, ())
 else none
 else
 j3 (p4.2, (TTrust.mk v1.2.2.1.Threshold ([] : List Int) ([] : List TTrust)), v1.2.2.2.1, v1.2.2.2.2.1, ())
 else
 Option.map Sum.inr (letJ (fun (v5 : TSrc × TTrust × (List TTrust) × Unit) =>
 letJ (fun (v7 : TSrc × TTrust × (List TTrust) × Unit) =>
 Option.bind (F_play_Src_Range v7.1 (quoI .i64 (addI .i64 (addI .i64 ((List.length v7.2.1.Nodes : Nat) : Int) ((List.length v7.2.2.1 : Nat) : Int)) (1 : Int)) (2 : Int)) (addI .i64 ((List.length v7.2.1.Nodes : Nat) : Int) ((List.length v7.2.2.1 : Nat) : Int))) fun p9 =>
 letJ (fun (v10 : TSrc × TTrust × (List TTrust) × Unit) =>
 some ((TTrust.mk v10.2.1.Threshold v10.2.1.Nodes v10.2.2.1), v10.1)) fun j11 =>
 Option.bind (F_play_Src_N p9.2 (6 : Int)) fun p12 =>
 bif (decide (p12.1 = (5 : Int))) then
 j11 (p12.2, (TTrust.mk (1 : Int) v7.2.1.Nodes ([] : List TTrust)), v7.2.2.1, ())
 else
 j11 (p12.2, (TTrust.mk p9.1 v7.2.1.Nodes ([] : List TTrust)), v7.2.2.1, ())) fun j8 =>
 Option.bind (F_play_Src_N v5.1 (4 : Int)) fun p13 =>
 bif (decide (p13.1 = (3 : Int))) then
 Option.bind (F_play_Src_N p13.2 a0) fun p14 =>
 bif lenOk 56 (List.length v5.2.2.1 + List.length [(TTrust.mk (1 : Int) [p14.1] ([] : List TTrust))]) then
 j8 (p14.2, (TTrust.mk v5.2.1.Threshold v5.2.1.Nodes ([] : List TTrust)), (v5.2.2.1 ++ [(TTrust.mk (1 : Int) [p14.1] ([] : List TTrust))]), ())
 else none
 else
 j8 (p13.2, (TTrust.mk v5.2.1.Threshold v5.2.1.Nodes ([] : List TTrust)), v5.2.2.1, ())) fun j6 =>
 bif (decide (((List.length v1.2.2.2.1 : Nat) : Int) = (0 : Int))) then
 Option.bind (F_play_Src_N v1.2.1 a0) fun p15 =>
 j6 (p15.2, (TTrust.mk v1.2.2.1.Threshold [p15.1] ([] : List TTrust)), v1.2.2.2.2.1, ())
 else
 j6 (v1.2.1, (TTrust.mk v1.2.2.1.Threshold v1.2.2.2.1 ([] : List TTrust)), v1.2.2.2.2.1, ()))) ((0 : Int), s, (TTrust.mk (0 : Int) ([] : List Int) ([] : List TTrust)), ([] : List Int), ([] : List TTrust), ())
noncomputable def k_play_Src_Trust : KS U Try.prog := ⟨.rc 31 0 (Ty.st .Src) [.ty (Ty.i .i64)] (.one (Ty.st .Trust)) fun s a => F_play_Src_Trust s a.1, rcS (K := K) sa_play_Src_Trust 63 [.cell 4 (some 3)] [k_play_Src_N, k_play_Src_Range] (fk Try.f31 [] Try.func31)⟩

/-! ### (*trustquorum/trustquorumplay.Src).Text -/
noncomputable def sa_play_Src_Text : SA U := annA (scOf Try.prog 12 [] Try.f46) .e
noncomputable def F_play_Src_Text (s : TSrc) (a0 : (List ByteArray)) : Option (ByteArray × TSrc) :=
 Option.bind (F_play_Src_N s ((List.length a0 : Nat) : Int)) fun p1 =>
 Option.bind (idx a0 p1.1) fun x2 =>
 some (x2, p1.2)
noncomputable def k_play_Src_Text : KS U Try.prog := ⟨.rc 46 0 (Ty.st .Src) [.ty (Ty.sl Ty.str)] (.one Ty.str) fun s a => F_play_Src_Text s a.1, rcS (K := K) sa_play_Src_Text 12 [.tmp 4] [k_play_Src_N] (fk Try.f46 [] Try.func46)⟩

/-! ### (*trustquorum/trustquorumplay.Src).Value -/
noncomputable def sa_play_Src_Value : SA U := annA (scOf Try.prog 6 [] Try.f14) .e
noncomputable def F_play_Src_Value (s : TSrc)  : Option (ByteArray × TSrc) :=
 Option.bind (F_play_Src_Text s [(ByteArray.mk #[97]), (ByteArray.mk #[98]), (ByteArray.mk #[99]), (ByteArray.mk #[97, 97])]) fun p1 =>
 some (p1.1, p1.2)
noncomputable def k_play_Src_Value : KS U Try.prog := ⟨.rc 14 0 (Ty.st .Src) [] (.one Ty.str) fun s a => F_play_Src_Value s , rcS (K := K) sa_play_Src_Value 6 [.tmp 2] [k_play_Src_Text] (fk Try.f14 [] Try.func14)⟩

/-! ### (*trustquorum/trustquorumplay.Src).Low -/
noncomputable def sa_play_Src_Low : SA U := annA (scOf Try.prog 8 [] Try.f18) .e
noncomputable def F_play_Src_Low (s : TSrc)  : Option (TBallot × TSrc) :=
 Option.bind (F_play_Src_Range s (1 : Int) (6 : Int)) fun p1 =>
 Option.bind (F_play_Src_Value p1.2) fun p2 =>
 some ((TBallot.mk p1.1 p2.1), p2.2)
noncomputable def k_play_Src_Low : KS U Try.prog := ⟨.rc 18 0 (Ty.st .Src) [] (.one (Ty.st .Ballot)) fun s a => F_play_Src_Low s , rcS (K := K) sa_play_Src_Low 8 [.cell 2 (some 2)] [k_play_Src_Range, k_play_Src_Value] (fk Try.f18 [] Try.func18)⟩

/-! ### trustquorum/trustquorumref02.Depth -/
noncomputable def sa_ref02_Depth : SA U := annA (scOf Try.prog 20 [] Try.f115) (.r (.r (.l (.r (.l (.j ⟨[.val 3 (Ty.i .i64), .val 9 (Ty.i .i64)], [7, 8]⟩ .e))))))
noncomputable def B_ref02_Depth (rec : (TTrust × Unit) → Option Int) (a0 : TTrust) : Option Int :=
 loopO (fun (v1 : Int × Int × Unit) =>
 bif (decide (v1.2.1 < ((List.length a0.Inner : Nat) : Int))) then
 Option.bind (idx a0.Inner v1.2.1) fun x2 =>
 Option.bind (rec ((TTrust.mk x2.Threshold x2.Nodes x2.Inner), ())) fun r3 =>
 some (Sum.inl ((maxI v1.1 r3), (addI .i64 v1.2.1 (1 : Int)), ()))
 else
 Option.map Sum.inr (some (addI .i64 v1.1 (1 : Int)))) ((0 : Int), (0 : Int), ())
noncomputable def I_ref02_Depth : Nat → (TTrust × Unit) → Option Int := iterF (fun rec a => B_ref02_Depth rec a.1)
noncomputable def F_ref02_Depth (a0 : TTrust) : Option Int := I_ref02_Depth (SizeOf.sizeOf a0 + 1) (a0, ())
noncomputable def k_ref02_Depth : KS U Try.prog := ⟨.fn 115 [.ty (Ty.st .Trust)] (.one (Ty.i .i64)) fun a => F_ref02_Depth a.1, fnRS (K := K) («as» := [.ty (Ty.st .Trust)]) (r := .one (Ty.i .i64)) (B := fun rec a => B_ref02_Depth rec a.1) sa_ref02_Depth 20 [.tmp 2] [] (fk Try.f115 [] Try.func115) (hF := fun a => ⟨_, rfl⟩)⟩

/-! ### trustquorum/trustquorumref02.Size -/
noncomputable def sa_ref02_Size : SA U := annA (scOf Try.prog 26 [] Try.f116) (.r (.r (.l (.r (.l (.j ⟨[.val 3 (Ty.i .i64), .val 16 (Ty.i .i64)], [14, 15]⟩ .e))))))
noncomputable def B_ref02_Size (rec : (TTrust × Unit) → Option Int) (a0 : TTrust) : Option Int :=
 loopO (fun (v1 : Int × Int × Unit) =>
 bif (decide (v1.2.1 < ((List.length a0.Inner : Nat) : Int))) then
 Option.bind (idx a0.Inner v1.2.1) fun x2 =>
 Option.bind (rec ((TTrust.mk x2.Threshold x2.Nodes x2.Inner), ())) fun r3 =>
 some (Sum.inl ((addI .i64 v1.1 r3), (addI .i64 v1.2.1 (1 : Int)), ()))
 else
 Option.map Sum.inr (some v1.1)) ((addI .i64 ((List.length a0.Nodes : Nat) : Int) ((List.length a0.Inner : Nat) : Int)), (0 : Int), ())
noncomputable def I_ref02_Size : Nat → (TTrust × Unit) → Option Int := iterF (fun rec a => B_ref02_Size rec a.1)
noncomputable def F_ref02_Size (a0 : TTrust) : Option Int := I_ref02_Size (SizeOf.sizeOf a0 + 1) (a0, ())
noncomputable def k_ref02_Size : KS U Try.prog := ⟨.fn 116 [.ty (Ty.st .Trust)] (.one (Ty.i .i64)) fun a => F_ref02_Size a.1, fnRS (K := K) («as» := [.ty (Ty.st .Trust)]) (r := .one (Ty.i .i64)) (B := fun rec a => B_ref02_Size rec a.1) sa_ref02_Size 26 [.tmp 2] [] (fk Try.f116 [] Try.func116) (hF := fun a => ⟨_, rfl⟩)⟩

/-! ### trustquorum/trustquorumref01.Valid -/
noncomputable def sa_ref01_Valid : SA U := annA (scOf Try.prog 9 [] Try.f61) .e
noncomputable def F_ref01_Valid (a0 : Int) : Option Bool :=
 Option.bind (bif (decide ((0 : Int) ≤ a0)) then
 some (decide (a0 ≤ (1023 : Int)))
 else some false) fun b1 =>
 some b1
noncomputable def k_ref01_Valid : KS U Try.prog := ⟨.fn 61 [.ty (Ty.i .i64)] (.one Ty.bool) fun a => F_ref01_Valid a.1, fnS (K := K) sa_ref01_Valid 9 [.tmp 2] [] (fk Try.f61 [] Try.func61)⟩

/-! ### trustquorum/trustquorumref01.Has -/
noncomputable def sa_ref01_Has : SA U := annA (scOf Try.prog 22 [] Try.f62) .e
noncomputable def F_ref01_Has (a0 : Int) (a1 : Int) : Option Bool :=
 Option.bind (F_ref01_Valid a0) fun r1 =>
 Option.bind (bif r1 then
 some (decide ((0 : Int) ≤ a1))
 else some false) fun b2 =>
 Option.bind (bif b2 then
 some (decide (a1 < (10 : Int)))
 else some false) fun b3 =>
 Option.bind (bif b3 then
 if a1 < 0 then none else
 some (decide ((andI .i64 (shrI .i64 a0 a1) (1 : Int)) = (1 : Int)))
 else some false) fun b4 =>
 some b4
noncomputable def k_ref01_Has : KS U Try.prog := ⟨.fn 62 [.ty (Ty.i .i64), .ty (Ty.i .i64)] (.one Ty.bool) fun a => F_ref01_Has a.1 a.2.1, fnS (K := K) sa_ref01_Has 22 [.tmp 4] [k_ref01_Valid] (fk Try.f62 [] Try.func62)⟩

/-! ### trustquorum/trustquorumref01.Of -/
noncomputable def sa_ref01_Of : SA U := annA (scOf Try.prog 28 [] Try.f135) (.r (.r (.l (.r (.l (.j ⟨[.val 4 (Ty.i .i64), .val 9 (Ty.i .i64)], [7, 8]⟩ .e))))))
noncomputable def F_ref01_Of (a0 : (List Int)) : Option (Int × Int × Unit) :=
 loopO (fun (v1 : Int × Int × Unit) =>
 bif (decide (v1.2.1 < ((List.length a0 : Nat) : Int))) then
 Option.bind (idx a0 v1.2.1) fun x2 =>
 Option.bind (bif (decide (x2 < (0 : Int))) then some true
 else
 some (decide ((10 : Int) ≤ x2))) fun b3 =>
 bif b3 then
 Option.map Sum.inr (some ((0 : Int), (5 : Int), ()))
 else
 Option.bind (F_ref01_Has v1.1 x2) fun r4 =>
 bif r4 then
 Option.map Sum.inr (some ((0 : Int), (6 : Int), ()))
 else
 if x2 < 0 then none else
 some (Sum.inl ((orI .i64 v1.1 (shlI .i64 (1 : Int) x2)), (addI .i64 v1.2.1 (1 : Int)), ()))
 else
 Option.map Sum.inr (some (v1.1, (0 : Int), ()))) ((0 : Int), (0 : Int), ())
noncomputable def k_ref01_Of : KS U Try.prog := ⟨.fn 135 [.ty (Ty.sl (Ty.i .i64))] (.many [(Ty.i .i64), (Ty.i .i64)]) fun a => F_ref01_Of a.1, fnS (K := K) sa_ref01_Of 28 [.tmp 2, .tmp 3] [k_ref01_Has] (fk Try.f135 [] Try.func135)⟩

/-! ### trustquorum/trustquorumref02.check -/
noncomputable def sa_ref02_check : SA U := annA (scOf Try.prog 61 [] Try.f117) (.r (.r (.b (.r (.l (.j ⟨[.val 28 (Ty.i .i64)], [1, 26, 27]⟩ .e))) (.r (.l (.r (.l (.j ⟨[.val 51 (Ty.i .i64)], [49, 50]⟩ .e))))))))
noncomputable def B_ref02_check (rec : (TTrust × Unit) → Option Int) (a0 : TTrust) : Option Int :=
 Option.bind (bif (decide (a0.Threshold < (1 : Int))) then some true
 else
 some (decide ((addI .i64 ((List.length a0.Nodes : Nat) : Int) ((List.length a0.Inner : Nat) : Int)) < a0.Threshold))) fun b1 =>
 bif b1 then
 some (4 : Int)
 else
 loopO (fun (v2 : Int × Unit) =>
 bif (decide (v2.1 < ((List.length a0.Nodes : Nat) : Int))) then
 Option.bind (idx a0.Nodes v2.1) fun x3 =>
 Option.bind (bif (decide (x3 < (0 : Int))) then some true
 else
 some (decide ((10 : Int) ≤ x3))) fun b4 =>
 bif b4 then
 Option.map Sum.inr (some (5 : Int))
 else
 some (Sum.inl ((addI .i64 v2.1 (1 : Int)), ()))
 else
 Option.map Sum.inr (Option.bind (F_ref01_Of a0.Nodes) fun r5 =>
 bif (!decide (r5.2.1 = (0 : Int))) then
 some r5.2.1
 else
 loopO (fun (v6 : Int × Unit) =>
 bif (decide (v6.1 < ((List.length a0.Inner : Nat) : Int))) then
 Option.bind (idx a0.Inner v6.1) fun x7 =>
 Option.bind (rec ((TTrust.mk x7.Threshold x7.Nodes x7.Inner), ())) fun r8 =>
 bif (!decide (r8 = (0 : Int))) then
 Option.map Sum.inr (some r8)
 else
 some (Sum.inl ((addI .i64 v6.1 (1 : Int)), ()))
 else
 Option.map Sum.inr (some (0 : Int))) ((0 : Int), ()))) ((0 : Int), ())
noncomputable def I_ref02_check : Nat → (TTrust × Unit) → Option Int := iterF (fun rec a => B_ref02_check rec a.1)
noncomputable def F_ref02_check (a0 : TTrust) : Option Int := I_ref02_check (SizeOf.sizeOf a0 + 1) (a0, ())
noncomputable def k_ref02_check : KS U Try.prog := ⟨.fn 117 [.ty (Ty.st .Trust)] (.one (Ty.i .i64)) fun a => F_ref02_check a.1, fnRS (K := K) («as» := [.ty (Ty.st .Trust)]) (r := .one (Ty.i .i64)) (B := fun rec a => B_ref02_check rec a.1) sa_ref02_check 61 [.tmp 2] [k_ref01_Of] (fk Try.f117 [] Try.func117) (hF := fun a => ⟨_, rfl⟩)⟩

/-! ### trustquorum/trustquorumref02.Valid -/
noncomputable def sa_ref02_Valid : SA U := annA (scOf Try.prog 13 [] Try.f87) .e
noncomputable def F_ref02_Valid (a0 : TTrust) : Option Int :=
 Option.bind (F_ref02_Depth (TTrust.mk a0.Threshold a0.Nodes a0.Inner)) fun r1 =>
 Option.bind (bif (decide ((4 : Int) < r1)) then some true
 else
 Option.bind (F_ref02_Size (TTrust.mk a0.Threshold a0.Nodes a0.Inner)) fun r2 =>
 some (decide ((200 : Int) < r2))) fun b3 =>
 bif b3 then
 some (3 : Int)
 else
 Option.bind (F_ref02_check (TTrust.mk a0.Threshold a0.Nodes a0.Inner)) fun r4 =>
 some r4
noncomputable def k_ref02_Valid : KS U Try.prog := ⟨.fn 87 [.ty (Ty.st .Trust)] (.one (Ty.i .i64)) fun a => F_ref02_Valid a.1, fnS (K := K) sa_ref02_Valid 13 [.tmp 2] [k_ref02_Depth, k_ref02_Size, k_ref02_check] (fk Try.f87 [] Try.func87)⟩

/-! ### trustquorum/trustquorumref23.Valid -/
noncomputable def sa_ref23_Valid : SA U := annA (scOf Try.prog 28 [] Try.f88) .e
noncomputable def F_ref23_Valid (a0 : TBallot) : Option Bool :=
 Option.bind (bif (decide ((1 : Int) ≤ a0.Counter)) then
 some (decide (a0.Counter ≤ (1000 : Int)))
 else some false) fun b1 =>
 Option.bind (bif b1 then some true
 else
 some (decide (a0.Counter = (1000000 : Int)))) fun b2 =>
 Option.bind (bif b2 then
 some (decide ((1 : Int) ≤ ((ByteArray.size a0.Value : Nat) : Int)))
 else some false) fun b3 =>
 Option.bind (bif b3 then
 some (decide (((ByteArray.size a0.Value : Nat) : Int) ≤ (200 : Int)))
 else some false) fun b4 =>
 some b4
noncomputable def k_ref23_Valid : KS U Try.prog := ⟨.fn 88 [.ty (Ty.st .Ballot)] (.one Ty.bool) fun a => F_ref23_Valid a.1, fnS (K := K) sa_ref23_Valid 28 [.tmp 2] [] (fk Try.f88 [] Try.func88)⟩

/-! ### trustquorum/trustquorumref23.Zero -/
noncomputable def sa_ref23_Zero : SA U := annA (scOf Try.prog 6 [] Try.f20) .e
noncomputable def F_ref23_Zero (a0 : TBallot) : Option Bool :=
 some (eq2 false a0.Counter (0 : Int) a0.Value (ByteArray.mk #[]))
noncomputable def k_ref23_Zero : KS U Try.prog := ⟨.fn 20 [.ty (Ty.st .Ballot)] (.one Ty.bool) fun a => F_ref23_Zero a.1, fnS (K := K) sa_ref23_Zero 6 [.tmp 2] [] (fk Try.f20 [] Try.func20)⟩

/-! ### trustquorum/trustquorumref23.LessValue -/
noncomputable def sa_ref23_LessValue : SA U := annA (scOf Try.prog 18 [] Try.f51) .e
noncomputable def F_ref23_LessValue (a0 : ByteArray) (a1 : ByteArray) : Option Bool :=
 bif (!decide (((ByteArray.size a0 : Nat) : Int) = ((ByteArray.size a1 : Nat) : Int))) then
 some (decide (((ByteArray.size a0 : Nat) : Int) < ((ByteArray.size a1 : Nat) : Int)))
 else
 some (sless a0 a1)
noncomputable def k_ref23_LessValue : KS U Try.prog := ⟨.fn 51 [.ty Ty.str, .ty Ty.str] (.one Ty.bool) fun a => F_ref23_LessValue a.1 a.2.1, fnS (K := K) sa_ref23_LessValue 18 [.tmp 4] [] (fk Try.f51 [] Try.func51)⟩

/-! ### trustquorum/trustquorumref23.Less -/
noncomputable def sa_ref23_Less : SA U := annA (scOf Try.prog 20 [] Try.f21) .e
noncomputable def F_ref23_Less (a0 : TBallot) (a1 : TBallot) : Option Bool :=
 bif (!decide (a0.Counter = a1.Counter)) then
 some (decide (a0.Counter < a1.Counter))
 else
 Option.bind (F_ref23_LessValue a0.Value a1.Value) fun r1 =>
 some r1
noncomputable def k_ref23_Less : KS U Try.prog := ⟨.fn 21 [.ty (Ty.st .Ballot), .ty (Ty.st .Ballot)] (.one Ty.bool) fun a => F_ref23_Less a.1 a.2.1, fnS (K := K) sa_ref23_Less 20 [.tmp 4] [k_ref23_LessValue] (fk Try.f21 [] Try.func21)⟩

/-! ### trustquorum/trustquorumref23.Compatible -/
noncomputable def sa_ref23_Compatible : SA U := annA (scOf Try.prog 10 [] Try.f22) .e
noncomputable def F_ref23_Compatible (a0 : TBallot) (a1 : TBallot) : Option Bool :=
 some (decide (a0.Value = a1.Value))
noncomputable def k_ref23_Compatible : KS U Try.prog := ⟨.fn 22 [.ty (Ty.st .Ballot), .ty (Ty.st .Ballot)] (.one Ty.bool) fun a => F_ref23_Compatible a.1 a.2.1, fnS (K := K) sa_ref23_Compatible 10 [.tmp 4] [] (fk Try.f22 [] Try.func22)⟩

/-! ### trustquorum/trustquorumref23.Covers -/
noncomputable def sa_ref23_Covers : SA U := annA (scOf Try.prog 20 [] Try.f29) .e
noncomputable def F_ref23_Covers (a0 : TBallot) (a1 : TBallot) : Option Bool :=
 Option.bind (F_ref23_Zero a0) fun r1 =>
 Option.bind (bif (!r1) then
 Option.bind (F_ref23_Compatible a0 a1) fun r2 =>
 some r2
 else some false) fun b3 =>
 Option.bind (bif b3 then
 some (decide (a1.Counter ≤ a0.Counter))
 else some false) fun b4 =>
 some b4
noncomputable def k_ref23_Covers : KS U Try.prog := ⟨.fn 29 [.ty (Ty.st .Ballot), .ty (Ty.st .Ballot)] (.one Ty.bool) fun a => F_ref23_Covers a.1 a.2.1, fnS (K := K) sa_ref23_Covers 20 [.tmp 4] [k_ref23_Zero, k_ref23_Compatible] (fk Try.f29 [] Try.func29)⟩

/-! ### trustquorum/trustquorumref23.Prepares -/
noncomputable def sa_ref23_Prepares : SA U := annA (scOf Try.prog 25 [] Try.f23) .e
noncomputable def F_ref23_Prepares (a0 : TBallot) (a1 : TBallot) (a2 : TBallot) : Option Bool :=
 Option.bind (F_ref23_Covers a0 a2) fun r1 =>
 Option.bind (bif r1 then some true
 else
 Option.bind (F_ref23_Covers a1 a2) fun r2 =>
 some r2) fun b3 =>
 Option.bind (bif b3 then some true
 else
 Option.bind (F_ref23_Zero a1) fun r4 =>
 Option.bind (bif (!r4) then
 Option.bind (F_ref23_Less a2 a1) fun r5 =>
 some r5
 else some false) fun b6 =>
 some b6) fun b7 =>
 some b7
noncomputable def k_ref23_Prepares : KS U Try.prog := ⟨.fn 23 [.ty (Ty.st .Ballot), .ty (Ty.st .Ballot), .ty (Ty.st .Ballot)] (.one Ty.bool) fun a => F_ref23_Prepares a.1 a.2.1 a.2.2.1, fnS (K := K) sa_ref23_Prepares 25 [.tmp 6] [k_ref23_Covers, k_ref23_Zero, k_ref23_Less] (fk Try.f23 [] Try.func23)⟩

/-! ### trustquorum/trustquorumref23.Aborts -/
noncomputable def sa_ref23_Aborts : SA U := annA (scOf Try.prog 19 [] Try.f17) .e
noncomputable def F_ref23_Aborts (a0 : TBallot) (a1 : TBallot) : Option Bool :=
 Option.bind (F_ref23_Zero a0) fun r1 =>
 Option.bind (bif (!r1) then
 Option.bind (F_ref23_Compatible a0 a1) fun r2 =>
 some (!r2)
 else some false) fun b3 =>
 Option.bind (bif b3 then
 Option.bind (F_ref23_Less a1 a0) fun r4 =>
 some r4
 else some false) fun b5 =>
 some b5
noncomputable def k_ref23_Aborts : KS U Try.prog := ⟨.fn 17 [.ty (Ty.st .Ballot), .ty (Ty.st .Ballot)] (.one Ty.bool) fun a => F_ref23_Aborts a.1 a.2.1, fnS (K := K) sa_ref23_Aborts 19 [.tmp 4] [k_ref23_Zero, k_ref23_Compatible, k_ref23_Less] (fk Try.f17 [] Try.func17)⟩

/-! ### trustquorum/trustquorumref24.Valid -/
noncomputable def sa_ref24_Valid : SA U := annA (scOf Try.prog 227 [] Try.f45) .e
noncomputable def F_ref24_Valid (a0 : TEnvelope) : Option Bool :=
 Option.bind (bif (decide (a0.Node < (0 : Int))) then some true
 else
 some (decide ((9 : Int) < a0.Node))) fun b1 =>
 Option.bind (bif b1 then some true
 else
 some (decide (a0.Slot < (1 : Int)))) fun b2 =>
 Option.bind (bif b2 then some true
 else
 some (decide ((1000000 : Int) < a0.Slot))) fun b3 =>
 Option.bind (bif b3 then some true
 else
 some (decide (a0.Seq < (1 : Int)))) fun b4 =>
 Option.bind (bif b4 then some true
 else
 some (decide ((1000000 : Int) < a0.Seq))) fun b5 =>
 Option.bind (bif b5 then some true
 else
 Option.bind (F_ref02_Valid (TTrust.mk a0.Trust.Threshold a0.Trust.Nodes a0.Trust.Inner)) fun r6 =>
 some (!decide (r6 = (0 : Int)))) fun b7 =>
 Option.bind (bif b7 then some true
 else
 Option.bind (F_ref23_Valid a0.Ballot) fun r8 =>
 some (!r8)) fun b9 =>
 bif b9 then
 some false
 else
 Option.bind (F_ref23_Zero a0.Prepared) fun r10 =>
 bif (decide (a0.Kind = (1 : Int))) then
 Option.bind (bif (decide ((1000 : Int) < a0.Ballot.Counter)) then some true
 else
 Option.bind (bif (!r10) then
 Option.bind (F_ref23_Valid a0.Prepared) fun r11 =>
 some (!r11)
 else some false) fun b12 =>
 some b12) fun b13 =>
 bif b13 then
 some false
 else
 Option.bind (F_ref23_Zero a0.Prime) fun r14 =>
 Option.bind (bif (!r14) then
 Option.bind (bif r10 then some true
 else
 Option.bind (F_ref23_Valid a0.Prime) fun r15 =>
 some (!r15)) fun b16 =>
 Option.bind (bif b16 then some true
 else
 Option.bind (F_ref23_Less a0.Prime a0.Prepared) fun r17 =>
 some (!r17)) fun b18 =>
 Option.bind (bif b18 then some true
 else
 Option.bind (F_ref23_Compatible a0.Prime a0.Prepared) fun r19 =>
 some r19) fun b20 =>
 some b20
 else some false) fun b21 =>
 bif b21 then
 some false
 else
 Option.bind (bif (decide (a0.Low < (0 : Int))) then some true
 else
 some (decide (a0.High < a0.Low))) fun b22 =>
 Option.bind (bif b22 then some true
 else
 some (decide (a0.Ballot.Counter < a0.High))) fun b23 =>
 bif b23 then
 some false
 else
 Option.bind (bif (decide ((0 : Int) < a0.High)) then
 Option.bind (F_ref23_Prepares a0.Prepared a0.Prime (TBallot.mk a0.High a0.Ballot.Value)) fun r24 =>
 some (!r24)
 else some false) fun b25 =>
 bif b25 then
 some false
 else
 Option.bind (bif (decide (a0.Low = (0 : Int))) then some true
 else
 Option.bind (F_ref23_Aborts a0.Prepared (TBallot.mk a0.Low a0.Ballot.Value)) fun r26 =>
 Option.bind (bif (!r26) then
 Option.bind (F_ref23_Aborts a0.Prime (TBallot.mk a0.Low a0.Ballot.Value)) fun r27 =>
 some (!r27)
 else some false) fun b28 =>
 some b28) fun b29 =>
 some b29
 else
 bif (decide (a0.Kind = (2 : Int))) then
 Option.bind (bif (decide (a0.Ballot.Counter ≤ (1000 : Int))) then
 Option.bind (F_ref23_Valid a0.Prepared) fun r30 =>
 some r30
 else some false) fun b31 =>
 Option.bind (bif b31 then
 Option.bind (F_ref23_Compatible a0.Prepared a0.Ballot) fun r32 =>
 some r32
 else some false) fun b33 =>
 Option.bind (bif b33 then
 Option.bind (F_ref23_Zero a0.Prime) fun r34 =>
 some r34
 else some false) fun b35 =>
 Option.bind (bif b35 then
 some (decide ((1 : Int) ≤ a0.Low))
 else some false) fun b36 =>
 Option.bind (bif b36 then
 some (decide (a0.Low ≤ a0.High))
 else some false) fun b37 =>
 Option.bind (bif b37 then
 some (decide (a0.High ≤ a0.Prepared.Counter))
 else some false) fun b38 =>
 Option.bind (bif b38 then
 some (decide (a0.High ≤ (1000 : Int)))
 else some false) fun b39 =>
 some b39
 else
 bif (decide (a0.Kind = (3 : Int))) then
 Option.bind (bif r10 then
 Option.bind (F_ref23_Zero a0.Prime) fun r40 =>
 some r40
 else some false) fun b41 =>
 Option.bind (bif b41 then
 some (decide ((1 : Int) ≤ a0.Low))
 else some false) fun b42 =>
 Option.bind (bif b42 then
 some (decide (a0.Low ≤ a0.High))
 else some false) fun b43 =>
 Option.bind (bif b43 then
 some (decide (a0.High ≤ (1000 : Int)))
 else some false) fun b44 =>
 some b44
 else
 some false
noncomputable def k_ref24_Valid : KS U Try.prog := ⟨.fn 45 [.ty (Ty.st .Envelope)] (.one Ty.bool) fun a => F_ref24_Valid a.1, fnS (K := K) sa_ref24_Valid 227 [.tmp 2] [k_ref02_Valid, k_ref23_Valid, k_ref23_Zero, k_ref23_Less, k_ref23_Compatible, k_ref23_Prepares, k_ref23_Aborts] (fk Try.f45 [] Try.func45)⟩

/-! ### (*trustquorum/trustquorumplay.Src).Envelope -/
noncomputable def sa_play_Src_Envelope : SA U := annA (scOf Try.prog 113 [] Try.f12) (.r (.r (.r (.j ⟨[.box 0 0 (Ty.st .Src) [], .box 10 1 (Ty.st .Envelope) []], [8, 9]⟩ (.l (.r (.l (.j ⟨[.box 0 0 (Ty.st .Src) [], .box 10 1 (Ty.st .Envelope) []], [0, 8, 9, 10]⟩ (.r (.j ⟨[.box 0 0 (Ty.st .Src) [], .box 10 1 (Ty.st .Envelope) []], [8, 9]⟩ (.l (.r (.j ⟨[.box 0 0 (Ty.st .Src) [], .box 10 1 (Ty.st .Envelope) []], [0, 8, 9]⟩ (.r (.r (.r (.j ⟨[.box 10 1 (Ty.st .Envelope) []], [8, 9]⟩ (.r (.j ⟨[.box 10 1 (Ty.st .Envelope) []], [8, 9]⟩ .e)))))))))))))))))))
noncomputable def F_play_Src_Envelope (s : TSrc) (a0 : Int) (a1 : Int) (a2 : Int) : Option (TEnvelope × TSrc) :=
 Option.bind (F_play_Src_Range s (1 : Int) (9 : Int)) fun p1 =>
 Option.bind (F_play_Src_Trust p1.2 a2) fun p2 =>
 Option.bind (F_play_Src_Value p2.2) fun p3 =>
 letJ (fun (v4 : TSrc × TEnvelope × Unit) =>
 some ((TEnvelope.mk v4.2.1.Node v4.2.1.Slot v4.2.1.Seq (TTrust.mk v4.2.1.Trust.Threshold v4.2.1.Trust.Nodes v4.2.1.Trust.Inner) v4.2.1.Kind v4.2.1.Ballot v4.2.1.Prepared v4.2.1.Prime v4.2.1.Low v4.2.1.High), v4.1)) fun j5 =>
 Option.bind (F_play_Src_N p3.2 (4 : Int)) fun p6 =>
 letJ (fun (v7 : TSrc × TEnvelope × Unit) =>
 letJ (fun (v9 : TSrc × TEnvelope × Unit) =>
 j5 (v9.1, (TEnvelope.mk v9.2.1.Node v9.2.1.Slot v9.2.1.Seq (TTrust.mk v9.2.1.Trust.Threshold v9.2.1.Trust.Nodes v9.2.1.Trust.Inner) v9.2.1.Kind v9.2.1.Ballot v9.2.1.Prepared v9.2.1.Prime v9.2.1.Low v9.2.1.High), ())) fun j10 =>
 Option.bind (F_play_Src_Range v7.1 (1 : Int) (7 : Int)) fun p11 =>
 letJ (fun (v12 : TSrc × TEnvelope × Unit) =>
 Option.bind (F_play_Src_N v12.1 (addI .i64 v12.2.1.Ballot.Counter (1 : Int))) fun p14 =>
 Option.bind (F_play_Src_N p14.2 (addI .i64 p14.1 (1 : Int))) fun p15 =>
 letJ (fun (v16 : TEnvelope × Unit) =>
 letJ (fun (v18 : TEnvelope × Unit) =>
 Option.bind (F_ref24_Valid (TEnvelope.mk v18.1.Node v18.1.Slot v18.1.Seq (TTrust.mk v18.1.Trust.Threshold v18.1.Trust.Nodes v18.1.Trust.Inner) v18.1.Kind v18.1.Ballot v18.1.Prepared v18.1.Prime v18.1.Low v18.1.High)) fun r20 =>
 bif (!r20) then
 j10 (p15.2, (TEnvelope.mk v18.1.Node v18.1.Slot v18.1.Seq (TTrust.mk v18.1.Trust.Threshold v18.1.Trust.Nodes v18.1.Trust.Inner) v18.1.Kind v18.1.Ballot v18.1.Prepared (TBallot.mk (0 : Int) (ByteArray.mk #[])) v18.1.Low v18.1.High), ())
 else
 j10 (p15.2, (TEnvelope.mk v18.1.Node v18.1.Slot v18.1.Seq (TTrust.mk v18.1.Trust.Threshold v18.1.Trust.Nodes v18.1.Trust.Inner) v18.1.Kind v18.1.Ballot v18.1.Prepared v18.1.Prime v18.1.Low v18.1.High), ())) fun j19 =>
 Option.bind (F_ref24_Valid (TEnvelope.mk v16.1.Node v16.1.Slot v16.1.Seq (TTrust.mk v16.1.Trust.Threshold v16.1.Trust.Nodes v16.1.Trust.Inner) v16.1.Kind v16.1.Ballot v16.1.Prepared v16.1.Prime v16.1.Low v16.1.High)) fun r21 =>
 bif (!r21) then
 j19 ((TEnvelope.mk v16.1.Node v16.1.Slot v16.1.Seq (TTrust.mk v16.1.Trust.Threshold v16.1.Trust.Nodes v16.1.Trust.Inner) v16.1.Kind v16.1.Ballot v16.1.Prepared v16.1.Prime v16.1.Low (0 : Int)), ())
 else
 j19 ((TEnvelope.mk v16.1.Node v16.1.Slot v16.1.Seq (TTrust.mk v16.1.Trust.Threshold v16.1.Trust.Nodes v16.1.Trust.Inner) v16.1.Kind v16.1.Ballot v16.1.Prepared v16.1.Prime v16.1.Low v16.1.High), ())) fun j17 =>
 Option.bind (F_ref24_Valid (TEnvelope.mk v12.2.1.Node v12.2.1.Slot v12.2.1.Seq (TTrust.mk v12.2.1.Trust.Threshold v12.2.1.Trust.Nodes v12.2.1.Trust.Inner) v12.2.1.Kind v12.2.1.Ballot v12.2.1.Prepared v12.2.1.Prime p15.1 p14.1)) fun r22 =>
 bif (!r22) then
 j17 ((TEnvelope.mk v12.2.1.Node v12.2.1.Slot v12.2.1.Seq (TTrust.mk v12.2.1.Trust.Threshold v12.2.1.Trust.Nodes v12.2.1.Trust.Inner) v12.2.1.Kind v12.2.1.Ballot v12.2.1.Prepared v12.2.1.Prime (0 : Int) p14.1), ())
 else
 j17 ((TEnvelope.mk v12.2.1.Node v12.2.1.Slot v12.2.1.Seq (TTrust.mk v12.2.1.Trust.Threshold v12.2.1.Trust.Nodes v12.2.1.Trust.Inner) v12.2.1.Kind v12.2.1.Ballot v12.2.1.Prepared v12.2.1.Prime p15.1 p14.1), ())) fun j13 =>
 Option.bind (F_play_Src_N p11.2 (3 : Int)) fun p23 =>
 bif (decide ((0 : Int) < p23.1)) then
 Option.bind (F_play_Src_Low p23.2) fun p24 =>
 Option.bind (F_play_Src_N p24.2 (2 : Int)) fun p25 =>
 bif (decide (p25.1 = (1 : Int))) then
 Option.bind (F_play_Src_Low p25.2) fun p26 =>
 j13 (p26.2, (TEnvelope.mk v7.2.1.Node v7.2.1.Slot v7.2.1.Seq (TTrust.mk v7.2.1.Trust.Threshold v7.2.1.Trust.Nodes v7.2.1.Trust.Inner) (1 : Int) (TBallot.mk p11.1 p3.1) p24.1 p26.1 v7.2.1.Low v7.2.1.High), ())
 else
 j13 (p25.2, (TEnvelope.mk v7.2.1.Node v7.2.1.Slot v7.2.1.Seq (TTrust.mk v7.2.1.Trust.Threshold v7.2.1.Trust.Nodes v7.2.1.Trust.Inner) (1 : Int) (TBallot.mk p11.1 p3.1) p24.1 v7.2.1.Prime v7.2.1.Low v7.2.1.High), ())
 else
 j13 (p23.2, (TEnvelope.mk v7.2.1.Node v7.2.1.Slot v7.2.1.Seq (TTrust.mk v7.2.1.Trust.Threshold v7.2.1.Trust.Nodes v7.2.1.Trust.Inner) (1 : Int) (TBallot.mk p11.1 p3.1) v7.2.1.Prepared v7.2.1.Prime v7.2.1.Low v7.2.1.High), ())) fun j8 =>
 bif (decide (p6.1 = (0 : Int))) then
 Option.bind (F_play_Src_Range p6.2 (1 : Int) (7 : Int)) fun p27 =>
 Option.bind (F_play_Src_Range p27.2 (1 : Int) (4 : Int)) fun p28 =>
 Option.bind (F_play_Src_N p28.2 (3 : Int)) fun p29 =>
 Option.bind (F_play_Src_N p29.2 (3 : Int)) fun p30 =>
 j5 (p30.2, (TEnvelope.mk a0 a1 p1.1 (TTrust.mk p2.1.Threshold p2.1.Nodes p2.1.Inner) (2 : Int) (TBallot.mk p27.1 p3.1) (TBallot.mk (addI .i64 (addI .i64 p28.1 p29.1) p30.1) p3.1) (TBallot.mk (0 : Int) (ByteArray.mk #[])) p28.1 (addI .i64 p28.1 p29.1)), ())
 else
 bif (decide (p6.1 = (1 : Int))) then
 Option.bind (F_play_Src_N p6.2 (3 : Int)) fun p31 =>
 bif (decide ((0 : Int) < p31.1)) then
 Option.bind (F_play_Src_Range p31.2 (1 : Int) (7 : Int)) fun p32 =>
 Option.bind (F_play_Src_Range p32.2 (1 : Int) (4 : Int)) fun p33 =>
 Option.bind (F_play_Src_N p33.2 (3 : Int)) fun p34 =>
 j5 (p34.2, (TEnvelope.mk a0 a1 p1.1 (TTrust.mk p2.1.Threshold p2.1.Nodes p2.1.Inner) (3 : Int) (TBallot.mk p32.1 p3.1) (TBallot.mk (0 : Int) (ByteArray.mk #[])) (TBallot.mk (0 : Int) (ByteArray.mk #[])) p33.1 (addI .i64 p33.1 p34.1)), ())
 else
 j8 (p31.2, (TEnvelope.mk a0 a1 p1.1 (TTrust.mk p2.1.Threshold p2.1.Nodes p2.1.Inner) (0 : Int) (TBallot.mk (0 : Int) (ByteArray.mk #[])) (TBallot.mk (0 : Int) (ByteArray.mk #[])) (TBallot.mk (0 : Int) (ByteArray.mk #[])) (0 : Int) (0 : Int)), ())
 else
 j8 (p6.2, (TEnvelope.mk a0 a1 p1.1 (TTrust.mk p2.1.Threshold p2.1.Nodes p2.1.Inner) (0 : Int) (TBallot.mk (0 : Int) (ByteArray.mk #[])) (TBallot.mk (0 : Int) (ByteArray.mk #[])) (TBallot.mk (0 : Int) (ByteArray.mk #[])) (0 : Int) (0 : Int)), ())
noncomputable def k_play_Src_Envelope : KS U Try.prog := ⟨.rc 12 0 (Ty.st .Src) [.ty (Ty.i .i64), .ty (Ty.i .i64), .ty (Ty.i .i64)] (.one (Ty.st .Envelope)) fun s a => F_play_Src_Envelope s a.1 a.2.1 a.2.2.1, rcS (K := K) sa_play_Src_Envelope 113 [.cell 8 (some 15)] [k_play_Src_Range, k_play_Src_Trust, k_play_Src_Value, k_play_Src_N, k_play_Src_Low, k_ref24_Valid] (fk Try.f12 [] Try.func12)⟩

/-! ### trustquorum/threshold.Depth -/
noncomputable def sa_threshold_Depth : SA U := annA (scOf Try.prog 20 [] Try.f92) (.r (.r (.l (.r (.l (.j ⟨[.val 3 (Ty.i .i64), .val 9 (Ty.i .i64)], [7, 8]⟩ .e))))))
noncomputable def B_threshold_Depth (rec : (TTrust × Unit) → Option Int) (a0 : TTrust) : Option Int :=
 loopO (fun (v1 : Int × Int × Unit) =>
 bif (decide (v1.2.1 < ((List.length a0.Inner : Nat) : Int))) then
 Option.bind (idx a0.Inner v1.2.1) fun x2 =>
 Option.bind (rec ((TTrust.mk x2.Threshold x2.Nodes x2.Inner), ())) fun r3 =>
 some (Sum.inl ((maxI v1.1 r3), (addI .i64 v1.2.1 (1 : Int)), ()))
 else
 Option.map Sum.inr (some (addI .i64 v1.1 (1 : Int)))) ((0 : Int), (0 : Int), ())
noncomputable def I_threshold_Depth : Nat → (TTrust × Unit) → Option Int := iterF (fun rec a => B_threshold_Depth rec a.1)
noncomputable def F_threshold_Depth (a0 : TTrust) : Option Int := I_threshold_Depth (SizeOf.sizeOf a0 + 1) (a0, ())
noncomputable def k_threshold_Depth : KS U Try.prog := ⟨.fn 92 [.ty (Ty.st .Trust)] (.one (Ty.i .i64)) fun a => F_threshold_Depth a.1, fnRS (K := K) («as» := [.ty (Ty.st .Trust)]) (r := .one (Ty.i .i64)) (B := fun rec a => B_threshold_Depth rec a.1) sa_threshold_Depth 20 [.tmp 2] [] (fk Try.f92 [] Try.func92) (hF := fun a => ⟨_, rfl⟩)⟩

/-! ### trustquorum/threshold.Size -/
noncomputable def sa_threshold_Size : SA U := annA (scOf Try.prog 26 [] Try.f93) (.r (.r (.l (.r (.l (.j ⟨[.val 3 (Ty.i .i64), .val 16 (Ty.i .i64)], [14, 15]⟩ .e))))))
noncomputable def B_threshold_Size (rec : (TTrust × Unit) → Option Int) (a0 : TTrust) : Option Int :=
 loopO (fun (v1 : Int × Int × Unit) =>
 bif (decide (v1.2.1 < ((List.length a0.Inner : Nat) : Int))) then
 Option.bind (idx a0.Inner v1.2.1) fun x2 =>
 Option.bind (rec ((TTrust.mk x2.Threshold x2.Nodes x2.Inner), ())) fun r3 =>
 some (Sum.inl ((addI .i64 v1.1 r3), (addI .i64 v1.2.1 (1 : Int)), ()))
 else
 Option.map Sum.inr (some v1.1)) ((addI .i64 ((List.length a0.Nodes : Nat) : Int) ((List.length a0.Inner : Nat) : Int)), (0 : Int), ())
noncomputable def I_threshold_Size : Nat → (TTrust × Unit) → Option Int := iterF (fun rec a => B_threshold_Size rec a.1)
noncomputable def F_threshold_Size (a0 : TTrust) : Option Int := I_threshold_Size (SizeOf.sizeOf a0 + 1) (a0, ())
noncomputable def k_threshold_Size : KS U Try.prog := ⟨.fn 93 [.ty (Ty.st .Trust)] (.one (Ty.i .i64)) fun a => F_threshold_Size a.1, fnRS (K := K) («as» := [.ty (Ty.st .Trust)]) (r := .one (Ty.i .i64)) (B := fun rec a => B_threshold_Size rec a.1) sa_threshold_Size 26 [.tmp 2] [] (fk Try.f93 [] Try.func93) (hF := fun a => ⟨_, rfl⟩)⟩

/-! ### trustquorum/threshold.node -/
noncomputable def sa_threshold_node : SA U := annA (scOf Try.prog 9 [] Try.f123) .e
noncomputable def F_threshold_node (a0 : Int) : Option Bool :=
 Option.bind (bif (decide ((0 : Int) ≤ a0)) then
 some (decide (a0 < (10 : Int)))
 else some false) fun b1 =>
 some b1
noncomputable def k_threshold_node : KS U Try.prog := ⟨.fn 123 [.ty (Ty.i .i64)] (.one Ty.bool) fun a => F_threshold_node a.1, fnS (K := K) sa_threshold_node 9 [.tmp 2] [] (fk Try.f123 [] Try.func123)⟩

/-! ### trustquorum/threshold.level$1 -/
noncomputable def sa_threshold_level_1 : SA U := annA (scOf Try.prog 6 [] Try.f122) .e
noncomputable def F_threshold_level_1 (a0 : Int) : Option Bool :=
 Option.bind (F_threshold_node a0) fun r1 =>
 some (!r1)
noncomputable def k_threshold_level_1 : KS U Try.prog := ⟨.fn 122 [.ty (Ty.i .i64)] (.one Ty.bool) fun a => F_threshold_level_1 a.1, fnS (K := K) sa_threshold_level_1 6 [.tmp 2] [k_threshold_node] (fk Try.f122 [] Try.func122)⟩

/-! ### slices.IndexFunc[[]int,int] -/
noncomputable def sa_slices_IndexFunc_int_int_c122 : SA U := annA (scOf Try.prog 19 [] Try.f137) (.r (.l (.r (.l (.j ⟨[.val 8 (Ty.i .i64)], [0, 1, 7]⟩ .e)))))
noncomputable def F_slices_IndexFunc_int_int_c122 (a0 : (List Int)) : Option Int :=
 loopO (fun (v1 : Int × Unit) =>
 bif (decide (v1.1 < ((List.length a0 : Nat) : Int))) then
 Option.bind (idx a0 v1.1) fun x2 =>
 Option.bind (F_threshold_level_1 x2) fun r3 =>
 bif r3 then
 Option.map Sum.inr (some v1.1)
 else
 some (Sum.inl ((addI .i64 v1.1 (1 : Int)), ()))
 else
 Option.map Sum.inr (some (-1 : Int))) ((0 : Int), ())
noncomputable def k_slices_IndexFunc_int_int_c122 : KS U Try.prog := ⟨.fn 137 [.ty (Ty.sl (Ty.i .i64)), .clo 122 []] (.one (Ty.i .i64)) fun a => F_slices_IndexFunc_int_int_c122 a.1, fnS (K := K) sa_slices_IndexFunc_int_int_c122 19 [.tmp 4] [k_threshold_level_1] (fk Try.f137 [] Try.func137)⟩

/-! ### slices.ContainsFunc[[]int,int] -/
noncomputable def sa_slices_ContainsFunc_int_int_c122 : SA U := annA (scOf Try.prog 9 [] Try.f121) .e
noncomputable def F_slices_ContainsFunc_int_int_c122 (a0 : (List Int)) : Option Bool :=
 Option.bind (F_slices_IndexFunc_int_int_c122 a0) fun r1 =>
 some (decide ((0 : Int) ≤ r1))
noncomputable def k_slices_ContainsFunc_int_int_c122 : KS U Try.prog := ⟨.fn 121 [.ty (Ty.sl (Ty.i .i64)), .clo 122 []] (.one Ty.bool) fun a => F_slices_ContainsFunc_int_int_c122 a.1, fnS (K := K) sa_slices_ContainsFunc_int_int_c122 9 [.tmp 4] [k_slices_IndexFunc_int_int_c122] (fk Try.f121 [] Try.func121)⟩

/-! ### trustquorum/nodeset.below -/
noncomputable def sa_nodeset_below : SA U := annA (scOf Try.prog 13 [] Try.f145) .e
noncomputable def F_nodeset_below (a0 : Int) (a1 : Int) : Option Bool :=
 Option.bind (bif (decide ((0 : Int) ≤ a0)) then
 if a1 < 0 then none else
 some (decide (a0 < (shlI .i64 (1 : Int) a1)))
 else some false) fun b1 =>
 some b1
noncomputable def k_nodeset_below : KS U Try.prog := ⟨.fn 145 [.ty (Ty.i .i64), .ty (Ty.i .i64)] (.one Ty.bool) fun a => F_nodeset_below a.1 a.2.1, fnS (K := K) sa_nodeset_below 13 [.tmp 4] [] (fk Try.f145 [] Try.func145)⟩

/-! ### trustquorum/nodeset.Valid -/
noncomputable def sa_nodeset_Valid : SA U := annA (scOf Try.prog 5 [] Try.f138) .e
noncomputable def F_nodeset_Valid (a0 : Int) : Option Bool :=
 Option.bind (F_nodeset_below a0 (10 : Int)) fun r1 =>
 some r1
noncomputable def k_nodeset_Valid : KS U Try.prog := ⟨.fn 138 [.ty (Ty.i .i64)] (.one Ty.bool) fun a => F_nodeset_Valid a.1, fnS (K := K) sa_nodeset_Valid 5 [.tmp 2] [k_nodeset_below] (fk Try.f138 [] Try.func138)⟩

/-! ### trustquorum/nodeset.Has -/
noncomputable def sa_nodeset_Has : SA U := annA (scOf Try.prog 22 [] Try.f129) .e
noncomputable def F_nodeset_Has (a0 : Int) (a1 : Int) : Option Bool :=
 Option.bind (F_nodeset_Valid a0) fun r1 =>
 Option.bind (bif r1 then
 some (decide ((0 : Int) ≤ a1))
 else some false) fun b2 =>
 Option.bind (bif b2 then
 some (decide (a1 < (10 : Int)))
 else some false) fun b3 =>
 Option.bind (bif b3 then
 if a1 < 0 then none else
 some (!decide ((andI .i64 a0 (shlI .i64 (1 : Int) a1)) = (0 : Int)))
 else some false) fun b4 =>
 some b4
noncomputable def k_nodeset_Has : KS U Try.prog := ⟨.fn 129 [.ty (Ty.i .i64), .ty (Ty.i .i64)] (.one Ty.bool) fun a => F_nodeset_Has a.1 a.2.1, fnS (K := K) sa_nodeset_Has 22 [.tmp 4] [k_nodeset_Valid] (fk Try.f129 [] Try.func129)⟩

/-! ### trustquorum/nodeset.Of -/
noncomputable def sa_nodeset_Of : SA U := annA (scOf Try.prog 28 [] Try.f124) (.r (.r (.l (.r (.l (.j ⟨[.val 4 (Ty.i .i64), .val 9 (Ty.i .i64)], [7, 8]⟩ .e))))))
noncomputable def F_nodeset_Of (a0 : (List Int)) : Option (Int × Int × Unit) :=
 loopO (fun (v1 : Int × Int × Unit) =>
 bif (decide (v1.2.1 < ((List.length a0 : Nat) : Int))) then
 Option.bind (idx a0 v1.2.1) fun x2 =>
 Option.bind (bif (decide (x2 < (0 : Int))) then some true
 else
 some (decide ((10 : Int) ≤ x2))) fun b3 =>
 bif b3 then
 Option.map Sum.inr (some ((0 : Int), (5 : Int), ()))
 else
 Option.bind (F_nodeset_Has v1.1 x2) fun r4 =>
 bif r4 then
 Option.map Sum.inr (some ((0 : Int), (6 : Int), ()))
 else
 if x2 < 0 then none else
 some (Sum.inl ((orI .i64 v1.1 (shlI .i64 (1 : Int) x2)), (addI .i64 v1.2.1 (1 : Int)), ()))
 else
 Option.map Sum.inr (some (v1.1, (0 : Int), ()))) ((0 : Int), (0 : Int), ())
noncomputable def k_nodeset_Of : KS U Try.prog := ⟨.fn 124 [.ty (Ty.sl (Ty.i .i64))] (.many [(Ty.i .i64), (Ty.i .i64)]) fun a => F_nodeset_Of a.1, fnS (K := K) sa_nodeset_Of 28 [.tmp 2, .tmp 3] [k_nodeset_Has] (fk Try.f124 [] Try.func124)⟩

/-! ### trustquorum/threshold.level -/
noncomputable def sa_threshold_level : SA U := annA (scOf Try.prog 48 [] Try.f94) (.r (.r (.r (.r (.l (.r (.l (.j ⟨[.val 38 (Ty.i .i64)], [36, 37]⟩ .e))))))))
noncomputable def B_threshold_level (rec : (TTrust × Unit) → Option Int) (a0 : TTrust) : Option Int :=
 Option.bind (bif (decide (a0.Threshold < (1 : Int))) then some true
 else
 some (decide ((addI .i64 ((List.length a0.Nodes : Nat) : Int) ((List.length a0.Inner : Nat) : Int)) < a0.Threshold))) fun b1 =>
 bif b1 then
 some (4 : Int)
 else
 Option.bind (F_slices_ContainsFunc_int_int_c122 a0.Nodes) fun r2 =>
 bif r2 then
 some (5 : Int)
 else
 Option.bind (F_nodeset_Of a0.Nodes) fun r3 =>
 bif (!decide (r3.2.1 = (0 : Int))) then
 some r3.2.1
 else
 loopO (fun (v4 : Int × Unit) =>
 bif (decide (v4.1 < ((List.length a0.Inner : Nat) : Int))) then
 Option.bind (idx a0.Inner v4.1) fun x5 =>
 Option.bind (rec ((TTrust.mk x5.Threshold x5.Nodes x5.Inner), ())) fun r6 =>
 bif (!decide (r6 = (0 : Int))) then
 Option.map Sum.inr (some r6)
 else
 some (Sum.inl ((addI .i64 v4.1 (1 : Int)), ()))
 else
 Option.map Sum.inr (some (0 : Int))) ((0 : Int), ())
noncomputable def I_threshold_level : Nat → (TTrust × Unit) → Option Int := iterF (fun rec a => B_threshold_level rec a.1)
noncomputable def F_threshold_level (a0 : TTrust) : Option Int := I_threshold_level (SizeOf.sizeOf a0 + 1) (a0, ())
noncomputable def k_threshold_level : KS U Try.prog := ⟨.fn 94 [.ty (Ty.st .Trust)] (.one (Ty.i .i64)) fun a => F_threshold_level a.1, fnRS (K := K) («as» := [.ty (Ty.st .Trust)]) (r := .one (Ty.i .i64)) (B := fun rec a => B_threshold_level rec a.1) sa_threshold_level 48 [.tmp 2] [k_slices_ContainsFunc_int_int_c122, k_nodeset_Of] (fk Try.f94 [] Try.func94) (hF := fun a => ⟨_, rfl⟩)⟩

/-! ### trustquorum/threshold.Valid -/
noncomputable def sa_threshold_Valid : SA U := annA (scOf Try.prog 13 [] Try.f53) .e
noncomputable def F_threshold_Valid (a0 : TTrust) : Option Int :=
 Option.bind (F_threshold_Depth (TTrust.mk a0.Threshold a0.Nodes a0.Inner)) fun r1 =>
 Option.bind (bif (decide ((4 : Int) < r1)) then some true
 else
 Option.bind (F_threshold_Size (TTrust.mk a0.Threshold a0.Nodes a0.Inner)) fun r2 =>
 some (decide ((200 : Int) < r2))) fun b3 =>
 bif b3 then
 some (3 : Int)
 else
 Option.bind (F_threshold_level (TTrust.mk a0.Threshold a0.Nodes a0.Inner)) fun r4 =>
 some r4
noncomputable def k_threshold_Valid : KS U Try.prog := ⟨.fn 53 [.ty (Ty.st .Trust)] (.one (Ty.i .i64)) fun a => F_threshold_Valid a.1, fnS (K := K) sa_threshold_Valid 13 [.tmp 2] [k_threshold_Depth, k_threshold_Size, k_threshold_level] (fk Try.f53 [] Try.func53)⟩

/-! ### trustquorum/ballots.Zero -/
noncomputable def sa_ballots_Zero : SA U := annA (scOf Try.prog 6 [] Try.f48) .e
noncomputable def F_ballots_Zero (a0 : TBallot) : Option Bool :=
 some (eq2 false a0.Counter (0 : Int) a0.Value (ByteArray.mk #[]))
noncomputable def k_ballots_Zero : KS U Try.prog := ⟨.fn 48 [.ty (Ty.st .Ballot)] (.one Ty.bool) fun a => F_ballots_Zero a.1, fnS (K := K) sa_ballots_Zero 6 [.tmp 2] [] (fk Try.f48 [] Try.func48)⟩

/-! ### cmp.isNaN[int] -/
noncomputable def sa_cmp_isNaN_int : SA U := annA (scOf Try.prog 6 [] Try.f133) .e
noncomputable def F_cmp_isNaN_int (a0 : Int) : Option Bool :=
 some (!decide (a0 = a0))
noncomputable def k_cmp_isNaN_int : KS U Try.prog := ⟨.fn 133 [.ty (Ty.i .i64)] (.one Ty.bool) fun a => F_cmp_isNaN_int a.1, fnS (K := K) sa_cmp_isNaN_int 6 [.tmp 2] [] (fk Try.f133 [] Try.func133)⟩

/-! ### cmp.Compare[int] -/
noncomputable def sa_cmp_Compare_int : SA U := annA (scOf Try.prog 20 [] Try.f111) .e
noncomputable def F_cmp_Compare_int (a0 : Int) (a1 : Int) : Option Int :=
 Option.bind (F_cmp_isNaN_int a0) fun r1 =>
 Option.bind (F_cmp_isNaN_int a1) fun r2 =>
 bif r1 then
 bif r2 then
 some (0 : Int)
 else
 some (-1 : Int)
 else
 bif r2 then
 some (1 : Int)
 else
 bif (decide (a0 < a1)) then
 some (-1 : Int)
 else
 bif (decide (a1 < a0)) then
 some (1 : Int)
 else
 some (0 : Int)
noncomputable def k_cmp_Compare_int : KS U Try.prog := ⟨.fn 111 [.ty (Ty.i .i64), .ty (Ty.i .i64)] (.one (Ty.i .i64)) fun a => F_cmp_Compare_int a.1 a.2.1, fnS (K := K) sa_cmp_Compare_int 20 [.tmp 4] [k_cmp_isNaN_int] (fk Try.f111 [] Try.func111)⟩

/-! ### cmp.isNaN[string] -/
noncomputable def sa_cmp_isNaN_string : SA U := annA (scOf Try.prog 6 [] Try.f144) .e
noncomputable def F_cmp_isNaN_string (a0 : ByteArray) : Option Bool :=
 some (!decide (a0 = a0))
noncomputable def k_cmp_isNaN_string : KS U Try.prog := ⟨.fn 144 [.ty Ty.str] (.one Ty.bool) fun a => F_cmp_isNaN_string a.1, fnS (K := K) sa_cmp_isNaN_string 6 [.tmp 2] [] (fk Try.f144 [] Try.func144)⟩

/-! ### cmp.Compare[string] -/
noncomputable def sa_cmp_Compare_string : SA U := annA (scOf Try.prog 20 [] Try.f136) .e
noncomputable def F_cmp_Compare_string (a0 : ByteArray) (a1 : ByteArray) : Option Int :=
 Option.bind (F_cmp_isNaN_string a0) fun r1 =>
 Option.bind (F_cmp_isNaN_string a1) fun r2 =>
 bif r1 then
 bif r2 then
 some (0 : Int)
 else
 some (-1 : Int)
 else
 bif r2 then
 some (1 : Int)
 else
 bif (sless a0 a1) then
 some (-1 : Int)
 else
 bif (!(sless a0 a1 || decide (a0 = a1))) then
 some (1 : Int)
 else
 some (0 : Int)
noncomputable def k_cmp_Compare_string : KS U Try.prog := ⟨.fn 136 [.ty Ty.str, .ty Ty.str] (.one (Ty.i .i64)) fun a => F_cmp_Compare_string a.1 a.2.1, fnS (K := K) sa_cmp_Compare_string 20 [.tmp 4] [k_cmp_isNaN_string] (fk Try.f136 [] Try.func136)⟩

/-! ### cmp.Or[int] -/
noncomputable def sa_cmp_Or_int : SA U := annA (scOf Try.prog 18 [] Try.f118) (.r (.r (.l (.r (.l (.j ⟨[.val 8 (Ty.i .i64)], [3, 6, 7]⟩ .e))))))
noncomputable def F_cmp_Or_int (a0 : (List Int)) : Option Int :=
 loopO (fun (v1 : Int × Unit) =>
 bif (decide (v1.1 < ((List.length a0 : Nat) : Int))) then
 Option.bind (idx a0 v1.1) fun x2 =>
 bif (!decide (x2 = (0 : Int))) then
 Option.map Sum.inr (some x2)
 else
 some (Sum.inl ((addI .i64 v1.1 (1 : Int)), ()))
 else
 Option.map Sum.inr (some (0 : Int))) ((0 : Int), ())
noncomputable def k_cmp_Or_int : KS U Try.prog := ⟨.fn 118 [.ty (Ty.sl (Ty.i .i64))] (.one (Ty.i .i64)) fun a => F_cmp_Or_int a.1, fnS (K := K) sa_cmp_Or_int 18 [.tmp 2] [] (fk Try.f118 [] Try.func118)⟩

/-! ### trustquorum/ballots.CompareValues -/
noncomputable def sa_ballots_CompareValues : SA U := annA (scOf Try.prog 15 [] Try.f119) .e
noncomputable def F_ballots_CompareValues (a0 : ByteArray) (a1 : ByteArray) : Option Int :=
 Option.bind (F_cmp_Compare_int ((ByteArray.size a0 : Nat) : Int) ((ByteArray.size a1 : Nat) : Int)) fun r1 =>
 Option.bind (F_cmp_Compare_string a0 a1) fun r2 =>
 Option.bind (F_cmp_Or_int [r1, r2]) fun r3 =>
 some r3
noncomputable def k_ballots_CompareValues : KS U Try.prog := ⟨.fn 119 [.ty Ty.str, .ty Ty.str] (.one (Ty.i .i64)) fun a => F_ballots_CompareValues a.1 a.2.1, fnS (K := K) sa_ballots_CompareValues 15 [.tmp 4] [k_cmp_Compare_int, k_cmp_Compare_string, k_cmp_Or_int] (fk Try.f119 [] Try.func119)⟩

/-! ### trustquorum/ballots.Compare -/
noncomputable def sa_ballots_Compare : SA U := annA (scOf Try.prog 17 [] Try.f90) .e
noncomputable def F_ballots_Compare (a0 : TBallot) (a1 : TBallot) : Option Int :=
 Option.bind (F_cmp_Compare_int a0.Counter a1.Counter) fun r1 =>
 Option.bind (F_ballots_CompareValues a0.Value a1.Value) fun r2 =>
 Option.bind (F_cmp_Or_int [r1, r2]) fun r3 =>
 some r3
noncomputable def k_ballots_Compare : KS U Try.prog := ⟨.fn 90 [.ty (Ty.st .Ballot), .ty (Ty.st .Ballot)] (.one (Ty.i .i64)) fun a => F_ballots_Compare a.1 a.2.1, fnS (K := K) sa_ballots_Compare 17 [.tmp 4] [k_cmp_Compare_int, k_ballots_CompareValues, k_cmp_Or_int] (fk Try.f90 [] Try.func90)⟩

/-! ### trustquorum/ballots.Less -/
noncomputable def sa_ballots_Less : SA U := annA (scOf Try.prog 9 [] Try.f49) .e
noncomputable def F_ballots_Less (a0 : TBallot) (a1 : TBallot) : Option Bool :=
 Option.bind (F_ballots_Compare a0 a1) fun r1 =>
 some (decide (r1 < (0 : Int)))
noncomputable def k_ballots_Less : KS U Try.prog := ⟨.fn 49 [.ty (Ty.st .Ballot), .ty (Ty.st .Ballot)] (.one Ty.bool) fun a => F_ballots_Less a.1 a.2.1, fnS (K := K) sa_ballots_Less 9 [.tmp 4] [k_ballots_Compare] (fk Try.f49 [] Try.func49)⟩

/-! ### trustquorum/ballots.Compatible -/
noncomputable def sa_ballots_Compatible : SA U := annA (scOf Try.prog 10 [] Try.f50) .e
noncomputable def F_ballots_Compatible (a0 : TBallot) (a1 : TBallot) : Option Bool :=
 some (decide (a0.Value = a1.Value))
noncomputable def k_ballots_Compatible : KS U Try.prog := ⟨.fn 50 [.ty (Ty.st .Ballot), .ty (Ty.st .Ballot)] (.one Ty.bool) fun a => F_ballots_Compatible a.1 a.2.1, fnS (K := K) sa_ballots_Compatible 10 [.tmp 4] [] (fk Try.f50 [] Try.func50)⟩

/-! ### trustquorum/ballots.Valid -/
noncomputable def sa_ballots_Valid : SA U := annA (scOf Try.prog 30 [] Try.f56) .e
noncomputable def F_ballots_Valid (a0 : TBallot) : Option Bool :=
 Option.bind (bif (decide ((1 : Int) ≤ a0.Counter)) then
 some (decide (a0.Counter ≤ (1000 : Int)))
 else some false) fun b1 =>
 Option.bind (bif b1 then some true
 else
 some (decide (a0.Counter = (1000000 : Int)))) fun b2 =>
 Option.bind (bif b2 then
 some (decide ((1 : Int) ≤ ((ByteArray.size a0.Value : Nat) : Int)))
 else some false) fun b3 =>
 Option.bind (bif b3 then
 some (decide (((ByteArray.size a0.Value : Nat) : Int) ≤ (200 : Int)))
 else some false) fun b4 =>
 some b4
noncomputable def k_ballots_Valid : KS U Try.prog := ⟨.fn 56 [.ty (Ty.st .Ballot)] (.one Ty.bool) fun a => F_ballots_Valid a.1, fnS (K := K) sa_ballots_Valid 30 [.tmp 2] [] (fk Try.f56 [] Try.func56)⟩

/-! ### trustquorum/envelopes.finite -/
noncomputable def sa_envelopes_finite : SA U := annA (scOf Try.prog 10 [] Try.f55) .e
noncomputable def F_envelopes_finite (a0 : TBallot) : Option Bool :=
 Option.bind (F_ballots_Valid a0) fun r1 =>
 Option.bind (bif r1 then
 some (decide (a0.Counter ≤ (1000 : Int)))
 else some false) fun b2 =>
 some b2
noncomputable def k_envelopes_finite : KS U Try.prog := ⟨.fn 55 [.ty (Ty.st .Ballot)] (.one Ty.bool) fun a => F_envelopes_finite a.1, fnS (K := K) sa_envelopes_finite 10 [.tmp 2] [k_ballots_Valid] (fk Try.f55 [] Try.func55)⟩

/-! ### trustquorum/envelopes.optional -/
noncomputable def sa_envelopes_optional : SA U := annA (scOf Try.prog 9 [] Try.f95) .e
noncomputable def F_envelopes_optional (a0 : TBallot) : Option Bool :=
 Option.bind (F_ballots_Zero a0) fun r1 =>
 Option.bind (bif r1 then some true
 else
 Option.bind (F_ballots_Valid a0) fun r2 =>
 some r2) fun b3 =>
 some b3
noncomputable def k_envelopes_optional : KS U Try.prog := ⟨.fn 95 [.ty (Ty.st .Ballot)] (.one Ty.bool) fun a => F_envelopes_optional a.1, fnS (K := K) sa_envelopes_optional 9 [.tmp 2] [k_ballots_Zero, k_ballots_Valid] (fk Try.f95 [] Try.func95)⟩

/-! ### trustquorum/envelopes.at -/
noncomputable def sa_envelopes_at : SA U := annA (scOf Try.prog 10 [] Try.f96) .e
noncomputable def F_envelopes_at (a0 : TEnvelope) (a1 : Int) : Option TBallot :=
 some (TBallot.mk a1 a0.Ballot.Value)
noncomputable def k_envelopes_at : KS U Try.prog := ⟨.fn 96 [.ty (Ty.st .Envelope), .ty (Ty.i .i64)] (.one (Ty.st .Ballot)) fun a => F_envelopes_at a.1 a.2.1, fnS (K := K) sa_envelopes_at 10 [.cell 4 (some 2)] [] (fk Try.f96 [] Try.func96)⟩

/-! ### trustquorum/ballots.Aborts -/
noncomputable def sa_ballots_Aborts : SA U := annA (scOf Try.prog 19 [] Try.f98) .e
noncomputable def F_ballots_Aborts (a0 : TBallot) (a1 : TBallot) : Option Bool :=
 Option.bind (F_ballots_Zero a0) fun r1 =>
 Option.bind (bif (!r1) then
 Option.bind (F_ballots_Compatible a0 a1) fun r2 =>
 some (!r2)
 else some false) fun b3 =>
 Option.bind (bif b3 then
 Option.bind (F_ballots_Less a1 a0) fun r4 =>
 some r4
 else some false) fun b5 =>
 some b5
noncomputable def k_ballots_Aborts : KS U Try.prog := ⟨.fn 98 [.ty (Ty.st .Ballot), .ty (Ty.st .Ballot)] (.one Ty.bool) fun a => F_ballots_Aborts a.1 a.2.1, fnS (K := K) sa_ballots_Aborts 19 [.tmp 4] [k_ballots_Zero, k_ballots_Compatible, k_ballots_Less] (fk Try.f98 [] Try.func98)⟩

/-! ### trustquorum/ballots.Covers -/
noncomputable def sa_ballots_Covers : SA U := annA (scOf Try.prog 20 [] Try.f99) .e
noncomputable def F_ballots_Covers (a0 : TBallot) (a1 : TBallot) : Option Bool :=
 Option.bind (F_ballots_Zero a0) fun r1 =>
 Option.bind (bif (!r1) then
 Option.bind (F_ballots_Compatible a0 a1) fun r2 =>
 some r2
 else some false) fun b3 =>
 Option.bind (bif b3 then
 some (decide (a1.Counter ≤ a0.Counter))
 else some false) fun b4 =>
 some b4
noncomputable def k_ballots_Covers : KS U Try.prog := ⟨.fn 99 [.ty (Ty.st .Ballot), .ty (Ty.st .Ballot)] (.one Ty.bool) fun a => F_ballots_Covers a.1 a.2.1, fnS (K := K) sa_ballots_Covers 20 [.tmp 4] [k_ballots_Zero, k_ballots_Compatible] (fk Try.f99 [] Try.func99)⟩

/-! ### trustquorum/ballots.Prepares -/
noncomputable def sa_ballots_Prepares : SA U := annA (scOf Try.prog 25 [] Try.f97) .e
noncomputable def F_ballots_Prepares (a0 : TBallot) (a1 : TBallot) (a2 : TBallot) : Option Bool :=
 Option.bind (F_ballots_Covers a0 a2) fun r1 =>
 Option.bind (bif r1 then some true
 else
 Option.bind (F_ballots_Covers a1 a2) fun r2 =>
 some r2) fun b3 =>
 Option.bind (bif b3 then some true
 else
 Option.bind (F_ballots_Zero a1) fun r4 =>
 Option.bind (bif (!r4) then
 Option.bind (F_ballots_Less a2 a1) fun r5 =>
 some r5
 else some false) fun b6 =>
 some b6) fun b7 =>
 some b7
noncomputable def k_ballots_Prepares : KS U Try.prog := ⟨.fn 97 [.ty (Ty.st .Ballot), .ty (Ty.st .Ballot), .ty (Ty.st .Ballot)] (.one Ty.bool) fun a => F_ballots_Prepares a.1 a.2.1 a.2.2.1, fnS (K := K) sa_ballots_Prepares 25 [.tmp 6] [k_ballots_Covers, k_ballots_Zero, k_ballots_Less] (fk Try.f97 [] Try.func97)⟩

/-! ### trustquorum/envelopes.prepares -/
noncomputable def sa_envelopes_prepares : SA U := annA (scOf Try.prog 106 [] Try.f54) (.r (.r (.r (.r (.j ⟨[.val 2 Ty.bool], []⟩ .e)))))
noncomputable def F_envelopes_prepares (a0 : TEnvelope) : Option Bool :=
 Option.bind (F_ballots_Zero a0.Prime) fun r1 =>
 Option.bind (bif r1 then some true
 else
 Option.bind (F_ballots_Zero a0.Prepared) fun r2 =>
 Option.bind (bif (!r2) then
 Option.bind (F_ballots_Less a0.Prime a0.Prepared) fun r3 =>
 some r3
 else some false) fun b4 =>
 Option.bind (bif b4 then
 Option.bind (F_ballots_Compatible a0.Prime a0.Prepared) fun r5 =>
 some (!r5)
 else some false) fun b6 =>
 some b6) fun b7 =>
 Option.bind (F_envelopes_finite a0.Ballot) fun r8 =>
 Option.bind (bif (!r8) then some true
 else
 Option.bind (F_envelopes_optional a0.Prepared) fun r9 =>
 some (!r9)) fun b10 =>
 Option.bind (bif b10 then some true
 else
 Option.bind (F_envelopes_optional a0.Prime) fun r11 =>
 some (!r11)) fun b12 =>
 Option.bind (bif b12 then some true
 else
 some (!b7)) fun b13 =>
 Option.bind (bif b13 then some true
 else
 some (decide (a0.Low < (0 : Int)))) fun b14 =>
 Option.bind (bif b14 then some true
 else
 some (decide (a0.High < a0.Low))) fun b15 =>
 Option.bind (bif b15 then some true
 else
 some (decide (a0.Ballot.Counter < a0.High))) fun b16 =>
 bif b16 then
 some false
 else
 Option.bind (F_envelopes_at (TEnvelope.mk a0.Node a0.Slot a0.Seq (TTrust.mk a0.Trust.Threshold a0.Trust.Nodes a0.Trust.Inner) a0.Kind a0.Ballot a0.Prepared a0.Prime a0.Low a0.High) a0.Low) fun r17 =>
 letJ (fun (v18 : Bool × Unit) =>
 some v18.1) fun j19 =>
 bif (decide (a0.High = (0 : Int))) then
 bif (decide (a0.Low = (0 : Int))) then
 j19 (true, ())
 else
 Option.bind (F_ballots_Aborts a0.Prepared r17) fun r20 =>
 bif (!r20) then
 Option.bind (F_ballots_Aborts a0.Prime r17) fun r21 =>
 j19 ((!r21), ())
 else
 j19 (false, ())
 else
 Option.bind (F_envelopes_at (TEnvelope.mk a0.Node a0.Slot a0.Seq (TTrust.mk a0.Trust.Threshold a0.Trust.Nodes a0.Trust.Inner) a0.Kind a0.Ballot a0.Prepared a0.Prime a0.Low a0.High) a0.High) fun r22 =>
 Option.bind (F_ballots_Prepares a0.Prepared a0.Prime r22) fun r23 =>
 bif r23 then
 bif (decide (a0.Low = (0 : Int))) then
 j19 (true, ())
 else
 Option.bind (F_ballots_Aborts a0.Prepared r17) fun r24 =>
 bif (!r24) then
 Option.bind (F_ballots_Aborts a0.Prime r17) fun r25 =>
 j19 ((!r25), ())
 else
 j19 (false, ())
 else
 j19 (false, ())
noncomputable def k_envelopes_prepares : KS U Try.prog := ⟨.fn 54 [.ty (Ty.st .Envelope)] (.one Ty.bool) fun a => F_envelopes_prepares a.1, fnS (K := K) sa_envelopes_prepares 106 [.tmp 2] [k_ballots_Zero, k_ballots_Less, k_ballots_Compatible, k_envelopes_finite, k_envelopes_optional, k_envelopes_at, k_ballots_Aborts, k_ballots_Prepares] (fk Try.f54 [] Try.func54)⟩

/-! ### trustquorum/envelopes.Valid -/
noncomputable def sa_envelopes_Valid : SA U := annA (scOf Try.prog 110 [] Try.f25) .e
noncomputable def F_envelopes_Valid (a0 : TEnvelope) : Option Bool :=
 Option.bind (bif (decide (a0.Node < (0 : Int))) then some true
 else
 some (decide ((10 : Int) ≤ a0.Node))) fun b1 =>
 Option.bind (bif b1 then some true
 else
 some (decide (a0.Slot < (1 : Int)))) fun b2 =>
 Option.bind (bif b2 then some true
 else
 some (decide ((1000000 : Int) < a0.Slot))) fun b3 =>
 Option.bind (bif b3 then some true
 else
 some (decide (a0.Seq < (1 : Int)))) fun b4 =>
 Option.bind (bif b4 then some true
 else
 some (decide ((1000000 : Int) < a0.Seq))) fun b5 =>
 Option.bind (bif b5 then some true
 else
 Option.bind (F_threshold_Valid (TTrust.mk a0.Trust.Threshold a0.Trust.Nodes a0.Trust.Inner)) fun r6 =>
 some (!decide (r6 = (0 : Int)))) fun b7 =>
 bif b7 then
 some false
 else
 Option.bind (bif (decide ((1 : Int) ≤ a0.Low)) then
 some (decide (a0.Low ≤ a0.High))
 else some false) fun b8 =>
 Option.bind (bif b8 then
 some (decide (a0.High ≤ (1000 : Int)))
 else some false) fun b9 =>
 bif (decide (a0.Kind = (1 : Int))) then
 Option.bind (F_envelopes_prepares (TEnvelope.mk a0.Node a0.Slot a0.Seq (TTrust.mk a0.Trust.Threshold a0.Trust.Nodes a0.Trust.Inner) a0.Kind a0.Ballot a0.Prepared a0.Prime a0.Low a0.High)) fun r10 =>
 some r10
 else
 bif (decide (a0.Kind = (2 : Int))) then
 Option.bind (F_envelopes_finite a0.Ballot) fun r11 =>
 Option.bind (bif r11 then
 Option.bind (F_ballots_Valid a0.Prepared) fun r12 =>
 some r12
 else some false) fun b13 =>
 Option.bind (bif b13 then
 Option.bind (F_ballots_Compatible a0.Prepared a0.Ballot) fun r14 =>
 some r14
 else some false) fun b15 =>
 Option.bind (bif b15 then
 Option.bind (F_ballots_Zero a0.Prime) fun r16 =>
 some r16
 else some false) fun b17 =>
 Option.bind (bif b17 then
 some b9
 else some false) fun b18 =>
 Option.bind (bif b18 then
 some (decide (a0.High ≤ a0.Prepared.Counter))
 else some false) fun b19 =>
 some b19
 else
 bif (decide (a0.Kind = (3 : Int))) then
 Option.bind (F_ballots_Valid a0.Ballot) fun r20 =>
 Option.bind (bif r20 then
 Option.bind (F_ballots_Zero a0.Prepared) fun r21 =>
 some r21
 else some false) fun b22 =>
 Option.bind (bif b22 then
 Option.bind (F_ballots_Zero a0.Prime) fun r23 =>
 some r23
 else some false) fun b24 =>
 Option.bind (bif b24 then
 some b9
 else some false) fun b25 =>
 some b25
 else
 some false
noncomputable def k_envelopes_Valid : KS U Try.prog := ⟨.fn 25 [.ty (Ty.st .Envelope)] (.one Ty.bool) fun a => F_envelopes_Valid a.1, fnS (K := K) sa_envelopes_Valid 110 [.tmp 2] [k_threshold_Valid, k_envelopes_prepares, k_envelopes_finite, k_ballots_Valid, k_ballots_Compatible, k_ballots_Zero] (fk Try.f25 [] Try.func25)⟩

/-! ### (trustquorum/envelopes.Right).from -/
noncomputable def sa_envelopes_Right_from : SA U := annA (scOf Try.prog 31 [] Try.f89) .e
noncomputable def F_envelopes_Right_from (a0 : TRight) (a1 : ByteArray) (a2 : Int) (a3 : Int) : Option Bool :=
 Option.bind (bif (decide ((1 : Int) ≤ a2)) then
 some (decide (a2 ≤ a3))
 else some false) fun b1 =>
 Option.bind (bif b1 then
 some (decide (a0.Envelope.Ballot.Value = a1))
 else some false) fun b2 =>
 Option.bind (bif b2 then
 some (decide (a0.Envelope.Low ≤ a2))
 else some false) fun b3 =>
 some b3
noncomputable def k_envelopes_Right_from : KS U Try.prog := ⟨.fn 89 [.ty (Ty.st .Right), .ty Ty.str, .ty (Ty.i .i64), .ty (Ty.i .i64)] (.one Ty.bool) fun a => F_envelopes_Right_from a.1 a.2.1 a.2.2.1 a.2.2.2.1, fnS (K := K) sa_envelopes_Right_from 31 [.tmp 8] [] (fk Try.f89 [] Try.func89)⟩

/-! ### (trustquorum/envelopes.Right).VotesCommit -/
noncomputable def sa_envelopes_Right_VotesCommit : SA U := annA (scOf Try.prog 33 [] Try.f47) .e
noncomputable def F_envelopes_Right_VotesCommit (a0 : TRight) (a1 : ByteArray) (a2 : Int) (a3 : Int) : Option Bool :=
 Option.bind (F_envelopes_Right_from (TRight.mk (TEnvelope.mk a0.Envelope.Node a0.Envelope.Slot a0.Envelope.Seq (TTrust.mk a0.Envelope.Trust.Threshold a0.Envelope.Trust.Nodes a0.Envelope.Trust.Inner) a0.Envelope.Kind a0.Envelope.Ballot a0.Envelope.Prepared a0.Envelope.Prime a0.Envelope.Low a0.Envelope.High)) a1 a2 a3) fun r1 =>
 Option.bind (bif r1 then
 Option.bind (bif (!decide (a0.Envelope.Kind = (1 : Int))) then some true
 else
 Option.bind (bif (!decide (a0.Envelope.Low = (0 : Int))) then
 some (decide (a3 ≤ a0.Envelope.High))
 else some false) fun b2 =>
 some b2) fun b3 =>
 some b3
 else some false) fun b4 =>
 some b4
noncomputable def k_envelopes_Right_VotesCommit : KS U Try.prog := ⟨.fn 47 [.ty (Ty.st .Right), .ty Ty.str, .ty (Ty.i .i64), .ty (Ty.i .i64)] (.one Ty.bool) fun a => F_envelopes_Right_VotesCommit a.1 a.2.1 a.2.2.1 a.2.2.2.1, fnS (K := K) sa_envelopes_Right_VotesCommit 33 [.tmp 8] [k_envelopes_Right_from] (fk Try.f47 [] Try.func47)⟩

/-! ### trustquorum/envelopes.VotesCommit -/
noncomputable def sa_envelopes_VotesCommit : SA U := annA (scOf Try.prog 19 [] Try.f15) .e
noncomputable def F_envelopes_VotesCommit (a0 : TEnvelope) (a1 : ByteArray) (a2 : Int) (a3 : Int) : Option Bool :=
 Option.bind (F_envelopes_Valid (TEnvelope.mk a0.Node a0.Slot a0.Seq (TTrust.mk a0.Trust.Threshold a0.Trust.Nodes a0.Trust.Inner) a0.Kind a0.Ballot a0.Prepared a0.Prime a0.Low a0.High)) fun r1 =>
 Option.bind (bif r1 then
 Option.bind (F_envelopes_Right_VotesCommit (TRight.mk (TEnvelope.mk a0.Node a0.Slot a0.Seq (TTrust.mk a0.Trust.Threshold a0.Trust.Nodes a0.Trust.Inner) a0.Kind a0.Ballot a0.Prepared a0.Prime a0.Low a0.High)) a1 a2 a3) fun r2 =>
 some r2
 else some false) fun b3 =>
 some b3
noncomputable def k_envelopes_VotesCommit : KS U Try.prog := ⟨.fn 15 [.ty (Ty.st .Envelope), .ty Ty.str, .ty (Ty.i .i64), .ty (Ty.i .i64)] (.one Ty.bool) fun a => F_envelopes_VotesCommit a.1 a.2.1 a.2.2.1 a.2.2.2.1, fnS (K := K) sa_envelopes_VotesCommit 19 [.tmp 8] [k_envelopes_Valid, k_envelopes_Right_VotesCommit] (fk Try.f15 [] Try.func15)⟩

/-! ### trustquorum/trustquorumplay.Flat -/
noncomputable def sa_play_Flat : SA U := annA (scOf Try.prog 21 [] Try.f41) (.r (.r (.l (.r (.l (.ps (.ownB 5 1 3 1 (Ty.i .i64)) (.j ⟨[.val 6 (Ty.i .i64), .box 3 1 (Ty.st .Trust) [(1, 6, 1)], .rowb 6 1 3 1 (Ty.i .i64)], [0, 4, 5]⟩ .e)))))))
noncomputable def F_play_Flat (a0 : Int) (a1 : Int) : Option TTrust :=
 loopO (fun (v1 : Int × TTrust × (List Int) × Unit) =>
 bif (decide (v1.1 < a0)) then
 bif lenOk 8 (List.length v1.2.2.1 + List.length [v1.1]) then
 some (Sum.inl ((addI .i64 v1.1 (1 : Int)), (TTrust.mk v1.2.1.Threshold ([] : List Int) v1.2.1.Inner), (v1.2.2.1 ++ [v1.1]), ()))
 else none
 else
 Option.map Sum.inr (some (TTrust.mk v1.2.1.Threshold v1.2.2.1 v1.2.1.Inner))) ((0 : Int), (TTrust.mk a1 ([] : List Int) ([] : List TTrust)), ([] : List Int), ())
noncomputable def k_play_Flat : KS U Try.prog := ⟨.fn 41 [.ty (Ty.i .i64), .ty (Ty.i .i64)] (.one (Ty.st .Trust)) fun a => F_play_Flat a.1 a.2.1, fnS (K := K) sa_play_Flat 21 [.cell 4 (some 3)] [] (fk Try.f41 [] Try.func41)⟩

/-! ### (trustquorum/envelopes.Right).AcceptsCommit -/
noncomputable def sa_envelopes_Right_AcceptsCommit : SA U := annA (scOf Try.prog 33 [] Try.f57) .e
noncomputable def F_envelopes_Right_AcceptsCommit (a0 : TRight) (a1 : ByteArray) (a2 : Int) (a3 : Int) : Option Bool :=
 Option.bind (F_envelopes_Right_from (TRight.mk (TEnvelope.mk a0.Envelope.Node a0.Envelope.Slot a0.Envelope.Seq (TTrust.mk a0.Envelope.Trust.Threshold a0.Envelope.Trust.Nodes a0.Envelope.Trust.Inner) a0.Envelope.Kind a0.Envelope.Ballot a0.Envelope.Prepared a0.Envelope.Prime a0.Envelope.Low a0.Envelope.High)) a1 a2 a3) fun r1 =>
 Option.bind (bif r1 then
 Option.bind (bif (decide (a0.Envelope.Kind = (3 : Int))) then some true
 else
 Option.bind (bif (decide (a0.Envelope.Kind = (2 : Int))) then
 some (decide (a3 ≤ a0.Envelope.High))
 else some false) fun b2 =>
 some b2) fun b3 =>
 some b3
 else some false) fun b4 =>
 some b4
noncomputable def k_envelopes_Right_AcceptsCommit : KS U Try.prog := ⟨.fn 57 [.ty (Ty.st .Right), .ty Ty.str, .ty (Ty.i .i64), .ty (Ty.i .i64)] (.one Ty.bool) fun a => F_envelopes_Right_AcceptsCommit a.1 a.2.1 a.2.2.1 a.2.2.2.1, fnS (K := K) sa_envelopes_Right_AcceptsCommit 33 [.tmp 8] [k_envelopes_Right_from] (fk Try.f57 [] Try.func57)⟩

/-! ### trustquorum/envelopes.AcceptsCommit -/
noncomputable def sa_envelopes_AcceptsCommit : SA U := annA (scOf Try.prog 19 [] Try.f27) .e
noncomputable def F_envelopes_AcceptsCommit (a0 : TEnvelope) (a1 : ByteArray) (a2 : Int) (a3 : Int) : Option Bool :=
 Option.bind (F_envelopes_Valid (TEnvelope.mk a0.Node a0.Slot a0.Seq (TTrust.mk a0.Trust.Threshold a0.Trust.Nodes a0.Trust.Inner) a0.Kind a0.Ballot a0.Prepared a0.Prime a0.Low a0.High)) fun r1 =>
 Option.bind (bif r1 then
 Option.bind (F_envelopes_Right_AcceptsCommit (TRight.mk (TEnvelope.mk a0.Node a0.Slot a0.Seq (TTrust.mk a0.Trust.Threshold a0.Trust.Nodes a0.Trust.Inner) a0.Kind a0.Ballot a0.Prepared a0.Prime a0.Low a0.High)) a1 a2 a3) fun r2 =>
 some r2
 else some false) fun b3 =>
 some b3
noncomputable def k_envelopes_AcceptsCommit : KS U Try.prog := ⟨.fn 27 [.ty (Ty.st .Envelope), .ty Ty.str, .ty (Ty.i .i64), .ty (Ty.i .i64)] (.one Ty.bool) fun a => F_envelopes_AcceptsCommit a.1 a.2.1 a.2.2.1 a.2.2.2.1, fnS (K := K) sa_envelopes_AcceptsCommit 19 [.tmp 8] [k_envelopes_Valid, k_envelopes_Right_AcceptsCommit] (fk Try.f27 [] Try.func27)⟩

/-! ### (trustquorum/envelopes.Right).Count -/
noncomputable def sa_envelopes_Right_Count : SA U := annA (scOf Try.prog 11 [] Try.f60) .e
noncomputable def F_envelopes_Right_Count (a0 : TRight) : Option Int :=
 bif (decide (a0.Envelope.Kind = (3 : Int))) then
 some (1000000 : Int)
 else
 some a0.Envelope.Ballot.Counter
noncomputable def k_envelopes_Right_Count : KS U Try.prog := ⟨.fn 60 [.ty (Ty.st .Right)] (.one (Ty.i .i64)) fun a => F_envelopes_Right_Count a.1, fnS (K := K) sa_envelopes_Right_Count 11 [.tmp 2] [] (fk Try.f60 [] Try.func60)⟩

/-! ### trustquorum/envelopes.Counter -/
noncomputable def sa_envelopes_Counter : SA U := annA (scOf Try.prog 9 [] Try.f32) .e
noncomputable def F_envelopes_Counter (a0 : TEnvelope) : Option Int :=
 Option.bind (F_envelopes_Valid (TEnvelope.mk a0.Node a0.Slot a0.Seq (TTrust.mk a0.Trust.Threshold a0.Trust.Nodes a0.Trust.Inner) a0.Kind a0.Ballot a0.Prepared a0.Prime a0.Low a0.High)) fun r1 =>
 bif (!r1) then
 some (0 : Int)
 else
 Option.bind (F_envelopes_Right_Count (TRight.mk (TEnvelope.mk a0.Node a0.Slot a0.Seq (TTrust.mk a0.Trust.Threshold a0.Trust.Nodes a0.Trust.Inner) a0.Kind a0.Ballot a0.Prepared a0.Prime a0.Low a0.High))) fun r2 =>
 some r2
noncomputable def k_envelopes_Counter : KS U Try.prog := ⟨.fn 32 [.ty (Ty.st .Envelope)] (.one (Ty.i .i64)) fun a => F_envelopes_Counter a.1, fnS (K := K) sa_envelopes_Counter 9 [.tmp 2] [k_envelopes_Valid, k_envelopes_Right_Count] (fk Try.f32 [] Try.func32)⟩

/-! ### trustquorum/trustquorumlaw24.sane -/
noncomputable def sa_law24_sane : SA U := annA (scOf Try.prog 22 [] Try.f16) .e
noncomputable def F_law24_sane  : Option Bool :=
 Option.bind (F_play_Flat (3 : Int) (2 : Int)) fun r1 =>
 Option.bind (F_envelopes_Valid (TEnvelope.mk (0 : Int) (1 : Int) (1 : Int) (TTrust.mk r1.Threshold r1.Nodes r1.Inner) (1 : Int) (TBallot.mk (3 : Int) (ByteArray.mk #[97])) (TBallot.mk (3 : Int) (ByteArray.mk #[97])) (TBallot.mk (0 : Int) (ByteArray.mk #[])) (2 : Int) (3 : Int))) fun r2 =>
 Option.bind (bif r2 then
 Option.bind (F_envelopes_VotesCommit (TEnvelope.mk (0 : Int) (1 : Int) (1 : Int) (TTrust.mk r1.Threshold r1.Nodes r1.Inner) (1 : Int) (TBallot.mk (3 : Int) (ByteArray.mk #[97])) (TBallot.mk (3 : Int) (ByteArray.mk #[97])) (TBallot.mk (0 : Int) (ByteArray.mk #[])) (2 : Int) (3 : Int)) (ByteArray.mk #[97]) (2 : Int) (3 : Int)) fun r3 =>
 some r3
 else some false) fun b4 =>
 Option.bind (bif b4 then
 Option.bind (F_envelopes_AcceptsCommit (TEnvelope.mk (0 : Int) (1 : Int) (1 : Int) (TTrust.mk r1.Threshold r1.Nodes r1.Inner) (1 : Int) (TBallot.mk (3 : Int) (ByteArray.mk #[97])) (TBallot.mk (3 : Int) (ByteArray.mk #[97])) (TBallot.mk (0 : Int) (ByteArray.mk #[])) (2 : Int) (3 : Int)) (ByteArray.mk #[97]) (2 : Int) (3 : Int)) fun r5 =>
 some (!r5)
 else some false) fun b6 =>
 Option.bind (bif b6 then
 Option.bind (F_envelopes_Counter (TEnvelope.mk (0 : Int) (1 : Int) (1 : Int) (TTrust.mk r1.Threshold r1.Nodes r1.Inner) (1 : Int) (TBallot.mk (3 : Int) (ByteArray.mk #[97])) (TBallot.mk (3 : Int) (ByteArray.mk #[97])) (TBallot.mk (0 : Int) (ByteArray.mk #[])) (2 : Int) (3 : Int))) fun r7 =>
 some (decide (r7 = (3 : Int)))
 else some false) fun b8 =>
 some b8
noncomputable def k_law24_sane : KS U Try.prog := ⟨.fn 16 [] (.one Ty.bool) fun a => F_law24_sane , fnS (K := K) sa_law24_sane 22 [.tmp 0] [k_play_Flat, k_envelopes_Valid, k_envelopes_VotesCommit, k_envelopes_AcceptsCommit, k_envelopes_Counter] (fk Try.f16 [] Try.func16)⟩

/-! ### slices.Clone[[]int,int] -/
noncomputable def sa_slices_Clone_int_int : SA U := annA (scOf Try.prog 8 [5] Try.f120) .e
noncomputable def F_slices_Clone_int_int (a0 : (List Int)) : Option (List Int) :=
 bif List.isEmpty a0 then
 both (some ([] : List Int)) (bif lenOk 8 (List.length ([] : List Int) + List.length a0) then
 some (([] : List Int) ++ a0)
 else none)
 else
 bif lenOk 8 (List.length ([] : List Int) + List.length a0) then
 some (([] : List Int) ++ a0)
 else none
noncomputable def k_slices_Clone_int_int : KS U Try.prog := ⟨.fn 120 [.ty (Ty.sl (Ty.i .i64))] (.one (Ty.sl (Ty.i .i64))) fun a => F_slices_Clone_int_int a.1, fnS (K := K) sa_slices_Clone_int_int 8 [.tmp 2] [] (fk Try.f120 [5] Try.func120)⟩

/-! ### trustquorum/copies.Trust -/
noncomputable def sa_copies_Trust : SA U := annA (scOf Try.prog 28 [] Try.f91) (.r (.r (.l (.r (.l (.ps (.ownB 3 2 27 3 (Ty.st .Trust)) (.j ⟨[.val 15 (Ty.i .i64), .box 8 1 (Ty.st .Trust) [(2, 14, 1)], .rowb 14 1 27 3 (Ty.st .Trust)], [2, 3, 13, 14]⟩ .e)))))))
noncomputable def B_copies_Trust (rec : (TTrust × Unit) → Option TTrust) (a0 : TTrust) : Option TTrust :=
 Option.bind (F_slices_Clone_int_int a0.Nodes) fun r1 =>
 loopO (fun (v2 : Int × TTrust × (List TTrust) × Unit) =>
 bif (decide (v2.1 < ((List.length a0.Inner : Nat) : Int))) then
 Option.bind (idx a0.Inner v2.1) fun x3 =>
 Option.bind (rec ((TTrust.mk x3.Threshold x3.Nodes x3.Inner), ())) fun r4 =>
 bif lenOk 56 (List.length v2.2.2.1 + List.length [(TTrust.mk r4.Threshold r4.Nodes r4.Inner)]) then
 some (Sum.inl ((addI .i64 v2.1 (1 : Int)), (TTrust.mk v2.2.1.Threshold v2.2.1.Nodes ([] : List TTrust)), (v2.2.2.1 ++ [(TTrust.mk r4.Threshold r4.Nodes r4.Inner)]), ()))
 else none
 else
 Option.map Sum.inr (some (TTrust.mk v2.2.1.Threshold v2.2.1.Nodes v2.2.2.1))) ((0 : Int), (TTrust.mk a0.Threshold r1 ([] : List TTrust)), ([] : List TTrust), ())
noncomputable def I_copies_Trust : Nat → (TTrust × Unit) → Option TTrust := iterF (fun rec a => B_copies_Trust rec a.1)
noncomputable def F_copies_Trust (a0 : TTrust) : Option TTrust := I_copies_Trust (SizeOf.sizeOf a0 + 1) (a0, ())
noncomputable def k_copies_Trust : KS U Try.prog := ⟨.fn 91 [.ty (Ty.st .Trust)] (.one (Ty.st .Trust)) fun a => F_copies_Trust a.1, fnRS (K := K) («as» := [.ty (Ty.st .Trust)]) (r := .one (Ty.st .Trust)) (B := fun rec a => B_copies_Trust rec a.1) sa_copies_Trust 28 [.cell 2 (some 3)] [k_slices_Clone_int_int] (fk Try.f91 [] Try.func91) (hF := fun a => ⟨_, rfl⟩)⟩

/-! ### trustquorum/copies.Envelope -/
noncomputable def sa_copies_Envelope : SA U := annA (scOf Try.prog 8 [] Try.f68) .e
noncomputable def F_copies_Envelope (a0 : TEnvelope) : Option TEnvelope :=
 Option.bind (F_copies_Trust (TTrust.mk a0.Trust.Threshold a0.Trust.Nodes a0.Trust.Inner)) fun r1 =>
 some (TEnvelope.mk a0.Node a0.Slot a0.Seq (TTrust.mk r1.Threshold r1.Nodes r1.Inner) a0.Kind a0.Ballot a0.Prepared a0.Prime a0.Low a0.High)
noncomputable def k_copies_Envelope : KS U Try.prog := ⟨.fn 68 [.ty (Ty.st .Envelope)] (.one (Ty.st .Envelope)) fun a => F_copies_Envelope a.1, fnS (K := K) sa_copies_Envelope 8 [.cell 2 (some 15)] [k_copies_Trust] (fk Try.f68 [] Try.func68)⟩

/-! ### trustquorum/copies.All[trustquorum/api.Envelope] -/
noncomputable def sa_copies_All_api_Envelope_c68 : SA U := annA (scOf Try.prog 22 [] Try.f67) (.r (.r (.l (.r (.l (.ps (.own 5 31 15 (Ty.st .Envelope)) (.j ⟨[.val 10 (Ty.i .i64), .own 5 5 1 31 15 (Ty.st .Envelope)], [1, 8, 9]⟩ .e)))))))
noncomputable def F_copies_All_api_Envelope_c68 (a0 : (List TEnvelope)) : Option (List TEnvelope) :=
 loopO (fun (v1 : Int × (List TEnvelope) × Unit) =>
 bif (decide (v1.1 < ((List.length a0 : Nat) : Int))) then
 Option.bind (idx a0 v1.1) fun x2 =>
 Option.bind (F_copies_Envelope (TEnvelope.mk x2.Node x2.Slot x2.Seq (TTrust.mk x2.Trust.Threshold x2.Trust.Nodes x2.Trust.Inner) x2.Kind x2.Ballot x2.Prepared x2.Prime x2.Low x2.High)) fun r3 =>
 bif lenOk 176 (List.length v1.2.1 + List.length [(TEnvelope.mk r3.Node r3.Slot r3.Seq (TTrust.mk r3.Trust.Threshold r3.Trust.Nodes r3.Trust.Inner) r3.Kind r3.Ballot r3.Prepared r3.Prime r3.Low r3.High)]) then
 some (Sum.inl ((addI .i64 v1.1 (1 : Int)), (v1.2.1 ++ [(TEnvelope.mk r3.Node r3.Slot r3.Seq (TTrust.mk r3.Trust.Threshold r3.Trust.Nodes r3.Trust.Inner) r3.Kind r3.Ballot r3.Prepared r3.Prime r3.Low r3.High)]), ()))
 else none
 else
 Option.map Sum.inr (some v1.2.1)) ((0 : Int), ([] : List TEnvelope), ())
noncomputable def k_copies_All_api_Envelope_c68 : KS U Try.prog := ⟨.fw 67 [.ty (Ty.sl (Ty.st .Envelope)), .clo 68 []] 31 15 (Ty.st .Envelope) fun a => F_copies_All_api_Envelope_c68 a.1, fwS (K := K) sa_copies_All_api_Envelope_c68 22 [.tmp 4] [k_copies_Envelope] (fk Try.f67 [] Try.func67)⟩

/-! ### trustquorum/envelopes.Put$1 -/
noncomputable def sa_envelopes_Put_1 : SA U := annA (scOf Try.prog 9 [] Try.f70) .e
noncomputable def F_envelopes_Put_1 (a0 : TEnvelope) (a1 : TEnvelope) : Option Bool :=
 some (decide (a0.Node = a1.Node))
noncomputable def k_envelopes_Put_1 : KS U Try.prog := ⟨.fn 70 [.ty (Ty.st .Envelope), .ref (.ty (Ty.st .Envelope))] (.one Ty.bool) fun a => F_envelopes_Put_1 a.1 a.2.1, fnS (K := K) sa_envelopes_Put_1 9 [.tmp 3] [] (fk Try.f70 [] Try.func70)⟩

/-! ### slices.IndexFunc[[]trustquorum/api.Envelope,trustquorum/api.Envelope] -/
noncomputable def sa_slices_IndexFunc_api_Envelope_api_Envelope_c70 : SA U := annA (scOf Try.prog 19 [] Try.f69) (.r (.l (.r (.l (.j ⟨[.val 8 (Ty.i .i64)], [0, 1, 7]⟩ .e)))))
noncomputable def F_slices_IndexFunc_api_Envelope_api_Envelope_c70 (a0 : (List TEnvelope)) (a1 : TEnvelope) : Option Int :=
 loopO (fun (v1 : Int × Unit) =>
 bif (decide (v1.1 < ((List.length a0 : Nat) : Int))) then
 Option.bind (idx a0 v1.1) fun x2 =>
 Option.bind (F_envelopes_Put_1 (TEnvelope.mk x2.Node x2.Slot x2.Seq (TTrust.mk x2.Trust.Threshold x2.Trust.Nodes x2.Trust.Inner) x2.Kind x2.Ballot x2.Prepared x2.Prime x2.Low x2.High) (TEnvelope.mk a1.Node a1.Slot a1.Seq (TTrust.mk a1.Trust.Threshold a1.Trust.Nodes a1.Trust.Inner) a1.Kind a1.Ballot a1.Prepared a1.Prime a1.Low a1.High)) fun r3 =>
 bif r3 then
 Option.map Sum.inr (some v1.1)
 else
 some (Sum.inl ((addI .i64 v1.1 (1 : Int)), ()))
 else
 Option.map Sum.inr (some (-1 : Int))) ((0 : Int), ())
noncomputable def k_slices_IndexFunc_api_Envelope_api_Envelope_c70 : KS U Try.prog := ⟨.fn 69 [.ty (Ty.sl (Ty.st .Envelope)), .clo 70 [.ref (.ty (Ty.st .Envelope))]] (.one (Ty.i .i64)) fun a => F_slices_IndexFunc_api_Envelope_api_Envelope_c70 a.1 a.2.1.1, fnS (K := K) sa_slices_IndexFunc_api_Envelope_api_Envelope_c70 19 [.tmp 4] [k_envelopes_Put_1] (fk Try.f69 [] Try.func69)⟩

/-! ### trustquorum/envelopes.Put$2 -/
noncomputable def sa_envelopes_Put_2 : SA U := annA (scOf Try.prog 9 [] Try.f71) .e
noncomputable def F_envelopes_Put_2 (a0 : TEnvelope) (a1 : TEnvelope) : Option Bool :=
 some (decide (a1.Node < a0.Node))
noncomputable def k_envelopes_Put_2 : KS U Try.prog := ⟨.fn 71 [.ty (Ty.st .Envelope), .ref (.ty (Ty.st .Envelope))] (.one Ty.bool) fun a => F_envelopes_Put_2 a.1 a.2.1, fnS (K := K) sa_envelopes_Put_2 9 [.tmp 3] [] (fk Try.f71 [] Try.func71)⟩

/-! ### slices.IndexFunc[[]trustquorum/api.Envelope,trustquorum/api.Envelope] -/
noncomputable def sa_slices_IndexFunc_api_Envelope_api_Envelope_c71 : SA U := annA (scOf Try.prog 19 [] Try.f69) (.r (.l (.r (.l (.j ⟨[.val 8 (Ty.i .i64)], [0, 1, 7]⟩ .e)))))
noncomputable def F_slices_IndexFunc_api_Envelope_api_Envelope_c71 (a0 : (List TEnvelope)) (a1 : TEnvelope) : Option Int :=
 loopO (fun (v1 : Int × Unit) =>
 bif (decide (v1.1 < ((List.length a0 : Nat) : Int))) then
 Option.bind (idx a0 v1.1) fun x2 =>
 Option.bind (F_envelopes_Put_2 (TEnvelope.mk x2.Node x2.Slot x2.Seq (TTrust.mk x2.Trust.Threshold x2.Trust.Nodes x2.Trust.Inner) x2.Kind x2.Ballot x2.Prepared x2.Prime x2.Low x2.High) (TEnvelope.mk a1.Node a1.Slot a1.Seq (TTrust.mk a1.Trust.Threshold a1.Trust.Nodes a1.Trust.Inner) a1.Kind a1.Ballot a1.Prepared a1.Prime a1.Low a1.High)) fun r3 =>
 bif r3 then
 Option.map Sum.inr (some v1.1)
 else
 some (Sum.inl ((addI .i64 v1.1 (1 : Int)), ()))
 else
 Option.map Sum.inr (some (-1 : Int))) ((0 : Int), ())
noncomputable def k_slices_IndexFunc_api_Envelope_api_Envelope_c71 : KS U Try.prog := ⟨.fn 69 [.ty (Ty.sl (Ty.st .Envelope)), .clo 71 [.ref (.ty (Ty.st .Envelope))]] (.one (Ty.i .i64)) fun a => F_slices_IndexFunc_api_Envelope_api_Envelope_c71 a.1 a.2.1.1, fnS (K := K) sa_slices_IndexFunc_api_Envelope_api_Envelope_c71 19 [.tmp 4] [k_envelopes_Put_2] (fk Try.f69 [] Try.func69)⟩

/-! ### slices.Insert[[]trustquorum/api.Envelope,trustquorum/api.Envelope] -/
noncomputable def F_slices_Insert_api_Envelope_api_Envelope (s : List TEnvelope) (a0 : Int) (a1 : List TEnvelope) : Option (List TEnvelope) := insF 176 s a0 a1
noncomputable def k_slices_Insert_api_Envelope_api_Envelope : KS U Try.prog := ⟨.cw 72 31 15 (Ty.st .Envelope) [.ty (Ty.i .i64), .ty (Ty.sl (Ty.st .Envelope))] fun s a => F_slices_Insert_api_Envelope_api_Envelope s a.1 a.2.1, insS ins72.ways ins72.enters (fun _ => rfl)⟩

/-! ### trustquorum/envelopes.Put -/
noncomputable def sa_envelopes_Put : SA U := annA (scOf Try.prog 48 [] Try.f37) (.r (.r (.r (.r (.r (.r (.j ⟨[.val 8 (Ty.i .i64)], [3, 6]⟩ .e)))))))
noncomputable def F_envelopes_Put (a0 : (List TEnvelope)) (a1 : TEnvelope) : Option ((List TEnvelope) × Bool × Unit) :=
 Option.bind (F_copies_All_api_Envelope_c68 a0) fun r1 =>
 Option.bind (F_envelopes_Valid (TEnvelope.mk a1.Node a1.Slot a1.Seq (TTrust.mk a1.Trust.Threshold a1.Trust.Nodes a1.Trust.Inner) a1.Kind a1.Ballot a1.Prepared a1.Prime a1.Low a1.High)) fun r2 =>
 bif (!r2) then
 some (r1, false, ())
 else
 Option.bind (F_copies_Envelope (TEnvelope.mk a1.Node a1.Slot a1.Seq (TTrust.mk a1.Trust.Threshold a1.Trust.Nodes a1.Trust.Inner) a1.Kind a1.Ballot a1.Prepared a1.Prime a1.Low a1.High)) fun r3 =>
 Option.bind (F_slices_IndexFunc_api_Envelope_api_Envelope_c70 r1 (TEnvelope.mk r3.Node r3.Slot r3.Seq (TTrust.mk r3.Trust.Threshold r3.Trust.Nodes r3.Trust.Inner) r3.Kind r3.Ballot r3.Prepared r3.Prime r3.Low r3.High)) fun r4 =>
 bif (decide ((0 : Int) ≤ r4)) then
 Option.bind (idx r1 r4) fun x5 =>
 Option.bind (r1[(Int.toNat r4)]?) fun x6 =>
 Option.bind (r1[(Int.toNat r4)]?) fun x7 =>
 bif (decide (r3.Seq ≤ x7.Seq)) then
 some (r1, false, ())
 else
 Option.bind (idx r1 r4) fun x8 =>
 Option.bind (r1[(Int.toNat r4)]?) fun x9 =>
 some ((r1.set (Int.toNat r4) (TEnvelope.mk r3.Node r3.Slot r3.Seq (TTrust.mk r3.Trust.Threshold r3.Trust.Nodes r3.Trust.Inner) r3.Kind r3.Ballot r3.Prepared r3.Prime r3.Low r3.High)), true, ())
 else
 Option.bind (F_slices_IndexFunc_api_Envelope_api_Envelope_c71 r1 (TEnvelope.mk r3.Node r3.Slot r3.Seq (TTrust.mk r3.Trust.Threshold r3.Trust.Nodes r3.Trust.Inner) r3.Kind r3.Ballot r3.Prepared r3.Prime r3.Low r3.High)) fun r10 =>
 letJ (fun (v11 : Int × Unit) =>
 Option.bind (F_slices_Insert_api_Envelope_api_Envelope r1 v11.1 [(TEnvelope.mk r3.Node r3.Slot r3.Seq (TTrust.mk r3.Trust.Threshold r3.Trust.Nodes r3.Trust.Inner) r3.Kind r3.Ballot r3.Prepared r3.Prime r3.Low r3.High)]) fun r13 =>
 some (r13, true, ())) fun j12 =>
 bif (decide (r10 < (0 : Int))) then
 j12 (((List.length r1 : Nat) : Int), ())
 else
 j12 (r10, ())
noncomputable def k_envelopes_Put : KS U Try.prog := ⟨.fn 37 [.ty (Ty.sl (Ty.st .Envelope)), .ty (Ty.st .Envelope)] (.many [(Ty.sl (Ty.st .Envelope)), Ty.bool]) fun a => F_envelopes_Put a.1 a.2.1, fnS (K := K) sa_envelopes_Put 48 [.tmp 4, .tmp 5] [k_copies_All_api_Envelope_c68, k_envelopes_Valid, k_copies_Envelope, k_slices_IndexFunc_api_Envelope_api_Envelope_c70, k_slices_IndexFunc_api_Envelope_api_Envelope_c71, k_slices_Insert_api_Envelope_api_Envelope] (fk Try.f37 [] Try.func37)⟩

/-! ### trustquorum/trustquorumref01.Same -/
noncomputable def sa_ref01_Same : SA U := annA (scOf Try.prog 26 [] Try.f128) (.r (.r (.l (.r (.l (.j ⟨[.val 13 (Ty.i .i64)], [0, 1, 12]⟩ .e))))))
noncomputable def F_ref01_Same (a0 : (List Int)) (a1 : (List Int)) : Option Bool :=
 bif (!decide (((List.length a0 : Nat) : Int) = ((List.length a1 : Nat) : Int))) then
 some false
 else
 loopO (fun (v1 : Int × Unit) =>
 bif (decide (v1.1 < ((List.length a0 : Nat) : Int))) then
 Option.bind (idx a0 v1.1) fun x2 =>
 Option.bind (idx a1 v1.1) fun x3 =>
 bif (!decide (x2 = x3)) then
 Option.map Sum.inr (some false)
 else
 some (Sum.inl ((addI .i64 v1.1 (1 : Int)), ()))
 else
 Option.map Sum.inr (some true)) ((0 : Int), ())
noncomputable def k_ref01_Same : KS U Try.prog := ⟨.fn 128 [.ty (Ty.sl (Ty.i .i64)), .ty (Ty.sl (Ty.i .i64))] (.one Ty.bool) fun a => F_ref01_Same a.1 a.2.1, fnS (K := K) sa_ref01_Same 26 [.tmp 4] [] (fk Try.f128 [] Try.func128)⟩

/-! ### trustquorum/trustquorumref02.Same -/
noncomputable def sa_ref02_Same : SA U := annA (scOf Try.prog 47 [] Try.f105) (.r (.r (.l (.r (.l (.j ⟨[.val 31 (Ty.i .i64)], [2, 3, 30]⟩ .e))))))
noncomputable def B_ref02_Same (rec : (TTrust × TTrust × Unit) → Option Bool) (a0 : TTrust) (a1 : TTrust) : Option Bool :=
 Option.bind (bif (!decide (a0.Threshold = a1.Threshold)) then some true
 else
 Option.bind (F_ref01_Same a0.Nodes a1.Nodes) fun r1 =>
 some (!r1)) fun b2 =>
 Option.bind (bif b2 then some true
 else
 some (!decide (((List.length a0.Inner : Nat) : Int) = ((List.length a1.Inner : Nat) : Int)))) fun b3 =>
 bif b3 then
 some false
 else
 loopO (fun (v4 : Int × Unit) =>
 bif (decide (v4.1 < ((List.length a0.Inner : Nat) : Int))) then
 Option.bind (idx a0.Inner v4.1) fun x5 =>
 Option.bind (idx a1.Inner v4.1) fun x6 =>
 Option.bind (rec ((TTrust.mk x5.Threshold x5.Nodes x5.Inner), (TTrust.mk x6.Threshold x6.Nodes x6.Inner), ())) fun r7 =>
 bif (!r7) then
 Option.map Sum.inr (some false)
 else
 some (Sum.inl ((addI .i64 v4.1 (1 : Int)), ()))
 else
 Option.map Sum.inr (some true)) ((0 : Int), ())
noncomputable def I_ref02_Same : Nat → (TTrust × TTrust × Unit) → Option Bool := iterF (fun rec a => B_ref02_Same rec a.1 a.2.1)
noncomputable def F_ref02_Same (a0 : TTrust) (a1 : TTrust) : Option Bool := I_ref02_Same (SizeOf.sizeOf a0 + SizeOf.sizeOf a1 + 1) (a0, a1, ())
noncomputable def k_ref02_Same : KS U Try.prog := ⟨.fn 105 [.ty (Ty.st .Trust), .ty (Ty.st .Trust)] (.one Ty.bool) fun a => F_ref02_Same a.1 a.2.1, fnRS (K := K) («as» := [.ty (Ty.st .Trust), .ty (Ty.st .Trust)]) (r := .one Ty.bool) (B := fun rec a => B_ref02_Same rec a.1 a.2.1) sa_ref02_Same 47 [.tmp 4] [k_ref01_Same] (fk Try.f105 [] Try.func105) (hF := fun a => ⟨_, rfl⟩)⟩

/-! ### trustquorum/trustquorumref24.Same -/
noncomputable def sa_ref24_Same : SA U := annA (scOf Try.prog 73 [] Try.f73) .e
noncomputable def F_ref24_Same (a0 : TEnvelope) (a1 : TEnvelope) : Option Bool :=
 Option.bind (bif (decide (a0.Node = a1.Node)) then
 some (decide (a0.Slot = a1.Slot))
 else some false) fun b1 =>
 Option.bind (bif b1 then
 some (decide (a0.Seq = a1.Seq))
 else some false) fun b2 =>
 Option.bind (bif b2 then
 Option.bind (F_ref02_Same (TTrust.mk a0.Trust.Threshold a0.Trust.Nodes a0.Trust.Inner) (TTrust.mk a1.Trust.Threshold a1.Trust.Nodes a1.Trust.Inner)) fun r3 =>
 some r3
 else some false) fun b4 =>
 Option.bind (bif b4 then
 some (decide (a0.Kind = a1.Kind))
 else some false) fun b5 =>
 Option.bind (bif b5 then
 some (eq2 false a0.Ballot.Counter a1.Ballot.Counter a0.Ballot.Value a1.Ballot.Value)
 else some false) fun b6 =>
 Option.bind (bif b6 then
 some (eq2 false a0.Prepared.Counter a1.Prepared.Counter a0.Prepared.Value a1.Prepared.Value)
 else some false) fun b7 =>
 Option.bind (bif b7 then
 some (eq2 false a0.Prime.Counter a1.Prime.Counter a0.Prime.Value a1.Prime.Value)
 else some false) fun b8 =>
 Option.bind (bif b8 then
 some (decide (a0.Low = a1.Low))
 else some false) fun b9 =>
 Option.bind (bif b9 then
 some (decide (a0.High = a1.High))
 else some false) fun b10 =>
 some b10
noncomputable def k_ref24_Same : KS U Try.prog := ⟨.fn 73 [.ty (Ty.st .Envelope), .ty (Ty.st .Envelope)] (.one Ty.bool) fun a => F_ref24_Same a.1 a.2.1, fnS (K := K) sa_ref24_Same 73 [.tmp 4] [k_ref02_Same] (fk Try.f73 [] Try.func73)⟩

/-! ### trustquorum/trustquorumref24.Envelopes -/
noncomputable def sa_ref24_Envelopes : SA U := annA (scOf Try.prog 27 [] Try.f38) (.r (.r (.l (.r (.l (.j ⟨[.val 13 (Ty.i .i64)], [0, 1, 12]⟩ .e))))))
noncomputable def F_ref24_Envelopes (a0 : (List TEnvelope)) (a1 : (List TEnvelope)) : Option Bool :=
 bif (!decide (((List.length a0 : Nat) : Int) = ((List.length a1 : Nat) : Int))) then
 some false
 else
 loopO (fun (v1 : Int × Unit) =>
 bif (decide (v1.1 < ((List.length a0 : Nat) : Int))) then
 Option.bind (idx a0 v1.1) fun x2 =>
 Option.bind (idx a1 v1.1) fun x3 =>
 Option.bind (F_ref24_Same (TEnvelope.mk x2.Node x2.Slot x2.Seq (TTrust.mk x2.Trust.Threshold x2.Trust.Nodes x2.Trust.Inner) x2.Kind x2.Ballot x2.Prepared x2.Prime x2.Low x2.High) (TEnvelope.mk x3.Node x3.Slot x3.Seq (TTrust.mk x3.Trust.Threshold x3.Trust.Nodes x3.Trust.Inner) x3.Kind x3.Ballot x3.Prepared x3.Prime x3.Low x3.High)) fun r4 =>
 bif (!r4) then
 Option.map Sum.inr (some false)
 else
 some (Sum.inl ((addI .i64 v1.1 (1 : Int)), ()))
 else
 Option.map Sum.inr (some true)) ((0 : Int), ())
noncomputable def k_ref24_Envelopes : KS U Try.prog := ⟨.fn 38 [.ty (Ty.sl (Ty.st .Envelope)), .ty (Ty.sl (Ty.st .Envelope))] (.one Ty.bool) fun a => F_ref24_Envelopes a.1 a.2.1, fnS (K := K) sa_ref24_Envelopes 27 [.tmp 4] [k_ref24_Same] (fk Try.f38 [] Try.func38)⟩

/-! ### trustquorum/trustquorumlaw24.EnvelopesNewest -/
noncomputable def sa_law24_EnvelopesNewest : SA U := annA (scOf Try.prog 106 [] Try.f8) (.r (.r (.r (.b (.r (.l (.ps (.own 4 31 15 (Ty.st .Envelope)) (.j ⟨[.val 5 (Ty.i .i64), .own 4 8 1 31 15 (Ty.st .Envelope), .box 2 1 (Ty.st .Src) []], [3]⟩ .e)))) (.r (.b (.r (.l (.j ⟨[.val 7 (Ty.sl (Ty.st .Envelope)), .val 8 (Ty.sl (Ty.st .Envelope)), .val 34 (Ty.i .i64)], [4, 33]⟩ .e))) (.l (.r (.l (.j ⟨[.val 62 (Ty.i .i64)], [4, 7, 8, 60, 61]⟩ (.l (.r (.r (.l (.l (.r (.b (.j ⟨[.val 79 Ty.bool], [4, 7, 8, 11, 60, 61, 62]⟩ .e) (.r (.l (.j ⟨[.val 82 (Ty.i .i64)], [4, 7, 8, 11, 60, 61, 62, 80, 81]⟩ .e))))))))))))))))))))
noncomputable def F_law24_EnvelopesNewest (a0 : (List Int)) : Option Bool :=
 Option.bind (F_play_New a0) fun r1 =>
 Option.bind (F_play_Src_N r1 (9 : Int)) fun p2 =>
 loopO (fun (v3 : Int × (List TEnvelope) × TSrc × Unit) =>
 bif (decide ((0 : Int) < v3.1)) then
 Option.bind (F_play_Src_N v3.2.2.1 (4 : Int)) fun p4 =>
 Option.bind (F_play_Src_Envelope p4.2 p4.1 (1 : Int) (5 : Int)) fun p5 =>
 bif lenOk 176 (List.length v3.2.1 + List.length [(TEnvelope.mk p5.1.Node p5.1.Slot v3.1 (TTrust.mk p5.1.Trust.Threshold p5.1.Trust.Nodes p5.1.Trust.Inner) p5.1.Kind p5.1.Ballot p5.1.Prepared p5.1.Prime p5.1.Low p5.1.High)]) then
 some (Sum.inl ((subI .i64 v3.1 (1 : Int)), (v3.2.1 ++ [(TEnvelope.mk p5.1.Node p5.1.Slot v3.1 (TTrust.mk p5.1.Trust.Threshold p5.1.Trust.Nodes p5.1.Trust.Inner) p5.1.Kind p5.1.Ballot p5.1.Prepared p5.1.Prime p5.1.Low p5.1.High)]), p5.2, ()))
 else none
 else
 Option.map Sum.inr (loopO (fun (v6 : (List TEnvelope) × (List TEnvelope) × Int × Unit) =>
 bif (decide (v6.2.2.1 < ((List.length v3.2.1 : Nat) : Int))) then
 Option.bind (idx v3.2.1 v6.2.2.1) fun x7 =>
 Option.bind (v3.2.1[(Int.toNat v6.2.2.1)]?) fun x8 =>
 Option.bind (F_envelopes_Put v6.1 (TEnvelope.mk x8.Node x8.Slot x8.Seq (TTrust.mk x8.Trust.Threshold x8.Trust.Nodes x8.Trust.Inner) x8.Kind x8.Ballot x8.Prepared x8.Prime x8.Low x8.High)) fun r9 =>
 Option.bind (idx v3.2.1 (subI .i64 (subI .i64 ((List.length v3.2.1 : Nat) : Int) (1 : Int)) v6.2.2.1)) fun x10 =>
 Option.bind (v3.2.1[(Int.toNat (subI .i64 (subI .i64 ((List.length v3.2.1 : Nat) : Int) (1 : Int)) v6.2.2.1))]?) fun x11 =>
 Option.bind (F_envelopes_Put v6.2.1 (TEnvelope.mk x11.Node x11.Slot x11.Seq (TTrust.mk x11.Trust.Threshold x11.Trust.Nodes x11.Trust.Inner) x11.Kind x11.Ballot x11.Prepared x11.Prime x11.Low x11.High)) fun r12 =>
 some (Sum.inl (r9.1, r12.1, (addI .i64 v6.2.2.1 (1 : Int)), ()))
 else
 Option.map Sum.inr (loopO (fun (v13 : Int × Unit) =>
 bif (decide (v13.1 < ((List.length v6.1 : Nat) : Int))) then
 Option.bind (idx v6.1 v13.1) fun x14 =>
 letJ (fun (v15 : Bool × Unit) =>
 bif v15.1 then
 Option.map Sum.inr (some false)
 else
 loopO (fun (v17 : Int × Unit) =>
 bif (decide (v17.1 < ((List.length v3.2.1 : Nat) : Int))) then
 Option.bind (idx v3.2.1 v17.1) fun x18 =>
 Option.bind (v3.2.1[(Int.toNat v17.1)]?) fun x19 =>
 Option.bind (bif (decide (x19.Node = x14.Node)) then
 some (decide (x14.Seq < x19.Seq))
 else some false) fun b20 =>
 bif b20 then
 Option.map Sum.inr (Option.map Sum.inr (some false))
 else
 some (Sum.inl ((addI .i64 v17.1 (1 : Int)), ()))
 else
 Option.map Sum.inr (some (Sum.inl ((addI .i64 v13.1 (1 : Int)), ())))) ((0 : Int), ())) fun j16 =>
 bif (decide ((0 : Int) < v13.1)) then
 Option.bind (idx v6.1 (subI .i64 v13.1 (1 : Int))) fun x21 =>
 j16 ((decide (x14.Node ≤ x21.Node)), ())
 else
 j16 (false, ())
 else
 Option.map Sum.inr (Option.bind (F_ref24_Envelopes v6.1 v6.2.1) fun r22 =>
 Option.bind (bif r22 then
 Option.bind (F_law24_sane) fun r23 =>
 some r23
 else some false) fun b24 =>
 some b24)) ((0 : Int), ()))) (([] : List TEnvelope), ([] : List TEnvelope), (0 : Int), ()))) (p2.1, ([] : List TEnvelope), p2.2, ())
noncomputable def k_law24_EnvelopesNewest : KS U Try.prog := ⟨.fn 8 [.ty (Ty.sl (Ty.i .i64))] (.one Ty.bool) fun a => F_law24_EnvelopesNewest a.1, fnS (K := K) sa_law24_EnvelopesNewest 106 [.tmp 2] [k_play_New, k_play_Src_N, k_play_Src_Envelope, k_envelopes_Put, k_ref24_Envelopes, k_law24_sane] (fk Try.f8 [] Try.func8)⟩

end Go.Proofs.Ytncjalhhkmojlaa
