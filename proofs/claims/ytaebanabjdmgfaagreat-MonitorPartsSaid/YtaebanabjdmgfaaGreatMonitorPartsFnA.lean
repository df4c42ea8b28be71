/-
  Functions of the program as plain functions, each held against the program by the kernel. Printed by a program.
-/
import Derived.Test.YtaebanabjdmgfaaGreatUni
import Derived.Test.YtaebanabjdmgfaaGreatFilZ
import Derived.Test.YtaebanabjdmgfaaGreatProg
import Derived.KernelRfl
set_option linter.unusedVariables false
namespace Go.Proofs.YtaebanabjdmgfaaGreat
open Go.TQ

/-! ### trustquorum/trustquorumplay.New -/
noncomputable def sa_play_New : SA U := annA (scOf Tryz.prog 10 [] Tryz.f7) .e
noncomputable def F_play_New (a0 : (List Int)) : Option TSrc :=
 bif slcOk (0 : Int) (minI ((List.length a0 : Nat) : Int) (800 : Int)) (List.length a0) then
 some (TSrc.mk ((a0.take (Int.toNat (minI ((List.length a0 : Nat) : Int) (800 : Int)))).drop (Int.toNat (0 : Int))) (0 : Int))
 else none
noncomputable def k_play_New : KS U Tryz.prog := ⟨.nw 7 [.ty (Ty.sl (Ty.i .i64))] (Ty.st .Src) fun a => F_play_New a.1, nwS (K := K) sa_play_New 10 2 [] (fk Tryz.f7 [] Tryz.func7)⟩

/-! ### (*trustquorum/trustquorumplay.Src).N -/
noncomputable def sa_play_Src_N : SA U := annA (scOf Tryz.prog 43 [] Tryz.f9) (.r (.l (.j ⟨[.val 18 Ty.bool], [0, 1]⟩ .e)))
noncomputable def F_play_Src_N (s : TSrc) (a0 : Int) : Option (Int × TSrc) :=
 letJ (fun (v1 : Bool × Unit) =>
 bif v1.1 then
 some ((0 : Int), s)
 else
 Option.bind (idx s.L (subI .i64 (addI .i64 s.At (1 : Int)) (1 : Int))) fun x3 =>
 if a0 = 0 then none else
 if a0 = 0 then none else
 some ((remI .i64 (addI .i64 (remI .i64 x3 a0) a0) a0), (TSrc.mk s.L (addI .i64 s.At (1 : Int))))) fun j2 =>
 bif (decide (((List.length s.L : Nat) : Int) ≤ s.At)) then
 j2 (true, ())
 else
 j2 ((decide (a0 < (1 : Int))), ())
noncomputable def k_play_Src_N : KS U Tryz.prog := ⟨.rc 9 0 (Ty.st .Src) [.ty (Ty.i .i64)] (.one (Ty.i .i64)) fun s a => F_play_Src_N s a.1, rcS (K := K) sa_play_Src_N 43 [.tmp 4] [] (fk Tryz.f9 [] Tryz.func9)⟩

/-! ### (*trustquorum/trustquorumplay.Src).Range -/
noncomputable def sa_play_Src_Range : SA U := annA (scOf Tryz.prog 15 [] Tryz.f24) .e
noncomputable def F_play_Src_Range (s : TSrc) (a0 : Int) (a1 : Int) : Option (Int × TSrc) :=
 Option.bind (F_play_Src_N s (addI .i64 (subI .i64 a1 a0) (1 : Int))) fun p1 =>
 some ((addI .i64 a0 p1.1), p1.2)
noncomputable def k_play_Src_Range : KS U Tryz.prog := ⟨.rc 24 0 (Ty.st .Src) [.ty (Ty.i .i64), .ty (Ty.i .i64)] (.one (Ty.i .i64)) fun s a => F_play_Src_Range s a.1 a.2.1, rcS (K := K) sa_play_Src_Range 15 [.tmp 6] [k_play_Src_N] (fk Tryz.f24 [] Tryz.func24)⟩

/-! ### (*trustquorum/trustquorumplay.Src).Trust -/
noncomputable def sa_play_Src_Trust : SA U := annA (scOf Tryz.prog 63 [] Tryz.f43) (.r (.r (.b (.r (.l (.ps (.ownB 5 1 3 1 (Ty.i .i64)) (.ps (.ownB 5 2 34 3 (Ty.st .Trust)) (.j ⟨[.val 6 (Ty.i .i64), .box 0 0 (Ty.st .Src) [], .box 2 1 (Ty.st .Trust) [(1, 4, 1), (2, 5, 1)], .rowb 4 1 3 1 (Ty.i .i64), .rowb 5 1 34 3 (Ty.st .Trust)], [0, 1, 4, 5]⟩ (.l (.r (.j ⟨[.box 0 0 (Ty.st .Src) [], .box 2 1 (Ty.st .Trust) [(1, 4, 1), (2, 5, 1)], .rowb 4 1 3 1 (Ty.i .i64), .rowb 5 1 34 3 (Ty.st .Trust)], [0, 1, 4, 5, 6]⟩ .e)))))))) (.ps (.frzB 5 1) (.j ⟨[.box 0 0 (Ty.st .Src) [], .box 2 1 (Ty.st .Trust) [(2, 5, 1)], .rowb 5 1 34 3 (Ty.st .Trust)], [0, 1, 4, 5]⟩ (.r (.j ⟨[.box 0 0 (Ty.st .Src) [], .box 2 1 (Ty.st .Trust) [(2, 5, 1)], .rowb 5 1 34 3 (Ty.st .Trust)], [0, 4, 5]⟩ (.r (.r (.r (.j ⟨[.box 0 0 (Ty.st .Src) [], .box 2 1 (Ty.st .Trust) [(2, 5, 1)], .rowb 5 1 34 3 (Ty.st .Trust)], [4, 5]⟩ .e)))))))))))
noncomputable def F_play_Src_Trust (s : TSrc) (a0 : Int) : Option (TTrust × TSrc) :=
 loopO (fun (v1 : Int × TSrc × TTrust × (List Int) × (List TTrust) × Unit) =>
 bif (decide (v1.1 < a0)) then
 letJ (fun (v2 : TSrc × TTrust × (List Int) × (List TTrust) × Unit) =>
 some (Sum.inl ((addI .i64 v1.1 (1 : Int)), v2.1, (TTrust.mk v2.2.1.Threshold ([] : List Int) ([] : List TTrust)), v2.2.2.1, v2.2.2.2.1, ()))) fun j3 =>
 Option.bind (F_play_Src_N v1.2.1 (5 : Int)) fun p4 =>
 bif (decide ((0 : Int) < p4.1)) then
 bif lenOk 8 (List.length v1.2.2.2.1 + List.length [v1.1]) then
 j3 (p4.2, (TTrust.mk v1.2.2.1.Threshold ([] : List Int) ([] : List TTrust)), (v1.2.2.2.1 ++ [v1.1]), v1.2.2.2.2.1, ())
 else none
 else
 j3 (p4.2, (TTrust.mk v1.2.2.1.Threshold ([] : List Int) ([] : List TTrust)), v1.2.2.2.1, v1.2.2.2.2.1, ())
 else
 Option.map Sum.inr (letJ (fun (v5 : TSrc × TTrust × (List TTrust) × Unit) =>
 letJ (fun (v7 : TSrc × TTrust × (List TTrust) × Unit) =>
 Option.bind (F_play_Src_Range v7.1 (quoI .i64 (addI .i64 (addI .i64 ((List.length v7.2.1.Nodes : Nat) : Int) ((List.length v7.2.2.1 : Nat) : Int)) (1 : Int)) (2 : Int)) (addI .i64 ((List.length v7.2.1.Nodes : Nat) : Int) ((List.length v7.2.2.1 : Nat) : Int))) fun p9 =>
 letJ (fun (v10 : TSrc × TTrust × (List TTrust) × Unit) =>
 some ((TTrust.mk v10.2.1.Threshold v10.2.1.Nodes v10.2.2.1), v10.1)) fun j11 =>
 Option.bind (F_play_Src_N p9.2 (6 : Int)) fun p12 =>
 bif (decide (p12.1 = (5 : Int))) then
 j11 (p12.2, (TTrust.mk (1 : Int) v7.2.1.Nodes ([] : List TTrust)), v7.2.2.1, ())
 else
 j11 (p12.2, (TTrust.mk p9.1 v7.2.1.Nodes ([] : List TTrust)), v7.2.2.1, ())) fun j8 =>
 Option.bind (F_play_Src_N v5.1 (4 : Int)) fun p13 =>
 bif (decide (p13.1 = (3 : Int))) then
 Option.bind (F_play_Src_N p13.2 a0) fun p14 =>
 bif lenOk 56 (List.length v5.2.2.1 + List.length [(TTrust.mk (1 : Int) [p14.1] ([] : List TTrust))]) then
 j8 (p14.2, (TTrust.mk v5.2.1.Threshold v5.2.1.Nodes ([] : List TTrust)), (v5.2.2.1 ++ [(TTrust.mk (1 : Int) [p14.1] ([] : List TTrust))]), ())
 else none
 else
 j8 (p13.2, (TTrust.mk v5.2.1.Threshold v5.2.1.Nodes ([] : List TTrust)), v5.2.2.1, ())) fun j6 =>
 bif (decide (((List.length v1.2.2.2.1 : Nat) : Int) = (0 : Int))) then
 Option.bind (F_play_Src_N v1.2.1 a0) fun p15 =>
 j6 (p15.2, (TTrust.mk v1.2.2.1.Threshold [p15.1] ([] : List TTrust)), v1.2.2.2.2.1, ())
 else
 j6 (v1.2.1, (TTrust.mk v1.2.2.1.Threshold v1.2.2.2.1 ([] : List TTrust)), v1.2.2.2.2.1, ()))) ((0 : Int), s, (TTrust.mk (0 : Int) ([] : List Int) ([] : List TTrust)), ([] : List Int), ([] : List TTrust), ())
noncomputable def k_play_Src_Trust : KS U Tryz.prog := ⟨.rc 43 0 (Ty.st .Src) [.ty (Ty.i .i64)] (.one (Ty.st .Trust)) fun s a => F_play_Src_Trust s a.1, rcS (K := K) sa_play_Src_Trust 63 [.cell 4 (some 3)] [k_play_Src_N, k_play_Src_Range] (fk Tryz.f43 [] Tryz.func43)⟩

/-! ### (*trustquorum/trustquorumplay.Src).Text -/
noncomputable def sa_play_Src_Text : SA U := annA (scOf Tryz.prog 12 [] Tryz.f58) .e
noncomputable def F_play_Src_Text (s : TSrc) (a0 : (List ByteArray)) : Option (ByteArray × TSrc) :=
 Option.bind (F_play_Src_N s ((List.length a0 : Nat) : Int)) fun p1 =>
 Option.bind (idx a0 p1.1) fun x2 =>
 some (x2, p1.2)
noncomputable def k_play_Src_Text : KS U Tryz.prog := ⟨.rc 58 0 (Ty.st .Src) [.ty (Ty.sl Ty.str)] (.one Ty.str) fun s a => F_play_Src_Text s a.1, rcS (K := K) sa_play_Src_Text 12 [.tmp 4] [k_play_Src_N] (fk Tryz.f58 [] Tryz.func58)⟩

/-! ### (*trustquorum/trustquorumplay.Src).Value -/
noncomputable def sa_play_Src_Value : SA U := annA (scOf Tryz.prog 6 [] Tryz.f44) .e
noncomputable def F_play_Src_Value (s : TSrc)  : Option (ByteArray × TSrc) :=
 Option.bind (F_play_Src_Text s [(ByteArray.mk #[97]), (ByteArray.mk #[98]), (ByteArray.mk #[99]), (ByteArray.mk #[97, 97])]) fun p1 =>
 some (p1.1, p1.2)
noncomputable def k_play_Src_Value : KS U Tryz.prog := ⟨.rc 44 0 (Ty.st .Src) [] (.one Ty.str) fun s a => F_play_Src_Value s , rcS (K := K) sa_play_Src_Value 6 [.tmp 2] [k_play_Src_Text] (fk Tryz.f44 [] Tryz.func44)⟩

/-! ### (*trustquorum/trustquorumplay.Src).Low -/
noncomputable def sa_play_Src_Low : SA U := annA (scOf Tryz.prog 8 [] Tryz.f45) .e
noncomputable def F_play_Src_Low (s : TSrc)  : Option (TBallot × TSrc) :=
 Option.bind (F_play_Src_Range s (1 : Int) (6 : Int)) fun p1 =>
 Option.bind (F_play_Src_Value p1.2) fun p2 =>
 some ((TBallot.mk p1.1 p2.1), p2.2)
noncomputable def k_play_Src_Low : KS U Tryz.prog := ⟨.rc 45 0 (Ty.st .Src) [] (.one (Ty.st .Ballot)) fun s a => F_play_Src_Low s , rcS (K := K) sa_play_Src_Low 8 [.cell 2 (some 2)] [k_play_Src_Range, k_play_Src_Value] (fk Tryz.f45 [] Tryz.func45)⟩

/-! ### trustquorum/trustquorumref02.Depth -/
noncomputable def sa_ref02_Depth : SA U := annA (scOf Tryz.prog 20 [] Tryz.f74) (.r (.r (.l (.r (.l (.j ⟨[.val 3 (Ty.i .i64), .val 9 (Ty.i .i64)], [7, 8]⟩ .e))))))
noncomputable def B_ref02_Depth (rec : (TTrust × Unit) → Option Int) (a0 : TTrust) : Option Int :=
 loopO (fun (v1 : Int × Int × Unit) =>
 bif (decide (v1.2.1 < ((List.length a0.Inner : Nat) : Int))) then
 Option.bind (idx a0.Inner v1.2.1) fun x2 =>
 Option.bind (rec ((TTrust.mk x2.Threshold x2.Nodes x2.Inner), ())) fun r3 =>
 some (Sum.inl ((maxI v1.1 r3), (addI .i64 v1.2.1 (1 : Int)), ()))
 else
 Option.map Sum.inr (some (addI .i64 v1.1 (1 : Int)))) ((0 : Int), (0 : Int), ())
noncomputable def I_ref02_Depth : Nat → (TTrust × Unit) → Option Int := iterF (fun rec a => B_ref02_Depth rec a.1)
noncomputable def F_ref02_Depth (a0 : TTrust) : Option Int := I_ref02_Depth (SizeOf.sizeOf a0 + 1) (a0, ())
noncomputable def k_ref02_Depth : KS U Tryz.prog := ⟨.fn 74 [.ty (Ty.st .Trust)] (.one (Ty.i .i64)) fun a => F_ref02_Depth a.1, fnRS (K := K) («as» := [.ty (Ty.st .Trust)]) (r := .one (Ty.i .i64)) (B := fun rec a => B_ref02_Depth rec a.1) sa_ref02_Depth 20 [.tmp 2] [] (fk Tryz.f74 [] Tryz.func74) (hF := fun a => ⟨_, rfl⟩)⟩

/-! ### trustquorum/trustquorumref02.Size -/
noncomputable def sa_ref02_Size : SA U := annA (scOf Tryz.prog 26 [] Tryz.f75) (.r (.r (.l (.r (.l (.j ⟨[.val 3 (Ty.i .i64), .val 16 (Ty.i .i64)], [14, 15]⟩ .e))))))
noncomputable def B_ref02_Size (rec : (TTrust × Unit) → Option Int) (a0 : TTrust) : Option Int :=
 loopO (fun (v1 : Int × Int × Unit) =>
 bif (decide (v1.2.1 < ((List.length a0.Inner : Nat) : Int))) then
 Option.bind (idx a0.Inner v1.2.1) fun x2 =>
 Option.bind (rec ((TTrust.mk x2.Threshold x2.Nodes x2.Inner), ())) fun r3 =>
 some (Sum.inl ((addI .i64 v1.1 r3), (addI .i64 v1.2.1 (1 : Int)), ()))
 else
 Option.map Sum.inr (some v1.1)) ((addI .i64 ((List.length a0.Nodes : Nat) : Int) ((List.length a0.Inner : Nat) : Int)), (0 : Int), ())
noncomputable def I_ref02_Size : Nat → (TTrust × Unit) → Option Int := iterF (fun rec a => B_ref02_Size rec a.1)
noncomputable def F_ref02_Size (a0 : TTrust) : Option Int := I_ref02_Size (SizeOf.sizeOf a0 + 1) (a0, ())
noncomputable def k_ref02_Size : KS U Tryz.prog := ⟨.fn 75 [.ty (Ty.st .Trust)] (.one (Ty.i .i64)) fun a => F_ref02_Size a.1, fnRS (K := K) («as» := [.ty (Ty.st .Trust)]) (r := .one (Ty.i .i64)) (B := fun rec a => B_ref02_Size rec a.1) sa_ref02_Size 26 [.tmp 2] [] (fk Tryz.f75 [] Tryz.func75) (hF := fun a => ⟨_, rfl⟩)⟩

/-! ### trustquorum/trustquorumref01.Valid -/
noncomputable def sa_ref01_Valid : SA U := annA (scOf Tryz.prog 9 [] Tryz.f34) .e
noncomputable def F_ref01_Valid (a0 : Int) : Option Bool :=
 Option.bind (bif (decide ((0 : Int) ≤ a0)) then
 some (decide (a0 ≤ (1023 : Int)))
 else some false) fun b1 =>
 some b1
noncomputable def k_ref01_Valid : KS U Tryz.prog := ⟨.fn 34 [.ty (Ty.i .i64)] (.one Ty.bool) fun a => F_ref01_Valid a.1, fnS (K := K) sa_ref01_Valid 9 [.tmp 2] [] (fk Tryz.f34 [] Tryz.func34)⟩

/-! ### trustquorum/trustquorumref01.Has -/
noncomputable def sa_ref01_Has : SA U := annA (scOf Tryz.prog 22 [] Tryz.f102) .e
noncomputable def F_ref01_Has (a0 : Int) (a1 : Int) : Option Bool :=
 Option.bind (F_ref01_Valid a0) fun r1 =>
 Option.bind (bif r1 then
 some (decide ((0 : Int) ≤ a1))
 else some false) fun b2 =>
 Option.bind (bif b2 then
 some (decide (a1 < (10 : Int)))
 else some false) fun b3 =>
 Option.bind (bif b3 then
 if a1 < 0 then none else
 some (decide ((andI .i64 (shrI .i64 a0 a1) (1 : Int)) = (1 : Int)))
 else some false) fun b4 =>
 some b4
noncomputable def k_ref01_Has : KS U Tryz.prog := ⟨.fn 102 [.ty (Ty.i .i64), .ty (Ty.i .i64)] (.one Ty.bool) fun a => F_ref01_Has a.1 a.2.1, fnS (K := K) sa_ref01_Has 22 [.tmp 4] [k_ref01_Valid] (fk Tryz.f102 [] Tryz.func102)⟩

/-! ### trustquorum/trustquorumref01.Of -/
noncomputable def sa_ref01_Of : SA U := annA (scOf Tryz.prog 28 [] Tryz.f104) (.r (.r (.l (.r (.l (.j ⟨[.val 4 (Ty.i .i64), .val 9 (Ty.i .i64)], [7, 8]⟩ .e))))))
noncomputable def F_ref01_Of (a0 : (List Int)) : Option (Int × Int × Unit) :=
 loopO (fun (v1 : Int × Int × Unit) =>
 bif (decide (v1.2.1 < ((List.length a0 : Nat) : Int))) then
 Option.bind (idx a0 v1.2.1) fun x2 =>
 Option.bind (bif (decide (x2 < (0 : Int))) then some true
 else
 some (decide ((10 : Int) ≤ x2))) fun b3 =>
 bif b3 then
 Option.map Sum.inr (some ((0 : Int), (5 : Int), ()))
 else
 Option.bind (F_ref01_Has v1.1 x2) fun r4 =>
 bif r4 then
 Option.map Sum.inr (some ((0 : Int), (6 : Int), ()))
 else
 if x2 < 0 then none else
 some (Sum.inl ((orI .i64 v1.1 (shlI .i64 (1 : Int) x2)), (addI .i64 v1.2.1 (1 : Int)), ()))
 else
 Option.map Sum.inr (some (v1.1, (0 : Int), ()))) ((0 : Int), (0 : Int), ())
noncomputable def k_ref01_Of : KS U Tryz.prog := ⟨.fn 104 [.ty (Ty.sl (Ty.i .i64))] (.many [(Ty.i .i64), (Ty.i .i64)]) fun a => F_ref01_Of a.1, fnS (K := K) sa_ref01_Of 28 [.tmp 2, .tmp 3] [k_ref01_Has] (fk Tryz.f104 [] Tryz.func104)⟩

/-! ### trustquorum/trustquorumref02.check -/
noncomputable def sa_ref02_check : SA U := annA (scOf Tryz.prog 61 [] Tryz.f76) (.r (.r (.b (.r (.l (.j ⟨[.val 28 (Ty.i .i64)], [1, 26, 27]⟩ .e))) (.r (.l (.r (.l (.j ⟨[.val 51 (Ty.i .i64)], [49, 50]⟩ .e))))))))
noncomputable def B_ref02_check (rec : (TTrust × Unit) → Option Int) (a0 : TTrust) : Option Int :=
 Option.bind (bif (decide (a0.Threshold < (1 : Int))) then some true
 else
 some (decide ((addI .i64 ((List.length a0.Nodes : Nat) : Int) ((List.length a0.Inner : Nat) : Int)) < a0.Threshold))) fun b1 =>
 bif b1 then
 some (4 : Int)
 else
 loopO (fun (v2 : Int × Unit) =>
 bif (decide (v2.1 < ((List.length a0.Nodes : Nat) : Int))) then
 Option.bind (idx a0.Nodes v2.1) fun x3 =>
 Option.bind (bif (decide (x3 < (0 : Int))) then some true
 else
 some (decide ((10 : Int) ≤ x3))) fun b4 =>
 bif b4 then
 Option.map Sum.inr (some (5 : Int))
 else
 some (Sum.inl ((addI .i64 v2.1 (1 : Int)), ()))
 else
 Option.map Sum.inr (Option.bind (F_ref01_Of a0.Nodes) fun r5 =>
 bif (!decide (r5.2.1 = (0 : Int))) then
 some r5.2.1
 else
 loopO (fun (v6 : Int × Unit) =>
 bif (decide (v6.1 < ((List.length a0.Inner : Nat) : Int))) then
 Option.bind (idx a0.Inner v6.1) fun x7 =>
 Option.bind (rec ((TTrust.mk x7.Threshold x7.Nodes x7.Inner), ())) fun r8 =>
 bif (!decide (r8 = (0 : Int))) then
 Option.map Sum.inr (some r8)
 else
 some (Sum.inl ((addI .i64 v6.1 (1 : Int)), ()))
 else
 Option.map Sum.inr (some (0 : Int))) ((0 : Int), ()))) ((0 : Int), ())
noncomputable def I_ref02_check : Nat → (TTrust × Unit) → Option Int := iterF (fun rec a => B_ref02_check rec a.1)
noncomputable def F_ref02_check (a0 : TTrust) : Option Int := I_ref02_check (SizeOf.sizeOf a0 + 1) (a0, ())
noncomputable def k_ref02_check : KS U Tryz.prog := ⟨.fn 76 [.ty (Ty.st .Trust)] (.one (Ty.i .i64)) fun a => F_ref02_check a.1, fnRS (K := K) («as» := [.ty (Ty.st .Trust)]) (r := .one (Ty.i .i64)) (B := fun rec a => B_ref02_check rec a.1) sa_ref02_check 61 [.tmp 2] [k_ref01_Of] (fk Tryz.f76 [] Tryz.func76) (hF := fun a => ⟨_, rfl⟩)⟩

/-! ### trustquorum/trustquorumref02.Valid -/
noncomputable def sa_ref02_Valid : SA U := annA (scOf Tryz.prog 13 [] Tryz.f38) .e
noncomputable def F_ref02_Valid (a0 : TTrust) : Option Int :=
 Option.bind (F_ref02_Depth (TTrust.mk a0.Threshold a0.Nodes a0.Inner)) fun r1 =>
 Option.bind (bif (decide ((4 : Int) < r1)) then some true
 else
 Option.bind (F_ref02_Size (TTrust.mk a0.Threshold a0.Nodes a0.Inner)) fun r2 =>
 some (decide ((200 : Int) < r2))) fun b3 =>
 bif b3 then
 some (3 : Int)
 else
 Option.bind (F_ref02_check (TTrust.mk a0.Threshold a0.Nodes a0.Inner)) fun r4 =>
 some r4
noncomputable def k_ref02_Valid : KS U Tryz.prog := ⟨.fn 38 [.ty (Ty.st .Trust)] (.one (Ty.i .i64)) fun a => F_ref02_Valid a.1, fnS (K := K) sa_ref02_Valid 13 [.tmp 2] [k_ref02_Depth, k_ref02_Size, k_ref02_check] (fk Tryz.f38 [] Tryz.func38)⟩

/-! ### trustquorum/trustquorumref23.Valid -/
noncomputable def sa_ref23_Valid : SA U := annA (scOf Tryz.prog 28 [] Tryz.f39) .e
noncomputable def F_ref23_Valid (a0 : TBallot) : Option Bool :=
 Option.bind (bif (decide ((1 : Int) ≤ a0.Counter)) then
 some (decide (a0.Counter ≤ (1000 : Int)))
 else some false) fun b1 =>
 Option.bind (bif b1 then some true
 else
 some (decide (a0.Counter = (1000000 : Int)))) fun b2 =>
 Option.bind (bif b2 then
 some (decide ((1 : Int) ≤ ((ByteArray.size a0.Value : Nat) : Int)))
 else some false) fun b3 =>
 Option.bind (bif b3 then
 some (decide (((ByteArray.size a0.Value : Nat) : Int) ≤ (200 : Int)))
 else some false) fun b4 =>
 some b4
noncomputable def k_ref23_Valid : KS U Tryz.prog := ⟨.fn 39 [.ty (Ty.st .Ballot)] (.one Ty.bool) fun a => F_ref23_Valid a.1, fnS (K := K) sa_ref23_Valid 28 [.tmp 2] [] (fk Tryz.f39 [] Tryz.func39)⟩

/-! ### trustquorum/trustquorumref23.Zero -/
noncomputable def sa_ref23_Zero : SA U := annA (scOf Tryz.prog 6 [] Tryz.f30) .e
noncomputable def F_ref23_Zero (a0 : TBallot) : Option Bool :=
 some (eq2 false a0.Counter (0 : Int) a0.Value (ByteArray.mk #[]))
noncomputable def k_ref23_Zero : KS U Tryz.prog := ⟨.fn 30 [.ty (Ty.st .Ballot)] (.one Ty.bool) fun a => F_ref23_Zero a.1, fnS (K := K) sa_ref23_Zero 6 [.tmp 2] [] (fk Tryz.f30 [] Tryz.func30)⟩

/-! ### trustquorum/trustquorumref23.LessValue -/
noncomputable def sa_ref23_LessValue : SA U := annA (scOf Tryz.prog 18 [] Tryz.f77) .e
noncomputable def F_ref23_LessValue (a0 : ByteArray) (a1 : ByteArray) : Option Bool :=
 bif (!decide (((ByteArray.size a0 : Nat) : Int) = ((ByteArray.size a1 : Nat) : Int))) then
 some (decide (((ByteArray.size a0 : Nat) : Int) < ((ByteArray.size a1 : Nat) : Int)))
 else
 some (sless a0 a1)
noncomputable def k_ref23_LessValue : KS U Tryz.prog := ⟨.fn 77 [.ty Ty.str, .ty Ty.str] (.one Ty.bool) fun a => F_ref23_LessValue a.1 a.2.1, fnS (K := K) sa_ref23_LessValue 18 [.tmp 4] [] (fk Tryz.f77 [] Tryz.func77)⟩

/-! ### trustquorum/trustquorumref23.Less -/
noncomputable def sa_ref23_Less : SA U := annA (scOf Tryz.prog 20 [] Tryz.f40) .e
noncomputable def F_ref23_Less (a0 : TBallot) (a1 : TBallot) : Option Bool :=
 bif (!decide (a0.Counter = a1.Counter)) then
 some (decide (a0.Counter < a1.Counter))
 else
 Option.bind (F_ref23_LessValue a0.Value a1.Value) fun r1 =>
 some r1
noncomputable def k_ref23_Less : KS U Tryz.prog := ⟨.fn 40 [.ty (Ty.st .Ballot), .ty (Ty.st .Ballot)] (.one Ty.bool) fun a => F_ref23_Less a.1 a.2.1, fnS (K := K) sa_ref23_Less 20 [.tmp 4] [k_ref23_LessValue] (fk Tryz.f40 [] Tryz.func40)⟩

/-! ### trustquorum/trustquorumref23.Compatible -/
noncomputable def sa_ref23_Compatible : SA U := annA (scOf Tryz.prog 10 [] Tryz.f32) .e
noncomputable def F_ref23_Compatible (a0 : TBallot) (a1 : TBallot) : Option Bool :=
 some (decide (a0.Value = a1.Value))
noncomputable def k_ref23_Compatible : KS U Tryz.prog := ⟨.fn 32 [.ty (Ty.st .Ballot), .ty (Ty.st .Ballot)] (.one Ty.bool) fun a => F_ref23_Compatible a.1 a.2.1, fnS (K := K) sa_ref23_Compatible 10 [.tmp 4] [] (fk Tryz.f32 [] Tryz.func32)⟩

/-! ### trustquorum/trustquorumref23.Covers -/
noncomputable def sa_ref23_Covers : SA U := annA (scOf Tryz.prog 20 [] Tryz.f31) .e
noncomputable def F_ref23_Covers (a0 : TBallot) (a1 : TBallot) : Option Bool :=
 Option.bind (F_ref23_Zero a0) fun r1 =>
 Option.bind (bif (!r1) then
 Option.bind (F_ref23_Compatible a0 a1) fun r2 =>
 some r2
 else some false) fun b3 =>
 Option.bind (bif b3 then
 some (decide (a1.Counter ≤ a0.Counter))
 else some false) fun b4 =>
 some b4
noncomputable def k_ref23_Covers : KS U Tryz.prog := ⟨.fn 31 [.ty (Ty.st .Ballot), .ty (Ty.st .Ballot)] (.one Ty.bool) fun a => F_ref23_Covers a.1 a.2.1, fnS (K := K) sa_ref23_Covers 20 [.tmp 4] [k_ref23_Zero, k_ref23_Compatible] (fk Tryz.f31 [] Tryz.func31)⟩

/-! ### trustquorum/trustquorumref23.Prepares -/
noncomputable def sa_ref23_Prepares : SA U := annA (scOf Tryz.prog 25 [] Tryz.f33) .e
noncomputable def F_ref23_Prepares (a0 : TBallot) (a1 : TBallot) (a2 : TBallot) : Option Bool :=
 Option.bind (F_ref23_Covers a0 a2) fun r1 =>
 Option.bind (bif r1 then some true
 else
 Option.bind (F_ref23_Covers a1 a2) fun r2 =>
 some r2) fun b3 =>
 Option.bind (bif b3 then some true
 else
 Option.bind (F_ref23_Zero a1) fun r4 =>
 Option.bind (bif (!r4) then
 Option.bind (F_ref23_Less a2 a1) fun r5 =>
 some r5
 else some false) fun b6 =>
 some b6) fun b7 =>
 some b7
noncomputable def k_ref23_Prepares : KS U Tryz.prog := ⟨.fn 33 [.ty (Ty.st .Ballot), .ty (Ty.st .Ballot), .ty (Ty.st .Ballot)] (.one Ty.bool) fun a => F_ref23_Prepares a.1 a.2.1 a.2.2.1, fnS (K := K) sa_ref23_Prepares 25 [.tmp 6] [k_ref23_Covers, k_ref23_Zero, k_ref23_Less] (fk Tryz.f33 [] Tryz.func33)⟩

/-! ### trustquorum/trustquorumref23.Aborts -/
noncomputable def sa_ref23_Aborts : SA U := annA (scOf Tryz.prog 19 [] Tryz.f41) .e
noncomputable def F_ref23_Aborts (a0 : TBallot) (a1 : TBallot) : Option Bool :=
 Option.bind (F_ref23_Zero a0) fun r1 =>
 Option.bind (bif (!r1) then
 Option.bind (F_ref23_Compatible a0 a1) fun r2 =>
 some (!r2)
 else some false) fun b3 =>
 Option.bind (bif b3 then
 Option.bind (F_ref23_Less a1 a0) fun r4 =>
 some r4
 else some false) fun b5 =>
 some b5
noncomputable def k_ref23_Aborts : KS U Tryz.prog := ⟨.fn 41 [.ty (Ty.st .Ballot), .ty (Ty.st .Ballot)] (.one Ty.bool) fun a => F_ref23_Aborts a.1 a.2.1, fnS (K := K) sa_ref23_Aborts 19 [.tmp 4] [k_ref23_Zero, k_ref23_Compatible, k_ref23_Less] (fk Tryz.f41 [] Tryz.func41)⟩

/-! ### trustquorum/trustquorumref24.Valid -/
noncomputable def sa_ref24_Valid : SA U := annA (scOf Tryz.prog 227 [] Tryz.f18) .e
noncomputable def F_ref24_Valid (a0 : TEnvelope) : Option Bool :=
 Option.bind (bif (decide (a0.Node < (0 : Int))) then some true
 else
 some (decide ((9 : Int) < a0.Node))) fun b1 =>
 Option.bind (bif b1 then some true
 else
 some (decide (a0.Slot < (1 : Int)))) fun b2 =>
 Option.bind (bif b2 then some true
 else
 some (decide ((1000000 : Int) < a0.Slot))) fun b3 =>
 Option.bind (bif b3 then some true
 else
 some (decide (a0.Seq < (1 : Int)))) fun b4 =>
 Option.bind (bif b4 then some true
 else
 some (decide ((1000000 : Int) < a0.Seq))) fun b5 =>
 Option.bind (bif b5 then some true
 else
 Option.bind (F_ref02_Valid (TTrust.mk a0.Trust.Threshold a0.Trust.Nodes a0.Trust.Inner)) fun r6 =>
 some (!decide (r6 = (0 : Int)))) fun b7 =>
 Option.bind (bif b7 then some true
 else
 Option.bind (F_ref23_Valid a0.Ballot) fun r8 =>
 some (!r8)) fun b9 =>
 bif b9 then
 some false
 else
 Option.bind (F_ref23_Zero a0.Prepared) fun r10 =>
 bif (decide (a0.Kind = (1 : Int))) then
 Option.bind (bif (decide ((1000 : Int) < a0.Ballot.Counter)) then some true
 else
 Option.bind (bif (!r10) then
 Option.bind (F_ref23_Valid a0.Prepared) fun r11 =>
 some (!r11)
 else some false) fun b12 =>
 some b12) fun b13 =>
 bif b13 then
 some false
 else
 Option.bind (F_ref23_Zero a0.Prime) fun r14 =>
 Option.bind (bif (!r14) then
 Option.bind (bif r10 then some true
 else
 Option.bind (F_ref23_Valid a0.Prime) fun r15 =>
 some (!r15)) fun b16 =>
 Option.bind (bif b16 then some true
 else
 Option.bind (F_ref23_Less a0.Prime a0.Prepared) fun r17 =>
 some (!r17)) fun b18 =>
 Option.bind (bif b18 then some true
 else
 Option.bind (F_ref23_Compatible a0.Prime a0.Prepared) fun r19 =>
 some r19) fun b20 =>
 some b20
 else some false) fun b21 =>
 bif b21 then
 some false
 else
 Option.bind (bif (decide (a0.Low < (0 : Int))) then some true
 else
 some (decide (a0.High < a0.Low))) fun b22 =>
 Option.bind (bif b22 then some true
 else
 some (decide (a0.Ballot.Counter < a0.High))) fun b23 =>
 bif b23 then
 some false
 else
 Option.bind (bif (decide ((0 : Int) < a0.High)) then
 Option.bind (F_ref23_Prepares a0.Prepared a0.Prime (TBallot.mk a0.High a0.Ballot.Value)) fun r24 =>
 some (!r24)
 else some false) fun b25 =>
 bif b25 then
 some false
 else
 Option.bind (bif (decide (a0.Low = (0 : Int))) then some true
 else
 Option.bind (F_ref23_Aborts a0.Prepared (TBallot.mk a0.Low a0.Ballot.Value)) fun r26 =>
 Option.bind (bif (!r26) then
 Option.bind (F_ref23_Aborts a0.Prime (TBallot.mk a0.Low a0.Ballot.Value)) fun r27 =>
 some (!r27)
 else some false) fun b28 =>
 some b28) fun b29 =>
 some b29
 else
 bif (decide (a0.Kind = (2 : Int))) then
 Option.bind (bif (decide (a0.Ballot.Counter ≤ (1000 : Int))) then
 Option.bind (F_ref23_Valid a0.Prepared) fun r30 =>
 some r30
 else some false) fun b31 =>
 Option.bind (bif b31 then
 Option.bind (F_ref23_Compatible a0.Prepared a0.Ballot) fun r32 =>
 some r32
 else some false) fun b33 =>
 Option.bind (bif b33 then
 Option.bind (F_ref23_Zero a0.Prime) fun r34 =>
 some r34
 else some false) fun b35 =>
 Option.bind (bif b35 then
 some (decide ((1 : Int) ≤ a0.Low))
 else some false) fun b36 =>
 Option.bind (bif b36 then
 some (decide (a0.Low ≤ a0.High))
 else some false) fun b37 =>
 Option.bind (bif b37 then
 some (decide (a0.High ≤ a0.Prepared.Counter))
 else some false) fun b38 =>
 Option.bind (bif b38 then
 some (decide (a0.High ≤ (1000 : Int)))
 else some false) fun b39 =>
 some b39
 else
 bif (decide (a0.Kind = (3 : Int))) then
 Option.bind (bif r10 then
 Option.bind (F_ref23_Zero a0.Prime) fun r40 =>
 some r40
 else some false) fun b41 =>
 Option.bind (bif b41 then
 some (decide ((1 : Int) ≤ a0.Low))
 else some false) fun b42 =>
 Option.bind (bif b42 then
 some (decide (a0.Low ≤ a0.High))
 else some false) fun b43 =>
 Option.bind (bif b43 then
 some (decide (a0.High ≤ (1000 : Int)))
 else some false) fun b44 =>
 some b44
 else
 some false
noncomputable def k_ref24_Valid : KS U Tryz.prog := ⟨.fn 18 [.ty (Ty.st .Envelope)] (.one Ty.bool) fun a => F_ref24_Valid a.1, fnS (K := K) sa_ref24_Valid 227 [.tmp 2] [k_ref02_Valid, k_ref23_Valid, k_ref23_Zero, k_ref23_Less, k_ref23_Compatible, k_ref23_Prepares, k_ref23_Aborts] (fk Tryz.f18 [] Tryz.func18)⟩

/-! ### (*trustquorum/trustquorumplay.Src).Envelope -/
noncomputable def sa_play_Src_Envelope : SA U := annA (scOf Tryz.prog 113 [] Tryz.f20) (.r (.r (.r (.j ⟨[.box 0 0 (Ty.st .Src) [], .box 10 1 (Ty.st .Envelope) []], [8, 9]⟩ (.l (.r (.l (.j ⟨[.box 0 0 (Ty.st .Src) [], .box 10 1 (Ty.st .Envelope) []], [0, 8, 9, 10]⟩ (.r (.j ⟨[.box 0 0 (Ty.st .Src) [], .box 10 1 (Ty.st .Envelope) []], [8, 9]⟩ (.l (.r (.j ⟨[.box 0 0 (Ty.st .Src) [], .box 10 1 (Ty.st .Envelope) []], [0, 8, 9]⟩ (.r (.r (.r (.j ⟨[.box 10 1 (Ty.st .Envelope) []], [8, 9]⟩ (.r (.j ⟨[.box 10 1 (Ty.st .Envelope) []], [8, 9]⟩ .e)))))))))))))))))))
noncomputable def F_play_Src_Envelope (s : TSrc) (a0 : Int) (a1 : Int) (a2 : Int) : Option (TEnvelope × TSrc) :=
 Option.bind (F_play_Src_Range s (1 : Int) (9 : Int)) fun p1 =>
 Option.bind (F_play_Src_Trust p1.2 a2) fun p2 =>
 Option.bind (F_play_Src_Value p2.2) fun p3 =>
 letJ (fun (v4 : TSrc × TEnvelope × Unit) =>
 some ((TEnvelope.mk v4.2.1.Node v4.2.1.Slot v4.2.1.Seq (TTrust.mk v4.2.1.Trust.Threshold v4.2.1.Trust.Nodes v4.2.1.Trust.Inner) v4.2.1.Kind v4.2.1.Ballot v4.2.1.Prepared v4.2.1.Prime v4.2.1.Low v4.2.1.High), v4.1)) fun j5 =>
 Option.bind (F_play_Src_N p3.2 (4 : Int)) fun p6 =>
 letJ (fun (v7 : TSrc × TEnvelope × Unit) =>
 letJ (fun (v9 : TSrc × TEnvelope × Unit) =>
 j5 (v9.1, (TEnvelope.mk v9.2.1.Node v9.2.1.Slot v9.2.1.Seq (TTrust.mk v9.2.1.Trust.Threshold v9.2.1.Trust.Nodes v9.2.1.Trust.Inner) v9.2.1.Kind v9.2.1.Ballot v9.2.1.Prepared v9.2.1.Prime v9.2.1.Low v9.2.1.High), ())) fun j10 =>
 Option.bind (F_play_Src_Range v7.1 (1 : Int) (7 : Int)) fun p11 =>
 letJ (fun (v12 : TSrc × TEnvelope × Unit) =>
 Option.bind (F_play_Src_N v12.1 (addI .i64 v12.2.1.Ballot.Counter (1 : Int))) fun p14 =>
 Option.bind (F_play_Src_N p14.2 (addI .i64 p14.1 (1 : Int))) fun p15 =>
 letJ (fun (v16 : TEnvelope × Unit) =>
 letJ (fun (v18 : TEnvelope × Unit) =>
 Option.bind (F_ref24_Valid (TEnvelope.mk v18.1.Node v18.1.Slot v18.1.Seq (TTrust.mk v18.1.Trust.Threshold v18.1.Trust.Nodes v18.1.Trust.Inner) v18.1.Kind v18.1.Ballot v18.1.Prepared v18.1.Prime v18.1.Low v18.1.High)) fun r20 =>
 bif (!r20) then
 j10 (p15.2, (TEnvelope.mk v18.1.Node v18.1.Slot v18.1.Seq (TTrust.mk v18.1.Trust.Threshold v18.1.Trust.Nodes v18.1.Trust.Inner) v18.1.Kind v18.1.Ballot v18.1.Prepared (TBallot.mk (0 : Int) (ByteArray.mk #[])) v18.1.Low v18.1.High), ())
 else
 j10 (p15.2, (TEnvelope.mk v18.1.Node v18.1.Slot v18.1.Seq (TTrust.mk v18.1.Trust.Threshold v18.1.Trust.Nodes v18.1.Trust.Inner) v18.1.Kind v18.1.Ballot v18.1.Prepared v18.1.Prime v18.1.Low v18.1.High), ())) fun j19 =>
 Option.bind (F_ref24_Valid (TEnvelope.mk v16.1.Node v16.1.Slot v16.1.Seq (TTrust.mk v16.1.Trust.Threshold v16.1.Trust.Nodes v16.1.Trust.Inner) v16.1.Kind v16.1.Ballot v16.1.Prepared v16.1.Prime v16.1.Low v16.1.High)) fun r21 =>
 bif (!r21) then
 j19 ((TEnvelope.mk v16.1.Node v16.1.Slot v16.1.Seq (TTrust.mk v16.1.Trust.Threshold v16.1.Trust.Nodes v16.1.Trust.Inner) v16.1.Kind v16.1.Ballot v16.1.Prepared v16.1.Prime v16.1.Low (0 : Int)), ())
 else
 j19 ((TEnvelope.mk v16.1.Node v16.1.Slot v16.1.Seq (TTrust.mk v16.1.Trust.Threshold v16.1.Trust.Nodes v16.1.Trust.Inner) v16.1.Kind v16.1.Ballot v16.1.Prepared v16.1.Prime v16.1.Low v16.1.High), ())) fun j17 =>
 Option.bind (F_ref24_Valid (TEnvelope.mk v12.2.1.Node v12.2.1.Slot v12.2.1.Seq (TTrust.mk v12.2.1.Trust.Threshold v12.2.1.Trust.Nodes v12.2.1.Trust.Inner) v12.2.1.Kind v12.2.1.Ballot v12.2.1.Prepared v12.2.1.Prime p15.1 p14.1)) fun r22 =>
 bif (!r22) then
 j17 ((TEnvelope.mk v12.2.1.Node v12.2.1.Slot v12.2.1.Seq (TTrust.mk v12.2.1.Trust.Threshold v12.2.1.Trust.Nodes v12.2.1.Trust.Inner) v12.2.1.Kind v12.2.1.Ballot v12.2.1.Prepared v12.2.1.Prime (0 : Int) p14.1), ())
 else
 j17 ((TEnvelope.mk v12.2.1.Node v12.2.1.Slot v12.2.1.Seq (TTrust.mk v12.2.1.Trust.Threshold v12.2.1.Trust.Nodes v12.2.1.Trust.Inner) v12.2.1.Kind v12.2.1.Ballot v12.2.1.Prepared v12.2.1.Prime p15.1 p14.1), ())) fun j13 =>
 Option.bind (F_play_Src_N p11.2 (3 : Int)) fun p23 =>
 bif (decide ((0 : Int) < p23.1)) then
 Option.bind (F_play_Src_Low p23.2) fun p24 =>
 Option.bind (F_play_Src_N p24.2 (2 : Int)) fun p25 =>
 bif (decide (p25.1 = (1 : Int))) then
 Option.bind (F_play_Src_Low p25.2) fun p26 =>
 j13 (p26.2, (TEnvelope.mk v7.2.1.Node v7.2.1.Slot v7.2.1.Seq (TTrust.mk v7.2.1.Trust.Threshold v7.2.1.Trust.Nodes v7.2.1.Trust.Inner) (1 : Int) (TBallot.mk p11.1 p3.1) p24.1 p26.1 v7.2.1.Low v7.2.1.High), ())
 else
 j13 (p25.2, (TEnvelope.mk v7.2.1.Node v7.2.1.Slot v7.2.1.Seq (TTrust.mk v7.2.1.Trust.Threshold v7.2.1.Trust.Nodes v7.2.1.Trust.Inner) (1 : Int) (TBallot.mk p11.1 p3.1) p24.1 v7.2.1.Prime v7.2.1.Low v7.2.1.High), ())
 else
 j13 (p23.2, (TEnvelope.mk v7.2.1.Node v7.2.1.Slot v7.2.1.Seq (TTrust.mk v7.2.1.Trust.Threshold v7.2.1.Trust.Nodes v7.2.1.Trust.Inner) (1 : Int) (TBallot.mk p11.1 p3.1) v7.2.1.Prepared v7.2.1.Prime v7.2.1.Low v7.2.1.High), ())) fun j8 =>
 bif (decide (p6.1 = (0 : Int))) then
 Option.bind (F_play_Src_Range p6.2 (1 : Int) (7 : Int)) fun p27 =>
 Option.bind (F_play_Src_Range p27.2 (1 : Int) (4 : Int)) fun p28 =>
 Option.bind (F_play_Src_N p28.2 (3 : Int)) fun p29 =>
 Option.bind (F_play_Src_N p29.2 (3 : Int)) fun p30 =>
 j5 (p30.2, (TEnvelope.mk a0 a1 p1.1 (TTrust.mk p2.1.Threshold p2.1.Nodes p2.1.Inner) (2 : Int) (TBallot.mk p27.1 p3.1) (TBallot.mk (addI .i64 (addI .i64 p28.1 p29.1) p30.1) p3.1) (TBallot.mk (0 : Int) (ByteArray.mk #[])) p28.1 (addI .i64 p28.1 p29.1)), ())
 else
 bif (decide (p6.1 = (1 : Int))) then
 Option.bind (F_play_Src_N p6.2 (3 : Int)) fun p31 =>
 bif (decide ((0 : Int) < p31.1)) then
 Option.bind (F_play_Src_Range p31.2 (1 : Int) (7 : Int)) fun p32 =>
 Option.bind (F_play_Src_Range p32.2 (1 : Int) (4 : Int)) fun p33 =>
 Option.bind (F_play_Src_N p33.2 (3 : Int)) fun p34 =>
 j5 (p34.2, (TEnvelope.mk a0 a1 p1.1 (TTrust.mk p2.1.Threshold p2.1.Nodes p2.1.Inner) (3 : Int) (TBallot.mk p32.1 p3.1) (TBallot.mk (0 : Int) (ByteArray.mk #[])) (TBallot.mk (0 : Int) (ByteArray.mk #[])) p33.1 (addI .i64 p33.1 p34.1)), ())
 else
 j8 (p31.2, (TEnvelope.mk a0 a1 p1.1 (TTrust.mk p2.1.Threshold p2.1.Nodes p2.1.Inner) (0 : Int) (TBallot.mk (0 : Int) (ByteArray.mk #[])) (TBallot.mk (0 : Int) (ByteArray.mk #[])) (TBallot.mk (0 : Int) (ByteArray.mk #[])) (0 : Int) (0 : Int)), ())
 else
 j8 (p6.2, (TEnvelope.mk a0 a1 p1.1 (TTrust.mk p2.1.Threshold p2.1.Nodes p2.1.Inner) (0 : Int) (TBallot.mk (0 : Int) (ByteArray.mk #[])) (TBallot.mk (0 : Int) (ByteArray.mk #[])) (TBallot.mk (0 : Int) (ByteArray.mk #[])) (0 : Int) (0 : Int)), ())
noncomputable def k_play_Src_Envelope : KS U Tryz.prog := ⟨.rc 20 0 (Ty.st .Src) [.ty (Ty.i .i64), .ty (Ty.i .i64), .ty (Ty.i .i64)] (.one (Ty.st .Envelope)) fun s a => F_play_Src_Envelope s a.1 a.2.1 a.2.2.1, rcS (K := K) sa_play_Src_Envelope 113 [.cell 8 (some 15)] [k_play_Src_Range, k_play_Src_Trust, k_play_Src_Value, k_play_Src_N, k_play_Src_Low, k_ref24_Valid] (fk Tryz.f20 [] Tryz.func20)⟩

/-! ### (*trustquorum/trustquorumplay.Src).Pick -/
noncomputable def sa_play_Src_Pick : SA U := annA (scOf Tryz.prog 12 [] Tryz.f56) .e
noncomputable def F_play_Src_Pick (s : TSrc) (a0 : (List Int)) : Option (Int × TSrc) :=
 Option.bind (F_play_Src_N s ((List.length a0 : Nat) : Int)) fun p1 =>
 Option.bind (idx a0 p1.1) fun x2 =>
 some (x2, p1.2)
noncomputable def k_play_Src_Pick : KS U Tryz.prog := ⟨.rc 56 0 (Ty.st .Src) [.ty (Ty.sl (Ty.i .i64))] (.one (Ty.i .i64)) fun s a => F_play_Src_Pick s a.1, rcS (K := K) sa_play_Src_Pick 12 [.tmp 4] [k_play_Src_N] (fk Tryz.f56 [] Tryz.func56)⟩

/-! ### (*trustquorum/trustquorumplay.Src).Odd -/
noncomputable def sa_play_Src_Odd : SA U := annA (scOf Tryz.prog 6 [] Tryz.f57) .e
noncomputable def F_play_Src_Odd (s : TSrc)  : Option (Int × TSrc) :=
 Option.bind (F_play_Src_Pick s [(-1 : Int), (0 : Int), (1 : Int), (2 : Int), (9223372036854775807 : Int), (-9223372036854775808 : Int), (1000000000000 : Int), (1000000000001 : Int), (1000000 : Int), (1000001 : Int), (1000000 : Int), (1000 : Int), (1001 : Int), (1000 : Int), (1001 : Int)]) fun p1 =>
 some (p1.1, p1.2)
noncomputable def k_play_Src_Odd : KS U Tryz.prog := ⟨.rc 57 0 (Ty.st .Src) [] (.one (Ty.i .i64)) fun s a => F_play_Src_Odd s , rcS (K := K) sa_play_Src_Odd 6 [.tmp 2] [k_play_Src_Pick] (fk Tryz.f57 [] Tryz.func57)⟩

/-! ### (*trustquorum/trustquorumplay.Src).Ballot -/
noncomputable def sa_play_Src_Ballot : SA U := annA (scOf Tryz.prog 9 [] Tryz.f59) .e
noncomputable def F_play_Src_Ballot (s : TSrc)  : Option (TBallot × TSrc) :=
 Option.bind (F_play_Src_Pick s [(1 : Int), (2 : Int), (3 : Int), (4 : Int), (5 : Int), (1000 : Int), (1000000 : Int)]) fun p1 =>
 Option.bind (F_play_Src_Value p1.2) fun p2 =>
 some ((TBallot.mk p1.1 p2.1), p2.2)
noncomputable def k_play_Src_Ballot : KS U Tryz.prog := ⟨.rc 59 0 (Ty.st .Src) [] (.one (Ty.st .Ballot)) fun s a => F_play_Src_Ballot s , rcS (K := K) sa_play_Src_Ballot 9 [.cell 2 (some 2)] [k_play_Src_Pick, k_play_Src_Value] (fk Tryz.f59 [] Tryz.func59)⟩

/-! ### (*trustquorum/trustquorumplay.Src).BentEnvelope -/
noncomputable def sa_play_Src_BentEnvelope : SA U := annA (scOf Tryz.prog 68 [] Tryz.f25) (.r (.j ⟨[.box 0 0 (Ty.st .Src) [], .box 1 1 (Ty.st .Envelope) []], [3, 4]⟩ .e))
noncomputable def F_play_Src_BentEnvelope (s : TSrc) (a0 : TEnvelope) : Option (TEnvelope × TSrc) :=
 letJ (fun (v1 : TSrc × TEnvelope × Unit) =>
 some ((TEnvelope.mk v1.2.1.Node v1.2.1.Slot v1.2.1.Seq (TTrust.mk v1.2.1.Trust.Threshold v1.2.1.Trust.Nodes v1.2.1.Trust.Inner) v1.2.1.Kind v1.2.1.Ballot v1.2.1.Prepared v1.2.1.Prime v1.2.1.Low v1.2.1.High), v1.1)) fun j2 =>
 Option.bind (F_play_Src_N s (10 : Int)) fun p3 =>
 bif (decide (p3.1 = (0 : Int))) then
 Option.bind (F_play_Src_Pick p3.2 [(-1 : Int), (10 : Int), (3 : Int)]) fun p4 =>
 j2 (p4.2, (TEnvelope.mk p4.1 a0.Slot a0.Seq (TTrust.mk a0.Trust.Threshold a0.Trust.Nodes a0.Trust.Inner) a0.Kind a0.Ballot a0.Prepared a0.Prime a0.Low a0.High), ())
 else
 bif (decide (p3.1 = (1 : Int))) then
 Option.bind (F_play_Src_Pick p3.2 [(0 : Int), (1000001 : Int), (2 : Int)]) fun p5 =>
 j2 (p5.2, (TEnvelope.mk a0.Node p5.1 a0.Seq (TTrust.mk a0.Trust.Threshold a0.Trust.Nodes a0.Trust.Inner) a0.Kind a0.Ballot a0.Prepared a0.Prime a0.Low a0.High), ())
 else
 bif (decide (p3.1 = (2 : Int))) then
 Option.bind (F_play_Src_Odd p3.2) fun p6 =>
 j2 (p6.2, (TEnvelope.mk a0.Node a0.Slot p6.1 (TTrust.mk a0.Trust.Threshold a0.Trust.Nodes a0.Trust.Inner) a0.Kind a0.Ballot a0.Prepared a0.Prime a0.Low a0.High), ())
 else
 bif (decide (p3.1 = (3 : Int))) then
 Option.bind (F_play_Src_Pick p3.2 [(0 : Int), (20 : Int)]) fun p7 =>
 j2 (p7.2, (TEnvelope.mk a0.Node a0.Slot a0.Seq (TTrust.mk p7.1 a0.Trust.Nodes a0.Trust.Inner) a0.Kind a0.Ballot a0.Prepared a0.Prime a0.Low a0.High), ())
 else
 bif (decide (p3.1 = (4 : Int))) then
 Option.bind (F_play_Src_Range p3.2 (0 : Int) (4 : Int)) fun p8 =>
 j2 (p8.2, (TEnvelope.mk a0.Node a0.Slot a0.Seq (TTrust.mk a0.Trust.Threshold a0.Trust.Nodes a0.Trust.Inner) p8.1 a0.Ballot a0.Prepared a0.Prime a0.Low a0.High), ())
 else
 bif (decide (p3.1 = (5 : Int))) then
 Option.bind (F_play_Src_Odd p3.2) fun p9 =>
 Option.bind (F_play_Src_Text p9.2 [(ByteArray.mk #[]), (ByteArray.mk #[97]), (ByteArray.mk #[98])]) fun p10 =>
 j2 (p10.2, (TEnvelope.mk a0.Node a0.Slot a0.Seq (TTrust.mk a0.Trust.Threshold a0.Trust.Nodes a0.Trust.Inner) a0.Kind (TBallot.mk p9.1 p10.1) a0.Prepared a0.Prime a0.Low a0.High), ())
 else
 bif (decide (p3.1 = (6 : Int))) then
 Option.bind (F_play_Src_Odd p3.2) fun p11 =>
 Option.bind (F_play_Src_Text p11.2 [(ByteArray.mk #[]), (ByteArray.mk #[97]), (ByteArray.mk #[98])]) fun p12 =>
 j2 (p12.2, (TEnvelope.mk a0.Node a0.Slot a0.Seq (TTrust.mk a0.Trust.Threshold a0.Trust.Nodes a0.Trust.Inner) a0.Kind a0.Ballot (TBallot.mk p11.1 p12.1) a0.Prime a0.Low a0.High), ())
 else
 bif (decide (p3.1 = (7 : Int))) then
 Option.bind (F_play_Src_Ballot p3.2) fun p13 =>
 j2 (p13.2, (TEnvelope.mk a0.Node a0.Slot a0.Seq (TTrust.mk a0.Trust.Threshold a0.Trust.Nodes a0.Trust.Inner) a0.Kind a0.Ballot a0.Prepared p13.1 a0.Low a0.High), ())
 else
 bif (decide (p3.1 = (8 : Int))) then
 Option.bind (F_play_Src_Odd p3.2) fun p14 =>
 j2 (p14.2, (TEnvelope.mk a0.Node a0.Slot a0.Seq (TTrust.mk a0.Trust.Threshold a0.Trust.Nodes a0.Trust.Inner) a0.Kind a0.Ballot a0.Prepared a0.Prime p14.1 a0.High), ())
 else
 Option.bind (F_play_Src_Odd p3.2) fun p15 =>
 j2 (p15.2, (TEnvelope.mk a0.Node a0.Slot a0.Seq (TTrust.mk a0.Trust.Threshold a0.Trust.Nodes a0.Trust.Inner) a0.Kind a0.Ballot a0.Prepared a0.Prime a0.Low p15.1), ())
noncomputable def k_play_Src_BentEnvelope : KS U Tryz.prog := ⟨.rc 25 0 (Ty.st .Src) [.ty (Ty.st .Envelope)] (.one (Ty.st .Envelope)) fun s a => F_play_Src_BentEnvelope s a.1, rcS (K := K) sa_play_Src_BentEnvelope 68 [.cell 4 (some 15)] [k_play_Src_N, k_play_Src_Pick, k_play_Src_Odd, k_play_Src_Range, k_play_Src_Text, k_play_Src_Ballot] (fk Tryz.f25 [] Tryz.func25)⟩

/-! ### trustquorum/trustquorumlaw44.sightings -/
noncomputable def sa_law44_sightings : SA U := annA (scOf Tryz.prog 53 [] Tryz.f8) (.r (.r (.l (.r (.l (.ps (.own 3 57 26 (Ty.st .Sighting)) (.j ⟨[.val 4 (Ty.i .i64), .own 3 6 1 57 26 (Ty.st .Sighting), .box 0 0 (Ty.st .Src) []], [0]⟩ (.l (.r (.l (.l (.r (.r (.r (.j ⟨[.box 0 0 (Ty.st .Src) [], .box 29 1 (Ty.st .Sighting) []], [0, 3, 4, 6]⟩ .e)))))))))))))))
noncomputable def F_law44_sightings (s : TSrc)  : Option ((List TSighting) × TSrc) :=
 Option.bind (F_play_Src_N s (9 : Int)) fun p1 =>
 loopO (fun (v2 : Int × (List TSighting) × TSrc × Unit) =>
 bif (decide ((0 : Int) < v2.1)) then
 Option.bind (F_play_Src_N v2.2.2.1 (4 : Int)) fun p3 =>
 Option.bind (F_play_Src_Range p3.2 (1 : Int) (2 : Int)) fun p4 =>
 Option.bind (F_play_Src_Envelope p4.2 p3.1 p4.1 (4 : Int)) fun p5 =>
 Option.bind (F_play_Src_Range p5.2 (1 : Int) (4 : Int)) fun p6 =>
 letJ (fun (v7 : TSrc × TSighting × Unit) =>
 bif lenOk 328 (List.length v2.2.1 + List.length [(TSighting.mk v7.2.1.Time v7.2.1.From (TLetter.mk v7.2.1.Letter.Kind v7.2.1.Letter.Slot (TNomination.mk v7.2.1.Letter.Nomination.Node v7.2.1.Letter.Nomination.Seq (TTrust.mk v7.2.1.Letter.Nomination.Trust.Threshold v7.2.1.Letter.Nomination.Trust.Nodes v7.2.1.Letter.Nomination.Trust.Inner) v7.2.1.Letter.Nomination.Votes v7.2.1.Letter.Nomination.Accepts) (TEnvelope.mk v7.2.1.Letter.Envelope.Node v7.2.1.Letter.Envelope.Slot v7.2.1.Letter.Envelope.Seq (TTrust.mk v7.2.1.Letter.Envelope.Trust.Threshold v7.2.1.Letter.Envelope.Trust.Nodes v7.2.1.Letter.Envelope.Trust.Inner) v7.2.1.Letter.Envelope.Kind v7.2.1.Letter.Envelope.Ballot v7.2.1.Letter.Envelope.Prepared v7.2.1.Letter.Envelope.Prime v7.2.1.Letter.Envelope.Low v7.2.1.Letter.Envelope.High)))]) then
 some (Sum.inl ((subI .i64 v2.1 (1 : Int)), (v2.2.1 ++ [(TSighting.mk v7.2.1.Time v7.2.1.From (TLetter.mk v7.2.1.Letter.Kind v7.2.1.Letter.Slot (TNomination.mk v7.2.1.Letter.Nomination.Node v7.2.1.Letter.Nomination.Seq (TTrust.mk v7.2.1.Letter.Nomination.Trust.Threshold v7.2.1.Letter.Nomination.Trust.Nodes v7.2.1.Letter.Nomination.Trust.Inner) v7.2.1.Letter.Nomination.Votes v7.2.1.Letter.Nomination.Accepts) (TEnvelope.mk v7.2.1.Letter.Envelope.Node v7.2.1.Letter.Envelope.Slot v7.2.1.Letter.Envelope.Seq (TTrust.mk v7.2.1.Letter.Envelope.Trust.Threshold v7.2.1.Letter.Envelope.Trust.Nodes v7.2.1.Letter.Envelope.Trust.Inner) v7.2.1.Letter.Envelope.Kind v7.2.1.Letter.Envelope.Ballot v7.2.1.Letter.Envelope.Prepared v7.2.1.Letter.Envelope.Prime v7.2.1.Letter.Envelope.Low v7.2.1.Letter.Envelope.High)))]), v7.1, ()))
 else none) fun j8 =>
 Option.bind (F_play_Src_N p6.2 (8 : Int)) fun p9 =>
 bif (decide (p9.1 = (0 : Int))) then
 Option.bind (F_play_Src_N p9.2 (4 : Int)) fun p10 =>
 j8 (p10.2, (TSighting.mk v2.1 p10.1 (TLetter.mk (2 : Int) p5.1.Slot (TNomination.mk (0 : Int) (0 : Int) (TTrust.mk (0 : Int) ([] : List Int) ([] : List TTrust)) ([] : List ByteArray) ([] : List ByteArray)) (TEnvelope.mk p5.1.Node p5.1.Slot p6.1 (TTrust.mk p5.1.Trust.Threshold p5.1.Trust.Nodes p5.1.Trust.Inner) p5.1.Kind p5.1.Ballot p5.1.Prepared p5.1.Prime p5.1.Low p5.1.High))), ())
 else
 bif (decide (p9.1 = (1 : Int))) then
 j8 (p9.2, (TSighting.mk v2.1 p5.1.Node (TLetter.mk (1 : Int) p5.1.Slot (TNomination.mk (0 : Int) (0 : Int) (TTrust.mk (0 : Int) ([] : List Int) ([] : List TTrust)) ([] : List ByteArray) ([] : List ByteArray)) (TEnvelope.mk p5.1.Node p5.1.Slot p6.1 (TTrust.mk p5.1.Trust.Threshold p5.1.Trust.Nodes p5.1.Trust.Inner) p5.1.Kind p5.1.Ballot p5.1.Prepared p5.1.Prime p5.1.Low p5.1.High))), ())
 else
 bif (decide (p9.1 = (2 : Int))) then
 Option.bind (F_play_Src_BentEnvelope p9.2 (TEnvelope.mk p5.1.Node p5.1.Slot p6.1 (TTrust.mk p5.1.Trust.Threshold p5.1.Trust.Nodes p5.1.Trust.Inner) p5.1.Kind p5.1.Ballot p5.1.Prepared p5.1.Prime p5.1.Low p5.1.High)) fun p11 =>
 j8 (p11.2, (TSighting.mk v2.1 p5.1.Node (TLetter.mk (2 : Int) p5.1.Slot (TNomination.mk (0 : Int) (0 : Int) (TTrust.mk (0 : Int) ([] : List Int) ([] : List TTrust)) ([] : List ByteArray) ([] : List ByteArray)) (TEnvelope.mk p11.1.Node p11.1.Slot p11.1.Seq (TTrust.mk p11.1.Trust.Threshold p11.1.Trust.Nodes p11.1.Trust.Inner) p11.1.Kind p11.1.Ballot p11.1.Prepared p11.1.Prime p11.1.Low p11.1.High))), ())
 else
 j8 (p9.2, (TSighting.mk v2.1 p5.1.Node (TLetter.mk (2 : Int) p5.1.Slot (TNomination.mk (0 : Int) (0 : Int) (TTrust.mk (0 : Int) ([] : List Int) ([] : List TTrust)) ([] : List ByteArray) ([] : List ByteArray)) (TEnvelope.mk p5.1.Node p5.1.Slot p6.1 (TTrust.mk p5.1.Trust.Threshold p5.1.Trust.Nodes p5.1.Trust.Inner) p5.1.Kind p5.1.Ballot p5.1.Prepared p5.1.Prime p5.1.Low p5.1.High))), ())
 else
 Option.map Sum.inr (some (v2.2.1, v2.2.2.1))) (p1.1, ([] : List TSighting), p1.2, ())
noncomputable def k_law44_sightings : KS U Tryz.prog := ⟨.rc 8 0 (Ty.st .Src) [] (.one (Ty.sl (Ty.st .Sighting))) fun s a => F_law44_sightings s , rcS (K := K) sa_law44_sightings 53 [.tmp 2] [k_play_Src_N, k_play_Src_Range, k_play_Src_Envelope, k_play_Src_BentEnvelope] (fk Tryz.f8 [] Tryz.func8)⟩

/-! ### trustquorum/threshold.Depth -/
noncomputable def sa_threshold_Depth : SA U := annA (scOf Tryz.prog 20 [] Tryz.f107) (.r (.r (.l (.r (.l (.j ⟨[.val 3 (Ty.i .i64), .val 9 (Ty.i .i64)], [7, 8]⟩ .e))))))
noncomputable def B_threshold_Depth (rec : (TTrust × Unit) → Option Int) (a0 : TTrust) : Option Int :=
 loopO (fun (v1 : Int × Int × Unit) =>
 bif (decide (v1.2.1 < ((List.length a0.Inner : Nat) : Int))) then
 Option.bind (idx a0.Inner v1.2.1) fun x2 =>
 Option.bind (rec ((TTrust.mk x2.Threshold x2.Nodes x2.Inner), ())) fun r3 =>
 some (Sum.inl ((maxI v1.1 r3), (addI .i64 v1.2.1 (1 : Int)), ()))
 else
 Option.map Sum.inr (some (addI .i64 v1.1 (1 : Int)))) ((0 : Int), (0 : Int), ())
noncomputable def I_threshold_Depth : Nat → (TTrust × Unit) → Option Int := iterF (fun rec a => B_threshold_Depth rec a.1)
noncomputable def F_threshold_Depth (a0 : TTrust) : Option Int := I_threshold_Depth (SizeOf.sizeOf a0 + 1) (a0, ())
noncomputable def k_threshold_Depth : KS U Tryz.prog := ⟨.fn 107 [.ty (Ty.st .Trust)] (.one (Ty.i .i64)) fun a => F_threshold_Depth a.1, fnRS (K := K) («as» := [.ty (Ty.st .Trust)]) (r := .one (Ty.i .i64)) (B := fun rec a => B_threshold_Depth rec a.1) sa_threshold_Depth 20 [.tmp 2] [] (fk Tryz.f107 [] Tryz.func107) (hF := fun a => ⟨_, rfl⟩)⟩

/-! ### trustquorum/threshold.Size -/
noncomputable def sa_threshold_Size : SA U := annA (scOf Tryz.prog 26 [] Tryz.f108) (.r (.r (.l (.r (.l (.j ⟨[.val 3 (Ty.i .i64), .val 16 (Ty.i .i64)], [14, 15]⟩ .e))))))
noncomputable def B_threshold_Size (rec : (TTrust × Unit) → Option Int) (a0 : TTrust) : Option Int :=
 loopO (fun (v1 : Int × Int × Unit) =>
 bif (decide (v1.2.1 < ((List.length a0.Inner : Nat) : Int))) then
 Option.bind (idx a0.Inner v1.2.1) fun x2 =>
 Option.bind (rec ((TTrust.mk x2.Threshold x2.Nodes x2.Inner), ())) fun r3 =>
 some (Sum.inl ((addI .i64 v1.1 r3), (addI .i64 v1.2.1 (1 : Int)), ()))
 else
 Option.map Sum.inr (some v1.1)) ((addI .i64 ((List.length a0.Nodes : Nat) : Int) ((List.length a0.Inner : Nat) : Int)), (0 : Int), ())
noncomputable def I_threshold_Size : Nat → (TTrust × Unit) → Option Int := iterF (fun rec a => B_threshold_Size rec a.1)
noncomputable def F_threshold_Size (a0 : TTrust) : Option Int := I_threshold_Size (SizeOf.sizeOf a0 + 1) (a0, ())
noncomputable def k_threshold_Size : KS U Tryz.prog := ⟨.fn 108 [.ty (Ty.st .Trust)] (.one (Ty.i .i64)) fun a => F_threshold_Size a.1, fnRS (K := K) («as» := [.ty (Ty.st .Trust)]) (r := .one (Ty.i .i64)) (B := fun rec a => B_threshold_Size rec a.1) sa_threshold_Size 26 [.tmp 2] [] (fk Tryz.f108 [] Tryz.func108) (hF := fun a => ⟨_, rfl⟩)⟩

/-! ### trustquorum/threshold.node -/
noncomputable def sa_threshold_node : SA U := annA (scOf Tryz.prog 9 [] Tryz.f90) .e
noncomputable def F_threshold_node (a0 : Int) : Option Bool :=
 Option.bind (bif (decide ((0 : Int) ≤ a0)) then
 some (decide (a0 < (10 : Int)))
 else some false) fun b1 =>
 some b1
noncomputable def k_threshold_node : KS U Tryz.prog := ⟨.fn 90 [.ty (Ty.i .i64)] (.one Ty.bool) fun a => F_threshold_node a.1, fnS (K := K) sa_threshold_node 9 [.tmp 2] [] (fk Tryz.f90 [] Tryz.func90)⟩

/-! ### trustquorum/threshold.level$1 -/
noncomputable def sa_threshold_level_1 : SA U := annA (scOf Tryz.prog 6 [] Tryz.f132) .e
noncomputable def F_threshold_level_1 (a0 : Int) : Option Bool :=
 Option.bind (F_threshold_node a0) fun r1 =>
 some (!r1)
noncomputable def k_threshold_level_1 : KS U Tryz.prog := ⟨.fn 132 [.ty (Ty.i .i64)] (.one Ty.bool) fun a => F_threshold_level_1 a.1, fnS (K := K) sa_threshold_level_1 6 [.tmp 2] [k_threshold_node] (fk Tryz.f132 [] Tryz.func132)⟩

/-! ### slices.IndexFunc[[]int,int] -/
noncomputable def sa_slices_IndexFunc_int_int_c132 : SA U := annA (scOf Tryz.prog 19 [] Tryz.f129) (.r (.l (.r (.l (.j ⟨[.val 8 (Ty.i .i64)], [0, 1, 7]⟩ .e)))))
noncomputable def F_slices_IndexFunc_int_int_c132 (a0 : (List Int)) : Option Int :=
 loopO (fun (v1 : Int × Unit) =>
 bif (decide (v1.1 < ((List.length a0 : Nat) : Int))) then
 Option.bind (idx a0 v1.1) fun x2 =>
 Option.bind (F_threshold_level_1 x2) fun r3 =>
 bif r3 then
 Option.map Sum.inr (some v1.1)
 else
 some (Sum.inl ((addI .i64 v1.1 (1 : Int)), ()))
 else
 Option.map Sum.inr (some (-1 : Int))) ((0 : Int), ())
noncomputable def k_slices_IndexFunc_int_int_c132 : KS U Tryz.prog := ⟨.fn 129 [.ty (Ty.sl (Ty.i .i64)), .clo 132 []] (.one (Ty.i .i64)) fun a => F_slices_IndexFunc_int_int_c132 a.1, fnS (K := K) sa_slices_IndexFunc_int_int_c132 19 [.tmp 4] [k_threshold_level_1] (fk Tryz.f129 [] Tryz.func129)⟩

/-! ### slices.ContainsFunc[[]int,int] -/
noncomputable def sa_slices_ContainsFunc_int_int_c132 : SA U := annA (scOf Tryz.prog 9 [] Tryz.f100) .e
noncomputable def F_slices_ContainsFunc_int_int_c132 (a0 : (List Int)) : Option Bool :=
 Option.bind (F_slices_IndexFunc_int_int_c132 a0) fun r1 =>
 some (decide ((0 : Int) ≤ r1))
noncomputable def k_slices_ContainsFunc_int_int_c132 : KS U Tryz.prog := ⟨.fn 100 [.ty (Ty.sl (Ty.i .i64)), .clo 132 []] (.one Ty.bool) fun a => F_slices_ContainsFunc_int_int_c132 a.1, fnS (K := K) sa_slices_ContainsFunc_int_int_c132 9 [.tmp 4] [k_slices_IndexFunc_int_int_c132] (fk Tryz.f100 [] Tryz.func100)⟩

/-! ### trustquorum/nodeset.below -/
noncomputable def sa_nodeset_below : SA U := annA (scOf Tryz.prog 13 [] Tryz.f140) .e
noncomputable def F_nodeset_below (a0 : Int) (a1 : Int) : Option Bool :=
 Option.bind (bif (decide ((0 : Int) ≤ a0)) then
 if a1 < 0 then none else
 some (decide (a0 < (shlI .i64 (1 : Int) a1)))
 else some false) fun b1 =>
 some b1
noncomputable def k_nodeset_below : KS U Tryz.prog := ⟨.fn 140 [.ty (Ty.i .i64), .ty (Ty.i .i64)] (.one Ty.bool) fun a => F_nodeset_below a.1 a.2.1, fnS (K := K) sa_nodeset_below 13 [.tmp 4] [] (fk Tryz.f140 [] Tryz.func140)⟩

/-! ### trustquorum/nodeset.Valid -/
noncomputable def sa_nodeset_Valid : SA U := annA (scOf Tryz.prog 5 [] Tryz.f125) .e
noncomputable def F_nodeset_Valid (a0 : Int) : Option Bool :=
 Option.bind (F_nodeset_below a0 (10 : Int)) fun r1 =>
 some r1
noncomputable def k_nodeset_Valid : KS U Tryz.prog := ⟨.fn 125 [.ty (Ty.i .i64)] (.one Ty.bool) fun a => F_nodeset_Valid a.1, fnS (K := K) sa_nodeset_Valid 5 [.tmp 2] [k_nodeset_below] (fk Tryz.f125 [] Tryz.func125)⟩

/-! ### trustquorum/nodeset.Has -/
noncomputable def sa_nodeset_Has : SA U := annA (scOf Tryz.prog 22 [] Tryz.f96) .e
noncomputable def F_nodeset_Has (a0 : Int) (a1 : Int) : Option Bool :=
 Option.bind (F_nodeset_Valid a0) fun r1 =>
 Option.bind (bif r1 then
 some (decide ((0 : Int) ≤ a1))
 else some false) fun b2 =>
 Option.bind (bif b2 then
 some (decide (a1 < (10 : Int)))
 else some false) fun b3 =>
 Option.bind (bif b3 then
 if a1 < 0 then none else
 some (!decide ((andI .i64 a0 (shlI .i64 (1 : Int) a1)) = (0 : Int)))
 else some false) fun b4 =>
 some b4
noncomputable def k_nodeset_Has : KS U Tryz.prog := ⟨.fn 96 [.ty (Ty.i .i64), .ty (Ty.i .i64)] (.one Ty.bool) fun a => F_nodeset_Has a.1 a.2.1, fnS (K := K) sa_nodeset_Has 22 [.tmp 4] [k_nodeset_Valid] (fk Tryz.f96 [] Tryz.func96)⟩

/-! ### trustquorum/nodeset.Of -/
noncomputable def sa_nodeset_Of : SA U := annA (scOf Tryz.prog 28 [] Tryz.f133) (.r (.r (.l (.r (.l (.j ⟨[.val 4 (Ty.i .i64), .val 9 (Ty.i .i64)], [7, 8]⟩ .e))))))
noncomputable def F_nodeset_Of (a0 : (List Int)) : Option (Int × Int × Unit) :=
 loopO (fun (v1 : Int × Int × Unit) =>
 bif (decide (v1.2.1 < ((List.length a0 : Nat) : Int))) then
 Option.bind (idx a0 v1.2.1) fun x2 =>
 Option.bind (bif (decide (x2 < (0 : Int))) then some true
 else
 some (decide ((10 : Int) ≤ x2))) fun b3 =>
 bif b3 then
 Option.map Sum.inr (some ((0 : Int), (5 : Int), ()))
 else
 Option.bind (F_nodeset_Has v1.1 x2) fun r4 =>
 bif r4 then
 Option.map Sum.inr (some ((0 : Int), (6 : Int), ()))
 else
 if x2 < 0 then none else
 some (Sum.inl ((orI .i64 v1.1 (shlI .i64 (1 : Int) x2)), (addI .i64 v1.2.1 (1 : Int)), ()))
 else
 Option.map Sum.inr (some (v1.1, (0 : Int), ()))) ((0 : Int), (0 : Int), ())
noncomputable def k_nodeset_Of : KS U Tryz.prog := ⟨.fn 133 [.ty (Ty.sl (Ty.i .i64))] (.many [(Ty.i .i64), (Ty.i .i64)]) fun a => F_nodeset_Of a.1, fnS (K := K) sa_nodeset_Of 28 [.tmp 2, .tmp 3] [k_nodeset_Has] (fk Tryz.f133 [] Tryz.func133)⟩

/-! ### trustquorum/threshold.level -/
noncomputable def sa_threshold_level : SA U := annA (scOf Tryz.prog 48 [] Tryz.f109) (.r (.r (.r (.r (.l (.r (.l (.j ⟨[.val 38 (Ty.i .i64)], [36, 37]⟩ .e))))))))
noncomputable def B_threshold_level (rec : (TTrust × Unit) → Option Int) (a0 : TTrust) : Option Int :=
 Option.bind (bif (decide (a0.Threshold < (1 : Int))) then some true
 else
 some (decide ((addI .i64 ((List.length a0.Nodes : Nat) : Int) ((List.length a0.Inner : Nat) : Int)) < a0.Threshold))) fun b1 =>
 bif b1 then
 some (4 : Int)
 else
 Option.bind (F_slices_ContainsFunc_int_int_c132 a0.Nodes) fun r2 =>
 bif r2 then
 some (5 : Int)
 else
 Option.bind (F_nodeset_Of a0.Nodes) fun r3 =>
 bif (!decide (r3.2.1 = (0 : Int))) then
 some r3.2.1
 else
 loopO (fun (v4 : Int × Unit) =>
 bif (decide (v4.1 < ((List.length a0.Inner : Nat) : Int))) then
 Option.bind (idx a0.Inner v4.1) fun x5 =>
 Option.bind (rec ((TTrust.mk x5.Threshold x5.Nodes x5.Inner), ())) fun r6 =>
 bif (!decide (r6 = (0 : Int))) then
 Option.map Sum.inr (some r6)
 else
 some (Sum.inl ((addI .i64 v4.1 (1 : Int)), ()))
 else
 Option.map Sum.inr (some (0 : Int))) ((0 : Int), ())
noncomputable def I_threshold_level : Nat → (TTrust × Unit) → Option Int := iterF (fun rec a => B_threshold_level rec a.1)
noncomputable def F_threshold_level (a0 : TTrust) : Option Int := I_threshold_level (SizeOf.sizeOf a0 + 1) (a0, ())
noncomputable def k_threshold_level : KS U Tryz.prog := ⟨.fn 109 [.ty (Ty.st .Trust)] (.one (Ty.i .i64)) fun a => F_threshold_level a.1, fnRS (K := K) («as» := [.ty (Ty.st .Trust)]) (r := .one (Ty.i .i64)) (B := fun rec a => B_threshold_level rec a.1) sa_threshold_level 48 [.tmp 2] [k_slices_ContainsFunc_int_int_c132, k_nodeset_Of] (fk Tryz.f109 [] Tryz.func109) (hF := fun a => ⟨_, rfl⟩)⟩

/-! ### trustquorum/threshold.Valid -/
noncomputable def sa_threshold_Valid : SA U := annA (scOf Tryz.prog 13 [] Tryz.f80) .e
noncomputable def F_threshold_Valid (a0 : TTrust) : Option Int :=
 Option.bind (F_threshold_Depth (TTrust.mk a0.Threshold a0.Nodes a0.Inner)) fun r1 =>
 Option.bind (bif (decide ((4 : Int) < r1)) then some true
 else
 Option.bind (F_threshold_Size (TTrust.mk a0.Threshold a0.Nodes a0.Inner)) fun r2 =>
 some (decide ((200 : Int) < r2))) fun b3 =>
 bif b3 then
 some (3 : Int)
 else
 Option.bind (F_threshold_level (TTrust.mk a0.Threshold a0.Nodes a0.Inner)) fun r4 =>
 some r4
noncomputable def k_threshold_Valid : KS U Tryz.prog := ⟨.fn 80 [.ty (Ty.st .Trust)] (.one (Ty.i .i64)) fun a => F_threshold_Valid a.1, fnS (K := K) sa_threshold_Valid 13 [.tmp 2] [k_threshold_Depth, k_threshold_Size, k_threshold_level] (fk Tryz.f80 [] Tryz.func80)⟩

/-! ### trustquorum/ballots.Zero -/
noncomputable def sa_ballots_Zero : SA U := annA (scOf Tryz.prog 6 [] Tryz.f85) .e
noncomputable def F_ballots_Zero (a0 : TBallot) : Option Bool :=
 some (eq2 false a0.Counter (0 : Int) a0.Value (ByteArray.mk #[]))
noncomputable def k_ballots_Zero : KS U Tryz.prog := ⟨.fn 85 [.ty (Ty.st .Ballot)] (.one Ty.bool) fun a => F_ballots_Zero a.1, fnS (K := K) sa_ballots_Zero 6 [.tmp 2] [] (fk Tryz.f85 [] Tryz.func85)⟩

/-! ### cmp.isNaN[int] -/
noncomputable def sa_cmp_isNaN_int : SA U := annA (scOf Tryz.prog 6 [] Tryz.f124) .e
noncomputable def F_cmp_isNaN_int (a0 : Int) : Option Bool :=
 some (!decide (a0 = a0))
noncomputable def k_cmp_isNaN_int : KS U Tryz.prog := ⟨.fn 124 [.ty (Ty.i .i64)] (.one Ty.bool) fun a => F_cmp_isNaN_int a.1, fnS (K := K) sa_cmp_isNaN_int 6 [.tmp 2] [] (fk Tryz.f124 [] Tryz.func124)⟩

/-! ### cmp.Compare[int] -/
noncomputable def sa_cmp_Compare_int : SA U := annA (scOf Tryz.prog 20 [] Tryz.f89) .e
noncomputable def F_cmp_Compare_int (a0 : Int) (a1 : Int) : Option Int :=
 Option.bind (F_cmp_isNaN_int a0) fun r1 =>
 Option.bind (F_cmp_isNaN_int a1) fun r2 =>
 bif r1 then
 bif r2 then
 some (0 : Int)
 else
 some (-1 : Int)
 else
 bif r2 then
 some (1 : Int)
 else
 bif (decide (a0 < a1)) then
 some (-1 : Int)
 else
 bif (decide (a1 < a0)) then
 some (1 : Int)
 else
 some (0 : Int)
noncomputable def k_cmp_Compare_int : KS U Tryz.prog := ⟨.fn 89 [.ty (Ty.i .i64), .ty (Ty.i .i64)] (.one (Ty.i .i64)) fun a => F_cmp_Compare_int a.1 a.2.1, fnS (K := K) sa_cmp_Compare_int 20 [.tmp 4] [k_cmp_isNaN_int] (fk Tryz.f89 [] Tryz.func89)⟩

/-! ### cmp.isNaN[string] -/
noncomputable def sa_cmp_isNaN_string : SA U := annA (scOf Tryz.prog 6 [] Tryz.f177) .e
noncomputable def F_cmp_isNaN_string (a0 : ByteArray) : Option Bool :=
 some (!decide (a0 = a0))
noncomputable def k_cmp_isNaN_string : KS U Tryz.prog := ⟨.fn 177 [.ty Ty.str] (.one Ty.bool) fun a => F_cmp_isNaN_string a.1, fnS (K := K) sa_cmp_isNaN_string 6 [.tmp 2] [] (fk Tryz.f177 [] Tryz.func177)⟩

/-! ### cmp.Compare[string] -/
noncomputable def sa_cmp_Compare_string : SA U := annA (scOf Tryz.prog 20 [] Tryz.f170) .e
noncomputable def F_cmp_Compare_string (a0 : ByteArray) (a1 : ByteArray) : Option Int :=
 Option.bind (F_cmp_isNaN_string a0) fun r1 =>
 Option.bind (F_cmp_isNaN_string a1) fun r2 =>
 bif r1 then
 bif r2 then
 some (0 : Int)
 else
 some (-1 : Int)
 else
 bif r2 then
 some (1 : Int)
 else
 bif (sless a0 a1) then
 some (-1 : Int)
 else
 bif (!(sless a0 a1 || decide (a0 = a1))) then
 some (1 : Int)
 else
 some (0 : Int)
noncomputable def k_cmp_Compare_string : KS U Tryz.prog := ⟨.fn 170 [.ty Ty.str, .ty Ty.str] (.one (Ty.i .i64)) fun a => F_cmp_Compare_string a.1 a.2.1, fnS (K := K) sa_cmp_Compare_string 20 [.tmp 4] [k_cmp_isNaN_string] (fk Tryz.f170 [] Tryz.func170)⟩

/-! ### cmp.Or[int] -/
noncomputable def sa_cmp_Or_int : SA U := annA (scOf Tryz.prog 18 [] Tryz.f88) (.r (.r (.l (.r (.l (.j ⟨[.val 8 (Ty.i .i64)], [3, 6, 7]⟩ .e))))))
noncomputable def F_cmp_Or_int (a0 : (List Int)) : Option Int :=
 loopO (fun (v1 : Int × Unit) =>
 bif (decide (v1.1 < ((List.length a0 : Nat) : Int))) then
 Option.bind (idx a0 v1.1) fun x2 =>
 bif (!decide (x2 = (0 : Int))) then
 Option.map Sum.inr (some x2)
 else
 some (Sum.inl ((addI .i64 v1.1 (1 : Int)), ()))
 else
 Option.map Sum.inr (some (0 : Int))) ((0 : Int), ())
noncomputable def k_cmp_Or_int : KS U Tryz.prog := ⟨.fn 88 [.ty (Ty.sl (Ty.i .i64))] (.one (Ty.i .i64)) fun a => F_cmp_Or_int a.1, fnS (K := K) sa_cmp_Or_int 18 [.tmp 2] [] (fk Tryz.f88 [] Tryz.func88)⟩

/-! ### trustquorum/ballots.CompareValues -/
noncomputable def sa_ballots_CompareValues : SA U := annA (scOf Tryz.prog 15 [] Tryz.f154) .e
noncomputable def F_ballots_CompareValues (a0 : ByteArray) (a1 : ByteArray) : Option Int :=
 Option.bind (F_cmp_Compare_int ((ByteArray.size a0 : Nat) : Int) ((ByteArray.size a1 : Nat) : Int)) fun r1 =>
 Option.bind (F_cmp_Compare_string a0 a1) fun r2 =>
 Option.bind (F_cmp_Or_int [r1, r2]) fun r3 =>
 some r3
noncomputable def k_ballots_CompareValues : KS U Tryz.prog := ⟨.fn 154 [.ty Ty.str, .ty Ty.str] (.one (Ty.i .i64)) fun a => F_ballots_CompareValues a.1 a.2.1, fnS (K := K) sa_ballots_CompareValues 15 [.tmp 4] [k_cmp_Compare_int, k_cmp_Compare_string, k_cmp_Or_int] (fk Tryz.f154 [] Tryz.func154)⟩

/-! ### trustquorum/ballots.Compare -/
noncomputable def sa_ballots_Compare : SA U := annA (scOf Tryz.prog 17 [] Tryz.f134) .e
noncomputable def F_ballots_Compare (a0 : TBallot) (a1 : TBallot) : Option Int :=
 Option.bind (F_cmp_Compare_int a0.Counter a1.Counter) fun r1 =>
 Option.bind (F_ballots_CompareValues a0.Value a1.Value) fun r2 =>
 Option.bind (F_cmp_Or_int [r1, r2]) fun r3 =>
 some r3
noncomputable def k_ballots_Compare : KS U Tryz.prog := ⟨.fn 134 [.ty (Ty.st .Ballot), .ty (Ty.st .Ballot)] (.one (Ty.i .i64)) fun a => F_ballots_Compare a.1 a.2.1, fnS (K := K) sa_ballots_Compare 17 [.tmp 4] [k_cmp_Compare_int, k_ballots_CompareValues, k_cmp_Or_int] (fk Tryz.f134 [] Tryz.func134)⟩

/-! ### trustquorum/ballots.Less -/
noncomputable def sa_ballots_Less : SA U := annA (scOf Tryz.prog 9 [] Tryz.f110) .e
noncomputable def F_ballots_Less (a0 : TBallot) (a1 : TBallot) : Option Bool :=
 Option.bind (F_ballots_Compare a0 a1) fun r1 =>
 some (decide (r1 < (0 : Int)))
noncomputable def k_ballots_Less : KS U Tryz.prog := ⟨.fn 110 [.ty (Ty.st .Ballot), .ty (Ty.st .Ballot)] (.one Ty.bool) fun a => F_ballots_Less a.1 a.2.1, fnS (K := K) sa_ballots_Less 9 [.tmp 4] [k_ballots_Compare] (fk Tryz.f110 [] Tryz.func110)⟩

/-! ### trustquorum/ballots.Compatible -/
noncomputable def sa_ballots_Compatible : SA U := annA (scOf Tryz.prog 10 [] Tryz.f84) .e
noncomputable def F_ballots_Compatible (a0 : TBallot) (a1 : TBallot) : Option Bool :=
 some (decide (a0.Value = a1.Value))
noncomputable def k_ballots_Compatible : KS U Tryz.prog := ⟨.fn 84 [.ty (Ty.st .Ballot), .ty (Ty.st .Ballot)] (.one Ty.bool) fun a => F_ballots_Compatible a.1 a.2.1, fnS (K := K) sa_ballots_Compatible 10 [.tmp 4] [] (fk Tryz.f84 [] Tryz.func84)⟩

/-! ### trustquorum/ballots.Valid -/
noncomputable def sa_ballots_Valid : SA U := annA (scOf Tryz.prog 30 [] Tryz.f83) .e
noncomputable def F_ballots_Valid (a0 : TBallot) : Option Bool :=
 Option.bind (bif (decide ((1 : Int) ≤ a0.Counter)) then
 some (decide (a0.Counter ≤ (1000 : Int)))
 else some false) fun b1 =>
 Option.bind (bif b1 then some true
 else
 some (decide (a0.Counter = (1000000 : Int)))) fun b2 =>
 Option.bind (bif b2 then
 some (decide ((1 : Int) ≤ ((ByteArray.size a0.Value : Nat) : Int)))
 else some false) fun b3 =>
 Option.bind (bif b3 then
 some (decide (((ByteArray.size a0.Value : Nat) : Int) ≤ (200 : Int)))
 else some false) fun b4 =>
 some b4
noncomputable def k_ballots_Valid : KS U Tryz.prog := ⟨.fn 83 [.ty (Ty.st .Ballot)] (.one Ty.bool) fun a => F_ballots_Valid a.1, fnS (K := K) sa_ballots_Valid 30 [.tmp 2] [] (fk Tryz.f83 [] Tryz.func83)⟩

/-! ### trustquorum/envelopes.finite -/
noncomputable def sa_envelopes_finite : SA U := annA (scOf Tryz.prog 10 [] Tryz.f82) .e
noncomputable def F_envelopes_finite (a0 : TBallot) : Option Bool :=
 Option.bind (F_ballots_Valid a0) fun r1 =>
 Option.bind (bif r1 then
 some (decide (a0.Counter ≤ (1000 : Int)))
 else some false) fun b2 =>
 some b2
noncomputable def k_envelopes_finite : KS U Tryz.prog := ⟨.fn 82 [.ty (Ty.st .Ballot)] (.one Ty.bool) fun a => F_envelopes_finite a.1, fnS (K := K) sa_envelopes_finite 10 [.tmp 2] [k_ballots_Valid] (fk Tryz.f82 [] Tryz.func82)⟩

/-! ### trustquorum/envelopes.optional -/
noncomputable def sa_envelopes_optional : SA U := annA (scOf Tryz.prog 9 [] Tryz.f111) .e
noncomputable def F_envelopes_optional (a0 : TBallot) : Option Bool :=
 Option.bind (F_ballots_Zero a0) fun r1 =>
 Option.bind (bif r1 then some true
 else
 Option.bind (F_ballots_Valid a0) fun r2 =>
 some r2) fun b3 =>
 some b3
noncomputable def k_envelopes_optional : KS U Tryz.prog := ⟨.fn 111 [.ty (Ty.st .Ballot)] (.one Ty.bool) fun a => F_envelopes_optional a.1, fnS (K := K) sa_envelopes_optional 9 [.tmp 2] [k_ballots_Zero, k_ballots_Valid] (fk Tryz.f111 [] Tryz.func111)⟩

/-! ### trustquorum/envelopes.at -/
noncomputable def sa_envelopes_at : SA U := annA (scOf Tryz.prog 10 [] Tryz.f112) .e
noncomputable def F_envelopes_at (a0 : TEnvelope) (a1 : Int) : Option TBallot :=
 some (TBallot.mk a1 a0.Ballot.Value)
noncomputable def k_envelopes_at : KS U Tryz.prog := ⟨.fn 112 [.ty (Ty.st .Envelope), .ty (Ty.i .i64)] (.one (Ty.st .Ballot)) fun a => F_envelopes_at a.1 a.2.1, fnS (K := K) sa_envelopes_at 10 [.cell 4 (some 2)] [] (fk Tryz.f112 [] Tryz.func112)⟩

/-! ### trustquorum/ballots.Aborts -/
noncomputable def sa_ballots_Aborts : SA U := annA (scOf Tryz.prog 19 [] Tryz.f113) .e
noncomputable def F_ballots_Aborts (a0 : TBallot) (a1 : TBallot) : Option Bool :=
 Option.bind (F_ballots_Zero a0) fun r1 =>
 Option.bind (bif (!r1) then
 Option.bind (F_ballots_Compatible a0 a1) fun r2 =>
 some (!r2)
 else some false) fun b3 =>
 Option.bind (bif b3 then
 Option.bind (F_ballots_Less a1 a0) fun r4 =>
 some r4
 else some false) fun b5 =>
 some b5
noncomputable def k_ballots_Aborts : KS U Tryz.prog := ⟨.fn 113 [.ty (Ty.st .Ballot), .ty (Ty.st .Ballot)] (.one Ty.bool) fun a => F_ballots_Aborts a.1 a.2.1, fnS (K := K) sa_ballots_Aborts 19 [.tmp 4] [k_ballots_Zero, k_ballots_Compatible, k_ballots_Less] (fk Tryz.f113 [] Tryz.func113)⟩

/-! ### trustquorum/ballots.Covers -/
noncomputable def sa_ballots_Covers : SA U := annA (scOf Tryz.prog 20 [] Tryz.f93) .e
noncomputable def F_ballots_Covers (a0 : TBallot) (a1 : TBallot) : Option Bool :=
 Option.bind (F_ballots_Zero a0) fun r1 =>
 Option.bind (bif (!r1) then
 Option.bind (F_ballots_Compatible a0 a1) fun r2 =>
 some r2
 else some false) fun b3 =>
 Option.bind (bif b3 then
 some (decide (a1.Counter ≤ a0.Counter))
 else some false) fun b4 =>
 some b4
noncomputable def k_ballots_Covers : KS U Tryz.prog := ⟨.fn 93 [.ty (Ty.st .Ballot), .ty (Ty.st .Ballot)] (.one Ty.bool) fun a => F_ballots_Covers a.1 a.2.1, fnS (K := K) sa_ballots_Covers 20 [.tmp 4] [k_ballots_Zero, k_ballots_Compatible] (fk Tryz.f93 [] Tryz.func93)⟩

/-! ### trustquorum/ballots.Prepares -/
noncomputable def sa_ballots_Prepares : SA U := annA (scOf Tryz.prog 25 [] Tryz.f94) .e
noncomputable def F_ballots_Prepares (a0 : TBallot) (a1 : TBallot) (a2 : TBallot) : Option Bool :=
 Option.bind (F_ballots_Covers a0 a2) fun r1 =>
 Option.bind (bif r1 then some true
 else
 Option.bind (F_ballots_Covers a1 a2) fun r2 =>
 some r2) fun b3 =>
 Option.bind (bif b3 then some true
 else
 Option.bind (F_ballots_Zero a1) fun r4 =>
 Option.bind (bif (!r4) then
 Option.bind (F_ballots_Less a2 a1) fun r5 =>
 some r5
 else some false) fun b6 =>
 some b6) fun b7 =>
 some b7
noncomputable def k_ballots_Prepares : KS U Tryz.prog := ⟨.fn 94 [.ty (Ty.st .Ballot), .ty (Ty.st .Ballot), .ty (Ty.st .Ballot)] (.one Ty.bool) fun a => F_ballots_Prepares a.1 a.2.1 a.2.2.1, fnS (K := K) sa_ballots_Prepares 25 [.tmp 6] [k_ballots_Covers, k_ballots_Zero, k_ballots_Less] (fk Tryz.f94 [] Tryz.func94)⟩

/-! ### trustquorum/envelopes.prepares -/
noncomputable def sa_envelopes_prepares : SA U := annA (scOf Tryz.prog 106 [] Tryz.f81) (.r (.r (.r (.r (.j ⟨[.val 2 Ty.bool], []⟩ .e)))))
noncomputable def F_envelopes_prepares (a0 : TEnvelope) : Option Bool :=
 Option.bind (F_ballots_Zero a0.Prime) fun r1 =>
 Option.bind (bif r1 then some true
 else
 Option.bind (F_ballots_Zero a0.Prepared) fun r2 =>
 Option.bind (bif (!r2) then
 Option.bind (F_ballots_Less a0.Prime a0.Prepared) fun r3 =>
 some r3
 else some false) fun b4 =>
 Option.bind (bif b4 then
 Option.bind (F_ballots_Compatible a0.Prime a0.Prepared) fun r5 =>
 some (!r5)
 else some false) fun b6 =>
 some b6) fun b7 =>
 Option.bind (F_envelopes_finite a0.Ballot) fun r8 =>
 Option.bind (bif (!r8) then some true
 else
 Option.bind (F_envelopes_optional a0.Prepared) fun r9 =>
 some (!r9)) fun b10 =>
 Option.bind (bif b10 then some true
 else
 Option.bind (F_envelopes_optional a0.Prime) fun r11 =>
 some (!r11)) fun b12 =>
 Option.bind (bif b12 then some true
 else
 some (!b7)) fun b13 =>
 Option.bind (bif b13 then some true
 else
 some (decide (a0.Low < (0 : Int)))) fun b14 =>
 Option.bind (bif b14 then some true
 else
 some (decide (a0.High < a0.Low))) fun b15 =>
 Option.bind (bif b15 then some true
 else
 some (decide (a0.Ballot.Counter < a0.High))) fun b16 =>
 bif b16 then
 some false
 else
 Option.bind (F_envelopes_at (TEnvelope.mk a0.Node a0.Slot a0.Seq (TTrust.mk a0.Trust.Threshold a0.Trust.Nodes a0.Trust.Inner) a0.Kind a0.Ballot a0.Prepared a0.Prime a0.Low a0.High) a0.Low) fun r17 =>
 letJ (fun (v18 : Bool × Unit) =>
 some v18.1) fun j19 =>
 bif (decide (a0.High = (0 : Int))) then
 bif (decide (a0.Low = (0 : Int))) then
 j19 (true, ())
 else
 Option.bind (F_ballots_Aborts a0.Prepared r17) fun r20 =>
 bif (!r20) then
 Option.bind (F_ballots_Aborts a0.Prime r17) fun r21 =>
 j19 ((!r21), ())
 else
 j19 (false, ())
 else
 Option.bind (F_envelopes_at (TEnvelope.mk a0.Node a0.Slot a0.Seq (TTrust.mk a0.Trust.Threshold a0.Trust.Nodes a0.Trust.Inner) a0.Kind a0.Ballot a0.Prepared a0.Prime a0.Low a0.High) a0.High) fun r22 =>
 Option.bind (F_ballots_Prepares a0.Prepared a0.Prime r22) fun r23 =>
 bif r23 then
 bif (decide (a0.Low = (0 : Int))) then
 j19 (true, ())
 else
 Option.bind (F_ballots_Aborts a0.Prepared r17) fun r24 =>
 bif (!r24) then
 Option.bind (F_ballots_Aborts a0.Prime r17) fun r25 =>
 j19 ((!r25), ())
 else
 j19 (false, ())
 else
 j19 (false, ())
noncomputable def k_envelopes_prepares : KS U Tryz.prog := ⟨.fn 81 [.ty (Ty.st .Envelope)] (.one Ty.bool) fun a => F_envelopes_prepares a.1, fnS (K := K) sa_envelopes_prepares 106 [.tmp 2] [k_ballots_Zero, k_ballots_Less, k_ballots_Compatible, k_envelopes_finite, k_envelopes_optional, k_envelopes_at, k_ballots_Aborts, k_ballots_Prepares] (fk Tryz.f81 [] Tryz.func81)⟩

/-! ### trustquorum/envelopes.Valid -/
noncomputable def sa_envelopes_Valid : SA U := annA (scOf Tryz.prog 110 [] Tryz.f60) .e
noncomputable def F_envelopes_Valid (a0 : TEnvelope) : Option Bool :=
 Option.bind (bif (decide (a0.Node < (0 : Int))) then some true
 else
 some (decide ((10 : Int) ≤ a0.Node))) fun b1 =>
 Option.bind (bif b1 then some true
 else
 some (decide (a0.Slot < (1 : Int)))) fun b2 =>
 Option.bind (bif b2 then some true
 else
 some (decide ((1000000 : Int) < a0.Slot))) fun b3 =>
 Option.bind (bif b3 then some true
 else
 some (decide (a0.Seq < (1 : Int)))) fun b4 =>
 Option.bind (bif b4 then some true
 else
 some (decide ((1000000 : Int) < a0.Seq))) fun b5 =>
 Option.bind (bif b5 then some true
 else
 Option.bind (F_threshold_Valid (TTrust.mk a0.Trust.Threshold a0.Trust.Nodes a0.Trust.Inner)) fun r6 =>
 some (!decide (r6 = (0 : Int)))) fun b7 =>
 bif b7 then
 some false
 else
 Option.bind (bif (decide ((1 : Int) ≤ a0.Low)) then
 some (decide (a0.Low ≤ a0.High))
 else some false) fun b8 =>
 Option.bind (bif b8 then
 some (decide (a0.High ≤ (1000 : Int)))
 else some false) fun b9 =>
 bif (decide (a0.Kind = (1 : Int))) then
 Option.bind (F_envelopes_prepares (TEnvelope.mk a0.Node a0.Slot a0.Seq (TTrust.mk a0.Trust.Threshold a0.Trust.Nodes a0.Trust.Inner) a0.Kind a0.Ballot a0.Prepared a0.Prime a0.Low a0.High)) fun r10 =>
 some r10
 else
 bif (decide (a0.Kind = (2 : Int))) then
 Option.bind (F_envelopes_finite a0.Ballot) fun r11 =>
 Option.bind (bif r11 then
 Option.bind (F_ballots_Valid a0.Prepared) fun r12 =>
 some r12
 else some false) fun b13 =>
 Option.bind (bif b13 then
 Option.bind (F_ballots_Compatible a0.Prepared a0.Ballot) fun r14 =>
 some r14
 else some false) fun b15 =>
 Option.bind (bif b15 then
 Option.bind (F_ballots_Zero a0.Prime) fun r16 =>
 some r16
 else some false) fun b17 =>
 Option.bind (bif b17 then
 some b9
 else some false) fun b18 =>
 Option.bind (bif b18 then
 some (decide (a0.High ≤ a0.Prepared.Counter))
 else some false) fun b19 =>
 some b19
 else
 bif (decide (a0.Kind = (3 : Int))) then
 Option.bind (F_ballots_Valid a0.Ballot) fun r20 =>
 Option.bind (bif r20 then
 Option.bind (F_ballots_Zero a0.Prepared) fun r21 =>
 some r21
 else some false) fun b22 =>
 Option.bind (bif b22 then
 Option.bind (F_ballots_Zero a0.Prime) fun r23 =>
 some r23
 else some false) fun b24 =>
 Option.bind (bif b24 then
 some b9
 else some false) fun b25 =>
 some b25
 else
 some false
noncomputable def k_envelopes_Valid : KS U Tryz.prog := ⟨.fn 60 [.ty (Ty.st .Envelope)] (.one Ty.bool) fun a => F_envelopes_Valid a.1, fnS (K := K) sa_envelopes_Valid 110 [.tmp 2] [k_threshold_Valid, k_envelopes_prepares, k_envelopes_finite, k_ballots_Valid, k_ballots_Compatible, k_ballots_Zero] (fk Tryz.f60 [] Tryz.func60)⟩

/-! ### math/bits.Len64 -/
noncomputable def sa_math_bits_Len64 : SA U := annA (scOf Tryz.prog 25 [] Tryz.f123) (.r (.j ⟨[.val 0 (Ty.i .u64), .val 2 (Ty.i .i64)], []⟩ (.r (.j ⟨[.val 0 (Ty.i .u64), .val 2 (Ty.i .i64)], []⟩ (.r (.j ⟨[.val 0 (Ty.i .u64), .val 2 (Ty.i .i64)], []⟩ .e))))))
noncomputable def F_math_bits_Len64 (a0 : Int) : Option Int :=
 letJ (fun (v1 : Int × Int × Unit) =>
 letJ (fun (v3 : Int × Int × Unit) =>
 letJ (fun (v5 : Int × Int × Unit) =>
 Option.bind (sidx (ByteArray.mk #[0, 1, 2, 2, 3, 3, 3, 3, 4, 4, 4, 4, 4, 4, 4, 4, 5, 5, 5, 5, 5, 5, 5, 5, 5, 5, 5, 5, 5, 5, 5, 5, 6, 6, 6, 6, 6, 6, 6, 6, 6, 6, 6, 6, 6, 6, 6, 6, 6, 6, 6, 6, 6, 6, 6, 6, 6, 6, 6, 6, 6, 6, 6, 6, 7, 7, 7, 7, 7, 7, 7, 7, 7, 7, 7, 7, 7, 7, 7, 7, 7, 7, 7, 7, 7, 7, 7, 7, 7, 7, 7, 7, 7, 7, 7, 7, 7, 7, 7, 7, 7, 7, 7, 7, 7, 7, 7, 7, 7, 7, 7, 7, 7, 7, 7, 7, 7, 7, 7, 7, 7, 7, 7, 7, 7, 7, 7, 7, 8, 8, 8, 8, 8, 8, 8, 8, 8, 8, 8, 8, 8, 8, 8, 8, 8, 8, 8, 8, 8, 8, 8, 8, 8, 8, 8, 8, 8, 8, 8, 8, 8, 8, 8, 8, 8, 8, 8, 8, 8, 8, 8, 8, 8, 8, 8, 8, 8, 8, 8, 8, 8, 8, 8, 8, 8, 8, 8, 8, 8, 8, 8, 8, 8, 8, 8, 8, 8, 8, 8, 8, 8, 8, 8, 8, 8, 8, 8, 8, 8, 8, 8, 8, 8, 8, 8, 8, 8, 8, 8, 8, 8, 8, 8, 8, 8, 8, 8, 8, 8, 8, 8, 8, 8, 8, 8, 8, 8, 8, 8, 8, 8, 8, 8, 8, 8, 8, 8, 8, 8, 8, 8, 8, 8, 8, 8, 8]) (convI .u8 v5.1)) fun x7 =>
 some (addI .i64 v5.2.1 (convI .i64 x7))) fun j6 =>
 bif (decide ((256 : Int) ≤ v3.1)) then
 j6 ((shrI .u64 v3.1 (8 : Int)), (addI .i64 v3.2.1 (8 : Int)), ())
 else
 j6 (v3.1, v3.2.1, ())) fun j4 =>
 bif (decide ((65536 : Int) ≤ v1.1)) then
 j4 ((shrI .u64 v1.1 (16 : Int)), (addI .i64 v1.2.1 (16 : Int)), ())
 else
 j4 (v1.1, v1.2.1, ())) fun j2 =>
 bif (decide ((4294967296 : Int) ≤ a0)) then
 j2 ((shrI .u64 a0 (32 : Int)), (32 : Int), ())
 else
 j2 (a0, (0 : Int), ())
noncomputable def k_math_bits_Len64 : KS U Tryz.prog := ⟨.fn 123 [.ty (Ty.i .u64)] (.one (Ty.i .i64)) fun a => F_math_bits_Len64 a.1, fnS (K := K) sa_math_bits_Len64 25 [.tmp 2] [] (fk Tryz.f123 [] Tryz.func123)⟩

/-! ### math/bits.Len -/
noncomputable def sa_math_bits_Len : SA U := annA (scOf Tryz.prog 8 [] Tryz.f87) .e
noncomputable def F_math_bits_Len (a0 : Int) : Option Int :=
 Option.bind (F_math_bits_Len64 a0) fun r1 =>
 some r1
noncomputable def k_math_bits_Len : KS U Tryz.prog := ⟨.fn 87 [.ty (Ty.i .u64)] (.one (Ty.i .i64)) fun a => F_math_bits_Len a.1, fnS (K := K) sa_math_bits_Len 8 [.tmp 2] [k_math_bits_Len64] (fk Tryz.f87 [] Tryz.func87)⟩

/-! ### (trustquorum/monitor.place).compare -/
noncomputable def sa_monitor_place_compare : SA U := annA (scOf Tryz.prog 17 [] Tryz.f62) .e
noncomputable def F_monitor_place_compare (a0 : TPlace) (a1 : TPlace) : Option Int :=
 Option.bind (F_cmp_Compare_int a0.node a1.node) fun r1 =>
 Option.bind (F_cmp_Compare_int a0.slot a1.slot) fun r2 =>
 Option.bind (F_cmp_Or_int [r1, r2]) fun r3 =>
 some r3
noncomputable def k_monitor_place_compare : KS U Tryz.prog := ⟨.fn 62 [.ty (Ty.st .Place), .ty (Ty.st .Place)] (.one (Ty.i .i64)) fun a => F_monitor_place_compare a.1 a.2.1, fnS (K := K) sa_monitor_place_compare 17 [.tmp 4] [k_cmp_Compare_int, k_cmp_Or_int] (fk Tryz.f62 [] Tryz.func62)⟩

/-! ### slices.insertionSortCmpFunc[trustquorum/monitor.place] -/
noncomputable def sa_slices_insertionSortCmpFunc_monitor_place_c62 : SA U := annA (scOf Tryz.prog 53 [] Tryz.f114) (.r (.l (.j ⟨[.val 8 (Ty.i .i64), .own 0 0 0 74 2 (Ty.st .Place)], [1, 2, 3]⟩ (.l (.r (.l (.l (.r (.l (.j ⟨[.val 9 (Ty.i .i64), .own 0 0 0 74 2 (Ty.st .Place)], [1, 2, 3, 8]⟩ (.l (.l (.j ⟨[.val 34 Ty.bool], [0, 1, 2, 3, 8, 9]⟩ .e)))))))))))))
noncomputable def F_slices_insertionSortCmpFunc_monitor_place_c62 (s : List TPlace) (a0 : Int) (a1 : Int) : Option ((Unit) × List TPlace) :=
 loopO (fun (v1 : Int × (List TPlace) × Unit) =>
 bif (decide (v1.1 < a1)) then
 loopO (fun (v2 : Int × (List TPlace) × Unit) =>
 letJ (fun (v3 : Bool × Unit) =>
 bif v3.1 then
 Option.bind (idx v2.2.1 (subI .i64 v2.1 (1 : Int))) fun x5 =>
 Option.bind (v2.2.1[(Int.toNat (subI .i64 v2.1 (1 : Int)))]?) fun x6 =>
 Option.bind (idx v2.2.1 v2.1) fun x7 =>
 Option.bind (v2.2.1[(Int.toNat v2.1)]?) fun x8 =>
 Option.bind (idx v2.2.1 v2.1) fun x9 =>
 Option.bind (v2.2.1[(Int.toNat v2.1)]?) fun x10 =>
 Option.bind (idx (v2.2.1.set (Int.toNat v2.1) x6) (subI .i64 v2.1 (1 : Int))) fun x11 =>
 Option.bind ((v2.2.1.set (Int.toNat v2.1) x6)[(Int.toNat (subI .i64 v2.1 (1 : Int)))]?) fun x12 =>
 some (Sum.inl ((subI .i64 v2.1 (1 : Int)), ((v2.2.1.set (Int.toNat v2.1) x6).set (Int.toNat (subI .i64 v2.1 (1 : Int))) x8), ()))
 else
 Option.map Sum.inr (some (Sum.inl ((addI .i64 v1.1 (1 : Int)), v2.2.1, ())))) fun j4 =>
 bif (decide (a0 < v2.1)) then
 Option.bind (idx v2.2.1 v2.1) fun x13 =>
 Option.bind (v2.2.1[(Int.toNat v2.1)]?) fun x14 =>
 Option.bind (idx v2.2.1 (subI .i64 v2.1 (1 : Int))) fun x15 =>
 Option.bind (v2.2.1[(Int.toNat (subI .i64 v2.1 (1 : Int)))]?) fun x16 =>
 Option.bind (F_monitor_place_compare x14 x16) fun r17 =>
 j4 ((decide (r17 < (0 : Int))), ())
 else
 j4 (false, ())) (v1.1, v1.2.1, ())
 else
 Option.map Sum.inr (some ((()), v1.2.1))) ((addI .i64 a0 (1 : Int)), s, ())
noncomputable def k_slices_insertionSortCmpFunc_monitor_place_c62 : KS U Tryz.prog := ⟨.rw 114 74 2 (Ty.st .Place) [.ty (Ty.i .i64), .ty (Ty.i .i64), .clo 62 []] (.many []) fun s a => F_slices_insertionSortCmpFunc_monitor_place_c62 s a.1 a.2.1, rwS (K := K) sa_slices_insertionSortCmpFunc_monitor_place_c62 53 [] [k_monitor_place_compare] (fk Tryz.f114 [] Tryz.func114)⟩

/-! ### slices.siftDownCmpFunc[trustquorum/monitor.place] -/
noncomputable def sa_slices_siftDownCmpFunc_monitor_place_c62 : SA U := annA (scOf Tryz.prog 82 [] Tryz.f135) (.r (.l (.j ⟨[.val 10 (Ty.i .i64), .own 0 0 0 74 2 (Ty.st .Place)], [2, 3, 4]⟩ (.l (.l (.r (.r (.j ⟨[.val 11 (Ty.i .i64)], [0, 2, 3, 4, 10]⟩ (.l (.j ⟨[.val 40 Ty.bool], [0, 2, 3, 4, 10, 11]⟩ .e))))))))))
noncomputable def F_slices_siftDownCmpFunc_monitor_place_c62 (s : List TPlace) (a0 : Int) (a1 : Int) (a2 : Int) : Option ((Unit) × List TPlace) :=
 loopO (fun (v1 : Int × (List TPlace) × Unit) =>
 bif (decide (a1 ≤ (addI .i64 (mulI .i64 (2 : Int) v1.1) (1 : Int)))) then
 Option.map Sum.inr (some ((()), v1.2.1))
 else
 letJ (fun (v2 : Int × Unit) =>
 Option.bind (idx v1.2.1 (addI .i64 a2 v1.1)) fun x4 =>
 Option.bind (v1.2.1[(Int.toNat (addI .i64 a2 v1.1))]?) fun x5 =>
 Option.bind (idx v1.2.1 (addI .i64 a2 v2.1)) fun x6 =>
 Option.bind (v1.2.1[(Int.toNat (addI .i64 a2 v2.1))]?) fun x7 =>
 Option.bind (F_monitor_place_compare x5 x7) fun r8 =>
 bif (!(decide (r8 < (0 : Int)))) then
 Option.map Sum.inr (some ((()), v1.2.1))
 else
 Option.bind (idx v1.2.1 (addI .i64 a2 v2.1)) fun x9 =>
 Option.bind (v1.2.1[(Int.toNat (addI .i64 a2 v2.1))]?) fun x10 =>
 Option.bind (idx v1.2.1 (addI .i64 a2 v1.1)) fun x11 =>
 Option.bind (v1.2.1[(Int.toNat (addI .i64 a2 v1.1))]?) fun x12 =>
 Option.bind (idx v1.2.1 (addI .i64 a2 v1.1)) fun x13 =>
 Option.bind (v1.2.1[(Int.toNat (addI .i64 a2 v1.1))]?) fun x14 =>
 Option.bind (idx (v1.2.1.set (Int.toNat (addI .i64 a2 v1.1)) x10) (addI .i64 a2 v2.1)) fun x15 =>
 Option.bind ((v1.2.1.set (Int.toNat (addI .i64 a2 v1.1)) x10)[(Int.toNat (addI .i64 a2 v2.1))]?) fun x16 =>
 some (Sum.inl (v2.1, ((v1.2.1.set (Int.toNat (addI .i64 a2 v1.1)) x10).set (Int.toNat (addI .i64 a2 v2.1)) x12), ()))) fun j3 =>
 letJ (fun (v17 : Bool × Unit) =>
 bif v17.1 then
 j3 ((addI .i64 (addI .i64 (mulI .i64 (2 : Int) v1.1) (1 : Int)) (1 : Int)), ())
 else
 j3 ((addI .i64 (mulI .i64 (2 : Int) v1.1) (1 : Int)), ())) fun j18 =>
 bif (decide ((addI .i64 (addI .i64 (mulI .i64 (2 : Int) v1.1) (1 : Int)) (1 : Int)) < a1)) then
 Option.bind (idx v1.2.1 (addI .i64 a2 (addI .i64 (mulI .i64 (2 : Int) v1.1) (1 : Int)))) fun x19 =>
 Option.bind (v1.2.1[(Int.toNat (addI .i64 a2 (addI .i64 (mulI .i64 (2 : Int) v1.1) (1 : Int))))]?) fun x20 =>
 Option.bind (idx v1.2.1 (addI .i64 (addI .i64 a2 (addI .i64 (mulI .i64 (2 : Int) v1.1) (1 : Int))) (1 : Int))) fun x21 =>
 Option.bind (v1.2.1[(Int.toNat (addI .i64 (addI .i64 a2 (addI .i64 (mulI .i64 (2 : Int) v1.1) (1 : Int))) (1 : Int)))]?) fun x22 =>
 Option.bind (F_monitor_place_compare x20 x22) fun r23 =>
 j18 ((decide (r23 < (0 : Int))), ())
 else
 j18 (false, ())) (a0, s, ())
noncomputable def k_slices_siftDownCmpFunc_monitor_place_c62 : KS U Tryz.prog := ⟨.rw 135 74 2 (Ty.st .Place) [.ty (Ty.i .i64), .ty (Ty.i .i64), .ty (Ty.i .i64), .clo 62 []] (.many []) fun s a => F_slices_siftDownCmpFunc_monitor_place_c62 s a.1 a.2.1 a.2.2.1, rwS (K := K) sa_slices_siftDownCmpFunc_monitor_place_c62 82 [] [k_monitor_place_compare] (fk Tryz.f135 [] Tryz.func135)⟩

/-! ### slices.heapSortCmpFunc[trustquorum/monitor.place] -/
noncomputable def sa_slices_heapSortCmpFunc_monitor_place_c62 : SA U := annA (scOf Tryz.prog 60 [] Tryz.f115) (.r (.r (.r (.b (.r (.l (.j ⟨[.val 11 (Ty.i .i64), .own 0 0 0 74 2 (Ty.st .Place)], [3, 8, 9, 10]⟩ .e))) (.r (.l (.j ⟨[.val 12 (Ty.i .i64), .own 0 0 0 74 2 (Ty.st .Place)], [3, 8, 9]⟩ .e)))))))
noncomputable def F_slices_heapSortCmpFunc_monitor_place_c62 (s : List TPlace) (a0 : Int) (a1 : Int) : Option ((Unit) × List TPlace) :=
 loopO (fun (v1 : Int × (List TPlace) × Unit) =>
 bif (decide ((0 : Int) ≤ v1.1)) then
 Option.bind (F_slices_siftDownCmpFunc_monitor_place_c62 v1.2.1 v1.1 (subI .i64 a1 a0) a0) fun p2 =>
 some (Sum.inl ((subI .i64 v1.1 (1 : Int)), p2.2, ()))
 else
 Option.map Sum.inr (loopO (fun (v3 : Int × (List TPlace) × Unit) =>
 bif (decide ((0 : Int) ≤ v3.1)) then
 Option.bind (idx v3.2.1 (addI .i64 a0 v3.1)) fun x4 =>
 Option.bind (v3.2.1[(Int.toNat (addI .i64 a0 v3.1))]?) fun x5 =>
 Option.bind (idx v3.2.1 a0) fun x6 =>
 Option.bind (v3.2.1[(Int.toNat a0)]?) fun x7 =>
 Option.bind (idx v3.2.1 a0) fun x8 =>
 Option.bind (v3.2.1[(Int.toNat a0)]?) fun x9 =>
 Option.bind (idx (v3.2.1.set (Int.toNat a0) x5) (addI .i64 a0 v3.1)) fun x10 =>
 Option.bind ((v3.2.1.set (Int.toNat a0) x5)[(Int.toNat (addI .i64 a0 v3.1))]?) fun x11 =>
 Option.bind (F_slices_siftDownCmpFunc_monitor_place_c62 ((v3.2.1.set (Int.toNat a0) x5).set (Int.toNat (addI .i64 a0 v3.1)) x7) (0 : Int) v3.1 a0) fun p12 =>
 some (Sum.inl ((subI .i64 v3.1 (1 : Int)), p12.2, ()))
 else
 Option.map Sum.inr (some ((()), v3.2.1))) ((subI .i64 (subI .i64 a1 a0) (1 : Int)), v1.2.1, ()))) ((quoI .i64 (subI .i64 (subI .i64 a1 a0) (1 : Int)) (2 : Int)), s, ())
noncomputable def k_slices_heapSortCmpFunc_monitor_place_c62 : KS U Tryz.prog := ⟨.rw 115 74 2 (Ty.st .Place) [.ty (Ty.i .i64), .ty (Ty.i .i64), .clo 62 []] (.many []) fun s a => F_slices_heapSortCmpFunc_monitor_place_c62 s a.1 a.2.1, rwS (K := K) sa_slices_heapSortCmpFunc_monitor_place_c62 60 [] [k_slices_siftDownCmpFunc_monitor_place_c62] (fk Tryz.f115 [] Tryz.func115)⟩

/-! ### slices.nextPowerOfTwo -/
noncomputable def sa_slices_nextPowerOfTwo : SA U := annA (scOf Tryz.prog 7 [] Tryz.f136) .e
noncomputable def F_slices_nextPowerOfTwo (a0 : Int) : Option Int :=
 Option.bind (F_math_bits_Len (convI .u64 a0)) fun r1 =>
 if r1 < 0 then none else
 some (shlI .u64 (1 : Int) r1)
noncomputable def k_slices_nextPowerOfTwo : KS U Tryz.prog := ⟨.fn 136 [.ty (Ty.i .i64)] (.one (Ty.i .u64)) fun a => F_slices_nextPowerOfTwo a.1, fnS (K := K) sa_slices_nextPowerOfTwo 7 [.tmp 2] [k_math_bits_Len] (fk Tryz.f136 [] Tryz.func136)⟩

/-! ### (*slices.xorshift).Next -/
noncomputable def sa_slices_xorshift_Next : SA U := annA (scOf Tryz.prog 33 [] Tryz.f137) .e
noncomputable def F_slices_xorshift_Next (s : Int)  : Option (Int × Int) :=
 some ((xorI .u64 (xorI .u64 (xorI .u64 s (shlI .u64 s (13 : Int))) (shrI .u64 (xorI .u64 s (shlI .u64 s (13 : Int))) (7 : Int))) (shlI .u64 (xorI .u64 (xorI .u64 s (shlI .u64 s (13 : Int))) (shrI .u64 (xorI .u64 s (shlI .u64 s (13 : Int))) (7 : Int))) (17 : Int))), (xorI .u64 (xorI .u64 (xorI .u64 s (shlI .u64 s (13 : Int))) (shrI .u64 (xorI .u64 s (shlI .u64 s (13 : Int))) (7 : Int))) (shlI .u64 (xorI .u64 (xorI .u64 s (shlI .u64 s (13 : Int))) (shrI .u64 (xorI .u64 s (shlI .u64 s (13 : Int))) (7 : Int))) (17 : Int))))
noncomputable def k_slices_xorshift_Next : KS U Tryz.prog := ⟨.rc 137 0 (Ty.i .u64) [] (.one (Ty.i .u64)) fun s a => F_slices_xorshift_Next s , rcS (K := K) sa_slices_xorshift_Next 33 [.tmp 2] [] (fk Tryz.f137 [] Tryz.func137)⟩

/-! ### slices.breakPatternsCmpFunc[trustquorum/monitor.place] -/
noncomputable def sa_slices_breakPatternsCmpFunc_monitor_place_c62 : SA U := annA (scOf Tryz.prog 67 [] Tryz.f116) (.r (.r (.l (.r (.r (.r (.l (.j ⟨[.val 11 (Ty.i .i64), .own 0 0 0 74 2 (Ty.st .Place), .box 9 1 (Ty.i .u64) []], [1, 8, 9, 10]⟩ (.l (.r (.l (.l (.r (.j ⟨[.val 12 (Ty.i .i64)], [0, 1, 8, 9, 10, 11]⟩ .e))))))))))))))
noncomputable def F_slices_breakPatternsCmpFunc_monitor_place_c62 (s : List TPlace) (a0 : Int) (a1 : Int) : Option ((Unit) × List TPlace) :=
 bif (decide ((8 : Int) ≤ (subI .i64 a1 a0))) then
 Option.bind (F_slices_nextPowerOfTwo (subI .i64 a1 a0)) fun r1 =>
 loopO (fun (v2 : Int × (List TPlace) × Int × Unit) =>
 bif (decide (v2.1 ≤ (addI .i64 (addI .i64 a0 (mulI .i64 (quoI .i64 (subI .i64 a1 a0) (4 : Int)) (2 : Int))) (1 : Int)))) then
 Option.bind (F_slices_xorshift_Next v2.2.2.1) fun p3 =>
 letJ (fun (v4 : Int × Unit) =>
 Option.bind (idx v2.2.1 (addI .i64 a0 v4.1)) fun x6 =>
 Option.bind (v2.2.1[(Int.toNat (addI .i64 a0 v4.1))]?) fun x7 =>
 Option.bind (idx v2.2.1 v2.1) fun x8 =>
 Option.bind (v2.2.1[(Int.toNat v2.1)]?) fun x9 =>
 Option.bind (idx v2.2.1 v2.1) fun x10 =>
 Option.bind (v2.2.1[(Int.toNat v2.1)]?) fun x11 =>
 Option.bind (idx (v2.2.1.set (Int.toNat v2.1) x7) (addI .i64 a0 v4.1)) fun x12 =>
 Option.bind ((v2.2.1.set (Int.toNat v2.1) x7)[(Int.toNat (addI .i64 a0 v4.1))]?) fun x13 =>
 some (Sum.inl ((addI .i64 v2.1 (1 : Int)), ((v2.2.1.set (Int.toNat v2.1) x7).set (Int.toNat (addI .i64 a0 v4.1)) x9), p3.2, ()))) fun j5 =>
 bif (decide ((subI .i64 a1 a0) ≤ (convI .i64 (andI .u64 p3.1 (subI .u64 r1 (1 : Int)))))) then
 j5 ((subI .i64 (convI .i64 (andI .u64 p3.1 (subI .u64 r1 (1 : Int)))) (subI .i64 a1 a0)), ())
 else
 j5 ((convI .i64 (andI .u64 p3.1 (subI .u64 r1 (1 : Int)))), ())
 else
 Option.map Sum.inr (some ((()), v2.2.1))) ((subI .i64 (addI .i64 a0 (mulI .i64 (quoI .i64 (subI .i64 a1 a0) (4 : Int)) (2 : Int))) (1 : Int)), s, (convI .u64 (subI .i64 a1 a0)), ())
 else
 some ((()), s)
noncomputable def k_slices_breakPatternsCmpFunc_monitor_place_c62 : KS U Tryz.prog := ⟨.rw 116 74 2 (Ty.st .Place) [.ty (Ty.i .i64), .ty (Ty.i .i64), .clo 62 []] (.many []) fun s a => F_slices_breakPatternsCmpFunc_monitor_place_c62 s a.1 a.2.1, rwS (K := K) sa_slices_breakPatternsCmpFunc_monitor_place_c62 67 [] [k_slices_nextPowerOfTwo, k_slices_xorshift_Next] (fk Tryz.f116 [] Tryz.func116)⟩

/-! ### slices.order2CmpFunc[trustquorum/monitor.place] -/
noncomputable def sa_slices_order2CmpFunc_monitor_place_c62 : SA U := annA (scOf Tryz.prog 32 [] Tryz.f155) .e
noncomputable def F_slices_order2CmpFunc_monitor_place_c62 (s : Int) (a0 : (List TPlace)) (a1 : Int) (a2 : Int) : Option ((Int × Int × Unit) × Int) :=
 Option.bind (idx a0 a2) fun x1 =>
 Option.bind (idx a0 a1) fun x2 =>
 Option.bind (F_monitor_place_compare x1 x2) fun r3 =>
 bif (decide (r3 < (0 : Int))) then
 some ((a2, a1, ()), (addI .i64 s (1 : Int)))
 else
 some ((a1, a2, ()), s)
noncomputable def k_slices_order2CmpFunc_monitor_place_c62 : KS U Tryz.prog := ⟨.rc 155 3 (Ty.i .i64) [.ty (Ty.sl (Ty.st .Place)), .ty (Ty.i .i64), .ty (Ty.i .i64), .clo 62 []] (.many [(Ty.i .i64), (Ty.i .i64)]) fun s a => F_slices_order2CmpFunc_monitor_place_c62 s a.1 a.2.1 a.2.2.1, rcS (K := K) sa_slices_order2CmpFunc_monitor_place_c62 32 [.tmp 10, .tmp 11] [k_monitor_place_compare] (fk Tryz.f155 [] Tryz.func155)⟩

/-! ### slices.medianCmpFunc[trustquorum/monitor.place] -/
noncomputable def sa_slices_medianCmpFunc_monitor_place_c62 : SA U := annA (scOf Tryz.prog 41 [] Tryz.f139) .e
noncomputable def F_slices_medianCmpFunc_monitor_place_c62 (s : Int) (a0 : (List TPlace)) (a1 : Int) (a2 : Int) (a3 : Int) : Option (Int × Int) :=
 Option.bind (F_slices_order2CmpFunc_monitor_place_c62 s a0 a1 a2) fun p1 =>
 Option.bind (F_slices_order2CmpFunc_monitor_place_c62 p1.2 a0 p1.1.2.1 a3) fun p2 =>
 Option.bind (F_slices_order2CmpFunc_monitor_place_c62 p2.2 a0 p1.1.1 p2.1.1) fun p3 =>
 some (p3.1.2.1, p3.2)
noncomputable def k_slices_medianCmpFunc_monitor_place_c62 : KS U Tryz.prog := ⟨.rc 139 4 (Ty.i .i64) [.ty (Ty.sl (Ty.st .Place)), .ty (Ty.i .i64), .ty (Ty.i .i64), .ty (Ty.i .i64), .clo 62 []] (.one (Ty.i .i64)) fun s a => F_slices_medianCmpFunc_monitor_place_c62 s a.1 a.2.1 a.2.2.1 a.2.2.2.1, rcS (K := K) sa_slices_medianCmpFunc_monitor_place_c62 41 [.tmp 12] [k_slices_order2CmpFunc_monitor_place_c62] (fk Tryz.f139 [] Tryz.func139)⟩

/-! ### slices.medianAdjacentCmpFunc[trustquorum/monitor.place] -/
noncomputable def sa_slices_medianAdjacentCmpFunc_monitor_place_c62 : SA U := annA (scOf Tryz.prog 18 [] Tryz.f138) .e
noncomputable def F_slices_medianAdjacentCmpFunc_monitor_place_c62 (s : Int) (a0 : (List TPlace)) (a1 : Int) : Option (Int × Int) :=
 Option.bind (F_slices_medianCmpFunc_monitor_place_c62 s a0 (subI .i64 a1 (1 : Int)) a1 (addI .i64 a1 (1 : Int))) fun p1 =>
 some (p1.1, p1.2)
noncomputable def k_slices_medianAdjacentCmpFunc_monitor_place_c62 : KS U Tryz.prog := ⟨.rc 138 2 (Ty.i .i64) [.ty (Ty.sl (Ty.st .Place)), .ty (Ty.i .i64), .clo 62 []] (.one (Ty.i .i64)) fun s a => F_slices_medianAdjacentCmpFunc_monitor_place_c62 s a.1 a.2.1, rcS (K := K) sa_slices_medianAdjacentCmpFunc_monitor_place_c62 18 [.tmp 8] [k_slices_medianCmpFunc_monitor_place_c62] (fk Tryz.f138 [] Tryz.func138)⟩

/-! ### slices.choosePivotCmpFunc[trustquorum/monitor.place] -/
noncomputable def sa_slices_choosePivotCmpFunc_monitor_place_c62 : SA U := annA (scOf Tryz.prog 63 [] Tryz.f117) (.r (.r (.r (.r (.r (.r (.j ⟨[.val 13 (Ty.i .i64), .box 6 1 (Ty.i .i64) []], [11]⟩ (.l (.r (.l (.j ⟨[.val 12 (Ty.i .i64), .val 13 (Ty.i .i64), .val 14 (Ty.i .i64), .box 6 1 (Ty.i .i64) []], [0, 3, 11]⟩ .e)))))))))))
noncomputable def F_slices_choosePivotCmpFunc_monitor_place_c62 (a0 : (List TPlace)) (a1 : Int) (a2 : Int) : Option (Int × Int × Unit) :=
 letJ (fun (v1 : Int × Int × Unit) =>
 bif (decide (v1.2.1 = (0 : Int))) then
 some (v1.1, (1 : Int), ())
 else
 bif (decide (v1.2.1 = (12 : Int))) then
 some (v1.1, (2 : Int), ())
 else
 some (v1.1, (0 : Int), ())) fun j2 =>
 bif (decide ((8 : Int) ≤ (subI .i64 a2 a1))) then
 letJ (fun (v3 : Int × Int × Int × Int × Unit) =>
 Option.bind (F_slices_medianCmpFunc_monitor_place_c62 v3.2.2.2.1 a0 v3.1 v3.2.1 v3.2.2.1) fun p5 =>
 j2 (p5.1, p5.2, ())) fun j4 =>
 bif (decide ((50 : Int) ≤ (subI .i64 a2 a1))) then
 Option.bind (F_slices_medianAdjacentCmpFunc_monitor_place_c62 (0 : Int) a0 (addI .i64 a1 (mulI .i64 (quoI .i64 (subI .i64 a2 a1) (4 : Int)) (1 : Int)))) fun p6 =>
 Option.bind (F_slices_medianAdjacentCmpFunc_monitor_place_c62 p6.2 a0 (addI .i64 a1 (mulI .i64 (quoI .i64 (subI .i64 a2 a1) (4 : Int)) (2 : Int)))) fun p7 =>
 Option.bind (F_slices_medianAdjacentCmpFunc_monitor_place_c62 p7.2 a0 (addI .i64 a1 (mulI .i64 (quoI .i64 (subI .i64 a2 a1) (4 : Int)) (3 : Int)))) fun p8 =>
 j4 (p6.1, p7.1, p8.1, p8.2, ())
 else
 j4 ((addI .i64 a1 (mulI .i64 (quoI .i64 (subI .i64 a2 a1) (4 : Int)) (1 : Int))), (addI .i64 a1 (mulI .i64 (quoI .i64 (subI .i64 a2 a1) (4 : Int)) (2 : Int))), (addI .i64 a1 (mulI .i64 (quoI .i64 (subI .i64 a2 a1) (4 : Int)) (3 : Int))), (0 : Int), ())
 else
 j2 ((addI .i64 a1 (mulI .i64 (quoI .i64 (subI .i64 a2 a1) (4 : Int)) (2 : Int))), (0 : Int), ())
noncomputable def k_slices_choosePivotCmpFunc_monitor_place_c62 : KS U Tryz.prog := ⟨.fn 117 [.ty (Ty.sl (Ty.st .Place)), .ty (Ty.i .i64), .ty (Ty.i .i64), .clo 62 []] (.many [(Ty.i .i64), (Ty.i .i64)]) fun a => F_slices_choosePivotCmpFunc_monitor_place_c62 a.1 a.2.1 a.2.2.1, fnS (K := K) sa_slices_choosePivotCmpFunc_monitor_place_c62 63 [.tmp 8, .tmp 9] [k_slices_medianAdjacentCmpFunc_monitor_place_c62, k_slices_medianCmpFunc_monitor_place_c62] (fk Tryz.f117 [] Tryz.func117)⟩

/-! ### slices.reverseRangeCmpFunc[trustquorum/monitor.place] -/
noncomputable def sa_slices_reverseRangeCmpFunc_monitor_place_c62 : SA U := annA (scOf Tryz.prog 34 [] Tryz.f118) (.r (.r (.l (.j ⟨[.val 8 (Ty.i .i64), .val 9 (Ty.i .i64), .own 0 0 0 74 2 (Ty.st .Place)], []⟩ .e))))
noncomputable def F_slices_reverseRangeCmpFunc_monitor_place_c62 (s : List TPlace) (a0 : Int) (a1 : Int) : Option ((Unit) × List TPlace) :=
 loopO (fun (v1 : Int × Int × (List TPlace) × Unit) =>
 bif (decide (v1.1 < v1.2.1)) then
 Option.bind (idx v1.2.2.1 v1.2.1) fun x2 =>
 Option.bind (v1.2.2.1[(Int.toNat v1.2.1)]?) fun x3 =>
 Option.bind (idx v1.2.2.1 v1.1) fun x4 =>
 Option.bind (v1.2.2.1[(Int.toNat v1.1)]?) fun x5 =>
 Option.bind (idx v1.2.2.1 v1.1) fun x6 =>
 Option.bind (v1.2.2.1[(Int.toNat v1.1)]?) fun x7 =>
 Option.bind (idx (v1.2.2.1.set (Int.toNat v1.1) x3) v1.2.1) fun x8 =>
 Option.bind ((v1.2.2.1.set (Int.toNat v1.1) x3)[(Int.toNat v1.2.1)]?) fun x9 =>
 some (Sum.inl ((addI .i64 v1.1 (1 : Int)), (subI .i64 v1.2.1 (1 : Int)), ((v1.2.2.1.set (Int.toNat v1.1) x3).set (Int.toNat v1.2.1) x5), ()))
 else
 Option.map Sum.inr (some ((()), v1.2.2.1))) (a0, (subI .i64 a1 (1 : Int)), s, ())
noncomputable def k_slices_reverseRangeCmpFunc_monitor_place_c62 : KS U Tryz.prog := ⟨.rw 118 74 2 (Ty.st .Place) [.ty (Ty.i .i64), .ty (Ty.i .i64), .clo 62 []] (.many []) fun s a => F_slices_reverseRangeCmpFunc_monitor_place_c62 s a.1 a.2.1, rwS (K := K) sa_slices_reverseRangeCmpFunc_monitor_place_c62 34 [] [] (fk Tryz.f118 [] Tryz.func118)⟩

/-! ### slices.partialInsertionSortCmpFunc[trustquorum/monitor.place] -/
noncomputable def sa_slices_partialInsertionSortCmpFunc_monitor_place_c62 : SA U := annA (scOf Tryz.prog 141 [] Tryz.f119) (.r (.r (.l (.r (.l (.j ⟨[.val 9 (Ty.i .i64), .val 10 (Ty.i .i64), .own 0 0 0 74 2 (Ty.st .Place)], [1, 2, 3]⟩ (.l (.r (.j ⟨[.val 9 (Ty.i .i64), .own 0 0 0 74 2 (Ty.st .Place)], [1, 2, 3, 10]⟩ (.l (.l (.b (.l (.j ⟨[.val 9 (Ty.i .i64)], [0, 1, 2, 3, 10]⟩ (.l (.l (.j ⟨[.val 36 Ty.bool], [0, 1, 2, 3, 9, 10]⟩ .e))))) (.r (.r (.r (.j ⟨[.own 0 0 0 74 2 (Ty.st .Place)], [1, 2, 3, 9, 10]⟩ (.b (.r (.l (.r (.l (.j ⟨[.val 11 (Ty.i .i64), .own 0 0 0 74 2 (Ty.st .Place)], [1, 2, 3, 9, 10]⟩ .e))))) (.r (.l (.r (.l (.j ⟨[.val 12 (Ty.i .i64), .own 0 0 0 74 2 (Ty.st .Place)], [1, 2, 3, 9, 10]⟩ .e))))))))))))))))))))))
noncomputable def F_slices_partialInsertionSortCmpFunc_monitor_place_c62 (s : List TPlace) (a0 : Int) (a1 : Int) : Option (Bool × List TPlace) :=
 loopO (fun (v1 : Int × Int × (List TPlace) × Unit) =>
 bif (decide (v1.2.1 < (5 : Int))) then
 letJ (fun (v2 : Int × (List TPlace) × Unit) =>
 some (Sum.inl (v2.1, (addI .i64 v1.2.1 (1 : Int)), v2.2.1, ()))) fun j3 =>
 loopO (fun (v4 : Int × Unit) =>
 letJ (fun (v5 : Bool × Unit) =>
 bif v5.1 then
 some (Sum.inl ((addI .i64 v4.1 (1 : Int)), ()))
 else
 Option.map Sum.inr (bif (decide (v4.1 = a1)) then
 Option.map Sum.inr (some (true, v1.2.2.1))
 else
 bif (decide ((subI .i64 a1 a0) < (50 : Int))) then
 Option.map Sum.inr (some (false, v1.2.2.1))
 else
 Option.bind (idx v1.2.2.1 (subI .i64 v4.1 (1 : Int))) fun x7 =>
 Option.bind (v1.2.2.1[(Int.toNat (subI .i64 v4.1 (1 : Int)))]?) fun x8 =>
 Option.bind (idx v1.2.2.1 v4.1) fun x9 =>
 Option.bind (v1.2.2.1[(Int.toNat v4.1)]?) fun x10 =>
 Option.bind (idx v1.2.2.1 v4.1) fun x11 =>
 Option.bind (v1.2.2.1[(Int.toNat v4.1)]?) fun x12 =>
 Option.bind (idx (v1.2.2.1.set (Int.toNat v4.1) x8) (subI .i64 v4.1 (1 : Int))) fun x13 =>
 Option.bind ((v1.2.2.1.set (Int.toNat v4.1) x8)[(Int.toNat (subI .i64 v4.1 (1 : Int)))]?) fun x14 =>
 letJ (fun (v15 : (List TPlace) × Unit) =>
 bif (decide ((2 : Int) ≤ (subI .i64 a1 v4.1))) then
 loopO (fun (v17 : Int × (List TPlace) × Unit) =>
 bif (decide (v17.1 < a1)) then
 Option.bind (idx v17.2.1 v17.1) fun x18 =>
 Option.bind (v17.2.1[(Int.toNat v17.1)]?) fun x19 =>
 Option.bind (idx v17.2.1 (subI .i64 v17.1 (1 : Int))) fun x20 =>
 Option.bind (v17.2.1[(Int.toNat (subI .i64 v17.1 (1 : Int)))]?) fun x21 =>
 Option.bind (F_monitor_place_compare x19 x21) fun r22 =>
 bif (!(decide (r22 < (0 : Int)))) then
 Option.map Sum.inr (j3 (v4.1, v17.2.1, ()))
 else
 Option.bind (idx v17.2.1 (subI .i64 v17.1 (1 : Int))) fun x23 =>
 Option.bind (v17.2.1[(Int.toNat (subI .i64 v17.1 (1 : Int)))]?) fun x24 =>
 Option.bind (idx v17.2.1 v17.1) fun x25 =>
 Option.bind (v17.2.1[(Int.toNat v17.1)]?) fun x26 =>
 Option.bind (idx v17.2.1 v17.1) fun x27 =>
 Option.bind (v17.2.1[(Int.toNat v17.1)]?) fun x28 =>
 Option.bind (idx (v17.2.1.set (Int.toNat v17.1) x24) (subI .i64 v17.1 (1 : Int))) fun x29 =>
 Option.bind ((v17.2.1.set (Int.toNat v17.1) x24)[(Int.toNat (subI .i64 v17.1 (1 : Int)))]?) fun x30 =>
 some (Sum.inl ((addI .i64 v17.1 (1 : Int)), ((v17.2.1.set (Int.toNat v17.1) x24).set (Int.toNat (subI .i64 v17.1 (1 : Int))) x26), ()))
 else
 Option.map Sum.inr (j3 (v4.1, v17.2.1, ()))) ((addI .i64 v4.1 (1 : Int)), v15.1, ())
 else
 j3 (v4.1, v15.1, ())) fun j16 =>
 bif (decide ((2 : Int) ≤ (subI .i64 v4.1 a0))) then
 loopO (fun (v31 : Int × (List TPlace) × Unit) =>
 bif (decide ((1 : Int) ≤ v31.1)) then
 Option.bind (idx v31.2.1 v31.1) fun x32 =>
 Option.bind (v31.2.1[(Int.toNat v31.1)]?) fun x33 =>
 Option.bind (idx v31.2.1 (subI .i64 v31.1 (1 : Int))) fun x34 =>
 Option.bind (v31.2.1[(Int.toNat (subI .i64 v31.1 (1 : Int)))]?) fun x35 =>
 Option.bind (F_monitor_place_compare x33 x35) fun r36 =>
 bif (!(decide (r36 < (0 : Int)))) then
 Option.map Sum.inr (j16 (v31.2.1, ()))
 else
 Option.bind (idx v31.2.1 (subI .i64 v31.1 (1 : Int))) fun x37 =>
 Option.bind (v31.2.1[(Int.toNat (subI .i64 v31.1 (1 : Int)))]?) fun x38 =>
 Option.bind (idx v31.2.1 v31.1) fun x39 =>
 Option.bind (v31.2.1[(Int.toNat v31.1)]?) fun x40 =>
 Option.bind (idx v31.2.1 v31.1) fun x41 =>
 Option.bind (v31.2.1[(Int.toNat v31.1)]?) fun x42 =>
 Option.bind (idx (v31.2.1.set (Int.toNat v31.1) x38) (subI .i64 v31.1 (1 : Int))) fun x43 =>
 Option.bind ((v31.2.1.set (Int.toNat v31.1) x38)[(Int.toNat (subI .i64 v31.1 (1 : Int)))]?) fun x44 =>
 some (Sum.inl ((subI .i64 v31.1 (1 : Int)), ((v31.2.1.set (Int.toNat v31.1) x38).set (Int.toNat (subI .i64 v31.1 (1 : Int))) x40), ()))
 else
 Option.map Sum.inr (j16 (v31.2.1, ()))) ((subI .i64 v4.1 (1 : Int)), ((v1.2.2.1.set (Int.toNat v4.1) x8).set (Int.toNat (subI .i64 v4.1 (1 : Int))) x10), ())
 else
 j16 (((v1.2.2.1.set (Int.toNat v4.1) x8).set (Int.toNat (subI .i64 v4.1 (1 : Int))) x10), ()))) fun j6 =>
 bif (decide (v4.1 < a1)) then
 Option.bind (idx v1.2.2.1 v4.1) fun x45 =>
 Option.bind (v1.2.2.1[(Int.toNat v4.1)]?) fun x46 =>
 Option.bind (idx v1.2.2.1 (subI .i64 v4.1 (1 : Int))) fun x47 =>
 Option.bind (v1.2.2.1[(Int.toNat (subI .i64 v4.1 (1 : Int)))]?) fun x48 =>
 Option.bind (F_monitor_place_compare x46 x48) fun r49 =>
 j6 ((!(decide (r49 < (0 : Int)))), ())
 else
 j6 (false, ())) (v1.1, ())
 else
 Option.map Sum.inr (some (false, v1.2.2.1))) ((addI .i64 a0 (1 : Int)), (0 : Int), s, ())
noncomputable def k_slices_partialInsertionSortCmpFunc_monitor_place_c62 : KS U Tryz.prog := ⟨.rw 119 74 2 (Ty.st .Place) [.ty (Ty.i .i64), .ty (Ty.i .i64), .clo 62 []] (.one Ty.bool) fun s a => F_slices_partialInsertionSortCmpFunc_monitor_place_c62 s a.1 a.2.1, rwS (K := K) sa_slices_partialInsertionSortCmpFunc_monitor_place_c62 141 [.tmp 8] [k_monitor_place_compare] (fk Tryz.f119 [] Tryz.func119)⟩

/-! ### slices.partitionEqualCmpFunc[trustquorum/monitor.place] -/
noncomputable def sa_slices_partitionEqualCmpFunc_monitor_place_c62 : SA U := annA (scOf Tryz.prog 90 [] Tryz.f120) (.r (.r (.r (.l (.l (.j ⟨[.val 11 (Ty.i .i64), .val 12 (Ty.i .i64), .own 0 0 0 74 2 (Ty.st .Place)], [1, 4]⟩ (.l (.l (.b (.l (.j ⟨[.val 11 (Ty.i .i64)], [0, 1, 4, 12]⟩ (.l (.l (.j ⟨[.val 47 Ty.bool], [0, 1, 4, 11, 12]⟩ .e))))) (.l (.l (.j ⟨[.val 12 (Ty.i .i64)], [0, 1, 4, 11]⟩ (.l (.l (.j ⟨[.val 65 Ty.bool], [0, 1, 4, 11, 12]⟩ .e)))))))))))))))
noncomputable def F_slices_partitionEqualCmpFunc_monitor_place_c62 (s : List TPlace) (a0 : Int) (a1 : Int) (a2 : Int) : Option (Int × List TPlace) :=
 Option.bind (idx s a2) fun x1 =>
 Option.bind (s[(Int.toNat a2)]?) fun x2 =>
 Option.bind (idx s a0) fun x3 =>
 Option.bind (s[(Int.toNat a0)]?) fun x4 =>
 Option.bind (idx s a0) fun x5 =>
 Option.bind (s[(Int.toNat a0)]?) fun x6 =>
 Option.bind (idx (s.set (Int.toNat a0) x2) a2) fun x7 =>
 Option.bind ((s.set (Int.toNat a0) x2)[(Int.toNat a2)]?) fun x8 =>
 loopO (fun (v9 : Int × Int × (List TPlace) × Unit) =>
 loopO (fun (v10 : Int × Unit) =>
 letJ (fun (v11 : Bool × Unit) =>
 bif v11.1 then
 some (Sum.inl ((addI .i64 v10.1 (1 : Int)), ()))
 else
 Option.map Sum.inr (loopO (fun (v13 : Int × Unit) =>
 letJ (fun (v14 : Bool × Unit) =>
 bif v14.1 then
 some (Sum.inl ((subI .i64 v13.1 (1 : Int)), ()))
 else
 Option.map Sum.inr (bif (decide (v13.1 < v10.1)) then
 Option.map Sum.inr (some (v10.1, v9.2.2.1))
 else
 Option.bind (idx v9.2.2.1 v13.1) fun x16 =>
 Option.bind (v9.2.2.1[(Int.toNat v13.1)]?) fun x17 =>
 Option.bind (idx v9.2.2.1 v10.1) fun x18 =>
 Option.bind (v9.2.2.1[(Int.toNat v10.1)]?) fun x19 =>
 Option.bind (idx v9.2.2.1 v10.1) fun x20 =>
 Option.bind (v9.2.2.1[(Int.toNat v10.1)]?) fun x21 =>
 Option.bind (idx (v9.2.2.1.set (Int.toNat v10.1) x17) v13.1) fun x22 =>
 Option.bind ((v9.2.2.1.set (Int.toNat v10.1) x17)[(Int.toNat v13.1)]?) fun x23 =>
 some (Sum.inl ((addI .i64 v10.1 (1 : Int)), (subI .i64 v13.1 (1 : Int)), ((v9.2.2.1.set (Int.toNat v10.1) x17).set (Int.toNat v13.1) x19), ())))) fun j15 =>
 bif (decide (v10.1 ≤ v13.1)) then
 Option.bind (idx v9.2.2.1 a0) fun x24 =>
 Option.bind (v9.2.2.1[(Int.toNat a0)]?) fun x25 =>
 Option.bind (idx v9.2.2.1 v13.1) fun x26 =>
 Option.bind (v9.2.2.1[(Int.toNat v13.1)]?) fun x27 =>
 Option.bind (F_monitor_place_compare x25 x27) fun r28 =>
 j15 ((decide (r28 < (0 : Int))), ())
 else
 j15 (false, ())) (v9.2.1, ()))) fun j12 =>
 bif (decide (v10.1 ≤ v9.2.1)) then
 Option.bind (idx v9.2.2.1 a0) fun x29 =>
 Option.bind (v9.2.2.1[(Int.toNat a0)]?) fun x30 =>
 Option.bind (idx v9.2.2.1 v10.1) fun x31 =>
 Option.bind (v9.2.2.1[(Int.toNat v10.1)]?) fun x32 =>
 Option.bind (F_monitor_place_compare x30 x32) fun r33 =>
 j12 ((!(decide (r33 < (0 : Int)))), ())
 else
 j12 (false, ())) (v9.1, ())) ((addI .i64 a0 (1 : Int)), (subI .i64 a1 (1 : Int)), ((s.set (Int.toNat a0) x2).set (Int.toNat a2) x4), ())
noncomputable def k_slices_partitionEqualCmpFunc_monitor_place_c62 : KS U Tryz.prog := ⟨.rw 120 74 2 (Ty.st .Place) [.ty (Ty.i .i64), .ty (Ty.i .i64), .ty (Ty.i .i64), .clo 62 []] (.one (Ty.i .i64)) fun s a => F_slices_partitionEqualCmpFunc_monitor_place_c62 s a.1 a.2.1 a.2.2.1, rwS (K := K) sa_slices_partitionEqualCmpFunc_monitor_place_c62 90 [.tmp 10] [k_monitor_place_compare] (fk Tryz.f120 [] Tryz.func120)⟩

/-! ### slices.partitionCmpFunc[trustquorum/monitor.place] -/
noncomputable def sa_slices_partitionCmpFunc_monitor_place_c62 : SA U := annA (scOf Tryz.prog 178 [] Tryz.f121) (.r (.r (.r (.b (.l (.j ⟨[.val 12 (Ty.i .i64)], [0, 1, 4, 13]⟩ (.l (.l (.j ⟨[.val 47 Ty.bool], [0, 1, 4, 12, 13]⟩ .e))))) (.b (.l (.j ⟨[.val 13 (Ty.i .i64)], [0, 1, 4, 12]⟩ (.l (.l (.j ⟨[.val 66 Ty.bool], [0, 1, 4, 12, 13]⟩ .e))))) (.r (.r (.r (.r (.l (.l (.j ⟨[.val 12 (Ty.i .i64), .val 13 (Ty.i .i64), .own 0 0 0 74 2 (Ty.st .Place)], [1, 4]⟩ (.l (.l (.b (.l (.j ⟨[.val 12 (Ty.i .i64)], [0, 1, 4, 13]⟩ (.l (.l (.j ⟨[.val 120 Ty.bool], [0, 1, 4, 12, 13]⟩ .e))))) (.l (.l (.j ⟨[.val 13 (Ty.i .i64)], [0, 1, 4, 12]⟩ (.l (.l (.j ⟨[.val 139 Ty.bool], [0, 1, 4, 12, 13]⟩ .e)))))))))))))))))))))
noncomputable def F_slices_partitionCmpFunc_monitor_place_c62 (s : List TPlace) (a0 : Int) (a1 : Int) (a2 : Int) : Option ((Int × Bool × Unit) × List TPlace) :=
 Option.bind (idx s a2) fun x1 =>
 Option.bind (s[(Int.toNat a2)]?) fun x2 =>
 Option.bind (idx s a0) fun x3 =>
 Option.bind (s[(Int.toNat a0)]?) fun x4 =>
 Option.bind (idx s a0) fun x5 =>
 Option.bind (s[(Int.toNat a0)]?) fun x6 =>
 Option.bind (idx (s.set (Int.toNat a0) x2) a2) fun x7 =>
 Option.bind ((s.set (Int.toNat a0) x2)[(Int.toNat a2)]?) fun x8 =>
 loopO (fun (v9 : Int × Unit) =>
 letJ (fun (v10 : Bool × Unit) =>
 bif v10.1 then
 some (Sum.inl ((addI .i64 v9.1 (1 : Int)), ()))
 else
 Option.map Sum.inr (loopO (fun (v12 : Int × Unit) =>
 letJ (fun (v13 : Bool × Unit) =>
 bif v13.1 then
 some (Sum.inl ((subI .i64 v12.1 (1 : Int)), ()))
 else
 Option.map Sum.inr (bif (decide (v12.1 < v9.1)) then
 Option.bind (idx ((s.set (Int.toNat a0) x2).set (Int.toNat a2) x4) a0) fun x15 =>
 Option.bind (((s.set (Int.toNat a0) x2).set (Int.toNat a2) x4)[(Int.toNat a0)]?) fun x16 =>
 Option.bind (idx ((s.set (Int.toNat a0) x2).set (Int.toNat a2) x4) v12.1) fun x17 =>
 Option.bind (((s.set (Int.toNat a0) x2).set (Int.toNat a2) x4)[(Int.toNat v12.1)]?) fun x18 =>
 Option.bind (idx ((s.set (Int.toNat a0) x2).set (Int.toNat a2) x4) v12.1) fun x19 =>
 Option.bind (((s.set (Int.toNat a0) x2).set (Int.toNat a2) x4)[(Int.toNat v12.1)]?) fun x20 =>
 Option.bind (idx (((s.set (Int.toNat a0) x2).set (Int.toNat a2) x4).set (Int.toNat v12.1) x16) a0) fun x21 =>
 Option.bind ((((s.set (Int.toNat a0) x2).set (Int.toNat a2) x4).set (Int.toNat v12.1) x16)[(Int.toNat a0)]?) fun x22 =>
 some ((v12.1, true, ()), ((((s.set (Int.toNat a0) x2).set (Int.toNat a2) x4).set (Int.toNat v12.1) x16).set (Int.toNat a0) x18))
 else
 Option.bind (idx ((s.set (Int.toNat a0) x2).set (Int.toNat a2) x4) v12.1) fun x23 =>
 Option.bind (((s.set (Int.toNat a0) x2).set (Int.toNat a2) x4)[(Int.toNat v12.1)]?) fun x24 =>
 Option.bind (idx ((s.set (Int.toNat a0) x2).set (Int.toNat a2) x4) v9.1) fun x25 =>
 Option.bind (((s.set (Int.toNat a0) x2).set (Int.toNat a2) x4)[(Int.toNat v9.1)]?) fun x26 =>
 Option.bind (idx ((s.set (Int.toNat a0) x2).set (Int.toNat a2) x4) v9.1) fun x27 =>
 Option.bind (((s.set (Int.toNat a0) x2).set (Int.toNat a2) x4)[(Int.toNat v9.1)]?) fun x28 =>
 Option.bind (idx (((s.set (Int.toNat a0) x2).set (Int.toNat a2) x4).set (Int.toNat v9.1) x24) v12.1) fun x29 =>
 Option.bind ((((s.set (Int.toNat a0) x2).set (Int.toNat a2) x4).set (Int.toNat v9.1) x24)[(Int.toNat v12.1)]?) fun x30 =>
 loopO (fun (v31 : Int × Int × (List TPlace) × Unit) =>
 loopO (fun (v32 : Int × Unit) =>
 letJ (fun (v33 : Bool × Unit) =>
 bif v33.1 then
 some (Sum.inl ((addI .i64 v32.1 (1 : Int)), ()))
 else
 Option.map Sum.inr (loopO (fun (v35 : Int × Unit) =>
 letJ (fun (v36 : Bool × Unit) =>
 bif v36.1 then
 some (Sum.inl ((subI .i64 v35.1 (1 : Int)), ()))
 else
 Option.map Sum.inr (bif (decide (v35.1 < v32.1)) then
 Option.map Sum.inr (Option.bind (idx v31.2.2.1 a0) fun x38 =>
 Option.bind (v31.2.2.1[(Int.toNat a0)]?) fun x39 =>
 Option.bind (idx v31.2.2.1 v35.1) fun x40 =>
 Option.bind (v31.2.2.1[(Int.toNat v35.1)]?) fun x41 =>
 Option.bind (idx v31.2.2.1 v35.1) fun x42 =>
 Option.bind (v31.2.2.1[(Int.toNat v35.1)]?) fun x43 =>
 Option.bind (idx (v31.2.2.1.set (Int.toNat v35.1) x39) a0) fun x44 =>
 Option.bind ((v31.2.2.1.set (Int.toNat v35.1) x39)[(Int.toNat a0)]?) fun x45 =>
 some ((v35.1, false, ()), ((v31.2.2.1.set (Int.toNat v35.1) x39).set (Int.toNat a0) x41)))
 else
 Option.bind (idx v31.2.2.1 v35.1) fun x46 =>
 Option.bind (v31.2.2.1[(Int.toNat v35.1)]?) fun x47 =>
 Option.bind (idx v31.2.2.1 v32.1) fun x48 =>
 Option.bind (v31.2.2.1[(Int.toNat v32.1)]?) fun x49 =>
 Option.bind (idx v31.2.2.1 v32.1) fun x50 =>
 Option.bind (v31.2.2.1[(Int.toNat v32.1)]?) fun x51 =>
 Option.bind (idx (v31.2.2.1.set (Int.toNat v32.1) x47) v35.1) fun x52 =>
 Option.bind ((v31.2.2.1.set (Int.toNat v32.1) x47)[(Int.toNat v35.1)]?) fun x53 =>
 some (Sum.inl ((addI .i64 v32.1 (1 : Int)), (subI .i64 v35.1 (1 : Int)), ((v31.2.2.1.set (Int.toNat v32.1) x47).set (Int.toNat v35.1) x49), ())))) fun j37 =>
 bif (decide (v32.1 ≤ v35.1)) then
 Option.bind (idx v31.2.2.1 v35.1) fun x54 =>
 Option.bind (v31.2.2.1[(Int.toNat v35.1)]?) fun x55 =>
 Option.bind (idx v31.2.2.1 a0) fun x56 =>
 Option.bind (v31.2.2.1[(Int.toNat a0)]?) fun x57 =>
 Option.bind (F_monitor_place_compare x55 x57) fun r58 =>
 j37 ((!(decide (r58 < (0 : Int)))), ())
 else
 j37 (false, ())) (v31.2.1, ()))) fun j34 =>
 bif (decide (v32.1 ≤ v31.2.1)) then
 Option.bind (idx v31.2.2.1 v32.1) fun x59 =>
 Option.bind (v31.2.2.1[(Int.toNat v32.1)]?) fun x60 =>
 Option.bind (idx v31.2.2.1 a0) fun x61 =>
 Option.bind (v31.2.2.1[(Int.toNat a0)]?) fun x62 =>
 Option.bind (F_monitor_place_compare x60 x62) fun r63 =>
 j34 ((decide (r63 < (0 : Int))), ())
 else
 j34 (false, ())) (v31.1, ())) ((addI .i64 v9.1 (1 : Int)), (subI .i64 v12.1 (1 : Int)), ((((s.set (Int.toNat a0) x2).set (Int.toNat a2) x4).set (Int.toNat v9.1) x24).set (Int.toNat v12.1) x26), ()))) fun j14 =>
 bif (decide (v9.1 ≤ v12.1)) then
 Option.bind (idx ((s.set (Int.toNat a0) x2).set (Int.toNat a2) x4) v12.1) fun x64 =>
 Option.bind (((s.set (Int.toNat a0) x2).set (Int.toNat a2) x4)[(Int.toNat v12.1)]?) fun x65 =>
 Option.bind (idx ((s.set (Int.toNat a0) x2).set (Int.toNat a2) x4) a0) fun x66 =>
 Option.bind (((s.set (Int.toNat a0) x2).set (Int.toNat a2) x4)[(Int.toNat a0)]?) fun x67 =>
 Option.bind (F_monitor_place_compare x65 x67) fun r68 =>
 j14 ((!(decide (r68 < (0 : Int)))), ())
 else
 j14 (false, ())) ((subI .i64 a1 (1 : Int)), ()))) fun j11 =>
 bif (decide (v9.1 ≤ (subI .i64 a1 (1 : Int)))) then
 Option.bind (idx ((s.set (Int.toNat a0) x2).set (Int.toNat a2) x4) v9.1) fun x69 =>
 Option.bind (((s.set (Int.toNat a0) x2).set (Int.toNat a2) x4)[(Int.toNat v9.1)]?) fun x70 =>
 Option.bind (idx ((s.set (Int.toNat a0) x2).set (Int.toNat a2) x4) a0) fun x71 =>
 Option.bind (((s.set (Int.toNat a0) x2).set (Int.toNat a2) x4)[(Int.toNat a0)]?) fun x72 =>
 Option.bind (F_monitor_place_compare x70 x72) fun r73 =>
 j11 ((decide (r73 < (0 : Int))), ())
 else
 j11 (false, ())) ((addI .i64 a0 (1 : Int)), ())
noncomputable def k_slices_partitionCmpFunc_monitor_place_c62 : KS U Tryz.prog := ⟨.rw 121 74 2 (Ty.st .Place) [.ty (Ty.i .i64), .ty (Ty.i .i64), .ty (Ty.i .i64), .clo 62 []] (.many [(Ty.i .i64), Ty.bool]) fun s a => F_slices_partitionCmpFunc_monitor_place_c62 s a.1 a.2.1 a.2.2.1, rwS (K := K) sa_slices_partitionCmpFunc_monitor_place_c62 178 [.tmp 10, .tmp 11] [k_monitor_place_compare] (fk Tryz.f121 [] Tryz.func121)⟩

/-! ### slices.pdqsortCmpFunc[trustquorum/monitor.place] -/
noncomputable def sa_slices_pdqsortCmpFunc_monitor_place_c62 : SA U := annA (scOf Tryz.prog 148 [] Tryz.f86) (.r (.r (.l (.j ⟨[.val 1 (Ty.i .i64), .val 2 (Ty.i .i64), .val 3 (Ty.i .i64), .val 10 Ty.bool, .val 11 Ty.bool, .own 0 0 0 74 2 (Ty.st .Place)], [4]⟩ (.l (.l (.r (.r (.r (.j ⟨[.val 3 (Ty.i .i64), .own 0 0 0 74 2 (Ty.st .Place)], [1, 2, 4, 10, 11, 12]⟩ (.r (.r (.j ⟨[.val 13 (Ty.i .i64), .val 14 (Ty.i .i64), .own 0 0 0 74 2 (Ty.st .Place)], [1, 2, 3, 4, 10, 11, 12]⟩ (.r (.j ⟨[.own 0 0 0 74 2 (Ty.st .Place)], [1, 2, 3, 4, 10, 11, 12, 13]⟩ (.r (.l (.j ⟨[.val 97 Ty.bool], [0, 1, 2, 3, 4, 10, 11, 12, 13]⟩ .e))))))))))))))))))
noncomputable def B_slices_pdqsortCmpFunc_monitor_place_c62 (rec : List TPlace → (Int × Int × Int × (Unit) × Unit) → Option ((Unit) × List TPlace)) (s : List TPlace) (a0 : Int) (a1 : Int) (a2 : Int) : Option ((Unit) × List TPlace) :=
 loopO (fun (v1 : Int × Int × Int × Bool × Bool × (List TPlace) × Unit) =>
 bif (decide ((subI .i64 v1.2.1 v1.1) ≤ (12 : Int))) then
 Option.bind (F_slices_insertionSortCmpFunc_monitor_place_c62 v1.2.2.2.2.2.1 v1.1 v1.2.1) fun p2 =>
 Option.map Sum.inr (some ((()), p2.2))
 else
 bif (decide (v1.2.2.1 = (0 : Int))) then
 Option.bind (F_slices_heapSortCmpFunc_monitor_place_c62 v1.2.2.2.2.2.1 v1.1 v1.2.1) fun p3 =>
 Option.map Sum.inr (some ((()), p3.2))
 else
 letJ (fun (v4 : Int × (List TPlace) × Unit) =>
 Option.bind (F_slices_choosePivotCmpFunc_monitor_place_c62 v4.2.1 v1.1 v1.2.1) fun r6 =>
 letJ (fun (v7 : Int × Int × (List TPlace) × Unit) =>
 letJ (fun (v9 : (List TPlace) × Unit) =>
 letJ (fun (v11 : Bool × Unit) =>
 bif v11.1 then
 Option.bind (F_slices_partitionEqualCmpFunc_monitor_place_c62 v9.1 v1.1 v1.2.1 v7.1) fun p13 =>
 some (Sum.inl (p13.1, v1.2.1, v4.1, v1.2.2.2.1, v1.2.2.2.2.1, p13.2, ()))
 else
 Option.bind (F_slices_partitionCmpFunc_monitor_place_c62 v9.1 v1.1 v1.2.1 v7.1) fun p14 =>
 bif (decide ((subI .i64 p14.1.1 v1.1) < (subI .i64 v1.2.1 p14.1.1))) then
 Option.bind (rec p14.2 (v1.1, p14.1.1, v4.1, (()), ())) fun p15 =>
 some (Sum.inl ((addI .i64 p14.1.1 (1 : Int)), v1.2.1, v4.1, (decide ((quoI .i64 (subI .i64 v1.2.1 v1.1) (8 : Int)) ≤ (subI .i64 p14.1.1 v1.1))), p14.1.2.1, p15.2, ()))
 else
 Option.bind (rec p14.2 ((addI .i64 p14.1.1 (1 : Int)), v1.2.1, v4.1, (()), ())) fun p16 =>
 some (Sum.inl (v1.1, p14.1.1, v4.1, (decide ((quoI .i64 (subI .i64 v1.2.1 v1.1) (8 : Int)) ≤ (subI .i64 v1.2.1 p14.1.1))), p14.1.2.1, p16.2, ()))) fun j12 =>
 bif (decide ((0 : Int) < v1.1)) then
 Option.bind (idx v9.1 (subI .i64 v1.1 (1 : Int))) fun x17 =>
 Option.bind (v9.1[(Int.toNat (subI .i64 v1.1 (1 : Int)))]?) fun x18 =>
 Option.bind (idx v9.1 v7.1) fun x19 =>
 Option.bind (v9.1[(Int.toNat v7.1)]?) fun x20 =>
 Option.bind (F_monitor_place_compare x18 x20) fun r21 =>
 j12 ((!(decide (r21 < (0 : Int)))), ())
 else
 j12 (false, ())) fun j10 =>
 Option.bind (bif v1.2.2.2.1 then
 some v1.2.2.2.2.1
 else some false) fun b22 =>
 Option.bind (bif b22 then
 some (decide (v7.2.1 = (1 : Int)))
 else some false) fun b23 =>
 bif b23 then
 Option.bind (F_slices_partialInsertionSortCmpFunc_monitor_place_c62 v7.2.2.1 v1.1 v1.2.1) fun p24 =>
 bif p24.1 then
 Option.map Sum.inr (some ((()), p24.2))
 else
 j10 (p24.2, ())
 else
 j10 (v7.2.2.1, ())) fun j8 =>
 bif (decide (r6.2.1 = (2 : Int))) then
 Option.bind (F_slices_reverseRangeCmpFunc_monitor_place_c62 v4.2.1 v1.1 v1.2.1) fun p25 =>
 j8 ((subI .i64 (subI .i64 v1.2.1 (1 : Int)) (subI .i64 r6.1 v1.1)), (1 : Int), p25.2, ())
 else
 j8 (r6.1, r6.2.1, v4.2.1, ())) fun j5 =>
 bif (!v1.2.2.2.1) then
 Option.bind (F_slices_breakPatternsCmpFunc_monitor_place_c62 v1.2.2.2.2.2.1 v1.1 v1.2.1) fun p26 =>
 j5 ((subI .i64 v1.2.2.1 (1 : Int)), p26.2, ())
 else
 j5 (v1.2.2.1, v1.2.2.2.2.2.1, ())) (a0, a1, a2, true, true, s, ())
noncomputable def I_slices_pdqsortCmpFunc_monitor_place_c62 : Nat → List TPlace → (Int × Int × Int × (Unit) × Unit) → Option ((Unit) × List TPlace) := iterF2 (fun rec s a => B_slices_pdqsortCmpFunc_monitor_place_c62 rec s a.1 a.2.1 a.2.2.1)
noncomputable def F_slices_pdqsortCmpFunc_monitor_place_c62 (s : List TPlace) (a0 : Int) (a1 : Int) (a2 : Int) : Option ((Unit) × List TPlace) := I_slices_pdqsortCmpFunc_monitor_place_c62 (List.length s + 1) s (a0, a1, a2, (()), ())
noncomputable def k_slices_pdqsortCmpFunc_monitor_place_c62 : KS U Tryz.prog := ⟨.rw 86 74 2 (Ty.st .Place) [.ty (Ty.i .i64), .ty (Ty.i .i64), .ty (Ty.i .i64), .clo 62 []] (.many []) fun s a => F_slices_pdqsortCmpFunc_monitor_place_c62 s a.1 a.2.1 a.2.2.1, rwRS (K := K) («as» := [.ty (Ty.i .i64), .ty (Ty.i .i64), .ty (Ty.i .i64), .clo 62 []]) (r := .many []) (T := (Ty.st .Place)) (B := fun rec s a => B_slices_pdqsortCmpFunc_monitor_place_c62 rec s a.1 a.2.1 a.2.2.1) sa_slices_pdqsortCmpFunc_monitor_place_c62 148 [] [k_slices_insertionSortCmpFunc_monitor_place_c62, k_slices_heapSortCmpFunc_monitor_place_c62, k_slices_breakPatternsCmpFunc_monitor_place_c62, k_slices_choosePivotCmpFunc_monitor_place_c62, k_slices_reverseRangeCmpFunc_monitor_place_c62, k_slices_partialInsertionSortCmpFunc_monitor_place_c62, k_monitor_place_compare, k_slices_partitionEqualCmpFunc_monitor_place_c62, k_slices_partitionCmpFunc_monitor_place_c62] (fk Tryz.f86 [] Tryz.func86) (hF := fun s a => ⟨_, rfl⟩)⟩

/-! ### slices.SortFunc[[]trustquorum/monitor.place,trustquorum/monitor.place] -/
noncomputable def sa_slices_SortFunc_monitor_place_monitor_place_c62 : SA U := annA (scOf Tryz.prog 14 [] Tryz.f61) .e
noncomputable def F_slices_SortFunc_monitor_place_monitor_place_c62 (s : List TPlace)  : Option ((Unit) × List TPlace) :=
 Option.bind (F_math_bits_Len (convI .u64 ((List.length s : Nat) : Int))) fun r1 =>
 Option.bind (F_slices_pdqsortCmpFunc_monitor_place_c62 s (0 : Int) ((List.length s : Nat) : Int) r1) fun p2 =>
 some ((()), p2.2)
noncomputable def k_slices_SortFunc_monitor_place_monitor_place_c62 : KS U Tryz.prog := ⟨.rw 61 74 2 (Ty.st .Place) [.clo 62 []] (.many []) fun s a => F_slices_SortFunc_monitor_place_monitor_place_c62 s , rwS (K := K) sa_slices_SortFunc_monitor_place_monitor_place_c62 14 [] [k_math_bits_Len, k_slices_pdqsortCmpFunc_monitor_place_c62] (fk Tryz.f61 [] Tryz.func61)⟩

/-! ### trustquorum/monitor.files -/
noncomputable def F_monitor_files (a0 : List TSighting) : Option ((List (TPlace × (List TEnvelope))) × (List TPlace) × Unit) := filesF 176 16 (fun e => F_envelopes_Valid e) (fun s => F_slices_SortFunc_monitor_place_monitor_place_c62 s) a0
noncomputable def k_monitor_files : KS U Tryz.prog := ⟨.fn 26 [.ty (Ty.sl (Ty.st .Sighting))] (.many [(Ty.mp (Ty.st .Place) (Ty.sl (Ty.st .Envelope))), (Ty.sl (Ty.st .Place))]) fun a => F_monitor_files a.1, fil26.sound k_envelopes_Valid.s k_slices_SortFunc_monitor_place_monitor_place_c62.s⟩

/-! ### slices.Clone[[]int,int] -/
noncomputable def sa_slices_Clone_int_int : SA U := annA (scOf Tryz.prog 8 [5] Tryz.f131) .e
noncomputable def F_slices_Clone_int_int (a0 : (List Int)) : Option (List Int) :=
 bif List.isEmpty a0 then
 both (some ([] : List Int)) (bif lenOk 8 (List.length ([] : List Int) + List.length a0) then
 some (([] : List Int) ++ a0)
 else none)
 else
 bif lenOk 8 (List.length ([] : List Int) + List.length a0) then
 some (([] : List Int) ++ a0)
 else none
noncomputable def k_slices_Clone_int_int : KS U Tryz.prog := ⟨.fn 131 [.ty (Ty.sl (Ty.i .i64))] (.one (Ty.sl (Ty.i .i64))) fun a => F_slices_Clone_int_int a.1, fnS (K := K) sa_slices_Clone_int_int 8 [.tmp 2] [] (fk Tryz.f131 [5] Tryz.func131)⟩

/-! ### trustquorum/copies.Trust -/
noncomputable def sa_copies_Trust : SA U := annA (scOf Tryz.prog 28 [] Tryz.f103) (.r (.r (.l (.r (.l (.ps (.ownB 3 2 34 3 (Ty.st .Trust)) (.j ⟨[.val 15 (Ty.i .i64), .box 8 1 (Ty.st .Trust) [(2, 14, 1)], .rowb 14 1 34 3 (Ty.st .Trust)], [2, 3, 13, 14]⟩ .e)))))))
noncomputable def B_copies_Trust (rec : (TTrust × Unit) → Option TTrust) (a0 : TTrust) : Option TTrust :=
 Option.bind (F_slices_Clone_int_int a0.Nodes) fun r1 =>
 loopO (fun (v2 : Int × TTrust × (List TTrust) × Unit) =>
 bif (decide (v2.1 < ((List.length a0.Inner : Nat) : Int))) then
 Option.bind (idx a0.Inner v2.1) fun x3 =>
 Option.bind (rec ((TTrust.mk x3.Threshold x3.Nodes x3.Inner), ())) fun r4 =>
 bif lenOk 56 (List.length v2.2.2.1 + List.length [(TTrust.mk r4.Threshold r4.Nodes r4.Inner)]) then
 some (Sum.inl ((addI .i64 v2.1 (1 : Int)), (TTrust.mk v2.2.1.Threshold v2.2.1.Nodes ([] : List TTrust)), (v2.2.2.1 ++ [(TTrust.mk r4.Threshold r4.Nodes r4.Inner)]), ()))
 else none
 else
 Option.map Sum.inr (some (TTrust.mk v2.2.1.Threshold v2.2.1.Nodes v2.2.2.1))) ((0 : Int), (TTrust.mk a0.Threshold r1 ([] : List TTrust)), ([] : List TTrust), ())
noncomputable def I_copies_Trust : Nat → (TTrust × Unit) → Option TTrust := iterF (fun rec a => B_copies_Trust rec a.1)
noncomputable def F_copies_Trust (a0 : TTrust) : Option TTrust := I_copies_Trust (SizeOf.sizeOf a0 + 1) (a0, ())
noncomputable def k_copies_Trust : KS U Tryz.prog := ⟨.fn 103 [.ty (Ty.st .Trust)] (.one (Ty.st .Trust)) fun a => F_copies_Trust a.1, fnRS (K := K) («as» := [.ty (Ty.st .Trust)]) (r := .one (Ty.st .Trust)) (B := fun rec a => B_copies_Trust rec a.1) sa_copies_Trust 28 [.cell 2 (some 3)] [k_slices_Clone_int_int] (fk Tryz.f103 [] Tryz.func103) (hF := fun a => ⟨_, rfl⟩)⟩

/-! ### trustquorum/copies.Envelope -/
noncomputable def sa_copies_Envelope : SA U := annA (scOf Tryz.prog 8 [] Tryz.f73) .e
noncomputable def F_copies_Envelope (a0 : TEnvelope) : Option TEnvelope :=
 Option.bind (F_copies_Trust (TTrust.mk a0.Trust.Threshold a0.Trust.Nodes a0.Trust.Inner)) fun r1 =>
 some (TEnvelope.mk a0.Node a0.Slot a0.Seq (TTrust.mk r1.Threshold r1.Nodes r1.Inner) a0.Kind a0.Ballot a0.Prepared a0.Prime a0.Low a0.High)
noncomputable def k_copies_Envelope : KS U Tryz.prog := ⟨.fn 73 [.ty (Ty.st .Envelope)] (.one (Ty.st .Envelope)) fun a => F_copies_Envelope a.1, fnS (K := K) sa_copies_Envelope 8 [.cell 2 (some 15)] [k_copies_Trust] (fk Tryz.f73 [] Tryz.func73)⟩

/-! ### trustquorum/monitor.newest -/
noncomputable def sa_monitor_newest : SA U := annA (scOf Tryz.prog 29 [] Tryz.f37) (.r (.r (.r (.l (.r (.l (.j ⟨[.val 16 (Ty.i .i64), .box 8 1 (Ty.st .Envelope) []], [2, 4, 14, 15]⟩ (.l (.r (.r (.j ⟨[.box 8 1 (Ty.st .Envelope) []], [2, 4, 14, 15, 16]⟩ .e)))))))))))
noncomputable def F_monitor_newest (a0 : (List TEnvelope)) : Option (TEnvelope × Bool × Unit) :=
 bif (decide (((List.length a0 : Nat) : Int) = (0 : Int))) then
 some ((TEnvelope.mk (0 : Int) (0 : Int) (0 : Int) (TTrust.mk (0 : Int) ([] : List Int) ([] : List TTrust)) (0 : Int) (TBallot.mk (0 : Int) (ByteArray.mk #[])) (TBallot.mk (0 : Int) (ByteArray.mk #[])) (TBallot.mk (0 : Int) (ByteArray.mk #[])) (0 : Int) (0 : Int)), false, ())
 else
 Option.bind (idx a0 (0 : Int)) fun x1 =>
 loopO (fun (v2 : Int × TEnvelope × Unit) =>
 bif (decide (v2.1 < ((List.length a0 : Nat) : Int))) then
 letJ (fun (v3 : TEnvelope × Unit) =>
 some (Sum.inl ((addI .i64 v2.1 (1 : Int)), (TEnvelope.mk v3.1.Node v3.1.Slot v3.1.Seq (TTrust.mk v3.1.Trust.Threshold v3.1.Trust.Nodes v3.1.Trust.Inner) v3.1.Kind v3.1.Ballot v3.1.Prepared v3.1.Prime v3.1.Low v3.1.High), ()))) fun j4 =>
 Option.bind (idx a0 v2.1) fun x5 =>
 bif (decide (v2.2.1.Seq < x5.Seq)) then
 j4 ((TEnvelope.mk x5.Node x5.Slot x5.Seq (TTrust.mk x5.Trust.Threshold x5.Trust.Nodes x5.Trust.Inner) x5.Kind x5.Ballot x5.Prepared x5.Prime x5.Low x5.High), ())
 else
 j4 ((TEnvelope.mk v2.2.1.Node v2.2.1.Slot v2.2.1.Seq (TTrust.mk v2.2.1.Trust.Threshold v2.2.1.Trust.Nodes v2.2.1.Trust.Inner) v2.2.1.Kind v2.2.1.Ballot v2.2.1.Prepared v2.2.1.Prime v2.2.1.Low v2.2.1.High), ())
 else
 Option.map Sum.inr (Option.bind (F_copies_Envelope (TEnvelope.mk v2.2.1.Node v2.2.1.Slot v2.2.1.Seq (TTrust.mk v2.2.1.Trust.Threshold v2.2.1.Trust.Nodes v2.2.1.Trust.Inner) v2.2.1.Kind v2.2.1.Ballot v2.2.1.Prepared v2.2.1.Prime v2.2.1.Low v2.2.1.High)) fun r6 =>
 some ((TEnvelope.mk r6.Node r6.Slot r6.Seq (TTrust.mk r6.Trust.Threshold r6.Trust.Nodes r6.Trust.Inner) r6.Kind r6.Ballot r6.Prepared r6.Prime r6.Low r6.High), true, ()))) ((0 : Int), (TEnvelope.mk x1.Node x1.Slot x1.Seq (TTrust.mk x1.Trust.Threshold x1.Trust.Nodes x1.Trust.Inner) x1.Kind x1.Ballot x1.Prepared x1.Prime x1.Low x1.High), ())
noncomputable def k_monitor_newest : KS U Tryz.prog := ⟨.fn 37 [.ty (Ty.sl (Ty.st .Envelope))] (.many [(Ty.st .Envelope), Ty.bool]) fun a => F_monitor_newest a.1, fnS (K := K) sa_monitor_newest 29 [.cell 2 (some 15), .tmp 3] [k_copies_Envelope] (fk Tryz.f37 [] Tryz.func37)⟩

/-! ### (trustquorum/envelopes.Right).AcceptsPrepare -/
noncomputable def sa_envelopes_Right_AcceptsPrepare : SA U := annA (scOf Tryz.prog 36 [] Tryz.f69) .e
noncomputable def F_envelopes_Right_AcceptsPrepare (a0 : TRight) (a1 : TBallot) : Option Bool :=
 Option.bind (F_ballots_Zero a1) fun r1 =>
 bif r1 then
 some false
 else
 bif (decide (a0.Envelope.Kind = (1 : Int))) then
 Option.bind (F_ballots_Prepares a0.Envelope.Prepared a0.Envelope.Prime a1) fun r2 =>
 some r2
 else
 bif (decide (a0.Envelope.Kind = (2 : Int))) then
 Option.bind (F_ballots_Covers a0.Envelope.Prepared a1) fun r3 =>
 some r3
 else
 Option.bind (F_ballots_Compatible a0.Envelope.Ballot a1) fun r4 =>
 some r4
noncomputable def k_envelopes_Right_AcceptsPrepare : KS U Tryz.prog := ⟨.fn 69 [.ty (Ty.st .Right), .ty (Ty.st .Ballot)] (.one Ty.bool) fun a => F_envelopes_Right_AcceptsPrepare a.1 a.2.1, fnS (K := K) sa_envelopes_Right_AcceptsPrepare 36 [.tmp 4] [k_ballots_Zero, k_ballots_Prepares, k_ballots_Covers, k_ballots_Compatible] (fk Tryz.f69 [] Tryz.func69)⟩

/-! ### trustquorum/envelopes.AcceptsPrepare -/
noncomputable def sa_envelopes_AcceptsPrepare : SA U := annA (scOf Tryz.prog 13 [] Tryz.f63) .e
noncomputable def F_envelopes_AcceptsPrepare (a0 : TEnvelope) (a1 : TBallot) : Option Bool :=
 Option.bind (F_envelopes_Valid (TEnvelope.mk a0.Node a0.Slot a0.Seq (TTrust.mk a0.Trust.Threshold a0.Trust.Nodes a0.Trust.Inner) a0.Kind a0.Ballot a0.Prepared a0.Prime a0.Low a0.High)) fun r1 =>
 Option.bind (bif r1 then
 Option.bind (F_envelopes_Right_AcceptsPrepare (TRight.mk (TEnvelope.mk a0.Node a0.Slot a0.Seq (TTrust.mk a0.Trust.Threshold a0.Trust.Nodes a0.Trust.Inner) a0.Kind a0.Ballot a0.Prepared a0.Prime a0.Low a0.High)) a1) fun r2 =>
 some r2
 else some false) fun b3 =>
 some b3
noncomputable def k_envelopes_AcceptsPrepare : KS U Tryz.prog := ⟨.fn 63 [.ty (Ty.st .Envelope), .ty (Ty.st .Ballot)] (.one Ty.bool) fun a => F_envelopes_AcceptsPrepare a.1 a.2.1, fnS (K := K) sa_envelopes_AcceptsPrepare 13 [.tmp 4] [k_envelopes_Valid, k_envelopes_Right_AcceptsPrepare] (fk Tryz.f63 [] Tryz.func63)⟩

/-! ### trustquorum/threshold.Uses -/
noncomputable def sa_threshold_Uses : SA U := annA (scOf Tryz.prog 35 [] Tryz.f64) (.r (.r (.b (.r (.l (.j ⟨[.val 3 (Ty.i .i64), .val 11 (Ty.i .i64)], [1, 9, 10]⟩ (.l (.r (.r (.j ⟨[.val 3 (Ty.i .i64)], [1, 9, 10, 11]⟩ .e))))))) (.l (.r (.l (.j ⟨[.val 3 (Ty.i .i64), .val 25 (Ty.i .i64)], [23, 24]⟩ .e)))))))
noncomputable def B_threshold_Uses (rec : (TTrust × Unit) → Option Int) (a0 : TTrust) : Option Int :=
 loopO (fun (v1 : Int × Int × Unit) =>
 bif (decide (v1.2.1 < ((List.length a0.Nodes : Nat) : Int))) then
 letJ (fun (v2 : Int × Unit) =>
 some (Sum.inl (v2.1, (addI .i64 v1.2.1 (1 : Int)), ()))) fun j3 =>
 Option.bind (idx a0.Nodes v1.2.1) fun x4 =>
 Option.bind (F_threshold_node x4) fun r5 =>
 bif r5 then
 if x4 < 0 then none else
 j3 ((orI .i64 v1.1 (shlI .i64 (1 : Int) x4)), ())
 else
 j3 (v1.1, ())
 else
 Option.map Sum.inr (loopO (fun (v6 : Int × Int × Unit) =>
 bif (decide (v6.2.1 < ((List.length a0.Inner : Nat) : Int))) then
 Option.bind (idx a0.Inner v6.2.1) fun x7 =>
 Option.bind (rec ((TTrust.mk x7.Threshold x7.Nodes x7.Inner), ())) fun r8 =>
 some (Sum.inl ((orI .i64 v6.1 r8), (addI .i64 v6.2.1 (1 : Int)), ()))
 else
 Option.map Sum.inr (some v6.1)) (v1.1, (0 : Int), ()))) ((0 : Int), (0 : Int), ())
noncomputable def I_threshold_Uses : Nat → (TTrust × Unit) → Option Int := iterF (fun rec a => B_threshold_Uses rec a.1)
noncomputable def F_threshold_Uses (a0 : TTrust) : Option Int := I_threshold_Uses (SizeOf.sizeOf a0 + 1) (a0, ())
noncomputable def k_threshold_Uses : KS U Tryz.prog := ⟨.fn 64 [.ty (Ty.st .Trust)] (.one (Ty.i .i64)) fun a => F_threshold_Uses a.1, fnRS (K := K) («as» := [.ty (Ty.st .Trust)]) (r := .one (Ty.i .i64)) (B := fun rec a => B_threshold_Uses rec a.1) sa_threshold_Uses 35 [.tmp 2] [k_threshold_node] (fk Tryz.f64 [] Tryz.func64) (hF := fun a => ⟨_, rfl⟩)⟩

/-! ### trustquorum/prepare.View -/
noncomputable def sa_prepare_View : SA U := annA (scOf Tryz.prog 55 [] Tryz.f91) (.r (.r (.r (.r (.l (.r (.l (.j ⟨[.val 28 (Ty.i .i64), .box 4 1 (Ty.st .Config) [(0, 2, 1)], .rowb 2 1 81 4 (Ty.st .Member)], [6, 7, 26, 27]⟩ (.l (.r (.r (.j ⟨[.box 4 1 (Ty.st .Config) [(0, 2, 1)], .rowb 2 1 81 4 (Ty.st .Member)], [6, 7, 26, 27, 28]⟩ .e))))))))))))
noncomputable def F_prepare_View (a0 : Int) (a1 : TTrust) (a2 : (List TEnvelope)) : Option TConfig :=
 bif decide ((10 : Int) = (10 : Int)) && decide (0 ≤ (10 : Int)) && lenOk 64 (Int.toNat (10 : Int)) then
 Option.bind (bif (decide (a0 < (0 : Int))) then some true
 else
 some (decide ((10 : Int) ≤ a0))) fun b1 =>
 bif b1 then
 some (TConfig.mk (List.replicate (Int.toNat (10 : Int)) (TMember.mk false (TTrust.mk (0 : Int) ([] : List Int) ([] : List TTrust)))))
 else
 Option.bind (F_copies_Trust (TTrust.mk a1.Threshold a1.Nodes a1.Inner)) fun r2 =>
 Option.bind (idx (List.replicate (Int.toNat (10 : Int)) (TMember.mk false (TTrust.mk (0 : Int) ([] : List Int) ([] : List TTrust)))) a0) fun x3 =>
 Option.bind ((List.replicate (Int.toNat (10 : Int)) (TMember.mk false (TTrust.mk (0 : Int) ([] : List Int) ([] : List TTrust))))[(Int.toNat a0)]?) fun x4 =>
 loopO (fun (v5 : Int × TConfig × (List TMember) × Unit) =>
 bif (decide (v5.1 < ((List.length a2 : Nat) : Int))) then
 letJ (fun (v6 : TConfig × (List TMember) × Unit) =>
 some (Sum.inl ((addI .i64 v5.1 (1 : Int)), (TConfig.mk ([] : List TMember)), v6.2.1, ()))) fun j7 =>
 Option.bind (idx a2 v5.1) fun x8 =>
 Option.bind (F_envelopes_Valid (TEnvelope.mk x8.Node x8.Slot x8.Seq (TTrust.mk x8.Trust.Threshold x8.Trust.Nodes x8.Trust.Inner) x8.Kind x8.Ballot x8.Prepared x8.Prime x8.Low x8.High)) fun r9 =>
 Option.bind (bif r9 then
 Option.bind (idx v5.2.2.1 x8.Node) fun x10 =>
 Option.bind (v5.2.2.1[(Int.toNat x8.Node)]?) fun x11 =>
 Option.bind (v5.2.2.1[(Int.toNat x8.Node)]?) fun x12 =>
 some (!x12.Declared)
 else some false) fun b13 =>
 bif b13 then
 Option.bind (F_copies_Trust (TTrust.mk x8.Trust.Threshold x8.Trust.Nodes x8.Trust.Inner)) fun r14 =>
 Option.bind (idx v5.2.2.1 x8.Node) fun x15 =>
 Option.bind (v5.2.2.1[(Int.toNat x8.Node)]?) fun x16 =>
 j7 ((TConfig.mk ([] : List TMember)), (v5.2.2.1.set (Int.toNat x8.Node) (TMember.mk true (TTrust.mk r14.Threshold r14.Nodes r14.Inner))), ())
 else
 j7 ((TConfig.mk ([] : List TMember)), v5.2.2.1, ())
 else
 Option.map Sum.inr (some (TConfig.mk v5.2.2.1))) ((0 : Int), (TConfig.mk ([] : List TMember)), ((List.replicate (Int.toNat (10 : Int)) (TMember.mk false (TTrust.mk (0 : Int) ([] : List Int) ([] : List TTrust)))).set (Int.toNat a0) (TMember.mk true (TTrust.mk r2.Threshold r2.Nodes r2.Inner))), ())
 else none
noncomputable def k_prepare_View : KS U Tryz.prog := ⟨.fn 91 [.ty (Ty.i .i64), .ty (Ty.st .Trust), .ty (Ty.sl (Ty.st .Envelope))] (.one (Ty.st .Config)) fun a => F_prepare_View a.1 a.2.1 a.2.2.1, fnS (K := K) sa_prepare_View 55 [.cell 6 (some 1)] [k_copies_Trust, k_envelopes_Valid] (fk Tryz.f91 [] Tryz.func91)⟩

/-! ### trustquorum/envelopes.Rights -/
noncomputable def sa_envelopes_Rights : SA U := annA (scOf Tryz.prog 21 [] Tryz.f92) (.r (.r (.l (.r (.l (.ps (.own 3 111 15 (Ty.st .Right)) (.j ⟨[.val 8 (Ty.i .i64), .own 3 5 1 111 15 (Ty.st .Right)], [6, 7]⟩ (.l (.r (.r (.j ⟨[.own 3 5 1 111 15 (Ty.st .Right)], [6, 7, 8]⟩ .e)))))))))))
noncomputable def F_envelopes_Rights (a0 : (List TEnvelope)) : Option (List TRight) :=
 loopO (fun (v1 : Int × (List TRight) × Unit) =>
 bif (decide (v1.1 < ((List.length a0 : Nat) : Int))) then
 letJ (fun (v2 : (List TRight) × Unit) =>
 some (Sum.inl ((addI .i64 v1.1 (1 : Int)), v2.1, ()))) fun j3 =>
 Option.bind (idx a0 v1.1) fun x4 =>
 Option.bind (F_envelopes_Valid (TEnvelope.mk x4.Node x4.Slot x4.Seq (TTrust.mk x4.Trust.Threshold x4.Trust.Nodes x4.Trust.Inner) x4.Kind x4.Ballot x4.Prepared x4.Prime x4.Low x4.High)) fun r5 =>
 bif r5 then
 bif lenOk 176 (List.length v1.2.1 + List.length [(TRight.mk (TEnvelope.mk x4.Node x4.Slot x4.Seq (TTrust.mk x4.Trust.Threshold x4.Trust.Nodes x4.Trust.Inner) x4.Kind x4.Ballot x4.Prepared x4.Prime x4.Low x4.High))]) then
 j3 ((v1.2.1 ++ [(TRight.mk (TEnvelope.mk x4.Node x4.Slot x4.Seq (TTrust.mk x4.Trust.Threshold x4.Trust.Nodes x4.Trust.Inner) x4.Kind x4.Ballot x4.Prepared x4.Prime x4.Low x4.High))]), ())
 else none
 else
 j3 (v1.2.1, ())
 else
 Option.map Sum.inr (some v1.2.1)) ((0 : Int), ([] : List TRight), ())
noncomputable def k_envelopes_Rights : KS U Tryz.prog := ⟨.fn 92 [.ty (Ty.sl (Ty.st .Envelope))] (.one (Ty.sl (Ty.st .Right))) fun a => F_envelopes_Rights a.1, fnS (K := K) sa_envelopes_Rights 21 [.tmp 2] [k_envelopes_Valid] (fk Tryz.f92 [] Tryz.func92)⟩

/-! ### trustquorum/prepare.Look -/
noncomputable def sa_prepare_Look : SA U := annA (scOf Tryz.prog 15 [] Tryz.f65) .e
noncomputable def F_prepare_Look (a0 : Int) (a1 : TTrust) (a2 : (List TEnvelope)) : Option TSeen :=
 Option.bind (F_prepare_View a0 (TTrust.mk a1.Threshold a1.Nodes a1.Inner) a2) fun r1 =>
 Option.bind (F_envelopes_Rights a2) fun r2 =>
 some (TSeen.mk a0 r1 r2)
noncomputable def k_prepare_Look : KS U Tryz.prog := ⟨.fn 65 [.ty (Ty.i .i64), .ty (Ty.st .Trust), .ty (Ty.sl (Ty.st .Envelope))] (.one (Ty.st .Seen)) fun a => F_prepare_Look a.1 a.2.1 a.2.2.1, fnS (K := K) sa_prepare_Look 15 [.cell 6 (some 3)] [k_prepare_View, k_envelopes_Rights] (fk Tryz.f65 [] Tryz.func65)⟩

/-! ### (trustquorum/envelopes.Right).VotesPrepare -/
noncomputable def sa_envelopes_Right_VotesPrepare : SA U := annA (scOf Tryz.prog 23 [] Tryz.f68) .e
noncomputable def F_envelopes_Right_VotesPrepare (a0 : TRight) (a1 : TBallot) : Option Bool :=
 Option.bind (F_ballots_Zero a1) fun r1 =>
 bif r1 then
 some false
 else
 bif (decide (a0.Envelope.Kind = (1 : Int))) then
 Option.bind (F_ballots_Covers a0.Envelope.Ballot a1) fun r2 =>
 some r2
 else
 Option.bind (F_ballots_Compatible a0.Envelope.Ballot a1) fun r3 =>
 some r3
noncomputable def k_envelopes_Right_VotesPrepare : KS U Tryz.prog := ⟨.fn 68 [.ty (Ty.st .Right), .ty (Ty.st .Ballot)] (.one Ty.bool) fun a => F_envelopes_Right_VotesPrepare a.1 a.2.1, fnS (K := K) sa_envelopes_Right_VotesPrepare 23 [.tmp 4] [k_ballots_Zero, k_ballots_Covers, k_ballots_Compatible] (fk Tryz.f68 [] Tryz.func68)⟩

/-! ### trustquorum/monitor.stuck$1 -/
noncomputable def sa_monitor_stuck_1 : SA U := annA (scOf Tryz.prog 14 [] Tryz.f67) .e
noncomputable def F_monitor_stuck_1 (a0 : TRight) (a1 : TEnvelope) : Option Bool :=
 Option.bind (F_envelopes_Right_VotesPrepare (TRight.mk (TEnvelope.mk a0.Envelope.Node a0.Envelope.Slot a0.Envelope.Seq (TTrust.mk a0.Envelope.Trust.Threshold a0.Envelope.Trust.Nodes a0.Envelope.Trust.Inner) a0.Envelope.Kind a0.Envelope.Ballot a0.Envelope.Prepared a0.Envelope.Prime a0.Envelope.Low a0.Envelope.High)) a1.Ballot) fun r1 =>
 Option.bind (bif r1 then some true
 else
 Option.bind (F_envelopes_Right_AcceptsPrepare (TRight.mk (TEnvelope.mk a0.Envelope.Node a0.Envelope.Slot a0.Envelope.Seq (TTrust.mk a0.Envelope.Trust.Threshold a0.Envelope.Trust.Nodes a0.Envelope.Trust.Inner) a0.Envelope.Kind a0.Envelope.Ballot a0.Envelope.Prepared a0.Envelope.Prime a0.Envelope.Low a0.Envelope.High)) a1.Ballot) fun r2 =>
 some r2) fun b3 =>
 some b3
noncomputable def k_monitor_stuck_1 : KS U Tryz.prog := ⟨.fn 67 [.ty (Ty.st .Right), .ref (.ty (Ty.st .Envelope))] (.one Ty.bool) fun a => F_monitor_stuck_1 a.1 a.2.1, fnS (K := K) sa_monitor_stuck_1 14 [.tmp 3] [k_envelopes_Right_VotesPrepare, k_envelopes_Right_AcceptsPrepare] (fk Tryz.f67 [] Tryz.func67)⟩

/-! ### (trustquorum/prepare.Seen).Who -/
noncomputable def sa_prepare_Seen_Who_c67 : SA U := annA (scOf Tryz.prog 26 [] Tryz.f66) (.r (.r (.l (.r (.l (.j ⟨[.val 5 (Ty.i .i64), .val 11 (Ty.i .i64)], [1, 9, 10]⟩ (.l (.r (.r (.j ⟨[.val 5 (Ty.i .i64)], [1, 9, 10, 11]⟩ .e))))))))))
noncomputable def F_prepare_Seen_Who_c67 (a0 : TSeen) (a1 : TEnvelope) : Option Int :=
 loopO (fun (v1 : Int × Int × Unit) =>
 bif (decide (v1.2.1 < ((List.length a0.Heard : Nat) : Int))) then
 letJ (fun (v2 : Int × Unit) =>
 some (Sum.inl (v2.1, (addI .i64 v1.2.1 (1 : Int)), ()))) fun j3 =>
 Option.bind (idx a0.Heard v1.2.1) fun x4 =>
 Option.bind (F_monitor_stuck_1 (TRight.mk (TEnvelope.mk x4.Envelope.Node x4.Envelope.Slot x4.Envelope.Seq (TTrust.mk x4.Envelope.Trust.Threshold x4.Envelope.Trust.Nodes x4.Envelope.Trust.Inner) x4.Envelope.Kind x4.Envelope.Ballot x4.Envelope.Prepared x4.Envelope.Prime x4.Envelope.Low x4.Envelope.High)) (TEnvelope.mk a1.Node a1.Slot a1.Seq (TTrust.mk a1.Trust.Threshold a1.Trust.Nodes a1.Trust.Inner) a1.Kind a1.Ballot a1.Prepared a1.Prime a1.Low a1.High)) fun r5 =>
 bif r5 then
 if x4.Envelope.Node < 0 then none else
 j3 ((orI .i64 v1.1 (shlI .i64 (1 : Int) x4.Envelope.Node)), ())
 else
 j3 (v1.1, ())
 else
 Option.map Sum.inr (some v1.1)) ((0 : Int), (0 : Int), ())
noncomputable def k_prepare_Seen_Who_c67 : KS U Tryz.prog := ⟨.fn 66 [.ty (Ty.st .Seen), .clo 67 [.ref (.ty (Ty.st .Envelope))]] (.one (Ty.i .i64)) fun a => F_prepare_Seen_Who_c67 a.1 a.2.1.1, fnS (K := K) sa_prepare_Seen_Who_c67 26 [.tmp 4] [k_monitor_stuck_1] (fk Tryz.f66 [] Tryz.func66)⟩

/-! ### math/bits.OnesCount64 -/
noncomputable def sa_math_bits_OnesCount64 : SA U := annA (scOf Tryz.prog 35 [] Tryz.f180) .e
noncomputable def F_math_bits_OnesCount64 (a0 : Int) : Option Int :=
 some (andI .i64 (convI .i64 (addI .u64 (addI .u64 (addI .u64 (andI .u64 (addI .u64 (shrI .u64 (addI .u64 (andI .u64 (shrI .u64 (addI .u64 (andI .u64 (shrI .u64 a0 (1 : Int)) (6148914691236517205 : Int)) (andI .u64 a0 (6148914691236517205 : Int))) (2 : Int)) (3689348814741910323 : Int)) (andI .u64 (addI .u64 (andI .u64 (shrI .u64 a0 (1 : Int)) (6148914691236517205 : Int)) (andI .u64 a0 (6148914691236517205 : Int))) (3689348814741910323 : Int))) (4 : Int)) (addI .u64 (andI .u64 (shrI .u64 (addI .u64 (andI .u64 (shrI .u64 a0 (1 : Int)) (6148914691236517205 : Int)) (andI .u64 a0 (6148914691236517205 : Int))) (2 : Int)) (3689348814741910323 : Int)) (andI .u64 (addI .u64 (andI .u64 (shrI .u64 a0 (1 : Int)) (6148914691236517205 : Int)) (andI .u64 a0 (6148914691236517205 : Int))) (3689348814741910323 : Int)))) (1085102592571150095 : Int)) (shrI .u64 (andI .u64 (addI .u64 (shrI .u64 (addI .u64 (andI .u64 (shrI .u64 (addI .u64 (andI .u64 (shrI .u64 a0 (1 : Int)) (6148914691236517205 : Int)) (andI .u64 a0 (6148914691236517205 : Int))) (2 : Int)) (3689348814741910323 : Int)) (andI .u64 (addI .u64 (andI .u64 (shrI .u64 a0 (1 : Int)) (6148914691236517205 : Int)) (andI .u64 a0 (6148914691236517205 : Int))) (3689348814741910323 : Int))) (4 : Int)) (addI .u64 (andI .u64 (shrI .u64 (addI .u64 (andI .u64 (shrI .u64 a0 (1 : Int)) (6148914691236517205 : Int)) (andI .u64 a0 (6148914691236517205 : Int))) (2 : Int)) (3689348814741910323 : Int)) (andI .u64 (addI .u64 (andI .u64 (shrI .u64 a0 (1 : Int)) (6148914691236517205 : Int)) (andI .u64 a0 (6148914691236517205 : Int))) (3689348814741910323 : Int)))) (1085102592571150095 : Int)) (8 : Int))) (shrI .u64 (addI .u64 (andI .u64 (addI .u64 (shrI .u64 (addI .u64 (andI .u64 (shrI .u64 (addI .u64 (andI .u64 (shrI .u64 a0 (1 : Int)) (6148914691236517205 : Int)) (andI .u64 a0 (6148914691236517205 : Int))) (2 : Int)) (3689348814741910323 : Int)) (andI .u64 (addI .u64 (andI .u64 (shrI .u64 a0 (1 : Int)) (6148914691236517205 : Int)) (andI .u64 a0 (6148914691236517205 : Int))) (3689348814741910323 : Int))) (4 : Int)) (addI .u64 (andI .u64 (shrI .u64 (addI .u64 (andI .u64 (shrI .u64 a0 (1 : Int)) (6148914691236517205 : Int)) (andI .u64 a0 (6148914691236517205 : Int))) (2 : Int)) (3689348814741910323 : Int)) (andI .u64 (addI .u64 (andI .u64 (shrI .u64 a0 (1 : Int)) (6148914691236517205 : Int)) (andI .u64 a0 (6148914691236517205 : Int))) (3689348814741910323 : Int)))) (1085102592571150095 : Int)) (shrI .u64 (andI .u64 (addI .u64 (shrI .u64 (addI .u64 (andI .u64 (shrI .u64 (addI .u64 (andI .u64 (shrI .u64 a0 (1 : Int)) (6148914691236517205 : Int)) (andI .u64 a0 (6148914691236517205 : Int))) (2 : Int)) (3689348814741910323 : Int)) (andI .u64 (addI .u64 (andI .u64 (shrI .u64 a0 (1 : Int)) (6148914691236517205 : Int)) (andI .u64 a0 (6148914691236517205 : Int))) (3689348814741910323 : Int))) (4 : Int)) (addI .u64 (andI .u64 (shrI .u64 (addI .u64 (andI .u64 (shrI .u64 a0 (1 : Int)) (6148914691236517205 : Int)) (andI .u64 a0 (6148914691236517205 : Int))) (2 : Int)) (3689348814741910323 : Int)) (andI .u64 (addI .u64 (andI .u64 (shrI .u64 a0 (1 : Int)) (6148914691236517205 : Int)) (andI .u64 a0 (6148914691236517205 : Int))) (3689348814741910323 : Int)))) (1085102592571150095 : Int)) (8 : Int))) (16 : Int))) (shrI .u64 (addI .u64 (addI .u64 (andI .u64 (addI .u64 (shrI .u64 (addI .u64 (andI .u64 (shrI .u64 (addI .u64 (andI .u64 (shrI .u64 a0 (1 : Int)) (6148914691236517205 : Int)) (andI .u64 a0 (6148914691236517205 : Int))) (2 : Int)) (3689348814741910323 : Int)) (andI .u64 (addI .u64 (andI .u64 (shrI .u64 a0 (1 : Int)) (6148914691236517205 : Int)) (andI .u64 a0 (6148914691236517205 : Int))) (3689348814741910323 : Int))) (4 : Int)) (addI .u64 (andI .u64 (shrI .u64 (addI .u64 (andI .u64 (shrI .u64 a0 (1 : Int)) (6148914691236517205 : Int)) (andI .u64 a0 (6148914691236517205 : Int))) (2 : Int)) (3689348814741910323 : Int)) (andI .u64 (addI .u64 (andI .u64 (shrI .u64 a0 (1 : Int)) (6148914691236517205 : Int)) (andI .u64 a0 (6148914691236517205 : Int))) (3689348814741910323 : Int)))) (1085102592571150095 : Int)) (shrI .u64 (andI .u64 (addI .u64 (shrI .u64 (addI .u64 (andI .u64 (shrI .u64 (addI .u64 (andI .u64 (shrI .u64 a0 (1 : Int)) (6148914691236517205 : Int)) (andI .u64 a0 (6148914691236517205 : Int))) (2 : Int)) (3689348814741910323 : Int)) (andI .u64 (addI .u64 (andI .u64 (shrI .u64 a0 (1 : Int)) (6148914691236517205 : Int)) (andI .u64 a0 (6148914691236517205 : Int))) (3689348814741910323 : Int))) (4 : Int)) (addI .u64 (andI .u64 (shrI .u64 (addI .u64 (andI .u64 (shrI .u64 a0 (1 : Int)) (6148914691236517205 : Int)) (andI .u64 a0 (6148914691236517205 : Int))) (2 : Int)) (3689348814741910323 : Int)) (andI .u64 (addI .u64 (andI .u64 (shrI .u64 a0 (1 : Int)) (6148914691236517205 : Int)) (andI .u64 a0 (6148914691236517205 : Int))) (3689348814741910323 : Int)))) (1085102592571150095 : Int)) (8 : Int))) (shrI .u64 (addI .u64 (andI .u64 (addI .u64 (shrI .u64 (addI .u64 (andI .u64 (shrI .u64 (addI .u64 (andI .u64 (shrI .u64 a0 (1 : Int)) (6148914691236517205 : Int)) (andI .u64 a0 (6148914691236517205 : Int))) (2 : Int)) (3689348814741910323 : Int)) (andI .u64 (addI .u64 (andI .u64 (shrI .u64 a0 (1 : Int)) (6148914691236517205 : Int)) (andI .u64 a0 (6148914691236517205 : Int))) (3689348814741910323 : Int))) (4 : Int)) (addI .u64 (andI .u64 (shrI .u64 (addI .u64 (andI .u64 (shrI .u64 a0 (1 : Int)) (6148914691236517205 : Int)) (andI .u64 a0 (6148914691236517205 : Int))) (2 : Int)) (3689348814741910323 : Int)) (andI .u64 (addI .u64 (andI .u64 (shrI .u64 a0 (1 : Int)) (6148914691236517205 : Int)) (andI .u64 a0 (6148914691236517205 : Int))) (3689348814741910323 : Int)))) (1085102592571150095 : Int)) (shrI .u64 (andI .u64 (addI .u64 (shrI .u64 (addI .u64 (andI .u64 (shrI .u64 (addI .u64 (andI .u64 (shrI .u64 a0 (1 : Int)) (6148914691236517205 : Int)) (andI .u64 a0 (6148914691236517205 : Int))) (2 : Int)) (3689348814741910323 : Int)) (andI .u64 (addI .u64 (andI .u64 (shrI .u64 a0 (1 : Int)) (6148914691236517205 : Int)) (andI .u64 a0 (6148914691236517205 : Int))) (3689348814741910323 : Int))) (4 : Int)) (addI .u64 (andI .u64 (shrI .u64 (addI .u64 (andI .u64 (shrI .u64 a0 (1 : Int)) (6148914691236517205 : Int)) (andI .u64 a0 (6148914691236517205 : Int))) (2 : Int)) (3689348814741910323 : Int)) (andI .u64 (addI .u64 (andI .u64 (shrI .u64 a0 (1 : Int)) (6148914691236517205 : Int)) (andI .u64 a0 (6148914691236517205 : Int))) (3689348814741910323 : Int)))) (1085102592571150095 : Int)) (8 : Int))) (16 : Int))) (32 : Int)))) (127 : Int))
noncomputable def k_math_bits_OnesCount64 : KS U Tryz.prog := ⟨.fn 180 [.ty (Ty.i .u64)] (.one (Ty.i .i64)) fun a => F_math_bits_OnesCount64 a.1, fnS (K := K) sa_math_bits_OnesCount64 35 [.tmp 2] [] (fk Tryz.f180 [] Tryz.func180)⟩

/-! ### math/bits.OnesCount -/
noncomputable def sa_math_bits_OnesCount : SA U := annA (scOf Tryz.prog 8 [] Tryz.f175) .e
noncomputable def F_math_bits_OnesCount (a0 : Int) : Option Int :=
 Option.bind (F_math_bits_OnesCount64 a0) fun r1 =>
 some r1
noncomputable def k_math_bits_OnesCount : KS U Tryz.prog := ⟨.fn 175 [.ty (Ty.i .u64)] (.one (Ty.i .i64)) fun a => F_math_bits_OnesCount a.1, fnS (K := K) sa_math_bits_OnesCount 8 [.tmp 2] [k_math_bits_OnesCount64] (fk Tryz.f175 [] Tryz.func175)⟩

/-! ### trustquorum/nodeset.Size -/
noncomputable def sa_nodeset_Size : SA U := annA (scOf Tryz.prog 9 [] Tryz.f166) .e
noncomputable def F_nodeset_Size (a0 : Int) : Option Int :=
 Option.bind (F_nodeset_Valid a0) fun r1 =>
 bif (!r1) then
 some (0 : Int)
 else
 Option.bind (F_math_bits_OnesCount (convI .u64 a0)) fun r2 =>
 some r2
noncomputable def k_nodeset_Size : KS U Tryz.prog := ⟨.fn 166 [.ty (Ty.i .i64)] (.one (Ty.i .i64)) fun a => F_nodeset_Size a.1, fnS (K := K) sa_nodeset_Size 9 [.tmp 2] [k_nodeset_Valid, k_math_bits_OnesCount] (fk Tryz.f166 [] Tryz.func166)⟩

/-! ### trustquorum/nodeset.rank -/
noncomputable def sa_nodeset_rank : SA U := annA (scOf Tryz.prog 8 [] Tryz.f144) .e
noncomputable def F_nodeset_rank (a0 : Int) : Option Int :=
 Option.bind (F_nodeset_Valid a0) fun r1 =>
 bif (!r1) then
 some (-1 : Int)
 else
 Option.bind (F_nodeset_Size a0) fun r2 =>
 some r2
noncomputable def k_nodeset_rank : KS U Tryz.prog := ⟨.fn 144 [.ty (Ty.i .i64)] (.one (Ty.i .i64)) fun a => F_nodeset_rank a.1, fnS (K := K) sa_nodeset_rank 8 [.tmp 2] [k_nodeset_Valid, k_nodeset_Size] (fk Tryz.f144 [] Tryz.func144)⟩

/-! ### trustquorum/nodeset.Compare -/
noncomputable def sa_nodeset_Compare : SA U := annA (scOf Tryz.prog 15 [] Tryz.f128) .e
noncomputable def F_nodeset_Compare (a0 : Int) (a1 : Int) : Option Int :=
 Option.bind (F_nodeset_rank a0) fun r1 =>
 Option.bind (F_nodeset_rank a1) fun r2 =>
 Option.bind (F_cmp_Compare_int r1 r2) fun r3 =>
 Option.bind (F_cmp_Compare_int a0 a1) fun r4 =>
 Option.bind (F_cmp_Or_int [r3, r4]) fun r5 =>
 some r5
noncomputable def k_nodeset_Compare : KS U Tryz.prog := ⟨.fn 128 [.ty (Ty.i .i64), .ty (Ty.i .i64)] (.one (Ty.i .i64)) fun a => F_nodeset_Compare a.1 a.2.1, fnS (K := K) sa_nodeset_Compare 15 [.tmp 4] [k_nodeset_rank, k_cmp_Compare_int, k_cmp_Or_int] (fk Tryz.f128 [] Tryz.func128)⟩

/-! ### slices.insertionSortCmpFunc[int] -/
noncomputable def sa_slices_insertionSortCmpFunc_int_c128 : SA U := annA (scOf Tryz.prog 53 [] Tryz.f158) (.r (.l (.j ⟨[.val 8 (Ty.i .i64), .own 0 0 0 3 1 (Ty.i .i64)], [1, 2, 3]⟩ (.l (.r (.l (.l (.r (.l (.j ⟨[.val 9 (Ty.i .i64), .own 0 0 0 3 1 (Ty.i .i64)], [1, 2, 3, 8]⟩ (.l (.l (.j ⟨[.val 34 Ty.bool], [0, 1, 2, 3, 8, 9]⟩ .e)))))))))))))
noncomputable def F_slices_insertionSortCmpFunc_int_c128 (s : List Int) (a0 : Int) (a1 : Int) : Option ((Unit) × List Int) :=
 loopO (fun (v1 : Int × (List Int) × Unit) =>
 bif (decide (v1.1 < a1)) then
 loopO (fun (v2 : Int × (List Int) × Unit) =>
 letJ (fun (v3 : Bool × Unit) =>
 bif v3.1 then
 Option.bind (idx v2.2.1 (subI .i64 v2.1 (1 : Int))) fun x5 =>
 Option.bind (v2.2.1[(Int.toNat (subI .i64 v2.1 (1 : Int)))]?) fun x6 =>
 Option.bind (idx v2.2.1 v2.1) fun x7 =>
 Option.bind (v2.2.1[(Int.toNat v2.1)]?) fun x8 =>
 Option.bind (idx v2.2.1 v2.1) fun x9 =>
 Option.bind (v2.2.1[(Int.toNat v2.1)]?) fun x10 =>
 Option.bind (idx (v2.2.1.set (Int.toNat v2.1) x6) (subI .i64 v2.1 (1 : Int))) fun x11 =>
 Option.bind ((v2.2.1.set (Int.toNat v2.1) x6)[(Int.toNat (subI .i64 v2.1 (1 : Int)))]?) fun x12 =>
 some (Sum.inl ((subI .i64 v2.1 (1 : Int)), ((v2.2.1.set (Int.toNat v2.1) x6).set (Int.toNat (subI .i64 v2.1 (1 : Int))) x8), ()))
 else
 Option.map Sum.inr (some (Sum.inl ((addI .i64 v1.1 (1 : Int)), v2.2.1, ())))) fun j4 =>
 bif (decide (a0 < v2.1)) then
 Option.bind (idx v2.2.1 v2.1) fun x13 =>
 Option.bind (v2.2.1[(Int.toNat v2.1)]?) fun x14 =>
 Option.bind (idx v2.2.1 (subI .i64 v2.1 (1 : Int))) fun x15 =>
 Option.bind (v2.2.1[(Int.toNat (subI .i64 v2.1 (1 : Int)))]?) fun x16 =>
 Option.bind (F_nodeset_Compare x14 x16) fun r17 =>
 j4 ((decide (r17 < (0 : Int))), ())
 else
 j4 (false, ())) (v1.1, v1.2.1, ())
 else
 Option.map Sum.inr (some ((()), v1.2.1))) ((addI .i64 a0 (1 : Int)), s, ())
noncomputable def k_slices_insertionSortCmpFunc_int_c128 : KS U Tryz.prog := ⟨.rw 158 3 1 (Ty.i .i64) [.ty (Ty.i .i64), .ty (Ty.i .i64), .clo 128 []] (.many []) fun s a => F_slices_insertionSortCmpFunc_int_c128 s a.1 a.2.1, rwS (K := K) sa_slices_insertionSortCmpFunc_int_c128 53 [] [k_nodeset_Compare] (fk Tryz.f158 [] Tryz.func158)⟩

/-! ### slices.siftDownCmpFunc[int] -/
noncomputable def sa_slices_siftDownCmpFunc_int_c128 : SA U := annA (scOf Tryz.prog 82 [] Tryz.f172) (.r (.l (.j ⟨[.val 10 (Ty.i .i64), .own 0 0 0 3 1 (Ty.i .i64)], [2, 3, 4]⟩ (.l (.l (.r (.r (.j ⟨[.val 11 (Ty.i .i64)], [0, 2, 3, 4, 10]⟩ (.l (.j ⟨[.val 40 Ty.bool], [0, 2, 3, 4, 10, 11]⟩ .e))))))))))
noncomputable def F_slices_siftDownCmpFunc_int_c128 (s : List Int) (a0 : Int) (a1 : Int) (a2 : Int) : Option ((Unit) × List Int) :=
 loopO (fun (v1 : Int × (List Int) × Unit) =>
 bif (decide (a1 ≤ (addI .i64 (mulI .i64 (2 : Int) v1.1) (1 : Int)))) then
 Option.map Sum.inr (some ((()), v1.2.1))
 else
 letJ (fun (v2 : Int × Unit) =>
 Option.bind (idx v1.2.1 (addI .i64 a2 v1.1)) fun x4 =>
 Option.bind (v1.2.1[(Int.toNat (addI .i64 a2 v1.1))]?) fun x5 =>
 Option.bind (idx v1.2.1 (addI .i64 a2 v2.1)) fun x6 =>
 Option.bind (v1.2.1[(Int.toNat (addI .i64 a2 v2.1))]?) fun x7 =>
 Option.bind (F_nodeset_Compare x5 x7) fun r8 =>
 bif (!(decide (r8 < (0 : Int)))) then
 Option.map Sum.inr (some ((()), v1.2.1))
 else
 Option.bind (idx v1.2.1 (addI .i64 a2 v2.1)) fun x9 =>
 Option.bind (v1.2.1[(Int.toNat (addI .i64 a2 v2.1))]?) fun x10 =>
 Option.bind (idx v1.2.1 (addI .i64 a2 v1.1)) fun x11 =>
 Option.bind (v1.2.1[(Int.toNat (addI .i64 a2 v1.1))]?) fun x12 =>
 Option.bind (idx v1.2.1 (addI .i64 a2 v1.1)) fun x13 =>
 Option.bind (v1.2.1[(Int.toNat (addI .i64 a2 v1.1))]?) fun x14 =>
 Option.bind (idx (v1.2.1.set (Int.toNat (addI .i64 a2 v1.1)) x10) (addI .i64 a2 v2.1)) fun x15 =>
 Option.bind ((v1.2.1.set (Int.toNat (addI .i64 a2 v1.1)) x10)[(Int.toNat (addI .i64 a2 v2.1))]?) fun x16 =>
 some (Sum.inl (v2.1, ((v1.2.1.set (Int.toNat (addI .i64 a2 v1.1)) x10).set (Int.toNat (addI .i64 a2 v2.1)) x12), ()))) fun j3 =>
 letJ (fun (v17 : Bool × Unit) =>
 bif v17.1 then
 j3 ((addI .i64 (addI .i64 (mulI .i64 (2 : Int) v1.1) (1 : Int)) (1 : Int)), ())
 else
 j3 ((addI .i64 (mulI .i64 (2 : Int) v1.1) (1 : Int)), ())) fun j18 =>
 bif (decide ((addI .i64 (addI .i64 (mulI .i64 (2 : Int) v1.1) (1 : Int)) (1 : Int)) < a1)) then
 Option.bind (idx v1.2.1 (addI .i64 a2 (addI .i64 (mulI .i64 (2 : Int) v1.1) (1 : Int)))) fun x19 =>
 Option.bind (v1.2.1[(Int.toNat (addI .i64 a2 (addI .i64 (mulI .i64 (2 : Int) v1.1) (1 : Int))))]?) fun x20 =>
 Option.bind (idx v1.2.1 (addI .i64 (addI .i64 a2 (addI .i64 (mulI .i64 (2 : Int) v1.1) (1 : Int))) (1 : Int))) fun x21 =>
 Option.bind (v1.2.1[(Int.toNat (addI .i64 (addI .i64 a2 (addI .i64 (mulI .i64 (2 : Int) v1.1) (1 : Int))) (1 : Int)))]?) fun x22 =>
 Option.bind (F_nodeset_Compare x20 x22) fun r23 =>
 j18 ((decide (r23 < (0 : Int))), ())
 else
 j18 (false, ())) (a0, s, ())
noncomputable def k_slices_siftDownCmpFunc_int_c128 : KS U Tryz.prog := ⟨.rw 172 3 1 (Ty.i .i64) [.ty (Ty.i .i64), .ty (Ty.i .i64), .ty (Ty.i .i64), .clo 128 []] (.many []) fun s a => F_slices_siftDownCmpFunc_int_c128 s a.1 a.2.1 a.2.2.1, rwS (K := K) sa_slices_siftDownCmpFunc_int_c128 82 [] [k_nodeset_Compare] (fk Tryz.f172 [] Tryz.func172)⟩

/-! ### slices.heapSortCmpFunc[int] -/
noncomputable def sa_slices_heapSortCmpFunc_int_c128 : SA U := annA (scOf Tryz.prog 60 [] Tryz.f159) (.r (.r (.r (.b (.r (.l (.j ⟨[.val 11 (Ty.i .i64), .own 0 0 0 3 1 (Ty.i .i64)], [3, 8, 9, 10]⟩ .e))) (.r (.l (.j ⟨[.val 12 (Ty.i .i64), .own 0 0 0 3 1 (Ty.i .i64)], [3, 8, 9]⟩ .e)))))))
noncomputable def F_slices_heapSortCmpFunc_int_c128 (s : List Int) (a0 : Int) (a1 : Int) : Option ((Unit) × List Int) :=
 loopO (fun (v1 : Int × (List Int) × Unit) =>
 bif (decide ((0 : Int) ≤ v1.1)) then
 Option.bind (F_slices_siftDownCmpFunc_int_c128 v1.2.1 v1.1 (subI .i64 a1 a0) a0) fun p2 =>
 some (Sum.inl ((subI .i64 v1.1 (1 : Int)), p2.2, ()))
 else
 Option.map Sum.inr (loopO (fun (v3 : Int × (List Int) × Unit) =>
 bif (decide ((0 : Int) ≤ v3.1)) then
 Option.bind (idx v3.2.1 (addI .i64 a0 v3.1)) fun x4 =>
 Option.bind (v3.2.1[(Int.toNat (addI .i64 a0 v3.1))]?) fun x5 =>
 Option.bind (idx v3.2.1 a0) fun x6 =>
 Option.bind (v3.2.1[(Int.toNat a0)]?) fun x7 =>
 Option.bind (idx v3.2.1 a0) fun x8 =>
 Option.bind (v3.2.1[(Int.toNat a0)]?) fun x9 =>
 Option.bind (idx (v3.2.1.set (Int.toNat a0) x5) (addI .i64 a0 v3.1)) fun x10 =>
 Option.bind ((v3.2.1.set (Int.toNat a0) x5)[(Int.toNat (addI .i64 a0 v3.1))]?) fun x11 =>
 Option.bind (F_slices_siftDownCmpFunc_int_c128 ((v3.2.1.set (Int.toNat a0) x5).set (Int.toNat (addI .i64 a0 v3.1)) x7) (0 : Int) v3.1 a0) fun p12 =>
 some (Sum.inl ((subI .i64 v3.1 (1 : Int)), p12.2, ()))
 else
 Option.map Sum.inr (some ((()), v3.2.1))) ((subI .i64 (subI .i64 a1 a0) (1 : Int)), v1.2.1, ()))) ((quoI .i64 (subI .i64 (subI .i64 a1 a0) (1 : Int)) (2 : Int)), s, ())
noncomputable def k_slices_heapSortCmpFunc_int_c128 : KS U Tryz.prog := ⟨.rw 159 3 1 (Ty.i .i64) [.ty (Ty.i .i64), .ty (Ty.i .i64), .clo 128 []] (.many []) fun s a => F_slices_heapSortCmpFunc_int_c128 s a.1 a.2.1, rwS (K := K) sa_slices_heapSortCmpFunc_int_c128 60 [] [k_slices_siftDownCmpFunc_int_c128] (fk Tryz.f159 [] Tryz.func159)⟩

/-! ### slices.breakPatternsCmpFunc[int] -/
noncomputable def sa_slices_breakPatternsCmpFunc_int_c128 : SA U := annA (scOf Tryz.prog 67 [] Tryz.f160) (.r (.r (.l (.r (.r (.r (.l (.j ⟨[.val 11 (Ty.i .i64), .own 0 0 0 3 1 (Ty.i .i64), .box 9 1 (Ty.i .u64) []], [1, 8, 9, 10]⟩ (.l (.r (.l (.l (.r (.j ⟨[.val 12 (Ty.i .i64)], [0, 1, 8, 9, 10, 11]⟩ .e))))))))))))))
noncomputable def F_slices_breakPatternsCmpFunc_int_c128 (s : List Int) (a0 : Int) (a1 : Int) : Option ((Unit) × List Int) :=
 bif (decide ((8 : Int) ≤ (subI .i64 a1 a0))) then
 Option.bind (F_slices_nextPowerOfTwo (subI .i64 a1 a0)) fun r1 =>
 loopO (fun (v2 : Int × (List Int) × Int × Unit) =>
 bif (decide (v2.1 ≤ (addI .i64 (addI .i64 a0 (mulI .i64 (quoI .i64 (subI .i64 a1 a0) (4 : Int)) (2 : Int))) (1 : Int)))) then
 Option.bind (F_slices_xorshift_Next v2.2.2.1) fun p3 =>
 letJ (fun (v4 : Int × Unit) =>
 Option.bind (idx v2.2.1 (addI .i64 a0 v4.1)) fun x6 =>
 Option.bind (v2.2.1[(Int.toNat (addI .i64 a0 v4.1))]?) fun x7 =>
 Option.bind (idx v2.2.1 v2.1) fun x8 =>
 Option.bind (v2.2.1[(Int.toNat v2.1)]?) fun x9 =>
 Option.bind (idx v2.2.1 v2.1) fun x10 =>
 Option.bind (v2.2.1[(Int.toNat v2.1)]?) fun x11 =>
 Option.bind (idx (v2.2.1.set (Int.toNat v2.1) x7) (addI .i64 a0 v4.1)) fun x12 =>
 Option.bind ((v2.2.1.set (Int.toNat v2.1) x7)[(Int.toNat (addI .i64 a0 v4.1))]?) fun x13 =>
 some (Sum.inl ((addI .i64 v2.1 (1 : Int)), ((v2.2.1.set (Int.toNat v2.1) x7).set (Int.toNat (addI .i64 a0 v4.1)) x9), p3.2, ()))) fun j5 =>
 bif (decide ((subI .i64 a1 a0) ≤ (convI .i64 (andI .u64 p3.1 (subI .u64 r1 (1 : Int)))))) then
 j5 ((subI .i64 (convI .i64 (andI .u64 p3.1 (subI .u64 r1 (1 : Int)))) (subI .i64 a1 a0)), ())
 else
 j5 ((convI .i64 (andI .u64 p3.1 (subI .u64 r1 (1 : Int)))), ())
 else
 Option.map Sum.inr (some ((()), v2.2.1))) ((subI .i64 (addI .i64 a0 (mulI .i64 (quoI .i64 (subI .i64 a1 a0) (4 : Int)) (2 : Int))) (1 : Int)), s, (convI .u64 (subI .i64 a1 a0)), ())
 else
 some ((()), s)
noncomputable def k_slices_breakPatternsCmpFunc_int_c128 : KS U Tryz.prog := ⟨.rw 160 3 1 (Ty.i .i64) [.ty (Ty.i .i64), .ty (Ty.i .i64), .clo 128 []] (.many []) fun s a => F_slices_breakPatternsCmpFunc_int_c128 s a.1 a.2.1, rwS (K := K) sa_slices_breakPatternsCmpFunc_int_c128 67 [] [k_slices_nextPowerOfTwo, k_slices_xorshift_Next] (fk Tryz.f160 [] Tryz.func160)⟩

/-! ### slices.order2CmpFunc[int] -/
noncomputable def sa_slices_order2CmpFunc_int_c128 : SA U := annA (scOf Tryz.prog 32 [] Tryz.f178) .e
noncomputable def F_slices_order2CmpFunc_int_c128 (s : Int) (a0 : (List Int)) (a1 : Int) (a2 : Int) : Option ((Int × Int × Unit) × Int) :=
 Option.bind (idx a0 a2) fun x1 =>
 Option.bind (idx a0 a1) fun x2 =>
 Option.bind (F_nodeset_Compare x1 x2) fun r3 =>
 bif (decide (r3 < (0 : Int))) then
 some ((a2, a1, ()), (addI .i64 s (1 : Int)))
 else
 some ((a1, a2, ()), s)
noncomputable def k_slices_order2CmpFunc_int_c128 : KS U Tryz.prog := ⟨.rc 178 3 (Ty.i .i64) [.ty (Ty.sl (Ty.i .i64)), .ty (Ty.i .i64), .ty (Ty.i .i64), .clo 128 []] (.many [(Ty.i .i64), (Ty.i .i64)]) fun s a => F_slices_order2CmpFunc_int_c128 s a.1 a.2.1 a.2.2.1, rcS (K := K) sa_slices_order2CmpFunc_int_c128 32 [.tmp 10, .tmp 11] [k_nodeset_Compare] (fk Tryz.f178 [] Tryz.func178)⟩

/-! ### slices.medianCmpFunc[int] -/
noncomputable def sa_slices_medianCmpFunc_int_c128 : SA U := annA (scOf Tryz.prog 41 [] Tryz.f174) .e
noncomputable def F_slices_medianCmpFunc_int_c128 (s : Int) (a0 : (List Int)) (a1 : Int) (a2 : Int) (a3 : Int) : Option (Int × Int) :=
 Option.bind (F_slices_order2CmpFunc_int_c128 s a0 a1 a2) fun p1 =>
 Option.bind (F_slices_order2CmpFunc_int_c128 p1.2 a0 p1.1.2.1 a3) fun p2 =>
 Option.bind (F_slices_order2CmpFunc_int_c128 p2.2 a0 p1.1.1 p2.1.1) fun p3 =>
 some (p3.1.2.1, p3.2)
noncomputable def k_slices_medianCmpFunc_int_c128 : KS U Tryz.prog := ⟨.rc 174 4 (Ty.i .i64) [.ty (Ty.sl (Ty.i .i64)), .ty (Ty.i .i64), .ty (Ty.i .i64), .ty (Ty.i .i64), .clo 128 []] (.one (Ty.i .i64)) fun s a => F_slices_medianCmpFunc_int_c128 s a.1 a.2.1 a.2.2.1 a.2.2.2.1, rcS (K := K) sa_slices_medianCmpFunc_int_c128 41 [.tmp 12] [k_slices_order2CmpFunc_int_c128] (fk Tryz.f174 [] Tryz.func174)⟩

/-! ### slices.medianAdjacentCmpFunc[int] -/
noncomputable def sa_slices_medianAdjacentCmpFunc_int_c128 : SA U := annA (scOf Tryz.prog 18 [] Tryz.f173) .e
noncomputable def F_slices_medianAdjacentCmpFunc_int_c128 (s : Int) (a0 : (List Int)) (a1 : Int) : Option (Int × Int) :=
 Option.bind (F_slices_medianCmpFunc_int_c128 s a0 (subI .i64 a1 (1 : Int)) a1 (addI .i64 a1 (1 : Int))) fun p1 =>
 some (p1.1, p1.2)
noncomputable def k_slices_medianAdjacentCmpFunc_int_c128 : KS U Tryz.prog := ⟨.rc 173 2 (Ty.i .i64) [.ty (Ty.sl (Ty.i .i64)), .ty (Ty.i .i64), .clo 128 []] (.one (Ty.i .i64)) fun s a => F_slices_medianAdjacentCmpFunc_int_c128 s a.1 a.2.1, rcS (K := K) sa_slices_medianAdjacentCmpFunc_int_c128 18 [.tmp 8] [k_slices_medianCmpFunc_int_c128] (fk Tryz.f173 [] Tryz.func173)⟩

/-! ### slices.choosePivotCmpFunc[int] -/
noncomputable def sa_slices_choosePivotCmpFunc_int_c128 : SA U := annA (scOf Tryz.prog 63 [] Tryz.f161) (.r (.r (.r (.r (.r (.r (.j ⟨[.val 13 (Ty.i .i64), .box 6 1 (Ty.i .i64) []], [11]⟩ (.l (.r (.l (.j ⟨[.val 12 (Ty.i .i64), .val 13 (Ty.i .i64), .val 14 (Ty.i .i64), .box 6 1 (Ty.i .i64) []], [0, 3, 11]⟩ .e)))))))))))
noncomputable def F_slices_choosePivotCmpFunc_int_c128 (a0 : (List Int)) (a1 : Int) (a2 : Int) : Option (Int × Int × Unit) :=
 letJ (fun (v1 : Int × Int × Unit) =>
 bif (decide (v1.2.1 = (0 : Int))) then
 some (v1.1, (1 : Int), ())
 else
 bif (decide (v1.2.1 = (12 : Int))) then
 some (v1.1, (2 : Int), ())
 else
 some (v1.1, (0 : Int), ())) fun j2 =>
 bif (decide ((8 : Int) ≤ (subI .i64 a2 a1))) then
 letJ (fun (v3 : Int × Int × Int × Int × Unit) =>
 Option.bind (F_slices_medianCmpFunc_int_c128 v3.2.2.2.1 a0 v3.1 v3.2.1 v3.2.2.1) fun p5 =>
 j2 (p5.1, p5.2, ())) fun j4 =>
 bif (decide ((50 : Int) ≤ (subI .i64 a2 a1))) then
 Option.bind (F_slices_medianAdjacentCmpFunc_int_c128 (0 : Int) a0 (addI .i64 a1 (mulI .i64 (quoI .i64 (subI .i64 a2 a1) (4 : Int)) (1 : Int)))) fun p6 =>
 Option.bind (F_slices_medianAdjacentCmpFunc_int_c128 p6.2 a0 (addI .i64 a1 (mulI .i64 (quoI .i64 (subI .i64 a2 a1) (4 : Int)) (2 : Int)))) fun p7 =>
 Option.bind (F_slices_medianAdjacentCmpFunc_int_c128 p7.2 a0 (addI .i64 a1 (mulI .i64 (quoI .i64 (subI .i64 a2 a1) (4 : Int)) (3 : Int)))) fun p8 =>
 j4 (p6.1, p7.1, p8.1, p8.2, ())
 else
 j4 ((addI .i64 a1 (mulI .i64 (quoI .i64 (subI .i64 a2 a1) (4 : Int)) (1 : Int))), (addI .i64 a1 (mulI .i64 (quoI .i64 (subI .i64 a2 a1) (4 : Int)) (2 : Int))), (addI .i64 a1 (mulI .i64 (quoI .i64 (subI .i64 a2 a1) (4 : Int)) (3 : Int))), (0 : Int), ())
 else
 j2 ((addI .i64 a1 (mulI .i64 (quoI .i64 (subI .i64 a2 a1) (4 : Int)) (2 : Int))), (0 : Int), ())
noncomputable def k_slices_choosePivotCmpFunc_int_c128 : KS U Tryz.prog := ⟨.fn 161 [.ty (Ty.sl (Ty.i .i64)), .ty (Ty.i .i64), .ty (Ty.i .i64), .clo 128 []] (.many [(Ty.i .i64), (Ty.i .i64)]) fun a => F_slices_choosePivotCmpFunc_int_c128 a.1 a.2.1 a.2.2.1, fnS (K := K) sa_slices_choosePivotCmpFunc_int_c128 63 [.tmp 8, .tmp 9] [k_slices_medianAdjacentCmpFunc_int_c128, k_slices_medianCmpFunc_int_c128] (fk Tryz.f161 [] Tryz.func161)⟩

/-! ### slices.reverseRangeCmpFunc[int] -/
noncomputable def sa_slices_reverseRangeCmpFunc_int_c128 : SA U := annA (scOf Tryz.prog 34 [] Tryz.f162) (.r (.r (.l (.j ⟨[.val 8 (Ty.i .i64), .val 9 (Ty.i .i64), .own 0 0 0 3 1 (Ty.i .i64)], []⟩ .e))))
noncomputable def F_slices_reverseRangeCmpFunc_int_c128 (s : List Int) (a0 : Int) (a1 : Int) : Option ((Unit) × List Int) :=
 loopO (fun (v1 : Int × Int × (List Int) × Unit) =>
 bif (decide (v1.1 < v1.2.1)) then
 Option.bind (idx v1.2.2.1 v1.2.1) fun x2 =>
 Option.bind (v1.2.2.1[(Int.toNat v1.2.1)]?) fun x3 =>
 Option.bind (idx v1.2.2.1 v1.1) fun x4 =>
 Option.bind (v1.2.2.1[(Int.toNat v1.1)]?) fun x5 =>
 Option.bind (idx v1.2.2.1 v1.1) fun x6 =>
 Option.bind (v1.2.2.1[(Int.toNat v1.1)]?) fun x7 =>
 Option.bind (idx (v1.2.2.1.set (Int.toNat v1.1) x3) v1.2.1) fun x8 =>
 Option.bind ((v1.2.2.1.set (Int.toNat v1.1) x3)[(Int.toNat v1.2.1)]?) fun x9 =>
 some (Sum.inl ((addI .i64 v1.1 (1 : Int)), (subI .i64 v1.2.1 (1 : Int)), ((v1.2.2.1.set (Int.toNat v1.1) x3).set (Int.toNat v1.2.1) x5), ()))
 else
 Option.map Sum.inr (some ((()), v1.2.2.1))) (a0, (subI .i64 a1 (1 : Int)), s, ())
noncomputable def k_slices_reverseRangeCmpFunc_int_c128 : KS U Tryz.prog := ⟨.rw 162 3 1 (Ty.i .i64) [.ty (Ty.i .i64), .ty (Ty.i .i64), .clo 128 []] (.many []) fun s a => F_slices_reverseRangeCmpFunc_int_c128 s a.1 a.2.1, rwS (K := K) sa_slices_reverseRangeCmpFunc_int_c128 34 [] [] (fk Tryz.f162 [] Tryz.func162)⟩

/-! ### slices.partialInsertionSortCmpFunc[int] -/
noncomputable def sa_slices_partialInsertionSortCmpFunc_int_c128 : SA U := annA (scOf Tryz.prog 141 [] Tryz.f163) (.r (.r (.l (.r (.l (.j ⟨[.val 9 (Ty.i .i64), .val 10 (Ty.i .i64), .own 0 0 0 3 1 (Ty.i .i64)], [1, 2, 3]⟩ (.l (.r (.j ⟨[.val 9 (Ty.i .i64), .own 0 0 0 3 1 (Ty.i .i64)], [1, 2, 3, 10]⟩ (.l (.l (.b (.l (.j ⟨[.val 9 (Ty.i .i64)], [0, 1, 2, 3, 10]⟩ (.l (.l (.j ⟨[.val 36 Ty.bool], [0, 1, 2, 3, 9, 10]⟩ .e))))) (.r (.r (.r (.j ⟨[.own 0 0 0 3 1 (Ty.i .i64)], [1, 2, 3, 9, 10]⟩ (.b (.r (.l (.r (.l (.j ⟨[.val 11 (Ty.i .i64), .own 0 0 0 3 1 (Ty.i .i64)], [1, 2, 3, 9, 10]⟩ .e))))) (.r (.l (.r (.l (.j ⟨[.val 12 (Ty.i .i64), .own 0 0 0 3 1 (Ty.i .i64)], [1, 2, 3, 9, 10]⟩ .e))))))))))))))))))))))
noncomputable def F_slices_partialInsertionSortCmpFunc_int_c128 (s : List Int) (a0 : Int) (a1 : Int) : Option (Bool × List Int) :=
 loopO (fun (v1 : Int × Int × (List Int) × Unit) =>
 bif (decide (v1.2.1 < (5 : Int))) then
 letJ (fun (v2 : Int × (List Int) × Unit) =>
 some (Sum.inl (v2.1, (addI .i64 v1.2.1 (1 : Int)), v2.2.1, ()))) fun j3 =>
 loopO (fun (v4 : Int × Unit) =>
 letJ (fun (v5 : Bool × Unit) =>
 bif v5.1 then
 some (Sum.inl ((addI .i64 v4.1 (1 : Int)), ()))
 else
 Option.map Sum.inr (bif (decide (v4.1 = a1)) then
 Option.map Sum.inr (some (true, v1.2.2.1))
 else
 bif (decide ((subI .i64 a1 a0) < (50 : Int))) then
 Option.map Sum.inr (some (false, v1.2.2.1))
 else
 Option.bind (idx v1.2.2.1 (subI .i64 v4.1 (1 : Int))) fun x7 =>
 Option.bind (v1.2.2.1[(Int.toNat (subI .i64 v4.1 (1 : Int)))]?) fun x8 =>
 Option.bind (idx v1.2.2.1 v4.1) fun x9 =>
 Option.bind (v1.2.2.1[(Int.toNat v4.1)]?) fun x10 =>
 Option.bind (idx v1.2.2.1 v4.1) fun x11 =>
 Option.bind (v1.2.2.1[(Int.toNat v4.1)]?) fun x12 =>
 Option.bind (idx (v1.2.2.1.set (Int.toNat v4.1) x8) (subI .i64 v4.1 (1 : Int))) fun x13 =>
 Option.bind ((v1.2.2.1.set (Int.toNat v4.1) x8)[(Int.toNat (subI .i64 v4.1 (1 : Int)))]?) fun x14 =>
 letJ (fun (v15 : (List Int) × Unit) =>
 bif (decide ((2 : Int) ≤ (subI .i64 a1 v4.1))) then
 loopO (fun (v17 : Int × (List Int) × Unit) =>
 bif (decide (v17.1 < a1)) then
 Option.bind (idx v17.2.1 v17.1) fun x18 =>
 Option.bind (v17.2.1[(Int.toNat v17.1)]?) fun x19 =>
 Option.bind (idx v17.2.1 (subI .i64 v17.1 (1 : Int))) fun x20 =>
 Option.bind (v17.2.1[(Int.toNat (subI .i64 v17.1 (1 : Int)))]?) fun x21 =>
 Option.bind (F_nodeset_Compare x19 x21) fun r22 =>
 bif (!(decide (r22 < (0 : Int)))) then
 Option.map Sum.inr (j3 (v4.1, v17.2.1, ()))
 else
 Option.bind (idx v17.2.1 (subI .i64 v17.1 (1 : Int))) fun x23 =>
 Option.bind (v17.2.1[(Int.toNat (subI .i64 v17.1 (1 : Int)))]?) fun x24 =>
 Option.bind (idx v17.2.1 v17.1) fun x25 =>
 Option.bind (v17.2.1[(Int.toNat v17.1)]?) fun x26 =>
 Option.bind (idx v17.2.1 v17.1) fun x27 =>
 Option.bind (v17.2.1[(Int.toNat v17.1)]?) fun x28 =>
 Option.bind (idx (v17.2.1.set (Int.toNat v17.1) x24) (subI .i64 v17.1 (1 : Int))) fun x29 =>
 Option.bind ((v17.2.1.set (Int.toNat v17.1) x24)[(Int.toNat (subI .i64 v17.1 (1 : Int)))]?) fun x30 =>
 some (Sum.inl ((addI .i64 v17.1 (1 : Int)), ((v17.2.1.set (Int.toNat v17.1) x24).set (Int.toNat (subI .i64 v17.1 (1 : Int))) x26), ()))
 else
 Option.map Sum.inr (j3 (v4.1, v17.2.1, ()))) ((addI .i64 v4.1 (1 : Int)), v15.1, ())
 else
 j3 (v4.1, v15.1, ())) fun j16 =>
 bif (decide ((2 : Int) ≤ (subI .i64 v4.1 a0))) then
 loopO (fun (v31 : Int × (List Int) × Unit) =>
 bif (decide ((1 : Int) ≤ v31.1)) then
 Option.bind (idx v31.2.1 v31.1) fun x32 =>
 Option.bind (v31.2.1[(Int.toNat v31.1)]?) fun x33 =>
 Option.bind (idx v31.2.1 (subI .i64 v31.1 (1 : Int))) fun x34 =>
 Option.bind (v31.2.1[(Int.toNat (subI .i64 v31.1 (1 : Int)))]?) fun x35 =>
 Option.bind (F_nodeset_Compare x33 x35) fun r36 =>
 bif (!(decide (r36 < (0 : Int)))) then
 Option.map Sum.inr (j16 (v31.2.1, ()))
 else
 Option.bind (idx v31.2.1 (subI .i64 v31.1 (1 : Int))) fun x37 =>
 Option.bind (v31.2.1[(Int.toNat (subI .i64 v31.1 (1 : Int)))]?) fun x38 =>
 Option.bind (idx v31.2.1 v31.1) fun x39 =>
 Option.bind (v31.2.1[(Int.toNat v31.1)]?) fun x40 =>
 Option.bind (idx v31.2.1 v31.1) fun x41 =>
 Option.bind (v31.2.1[(Int.toNat v31.1)]?) fun x42 =>
 Option.bind (idx (v31.2.1.set (Int.toNat v31.1) x38) (subI .i64 v31.1 (1 : Int))) fun x43 =>
 Option.bind ((v31.2.1.set (Int.toNat v31.1) x38)[(Int.toNat (subI .i64 v31.1 (1 : Int)))]?) fun x44 =>
 some (Sum.inl ((subI .i64 v31.1 (1 : Int)), ((v31.2.1.set (Int.toNat v31.1) x38).set (Int.toNat (subI .i64 v31.1 (1 : Int))) x40), ()))
 else
 Option.map Sum.inr (j16 (v31.2.1, ()))) ((subI .i64 v4.1 (1 : Int)), ((v1.2.2.1.set (Int.toNat v4.1) x8).set (Int.toNat (subI .i64 v4.1 (1 : Int))) x10), ())
 else
 j16 (((v1.2.2.1.set (Int.toNat v4.1) x8).set (Int.toNat (subI .i64 v4.1 (1 : Int))) x10), ()))) fun j6 =>
 bif (decide (v4.1 < a1)) then
 Option.bind (idx v1.2.2.1 v4.1) fun x45 =>
 Option.bind (v1.2.2.1[(Int.toNat v4.1)]?) fun x46 =>
 Option.bind (idx v1.2.2.1 (subI .i64 v4.1 (1 : Int))) fun x47 =>
 Option.bind (v1.2.2.1[(Int.toNat (subI .i64 v4.1 (1 : Int)))]?) fun x48 =>
 Option.bind (F_nodeset_Compare x46 x48) fun r49 =>
 j6 ((!(decide (r49 < (0 : Int)))), ())
 else
 j6 (false, ())) (v1.1, ())
 else
 Option.map Sum.inr (some (false, v1.2.2.1))) ((addI .i64 a0 (1 : Int)), (0 : Int), s, ())
noncomputable def k_slices_partialInsertionSortCmpFunc_int_c128 : KS U Tryz.prog := ⟨.rw 163 3 1 (Ty.i .i64) [.ty (Ty.i .i64), .ty (Ty.i .i64), .clo 128 []] (.one Ty.bool) fun s a => F_slices_partialInsertionSortCmpFunc_int_c128 s a.1 a.2.1, rwS (K := K) sa_slices_partialInsertionSortCmpFunc_int_c128 141 [.tmp 8] [k_nodeset_Compare] (fk Tryz.f163 [] Tryz.func163)⟩

/-! ### slices.partitionEqualCmpFunc[int] -/
noncomputable def sa_slices_partitionEqualCmpFunc_int_c128 : SA U := annA (scOf Tryz.prog 90 [] Tryz.f164) (.r (.r (.r (.l (.l (.j ⟨[.val 11 (Ty.i .i64), .val 12 (Ty.i .i64), .own 0 0 0 3 1 (Ty.i .i64)], [1, 4]⟩ (.l (.l (.b (.l (.j ⟨[.val 11 (Ty.i .i64)], [0, 1, 4, 12]⟩ (.l (.l (.j ⟨[.val 47 Ty.bool], [0, 1, 4, 11, 12]⟩ .e))))) (.l (.l (.j ⟨[.val 12 (Ty.i .i64)], [0, 1, 4, 11]⟩ (.l (.l (.j ⟨[.val 65 Ty.bool], [0, 1, 4, 11, 12]⟩ .e)))))))))))))))
noncomputable def F_slices_partitionEqualCmpFunc_int_c128 (s : List Int) (a0 : Int) (a1 : Int) (a2 : Int) : Option (Int × List Int) :=
 Option.bind (idx s a2) fun x1 =>
 Option.bind (s[(Int.toNat a2)]?) fun x2 =>
 Option.bind (idx s a0) fun x3 =>
 Option.bind (s[(Int.toNat a0)]?) fun x4 =>
 Option.bind (idx s a0) fun x5 =>
 Option.bind (s[(Int.toNat a0)]?) fun x6 =>
 Option.bind (idx (s.set (Int.toNat a0) x2) a2) fun x7 =>
 Option.bind ((s.set (Int.toNat a0) x2)[(Int.toNat a2)]?) fun x8 =>
 loopO (fun (v9 : Int × Int × (List Int) × Unit) =>
 loopO (fun (v10 : Int × Unit) =>
 letJ (fun (v11 : Bool × Unit) =>
 bif v11.1 then
 some (Sum.inl ((addI .i64 v10.1 (1 : Int)), ()))
 else
 Option.map Sum.inr (loopO (fun (v13 : Int × Unit) =>
 letJ (fun (v14 : Bool × Unit) =>
 bif v14.1 then
 some (Sum.inl ((subI .i64 v13.1 (1 : Int)), ()))
 else
 Option.map Sum.inr (bif (decide (v13.1 < v10.1)) then
 Option.map Sum.inr (some (v10.1, v9.2.2.1))
 else
 Option.bind (idx v9.2.2.1 v13.1) fun x16 =>
 Option.bind (v9.2.2.1[(Int.toNat v13.1)]?) fun x17 =>
 Option.bind (idx v9.2.2.1 v10.1) fun x18 =>
 Option.bind (v9.2.2.1[(Int.toNat v10.1)]?) fun x19 =>
 Option.bind (idx v9.2.2.1 v10.1) fun x20 =>
 Option.bind (v9.2.2.1[(Int.toNat v10.1)]?) fun x21 =>
 Option.bind (idx (v9.2.2.1.set (Int.toNat v10.1) x17) v13.1) fun x22 =>
 Option.bind ((v9.2.2.1.set (Int.toNat v10.1) x17)[(Int.toNat v13.1)]?) fun x23 =>
 some (Sum.inl ((addI .i64 v10.1 (1 : Int)), (subI .i64 v13.1 (1 : Int)), ((v9.2.2.1.set (Int.toNat v10.1) x17).set (Int.toNat v13.1) x19), ())))) fun j15 =>
 bif (decide (v10.1 ≤ v13.1)) then
 Option.bind (idx v9.2.2.1 a0) fun x24 =>
 Option.bind (v9.2.2.1[(Int.toNat a0)]?) fun x25 =>
 Option.bind (idx v9.2.2.1 v13.1) fun x26 =>
 Option.bind (v9.2.2.1[(Int.toNat v13.1)]?) fun x27 =>
 Option.bind (F_nodeset_Compare x25 x27) fun r28 =>
 j15 ((decide (r28 < (0 : Int))), ())
 else
 j15 (false, ())) (v9.2.1, ()))) fun j12 =>
 bif (decide (v10.1 ≤ v9.2.1)) then
 Option.bind (idx v9.2.2.1 a0) fun x29 =>
 Option.bind (v9.2.2.1[(Int.toNat a0)]?) fun x30 =>
 Option.bind (idx v9.2.2.1 v10.1) fun x31 =>
 Option.bind (v9.2.2.1[(Int.toNat v10.1)]?) fun x32 =>
 Option.bind (F_nodeset_Compare x30 x32) fun r33 =>
 j12 ((!(decide (r33 < (0 : Int)))), ())
 else
 j12 (false, ())) (v9.1, ())) ((addI .i64 a0 (1 : Int)), (subI .i64 a1 (1 : Int)), ((s.set (Int.toNat a0) x2).set (Int.toNat a2) x4), ())
noncomputable def k_slices_partitionEqualCmpFunc_int_c128 : KS U Tryz.prog := ⟨.rw 164 3 1 (Ty.i .i64) [.ty (Ty.i .i64), .ty (Ty.i .i64), .ty (Ty.i .i64), .clo 128 []] (.one (Ty.i .i64)) fun s a => F_slices_partitionEqualCmpFunc_int_c128 s a.1 a.2.1 a.2.2.1, rwS (K := K) sa_slices_partitionEqualCmpFunc_int_c128 90 [.tmp 10] [k_nodeset_Compare] (fk Tryz.f164 [] Tryz.func164)⟩

/-! ### slices.partitionCmpFunc[int] -/
noncomputable def sa_slices_partitionCmpFunc_int_c128 : SA U := annA (scOf Tryz.prog 178 [] Tryz.f165) (.r (.r (.r (.b (.l (.j ⟨[.val 12 (Ty.i .i64)], [0, 1, 4, 13]⟩ (.l (.l (.j ⟨[.val 47 Ty.bool], [0, 1, 4, 12, 13]⟩ .e))))) (.b (.l (.j ⟨[.val 13 (Ty.i .i64)], [0, 1, 4, 12]⟩ (.l (.l (.j ⟨[.val 66 Ty.bool], [0, 1, 4, 12, 13]⟩ .e))))) (.r (.r (.r (.r (.l (.l (.j ⟨[.val 12 (Ty.i .i64), .val 13 (Ty.i .i64), .own 0 0 0 3 1 (Ty.i .i64)], [1, 4]⟩ (.l (.l (.b (.l (.j ⟨[.val 12 (Ty.i .i64)], [0, 1, 4, 13]⟩ (.l (.l (.j ⟨[.val 120 Ty.bool], [0, 1, 4, 12, 13]⟩ .e))))) (.l (.l (.j ⟨[.val 13 (Ty.i .i64)], [0, 1, 4, 12]⟩ (.l (.l (.j ⟨[.val 139 Ty.bool], [0, 1, 4, 12, 13]⟩ .e)))))))))))))))))))))
noncomputable def F_slices_partitionCmpFunc_int_c128 (s : List Int) (a0 : Int) (a1 : Int) (a2 : Int) : Option ((Int × Bool × Unit) × List Int) :=
 Option.bind (idx s a2) fun x1 =>
 Option.bind (s[(Int.toNat a2)]?) fun x2 =>
 Option.bind (idx s a0) fun x3 =>
 Option.bind (s[(Int.toNat a0)]?) fun x4 =>
 Option.bind (idx s a0) fun x5 =>
 Option.bind (s[(Int.toNat a0)]?) fun x6 =>
 Option.bind (idx (s.set (Int.toNat a0) x2) a2) fun x7 =>
 Option.bind ((s.set (Int.toNat a0) x2)[(Int.toNat a2)]?) fun x8 =>
 loopO (fun (v9 : Int × Unit) =>
 letJ (fun (v10 : Bool × Unit) =>
 bif v10.1 then
 some (Sum.inl ((addI .i64 v9.1 (1 : Int)), ()))
 else
 Option.map Sum.inr (loopO (fun (v12 : Int × Unit) =>
 letJ (fun (v13 : Bool × Unit) =>
 bif v13.1 then
 some (Sum.inl ((subI .i64 v12.1 (1 : Int)), ()))
 else
 Option.map Sum.inr (bif (decide (v12.1 < v9.1)) then
 Option.bind (idx ((s.set (Int.toNat a0) x2).set (Int.toNat a2) x4) a0) fun x15 =>
 Option.bind (((s.set (Int.toNat a0) x2).set (Int.toNat a2) x4)[(Int.toNat a0)]?) fun x16 =>
 Option.bind (idx ((s.set (Int.toNat a0) x2).set (Int.toNat a2) x4) v12.1) fun x17 =>
 Option.bind (((s.set (Int.toNat a0) x2).set (Int.toNat a2) x4)[(Int.toNat v12.1)]?) fun x18 =>
 Option.bind (idx ((s.set (Int.toNat a0) x2).set (Int.toNat a2) x4) v12.1) fun x19 =>
 Option.bind (((s.set (Int.toNat a0) x2).set (Int.toNat a2) x4)[(Int.toNat v12.1)]?) fun x20 =>
 Option.bind (idx (((s.set (Int.toNat a0) x2).set (Int.toNat a2) x4).set (Int.toNat v12.1) x16) a0) fun x21 =>
 Option.bind ((((s.set (Int.toNat a0) x2).set (Int.toNat a2) x4).set (Int.toNat v12.1) x16)[(Int.toNat a0)]?) fun x22 =>
 some ((v12.1, true, ()), ((((s.set (Int.toNat a0) x2).set (Int.toNat a2) x4).set (Int.toNat v12.1) x16).set (Int.toNat a0) x18))
 else
 Option.bind (idx ((s.set (Int.toNat a0) x2).set (Int.toNat a2) x4) v12.1) fun x23 =>
 Option.bind (((s.set (Int.toNat a0) x2).set (Int.toNat a2) x4)[(Int.toNat v12.1)]?) fun x24 =>
 Option.bind (idx ((s.set (Int.toNat a0) x2).set (Int.toNat a2) x4) v9.1) fun x25 =>
 Option.bind (((s.set (Int.toNat a0) x2).set (Int.toNat a2) x4)[(Int.toNat v9.1)]?) fun x26 =>
 Option.bind (idx ((s.set (Int.toNat a0) x2).set (Int.toNat a2) x4) v9.1) fun x27 =>
 Option.bind (((s.set (Int.toNat a0) x2).set (Int.toNat a2) x4)[(Int.toNat v9.1)]?) fun x28 =>
 Option.bind (idx (((s.set (Int.toNat a0) x2).set (Int.toNat a2) x4).set (Int.toNat v9.1) x24) v12.1) fun x29 =>
 Option.bind ((((s.set (Int.toNat a0) x2).set (Int.toNat a2) x4).set (Int.toNat v9.1) x24)[(Int.toNat v12.1)]?) fun x30 =>
 loopO (fun (v31 : Int × Int × (List Int) × Unit) =>
 loopO (fun (v32 : Int × Unit) =>
 letJ (fun (v33 : Bool × Unit) =>
 bif v33.1 then
 some (Sum.inl ((addI .i64 v32.1 (1 : Int)), ()))
 else
 Option.map Sum.inr (loopO (fun (v35 : Int × Unit) =>
 letJ (fun (v36 : Bool × Unit) =>
 bif v36.1 then
 some (Sum.inl ((subI .i64 v35.1 (1 : Int)), ()))
 else
 Option.map Sum.inr (bif (decide (v35.1 < v32.1)) then
 Option.map Sum.inr (Option.bind (idx v31.2.2.1 a0) fun x38 =>
 Option.bind (v31.2.2.1[(Int.toNat a0)]?) fun x39 =>
 Option.bind (idx v31.2.2.1 v35.1) fun x40 =>
 Option.bind (v31.2.2.1[(Int.toNat v35.1)]?) fun x41 =>
 Option.bind (idx v31.2.2.1 v35.1) fun x42 =>
 Option.bind (v31.2.2.1[(Int.toNat v35.1)]?) fun x43 =>
 Option.bind (idx (v31.2.2.1.set (Int.toNat v35.1) x39) a0) fun x44 =>
 Option.bind ((v31.2.2.1.set (Int.toNat v35.1) x39)[(Int.toNat a0)]?) fun x45 =>
 some ((v35.1, false, ()), ((v31.2.2.1.set (Int.toNat v35.1) x39).set (Int.toNat a0) x41)))
 else
 Option.bind (idx v31.2.2.1 v35.1) fun x46 =>
 Option.bind (v31.2.2.1[(Int.toNat v35.1)]?) fun x47 =>
 Option.bind (idx v31.2.2.1 v32.1) fun x48 =>
 Option.bind (v31.2.2.1[(Int.toNat v32.1)]?) fun x49 =>
 Option.bind (idx v31.2.2.1 v32.1) fun x50 =>
 Option.bind (v31.2.2.1[(Int.toNat v32.1)]?) fun x51 =>
 Option.bind (idx (v31.2.2.1.set (Int.toNat v32.1) x47) v35.1) fun x52 =>
 Option.bind ((v31.2.2.1.set (Int.toNat v32.1) x47)[(Int.toNat v35.1)]?) fun x53 =>
 some (Sum.inl ((addI .i64 v32.1 (1 : Int)), (subI .i64 v35.1 (1 : Int)), ((v31.2.2.1.set (Int.toNat v32.1) x47).set (Int.toNat v35.1) x49), ())))) fun j37 =>
 bif (decide (v32.1 ≤ v35.1)) then
 Option.bind (idx v31.2.2.1 v35.1) fun x54 =>
 Option.bind (v31.2.2.1[(Int.toNat v35.1)]?) fun x55 =>
 Option.bind (idx v31.2.2.1 a0) fun x56 =>
 Option.bind (v31.2.2.1[(Int.toNat a0)]?) fun x57 =>
 Option.bind (F_nodeset_Compare x55 x57) fun r58 =>
 j37 ((!(decide (r58 < (0 : Int)))), ())
 else
 j37 (false, ())) (v31.2.1, ()))) fun j34 =>
 bif (decide (v32.1 ≤ v31.2.1)) then
 Option.bind (idx v31.2.2.1 v32.1) fun x59 =>
 Option.bind (v31.2.2.1[(Int.toNat v32.1)]?) fun x60 =>
 Option.bind (idx v31.2.2.1 a0) fun x61 =>
 Option.bind (v31.2.2.1[(Int.toNat a0)]?) fun x62 =>
 Option.bind (F_nodeset_Compare x60 x62) fun r63 =>
 j34 ((decide (r63 < (0 : Int))), ())
 else
 j34 (false, ())) (v31.1, ())) ((addI .i64 v9.1 (1 : Int)), (subI .i64 v12.1 (1 : Int)), ((((s.set (Int.toNat a0) x2).set (Int.toNat a2) x4).set (Int.toNat v9.1) x24).set (Int.toNat v12.1) x26), ()))) fun j14 =>
 bif (decide (v9.1 ≤ v12.1)) then
 Option.bind (idx ((s.set (Int.toNat a0) x2).set (Int.toNat a2) x4) v12.1) fun x64 =>
 Option.bind (((s.set (Int.toNat a0) x2).set (Int.toNat a2) x4)[(Int.toNat v12.1)]?) fun x65 =>
 Option.bind (idx ((s.set (Int.toNat a0) x2).set (Int.toNat a2) x4) a0) fun x66 =>
 Option.bind (((s.set (Int.toNat a0) x2).set (Int.toNat a2) x4)[(Int.toNat a0)]?) fun x67 =>
 Option.bind (F_nodeset_Compare x65 x67) fun r68 =>
 j14 ((!(decide (r68 < (0 : Int)))), ())
 else
 j14 (false, ())) ((subI .i64 a1 (1 : Int)), ()))) fun j11 =>
 bif (decide (v9.1 ≤ (subI .i64 a1 (1 : Int)))) then
 Option.bind (idx ((s.set (Int.toNat a0) x2).set (Int.toNat a2) x4) v9.1) fun x69 =>
 Option.bind (((s.set (Int.toNat a0) x2).set (Int.toNat a2) x4)[(Int.toNat v9.1)]?) fun x70 =>
 Option.bind (idx ((s.set (Int.toNat a0) x2).set (Int.toNat a2) x4) a0) fun x71 =>
 Option.bind (((s.set (Int.toNat a0) x2).set (Int.toNat a2) x4)[(Int.toNat a0)]?) fun x72 =>
 Option.bind (F_nodeset_Compare x70 x72) fun r73 =>
 j11 ((decide (r73 < (0 : Int))), ())
 else
 j11 (false, ())) ((addI .i64 a0 (1 : Int)), ())
noncomputable def k_slices_partitionCmpFunc_int_c128 : KS U Tryz.prog := ⟨.rw 165 3 1 (Ty.i .i64) [.ty (Ty.i .i64), .ty (Ty.i .i64), .ty (Ty.i .i64), .clo 128 []] (.many [(Ty.i .i64), Ty.bool]) fun s a => F_slices_partitionCmpFunc_int_c128 s a.1 a.2.1 a.2.2.1, rwS (K := K) sa_slices_partitionCmpFunc_int_c128 178 [.tmp 10, .tmp 11] [k_nodeset_Compare] (fk Tryz.f165 [] Tryz.func165)⟩

/-! ### slices.pdqsortCmpFunc[int] -/
noncomputable def sa_slices_pdqsortCmpFunc_int_c128 : SA U := annA (scOf Tryz.prog 148 [] Tryz.f143) (.r (.r (.l (.j ⟨[.val 1 (Ty.i .i64), .val 2 (Ty.i .i64), .val 3 (Ty.i .i64), .val 10 Ty.bool, .val 11 Ty.bool, .own 0 0 0 3 1 (Ty.i .i64)], [4]⟩ (.l (.l (.r (.r (.r (.j ⟨[.val 3 (Ty.i .i64), .own 0 0 0 3 1 (Ty.i .i64)], [1, 2, 4, 10, 11, 12]⟩ (.r (.r (.j ⟨[.val 13 (Ty.i .i64), .val 14 (Ty.i .i64), .own 0 0 0 3 1 (Ty.i .i64)], [1, 2, 3, 4, 10, 11, 12]⟩ (.r (.j ⟨[.own 0 0 0 3 1 (Ty.i .i64)], [1, 2, 3, 4, 10, 11, 12, 13]⟩ (.r (.l (.j ⟨[.val 97 Ty.bool], [0, 1, 2, 3, 4, 10, 11, 12, 13]⟩ .e))))))))))))))))))
noncomputable def B_slices_pdqsortCmpFunc_int_c128 (rec : List Int → (Int × Int × Int × (Unit) × Unit) → Option ((Unit) × List Int)) (s : List Int) (a0 : Int) (a1 : Int) (a2 : Int) : Option ((Unit) × List Int) :=
 loopO (fun (v1 : Int × Int × Int × Bool × Bool × (List Int) × Unit) =>
 bif (decide ((subI .i64 v1.2.1 v1.1) ≤ (12 : Int))) then
 Option.bind (F_slices_insertionSortCmpFunc_int_c128 v1.2.2.2.2.2.1 v1.1 v1.2.1) fun p2 =>
 Option.map Sum.inr (some ((()), p2.2))
 else
 bif (decide (v1.2.2.1 = (0 : Int))) then
 Option.bind (F_slices_heapSortCmpFunc_int_c128 v1.2.2.2.2.2.1 v1.1 v1.2.1) fun p3 =>
 Option.map Sum.inr (some ((()), p3.2))
 else
 letJ (fun (v4 : Int × (List Int) × Unit) =>
 Option.bind (F_slices_choosePivotCmpFunc_int_c128 v4.2.1 v1.1 v1.2.1) fun r6 =>
 letJ (fun (v7 : Int × Int × (List Int) × Unit) =>
 letJ (fun (v9 : (List Int) × Unit) =>
 letJ (fun (v11 : Bool × Unit) =>
 bif v11.1 then
 Option.bind (F_slices_partitionEqualCmpFunc_int_c128 v9.1 v1.1 v1.2.1 v7.1) fun p13 =>
 some (Sum.inl (p13.1, v1.2.1, v4.1, v1.2.2.2.1, v1.2.2.2.2.1, p13.2, ()))
 else
 Option.bind (F_slices_partitionCmpFunc_int_c128 v9.1 v1.1 v1.2.1 v7.1) fun p14 =>
 bif (decide ((subI .i64 p14.1.1 v1.1) < (subI .i64 v1.2.1 p14.1.1))) then
 Option.bind (rec p14.2 (v1.1, p14.1.1, v4.1, (()), ())) fun p15 =>
 some (Sum.inl ((addI .i64 p14.1.1 (1 : Int)), v1.2.1, v4.1, (decide ((quoI .i64 (subI .i64 v1.2.1 v1.1) (8 : Int)) ≤ (subI .i64 p14.1.1 v1.1))), p14.1.2.1, p15.2, ()))
 else
 Option.bind (rec p14.2 ((addI .i64 p14.1.1 (1 : Int)), v1.2.1, v4.1, (()), ())) fun p16 =>
 some (Sum.inl (v1.1, p14.1.1, v4.1, (decide ((quoI .i64 (subI .i64 v1.2.1 v1.1) (8 : Int)) ≤ (subI .i64 v1.2.1 p14.1.1))), p14.1.2.1, p16.2, ()))) fun j12 =>
 bif (decide ((0 : Int) < v1.1)) then
 Option.bind (idx v9.1 (subI .i64 v1.1 (1 : Int))) fun x17 =>
 Option.bind (v9.1[(Int.toNat (subI .i64 v1.1 (1 : Int)))]?) fun x18 =>
 Option.bind (idx v9.1 v7.1) fun x19 =>
 Option.bind (v9.1[(Int.toNat v7.1)]?) fun x20 =>
 Option.bind (F_nodeset_Compare x18 x20) fun r21 =>
 j12 ((!(decide (r21 < (0 : Int)))), ())
 else
 j12 (false, ())) fun j10 =>
 Option.bind (bif v1.2.2.2.1 then
 some v1.2.2.2.2.1
 else some false) fun b22 =>
 Option.bind (bif b22 then
 some (decide (v7.2.1 = (1 : Int)))
 else some false) fun b23 =>
 bif b23 then
 Option.bind (F_slices_partialInsertionSortCmpFunc_int_c128 v7.2.2.1 v1.1 v1.2.1) fun p24 =>
 bif p24.1 then
 Option.map Sum.inr (some ((()), p24.2))
 else
 j10 (p24.2, ())
 else
 j10 (v7.2.2.1, ())) fun j8 =>
 bif (decide (r6.2.1 = (2 : Int))) then
 Option.bind (F_slices_reverseRangeCmpFunc_int_c128 v4.2.1 v1.1 v1.2.1) fun p25 =>
 j8 ((subI .i64 (subI .i64 v1.2.1 (1 : Int)) (subI .i64 r6.1 v1.1)), (1 : Int), p25.2, ())
 else
 j8 (r6.1, r6.2.1, v4.2.1, ())) fun j5 =>
 bif (!v1.2.2.2.1) then
 Option.bind (F_slices_breakPatternsCmpFunc_int_c128 v1.2.2.2.2.2.1 v1.1 v1.2.1) fun p26 =>
 j5 ((subI .i64 v1.2.2.1 (1 : Int)), p26.2, ())
 else
 j5 (v1.2.2.1, v1.2.2.2.2.2.1, ())) (a0, a1, a2, true, true, s, ())
noncomputable def I_slices_pdqsortCmpFunc_int_c128 : Nat → List Int → (Int × Int × Int × (Unit) × Unit) → Option ((Unit) × List Int) := iterF2 (fun rec s a => B_slices_pdqsortCmpFunc_int_c128 rec s a.1 a.2.1 a.2.2.1)
noncomputable def F_slices_pdqsortCmpFunc_int_c128 (s : List Int) (a0 : Int) (a1 : Int) (a2 : Int) : Option ((Unit) × List Int) := I_slices_pdqsortCmpFunc_int_c128 (List.length s + 1) s (a0, a1, a2, (()), ())
noncomputable def k_slices_pdqsortCmpFunc_int_c128 : KS U Tryz.prog := ⟨.rw 143 3 1 (Ty.i .i64) [.ty (Ty.i .i64), .ty (Ty.i .i64), .ty (Ty.i .i64), .clo 128 []] (.many []) fun s a => F_slices_pdqsortCmpFunc_int_c128 s a.1 a.2.1 a.2.2.1, rwRS (K := K) («as» := [.ty (Ty.i .i64), .ty (Ty.i .i64), .ty (Ty.i .i64), .clo 128 []]) (r := .many []) (T := (Ty.i .i64)) (B := fun rec s a => B_slices_pdqsortCmpFunc_int_c128 rec s a.1 a.2.1 a.2.2.1) sa_slices_pdqsortCmpFunc_int_c128 148 [] [k_slices_insertionSortCmpFunc_int_c128, k_slices_heapSortCmpFunc_int_c128, k_slices_breakPatternsCmpFunc_int_c128, k_slices_choosePivotCmpFunc_int_c128, k_slices_reverseRangeCmpFunc_int_c128, k_slices_partialInsertionSortCmpFunc_int_c128, k_nodeset_Compare, k_slices_partitionEqualCmpFunc_int_c128, k_slices_partitionCmpFunc_int_c128] (fk Tryz.f143 [] Tryz.func143) (hF := fun s a => ⟨_, rfl⟩)⟩

/-! ### slices.SortFunc[[]int,int] -/
noncomputable def sa_slices_SortFunc_int_int_c128 : SA U := annA (scOf Tryz.prog 14 [] Tryz.f127) .e
noncomputable def F_slices_SortFunc_int_int_c128 (s : List Int)  : Option ((Unit) × List Int) :=
 Option.bind (F_math_bits_Len (convI .u64 ((List.length s : Nat) : Int))) fun r1 =>
 Option.bind (F_slices_pdqsortCmpFunc_int_c128 s (0 : Int) ((List.length s : Nat) : Int) r1) fun p2 =>
 some ((()), p2.2)
noncomputable def k_slices_SortFunc_int_int_c128 : KS U Tryz.prog := ⟨.rw 127 3 1 (Ty.i .i64) [.clo 128 []] (.many []) fun s a => F_slices_SortFunc_int_int_c128 s , rwS (K := K) sa_slices_SortFunc_int_int_c128 14 [] [k_math_bits_Len, k_slices_pdqsortCmpFunc_int_c128] (fk Tryz.f127 [] Tryz.func127)⟩

/-! ### trustquorum/nodeset.Subsets -/
noncomputable def sa_nodeset_Subsets : SA U := annA (scOf Tryz.prog 25 [] Tryz.f98) (.r (.r (.l (.r (.l (.ps (.own 3 3 1 (Ty.i .i64)) (.j ⟨[.val 4 (Ty.i .i64), .own 3 3 1 3 1 (Ty.i .i64)], [0]⟩ (.l (.r (.j ⟨[.own 3 3 1 3 1 (Ty.i .i64)], [0, 4]⟩ .e))))))))))
noncomputable def F_nodeset_Subsets (a0 : Int) : Option (List Int) :=
 loopO (fun (v1 : Int × (List Int) × Unit) =>
 Option.bind (F_nodeset_Valid a0) fun r2 =>
 Option.bind (bif r2 then
 some (decide (v1.1 ≤ a0))
 else some false) fun b3 =>
 bif b3 then
 letJ (fun (v4 : (List Int) × Unit) =>
 some (Sum.inl ((addI .i64 v1.1 (1 : Int)), v4.1, ()))) fun j5 =>
 bif (decide ((andNotI .i64 v1.1 a0) = (0 : Int))) then
 bif lenOk 8 (List.length v1.2.1 + List.length [v1.1]) then
 j5 ((v1.2.1 ++ [v1.1]), ())
 else none
 else
 j5 (v1.2.1, ())
 else
 Option.map Sum.inr (Option.bind (F_slices_SortFunc_int_int_c128 v1.2.1) fun p6 =>
 some p6.2)) ((0 : Int), ([] : List Int), ())
noncomputable def k_nodeset_Subsets : KS U Tryz.prog := ⟨.fn 98 [.ty (Ty.i .i64)] (.one (Ty.sl (Ty.i .i64))) fun a => F_nodeset_Subsets a.1, fnS (K := K) sa_nodeset_Subsets 25 [.tmp 2] [k_nodeset_Valid, k_slices_SortFunc_int_int_c128] (fk Tryz.f98 [] Tryz.func98)⟩

/-! ### trustquorum/monitor.needs$2 -/
noncomputable def sa_monitor_needs_2 : SA U := annA (scOf Tryz.prog 8 [] Tryz.f99) .e
noncomputable def F_monitor_needs_2 (a0 : Int) (a1 : Int) : Option Bool :=
 some (decide ((andNotI .i64 a0 a1) = (0 : Int)))
noncomputable def k_monitor_needs_2 : KS U Tryz.prog := ⟨.fn 99 [.ty (Ty.i .i64), .ref (.ty (Ty.i .i64))] (.one Ty.bool) fun a => F_monitor_needs_2 a.1 a.2.1, fnS (K := K) sa_monitor_needs_2 8 [.tmp 3] [] (fk Tryz.f99 [] Tryz.func99)⟩

/-! ### slices.IndexFunc[[]int,int] -/
noncomputable def sa_slices_IndexFunc_int_int_c99 : SA U := annA (scOf Tryz.prog 19 [] Tryz.f129) (.r (.l (.r (.l (.j ⟨[.val 8 (Ty.i .i64)], [0, 1, 7]⟩ .e)))))
noncomputable def F_slices_IndexFunc_int_int_c99 (a0 : (List Int)) (a1 : Int) : Option Int :=
 loopO (fun (v1 : Int × Unit) =>
 bif (decide (v1.1 < ((List.length a0 : Nat) : Int))) then
 Option.bind (idx a0 v1.1) fun x2 =>
 Option.bind (F_monitor_needs_2 x2 a1) fun r3 =>
 bif r3 then
 Option.map Sum.inr (some v1.1)
 else
 some (Sum.inl ((addI .i64 v1.1 (1 : Int)), ()))
 else
 Option.map Sum.inr (some (-1 : Int))) ((0 : Int), ())
noncomputable def k_slices_IndexFunc_int_int_c99 : KS U Tryz.prog := ⟨.fn 129 [.ty (Ty.sl (Ty.i .i64)), .clo 99 [.ref (.ty (Ty.i .i64))]] (.one (Ty.i .i64)) fun a => F_slices_IndexFunc_int_int_c99 a.1 a.2.1.1, fnS (K := K) sa_slices_IndexFunc_int_int_c99 19 [.tmp 4] [k_monitor_needs_2] (fk Tryz.f129 [] Tryz.func129)⟩

/-! ### slices.ContainsFunc[[]int,int] -/
noncomputable def sa_slices_ContainsFunc_int_int_c99 : SA U := annA (scOf Tryz.prog 9 [] Tryz.f100) .e
noncomputable def F_slices_ContainsFunc_int_int_c99 (a0 : (List Int)) (a1 : Int) : Option Bool :=
 Option.bind (F_slices_IndexFunc_int_int_c99 a0 a1) fun r1 =>
 some (decide ((0 : Int) ≤ r1))
noncomputable def k_slices_ContainsFunc_int_int_c99 : KS U Tryz.prog := ⟨.fn 100 [.ty (Ty.sl (Ty.i .i64)), .clo 99 [.ref (.ty (Ty.i .i64))]] (.one Ty.bool) fun a => F_slices_ContainsFunc_int_int_c99 a.1 a.2.1.1, fnS (K := K) sa_slices_ContainsFunc_int_int_c99 9 [.tmp 4] [k_slices_IndexFunc_int_int_c99] (fk Tryz.f100 [] Tryz.func100)⟩

/-! ### trustquorum/configuration.Declared -/
noncomputable def sa_configuration_Declared : SA U := annA (scOf Tryz.prog 26 [] Tryz.f141) (.r (.r (.l (.r (.l (.j ⟨[.val 3 (Ty.i .i64), .val 9 (Ty.i .i64)], [7, 8]⟩ (.l (.r (.r (.j ⟨[.val 3 (Ty.i .i64)], [7, 8, 9]⟩ .e))))))))))
noncomputable def F_configuration_Declared (a0 : TConfig) : Option Int :=
 loopO (fun (v1 : Int × Int × Unit) =>
 bif (decide (v1.2.1 < ((List.length a0.Members : Nat) : Int))) then
 letJ (fun (v2 : Int × Unit) =>
 some (Sum.inl (v2.1, (addI .i64 v1.2.1 (1 : Int)), ()))) fun j3 =>
 Option.bind (idx a0.Members v1.2.1) fun x4 =>
 Option.bind (bif x4.Declared then
 some (decide (v1.2.1 < (10 : Int)))
 else some false) fun b5 =>
 bif b5 then
 if v1.2.1 < 0 then none else
 j3 ((orI .i64 v1.1 (shlI .i64 (1 : Int) v1.2.1)), ())
 else
 j3 (v1.1, ())
 else
 Option.map Sum.inr (some v1.1)) ((0 : Int), (0 : Int), ())
noncomputable def k_configuration_Declared : KS U Tryz.prog := ⟨.fn 141 [.ty (Ty.st .Config)] (.one (Ty.i .i64)) fun a => F_configuration_Declared a.1, fnS (K := K) sa_configuration_Declared 26 [.tmp 2] [] (fk Tryz.f141 [] Tryz.func141)⟩

/-! ### trustquorum/nodeset.Nodes -/
noncomputable def sa_nodeset_Nodes : SA U := annA (scOf Tryz.prog 17 [] Tryz.f156) (.r (.r (.l (.r (.l (.ps (.own 3 3 1 (Ty.i .i64)) (.j ⟨[.val 5 (Ty.i .i64), .own 3 3 1 3 1 (Ty.i .i64)], [0]⟩ (.l (.r (.r (.j ⟨[.own 3 3 1 3 1 (Ty.i .i64)], [0, 5]⟩ .e)))))))))))
noncomputable def F_nodeset_Nodes (a0 : Int) : Option (List Int) :=
 loopO (fun (v1 : Int × (List Int) × Unit) =>
 bif (decide (v1.1 < (10 : Int))) then
 letJ (fun (v2 : (List Int) × Unit) =>
 some (Sum.inl ((addI .i64 v1.1 (1 : Int)), v2.1, ()))) fun j3 =>
 Option.bind (F_nodeset_Has a0 v1.1) fun r4 =>
 bif r4 then
 bif lenOk 8 (List.length v1.2.1 + List.length [v1.1]) then
 j3 ((v1.2.1 ++ [v1.1]), ())
 else none
 else
 j3 (v1.2.1, ())
 else
 Option.map Sum.inr (some v1.2.1)) ((0 : Int), ([] : List Int), ())
noncomputable def k_nodeset_Nodes : KS U Tryz.prog := ⟨.fn 156 [.ty (Ty.i .i64)] (.one (Ty.sl (Ty.i .i64))) fun a => F_nodeset_Nodes a.1, fnS (K := K) sa_nodeset_Nodes 17 [.tmp 2] [k_nodeset_Has] (fk Tryz.f156 [] Tryz.func156)⟩

/-! ### trustquorum/threshold.Satisfied -/
noncomputable def sa_threshold_Satisfied : SA U := annA (scOf Tryz.prog 43 [] Tryz.f171) (.r (.r (.r (.b (.r (.l (.j ⟨[.val 5 (Ty.i .i64), .val 16 (Ty.i .i64)], [1, 2, 14, 15]⟩ (.l (.r (.r (.j ⟨[.val 5 (Ty.i .i64)], [1, 2, 14, 15, 16]⟩ .e))))))) (.l (.r (.l (.j ⟨[.val 5 (Ty.i .i64), .val 29 (Ty.i .i64)], [1, 2, 27, 28]⟩ (.l (.r (.r (.j ⟨[.val 5 (Ty.i .i64)], [1, 2, 27, 28, 29]⟩ .e))))))))))))
noncomputable def B_threshold_Satisfied (rec : (TTrust × Int × Unit) → Option Bool) (a0 : TTrust) (a1 : Int) : Option Bool :=
 Option.bind (F_nodeset_Valid a1) fun r1 =>
 bif (!r1) then
 some false
 else
 loopO (fun (v2 : Int × Int × Unit) =>
 bif (decide (v2.2.1 < ((List.length a0.Nodes : Nat) : Int))) then
 letJ (fun (v3 : Int × Unit) =>
 some (Sum.inl (v3.1, (addI .i64 v2.2.1 (1 : Int)), ()))) fun j4 =>
 Option.bind (idx a0.Nodes v2.2.1) fun x5 =>
 Option.bind (F_nodeset_Has a1 x5) fun r6 =>
 bif r6 then
 j4 ((addI .i64 v2.1 (1 : Int)), ())
 else
 j4 (v2.1, ())
 else
 Option.map Sum.inr (loopO (fun (v7 : Int × Int × Unit) =>
 bif (decide (v7.2.1 < ((List.length a0.Inner : Nat) : Int))) then
 letJ (fun (v8 : Int × Unit) =>
 some (Sum.inl (v8.1, (addI .i64 v7.2.1 (1 : Int)), ()))) fun j9 =>
 Option.bind (idx a0.Inner v7.2.1) fun x10 =>
 Option.bind (rec ((TTrust.mk x10.Threshold x10.Nodes x10.Inner), a1, ())) fun r11 =>
 bif r11 then
 j9 ((addI .i64 v7.1 (1 : Int)), ())
 else
 j9 (v7.1, ())
 else
 Option.map Sum.inr (some (decide (a0.Threshold ≤ v7.1)))) (v2.1, (0 : Int), ()))) ((0 : Int), (0 : Int), ())
noncomputable def I_threshold_Satisfied : Nat → (TTrust × Int × Unit) → Option Bool := iterF (fun rec a => B_threshold_Satisfied rec a.1 a.2.1)
noncomputable def F_threshold_Satisfied (a0 : TTrust) (a1 : Int) : Option Bool := I_threshold_Satisfied (SizeOf.sizeOf a0 + SizeOf.sizeOf a1 + 1) (a0, a1, ())
noncomputable def k_threshold_Satisfied : KS U Tryz.prog := ⟨.fn 171 [.ty (Ty.st .Trust), .ty (Ty.i .i64)] (.one Ty.bool) fun a => F_threshold_Satisfied a.1 a.2.1, fnRS (K := K) («as» := [.ty (Ty.st .Trust), .ty (Ty.i .i64)]) (r := .one Ty.bool) (B := fun rec a => B_threshold_Satisfied rec a.1 a.2.1) sa_threshold_Satisfied 43 [.tmp 4] [k_nodeset_Valid, k_nodeset_Has] (fk Tryz.f171 [] Tryz.func171) (hF := fun a => ⟨_, rfl⟩)⟩

/-! ### trustquorum/closure.content -/
noncomputable def sa_closure_content : SA U := annA (scOf Tryz.prog 15 [] Tryz.f157) .e
noncomputable def F_closure_content (a0 : TConfig) (a1 : Int) (a2 : Int) : Option Bool :=
 Option.bind (idx a0.Members a1) fun x1 =>
 Option.bind (F_threshold_Satisfied (TTrust.mk x1.Trust.Threshold x1.Trust.Nodes x1.Trust.Inner) a2) fun r2 =>
 some r2
noncomputable def k_closure_content : KS U Tryz.prog := ⟨.fn 157 [.ty (Ty.st .Config), .ty (Ty.i .i64), .ty (Ty.i .i64)] (.one Ty.bool) fun a => F_closure_content a.1 a.2.1 a.2.2.1, fnS (K := K) sa_closure_content 15 [.tmp 6] [k_threshold_Satisfied] (fk Tryz.f157 [] Tryz.func157)⟩

/-! ### trustquorum/closure.unhappy -/
noncomputable def sa_closure_unhappy : SA U := annA (scOf Tryz.prog 22 [] Tryz.f142) (.r (.l (.r (.l (.j ⟨[.val 11 (Ty.i .i64)], [1, 2, 9, 10]⟩ .e)))))
noncomputable def F_closure_unhappy (a0 : TConfig) (a1 : Int) : Option (Int × Bool × Unit) :=
 Option.bind (F_nodeset_Nodes a1) fun r1 =>
 loopO (fun (v2 : Int × Unit) =>
 bif (decide (v2.1 < ((List.length r1 : Nat) : Int))) then
 Option.bind (idx r1 v2.1) fun x3 =>
 Option.bind (F_closure_content a0 x3 a1) fun r4 =>
 bif (!r4) then
 Option.map Sum.inr (some (x3, true, ()))
 else
 some (Sum.inl ((addI .i64 v2.1 (1 : Int)), ()))
 else
 Option.map Sum.inr (some ((0 : Int), false, ()))) ((0 : Int), ())
noncomputable def k_closure_unhappy : KS U Tryz.prog := ⟨.fn 142 [.ty (Ty.st .Config), .ty (Ty.i .i64)] (.many [(Ty.i .i64), Ty.bool]) fun a => F_closure_unhappy a.1 a.2.1, fnS (K := K) sa_closure_unhappy 22 [.tmp 4, .tmp 5] [k_nodeset_Nodes, k_closure_content] (fk Tryz.f142 [] Tryz.func142)⟩

/-! ### trustquorum/closure.eliminate -/
noncomputable def sa_closure_eliminate : SA U := annA (scOf Tryz.prog 34 [] Tryz.f126) (.r (.r (.r (.r (.l (.ps (.own 6 3 1 (Ty.i .i64)) (.j ⟨[.val 1 (Ty.i .i64), .own 6 12 1 3 1 (Ty.i .i64)], [2]⟩ .e)))))))
noncomputable def F_closure_eliminate (a0 : TConfig) (a1 : Int) : Option (Int × (List Int) × Unit) :=
 Option.bind (F_nodeset_Valid a1) fun r1 =>
 bif (!r1) then
 some ((0 : Int), ([] : List Int), ())
 else
 Option.bind (F_configuration_Declared a0) fun r2 =>
 loopO (fun (v3 : Int × (List Int) × Unit) =>
 Option.bind (F_closure_unhappy a0 v3.1) fun r4 =>
 bif (!r4.2.1) then
 Option.map Sum.inr (some (v3.1, v3.2.1, ()))
 else
 bif lenOk 8 (List.length v3.2.1 + List.length [r4.1]) then
 if r4.1 < 0 then none else
 some (Sum.inl ((andNotI .i64 v3.1 (shlI .i64 (1 : Int) r4.1)), (v3.2.1 ++ [r4.1]), ()))
 else none) ((andI .i64 a1 r2), ([] : List Int), ())
noncomputable def k_closure_eliminate : KS U Tryz.prog := ⟨.fn 126 [.ty (Ty.st .Config), .ty (Ty.i .i64)] (.many [(Ty.i .i64), (Ty.sl (Ty.i .i64))]) fun a => F_closure_eliminate a.1 a.2.1, fnS (K := K) sa_closure_eliminate 34 [.tmp 4, .tmp 5] [k_nodeset_Valid, k_configuration_Declared, k_closure_unhappy] (fk Tryz.f126 [] Tryz.func126)⟩

/-! ### trustquorum/closure.Greatest -/
noncomputable def sa_closure_Greatest : SA U := annA (scOf Tryz.prog 14 [] Tryz.f97) .e
noncomputable def F_closure_Greatest (a0 : TConfig) (a1 : Int) : Option Int :=
 Option.bind (F_closure_eliminate a0 a1) fun r1 =>
 some r1.1
noncomputable def k_closure_Greatest : KS U Tryz.prog := ⟨.fn 97 [.ty (Ty.st .Config), .ty (Ty.i .i64)] (.one (Ty.i .i64)) fun a => F_closure_Greatest a.1 a.2.1, fnS (K := K) sa_closure_Greatest 14 [.tmp 4] [k_closure_eliminate] (fk Tryz.f97 [] Tryz.func97)⟩

/-! ### trustquorum/monitor.needs$1 -/
noncomputable def sa_monitor_needs_1 : SA U := annA (scOf Tryz.prog 13 [] Tryz.f95) .e
noncomputable def F_monitor_needs_1 (a0 : Int) (a1 : TConfig) (a2 : Int) (a3 : Int) : Option Bool :=
 Option.bind (F_closure_Greatest a1 (orI .i64 a2 a0)) fun r1 =>
 Option.bind (F_nodeset_Has r1 a3) fun r2 =>
 some r2
noncomputable def k_monitor_needs_1 : KS U Tryz.prog := ⟨.fn 95 [.ty (Ty.i .i64), .ref (.ty (Ty.st .Config)), .ref (.ty (Ty.i .i64)), .ref (.ty (Ty.i .i64))] (.one Ty.bool) fun a => F_monitor_needs_1 a.1 a.2.1 a.2.2.1 a.2.2.2.1, fnS (K := K) sa_monitor_needs_1 13 [.tmp 5] [k_closure_Greatest, k_nodeset_Has] (fk Tryz.f95 [] Tryz.func95)⟩

/-! ### cmp.Less[int] -/
noncomputable def sa_cmp_Less_int : SA U := annA (scOf Tryz.prog 17 [] Tryz.f151) .e
noncomputable def F_cmp_Less_int (a0 : Int) (a1 : Int) : Option Bool :=
 Option.bind (F_cmp_isNaN_int a0) fun r1 =>
 Option.bind (bif r1 then
 Option.bind (F_cmp_isNaN_int a1) fun r2 =>
 some (!r2)
 else some false) fun b3 =>
 Option.bind (bif b3 then some true
 else
 some (decide (a0 < a1))) fun b4 =>
 some b4
noncomputable def k_cmp_Less_int : KS U Tryz.prog := ⟨.fn 151 [.ty (Ty.i .i64), .ty (Ty.i .i64)] (.one Ty.bool) fun a => F_cmp_Less_int a.1 a.2.1, fnS (K := K) sa_cmp_Less_int 17 [.tmp 4] [k_cmp_isNaN_int] (fk Tryz.f151 [] Tryz.func151)⟩

/-! ### slices.insertionSortOrdered[int] -/
noncomputable def sa_slices_insertionSortOrdered_int : SA U := annA (scOf Tryz.prog 49 [] Tryz.f145) (.r (.l (.j ⟨[.val 6 (Ty.i .i64), .own 0 0 0 3 1 (Ty.i .i64)], [1, 2]⟩ (.l (.r (.l (.l (.r (.l (.j ⟨[.val 7 (Ty.i .i64), .own 0 0 0 3 1 (Ty.i .i64)], [1, 2, 6]⟩ (.l (.l (.j ⟨[.val 30 Ty.bool], [0, 1, 2, 6, 7]⟩ .e)))))))))))))
noncomputable def F_slices_insertionSortOrdered_int (s : List Int) (a0 : Int) (a1 : Int) : Option ((Unit) × List Int) :=
 loopO (fun (v1 : Int × (List Int) × Unit) =>
 bif (decide (v1.1 < a1)) then
 loopO (fun (v2 : Int × (List Int) × Unit) =>
 letJ (fun (v3 : Bool × Unit) =>
 bif v3.1 then
 Option.bind (idx v2.2.1 (subI .i64 v2.1 (1 : Int))) fun x5 =>
 Option.bind (v2.2.1[(Int.toNat (subI .i64 v2.1 (1 : Int)))]?) fun x6 =>
 Option.bind (idx v2.2.1 v2.1) fun x7 =>
 Option.bind (v2.2.1[(Int.toNat v2.1)]?) fun x8 =>
 Option.bind (idx v2.2.1 v2.1) fun x9 =>
 Option.bind (v2.2.1[(Int.toNat v2.1)]?) fun x10 =>
 Option.bind (idx (v2.2.1.set (Int.toNat v2.1) x6) (subI .i64 v2.1 (1 : Int))) fun x11 =>
 Option.bind ((v2.2.1.set (Int.toNat v2.1) x6)[(Int.toNat (subI .i64 v2.1 (1 : Int)))]?) fun x12 =>
 some (Sum.inl ((subI .i64 v2.1 (1 : Int)), ((v2.2.1.set (Int.toNat v2.1) x6).set (Int.toNat (subI .i64 v2.1 (1 : Int))) x8), ()))
 else
 Option.map Sum.inr (some (Sum.inl ((addI .i64 v1.1 (1 : Int)), v2.2.1, ())))) fun j4 =>
 bif (decide (a0 < v2.1)) then
 Option.bind (idx v2.2.1 v2.1) fun x13 =>
 Option.bind (v2.2.1[(Int.toNat v2.1)]?) fun x14 =>
 Option.bind (idx v2.2.1 (subI .i64 v2.1 (1 : Int))) fun x15 =>
 Option.bind (v2.2.1[(Int.toNat (subI .i64 v2.1 (1 : Int)))]?) fun x16 =>
 Option.bind (F_cmp_Less_int x14 x16) fun r17 =>
 j4 (r17, ())
 else
 j4 (false, ())) (v1.1, v1.2.1, ())
 else
 Option.map Sum.inr (some ((()), v1.2.1))) ((addI .i64 a0 (1 : Int)), s, ())
noncomputable def k_slices_insertionSortOrdered_int : KS U Tryz.prog := ⟨.rw 145 3 1 (Ty.i .i64) [.ty (Ty.i .i64), .ty (Ty.i .i64)] (.many []) fun s a => F_slices_insertionSortOrdered_int s a.1 a.2.1, rwS (K := K) sa_slices_insertionSortOrdered_int 49 [] [k_cmp_Less_int] (fk Tryz.f145 [] Tryz.func145)⟩

/-! ### slices.siftDownOrdered[int] -/
noncomputable def sa_slices_siftDownOrdered_int : SA U := annA (scOf Tryz.prog 76 [] Tryz.f167) (.r (.l (.j ⟨[.val 8 (Ty.i .i64), .own 0 0 0 3 1 (Ty.i .i64)], [2, 3]⟩ (.l (.l (.r (.r (.j ⟨[.val 9 (Ty.i .i64)], [0, 2, 3, 8]⟩ (.l (.j ⟨[.val 36 Ty.bool], [0, 2, 3, 8, 9]⟩ .e))))))))))
noncomputable def F_slices_siftDownOrdered_int (s : List Int) (a0 : Int) (a1 : Int) (a2 : Int) : Option ((Unit) × List Int) :=
 loopO (fun (v1 : Int × (List Int) × Unit) =>
 bif (decide (a1 ≤ (addI .i64 (mulI .i64 (2 : Int) v1.1) (1 : Int)))) then
 Option.map Sum.inr (some ((()), v1.2.1))
 else
 letJ (fun (v2 : Int × Unit) =>
 Option.bind (idx v1.2.1 (addI .i64 a2 v1.1)) fun x4 =>
 Option.bind (v1.2.1[(Int.toNat (addI .i64 a2 v1.1))]?) fun x5 =>
 Option.bind (idx v1.2.1 (addI .i64 a2 v2.1)) fun x6 =>
 Option.bind (v1.2.1[(Int.toNat (addI .i64 a2 v2.1))]?) fun x7 =>
 Option.bind (F_cmp_Less_int x5 x7) fun r8 =>
 bif (!r8) then
 Option.map Sum.inr (some ((()), v1.2.1))
 else
 Option.bind (idx v1.2.1 (addI .i64 a2 v2.1)) fun x9 =>
 Option.bind (v1.2.1[(Int.toNat (addI .i64 a2 v2.1))]?) fun x10 =>
 Option.bind (idx v1.2.1 (addI .i64 a2 v1.1)) fun x11 =>
 Option.bind (v1.2.1[(Int.toNat (addI .i64 a2 v1.1))]?) fun x12 =>
 Option.bind (idx v1.2.1 (addI .i64 a2 v1.1)) fun x13 =>
 Option.bind (v1.2.1[(Int.toNat (addI .i64 a2 v1.1))]?) fun x14 =>
 Option.bind (idx (v1.2.1.set (Int.toNat (addI .i64 a2 v1.1)) x10) (addI .i64 a2 v2.1)) fun x15 =>
 Option.bind ((v1.2.1.set (Int.toNat (addI .i64 a2 v1.1)) x10)[(Int.toNat (addI .i64 a2 v2.1))]?) fun x16 =>
 some (Sum.inl (v2.1, ((v1.2.1.set (Int.toNat (addI .i64 a2 v1.1)) x10).set (Int.toNat (addI .i64 a2 v2.1)) x12), ()))) fun j3 =>
 letJ (fun (v17 : Bool × Unit) =>
 bif v17.1 then
 j3 ((addI .i64 (addI .i64 (mulI .i64 (2 : Int) v1.1) (1 : Int)) (1 : Int)), ())
 else
 j3 ((addI .i64 (mulI .i64 (2 : Int) v1.1) (1 : Int)), ())) fun j18 =>
 bif (decide ((addI .i64 (addI .i64 (mulI .i64 (2 : Int) v1.1) (1 : Int)) (1 : Int)) < a1)) then
 Option.bind (idx v1.2.1 (addI .i64 a2 (addI .i64 (mulI .i64 (2 : Int) v1.1) (1 : Int)))) fun x19 =>
 Option.bind (v1.2.1[(Int.toNat (addI .i64 a2 (addI .i64 (mulI .i64 (2 : Int) v1.1) (1 : Int))))]?) fun x20 =>
 Option.bind (idx v1.2.1 (addI .i64 (addI .i64 a2 (addI .i64 (mulI .i64 (2 : Int) v1.1) (1 : Int))) (1 : Int))) fun x21 =>
 Option.bind (v1.2.1[(Int.toNat (addI .i64 (addI .i64 a2 (addI .i64 (mulI .i64 (2 : Int) v1.1) (1 : Int))) (1 : Int)))]?) fun x22 =>
 Option.bind (F_cmp_Less_int x20 x22) fun r23 =>
 j18 (r23, ())
 else
 j18 (false, ())) (a0, s, ())
noncomputable def k_slices_siftDownOrdered_int : KS U Tryz.prog := ⟨.rw 167 3 1 (Ty.i .i64) [.ty (Ty.i .i64), .ty (Ty.i .i64), .ty (Ty.i .i64)] (.many []) fun s a => F_slices_siftDownOrdered_int s a.1 a.2.1 a.2.2.1, rwS (K := K) sa_slices_siftDownOrdered_int 76 [] [k_cmp_Less_int] (fk Tryz.f167 [] Tryz.func167)⟩

/-! ### slices.heapSortOrdered[int] -/
noncomputable def sa_slices_heapSortOrdered_int : SA U := annA (scOf Tryz.prog 56 [] Tryz.f146) (.r (.r (.r (.b (.r (.l (.j ⟨[.val 9 (Ty.i .i64), .own 0 0 0 3 1 (Ty.i .i64)], [6, 7, 8]⟩ .e))) (.r (.l (.j ⟨[.val 10 (Ty.i .i64), .own 0 0 0 3 1 (Ty.i .i64)], [6, 7]⟩ .e)))))))
noncomputable def F_slices_heapSortOrdered_int (s : List Int) (a0 : Int) (a1 : Int) : Option ((Unit) × List Int) :=
 loopO (fun (v1 : Int × (List Int) × Unit) =>
 bif (decide ((0 : Int) ≤ v1.1)) then
 Option.bind (F_slices_siftDownOrdered_int v1.2.1 v1.1 (subI .i64 a1 a0) a0) fun p2 =>
 some (Sum.inl ((subI .i64 v1.1 (1 : Int)), p2.2, ()))
 else
 Option.map Sum.inr (loopO (fun (v3 : Int × (List Int) × Unit) =>
 bif (decide ((0 : Int) ≤ v3.1)) then
 Option.bind (idx v3.2.1 (addI .i64 a0 v3.1)) fun x4 =>
 Option.bind (v3.2.1[(Int.toNat (addI .i64 a0 v3.1))]?) fun x5 =>
 Option.bind (idx v3.2.1 a0) fun x6 =>
 Option.bind (v3.2.1[(Int.toNat a0)]?) fun x7 =>
 Option.bind (idx v3.2.1 a0) fun x8 =>
 Option.bind (v3.2.1[(Int.toNat a0)]?) fun x9 =>
 Option.bind (idx (v3.2.1.set (Int.toNat a0) x5) (addI .i64 a0 v3.1)) fun x10 =>
 Option.bind ((v3.2.1.set (Int.toNat a0) x5)[(Int.toNat (addI .i64 a0 v3.1))]?) fun x11 =>
 Option.bind (F_slices_siftDownOrdered_int ((v3.2.1.set (Int.toNat a0) x5).set (Int.toNat (addI .i64 a0 v3.1)) x7) (0 : Int) v3.1 a0) fun p12 =>
 some (Sum.inl ((subI .i64 v3.1 (1 : Int)), p12.2, ()))
 else
 Option.map Sum.inr (some ((()), v3.2.1))) ((subI .i64 (subI .i64 a1 a0) (1 : Int)), v1.2.1, ()))) ((quoI .i64 (subI .i64 (subI .i64 a1 a0) (1 : Int)) (2 : Int)), s, ())
noncomputable def k_slices_heapSortOrdered_int : KS U Tryz.prog := ⟨.rw 146 3 1 (Ty.i .i64) [.ty (Ty.i .i64), .ty (Ty.i .i64)] (.many []) fun s a => F_slices_heapSortOrdered_int s a.1 a.2.1, rwS (K := K) sa_slices_heapSortOrdered_int 56 [] [k_slices_siftDownOrdered_int] (fk Tryz.f146 [] Tryz.func146)⟩

/-! ### slices.breakPatternsOrdered[int] -/
noncomputable def sa_slices_breakPatternsOrdered_int : SA U := annA (scOf Tryz.prog 65 [] Tryz.f147) (.r (.r (.l (.r (.r (.r (.l (.j ⟨[.val 9 (Ty.i .i64), .own 0 0 0 3 1 (Ty.i .i64), .box 9 1 (Ty.i .u64) []], [1, 6, 7, 8]⟩ (.l (.r (.l (.l (.r (.j ⟨[.val 10 (Ty.i .i64)], [0, 1, 6, 7, 8, 9]⟩ .e))))))))))))))
noncomputable def F_slices_breakPatternsOrdered_int (s : List Int) (a0 : Int) (a1 : Int) : Option ((Unit) × List Int) :=
 bif (decide ((8 : Int) ≤ (subI .i64 a1 a0))) then
 Option.bind (F_slices_nextPowerOfTwo (subI .i64 a1 a0)) fun r1 =>
 loopO (fun (v2 : Int × (List Int) × Int × Unit) =>
 bif (decide (v2.1 ≤ (addI .i64 (addI .i64 a0 (mulI .i64 (quoI .i64 (subI .i64 a1 a0) (4 : Int)) (2 : Int))) (1 : Int)))) then
 Option.bind (F_slices_xorshift_Next v2.2.2.1) fun p3 =>
 letJ (fun (v4 : Int × Unit) =>
 Option.bind (idx v2.2.1 (addI .i64 a0 v4.1)) fun x6 =>
 Option.bind (v2.2.1[(Int.toNat (addI .i64 a0 v4.1))]?) fun x7 =>
 Option.bind (idx v2.2.1 v2.1) fun x8 =>
 Option.bind (v2.2.1[(Int.toNat v2.1)]?) fun x9 =>
 Option.bind (idx v2.2.1 v2.1) fun x10 =>
 Option.bind (v2.2.1[(Int.toNat v2.1)]?) fun x11 =>
 Option.bind (idx (v2.2.1.set (Int.toNat v2.1) x7) (addI .i64 a0 v4.1)) fun x12 =>
 Option.bind ((v2.2.1.set (Int.toNat v2.1) x7)[(Int.toNat (addI .i64 a0 v4.1))]?) fun x13 =>
 some (Sum.inl ((addI .i64 v2.1 (1 : Int)), ((v2.2.1.set (Int.toNat v2.1) x7).set (Int.toNat (addI .i64 a0 v4.1)) x9), p3.2, ()))) fun j5 =>
 bif (decide ((subI .i64 a1 a0) ≤ (convI .i64 (andI .u64 p3.1 (subI .u64 r1 (1 : Int)))))) then
 j5 ((subI .i64 (convI .i64 (andI .u64 p3.1 (subI .u64 r1 (1 : Int)))) (subI .i64 a1 a0)), ())
 else
 j5 ((convI .i64 (andI .u64 p3.1 (subI .u64 r1 (1 : Int)))), ())
 else
 Option.map Sum.inr (some ((()), v2.2.1))) ((subI .i64 (addI .i64 a0 (mulI .i64 (quoI .i64 (subI .i64 a1 a0) (4 : Int)) (2 : Int))) (1 : Int)), s, (convI .u64 (subI .i64 a1 a0)), ())
 else
 some ((()), s)
noncomputable def k_slices_breakPatternsOrdered_int : KS U Tryz.prog := ⟨.rw 147 3 1 (Ty.i .i64) [.ty (Ty.i .i64), .ty (Ty.i .i64)] (.many []) fun s a => F_slices_breakPatternsOrdered_int s a.1 a.2.1, rwS (K := K) sa_slices_breakPatternsOrdered_int 65 [] [k_slices_nextPowerOfTwo, k_slices_xorshift_Next] (fk Tryz.f147 [] Tryz.func147)⟩

/-! ### slices.order2Ordered[int] -/
noncomputable def sa_slices_order2Ordered_int : SA U := annA (scOf Tryz.prog 28 [] Tryz.f176) .e
noncomputable def F_slices_order2Ordered_int (s : Int) (a0 : (List Int)) (a1 : Int) (a2 : Int) : Option ((Int × Int × Unit) × Int) :=
 Option.bind (idx a0 a2) fun x1 =>
 Option.bind (idx a0 a1) fun x2 =>
 Option.bind (F_cmp_Less_int x1 x2) fun r3 =>
 bif r3 then
 some ((a2, a1, ()), (addI .i64 s (1 : Int)))
 else
 some ((a1, a2, ()), s)
noncomputable def k_slices_order2Ordered_int : KS U Tryz.prog := ⟨.rc 176 3 (Ty.i .i64) [.ty (Ty.sl (Ty.i .i64)), .ty (Ty.i .i64), .ty (Ty.i .i64)] (.many [(Ty.i .i64), (Ty.i .i64)]) fun s a => F_slices_order2Ordered_int s a.1 a.2.1 a.2.2.1, rcS (K := K) sa_slices_order2Ordered_int 28 [.tmp 8, .tmp 9] [k_cmp_Less_int] (fk Tryz.f176 [] Tryz.func176)⟩

/-! ### slices.medianOrdered[int] -/
noncomputable def sa_slices_medianOrdered_int : SA U := annA (scOf Tryz.prog 36 [] Tryz.f169) .e
noncomputable def F_slices_medianOrdered_int (s : Int) (a0 : (List Int)) (a1 : Int) (a2 : Int) (a3 : Int) : Option (Int × Int) :=
 Option.bind (F_slices_order2Ordered_int s a0 a1 a2) fun p1 =>
 Option.bind (F_slices_order2Ordered_int p1.2 a0 p1.1.2.1 a3) fun p2 =>
 Option.bind (F_slices_order2Ordered_int p2.2 a0 p1.1.1 p2.1.1) fun p3 =>
 some (p3.1.2.1, p3.2)
noncomputable def k_slices_medianOrdered_int : KS U Tryz.prog := ⟨.rc 169 4 (Ty.i .i64) [.ty (Ty.sl (Ty.i .i64)), .ty (Ty.i .i64), .ty (Ty.i .i64), .ty (Ty.i .i64)] (.one (Ty.i .i64)) fun s a => F_slices_medianOrdered_int s a.1 a.2.1 a.2.2.1 a.2.2.2.1, rcS (K := K) sa_slices_medianOrdered_int 36 [.tmp 10] [k_slices_order2Ordered_int] (fk Tryz.f169 [] Tryz.func169)⟩

/-! ### slices.medianAdjacentOrdered[int] -/
noncomputable def sa_slices_medianAdjacentOrdered_int : SA U := annA (scOf Tryz.prog 15 [] Tryz.f168) .e
noncomputable def F_slices_medianAdjacentOrdered_int (s : Int) (a0 : (List Int)) (a1 : Int) : Option (Int × Int) :=
 Option.bind (F_slices_medianOrdered_int s a0 (subI .i64 a1 (1 : Int)) a1 (addI .i64 a1 (1 : Int))) fun p1 =>
 some (p1.1, p1.2)
noncomputable def k_slices_medianAdjacentOrdered_int : KS U Tryz.prog := ⟨.rc 168 2 (Ty.i .i64) [.ty (Ty.sl (Ty.i .i64)), .ty (Ty.i .i64)] (.one (Ty.i .i64)) fun s a => F_slices_medianAdjacentOrdered_int s a.1 a.2.1, rcS (K := K) sa_slices_medianAdjacentOrdered_int 15 [.tmp 6] [k_slices_medianOrdered_int] (fk Tryz.f168 [] Tryz.func168)⟩

/-! ### slices.choosePivotOrdered[int] -/
noncomputable def sa_slices_choosePivotOrdered_int : SA U := annA (scOf Tryz.prog 57 [] Tryz.f148) (.r (.r (.r (.r (.r (.r (.j ⟨[.val 11 (Ty.i .i64), .box 6 1 (Ty.i .i64) []], [9]⟩ (.l (.r (.l (.j ⟨[.val 10 (Ty.i .i64), .val 11 (Ty.i .i64), .val 12 (Ty.i .i64), .box 6 1 (Ty.i .i64) []], [0, 9]⟩ .e)))))))))))
noncomputable def F_slices_choosePivotOrdered_int (a0 : (List Int)) (a1 : Int) (a2 : Int) : Option (Int × Int × Unit) :=
 letJ (fun (v1 : Int × Int × Unit) =>
 bif (decide (v1.2.1 = (0 : Int))) then
 some (v1.1, (1 : Int), ())
 else
 bif (decide (v1.2.1 = (12 : Int))) then
 some (v1.1, (2 : Int), ())
 else
 some (v1.1, (0 : Int), ())) fun j2 =>
 bif (decide ((8 : Int) ≤ (subI .i64 a2 a1))) then
 letJ (fun (v3 : Int × Int × Int × Int × Unit) =>
 Option.bind (F_slices_medianOrdered_int v3.2.2.2.1 a0 v3.1 v3.2.1 v3.2.2.1) fun p5 =>
 j2 (p5.1, p5.2, ())) fun j4 =>
 bif (decide ((50 : Int) ≤ (subI .i64 a2 a1))) then
 Option.bind (F_slices_medianAdjacentOrdered_int (0 : Int) a0 (addI .i64 a1 (mulI .i64 (quoI .i64 (subI .i64 a2 a1) (4 : Int)) (1 : Int)))) fun p6 =>
 Option.bind (F_slices_medianAdjacentOrdered_int p6.2 a0 (addI .i64 a1 (mulI .i64 (quoI .i64 (subI .i64 a2 a1) (4 : Int)) (2 : Int)))) fun p7 =>
 Option.bind (F_slices_medianAdjacentOrdered_int p7.2 a0 (addI .i64 a1 (mulI .i64 (quoI .i64 (subI .i64 a2 a1) (4 : Int)) (3 : Int)))) fun p8 =>
 j4 (p6.1, p7.1, p8.1, p8.2, ())
 else
 j4 ((addI .i64 a1 (mulI .i64 (quoI .i64 (subI .i64 a2 a1) (4 : Int)) (1 : Int))), (addI .i64 a1 (mulI .i64 (quoI .i64 (subI .i64 a2 a1) (4 : Int)) (2 : Int))), (addI .i64 a1 (mulI .i64 (quoI .i64 (subI .i64 a2 a1) (4 : Int)) (3 : Int))), (0 : Int), ())
 else
 j2 ((addI .i64 a1 (mulI .i64 (quoI .i64 (subI .i64 a2 a1) (4 : Int)) (2 : Int))), (0 : Int), ())
noncomputable def k_slices_choosePivotOrdered_int : KS U Tryz.prog := ⟨.fn 148 [.ty (Ty.sl (Ty.i .i64)), .ty (Ty.i .i64), .ty (Ty.i .i64)] (.many [(Ty.i .i64), (Ty.i .i64)]) fun a => F_slices_choosePivotOrdered_int a.1 a.2.1 a.2.2.1, fnS (K := K) sa_slices_choosePivotOrdered_int 57 [.tmp 6, .tmp 7] [k_slices_medianAdjacentOrdered_int, k_slices_medianOrdered_int] (fk Tryz.f148 [] Tryz.func148)⟩

/-! ### slices.reverseRangeOrdered[int] -/
noncomputable def sa_slices_reverseRangeOrdered_int : SA U := annA (scOf Tryz.prog 32 [] Tryz.f149) (.r (.r (.l (.j ⟨[.val 6 (Ty.i .i64), .val 7 (Ty.i .i64), .own 0 0 0 3 1 (Ty.i .i64)], []⟩ .e))))
noncomputable def F_slices_reverseRangeOrdered_int (s : List Int) (a0 : Int) (a1 : Int) : Option ((Unit) × List Int) :=
 loopO (fun (v1 : Int × Int × (List Int) × Unit) =>
 bif (decide (v1.1 < v1.2.1)) then
 Option.bind (idx v1.2.2.1 v1.2.1) fun x2 =>
 Option.bind (v1.2.2.1[(Int.toNat v1.2.1)]?) fun x3 =>
 Option.bind (idx v1.2.2.1 v1.1) fun x4 =>
 Option.bind (v1.2.2.1[(Int.toNat v1.1)]?) fun x5 =>
 Option.bind (idx v1.2.2.1 v1.1) fun x6 =>
 Option.bind (v1.2.2.1[(Int.toNat v1.1)]?) fun x7 =>
 Option.bind (idx (v1.2.2.1.set (Int.toNat v1.1) x3) v1.2.1) fun x8 =>
 Option.bind ((v1.2.2.1.set (Int.toNat v1.1) x3)[(Int.toNat v1.2.1)]?) fun x9 =>
 some (Sum.inl ((addI .i64 v1.1 (1 : Int)), (subI .i64 v1.2.1 (1 : Int)), ((v1.2.2.1.set (Int.toNat v1.1) x3).set (Int.toNat v1.2.1) x5), ()))
 else
 Option.map Sum.inr (some ((()), v1.2.2.1))) (a0, (subI .i64 a1 (1 : Int)), s, ())
noncomputable def k_slices_reverseRangeOrdered_int : KS U Tryz.prog := ⟨.rw 149 3 1 (Ty.i .i64) [.ty (Ty.i .i64), .ty (Ty.i .i64)] (.many []) fun s a => F_slices_reverseRangeOrdered_int s a.1 a.2.1, rwS (K := K) sa_slices_reverseRangeOrdered_int 32 [] [] (fk Tryz.f149 [] Tryz.func149)⟩

/-! ### slices.partialInsertionSortOrdered[int] -/
noncomputable def sa_slices_partialInsertionSortOrdered_int : SA U := annA (scOf Tryz.prog 133 [] Tryz.f150) (.r (.r (.l (.r (.l (.j ⟨[.val 7 (Ty.i .i64), .val 8 (Ty.i .i64), .own 0 0 0 3 1 (Ty.i .i64)], [1, 2]⟩ (.l (.r (.j ⟨[.val 7 (Ty.i .i64), .own 0 0 0 3 1 (Ty.i .i64)], [1, 2, 8]⟩ (.l (.l (.b (.l (.j ⟨[.val 7 (Ty.i .i64)], [0, 1, 2, 8]⟩ (.l (.l (.j ⟨[.val 32 Ty.bool], [0, 1, 2, 7, 8]⟩ .e))))) (.r (.r (.r (.j ⟨[.own 0 0 0 3 1 (Ty.i .i64)], [1, 2, 7, 8]⟩ (.b (.r (.l (.r (.l (.j ⟨[.val 9 (Ty.i .i64), .own 0 0 0 3 1 (Ty.i .i64)], [1, 2, 7, 8]⟩ .e))))) (.r (.l (.r (.l (.j ⟨[.val 10 (Ty.i .i64), .own 0 0 0 3 1 (Ty.i .i64)], [1, 2, 7, 8]⟩ .e))))))))))))))))))))))
noncomputable def F_slices_partialInsertionSortOrdered_int (s : List Int) (a0 : Int) (a1 : Int) : Option (Bool × List Int) :=
 loopO (fun (v1 : Int × Int × (List Int) × Unit) =>
 bif (decide (v1.2.1 < (5 : Int))) then
 letJ (fun (v2 : Int × (List Int) × Unit) =>
 some (Sum.inl (v2.1, (addI .i64 v1.2.1 (1 : Int)), v2.2.1, ()))) fun j3 =>
 loopO (fun (v4 : Int × Unit) =>
 letJ (fun (v5 : Bool × Unit) =>
 bif v5.1 then
 some (Sum.inl ((addI .i64 v4.1 (1 : Int)), ()))
 else
 Option.map Sum.inr (bif (decide (v4.1 = a1)) then
 Option.map Sum.inr (some (true, v1.2.2.1))
 else
 bif (decide ((subI .i64 a1 a0) < (50 : Int))) then
 Option.map Sum.inr (some (false, v1.2.2.1))
 else
 Option.bind (idx v1.2.2.1 (subI .i64 v4.1 (1 : Int))) fun x7 =>
 Option.bind (v1.2.2.1[(Int.toNat (subI .i64 v4.1 (1 : Int)))]?) fun x8 =>
 Option.bind (idx v1.2.2.1 v4.1) fun x9 =>
 Option.bind (v1.2.2.1[(Int.toNat v4.1)]?) fun x10 =>
 Option.bind (idx v1.2.2.1 v4.1) fun x11 =>
 Option.bind (v1.2.2.1[(Int.toNat v4.1)]?) fun x12 =>
 Option.bind (idx (v1.2.2.1.set (Int.toNat v4.1) x8) (subI .i64 v4.1 (1 : Int))) fun x13 =>
 Option.bind ((v1.2.2.1.set (Int.toNat v4.1) x8)[(Int.toNat (subI .i64 v4.1 (1 : Int)))]?) fun x14 =>
 letJ (fun (v15 : (List Int) × Unit) =>
 bif (decide ((2 : Int) ≤ (subI .i64 a1 v4.1))) then
 loopO (fun (v17 : Int × (List Int) × Unit) =>
 bif (decide (v17.1 < a1)) then
 Option.bind (idx v17.2.1 v17.1) fun x18 =>
 Option.bind (v17.2.1[(Int.toNat v17.1)]?) fun x19 =>
 Option.bind (idx v17.2.1 (subI .i64 v17.1 (1 : Int))) fun x20 =>
 Option.bind (v17.2.1[(Int.toNat (subI .i64 v17.1 (1 : Int)))]?) fun x21 =>
 Option.bind (F_cmp_Less_int x19 x21) fun r22 =>
 bif (!r22) then
 Option.map Sum.inr (j3 (v4.1, v17.2.1, ()))
 else
 Option.bind (idx v17.2.1 (subI .i64 v17.1 (1 : Int))) fun x23 =>
 Option.bind (v17.2.1[(Int.toNat (subI .i64 v17.1 (1 : Int)))]?) fun x24 =>
 Option.bind (idx v17.2.1 v17.1) fun x25 =>
 Option.bind (v17.2.1[(Int.toNat v17.1)]?) fun x26 =>
 Option.bind (idx v17.2.1 v17.1) fun x27 =>
 Option.bind (v17.2.1[(Int.toNat v17.1)]?) fun x28 =>
 Option.bind (idx (v17.2.1.set (Int.toNat v17.1) x24) (subI .i64 v17.1 (1 : Int))) fun x29 =>
 Option.bind ((v17.2.1.set (Int.toNat v17.1) x24)[(Int.toNat (subI .i64 v17.1 (1 : Int)))]?) fun x30 =>
 some (Sum.inl ((addI .i64 v17.1 (1 : Int)), ((v17.2.1.set (Int.toNat v17.1) x24).set (Int.toNat (subI .i64 v17.1 (1 : Int))) x26), ()))
 else
 Option.map Sum.inr (j3 (v4.1, v17.2.1, ()))) ((addI .i64 v4.1 (1 : Int)), v15.1, ())
 else
 j3 (v4.1, v15.1, ())) fun j16 =>
 bif (decide ((2 : Int) ≤ (subI .i64 v4.1 a0))) then
 loopO (fun (v31 : Int × (List Int) × Unit) =>
 bif (decide ((1 : Int) ≤ v31.1)) then
 Option.bind (idx v31.2.1 v31.1) fun x32 =>
 Option.bind (v31.2.1[(Int.toNat v31.1)]?) fun x33 =>
 Option.bind (idx v31.2.1 (subI .i64 v31.1 (1 : Int))) fun x34 =>
 Option.bind (v31.2.1[(Int.toNat (subI .i64 v31.1 (1 : Int)))]?) fun x35 =>
 Option.bind (F_cmp_Less_int x33 x35) fun r36 =>
 bif (!r36) then
 Option.map Sum.inr (j16 (v31.2.1, ()))
 else
 Option.bind (idx v31.2.1 (subI .i64 v31.1 (1 : Int))) fun x37 =>
 Option.bind (v31.2.1[(Int.toNat (subI .i64 v31.1 (1 : Int)))]?) fun x38 =>
 Option.bind (idx v31.2.1 v31.1) fun x39 =>
 Option.bind (v31.2.1[(Int.toNat v31.1)]?) fun x40 =>
 Option.bind (idx v31.2.1 v31.1) fun x41 =>
 Option.bind (v31.2.1[(Int.toNat v31.1)]?) fun x42 =>
 Option.bind (idx (v31.2.1.set (Int.toNat v31.1) x38) (subI .i64 v31.1 (1 : Int))) fun x43 =>
 Option.bind ((v31.2.1.set (Int.toNat v31.1) x38)[(Int.toNat (subI .i64 v31.1 (1 : Int)))]?) fun x44 =>
 some (Sum.inl ((subI .i64 v31.1 (1 : Int)), ((v31.2.1.set (Int.toNat v31.1) x38).set (Int.toNat (subI .i64 v31.1 (1 : Int))) x40), ()))
 else
 Option.map Sum.inr (j16 (v31.2.1, ()))) ((subI .i64 v4.1 (1 : Int)), ((v1.2.2.1.set (Int.toNat v4.1) x8).set (Int.toNat (subI .i64 v4.1 (1 : Int))) x10), ())
 else
 j16 (((v1.2.2.1.set (Int.toNat v4.1) x8).set (Int.toNat (subI .i64 v4.1 (1 : Int))) x10), ()))) fun j6 =>
 bif (decide (v4.1 < a1)) then
 Option.bind (idx v1.2.2.1 v4.1) fun x45 =>
 Option.bind (v1.2.2.1[(Int.toNat v4.1)]?) fun x46 =>
 Option.bind (idx v1.2.2.1 (subI .i64 v4.1 (1 : Int))) fun x47 =>
 Option.bind (v1.2.2.1[(Int.toNat (subI .i64 v4.1 (1 : Int)))]?) fun x48 =>
 Option.bind (F_cmp_Less_int x46 x48) fun r49 =>
 j6 ((!r49), ())
 else
 j6 (false, ())) (v1.1, ())
 else
 Option.map Sum.inr (some (false, v1.2.2.1))) ((addI .i64 a0 (1 : Int)), (0 : Int), s, ())
noncomputable def k_slices_partialInsertionSortOrdered_int : KS U Tryz.prog := ⟨.rw 150 3 1 (Ty.i .i64) [.ty (Ty.i .i64), .ty (Ty.i .i64)] (.one Ty.bool) fun s a => F_slices_partialInsertionSortOrdered_int s a.1 a.2.1, rwS (K := K) sa_slices_partialInsertionSortOrdered_int 133 [.tmp 6] [k_cmp_Less_int] (fk Tryz.f150 [] Tryz.func150)⟩

/-! ### slices.partitionEqualOrdered[int] -/
noncomputable def sa_slices_partitionEqualOrdered_int : SA U := annA (scOf Tryz.prog 84 [] Tryz.f152) (.r (.r (.r (.l (.l (.j ⟨[.val 9 (Ty.i .i64), .val 10 (Ty.i .i64), .own 0 0 0 3 1 (Ty.i .i64)], [1]⟩ (.l (.l (.b (.l (.j ⟨[.val 9 (Ty.i .i64)], [0, 1, 10]⟩ (.l (.l (.j ⟨[.val 43 Ty.bool], [0, 1, 9, 10]⟩ .e))))) (.l (.l (.j ⟨[.val 10 (Ty.i .i64)], [0, 1, 9]⟩ (.l (.l (.j ⟨[.val 59 Ty.bool], [0, 1, 9, 10]⟩ .e)))))))))))))))
noncomputable def F_slices_partitionEqualOrdered_int (s : List Int) (a0 : Int) (a1 : Int) (a2 : Int) : Option (Int × List Int) :=
 Option.bind (idx s a2) fun x1 =>
 Option.bind (s[(Int.toNat a2)]?) fun x2 =>
 Option.bind (idx s a0) fun x3 =>
 Option.bind (s[(Int.toNat a0)]?) fun x4 =>
 Option.bind (idx s a0) fun x5 =>
 Option.bind (s[(Int.toNat a0)]?) fun x6 =>
 Option.bind (idx (s.set (Int.toNat a0) x2) a2) fun x7 =>
 Option.bind ((s.set (Int.toNat a0) x2)[(Int.toNat a2)]?) fun x8 =>
 loopO (fun (v9 : Int × Int × (List Int) × Unit) =>
 loopO (fun (v10 : Int × Unit) =>
 letJ (fun (v11 : Bool × Unit) =>
 bif v11.1 then
 some (Sum.inl ((addI .i64 v10.1 (1 : Int)), ()))
 else
 Option.map Sum.inr (loopO (fun (v13 : Int × Unit) =>
 letJ (fun (v14 : Bool × Unit) =>
 bif v14.1 then
 some (Sum.inl ((subI .i64 v13.1 (1 : Int)), ()))
 else
 Option.map Sum.inr (bif (decide (v13.1 < v10.1)) then
 Option.map Sum.inr (some (v10.1, v9.2.2.1))
 else
 Option.bind (idx v9.2.2.1 v13.1) fun x16 =>
 Option.bind (v9.2.2.1[(Int.toNat v13.1)]?) fun x17 =>
 Option.bind (idx v9.2.2.1 v10.1) fun x18 =>
 Option.bind (v9.2.2.1[(Int.toNat v10.1)]?) fun x19 =>
 Option.bind (idx v9.2.2.1 v10.1) fun x20 =>
 Option.bind (v9.2.2.1[(Int.toNat v10.1)]?) fun x21 =>
 Option.bind (idx (v9.2.2.1.set (Int.toNat v10.1) x17) v13.1) fun x22 =>
 Option.bind ((v9.2.2.1.set (Int.toNat v10.1) x17)[(Int.toNat v13.1)]?) fun x23 =>
 some (Sum.inl ((addI .i64 v10.1 (1 : Int)), (subI .i64 v13.1 (1 : Int)), ((v9.2.2.1.set (Int.toNat v10.1) x17).set (Int.toNat v13.1) x19), ())))) fun j15 =>
 bif (decide (v10.1 ≤ v13.1)) then
 Option.bind (idx v9.2.2.1 a0) fun x24 =>
 Option.bind (v9.2.2.1[(Int.toNat a0)]?) fun x25 =>
 Option.bind (idx v9.2.2.1 v13.1) fun x26 =>
 Option.bind (v9.2.2.1[(Int.toNat v13.1)]?) fun x27 =>
 Option.bind (F_cmp_Less_int x25 x27) fun r28 =>
 j15 (r28, ())
 else
 j15 (false, ())) (v9.2.1, ()))) fun j12 =>
 bif (decide (v10.1 ≤ v9.2.1)) then
 Option.bind (idx v9.2.2.1 a0) fun x29 =>
 Option.bind (v9.2.2.1[(Int.toNat a0)]?) fun x30 =>
 Option.bind (idx v9.2.2.1 v10.1) fun x31 =>
 Option.bind (v9.2.2.1[(Int.toNat v10.1)]?) fun x32 =>
 Option.bind (F_cmp_Less_int x30 x32) fun r33 =>
 j12 ((!r33), ())
 else
 j12 (false, ())) (v9.1, ())) ((addI .i64 a0 (1 : Int)), (subI .i64 a1 (1 : Int)), ((s.set (Int.toNat a0) x2).set (Int.toNat a2) x4), ())
noncomputable def k_slices_partitionEqualOrdered_int : KS U Tryz.prog := ⟨.rw 152 3 1 (Ty.i .i64) [.ty (Ty.i .i64), .ty (Ty.i .i64), .ty (Ty.i .i64)] (.one (Ty.i .i64)) fun s a => F_slices_partitionEqualOrdered_int s a.1 a.2.1 a.2.2.1, rwS (K := K) sa_slices_partitionEqualOrdered_int 84 [.tmp 8] [k_cmp_Less_int] (fk Tryz.f152 [] Tryz.func152)⟩

/-! ### slices.partitionOrdered[int] -/
noncomputable def sa_slices_partitionOrdered_int : SA U := annA (scOf Tryz.prog 168 [] Tryz.f153) (.r (.r (.r (.b (.l (.j ⟨[.val 10 (Ty.i .i64)], [0, 1, 11]⟩ (.l (.l (.j ⟨[.val 43 Ty.bool], [0, 1, 10, 11]⟩ .e))))) (.b (.l (.j ⟨[.val 11 (Ty.i .i64)], [0, 1, 10]⟩ (.l (.l (.j ⟨[.val 60 Ty.bool], [0, 1, 10, 11]⟩ .e))))) (.r (.r (.r (.r (.l (.l (.j ⟨[.val 10 (Ty.i .i64), .val 11 (Ty.i .i64), .own 0 0 0 3 1 (Ty.i .i64)], [1]⟩ (.l (.l (.b (.l (.j ⟨[.val 10 (Ty.i .i64)], [0, 1, 11]⟩ (.l (.l (.j ⟨[.val 112 Ty.bool], [0, 1, 10, 11]⟩ .e))))) (.l (.l (.j ⟨[.val 11 (Ty.i .i64)], [0, 1, 10]⟩ (.l (.l (.j ⟨[.val 129 Ty.bool], [0, 1, 10, 11]⟩ .e)))))))))))))))))))))
noncomputable def F_slices_partitionOrdered_int (s : List Int) (a0 : Int) (a1 : Int) (a2 : Int) : Option ((Int × Bool × Unit) × List Int) :=
 Option.bind (idx s a2) fun x1 =>
 Option.bind (s[(Int.toNat a2)]?) fun x2 =>
 Option.bind (idx s a0) fun x3 =>
 Option.bind (s[(Int.toNat a0)]?) fun x4 =>
 Option.bind (idx s a0) fun x5 =>
 Option.bind (s[(Int.toNat a0)]?) fun x6 =>
 Option.bind (idx (s.set (Int.toNat a0) x2) a2) fun x7 =>
 Option.bind ((s.set (Int.toNat a0) x2)[(Int.toNat a2)]?) fun x8 =>
 loopO (fun (v9 : Int × Unit) =>
 letJ (fun (v10 : Bool × Unit) =>
 bif v10.1 then
 some (Sum.inl ((addI .i64 v9.1 (1 : Int)), ()))
 else
 Option.map Sum.inr (loopO (fun (v12 : Int × Unit) =>
 letJ (fun (v13 : Bool × Unit) =>
 bif v13.1 then
 some (Sum.inl ((subI .i64 v12.1 (1 : Int)), ()))
 else
 Option.map Sum.inr (bif (decide (v12.1 < v9.1)) then
 Option.bind (idx ((s.set (Int.toNat a0) x2).set (Int.toNat a2) x4) a0) fun x15 =>
 Option.bind (((s.set (Int.toNat a0) x2).set (Int.toNat a2) x4)[(Int.toNat a0)]?) fun x16 =>
 Option.bind (idx ((s.set (Int.toNat a0) x2).set (Int.toNat a2) x4) v12.1) fun x17 =>
 Option.bind (((s.set (Int.toNat a0) x2).set (Int.toNat a2) x4)[(Int.toNat v12.1)]?) fun x18 =>
 Option.bind (idx ((s.set (Int.toNat a0) x2).set (Int.toNat a2) x4) v12.1) fun x19 =>
 Option.bind (((s.set (Int.toNat a0) x2).set (Int.toNat a2) x4)[(Int.toNat v12.1)]?) fun x20 =>
 Option.bind (idx (((s.set (Int.toNat a0) x2).set (Int.toNat a2) x4).set (Int.toNat v12.1) x16) a0) fun x21 =>
 Option.bind ((((s.set (Int.toNat a0) x2).set (Int.toNat a2) x4).set (Int.toNat v12.1) x16)[(Int.toNat a0)]?) fun x22 =>
 some ((v12.1, true, ()), ((((s.set (Int.toNat a0) x2).set (Int.toNat a2) x4).set (Int.toNat v12.1) x16).set (Int.toNat a0) x18))
 else
 Option.bind (idx ((s.set (Int.toNat a0) x2).set (Int.toNat a2) x4) v12.1) fun x23 =>
 Option.bind (((s.set (Int.toNat a0) x2).set (Int.toNat a2) x4)[(Int.toNat v12.1)]?) fun x24 =>
 Option.bind (idx ((s.set (Int.toNat a0) x2).set (Int.toNat a2) x4) v9.1) fun x25 =>
 Option.bind (((s.set (Int.toNat a0) x2).set (Int.toNat a2) x4)[(Int.toNat v9.1)]?) fun x26 =>
 Option.bind (idx ((s.set (Int.toNat a0) x2).set (Int.toNat a2) x4) v9.1) fun x27 =>
 Option.bind (((s.set (Int.toNat a0) x2).set (Int.toNat a2) x4)[(Int.toNat v9.1)]?) fun x28 =>
 Option.bind (idx (((s.set (Int.toNat a0) x2).set (Int.toNat a2) x4).set (Int.toNat v9.1) x24) v12.1) fun x29 =>
 Option.bind ((((s.set (Int.toNat a0) x2).set (Int.toNat a2) x4).set (Int.toNat v9.1) x24)[(Int.toNat v12.1)]?) fun x30 =>
 loopO (fun (v31 : Int × Int × (List Int) × Unit) =>
 loopO (fun (v32 : Int × Unit) =>
 letJ (fun (v33 : Bool × Unit) =>
 bif v33.1 then
 some (Sum.inl ((addI .i64 v32.1 (1 : Int)), ()))
 else
 Option.map Sum.inr (loopO (fun (v35 : Int × Unit) =>
 letJ (fun (v36 : Bool × Unit) =>
 bif v36.1 then
 some (Sum.inl ((subI .i64 v35.1 (1 : Int)), ()))
 else
 Option.map Sum.inr (bif (decide (v35.1 < v32.1)) then
 Option.map Sum.inr (Option.bind (idx v31.2.2.1 a0) fun x38 =>
 Option.bind (v31.2.2.1[(Int.toNat a0)]?) fun x39 =>
 Option.bind (idx v31.2.2.1 v35.1) fun x40 =>
 Option.bind (v31.2.2.1[(Int.toNat v35.1)]?) fun x41 =>
 Option.bind (idx v31.2.2.1 v35.1) fun x42 =>
 Option.bind (v31.2.2.1[(Int.toNat v35.1)]?) fun x43 =>
 Option.bind (idx (v31.2.2.1.set (Int.toNat v35.1) x39) a0) fun x44 =>
 Option.bind ((v31.2.2.1.set (Int.toNat v35.1) x39)[(Int.toNat a0)]?) fun x45 =>
 some ((v35.1, false, ()), ((v31.2.2.1.set (Int.toNat v35.1) x39).set (Int.toNat a0) x41)))
 else
 Option.bind (idx v31.2.2.1 v35.1) fun x46 =>
 Option.bind (v31.2.2.1[(Int.toNat v35.1)]?) fun x47 =>
 Option.bind (idx v31.2.2.1 v32.1) fun x48 =>
 Option.bind (v31.2.2.1[(Int.toNat v32.1)]?) fun x49 =>
 Option.bind (idx v31.2.2.1 v32.1) fun x50 =>
 Option.bind (v31.2.2.1[(Int.toNat v32.1)]?) fun x51 =>
 Option.bind (idx (v31.2.2.1.set (Int.toNat v32.1) x47) v35.1) fun x52 =>
 Option.bind ((v31.2.2.1.set (Int.toNat v32.1) x47)[(Int.toNat v35.1)]?) fun x53 =>
 some (Sum.inl ((addI .i64 v32.1 (1 : Int)), (subI .i64 v35.1 (1 : Int)), ((v31.2.2.1.set (Int.toNat v32.1) x47).set (Int.toNat v35.1) x49), ())))) fun j37 =>
 bif (decide (v32.1 ≤ v35.1)) then
 Option.bind (idx v31.2.2.1 v35.1) fun x54 =>
 Option.bind (v31.2.2.1[(Int.toNat v35.1)]?) fun x55 =>
 Option.bind (idx v31.2.2.1 a0) fun x56 =>
 Option.bind (v31.2.2.1[(Int.toNat a0)]?) fun x57 =>
 Option.bind (F_cmp_Less_int x55 x57) fun r58 =>
 j37 ((!r58), ())
 else
 j37 (false, ())) (v31.2.1, ()))) fun j34 =>
 bif (decide (v32.1 ≤ v31.2.1)) then
 Option.bind (idx v31.2.2.1 v32.1) fun x59 =>
 Option.bind (v31.2.2.1[(Int.toNat v32.1)]?) fun x60 =>
 Option.bind (idx v31.2.2.1 a0) fun x61 =>
 Option.bind (v31.2.2.1[(Int.toNat a0)]?) fun x62 =>
 Option.bind (F_cmp_Less_int x60 x62) fun r63 =>
 j34 (r63, ())
 else
 j34 (false, ())) (v31.1, ())) ((addI .i64 v9.1 (1 : Int)), (subI .i64 v12.1 (1 : Int)), ((((s.set (Int.toNat a0) x2).set (Int.toNat a2) x4).set (Int.toNat v9.1) x24).set (Int.toNat v12.1) x26), ()))) fun j14 =>
 bif (decide (v9.1 ≤ v12.1)) then
 Option.bind (idx ((s.set (Int.toNat a0) x2).set (Int.toNat a2) x4) v12.1) fun x64 =>
 Option.bind (((s.set (Int.toNat a0) x2).set (Int.toNat a2) x4)[(Int.toNat v12.1)]?) fun x65 =>
 Option.bind (idx ((s.set (Int.toNat a0) x2).set (Int.toNat a2) x4) a0) fun x66 =>
 Option.bind (((s.set (Int.toNat a0) x2).set (Int.toNat a2) x4)[(Int.toNat a0)]?) fun x67 =>
 Option.bind (F_cmp_Less_int x65 x67) fun r68 =>
 j14 ((!r68), ())
 else
 j14 (false, ())) ((subI .i64 a1 (1 : Int)), ()))) fun j11 =>
 bif (decide (v9.1 ≤ (subI .i64 a1 (1 : Int)))) then
 Option.bind (idx ((s.set (Int.toNat a0) x2).set (Int.toNat a2) x4) v9.1) fun x69 =>
 Option.bind (((s.set (Int.toNat a0) x2).set (Int.toNat a2) x4)[(Int.toNat v9.1)]?) fun x70 =>
 Option.bind (idx ((s.set (Int.toNat a0) x2).set (Int.toNat a2) x4) a0) fun x71 =>
 Option.bind (((s.set (Int.toNat a0) x2).set (Int.toNat a2) x4)[(Int.toNat a0)]?) fun x72 =>
 Option.bind (F_cmp_Less_int x70 x72) fun r73 =>
 j11 (r73, ())
 else
 j11 (false, ())) ((addI .i64 a0 (1 : Int)), ())
noncomputable def k_slices_partitionOrdered_int : KS U Tryz.prog := ⟨.rw 153 3 1 (Ty.i .i64) [.ty (Ty.i .i64), .ty (Ty.i .i64), .ty (Ty.i .i64)] (.many [(Ty.i .i64), Ty.bool]) fun s a => F_slices_partitionOrdered_int s a.1 a.2.1 a.2.2.1, rwS (K := K) sa_slices_partitionOrdered_int 168 [.tmp 8, .tmp 9] [k_cmp_Less_int] (fk Tryz.f153 [] Tryz.func153)⟩

/-! ### slices.pdqsortOrdered[int] -/
noncomputable def sa_slices_pdqsortOrdered_int : SA U := annA (scOf Tryz.prog 134 [] Tryz.f130) (.r (.r (.l (.j ⟨[.val 1 (Ty.i .i64), .val 2 (Ty.i .i64), .val 3 (Ty.i .i64), .val 8 Ty.bool, .val 9 Ty.bool, .own 0 0 0 3 1 (Ty.i .i64)], []⟩ (.l (.l (.r (.r (.r (.j ⟨[.val 3 (Ty.i .i64), .own 0 0 0 3 1 (Ty.i .i64)], [1, 2, 8, 9, 10]⟩ (.r (.r (.j ⟨[.val 11 (Ty.i .i64), .val 12 (Ty.i .i64), .own 0 0 0 3 1 (Ty.i .i64)], [1, 2, 3, 8, 9, 10]⟩ (.r (.j ⟨[.own 0 0 0 3 1 (Ty.i .i64)], [1, 2, 3, 8, 9, 10, 11]⟩ (.r (.l (.j ⟨[.val 87 Ty.bool], [0, 1, 2, 3, 8, 9, 10, 11]⟩ .e))))))))))))))))))
noncomputable def B_slices_pdqsortOrdered_int (rec : List Int → (Int × Int × Int × Unit) → Option ((Unit) × List Int)) (s : List Int) (a0 : Int) (a1 : Int) (a2 : Int) : Option ((Unit) × List Int) :=
 loopO (fun (v1 : Int × Int × Int × Bool × Bool × (List Int) × Unit) =>
 bif (decide ((subI .i64 v1.2.1 v1.1) ≤ (12 : Int))) then
 Option.bind (F_slices_insertionSortOrdered_int v1.2.2.2.2.2.1 v1.1 v1.2.1) fun p2 =>
 Option.map Sum.inr (some ((()), p2.2))
 else
 bif (decide (v1.2.2.1 = (0 : Int))) then
 Option.bind (F_slices_heapSortOrdered_int v1.2.2.2.2.2.1 v1.1 v1.2.1) fun p3 =>
 Option.map Sum.inr (some ((()), p3.2))
 else
 letJ (fun (v4 : Int × (List Int) × Unit) =>
 Option.bind (F_slices_choosePivotOrdered_int v4.2.1 v1.1 v1.2.1) fun r6 =>
 letJ (fun (v7 : Int × Int × (List Int) × Unit) =>
 letJ (fun (v9 : (List Int) × Unit) =>
 letJ (fun (v11 : Bool × Unit) =>
 bif v11.1 then
 Option.bind (F_slices_partitionEqualOrdered_int v9.1 v1.1 v1.2.1 v7.1) fun p13 =>
 some (Sum.inl (p13.1, v1.2.1, v4.1, v1.2.2.2.1, v1.2.2.2.2.1, p13.2, ()))
 else
 Option.bind (F_slices_partitionOrdered_int v9.1 v1.1 v1.2.1 v7.1) fun p14 =>
 bif (decide ((subI .i64 p14.1.1 v1.1) < (subI .i64 v1.2.1 p14.1.1))) then
 Option.bind (rec p14.2 (v1.1, p14.1.1, v4.1, ())) fun p15 =>
 some (Sum.inl ((addI .i64 p14.1.1 (1 : Int)), v1.2.1, v4.1, (decide ((quoI .i64 (subI .i64 v1.2.1 v1.1) (8 : Int)) ≤ (subI .i64 p14.1.1 v1.1))), p14.1.2.1, p15.2, ()))
 else
 Option.bind (rec p14.2 ((addI .i64 p14.1.1 (1 : Int)), v1.2.1, v4.1, ())) fun p16 =>
 some (Sum.inl (v1.1, p14.1.1, v4.1, (decide ((quoI .i64 (subI .i64 v1.2.1 v1.1) (8 : Int)) ≤ (subI .i64 v1.2.1 p14.1.1))), p14.1.2.1, p16.2, ()))) fun j12 =>
 bif (decide ((0 : Int) < v1.1)) then
 Option.bind (idx v9.1 (subI .i64 v1.1 (1 : Int))) fun x17 =>
 Option.bind (v9.1[(Int.toNat (subI .i64 v1.1 (1 : Int)))]?) fun x18 =>
 Option.bind (idx v9.1 v7.1) fun x19 =>
 Option.bind (v9.1[(Int.toNat v7.1)]?) fun x20 =>
 Option.bind (F_cmp_Less_int x18 x20) fun r21 =>
 j12 ((!r21), ())
 else
 j12 (false, ())) fun j10 =>
 Option.bind (bif v1.2.2.2.1 then
 some v1.2.2.2.2.1
 else some false) fun b22 =>
 Option.bind (bif b22 then
 some (decide (v7.2.1 = (1 : Int)))
 else some false) fun b23 =>
 bif b23 then
 Option.bind (F_slices_partialInsertionSortOrdered_int v7.2.2.1 v1.1 v1.2.1) fun p24 =>
 bif p24.1 then
 Option.map Sum.inr (some ((()), p24.2))
 else
 j10 (p24.2, ())
 else
 j10 (v7.2.2.1, ())) fun j8 =>
 bif (decide (r6.2.1 = (2 : Int))) then
 Option.bind (F_slices_reverseRangeOrdered_int v4.2.1 v1.1 v1.2.1) fun p25 =>
 j8 ((subI .i64 (subI .i64 v1.2.1 (1 : Int)) (subI .i64 r6.1 v1.1)), (1 : Int), p25.2, ())
 else
 j8 (r6.1, r6.2.1, v4.2.1, ())) fun j5 =>
 bif (!v1.2.2.2.1) then
 Option.bind (F_slices_breakPatternsOrdered_int v1.2.2.2.2.2.1 v1.1 v1.2.1) fun p26 =>
 j5 ((subI .i64 v1.2.2.1 (1 : Int)), p26.2, ())
 else
 j5 (v1.2.2.1, v1.2.2.2.2.2.1, ())) (a0, a1, a2, true, true, s, ())
noncomputable def I_slices_pdqsortOrdered_int : Nat → List Int → (Int × Int × Int × Unit) → Option ((Unit) × List Int) := iterF2 (fun rec s a => B_slices_pdqsortOrdered_int rec s a.1 a.2.1 a.2.2.1)
noncomputable def F_slices_pdqsortOrdered_int (s : List Int) (a0 : Int) (a1 : Int) (a2 : Int) : Option ((Unit) × List Int) := I_slices_pdqsortOrdered_int (List.length s + 1) s (a0, a1, a2, ())
noncomputable def k_slices_pdqsortOrdered_int : KS U Tryz.prog := ⟨.rw 130 3 1 (Ty.i .i64) [.ty (Ty.i .i64), .ty (Ty.i .i64), .ty (Ty.i .i64)] (.many []) fun s a => F_slices_pdqsortOrdered_int s a.1 a.2.1 a.2.2.1, rwRS (K := K) («as» := [.ty (Ty.i .i64), .ty (Ty.i .i64), .ty (Ty.i .i64)]) (r := .many []) (T := (Ty.i .i64)) (B := fun rec s a => B_slices_pdqsortOrdered_int rec s a.1 a.2.1 a.2.2.1) sa_slices_pdqsortOrdered_int 134 [] [k_slices_insertionSortOrdered_int, k_slices_heapSortOrdered_int, k_slices_breakPatternsOrdered_int, k_slices_choosePivotOrdered_int, k_slices_reverseRangeOrdered_int, k_slices_partialInsertionSortOrdered_int, k_cmp_Less_int, k_slices_partitionEqualOrdered_int, k_slices_partitionOrdered_int] (fk Tryz.f130 [] Tryz.func130) (hF := fun s a => ⟨_, rfl⟩)⟩

/-! ### slices.Sort[[]int,int] -/
noncomputable def sa_slices_Sort_int_int : SA U := annA (scOf Tryz.prog 11 [] Tryz.f101) .e
noncomputable def F_slices_Sort_int_int (s : List Int)  : Option ((Unit) × List Int) :=
 Option.bind (F_math_bits_Len (convI .u64 ((List.length s : Nat) : Int))) fun r1 =>
 Option.bind (F_slices_pdqsortOrdered_int s (0 : Int) ((List.length s : Nat) : Int) r1) fun p2 =>
 some ((()), p2.2)
noncomputable def k_slices_Sort_int_int : KS U Tryz.prog := ⟨.rw 101 3 1 (Ty.i .i64) [] (.many []) fun s a => F_slices_Sort_int_int s , rwS (K := K) sa_slices_Sort_int_int 11 [] [k_math_bits_Len, k_slices_pdqsortOrdered_int] (fk Tryz.f101 [] Tryz.func101)⟩

/-! ### trustquorum/monitor.needs -/
noncomputable def sa_monitor_needs : SA U := annA (scOf Tryz.prog 40 [] Tryz.f70) (.r (.r (.r (.l (.r (.l (.ps (.own 9 3 1 (Ty.i .i64)) (.j ⟨[.val 18 (Ty.i .i64), .own 9 11 1 3 1 (Ty.i .i64)], [10, 16, 17]⟩ (.l (.r (.r (.j ⟨[.own 9 11 1 3 1 (Ty.i .i64)], [10, 16, 17, 18]⟩ .e))))))))))))
noncomputable def F_monitor_needs (a0 : TConfig) (a1 : Int) (a2 : Int) (a3 : Int) : Option (List Int) :=
 Option.bind (F_nodeset_Subsets a3) fun r1 =>
 loopO (fun (v2 : Int × (List Int) × Unit) =>
 bif (decide (v2.1 < ((List.length r1 : Nat) : Int))) then
 letJ (fun (v3 : (List Int) × Unit) =>
 some (Sum.inl ((addI .i64 v2.1 (1 : Int)), v3.1, ()))) fun j4 =>
 Option.bind (idx r1 v2.1) fun x5 =>
 Option.bind (F_slices_ContainsFunc_int_int_c99 v2.2.1 x5) fun r6 =>
 Option.bind (bif (!r6) then
 Option.bind (F_monitor_needs_1 x5 a0 a2 a1) fun r7 =>
 some r7
 else some false) fun b8 =>
 bif b8 then
 bif lenOk 8 (List.length v2.2.1 + List.length [x5]) then
 j4 ((v2.2.1 ++ [x5]), ())
 else none
 else
 j4 (v2.2.1, ())
 else
 Option.map Sum.inr (Option.bind (F_slices_Sort_int_int v2.2.1) fun p9 =>
 some p9.2)) ((0 : Int), ([] : List Int), ())
noncomputable def k_monitor_needs : KS U Tryz.prog := ⟨.fn 70 [.ty (Ty.st .Config), .ty (Ty.i .i64), .ty (Ty.i .i64), .ty (Ty.i .i64)] (.one (Ty.sl (Ty.i .i64))) fun a => F_monitor_needs a.1 a.2.1 a.2.2.1 a.2.2.2.1, fnS (K := K) sa_monitor_needs 40 [.tmp 8] [k_nodeset_Subsets, k_slices_ContainsFunc_int_int_c99, k_monitor_needs_1, k_slices_Sort_int_int] (fk Tryz.f70 [] Tryz.func70)⟩

/-! ### trustquorum/monitor.stuck -/
noncomputable def sa_monitor_stuck : SA U := annA (scOf Tryz.prog 91 [] Tryz.f27) (.r (.r (.r (.r (.r (.b (.r (.l (.ps (.own 8 38 15 (Ty.st .Envelope)) (.j ⟨[.val 9 (Ty.i .i64), .val 40 (Ty.i .i64), .own 8 32 1 38 15 (Ty.st .Envelope)], [0, 3, 4, 6]⟩ (.l (.r (.r (.j ⟨[.val 9 (Ty.i .i64), .own 8 32 1 38 15 (Ty.st .Envelope)], [0, 3, 4, 6, 40]⟩ .e)))))))) (.l (.g [(0, .ps (.frz 8))]))))))))
noncomputable def F_monitor_stuck (a0 : (List (TPlace × (List TEnvelope)))) (a1 : TPlace) : Option (TFinding × Bool × Unit) :=
 Option.bind (F_monitor_newest (mget (fun p : TPlace => decide (a1.node = p.node) && decide (a1.slot = p.slot)) a0 ([] : List TEnvelope))) fun r1 =>
 Option.bind (bif (!r1.2.1) then some true
 else
 some (!decide (r1.1.Kind = (1 : Int)))) fun b2 =>
 Option.bind (bif b2 then some true
 else
 Option.bind (F_envelopes_AcceptsPrepare (TEnvelope.mk r1.1.Node r1.1.Slot r1.1.Seq (TTrust.mk r1.1.Trust.Threshold r1.1.Trust.Nodes r1.1.Trust.Inner) r1.1.Kind r1.1.Ballot r1.1.Prepared r1.1.Prime r1.1.Low r1.1.High) r1.1.Ballot) fun r3 =>
 some r3) fun b4 =>
 bif b4 then
 some ((TFinding.mk (0 : Int) (0 : Int) (0 : Int) (ByteArray.mk #[]) ([] : List Int)), false, ())
 else
 Option.bind (F_threshold_Uses (TTrust.mk r1.1.Trust.Threshold r1.1.Trust.Nodes r1.1.Trust.Inner)) fun r5 =>
 loopO (fun (v6 : Int × Int × (List TEnvelope) × Unit) =>
 bif (decide (v6.2.1 < (10 : Int))) then
 letJ (fun (v7 : Int × (List TEnvelope) × Unit) =>
 some (Sum.inl (v7.1, (addI .i64 v6.2.1 (1 : Int)), v7.2.1, ()))) fun j8 =>
 Option.bind (F_monitor_newest (mget (fun p : TPlace => decide (v6.2.1 = p.node) && decide (a1.slot = p.slot)) a0 ([] : List TEnvelope))) fun r9 =>
 bif r9.2.1 then
 bif lenOk 176 (List.length v6.2.2.1 + List.length [(TEnvelope.mk r9.1.Node r9.1.Slot r9.1.Seq (TTrust.mk r9.1.Trust.Threshold r9.1.Trust.Nodes r9.1.Trust.Inner) r9.1.Kind r9.1.Ballot r9.1.Prepared r9.1.Prime r9.1.Low r9.1.High)]) then
 if v6.2.1 < 0 then none else
 j8 ((orI .i64 v6.1 (shlI .i64 (1 : Int) v6.2.1)), (v6.2.2.1 ++ [(TEnvelope.mk r9.1.Node r9.1.Slot r9.1.Seq (TTrust.mk r9.1.Trust.Threshold r9.1.Trust.Nodes r9.1.Trust.Inner) r9.1.Kind r9.1.Ballot r9.1.Prepared r9.1.Prime r9.1.Low r9.1.High)]), ())
 else none
 else
 j8 (v6.1, v6.2.2.1, ())
 else
 Option.map Sum.inr (Option.bind (F_prepare_Look a1.node (TTrust.mk r1.1.Trust.Threshold r1.1.Trust.Nodes r1.1.Trust.Inner) v6.2.2.1) fun r10 =>
 Option.bind (F_prepare_Seen_Who_c67 r10 (TEnvelope.mk r1.1.Node r1.1.Slot r1.1.Seq (TTrust.mk r1.1.Trust.Threshold r1.1.Trust.Nodes r1.1.Trust.Inner) r1.1.Kind r1.1.Ballot r1.1.Prepared r1.1.Prime r1.1.Low r1.1.High)) fun r11 =>
 Option.bind (F_monitor_needs r10.View a1.node r11 (andNotI .i64 v6.1 r11)) fun r12 =>
 some ((TFinding.mk a1.node a1.slot (2 : Int) r1.1.Ballot.Value r12), true, ()))) (r5, (0 : Int), ([] : List TEnvelope), ())
noncomputable def k_monitor_stuck : KS U Tryz.prog := ⟨.fn 27 [.ty (Ty.mp (Ty.st .Place) (Ty.sl (Ty.st .Envelope))), .ty (Ty.st .Place)] (.many [(Ty.st .Finding), Ty.bool]) fun a => F_monitor_stuck a.1 a.2.1, fnS (K := K) sa_monitor_stuck 91 [.cell 4 (some 5), .tmp 5] [k_monitor_newest, k_envelopes_AcceptsPrepare, k_threshold_Uses, k_prepare_Look, k_prepare_Seen_Who_c67, k_monitor_needs] (fk Tryz.f27 [] Tryz.func27)⟩

/-! ### trustquorum/monitor.Stuck -/
noncomputable def sa_monitor_Stuck : SA U := annA (scOf Tryz.prog 22 [] Tryz.f10) .e
noncomputable def F_monitor_Stuck (a0 : (List TSighting)) (a1 : Int) (a2 : Int) : Option (TFinding × Bool × Unit) :=
 Option.bind (F_monitor_files a0) fun r1 =>
 Option.bind (F_monitor_stuck r1.1 (TPlace.mk a1 a2)) fun r2 =>
 some (r2.1, r2.2.1, ())
noncomputable def k_monitor_Stuck : KS U Tryz.prog := ⟨.fn 10 [.ty (Ty.sl (Ty.st .Sighting)), .ty (Ty.i .i64), .ty (Ty.i .i64)] (.many [(Ty.st .Finding), Ty.bool]) fun a => F_monitor_Stuck a.1 a.2.1 a.2.2.1, fnS (K := K) sa_monitor_Stuck 22 [.cell 6 (some 5), .tmp 7] [k_monitor_files, k_monitor_stuck] (fk Tryz.f10 [] Tryz.func10)⟩

/-! ### trustquorum/trustquorumplay.Flat -/
noncomputable def sa_play_Flat : SA U := annA (scOf Tryz.prog 21 [] Tryz.f29) (.r (.r (.l (.r (.l (.ps (.ownB 5 1 3 1 (Ty.i .i64)) (.j ⟨[.val 6 (Ty.i .i64), .box 3 1 (Ty.st .Trust) [(1, 6, 1)], .rowb 6 1 3 1 (Ty.i .i64)], [0, 4, 5]⟩ .e)))))))
noncomputable def F_play_Flat (a0 : Int) (a1 : Int) : Option TTrust :=
 loopO (fun (v1 : Int × TTrust × (List Int) × Unit) =>
 bif (decide (v1.1 < a0)) then
 bif lenOk 8 (List.length v1.2.2.1 + List.length [v1.1]) then
 some (Sum.inl ((addI .i64 v1.1 (1 : Int)), (TTrust.mk v1.2.1.Threshold ([] : List Int) v1.2.1.Inner), (v1.2.2.1 ++ [v1.1]), ()))
 else none
 else
 Option.map Sum.inr (some (TTrust.mk v1.2.1.Threshold v1.2.2.1 v1.2.1.Inner))) ((0 : Int), (TTrust.mk a1 ([] : List Int) ([] : List TTrust)), ([] : List Int), ())
noncomputable def k_play_Flat : KS U Tryz.prog := ⟨.fn 29 [.ty (Ty.i .i64), .ty (Ty.i .i64)] (.one (Ty.st .Trust)) fun a => F_play_Flat a.1 a.2.1, fnS (K := K) sa_play_Flat 21 [.cell 4 (some 3)] [] (fk Tryz.f29 [] Tryz.func29)⟩

/-! ### trustquorum/trustquorumlaw44.sane -/
noncomputable def sa_law44_sane : SA U := annA (scOf Tryz.prog 32 [] Tryz.f12) .e
noncomputable def F_law44_sane  : Option Bool :=
 Option.bind (F_play_Flat (3 : Int) (2 : Int)) fun r1 =>
 Option.bind (F_monitor_Stuck [(TSighting.mk (0 : Int) (0 : Int) (TLetter.mk (2 : Int) (1 : Int) (TNomination.mk (0 : Int) (0 : Int) (TTrust.mk (0 : Int) ([] : List Int) ([] : List TTrust)) ([] : List ByteArray) ([] : List ByteArray)) (TEnvelope.mk (0 : Int) (1 : Int) (1 : Int) (TTrust.mk r1.Threshold r1.Nodes r1.Inner) (1 : Int) (TBallot.mk (1 : Int) (ByteArray.mk #[97])) (TBallot.mk (0 : Int) (ByteArray.mk #[])) (TBallot.mk (0 : Int) (ByteArray.mk #[])) (0 : Int) (0 : Int))))] (0 : Int) (1 : Int)) fun r2 =>
 Option.bind (bif r2.2.1 then
 some (decide (r2.1.Kind = (2 : Int)))
 else some false) fun b3 =>
 Option.bind (bif b3 then
 some (decide (r2.1.Value = (ByteArray.mk #[97])))
 else some false) fun b4 =>
 Option.bind (bif b4 then
 some (decide (((List.length r2.1.Needs : Nat) : Int) = (0 : Int)))
 else some false) fun b5 =>
 some b5
noncomputable def k_law44_sane : KS U Tryz.prog := ⟨.fn 12 [] (.one Ty.bool) fun a => F_law44_sane , fnS (K := K) sa_law44_sane 32 [.tmp 0] [k_play_Flat, k_monitor_Stuck] (fk Tryz.f12 [] Tryz.func12)⟩

/-! ### slices.Equal[[]int,int] -/
noncomputable def sa_slices_Equal_int_int : SA U := annA (scOf Tryz.prog 26 [] Tryz.f105) (.r (.r (.l (.r (.l (.j ⟨[.val 13 (Ty.i .i64)], [0, 1, 12]⟩ .e))))))
noncomputable def F_slices_Equal_int_int (a0 : (List Int)) (a1 : (List Int)) : Option Bool :=
 bif (!decide (((List.length a0 : Nat) : Int) = ((List.length a1 : Nat) : Int))) then
 some false
 else
 loopO (fun (v1 : Int × Unit) =>
 bif (decide (v1.1 < ((List.length a0 : Nat) : Int))) then
 Option.bind (idx a0 v1.1) fun x2 =>
 Option.bind (idx a1 v1.1) fun x3 =>
 bif (!decide (x2 = x3)) then
 Option.map Sum.inr (some false)
 else
 some (Sum.inl ((addI .i64 v1.1 (1 : Int)), ()))
 else
 Option.map Sum.inr (some true)) ((0 : Int), ())
noncomputable def k_slices_Equal_int_int : KS U Tryz.prog := ⟨.fn 105 [.ty (Ty.sl (Ty.i .i64)), .ty (Ty.sl (Ty.i .i64))] (.one Ty.bool) fun a => F_slices_Equal_int_int a.1 a.2.1, fnS (K := K) sa_slices_Equal_int_int 26 [.tmp 4] [] (fk Tryz.f105 [] Tryz.func105)⟩

/-! ### slices.EqualFunc[[]trustquorum/api.Trust,[]trustquorum/api.Trust,trustquorum/api.Trust,trustquorum/api.Trust] -/
noncomputable def sa_slices_EqualFunc_api_Trust_api_Trust_api_Trust_api_Trust_c79 : SA U := annA (scOf Tryz.prog 32 [] Tryz.f106) (.r (.r (.l (.r (.l (.j ⟨[.val 17 (Ty.i .i64)], [1, 2, 15, 16]⟩ .e))))))
noncomputable def B_slices_EqualFunc_api_Trust_api_Trust_api_Trust_api_Trust_c79 (rec : (TTrust × TTrust × Unit) → Option Bool) (a0 : (List TTrust)) (a1 : (List TTrust)) : Option Bool :=
 bif (!decide (((List.length a0 : Nat) : Int) = ((List.length a1 : Nat) : Int))) then
 some false
 else
 loopO (fun (v1 : Int × Unit) =>
 bif (decide (v1.1 < ((List.length a0 : Nat) : Int))) then
 Option.bind (idx a0 v1.1) fun x2 =>
 Option.bind (idx a1 v1.1) fun x3 =>
 Option.bind (rec ((TTrust.mk x2.Threshold x2.Nodes x2.Inner), (TTrust.mk x3.Threshold x3.Nodes x3.Inner), ())) fun r4 =>
 bif (!r4) then
 Option.map Sum.inr (some false)
 else
 some (Sum.inl ((addI .i64 v1.1 (1 : Int)), ()))
 else
 Option.map Sum.inr (some true)) ((0 : Int), ())
noncomputable def k_slices_EqualFunc_api_Trust_api_Trust_api_Trust_api_Trust_c79 (g : (TTrust × TTrust × Unit) → Option Bool) (h : KFun.Sound Tryz.prog (U := U) (.fn 79 [.ty (Ty.st .Trust), .ty (Ty.st .Trust)] (.one Ty.bool) g)) : KS U Tryz.prog := ⟨.fn 106 [.ty (Ty.sl (Ty.st .Trust)), .ty (Ty.sl (Ty.st .Trust)), .clo 79 []] (.one Ty.bool) fun a => B_slices_EqualFunc_api_Trust_api_Trust_api_Trust_api_Trust_c79 g a.1 a.2.1, fnS (K := K) sa_slices_EqualFunc_api_Trust_api_Trust_api_Trust_api_Trust_c79 32 [.tmp 6] (⟨_, h⟩ :: []) (fk Tryz.f106 [] Tryz.func106)⟩

/-! ### trustquorum/threshold.Same -/
noncomputable def sa_threshold_Same : SA U := annA (scOf Tryz.prog 24 [] Tryz.f79) .e
noncomputable def B_threshold_Same (rec : (TTrust × TTrust × Unit) → Option Bool) (a0 : TTrust) (a1 : TTrust) : Option Bool :=
 Option.bind (bif (decide (a0.Threshold = a1.Threshold)) then
 Option.bind (F_slices_Equal_int_int a0.Nodes a1.Nodes) fun r1 =>
 some r1
 else some false) fun b2 =>
 Option.bind (bif b2 then
 Option.bind (B_slices_EqualFunc_api_Trust_api_Trust_api_Trust_api_Trust_c79 rec a0.Inner a1.Inner) fun r3 =>
 some r3
 else some false) fun b4 =>
 some b4
noncomputable def I_threshold_Same : Nat → (TTrust × TTrust × Unit) → Option Bool := iterF (fun rec a => B_threshold_Same rec a.1 a.2.1)
noncomputable def F_threshold_Same (a0 : TTrust) (a1 : TTrust) : Option Bool := I_threshold_Same (SizeOf.sizeOf a0 + SizeOf.sizeOf a1 + 1) (a0, a1, ())
noncomputable def k_threshold_Same : KS U Tryz.prog := ⟨.fn 79 [.ty (Ty.st .Trust), .ty (Ty.st .Trust)] (.one Ty.bool) fun a => F_threshold_Same a.1 a.2.1, fnRSG (K := K) («as» := [.ty (Ty.st .Trust), .ty (Ty.st .Trust)]) (r := .one Ty.bool) (B := fun rec a => B_threshold_Same rec a.1 a.2.1) sa_threshold_Same 24 [.tmp 4] (fun g h => [k_slices_EqualFunc_api_Trust_api_Trust_api_Trust_api_Trust_c79 g h, k_slices_Equal_int_int]) (fk Tryz.f79 [] Tryz.func79) (hF := fun a => ⟨_, rfl⟩)⟩

/-! ### trustquorum/monitor.equal -/
noncomputable def sa_monitor_equal : SA U := annA (scOf Tryz.prog 73 [] Tryz.f50) .e
noncomputable def F_monitor_equal (a0 : TEnvelope) (a1 : TEnvelope) : Option Bool :=
 Option.bind (F_threshold_Same (TTrust.mk a0.Trust.Threshold a0.Trust.Nodes a0.Trust.Inner) (TTrust.mk a1.Trust.Threshold a1.Trust.Nodes a1.Trust.Inner)) fun r1 =>
 Option.bind (bif r1 then
 some (decide (a0.Node = a1.Node))
 else some false) fun b2 =>
 Option.bind (bif b2 then
 some (decide (a0.Slot = a1.Slot))
 else some false) fun b3 =>
 Option.bind (bif b3 then
 some (decide (a0.Seq = a1.Seq))
 else some false) fun b4 =>
 Option.bind (bif b4 then
 some (decide (a0.Kind = a1.Kind))
 else some false) fun b5 =>
 Option.bind (bif b5 then
 some (eq2 false a0.Ballot.Counter a1.Ballot.Counter a0.Ballot.Value a1.Ballot.Value)
 else some false) fun b6 =>
 Option.bind (bif b6 then
 some (eq2 false a0.Prepared.Counter a1.Prepared.Counter a0.Prepared.Value a1.Prepared.Value)
 else some false) fun b7 =>
 Option.bind (bif b7 then
 some (eq2 false a0.Prime.Counter a1.Prime.Counter a0.Prime.Value a1.Prime.Value)
 else some false) fun b8 =>
 Option.bind (bif b8 then
 some (decide (a0.Low = a1.Low))
 else some false) fun b9 =>
 Option.bind (bif b9 then
 some (decide (a0.High = a1.High))
 else some false) fun b10 =>
 some b10
noncomputable def k_monitor_equal : KS U Tryz.prog := ⟨.fn 50 [.ty (Ty.st .Envelope), .ty (Ty.st .Envelope)] (.one Ty.bool) fun a => F_monitor_equal a.1 a.2.1, fnS (K := K) sa_monitor_equal 73 [.tmp 4] [k_threshold_Same] (fk Tryz.f50 [] Tryz.func50)⟩

/-! ### trustquorum/monitor.TwoFaced$1$1$1 -/
noncomputable def sa_monitor_TwoFaced_1_1_1 : SA U := annA (scOf Tryz.prog 15 [] Tryz.f49) .e
noncomputable def F_monitor_TwoFaced_1_1_1 (a0 : TEnvelope) (a1 : TEnvelope) : Option Bool :=
 Option.bind (bif (decide (a1.Seq = a0.Seq)) then
 Option.bind (F_monitor_equal (TEnvelope.mk a1.Node a1.Slot a1.Seq (TTrust.mk a1.Trust.Threshold a1.Trust.Nodes a1.Trust.Inner) a1.Kind a1.Ballot a1.Prepared a1.Prime a1.Low a1.High) (TEnvelope.mk a0.Node a0.Slot a0.Seq (TTrust.mk a0.Trust.Threshold a0.Trust.Nodes a0.Trust.Inner) a0.Kind a0.Ballot a0.Prepared a0.Prime a0.Low a0.High)) fun r1 =>
 some (!r1)
 else some false) fun b2 =>
 some b2
noncomputable def k_monitor_TwoFaced_1_1_1 : KS U Tryz.prog := ⟨.fn 49 [.ty (Ty.st .Envelope), .ref (.ty (Ty.st .Envelope))] (.one Ty.bool) fun a => F_monitor_TwoFaced_1_1_1 a.1 a.2.1, fnS (K := K) sa_monitor_TwoFaced_1_1_1 15 [.tmp 3] [k_monitor_equal] (fk Tryz.f49 [] Tryz.func49)⟩

/-! ### slices.IndexFunc[[]trustquorum/api.Envelope,trustquorum/api.Envelope] -/
noncomputable def sa_slices_IndexFunc_api_Envelope_api_Envelope_c49 : SA U := annA (scOf Tryz.prog 19 [] Tryz.f53) (.r (.l (.r (.l (.j ⟨[.val 8 (Ty.i .i64)], [0, 1, 7]⟩ .e)))))
noncomputable def F_slices_IndexFunc_api_Envelope_api_Envelope_c49 (a0 : (List TEnvelope)) (a1 : TEnvelope) : Option Int :=
 loopO (fun (v1 : Int × Unit) =>
 bif (decide (v1.1 < ((List.length a0 : Nat) : Int))) then
 Option.bind (idx a0 v1.1) fun x2 =>
 Option.bind (F_monitor_TwoFaced_1_1_1 (TEnvelope.mk x2.Node x2.Slot x2.Seq (TTrust.mk x2.Trust.Threshold x2.Trust.Nodes x2.Trust.Inner) x2.Kind x2.Ballot x2.Prepared x2.Prime x2.Low x2.High) (TEnvelope.mk a1.Node a1.Slot a1.Seq (TTrust.mk a1.Trust.Threshold a1.Trust.Nodes a1.Trust.Inner) a1.Kind a1.Ballot a1.Prepared a1.Prime a1.Low a1.High)) fun r3 =>
 bif r3 then
 Option.map Sum.inr (some v1.1)
 else
 some (Sum.inl ((addI .i64 v1.1 (1 : Int)), ()))
 else
 Option.map Sum.inr (some (-1 : Int))) ((0 : Int), ())
noncomputable def k_slices_IndexFunc_api_Envelope_api_Envelope_c49 : KS U Tryz.prog := ⟨.fn 53 [.ty (Ty.sl (Ty.st .Envelope)), .clo 49 [.ref (.ty (Ty.st .Envelope))]] (.one (Ty.i .i64)) fun a => F_slices_IndexFunc_api_Envelope_api_Envelope_c49 a.1 a.2.1.1, fnS (K := K) sa_slices_IndexFunc_api_Envelope_api_Envelope_c49 19 [.tmp 4] [k_monitor_TwoFaced_1_1_1] (fk Tryz.f53 [] Tryz.func53)⟩

/-! ### slices.ContainsFunc[[]trustquorum/api.Envelope,trustquorum/api.Envelope] -/
noncomputable def sa_slices_ContainsFunc_api_Envelope_api_Envelope_c49 : SA U := annA (scOf Tryz.prog 9 [] Tryz.f47) .e
noncomputable def F_slices_ContainsFunc_api_Envelope_api_Envelope_c49 (a0 : (List TEnvelope)) (a1 : TEnvelope) : Option Bool :=
 Option.bind (F_slices_IndexFunc_api_Envelope_api_Envelope_c49 a0 (TEnvelope.mk a1.Node a1.Slot a1.Seq (TTrust.mk a1.Trust.Threshold a1.Trust.Nodes a1.Trust.Inner) a1.Kind a1.Ballot a1.Prepared a1.Prime a1.Low a1.High)) fun r1 =>
 some (decide ((0 : Int) ≤ r1))
noncomputable def k_slices_ContainsFunc_api_Envelope_api_Envelope_c49 : KS U Tryz.prog := ⟨.fn 47 [.ty (Ty.sl (Ty.st .Envelope)), .clo 49 [.ref (.ty (Ty.st .Envelope))]] (.one Ty.bool) fun a => F_slices_ContainsFunc_api_Envelope_api_Envelope_c49 a.1 a.2.1.1, fnS (K := K) sa_slices_ContainsFunc_api_Envelope_api_Envelope_c49 9 [.tmp 4] [k_slices_IndexFunc_api_Envelope_api_Envelope_c49] (fk Tryz.f47 [] Tryz.func47)⟩

end Go.Proofs.YtaebanabjdmgfaaGreat
