/-
  Functions of the program as plain functions, each held against the program by the kernel. Printed by a program.
-/
import Derived.Test.YtncjalhhkmojlaaGreatUni
import Derived.Test.YtncjalhhkmojlaaGreatProg
import Derived.KernelRfl
set_option linter.unusedVariables false
namespace Go.Proofs.YtncjalhhkmojlaaGreat
open Go.TQ

/-! ### trustquorum/trustquorumplay.New -/
noncomputable def sa_play_New : SA U := annA (scOf Tryz.prog 10 [] Tryz.f11) .e
noncomputable def F_play_New (a0 : (List Int)) : Option TSrc :=
 bif slcOk (0 : Int) (minI ((List.length a0 : Nat) : Int) (800 : Int)) (List.length a0) then
 some (TSrc.mk ((a0.take (Int.toNat (minI ((List.length a0 : Nat) : Int) (800 : Int)))).drop (Int.toNat (0 : Int))) (0 : Int))
 else none
noncomputable def k_play_New : KS U Tryz.prog := ⟨.nw 11 [.ty (Ty.sl (Ty.i .i64))] (Ty.st .Src) fun a => F_play_New a.1, nwS (K := K) sa_play_New 10 2 [] (fk Tryz.f11 [] Tryz.func11)⟩

/-! ### (*trustquorum/trustquorumplay.Src).N -/
noncomputable def sa_play_Src_N : SA U := annA (scOf Tryz.prog 43 [] Tryz.f22) (.r (.l (.j ⟨[.val 18 Ty.bool], [0, 1]⟩ .e)))
noncomputable def F_play_Src_N (s : TSrc) (a0 : Int) : Option (Int × TSrc) :=
 letJ (fun (v1 : Bool × Unit) =>
 bif v1.1 then
 some ((0 : Int), s)
 else
 Option.bind (idx s.L (subI .i64 (addI .i64 s.At (1 : Int)) (1 : Int))) fun x3 =>
 if a0 = 0 then none else
 if a0 = 0 then none else
 some ((remI .i64 (addI .i64 (remI .i64 x3 a0) a0) a0), (TSrc.mk s.L (addI .i64 s.At (1 : Int))))) fun j2 =>
 bif (decide (((List.length s.L : Nat) : Int) ≤ s.At)) then
 j2 (true, ())
 else
 j2 ((decide (a0 < (1 : Int))), ())
noncomputable def k_play_Src_N : KS U Tryz.prog := ⟨.rc 22 0 (Ty.st .Src) [.ty (Ty.i .i64)] (.one (Ty.i .i64)) fun s a => F_play_Src_N s a.1, rcS (K := K) sa_play_Src_N 43 [.tmp 4] [] (fk Tryz.f22 [] Tryz.func22)⟩

/-! ### (*trustquorum/trustquorumplay.Src).Range -/
noncomputable def sa_play_Src_Range : SA U := annA (scOf Tryz.prog 15 [] Tryz.f25) .e
noncomputable def F_play_Src_Range (s : TSrc) (a0 : Int) (a1 : Int) : Option (Int × TSrc) :=
 Option.bind (F_play_Src_N s (addI .i64 (subI .i64 a1 a0) (1 : Int))) fun p1 =>
 some ((addI .i64 a0 p1.1), p1.2)
noncomputable def k_play_Src_Range : KS U Tryz.prog := ⟨.rc 25 0 (Ty.st .Src) [.ty (Ty.i .i64), .ty (Ty.i .i64)] (.one (Ty.i .i64)) fun s a => F_play_Src_Range s a.1 a.2.1, rcS (K := K) sa_play_Src_Range 15 [.tmp 6] [k_play_Src_N] (fk Tryz.f25 [] Tryz.func25)⟩

/-! ### (*trustquorum/trustquorumplay.Src).Trust -/
noncomputable def sa_play_Src_Trust : SA U := annA (scOf Tryz.prog 63 [] Tryz.f23) (.r (.r (.b (.r (.l (.ps (.ownB 5 1 3 1 (Ty.i .i64)) (.ps (.ownB 5 2 36 3 (Ty.st .Trust)) (.j ⟨[.val 6 (Ty.i .i64), .box 0 0 (Ty.st .Src) [], .box 2 1 (Ty.st .Trust) [(1, 4, 1), (2, 5, 1)], .rowb 4 1 3 1 (Ty.i .i64), .rowb 5 1 36 3 (Ty.st .Trust)], [0, 1, 4, 5]⟩ (.l (.r (.j ⟨[.box 0 0 (Ty.st .Src) [], .box 2 1 (Ty.st .Trust) [(1, 4, 1), (2, 5, 1)], .rowb 4 1 3 1 (Ty.i .i64), .rowb 5 1 36 3 (Ty.st .Trust)], [0, 1, 4, 5, 6]⟩ .e)))))))) (.ps (.frzB 5 1) (.j ⟨[.box 0 0 (Ty.st .Src) [], .box 2 1 (Ty.st .Trust) [(2, 5, 1)], .rowb 5 1 36 3 (Ty.st .Trust)], [0, 1, 4, 5]⟩ (.r (.j ⟨[.box 0 0 (Ty.st .Src) [], .box 2 1 (Ty.st .Trust) [(2, 5, 1)], .rowb 5 1 36 3 (Ty.st .Trust)], [0, 4, 5]⟩ (.r (.r (.r (.j ⟨[.box 0 0 (Ty.st .Src) [], .box 2 1 (Ty.st .Trust) [(2, 5, 1)], .rowb 5 1 36 3 (Ty.st .Trust)], [4, 5]⟩ .e)))))))))))
noncomputable def F_play_Src_Trust (s : TSrc) (a0 : Int) : Option (TTrust × TSrc) :=
 loopO (fun (v1 : Int × TSrc × TTrust × (List Int) × (List TTrust) × Unit) =>
 bif (decide (v1.1 < a0)) then
 letJ (fun (v2 : TSrc × TTrust × (List Int) × (List TTrust) × Unit) =>
 some (Sum.inl ((addI .i64 v1.1 (1 : Int)), v2.1, (TTrust.mk v2.2.1.Threshold ([] : List Int) ([] : List TTrust)), v2.2.2.1, v2.2.2.2.1, ()))) fun j3 =>
 Option.bind (F_play_Src_N v1.2.1 (5 : Int)) fun p4 =>
 bif (decide ((0 : Int) < p4.1)) then
 bif lenOk 8 (List.length v1.2.2.2.1 + List.length [v1.1]) then
 j3 (p4.2, (TTrust.mk v1.2.2.1.Threshold ([] : List Int) ([] : List TTrust)), (v1.2.2.2.1 ++ [v1.1]), v1.2.2.2.2.1, ())
 else none
 else
 j3 (p4.2, (TTrust.mk v1.2.2.1.Threshold ([] : List Int) ([] : List TTrust)), v1.2.2.2.1, v1.2.2.2.2.1, ())
 else
 Option.map Sum.inr (letJ (fun (v5 : TSrc × TTrust × (List TTrust) × Unit) =>
 letJ (fun (v7 : TSrc × TTrust × (List TTrust) × Unit) =>
 Option.bind (F_play_Src_Range v7.1 (quoI .i64 (addI .i64 (addI .i64 ((List.length v7.2.1.Nodes : Nat) : Int) ((List.length v7.2.2.1 : Nat) : Int)) (1 : Int)) (2 : Int)) (addI .i64 ((List.length v7.2.1.Nodes : Nat) : Int) ((List.length v7.2.2.1 : Nat) : Int))) fun p9 =>
 letJ (fun (v10 : TSrc × TTrust × (List TTrust) × Unit) =>
 some ((TTrust.mk v10.2.1.Threshold v10.2.1.Nodes v10.2.2.1), v10.1)) fun j11 =>
 Option.bind (F_play_Src_N p9.2 (6 : Int)) fun p12 =>
 bif (decide (p12.1 = (5 : Int))) then
 j11 (p12.2, (TTrust.mk (1 : Int) v7.2.1.Nodes ([] : List TTrust)), v7.2.2.1, ())
 else
 j11 (p12.2, (TTrust.mk p9.1 v7.2.1.Nodes ([] : List TTrust)), v7.2.2.1, ())) fun j8 =>
 Option.bind (F_play_Src_N v5.1 (4 : Int)) fun p13 =>
 bif (decide (p13.1 = (3 : Int))) then
 Option.bind (F_play_Src_N p13.2 a0) fun p14 =>
 bif lenOk 56 (List.length v5.2.2.1 + List.length [(TTrust.mk (1 : Int) [p14.1] ([] : List TTrust))]) then
 j8 (p14.2, (TTrust.mk v5.2.1.Threshold v5.2.1.Nodes ([] : List TTrust)), (v5.2.2.1 ++ [(TTrust.mk (1 : Int) [p14.1] ([] : List TTrust))]), ())
 else none
 else
 j8 (p13.2, (TTrust.mk v5.2.1.Threshold v5.2.1.Nodes ([] : List TTrust)), v5.2.2.1, ())) fun j6 =>
 bif (decide (((List.length v1.2.2.2.1 : Nat) : Int) = (0 : Int))) then
 Option.bind (F_play_Src_N v1.2.1 a0) fun p15 =>
 j6 (p15.2, (TTrust.mk v1.2.2.1.Threshold [p15.1] ([] : List TTrust)), v1.2.2.2.2.1, ())
 else
 j6 (v1.2.1, (TTrust.mk v1.2.2.1.Threshold v1.2.2.2.1 ([] : List TTrust)), v1.2.2.2.2.1, ()))) ((0 : Int), s, (TTrust.mk (0 : Int) ([] : List Int) ([] : List TTrust)), ([] : List Int), ([] : List TTrust), ())
noncomputable def k_play_Src_Trust : KS U Tryz.prog := ⟨.rc 23 0 (Ty.st .Src) [.ty (Ty.i .i64)] (.one (Ty.st .Trust)) fun s a => F_play_Src_Trust s a.1, rcS (K := K) sa_play_Src_Trust 63 [.cell 4 (some 3)] [k_play_Src_N, k_play_Src_Range] (fk Tryz.f23 [] Tryz.func23)⟩

/-! ### (*trustquorum/trustquorumplay.Src).Text -/
noncomputable def sa_play_Src_Text : SA U := annA (scOf Tryz.prog 12 [] Tryz.f95) .e
noncomputable def F_play_Src_Text (s : TSrc) (a0 : (List ByteArray)) : Option (ByteArray × TSrc) :=
 Option.bind (F_play_Src_N s ((List.length a0 : Nat) : Int)) fun p1 =>
 Option.bind (idx a0 p1.1) fun x2 =>
 some (x2, p1.2)
noncomputable def k_play_Src_Text : KS U Tryz.prog := ⟨.rc 95 0 (Ty.st .Src) [.ty (Ty.sl Ty.str)] (.one Ty.str) fun s a => F_play_Src_Text s a.1, rcS (K := K) sa_play_Src_Text 12 [.tmp 4] [k_play_Src_N] (fk Tryz.f95 [] Tryz.func95)⟩

/-! ### (*trustquorum/trustquorumplay.Src).Value -/
noncomputable def sa_play_Src_Value : SA U := annA (scOf Tryz.prog 6 [] Tryz.f24) .e
noncomputable def F_play_Src_Value (s : TSrc)  : Option (ByteArray × TSrc) :=
 Option.bind (F_play_Src_Text s [(ByteArray.mk #[97]), (ByteArray.mk #[98]), (ByteArray.mk #[99]), (ByteArray.mk #[97, 97])]) fun p1 =>
 some (p1.1, p1.2)
noncomputable def k_play_Src_Value : KS U Tryz.prog := ⟨.rc 24 0 (Ty.st .Src) [] (.one Ty.str) fun s a => F_play_Src_Value s , rcS (K := K) sa_play_Src_Value 6 [.tmp 2] [k_play_Src_Text] (fk Tryz.f24 [] Tryz.func24)⟩

/-! ### (*trustquorum/trustquorumplay.Src).Low -/
noncomputable def sa_play_Src_Low : SA U := annA (scOf Tryz.prog 8 [] Tryz.f33) .e
noncomputable def F_play_Src_Low (s : TSrc)  : Option (TBallot × TSrc) :=
 Option.bind (F_play_Src_Range s (1 : Int) (6 : Int)) fun p1 =>
 Option.bind (F_play_Src_Value p1.2) fun p2 =>
 some ((TBallot.mk p1.1 p2.1), p2.2)
noncomputable def k_play_Src_Low : KS U Tryz.prog := ⟨.rc 33 0 (Ty.st .Src) [] (.one (Ty.st .Ballot)) fun s a => F_play_Src_Low s , rcS (K := K) sa_play_Src_Low 8 [.cell 2 (some 2)] [k_play_Src_Range, k_play_Src_Value] (fk Tryz.f33 [] Tryz.func33)⟩

/-! ### trustquorum/trustquorumref02.Depth -/
noncomputable def sa_ref02_Depth : SA U := annA (scOf Tryz.prog 20 [] Tryz.f177) (.r (.r (.l (.r (.l (.j ⟨[.val 3 (Ty.i .i64), .val 9 (Ty.i .i64)], [7, 8]⟩ .e))))))
noncomputable def B_ref02_Depth (rec : (TTrust × Unit) → Option Int) (a0 : TTrust) : Option Int :=
 loopO (fun (v1 : Int × Int × Unit) =>
 bif (decide (v1.2.1 < ((List.length a0.Inner : Nat) : Int))) then
 Option.bind (idx a0.Inner v1.2.1) fun x2 =>
 Option.bind (rec ((TTrust.mk x2.Threshold x2.Nodes x2.Inner), ())) fun r3 =>
 some (Sum.inl ((maxI v1.1 r3), (addI .i64 v1.2.1 (1 : Int)), ()))
 else
 Option.map Sum.inr (some (addI .i64 v1.1 (1 : Int)))) ((0 : Int), (0 : Int), ())
noncomputable def I_ref02_Depth : Nat → (TTrust × Unit) → Option Int := iterF (fun rec a => B_ref02_Depth rec a.1)
noncomputable def F_ref02_Depth (a0 : TTrust) : Option Int := I_ref02_Depth (SizeOf.sizeOf a0 + 1) (a0, ())
noncomputable def k_ref02_Depth : KS U Tryz.prog := ⟨.fn 177 [.ty (Ty.st .Trust)] (.one (Ty.i .i64)) fun a => F_ref02_Depth a.1, fnRS (K := K) («as» := [.ty (Ty.st .Trust)]) (r := .one (Ty.i .i64)) (B := fun rec a => B_ref02_Depth rec a.1) sa_ref02_Depth 20 [.tmp 2] [] (fk Tryz.f177 [] Tryz.func177) (hF := fun a => ⟨_, rfl⟩)⟩

/-! ### trustquorum/trustquorumref02.Size -/
noncomputable def sa_ref02_Size : SA U := annA (scOf Tryz.prog 26 [] Tryz.f178) (.r (.r (.l (.r (.l (.j ⟨[.val 3 (Ty.i .i64), .val 16 (Ty.i .i64)], [14, 15]⟩ .e))))))
noncomputable def B_ref02_Size (rec : (TTrust × Unit) → Option Int) (a0 : TTrust) : Option Int :=
 loopO (fun (v1 : Int × Int × Unit) =>
 bif (decide (v1.2.1 < ((List.length a0.Inner : Nat) : Int))) then
 Option.bind (idx a0.Inner v1.2.1) fun x2 =>
 Option.bind (rec ((TTrust.mk x2.Threshold x2.Nodes x2.Inner), ())) fun r3 =>
 some (Sum.inl ((addI .i64 v1.1 r3), (addI .i64 v1.2.1 (1 : Int)), ()))
 else
 Option.map Sum.inr (some v1.1)) ((addI .i64 ((List.length a0.Nodes : Nat) : Int) ((List.length a0.Inner : Nat) : Int)), (0 : Int), ())
noncomputable def I_ref02_Size : Nat → (TTrust × Unit) → Option Int := iterF (fun rec a => B_ref02_Size rec a.1)
noncomputable def F_ref02_Size (a0 : TTrust) : Option Int := I_ref02_Size (SizeOf.sizeOf a0 + 1) (a0, ())
noncomputable def k_ref02_Size : KS U Tryz.prog := ⟨.fn 178 [.ty (Ty.st .Trust)] (.one (Ty.i .i64)) fun a => F_ref02_Size a.1, fnRS (K := K) («as» := [.ty (Ty.st .Trust)]) (r := .one (Ty.i .i64)) (B := fun rec a => B_ref02_Size rec a.1) sa_ref02_Size 26 [.tmp 2] [] (fk Tryz.f178 [] Tryz.func178) (hF := fun a => ⟨_, rfl⟩)⟩

/-! ### trustquorum/trustquorumref01.Valid -/
noncomputable def sa_ref01_Valid : SA U := annA (scOf Tryz.prog 9 [] Tryz.f167) .e
noncomputable def F_ref01_Valid (a0 : Int) : Option Bool :=
 Option.bind (bif (decide ((0 : Int) ≤ a0)) then
 some (decide (a0 ≤ (1023 : Int)))
 else some false) fun b1 =>
 some b1
noncomputable def k_ref01_Valid : KS U Tryz.prog := ⟨.fn 167 [.ty (Ty.i .i64)] (.one Ty.bool) fun a => F_ref01_Valid a.1, fnS (K := K) sa_ref01_Valid 9 [.tmp 2] [] (fk Tryz.f167 [] Tryz.func167)⟩

/-! ### trustquorum/trustquorumref01.Has -/
noncomputable def sa_ref01_Has : SA U := annA (scOf Tryz.prog 22 [] Tryz.f169) .e
noncomputable def F_ref01_Has (a0 : Int) (a1 : Int) : Option Bool :=
 Option.bind (F_ref01_Valid a0) fun r1 =>
 Option.bind (bif r1 then
 some (decide ((0 : Int) ≤ a1))
 else some false) fun b2 =>
 Option.bind (bif b2 then
 some (decide (a1 < (10 : Int)))
 else some false) fun b3 =>
 Option.bind (bif b3 then
 if a1 < 0 then none else
 some (decide ((andI .i64 (shrI .i64 a0 a1) (1 : Int)) = (1 : Int)))
 else some false) fun b4 =>
 some b4
noncomputable def k_ref01_Has : KS U Tryz.prog := ⟨.fn 169 [.ty (Ty.i .i64), .ty (Ty.i .i64)] (.one Ty.bool) fun a => F_ref01_Has a.1 a.2.1, fnS (K := K) sa_ref01_Has 22 [.tmp 4] [k_ref01_Valid] (fk Tryz.f169 [] Tryz.func169)⟩

/-! ### trustquorum/trustquorumref01.Of -/
noncomputable def sa_ref01_Of : SA U := annA (scOf Tryz.prog 28 [] Tryz.f199) (.r (.r (.l (.r (.l (.j ⟨[.val 4 (Ty.i .i64), .val 9 (Ty.i .i64)], [7, 8]⟩ .e))))))
noncomputable def F_ref01_Of (a0 : (List Int)) : Option (Int × Int × Unit) :=
 loopO (fun (v1 : Int × Int × Unit) =>
 bif (decide (v1.2.1 < ((List.length a0 : Nat) : Int))) then
 Option.bind (idx a0 v1.2.1) fun x2 =>
 Option.bind (bif (decide (x2 < (0 : Int))) then some true
 else
 some (decide ((10 : Int) ≤ x2))) fun b3 =>
 bif b3 then
 Option.map Sum.inr (some ((0 : Int), (5 : Int), ()))
 else
 Option.bind (F_ref01_Has v1.1 x2) fun r4 =>
 bif r4 then
 Option.map Sum.inr (some ((0 : Int), (6 : Int), ()))
 else
 if x2 < 0 then none else
 some (Sum.inl ((orI .i64 v1.1 (shlI .i64 (1 : Int) x2)), (addI .i64 v1.2.1 (1 : Int)), ()))
 else
 Option.map Sum.inr (some (v1.1, (0 : Int), ()))) ((0 : Int), (0 : Int), ())
noncomputable def k_ref01_Of : KS U Tryz.prog := ⟨.fn 199 [.ty (Ty.sl (Ty.i .i64))] (.many [(Ty.i .i64), (Ty.i .i64)]) fun a => F_ref01_Of a.1, fnS (K := K) sa_ref01_Of 28 [.tmp 2, .tmp 3] [k_ref01_Has] (fk Tryz.f199 [] Tryz.func199)⟩

/-! ### trustquorum/trustquorumref02.check -/
noncomputable def sa_ref02_check : SA U := annA (scOf Tryz.prog 61 [] Tryz.f179) (.r (.r (.b (.r (.l (.j ⟨[.val 28 (Ty.i .i64)], [1, 26, 27]⟩ .e))) (.r (.l (.r (.l (.j ⟨[.val 51 (Ty.i .i64)], [49, 50]⟩ .e))))))))
noncomputable def B_ref02_check (rec : (TTrust × Unit) → Option Int) (a0 : TTrust) : Option Int :=
 Option.bind (bif (decide (a0.Threshold < (1 : Int))) then some true
 else
 some (decide ((addI .i64 ((List.length a0.Nodes : Nat) : Int) ((List.length a0.Inner : Nat) : Int)) < a0.Threshold))) fun b1 =>
 bif b1 then
 some (4 : Int)
 else
 loopO (fun (v2 : Int × Unit) =>
 bif (decide (v2.1 < ((List.length a0.Nodes : Nat) : Int))) then
 Option.bind (idx a0.Nodes v2.1) fun x3 =>
 Option.bind (bif (decide (x3 < (0 : Int))) then some true
 else
 some (decide ((10 : Int) ≤ x3))) fun b4 =>
 bif b4 then
 Option.map Sum.inr (some (5 : Int))
 else
 some (Sum.inl ((addI .i64 v2.1 (1 : Int)), ()))
 else
 Option.map Sum.inr (Option.bind (F_ref01_Of a0.Nodes) fun r5 =>
 bif (!decide (r5.2.1 = (0 : Int))) then
 some r5.2.1
 else
 loopO (fun (v6 : Int × Unit) =>
 bif (decide (v6.1 < ((List.length a0.Inner : Nat) : Int))) then
 Option.bind (idx a0.Inner v6.1) fun x7 =>
 Option.bind (rec ((TTrust.mk x7.Threshold x7.Nodes x7.Inner), ())) fun r8 =>
 bif (!decide (r8 = (0 : Int))) then
 Option.map Sum.inr (some r8)
 else
 some (Sum.inl ((addI .i64 v6.1 (1 : Int)), ()))
 else
 Option.map Sum.inr (some (0 : Int))) ((0 : Int), ()))) ((0 : Int), ())
noncomputable def I_ref02_check : Nat → (TTrust × Unit) → Option Int := iterF (fun rec a => B_ref02_check rec a.1)
noncomputable def F_ref02_check (a0 : TTrust) : Option Int := I_ref02_check (SizeOf.sizeOf a0 + 1) (a0, ())
noncomputable def k_ref02_check : KS U Tryz.prog := ⟨.fn 179 [.ty (Ty.st .Trust)] (.one (Ty.i .i64)) fun a => F_ref02_check a.1, fnRS (K := K) («as» := [.ty (Ty.st .Trust)]) (r := .one (Ty.i .i64)) (B := fun rec a => B_ref02_check rec a.1) sa_ref02_check 61 [.tmp 2] [k_ref01_Of] (fk Tryz.f179 [] Tryz.func179) (hF := fun a => ⟨_, rfl⟩)⟩

/-! ### trustquorum/trustquorumref02.Valid -/
noncomputable def sa_ref02_Valid : SA U := annA (scOf Tryz.prog 13 [] Tryz.f139) .e
noncomputable def F_ref02_Valid (a0 : TTrust) : Option Int :=
 Option.bind (F_ref02_Depth (TTrust.mk a0.Threshold a0.Nodes a0.Inner)) fun r1 =>
 Option.bind (bif (decide ((4 : Int) < r1)) then some true
 else
 Option.bind (F_ref02_Size (TTrust.mk a0.Threshold a0.Nodes a0.Inner)) fun r2 =>
 some (decide ((200 : Int) < r2))) fun b3 =>
 bif b3 then
 some (3 : Int)
 else
 Option.bind (F_ref02_check (TTrust.mk a0.Threshold a0.Nodes a0.Inner)) fun r4 =>
 some r4
noncomputable def k_ref02_Valid : KS U Tryz.prog := ⟨.fn 139 [.ty (Ty.st .Trust)] (.one (Ty.i .i64)) fun a => F_ref02_Valid a.1, fnS (K := K) sa_ref02_Valid 13 [.tmp 2] [k_ref02_Depth, k_ref02_Size, k_ref02_check] (fk Tryz.f139 [] Tryz.func139)⟩

/-! ### trustquorum/trustquorumref23.Valid -/
noncomputable def sa_ref23_Valid : SA U := annA (scOf Tryz.prog 28 [] Tryz.f140) .e
noncomputable def F_ref23_Valid (a0 : TBallot) : Option Bool :=
 Option.bind (bif (decide ((1 : Int) ≤ a0.Counter)) then
 some (decide (a0.Counter ≤ (1000 : Int)))
 else some false) fun b1 =>
 Option.bind (bif b1 then some true
 else
 some (decide (a0.Counter = (1000000 : Int)))) fun b2 =>
 Option.bind (bif b2 then
 some (decide ((1 : Int) ≤ ((ByteArray.size a0.Value : Nat) : Int)))
 else some false) fun b3 =>
 Option.bind (bif b3 then
 some (decide (((ByteArray.size a0.Value : Nat) : Int) ≤ (200 : Int)))
 else some false) fun b4 =>
 some b4
noncomputable def k_ref23_Valid : KS U Tryz.prog := ⟨.fn 140 [.ty (Ty.st .Ballot)] (.one Ty.bool) fun a => F_ref23_Valid a.1, fnS (K := K) sa_ref23_Valid 28 [.tmp 2] [] (fk Tryz.f140 [] Tryz.func140)⟩

/-! ### trustquorum/trustquorumref23.Zero -/
noncomputable def sa_ref23_Zero : SA U := annA (scOf Tryz.prog 6 [] Tryz.f39) .e
noncomputable def F_ref23_Zero (a0 : TBallot) : Option Bool :=
 some (eq2 false a0.Counter (0 : Int) a0.Value (ByteArray.mk #[]))
noncomputable def k_ref23_Zero : KS U Tryz.prog := ⟨.fn 39 [.ty (Ty.st .Ballot)] (.one Ty.bool) fun a => F_ref23_Zero a.1, fnS (K := K) sa_ref23_Zero 6 [.tmp 2] [] (fk Tryz.f39 [] Tryz.func39)⟩

/-! ### trustquorum/trustquorumref23.LessValue -/
noncomputable def sa_ref23_LessValue : SA U := annA (scOf Tryz.prog 18 [] Tryz.f18) .e
noncomputable def F_ref23_LessValue (a0 : ByteArray) (a1 : ByteArray) : Option Bool :=
 bif (!decide (((ByteArray.size a0 : Nat) : Int) = ((ByteArray.size a1 : Nat) : Int))) then
 some (decide (((ByteArray.size a0 : Nat) : Int) < ((ByteArray.size a1 : Nat) : Int)))
 else
 some (sless a0 a1)
noncomputable def k_ref23_LessValue : KS U Tryz.prog := ⟨.fn 18 [.ty Ty.str, .ty Ty.str] (.one Ty.bool) fun a => F_ref23_LessValue a.1 a.2.1, fnS (K := K) sa_ref23_LessValue 18 [.tmp 4] [] (fk Tryz.f18 [] Tryz.func18)⟩

/-! ### trustquorum/trustquorumref23.Less -/
noncomputable def sa_ref23_Less : SA U := annA (scOf Tryz.prog 20 [] Tryz.f15) .e
noncomputable def F_ref23_Less (a0 : TBallot) (a1 : TBallot) : Option Bool :=
 bif (!decide (a0.Counter = a1.Counter)) then
 some (decide (a0.Counter < a1.Counter))
 else
 Option.bind (F_ref23_LessValue a0.Value a1.Value) fun r1 =>
 some r1
noncomputable def k_ref23_Less : KS U Tryz.prog := ⟨.fn 15 [.ty (Ty.st .Ballot), .ty (Ty.st .Ballot)] (.one Ty.bool) fun a => F_ref23_Less a.1 a.2.1, fnS (K := K) sa_ref23_Less 20 [.tmp 4] [k_ref23_LessValue] (fk Tryz.f15 [] Tryz.func15)⟩

/-! ### trustquorum/trustquorumref23.Compatible -/
noncomputable def sa_ref23_Compatible : SA U := annA (scOf Tryz.prog 10 [] Tryz.f106) .e
noncomputable def F_ref23_Compatible (a0 : TBallot) (a1 : TBallot) : Option Bool :=
 some (decide (a0.Value = a1.Value))
noncomputable def k_ref23_Compatible : KS U Tryz.prog := ⟨.fn 106 [.ty (Ty.st .Ballot), .ty (Ty.st .Ballot)] (.one Ty.bool) fun a => F_ref23_Compatible a.1 a.2.1, fnS (K := K) sa_ref23_Compatible 10 [.tmp 4] [] (fk Tryz.f106 [] Tryz.func106)⟩

/-! ### trustquorum/trustquorumref23.Covers -/
noncomputable def sa_ref23_Covers : SA U := annA (scOf Tryz.prog 20 [] Tryz.f112) .e
noncomputable def F_ref23_Covers (a0 : TBallot) (a1 : TBallot) : Option Bool :=
 Option.bind (F_ref23_Zero a0) fun r1 =>
 Option.bind (bif (!r1) then
 Option.bind (F_ref23_Compatible a0 a1) fun r2 =>
 some r2
 else some false) fun b3 =>
 Option.bind (bif b3 then
 some (decide (a1.Counter ≤ a0.Counter))
 else some false) fun b4 =>
 some b4
noncomputable def k_ref23_Covers : KS U Tryz.prog := ⟨.fn 112 [.ty (Ty.st .Ballot), .ty (Ty.st .Ballot)] (.one Ty.bool) fun a => F_ref23_Covers a.1 a.2.1, fnS (K := K) sa_ref23_Covers 20 [.tmp 4] [k_ref23_Zero, k_ref23_Compatible] (fk Tryz.f112 [] Tryz.func112)⟩

/-! ### trustquorum/trustquorumref23.Prepares -/
noncomputable def sa_ref23_Prepares : SA U := annA (scOf Tryz.prog 25 [] Tryz.f40) .e
noncomputable def F_ref23_Prepares (a0 : TBallot) (a1 : TBallot) (a2 : TBallot) : Option Bool :=
 Option.bind (F_ref23_Covers a0 a2) fun r1 =>
 Option.bind (bif r1 then some true
 else
 Option.bind (F_ref23_Covers a1 a2) fun r2 =>
 some r2) fun b3 =>
 Option.bind (bif b3 then some true
 else
 Option.bind (F_ref23_Zero a1) fun r4 =>
 Option.bind (bif (!r4) then
 Option.bind (F_ref23_Less a2 a1) fun r5 =>
 some r5
 else some false) fun b6 =>
 some b6) fun b7 =>
 some b7
noncomputable def k_ref23_Prepares : KS U Tryz.prog := ⟨.fn 40 [.ty (Ty.st .Ballot), .ty (Ty.st .Ballot), .ty (Ty.st .Ballot)] (.one Ty.bool) fun a => F_ref23_Prepares a.1 a.2.1 a.2.2.1, fnS (K := K) sa_ref23_Prepares 25 [.tmp 6] [k_ref23_Covers, k_ref23_Zero, k_ref23_Less] (fk Tryz.f40 [] Tryz.func40)⟩

/-! ### trustquorum/trustquorumref23.Aborts -/
noncomputable def sa_ref23_Aborts : SA U := annA (scOf Tryz.prog 19 [] Tryz.f141) .e
noncomputable def F_ref23_Aborts (a0 : TBallot) (a1 : TBallot) : Option Bool :=
 Option.bind (F_ref23_Zero a0) fun r1 =>
 Option.bind (bif (!r1) then
 Option.bind (F_ref23_Compatible a0 a1) fun r2 =>
 some (!r2)
 else some false) fun b3 =>
 Option.bind (bif b3 then
 Option.bind (F_ref23_Less a1 a0) fun r4 =>
 some r4
 else some false) fun b5 =>
 some b5
noncomputable def k_ref23_Aborts : KS U Tryz.prog := ⟨.fn 141 [.ty (Ty.st .Ballot), .ty (Ty.st .Ballot)] (.one Ty.bool) fun a => F_ref23_Aborts a.1 a.2.1, fnS (K := K) sa_ref23_Aborts 19 [.tmp 4] [k_ref23_Zero, k_ref23_Compatible, k_ref23_Less] (fk Tryz.f141 [] Tryz.func141)⟩

/-! ### trustquorum/trustquorumref24.Valid -/
noncomputable def sa_ref24_Valid : SA U := annA (scOf Tryz.prog 227 [] Tryz.f76) .e
noncomputable def F_ref24_Valid (a0 : TEnvelope) : Option Bool :=
 Option.bind (bif (decide (a0.Node < (0 : Int))) then some true
 else
 some (decide ((9 : Int) < a0.Node))) fun b1 =>
 Option.bind (bif b1 then some true
 else
 some (decide (a0.Slot < (1 : Int)))) fun b2 =>
 Option.bind (bif b2 then some true
 else
 some (decide ((1000000 : Int) < a0.Slot))) fun b3 =>
 Option.bind (bif b3 then some true
 else
 some (decide (a0.Seq < (1 : Int)))) fun b4 =>
 Option.bind (bif b4 then some true
 else
 some (decide ((1000000 : Int) < a0.Seq))) fun b5 =>
 Option.bind (bif b5 then some true
 else
 Option.bind (F_ref02_Valid (TTrust.mk a0.Trust.Threshold a0.Trust.Nodes a0.Trust.Inner)) fun r6 =>
 some (!decide (r6 = (0 : Int)))) fun b7 =>
 Option.bind (bif b7 then some true
 else
 Option.bind (F_ref23_Valid a0.Ballot) fun r8 =>
 some (!r8)) fun b9 =>
 bif b9 then
 some false
 else
 Option.bind (F_ref23_Zero a0.Prepared) fun r10 =>
 bif (decide (a0.Kind = (1 : Int))) then
 Option.bind (bif (decide ((1000 : Int) < a0.Ballot.Counter)) then some true
 else
 Option.bind (bif (!r10) then
 Option.bind (F_ref23_Valid a0.Prepared) fun r11 =>
 some (!r11)
 else some false) fun b12 =>
 some b12) fun b13 =>
 bif b13 then
 some false
 else
 Option.bind (F_ref23_Zero a0.Prime) fun r14 =>
 Option.bind (bif (!r14) then
 Option.bind (bif r10 then some true
 else
 Option.bind (F_ref23_Valid a0.Prime) fun r15 =>
 some (!r15)) fun b16 =>
 Option.bind (bif b16 then some true
 else
 Option.bind (F_ref23_Less a0.Prime a0.Prepared) fun r17 =>
 some (!r17)) fun b18 =>
 Option.bind (bif b18 then some true
 else
 Option.bind (F_ref23_Compatible a0.Prime a0.Prepared) fun r19 =>
 some r19) fun b20 =>
 some b20
 else some false) fun b21 =>
 bif b21 then
 some false
 else
 Option.bind (bif (decide (a0.Low < (0 : Int))) then some true
 else
 some (decide (a0.High < a0.Low))) fun b22 =>
 Option.bind (bif b22 then some true
 else
 some (decide (a0.Ballot.Counter < a0.High))) fun b23 =>
 bif b23 then
 some false
 else
 Option.bind (bif (decide ((0 : Int) < a0.High)) then
 Option.bind (F_ref23_Prepares a0.Prepared a0.Prime (TBallot.mk a0.High a0.Ballot.Value)) fun r24 =>
 some (!r24)
 else some false) fun b25 =>
 bif b25 then
 some false
 else
 Option.bind (bif (decide (a0.Low = (0 : Int))) then some true
 else
 Option.bind (F_ref23_Aborts a0.Prepared (TBallot.mk a0.Low a0.Ballot.Value)) fun r26 =>
 Option.bind (bif (!r26) then
 Option.bind (F_ref23_Aborts a0.Prime (TBallot.mk a0.Low a0.Ballot.Value)) fun r27 =>
 some (!r27)
 else some false) fun b28 =>
 some b28) fun b29 =>
 some b29
 else
 bif (decide (a0.Kind = (2 : Int))) then
 Option.bind (bif (decide (a0.Ballot.Counter ≤ (1000 : Int))) then
 Option.bind (F_ref23_Valid a0.Prepared) fun r30 =>
 some r30
 else some false) fun b31 =>
 Option.bind (bif b31 then
 Option.bind (F_ref23_Compatible a0.Prepared a0.Ballot) fun r32 =>
 some r32
 else some false) fun b33 =>
 Option.bind (bif b33 then
 Option.bind (F_ref23_Zero a0.Prime) fun r34 =>
 some r34
 else some false) fun b35 =>
 Option.bind (bif b35 then
 some (decide ((1 : Int) ≤ a0.Low))
 else some false) fun b36 =>
 Option.bind (bif b36 then
 some (decide (a0.Low ≤ a0.High))
 else some false) fun b37 =>
 Option.bind (bif b37 then
 some (decide (a0.High ≤ a0.Prepared.Counter))
 else some false) fun b38 =>
 Option.bind (bif b38 then
 some (decide (a0.High ≤ (1000 : Int)))
 else some false) fun b39 =>
 some b39
 else
 bif (decide (a0.Kind = (3 : Int))) then
 Option.bind (bif r10 then
 Option.bind (F_ref23_Zero a0.Prime) fun r40 =>
 some r40
 else some false) fun b41 =>
 Option.bind (bif b41 then
 some (decide ((1 : Int) ≤ a0.Low))
 else some false) fun b42 =>
 Option.bind (bif b42 then
 some (decide (a0.Low ≤ a0.High))
 else some false) fun b43 =>
 Option.bind (bif b43 then
 some (decide (a0.High ≤ (1000 : Int)))
 else some false) fun b44 =>
 some b44
 else
 some false
noncomputable def k_ref24_Valid : KS U Tryz.prog := ⟨.fn 76 [.ty (Ty.st .Envelope)] (.one Ty.bool) fun a => F_ref24_Valid a.1, fnS (K := K) sa_ref24_Valid 227 [.tmp 2] [k_ref02_Valid, k_ref23_Valid, k_ref23_Zero, k_ref23_Less, k_ref23_Compatible, k_ref23_Prepares, k_ref23_Aborts] (fk Tryz.f76 [] Tryz.func76)⟩

/-! ### (*trustquorum/trustquorumplay.Src).Envelope -/
noncomputable def sa_play_Src_Envelope : SA U := annA (scOf Tryz.prog 113 [] Tryz.f70) (.r (.r (.r (.j ⟨[.box 0 0 (Ty.st .Src) [], .box 10 1 (Ty.st .Envelope) []], [8, 9]⟩ (.l (.r (.l (.j ⟨[.box 0 0 (Ty.st .Src) [], .box 10 1 (Ty.st .Envelope) []], [0, 8, 9, 10]⟩ (.r (.j ⟨[.box 0 0 (Ty.st .Src) [], .box 10 1 (Ty.st .Envelope) []], [8, 9]⟩ (.l (.r (.j ⟨[.box 0 0 (Ty.st .Src) [], .box 10 1 (Ty.st .Envelope) []], [0, 8, 9]⟩ (.r (.r (.r (.j ⟨[.box 10 1 (Ty.st .Envelope) []], [8, 9]⟩ (.r (.j ⟨[.box 10 1 (Ty.st .Envelope) []], [8, 9]⟩ .e)))))))))))))))))))
noncomputable def F_play_Src_Envelope (s : TSrc) (a0 : Int) (a1 : Int) (a2 : Int) : Option (TEnvelope × TSrc) :=
 Option.bind (F_play_Src_Range s (1 : Int) (9 : Int)) fun p1 =>
 Option.bind (F_play_Src_Trust p1.2 a2) fun p2 =>
 Option.bind (F_play_Src_Value p2.2) fun p3 =>
 letJ (fun (v4 : TSrc × TEnvelope × Unit) =>
 some ((TEnvelope.mk v4.2.1.Node v4.2.1.Slot v4.2.1.Seq (TTrust.mk v4.2.1.Trust.Threshold v4.2.1.Trust.Nodes v4.2.1.Trust.Inner) v4.2.1.Kind v4.2.1.Ballot v4.2.1.Prepared v4.2.1.Prime v4.2.1.Low v4.2.1.High), v4.1)) fun j5 =>
 Option.bind (F_play_Src_N p3.2 (4 : Int)) fun p6 =>
 letJ (fun (v7 : TSrc × TEnvelope × Unit) =>
 letJ (fun (v9 : TSrc × TEnvelope × Unit) =>
 j5 (v9.1, (TEnvelope.mk v9.2.1.Node v9.2.1.Slot v9.2.1.Seq (TTrust.mk v9.2.1.Trust.Threshold v9.2.1.Trust.Nodes v9.2.1.Trust.Inner) v9.2.1.Kind v9.2.1.Ballot v9.2.1.Prepared v9.2.1.Prime v9.2.1.Low v9.2.1.High), ())) fun j10 =>
 Option.bind (F_play_Src_Range v7.1 (1 : Int) (7 : Int)) fun p11 =>
 letJ (fun (v12 : TSrc × TEnvelope × Unit) =>
 Option.bind (F_play_Src_N v12.1 (addI .i64 v12.2.1.Ballot.Counter (1 : Int))) fun p14 =>
 Option.bind (F_play_Src_N p14.2 (addI .i64 p14.1 (1 : Int))) fun p15 =>
 letJ (fun (v16 : TEnvelope × Unit) =>
 letJ (fun (v18 : TEnvelope × Unit) =>
 Option.bind (F_ref24_Valid (TEnvelope.mk v18.1.Node v18.1.Slot v18.1.Seq (TTrust.mk v18.1.Trust.Threshold v18.1.Trust.Nodes v18.1.Trust.Inner) v18.1.Kind v18.1.Ballot v18.1.Prepared v18.1.Prime v18.1.Low v18.1.High)) fun r20 =>
 bif (!r20) then
 j10 (p15.2, (TEnvelope.mk v18.1.Node v18.1.Slot v18.1.Seq (TTrust.mk v18.1.Trust.Threshold v18.1.Trust.Nodes v18.1.Trust.Inner) v18.1.Kind v18.1.Ballot v18.1.Prepared (TBallot.mk (0 : Int) (ByteArray.mk #[])) v18.1.Low v18.1.High), ())
 else
 j10 (p15.2, (TEnvelope.mk v18.1.Node v18.1.Slot v18.1.Seq (TTrust.mk v18.1.Trust.Threshold v18.1.Trust.Nodes v18.1.Trust.Inner) v18.1.Kind v18.1.Ballot v18.1.Prepared v18.1.Prime v18.1.Low v18.1.High), ())) fun j19 =>
 Option.bind (F_ref24_Valid (TEnvelope.mk v16.1.Node v16.1.Slot v16.1.Seq (TTrust.mk v16.1.Trust.Threshold v16.1.Trust.Nodes v16.1.Trust.Inner) v16.1.Kind v16.1.Ballot v16.1.Prepared v16.1.Prime v16.1.Low v16.1.High)) fun r21 =>
 bif (!r21) then
 j19 ((TEnvelope.mk v16.1.Node v16.1.Slot v16.1.Seq (TTrust.mk v16.1.Trust.Threshold v16.1.Trust.Nodes v16.1.Trust.Inner) v16.1.Kind v16.1.Ballot v16.1.Prepared v16.1.Prime v16.1.Low (0 : Int)), ())
 else
 j19 ((TEnvelope.mk v16.1.Node v16.1.Slot v16.1.Seq (TTrust.mk v16.1.Trust.Threshold v16.1.Trust.Nodes v16.1.Trust.Inner) v16.1.Kind v16.1.Ballot v16.1.Prepared v16.1.Prime v16.1.Low v16.1.High), ())) fun j17 =>
 Option.bind (F_ref24_Valid (TEnvelope.mk v12.2.1.Node v12.2.1.Slot v12.2.1.Seq (TTrust.mk v12.2.1.Trust.Threshold v12.2.1.Trust.Nodes v12.2.1.Trust.Inner) v12.2.1.Kind v12.2.1.Ballot v12.2.1.Prepared v12.2.1.Prime p15.1 p14.1)) fun r22 =>
 bif (!r22) then
 j17 ((TEnvelope.mk v12.2.1.Node v12.2.1.Slot v12.2.1.Seq (TTrust.mk v12.2.1.Trust.Threshold v12.2.1.Trust.Nodes v12.2.1.Trust.Inner) v12.2.1.Kind v12.2.1.Ballot v12.2.1.Prepared v12.2.1.Prime (0 : Int) p14.1), ())
 else
 j17 ((TEnvelope.mk v12.2.1.Node v12.2.1.Slot v12.2.1.Seq (TTrust.mk v12.2.1.Trust.Threshold v12.2.1.Trust.Nodes v12.2.1.Trust.Inner) v12.2.1.Kind v12.2.1.Ballot v12.2.1.Prepared v12.2.1.Prime p15.1 p14.1), ())) fun j13 =>
 Option.bind (F_play_Src_N p11.2 (3 : Int)) fun p23 =>
 bif (decide ((0 : Int) < p23.1)) then
 Option.bind (F_play_Src_Low p23.2) fun p24 =>
 Option.bind (F_play_Src_N p24.2 (2 : Int)) fun p25 =>
 bif (decide (p25.1 = (1 : Int))) then
 Option.bind (F_play_Src_Low p25.2) fun p26 =>
 j13 (p26.2, (TEnvelope.mk v7.2.1.Node v7.2.1.Slot v7.2.1.Seq (TTrust.mk v7.2.1.Trust.Threshold v7.2.1.Trust.Nodes v7.2.1.Trust.Inner) (1 : Int) (TBallot.mk p11.1 p3.1) p24.1 p26.1 v7.2.1.Low v7.2.1.High), ())
 else
 j13 (p25.2, (TEnvelope.mk v7.2.1.Node v7.2.1.Slot v7.2.1.Seq (TTrust.mk v7.2.1.Trust.Threshold v7.2.1.Trust.Nodes v7.2.1.Trust.Inner) (1 : Int) (TBallot.mk p11.1 p3.1) p24.1 v7.2.1.Prime v7.2.1.Low v7.2.1.High), ())
 else
 j13 (p23.2, (TEnvelope.mk v7.2.1.Node v7.2.1.Slot v7.2.1.Seq (TTrust.mk v7.2.1.Trust.Threshold v7.2.1.Trust.Nodes v7.2.1.Trust.Inner) (1 : Int) (TBallot.mk p11.1 p3.1) v7.2.1.Prepared v7.2.1.Prime v7.2.1.Low v7.2.1.High), ())) fun j8 =>
 bif (decide (p6.1 = (0 : Int))) then
 Option.bind (F_play_Src_Range p6.2 (1 : Int) (7 : Int)) fun p27 =>
 Option.bind (F_play_Src_Range p27.2 (1 : Int) (4 : Int)) fun p28 =>
 Option.bind (F_play_Src_N p28.2 (3 : Int)) fun p29 =>
 Option.bind (F_play_Src_N p29.2 (3 : Int)) fun p30 =>
 j5 (p30.2, (TEnvelope.mk a0 a1 p1.1 (TTrust.mk p2.1.Threshold p2.1.Nodes p2.1.Inner) (2 : Int) (TBallot.mk p27.1 p3.1) (TBallot.mk (addI .i64 (addI .i64 p28.1 p29.1) p30.1) p3.1) (TBallot.mk (0 : Int) (ByteArray.mk #[])) p28.1 (addI .i64 p28.1 p29.1)), ())
 else
 bif (decide (p6.1 = (1 : Int))) then
 Option.bind (F_play_Src_N p6.2 (3 : Int)) fun p31 =>
 bif (decide ((0 : Int) < p31.1)) then
 Option.bind (F_play_Src_Range p31.2 (1 : Int) (7 : Int)) fun p32 =>
 Option.bind (F_play_Src_Range p32.2 (1 : Int) (4 : Int)) fun p33 =>
 Option.bind (F_play_Src_N p33.2 (3 : Int)) fun p34 =>
 j5 (p34.2, (TEnvelope.mk a0 a1 p1.1 (TTrust.mk p2.1.Threshold p2.1.Nodes p2.1.Inner) (3 : Int) (TBallot.mk p32.1 p3.1) (TBallot.mk (0 : Int) (ByteArray.mk #[])) (TBallot.mk (0 : Int) (ByteArray.mk #[])) p33.1 (addI .i64 p33.1 p34.1)), ())
 else
 j8 (p31.2, (TEnvelope.mk a0 a1 p1.1 (TTrust.mk p2.1.Threshold p2.1.Nodes p2.1.Inner) (0 : Int) (TBallot.mk (0 : Int) (ByteArray.mk #[])) (TBallot.mk (0 : Int) (ByteArray.mk #[])) (TBallot.mk (0 : Int) (ByteArray.mk #[])) (0 : Int) (0 : Int)), ())
 else
 j8 (p6.2, (TEnvelope.mk a0 a1 p1.1 (TTrust.mk p2.1.Threshold p2.1.Nodes p2.1.Inner) (0 : Int) (TBallot.mk (0 : Int) (ByteArray.mk #[])) (TBallot.mk (0 : Int) (ByteArray.mk #[])) (TBallot.mk (0 : Int) (ByteArray.mk #[])) (0 : Int) (0 : Int)), ())
noncomputable def k_play_Src_Envelope : KS U Tryz.prog := ⟨.rc 70 0 (Ty.st .Src) [.ty (Ty.i .i64), .ty (Ty.i .i64), .ty (Ty.i .i64)] (.one (Ty.st .Envelope)) fun s a => F_play_Src_Envelope s a.1 a.2.1 a.2.2.1, rcS (K := K) sa_play_Src_Envelope 113 [.cell 8 (some 15)] [k_play_Src_Range, k_play_Src_Trust, k_play_Src_Value, k_play_Src_N, k_play_Src_Low, k_ref24_Valid] (fk Tryz.f70 [] Tryz.func70)⟩

/-! ### (*trustquorum/trustquorumplay.Src).Envelopes -/
noncomputable def sa_play_Src_Envelopes : SA U := annA (scOf Tryz.prog 26 [] Tryz.f12) (.r (.r (.l (.r (.l (.ps (.own 7 38 15 (Ty.st .Envelope)) (.j ⟨[.val 8 (Ty.i .i64), .own 7 4 1 38 15 (Ty.st .Envelope), .box 0 0 (Ty.st .Src) []], [0, 1, 2]⟩ (.l (.r (.j ⟨[.own 7 4 1 38 15 (Ty.st .Envelope), .box 0 0 (Ty.st .Src) []], [0, 1, 2, 8]⟩ .e))))))))))
noncomputable def F_play_Src_Envelopes (s : TSrc) (a0 : Int) (a1 : Int) : Option ((List TEnvelope) × TSrc) :=
 loopO (fun (v1 : Int × (List TEnvelope) × TSrc × Unit) =>
 bif (decide (v1.1 < a0)) then
 letJ (fun (v2 : (List TEnvelope) × TSrc × Unit) =>
 some (Sum.inl ((addI .i64 v1.1 (1 : Int)), v2.1, v2.2.1, ()))) fun j3 =>
 Option.bind (F_play_Src_N v1.2.2.1 (4 : Int)) fun p4 =>
 bif (decide ((0 : Int) < p4.1)) then
 Option.bind (F_play_Src_Envelope p4.2 v1.1 a1 a0) fun p5 =>
 bif lenOk 176 (List.length v1.2.1 + List.length [(TEnvelope.mk p5.1.Node p5.1.Slot p5.1.Seq (TTrust.mk p5.1.Trust.Threshold p5.1.Trust.Nodes p5.1.Trust.Inner) p5.1.Kind p5.1.Ballot p5.1.Prepared p5.1.Prime p5.1.Low p5.1.High)]) then
 j3 ((v1.2.1 ++ [(TEnvelope.mk p5.1.Node p5.1.Slot p5.1.Seq (TTrust.mk p5.1.Trust.Threshold p5.1.Trust.Nodes p5.1.Trust.Inner) p5.1.Kind p5.1.Ballot p5.1.Prepared p5.1.Prime p5.1.Low p5.1.High)]), p5.2, ())
 else none
 else
 j3 (v1.2.1, p4.2, ())
 else
 Option.map Sum.inr (some (v1.2.1, v1.2.2.1))) ((0 : Int), ([] : List TEnvelope), s, ())
noncomputable def k_play_Src_Envelopes : KS U Tryz.prog := ⟨.rc 12 0 (Ty.st .Src) [.ty (Ty.i .i64), .ty (Ty.i .i64)] (.one (Ty.sl (Ty.st .Envelope))) fun s a => F_play_Src_Envelopes s a.1 a.2.1, rcS (K := K) sa_play_Src_Envelopes 26 [.tmp 6] [k_play_Src_N, k_play_Src_Envelope] (fk Tryz.f12 [] Tryz.func12)⟩

/-! ### trustquorum/threshold.Depth -/
noncomputable def sa_threshold_Depth : SA U := annA (scOf Tryz.prog 20 [] Tryz.f173) (.r (.r (.l (.r (.l (.j ⟨[.val 3 (Ty.i .i64), .val 9 (Ty.i .i64)], [7, 8]⟩ .e))))))
noncomputable def B_threshold_Depth (rec : (TTrust × Unit) → Option Int) (a0 : TTrust) : Option Int :=
 loopO (fun (v1 : Int × Int × Unit) =>
 bif (decide (v1.2.1 < ((List.length a0.Inner : Nat) : Int))) then
 Option.bind (idx a0.Inner v1.2.1) fun x2 =>
 Option.bind (rec ((TTrust.mk x2.Threshold x2.Nodes x2.Inner), ())) fun r3 =>
 some (Sum.inl ((maxI v1.1 r3), (addI .i64 v1.2.1 (1 : Int)), ()))
 else
 Option.map Sum.inr (some (addI .i64 v1.1 (1 : Int)))) ((0 : Int), (0 : Int), ())
noncomputable def I_threshold_Depth : Nat → (TTrust × Unit) → Option Int := iterF (fun rec a => B_threshold_Depth rec a.1)
noncomputable def F_threshold_Depth (a0 : TTrust) : Option Int := I_threshold_Depth (SizeOf.sizeOf a0 + 1) (a0, ())
noncomputable def k_threshold_Depth : KS U Tryz.prog := ⟨.fn 173 [.ty (Ty.st .Trust)] (.one (Ty.i .i64)) fun a => F_threshold_Depth a.1, fnRS (K := K) («as» := [.ty (Ty.st .Trust)]) (r := .one (Ty.i .i64)) (B := fun rec a => B_threshold_Depth rec a.1) sa_threshold_Depth 20 [.tmp 2] [] (fk Tryz.f173 [] Tryz.func173) (hF := fun a => ⟨_, rfl⟩)⟩

/-! ### trustquorum/threshold.Size -/
noncomputable def sa_threshold_Size : SA U := annA (scOf Tryz.prog 26 [] Tryz.f174) (.r (.r (.l (.r (.l (.j ⟨[.val 3 (Ty.i .i64), .val 16 (Ty.i .i64)], [14, 15]⟩ .e))))))
noncomputable def B_threshold_Size (rec : (TTrust × Unit) → Option Int) (a0 : TTrust) : Option Int :=
 loopO (fun (v1 : Int × Int × Unit) =>
 bif (decide (v1.2.1 < ((List.length a0.Inner : Nat) : Int))) then
 Option.bind (idx a0.Inner v1.2.1) fun x2 =>
 Option.bind (rec ((TTrust.mk x2.Threshold x2.Nodes x2.Inner), ())) fun r3 =>
 some (Sum.inl ((addI .i64 v1.1 r3), (addI .i64 v1.2.1 (1 : Int)), ()))
 else
 Option.map Sum.inr (some v1.1)) ((addI .i64 ((List.length a0.Nodes : Nat) : Int) ((List.length a0.Inner : Nat) : Int)), (0 : Int), ())
noncomputable def I_threshold_Size : Nat → (TTrust × Unit) → Option Int := iterF (fun rec a => B_threshold_Size rec a.1)
noncomputable def F_threshold_Size (a0 : TTrust) : Option Int := I_threshold_Size (SizeOf.sizeOf a0 + 1) (a0, ())
noncomputable def k_threshold_Size : KS U Tryz.prog := ⟨.fn 174 [.ty (Ty.st .Trust)] (.one (Ty.i .i64)) fun a => F_threshold_Size a.1, fnRS (K := K) («as» := [.ty (Ty.st .Trust)]) (r := .one (Ty.i .i64)) (B := fun rec a => B_threshold_Size rec a.1) sa_threshold_Size 26 [.tmp 2] [] (fk Tryz.f174 [] Tryz.func174) (hF := fun a => ⟨_, rfl⟩)⟩

/-! ### trustquorum/threshold.node -/
noncomputable def sa_threshold_node : SA U := annA (scOf Tryz.prog 9 [] Tryz.f197) .e
noncomputable def F_threshold_node (a0 : Int) : Option Bool :=
 Option.bind (bif (decide ((0 : Int) ≤ a0)) then
 some (decide (a0 < (10 : Int)))
 else some false) fun b1 =>
 some b1
noncomputable def k_threshold_node : KS U Tryz.prog := ⟨.fn 197 [.ty (Ty.i .i64)] (.one Ty.bool) fun a => F_threshold_node a.1, fnS (K := K) sa_threshold_node 9 [.tmp 2] [] (fk Tryz.f197 [] Tryz.func197)⟩

/-! ### trustquorum/threshold.level$1 -/
noncomputable def sa_threshold_level_1 : SA U := annA (scOf Tryz.prog 6 [] Tryz.f196) .e
noncomputable def F_threshold_level_1 (a0 : Int) : Option Bool :=
 Option.bind (F_threshold_node a0) fun r1 =>
 some (!r1)
noncomputable def k_threshold_level_1 : KS U Tryz.prog := ⟨.fn 196 [.ty (Ty.i .i64)] (.one Ty.bool) fun a => F_threshold_level_1 a.1, fnS (K := K) sa_threshold_level_1 6 [.tmp 2] [k_threshold_node] (fk Tryz.f196 [] Tryz.func196)⟩

/-! ### slices.IndexFunc[[]int,int] -/
noncomputable def sa_slices_IndexFunc_int_int_c196 : SA U := annA (scOf Tryz.prog 19 [] Tryz.f231) (.r (.l (.r (.l (.j ⟨[.val 8 (Ty.i .i64)], [0, 1, 7]⟩ .e)))))
noncomputable def F_slices_IndexFunc_int_int_c196 (a0 : (List Int)) : Option Int :=
 loopO (fun (v1 : Int × Unit) =>
 bif (decide (v1.1 < ((List.length a0 : Nat) : Int))) then
 Option.bind (idx a0 v1.1) fun x2 =>
 Option.bind (F_threshold_level_1 x2) fun r3 =>
 bif r3 then
 Option.map Sum.inr (some v1.1)
 else
 some (Sum.inl ((addI .i64 v1.1 (1 : Int)), ()))
 else
 Option.map Sum.inr (some (-1 : Int))) ((0 : Int), ())
noncomputable def k_slices_IndexFunc_int_int_c196 : KS U Tryz.prog := ⟨.fn 231 [.ty (Ty.sl (Ty.i .i64)), .clo 196 []] (.one (Ty.i .i64)) fun a => F_slices_IndexFunc_int_int_c196 a.1, fnS (K := K) sa_slices_IndexFunc_int_int_c196 19 [.tmp 4] [k_threshold_level_1] (fk Tryz.f231 [] Tryz.func231)⟩

/-! ### slices.ContainsFunc[[]int,int] -/
noncomputable def sa_slices_ContainsFunc_int_int_c196 : SA U := annA (scOf Tryz.prog 9 [] Tryz.f195) .e
noncomputable def F_slices_ContainsFunc_int_int_c196 (a0 : (List Int)) : Option Bool :=
 Option.bind (F_slices_IndexFunc_int_int_c196 a0) fun r1 =>
 some (decide ((0 : Int) ≤ r1))
noncomputable def k_slices_ContainsFunc_int_int_c196 : KS U Tryz.prog := ⟨.fn 195 [.ty (Ty.sl (Ty.i .i64)), .clo 196 []] (.one Ty.bool) fun a => F_slices_ContainsFunc_int_int_c196 a.1, fnS (K := K) sa_slices_ContainsFunc_int_int_c196 9 [.tmp 4] [k_slices_IndexFunc_int_int_c196] (fk Tryz.f195 [] Tryz.func195)⟩

/-! ### trustquorum/nodeset.below -/
noncomputable def sa_nodeset_below : SA U := annA (scOf Tryz.prog 13 [] Tryz.f243) .e
noncomputable def F_nodeset_below (a0 : Int) (a1 : Int) : Option Bool :=
 Option.bind (bif (decide ((0 : Int) ≤ a0)) then
 if a1 < 0 then none else
 some (decide (a0 < (shlI .i64 (1 : Int) a1)))
 else some false) fun b1 =>
 some b1
noncomputable def k_nodeset_below : KS U Tryz.prog := ⟨.fn 243 [.ty (Ty.i .i64), .ty (Ty.i .i64)] (.one Ty.bool) fun a => F_nodeset_below a.1 a.2.1, fnS (K := K) sa_nodeset_below 13 [.tmp 4] [] (fk Tryz.f243 [] Tryz.func243)⟩

/-! ### trustquorum/nodeset.Valid -/
noncomputable def sa_nodeset_Valid : SA U := annA (scOf Tryz.prog 5 [] Tryz.f226) .e
noncomputable def F_nodeset_Valid (a0 : Int) : Option Bool :=
 Option.bind (F_nodeset_below a0 (10 : Int)) fun r1 =>
 some r1
noncomputable def k_nodeset_Valid : KS U Tryz.prog := ⟨.fn 226 [.ty (Ty.i .i64)] (.one Ty.bool) fun a => F_nodeset_Valid a.1, fnS (K := K) sa_nodeset_Valid 5 [.tmp 2] [k_nodeset_below] (fk Tryz.f226 [] Tryz.func226)⟩

/-! ### trustquorum/nodeset.Has -/
noncomputable def sa_nodeset_Has : SA U := annA (scOf Tryz.prog 22 [] Tryz.f188) .e
noncomputable def F_nodeset_Has (a0 : Int) (a1 : Int) : Option Bool :=
 Option.bind (F_nodeset_Valid a0) fun r1 =>
 Option.bind (bif r1 then
 some (decide ((0 : Int) ≤ a1))
 else some false) fun b2 =>
 Option.bind (bif b2 then
 some (decide (a1 < (10 : Int)))
 else some false) fun b3 =>
 Option.bind (bif b3 then
 if a1 < 0 then none else
 some (!decide ((andI .i64 a0 (shlI .i64 (1 : Int) a1)) = (0 : Int)))
 else some false) fun b4 =>
 some b4
noncomputable def k_nodeset_Has : KS U Tryz.prog := ⟨.fn 188 [.ty (Ty.i .i64), .ty (Ty.i .i64)] (.one Ty.bool) fun a => F_nodeset_Has a.1 a.2.1, fnS (K := K) sa_nodeset_Has 22 [.tmp 4] [k_nodeset_Valid] (fk Tryz.f188 [] Tryz.func188)⟩

/-! ### trustquorum/nodeset.Of -/
noncomputable def sa_nodeset_Of : SA U := annA (scOf Tryz.prog 28 [] Tryz.f198) (.r (.r (.l (.r (.l (.j ⟨[.val 4 (Ty.i .i64), .val 9 (Ty.i .i64)], [7, 8]⟩ .e))))))
noncomputable def F_nodeset_Of (a0 : (List Int)) : Option (Int × Int × Unit) :=
 loopO (fun (v1 : Int × Int × Unit) =>
 bif (decide (v1.2.1 < ((List.length a0 : Nat) : Int))) then
 Option.bind (idx a0 v1.2.1) fun x2 =>
 Option.bind (bif (decide (x2 < (0 : Int))) then some true
 else
 some (decide ((10 : Int) ≤ x2))) fun b3 =>
 bif b3 then
 Option.map Sum.inr (some ((0 : Int), (5 : Int), ()))
 else
 Option.bind (F_nodeset_Has v1.1 x2) fun r4 =>
 bif r4 then
 Option.map Sum.inr (some ((0 : Int), (6 : Int), ()))
 else
 if x2 < 0 then none else
 some (Sum.inl ((orI .i64 v1.1 (shlI .i64 (1 : Int) x2)), (addI .i64 v1.2.1 (1 : Int)), ()))
 else
 Option.map Sum.inr (some (v1.1, (0 : Int), ()))) ((0 : Int), (0 : Int), ())
noncomputable def k_nodeset_Of : KS U Tryz.prog := ⟨.fn 198 [.ty (Ty.sl (Ty.i .i64))] (.many [(Ty.i .i64), (Ty.i .i64)]) fun a => F_nodeset_Of a.1, fnS (K := K) sa_nodeset_Of 28 [.tmp 2, .tmp 3] [k_nodeset_Has] (fk Tryz.f198 [] Tryz.func198)⟩

/-! ### trustquorum/threshold.level -/
noncomputable def sa_threshold_level : SA U := annA (scOf Tryz.prog 48 [] Tryz.f175) (.r (.r (.r (.r (.l (.r (.l (.j ⟨[.val 38 (Ty.i .i64)], [36, 37]⟩ .e))))))))
noncomputable def B_threshold_level (rec : (TTrust × Unit) → Option Int) (a0 : TTrust) : Option Int :=
 Option.bind (bif (decide (a0.Threshold < (1 : Int))) then some true
 else
 some (decide ((addI .i64 ((List.length a0.Nodes : Nat) : Int) ((List.length a0.Inner : Nat) : Int)) < a0.Threshold))) fun b1 =>
 bif b1 then
 some (4 : Int)
 else
 Option.bind (F_slices_ContainsFunc_int_int_c196 a0.Nodes) fun r2 =>
 bif r2 then
 some (5 : Int)
 else
 Option.bind (F_nodeset_Of a0.Nodes) fun r3 =>
 bif (!decide (r3.2.1 = (0 : Int))) then
 some r3.2.1
 else
 loopO (fun (v4 : Int × Unit) =>
 bif (decide (v4.1 < ((List.length a0.Inner : Nat) : Int))) then
 Option.bind (idx a0.Inner v4.1) fun x5 =>
 Option.bind (rec ((TTrust.mk x5.Threshold x5.Nodes x5.Inner), ())) fun r6 =>
 bif (!decide (r6 = (0 : Int))) then
 Option.map Sum.inr (some r6)
 else
 some (Sum.inl ((addI .i64 v4.1 (1 : Int)), ()))
 else
 Option.map Sum.inr (some (0 : Int))) ((0 : Int), ())
noncomputable def I_threshold_level : Nat → (TTrust × Unit) → Option Int := iterF (fun rec a => B_threshold_level rec a.1)
noncomputable def F_threshold_level (a0 : TTrust) : Option Int := I_threshold_level (SizeOf.sizeOf a0 + 1) (a0, ())
noncomputable def k_threshold_level : KS U Tryz.prog := ⟨.fn 175 [.ty (Ty.st .Trust)] (.one (Ty.i .i64)) fun a => F_threshold_level a.1, fnRS (K := K) («as» := [.ty (Ty.st .Trust)]) (r := .one (Ty.i .i64)) (B := fun rec a => B_threshold_level rec a.1) sa_threshold_level 48 [.tmp 2] [k_slices_ContainsFunc_int_int_c196, k_nodeset_Of] (fk Tryz.f175 [] Tryz.func175) (hF := fun a => ⟨_, rfl⟩)⟩

/-! ### trustquorum/threshold.Valid -/
noncomputable def sa_threshold_Valid : SA U := annA (scOf Tryz.prog 13 [] Tryz.f135) .e
noncomputable def F_threshold_Valid (a0 : TTrust) : Option Int :=
 Option.bind (F_threshold_Depth (TTrust.mk a0.Threshold a0.Nodes a0.Inner)) fun r1 =>
 Option.bind (bif (decide ((4 : Int) < r1)) then some true
 else
 Option.bind (F_threshold_Size (TTrust.mk a0.Threshold a0.Nodes a0.Inner)) fun r2 =>
 some (decide ((200 : Int) < r2))) fun b3 =>
 bif b3 then
 some (3 : Int)
 else
 Option.bind (F_threshold_level (TTrust.mk a0.Threshold a0.Nodes a0.Inner)) fun r4 =>
 some r4
noncomputable def k_threshold_Valid : KS U Tryz.prog := ⟨.fn 135 [.ty (Ty.st .Trust)] (.one (Ty.i .i64)) fun a => F_threshold_Valid a.1, fnS (K := K) sa_threshold_Valid 13 [.tmp 2] [k_threshold_Depth, k_threshold_Size, k_threshold_level] (fk Tryz.f135 [] Tryz.func135)⟩

/-! ### trustquorum/ballots.Zero -/
noncomputable def sa_ballots_Zero : SA U := annA (scOf Tryz.prog 6 [] Tryz.f85) .e
noncomputable def F_ballots_Zero (a0 : TBallot) : Option Bool :=
 some (eq2 false a0.Counter (0 : Int) a0.Value (ByteArray.mk #[]))
noncomputable def k_ballots_Zero : KS U Tryz.prog := ⟨.fn 85 [.ty (Ty.st .Ballot)] (.one Ty.bool) fun a => F_ballots_Zero a.1, fnS (K := K) sa_ballots_Zero 6 [.tmp 2] [] (fk Tryz.f85 [] Tryz.func85)⟩

/-! ### cmp.isNaN[int] -/
noncomputable def sa_cmp_isNaN_int : SA U := annA (scOf Tryz.prog 6 [] Tryz.f154) .e
noncomputable def F_cmp_isNaN_int (a0 : Int) : Option Bool :=
 some (!decide (a0 = a0))
noncomputable def k_cmp_isNaN_int : KS U Tryz.prog := ⟨.fn 154 [.ty (Ty.i .i64)] (.one Ty.bool) fun a => F_cmp_isNaN_int a.1, fnS (K := K) sa_cmp_isNaN_int 6 [.tmp 2] [] (fk Tryz.f154 [] Tryz.func154)⟩

/-! ### cmp.Compare[int] -/
noncomputable def sa_cmp_Compare_int : SA U := annA (scOf Tryz.prog 20 [] Tryz.f93) .e
noncomputable def F_cmp_Compare_int (a0 : Int) (a1 : Int) : Option Int :=
 Option.bind (F_cmp_isNaN_int a0) fun r1 =>
 Option.bind (F_cmp_isNaN_int a1) fun r2 =>
 bif r1 then
 bif r2 then
 some (0 : Int)
 else
 some (-1 : Int)
 else
 bif r2 then
 some (1 : Int)
 else
 bif (decide (a0 < a1)) then
 some (-1 : Int)
 else
 bif (decide (a1 < a0)) then
 some (1 : Int)
 else
 some (0 : Int)
noncomputable def k_cmp_Compare_int : KS U Tryz.prog := ⟨.fn 93 [.ty (Ty.i .i64), .ty (Ty.i .i64)] (.one (Ty.i .i64)) fun a => F_cmp_Compare_int a.1 a.2.1, fnS (K := K) sa_cmp_Compare_int 20 [.tmp 4] [k_cmp_isNaN_int] (fk Tryz.f93 [] Tryz.func93)⟩

/-! ### cmp.isNaN[string] -/
noncomputable def sa_cmp_isNaN_string : SA U := annA (scOf Tryz.prog 6 [] Tryz.f183) .e
noncomputable def F_cmp_isNaN_string (a0 : ByteArray) : Option Bool :=
 some (!decide (a0 = a0))
noncomputable def k_cmp_isNaN_string : KS U Tryz.prog := ⟨.fn 183 [.ty Ty.str] (.one Ty.bool) fun a => F_cmp_isNaN_string a.1, fnS (K := K) sa_cmp_isNaN_string 6 [.tmp 2] [] (fk Tryz.f183 [] Tryz.func183)⟩

/-! ### cmp.Compare[string] -/
noncomputable def sa_cmp_Compare_string : SA U := annA (scOf Tryz.prog 20 [] Tryz.f150) .e
noncomputable def F_cmp_Compare_string (a0 : ByteArray) (a1 : ByteArray) : Option Int :=
 Option.bind (F_cmp_isNaN_string a0) fun r1 =>
 Option.bind (F_cmp_isNaN_string a1) fun r2 =>
 bif r1 then
 bif r2 then
 some (0 : Int)
 else
 some (-1 : Int)
 else
 bif r2 then
 some (1 : Int)
 else
 bif (sless a0 a1) then
 some (-1 : Int)
 else
 bif (!(sless a0 a1 || decide (a0 = a1))) then
 some (1 : Int)
 else
 some (0 : Int)
noncomputable def k_cmp_Compare_string : KS U Tryz.prog := ⟨.fn 150 [.ty Ty.str, .ty Ty.str] (.one (Ty.i .i64)) fun a => F_cmp_Compare_string a.1 a.2.1, fnS (K := K) sa_cmp_Compare_string 20 [.tmp 4] [k_cmp_isNaN_string] (fk Tryz.f150 [] Tryz.func150)⟩

/-! ### cmp.Or[int] -/
noncomputable def sa_cmp_Or_int : SA U := annA (scOf Tryz.prog 18 [] Tryz.f147) (.r (.r (.l (.r (.l (.j ⟨[.val 8 (Ty.i .i64)], [3, 6, 7]⟩ .e))))))
noncomputable def F_cmp_Or_int (a0 : (List Int)) : Option Int :=
 loopO (fun (v1 : Int × Unit) =>
 bif (decide (v1.1 < ((List.length a0 : Nat) : Int))) then
 Option.bind (idx a0 v1.1) fun x2 =>
 bif (!decide (x2 = (0 : Int))) then
 Option.map Sum.inr (some x2)
 else
 some (Sum.inl ((addI .i64 v1.1 (1 : Int)), ()))
 else
 Option.map Sum.inr (some (0 : Int))) ((0 : Int), ())
noncomputable def k_cmp_Or_int : KS U Tryz.prog := ⟨.fn 147 [.ty (Ty.sl (Ty.i .i64))] (.one (Ty.i .i64)) fun a => F_cmp_Or_int a.1, fnS (K := K) sa_cmp_Or_int 18 [.tmp 2] [] (fk Tryz.f147 [] Tryz.func147)⟩

/-! ### trustquorum/ballots.CompareValues -/
noncomputable def sa_ballots_CompareValues : SA U := annA (scOf Tryz.prog 15 [] Tryz.f89) .e
noncomputable def F_ballots_CompareValues (a0 : ByteArray) (a1 : ByteArray) : Option Int :=
 Option.bind (F_cmp_Compare_int ((ByteArray.size a0 : Nat) : Int) ((ByteArray.size a1 : Nat) : Int)) fun r1 =>
 Option.bind (F_cmp_Compare_string a0 a1) fun r2 =>
 Option.bind (F_cmp_Or_int [r1, r2]) fun r3 =>
 some r3
noncomputable def k_ballots_CompareValues : KS U Tryz.prog := ⟨.fn 89 [.ty Ty.str, .ty Ty.str] (.one (Ty.i .i64)) fun a => F_ballots_CompareValues a.1 a.2.1, fnS (K := K) sa_ballots_CompareValues 15 [.tmp 4] [k_cmp_Compare_int, k_cmp_Compare_string, k_cmp_Or_int] (fk Tryz.f89 [] Tryz.func89)⟩

/-! ### trustquorum/ballots.Compare -/
noncomputable def sa_ballots_Compare : SA U := annA (scOf Tryz.prog 17 [] Tryz.f87) .e
noncomputable def F_ballots_Compare (a0 : TBallot) (a1 : TBallot) : Option Int :=
 Option.bind (F_cmp_Compare_int a0.Counter a1.Counter) fun r1 =>
 Option.bind (F_ballots_CompareValues a0.Value a1.Value) fun r2 =>
 Option.bind (F_cmp_Or_int [r1, r2]) fun r3 =>
 some r3
noncomputable def k_ballots_Compare : KS U Tryz.prog := ⟨.fn 87 [.ty (Ty.st .Ballot), .ty (Ty.st .Ballot)] (.one (Ty.i .i64)) fun a => F_ballots_Compare a.1 a.2.1, fnS (K := K) sa_ballots_Compare 17 [.tmp 4] [k_cmp_Compare_int, k_ballots_CompareValues, k_cmp_Or_int] (fk Tryz.f87 [] Tryz.func87)⟩

/-! ### trustquorum/ballots.Less -/
noncomputable def sa_ballots_Less : SA U := annA (scOf Tryz.prog 9 [] Tryz.f101) .e
noncomputable def F_ballots_Less (a0 : TBallot) (a1 : TBallot) : Option Bool :=
 Option.bind (F_ballots_Compare a0 a1) fun r1 =>
 some (decide (r1 < (0 : Int)))
noncomputable def k_ballots_Less : KS U Tryz.prog := ⟨.fn 101 [.ty (Ty.st .Ballot), .ty (Ty.st .Ballot)] (.one Ty.bool) fun a => F_ballots_Less a.1 a.2.1, fnS (K := K) sa_ballots_Less 9 [.tmp 4] [k_ballots_Compare] (fk Tryz.f101 [] Tryz.func101)⟩

/-! ### trustquorum/ballots.Compatible -/
noncomputable def sa_ballots_Compatible : SA U := annA (scOf Tryz.prog 10 [] Tryz.f114) .e
noncomputable def F_ballots_Compatible (a0 : TBallot) (a1 : TBallot) : Option Bool :=
 some (decide (a0.Value = a1.Value))
noncomputable def k_ballots_Compatible : KS U Tryz.prog := ⟨.fn 114 [.ty (Ty.st .Ballot), .ty (Ty.st .Ballot)] (.one Ty.bool) fun a => F_ballots_Compatible a.1 a.2.1, fnS (K := K) sa_ballots_Compatible 10 [.tmp 4] [] (fk Tryz.f114 [] Tryz.func114)⟩

/-! ### trustquorum/ballots.Valid -/
noncomputable def sa_ballots_Valid : SA U := annA (scOf Tryz.prog 30 [] Tryz.f138) .e
noncomputable def F_ballots_Valid (a0 : TBallot) : Option Bool :=
 Option.bind (bif (decide ((1 : Int) ≤ a0.Counter)) then
 some (decide (a0.Counter ≤ (1000 : Int)))
 else some false) fun b1 =>
 Option.bind (bif b1 then some true
 else
 some (decide (a0.Counter = (1000000 : Int)))) fun b2 =>
 Option.bind (bif b2 then
 some (decide ((1 : Int) ≤ ((ByteArray.size a0.Value : Nat) : Int)))
 else some false) fun b3 =>
 Option.bind (bif b3 then
 some (decide (((ByteArray.size a0.Value : Nat) : Int) ≤ (200 : Int)))
 else some false) fun b4 =>
 some b4
noncomputable def k_ballots_Valid : KS U Tryz.prog := ⟨.fn 138 [.ty (Ty.st .Ballot)] (.one Ty.bool) fun a => F_ballots_Valid a.1, fnS (K := K) sa_ballots_Valid 30 [.tmp 2] [] (fk Tryz.f138 [] Tryz.func138)⟩

/-! ### trustquorum/envelopes.finite -/
noncomputable def sa_envelopes_finite : SA U := annA (scOf Tryz.prog 10 [] Tryz.f137) .e
noncomputable def F_envelopes_finite (a0 : TBallot) : Option Bool :=
 Option.bind (F_ballots_Valid a0) fun r1 =>
 Option.bind (bif r1 then
 some (decide (a0.Counter ≤ (1000 : Int)))
 else some false) fun b2 =>
 some b2
noncomputable def k_envelopes_finite : KS U Tryz.prog := ⟨.fn 137 [.ty (Ty.st .Ballot)] (.one Ty.bool) fun a => F_envelopes_finite a.1, fnS (K := K) sa_envelopes_finite 10 [.tmp 2] [k_ballots_Valid] (fk Tryz.f137 [] Tryz.func137)⟩

/-! ### trustquorum/envelopes.optional -/
noncomputable def sa_envelopes_optional : SA U := annA (scOf Tryz.prog 9 [] Tryz.f176) .e
noncomputable def F_envelopes_optional (a0 : TBallot) : Option Bool :=
 Option.bind (F_ballots_Zero a0) fun r1 =>
 Option.bind (bif r1 then some true
 else
 Option.bind (F_ballots_Valid a0) fun r2 =>
 some r2) fun b3 =>
 some b3
noncomputable def k_envelopes_optional : KS U Tryz.prog := ⟨.fn 176 [.ty (Ty.st .Ballot)] (.one Ty.bool) fun a => F_envelopes_optional a.1, fnS (K := K) sa_envelopes_optional 9 [.tmp 2] [k_ballots_Zero, k_ballots_Valid] (fk Tryz.f176 [] Tryz.func176)⟩

/-! ### trustquorum/envelopes.at -/
noncomputable def sa_envelopes_at : SA U := annA (scOf Tryz.prog 10 [] Tryz.f82) .e
noncomputable def F_envelopes_at (a0 : TEnvelope) (a1 : Int) : Option TBallot :=
 some (TBallot.mk a1 a0.Ballot.Value)
noncomputable def k_envelopes_at : KS U Tryz.prog := ⟨.fn 82 [.ty (Ty.st .Envelope), .ty (Ty.i .i64)] (.one (Ty.st .Ballot)) fun a => F_envelopes_at a.1 a.2.1, fnS (K := K) sa_envelopes_at 10 [.cell 4 (some 2)] [] (fk Tryz.f82 [] Tryz.func82)⟩

/-! ### trustquorum/ballots.Aborts -/
noncomputable def sa_ballots_Aborts : SA U := annA (scOf Tryz.prog 19 [] Tryz.f100) .e
noncomputable def F_ballots_Aborts (a0 : TBallot) (a1 : TBallot) : Option Bool :=
 Option.bind (F_ballots_Zero a0) fun r1 =>
 Option.bind (bif (!r1) then
 Option.bind (F_ballots_Compatible a0 a1) fun r2 =>
 some (!r2)
 else some false) fun b3 =>
 Option.bind (bif b3 then
 Option.bind (F_ballots_Less a1 a0) fun r4 =>
 some r4
 else some false) fun b5 =>
 some b5
noncomputable def k_ballots_Aborts : KS U Tryz.prog := ⟨.fn 100 [.ty (Ty.st .Ballot), .ty (Ty.st .Ballot)] (.one Ty.bool) fun a => F_ballots_Aborts a.1 a.2.1, fnS (K := K) sa_ballots_Aborts 19 [.tmp 4] [k_ballots_Zero, k_ballots_Compatible, k_ballots_Less] (fk Tryz.f100 [] Tryz.func100)⟩

/-! ### trustquorum/ballots.Covers -/
noncomputable def sa_ballots_Covers : SA U := annA (scOf Tryz.prog 20 [] Tryz.f151) .e
noncomputable def F_ballots_Covers (a0 : TBallot) (a1 : TBallot) : Option Bool :=
 Option.bind (F_ballots_Zero a0) fun r1 =>
 Option.bind (bif (!r1) then
 Option.bind (F_ballots_Compatible a0 a1) fun r2 =>
 some r2
 else some false) fun b3 =>
 Option.bind (bif b3 then
 some (decide (a1.Counter ≤ a0.Counter))
 else some false) fun b4 =>
 some b4
noncomputable def k_ballots_Covers : KS U Tryz.prog := ⟨.fn 151 [.ty (Ty.st .Ballot), .ty (Ty.st .Ballot)] (.one Ty.bool) fun a => F_ballots_Covers a.1 a.2.1, fnS (K := K) sa_ballots_Covers 20 [.tmp 4] [k_ballots_Zero, k_ballots_Compatible] (fk Tryz.f151 [] Tryz.func151)⟩

/-! ### trustquorum/ballots.Prepares -/
noncomputable def sa_ballots_Prepares : SA U := annA (scOf Tryz.prog 25 [] Tryz.f110) .e
noncomputable def F_ballots_Prepares (a0 : TBallot) (a1 : TBallot) (a2 : TBallot) : Option Bool :=
 Option.bind (F_ballots_Covers a0 a2) fun r1 =>
 Option.bind (bif r1 then some true
 else
 Option.bind (F_ballots_Covers a1 a2) fun r2 =>
 some r2) fun b3 =>
 Option.bind (bif b3 then some true
 else
 Option.bind (F_ballots_Zero a1) fun r4 =>
 Option.bind (bif (!r4) then
 Option.bind (F_ballots_Less a2 a1) fun r5 =>
 some r5
 else some false) fun b6 =>
 some b6) fun b7 =>
 some b7
noncomputable def k_ballots_Prepares : KS U Tryz.prog := ⟨.fn 110 [.ty (Ty.st .Ballot), .ty (Ty.st .Ballot), .ty (Ty.st .Ballot)] (.one Ty.bool) fun a => F_ballots_Prepares a.1 a.2.1 a.2.2.1, fnS (K := K) sa_ballots_Prepares 25 [.tmp 6] [k_ballots_Covers, k_ballots_Zero, k_ballots_Less] (fk Tryz.f110 [] Tryz.func110)⟩

/-! ### trustquorum/envelopes.prepares -/
noncomputable def sa_envelopes_prepares : SA U := annA (scOf Tryz.prog 106 [] Tryz.f136) (.r (.r (.r (.r (.j ⟨[.val 2 Ty.bool], []⟩ .e)))))
noncomputable def F_envelopes_prepares (a0 : TEnvelope) : Option Bool :=
 Option.bind (F_ballots_Zero a0.Prime) fun r1 =>
 Option.bind (bif r1 then some true
 else
 Option.bind (F_ballots_Zero a0.Prepared) fun r2 =>
 Option.bind (bif (!r2) then
 Option.bind (F_ballots_Less a0.Prime a0.Prepared) fun r3 =>
 some r3
 else some false) fun b4 =>
 Option.bind (bif b4 then
 Option.bind (F_ballots_Compatible a0.Prime a0.Prepared) fun r5 =>
 some (!r5)
 else some false) fun b6 =>
 some b6) fun b7 =>
 Option.bind (F_envelopes_finite a0.Ballot) fun r8 =>
 Option.bind (bif (!r8) then some true
 else
 Option.bind (F_envelopes_optional a0.Prepared) fun r9 =>
 some (!r9)) fun b10 =>
 Option.bind (bif b10 then some true
 else
 Option.bind (F_envelopes_optional a0.Prime) fun r11 =>
 some (!r11)) fun b12 =>
 Option.bind (bif b12 then some true
 else
 some (!b7)) fun b13 =>
 Option.bind (bif b13 then some true
 else
 some (decide (a0.Low < (0 : Int)))) fun b14 =>
 Option.bind (bif b14 then some true
 else
 some (decide (a0.High < a0.Low))) fun b15 =>
 Option.bind (bif b15 then some true
 else
 some (decide (a0.Ballot.Counter < a0.High))) fun b16 =>
 bif b16 then
 some false
 else
 Option.bind (F_envelopes_at (TEnvelope.mk a0.Node a0.Slot a0.Seq (TTrust.mk a0.Trust.Threshold a0.Trust.Nodes a0.Trust.Inner) a0.Kind a0.Ballot a0.Prepared a0.Prime a0.Low a0.High) a0.Low) fun r17 =>
 letJ (fun (v18 : Bool × Unit) =>
 some v18.1) fun j19 =>
 bif (decide (a0.High = (0 : Int))) then
 bif (decide (a0.Low = (0 : Int))) then
 j19 (true, ())
 else
 Option.bind (F_ballots_Aborts a0.Prepared r17) fun r20 =>
 bif (!r20) then
 Option.bind (F_ballots_Aborts a0.Prime r17) fun r21 =>
 j19 ((!r21), ())
 else
 j19 (false, ())
 else
 Option.bind (F_envelopes_at (TEnvelope.mk a0.Node a0.Slot a0.Seq (TTrust.mk a0.Trust.Threshold a0.Trust.Nodes a0.Trust.Inner) a0.Kind a0.Ballot a0.Prepared a0.Prime a0.Low a0.High) a0.High) fun r22 =>
 Option.bind (F_ballots_Prepares a0.Prepared a0.Prime r22) fun r23 =>
 bif r23 then
 bif (decide (a0.Low = (0 : Int))) then
 j19 (true, ())
 else
 Option.bind (F_ballots_Aborts a0.Prepared r17) fun r24 =>
 bif (!r24) then
 Option.bind (F_ballots_Aborts a0.Prime r17) fun r25 =>
 j19 ((!r25), ())
 else
 j19 (false, ())
 else
 j19 (false, ())
noncomputable def k_envelopes_prepares : KS U Tryz.prog := ⟨.fn 136 [.ty (Ty.st .Envelope)] (.one Ty.bool) fun a => F_envelopes_prepares a.1, fnS (K := K) sa_envelopes_prepares 106 [.tmp 2] [k_ballots_Zero, k_ballots_Less, k_ballots_Compatible, k_envelopes_finite, k_envelopes_optional, k_envelopes_at, k_ballots_Aborts, k_ballots_Prepares] (fk Tryz.f136 [] Tryz.func136)⟩

/-! ### trustquorum/envelopes.Valid -/
noncomputable def sa_envelopes_Valid : SA U := annA (scOf Tryz.prog 110 [] Tryz.f75) .e
noncomputable def F_envelopes_Valid (a0 : TEnvelope) : Option Bool :=
 Option.bind (bif (decide (a0.Node < (0 : Int))) then some true
 else
 some (decide ((10 : Int) ≤ a0.Node))) fun b1 =>
 Option.bind (bif b1 then some true
 else
 some (decide (a0.Slot < (1 : Int)))) fun b2 =>
 Option.bind (bif b2 then some true
 else
 some (decide ((1000000 : Int) < a0.Slot))) fun b3 =>
 Option.bind (bif b3 then some true
 else
 some (decide (a0.Seq < (1 : Int)))) fun b4 =>
 Option.bind (bif b4 then some true
 else
 some (decide ((1000000 : Int) < a0.Seq))) fun b5 =>
 Option.bind (bif b5 then some true
 else
 Option.bind (F_threshold_Valid (TTrust.mk a0.Trust.Threshold a0.Trust.Nodes a0.Trust.Inner)) fun r6 =>
 some (!decide (r6 = (0 : Int)))) fun b7 =>
 bif b7 then
 some false
 else
 Option.bind (bif (decide ((1 : Int) ≤ a0.Low)) then
 some (decide (a0.Low ≤ a0.High))
 else some false) fun b8 =>
 Option.bind (bif b8 then
 some (decide (a0.High ≤ (1000 : Int)))
 else some false) fun b9 =>
 bif (decide (a0.Kind = (1 : Int))) then
 Option.bind (F_envelopes_prepares (TEnvelope.mk a0.Node a0.Slot a0.Seq (TTrust.mk a0.Trust.Threshold a0.Trust.Nodes a0.Trust.Inner) a0.Kind a0.Ballot a0.Prepared a0.Prime a0.Low a0.High)) fun r10 =>
 some r10
 else
 bif (decide (a0.Kind = (2 : Int))) then
 Option.bind (F_envelopes_finite a0.Ballot) fun r11 =>
 Option.bind (bif r11 then
 Option.bind (F_ballots_Valid a0.Prepared) fun r12 =>
 some r12
 else some false) fun b13 =>
 Option.bind (bif b13 then
 Option.bind (F_ballots_Compatible a0.Prepared a0.Ballot) fun r14 =>
 some r14
 else some false) fun b15 =>
 Option.bind (bif b15 then
 Option.bind (F_ballots_Zero a0.Prime) fun r16 =>
 some r16
 else some false) fun b17 =>
 Option.bind (bif b17 then
 some b9
 else some false) fun b18 =>
 Option.bind (bif b18 then
 some (decide (a0.High ≤ a0.Prepared.Counter))
 else some false) fun b19 =>
 some b19
 else
 bif (decide (a0.Kind = (3 : Int))) then
 Option.bind (F_ballots_Valid a0.Ballot) fun r20 =>
 Option.bind (bif r20 then
 Option.bind (F_ballots_Zero a0.Prepared) fun r21 =>
 some r21
 else some false) fun b22 =>
 Option.bind (bif b22 then
 Option.bind (F_ballots_Zero a0.Prime) fun r23 =>
 some r23
 else some false) fun b24 =>
 Option.bind (bif b24 then
 some b9
 else some false) fun b25 =>
 some b25
 else
 some false
noncomputable def k_envelopes_Valid : KS U Tryz.prog := ⟨.fn 75 [.ty (Ty.st .Envelope)] (.one Ty.bool) fun a => F_envelopes_Valid a.1, fnS (K := K) sa_envelopes_Valid 110 [.tmp 2] [k_threshold_Valid, k_envelopes_prepares, k_envelopes_finite, k_ballots_Valid, k_ballots_Compatible, k_ballots_Zero] (fk Tryz.f75 [] Tryz.func75)⟩

/-! ### math/bits.Len64 -/
noncomputable def sa_math_bits_Len64 : SA U := annA (scOf Tryz.prog 25 [] Tryz.f209) (.r (.j ⟨[.val 0 (Ty.i .u64), .val 2 (Ty.i .i64)], []⟩ (.r (.j ⟨[.val 0 (Ty.i .u64), .val 2 (Ty.i .i64)], []⟩ (.r (.j ⟨[.val 0 (Ty.i .u64), .val 2 (Ty.i .i64)], []⟩ .e))))))
noncomputable def F_math_bits_Len64 (a0 : Int) : Option Int :=
 letJ (fun (v1 : Int × Int × Unit) =>
 letJ (fun (v3 : Int × Int × Unit) =>
 letJ (fun (v5 : Int × Int × Unit) =>
 Option.bind (sidx (ByteArray.mk #[0, 1, 2, 2, 3, 3, 3, 3, 4, 4, 4, 4, 4, 4, 4, 4, 5, 5, 5, 5, 5, 5, 5, 5, 5, 5, 5, 5, 5, 5, 5, 5, 6, 6, 6, 6, 6, 6, 6, 6, 6, 6, 6, 6, 6, 6, 6, 6, 6, 6, 6, 6, 6, 6, 6, 6, 6, 6, 6, 6, 6, 6, 6, 6, 7, 7, 7, 7, 7, 7, 7, 7, 7, 7, 7, 7, 7, 7, 7, 7, 7, 7, 7, 7, 7, 7, 7, 7, 7, 7, 7, 7, 7, 7, 7, 7, 7, 7, 7, 7, 7, 7, 7, 7, 7, 7, 7, 7, 7, 7, 7, 7, 7, 7, 7, 7, 7, 7, 7, 7, 7, 7, 7, 7, 7, 7, 7, 7, 8, 8, 8, 8, 8, 8, 8, 8, 8, 8, 8, 8, 8, 8, 8, 8, 8, 8, 8, 8, 8, 8, 8, 8, 8, 8, 8, 8, 8, 8, 8, 8, 8, 8, 8, 8, 8, 8, 8, 8, 8, 8, 8, 8, 8, 8, 8, 8, 8, 8, 8, 8, 8, 8, 8, 8, 8, 8, 8, 8, 8, 8, 8, 8, 8, 8, 8, 8, 8, 8, 8, 8, 8, 8, 8, 8, 8, 8, 8, 8, 8, 8, 8, 8, 8, 8, 8, 8, 8, 8, 8, 8, 8, 8, 8, 8, 8, 8, 8, 8, 8, 8, 8, 8, 8, 8, 8, 8, 8, 8, 8, 8, 8, 8, 8, 8, 8, 8, 8, 8, 8, 8, 8, 8, 8, 8, 8, 8]) (convI .u8 v5.1)) fun x7 =>
 some (addI .i64 v5.2.1 (convI .i64 x7))) fun j6 =>
 bif (decide ((256 : Int) ≤ v3.1)) then
 j6 ((shrI .u64 v3.1 (8 : Int)), (addI .i64 v3.2.1 (8 : Int)), ())
 else
 j6 (v3.1, v3.2.1, ())) fun j4 =>
 bif (decide ((65536 : Int) ≤ v1.1)) then
 j4 ((shrI .u64 v1.1 (16 : Int)), (addI .i64 v1.2.1 (16 : Int)), ())
 else
 j4 (v1.1, v1.2.1, ())) fun j2 =>
 bif (decide ((4294967296 : Int) ≤ a0)) then
 j2 ((shrI .u64 a0 (32 : Int)), (32 : Int), ())
 else
 j2 (a0, (0 : Int), ())
noncomputable def k_math_bits_Len64 : KS U Tryz.prog := ⟨.fn 209 [.ty (Ty.i .u64)] (.one (Ty.i .i64)) fun a => F_math_bits_Len64 a.1, fnS (K := K) sa_math_bits_Len64 25 [.tmp 2] [] (fk Tryz.f209 [] Tryz.func209)⟩

/-! ### math/bits.Len -/
noncomputable def sa_math_bits_Len : SA U := annA (scOf Tryz.prog 8 [] Tryz.f181) .e
noncomputable def F_math_bits_Len (a0 : Int) : Option Int :=
 Option.bind (F_math_bits_Len64 a0) fun r1 =>
 some r1
noncomputable def k_math_bits_Len : KS U Tryz.prog := ⟨.fn 181 [.ty (Ty.i .u64)] (.one (Ty.i .i64)) fun a => F_math_bits_Len a.1, fnS (K := K) sa_math_bits_Len 8 [.tmp 2] [k_math_bits_Len64] (fk Tryz.f181 [] Tryz.func181)⟩

/-! ### slices.nextPowerOfTwo -/
noncomputable def sa_slices_nextPowerOfTwo : SA U := annA (scOf Tryz.prog 7 [] Tryz.f233) .e
noncomputable def F_slices_nextPowerOfTwo (a0 : Int) : Option Int :=
 Option.bind (F_math_bits_Len (convI .u64 a0)) fun r1 =>
 if r1 < 0 then none else
 some (shlI .u64 (1 : Int) r1)
noncomputable def k_slices_nextPowerOfTwo : KS U Tryz.prog := ⟨.fn 233 [.ty (Ty.i .i64)] (.one (Ty.i .u64)) fun a => F_slices_nextPowerOfTwo a.1, fnS (K := K) sa_slices_nextPowerOfTwo 7 [.tmp 2] [k_math_bits_Len] (fk Tryz.f233 [] Tryz.func233)⟩

/-! ### (*slices.xorshift).Next -/
noncomputable def sa_slices_xorshift_Next : SA U := annA (scOf Tryz.prog 33 [] Tryz.f234) .e
noncomputable def F_slices_xorshift_Next (s : Int)  : Option (Int × Int) :=
 some ((xorI .u64 (xorI .u64 (xorI .u64 s (shlI .u64 s (13 : Int))) (shrI .u64 (xorI .u64 s (shlI .u64 s (13 : Int))) (7 : Int))) (shlI .u64 (xorI .u64 (xorI .u64 s (shlI .u64 s (13 : Int))) (shrI .u64 (xorI .u64 s (shlI .u64 s (13 : Int))) (7 : Int))) (17 : Int))), (xorI .u64 (xorI .u64 (xorI .u64 s (shlI .u64 s (13 : Int))) (shrI .u64 (xorI .u64 s (shlI .u64 s (13 : Int))) (7 : Int))) (shlI .u64 (xorI .u64 (xorI .u64 s (shlI .u64 s (13 : Int))) (shrI .u64 (xorI .u64 s (shlI .u64 s (13 : Int))) (7 : Int))) (17 : Int))))
noncomputable def k_slices_xorshift_Next : KS U Tryz.prog := ⟨.rc 234 0 (Ty.i .u64) [] (.one (Ty.i .u64)) fun s a => F_slices_xorshift_Next s , rcS (K := K) sa_slices_xorshift_Next 33 [.tmp 2] [] (fk Tryz.f234 [] Tryz.func234)⟩

/-! ### slices.insertionSortCmpFunc[string] -/
noncomputable def sa_slices_insertionSortCmpFunc_string_c89 : SA U := annA (scOf Tryz.prog 53 [] Tryz.f210) (.r (.l (.j ⟨[.val 8 (Ty.i .i64), .own 0 0 0 9 1 Ty.str], [1, 2, 3]⟩ (.l (.r (.l (.l (.r (.l (.j ⟨[.val 9 (Ty.i .i64), .own 0 0 0 9 1 Ty.str], [1, 2, 3, 8]⟩ (.l (.l (.j ⟨[.val 34 Ty.bool], [0, 1, 2, 3, 8, 9]⟩ .e)))))))))))))
noncomputable def F_slices_insertionSortCmpFunc_string_c89 (s : List ByteArray) (a0 : Int) (a1 : Int) : Option ((Unit) × List ByteArray) :=
 loopO (fun (v1 : Int × (List ByteArray) × Unit) =>
 bif (decide (v1.1 < a1)) then
 loopO (fun (v2 : Int × (List ByteArray) × Unit) =>
 letJ (fun (v3 : Bool × Unit) =>
 bif v3.1 then
 Option.bind (idx v2.2.1 (subI .i64 v2.1 (1 : Int))) fun x5 =>
 Option.bind (v2.2.1[(Int.toNat (subI .i64 v2.1 (1 : Int)))]?) fun x6 =>
 Option.bind (idx v2.2.1 v2.1) fun x7 =>
 Option.bind (v2.2.1[(Int.toNat v2.1)]?) fun x8 =>
 Option.bind (idx v2.2.1 v2.1) fun x9 =>
 Option.bind (v2.2.1[(Int.toNat v2.1)]?) fun x10 =>
 Option.bind (idx (v2.2.1.set (Int.toNat v2.1) x6) (subI .i64 v2.1 (1 : Int))) fun x11 =>
 Option.bind ((v2.2.1.set (Int.toNat v2.1) x6)[(Int.toNat (subI .i64 v2.1 (1 : Int)))]?) fun x12 =>
 some (Sum.inl ((subI .i64 v2.1 (1 : Int)), ((v2.2.1.set (Int.toNat v2.1) x6).set (Int.toNat (subI .i64 v2.1 (1 : Int))) x8), ()))
 else
 Option.map Sum.inr (some (Sum.inl ((addI .i64 v1.1 (1 : Int)), v2.2.1, ())))) fun j4 =>
 bif (decide (a0 < v2.1)) then
 Option.bind (idx v2.2.1 v2.1) fun x13 =>
 Option.bind (v2.2.1[(Int.toNat v2.1)]?) fun x14 =>
 Option.bind (idx v2.2.1 (subI .i64 v2.1 (1 : Int))) fun x15 =>
 Option.bind (v2.2.1[(Int.toNat (subI .i64 v2.1 (1 : Int)))]?) fun x16 =>
 Option.bind (F_ballots_CompareValues x14 x16) fun r17 =>
 j4 ((decide (r17 < (0 : Int))), ())
 else
 j4 (false, ())) (v1.1, v1.2.1, ())
 else
 Option.map Sum.inr (some ((()), v1.2.1))) ((addI .i64 a0 (1 : Int)), s, ())
noncomputable def k_slices_insertionSortCmpFunc_string_c89 : KS U Tryz.prog := ⟨.rw 210 9 1 Ty.str [.ty (Ty.i .i64), .ty (Ty.i .i64), .clo 89 []] (.many []) fun s a => F_slices_insertionSortCmpFunc_string_c89 s a.1 a.2.1, rwS (K := K) sa_slices_insertionSortCmpFunc_string_c89 53 [] [k_ballots_CompareValues] (fk Tryz.f210 [] Tryz.func210)⟩

/-! ### slices.siftDownCmpFunc[string] -/
noncomputable def sa_slices_siftDownCmpFunc_string_c89 : SA U := annA (scOf Tryz.prog 82 [] Tryz.f237) (.r (.l (.j ⟨[.val 10 (Ty.i .i64), .own 0 0 0 9 1 Ty.str], [2, 3, 4]⟩ (.l (.l (.r (.r (.j ⟨[.val 11 (Ty.i .i64)], [0, 2, 3, 4, 10]⟩ (.l (.j ⟨[.val 40 Ty.bool], [0, 2, 3, 4, 10, 11]⟩ .e))))))))))
noncomputable def F_slices_siftDownCmpFunc_string_c89 (s : List ByteArray) (a0 : Int) (a1 : Int) (a2 : Int) : Option ((Unit) × List ByteArray) :=
 loopO (fun (v1 : Int × (List ByteArray) × Unit) =>
 bif (decide (a1 ≤ (addI .i64 (mulI .i64 (2 : Int) v1.1) (1 : Int)))) then
 Option.map Sum.inr (some ((()), v1.2.1))
 else
 letJ (fun (v2 : Int × Unit) =>
 Option.bind (idx v1.2.1 (addI .i64 a2 v1.1)) fun x4 =>
 Option.bind (v1.2.1[(Int.toNat (addI .i64 a2 v1.1))]?) fun x5 =>
 Option.bind (idx v1.2.1 (addI .i64 a2 v2.1)) fun x6 =>
 Option.bind (v1.2.1[(Int.toNat (addI .i64 a2 v2.1))]?) fun x7 =>
 Option.bind (F_ballots_CompareValues x5 x7) fun r8 =>
 bif (!(decide (r8 < (0 : Int)))) then
 Option.map Sum.inr (some ((()), v1.2.1))
 else
 Option.bind (idx v1.2.1 (addI .i64 a2 v2.1)) fun x9 =>
 Option.bind (v1.2.1[(Int.toNat (addI .i64 a2 v2.1))]?) fun x10 =>
 Option.bind (idx v1.2.1 (addI .i64 a2 v1.1)) fun x11 =>
 Option.bind (v1.2.1[(Int.toNat (addI .i64 a2 v1.1))]?) fun x12 =>
 Option.bind (idx v1.2.1 (addI .i64 a2 v1.1)) fun x13 =>
 Option.bind (v1.2.1[(Int.toNat (addI .i64 a2 v1.1))]?) fun x14 =>
 Option.bind (idx (v1.2.1.set (Int.toNat (addI .i64 a2 v1.1)) x10) (addI .i64 a2 v2.1)) fun x15 =>
 Option.bind ((v1.2.1.set (Int.toNat (addI .i64 a2 v1.1)) x10)[(Int.toNat (addI .i64 a2 v2.1))]?) fun x16 =>
 some (Sum.inl (v2.1, ((v1.2.1.set (Int.toNat (addI .i64 a2 v1.1)) x10).set (Int.toNat (addI .i64 a2 v2.1)) x12), ()))) fun j3 =>
 letJ (fun (v17 : Bool × Unit) =>
 bif v17.1 then
 j3 ((addI .i64 (addI .i64 (mulI .i64 (2 : Int) v1.1) (1 : Int)) (1 : Int)), ())
 else
 j3 ((addI .i64 (mulI .i64 (2 : Int) v1.1) (1 : Int)), ())) fun j18 =>
 bif (decide ((addI .i64 (addI .i64 (mulI .i64 (2 : Int) v1.1) (1 : Int)) (1 : Int)) < a1)) then
 Option.bind (idx v1.2.1 (addI .i64 a2 (addI .i64 (mulI .i64 (2 : Int) v1.1) (1 : Int)))) fun x19 =>
 Option.bind (v1.2.1[(Int.toNat (addI .i64 a2 (addI .i64 (mulI .i64 (2 : Int) v1.1) (1 : Int))))]?) fun x20 =>
 Option.bind (idx v1.2.1 (addI .i64 (addI .i64 a2 (addI .i64 (mulI .i64 (2 : Int) v1.1) (1 : Int))) (1 : Int))) fun x21 =>
 Option.bind (v1.2.1[(Int.toNat (addI .i64 (addI .i64 a2 (addI .i64 (mulI .i64 (2 : Int) v1.1) (1 : Int))) (1 : Int)))]?) fun x22 =>
 Option.bind (F_ballots_CompareValues x20 x22) fun r23 =>
 j18 ((decide (r23 < (0 : Int))), ())
 else
 j18 (false, ())) (a0, s, ())
noncomputable def k_slices_siftDownCmpFunc_string_c89 : KS U Tryz.prog := ⟨.rw 237 9 1 Ty.str [.ty (Ty.i .i64), .ty (Ty.i .i64), .ty (Ty.i .i64), .clo 89 []] (.many []) fun s a => F_slices_siftDownCmpFunc_string_c89 s a.1 a.2.1 a.2.2.1, rwS (K := K) sa_slices_siftDownCmpFunc_string_c89 82 [] [k_ballots_CompareValues] (fk Tryz.f237 [] Tryz.func237)⟩

/-! ### slices.heapSortCmpFunc[string] -/
noncomputable def sa_slices_heapSortCmpFunc_string_c89 : SA U := annA (scOf Tryz.prog 60 [] Tryz.f211) (.r (.r (.r (.b (.r (.l (.j ⟨[.val 11 (Ty.i .i64), .own 0 0 0 9 1 Ty.str], [3, 8, 9, 10]⟩ .e))) (.r (.l (.j ⟨[.val 12 (Ty.i .i64), .own 0 0 0 9 1 Ty.str], [3, 8, 9]⟩ .e)))))))
noncomputable def F_slices_heapSortCmpFunc_string_c89 (s : List ByteArray) (a0 : Int) (a1 : Int) : Option ((Unit) × List ByteArray) :=
 loopO (fun (v1 : Int × (List ByteArray) × Unit) =>
 bif (decide ((0 : Int) ≤ v1.1)) then
 Option.bind (F_slices_siftDownCmpFunc_string_c89 v1.2.1 v1.1 (subI .i64 a1 a0) a0) fun p2 =>
 some (Sum.inl ((subI .i64 v1.1 (1 : Int)), p2.2, ()))
 else
 Option.map Sum.inr (loopO (fun (v3 : Int × (List ByteArray) × Unit) =>
 bif (decide ((0 : Int) ≤ v3.1)) then
 Option.bind (idx v3.2.1 (addI .i64 a0 v3.1)) fun x4 =>
 Option.bind (v3.2.1[(Int.toNat (addI .i64 a0 v3.1))]?) fun x5 =>
 Option.bind (idx v3.2.1 a0) fun x6 =>
 Option.bind (v3.2.1[(Int.toNat a0)]?) fun x7 =>
 Option.bind (idx v3.2.1 a0) fun x8 =>
 Option.bind (v3.2.1[(Int.toNat a0)]?) fun x9 =>
 Option.bind (idx (v3.2.1.set (Int.toNat a0) x5) (addI .i64 a0 v3.1)) fun x10 =>
 Option.bind ((v3.2.1.set (Int.toNat a0) x5)[(Int.toNat (addI .i64 a0 v3.1))]?) fun x11 =>
 Option.bind (F_slices_siftDownCmpFunc_string_c89 ((v3.2.1.set (Int.toNat a0) x5).set (Int.toNat (addI .i64 a0 v3.1)) x7) (0 : Int) v3.1 a0) fun p12 =>
 some (Sum.inl ((subI .i64 v3.1 (1 : Int)), p12.2, ()))
 else
 Option.map Sum.inr (some ((()), v3.2.1))) ((subI .i64 (subI .i64 a1 a0) (1 : Int)), v1.2.1, ()))) ((quoI .i64 (subI .i64 (subI .i64 a1 a0) (1 : Int)) (2 : Int)), s, ())
noncomputable def k_slices_heapSortCmpFunc_string_c89 : KS U Tryz.prog := ⟨.rw 211 9 1 Ty.str [.ty (Ty.i .i64), .ty (Ty.i .i64), .clo 89 []] (.many []) fun s a => F_slices_heapSortCmpFunc_string_c89 s a.1 a.2.1, rwS (K := K) sa_slices_heapSortCmpFunc_string_c89 60 [] [k_slices_siftDownCmpFunc_string_c89] (fk Tryz.f211 [] Tryz.func211)⟩

/-! ### slices.breakPatternsCmpFunc[string] -/
noncomputable def sa_slices_breakPatternsCmpFunc_string_c89 : SA U := annA (scOf Tryz.prog 67 [] Tryz.f212) (.r (.r (.l (.r (.r (.r (.l (.j ⟨[.val 11 (Ty.i .i64), .own 0 0 0 9 1 Ty.str, .box 9 1 (Ty.i .u64) []], [1, 8, 9, 10]⟩ (.l (.r (.l (.l (.r (.j ⟨[.val 12 (Ty.i .i64)], [0, 1, 8, 9, 10, 11]⟩ .e))))))))))))))
noncomputable def F_slices_breakPatternsCmpFunc_string_c89 (s : List ByteArray) (a0 : Int) (a1 : Int) : Option ((Unit) × List ByteArray) :=
 bif (decide ((8 : Int) ≤ (subI .i64 a1 a0))) then
 Option.bind (F_slices_nextPowerOfTwo (subI .i64 a1 a0)) fun r1 =>
 loopO (fun (v2 : Int × (List ByteArray) × Int × Unit) =>
 bif (decide (v2.1 ≤ (addI .i64 (addI .i64 a0 (mulI .i64 (quoI .i64 (subI .i64 a1 a0) (4 : Int)) (2 : Int))) (1 : Int)))) then
 Option.bind (F_slices_xorshift_Next v2.2.2.1) fun p3 =>
 letJ (fun (v4 : Int × Unit) =>
 Option.bind (idx v2.2.1 (addI .i64 a0 v4.1)) fun x6 =>
 Option.bind (v2.2.1[(Int.toNat (addI .i64 a0 v4.1))]?) fun x7 =>
 Option.bind (idx v2.2.1 v2.1) fun x8 =>
 Option.bind (v2.2.1[(Int.toNat v2.1)]?) fun x9 =>
 Option.bind (idx v2.2.1 v2.1) fun x10 =>
 Option.bind (v2.2.1[(Int.toNat v2.1)]?) fun x11 =>
 Option.bind (idx (v2.2.1.set (Int.toNat v2.1) x7) (addI .i64 a0 v4.1)) fun x12 =>
 Option.bind ((v2.2.1.set (Int.toNat v2.1) x7)[(Int.toNat (addI .i64 a0 v4.1))]?) fun x13 =>
 some (Sum.inl ((addI .i64 v2.1 (1 : Int)), ((v2.2.1.set (Int.toNat v2.1) x7).set (Int.toNat (addI .i64 a0 v4.1)) x9), p3.2, ()))) fun j5 =>
 bif (decide ((subI .i64 a1 a0) ≤ (convI .i64 (andI .u64 p3.1 (subI .u64 r1 (1 : Int)))))) then
 j5 ((subI .i64 (convI .i64 (andI .u64 p3.1 (subI .u64 r1 (1 : Int)))) (subI .i64 a1 a0)), ())
 else
 j5 ((convI .i64 (andI .u64 p3.1 (subI .u64 r1 (1 : Int)))), ())
 else
 Option.map Sum.inr (some ((()), v2.2.1))) ((subI .i64 (addI .i64 a0 (mulI .i64 (quoI .i64 (subI .i64 a1 a0) (4 : Int)) (2 : Int))) (1 : Int)), s, (convI .u64 (subI .i64 a1 a0)), ())
 else
 some ((()), s)
noncomputable def k_slices_breakPatternsCmpFunc_string_c89 : KS U Tryz.prog := ⟨.rw 212 9 1 Ty.str [.ty (Ty.i .i64), .ty (Ty.i .i64), .clo 89 []] (.many []) fun s a => F_slices_breakPatternsCmpFunc_string_c89 s a.1 a.2.1, rwS (K := K) sa_slices_breakPatternsCmpFunc_string_c89 67 [] [k_slices_nextPowerOfTwo, k_slices_xorshift_Next] (fk Tryz.f212 [] Tryz.func212)⟩

/-! ### slices.order2CmpFunc[string] -/
noncomputable def sa_slices_order2CmpFunc_string_c89 : SA U := annA (scOf Tryz.prog 32 [] Tryz.f248) .e
noncomputable def F_slices_order2CmpFunc_string_c89 (s : Int) (a0 : (List ByteArray)) (a1 : Int) (a2 : Int) : Option ((Int × Int × Unit) × Int) :=
 Option.bind (idx a0 a2) fun x1 =>
 Option.bind (idx a0 a1) fun x2 =>
 Option.bind (F_ballots_CompareValues x1 x2) fun r3 =>
 bif (decide (r3 < (0 : Int))) then
 some ((a2, a1, ()), (addI .i64 s (1 : Int)))
 else
 some ((a1, a2, ()), s)
noncomputable def k_slices_order2CmpFunc_string_c89 : KS U Tryz.prog := ⟨.rc 248 3 (Ty.i .i64) [.ty (Ty.sl Ty.str), .ty (Ty.i .i64), .ty (Ty.i .i64), .clo 89 []] (.many [(Ty.i .i64), (Ty.i .i64)]) fun s a => F_slices_order2CmpFunc_string_c89 s a.1 a.2.1 a.2.2.1, rcS (K := K) sa_slices_order2CmpFunc_string_c89 32 [.tmp 10, .tmp 11] [k_ballots_CompareValues] (fk Tryz.f248 [] Tryz.func248)⟩

/-! ### slices.medianCmpFunc[string] -/
noncomputable def sa_slices_medianCmpFunc_string_c89 : SA U := annA (scOf Tryz.prog 41 [] Tryz.f239) .e
noncomputable def F_slices_medianCmpFunc_string_c89 (s : Int) (a0 : (List ByteArray)) (a1 : Int) (a2 : Int) (a3 : Int) : Option (Int × Int) :=
 Option.bind (F_slices_order2CmpFunc_string_c89 s a0 a1 a2) fun p1 =>
 Option.bind (F_slices_order2CmpFunc_string_c89 p1.2 a0 p1.1.2.1 a3) fun p2 =>
 Option.bind (F_slices_order2CmpFunc_string_c89 p2.2 a0 p1.1.1 p2.1.1) fun p3 =>
 some (p3.1.2.1, p3.2)
noncomputable def k_slices_medianCmpFunc_string_c89 : KS U Tryz.prog := ⟨.rc 239 4 (Ty.i .i64) [.ty (Ty.sl Ty.str), .ty (Ty.i .i64), .ty (Ty.i .i64), .ty (Ty.i .i64), .clo 89 []] (.one (Ty.i .i64)) fun s a => F_slices_medianCmpFunc_string_c89 s a.1 a.2.1 a.2.2.1 a.2.2.2.1, rcS (K := K) sa_slices_medianCmpFunc_string_c89 41 [.tmp 12] [k_slices_order2CmpFunc_string_c89] (fk Tryz.f239 [] Tryz.func239)⟩

/-! ### slices.medianAdjacentCmpFunc[string] -/
noncomputable def sa_slices_medianAdjacentCmpFunc_string_c89 : SA U := annA (scOf Tryz.prog 18 [] Tryz.f238) .e
noncomputable def F_slices_medianAdjacentCmpFunc_string_c89 (s : Int) (a0 : (List ByteArray)) (a1 : Int) : Option (Int × Int) :=
 Option.bind (F_slices_medianCmpFunc_string_c89 s a0 (subI .i64 a1 (1 : Int)) a1 (addI .i64 a1 (1 : Int))) fun p1 =>
 some (p1.1, p1.2)
noncomputable def k_slices_medianAdjacentCmpFunc_string_c89 : KS U Tryz.prog := ⟨.rc 238 2 (Ty.i .i64) [.ty (Ty.sl Ty.str), .ty (Ty.i .i64), .clo 89 []] (.one (Ty.i .i64)) fun s a => F_slices_medianAdjacentCmpFunc_string_c89 s a.1 a.2.1, rcS (K := K) sa_slices_medianAdjacentCmpFunc_string_c89 18 [.tmp 8] [k_slices_medianCmpFunc_string_c89] (fk Tryz.f238 [] Tryz.func238)⟩

/-! ### slices.choosePivotCmpFunc[string] -/
noncomputable def sa_slices_choosePivotCmpFunc_string_c89 : SA U := annA (scOf Tryz.prog 63 [] Tryz.f213) (.r (.r (.r (.r (.r (.r (.j ⟨[.val 13 (Ty.i .i64), .box 6 1 (Ty.i .i64) []], [11]⟩ (.l (.r (.l (.j ⟨[.val 12 (Ty.i .i64), .val 13 (Ty.i .i64), .val 14 (Ty.i .i64), .box 6 1 (Ty.i .i64) []], [0, 3, 11]⟩ .e)))))))))))
noncomputable def F_slices_choosePivotCmpFunc_string_c89 (a0 : (List ByteArray)) (a1 : Int) (a2 : Int) : Option (Int × Int × Unit) :=
 letJ (fun (v1 : Int × Int × Unit) =>
 bif (decide (v1.2.1 = (0 : Int))) then
 some (v1.1, (1 : Int), ())
 else
 bif (decide (v1.2.1 = (12 : Int))) then
 some (v1.1, (2 : Int), ())
 else
 some (v1.1, (0 : Int), ())) fun j2 =>
 bif (decide ((8 : Int) ≤ (subI .i64 a2 a1))) then
 letJ (fun (v3 : Int × Int × Int × Int × Unit) =>
 Option.bind (F_slices_medianCmpFunc_string_c89 v3.2.2.2.1 a0 v3.1 v3.2.1 v3.2.2.1) fun p5 =>
 j2 (p5.1, p5.2, ())) fun j4 =>
 bif (decide ((50 : Int) ≤ (subI .i64 a2 a1))) then
 Option.bind (F_slices_medianAdjacentCmpFunc_string_c89 (0 : Int) a0 (addI .i64 a1 (mulI .i64 (quoI .i64 (subI .i64 a2 a1) (4 : Int)) (1 : Int)))) fun p6 =>
 Option.bind (F_slices_medianAdjacentCmpFunc_string_c89 p6.2 a0 (addI .i64 a1 (mulI .i64 (quoI .i64 (subI .i64 a2 a1) (4 : Int)) (2 : Int)))) fun p7 =>
 Option.bind (F_slices_medianAdjacentCmpFunc_string_c89 p7.2 a0 (addI .i64 a1 (mulI .i64 (quoI .i64 (subI .i64 a2 a1) (4 : Int)) (3 : Int)))) fun p8 =>
 j4 (p6.1, p7.1, p8.1, p8.2, ())
 else
 j4 ((addI .i64 a1 (mulI .i64 (quoI .i64 (subI .i64 a2 a1) (4 : Int)) (1 : Int))), (addI .i64 a1 (mulI .i64 (quoI .i64 (subI .i64 a2 a1) (4 : Int)) (2 : Int))), (addI .i64 a1 (mulI .i64 (quoI .i64 (subI .i64 a2 a1) (4 : Int)) (3 : Int))), (0 : Int), ())
 else
 j2 ((addI .i64 a1 (mulI .i64 (quoI .i64 (subI .i64 a2 a1) (4 : Int)) (2 : Int))), (0 : Int), ())
noncomputable def k_slices_choosePivotCmpFunc_string_c89 : KS U Tryz.prog := ⟨.fn 213 [.ty (Ty.sl Ty.str), .ty (Ty.i .i64), .ty (Ty.i .i64), .clo 89 []] (.many [(Ty.i .i64), (Ty.i .i64)]) fun a => F_slices_choosePivotCmpFunc_string_c89 a.1 a.2.1 a.2.2.1, fnS (K := K) sa_slices_choosePivotCmpFunc_string_c89 63 [.tmp 8, .tmp 9] [k_slices_medianAdjacentCmpFunc_string_c89, k_slices_medianCmpFunc_string_c89] (fk Tryz.f213 [] Tryz.func213)⟩

/-! ### slices.reverseRangeCmpFunc[string] -/
noncomputable def sa_slices_reverseRangeCmpFunc_string_c89 : SA U := annA (scOf Tryz.prog 34 [] Tryz.f214) (.r (.r (.l (.j ⟨[.val 8 (Ty.i .i64), .val 9 (Ty.i .i64), .own 0 0 0 9 1 Ty.str], []⟩ .e))))
noncomputable def F_slices_reverseRangeCmpFunc_string_c89 (s : List ByteArray) (a0 : Int) (a1 : Int) : Option ((Unit) × List ByteArray) :=
 loopO (fun (v1 : Int × Int × (List ByteArray) × Unit) =>
 bif (decide (v1.1 < v1.2.1)) then
 Option.bind (idx v1.2.2.1 v1.2.1) fun x2 =>
 Option.bind (v1.2.2.1[(Int.toNat v1.2.1)]?) fun x3 =>
 Option.bind (idx v1.2.2.1 v1.1) fun x4 =>
 Option.bind (v1.2.2.1[(Int.toNat v1.1)]?) fun x5 =>
 Option.bind (idx v1.2.2.1 v1.1) fun x6 =>
 Option.bind (v1.2.2.1[(Int.toNat v1.1)]?) fun x7 =>
 Option.bind (idx (v1.2.2.1.set (Int.toNat v1.1) x3) v1.2.1) fun x8 =>
 Option.bind ((v1.2.2.1.set (Int.toNat v1.1) x3)[(Int.toNat v1.2.1)]?) fun x9 =>
 some (Sum.inl ((addI .i64 v1.1 (1 : Int)), (subI .i64 v1.2.1 (1 : Int)), ((v1.2.2.1.set (Int.toNat v1.1) x3).set (Int.toNat v1.2.1) x5), ()))
 else
 Option.map Sum.inr (some ((()), v1.2.2.1))) (a0, (subI .i64 a1 (1 : Int)), s, ())
noncomputable def k_slices_reverseRangeCmpFunc_string_c89 : KS U Tryz.prog := ⟨.rw 214 9 1 Ty.str [.ty (Ty.i .i64), .ty (Ty.i .i64), .clo 89 []] (.many []) fun s a => F_slices_reverseRangeCmpFunc_string_c89 s a.1 a.2.1, rwS (K := K) sa_slices_reverseRangeCmpFunc_string_c89 34 [] [] (fk Tryz.f214 [] Tryz.func214)⟩

/-! ### slices.partialInsertionSortCmpFunc[string] -/
noncomputable def sa_slices_partialInsertionSortCmpFunc_string_c89 : SA U := annA (scOf Tryz.prog 141 [] Tryz.f215) (.r (.r (.l (.r (.l (.j ⟨[.val 9 (Ty.i .i64), .val 10 (Ty.i .i64), .own 0 0 0 9 1 Ty.str], [1, 2, 3]⟩ (.l (.r (.j ⟨[.val 9 (Ty.i .i64), .own 0 0 0 9 1 Ty.str], [1, 2, 3, 10]⟩ (.l (.l (.b (.l (.j ⟨[.val 9 (Ty.i .i64)], [0, 1, 2, 3, 10]⟩ (.l (.l (.j ⟨[.val 36 Ty.bool], [0, 1, 2, 3, 9, 10]⟩ .e))))) (.r (.r (.r (.j ⟨[.own 0 0 0 9 1 Ty.str], [1, 2, 3, 9, 10]⟩ (.b (.r (.l (.r (.l (.j ⟨[.val 11 (Ty.i .i64), .own 0 0 0 9 1 Ty.str], [1, 2, 3, 9, 10]⟩ .e))))) (.r (.l (.r (.l (.j ⟨[.val 12 (Ty.i .i64), .own 0 0 0 9 1 Ty.str], [1, 2, 3, 9, 10]⟩ .e))))))))))))))))))))))
noncomputable def F_slices_partialInsertionSortCmpFunc_string_c89 (s : List ByteArray) (a0 : Int) (a1 : Int) : Option (Bool × List ByteArray) :=
 loopO (fun (v1 : Int × Int × (List ByteArray) × Unit) =>
 bif (decide (v1.2.1 < (5 : Int))) then
 letJ (fun (v2 : Int × (List ByteArray) × Unit) =>
 some (Sum.inl (v2.1, (addI .i64 v1.2.1 (1 : Int)), v2.2.1, ()))) fun j3 =>
 loopO (fun (v4 : Int × Unit) =>
 letJ (fun (v5 : Bool × Unit) =>
 bif v5.1 then
 some (Sum.inl ((addI .i64 v4.1 (1 : Int)), ()))
 else
 Option.map Sum.inr (bif (decide (v4.1 = a1)) then
 Option.map Sum.inr (some (true, v1.2.2.1))
 else
 bif (decide ((subI .i64 a1 a0) < (50 : Int))) then
 Option.map Sum.inr (some (false, v1.2.2.1))
 else
 Option.bind (idx v1.2.2.1 (subI .i64 v4.1 (1 : Int))) fun x7 =>
 Option.bind (v1.2.2.1[(Int.toNat (subI .i64 v4.1 (1 : Int)))]?) fun x8 =>
 Option.bind (idx v1.2.2.1 v4.1) fun x9 =>
 Option.bind (v1.2.2.1[(Int.toNat v4.1)]?) fun x10 =>
 Option.bind (idx v1.2.2.1 v4.1) fun x11 =>
 Option.bind (v1.2.2.1[(Int.toNat v4.1)]?) fun x12 =>
 Option.bind (idx (v1.2.2.1.set (Int.toNat v4.1) x8) (subI .i64 v4.1 (1 : Int))) fun x13 =>
 Option.bind ((v1.2.2.1.set (Int.toNat v4.1) x8)[(Int.toNat (subI .i64 v4.1 (1 : Int)))]?) fun x14 =>
 letJ (fun (v15 : (List ByteArray) × Unit) =>
 bif (decide ((2 : Int) ≤ (subI .i64 a1 v4.1))) then
 loopO (fun (v17 : Int × (List ByteArray) × Unit) =>
 bif (decide (v17.1 < a1)) then
 Option.bind (idx v17.2.1 v17.1) fun x18 =>
 Option.bind (v17.2.1[(Int.toNat v17.1)]?) fun x19 =>
 Option.bind (idx v17.2.1 (subI .i64 v17.1 (1 : Int))) fun x20 =>
 Option.bind (v17.2.1[(Int.toNat (subI .i64 v17.1 (1 : Int)))]?) fun x21 =>
 Option.bind (F_ballots_CompareValues x19 x21) fun r22 =>
 bif (!(decide (r22 < (0 : Int)))) then
 Option.map Sum.inr (j3 (v4.1, v17.2.1, ()))
 else
 Option.bind (idx v17.2.1 (subI .i64 v17.1 (1 : Int))) fun x23 =>
 Option.bind (v17.2.1[(Int.toNat (subI .i64 v17.1 (1 : Int)))]?) fun x24 =>
 Option.bind (idx v17.2.1 v17.1) fun x25 =>
 Option.bind (v17.2.1[(Int.toNat v17.1)]?) fun x26 =>
 Option.bind (idx v17.2.1 v17.1) fun x27 =>
 Option.bind (v17.2.1[(Int.toNat v17.1)]?) fun x28 =>
 Option.bind (idx (v17.2.1.set (Int.toNat v17.1) x24) (subI .i64 v17.1 (1 : Int))) fun x29 =>
 Option.bind ((v17.2.1.set (Int.toNat v17.1) x24)[(Int.toNat (subI .i64 v17.1 (1 : Int)))]?) fun x30 =>
 some (Sum.inl ((addI .i64 v17.1 (1 : Int)), ((v17.2.1.set (Int.toNat v17.1) x24).set (Int.toNat (subI .i64 v17.1 (1 : Int))) x26), ()))
 else
 Option.map Sum.inr (j3 (v4.1, v17.2.1, ()))) ((addI .i64 v4.1 (1 : Int)), v15.1, ())
 else
 j3 (v4.1, v15.1, ())) fun j16 =>
 bif (decide ((2 : Int) ≤ (subI .i64 v4.1 a0))) then
 loopO (fun (v31 : Int × (List ByteArray) × Unit) =>
 bif (decide ((1 : Int) ≤ v31.1)) then
 Option.bind (idx v31.2.1 v31.1) fun x32 =>
 Option.bind (v31.2.1[(Int.toNat v31.1)]?) fun x33 =>
 Option.bind (idx v31.2.1 (subI .i64 v31.1 (1 : Int))) fun x34 =>
 Option.bind (v31.2.1[(Int.toNat (subI .i64 v31.1 (1 : Int)))]?) fun x35 =>
 Option.bind (F_ballots_CompareValues x33 x35) fun r36 =>
 bif (!(decide (r36 < (0 : Int)))) then
 Option.map Sum.inr (j16 (v31.2.1, ()))
 else
 Option.bind (idx v31.2.1 (subI .i64 v31.1 (1 : Int))) fun x37 =>
 Option.bind (v31.2.1[(Int.toNat (subI .i64 v31.1 (1 : Int)))]?) fun x38 =>
 Option.bind (idx v31.2.1 v31.1) fun x39 =>
 Option.bind (v31.2.1[(Int.toNat v31.1)]?) fun x40 =>
 Option.bind (idx v31.2.1 v31.1) fun x41 =>
 Option.bind (v31.2.1[(Int.toNat v31.1)]?) fun x42 =>
 Option.bind (idx (v31.2.1.set (Int.toNat v31.1) x38) (subI .i64 v31.1 (1 : Int))) fun x43 =>
 Option.bind ((v31.2.1.set (Int.toNat v31.1) x38)[(Int.toNat (subI .i64 v31.1 (1 : Int)))]?) fun x44 =>
 some (Sum.inl ((subI .i64 v31.1 (1 : Int)), ((v31.2.1.set (Int.toNat v31.1) x38).set (Int.toNat (subI .i64 v31.1 (1 : Int))) x40), ()))
 else
 Option.map Sum.inr (j16 (v31.2.1, ()))) ((subI .i64 v4.1 (1 : Int)), ((v1.2.2.1.set (Int.toNat v4.1) x8).set (Int.toNat (subI .i64 v4.1 (1 : Int))) x10), ())
 else
 j16 (((v1.2.2.1.set (Int.toNat v4.1) x8).set (Int.toNat (subI .i64 v4.1 (1 : Int))) x10), ()))) fun j6 =>
 bif (decide (v4.1 < a1)) then
 Option.bind (idx v1.2.2.1 v4.1) fun x45 =>
 Option.bind (v1.2.2.1[(Int.toNat v4.1)]?) fun x46 =>
 Option.bind (idx v1.2.2.1 (subI .i64 v4.1 (1 : Int))) fun x47 =>
 Option.bind (v1.2.2.1[(Int.toNat (subI .i64 v4.1 (1 : Int)))]?) fun x48 =>
 Option.bind (F_ballots_CompareValues x46 x48) fun r49 =>
 j6 ((!(decide (r49 < (0 : Int)))), ())
 else
 j6 (false, ())) (v1.1, ())
 else
 Option.map Sum.inr (some (false, v1.2.2.1))) ((addI .i64 a0 (1 : Int)), (0 : Int), s, ())
noncomputable def k_slices_partialInsertionSortCmpFunc_string_c89 : KS U Tryz.prog := ⟨.rw 215 9 1 Ty.str [.ty (Ty.i .i64), .ty (Ty.i .i64), .clo 89 []] (.one Ty.bool) fun s a => F_slices_partialInsertionSortCmpFunc_string_c89 s a.1 a.2.1, rwS (K := K) sa_slices_partialInsertionSortCmpFunc_string_c89 141 [.tmp 8] [k_ballots_CompareValues] (fk Tryz.f215 [] Tryz.func215)⟩

/-! ### slices.partitionEqualCmpFunc[string] -/
noncomputable def sa_slices_partitionEqualCmpFunc_string_c89 : SA U := annA (scOf Tryz.prog 90 [] Tryz.f216) (.r (.r (.r (.l (.l (.j ⟨[.val 11 (Ty.i .i64), .val 12 (Ty.i .i64), .own 0 0 0 9 1 Ty.str], [1, 4]⟩ (.l (.l (.b (.l (.j ⟨[.val 11 (Ty.i .i64)], [0, 1, 4, 12]⟩ (.l (.l (.j ⟨[.val 47 Ty.bool], [0, 1, 4, 11, 12]⟩ .e))))) (.l (.l (.j ⟨[.val 12 (Ty.i .i64)], [0, 1, 4, 11]⟩ (.l (.l (.j ⟨[.val 65 Ty.bool], [0, 1, 4, 11, 12]⟩ .e)))))))))))))))
noncomputable def F_slices_partitionEqualCmpFunc_string_c89 (s : List ByteArray) (a0 : Int) (a1 : Int) (a2 : Int) : Option (Int × List ByteArray) :=
 Option.bind (idx s a2) fun x1 =>
 Option.bind (s[(Int.toNat a2)]?) fun x2 =>
 Option.bind (idx s a0) fun x3 =>
 Option.bind (s[(Int.toNat a0)]?) fun x4 =>
 Option.bind (idx s a0) fun x5 =>
 Option.bind (s[(Int.toNat a0)]?) fun x6 =>
 Option.bind (idx (s.set (Int.toNat a0) x2) a2) fun x7 =>
 Option.bind ((s.set (Int.toNat a0) x2)[(Int.toNat a2)]?) fun x8 =>
 loopO (fun (v9 : Int × Int × (List ByteArray) × Unit) =>
 loopO (fun (v10 : Int × Unit) =>
 letJ (fun (v11 : Bool × Unit) =>
 bif v11.1 then
 some (Sum.inl ((addI .i64 v10.1 (1 : Int)), ()))
 else
 Option.map Sum.inr (loopO (fun (v13 : Int × Unit) =>
 letJ (fun (v14 : Bool × Unit) =>
 bif v14.1 then
 some (Sum.inl ((subI .i64 v13.1 (1 : Int)), ()))
 else
 Option.map Sum.inr (bif (decide (v13.1 < v10.1)) then
 Option.map Sum.inr (some (v10.1, v9.2.2.1))
 else
 Option.bind (idx v9.2.2.1 v13.1) fun x16 =>
 Option.bind (v9.2.2.1[(Int.toNat v13.1)]?) fun x17 =>
 Option.bind (idx v9.2.2.1 v10.1) fun x18 =>
 Option.bind (v9.2.2.1[(Int.toNat v10.1)]?) fun x19 =>
 Option.bind (idx v9.2.2.1 v10.1) fun x20 =>
 Option.bind (v9.2.2.1[(Int.toNat v10.1)]?) fun x21 =>
 Option.bind (idx (v9.2.2.1.set (Int.toNat v10.1) x17) v13.1) fun x22 =>
 Option.bind ((v9.2.2.1.set (Int.toNat v10.1) x17)[(Int.toNat v13.1)]?) fun x23 =>
 some (Sum.inl ((addI .i64 v10.1 (1 : Int)), (subI .i64 v13.1 (1 : Int)), ((v9.2.2.1.set (Int.toNat v10.1) x17).set (Int.toNat v13.1) x19), ())))) fun j15 =>
 bif (decide (v10.1 ≤ v13.1)) then
 Option.bind (idx v9.2.2.1 a0) fun x24 =>
 Option.bind (v9.2.2.1[(Int.toNat a0)]?) fun x25 =>
 Option.bind (idx v9.2.2.1 v13.1) fun x26 =>
 Option.bind (v9.2.2.1[(Int.toNat v13.1)]?) fun x27 =>
 Option.bind (F_ballots_CompareValues x25 x27) fun r28 =>
 j15 ((decide (r28 < (0 : Int))), ())
 else
 j15 (false, ())) (v9.2.1, ()))) fun j12 =>
 bif (decide (v10.1 ≤ v9.2.1)) then
 Option.bind (idx v9.2.2.1 a0) fun x29 =>
 Option.bind (v9.2.2.1[(Int.toNat a0)]?) fun x30 =>
 Option.bind (idx v9.2.2.1 v10.1) fun x31 =>
 Option.bind (v9.2.2.1[(Int.toNat v10.1)]?) fun x32 =>
 Option.bind (F_ballots_CompareValues x30 x32) fun r33 =>
 j12 ((!(decide (r33 < (0 : Int)))), ())
 else
 j12 (false, ())) (v9.1, ())) ((addI .i64 a0 (1 : Int)), (subI .i64 a1 (1 : Int)), ((s.set (Int.toNat a0) x2).set (Int.toNat a2) x4), ())
noncomputable def k_slices_partitionEqualCmpFunc_string_c89 : KS U Tryz.prog := ⟨.rw 216 9 1 Ty.str [.ty (Ty.i .i64), .ty (Ty.i .i64), .ty (Ty.i .i64), .clo 89 []] (.one (Ty.i .i64)) fun s a => F_slices_partitionEqualCmpFunc_string_c89 s a.1 a.2.1 a.2.2.1, rwS (K := K) sa_slices_partitionEqualCmpFunc_string_c89 90 [.tmp 10] [k_ballots_CompareValues] (fk Tryz.f216 [] Tryz.func216)⟩

/-! ### slices.partitionCmpFunc[string] -/
noncomputable def sa_slices_partitionCmpFunc_string_c89 : SA U := annA (scOf Tryz.prog 178 [] Tryz.f217) (.r (.r (.r (.b (.l (.j ⟨[.val 12 (Ty.i .i64)], [0, 1, 4, 13]⟩ (.l (.l (.j ⟨[.val 47 Ty.bool], [0, 1, 4, 12, 13]⟩ .e))))) (.b (.l (.j ⟨[.val 13 (Ty.i .i64)], [0, 1, 4, 12]⟩ (.l (.l (.j ⟨[.val 66 Ty.bool], [0, 1, 4, 12, 13]⟩ .e))))) (.r (.r (.r (.r (.l (.l (.j ⟨[.val 12 (Ty.i .i64), .val 13 (Ty.i .i64), .own 0 0 0 9 1 Ty.str], [1, 4]⟩ (.l (.l (.b (.l (.j ⟨[.val 12 (Ty.i .i64)], [0, 1, 4, 13]⟩ (.l (.l (.j ⟨[.val 120 Ty.bool], [0, 1, 4, 12, 13]⟩ .e))))) (.l (.l (.j ⟨[.val 13 (Ty.i .i64)], [0, 1, 4, 12]⟩ (.l (.l (.j ⟨[.val 139 Ty.bool], [0, 1, 4, 12, 13]⟩ .e)))))))))))))))))))))
noncomputable def F_slices_partitionCmpFunc_string_c89 (s : List ByteArray) (a0 : Int) (a1 : Int) (a2 : Int) : Option ((Int × Bool × Unit) × List ByteArray) :=
 Option.bind (idx s a2) fun x1 =>
 Option.bind (s[(Int.toNat a2)]?) fun x2 =>
 Option.bind (idx s a0) fun x3 =>
 Option.bind (s[(Int.toNat a0)]?) fun x4 =>
 Option.bind (idx s a0) fun x5 =>
 Option.bind (s[(Int.toNat a0)]?) fun x6 =>
 Option.bind (idx (s.set (Int.toNat a0) x2) a2) fun x7 =>
 Option.bind ((s.set (Int.toNat a0) x2)[(Int.toNat a2)]?) fun x8 =>
 loopO (fun (v9 : Int × Unit) =>
 letJ (fun (v10 : Bool × Unit) =>
 bif v10.1 then
 some (Sum.inl ((addI .i64 v9.1 (1 : Int)), ()))
 else
 Option.map Sum.inr (loopO (fun (v12 : Int × Unit) =>
 letJ (fun (v13 : Bool × Unit) =>
 bif v13.1 then
 some (Sum.inl ((subI .i64 v12.1 (1 : Int)), ()))
 else
 Option.map Sum.inr (bif (decide (v12.1 < v9.1)) then
 Option.bind (idx ((s.set (Int.toNat a0) x2).set (Int.toNat a2) x4) a0) fun x15 =>
 Option.bind (((s.set (Int.toNat a0) x2).set (Int.toNat a2) x4)[(Int.toNat a0)]?) fun x16 =>
 Option.bind (idx ((s.set (Int.toNat a0) x2).set (Int.toNat a2) x4) v12.1) fun x17 =>
 Option.bind (((s.set (Int.toNat a0) x2).set (Int.toNat a2) x4)[(Int.toNat v12.1)]?) fun x18 =>
 Option.bind (idx ((s.set (Int.toNat a0) x2).set (Int.toNat a2) x4) v12.1) fun x19 =>
 Option.bind (((s.set (Int.toNat a0) x2).set (Int.toNat a2) x4)[(Int.toNat v12.1)]?) fun x20 =>
 Option.bind (idx (((s.set (Int.toNat a0) x2).set (Int.toNat a2) x4).set (Int.toNat v12.1) x16) a0) fun x21 =>
 Option.bind ((((s.set (Int.toNat a0) x2).set (Int.toNat a2) x4).set (Int.toNat v12.1) x16)[(Int.toNat a0)]?) fun x22 =>
 some ((v12.1, true, ()), ((((s.set (Int.toNat a0) x2).set (Int.toNat a2) x4).set (Int.toNat v12.1) x16).set (Int.toNat a0) x18))
 else
 Option.bind (idx ((s.set (Int.toNat a0) x2).set (Int.toNat a2) x4) v12.1) fun x23 =>
 Option.bind (((s.set (Int.toNat a0) x2).set (Int.toNat a2) x4)[(Int.toNat v12.1)]?) fun x24 =>
 Option.bind (idx ((s.set (Int.toNat a0) x2).set (Int.toNat a2) x4) v9.1) fun x25 =>
 Option.bind (((s.set (Int.toNat a0) x2).set (Int.toNat a2) x4)[(Int.toNat v9.1)]?) fun x26 =>
 Option.bind (idx ((s.set (Int.toNat a0) x2).set (Int.toNat a2) x4) v9.1) fun x27 =>
 Option.bind (((s.set (Int.toNat a0) x2).set (Int.toNat a2) x4)[(Int.toNat v9.1)]?) fun x28 =>
 Option.bind (idx (((s.set (Int.toNat a0) x2).set (Int.toNat a2) x4).set (Int.toNat v9.1) x24) v12.1) fun x29 =>
 Option.bind ((((s.set (Int.toNat a0) x2).set (Int.toNat a2) x4).set (Int.toNat v9.1) x24)[(Int.toNat v12.1)]?) fun x30 =>
 loopO (fun (v31 : Int × Int × (List ByteArray) × Unit) =>
 loopO (fun (v32 : Int × Unit) =>
 letJ (fun (v33 : Bool × Unit) =>
 bif v33.1 then
 some (Sum.inl ((addI .i64 v32.1 (1 : Int)), ()))
 else
 Option.map Sum.inr (loopO (fun (v35 : Int × Unit) =>
 letJ (fun (v36 : Bool × Unit) =>
 bif v36.1 then
 some (Sum.inl ((subI .i64 v35.1 (1 : Int)), ()))
 else
 Option.map Sum.inr (bif (decide (v35.1 < v32.1)) then
 Option.map Sum.inr (Option.bind (idx v31.2.2.1 a0) fun x38 =>
 Option.bind (v31.2.2.1[(Int.toNat a0)]?) fun x39 =>
 Option.bind (idx v31.2.2.1 v35.1) fun x40 =>
 Option.bind (v31.2.2.1[(Int.toNat v35.1)]?) fun x41 =>
 Option.bind (idx v31.2.2.1 v35.1) fun x42 =>
 Option.bind (v31.2.2.1[(Int.toNat v35.1)]?) fun x43 =>
 Option.bind (idx (v31.2.2.1.set (Int.toNat v35.1) x39) a0) fun x44 =>
 Option.bind ((v31.2.2.1.set (Int.toNat v35.1) x39)[(Int.toNat a0)]?) fun x45 =>
 some ((v35.1, false, ()), ((v31.2.2.1.set (Int.toNat v35.1) x39).set (Int.toNat a0) x41)))
 else
 Option.bind (idx v31.2.2.1 v35.1) fun x46 =>
 Option.bind (v31.2.2.1[(Int.toNat v35.1)]?) fun x47 =>
 Option.bind (idx v31.2.2.1 v32.1) fun x48 =>
 Option.bind (v31.2.2.1[(Int.toNat v32.1)]?) fun x49 =>
 Option.bind (idx v31.2.2.1 v32.1) fun x50 =>
 Option.bind (v31.2.2.1[(Int.toNat v32.1)]?) fun x51 =>
 Option.bind (idx (v31.2.2.1.set (Int.toNat v32.1) x47) v35.1) fun x52 =>
 Option.bind ((v31.2.2.1.set (Int.toNat v32.1) x47)[(Int.toNat v35.1)]?) fun x53 =>
 some (Sum.inl ((addI .i64 v32.1 (1 : Int)), (subI .i64 v35.1 (1 : Int)), ((v31.2.2.1.set (Int.toNat v32.1) x47).set (Int.toNat v35.1) x49), ())))) fun j37 =>
 bif (decide (v32.1 ≤ v35.1)) then
 Option.bind (idx v31.2.2.1 v35.1) fun x54 =>
 Option.bind (v31.2.2.1[(Int.toNat v35.1)]?) fun x55 =>
 Option.bind (idx v31.2.2.1 a0) fun x56 =>
 Option.bind (v31.2.2.1[(Int.toNat a0)]?) fun x57 =>
 Option.bind (F_ballots_CompareValues x55 x57) fun r58 =>
 j37 ((!(decide (r58 < (0 : Int)))), ())
 else
 j37 (false, ())) (v31.2.1, ()))) fun j34 =>
 bif (decide (v32.1 ≤ v31.2.1)) then
 Option.bind (idx v31.2.2.1 v32.1) fun x59 =>
 Option.bind (v31.2.2.1[(Int.toNat v32.1)]?) fun x60 =>
 Option.bind (idx v31.2.2.1 a0) fun x61 =>
 Option.bind (v31.2.2.1[(Int.toNat a0)]?) fun x62 =>
 Option.bind (F_ballots_CompareValues x60 x62) fun r63 =>
 j34 ((decide (r63 < (0 : Int))), ())
 else
 j34 (false, ())) (v31.1, ())) ((addI .i64 v9.1 (1 : Int)), (subI .i64 v12.1 (1 : Int)), ((((s.set (Int.toNat a0) x2).set (Int.toNat a2) x4).set (Int.toNat v9.1) x24).set (Int.toNat v12.1) x26), ()))) fun j14 =>
 bif (decide (v9.1 ≤ v12.1)) then
 Option.bind (idx ((s.set (Int.toNat a0) x2).set (Int.toNat a2) x4) v12.1) fun x64 =>
 Option.bind (((s.set (Int.toNat a0) x2).set (Int.toNat a2) x4)[(Int.toNat v12.1)]?) fun x65 =>
 Option.bind (idx ((s.set (Int.toNat a0) x2).set (Int.toNat a2) x4) a0) fun x66 =>
 Option.bind (((s.set (Int.toNat a0) x2).set (Int.toNat a2) x4)[(Int.toNat a0)]?) fun x67 =>
 Option.bind (F_ballots_CompareValues x65 x67) fun r68 =>
 j14 ((!(decide (r68 < (0 : Int)))), ())
 else
 j14 (false, ())) ((subI .i64 a1 (1 : Int)), ()))) fun j11 =>
 bif (decide (v9.1 ≤ (subI .i64 a1 (1 : Int)))) then
 Option.bind (idx ((s.set (Int.toNat a0) x2).set (Int.toNat a2) x4) v9.1) fun x69 =>
 Option.bind (((s.set (Int.toNat a0) x2).set (Int.toNat a2) x4)[(Int.toNat v9.1)]?) fun x70 =>
 Option.bind (idx ((s.set (Int.toNat a0) x2).set (Int.toNat a2) x4) a0) fun x71 =>
 Option.bind (((s.set (Int.toNat a0) x2).set (Int.toNat a2) x4)[(Int.toNat a0)]?) fun x72 =>
 Option.bind (F_ballots_CompareValues x70 x72) fun r73 =>
 j11 ((decide (r73 < (0 : Int))), ())
 else
 j11 (false, ())) ((addI .i64 a0 (1 : Int)), ())
noncomputable def k_slices_partitionCmpFunc_string_c89 : KS U Tryz.prog := ⟨.rw 217 9 1 Ty.str [.ty (Ty.i .i64), .ty (Ty.i .i64), .ty (Ty.i .i64), .clo 89 []] (.many [(Ty.i .i64), Ty.bool]) fun s a => F_slices_partitionCmpFunc_string_c89 s a.1 a.2.1 a.2.2.1, rwS (K := K) sa_slices_partitionCmpFunc_string_c89 178 [.tmp 10, .tmp 11] [k_ballots_CompareValues] (fk Tryz.f217 [] Tryz.func217)⟩

/-! ### slices.pdqsortCmpFunc[string] -/
noncomputable def sa_slices_pdqsortCmpFunc_string_c89 : SA U := annA (scOf Tryz.prog 148 [] Tryz.f182) (.r (.r (.l (.j ⟨[.val 1 (Ty.i .i64), .val 2 (Ty.i .i64), .val 3 (Ty.i .i64), .val 10 Ty.bool, .val 11 Ty.bool, .own 0 0 0 9 1 Ty.str], [4]⟩ (.l (.l (.r (.r (.r (.j ⟨[.val 3 (Ty.i .i64), .own 0 0 0 9 1 Ty.str], [1, 2, 4, 10, 11, 12]⟩ (.r (.r (.j ⟨[.val 13 (Ty.i .i64), .val 14 (Ty.i .i64), .own 0 0 0 9 1 Ty.str], [1, 2, 3, 4, 10, 11, 12]⟩ (.r (.j ⟨[.own 0 0 0 9 1 Ty.str], [1, 2, 3, 4, 10, 11, 12, 13]⟩ (.r (.l (.j ⟨[.val 97 Ty.bool], [0, 1, 2, 3, 4, 10, 11, 12, 13]⟩ .e))))))))))))))))))
noncomputable def B_slices_pdqsortCmpFunc_string_c89 (rec : List ByteArray → (Int × Int × Int × (Unit) × Unit) → Option ((Unit) × List ByteArray)) (s : List ByteArray) (a0 : Int) (a1 : Int) (a2 : Int) : Option ((Unit) × List ByteArray) :=
 loopO (fun (v1 : Int × Int × Int × Bool × Bool × (List ByteArray) × Unit) =>
 bif (decide ((subI .i64 v1.2.1 v1.1) ≤ (12 : Int))) then
 Option.bind (F_slices_insertionSortCmpFunc_string_c89 v1.2.2.2.2.2.1 v1.1 v1.2.1) fun p2 =>
 Option.map Sum.inr (some ((()), p2.2))
 else
 bif (decide (v1.2.2.1 = (0 : Int))) then
 Option.bind (F_slices_heapSortCmpFunc_string_c89 v1.2.2.2.2.2.1 v1.1 v1.2.1) fun p3 =>
 Option.map Sum.inr (some ((()), p3.2))
 else
 letJ (fun (v4 : Int × (List ByteArray) × Unit) =>
 Option.bind (F_slices_choosePivotCmpFunc_string_c89 v4.2.1 v1.1 v1.2.1) fun r6 =>
 letJ (fun (v7 : Int × Int × (List ByteArray) × Unit) =>
 letJ (fun (v9 : (List ByteArray) × Unit) =>
 letJ (fun (v11 : Bool × Unit) =>
 bif v11.1 then
 Option.bind (F_slices_partitionEqualCmpFunc_string_c89 v9.1 v1.1 v1.2.1 v7.1) fun p13 =>
 some (Sum.inl (p13.1, v1.2.1, v4.1, v1.2.2.2.1, v1.2.2.2.2.1, p13.2, ()))
 else
 Option.bind (F_slices_partitionCmpFunc_string_c89 v9.1 v1.1 v1.2.1 v7.1) fun p14 =>
 bif (decide ((subI .i64 p14.1.1 v1.1) < (subI .i64 v1.2.1 p14.1.1))) then
 Option.bind (rec p14.2 (v1.1, p14.1.1, v4.1, (()), ())) fun p15 =>
 some (Sum.inl ((addI .i64 p14.1.1 (1 : Int)), v1.2.1, v4.1, (decide ((quoI .i64 (subI .i64 v1.2.1 v1.1) (8 : Int)) ≤ (subI .i64 p14.1.1 v1.1))), p14.1.2.1, p15.2, ()))
 else
 Option.bind (rec p14.2 ((addI .i64 p14.1.1 (1 : Int)), v1.2.1, v4.1, (()), ())) fun p16 =>
 some (Sum.inl (v1.1, p14.1.1, v4.1, (decide ((quoI .i64 (subI .i64 v1.2.1 v1.1) (8 : Int)) ≤ (subI .i64 v1.2.1 p14.1.1))), p14.1.2.1, p16.2, ()))) fun j12 =>
 bif (decide ((0 : Int) < v1.1)) then
 Option.bind (idx v9.1 (subI .i64 v1.1 (1 : Int))) fun x17 =>
 Option.bind (v9.1[(Int.toNat (subI .i64 v1.1 (1 : Int)))]?) fun x18 =>
 Option.bind (idx v9.1 v7.1) fun x19 =>
 Option.bind (v9.1[(Int.toNat v7.1)]?) fun x20 =>
 Option.bind (F_ballots_CompareValues x18 x20) fun r21 =>
 j12 ((!(decide (r21 < (0 : Int)))), ())
 else
 j12 (false, ())) fun j10 =>
 Option.bind (bif v1.2.2.2.1 then
 some v1.2.2.2.2.1
 else some false) fun b22 =>
 Option.bind (bif b22 then
 some (decide (v7.2.1 = (1 : Int)))
 else some false) fun b23 =>
 bif b23 then
 Option.bind (F_slices_partialInsertionSortCmpFunc_string_c89 v7.2.2.1 v1.1 v1.2.1) fun p24 =>
 bif p24.1 then
 Option.map Sum.inr (some ((()), p24.2))
 else
 j10 (p24.2, ())
 else
 j10 (v7.2.2.1, ())) fun j8 =>
 bif (decide (r6.2.1 = (2 : Int))) then
 Option.bind (F_slices_reverseRangeCmpFunc_string_c89 v4.2.1 v1.1 v1.2.1) fun p25 =>
 j8 ((subI .i64 (subI .i64 v1.2.1 (1 : Int)) (subI .i64 r6.1 v1.1)), (1 : Int), p25.2, ())
 else
 j8 (r6.1, r6.2.1, v4.2.1, ())) fun j5 =>
 bif (!v1.2.2.2.1) then
 Option.bind (F_slices_breakPatternsCmpFunc_string_c89 v1.2.2.2.2.2.1 v1.1 v1.2.1) fun p26 =>
 j5 ((subI .i64 v1.2.2.1 (1 : Int)), p26.2, ())
 else
 j5 (v1.2.2.1, v1.2.2.2.2.2.1, ())) (a0, a1, a2, true, true, s, ())
noncomputable def I_slices_pdqsortCmpFunc_string_c89 : Nat → List ByteArray → (Int × Int × Int × (Unit) × Unit) → Option ((Unit) × List ByteArray) := iterF2 (fun rec s a => B_slices_pdqsortCmpFunc_string_c89 rec s a.1 a.2.1 a.2.2.1)
noncomputable def F_slices_pdqsortCmpFunc_string_c89 (s : List ByteArray) (a0 : Int) (a1 : Int) (a2 : Int) : Option ((Unit) × List ByteArray) := I_slices_pdqsortCmpFunc_string_c89 (List.length s + 1) s (a0, a1, a2, (()), ())
noncomputable def k_slices_pdqsortCmpFunc_string_c89 : KS U Tryz.prog := ⟨.rw 182 9 1 Ty.str [.ty (Ty.i .i64), .ty (Ty.i .i64), .ty (Ty.i .i64), .clo 89 []] (.many []) fun s a => F_slices_pdqsortCmpFunc_string_c89 s a.1 a.2.1 a.2.2.1, rwRS (K := K) («as» := [.ty (Ty.i .i64), .ty (Ty.i .i64), .ty (Ty.i .i64), .clo 89 []]) (r := .many []) (T := Ty.str) (B := fun rec s a => B_slices_pdqsortCmpFunc_string_c89 rec s a.1 a.2.1 a.2.2.1) sa_slices_pdqsortCmpFunc_string_c89 148 [] [k_slices_insertionSortCmpFunc_string_c89, k_slices_heapSortCmpFunc_string_c89, k_slices_breakPatternsCmpFunc_string_c89, k_slices_choosePivotCmpFunc_string_c89, k_slices_reverseRangeCmpFunc_string_c89, k_slices_partialInsertionSortCmpFunc_string_c89, k_ballots_CompareValues, k_slices_partitionEqualCmpFunc_string_c89, k_slices_partitionCmpFunc_string_c89] (fk Tryz.f182 [] Tryz.func182) (hF := fun s a => ⟨_, rfl⟩)⟩

/-! ### slices.SortFunc[[]string,string] -/
noncomputable def sa_slices_SortFunc_string_string_c89 : SA U := annA (scOf Tryz.prog 14 [] Tryz.f148) .e
noncomputable def F_slices_SortFunc_string_string_c89 (s : List ByteArray)  : Option ((Unit) × List ByteArray) :=
 Option.bind (F_math_bits_Len (convI .u64 ((List.length s : Nat) : Int))) fun r1 =>
 Option.bind (F_slices_pdqsortCmpFunc_string_c89 s (0 : Int) ((List.length s : Nat) : Int) r1) fun p2 =>
 some ((()), p2.2)
noncomputable def k_slices_SortFunc_string_string_c89 : KS U Tryz.prog := ⟨.rw 148 9 1 Ty.str [.clo 89 []] (.many []) fun s a => F_slices_SortFunc_string_string_c89 s , rwS (K := K) sa_slices_SortFunc_string_string_c89 14 [] [k_math_bits_Len, k_slices_pdqsortCmpFunc_string_c89] (fk Tryz.f148 [] Tryz.func148)⟩

/-! ### slices.Compact[[]string,string] -/
noncomputable def sa_slices_Compact_string_string : SA U := annA (scOf Tryz.prog 61 [] Tryz.f149) (.r (.r (.l (.r (.l (.j ⟨[.val 3 (Ty.i .i64), .own 0 0 0 9 1 Ty.str], []⟩ (.l (.r (.l (.l (.r (.l (.r (.b (.r (.l (.j ⟨[.val 3 (Ty.i .i64), .val 5 (Ty.i .i64), .own 0 0 0 9 1 Ty.str], [4]⟩ (.l (.r (.j ⟨[.val 3 (Ty.i .i64), .own 0 0 0 9 1 Ty.str], [4, 5]⟩ .e)))))) (.r (.l (.g [(4, .ps (.cut 2))])))))))))))))))))
noncomputable def F_slices_Compact_string_string (s : List ByteArray)  : Option (List ByteArray) :=
 bif (decide (((List.length s : Nat) : Int) < (2 : Int))) then
 some s
 else
 loopO (fun (v1 : Int × (List ByteArray) × Unit) =>
 bif (decide (v1.1 < ((List.length v1.2.1 : Nat) : Int))) then
 Option.bind (idx v1.2.1 v1.1) fun x2 =>
 Option.bind (v1.2.1[(Int.toNat v1.1)]?) fun x3 =>
 Option.bind (idx v1.2.1 (subI .i64 v1.1 (1 : Int))) fun x4 =>
 Option.bind (v1.2.1[(Int.toNat (subI .i64 v1.1 (1 : Int)))]?) fun x5 =>
 bif (decide (x3 = x5)) then
 bif slcOk v1.1 ((List.length v1.2.1) : Int) (List.length v1.2.1) then
 loopO (fun (v6 : Int × Int × (List ByteArray) × Unit) =>
 bif (decide (v6.2.1 < ((List.length ((v6.2.2.1.drop (Int.toNat v1.1)).take (Int.toNat ((List.length v1.2.1) : Int) - Int.toNat v1.1)) : Nat) : Int))) then
 letJ (fun (v7 : Int × (List ByteArray) × Unit) =>
 some (Sum.inl (v7.1, (addI .i64 v6.2.1 (1 : Int)), v7.2.1, ()))) fun j8 =>
 Option.bind (idx ((v6.2.2.1.drop (Int.toNat v1.1)).take (Int.toNat ((List.length v1.2.1) : Int) - Int.toNat v1.1)) v6.2.1) fun x9 =>
 Option.bind (v6.2.2.1[((Int.toNat v1.1) + Int.toNat v6.2.1)]?) fun x10 =>
 Option.bind (idx ((v6.2.2.1.drop (Int.toNat v1.1)).take (Int.toNat ((List.length v1.2.1) : Int) - Int.toNat v1.1)) (subI .i64 v6.2.1 (1 : Int))) fun x11 =>
 Option.bind (v6.2.2.1[((Int.toNat v1.1) + Int.toNat (subI .i64 v6.2.1 (1 : Int)))]?) fun x12 =>
 bif (!decide (x10 = x12)) then
 Option.bind (idx ((v6.2.2.1.drop (Int.toNat v1.1)).take (Int.toNat ((List.length v1.2.1) : Int) - Int.toNat v1.1)) v6.2.1) fun x13 =>
 Option.bind (v6.2.2.1[((Int.toNat v1.1) + Int.toNat v6.2.1)]?) fun x14 =>
 Option.bind (idx v6.2.2.1 v6.1) fun x15 =>
 Option.bind (v6.2.2.1[(Int.toNat v6.1)]?) fun x16 =>
 j8 ((addI .i64 v6.1 (1 : Int)), (v6.2.2.1.set (Int.toNat v6.1) x14), ())
 else
 j8 (v6.1, v6.2.2.1, ())
 else
 Option.map Sum.inr (bif slcOk v6.1 ((List.length v6.2.2.1) : Int) (List.length v6.2.2.1) then
 bif slcOk (0 : Int) v6.1 (List.length (v6.2.2.1.take (Int.toNat v6.1) ++ List.replicate (Int.toNat ((List.length v6.2.2.1) : Int) - Int.toNat v6.1) (ByteArray.mk #[]) ++ v6.2.2.1.drop ((Int.toNat v6.1) + (Int.toNat ((List.length v6.2.2.1) : Int) - Int.toNat v6.1)))) then
 Option.map Sum.inr (some ((v6.2.2.1.take (Int.toNat v6.1) ++ List.replicate (Int.toNat ((List.length v6.2.2.1) : Int) - Int.toNat v6.1) (ByteArray.mk #[]) ++ v6.2.2.1.drop ((Int.toNat v6.1) + (Int.toNat ((List.length v6.2.2.1) : Int) - Int.toNat v6.1))).take (Int.toNat v6.1 - Int.toNat (0 : Int))))
 else none
 else none)) (v1.1, (1 : Int), v1.2.1, ())
 else none
 else
 some (Sum.inl ((addI .i64 v1.1 (1 : Int)), v1.2.1, ()))
 else
 Option.map Sum.inr (some v1.2.1)) ((1 : Int), s, ())
noncomputable def k_slices_Compact_string_string : KS U Tryz.prog := ⟨.cw 149 9 1 Ty.str [] fun s a => F_slices_Compact_string_string s , cwS (K := K) sa_slices_Compact_string_string 61 [.tmp 2] [] (fk Tryz.f149 [] Tryz.func149)⟩

/-! ### trustquorum/envelopes.unique[string] -/
noncomputable def sa_envelopes_unique_string_c89 : SA U := annA (scOf Tryz.prog 10 [] Tryz.f88) .e
noncomputable def F_envelopes_unique_string_c89 (s : List ByteArray)  : Option (List ByteArray) :=
 Option.bind (F_slices_SortFunc_string_string_c89 s) fun p1 =>
 Option.bind (F_slices_Compact_string_string p1.2) fun r2 =>
 some r2
noncomputable def k_envelopes_unique_string_c89 : KS U Tryz.prog := ⟨.cw 88 9 1 Ty.str [.clo 89 []] fun s a => F_envelopes_unique_string_c89 s , cwS (K := K) sa_envelopes_unique_string_c89 10 [.tmp 4] [k_slices_SortFunc_string_string_c89, k_slices_Compact_string_string] (fk Tryz.f88 [] Tryz.func88)⟩

/-! ### trustquorum/envelopes.Values -/
noncomputable def sa_envelopes_Values : SA U := annA (scOf Tryz.prog 23 [] Tryz.f14) (.r (.r (.l (.r (.l (.ps (.own 3 9 1 Ty.str) (.j ⟨[.val 8 (Ty.i .i64), .own 3 5 1 9 1 Ty.str], [6, 7]⟩ (.l (.r (.r (.j ⟨[.own 3 5 1 9 1 Ty.str], [6, 7, 8]⟩ .e)))))))))))
noncomputable def F_envelopes_Values (a0 : (List TEnvelope)) : Option (List ByteArray) :=
 loopO (fun (v1 : Int × (List ByteArray) × Unit) =>
 bif (decide (v1.1 < ((List.length a0 : Nat) : Int))) then
 letJ (fun (v2 : (List ByteArray) × Unit) =>
 some (Sum.inl ((addI .i64 v1.1 (1 : Int)), v2.1, ()))) fun j3 =>
 Option.bind (idx a0 v1.1) fun x4 =>
 Option.bind (F_envelopes_Valid (TEnvelope.mk x4.Node x4.Slot x4.Seq (TTrust.mk x4.Trust.Threshold x4.Trust.Nodes x4.Trust.Inner) x4.Kind x4.Ballot x4.Prepared x4.Prime x4.Low x4.High)) fun r5 =>
 bif r5 then
 bif lenOk 16 (List.length v1.2.1 + List.length [x4.Ballot.Value]) then
 j3 ((v1.2.1 ++ [x4.Ballot.Value]), ())
 else none
 else
 j3 (v1.2.1, ())
 else
 Option.map Sum.inr (Option.bind (F_envelopes_unique_string_c89 v1.2.1) fun r6 =>
 some r6)) ((0 : Int), ([] : List ByteArray), ())
noncomputable def k_envelopes_Values : KS U Tryz.prog := ⟨.fn 14 [.ty (Ty.sl (Ty.st .Envelope))] (.one (Ty.sl Ty.str)) fun a => F_envelopes_Values a.1, fnS (K := K) sa_envelopes_Values 23 [.tmp 2] [k_envelopes_Valid, k_envelopes_unique_string_c89] (fk Tryz.f14 [] Tryz.func14)⟩

/-! ### slices.insertionSortCmpFunc[int] -/
noncomputable def sa_slices_insertionSortCmpFunc_int_c93 : SA U := annA (scOf Tryz.prog 53 [] Tryz.f218) (.r (.l (.j ⟨[.val 8 (Ty.i .i64), .own 0 0 0 3 1 (Ty.i .i64)], [1, 2, 3]⟩ (.l (.r (.l (.l (.r (.l (.j ⟨[.val 9 (Ty.i .i64), .own 0 0 0 3 1 (Ty.i .i64)], [1, 2, 3, 8]⟩ (.l (.l (.j ⟨[.val 34 Ty.bool], [0, 1, 2, 3, 8, 9]⟩ .e)))))))))))))
noncomputable def F_slices_insertionSortCmpFunc_int_c93 (s : List Int) (a0 : Int) (a1 : Int) : Option ((Unit) × List Int) :=
 loopO (fun (v1 : Int × (List Int) × Unit) =>
 bif (decide (v1.1 < a1)) then
 loopO (fun (v2 : Int × (List Int) × Unit) =>
 letJ (fun (v3 : Bool × Unit) =>
 bif v3.1 then
 Option.bind (idx v2.2.1 (subI .i64 v2.1 (1 : Int))) fun x5 =>
 Option.bind (v2.2.1[(Int.toNat (subI .i64 v2.1 (1 : Int)))]?) fun x6 =>
 Option.bind (idx v2.2.1 v2.1) fun x7 =>
 Option.bind (v2.2.1[(Int.toNat v2.1)]?) fun x8 =>
 Option.bind (idx v2.2.1 v2.1) fun x9 =>
 Option.bind (v2.2.1[(Int.toNat v2.1)]?) fun x10 =>
 Option.bind (idx (v2.2.1.set (Int.toNat v2.1) x6) (subI .i64 v2.1 (1 : Int))) fun x11 =>
 Option.bind ((v2.2.1.set (Int.toNat v2.1) x6)[(Int.toNat (subI .i64 v2.1 (1 : Int)))]?) fun x12 =>
 some (Sum.inl ((subI .i64 v2.1 (1 : Int)), ((v2.2.1.set (Int.toNat v2.1) x6).set (Int.toNat (subI .i64 v2.1 (1 : Int))) x8), ()))
 else
 Option.map Sum.inr (some (Sum.inl ((addI .i64 v1.1 (1 : Int)), v2.2.1, ())))) fun j4 =>
 bif (decide (a0 < v2.1)) then
 Option.bind (idx v2.2.1 v2.1) fun x13 =>
 Option.bind (v2.2.1[(Int.toNat v2.1)]?) fun x14 =>
 Option.bind (idx v2.2.1 (subI .i64 v2.1 (1 : Int))) fun x15 =>
 Option.bind (v2.2.1[(Int.toNat (subI .i64 v2.1 (1 : Int)))]?) fun x16 =>
 Option.bind (F_cmp_Compare_int x14 x16) fun r17 =>
 j4 ((decide (r17 < (0 : Int))), ())
 else
 j4 (false, ())) (v1.1, v1.2.1, ())
 else
 Option.map Sum.inr (some ((()), v1.2.1))) ((addI .i64 a0 (1 : Int)), s, ())
noncomputable def k_slices_insertionSortCmpFunc_int_c93 : KS U Tryz.prog := ⟨.rw 218 3 1 (Ty.i .i64) [.ty (Ty.i .i64), .ty (Ty.i .i64), .clo 93 []] (.many []) fun s a => F_slices_insertionSortCmpFunc_int_c93 s a.1 a.2.1, rwS (K := K) sa_slices_insertionSortCmpFunc_int_c93 53 [] [k_cmp_Compare_int] (fk Tryz.f218 [] Tryz.func218)⟩

/-! ### slices.siftDownCmpFunc[int] -/
noncomputable def sa_slices_siftDownCmpFunc_int_c93 : SA U := annA (scOf Tryz.prog 82 [] Tryz.f240) (.r (.l (.j ⟨[.val 10 (Ty.i .i64), .own 0 0 0 3 1 (Ty.i .i64)], [2, 3, 4]⟩ (.l (.l (.r (.r (.j ⟨[.val 11 (Ty.i .i64)], [0, 2, 3, 4, 10]⟩ (.l (.j ⟨[.val 40 Ty.bool], [0, 2, 3, 4, 10, 11]⟩ .e))))))))))
noncomputable def F_slices_siftDownCmpFunc_int_c93 (s : List Int) (a0 : Int) (a1 : Int) (a2 : Int) : Option ((Unit) × List Int) :=
 loopO (fun (v1 : Int × (List Int) × Unit) =>
 bif (decide (a1 ≤ (addI .i64 (mulI .i64 (2 : Int) v1.1) (1 : Int)))) then
 Option.map Sum.inr (some ((()), v1.2.1))
 else
 letJ (fun (v2 : Int × Unit) =>
 Option.bind (idx v1.2.1 (addI .i64 a2 v1.1)) fun x4 =>
 Option.bind (v1.2.1[(Int.toNat (addI .i64 a2 v1.1))]?) fun x5 =>
 Option.bind (idx v1.2.1 (addI .i64 a2 v2.1)) fun x6 =>
 Option.bind (v1.2.1[(Int.toNat (addI .i64 a2 v2.1))]?) fun x7 =>
 Option.bind (F_cmp_Compare_int x5 x7) fun r8 =>
 bif (!(decide (r8 < (0 : Int)))) then
 Option.map Sum.inr (some ((()), v1.2.1))
 else
 Option.bind (idx v1.2.1 (addI .i64 a2 v2.1)) fun x9 =>
 Option.bind (v1.2.1[(Int.toNat (addI .i64 a2 v2.1))]?) fun x10 =>
 Option.bind (idx v1.2.1 (addI .i64 a2 v1.1)) fun x11 =>
 Option.bind (v1.2.1[(Int.toNat (addI .i64 a2 v1.1))]?) fun x12 =>
 Option.bind (idx v1.2.1 (addI .i64 a2 v1.1)) fun x13 =>
 Option.bind (v1.2.1[(Int.toNat (addI .i64 a2 v1.1))]?) fun x14 =>
 Option.bind (idx (v1.2.1.set (Int.toNat (addI .i64 a2 v1.1)) x10) (addI .i64 a2 v2.1)) fun x15 =>
 Option.bind ((v1.2.1.set (Int.toNat (addI .i64 a2 v1.1)) x10)[(Int.toNat (addI .i64 a2 v2.1))]?) fun x16 =>
 some (Sum.inl (v2.1, ((v1.2.1.set (Int.toNat (addI .i64 a2 v1.1)) x10).set (Int.toNat (addI .i64 a2 v2.1)) x12), ()))) fun j3 =>
 letJ (fun (v17 : Bool × Unit) =>
 bif v17.1 then
 j3 ((addI .i64 (addI .i64 (mulI .i64 (2 : Int) v1.1) (1 : Int)) (1 : Int)), ())
 else
 j3 ((addI .i64 (mulI .i64 (2 : Int) v1.1) (1 : Int)), ())) fun j18 =>
 bif (decide ((addI .i64 (addI .i64 (mulI .i64 (2 : Int) v1.1) (1 : Int)) (1 : Int)) < a1)) then
 Option.bind (idx v1.2.1 (addI .i64 a2 (addI .i64 (mulI .i64 (2 : Int) v1.1) (1 : Int)))) fun x19 =>
 Option.bind (v1.2.1[(Int.toNat (addI .i64 a2 (addI .i64 (mulI .i64 (2 : Int) v1.1) (1 : Int))))]?) fun x20 =>
 Option.bind (idx v1.2.1 (addI .i64 (addI .i64 a2 (addI .i64 (mulI .i64 (2 : Int) v1.1) (1 : Int))) (1 : Int))) fun x21 =>
 Option.bind (v1.2.1[(Int.toNat (addI .i64 (addI .i64 a2 (addI .i64 (mulI .i64 (2 : Int) v1.1) (1 : Int))) (1 : Int)))]?) fun x22 =>
 Option.bind (F_cmp_Compare_int x20 x22) fun r23 =>
 j18 ((decide (r23 < (0 : Int))), ())
 else
 j18 (false, ())) (a0, s, ())
noncomputable def k_slices_siftDownCmpFunc_int_c93 : KS U Tryz.prog := ⟨.rw 240 3 1 (Ty.i .i64) [.ty (Ty.i .i64), .ty (Ty.i .i64), .ty (Ty.i .i64), .clo 93 []] (.many []) fun s a => F_slices_siftDownCmpFunc_int_c93 s a.1 a.2.1 a.2.2.1, rwS (K := K) sa_slices_siftDownCmpFunc_int_c93 82 [] [k_cmp_Compare_int] (fk Tryz.f240 [] Tryz.func240)⟩

/-! ### slices.heapSortCmpFunc[int] -/
noncomputable def sa_slices_heapSortCmpFunc_int_c93 : SA U := annA (scOf Tryz.prog 60 [] Tryz.f219) (.r (.r (.r (.b (.r (.l (.j ⟨[.val 11 (Ty.i .i64), .own 0 0 0 3 1 (Ty.i .i64)], [3, 8, 9, 10]⟩ .e))) (.r (.l (.j ⟨[.val 12 (Ty.i .i64), .own 0 0 0 3 1 (Ty.i .i64)], [3, 8, 9]⟩ .e)))))))
noncomputable def F_slices_heapSortCmpFunc_int_c93 (s : List Int) (a0 : Int) (a1 : Int) : Option ((Unit) × List Int) :=
 loopO (fun (v1 : Int × (List Int) × Unit) =>
 bif (decide ((0 : Int) ≤ v1.1)) then
 Option.bind (F_slices_siftDownCmpFunc_int_c93 v1.2.1 v1.1 (subI .i64 a1 a0) a0) fun p2 =>
 some (Sum.inl ((subI .i64 v1.1 (1 : Int)), p2.2, ()))
 else
 Option.map Sum.inr (loopO (fun (v3 : Int × (List Int) × Unit) =>
 bif (decide ((0 : Int) ≤ v3.1)) then
 Option.bind (idx v3.2.1 (addI .i64 a0 v3.1)) fun x4 =>
 Option.bind (v3.2.1[(Int.toNat (addI .i64 a0 v3.1))]?) fun x5 =>
 Option.bind (idx v3.2.1 a0) fun x6 =>
 Option.bind (v3.2.1[(Int.toNat a0)]?) fun x7 =>
 Option.bind (idx v3.2.1 a0) fun x8 =>
 Option.bind (v3.2.1[(Int.toNat a0)]?) fun x9 =>
 Option.bind (idx (v3.2.1.set (Int.toNat a0) x5) (addI .i64 a0 v3.1)) fun x10 =>
 Option.bind ((v3.2.1.set (Int.toNat a0) x5)[(Int.toNat (addI .i64 a0 v3.1))]?) fun x11 =>
 Option.bind (F_slices_siftDownCmpFunc_int_c93 ((v3.2.1.set (Int.toNat a0) x5).set (Int.toNat (addI .i64 a0 v3.1)) x7) (0 : Int) v3.1 a0) fun p12 =>
 some (Sum.inl ((subI .i64 v3.1 (1 : Int)), p12.2, ()))
 else
 Option.map Sum.inr (some ((()), v3.2.1))) ((subI .i64 (subI .i64 a1 a0) (1 : Int)), v1.2.1, ()))) ((quoI .i64 (subI .i64 (subI .i64 a1 a0) (1 : Int)) (2 : Int)), s, ())
noncomputable def k_slices_heapSortCmpFunc_int_c93 : KS U Tryz.prog := ⟨.rw 219 3 1 (Ty.i .i64) [.ty (Ty.i .i64), .ty (Ty.i .i64), .clo 93 []] (.many []) fun s a => F_slices_heapSortCmpFunc_int_c93 s a.1 a.2.1, rwS (K := K) sa_slices_heapSortCmpFunc_int_c93 60 [] [k_slices_siftDownCmpFunc_int_c93] (fk Tryz.f219 [] Tryz.func219)⟩

/-! ### slices.breakPatternsCmpFunc[int] -/
noncomputable def sa_slices_breakPatternsCmpFunc_int_c93 : SA U := annA (scOf Tryz.prog 67 [] Tryz.f220) (.r (.r (.l (.r (.r (.r (.l (.j ⟨[.val 11 (Ty.i .i64), .own 0 0 0 3 1 (Ty.i .i64), .box 9 1 (Ty.i .u64) []], [1, 8, 9, 10]⟩ (.l (.r (.l (.l (.r (.j ⟨[.val 12 (Ty.i .i64)], [0, 1, 8, 9, 10, 11]⟩ .e))))))))))))))
noncomputable def F_slices_breakPatternsCmpFunc_int_c93 (s : List Int) (a0 : Int) (a1 : Int) : Option ((Unit) × List Int) :=
 bif (decide ((8 : Int) ≤ (subI .i64 a1 a0))) then
 Option.bind (F_slices_nextPowerOfTwo (subI .i64 a1 a0)) fun r1 =>
 loopO (fun (v2 : Int × (List Int) × Int × Unit) =>
 bif (decide (v2.1 ≤ (addI .i64 (addI .i64 a0 (mulI .i64 (quoI .i64 (subI .i64 a1 a0) (4 : Int)) (2 : Int))) (1 : Int)))) then
 Option.bind (F_slices_xorshift_Next v2.2.2.1) fun p3 =>
 letJ (fun (v4 : Int × Unit) =>
 Option.bind (idx v2.2.1 (addI .i64 a0 v4.1)) fun x6 =>
 Option.bind (v2.2.1[(Int.toNat (addI .i64 a0 v4.1))]?) fun x7 =>
 Option.bind (idx v2.2.1 v2.1) fun x8 =>
 Option.bind (v2.2.1[(Int.toNat v2.1)]?) fun x9 =>
 Option.bind (idx v2.2.1 v2.1) fun x10 =>
 Option.bind (v2.2.1[(Int.toNat v2.1)]?) fun x11 =>
 Option.bind (idx (v2.2.1.set (Int.toNat v2.1) x7) (addI .i64 a0 v4.1)) fun x12 =>
 Option.bind ((v2.2.1.set (Int.toNat v2.1) x7)[(Int.toNat (addI .i64 a0 v4.1))]?) fun x13 =>
 some (Sum.inl ((addI .i64 v2.1 (1 : Int)), ((v2.2.1.set (Int.toNat v2.1) x7).set (Int.toNat (addI .i64 a0 v4.1)) x9), p3.2, ()))) fun j5 =>
 bif (decide ((subI .i64 a1 a0) ≤ (convI .i64 (andI .u64 p3.1 (subI .u64 r1 (1 : Int)))))) then
 j5 ((subI .i64 (convI .i64 (andI .u64 p3.1 (subI .u64 r1 (1 : Int)))) (subI .i64 a1 a0)), ())
 else
 j5 ((convI .i64 (andI .u64 p3.1 (subI .u64 r1 (1 : Int)))), ())
 else
 Option.map Sum.inr (some ((()), v2.2.1))) ((subI .i64 (addI .i64 a0 (mulI .i64 (quoI .i64 (subI .i64 a1 a0) (4 : Int)) (2 : Int))) (1 : Int)), s, (convI .u64 (subI .i64 a1 a0)), ())
 else
 some ((()), s)
noncomputable def k_slices_breakPatternsCmpFunc_int_c93 : KS U Tryz.prog := ⟨.rw 220 3 1 (Ty.i .i64) [.ty (Ty.i .i64), .ty (Ty.i .i64), .clo 93 []] (.many []) fun s a => F_slices_breakPatternsCmpFunc_int_c93 s a.1 a.2.1, rwS (K := K) sa_slices_breakPatternsCmpFunc_int_c93 67 [] [k_slices_nextPowerOfTwo, k_slices_xorshift_Next] (fk Tryz.f220 [] Tryz.func220)⟩

/-! ### slices.order2CmpFunc[int] -/
noncomputable def sa_slices_order2CmpFunc_int_c93 : SA U := annA (scOf Tryz.prog 32 [] Tryz.f249) .e
noncomputable def F_slices_order2CmpFunc_int_c93 (s : Int) (a0 : (List Int)) (a1 : Int) (a2 : Int) : Option ((Int × Int × Unit) × Int) :=
 Option.bind (idx a0 a2) fun x1 =>
 Option.bind (idx a0 a1) fun x2 =>
 Option.bind (F_cmp_Compare_int x1 x2) fun r3 =>
 bif (decide (r3 < (0 : Int))) then
 some ((a2, a1, ()), (addI .i64 s (1 : Int)))
 else
 some ((a1, a2, ()), s)
noncomputable def k_slices_order2CmpFunc_int_c93 : KS U Tryz.prog := ⟨.rc 249 3 (Ty.i .i64) [.ty (Ty.sl (Ty.i .i64)), .ty (Ty.i .i64), .ty (Ty.i .i64), .clo 93 []] (.many [(Ty.i .i64), (Ty.i .i64)]) fun s a => F_slices_order2CmpFunc_int_c93 s a.1 a.2.1 a.2.2.1, rcS (K := K) sa_slices_order2CmpFunc_int_c93 32 [.tmp 10, .tmp 11] [k_cmp_Compare_int] (fk Tryz.f249 [] Tryz.func249)⟩

/-! ### slices.medianCmpFunc[int] -/
noncomputable def sa_slices_medianCmpFunc_int_c93 : SA U := annA (scOf Tryz.prog 41 [] Tryz.f242) .e
noncomputable def F_slices_medianCmpFunc_int_c93 (s : Int) (a0 : (List Int)) (a1 : Int) (a2 : Int) (a3 : Int) : Option (Int × Int) :=
 Option.bind (F_slices_order2CmpFunc_int_c93 s a0 a1 a2) fun p1 =>
 Option.bind (F_slices_order2CmpFunc_int_c93 p1.2 a0 p1.1.2.1 a3) fun p2 =>
 Option.bind (F_slices_order2CmpFunc_int_c93 p2.2 a0 p1.1.1 p2.1.1) fun p3 =>
 some (p3.1.2.1, p3.2)
noncomputable def k_slices_medianCmpFunc_int_c93 : KS U Tryz.prog := ⟨.rc 242 4 (Ty.i .i64) [.ty (Ty.sl (Ty.i .i64)), .ty (Ty.i .i64), .ty (Ty.i .i64), .ty (Ty.i .i64), .clo 93 []] (.one (Ty.i .i64)) fun s a => F_slices_medianCmpFunc_int_c93 s a.1 a.2.1 a.2.2.1 a.2.2.2.1, rcS (K := K) sa_slices_medianCmpFunc_int_c93 41 [.tmp 12] [k_slices_order2CmpFunc_int_c93] (fk Tryz.f242 [] Tryz.func242)⟩

/-! ### slices.medianAdjacentCmpFunc[int] -/
noncomputable def sa_slices_medianAdjacentCmpFunc_int_c93 : SA U := annA (scOf Tryz.prog 18 [] Tryz.f241) .e
noncomputable def F_slices_medianAdjacentCmpFunc_int_c93 (s : Int) (a0 : (List Int)) (a1 : Int) : Option (Int × Int) :=
 Option.bind (F_slices_medianCmpFunc_int_c93 s a0 (subI .i64 a1 (1 : Int)) a1 (addI .i64 a1 (1 : Int))) fun p1 =>
 some (p1.1, p1.2)
noncomputable def k_slices_medianAdjacentCmpFunc_int_c93 : KS U Tryz.prog := ⟨.rc 241 2 (Ty.i .i64) [.ty (Ty.sl (Ty.i .i64)), .ty (Ty.i .i64), .clo 93 []] (.one (Ty.i .i64)) fun s a => F_slices_medianAdjacentCmpFunc_int_c93 s a.1 a.2.1, rcS (K := K) sa_slices_medianAdjacentCmpFunc_int_c93 18 [.tmp 8] [k_slices_medianCmpFunc_int_c93] (fk Tryz.f241 [] Tryz.func241)⟩

/-! ### slices.choosePivotCmpFunc[int] -/
noncomputable def sa_slices_choosePivotCmpFunc_int_c93 : SA U := annA (scOf Tryz.prog 63 [] Tryz.f221) (.r (.r (.r (.r (.r (.r (.j ⟨[.val 13 (Ty.i .i64), .box 6 1 (Ty.i .i64) []], [11]⟩ (.l (.r (.l (.j ⟨[.val 12 (Ty.i .i64), .val 13 (Ty.i .i64), .val 14 (Ty.i .i64), .box 6 1 (Ty.i .i64) []], [0, 3, 11]⟩ .e)))))))))))
noncomputable def F_slices_choosePivotCmpFunc_int_c93 (a0 : (List Int)) (a1 : Int) (a2 : Int) : Option (Int × Int × Unit) :=
 letJ (fun (v1 : Int × Int × Unit) =>
 bif (decide (v1.2.1 = (0 : Int))) then
 some (v1.1, (1 : Int), ())
 else
 bif (decide (v1.2.1 = (12 : Int))) then
 some (v1.1, (2 : Int), ())
 else
 some (v1.1, (0 : Int), ())) fun j2 =>
 bif (decide ((8 : Int) ≤ (subI .i64 a2 a1))) then
 letJ (fun (v3 : Int × Int × Int × Int × Unit) =>
 Option.bind (F_slices_medianCmpFunc_int_c93 v3.2.2.2.1 a0 v3.1 v3.2.1 v3.2.2.1) fun p5 =>
 j2 (p5.1, p5.2, ())) fun j4 =>
 bif (decide ((50 : Int) ≤ (subI .i64 a2 a1))) then
 Option.bind (F_slices_medianAdjacentCmpFunc_int_c93 (0 : Int) a0 (addI .i64 a1 (mulI .i64 (quoI .i64 (subI .i64 a2 a1) (4 : Int)) (1 : Int)))) fun p6 =>
 Option.bind (F_slices_medianAdjacentCmpFunc_int_c93 p6.2 a0 (addI .i64 a1 (mulI .i64 (quoI .i64 (subI .i64 a2 a1) (4 : Int)) (2 : Int)))) fun p7 =>
 Option.bind (F_slices_medianAdjacentCmpFunc_int_c93 p7.2 a0 (addI .i64 a1 (mulI .i64 (quoI .i64 (subI .i64 a2 a1) (4 : Int)) (3 : Int)))) fun p8 =>
 j4 (p6.1, p7.1, p8.1, p8.2, ())
 else
 j4 ((addI .i64 a1 (mulI .i64 (quoI .i64 (subI .i64 a2 a1) (4 : Int)) (1 : Int))), (addI .i64 a1 (mulI .i64 (quoI .i64 (subI .i64 a2 a1) (4 : Int)) (2 : Int))), (addI .i64 a1 (mulI .i64 (quoI .i64 (subI .i64 a2 a1) (4 : Int)) (3 : Int))), (0 : Int), ())
 else
 j2 ((addI .i64 a1 (mulI .i64 (quoI .i64 (subI .i64 a2 a1) (4 : Int)) (2 : Int))), (0 : Int), ())
noncomputable def k_slices_choosePivotCmpFunc_int_c93 : KS U Tryz.prog := ⟨.fn 221 [.ty (Ty.sl (Ty.i .i64)), .ty (Ty.i .i64), .ty (Ty.i .i64), .clo 93 []] (.many [(Ty.i .i64), (Ty.i .i64)]) fun a => F_slices_choosePivotCmpFunc_int_c93 a.1 a.2.1 a.2.2.1, fnS (K := K) sa_slices_choosePivotCmpFunc_int_c93 63 [.tmp 8, .tmp 9] [k_slices_medianAdjacentCmpFunc_int_c93, k_slices_medianCmpFunc_int_c93] (fk Tryz.f221 [] Tryz.func221)⟩

/-! ### slices.reverseRangeCmpFunc[int] -/
noncomputable def sa_slices_reverseRangeCmpFunc_int_c93 : SA U := annA (scOf Tryz.prog 34 [] Tryz.f222) (.r (.r (.l (.j ⟨[.val 8 (Ty.i .i64), .val 9 (Ty.i .i64), .own 0 0 0 3 1 (Ty.i .i64)], []⟩ .e))))
noncomputable def F_slices_reverseRangeCmpFunc_int_c93 (s : List Int) (a0 : Int) (a1 : Int) : Option ((Unit) × List Int) :=
 loopO (fun (v1 : Int × Int × (List Int) × Unit) =>
 bif (decide (v1.1 < v1.2.1)) then
 Option.bind (idx v1.2.2.1 v1.2.1) fun x2 =>
 Option.bind (v1.2.2.1[(Int.toNat v1.2.1)]?) fun x3 =>
 Option.bind (idx v1.2.2.1 v1.1) fun x4 =>
 Option.bind (v1.2.2.1[(Int.toNat v1.1)]?) fun x5 =>
 Option.bind (idx v1.2.2.1 v1.1) fun x6 =>
 Option.bind (v1.2.2.1[(Int.toNat v1.1)]?) fun x7 =>
 Option.bind (idx (v1.2.2.1.set (Int.toNat v1.1) x3) v1.2.1) fun x8 =>
 Option.bind ((v1.2.2.1.set (Int.toNat v1.1) x3)[(Int.toNat v1.2.1)]?) fun x9 =>
 some (Sum.inl ((addI .i64 v1.1 (1 : Int)), (subI .i64 v1.2.1 (1 : Int)), ((v1.2.2.1.set (Int.toNat v1.1) x3).set (Int.toNat v1.2.1) x5), ()))
 else
 Option.map Sum.inr (some ((()), v1.2.2.1))) (a0, (subI .i64 a1 (1 : Int)), s, ())
noncomputable def k_slices_reverseRangeCmpFunc_int_c93 : KS U Tryz.prog := ⟨.rw 222 3 1 (Ty.i .i64) [.ty (Ty.i .i64), .ty (Ty.i .i64), .clo 93 []] (.many []) fun s a => F_slices_reverseRangeCmpFunc_int_c93 s a.1 a.2.1, rwS (K := K) sa_slices_reverseRangeCmpFunc_int_c93 34 [] [] (fk Tryz.f222 [] Tryz.func222)⟩

/-! ### slices.partialInsertionSortCmpFunc[int] -/
noncomputable def sa_slices_partialInsertionSortCmpFunc_int_c93 : SA U := annA (scOf Tryz.prog 141 [] Tryz.f223) (.r (.r (.l (.r (.l (.j ⟨[.val 9 (Ty.i .i64), .val 10 (Ty.i .i64), .own 0 0 0 3 1 (Ty.i .i64)], [1, 2, 3]⟩ (.l (.r (.j ⟨[.val 9 (Ty.i .i64), .own 0 0 0 3 1 (Ty.i .i64)], [1, 2, 3, 10]⟩ (.l (.l (.b (.l (.j ⟨[.val 9 (Ty.i .i64)], [0, 1, 2, 3, 10]⟩ (.l (.l (.j ⟨[.val 36 Ty.bool], [0, 1, 2, 3, 9, 10]⟩ .e))))) (.r (.r (.r (.j ⟨[.own 0 0 0 3 1 (Ty.i .i64)], [1, 2, 3, 9, 10]⟩ (.b (.r (.l (.r (.l (.j ⟨[.val 11 (Ty.i .i64), .own 0 0 0 3 1 (Ty.i .i64)], [1, 2, 3, 9, 10]⟩ .e))))) (.r (.l (.r (.l (.j ⟨[.val 12 (Ty.i .i64), .own 0 0 0 3 1 (Ty.i .i64)], [1, 2, 3, 9, 10]⟩ .e))))))))))))))))))))))
noncomputable def F_slices_partialInsertionSortCmpFunc_int_c93 (s : List Int) (a0 : Int) (a1 : Int) : Option (Bool × List Int) :=
 loopO (fun (v1 : Int × Int × (List Int) × Unit) =>
 bif (decide (v1.2.1 < (5 : Int))) then
 letJ (fun (v2 : Int × (List Int) × Unit) =>
 some (Sum.inl (v2.1, (addI .i64 v1.2.1 (1 : Int)), v2.2.1, ()))) fun j3 =>
 loopO (fun (v4 : Int × Unit) =>
 letJ (fun (v5 : Bool × Unit) =>
 bif v5.1 then
 some (Sum.inl ((addI .i64 v4.1 (1 : Int)), ()))
 else
 Option.map Sum.inr (bif (decide (v4.1 = a1)) then
 Option.map Sum.inr (some (true, v1.2.2.1))
 else
 bif (decide ((subI .i64 a1 a0) < (50 : Int))) then
 Option.map Sum.inr (some (false, v1.2.2.1))
 else
 Option.bind (idx v1.2.2.1 (subI .i64 v4.1 (1 : Int))) fun x7 =>
 Option.bind (v1.2.2.1[(Int.toNat (subI .i64 v4.1 (1 : Int)))]?) fun x8 =>
 Option.bind (idx v1.2.2.1 v4.1) fun x9 =>
 Option.bind (v1.2.2.1[(Int.toNat v4.1)]?) fun x10 =>
 Option.bind (idx v1.2.2.1 v4.1) fun x11 =>
 Option.bind (v1.2.2.1[(Int.toNat v4.1)]?) fun x12 =>
 Option.bind (idx (v1.2.2.1.set (Int.toNat v4.1) x8) (subI .i64 v4.1 (1 : Int))) fun x13 =>
 Option.bind ((v1.2.2.1.set (Int.toNat v4.1) x8)[(Int.toNat (subI .i64 v4.1 (1 : Int)))]?) fun x14 =>
 letJ (fun (v15 : (List Int) × Unit) =>
 bif (decide ((2 : Int) ≤ (subI .i64 a1 v4.1))) then
 loopO (fun (v17 : Int × (List Int) × Unit) =>
 bif (decide (v17.1 < a1)) then
 Option.bind (idx v17.2.1 v17.1) fun x18 =>
 Option.bind (v17.2.1[(Int.toNat v17.1)]?) fun x19 =>
 Option.bind (idx v17.2.1 (subI .i64 v17.1 (1 : Int))) fun x20 =>
 Option.bind (v17.2.1[(Int.toNat (subI .i64 v17.1 (1 : Int)))]?) fun x21 =>
 Option.bind (F_cmp_Compare_int x19 x21) fun r22 =>
 bif (!(decide (r22 < (0 : Int)))) then
 Option.map Sum.inr (j3 (v4.1, v17.2.1, ()))
 else
 Option.bind (idx v17.2.1 (subI .i64 v17.1 (1 : Int))) fun x23 =>
 Option.bind (v17.2.1[(Int.toNat (subI .i64 v17.1 (1 : Int)))]?) fun x24 =>
 Option.bind (idx v17.2.1 v17.1) fun x25 =>
 Option.bind (v17.2.1[(Int.toNat v17.1)]?) fun x26 =>
 Option.bind (idx v17.2.1 v17.1) fun x27 =>
 Option.bind (v17.2.1[(Int.toNat v17.1)]?) fun x28 =>
 Option.bind (idx (v17.2.1.set (Int.toNat v17.1) x24) (subI .i64 v17.1 (1 : Int))) fun x29 =>
 Option.bind ((v17.2.1.set (Int.toNat v17.1) x24)[(Int.toNat (subI .i64 v17.1 (1 : Int)))]?) fun x30 =>
 some (Sum.inl ((addI .i64 v17.1 (1 : Int)), ((v17.2.1.set (Int.toNat v17.1) x24).set (Int.toNat (subI .i64 v17.1 (1 : Int))) x26), ()))
 else
 Option.map Sum.inr (j3 (v4.1, v17.2.1, ()))) ((addI .i64 v4.1 (1 : Int)), v15.1, ())
 else
 j3 (v4.1, v15.1, ())) fun j16 =>
 bif (decide ((2 : Int) ≤ (subI .i64 v4.1 a0))) then
 loopO (fun (v31 : Int × (List Int) × Unit) =>
 bif (decide ((1 : Int) ≤ v31.1)) then
 Option.bind (idx v31.2.1 v31.1) fun x32 =>
 Option.bind (v31.2.1[(Int.toNat v31.1)]?) fun x33 =>
 Option.bind (idx v31.2.1 (subI .i64 v31.1 (1 : Int))) fun x34 =>
 Option.bind (v31.2.1[(Int.toNat (subI .i64 v31.1 (1 : Int)))]?) fun x35 =>
 Option.bind (F_cmp_Compare_int x33 x35) fun r36 =>
 bif (!(decide (r36 < (0 : Int)))) then
 Option.map Sum.inr (j16 (v31.2.1, ()))
 else
 Option.bind (idx v31.2.1 (subI .i64 v31.1 (1 : Int))) fun x37 =>
 Option.bind (v31.2.1[(Int.toNat (subI .i64 v31.1 (1 : Int)))]?) fun x38 =>
 Option.bind (idx v31.2.1 v31.1) fun x39 =>
 Option.bind (v31.2.1[(Int.toNat v31.1)]?) fun x40 =>
 Option.bind (idx v31.2.1 v31.1) fun x41 =>
 Option.bind (v31.2.1[(Int.toNat v31.1)]?) fun x42 =>
 Option.bind (idx (v31.2.1.set (Int.toNat v31.1) x38) (subI .i64 v31.1 (1 : Int))) fun x43 =>
 Option.bind ((v31.2.1.set (Int.toNat v31.1) x38)[(Int.toNat (subI .i64 v31.1 (1 : Int)))]?) fun x44 =>
 some (Sum.inl ((subI .i64 v31.1 (1 : Int)), ((v31.2.1.set (Int.toNat v31.1) x38).set (Int.toNat (subI .i64 v31.1 (1 : Int))) x40), ()))
 else
 Option.map Sum.inr (j16 (v31.2.1, ()))) ((subI .i64 v4.1 (1 : Int)), ((v1.2.2.1.set (Int.toNat v4.1) x8).set (Int.toNat (subI .i64 v4.1 (1 : Int))) x10), ())
 else
 j16 (((v1.2.2.1.set (Int.toNat v4.1) x8).set (Int.toNat (subI .i64 v4.1 (1 : Int))) x10), ()))) fun j6 =>
 bif (decide (v4.1 < a1)) then
 Option.bind (idx v1.2.2.1 v4.1) fun x45 =>
 Option.bind (v1.2.2.1[(Int.toNat v4.1)]?) fun x46 =>
 Option.bind (idx v1.2.2.1 (subI .i64 v4.1 (1 : Int))) fun x47 =>
 Option.bind (v1.2.2.1[(Int.toNat (subI .i64 v4.1 (1 : Int)))]?) fun x48 =>
 Option.bind (F_cmp_Compare_int x46 x48) fun r49 =>
 j6 ((!(decide (r49 < (0 : Int)))), ())
 else
 j6 (false, ())) (v1.1, ())
 else
 Option.map Sum.inr (some (false, v1.2.2.1))) ((addI .i64 a0 (1 : Int)), (0 : Int), s, ())
noncomputable def k_slices_partialInsertionSortCmpFunc_int_c93 : KS U Tryz.prog := ⟨.rw 223 3 1 (Ty.i .i64) [.ty (Ty.i .i64), .ty (Ty.i .i64), .clo 93 []] (.one Ty.bool) fun s a => F_slices_partialInsertionSortCmpFunc_int_c93 s a.1 a.2.1, rwS (K := K) sa_slices_partialInsertionSortCmpFunc_int_c93 141 [.tmp 8] [k_cmp_Compare_int] (fk Tryz.f223 [] Tryz.func223)⟩

/-! ### slices.partitionEqualCmpFunc[int] -/
noncomputable def sa_slices_partitionEqualCmpFunc_int_c93 : SA U := annA (scOf Tryz.prog 90 [] Tryz.f224) (.r (.r (.r (.l (.l (.j ⟨[.val 11 (Ty.i .i64), .val 12 (Ty.i .i64), .own 0 0 0 3 1 (Ty.i .i64)], [1, 4]⟩ (.l (.l (.b (.l (.j ⟨[.val 11 (Ty.i .i64)], [0, 1, 4, 12]⟩ (.l (.l (.j ⟨[.val 47 Ty.bool], [0, 1, 4, 11, 12]⟩ .e))))) (.l (.l (.j ⟨[.val 12 (Ty.i .i64)], [0, 1, 4, 11]⟩ (.l (.l (.j ⟨[.val 65 Ty.bool], [0, 1, 4, 11, 12]⟩ .e)))))))))))))))
noncomputable def F_slices_partitionEqualCmpFunc_int_c93 (s : List Int) (a0 : Int) (a1 : Int) (a2 : Int) : Option (Int × List Int) :=
 Option.bind (idx s a2) fun x1 =>
 Option.bind (s[(Int.toNat a2)]?) fun x2 =>
 Option.bind (idx s a0) fun x3 =>
 Option.bind (s[(Int.toNat a0)]?) fun x4 =>
 Option.bind (idx s a0) fun x5 =>
 Option.bind (s[(Int.toNat a0)]?) fun x6 =>
 Option.bind (idx (s.set (Int.toNat a0) x2) a2) fun x7 =>
 Option.bind ((s.set (Int.toNat a0) x2)[(Int.toNat a2)]?) fun x8 =>
 loopO (fun (v9 : Int × Int × (List Int) × Unit) =>
 loopO (fun (v10 : Int × Unit) =>
 letJ (fun (v11 : Bool × Unit) =>
 bif v11.1 then
 some (Sum.inl ((addI .i64 v10.1 (1 : Int)), ()))
 else
 Option.map Sum.inr (loopO (fun (v13 : Int × Unit) =>
 letJ (fun (v14 : Bool × Unit) =>
 bif v14.1 then
 some (Sum.inl ((subI .i64 v13.1 (1 : Int)), ()))
 else
 Option.map Sum.inr (bif (decide (v13.1 < v10.1)) then
 Option.map Sum.inr (some (v10.1, v9.2.2.1))
 else
 Option.bind (idx v9.2.2.1 v13.1) fun x16 =>
 Option.bind (v9.2.2.1[(Int.toNat v13.1)]?) fun x17 =>
 Option.bind (idx v9.2.2.1 v10.1) fun x18 =>
 Option.bind (v9.2.2.1[(Int.toNat v10.1)]?) fun x19 =>
 Option.bind (idx v9.2.2.1 v10.1) fun x20 =>
 Option.bind (v9.2.2.1[(Int.toNat v10.1)]?) fun x21 =>
 Option.bind (idx (v9.2.2.1.set (Int.toNat v10.1) x17) v13.1) fun x22 =>
 Option.bind ((v9.2.2.1.set (Int.toNat v10.1) x17)[(Int.toNat v13.1)]?) fun x23 =>
 some (Sum.inl ((addI .i64 v10.1 (1 : Int)), (subI .i64 v13.1 (1 : Int)), ((v9.2.2.1.set (Int.toNat v10.1) x17).set (Int.toNat v13.1) x19), ())))) fun j15 =>
 bif (decide (v10.1 ≤ v13.1)) then
 Option.bind (idx v9.2.2.1 a0) fun x24 =>
 Option.bind (v9.2.2.1[(Int.toNat a0)]?) fun x25 =>
 Option.bind (idx v9.2.2.1 v13.1) fun x26 =>
 Option.bind (v9.2.2.1[(Int.toNat v13.1)]?) fun x27 =>
 Option.bind (F_cmp_Compare_int x25 x27) fun r28 =>
 j15 ((decide (r28 < (0 : Int))), ())
 else
 j15 (false, ())) (v9.2.1, ()))) fun j12 =>
 bif (decide (v10.1 ≤ v9.2.1)) then
 Option.bind (idx v9.2.2.1 a0) fun x29 =>
 Option.bind (v9.2.2.1[(Int.toNat a0)]?) fun x30 =>
 Option.bind (idx v9.2.2.1 v10.1) fun x31 =>
 Option.bind (v9.2.2.1[(Int.toNat v10.1)]?) fun x32 =>
 Option.bind (F_cmp_Compare_int x30 x32) fun r33 =>
 j12 ((!(decide (r33 < (0 : Int)))), ())
 else
 j12 (false, ())) (v9.1, ())) ((addI .i64 a0 (1 : Int)), (subI .i64 a1 (1 : Int)), ((s.set (Int.toNat a0) x2).set (Int.toNat a2) x4), ())
noncomputable def k_slices_partitionEqualCmpFunc_int_c93 : KS U Tryz.prog := ⟨.rw 224 3 1 (Ty.i .i64) [.ty (Ty.i .i64), .ty (Ty.i .i64), .ty (Ty.i .i64), .clo 93 []] (.one (Ty.i .i64)) fun s a => F_slices_partitionEqualCmpFunc_int_c93 s a.1 a.2.1 a.2.2.1, rwS (K := K) sa_slices_partitionEqualCmpFunc_int_c93 90 [.tmp 10] [k_cmp_Compare_int] (fk Tryz.f224 [] Tryz.func224)⟩

/-! ### slices.partitionCmpFunc[int] -/
noncomputable def sa_slices_partitionCmpFunc_int_c93 : SA U := annA (scOf Tryz.prog 178 [] Tryz.f225) (.r (.r (.r (.b (.l (.j ⟨[.val 12 (Ty.i .i64)], [0, 1, 4, 13]⟩ (.l (.l (.j ⟨[.val 47 Ty.bool], [0, 1, 4, 12, 13]⟩ .e))))) (.b (.l (.j ⟨[.val 13 (Ty.i .i64)], [0, 1, 4, 12]⟩ (.l (.l (.j ⟨[.val 66 Ty.bool], [0, 1, 4, 12, 13]⟩ .e))))) (.r (.r (.r (.r (.l (.l (.j ⟨[.val 12 (Ty.i .i64), .val 13 (Ty.i .i64), .own 0 0 0 3 1 (Ty.i .i64)], [1, 4]⟩ (.l (.l (.b (.l (.j ⟨[.val 12 (Ty.i .i64)], [0, 1, 4, 13]⟩ (.l (.l (.j ⟨[.val 120 Ty.bool], [0, 1, 4, 12, 13]⟩ .e))))) (.l (.l (.j ⟨[.val 13 (Ty.i .i64)], [0, 1, 4, 12]⟩ (.l (.l (.j ⟨[.val 139 Ty.bool], [0, 1, 4, 12, 13]⟩ .e)))))))))))))))))))))
noncomputable def F_slices_partitionCmpFunc_int_c93 (s : List Int) (a0 : Int) (a1 : Int) (a2 : Int) : Option ((Int × Bool × Unit) × List Int) :=
 Option.bind (idx s a2) fun x1 =>
 Option.bind (s[(Int.toNat a2)]?) fun x2 =>
 Option.bind (idx s a0) fun x3 =>
 Option.bind (s[(Int.toNat a0)]?) fun x4 =>
 Option.bind (idx s a0) fun x5 =>
 Option.bind (s[(Int.toNat a0)]?) fun x6 =>
 Option.bind (idx (s.set (Int.toNat a0) x2) a2) fun x7 =>
 Option.bind ((s.set (Int.toNat a0) x2)[(Int.toNat a2)]?) fun x8 =>
 loopO (fun (v9 : Int × Unit) =>
 letJ (fun (v10 : Bool × Unit) =>
 bif v10.1 then
 some (Sum.inl ((addI .i64 v9.1 (1 : Int)), ()))
 else
 Option.map Sum.inr (loopO (fun (v12 : Int × Unit) =>
 letJ (fun (v13 : Bool × Unit) =>
 bif v13.1 then
 some (Sum.inl ((subI .i64 v12.1 (1 : Int)), ()))
 else
 Option.map Sum.inr (bif (decide (v12.1 < v9.1)) then
 Option.bind (idx ((s.set (Int.toNat a0) x2).set (Int.toNat a2) x4) a0) fun x15 =>
 Option.bind (((s.set (Int.toNat a0) x2).set (Int.toNat a2) x4)[(Int.toNat a0)]?) fun x16 =>
 Option.bind (idx ((s.set (Int.toNat a0) x2).set (Int.toNat a2) x4) v12.1) fun x17 =>
 Option.bind (((s.set (Int.toNat a0) x2).set (Int.toNat a2) x4)[(Int.toNat v12.1)]?) fun x18 =>
 Option.bind (idx ((s.set (Int.toNat a0) x2).set (Int.toNat a2) x4) v12.1) fun x19 =>
 Option.bind (((s.set (Int.toNat a0) x2).set (Int.toNat a2) x4)[(Int.toNat v12.1)]?) fun x20 =>
 Option.bind (idx (((s.set (Int.toNat a0) x2).set (Int.toNat a2) x4).set (Int.toNat v12.1) x16) a0) fun x21 =>
 Option.bind ((((s.set (Int.toNat a0) x2).set (Int.toNat a2) x4).set (Int.toNat v12.1) x16)[(Int.toNat a0)]?) fun x22 =>
 some ((v12.1, true, ()), ((((s.set (Int.toNat a0) x2).set (Int.toNat a2) x4).set (Int.toNat v12.1) x16).set (Int.toNat a0) x18))
 else
 Option.bind (idx ((s.set (Int.toNat a0) x2).set (Int.toNat a2) x4) v12.1) fun x23 =>
 Option.bind (((s.set (Int.toNat a0) x2).set (Int.toNat a2) x4)[(Int.toNat v12.1)]?) fun x24 =>
 Option.bind (idx ((s.set (Int.toNat a0) x2).set (Int.toNat a2) x4) v9.1) fun x25 =>
 Option.bind (((s.set (Int.toNat a0) x2).set (Int.toNat a2) x4)[(Int.toNat v9.1)]?) fun x26 =>
 Option.bind (idx ((s.set (Int.toNat a0) x2).set (Int.toNat a2) x4) v9.1) fun x27 =>
 Option.bind (((s.set (Int.toNat a0) x2).set (Int.toNat a2) x4)[(Int.toNat v9.1)]?) fun x28 =>
 Option.bind (idx (((s.set (Int.toNat a0) x2).set (Int.toNat a2) x4).set (Int.toNat v9.1) x24) v12.1) fun x29 =>
 Option.bind ((((s.set (Int.toNat a0) x2).set (Int.toNat a2) x4).set (Int.toNat v9.1) x24)[(Int.toNat v12.1)]?) fun x30 =>
 loopO (fun (v31 : Int × Int × (List Int) × Unit) =>
 loopO (fun (v32 : Int × Unit) =>
 letJ (fun (v33 : Bool × Unit) =>
 bif v33.1 then
 some (Sum.inl ((addI .i64 v32.1 (1 : Int)), ()))
 else
 Option.map Sum.inr (loopO (fun (v35 : Int × Unit) =>
 letJ (fun (v36 : Bool × Unit) =>
 bif v36.1 then
 some (Sum.inl ((subI .i64 v35.1 (1 : Int)), ()))
 else
 Option.map Sum.inr (bif (decide (v35.1 < v32.1)) then
 Option.map Sum.inr (Option.bind (idx v31.2.2.1 a0) fun x38 =>
 Option.bind (v31.2.2.1[(Int.toNat a0)]?) fun x39 =>
 Option.bind (idx v31.2.2.1 v35.1) fun x40 =>
 Option.bind (v31.2.2.1[(Int.toNat v35.1)]?) fun x41 =>
 Option.bind (idx v31.2.2.1 v35.1) fun x42 =>
 Option.bind (v31.2.2.1[(Int.toNat v35.1)]?) fun x43 =>
 Option.bind (idx (v31.2.2.1.set (Int.toNat v35.1) x39) a0) fun x44 =>
 Option.bind ((v31.2.2.1.set (Int.toNat v35.1) x39)[(Int.toNat a0)]?) fun x45 =>
 some ((v35.1, false, ()), ((v31.2.2.1.set (Int.toNat v35.1) x39).set (Int.toNat a0) x41)))
 else
 Option.bind (idx v31.2.2.1 v35.1) fun x46 =>
 Option.bind (v31.2.2.1[(Int.toNat v35.1)]?) fun x47 =>
 Option.bind (idx v31.2.2.1 v32.1) fun x48 =>
 Option.bind (v31.2.2.1[(Int.toNat v32.1)]?) fun x49 =>
 Option.bind (idx v31.2.2.1 v32.1) fun x50 =>
 Option.bind (v31.2.2.1[(Int.toNat v32.1)]?) fun x51 =>
 Option.bind (idx (v31.2.2.1.set (Int.toNat v32.1) x47) v35.1) fun x52 =>
 Option.bind ((v31.2.2.1.set (Int.toNat v32.1) x47)[(Int.toNat v35.1)]?) fun x53 =>
 some (Sum.inl ((addI .i64 v32.1 (1 : Int)), (subI .i64 v35.1 (1 : Int)), ((v31.2.2.1.set (Int.toNat v32.1) x47).set (Int.toNat v35.1) x49), ())))) fun j37 =>
 bif (decide (v32.1 ≤ v35.1)) then
 Option.bind (idx v31.2.2.1 v35.1) fun x54 =>
 Option.bind (v31.2.2.1[(Int.toNat v35.1)]?) fun x55 =>
 Option.bind (idx v31.2.2.1 a0) fun x56 =>
 Option.bind (v31.2.2.1[(Int.toNat a0)]?) fun x57 =>
 Option.bind (F_cmp_Compare_int x55 x57) fun r58 =>
 j37 ((!(decide (r58 < (0 : Int)))), ())
 else
 j37 (false, ())) (v31.2.1, ()))) fun j34 =>
 bif (decide (v32.1 ≤ v31.2.1)) then
 Option.bind (idx v31.2.2.1 v32.1) fun x59 =>
 Option.bind (v31.2.2.1[(Int.toNat v32.1)]?) fun x60 =>
 Option.bind (idx v31.2.2.1 a0) fun x61 =>
 Option.bind (v31.2.2.1[(Int.toNat a0)]?) fun x62 =>
 Option.bind (F_cmp_Compare_int x60 x62) fun r63 =>
 j34 ((decide (r63 < (0 : Int))), ())
 else
 j34 (false, ())) (v31.1, ())) ((addI .i64 v9.1 (1 : Int)), (subI .i64 v12.1 (1 : Int)), ((((s.set (Int.toNat a0) x2).set (Int.toNat a2) x4).set (Int.toNat v9.1) x24).set (Int.toNat v12.1) x26), ()))) fun j14 =>
 bif (decide (v9.1 ≤ v12.1)) then
 Option.bind (idx ((s.set (Int.toNat a0) x2).set (Int.toNat a2) x4) v12.1) fun x64 =>
 Option.bind (((s.set (Int.toNat a0) x2).set (Int.toNat a2) x4)[(Int.toNat v12.1)]?) fun x65 =>
 Option.bind (idx ((s.set (Int.toNat a0) x2).set (Int.toNat a2) x4) a0) fun x66 =>
 Option.bind (((s.set (Int.toNat a0) x2).set (Int.toNat a2) x4)[(Int.toNat a0)]?) fun x67 =>
 Option.bind (F_cmp_Compare_int x65 x67) fun r68 =>
 j14 ((!(decide (r68 < (0 : Int)))), ())
 else
 j14 (false, ())) ((subI .i64 a1 (1 : Int)), ()))) fun j11 =>
 bif (decide (v9.1 ≤ (subI .i64 a1 (1 : Int)))) then
 Option.bind (idx ((s.set (Int.toNat a0) x2).set (Int.toNat a2) x4) v9.1) fun x69 =>
 Option.bind (((s.set (Int.toNat a0) x2).set (Int.toNat a2) x4)[(Int.toNat v9.1)]?) fun x70 =>
 Option.bind (idx ((s.set (Int.toNat a0) x2).set (Int.toNat a2) x4) a0) fun x71 =>
 Option.bind (((s.set (Int.toNat a0) x2).set (Int.toNat a2) x4)[(Int.toNat a0)]?) fun x72 =>
 Option.bind (F_cmp_Compare_int x70 x72) fun r73 =>
 j11 ((decide (r73 < (0 : Int))), ())
 else
 j11 (false, ())) ((addI .i64 a0 (1 : Int)), ())
noncomputable def k_slices_partitionCmpFunc_int_c93 : KS U Tryz.prog := ⟨.rw 225 3 1 (Ty.i .i64) [.ty (Ty.i .i64), .ty (Ty.i .i64), .ty (Ty.i .i64), .clo 93 []] (.many [(Ty.i .i64), Ty.bool]) fun s a => F_slices_partitionCmpFunc_int_c93 s a.1 a.2.1 a.2.2.1, rwS (K := K) sa_slices_partitionCmpFunc_int_c93 178 [.tmp 10, .tmp 11] [k_cmp_Compare_int] (fk Tryz.f225 [] Tryz.func225)⟩

/-! ### slices.pdqsortCmpFunc[int] -/
noncomputable def sa_slices_pdqsortCmpFunc_int_c93 : SA U := annA (scOf Tryz.prog 148 [] Tryz.f184) (.r (.r (.l (.j ⟨[.val 1 (Ty.i .i64), .val 2 (Ty.i .i64), .val 3 (Ty.i .i64), .val 10 Ty.bool, .val 11 Ty.bool, .own 0 0 0 3 1 (Ty.i .i64)], [4]⟩ (.l (.l (.r (.r (.r (.j ⟨[.val 3 (Ty.i .i64), .own 0 0 0 3 1 (Ty.i .i64)], [1, 2, 4, 10, 11, 12]⟩ (.r (.r (.j ⟨[.val 13 (Ty.i .i64), .val 14 (Ty.i .i64), .own 0 0 0 3 1 (Ty.i .i64)], [1, 2, 3, 4, 10, 11, 12]⟩ (.r (.j ⟨[.own 0 0 0 3 1 (Ty.i .i64)], [1, 2, 3, 4, 10, 11, 12, 13]⟩ (.r (.l (.j ⟨[.val 97 Ty.bool], [0, 1, 2, 3, 4, 10, 11, 12, 13]⟩ .e))))))))))))))))))
noncomputable def B_slices_pdqsortCmpFunc_int_c93 (rec : List Int → (Int × Int × Int × (Unit) × Unit) → Option ((Unit) × List Int)) (s : List Int) (a0 : Int) (a1 : Int) (a2 : Int) : Option ((Unit) × List Int) :=
 loopO (fun (v1 : Int × Int × Int × Bool × Bool × (List Int) × Unit) =>
 bif (decide ((subI .i64 v1.2.1 v1.1) ≤ (12 : Int))) then
 Option.bind (F_slices_insertionSortCmpFunc_int_c93 v1.2.2.2.2.2.1 v1.1 v1.2.1) fun p2 =>
 Option.map Sum.inr (some ((()), p2.2))
 else
 bif (decide (v1.2.2.1 = (0 : Int))) then
 Option.bind (F_slices_heapSortCmpFunc_int_c93 v1.2.2.2.2.2.1 v1.1 v1.2.1) fun p3 =>
 Option.map Sum.inr (some ((()), p3.2))
 else
 letJ (fun (v4 : Int × (List Int) × Unit) =>
 Option.bind (F_slices_choosePivotCmpFunc_int_c93 v4.2.1 v1.1 v1.2.1) fun r6 =>
 letJ (fun (v7 : Int × Int × (List Int) × Unit) =>
 letJ (fun (v9 : (List Int) × Unit) =>
 letJ (fun (v11 : Bool × Unit) =>
 bif v11.1 then
 Option.bind (F_slices_partitionEqualCmpFunc_int_c93 v9.1 v1.1 v1.2.1 v7.1) fun p13 =>
 some (Sum.inl (p13.1, v1.2.1, v4.1, v1.2.2.2.1, v1.2.2.2.2.1, p13.2, ()))
 else
 Option.bind (F_slices_partitionCmpFunc_int_c93 v9.1 v1.1 v1.2.1 v7.1) fun p14 =>
 bif (decide ((subI .i64 p14.1.1 v1.1) < (subI .i64 v1.2.1 p14.1.1))) then
 Option.bind (rec p14.2 (v1.1, p14.1.1, v4.1, (()), ())) fun p15 =>
 some (Sum.inl ((addI .i64 p14.1.1 (1 : Int)), v1.2.1, v4.1, (decide ((quoI .i64 (subI .i64 v1.2.1 v1.1) (8 : Int)) ≤ (subI .i64 p14.1.1 v1.1))), p14.1.2.1, p15.2, ()))
 else
 Option.bind (rec p14.2 ((addI .i64 p14.1.1 (1 : Int)), v1.2.1, v4.1, (()), ())) fun p16 =>
 some (Sum.inl (v1.1, p14.1.1, v4.1, (decide ((quoI .i64 (subI .i64 v1.2.1 v1.1) (8 : Int)) ≤ (subI .i64 v1.2.1 p14.1.1))), p14.1.2.1, p16.2, ()))) fun j12 =>
 bif (decide ((0 : Int) < v1.1)) then
 Option.bind (idx v9.1 (subI .i64 v1.1 (1 : Int))) fun x17 =>
 Option.bind (v9.1[(Int.toNat (subI .i64 v1.1 (1 : Int)))]?) fun x18 =>
 Option.bind (idx v9.1 v7.1) fun x19 =>
 Option.bind (v9.1[(Int.toNat v7.1)]?) fun x20 =>
 Option.bind (F_cmp_Compare_int x18 x20) fun r21 =>
 j12 ((!(decide (r21 < (0 : Int)))), ())
 else
 j12 (false, ())) fun j10 =>
 Option.bind (bif v1.2.2.2.1 then
 some v1.2.2.2.2.1
 else some false) fun b22 =>
 Option.bind (bif b22 then
 some (decide (v7.2.1 = (1 : Int)))
 else some false) fun b23 =>
 bif b23 then
 Option.bind (F_slices_partialInsertionSortCmpFunc_int_c93 v7.2.2.1 v1.1 v1.2.1) fun p24 =>
 bif p24.1 then
 Option.map Sum.inr (some ((()), p24.2))
 else
 j10 (p24.2, ())
 else
 j10 (v7.2.2.1, ())) fun j8 =>
 bif (decide (r6.2.1 = (2 : Int))) then
 Option.bind (F_slices_reverseRangeCmpFunc_int_c93 v4.2.1 v1.1 v1.2.1) fun p25 =>
 j8 ((subI .i64 (subI .i64 v1.2.1 (1 : Int)) (subI .i64 r6.1 v1.1)), (1 : Int), p25.2, ())
 else
 j8 (r6.1, r6.2.1, v4.2.1, ())) fun j5 =>
 bif (!v1.2.2.2.1) then
 Option.bind (F_slices_breakPatternsCmpFunc_int_c93 v1.2.2.2.2.2.1 v1.1 v1.2.1) fun p26 =>
 j5 ((subI .i64 v1.2.2.1 (1 : Int)), p26.2, ())
 else
 j5 (v1.2.2.1, v1.2.2.2.2.2.1, ())) (a0, a1, a2, true, true, s, ())
noncomputable def I_slices_pdqsortCmpFunc_int_c93 : Nat → List Int → (Int × Int × Int × (Unit) × Unit) → Option ((Unit) × List Int) := iterF2 (fun rec s a => B_slices_pdqsortCmpFunc_int_c93 rec s a.1 a.2.1 a.2.2.1)
noncomputable def F_slices_pdqsortCmpFunc_int_c93 (s : List Int) (a0 : Int) (a1 : Int) (a2 : Int) : Option ((Unit) × List Int) := I_slices_pdqsortCmpFunc_int_c93 (List.length s + 1) s (a0, a1, a2, (()), ())
noncomputable def k_slices_pdqsortCmpFunc_int_c93 : KS U Tryz.prog := ⟨.rw 184 3 1 (Ty.i .i64) [.ty (Ty.i .i64), .ty (Ty.i .i64), .ty (Ty.i .i64), .clo 93 []] (.many []) fun s a => F_slices_pdqsortCmpFunc_int_c93 s a.1 a.2.1 a.2.2.1, rwRS (K := K) («as» := [.ty (Ty.i .i64), .ty (Ty.i .i64), .ty (Ty.i .i64), .clo 93 []]) (r := .many []) (T := (Ty.i .i64)) (B := fun rec s a => B_slices_pdqsortCmpFunc_int_c93 rec s a.1 a.2.1 a.2.2.1) sa_slices_pdqsortCmpFunc_int_c93 148 [] [k_slices_insertionSortCmpFunc_int_c93, k_slices_heapSortCmpFunc_int_c93, k_slices_breakPatternsCmpFunc_int_c93, k_slices_choosePivotCmpFunc_int_c93, k_slices_reverseRangeCmpFunc_int_c93, k_slices_partialInsertionSortCmpFunc_int_c93, k_cmp_Compare_int, k_slices_partitionEqualCmpFunc_int_c93, k_slices_partitionCmpFunc_int_c93] (fk Tryz.f184 [] Tryz.func184) (hF := fun s a => ⟨_, rfl⟩)⟩

/-! ### slices.SortFunc[[]int,int] -/
noncomputable def sa_slices_SortFunc_int_int_c93 : SA U := annA (scOf Tryz.prog 14 [] Tryz.f152) .e
noncomputable def F_slices_SortFunc_int_int_c93 (s : List Int)  : Option ((Unit) × List Int) :=
 Option.bind (F_math_bits_Len (convI .u64 ((List.length s : Nat) : Int))) fun r1 =>
 Option.bind (F_slices_pdqsortCmpFunc_int_c93 s (0 : Int) ((List.length s : Nat) : Int) r1) fun p2 =>
 some ((()), p2.2)
noncomputable def k_slices_SortFunc_int_int_c93 : KS U Tryz.prog := ⟨.rw 152 3 1 (Ty.i .i64) [.clo 93 []] (.many []) fun s a => F_slices_SortFunc_int_int_c93 s , rwS (K := K) sa_slices_SortFunc_int_int_c93 14 [] [k_math_bits_Len, k_slices_pdqsortCmpFunc_int_c93] (fk Tryz.f152 [] Tryz.func152)⟩

/-! ### slices.Compact[[]int,int] -/
noncomputable def sa_slices_Compact_int_int : SA U := annA (scOf Tryz.prog 61 [] Tryz.f153) (.r (.r (.l (.r (.l (.j ⟨[.val 3 (Ty.i .i64), .own 0 0 0 3 1 (Ty.i .i64)], []⟩ (.l (.r (.l (.l (.r (.l (.r (.b (.r (.l (.j ⟨[.val 3 (Ty.i .i64), .val 5 (Ty.i .i64), .own 0 0 0 3 1 (Ty.i .i64)], [4]⟩ (.l (.r (.j ⟨[.val 3 (Ty.i .i64), .own 0 0 0 3 1 (Ty.i .i64)], [4, 5]⟩ .e)))))) (.r (.l (.g [(4, .ps (.cut 2))])))))))))))))))))
noncomputable def F_slices_Compact_int_int (s : List Int)  : Option (List Int) :=
 bif (decide (((List.length s : Nat) : Int) < (2 : Int))) then
 some s
 else
 loopO (fun (v1 : Int × (List Int) × Unit) =>
 bif (decide (v1.1 < ((List.length v1.2.1 : Nat) : Int))) then
 Option.bind (idx v1.2.1 v1.1) fun x2 =>
 Option.bind (v1.2.1[(Int.toNat v1.1)]?) fun x3 =>
 Option.bind (idx v1.2.1 (subI .i64 v1.1 (1 : Int))) fun x4 =>
 Option.bind (v1.2.1[(Int.toNat (subI .i64 v1.1 (1 : Int)))]?) fun x5 =>
 bif (decide (x3 = x5)) then
 bif slcOk v1.1 ((List.length v1.2.1) : Int) (List.length v1.2.1) then
 loopO (fun (v6 : Int × Int × (List Int) × Unit) =>
 bif (decide (v6.2.1 < ((List.length ((v6.2.2.1.drop (Int.toNat v1.1)).take (Int.toNat ((List.length v1.2.1) : Int) - Int.toNat v1.1)) : Nat) : Int))) then
 letJ (fun (v7 : Int × (List Int) × Unit) =>
 some (Sum.inl (v7.1, (addI .i64 v6.2.1 (1 : Int)), v7.2.1, ()))) fun j8 =>
 Option.bind (idx ((v6.2.2.1.drop (Int.toNat v1.1)).take (Int.toNat ((List.length v1.2.1) : Int) - Int.toNat v1.1)) v6.2.1) fun x9 =>
 Option.bind (v6.2.2.1[((Int.toNat v1.1) + Int.toNat v6.2.1)]?) fun x10 =>
 Option.bind (idx ((v6.2.2.1.drop (Int.toNat v1.1)).take (Int.toNat ((List.length v1.2.1) : Int) - Int.toNat v1.1)) (subI .i64 v6.2.1 (1 : Int))) fun x11 =>
 Option.bind (v6.2.2.1[((Int.toNat v1.1) + Int.toNat (subI .i64 v6.2.1 (1 : Int)))]?) fun x12 =>
 bif (!decide (x10 = x12)) then
 Option.bind (idx ((v6.2.2.1.drop (Int.toNat v1.1)).take (Int.toNat ((List.length v1.2.1) : Int) - Int.toNat v1.1)) v6.2.1) fun x13 =>
 Option.bind (v6.2.2.1[((Int.toNat v1.1) + Int.toNat v6.2.1)]?) fun x14 =>
 Option.bind (idx v6.2.2.1 v6.1) fun x15 =>
 Option.bind (v6.2.2.1[(Int.toNat v6.1)]?) fun x16 =>
 j8 ((addI .i64 v6.1 (1 : Int)), (v6.2.2.1.set (Int.toNat v6.1) x14), ())
 else
 j8 (v6.1, v6.2.2.1, ())
 else
 Option.map Sum.inr (bif slcOk v6.1 ((List.length v6.2.2.1) : Int) (List.length v6.2.2.1) then
 bif slcOk (0 : Int) v6.1 (List.length (v6.2.2.1.take (Int.toNat v6.1) ++ List.replicate (Int.toNat ((List.length v6.2.2.1) : Int) - Int.toNat v6.1) (0 : Int) ++ v6.2.2.1.drop ((Int.toNat v6.1) + (Int.toNat ((List.length v6.2.2.1) : Int) - Int.toNat v6.1)))) then
 Option.map Sum.inr (some ((v6.2.2.1.take (Int.toNat v6.1) ++ List.replicate (Int.toNat ((List.length v6.2.2.1) : Int) - Int.toNat v6.1) (0 : Int) ++ v6.2.2.1.drop ((Int.toNat v6.1) + (Int.toNat ((List.length v6.2.2.1) : Int) - Int.toNat v6.1))).take (Int.toNat v6.1 - Int.toNat (0 : Int))))
 else none
 else none)) (v1.1, (1 : Int), v1.2.1, ())
 else none
 else
 some (Sum.inl ((addI .i64 v1.1 (1 : Int)), v1.2.1, ()))
 else
 Option.map Sum.inr (some v1.2.1)) ((1 : Int), s, ())
noncomputable def k_slices_Compact_int_int : KS U Tryz.prog := ⟨.cw 153 3 1 (Ty.i .i64) [] fun s a => F_slices_Compact_int_int s , cwS (K := K) sa_slices_Compact_int_int 61 [.tmp 2] [] (fk Tryz.f153 [] Tryz.func153)⟩

/-! ### trustquorum/envelopes.unique[int] -/
noncomputable def sa_envelopes_unique_int_c93 : SA U := annA (scOf Tryz.prog 10 [] Tryz.f92) .e
noncomputable def F_envelopes_unique_int_c93 (s : List Int)  : Option (List Int) :=
 Option.bind (F_slices_SortFunc_int_int_c93 s) fun p1 =>
 Option.bind (F_slices_Compact_int_int p1.2) fun r2 =>
 some r2
noncomputable def k_envelopes_unique_int_c93 : KS U Tryz.prog := ⟨.cw 92 3 1 (Ty.i .i64) [.clo 93 []] fun s a => F_envelopes_unique_int_c93 s , cwS (K := K) sa_envelopes_unique_int_c93 10 [.tmp 4] [k_slices_SortFunc_int_int_c93, k_slices_Compact_int_int] (fk Tryz.f92 [] Tryz.func92)⟩

/-! ### trustquorum/envelopes.Bounds -/
noncomputable def sa_envelopes_Bounds : SA U := annA (scOf Tryz.prog 38 [] Tryz.f19) (.r (.r (.l (.r (.l (.ps (.own 5 3 1 (Ty.i .i64)) (.j ⟨[.val 10 (Ty.i .i64), .own 5 5 1 3 1 (Ty.i .i64)], [1, 8, 9]⟩ (.l (.r (.r (.j ⟨[.own 5 5 1 3 1 (Ty.i .i64)], [1, 8, 9, 10]⟩ .e)))))))))))
noncomputable def F_envelopes_Bounds (a0 : (List TEnvelope)) (a1 : ByteArray) : Option (List Int) :=
 loopO (fun (v1 : Int × (List Int) × Unit) =>
 bif (decide (v1.1 < ((List.length a0 : Nat) : Int))) then
 letJ (fun (v2 : (List Int) × Unit) =>
 some (Sum.inl ((addI .i64 v1.1 (1 : Int)), v2.1, ()))) fun j3 =>
 Option.bind (idx a0 v1.1) fun x4 =>
 Option.bind (F_envelopes_Valid (TEnvelope.mk x4.Node x4.Slot x4.Seq (TTrust.mk x4.Trust.Threshold x4.Trust.Nodes x4.Trust.Inner) x4.Kind x4.Ballot x4.Prepared x4.Prime x4.Low x4.High)) fun r5 =>
 Option.bind (bif r5 then
 some (decide (x4.Ballot.Value = a1))
 else some false) fun b6 =>
 Option.bind (bif b6 then
 some (!decide (x4.Low = (0 : Int)))
 else some false) fun b7 =>
 bif b7 then
 bif lenOk 8 (List.length v1.2.1 + List.length [x4.Low, x4.High]) then
 j3 ((v1.2.1 ++ [x4.Low, x4.High]), ())
 else none
 else
 j3 (v1.2.1, ())
 else
 Option.map Sum.inr (Option.bind (F_envelopes_unique_int_c93 v1.2.1) fun r8 =>
 some r8)) ((0 : Int), ([] : List Int), ())
noncomputable def k_envelopes_Bounds : KS U Tryz.prog := ⟨.fn 19 [.ty (Ty.sl (Ty.st .Envelope)), .ty Ty.str] (.one (Ty.sl (Ty.i .i64))) fun a => F_envelopes_Bounds a.1 a.2.1, fnS (K := K) sa_envelopes_Bounds 38 [.tmp 4] [k_envelopes_Valid, k_envelopes_unique_int_c93] (fk Tryz.f19 [] Tryz.func19)⟩

/-! ### (trustquorum/envelopes.Right).from -/
noncomputable def sa_envelopes_Right_from : SA U := annA (scOf Tryz.prog 31 [] Tryz.f155) .e
noncomputable def F_envelopes_Right_from (a0 : TRight) (a1 : ByteArray) (a2 : Int) (a3 : Int) : Option Bool :=
 Option.bind (bif (decide ((1 : Int) ≤ a2)) then
 some (decide (a2 ≤ a3))
 else some false) fun b1 =>
 Option.bind (bif b1 then
 some (decide (a0.Envelope.Ballot.Value = a1))
 else some false) fun b2 =>
 Option.bind (bif b2 then
 some (decide (a0.Envelope.Low ≤ a2))
 else some false) fun b3 =>
 some b3
noncomputable def k_envelopes_Right_from : KS U Tryz.prog := ⟨.fn 155 [.ty (Ty.st .Right), .ty Ty.str, .ty (Ty.i .i64), .ty (Ty.i .i64)] (.one Ty.bool) fun a => F_envelopes_Right_from a.1 a.2.1 a.2.2.1 a.2.2.2.1, fnS (K := K) sa_envelopes_Right_from 31 [.tmp 8] [] (fk Tryz.f155 [] Tryz.func155)⟩

/-! ### (trustquorum/envelopes.Right).VotesCommit -/
noncomputable def sa_envelopes_Right_VotesCommit : SA U := annA (scOf Tryz.prog 33 [] Tryz.f94) .e
noncomputable def F_envelopes_Right_VotesCommit (a0 : TRight) (a1 : ByteArray) (a2 : Int) (a3 : Int) : Option Bool :=
 Option.bind (F_envelopes_Right_from (TRight.mk (TEnvelope.mk a0.Envelope.Node a0.Envelope.Slot a0.Envelope.Seq (TTrust.mk a0.Envelope.Trust.Threshold a0.Envelope.Trust.Nodes a0.Envelope.Trust.Inner) a0.Envelope.Kind a0.Envelope.Ballot a0.Envelope.Prepared a0.Envelope.Prime a0.Envelope.Low a0.Envelope.High)) a1 a2 a3) fun r1 =>
 Option.bind (bif r1 then
 Option.bind (bif (!decide (a0.Envelope.Kind = (1 : Int))) then some true
 else
 Option.bind (bif (!decide (a0.Envelope.Low = (0 : Int))) then
 some (decide (a3 ≤ a0.Envelope.High))
 else some false) fun b2 =>
 some b2) fun b3 =>
 some b3
 else some false) fun b4 =>
 some b4
noncomputable def k_envelopes_Right_VotesCommit : KS U Tryz.prog := ⟨.fn 94 [.ty (Ty.st .Right), .ty Ty.str, .ty (Ty.i .i64), .ty (Ty.i .i64)] (.one Ty.bool) fun a => F_envelopes_Right_VotesCommit a.1 a.2.1 a.2.2.1 a.2.2.2.1, fnS (K := K) sa_envelopes_Right_VotesCommit 33 [.tmp 8] [k_envelopes_Right_from] (fk Tryz.f94 [] Tryz.func94)⟩

/-! ### trustquorum/trustquorumplay.Flat -/
noncomputable def sa_play_Flat : SA U := annA (scOf Tryz.prog 21 [] Tryz.f30) (.r (.r (.l (.r (.l (.ps (.ownB 5 1 3 1 (Ty.i .i64)) (.j ⟨[.val 6 (Ty.i .i64), .box 3 1 (Ty.st .Trust) [(1, 6, 1)], .rowb 6 1 3 1 (Ty.i .i64)], [0, 4, 5]⟩ .e)))))))
noncomputable def F_play_Flat (a0 : Int) (a1 : Int) : Option TTrust :=
 loopO (fun (v1 : Int × TTrust × (List Int) × Unit) =>
 bif (decide (v1.1 < a0)) then
 bif lenOk 8 (List.length v1.2.2.1 + List.length [v1.1]) then
 some (Sum.inl ((addI .i64 v1.1 (1 : Int)), (TTrust.mk v1.2.1.Threshold ([] : List Int) v1.2.1.Inner), (v1.2.2.1 ++ [v1.1]), ()))
 else none
 else
 Option.map Sum.inr (some (TTrust.mk v1.2.1.Threshold v1.2.2.1 v1.2.1.Inner))) ((0 : Int), (TTrust.mk a1 ([] : List Int) ([] : List TTrust)), ([] : List Int), ())
noncomputable def k_play_Flat : KS U Tryz.prog := ⟨.fn 30 [.ty (Ty.i .i64), .ty (Ty.i .i64)] (.one (Ty.st .Trust)) fun a => F_play_Flat a.1 a.2.1, fnS (K := K) sa_play_Flat 21 [.cell 4 (some 3)] [] (fk Tryz.f30 [] Tryz.func30)⟩

/-! ### (trustquorum/envelopes.Right).AcceptsCommit -/
noncomputable def sa_envelopes_Right_AcceptsCommit : SA U := annA (scOf Tryz.prog 33 [] Tryz.f143) .e
noncomputable def F_envelopes_Right_AcceptsCommit (a0 : TRight) (a1 : ByteArray) (a2 : Int) (a3 : Int) : Option Bool :=
 Option.bind (F_envelopes_Right_from (TRight.mk (TEnvelope.mk a0.Envelope.Node a0.Envelope.Slot a0.Envelope.Seq (TTrust.mk a0.Envelope.Trust.Threshold a0.Envelope.Trust.Nodes a0.Envelope.Trust.Inner) a0.Envelope.Kind a0.Envelope.Ballot a0.Envelope.Prepared a0.Envelope.Prime a0.Envelope.Low a0.Envelope.High)) a1 a2 a3) fun r1 =>
 Option.bind (bif r1 then
 Option.bind (bif (decide (a0.Envelope.Kind = (3 : Int))) then some true
 else
 Option.bind (bif (decide (a0.Envelope.Kind = (2 : Int))) then
 some (decide (a3 ≤ a0.Envelope.High))
 else some false) fun b2 =>
 some b2) fun b3 =>
 some b3
 else some false) fun b4 =>
 some b4
noncomputable def k_envelopes_Right_AcceptsCommit : KS U Tryz.prog := ⟨.fn 143 [.ty (Ty.st .Right), .ty Ty.str, .ty (Ty.i .i64), .ty (Ty.i .i64)] (.one Ty.bool) fun a => F_envelopes_Right_AcceptsCommit a.1 a.2.1 a.2.2.1 a.2.2.2.1, fnS (K := K) sa_envelopes_Right_AcceptsCommit 33 [.tmp 8] [k_envelopes_Right_from] (fk Tryz.f143 [] Tryz.func143)⟩

/-! ### slices.Clone[[]int,int] -/
noncomputable def sa_slices_Clone_int_int : SA U := annA (scOf Tryz.prog 8 [5] Tryz.f166) .e
noncomputable def F_slices_Clone_int_int (a0 : (List Int)) : Option (List Int) :=
 bif List.isEmpty a0 then
 both (some ([] : List Int)) (bif lenOk 8 (List.length ([] : List Int) + List.length a0) then
 some (([] : List Int) ++ a0)
 else none)
 else
 bif lenOk 8 (List.length ([] : List Int) + List.length a0) then
 some (([] : List Int) ++ a0)
 else none
noncomputable def k_slices_Clone_int_int : KS U Tryz.prog := ⟨.fn 166 [.ty (Ty.sl (Ty.i .i64))] (.one (Ty.sl (Ty.i .i64))) fun a => F_slices_Clone_int_int a.1, fnS (K := K) sa_slices_Clone_int_int 8 [.tmp 2] [] (fk Tryz.f166 [5] Tryz.func166)⟩

/-! ### trustquorum/copies.Trust -/
noncomputable def sa_copies_Trust : SA U := annA (scOf Tryz.prog 28 [] Tryz.f116) (.r (.r (.l (.r (.l (.ps (.ownB 3 2 36 3 (Ty.st .Trust)) (.j ⟨[.val 15 (Ty.i .i64), .box 8 1 (Ty.st .Trust) [(2, 14, 1)], .rowb 14 1 36 3 (Ty.st .Trust)], [2, 3, 13, 14]⟩ .e)))))))
noncomputable def B_copies_Trust (rec : (TTrust × Unit) → Option TTrust) (a0 : TTrust) : Option TTrust :=
 Option.bind (F_slices_Clone_int_int a0.Nodes) fun r1 =>
 loopO (fun (v2 : Int × TTrust × (List TTrust) × Unit) =>
 bif (decide (v2.1 < ((List.length a0.Inner : Nat) : Int))) then
 Option.bind (idx a0.Inner v2.1) fun x3 =>
 Option.bind (rec ((TTrust.mk x3.Threshold x3.Nodes x3.Inner), ())) fun r4 =>
 bif lenOk 56 (List.length v2.2.2.1 + List.length [(TTrust.mk r4.Threshold r4.Nodes r4.Inner)]) then
 some (Sum.inl ((addI .i64 v2.1 (1 : Int)), (TTrust.mk v2.2.1.Threshold v2.2.1.Nodes ([] : List TTrust)), (v2.2.2.1 ++ [(TTrust.mk r4.Threshold r4.Nodes r4.Inner)]), ()))
 else none
 else
 Option.map Sum.inr (some (TTrust.mk v2.2.1.Threshold v2.2.1.Nodes v2.2.2.1))) ((0 : Int), (TTrust.mk a0.Threshold r1 ([] : List TTrust)), ([] : List TTrust), ())
noncomputable def I_copies_Trust : Nat → (TTrust × Unit) → Option TTrust := iterF (fun rec a => B_copies_Trust rec a.1)
noncomputable def F_copies_Trust (a0 : TTrust) : Option TTrust := I_copies_Trust (SizeOf.sizeOf a0 + 1) (a0, ())
noncomputable def k_copies_Trust : KS U Tryz.prog := ⟨.fn 116 [.ty (Ty.st .Trust)] (.one (Ty.st .Trust)) fun a => F_copies_Trust a.1, fnRS (K := K) («as» := [.ty (Ty.st .Trust)]) (r := .one (Ty.st .Trust)) (B := fun rec a => B_copies_Trust rec a.1) sa_copies_Trust 28 [.cell 2 (some 3)] [k_slices_Clone_int_int] (fk Tryz.f116 [] Tryz.func116) (hF := fun a => ⟨_, rfl⟩)⟩

/-! ### trustquorum/prepare.View -/
noncomputable def sa_prepare_View : SA U := annA (scOf Tryz.prog 55 [] Tryz.f47) (.r (.r (.r (.r (.l (.r (.l (.j ⟨[.val 28 (Ty.i .i64), .box 4 1 (Ty.st .Config) [(0, 2, 1)], .rowb 2 1 126 4 (Ty.st .Member)], [6, 7, 26, 27]⟩ (.l (.r (.r (.j ⟨[.box 4 1 (Ty.st .Config) [(0, 2, 1)], .rowb 2 1 126 4 (Ty.st .Member)], [6, 7, 26, 27, 28]⟩ .e))))))))))))
noncomputable def F_prepare_View (a0 : Int) (a1 : TTrust) (a2 : (List TEnvelope)) : Option TConfig :=
 bif decide ((10 : Int) = (10 : Int)) && decide (0 ≤ (10 : Int)) && lenOk 64 (Int.toNat (10 : Int)) then
 Option.bind (bif (decide (a0 < (0 : Int))) then some true
 else
 some (decide ((10 : Int) ≤ a0))) fun b1 =>
 bif b1 then
 some (TConfig.mk (List.replicate (Int.toNat (10 : Int)) (TMember.mk false (TTrust.mk (0 : Int) ([] : List Int) ([] : List TTrust)))))
 else
 Option.bind (F_copies_Trust (TTrust.mk a1.Threshold a1.Nodes a1.Inner)) fun r2 =>
 Option.bind (idx (List.replicate (Int.toNat (10 : Int)) (TMember.mk false (TTrust.mk (0 : Int) ([] : List Int) ([] : List TTrust)))) a0) fun x3 =>
 Option.bind ((List.replicate (Int.toNat (10 : Int)) (TMember.mk false (TTrust.mk (0 : Int) ([] : List Int) ([] : List TTrust))))[(Int.toNat a0)]?) fun x4 =>
 loopO (fun (v5 : Int × TConfig × (List TMember) × Unit) =>
 bif (decide (v5.1 < ((List.length a2 : Nat) : Int))) then
 letJ (fun (v6 : TConfig × (List TMember) × Unit) =>
 some (Sum.inl ((addI .i64 v5.1 (1 : Int)), (TConfig.mk ([] : List TMember)), v6.2.1, ()))) fun j7 =>
 Option.bind (idx a2 v5.1) fun x8 =>
 Option.bind (F_envelopes_Valid (TEnvelope.mk x8.Node x8.Slot x8.Seq (TTrust.mk x8.Trust.Threshold x8.Trust.Nodes x8.Trust.Inner) x8.Kind x8.Ballot x8.Prepared x8.Prime x8.Low x8.High)) fun r9 =>
 Option.bind (bif r9 then
 Option.bind (idx v5.2.2.1 x8.Node) fun x10 =>
 Option.bind (v5.2.2.1[(Int.toNat x8.Node)]?) fun x11 =>
 Option.bind (v5.2.2.1[(Int.toNat x8.Node)]?) fun x12 =>
 some (!x12.Declared)
 else some false) fun b13 =>
 bif b13 then
 Option.bind (F_copies_Trust (TTrust.mk x8.Trust.Threshold x8.Trust.Nodes x8.Trust.Inner)) fun r14 =>
 Option.bind (idx v5.2.2.1 x8.Node) fun x15 =>
 Option.bind (v5.2.2.1[(Int.toNat x8.Node)]?) fun x16 =>
 j7 ((TConfig.mk ([] : List TMember)), (v5.2.2.1.set (Int.toNat x8.Node) (TMember.mk true (TTrust.mk r14.Threshold r14.Nodes r14.Inner))), ())
 else
 j7 ((TConfig.mk ([] : List TMember)), v5.2.2.1, ())
 else
 Option.map Sum.inr (some (TConfig.mk v5.2.2.1))) ((0 : Int), (TConfig.mk ([] : List TMember)), ((List.replicate (Int.toNat (10 : Int)) (TMember.mk false (TTrust.mk (0 : Int) ([] : List Int) ([] : List TTrust)))).set (Int.toNat a0) (TMember.mk true (TTrust.mk r2.Threshold r2.Nodes r2.Inner))), ())
 else none
noncomputable def k_prepare_View : KS U Tryz.prog := ⟨.fn 47 [.ty (Ty.i .i64), .ty (Ty.st .Trust), .ty (Ty.sl (Ty.st .Envelope))] (.one (Ty.st .Config)) fun a => F_prepare_View a.1 a.2.1 a.2.2.1, fnS (K := K) sa_prepare_View 55 [.cell 6 (some 1)] [k_copies_Trust, k_envelopes_Valid] (fk Tryz.f47 [] Tryz.func47)⟩

/-! ### trustquorum/envelopes.Rights -/
noncomputable def sa_envelopes_Rights : SA U := annA (scOf Tryz.prog 21 [] Tryz.f159) (.r (.r (.l (.r (.l (.ps (.own 3 106 15 (Ty.st .Right)) (.j ⟨[.val 8 (Ty.i .i64), .own 3 5 1 106 15 (Ty.st .Right)], [6, 7]⟩ (.l (.r (.r (.j ⟨[.own 3 5 1 106 15 (Ty.st .Right)], [6, 7, 8]⟩ .e)))))))))))
noncomputable def F_envelopes_Rights (a0 : (List TEnvelope)) : Option (List TRight) :=
 loopO (fun (v1 : Int × (List TRight) × Unit) =>
 bif (decide (v1.1 < ((List.length a0 : Nat) : Int))) then
 letJ (fun (v2 : (List TRight) × Unit) =>
 some (Sum.inl ((addI .i64 v1.1 (1 : Int)), v2.1, ()))) fun j3 =>
 Option.bind (idx a0 v1.1) fun x4 =>
 Option.bind (F_envelopes_Valid (TEnvelope.mk x4.Node x4.Slot x4.Seq (TTrust.mk x4.Trust.Threshold x4.Trust.Nodes x4.Trust.Inner) x4.Kind x4.Ballot x4.Prepared x4.Prime x4.Low x4.High)) fun r5 =>
 bif r5 then
 bif lenOk 176 (List.length v1.2.1 + List.length [(TRight.mk (TEnvelope.mk x4.Node x4.Slot x4.Seq (TTrust.mk x4.Trust.Threshold x4.Trust.Nodes x4.Trust.Inner) x4.Kind x4.Ballot x4.Prepared x4.Prime x4.Low x4.High))]) then
 j3 ((v1.2.1 ++ [(TRight.mk (TEnvelope.mk x4.Node x4.Slot x4.Seq (TTrust.mk x4.Trust.Threshold x4.Trust.Nodes x4.Trust.Inner) x4.Kind x4.Ballot x4.Prepared x4.Prime x4.Low x4.High))]), ())
 else none
 else
 j3 (v1.2.1, ())
 else
 Option.map Sum.inr (some v1.2.1)) ((0 : Int), ([] : List TRight), ())
noncomputable def k_envelopes_Rights : KS U Tryz.prog := ⟨.fn 159 [.ty (Ty.sl (Ty.st .Envelope))] (.one (Ty.sl (Ty.st .Right))) fun a => F_envelopes_Rights a.1, fnS (K := K) sa_envelopes_Rights 21 [.tmp 2] [k_envelopes_Valid] (fk Tryz.f159 [] Tryz.func159)⟩

/-! ### trustquorum/prepare.Look -/
noncomputable def sa_prepare_Look : SA U := annA (scOf Tryz.prog 15 [] Tryz.f97) .e
noncomputable def F_prepare_Look (a0 : Int) (a1 : TTrust) (a2 : (List TEnvelope)) : Option TSeen :=
 Option.bind (F_prepare_View a0 (TTrust.mk a1.Threshold a1.Nodes a1.Inner) a2) fun r1 =>
 Option.bind (F_envelopes_Rights a2) fun r2 =>
 some (TSeen.mk a0 r1 r2)
noncomputable def k_prepare_Look : KS U Tryz.prog := ⟨.fn 97 [.ty (Ty.i .i64), .ty (Ty.st .Trust), .ty (Ty.sl (Ty.st .Envelope))] (.one (Ty.st .Seen)) fun a => F_prepare_Look a.1 a.2.1 a.2.2.1, fnS (K := K) sa_prepare_Look 15 [.cell 6 (some 3)] [k_prepare_View, k_envelopes_Rights] (fk Tryz.f97 [] Tryz.func97)⟩

/-! ### trustquorum/commit.accepts -/
noncomputable def sa_commit_accepts : SA U := annA (scOf Tryz.prog 8 [] Tryz.f158) .e
noncomputable def F_commit_accepts (a0 : ByteArray) (a1 : Int) (a2 : Int) : Option (ByteArray × Int × Int × Unit) :=
 some (a0, a1, a2, ())
noncomputable def k_commit_accepts : KS U Tryz.prog := ⟨.fn 158 [.ty Ty.str, .ty (Ty.i .i64), .ty (Ty.i .i64)] (.fn (.clo 187 [.ref (.ty Ty.str), .ref (.ty (Ty.i .i64)), .ref (.ty (Ty.i .i64))])) fun a => F_commit_accepts a.1 a.2.1 a.2.2.1, fnS (K := K) sa_commit_accepts 8 [.tmp 6] [] (fk Tryz.f158 [] Tryz.func158)⟩

/-! ### trustquorum/commit.ready$1 -/
noncomputable def sa_commit_ready_1 : SA U := annA (scOf Tryz.prog 11 [] Tryz.f157) .e
noncomputable def F_commit_ready_1 (a0 : TRight) (a1 : ByteArray) (a2 : Int) (a3 : Int) : Option Bool :=
 Option.bind (F_envelopes_Right_VotesCommit (TRight.mk (TEnvelope.mk a0.Envelope.Node a0.Envelope.Slot a0.Envelope.Seq (TTrust.mk a0.Envelope.Trust.Threshold a0.Envelope.Trust.Nodes a0.Envelope.Trust.Inner) a0.Envelope.Kind a0.Envelope.Ballot a0.Envelope.Prepared a0.Envelope.Prime a0.Envelope.Low a0.Envelope.High)) a1 a2 a3) fun r1 =>
 some r1
noncomputable def k_commit_ready_1 : KS U Tryz.prog := ⟨.fn 157 [.ty (Ty.st .Right), .ref (.ty Ty.str), .ref (.ty (Ty.i .i64)), .ref (.ty (Ty.i .i64))] (.one Ty.bool) fun a => F_commit_ready_1 a.1 a.2.1 a.2.2.1 a.2.2.2.1, fnS (K := K) sa_commit_ready_1 11 [.tmp 5] [k_envelopes_Right_VotesCommit] (fk Tryz.f157 [] Tryz.func157)⟩

/-! ### trustquorum/commit.accepts$1 -/
noncomputable def sa_commit_accepts_1 : SA U := annA (scOf Tryz.prog 11 [] Tryz.f187) .e
noncomputable def F_commit_accepts_1 (a0 : TRight) (a1 : ByteArray) (a2 : Int) (a3 : Int) : Option Bool :=
 Option.bind (F_envelopes_Right_AcceptsCommit (TRight.mk (TEnvelope.mk a0.Envelope.Node a0.Envelope.Slot a0.Envelope.Seq (TTrust.mk a0.Envelope.Trust.Threshold a0.Envelope.Trust.Nodes a0.Envelope.Trust.Inner) a0.Envelope.Kind a0.Envelope.Ballot a0.Envelope.Prepared a0.Envelope.Prime a0.Envelope.Low a0.Envelope.High)) a1 a2 a3) fun r1 =>
 some r1
noncomputable def k_commit_accepts_1 : KS U Tryz.prog := ⟨.fn 187 [.ty (Ty.st .Right), .ref (.ty Ty.str), .ref (.ty (Ty.i .i64)), .ref (.ty (Ty.i .i64))] (.one Ty.bool) fun a => F_commit_accepts_1 a.1 a.2.1 a.2.2.1 a.2.2.2.1, fnS (K := K) sa_commit_accepts_1 11 [.tmp 5] [k_envelopes_Right_AcceptsCommit] (fk Tryz.f187 [] Tryz.func187)⟩

/-! ### (trustquorum/prepare.Seen).Accepts$1 -/
noncomputable def sa_prepare_Seen_Accepts_1_c157_c187 : SA U := annA (scOf Tryz.prog 13 [] Tryz.f185) .e
noncomputable def F_prepare_Seen_Accepts_1_c157_c187 (a0 : TRight) (a1 : ByteArray) (a2 : Int) (a3 : Int) (a4 : ByteArray) (a5 : Int) (a6 : Int) : Option Bool :=
 Option.bind (F_commit_ready_1 (TRight.mk (TEnvelope.mk a0.Envelope.Node a0.Envelope.Slot a0.Envelope.Seq (TTrust.mk a0.Envelope.Trust.Threshold a0.Envelope.Trust.Nodes a0.Envelope.Trust.Inner) a0.Envelope.Kind a0.Envelope.Ballot a0.Envelope.Prepared a0.Envelope.Prime a0.Envelope.Low a0.Envelope.High)) a1 a2 a3) fun r1 =>
 Option.bind (bif r1 then some true
 else
 Option.bind (F_commit_accepts_1 (TRight.mk (TEnvelope.mk a0.Envelope.Node a0.Envelope.Slot a0.Envelope.Seq (TTrust.mk a0.Envelope.Trust.Threshold a0.Envelope.Trust.Nodes a0.Envelope.Trust.Inner) a0.Envelope.Kind a0.Envelope.Ballot a0.Envelope.Prepared a0.Envelope.Prime a0.Envelope.Low a0.Envelope.High)) a4 a5 a6) fun r2 =>
 some r2) fun b3 =>
 some b3
noncomputable def k_prepare_Seen_Accepts_1_c157_c187 : KS U Tryz.prog := ⟨.fn 185 [.ty (Ty.st .Right), .ref (.clo 157 [.ref (.ty Ty.str), .ref (.ty (Ty.i .i64)), .ref (.ty (Ty.i .i64))]), .ref (.clo 187 [.ref (.ty Ty.str), .ref (.ty (Ty.i .i64)), .ref (.ty (Ty.i .i64))])] (.one Ty.bool) fun a => F_prepare_Seen_Accepts_1_c157_c187 a.1 a.2.1.1 a.2.1.2.1 a.2.1.2.2.1 a.2.2.1.1 a.2.2.1.2.1 a.2.2.1.2.2.1, fnS (K := K) sa_prepare_Seen_Accepts_1_c157_c187 13 [.tmp 4] [k_commit_ready_1, k_commit_accepts_1] (fk Tryz.f185 [] Tryz.func185)⟩

/-! ### (trustquorum/prepare.Seen).Who -/
noncomputable def sa_prepare_Seen_Who_c185_c157_c187 : SA U := annA (scOf Tryz.prog 26 [] Tryz.f163) (.r (.r (.l (.r (.l (.j ⟨[.val 5 (Ty.i .i64), .val 11 (Ty.i .i64)], [1, 9, 10]⟩ (.l (.r (.r (.j ⟨[.val 5 (Ty.i .i64)], [1, 9, 10, 11]⟩ .e))))))))))
noncomputable def F_prepare_Seen_Who_c185_c157_c187 (a0 : TSeen) (a1 : ByteArray) (a2 : Int) (a3 : Int) (a4 : ByteArray) (a5 : Int) (a6 : Int) : Option Int :=
 loopO (fun (v1 : Int × Int × Unit) =>
 bif (decide (v1.2.1 < ((List.length a0.Heard : Nat) : Int))) then
 letJ (fun (v2 : Int × Unit) =>
 some (Sum.inl (v2.1, (addI .i64 v1.2.1 (1 : Int)), ()))) fun j3 =>
 Option.bind (idx a0.Heard v1.2.1) fun x4 =>
 Option.bind (F_prepare_Seen_Accepts_1_c157_c187 (TRight.mk (TEnvelope.mk x4.Envelope.Node x4.Envelope.Slot x4.Envelope.Seq (TTrust.mk x4.Envelope.Trust.Threshold x4.Envelope.Trust.Nodes x4.Envelope.Trust.Inner) x4.Envelope.Kind x4.Envelope.Ballot x4.Envelope.Prepared x4.Envelope.Prime x4.Envelope.Low x4.Envelope.High)) a1 a2 a3 a4 a5 a6) fun r5 =>
 bif r5 then
 if x4.Envelope.Node < 0 then none else
 j3 ((orI .i64 v1.1 (shlI .i64 (1 : Int) x4.Envelope.Node)), ())
 else
 j3 (v1.1, ())
 else
 Option.map Sum.inr (some v1.1)) ((0 : Int), (0 : Int), ())
noncomputable def k_prepare_Seen_Who_c185_c157_c187 : KS U Tryz.prog := ⟨.fn 163 [.ty (Ty.st .Seen), .clo 185 [.ref (.clo 157 [.ref (.ty Ty.str), .ref (.ty (Ty.i .i64)), .ref (.ty (Ty.i .i64))]), .ref (.clo 187 [.ref (.ty Ty.str), .ref (.ty (Ty.i .i64)), .ref (.ty (Ty.i .i64))])]] (.one (Ty.i .i64)) fun a => F_prepare_Seen_Who_c185_c157_c187 a.1 a.2.1.1.1 a.2.1.1.2.1 a.2.1.1.2.2.1 a.2.1.2.1.1 a.2.1.2.1.2.1 a.2.1.2.1.2.2.1, fnS (K := K) sa_prepare_Seen_Who_c185_c157_c187 26 [.tmp 4] [k_prepare_Seen_Accepts_1_c157_c187] (fk Tryz.f163 [] Tryz.func163)⟩

/-! ### (trustquorum/prepare.Seen).Who -/
noncomputable def sa_prepare_Seen_Who_c187 : SA U := annA (scOf Tryz.prog 26 [] Tryz.f163) (.r (.r (.l (.r (.l (.j ⟨[.val 5 (Ty.i .i64), .val 11 (Ty.i .i64)], [1, 9, 10]⟩ (.l (.r (.r (.j ⟨[.val 5 (Ty.i .i64)], [1, 9, 10, 11]⟩ .e))))))))))
noncomputable def F_prepare_Seen_Who_c187 (a0 : TSeen) (a1 : ByteArray) (a2 : Int) (a3 : Int) : Option Int :=
 loopO (fun (v1 : Int × Int × Unit) =>
 bif (decide (v1.2.1 < ((List.length a0.Heard : Nat) : Int))) then
 letJ (fun (v2 : Int × Unit) =>
 some (Sum.inl (v2.1, (addI .i64 v1.2.1 (1 : Int)), ()))) fun j3 =>
 Option.bind (idx a0.Heard v1.2.1) fun x4 =>
 Option.bind (F_commit_accepts_1 (TRight.mk (TEnvelope.mk x4.Envelope.Node x4.Envelope.Slot x4.Envelope.Seq (TTrust.mk x4.Envelope.Trust.Threshold x4.Envelope.Trust.Nodes x4.Envelope.Trust.Inner) x4.Envelope.Kind x4.Envelope.Ballot x4.Envelope.Prepared x4.Envelope.Prime x4.Envelope.Low x4.Envelope.High)) a1 a2 a3) fun r5 =>
 bif r5 then
 if x4.Envelope.Node < 0 then none else
 j3 ((orI .i64 v1.1 (shlI .i64 (1 : Int) x4.Envelope.Node)), ())
 else
 j3 (v1.1, ())
 else
 Option.map Sum.inr (some v1.1)) ((0 : Int), (0 : Int), ())
noncomputable def k_prepare_Seen_Who_c187 : KS U Tryz.prog := ⟨.fn 163 [.ty (Ty.st .Seen), .clo 187 [.ref (.ty Ty.str), .ref (.ty (Ty.i .i64)), .ref (.ty (Ty.i .i64))]] (.one (Ty.i .i64)) fun a => F_prepare_Seen_Who_c187 a.1 a.2.1.1 a.2.1.2.1 a.2.1.2.2.1, fnS (K := K) sa_prepare_Seen_Who_c187 26 [.tmp 4] [k_commit_accepts_1] (fk Tryz.f163 [] Tryz.func163)⟩

/-! ### trustquorum/configuration.Declared -/
noncomputable def sa_configuration_Declared : SA U := annA (scOf Tryz.prog 26 [] Tryz.f244) (.r (.r (.l (.r (.l (.j ⟨[.val 3 (Ty.i .i64), .val 9 (Ty.i .i64)], [7, 8]⟩ (.l (.r (.r (.j ⟨[.val 3 (Ty.i .i64)], [7, 8, 9]⟩ .e))))))))))
noncomputable def F_configuration_Declared (a0 : TConfig) : Option Int :=
 loopO (fun (v1 : Int × Int × Unit) =>
 bif (decide (v1.2.1 < ((List.length a0.Members : Nat) : Int))) then
 letJ (fun (v2 : Int × Unit) =>
 some (Sum.inl (v2.1, (addI .i64 v1.2.1 (1 : Int)), ()))) fun j3 =>
 Option.bind (idx a0.Members v1.2.1) fun x4 =>
 Option.bind (bif x4.Declared then
 some (decide (v1.2.1 < (10 : Int)))
 else some false) fun b5 =>
 bif b5 then
 if v1.2.1 < 0 then none else
 j3 ((orI .i64 v1.1 (shlI .i64 (1 : Int) v1.2.1)), ())
 else
 j3 (v1.1, ())
 else
 Option.map Sum.inr (some v1.1)) ((0 : Int), (0 : Int), ())
noncomputable def k_configuration_Declared : KS U Tryz.prog := ⟨.fn 244 [.ty (Ty.st .Config)] (.one (Ty.i .i64)) fun a => F_configuration_Declared a.1, fnS (K := K) sa_configuration_Declared 26 [.tmp 2] [] (fk Tryz.f244 [] Tryz.func244)⟩

/-! ### trustquorum/threshold.Satisfied -/
noncomputable def sa_threshold_Satisfied : SA U := annA (scOf Tryz.prog 43 [] Tryz.f245) (.r (.r (.r (.b (.r (.l (.j ⟨[.val 5 (Ty.i .i64), .val 16 (Ty.i .i64)], [1, 2, 14, 15]⟩ (.l (.r (.r (.j ⟨[.val 5 (Ty.i .i64)], [1, 2, 14, 15, 16]⟩ .e))))))) (.l (.r (.l (.j ⟨[.val 5 (Ty.i .i64), .val 29 (Ty.i .i64)], [1, 2, 27, 28]⟩ (.l (.r (.r (.j ⟨[.val 5 (Ty.i .i64)], [1, 2, 27, 28, 29]⟩ .e))))))))))))
noncomputable def B_threshold_Satisfied (rec : (TTrust × Int × Unit) → Option Bool) (a0 : TTrust) (a1 : Int) : Option Bool :=
 Option.bind (F_nodeset_Valid a1) fun r1 =>
 bif (!r1) then
 some false
 else
 loopO (fun (v2 : Int × Int × Unit) =>
 bif (decide (v2.2.1 < ((List.length a0.Nodes : Nat) : Int))) then
 letJ (fun (v3 : Int × Unit) =>
 some (Sum.inl (v3.1, (addI .i64 v2.2.1 (1 : Int)), ()))) fun j4 =>
 Option.bind (idx a0.Nodes v2.2.1) fun x5 =>
 Option.bind (F_nodeset_Has a1 x5) fun r6 =>
 bif r6 then
 j4 ((addI .i64 v2.1 (1 : Int)), ())
 else
 j4 (v2.1, ())
 else
 Option.map Sum.inr (loopO (fun (v7 : Int × Int × Unit) =>
 bif (decide (v7.2.1 < ((List.length a0.Inner : Nat) : Int))) then
 letJ (fun (v8 : Int × Unit) =>
 some (Sum.inl (v8.1, (addI .i64 v7.2.1 (1 : Int)), ()))) fun j9 =>
 Option.bind (idx a0.Inner v7.2.1) fun x10 =>
 Option.bind (rec ((TTrust.mk x10.Threshold x10.Nodes x10.Inner), a1, ())) fun r11 =>
 bif r11 then
 j9 ((addI .i64 v7.1 (1 : Int)), ())
 else
 j9 (v7.1, ())
 else
 Option.map Sum.inr (some (decide (a0.Threshold ≤ v7.1)))) (v2.1, (0 : Int), ()))) ((0 : Int), (0 : Int), ())
noncomputable def I_threshold_Satisfied : Nat → (TTrust × Int × Unit) → Option Bool := iterF (fun rec a => B_threshold_Satisfied rec a.1 a.2.1)
noncomputable def F_threshold_Satisfied (a0 : TTrust) (a1 : Int) : Option Bool := I_threshold_Satisfied (SizeOf.sizeOf a0 + SizeOf.sizeOf a1 + 1) (a0, a1, ())
noncomputable def k_threshold_Satisfied : KS U Tryz.prog := ⟨.fn 245 [.ty (Ty.st .Trust), .ty (Ty.i .i64)] (.one Ty.bool) fun a => F_threshold_Satisfied a.1 a.2.1, fnRS (K := K) («as» := [.ty (Ty.st .Trust), .ty (Ty.i .i64)]) (r := .one Ty.bool) (B := fun rec a => B_threshold_Satisfied rec a.1 a.2.1) sa_threshold_Satisfied 43 [.tmp 4] [k_nodeset_Valid, k_nodeset_Has] (fk Tryz.f245 [] Tryz.func245) (hF := fun a => ⟨_, rfl⟩)⟩

/-! ### trustquorum/blocking.Blocks -/
noncomputable def sa_blocking_Blocks : SA U := annA (scOf Tryz.prog 30 [] Tryz.f227) .e
noncomputable def F_blocking_Blocks (a0 : TConfig) (a1 : Int) (a2 : Int) : Option Bool :=
 Option.bind (F_nodeset_Valid a2) fun r1 =>
 Option.bind (bif (!r1) then some true
 else
 Option.bind (F_configuration_Declared a0) fun r2 =>
 Option.bind (F_nodeset_Has r2 a1) fun r3 =>
 some (!r3)) fun b4 =>
 bif b4 then
 some false
 else
 Option.bind (idx a0.Members a1) fun x5 =>
 if a1 < 0 then none else
 Option.bind (F_threshold_Satisfied (TTrust.mk x5.Trust.Threshold x5.Trust.Nodes x5.Trust.Inner) (orI .i64 (andNotI .i64 (1023 : Int) a2) (shlI .i64 (1 : Int) a1))) fun r6 =>
 some (!r6)
noncomputable def k_blocking_Blocks : KS U Tryz.prog := ⟨.fn 227 [.ty (Ty.st .Config), .ty (Ty.i .i64), .ty (Ty.i .i64)] (.one Ty.bool) fun a => F_blocking_Blocks a.1 a.2.1 a.2.2.1, fnS (K := K) sa_blocking_Blocks 30 [.tmp 6] [k_nodeset_Valid, k_configuration_Declared, k_nodeset_Has, k_threshold_Satisfied] (fk Tryz.f227 [] Tryz.func227)⟩

/-! ### trustquorum/nodeset.Nodes -/
noncomputable def sa_nodeset_Nodes : SA U := annA (scOf Tryz.prog 17 [] Tryz.f250) (.r (.r (.l (.r (.l (.ps (.own 3 3 1 (Ty.i .i64)) (.j ⟨[.val 5 (Ty.i .i64), .own 3 3 1 3 1 (Ty.i .i64)], [0]⟩ (.l (.r (.r (.j ⟨[.own 3 3 1 3 1 (Ty.i .i64)], [0, 5]⟩ .e)))))))))))
noncomputable def F_nodeset_Nodes (a0 : Int) : Option (List Int) :=
 loopO (fun (v1 : Int × (List Int) × Unit) =>
 bif (decide (v1.1 < (10 : Int))) then
 letJ (fun (v2 : (List Int) × Unit) =>
 some (Sum.inl ((addI .i64 v1.1 (1 : Int)), v2.1, ()))) fun j3 =>
 Option.bind (F_nodeset_Has a0 v1.1) fun r4 =>
 bif r4 then
 bif lenOk 8 (List.length v1.2.1 + List.length [v1.1]) then
 j3 ((v1.2.1 ++ [v1.1]), ())
 else none
 else
 j3 (v1.2.1, ())
 else
 Option.map Sum.inr (some v1.2.1)) ((0 : Int), ([] : List Int), ())
noncomputable def k_nodeset_Nodes : KS U Tryz.prog := ⟨.fn 250 [.ty (Ty.i .i64)] (.one (Ty.sl (Ty.i .i64))) fun a => F_nodeset_Nodes a.1, fnS (K := K) sa_nodeset_Nodes 17 [.tmp 2] [k_nodeset_Has] (fk Tryz.f250 [] Tryz.func250)⟩

/-! ### trustquorum/closure.content -/
noncomputable def sa_closure_content : SA U := annA (scOf Tryz.prog 15 [] Tryz.f251) .e
noncomputable def F_closure_content (a0 : TConfig) (a1 : Int) (a2 : Int) : Option Bool :=
 Option.bind (idx a0.Members a1) fun x1 =>
 Option.bind (F_threshold_Satisfied (TTrust.mk x1.Trust.Threshold x1.Trust.Nodes x1.Trust.Inner) a2) fun r2 =>
 some r2
noncomputable def k_closure_content : KS U Tryz.prog := ⟨.fn 251 [.ty (Ty.st .Config), .ty (Ty.i .i64), .ty (Ty.i .i64)] (.one Ty.bool) fun a => F_closure_content a.1 a.2.1 a.2.2.1, fnS (K := K) sa_closure_content 15 [.tmp 6] [k_threshold_Satisfied] (fk Tryz.f251 [] Tryz.func251)⟩

/-! ### trustquorum/closure.unhappy -/
noncomputable def sa_closure_unhappy : SA U := annA (scOf Tryz.prog 22 [] Tryz.f246) (.r (.l (.r (.l (.j ⟨[.val 11 (Ty.i .i64)], [1, 2, 9, 10]⟩ .e)))))
noncomputable def F_closure_unhappy (a0 : TConfig) (a1 : Int) : Option (Int × Bool × Unit) :=
 Option.bind (F_nodeset_Nodes a1) fun r1 =>
 loopO (fun (v2 : Int × Unit) =>
 bif (decide (v2.1 < ((List.length r1 : Nat) : Int))) then
 Option.bind (idx r1 v2.1) fun x3 =>
 Option.bind (F_closure_content a0 x3 a1) fun r4 =>
 bif (!r4) then
 Option.map Sum.inr (some (x3, true, ()))
 else
 some (Sum.inl ((addI .i64 v2.1 (1 : Int)), ()))
 else
 Option.map Sum.inr (some ((0 : Int), false, ()))) ((0 : Int), ())
noncomputable def k_closure_unhappy : KS U Tryz.prog := ⟨.fn 246 [.ty (Ty.st .Config), .ty (Ty.i .i64)] (.many [(Ty.i .i64), Ty.bool]) fun a => F_closure_unhappy a.1 a.2.1, fnS (K := K) sa_closure_unhappy 22 [.tmp 4, .tmp 5] [k_nodeset_Nodes, k_closure_content] (fk Tryz.f246 [] Tryz.func246)⟩

/-! ### trustquorum/closure.eliminate -/
noncomputable def sa_closure_eliminate : SA U := annA (scOf Tryz.prog 34 [] Tryz.f228) (.r (.r (.r (.r (.l (.ps (.own 6 3 1 (Ty.i .i64)) (.j ⟨[.val 1 (Ty.i .i64), .own 6 12 1 3 1 (Ty.i .i64)], [2]⟩ .e)))))))
noncomputable def F_closure_eliminate (a0 : TConfig) (a1 : Int) : Option (Int × (List Int) × Unit) :=
 Option.bind (F_nodeset_Valid a1) fun r1 =>
 bif (!r1) then
 some ((0 : Int), ([] : List Int), ())
 else
 Option.bind (F_configuration_Declared a0) fun r2 =>
 loopO (fun (v3 : Int × (List Int) × Unit) =>
 Option.bind (F_closure_unhappy a0 v3.1) fun r4 =>
 bif (!r4.2.1) then
 Option.map Sum.inr (some (v3.1, v3.2.1, ()))
 else
 bif lenOk 8 (List.length v3.2.1 + List.length [r4.1]) then
 if r4.1 < 0 then none else
 some (Sum.inl ((andNotI .i64 v3.1 (shlI .i64 (1 : Int) r4.1)), (v3.2.1 ++ [r4.1]), ()))
 else none) ((andI .i64 a1 r2), ([] : List Int), ())
noncomputable def k_closure_eliminate : KS U Tryz.prog := ⟨.fn 228 [.ty (Ty.st .Config), .ty (Ty.i .i64)] (.many [(Ty.i .i64), (Ty.sl (Ty.i .i64))]) fun a => F_closure_eliminate a.1 a.2.1, fnS (K := K) sa_closure_eliminate 34 [.tmp 4, .tmp 5] [k_nodeset_Valid, k_configuration_Declared, k_closure_unhappy] (fk Tryz.f228 [] Tryz.func228)⟩

/-! ### trustquorum/closure.Greatest -/
noncomputable def sa_closure_Greatest : SA U := annA (scOf Tryz.prog 14 [] Tryz.f189) .e
noncomputable def F_closure_Greatest (a0 : TConfig) (a1 : Int) : Option Int :=
 Option.bind (F_closure_eliminate a0 a1) fun r1 =>
 some r1.1
noncomputable def k_closure_Greatest : KS U Tryz.prog := ⟨.fn 189 [.ty (Ty.st .Config), .ty (Ty.i .i64)] (.one (Ty.i .i64)) fun a => F_closure_Greatest a.1 a.2.1, fnS (K := K) sa_closure_Greatest 14 [.tmp 4] [k_closure_eliminate] (fk Tryz.f189 [] Tryz.func189)⟩

/-! ### trustquorum/federated.Accepts -/
noncomputable def sa_federated_Accepts : SA U := annA (scOf Tryz.prog 30 [] Tryz.f186) .e
noncomputable def F_federated_Accepts (a0 : TConfig) (a1 : Int) (a2 : Int) (a3 : Int) : Option Bool :=
 Option.bind (F_nodeset_Valid a2) fun r1 =>
 Option.bind (bif (!r1) then some true
 else
 Option.bind (F_nodeset_Valid a3) fun r2 =>
 some (!r2)) fun b3 =>
 bif b3 then
 some false
 else
 Option.bind (F_blocking_Blocks a0 a1 a3) fun r4 =>
 Option.bind (bif r4 then some true
 else
 Option.bind (F_closure_Greatest a0 (orI .i64 a2 a3)) fun r5 =>
 Option.bind (F_nodeset_Has r5 a1) fun r6 =>
 some r6) fun b7 =>
 some b7
noncomputable def k_federated_Accepts : KS U Tryz.prog := ⟨.fn 186 [.ty (Ty.st .Config), .ty (Ty.i .i64), .ty (Ty.i .i64), .ty (Ty.i .i64)] (.one Ty.bool) fun a => F_federated_Accepts a.1 a.2.1 a.2.2.1 a.2.2.2.1, fnS (K := K) sa_federated_Accepts 30 [.tmp 8] [k_nodeset_Valid, k_blocking_Blocks, k_closure_Greatest, k_nodeset_Has] (fk Tryz.f186 [] Tryz.func186)⟩

/-! ### (trustquorum/prepare.Seen).Accepts -/
noncomputable def sa_prepare_Seen_Accepts_c157_c187 : SA U := annA (scOf Tryz.prog 20 [] Tryz.f156) .e
noncomputable def F_prepare_Seen_Accepts_c157_c187 (a0 : TSeen) (a1 : ByteArray) (a2 : Int) (a3 : Int) (a4 : ByteArray) (a5 : Int) (a6 : Int) : Option Bool :=
 Option.bind (F_prepare_Seen_Who_c185_c157_c187 a0 a1 a2 a3 a4 a5 a6) fun r1 =>
 Option.bind (F_prepare_Seen_Who_c187 a0 a4 a5 a6) fun r2 =>
 Option.bind (F_federated_Accepts a0.View a0.Node r1 r2) fun r3 =>
 some r3
noncomputable def k_prepare_Seen_Accepts_c157_c187 : KS U Tryz.prog := ⟨.fn 156 [.ty (Ty.st .Seen), .clo 157 [.ref (.ty Ty.str), .ref (.ty (Ty.i .i64)), .ref (.ty (Ty.i .i64))], .clo 187 [.ref (.ty Ty.str), .ref (.ty (Ty.i .i64)), .ref (.ty (Ty.i .i64))]] (.one Ty.bool) fun a => F_prepare_Seen_Accepts_c157_c187 a.1 a.2.1.1 a.2.1.2.1 a.2.1.2.2.1 a.2.2.1.1 a.2.2.1.2.1 a.2.2.1.2.2.1, fnS (K := K) sa_prepare_Seen_Accepts_c157_c187 20 [.tmp 6] [k_prepare_Seen_Who_c185_c157_c187, k_prepare_Seen_Who_c187, k_federated_Accepts] (fk Tryz.f156 [] Tryz.func156)⟩

/-! ### trustquorum/commit.ready -/
noncomputable def sa_commit_ready : SA U := annA (scOf Tryz.prog 16 [] Tryz.f96) .e
noncomputable def F_commit_ready (a0 : TSeen) (a1 : ByteArray) (a2 : Int) (a3 : Int) : Option Bool :=
 Option.bind (F_commit_accepts a1 a2 a3) fun r1 =>
 Option.bind (F_prepare_Seen_Accepts_c157_c187 a0 a1 a2 a3 r1.1 r1.2.1 r1.2.2.1) fun r2 =>
 some r2
noncomputable def k_commit_ready : KS U Tryz.prog := ⟨.fn 96 [.ty (Ty.st .Seen), .ty Ty.str, .ty (Ty.i .i64), .ty (Ty.i .i64)] (.one Ty.bool) fun a => F_commit_ready a.1 a.2.1 a.2.2.1 a.2.2.2.1, fnS (K := K) sa_commit_ready 16 [.tmp 8] [k_commit_accepts, k_prepare_Seen_Accepts_c157_c187] (fk Tryz.f96 [] Tryz.func96)⟩

/-! ### trustquorum/commit.Accepts -/
noncomputable def sa_commit_Accepts : SA U := annA (scOf Tryz.prog 21 [] Tryz.f26) .e
noncomputable def F_commit_Accepts (a0 : Int) (a1 : TTrust) (a2 : (List TEnvelope)) (a3 : ByteArray) (a4 : Int) (a5 : Int) : Option Bool :=
 Option.bind (F_prepare_Look a0 (TTrust.mk a1.Threshold a1.Nodes a1.Inner) a2) fun r1 =>
 Option.bind (F_commit_ready r1 a3 a4 a5) fun r2 =>
 some r2
noncomputable def k_commit_Accepts : KS U Tryz.prog := ⟨.fn 26 [.ty (Ty.i .i64), .ty (Ty.st .Trust), .ty (Ty.sl (Ty.st .Envelope)), .ty Ty.str, .ty (Ty.i .i64), .ty (Ty.i .i64)] (.one Ty.bool) fun a => F_commit_Accepts a.1 a.2.1 a.2.2.1 a.2.2.2.1 a.2.2.2.2.1 a.2.2.2.2.2.1, fnS (K := K) sa_commit_Accepts 21 [.tmp 12] [k_prepare_Look, k_commit_ready] (fk Tryz.f26 [] Tryz.func26)⟩

/-! ### trustquorum/federated.Confirms -/
noncomputable def sa_federated_Confirms : SA U := annA (scOf Tryz.prog 12 [] Tryz.f162) .e
noncomputable def F_federated_Confirms (a0 : TConfig) (a1 : Int) (a2 : Int) : Option Bool :=
 Option.bind (F_closure_Greatest a0 a2) fun r1 =>
 Option.bind (F_nodeset_Has r1 a1) fun r2 =>
 some r2
noncomputable def k_federated_Confirms : KS U Tryz.prog := ⟨.fn 162 [.ty (Ty.st .Config), .ty (Ty.i .i64), .ty (Ty.i .i64)] (.one Ty.bool) fun a => F_federated_Confirms a.1 a.2.1 a.2.2.1, fnS (K := K) sa_federated_Confirms 12 [.tmp 6] [k_closure_Greatest, k_nodeset_Has] (fk Tryz.f162 [] Tryz.func162)⟩

/-! ### (trustquorum/prepare.Seen).Confirms -/
noncomputable def sa_prepare_Seen_Confirms_c187 : SA U := annA (scOf Tryz.prog 13 [] Tryz.f108) .e
noncomputable def F_prepare_Seen_Confirms_c187 (a0 : TSeen) (a1 : ByteArray) (a2 : Int) (a3 : Int) : Option Bool :=
 Option.bind (F_prepare_Seen_Who_c187 a0 a1 a2 a3) fun r1 =>
 Option.bind (F_federated_Confirms a0.View a0.Node r1) fun r2 =>
 some r2
noncomputable def k_prepare_Seen_Confirms_c187 : KS U Tryz.prog := ⟨.fn 108 [.ty (Ty.st .Seen), .clo 187 [.ref (.ty Ty.str), .ref (.ty (Ty.i .i64)), .ref (.ty (Ty.i .i64))]] (.one Ty.bool) fun a => F_prepare_Seen_Confirms_c187 a.1 a.2.1.1 a.2.1.2.1 a.2.1.2.2.1, fnS (K := K) sa_prepare_Seen_Confirms_c187 13 [.tmp 4] [k_prepare_Seen_Who_c187, k_federated_Confirms] (fk Tryz.f108 [] Tryz.func108)⟩

/-! ### trustquorum/commit.sure -/
noncomputable def sa_commit_sure : SA U := annA (scOf Tryz.prog 15 [] Tryz.f98) .e
noncomputable def F_commit_sure (a0 : TSeen) (a1 : ByteArray) (a2 : Int) (a3 : Int) : Option Bool :=
 Option.bind (F_commit_accepts a1 a2 a3) fun r1 =>
 Option.bind (F_prepare_Seen_Confirms_c187 a0 r1.1 r1.2.1 r1.2.2.1) fun r2 =>
 some r2
noncomputable def k_commit_sure : KS U Tryz.prog := ⟨.fn 98 [.ty (Ty.st .Seen), .ty Ty.str, .ty (Ty.i .i64), .ty (Ty.i .i64)] (.one Ty.bool) fun a => F_commit_sure a.1 a.2.1 a.2.2.1 a.2.2.2.1, fnS (K := K) sa_commit_sure 15 [.tmp 8] [k_commit_accepts, k_prepare_Seen_Confirms_c187] (fk Tryz.f98 [] Tryz.func98)⟩

/-! ### trustquorum/commit.Confirms -/
noncomputable def sa_commit_Confirms : SA U := annA (scOf Tryz.prog 21 [] Tryz.f27) .e
noncomputable def F_commit_Confirms (a0 : Int) (a1 : TTrust) (a2 : (List TEnvelope)) (a3 : ByteArray) (a4 : Int) (a5 : Int) : Option Bool :=
 Option.bind (F_prepare_Look a0 (TTrust.mk a1.Threshold a1.Nodes a1.Inner) a2) fun r1 =>
 Option.bind (F_commit_sure r1 a3 a4 a5) fun r2 =>
 some r2
noncomputable def k_commit_Confirms : KS U Tryz.prog := ⟨.fn 27 [.ty (Ty.i .i64), .ty (Ty.st .Trust), .ty (Ty.sl (Ty.st .Envelope)), .ty Ty.str, .ty (Ty.i .i64), .ty (Ty.i .i64)] (.one Ty.bool) fun a => F_commit_Confirms a.1 a.2.1 a.2.2.1 a.2.2.2.1 a.2.2.2.2.1 a.2.2.2.2.2.1, fnS (K := K) sa_commit_Confirms 21 [.tmp 12] [k_prepare_Look, k_commit_sure] (fk Tryz.f27 [] Tryz.func27)⟩

/-! ### trustquorum/trustquorumref24.AcceptsCommit -/
noncomputable def sa_ref24_AcceptsCommit : SA U := annA (scOf Tryz.prog 48 [] Tryz.f28) .e
noncomputable def F_ref24_AcceptsCommit (a0 : TEnvelope) (a1 : ByteArray) (a2 : Int) (a3 : Int) : Option Bool :=
 Option.bind (F_ref24_Valid (TEnvelope.mk a0.Node a0.Slot a0.Seq (TTrust.mk a0.Trust.Threshold a0.Trust.Nodes a0.Trust.Inner) a0.Kind a0.Ballot a0.Prepared a0.Prime a0.Low a0.High)) fun r1 =>
 Option.bind (bif (!r1) then some true
 else
 some (decide (a2 < (1 : Int)))) fun b2 =>
 Option.bind (bif b2 then some true
 else
 some (decide (a3 < a2))) fun b3 =>
 Option.bind (bif b3 then some true
 else
 some (decide (a0.Kind = (1 : Int)))) fun b4 =>
 Option.bind (bif b4 then some true
 else
 some (!decide (a0.Ballot.Value = a1))) fun b5 =>
 Option.bind (bif b5 then some true
 else
 some (decide (a2 < a0.Low))) fun b6 =>
 bif b6 then
 some false
 else
 Option.bind (bif (decide (a0.Kind = (3 : Int))) then some true
 else
 some (decide (a3 ≤ a0.High))) fun b7 =>
 some b7
noncomputable def k_ref24_AcceptsCommit : KS U Tryz.prog := ⟨.fn 28 [.ty (Ty.st .Envelope), .ty Ty.str, .ty (Ty.i .i64), .ty (Ty.i .i64)] (.one Ty.bool) fun a => F_ref24_AcceptsCommit a.1 a.2.1 a.2.2.1 a.2.2.2.1, fnS (K := K) sa_ref24_AcceptsCommit 48 [.tmp 8] [k_ref24_Valid] (fk Tryz.f28 [] Tryz.func28)⟩

/-! ### trustquorum/trustquorumlaw26.commits -/
noncomputable def sa_law26_commits : SA U := annA (scOf Tryz.prog 21 [] Tryz.f56) (.r (.r (.l (.r (.l (.ps (.own 1 38 15 (Ty.st .Envelope)) (.j ⟨[.val 2 (Ty.i .i64), .own 1 3 1 38 15 (Ty.st .Envelope)], []⟩ (.l (.r (.l (.l (.r (.j ⟨[.box 11 1 (Ty.st .Envelope) []], [1, 2, 3]⟩ .e)))))))))))))
noncomputable def F_law26_commits  : Option (List TEnvelope) :=
 loopO (fun (v1 : Int × (List TEnvelope) × Unit) =>
 bif (decide (v1.1 < (3 : Int))) then
 Option.bind (F_play_Flat (3 : Int) (3 : Int)) fun r2 =>
 letJ (fun (v3 : TEnvelope × Unit) =>
 bif lenOk 176 (List.length v1.2.1 + List.length [(TEnvelope.mk v3.1.Node v3.1.Slot v3.1.Seq (TTrust.mk v3.1.Trust.Threshold v3.1.Trust.Nodes v3.1.Trust.Inner) v3.1.Kind v3.1.Ballot v3.1.Prepared v3.1.Prime v3.1.Low v3.1.High)]) then
 some (Sum.inl ((addI .i64 v1.1 (1 : Int)), (v1.2.1 ++ [(TEnvelope.mk v3.1.Node v3.1.Slot v3.1.Seq (TTrust.mk v3.1.Trust.Threshold v3.1.Trust.Nodes v3.1.Trust.Inner) v3.1.Kind v3.1.Ballot v3.1.Prepared v3.1.Prime v3.1.Low v3.1.High)]), ()))
 else none) fun j4 =>
 bif (decide (v1.1 = (1 : Int))) then
 j4 ((TEnvelope.mk v1.1 (1 : Int) (1 : Int) (TTrust.mk r2.Threshold r2.Nodes r2.Inner) (2 : Int) (TBallot.mk (5 : Int) (ByteArray.mk #[97])) (TBallot.mk (5 : Int) (ByteArray.mk #[97])) (TBallot.mk (0 : Int) (ByteArray.mk #[])) (3 : Int) (5 : Int)), ())
 else
 j4 ((TEnvelope.mk v1.1 (1 : Int) (1 : Int) (TTrust.mk r2.Threshold r2.Nodes r2.Inner) (2 : Int) (TBallot.mk (5 : Int) (ByteArray.mk #[97])) (TBallot.mk (5 : Int) (ByteArray.mk #[97])) (TBallot.mk (0 : Int) (ByteArray.mk #[])) (2 : Int) (5 : Int)), ())
 else
 Option.map Sum.inr (some v1.2.1)) ((0 : Int), ([] : List TEnvelope), ())
noncomputable def k_law26_commits : KS U Tryz.prog := ⟨.fn 56 [] (.one (Ty.sl (Ty.st .Envelope))) fun a => F_law26_commits , fnS (K := K) sa_law26_commits 21 [.tmp 0] [k_play_Flat] (fk Tryz.f56 [] Tryz.func56)⟩

/-! ### slices.Backward[[]int,int] -/
noncomputable def sa_slices_Backward_int_int : SA U := annA (scOf Tryz.prog 4 [] Tryz.f104) .e
noncomputable def F_slices_Backward_int_int (a0 : (List Int)) : Option ((List Int) × Unit) :=
 some (a0, ())
noncomputable def k_slices_Backward_int_int : KS U Tryz.prog := ⟨.fn 104 [.ty (Ty.sl (Ty.i .i64))] (.fn (.clo 160 [.ref (.ty (Ty.sl (Ty.i .i64)))])) fun a => F_slices_Backward_int_int a.1, fnS (K := K) sa_slices_Backward_int_int 4 [.tmp 2] [] (fk Tryz.f104 [] Tryz.func104)⟩

/-! ### an iterator of slices.Backward -/
def k_bk_160 : KS U Tryz.prog := ⟨.bk 160 1 none, (⟨Tryz.f160, [], Tryz.func160, rfl, by kernel_rfl, by kernel_rfl, by kernel_rfl⟩ : FnOk Tryz.prog 160 19 (backSC 1 none) [])⟩

/-! ### trustquorum/commit.Final$1 -/
noncomputable def sa_commit_Final_1 : SA U := annA (scOf Tryz.prog 11 [] Tryz.f105) .e
noncomputable def F_commit_Final_1 (a0 : Int) (a1 : TSeen) (a2 : ByteArray) (a3 : Int) : Option Bool :=
 Option.bind (F_commit_sure a1 a2 a0 a3) fun r1 =>
 some r1
noncomputable def k_commit_Final_1 : KS U Tryz.prog := ⟨.fn 105 [.ty (Ty.i .i64), .ref (.ty (Ty.st .Seen)), .ref (.ty Ty.str), .ref (.ty (Ty.i .i64))] (.one Ty.bool) fun a => F_commit_Final_1 a.1 a.2.1 a.2.2.1 a.2.2.2.1, fnS (K := K) sa_commit_Final_1 11 [.tmp 5] [k_commit_sure] (fk Tryz.f105 [] Tryz.func105)⟩

/-! ### trustquorum/commit.downward -/
noncomputable def sa_commit_downward_c105 : SA U := annA (scOf Tryz.prog 22 [] Tryz.f102) (.r (.j ⟨[.box 0 1 (Ty.i .i64) []], [4]⟩ (.l (.r (.l (.k ⟨[.box 0 1 (Ty.i .i64) []], [4, 5, 10]⟩ 160 1 none (Ty.i .i64) .e))))))
noncomputable def F_commit_downward_c105 (a0 : (List Int)) (a1 : Int) (a2 : TSeen) (a3 : ByteArray) (a4 : Int) : Option Int :=
 letJ (fun (v1 : Int × Unit) =>
 some v1.1) fun j2 =>
 Option.bind (F_slices_Backward_int_int a0) fun r3 =>
 backO (fun (m5 : Nat) (e6 : Int) (v4 : Int × Unit) =>
 bif (decide (v4.1 ≤ e6)) then
 some (Sum.inl (v4.1, ()))
 else
 Option.bind (F_commit_Final_1 e6 a2 a3 a4) fun r7 =>
 bif (!r7) then
 Option.map Sum.inr (j2 (v4.1, ()))
 else
 some (Sum.inl (e6, ()))) (fun (v8 : Int × Unit) =>
 j2 (v8.1, ())) (List.reverse r3.1) (a1, ())
noncomputable def k_commit_downward_c105 : KS U Tryz.prog := ⟨.fn 102 [.ty (Ty.sl (Ty.i .i64)), .ty (Ty.i .i64), .clo 105 [.ref (.ty (Ty.st .Seen)), .ref (.ty Ty.str), .ref (.ty (Ty.i .i64))]] (.one (Ty.i .i64)) fun a => F_commit_downward_c105 a.1 a.2.1 a.2.2.1.1 a.2.2.1.2.1 a.2.2.1.2.2.1, fnS (K := K) sa_commit_downward_c105 22 [.tmp 6] [k_slices_Backward_int_int, k_bk_160, k_commit_Final_1] (fk Tryz.f102 [] Tryz.func102)⟩

/-! ### trustquorum/commit.Final -/
noncomputable def sa_commit_Final : SA U := annA (scOf Tryz.prog 36 [] Tryz.f32) (.r (.r (.r (.l (.r (.l (.k ⟨[.box 2 1 (Ty.i .i64) [], .box 3 1 (Ty.i .i64) [], .box 4 1 Ty.bool []], [7, 8, 9, 10, 11, 12, 23]⟩ 160 1 none (Ty.i .i64) .e)))))))
noncomputable def F_commit_Final (a0 : Int) (a1 : TTrust) (a2 : (List TEnvelope)) (a3 : ByteArray) : Option (Int × Int × Bool × Unit) :=
 Option.bind (F_prepare_Look a0 (TTrust.mk a1.Threshold a1.Nodes a1.Inner) a2) fun r1 =>
 Option.bind (F_envelopes_Bounds a2 a3) fun r2 =>
 Option.bind (F_slices_Backward_int_int r2) fun r3 =>
 backO (fun (m5 : Nat) (e6 : Int) (v4 : Int × Int × Bool × Unit) =>
 Option.bind (F_commit_sure r1 a3 e6 e6) fun r7 =>
 bif r7 then
 Option.bind (F_commit_downward_c105 r2 e6 r1 a3 e6) fun r8 =>
 Option.map Sum.inr (some (r8, e6, true, ()))
 else
 some (Sum.inl (v4.1, v4.2.1, v4.2.2.1, ()))) (fun (v9 : Int × Int × Bool × Unit) =>
 some ((0 : Int), (0 : Int), false, ())) (List.reverse r3.1) ((0 : Int), (0 : Int), false, ())
noncomputable def k_commit_Final : KS U Tryz.prog := ⟨.fn 32 [.ty (Ty.i .i64), .ty (Ty.st .Trust), .ty (Ty.sl (Ty.st .Envelope)), .ty Ty.str] (.many [(Ty.i .i64), (Ty.i .i64), Ty.bool]) fun a => F_commit_Final a.1 a.2.1 a.2.2.1 a.2.2.2.1, fnS (K := K) sa_commit_Final 36 [.cell 8 none, .cell 9 none, .cell 10 none] [k_prepare_Look, k_envelopes_Bounds, k_slices_Backward_int_int, k_bk_160, k_commit_sure, k_commit_downward_c105] (fk Tryz.f32 [] Tryz.func32)⟩

/-! ### trustquorum/trustquorumlaw26.sane -/
noncomputable def sa_law26_sane : SA U := annA (scOf Tryz.prog 25 [] Tryz.f29) .e
noncomputable def F_law26_sane  : Option Bool :=
 Option.bind (F_play_Flat (3 : Int) (3 : Int)) fun r1 =>
 Option.bind (F_law26_commits) fun r2 =>
 Option.bind (F_commit_Final (0 : Int) (TTrust.mk r1.Threshold r1.Nodes r1.Inner) r2 (ByteArray.mk #[97])) fun r3 =>
 Option.bind (bif r3.2.2.1 then
 some (decide (r3.1 = (3 : Int)))
 else some false) fun b4 =>
 Option.bind (bif b4 then
 some (decide (r3.2.1 = (5 : Int)))
 else some false) fun b5 =>
 Option.bind (bif b5 then
 Option.bind (F_play_Flat (3 : Int) (3 : Int)) fun r6 =>
 Option.bind (F_law26_commits) fun r7 =>
 Option.bind (F_commit_Accepts (0 : Int) (TTrust.mk r6.Threshold r6.Nodes r6.Inner) r7 (ByteArray.mk #[97]) (3 : Int) (5 : Int)) fun r8 =>
 some r8
 else some false) fun b9 =>
 some b9
noncomputable def k_law26_sane : KS U Tryz.prog := ⟨.fn 29 [] (.one Ty.bool) fun a => F_law26_sane , fnS (K := K) sa_law26_sane 25 [.tmp 0] [k_play_Flat, k_law26_commits, k_commit_Final, k_commit_Accepts] (fk Tryz.f29 [] Tryz.func29)⟩

/-! ### trustquorum/commit.First$1 -/
noncomputable def sa_commit_First_1 : SA U := annA (scOf Tryz.prog 19 [] Tryz.f99) .e
noncomputable def F_commit_First_1 (a0 : ByteArray) (a1 : Int) (a2 : TBallot) (a3 : TBallot) : Option Bool :=
 Option.bind (F_ballots_Aborts a2 (TBallot.mk a1 a0)) fun r1 =>
 Option.bind (bif r1 then some true
 else
 Option.bind (F_ballots_Aborts a3 (TBallot.mk a1 a0)) fun r2 =>
 some r2) fun b3 =>
 some b3
noncomputable def k_commit_First_1 : KS U Tryz.prog := ⟨.fn 99 [.ty Ty.str, .ty (Ty.i .i64), .ref (.ty (Ty.st .Ballot)), .ref (.ty (Ty.st .Ballot))] (.one Ty.bool) fun a => F_commit_First_1 a.1 a.2.1 a.2.2.1 a.2.2.2.1, fnS (K := K) sa_commit_First_1 19 [.tmp 6] [k_ballots_Aborts] (fk Tryz.f99 [] Tryz.func99)⟩

/-! ### trustquorum/commit.First$2 -/
noncomputable def sa_commit_First_2_c99 : SA U := annA (scOf Tryz.prog 21 [] Tryz.f103) .e
noncomputable def F_commit_First_2_c99 (a0 : Int) (a1 : TBallot) (a2 : TBallot) (a3 : TBallot) (a4 : TSeen) : Option Bool :=
 Option.bind (F_commit_First_1 a3.Value a0 a1 a2) fun r1 =>
 Option.bind (bif (!r1) then
 Option.bind (F_commit_ready a4 a3.Value a0 a3.Counter) fun r2 =>
 some r2
 else some false) fun b3 =>
 some b3
noncomputable def k_commit_First_2_c99 : KS U Tryz.prog := ⟨.fn 103 [.ty (Ty.i .i64), .ref (.clo 99 [.ref (.ty (Ty.st .Ballot)), .ref (.ty (Ty.st .Ballot))]), .ref (.ty (Ty.st .Ballot)), .ref (.ty (Ty.st .Seen))] (.one Ty.bool) fun a => F_commit_First_2_c99 a.1 a.2.1.1 a.2.1.2.1 a.2.2.1 a.2.2.2.1, fnS (K := K) sa_commit_First_2_c99 21 [.tmp 5] [k_commit_First_1, k_commit_ready] (fk Tryz.f103 [] Tryz.func103)⟩

/-! ### trustquorum/commit.downward -/
noncomputable def sa_commit_downward_c103_c99 : SA U := annA (scOf Tryz.prog 22 [] Tryz.f102) (.r (.j ⟨[.box 0 1 (Ty.i .i64) []], [4]⟩ (.l (.r (.l (.k ⟨[.box 0 1 (Ty.i .i64) []], [4, 5, 10]⟩ 160 1 none (Ty.i .i64) .e))))))
noncomputable def F_commit_downward_c103_c99 (a0 : (List Int)) (a1 : Int) (a2 : TBallot) (a3 : TBallot) (a4 : TBallot) (a5 : TSeen) : Option Int :=
 letJ (fun (v1 : Int × Unit) =>
 some v1.1) fun j2 =>
 Option.bind (F_slices_Backward_int_int a0) fun r3 =>
 backO (fun (m5 : Nat) (e6 : Int) (v4 : Int × Unit) =>
 bif (decide (v4.1 ≤ e6)) then
 some (Sum.inl (v4.1, ()))
 else
 Option.bind (F_commit_First_2_c99 e6 a2 a3 a4 a5) fun r7 =>
 bif (!r7) then
 Option.map Sum.inr (j2 (v4.1, ()))
 else
 some (Sum.inl (e6, ()))) (fun (v8 : Int × Unit) =>
 j2 (v8.1, ())) (List.reverse r3.1) (a1, ())
noncomputable def k_commit_downward_c103_c99 : KS U Tryz.prog := ⟨.fn 102 [.ty (Ty.sl (Ty.i .i64)), .ty (Ty.i .i64), .clo 103 [.ref (.clo 99 [.ref (.ty (Ty.st .Ballot)), .ref (.ty (Ty.st .Ballot))]), .ref (.ty (Ty.st .Ballot)), .ref (.ty (Ty.st .Seen))]] (.one (Ty.i .i64)) fun a => F_commit_downward_c103_c99 a.1 a.2.1 a.2.2.1.1.1 a.2.2.1.1.2.1 a.2.2.1.2.1 a.2.2.1.2.2.1, fnS (K := K) sa_commit_downward_c103_c99 22 [.tmp 6] [k_slices_Backward_int_int, k_bk_160, k_commit_First_2_c99] (fk Tryz.f102 [] Tryz.func102)⟩

/-! ### trustquorum/commit.First -/
noncomputable def sa_commit_First : SA U := annA (scOf Tryz.prog 80 [] Tryz.f31) (.r (.r (.r (.r (.l (.r (.l (.j ⟨[.val 13 Ty.bool, .val 30 (Ty.i .i64), .box 16 1 (Ty.st .Ballot) []], [2, 14, 15, 16, 28, 29]⟩ (.l (.r (.r (.l (.l (.r (.r (.l (.j ⟨[.val 13 Ty.bool, .val 38 (Ty.i .i64), .box 16 1 (Ty.st .Ballot) []], [2, 14, 15, 16, 18, 28, 29, 30, 36, 37]⟩ (.l (.r (.r (.j ⟨[.val 13 Ty.bool, .box 16 1 (Ty.st .Ballot) []], [2, 14, 15, 16, 18, 28, 29, 30, 36, 37, 38]⟩ .e)))))))))))))))))))))
noncomputable def F_commit_First (a0 : Int) (a1 : TTrust) (a2 : (List TEnvelope)) (a3 : TBallot) (a4 : TBallot) : Option (ByteArray × Int × Int × Bool × Unit) :=
 Option.bind (F_prepare_Look a0 (TTrust.mk a1.Threshold a1.Nodes a1.Inner) a2) fun r1 =>
 Option.bind (F_envelopes_Values a2) fun r2 =>
 loopO (fun (v3 : Bool × Int × TBallot × Unit) =>
 bif (decide (v3.2.1 < ((List.length r2 : Nat) : Int))) then
 Option.bind (idx r2 v3.2.1) fun x4 =>
 Option.bind (F_envelopes_Bounds a2 x4) fun r5 =>
 loopO (fun (v6 : Bool × Int × TBallot × Unit) =>
 bif (decide (v6.2.1 < ((List.length r5 : Nat) : Int))) then
 letJ (fun (v7 : Bool × TBallot × Unit) =>
 some (Sum.inl (v7.1, (addI .i64 v6.2.1 (1 : Int)), v7.2.1, ()))) fun j8 =>
 Option.bind (idx r5 v6.2.1) fun x9 =>
 Option.bind (F_ballots_Less v6.2.2.1 (TBallot.mk x9 x4)) fun r10 =>
 Option.bind (bif r10 then
 Option.bind (F_commit_First_1 x4 x9 a3 a4) fun r11 =>
 some (!r11)
 else some false) fun b12 =>
 Option.bind (bif b12 then
 Option.bind (F_commit_ready r1 x4 x9 x9) fun r13 =>
 some r13
 else some false) fun b14 =>
 bif b14 then
 j8 (true, (TBallot.mk x9 x4), ())
 else
 j8 (v6.1, v6.2.2.1, ())
 else
 Option.map Sum.inr (some (Sum.inl (v6.1, (addI .i64 v3.2.1 (1 : Int)), v6.2.2.1, ())))) (v3.1, (0 : Int), v3.2.2.1, ())
 else
 Option.map Sum.inr (bif (!v3.1) then
 some ((ByteArray.mk #[]), (0 : Int), (0 : Int), false, ())
 else
 Option.bind (F_envelopes_Bounds a2 v3.2.2.1.Value) fun r15 =>
 Option.bind (F_commit_downward_c103_c99 r15 v3.2.2.1.Counter a3 a4 v3.2.2.1 r1) fun r16 =>
 some (v3.2.2.1.Value, r16, v3.2.2.1.Counter, true, ()))) (false, (0 : Int), (TBallot.mk (0 : Int) (ByteArray.mk #[])), ())
noncomputable def k_commit_First : KS U Tryz.prog := ⟨.fn 31 [.ty (Ty.i .i64), .ty (Ty.st .Trust), .ty (Ty.sl (Ty.st .Envelope)), .ty (Ty.st .Ballot), .ty (Ty.st .Ballot)] (.many [Ty.str, (Ty.i .i64), (Ty.i .i64), Ty.bool]) fun a => F_commit_First a.1 a.2.1 a.2.2.1 a.2.2.2.1 a.2.2.2.2.1, fnS (K := K) sa_commit_First 80 [.tmp 10, .tmp 11, .tmp 12, .tmp 13] [k_prepare_Look, k_envelopes_Values, k_envelopes_Bounds, k_ballots_Less, k_commit_First_1, k_commit_ready, k_commit_downward_c103_c99] (fk Tryz.f31 [] Tryz.func31)⟩

/-! ### trustquorum/trustquorumref25.View -/
noncomputable def sa_ref25_View : SA U := annA (scOf Tryz.prog 53 [] Tryz.f48) (.r (.r (.r (.r (.l (.r (.l (.j ⟨[.val 27 (Ty.i .i64), .box 4 1 (Ty.st .Config) [(0, 2, 1)], .rowb 2 1 126 4 (Ty.st .Member)], [6, 7, 25, 26]⟩ (.l (.r (.r (.j ⟨[.box 4 1 (Ty.st .Config) [(0, 2, 1)], .rowb 2 1 126 4 (Ty.st .Member)], [6, 7, 25, 26, 27]⟩ .e))))))))))))
noncomputable def F_ref25_View (a0 : Int) (a1 : TTrust) (a2 : (List TEnvelope)) : Option TConfig :=
 bif decide ((10 : Int) = (10 : Int)) && decide (0 ≤ (10 : Int)) && lenOk 64 (Int.toNat (10 : Int)) then
 Option.bind (bif (decide (a0 < (0 : Int))) then some true
 else
 some (decide ((9 : Int) < a0))) fun b1 =>
 bif b1 then
 some (TConfig.mk (List.replicate (Int.toNat (10 : Int)) (TMember.mk false (TTrust.mk (0 : Int) ([] : List Int) ([] : List TTrust)))))
 else
 Option.bind (idx (List.replicate (Int.toNat (10 : Int)) (TMember.mk false (TTrust.mk (0 : Int) ([] : List Int) ([] : List TTrust)))) a0) fun x2 =>
 Option.bind ((List.replicate (Int.toNat (10 : Int)) (TMember.mk false (TTrust.mk (0 : Int) ([] : List Int) ([] : List TTrust))))[(Int.toNat a0)]?) fun x3 =>
 loopO (fun (v4 : Int × TConfig × (List TMember) × Unit) =>
 bif (decide (v4.1 < ((List.length a2 : Nat) : Int))) then
 letJ (fun (v5 : TConfig × (List TMember) × Unit) =>
 some (Sum.inl ((addI .i64 v4.1 (1 : Int)), (TConfig.mk ([] : List TMember)), v5.2.1, ()))) fun j6 =>
 Option.bind (idx a2 v4.1) fun x7 =>
 Option.bind (F_ref24_Valid (TEnvelope.mk x7.Node x7.Slot x7.Seq (TTrust.mk x7.Trust.Threshold x7.Trust.Nodes x7.Trust.Inner) x7.Kind x7.Ballot x7.Prepared x7.Prime x7.Low x7.High)) fun r8 =>
 Option.bind (bif r8 then
 Option.bind (idx v4.2.2.1 x7.Node) fun x9 =>
 Option.bind (v4.2.2.1[(Int.toNat x7.Node)]?) fun x10 =>
 Option.bind (v4.2.2.1[(Int.toNat x7.Node)]?) fun x11 =>
 some (!x11.Declared)
 else some false) fun b12 =>
 bif b12 then
 Option.bind (idx v4.2.2.1 x7.Node) fun x13 =>
 Option.bind (v4.2.2.1[(Int.toNat x7.Node)]?) fun x14 =>
 j6 ((TConfig.mk ([] : List TMember)), (v4.2.2.1.set (Int.toNat x7.Node) (TMember.mk true (TTrust.mk x7.Trust.Threshold x7.Trust.Nodes x7.Trust.Inner))), ())
 else
 j6 ((TConfig.mk ([] : List TMember)), v4.2.2.1, ())
 else
 Option.map Sum.inr (some (TConfig.mk v4.2.2.1))) ((0 : Int), (TConfig.mk ([] : List TMember)), ((List.replicate (Int.toNat (10 : Int)) (TMember.mk false (TTrust.mk (0 : Int) ([] : List Int) ([] : List TTrust)))).set (Int.toNat a0) (TMember.mk true (TTrust.mk a1.Threshold a1.Nodes a1.Inner))), ())
 else none
noncomputable def k_ref25_View : KS U Tryz.prog := ⟨.fn 48 [.ty (Ty.i .i64), .ty (Ty.st .Trust), .ty (Ty.sl (Ty.st .Envelope))] (.one (Ty.st .Config)) fun a => F_ref25_View a.1 a.2.1 a.2.2.1, fnS (K := K) sa_ref25_View 53 [.cell 6 (some 1)] [k_ref24_Valid] (fk Tryz.f48 [] Tryz.func48)⟩

/-! ### trustquorum/trustquorumref24.Set -/
noncomputable def sa_ref24_Set : SA U := annA (scOf Tryz.prog 43 [] Tryz.f67) (.r (.r (.l (.r (.l (.j ⟨[.val 5 (Ty.i .i64), .val 10 (Ty.i .i64)], [1, 8, 9]⟩ (.l (.r (.r (.j ⟨[.val 5 (Ty.i .i64)], [1, 8, 9, 10]⟩ .e))))))))))
noncomputable def F_ref24_Set (a0 : (List TEnvelope)) (a1 : (List Bool)) : Option Int :=
 loopO (fun (v1 : Int × Int × Unit) =>
 bif (decide (v1.2.1 < ((List.length a0 : Nat) : Int))) then
 letJ (fun (v2 : Int × Unit) =>
 some (Sum.inl (v2.1, (addI .i64 v1.2.1 (1 : Int)), ()))) fun j3 =>
 Option.bind (idx a0 v1.2.1) fun x4 =>
 Option.bind (bif (decide (v1.2.1 < ((List.length a1 : Nat) : Int))) then
 Option.bind (idx a1 v1.2.1) fun x5 =>
 some x5
 else some false) fun b6 =>
 Option.bind (bif b6 then
 some (decide ((0 : Int) ≤ x4.Node))
 else some false) fun b7 =>
 Option.bind (bif b7 then
 some (decide (x4.Node ≤ (9 : Int)))
 else some false) fun b8 =>
 bif b8 then
 if (convI .u64 x4.Node) < 0 then none else
 j3 ((orI .i64 v1.1 (shlI .i64 (1 : Int) (convI .u64 x4.Node))), ())
 else
 j3 (v1.1, ())
 else
 Option.map Sum.inr (some v1.1)) ((0 : Int), (0 : Int), ())
noncomputable def k_ref24_Set : KS U Tryz.prog := ⟨.fn 67 [.ty (Ty.sl (Ty.st .Envelope)), .ty (Ty.sl Ty.bool)] (.one (Ty.i .i64)) fun a => F_ref24_Set a.1 a.2.1, fnS (K := K) sa_ref24_Set 43 [.tmp 4] [] (fk Tryz.f67 [] Tryz.func67)⟩

/-! ### trustquorum/trustquorumref06.Declared -/
noncomputable def sa_ref06_Declared : SA U := annA (scOf Tryz.prog 26 [] Tryz.f191) (.r (.r (.l (.r (.l (.j ⟨[.val 3 (Ty.i .i64), .val 9 (Ty.i .i64)], [7, 8]⟩ (.l (.r (.r (.j ⟨[.val 3 (Ty.i .i64)], [7, 8, 9]⟩ .e))))))))))
noncomputable def F_ref06_Declared (a0 : TConfig) : Option Int :=
 loopO (fun (v1 : Int × Int × Unit) =>
 bif (decide (v1.2.1 < ((List.length a0.Members : Nat) : Int))) then
 letJ (fun (v2 : Int × Unit) =>
 some (Sum.inl (v2.1, (addI .i64 v1.2.1 (1 : Int)), ()))) fun j3 =>
 Option.bind (idx a0.Members v1.2.1) fun x4 =>
 Option.bind (bif (decide (v1.2.1 < (10 : Int))) then
 some x4.Declared
 else some false) fun b5 =>
 bif b5 then
 if v1.2.1 < 0 then none else
 j3 ((orI .i64 v1.1 (shlI .i64 (1 : Int) v1.2.1)), ())
 else
 j3 (v1.1, ())
 else
 Option.map Sum.inr (some v1.1)) ((0 : Int), (0 : Int), ())
noncomputable def k_ref06_Declared : KS U Tryz.prog := ⟨.fn 191 [.ty (Ty.st .Config)] (.one (Ty.i .i64)) fun a => F_ref06_Declared a.1, fnS (K := K) sa_ref06_Declared 26 [.tmp 2] [] (fk Tryz.f191 [] Tryz.func191)⟩

/-! ### trustquorum/trustquorumref02.Satisfied -/
noncomputable def sa_ref02_Satisfied : SA U := annA (scOf Tryz.prog 43 [] Tryz.f192) (.r (.r (.r (.b (.r (.l (.j ⟨[.val 5 (Ty.i .i64), .val 16 (Ty.i .i64)], [1, 2, 14, 15]⟩ (.l (.r (.r (.j ⟨[.val 5 (Ty.i .i64)], [1, 2, 14, 15, 16]⟩ .e))))))) (.l (.r (.l (.j ⟨[.val 5 (Ty.i .i64), .val 29 (Ty.i .i64)], [1, 2, 27, 28]⟩ (.l (.r (.r (.j ⟨[.val 5 (Ty.i .i64)], [1, 2, 27, 28, 29]⟩ .e))))))))))))
noncomputable def B_ref02_Satisfied (rec : (TTrust × Int × Unit) → Option Bool) (a0 : TTrust) (a1 : Int) : Option Bool :=
 Option.bind (F_ref01_Valid a1) fun r1 =>
 bif (!r1) then
 some false
 else
 loopO (fun (v2 : Int × Int × Unit) =>
 bif (decide (v2.2.1 < ((List.length a0.Nodes : Nat) : Int))) then
 letJ (fun (v3 : Int × Unit) =>
 some (Sum.inl (v3.1, (addI .i64 v2.2.1 (1 : Int)), ()))) fun j4 =>
 Option.bind (idx a0.Nodes v2.2.1) fun x5 =>
 Option.bind (F_ref01_Has a1 x5) fun r6 =>
 bif r6 then
 j4 ((addI .i64 v2.1 (1 : Int)), ())
 else
 j4 (v2.1, ())
 else
 Option.map Sum.inr (loopO (fun (v7 : Int × Int × Unit) =>
 bif (decide (v7.2.1 < ((List.length a0.Inner : Nat) : Int))) then
 letJ (fun (v8 : Int × Unit) =>
 some (Sum.inl (v8.1, (addI .i64 v7.2.1 (1 : Int)), ()))) fun j9 =>
 Option.bind (idx a0.Inner v7.2.1) fun x10 =>
 Option.bind (rec ((TTrust.mk x10.Threshold x10.Nodes x10.Inner), a1, ())) fun r11 =>
 bif r11 then
 j9 ((addI .i64 v7.1 (1 : Int)), ())
 else
 j9 (v7.1, ())
 else
 Option.map Sum.inr (some (decide (a0.Threshold ≤ v7.1)))) (v2.1, (0 : Int), ()))) ((0 : Int), (0 : Int), ())
noncomputable def I_ref02_Satisfied : Nat → (TTrust × Int × Unit) → Option Bool := iterF (fun rec a => B_ref02_Satisfied rec a.1 a.2.1)
noncomputable def F_ref02_Satisfied (a0 : TTrust) (a1 : Int) : Option Bool := I_ref02_Satisfied (SizeOf.sizeOf a0 + SizeOf.sizeOf a1 + 1) (a0, a1, ())
noncomputable def k_ref02_Satisfied : KS U Tryz.prog := ⟨.fn 192 [.ty (Ty.st .Trust), .ty (Ty.i .i64)] (.one Ty.bool) fun a => F_ref02_Satisfied a.1 a.2.1, fnRS (K := K) («as» := [.ty (Ty.st .Trust), .ty (Ty.i .i64)]) (r := .one Ty.bool) (B := fun rec a => B_ref02_Satisfied rec a.1 a.2.1) sa_ref02_Satisfied 43 [.tmp 4] [k_ref01_Valid, k_ref01_Has] (fk Tryz.f192 [] Tryz.func192) (hF := fun a => ⟨_, rfl⟩)⟩

/-! ### trustquorum/trustquorumref11.Blocks -/
noncomputable def sa_ref11_Blocks : SA U := annA (scOf Tryz.prog 30 [] Tryz.f168) .e
noncomputable def F_ref11_Blocks (a0 : TConfig) (a1 : Int) (a2 : Int) : Option Bool :=
 Option.bind (F_ref01_Valid a2) fun r1 =>
 Option.bind (bif (!r1) then some true
 else
 Option.bind (F_ref06_Declared a0) fun r2 =>
 Option.bind (F_ref01_Has r2 a1) fun r3 =>
 some (!r3)) fun b4 =>
 bif b4 then
 some false
 else
 Option.bind (idx a0.Members a1) fun x5 =>
 if a1 < 0 then none else
 Option.bind (F_ref02_Satisfied (TTrust.mk x5.Trust.Threshold x5.Trust.Nodes x5.Trust.Inner) (orI .i64 (subI .i64 (1023 : Int) a2) (shlI .i64 (1 : Int) a1))) fun r6 =>
 some (!r6)
noncomputable def k_ref11_Blocks : KS U Tryz.prog := ⟨.fn 168 [.ty (Ty.st .Config), .ty (Ty.i .i64), .ty (Ty.i .i64)] (.one Ty.bool) fun a => F_ref11_Blocks a.1 a.2.1 a.2.2.1, fnS (K := K) sa_ref11_Blocks 30 [.tmp 6] [k_ref01_Valid, k_ref06_Declared, k_ref01_Has, k_ref02_Satisfied] (fk Tryz.f168 [] Tryz.func168)⟩

/-! ### trustquorum/trustquorumref01.Nodes -/
noncomputable def sa_ref01_Nodes : SA U := annA (scOf Tryz.prog 17 [] Tryz.f229) (.r (.r (.l (.r (.l (.ps (.own 3 3 1 (Ty.i .i64)) (.j ⟨[.val 4 (Ty.i .i64), .own 3 3 1 3 1 (Ty.i .i64)], [0]⟩ (.l (.r (.j ⟨[.own 3 3 1 3 1 (Ty.i .i64)], [0, 4]⟩ .e))))))))))
noncomputable def F_ref01_Nodes (a0 : Int) : Option (List Int) :=
 loopO (fun (v1 : Int × (List Int) × Unit) =>
 bif (decide (v1.1 < (10 : Int))) then
 letJ (fun (v2 : (List Int) × Unit) =>
 some (Sum.inl ((addI .i64 v1.1 (1 : Int)), v2.1, ()))) fun j3 =>
 Option.bind (F_ref01_Has a0 v1.1) fun r4 =>
 bif r4 then
 bif lenOk 8 (List.length v1.2.1 + List.length [v1.1]) then
 j3 ((v1.2.1 ++ [v1.1]), ())
 else none
 else
 j3 (v1.2.1, ())
 else
 Option.map Sum.inr (some v1.2.1)) ((0 : Int), ([] : List Int), ())
noncomputable def k_ref01_Nodes : KS U Tryz.prog := ⟨.fn 229 [.ty (Ty.i .i64)] (.one (Ty.sl (Ty.i .i64))) fun a => F_ref01_Nodes a.1, fnS (K := K) sa_ref01_Nodes 17 [.tmp 2] [k_ref01_Has] (fk Tryz.f229 [] Tryz.func229)⟩

/-! ### trustquorum/trustquorumref09.Elimination -/
noncomputable def sa_ref09_Elimination : SA U := annA (scOf Tryz.prog 44 [] Tryz.f193) (.r (.r (.r (.r (.l (.r (.l (.ps (.own 6 3 1 (Ty.i .i64)) (.j ⟨[.val 5 (Ty.i .i64), .val 7 Ty.bool, .own 6 12 1 3 1 (Ty.i .i64)], [2]⟩ (.l (.r (.l (.r (.r (.l (.j ⟨[.val 5 (Ty.i .i64), .val 7 Ty.bool, .val 21 (Ty.i .i64), .own 6 12 1 3 1 (Ty.i .i64)], [2, 19, 20]⟩ .e))))))))))))))))
noncomputable def F_ref09_Elimination (a0 : TConfig) (a1 : Int) : Option (List Int) :=
 Option.bind (F_ref01_Valid a1) fun r1 =>
 bif (!r1) then
 some ([] : List Int)
 else
 Option.bind (F_ref06_Declared a0) fun r2 =>
 loopO (fun (v3 : Int × Bool × (List Int) × Unit) =>
 bif v3.2.1 then
 Option.bind (F_ref01_Nodes v3.1) fun r4 =>
 loopO (fun (v5 : Int × Bool × Int × (List Int) × Unit) =>
 bif (decide (v5.2.2.1 < ((List.length r4 : Nat) : Int))) then
 Option.bind (idx r4 v5.2.2.1) fun x6 =>
 Option.bind (idx a0.Members x6) fun x7 =>
 Option.bind (F_ref02_Satisfied (TTrust.mk x7.Trust.Threshold x7.Trust.Nodes x7.Trust.Inner) v5.1) fun r8 =>
 bif (!r8) then
 if x6 < 0 then none else
 bif lenOk 8 (List.length v5.2.2.2.1 + List.length [x6]) then
 Option.map Sum.inr (some (Sum.inl ((subI .i64 v5.1 (shlI .i64 (1 : Int) x6)), true, (v5.2.2.2.1 ++ [x6]), ())))
 else none
 else
 some (Sum.inl (v5.1, v5.2.1, (addI .i64 v5.2.2.1 (1 : Int)), v5.2.2.2.1, ()))
 else
 Option.map Sum.inr (some (Sum.inl (v5.1, v5.2.1, v5.2.2.2.1, ())))) (v3.1, false, (0 : Int), v3.2.2.1, ())
 else
 Option.map Sum.inr (some v3.2.2.1)) ((andI .i64 a1 r2), true, ([] : List Int), ())
noncomputable def k_ref09_Elimination : KS U Tryz.prog := ⟨.fn 193 [.ty (Ty.st .Config), .ty (Ty.i .i64)] (.one (Ty.sl (Ty.i .i64))) fun a => F_ref09_Elimination a.1 a.2.1, fnS (K := K) sa_ref09_Elimination 44 [.tmp 4] [k_ref01_Valid, k_ref06_Declared, k_ref01_Nodes, k_ref02_Satisfied] (fk Tryz.f193 [] Tryz.func193)⟩

/-! ### trustquorum/trustquorumref09.Greatest -/
noncomputable def sa_ref09_Greatest : SA U := annA (scOf Tryz.prog 29 [] Tryz.f170) (.r (.r (.r (.l (.r (.l (.j ⟨[.val 5 (Ty.i .i64), .val 19 (Ty.i .i64)], [17, 18]⟩ .e)))))))
noncomputable def F_ref09_Greatest (a0 : TConfig) (a1 : Int) : Option Int :=
 Option.bind (F_ref01_Valid a1) fun r1 =>
 bif (!r1) then
 some (0 : Int)
 else
 Option.bind (F_ref06_Declared a0) fun r2 =>
 Option.bind (F_ref09_Elimination a0 a1) fun r3 =>
 loopO (fun (v4 : Int × Int × Unit) =>
 bif (decide (v4.2.1 < ((List.length r3 : Nat) : Int))) then
 Option.bind (idx r3 v4.2.1) fun x5 =>
 if x5 < 0 then none else
 some (Sum.inl ((subI .i64 v4.1 (shlI .i64 (1 : Int) x5)), (addI .i64 v4.2.1 (1 : Int)), ()))
 else
 Option.map Sum.inr (some v4.1)) ((andI .i64 a1 r2), (0 : Int), ())
noncomputable def k_ref09_Greatest : KS U Tryz.prog := ⟨.fn 170 [.ty (Ty.st .Config), .ty (Ty.i .i64)] (.one (Ty.i .i64)) fun a => F_ref09_Greatest a.1 a.2.1, fnS (K := K) sa_ref09_Greatest 29 [.tmp 4] [k_ref01_Valid, k_ref06_Declared, k_ref09_Elimination] (fk Tryz.f170 [] Tryz.func170)⟩

/-! ### trustquorum/trustquorumref18.Accepts -/
noncomputable def sa_ref18_Accepts : SA U := annA (scOf Tryz.prog 30 [] Tryz.f118) .e
noncomputable def F_ref18_Accepts (a0 : TConfig) (a1 : Int) (a2 : Int) (a3 : Int) : Option Bool :=
 Option.bind (F_ref01_Valid a2) fun r1 =>
 Option.bind (bif (!r1) then some true
 else
 Option.bind (F_ref01_Valid a3) fun r2 =>
 some (!r2)) fun b3 =>
 bif b3 then
 some false
 else
 Option.bind (F_ref11_Blocks a0 a1 a3) fun r4 =>
 Option.bind (bif r4 then some true
 else
 Option.bind (F_ref09_Greatest a0 (orI .i64 a2 a3)) fun r5 =>
 Option.bind (F_ref01_Has r5 a1) fun r6 =>
 some r6) fun b7 =>
 some b7
noncomputable def k_ref18_Accepts : KS U Tryz.prog := ⟨.fn 118 [.ty (Ty.st .Config), .ty (Ty.i .i64), .ty (Ty.i .i64), .ty (Ty.i .i64)] (.one Ty.bool) fun a => F_ref18_Accepts a.1 a.2.1 a.2.2.1 a.2.2.2.1, fnS (K := K) sa_ref18_Accepts 30 [.tmp 8] [k_ref01_Valid, k_ref11_Blocks, k_ref09_Greatest, k_ref01_Has] (fk Tryz.f118 [] Tryz.func118)⟩

/-! ### trustquorum/trustquorumref18.Confirms -/
noncomputable def sa_ref18_Confirms : SA U := annA (scOf Tryz.prog 12 [] Tryz.f119) .e
noncomputable def F_ref18_Confirms (a0 : TConfig) (a1 : Int) (a2 : Int) : Option Bool :=
 Option.bind (F_ref09_Greatest a0 a2) fun r1 =>
 Option.bind (F_ref01_Has r1 a1) fun r2 =>
 some r2
noncomputable def k_ref18_Confirms : KS U Tryz.prog := ⟨.fn 119 [.ty (Ty.st .Config), .ty (Ty.i .i64), .ty (Ty.i .i64)] (.one Ty.bool) fun a => F_ref18_Confirms a.1 a.2.1 a.2.2.1, fnS (K := K) sa_ref18_Confirms 12 [.tmp 6] [k_ref09_Greatest, k_ref01_Has] (fk Tryz.f119 [] Tryz.func119)⟩

/-! ### trustquorum/trustquorumlaw26.thin -/
noncomputable def sa_law26_thin : SA U := annA (scOf Tryz.prog 33 [] Tryz.f55) (.r (.r (.l (.r (.l (.j ⟨[.val 18 (Ty.i .i64)], [16, 17]⟩ .e))))))
noncomputable def F_law26_thin (a0 : TTrust) : Option Bool :=
 Option.bind (bif (decide ((12 : Int) < ((List.length a0.Nodes : Nat) : Int))) then some true
 else
 some (decide ((4 : Int) < ((List.length a0.Inner : Nat) : Int)))) fun b1 =>
 bif b1 then
 some false
 else
 loopO (fun (v2 : Int × Unit) =>
 bif (decide (v2.1 < ((List.length a0.Inner : Nat) : Int))) then
 Option.bind (idx a0.Inner v2.1) fun x3 =>
 Option.bind (bif (decide ((12 : Int) < ((List.length x3.Nodes : Nat) : Int))) then some true
 else
 some (decide ((0 : Int) < ((List.length x3.Inner : Nat) : Int)))) fun b4 =>
 bif b4 then
 Option.map Sum.inr (some false)
 else
 some (Sum.inl ((addI .i64 v2.1 (1 : Int)), ()))
 else
 Option.map Sum.inr (some true)) ((0 : Int), ())
noncomputable def k_law26_thin : KS U Tryz.prog := ⟨.fn 55 [.ty (Ty.st .Trust)] (.one Ty.bool) fun a => F_law26_thin a.1, fnS (K := K) sa_law26_thin 33 [.tmp 2] [] (fk Tryz.f55 [] Tryz.func55)⟩

/-! ### trustquorum/trustquorumlaw26.few -/
noncomputable def sa_law26_few : SA U := annA (scOf Tryz.prog 36 [] Tryz.f54) (.r (.l (.r (.l (.j ⟨[.val 7 (Ty.i .i64)], [0, 5, 6]⟩ .e)))))
noncomputable def F_law26_few (a0 : (List TEnvelope)) : Option Bool :=
 loopO (fun (v1 : Int × Unit) =>
 bif (decide (v1.1 < ((List.length a0 : Nat) : Int))) then
 Option.bind (idx a0 v1.1) fun x2 =>
 Option.bind (F_law26_thin (TTrust.mk x2.Trust.Threshold x2.Trust.Nodes x2.Trust.Inner)) fun r3 =>
 Option.bind (bif (!r3) then some true
 else
 some (decide ((500 : Int) < (addI .i64 (addI .i64 ((ByteArray.size x2.Ballot.Value : Nat) : Int) ((ByteArray.size x2.Prepared.Value : Nat) : Int)) ((ByteArray.size x2.Prime.Value : Nat) : Int))))) fun b4 =>
 bif b4 then
 Option.map Sum.inr (some false)
 else
 some (Sum.inl ((addI .i64 v1.1 (1 : Int)), ()))
 else
 Option.map Sum.inr (some (decide (((List.length a0 : Nat) : Int) ≤ (12 : Int))))) ((0 : Int), ())
noncomputable def k_law26_few : KS U Tryz.prog := ⟨.fn 54 [.ty (Ty.sl (Ty.st .Envelope))] (.one Ty.bool) fun a => F_law26_few a.1, fnS (K := K) sa_law26_few 36 [.tmp 2] [k_law26_thin] (fk Tryz.f54 [] Tryz.func54)⟩

/-! ### trustquorum/trustquorumref24.VotesCommit -/
noncomputable def sa_ref24_VotesCommit : SA U := annA (scOf Tryz.prog 48 [] Tryz.f80) .e
noncomputable def F_ref24_VotesCommit (a0 : TEnvelope) (a1 : ByteArray) (a2 : Int) (a3 : Int) : Option Bool :=
 Option.bind (F_ref24_Valid (TEnvelope.mk a0.Node a0.Slot a0.Seq (TTrust.mk a0.Trust.Threshold a0.Trust.Nodes a0.Trust.Inner) a0.Kind a0.Ballot a0.Prepared a0.Prime a0.Low a0.High)) fun r1 =>
 Option.bind (bif (!r1) then some true
 else
 some (decide (a2 < (1 : Int)))) fun b2 =>
 Option.bind (bif b2 then some true
 else
 some (decide (a3 < a2))) fun b3 =>
 Option.bind (bif b3 then some true
 else
 some (!decide (a0.Ballot.Value = a1))) fun b4 =>
 Option.bind (bif b4 then some true
 else
 some (decide (a0.Low = (0 : Int)))) fun b5 =>
 Option.bind (bif b5 then some true
 else
 some (decide (a2 < a0.Low))) fun b6 =>
 bif b6 then
 some false
 else
 Option.bind (bif (!decide (a0.Kind = (1 : Int))) then some true
 else
 some (decide (a3 ≤ a0.High))) fun b7 =>
 some b7
noncomputable def k_ref24_VotesCommit : KS U Tryz.prog := ⟨.fn 80 [.ty (Ty.st .Envelope), .ty Ty.str, .ty (Ty.i .i64), .ty (Ty.i .i64)] (.one Ty.bool) fun a => F_ref24_VotesCommit a.1 a.2.1 a.2.2.1 a.2.2.2.1, fnS (K := K) sa_ref24_VotesCommit 48 [.tmp 8] [k_ref24_Valid] (fk Tryz.f80 [] Tryz.func80)⟩

/-! ### trustquorum/trustquorumref26.sets -/
noncomputable def sa_ref26_sets : SA U := annA (scOf Tryz.prog 48 [] Tryz.f121) (.r (.r (.l (.r (.l (.ps (.own 10 4 1 Ty.bool) (.ps (.own 11 4 1 Ty.bool) (.j ⟨[.val 17 (Ty.i .i64), .own 10 7 1 4 1 Ty.bool, .own 11 8 1 4 1 Ty.bool], [0, 1, 2, 3, 15, 16]⟩ .e))))))))
noncomputable def F_ref26_sets (a0 : (List TEnvelope)) (a1 : ByteArray) (a2 : Int) (a3 : Int) : Option (Int × Int × Unit) :=
 loopO (fun (v1 : Int × (List Bool) × (List Bool) × Unit) =>
 bif (decide (v1.1 < ((List.length a0 : Nat) : Int))) then
 Option.bind (idx a0 v1.1) fun x2 =>
 Option.bind (F_ref24_AcceptsCommit (TEnvelope.mk x2.Node x2.Slot x2.Seq (TTrust.mk x2.Trust.Threshold x2.Trust.Nodes x2.Trust.Inner) x2.Kind x2.Ballot x2.Prepared x2.Prime x2.Low x2.High) a1 a2 a3) fun r3 =>
 Option.bind (bif r3 then some true
 else
 Option.bind (F_ref24_VotesCommit (TEnvelope.mk x2.Node x2.Slot x2.Seq (TTrust.mk x2.Trust.Threshold x2.Trust.Nodes x2.Trust.Inner) x2.Kind x2.Ballot x2.Prepared x2.Prime x2.Low x2.High) a1 a2 a3) fun r4 =>
 some r4) fun b5 =>
 bif lenOk 1 (List.length v1.2.1 + List.length [b5]) then
 bif lenOk 1 (List.length v1.2.2.1 + List.length [r3]) then
 some (Sum.inl ((addI .i64 v1.1 (1 : Int)), (v1.2.1 ++ [b5]), (v1.2.2.1 ++ [r3]), ()))
 else none
 else none
 else
 Option.map Sum.inr (Option.bind (F_ref24_Set a0 v1.2.1) fun r6 =>
 Option.bind (F_ref24_Set a0 v1.2.2.1) fun r7 =>
 some (r6, r7, ()))) ((0 : Int), ([] : List Bool), ([] : List Bool), ())
noncomputable def k_ref26_sets : KS U Tryz.prog := ⟨.fn 121 [.ty (Ty.sl (Ty.st .Envelope)), .ty Ty.str, .ty (Ty.i .i64), .ty (Ty.i .i64)] (.many [(Ty.i .i64), (Ty.i .i64)]) fun a => F_ref26_sets a.1 a.2.1 a.2.2.1 a.2.2.2.1, fnS (K := K) sa_ref26_sets 48 [.tmp 8, .tmp 9] [k_ref24_AcceptsCommit, k_ref24_VotesCommit, k_ref24_Set] (fk Tryz.f121 [] Tryz.func121)⟩

/-! ### trustquorum/trustquorumref26.Accepts -/
noncomputable def sa_ref26_Accepts : SA U := annA (scOf Tryz.prog 31 [] Tryz.f57) .e
noncomputable def F_ref26_Accepts (a0 : Int) (a1 : TTrust) (a2 : (List TEnvelope)) (a3 : ByteArray) (a4 : Int) (a5 : Int) : Option Bool :=
 Option.bind (F_ref26_sets a2 a3 a4 a5) fun r1 =>
 Option.bind (F_ref25_View a0 (TTrust.mk a1.Threshold a1.Nodes a1.Inner) a2) fun r2 =>
 Option.bind (F_ref18_Accepts r2 a0 r1.1 r1.2.1) fun r3 =>
 some r3
noncomputable def k_ref26_Accepts : KS U Tryz.prog := ⟨.fn 57 [.ty (Ty.i .i64), .ty (Ty.st .Trust), .ty (Ty.sl (Ty.st .Envelope)), .ty Ty.str, .ty (Ty.i .i64), .ty (Ty.i .i64)] (.one Ty.bool) fun a => F_ref26_Accepts a.1 a.2.1 a.2.2.1 a.2.2.2.1 a.2.2.2.2.1 a.2.2.2.2.2.1, fnS (K := K) sa_ref26_Accepts 31 [.tmp 12] [k_ref26_sets, k_ref25_View, k_ref18_Accepts] (fk Tryz.f57 [] Tryz.func57)⟩

/-! ### trustquorum/trustquorumref26.Confirms -/
noncomputable def sa_ref26_Confirms : SA U := annA (scOf Tryz.prog 30 [] Tryz.f58) .e
noncomputable def F_ref26_Confirms (a0 : Int) (a1 : TTrust) (a2 : (List TEnvelope)) (a3 : ByteArray) (a4 : Int) (a5 : Int) : Option Bool :=
 Option.bind (F_ref26_sets a2 a3 a4 a5) fun r1 =>
 Option.bind (F_ref25_View a0 (TTrust.mk a1.Threshold a1.Nodes a1.Inner) a2) fun r2 =>
 Option.bind (F_ref18_Confirms r2 a0 r1.2.1) fun r3 =>
 some r3
noncomputable def k_ref26_Confirms : KS U Tryz.prog := ⟨.fn 58 [.ty (Ty.i .i64), .ty (Ty.st .Trust), .ty (Ty.sl (Ty.st .Envelope)), .ty Ty.str, .ty (Ty.i .i64), .ty (Ty.i .i64)] (.one Ty.bool) fun a => F_ref26_Confirms a.1 a.2.1 a.2.2.1 a.2.2.2.1 a.2.2.2.2.1 a.2.2.2.2.2.1, fnS (K := K) sa_ref26_Confirms 30 [.tmp 12] [k_ref26_sets, k_ref25_View, k_ref18_Confirms] (fk Tryz.f58 [] Tryz.func58)⟩

/-! ### trustquorum/commit.Extend$1 -/
noncomputable def sa_commit_Extend_1 : SA U := annA (scOf Tryz.prog 11 [] Tryz.f122) .e
noncomputable def F_commit_Extend_1 (a0 : Int) (a1 : TSeen) (a2 : ByteArray) (a3 : Int) : Option Bool :=
 Option.bind (F_commit_ready a1 a2 a0 a3) fun r1 =>
 some r1
noncomputable def k_commit_Extend_1 : KS U Tryz.prog := ⟨.fn 122 [.ty (Ty.i .i64), .ref (.ty (Ty.st .Seen)), .ref (.ty Ty.str), .ref (.ty (Ty.i .i64))] (.one Ty.bool) fun a => F_commit_Extend_1 a.1 a.2.1 a.2.2.1 a.2.2.2.1, fnS (K := K) sa_commit_Extend_1 11 [.tmp 5] [k_commit_ready] (fk Tryz.f122 [] Tryz.func122)⟩

/-! ### trustquorum/commit.downward -/
noncomputable def sa_commit_downward_c122 : SA U := annA (scOf Tryz.prog 22 [] Tryz.f102) (.r (.j ⟨[.box 0 1 (Ty.i .i64) []], [4]⟩ (.l (.r (.l (.k ⟨[.box 0 1 (Ty.i .i64) []], [4, 5, 10]⟩ 160 1 none (Ty.i .i64) .e))))))
noncomputable def F_commit_downward_c122 (a0 : (List Int)) (a1 : Int) (a2 : TSeen) (a3 : ByteArray) (a4 : Int) : Option Int :=
 letJ (fun (v1 : Int × Unit) =>
 some v1.1) fun j2 =>
 Option.bind (F_slices_Backward_int_int a0) fun r3 =>
 backO (fun (m5 : Nat) (e6 : Int) (v4 : Int × Unit) =>
 bif (decide (v4.1 ≤ e6)) then
 some (Sum.inl (v4.1, ()))
 else
 Option.bind (F_commit_Extend_1 e6 a2 a3 a4) fun r7 =>
 bif (!r7) then
 Option.map Sum.inr (j2 (v4.1, ()))
 else
 some (Sum.inl (e6, ()))) (fun (v8 : Int × Unit) =>
 j2 (v8.1, ())) (List.reverse r3.1) (a1, ())
noncomputable def k_commit_downward_c122 : KS U Tryz.prog := ⟨.fn 102 [.ty (Ty.sl (Ty.i .i64)), .ty (Ty.i .i64), .clo 122 [.ref (.ty (Ty.st .Seen)), .ref (.ty Ty.str), .ref (.ty (Ty.i .i64))]] (.one (Ty.i .i64)) fun a => F_commit_downward_c122 a.1 a.2.1 a.2.2.1.1 a.2.2.1.2.1 a.2.2.1.2.2.1, fnS (K := K) sa_commit_downward_c122 22 [.tmp 6] [k_slices_Backward_int_int, k_bk_160, k_commit_Extend_1] (fk Tryz.f102 [] Tryz.func102)⟩

/-! ### trustquorum/commit.Extend$2 -/
noncomputable def sa_commit_Extend_2 : SA U := annA (scOf Tryz.prog 11 [] Tryz.f123) .e
noncomputable def F_commit_Extend_2 (a0 : Int) (a1 : TSeen) (a2 : ByteArray) (a3 : Int) : Option Bool :=
 Option.bind (F_commit_ready a1 a2 a0 a3) fun r1 =>
 some r1
noncomputable def k_commit_Extend_2 : KS U Tryz.prog := ⟨.fn 123 [.ty (Ty.i .i64), .ref (.ty (Ty.st .Seen)), .ref (.ty Ty.str), .ref (.ty (Ty.i .i64))] (.one Ty.bool) fun a => F_commit_Extend_2 a.1 a.2.1 a.2.2.1 a.2.2.2.1, fnS (K := K) sa_commit_Extend_2 11 [.tmp 5] [k_commit_ready] (fk Tryz.f123 [] Tryz.func123)⟩

/-! ### trustquorum/commit.downward -/
noncomputable def sa_commit_downward_c123 : SA U := annA (scOf Tryz.prog 22 [] Tryz.f102) (.r (.j ⟨[.box 0 1 (Ty.i .i64) []], [4]⟩ (.l (.r (.l (.k ⟨[.box 0 1 (Ty.i .i64) []], [4, 5, 10]⟩ 160 1 none (Ty.i .i64) .e))))))
noncomputable def F_commit_downward_c123 (a0 : (List Int)) (a1 : Int) (a2 : TSeen) (a3 : ByteArray) (a4 : Int) : Option Int :=
 letJ (fun (v1 : Int × Unit) =>
 some v1.1) fun j2 =>
 Option.bind (F_slices_Backward_int_int a0) fun r3 =>
 backO (fun (m5 : Nat) (e6 : Int) (v4 : Int × Unit) =>
 bif (decide (v4.1 ≤ e6)) then
 some (Sum.inl (v4.1, ()))
 else
 Option.bind (F_commit_Extend_2 e6 a2 a3 a4) fun r7 =>
 bif (!r7) then
 Option.map Sum.inr (j2 (v4.1, ()))
 else
 some (Sum.inl (e6, ()))) (fun (v8 : Int × Unit) =>
 j2 (v8.1, ())) (List.reverse r3.1) (a1, ())
noncomputable def k_commit_downward_c123 : KS U Tryz.prog := ⟨.fn 102 [.ty (Ty.sl (Ty.i .i64)), .ty (Ty.i .i64), .clo 123 [.ref (.ty (Ty.st .Seen)), .ref (.ty Ty.str), .ref (.ty (Ty.i .i64))]] (.one (Ty.i .i64)) fun a => F_commit_downward_c123 a.1 a.2.1 a.2.2.1.1 a.2.2.1.2.1 a.2.2.1.2.2.1, fnS (K := K) sa_commit_downward_c123 22 [.tmp 6] [k_slices_Backward_int_int, k_bk_160, k_commit_Extend_2] (fk Tryz.f102 [] Tryz.func102)⟩

/-! ### trustquorum/commit.Extend -/
noncomputable def sa_commit_Extend : SA U := annA (scOf Tryz.prog 61 [] Tryz.f59) (.r (.r (.r (.j ⟨[.box 2 1 (Ty.i .i64) [], .box 3 1 (Ty.i .i64) []], [9, 10, 11, 14, 15]⟩ (.l (.r (.l (.k ⟨[.box 2 1 (Ty.i .i64) [], .box 3 1 (Ty.i .i64) []], [9, 10, 11, 14, 15, 27]⟩ 160 1 none (Ty.i .i64) (.r (.l (.r (.r (.j ⟨[.box 2 1 (Ty.i .i64) []], [9, 10, 11, 14, 15, 17, 27]⟩ .e)))))))))))))
noncomputable def F_commit_Extend (a0 : Int) (a1 : TTrust) (a2 : (List TEnvelope)) (a3 : ByteArray) (a4 : Int) (a5 : Int) : Option (Int × Int × Unit) :=
 Option.bind (F_prepare_Look a0 (TTrust.mk a1.Threshold a1.Nodes a1.Inner) a2) fun r1 =>
 Option.bind (F_envelopes_Bounds a2 a3) fun r2 =>
 letJ (fun (v3 : Int × Int × Unit) =>
 Option.bind (F_commit_downward_c123 r2 v3.1 r1 a3 v3.2.1) fun r5 =>
 some (r5, v3.2.1, ())) fun j4 =>
 Option.bind (F_slices_Backward_int_int r2) fun r6 =>
 backO (fun (m8 : Nat) (e9 : Int) (v7 : Int × Int × Unit) =>
 Option.bind (bif (decide (e9 ≤ v7.2.1)) then some true
 else
 Option.bind (F_commit_ready r1 a3 e9 e9) fun r10 =>
 some (!r10)) fun b11 =>
 bif b11 then
 some (Sum.inl (v7.1, v7.2.1, ()))
 else
 Option.bind (F_commit_downward_c122 r2 e9 r1 a3 e9) fun r12 =>
 letJ (fun (v13 : Int × Unit) =>
 Option.map Sum.inr (j4 (v13.1, e9, ()))) fun j14 =>
 Option.bind (bif (decide (v7.2.1 < (subI .i64 r12 (1 : Int)))) then some true
 else
 some (decide (r12 < v7.1))) fun b15 =>
 bif b15 then
 j14 (r12, ())
 else
 j14 (v7.1, ())) (fun (v16 : Int × Int × Unit) =>
 j4 (v16.1, v16.2.1, ())) (List.reverse r6.1) (a4, a5, ())
noncomputable def k_commit_Extend : KS U Tryz.prog := ⟨.fn 59 [.ty (Ty.i .i64), .ty (Ty.st .Trust), .ty (Ty.sl (Ty.st .Envelope)), .ty Ty.str, .ty (Ty.i .i64), .ty (Ty.i .i64)] (.many [(Ty.i .i64), (Ty.i .i64)]) fun a => F_commit_Extend a.1 a.2.1 a.2.2.1 a.2.2.2.1 a.2.2.2.2.1 a.2.2.2.2.2.1, fnS (K := K) sa_commit_Extend 61 [.tmp 12, .tmp 13] [k_prepare_Look, k_envelopes_Bounds, k_slices_Backward_int_int, k_bk_160, k_commit_ready, k_commit_downward_c122, k_commit_downward_c123] (fk Tryz.f59 [] Tryz.func59)⟩

/-! ### trustquorum/trustquorumref24.Bounds -/
noncomputable def sa_ref24_Bounds : SA U := annA (scOf Tryz.prog 80 [] Tryz.f69) (.r (.r (.l (.r (.l (.j ⟨[.val 5 (Ty.sl (Ty.i .i64)), .val 13 (Ty.i .i64)], [1, 11, 12]⟩ (.l (.r (.r (.j ⟨[.val 5 (Ty.sl (Ty.i .i64))], [1, 11, 12, 13]⟩ (.l (.l (.r (.r (.r (.l (.j ⟨[.val 5 (Ty.sl (Ty.i .i64)), .val 37 (Ty.i .i64)], [1, 11, 12, 13, 36]⟩ (.l (.r (.r (.j ⟨[.val 5 (Ty.sl (Ty.i .i64))], [1, 11, 12, 13, 36, 37]⟩ (.l (.l (.r (.r (.b (.l (.j ⟨[.val 10 (Ty.i .i64)], [1, 5, 9, 11, 12, 13, 36, 37]⟩ .e)) (.r (.l (.pst (.frz 5) .e)))))))))))))))))))))))))))))
noncomputable def F_ref24_Bounds (a0 : (List TEnvelope)) (a1 : ByteArray) : Option (List Int) :=
 loopO (fun (v1 : (List Int) × Int × Unit) =>
 bif (decide (v1.2.1 < ((List.length a0 : Nat) : Int))) then
 letJ (fun (v2 : (List Int) × Unit) =>
 some (Sum.inl (v2.1, (addI .i64 v1.2.1 (1 : Int)), ()))) fun j3 =>
 Option.bind (idx a0 v1.2.1) fun x4 =>
 Option.bind (F_ref24_Valid (TEnvelope.mk x4.Node x4.Slot x4.Seq (TTrust.mk x4.Trust.Threshold x4.Trust.Nodes x4.Trust.Inner) x4.Kind x4.Ballot x4.Prepared x4.Prime x4.Low x4.High)) fun r5 =>
 Option.bind (bif (!r5) then some true
 else
 some (!decide (x4.Ballot.Value = a1))) fun b6 =>
 Option.bind (bif b6 then some true
 else
 some (decide (x4.Low = (0 : Int)))) fun b7 =>
 bif b7 then
 j3 (v1.1, ())
 else
 loopO (fun (v8 : (List Int) × Int × Unit) =>
 bif (decide (v8.2.1 < (2 : Int))) then
 letJ (fun (v9 : (List Int) × Unit) =>
 some (Sum.inl (v9.1, (addI .i64 v8.2.1 (1 : Int)), ()))) fun j10 =>
 Option.bind (idx [x4.Low, x4.High] v8.2.1) fun x11 =>
 loopO (fun (v12 : Int × Unit) =>
 Option.bind (bif (decide (v12.1 < ((List.length v8.1 : Nat) : Int))) then
 Option.bind (idx v8.1 v12.1) fun x13 =>
 some (decide (x13 < x11))
 else some false) fun b14 =>
 bif b14 then
 some (Sum.inl ((addI .i64 v12.1 (1 : Int)), ()))
 else
 Option.map Sum.inr (Option.bind (bif (decide (v12.1 = ((List.length v8.1 : Nat) : Int))) then some true
 else
 Option.bind (idx v8.1 v12.1) fun x15 =>
 some (!decide (x15 = x11))) fun b16 =>
 bif b16 then
 bif slcOk (0 : Int) v12.1 (List.length v8.1) then
 bif lenOk 8 (List.length ((v8.1.take (Int.toNat v12.1)).drop (Int.toNat (0 : Int)))) then
 bif lenOk 8 (List.length ((v8.1.take (Int.toNat v12.1)).drop (Int.toNat (0 : Int))) + List.length [x11]) then
 bif slcOk v12.1 (v8.1.length : Int) (List.length v8.1) then
 bif lenOk 8 (List.length (((v8.1.take (Int.toNat v12.1)).drop (Int.toNat (0 : Int))) ++ [x11]) + List.length ((v8.1.take (Int.toNat (v8.1.length : Int))).drop (Int.toNat v12.1))) then
 j10 (((((v8.1.take (Int.toNat v12.1)).drop (Int.toNat (0 : Int))) ++ [x11]) ++ ((v8.1.take (Int.toNat (v8.1.length : Int))).drop (Int.toNat v12.1))), ())
 else none
 else none
 else none
 else none
 else none
 else
 j10 (v8.1, ()))) ((0 : Int), ())
 else
 Option.map Sum.inr (j3 (v8.1, ()))) (v1.1, (0 : Int), ())
 else
 Option.map Sum.inr (some v1.1)) (([] : List Int), (0 : Int), ())
noncomputable def k_ref24_Bounds : KS U Tryz.prog := ⟨.fn 69 [.ty (Ty.sl (Ty.st .Envelope)), .ty Ty.str] (.one (Ty.sl (Ty.i .i64))) fun a => F_ref24_Bounds a.1 a.2.1, fnS (K := K) sa_ref24_Bounds 80 [.tmp 4] [k_ref24_Valid] (fk Tryz.f69 [] Tryz.func69)⟩

/-! ### trustquorum/trustquorumref26.down -/
noncomputable def sa_ref26_down : SA U := annA (scOf Tryz.prog 47 [] Tryz.f124) (.r (.r (.j ⟨[.val 4 (Ty.i .i64)], []⟩ (.l (.r (.l (.j ⟨[.val 4 (Ty.i .i64), .val 14 (Ty.i .i64)], [0, 2, 3, 5, 7, 13]⟩ (.l (.r (.j ⟨[.val 4 (Ty.i .i64)], [0, 2, 3, 5, 7, 13, 14]⟩ .e))))))))))
noncomputable def F_ref26_down (a0 : Int) (a1 : TTrust) (a2 : (List TEnvelope)) (a3 : ByteArray) (a4 : Int) (a5 : Int) : Option Int :=
 Option.bind (F_ref24_Bounds a2 a3) fun r1 =>
 letJ (fun (v2 : Int × Unit) =>
 some v2.1) fun j3 =>
 loopO (fun (v4 : Int × Int × Unit) =>
 bif (decide ((0 : Int) ≤ v4.2.1)) then
 letJ (fun (v5 : Int × Unit) =>
 some (Sum.inl (v5.1, (subI .i64 v4.2.1 (1 : Int)), ()))) fun j6 =>
 Option.bind (idx r1 v4.2.1) fun x7 =>
 bif (decide (v4.1 ≤ x7)) then
 j6 (v4.1, ())
 else
 Option.bind (idx r1 v4.2.1) fun x8 =>
 Option.bind (F_ref26_Accepts a0 (TTrust.mk a1.Threshold a1.Nodes a1.Inner) a2 a3 x8 a5) fun r9 =>
 bif (!r9) then
 Option.map Sum.inr (j3 (v4.1, ()))
 else
 Option.bind (idx r1 v4.2.1) fun x10 =>
 j6 (x10, ())
 else
 Option.map Sum.inr (j3 (v4.1, ()))) (a4, (subI .i64 ((List.length r1 : Nat) : Int) (1 : Int)), ())
noncomputable def k_ref26_down : KS U Tryz.prog := ⟨.fn 124 [.ty (Ty.i .i64), .ty (Ty.st .Trust), .ty (Ty.sl (Ty.st .Envelope)), .ty Ty.str, .ty (Ty.i .i64), .ty (Ty.i .i64)] (.one (Ty.i .i64)) fun a => F_ref26_down a.1 a.2.1 a.2.2.1 a.2.2.2.1 a.2.2.2.2.1 a.2.2.2.2.2.1, fnS (K := K) sa_ref26_down 47 [.tmp 12] [k_ref24_Bounds, k_ref26_Accepts] (fk Tryz.f124 [] Tryz.func124)⟩

/-! ### trustquorum/trustquorumref26.Extend -/
noncomputable def sa_ref26_Extend : SA U := annA (scOf Tryz.prog 72 [] Tryz.f60) (.r (.r (.j ⟨[.val 4 (Ty.i .i64), .val 5 (Ty.i .i64)], [0, 2, 3, 7]⟩ (.l (.r (.l (.j ⟨[.val 4 (Ty.i .i64), .val 5 (Ty.i .i64), .val 15 (Ty.i .i64)], [0, 2, 3, 7, 14]⟩ (.l (.r (.l (.l (.r (.r (.r (.j ⟨[.val 4 (Ty.i .i64)], [0, 2, 3, 7, 14, 16]⟩ .e)))))))))))))))
noncomputable def F_ref26_Extend (a0 : Int) (a1 : TTrust) (a2 : (List TEnvelope)) (a3 : ByteArray) (a4 : Int) (a5 : Int) : Option (Int × Int × Unit) :=
 Option.bind (F_ref24_Bounds a2 a3) fun r1 =>
 letJ (fun (v2 : Int × Int × Unit) =>
 Option.bind (F_ref26_down a0 (TTrust.mk a1.Threshold a1.Nodes a1.Inner) a2 a3 v2.1 v2.2.1) fun r4 =>
 some (r4, v2.2.1, ())) fun j3 =>
 loopO (fun (v5 : Int × Int × Int × Unit) =>
 Option.bind (bif (decide ((0 : Int) ≤ v5.2.2.1)) then
 Option.bind (idx r1 v5.2.2.1) fun x6 =>
 some (decide (v5.2.1 < x6))
 else some false) fun b7 =>
 bif b7 then
 Option.bind (idx r1 v5.2.2.1) fun x8 =>
 Option.bind (F_ref26_Accepts a0 (TTrust.mk a1.Threshold a1.Nodes a1.Inner) a2 a3 x8 x8) fun r9 =>
 bif (!r9) then
 some (Sum.inl (v5.1, v5.2.1, (subI .i64 v5.2.2.1 (1 : Int)), ()))
 else
 Option.bind (F_ref26_down a0 (TTrust.mk a1.Threshold a1.Nodes a1.Inner) a2 a3 x8 x8) fun r10 =>
 letJ (fun (v11 : Int × Unit) =>
 Option.map Sum.inr (j3 (v11.1, x8, ()))) fun j12 =>
 bif (decide (v5.2.1 < (subI .i64 r10 (1 : Int)))) then
 j12 (r10, ())
 else
 j12 ((minI v5.1 r10), ())
 else
 Option.map Sum.inr (j3 (v5.1, v5.2.1, ()))) (a4, a5, (subI .i64 ((List.length r1 : Nat) : Int) (1 : Int)), ())
noncomputable def k_ref26_Extend : KS U Tryz.prog := ⟨.fn 60 [.ty (Ty.i .i64), .ty (Ty.st .Trust), .ty (Ty.sl (Ty.st .Envelope)), .ty Ty.str, .ty (Ty.i .i64), .ty (Ty.i .i64)] (.many [(Ty.i .i64), (Ty.i .i64)]) fun a => F_ref26_Extend a.1 a.2.1 a.2.2.1 a.2.2.2.1 a.2.2.2.2.1 a.2.2.2.2.2.1, fnS (K := K) sa_ref26_Extend 72 [.tmp 12, .tmp 13] [k_ref24_Bounds, k_ref26_Accepts, k_ref26_down] (fk Tryz.f60 [] Tryz.func60)⟩

/-! ### trustquorum/trustquorumref26.Final -/
noncomputable def sa_ref26_Final : SA U := annA (scOf Tryz.prog 63 [] Tryz.f61) (.r (.r (.l (.r (.l (.j ⟨[.val 12 (Ty.i .i64)], [0, 2, 3, 5, 11]⟩ (.l (.r (.l (.l (.r (.r (.r (.l (.r (.l (.j ⟨[.val 14 (Ty.i .i64), .val 15 (Ty.i .i64)], [0, 2, 3, 5, 11, 13]⟩ (.l (.l (.j ⟨[.val 54 Ty.bool], [0, 2, 3, 5, 11, 13, 14, 15]⟩ .e))))))))))))))))))))
noncomputable def F_ref26_Final (a0 : Int) (a1 : TTrust) (a2 : (List TEnvelope)) (a3 : ByteArray) : Option (Int × Int × Bool × Unit) :=
 Option.bind (F_ref24_Bounds a2 a3) fun r1 =>
 loopO (fun (v2 : Int × Unit) =>
 bif (decide ((0 : Int) ≤ v2.1)) then
 Option.bind (idx r1 v2.1) fun x3 =>
 Option.bind (F_ref26_Confirms a0 (TTrust.mk a1.Threshold a1.Nodes a1.Inner) a2 a3 x3 x3) fun r4 =>
 bif (!r4) then
 some (Sum.inl ((subI .i64 v2.1 (1 : Int)), ()))
 else
 loopO (fun (v5 : Int × Int × Unit) =>
 letJ (fun (v6 : Bool × Unit) =>
 bif v6.1 then
 Option.bind (idx r1 v5.2.1) fun x8 =>
 some (Sum.inl (x8, (subI .i64 v5.2.1 (1 : Int)), ()))
 else
 Option.map Sum.inr (Option.map Sum.inr (some (v5.1, x3, true, ())))) fun j7 =>
 bif (decide ((0 : Int) ≤ v5.2.1)) then
 Option.bind (idx r1 v5.2.1) fun x9 =>
 Option.bind (F_ref26_Confirms a0 (TTrust.mk a1.Threshold a1.Nodes a1.Inner) a2 a3 x9 x3) fun r10 =>
 j7 (r10, ())
 else
 j7 (false, ())) (x3, (subI .i64 v2.1 (1 : Int)), ())
 else
 Option.map Sum.inr (some ((0 : Int), (0 : Int), false, ()))) ((subI .i64 ((List.length r1 : Nat) : Int) (1 : Int)), ())
noncomputable def k_ref26_Final : KS U Tryz.prog := ⟨.fn 61 [.ty (Ty.i .i64), .ty (Ty.st .Trust), .ty (Ty.sl (Ty.st .Envelope)), .ty Ty.str] (.many [(Ty.i .i64), (Ty.i .i64), Ty.bool]) fun a => F_ref26_Final a.1 a.2.1 a.2.2.1 a.2.2.2.1, fnS (K := K) sa_ref26_Final 63 [.tmp 8, .tmp 9, .tmp 10] [k_ref24_Bounds, k_ref26_Confirms] (fk Tryz.f61 [] Tryz.func61)⟩

/-! ### trustquorum/trustquorumref24.Values -/
noncomputable def sa_ref24_Values : SA U := annA (scOf Tryz.prog 61 [] Tryz.f65) (.r (.r (.l (.r (.l (.j ⟨[.val 3 (Ty.sl Ty.str), .val 9 (Ty.i .i64)], [7, 8]⟩ (.l (.r (.r (.j ⟨[.val 3 (Ty.sl Ty.str)], [7, 8, 9]⟩ (.l (.l (.r (.r (.r (.b (.l (.j ⟨[.val 6 (Ty.i .i64)], [3, 5, 7, 8, 9]⟩ (.l (.l (.j ⟨[.val 29 Ty.bool], [3, 5, 6, 7, 8, 9]⟩ .e))))) (.j ⟨[.val 45 Ty.bool], [3, 5, 6, 7, 8, 9]⟩ (.r (.l (.pst (.frz 3) .e))))))))))))))))))))
noncomputable def F_ref24_Values (a0 : (List TEnvelope)) : Option (List ByteArray) :=
 loopO (fun (v1 : (List ByteArray) × Int × Unit) =>
 bif (decide (v1.2.1 < ((List.length a0 : Nat) : Int))) then
 letJ (fun (v2 : (List ByteArray) × Unit) =>
 some (Sum.inl (v2.1, (addI .i64 v1.2.1 (1 : Int)), ()))) fun j3 =>
 Option.bind (idx a0 v1.2.1) fun x4 =>
 Option.bind (F_ref24_Valid (TEnvelope.mk x4.Node x4.Slot x4.Seq (TTrust.mk x4.Trust.Threshold x4.Trust.Nodes x4.Trust.Inner) x4.Kind x4.Ballot x4.Prepared x4.Prime x4.Low x4.High)) fun r5 =>
 bif (!r5) then
 j3 (v1.1, ())
 else
 loopO (fun (v6 : Int × Unit) =>
 letJ (fun (v7 : Bool × Unit) =>
 bif v7.1 then
 some (Sum.inl ((addI .i64 v6.1 (1 : Int)), ()))
 else
 Option.map Sum.inr (letJ (fun (v9 : Bool × Unit) =>
 bif v9.1 then
 bif slcOk (0 : Int) v6.1 (List.length v1.1) then
 bif lenOk 16 (List.length ((v1.1.take (Int.toNat v6.1)).drop (Int.toNat (0 : Int)))) then
 bif lenOk 16 (List.length ((v1.1.take (Int.toNat v6.1)).drop (Int.toNat (0 : Int))) + List.length [x4.Ballot.Value]) then
 bif slcOk v6.1 (v1.1.length : Int) (List.length v1.1) then
 bif lenOk 16 (List.length (((v1.1.take (Int.toNat v6.1)).drop (Int.toNat (0 : Int))) ++ [x4.Ballot.Value]) + List.length ((v1.1.take (Int.toNat (v1.1.length : Int))).drop (Int.toNat v6.1))) then
 j3 (((((v1.1.take (Int.toNat v6.1)).drop (Int.toNat (0 : Int))) ++ [x4.Ballot.Value]) ++ ((v1.1.take (Int.toNat (v1.1.length : Int))).drop (Int.toNat v6.1))), ())
 else none
 else none
 else none
 else none
 else none
 else
 j3 (v1.1, ())) fun j10 =>
 bif (decide (v6.1 = ((List.length v1.1 : Nat) : Int))) then
 j10 (true, ())
 else
 Option.bind (idx v1.1 v6.1) fun x11 =>
 j10 ((!decide (x11 = x4.Ballot.Value)), ()))) fun j8 =>
 bif (decide (v6.1 < ((List.length v1.1 : Nat) : Int))) then
 Option.bind (idx v1.1 v6.1) fun x12 =>
 Option.bind (F_ref23_LessValue x12 x4.Ballot.Value) fun r13 =>
 j8 (r13, ())
 else
 j8 (false, ())) ((0 : Int), ())
 else
 Option.map Sum.inr (some v1.1)) (([] : List ByteArray), (0 : Int), ())
noncomputable def k_ref24_Values : KS U Tryz.prog := ⟨.fn 65 [.ty (Ty.sl (Ty.st .Envelope))] (.one (Ty.sl Ty.str)) fun a => F_ref24_Values a.1, fnS (K := K) sa_ref24_Values 61 [.tmp 2] [k_ref24_Valid, k_ref23_LessValue] (fk Tryz.f65 [] Tryz.func65)⟩

/-! ### trustquorum/trustquorumref26.free -/
noncomputable def sa_ref26_free : SA U := annA (scOf Tryz.prog 23 [] Tryz.f125) .e
noncomputable def F_ref26_free (a0 : TBallot) (a1 : TBallot) (a2 : Int) (a3 : ByteArray) : Option Bool :=
 Option.bind (F_ref23_Aborts a0 (TBallot.mk a2 a3)) fun r1 =>
 Option.bind (bif (!r1) then
 Option.bind (F_ref23_Aborts a1 (TBallot.mk a2 a3)) fun r2 =>
 some (!r2)
 else some false) fun b3 =>
 some b3
noncomputable def k_ref26_free : KS U Tryz.prog := ⟨.fn 125 [.ty (Ty.st .Ballot), .ty (Ty.st .Ballot), .ty (Ty.i .i64), .ty Ty.str] (.one Ty.bool) fun a => F_ref26_free a.1 a.2.1 a.2.2.1 a.2.2.2.1, fnS (K := K) sa_ref26_free 23 [.tmp 8] [k_ref23_Aborts] (fk Tryz.f125 [] Tryz.func125)⟩

/-! ### trustquorum/trustquorumref26.First -/
noncomputable def sa_ref26_First : SA U := annA (scOf Tryz.prog 111 [] Tryz.f62) (.r (.r (.b (.r (.l (.j ⟨[.val 27 (Ty.i .i64), .box 7 1 (Ty.st .Ballot) []], [0, 2, 6, 8, 9, 14, 25, 26]⟩ (.l (.r (.r (.l (.l (.r (.r (.l (.j ⟨[.val 35 (Ty.i .i64), .box 7 1 (Ty.st .Ballot) []], [0, 2, 6, 8, 9, 14, 16, 25, 26, 27, 33, 34]⟩ (.l (.r (.r (.j ⟨[.box 7 1 (Ty.st .Ballot) []], [0, 2, 6, 8, 9, 14, 16, 25, 26, 27, 33, 34, 35]⟩ .e)))))))))))))))) (.r (.r (.r (.j ⟨[.val 20 (Ty.i .i64)], [14]⟩ (.l (.r (.l (.j ⟨[.val 20 (Ty.i .i64), .val 22 (Ty.i .i64)], [0, 2, 6, 8, 9, 14, 21]⟩ (.l (.r (.j ⟨[.val 20 (Ty.i .i64)], [0, 2, 6, 8, 9, 14, 21, 22]⟩ .e))))))))))))))
noncomputable def F_ref26_First (a0 : Int) (a1 : TTrust) (a2 : (List TEnvelope)) (a3 : TBallot) (a4 : TBallot) : Option (ByteArray × Int × Int × Bool × Unit) :=
 Option.bind (F_ref24_Values a2) fun r1 =>
 loopO (fun (v2 : Int × TBallot × Unit) =>
 bif (decide (v2.1 < ((List.length r1 : Nat) : Int))) then
 Option.bind (idx r1 v2.1) fun x3 =>
 Option.bind (F_ref24_Bounds a2 x3) fun r4 =>
 loopO (fun (v5 : Int × TBallot × Unit) =>
 bif (decide (v5.1 < ((List.length r4 : Nat) : Int))) then
 letJ (fun (v6 : TBallot × Unit) =>
 some (Sum.inl ((addI .i64 v5.1 (1 : Int)), v6.1, ()))) fun j7 =>
 Option.bind (idx r4 v5.1) fun x8 =>
 Option.bind (F_ref23_Less v5.2.1 (TBallot.mk x8 x3)) fun r9 =>
 Option.bind (bif r9 then
 Option.bind (F_ref26_free a3 a4 x8 x3) fun r10 =>
 some r10
 else some false) fun b11 =>
 Option.bind (bif b11 then
 Option.bind (F_ref26_Accepts a0 (TTrust.mk a1.Threshold a1.Nodes a1.Inner) a2 x3 x8 x8) fun r12 =>
 some r12
 else some false) fun b13 =>
 bif b13 then
 j7 ((TBallot.mk x8 x3), ())
 else
 j7 (v5.2.1, ())
 else
 Option.map Sum.inr (some (Sum.inl ((addI .i64 v2.1 (1 : Int)), v5.2.1, ())))) ((0 : Int), v2.2.1, ())
 else
 Option.map Sum.inr (Option.bind (F_ref23_Zero v2.2.1) fun r14 =>
 bif r14 then
 some ((ByteArray.mk #[]), (0 : Int), (0 : Int), false, ())
 else
 Option.bind (F_ref24_Bounds a2 v2.2.1.Value) fun r15 =>
 letJ (fun (v16 : Int × Unit) =>
 some (v2.2.1.Value, v16.1, v2.2.1.Counter, true, ())) fun j17 =>
 loopO (fun (v18 : Int × Int × Unit) =>
 bif (decide ((0 : Int) ≤ v18.2.1)) then
 letJ (fun (v19 : Int × Unit) =>
 some (Sum.inl (v19.1, (subI .i64 v18.2.1 (1 : Int)), ()))) fun j20 =>
 Option.bind (idx r15 v18.2.1) fun x21 =>
 bif (decide (v18.1 ≤ x21)) then
 j20 (v18.1, ())
 else
 Option.bind (F_ref26_free a3 a4 x21 v2.2.1.Value) fun r22 =>
 Option.bind (bif (!r22) then some true
 else
 Option.bind (F_ref26_Accepts a0 (TTrust.mk a1.Threshold a1.Nodes a1.Inner) a2 v2.2.1.Value x21 v2.2.1.Counter) fun r23 =>
 some (!r23)) fun b24 =>
 bif b24 then
 Option.map Sum.inr (j17 (v18.1, ()))
 else
 j20 (x21, ())
 else
 Option.map Sum.inr (j17 (v18.1, ()))) (v2.2.1.Counter, (subI .i64 ((List.length r15 : Nat) : Int) (1 : Int)), ()))) ((0 : Int), (TBallot.mk (0 : Int) (ByteArray.mk #[])), ())
noncomputable def k_ref26_First : KS U Tryz.prog := ⟨.fn 62 [.ty (Ty.i .i64), .ty (Ty.st .Trust), .ty (Ty.sl (Ty.st .Envelope)), .ty (Ty.st .Ballot), .ty (Ty.st .Ballot)] (.many [Ty.str, (Ty.i .i64), (Ty.i .i64), Ty.bool]) fun a => F_ref26_First a.1 a.2.1 a.2.2.1 a.2.2.2.1 a.2.2.2.2.1, fnS (K := K) sa_ref26_First 111 [.tmp 10, .tmp 11, .tmp 12, .tmp 13] [k_ref24_Values, k_ref24_Bounds, k_ref23_Less, k_ref26_free, k_ref26_Accepts, k_ref23_Zero] (fk Tryz.f62 [] Tryz.func62)⟩

end Go.Proofs.YtncjalhhkmojlaaGreat
