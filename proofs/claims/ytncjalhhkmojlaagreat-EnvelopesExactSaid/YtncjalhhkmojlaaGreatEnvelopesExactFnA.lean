/-
  Functions of the program as plain functions, each held against the program by the kernel. Printed by a program.
-/
import Derived.Test.YtncjalhhkmojlaaGreatUni
import Derived.Test.YtncjalhhkmojlaaGreatIns133
import Derived.Test.YtncjalhhkmojlaaGreatInsU
import Derived.Test.YtncjalhhkmojlaaGreatProg
import Derived.KernelRfl
set_option linter.unusedVariables false
namespace Go.Proofs.YtncjalhhkmojlaaGreat
open Go.TQ

/-! ### trustquorum/trustquorumplay.New -/
noncomputable def sa_play_New : SA U := annA (scOf Tryz.prog 10 [] Tryz.f11) .e
noncomputable def F_play_New (a0 : (List Int)) : Option TSrc :=
 bif slcOk (0 : Int) (minI ((List.length a0 : Nat) : Int) (800 : Int)) (List.length a0) then
 some (TSrc.mk ((a0.take (Int.toNat (minI ((List.length a0 : Nat) : Int) (800 : Int)))).drop (Int.toNat (0 : Int))) (0 : Int))
 else none
noncomputable def k_play_New : KS U Tryz.prog := ⟨.nw 11 [.ty (Ty.sl (Ty.i .i64))] (Ty.st .Src) fun a => F_play_New a.1, nwS (K := K) sa_play_New 10 2 [] (fk Tryz.f11 [] Tryz.func11)⟩

/-! ### (*trustquorum/trustquorumplay.Src).N -/
noncomputable def sa_play_Src_N : SA U := annA (scOf Tryz.prog 43 [] Tryz.f22) (.r (.l (.j ⟨[.val 18 Ty.bool], [0, 1]⟩ .e)))
noncomputable def F_play_Src_N (s : TSrc) (a0 : Int) : Option (Int × TSrc) :=
 letJ (fun (v1 : Bool × Unit) =>
 bif v1.1 then
 some ((0 : Int), s)
 else
 Option.bind (idx s.L (subI .i64 (addI .i64 s.At (1 : Int)) (1 : Int))) fun x3 =>
 if a0 = 0 then none else
 if a0 = 0 then none else
 some ((remI .i64 (addI .i64 (remI .i64 x3 a0) a0) a0), (TSrc.mk s.L (addI .i64 s.At (1 : Int))))) fun j2 =>
 bif (decide (((List.length s.L : Nat) : Int) ≤ s.At)) then
 j2 (true, ())
 else
 j2 ((decide (a0 < (1 : Int))), ())
noncomputable def k_play_Src_N : KS U Tryz.prog := ⟨.rc 22 0 (Ty.st .Src) [.ty (Ty.i .i64)] (.one (Ty.i .i64)) fun s a => F_play_Src_N s a.1, rcS (K := K) sa_play_Src_N 43 [.tmp 4] [] (fk Tryz.f22 [] Tryz.func22)⟩

/-! ### (*trustquorum/trustquorumplay.Src).Range -/
noncomputable def sa_play_Src_Range : SA U := annA (scOf Tryz.prog 15 [] Tryz.f25) .e
noncomputable def F_play_Src_Range (s : TSrc) (a0 : Int) (a1 : Int) : Option (Int × TSrc) :=
 Option.bind (F_play_Src_N s (addI .i64 (subI .i64 a1 a0) (1 : Int))) fun p1 =>
 some ((addI .i64 a0 p1.1), p1.2)
noncomputable def k_play_Src_Range : KS U Tryz.prog := ⟨.rc 25 0 (Ty.st .Src) [.ty (Ty.i .i64), .ty (Ty.i .i64)] (.one (Ty.i .i64)) fun s a => F_play_Src_Range s a.1 a.2.1, rcS (K := K) sa_play_Src_Range 15 [.tmp 6] [k_play_Src_N] (fk Tryz.f25 [] Tryz.func25)⟩

/-! ### (*trustquorum/trustquorumplay.Src).Trust -/
noncomputable def sa_play_Src_Trust : SA U := annA (scOf Tryz.prog 63 [] Tryz.f23) (.r (.r (.b (.r (.l (.ps (.ownB 5 1 3 1 (Ty.i .i64)) (.ps (.ownB 5 2 36 3 (Ty.st .Trust)) (.j ⟨[.val 6 (Ty.i .i64), .box 0 0 (Ty.st .Src) [], .box 2 1 (Ty.st .Trust) [(1, 4, 1), (2, 5, 1)], .rowb 4 1 3 1 (Ty.i .i64), .rowb 5 1 36 3 (Ty.st .Trust)], [0, 1, 4, 5]⟩ (.l (.r (.j ⟨[.box 0 0 (Ty.st .Src) [], .box 2 1 (Ty.st .Trust) [(1, 4, 1), (2, 5, 1)], .rowb 4 1 3 1 (Ty.i .i64), .rowb 5 1 36 3 (Ty.st .Trust)], [0, 1, 4, 5, 6]⟩ .e)))))))) (.ps (.frzB 5 1) (.j ⟨[.box 0 0 (Ty.st .Src) [], .box 2 1 (Ty.st .Trust) [(2, 5, 1)], .rowb 5 1 36 3 (Ty.st .Trust)], [0, 1, 4, 5]⟩ (.r (.j ⟨[.box 0 0 (Ty.st .Src) [], .box 2 1 (Ty.st .Trust) [(2, 5, 1)], .rowb 5 1 36 3 (Ty.st .Trust)], [0, 4, 5]⟩ (.r (.r (.r (.j ⟨[.box 0 0 (Ty.st .Src) [], .box 2 1 (Ty.st .Trust) [(2, 5, 1)], .rowb 5 1 36 3 (Ty.st .Trust)], [4, 5]⟩ .e)))))))))))
noncomputable def F_play_Src_Trust (s : TSrc) (a0 : Int) : Option (TTrust × TSrc) :=
 loopO (fun (v1 : Int × TSrc × TTrust × (List Int) × (List TTrust) × Unit) =>
 bif (decide (v1.1 < a0)) then
 letJ (fun (v2 : TSrc × TTrust × (List Int) × (List TTrust) × Unit) =>
 some (Sum.inl ((addI .i64 v1.1 (1 : Int)), v2.1, (TTrust.mk v2.2.1.Threshold ([] : List Int) ([] : List TTrust)), v2.2.2.1, v2.2.2.2.1, ()))) fun j3 =>
 Option.bind (F_play_Src_N v1.2.1 (5 : Int)) fun p4 =>
 bif (decide ((0 : Int) < p4.1)) then
 bif lenOk 8 (List.length v1.2.2.2.1 + List.length [v1.1]) then
 j3 (p4.2, (TTrust.mk v1.2.2.1.Threshold ([] : List Int) ([] : List TTrust)), (v1.2.2.2.1 ++ [v1.1]), v1.2.2.2.2.1, ())
 else none
 else
 j3 (p4.2, (TTrust.mk v1.2.2.1.Threshold ([] : List Int) ([] : List TTrust)), v1.2.2.2.1, v1.2.2.2.2.1, ())
 else
 Option.map Sum.inr (letJ (fun (v5 : TSrc × TTrust × (List TTrust) × Unit) =>
 letJ (fun (v7 : TSrc × TTrust × (List TTrust) × Unit) =>
 Option.bind (F_play_Src_Range v7.1 (quoI .i64 (addI .i64 (addI .i64 ((List.length v7.2.1.Nodes : Nat) : Int) ((List.length v7.2.2.1 : Nat) : Int)) (1 : Int)) (2 : Int)) (addI .i64 ((List.length v7.2.1.Nodes : Nat) : Int) ((List.length v7.2.2.1 : Nat) : Int))) fun p9 =>
 letJ (fun (v10 : TSrc × TTrust × (List TTrust) × Unit) =>
 some ((TTrust.mk v10.2.1.Threshold v10.2.1.Nodes v10.2.2.1), v10.1)) fun j11 =>
 Option.bind (F_play_Src_N p9.2 (6 : Int)) fun p12 =>
 bif (decide (p12.1 = (5 : Int))) then
 j11 (p12.2, (TTrust.mk (1 : Int) v7.2.1.Nodes ([] : List TTrust)), v7.2.2.1, ())
 else
 j11 (p12.2, (TTrust.mk p9.1 v7.2.1.Nodes ([] : List TTrust)), v7.2.2.1, ())) fun j8 =>
 Option.bind (F_play_Src_N v5.1 (4 : Int)) fun p13 =>
 bif (decide (p13.1 = (3 : Int))) then
 Option.bind (F_play_Src_N p13.2 a0) fun p14 =>
 bif lenOk 56 (List.length v5.2.2.1 + List.length [(TTrust.mk (1 : Int) [p14.1] ([] : List TTrust))]) then
 j8 (p14.2, (TTrust.mk v5.2.1.Threshold v5.2.1.Nodes ([] : List TTrust)), (v5.2.2.1 ++ [(TTrust.mk (1 : Int) [p14.1] ([] : List TTrust))]), ())
 else none
 else
 j8 (p13.2, (TTrust.mk v5.2.1.Threshold v5.2.1.Nodes ([] : List TTrust)), v5.2.2.1, ())) fun j6 =>
 bif (decide (((List.length v1.2.2.2.1 : Nat) : Int) = (0 : Int))) then
 Option.bind (F_play_Src_N v1.2.1 a0) fun p15 =>
 j6 (p15.2, (TTrust.mk v1.2.2.1.Threshold [p15.1] ([] : List TTrust)), v1.2.2.2.2.1, ())
 else
 j6 (v1.2.1, (TTrust.mk v1.2.2.1.Threshold v1.2.2.2.1 ([] : List TTrust)), v1.2.2.2.2.1, ()))) ((0 : Int), s, (TTrust.mk (0 : Int) ([] : List Int) ([] : List TTrust)), ([] : List Int), ([] : List TTrust), ())
noncomputable def k_play_Src_Trust : KS U Tryz.prog := ⟨.rc 23 0 (Ty.st .Src) [.ty (Ty.i .i64)] (.one (Ty.st .Trust)) fun s a => F_play_Src_Trust s a.1, rcS (K := K) sa_play_Src_Trust 63 [.cell 4 (some 3)] [k_play_Src_N, k_play_Src_Range] (fk Tryz.f23 [] Tryz.func23)⟩

/-! ### (*trustquorum/trustquorumplay.Src).Text -/
noncomputable def sa_play_Src_Text : SA U := annA (scOf Tryz.prog 12 [] Tryz.f95) .e
noncomputable def F_play_Src_Text (s : TSrc) (a0 : (List ByteArray)) : Option (ByteArray × TSrc) :=
 Option.bind (F_play_Src_N s ((List.length a0 : Nat) : Int)) fun p1 =>
 Option.bind (idx a0 p1.1) fun x2 =>
 some (x2, p1.2)
noncomputable def k_play_Src_Text : KS U Tryz.prog := ⟨.rc 95 0 (Ty.st .Src) [.ty (Ty.sl Ty.str)] (.one Ty.str) fun s a => F_play_Src_Text s a.1, rcS (K := K) sa_play_Src_Text 12 [.tmp 4] [k_play_Src_N] (fk Tryz.f95 [] Tryz.func95)⟩

/-! ### (*trustquorum/trustquorumplay.Src).Value -/
noncomputable def sa_play_Src_Value : SA U := annA (scOf Tryz.prog 6 [] Tryz.f24) .e
noncomputable def F_play_Src_Value (s : TSrc)  : Option (ByteArray × TSrc) :=
 Option.bind (F_play_Src_Text s [(ByteArray.mk #[97]), (ByteArray.mk #[98]), (ByteArray.mk #[99]), (ByteArray.mk #[97, 97])]) fun p1 =>
 some (p1.1, p1.2)
noncomputable def k_play_Src_Value : KS U Tryz.prog := ⟨.rc 24 0 (Ty.st .Src) [] (.one Ty.str) fun s a => F_play_Src_Value s , rcS (K := K) sa_play_Src_Value 6 [.tmp 2] [k_play_Src_Text] (fk Tryz.f24 [] Tryz.func24)⟩

/-! ### (*trustquorum/trustquorumplay.Src).Low -/
noncomputable def sa_play_Src_Low : SA U := annA (scOf Tryz.prog 8 [] Tryz.f33) .e
noncomputable def F_play_Src_Low (s : TSrc)  : Option (TBallot × TSrc) :=
 Option.bind (F_play_Src_Range s (1 : Int) (6 : Int)) fun p1 =>
 Option.bind (F_play_Src_Value p1.2) fun p2 =>
 some ((TBallot.mk p1.1 p2.1), p2.2)
noncomputable def k_play_Src_Low : KS U Tryz.prog := ⟨.rc 33 0 (Ty.st .Src) [] (.one (Ty.st .Ballot)) fun s a => F_play_Src_Low s , rcS (K := K) sa_play_Src_Low 8 [.cell 2 (some 2)] [k_play_Src_Range, k_play_Src_Value] (fk Tryz.f33 [] Tryz.func33)⟩

/-! ### trustquorum/trustquorumref02.Depth -/
noncomputable def sa_ref02_Depth : SA U := annA (scOf Tryz.prog 20 [] Tryz.f177) (.r (.r (.l (.r (.l (.j ⟨[.val 3 (Ty.i .i64), .val 9 (Ty.i .i64)], [7, 8]⟩ .e))))))
noncomputable def B_ref02_Depth (rec : (TTrust × Unit) → Option Int) (a0 : TTrust) : Option Int :=
 loopO (fun (v1 : Int × Int × Unit) =>
 bif (decide (v1.2.1 < ((List.length a0.Inner : Nat) : Int))) then
 Option.bind (idx a0.Inner v1.2.1) fun x2 =>
 Option.bind (rec ((TTrust.mk x2.Threshold x2.Nodes x2.Inner), ())) fun r3 =>
 some (Sum.inl ((maxI v1.1 r3), (addI .i64 v1.2.1 (1 : Int)), ()))
 else
 Option.map Sum.inr (some (addI .i64 v1.1 (1 : Int)))) ((0 : Int), (0 : Int), ())
noncomputable def I_ref02_Depth : Nat → (TTrust × Unit) → Option Int := iterF (fun rec a => B_ref02_Depth rec a.1)
noncomputable def F_ref02_Depth (a0 : TTrust) : Option Int := I_ref02_Depth (SizeOf.sizeOf a0 + 1) (a0, ())
noncomputable def k_ref02_Depth : KS U Tryz.prog := ⟨.fn 177 [.ty (Ty.st .Trust)] (.one (Ty.i .i64)) fun a => F_ref02_Depth a.1, fnRS (K := K) («as» := [.ty (Ty.st .Trust)]) (r := .one (Ty.i .i64)) (B := fun rec a => B_ref02_Depth rec a.1) sa_ref02_Depth 20 [.tmp 2] [] (fk Tryz.f177 [] Tryz.func177) (hF := fun a => ⟨_, rfl⟩)⟩

/-! ### trustquorum/trustquorumref02.Size -/
noncomputable def sa_ref02_Size : SA U := annA (scOf Tryz.prog 26 [] Tryz.f178) (.r (.r (.l (.r (.l (.j ⟨[.val 3 (Ty.i .i64), .val 16 (Ty.i .i64)], [14, 15]⟩ .e))))))
noncomputable def B_ref02_Size (rec : (TTrust × Unit) → Option Int) (a0 : TTrust) : Option Int :=
 loopO (fun (v1 : Int × Int × Unit) =>
 bif (decide (v1.2.1 < ((List.length a0.Inner : Nat) : Int))) then
 Option.bind (idx a0.Inner v1.2.1) fun x2 =>
 Option.bind (rec ((TTrust.mk x2.Threshold x2.Nodes x2.Inner), ())) fun r3 =>
 some (Sum.inl ((addI .i64 v1.1 r3), (addI .i64 v1.2.1 (1 : Int)), ()))
 else
 Option.map Sum.inr (some v1.1)) ((addI .i64 ((List.length a0.Nodes : Nat) : Int) ((List.length a0.Inner : Nat) : Int)), (0 : Int), ())
noncomputable def I_ref02_Size : Nat → (TTrust × Unit) → Option Int := iterF (fun rec a => B_ref02_Size rec a.1)
noncomputable def F_ref02_Size (a0 : TTrust) : Option Int := I_ref02_Size (SizeOf.sizeOf a0 + 1) (a0, ())
noncomputable def k_ref02_Size : KS U Tryz.prog := ⟨.fn 178 [.ty (Ty.st .Trust)] (.one (Ty.i .i64)) fun a => F_ref02_Size a.1, fnRS (K := K) («as» := [.ty (Ty.st .Trust)]) (r := .one (Ty.i .i64)) (B := fun rec a => B_ref02_Size rec a.1) sa_ref02_Size 26 [.tmp 2] [] (fk Tryz.f178 [] Tryz.func178) (hF := fun a => ⟨_, rfl⟩)⟩

/-! ### trustquorum/trustquorumref01.Valid -/
noncomputable def sa_ref01_Valid : SA U := annA (scOf Tryz.prog 9 [] Tryz.f167) .e
noncomputable def F_ref01_Valid (a0 : Int) : Option Bool :=
 Option.bind (bif (decide ((0 : Int) ≤ a0)) then
 some (decide (a0 ≤ (1023 : Int)))
 else some false) fun b1 =>
 some b1
noncomputable def k_ref01_Valid : KS U Tryz.prog := ⟨.fn 167 [.ty (Ty.i .i64)] (.one Ty.bool) fun a => F_ref01_Valid a.1, fnS (K := K) sa_ref01_Valid 9 [.tmp 2] [] (fk Tryz.f167 [] Tryz.func167)⟩

/-! ### trustquorum/trustquorumref01.Has -/
noncomputable def sa_ref01_Has : SA U := annA (scOf Tryz.prog 22 [] Tryz.f169) .e
noncomputable def F_ref01_Has (a0 : Int) (a1 : Int) : Option Bool :=
 Option.bind (F_ref01_Valid a0) fun r1 =>
 Option.bind (bif r1 then
 some (decide ((0 : Int) ≤ a1))
 else some false) fun b2 =>
 Option.bind (bif b2 then
 some (decide (a1 < (10 : Int)))
 else some false) fun b3 =>
 Option.bind (bif b3 then
 if a1 < 0 then none else
 some (decide ((andI .i64 (shrI .i64 a0 a1) (1 : Int)) = (1 : Int)))
 else some false) fun b4 =>
 some b4
noncomputable def k_ref01_Has : KS U Tryz.prog := ⟨.fn 169 [.ty (Ty.i .i64), .ty (Ty.i .i64)] (.one Ty.bool) fun a => F_ref01_Has a.1 a.2.1, fnS (K := K) sa_ref01_Has 22 [.tmp 4] [k_ref01_Valid] (fk Tryz.f169 [] Tryz.func169)⟩

/-! ### trustquorum/trustquorumref01.Of -/
noncomputable def sa_ref01_Of : SA U := annA (scOf Tryz.prog 28 [] Tryz.f199) (.r (.r (.l (.r (.l (.j ⟨[.val 4 (Ty.i .i64), .val 9 (Ty.i .i64)], [7, 8]⟩ .e))))))
noncomputable def F_ref01_Of (a0 : (List Int)) : Option (Int × Int × Unit) :=
 loopO (fun (v1 : Int × Int × Unit) =>
 bif (decide (v1.2.1 < ((List.length a0 : Nat) : Int))) then
 Option.bind (idx a0 v1.2.1) fun x2 =>
 Option.bind (bif (decide (x2 < (0 : Int))) then some true
 else
 some (decide ((10 : Int) ≤ x2))) fun b3 =>
 bif b3 then
 Option.map Sum.inr (some ((0 : Int), (5 : Int), ()))
 else
 Option.bind (F_ref01_Has v1.1 x2) fun r4 =>
 bif r4 then
 Option.map Sum.inr (some ((0 : Int), (6 : Int), ()))
 else
 if x2 < 0 then none else
 some (Sum.inl ((orI .i64 v1.1 (shlI .i64 (1 : Int) x2)), (addI .i64 v1.2.1 (1 : Int)), ()))
 else
 Option.map Sum.inr (some (v1.1, (0 : Int), ()))) ((0 : Int), (0 : Int), ())
noncomputable def k_ref01_Of : KS U Tryz.prog := ⟨.fn 199 [.ty (Ty.sl (Ty.i .i64))] (.many [(Ty.i .i64), (Ty.i .i64)]) fun a => F_ref01_Of a.1, fnS (K := K) sa_ref01_Of 28 [.tmp 2, .tmp 3] [k_ref01_Has] (fk Tryz.f199 [] Tryz.func199)⟩

/-! ### trustquorum/trustquorumref02.check -/
noncomputable def sa_ref02_check : SA U := annA (scOf Tryz.prog 61 [] Tryz.f179) (.r (.r (.b (.r (.l (.j ⟨[.val 28 (Ty.i .i64)], [1, 26, 27]⟩ .e))) (.r (.l (.r (.l (.j ⟨[.val 51 (Ty.i .i64)], [49, 50]⟩ .e))))))))
noncomputable def B_ref02_check (rec : (TTrust × Unit) → Option Int) (a0 : TTrust) : Option Int :=
 Option.bind (bif (decide (a0.Threshold < (1 : Int))) then some true
 else
 some (decide ((addI .i64 ((List.length a0.Nodes : Nat) : Int) ((List.length a0.Inner : Nat) : Int)) < a0.Threshold))) fun b1 =>
 bif b1 then
 some (4 : Int)
 else
 loopO (fun (v2 : Int × Unit) =>
 bif (decide (v2.1 < ((List.length a0.Nodes : Nat) : Int))) then
 Option.bind (idx a0.Nodes v2.1) fun x3 =>
 Option.bind (bif (decide (x3 < (0 : Int))) then some true
 else
 some (decide ((10 : Int) ≤ x3))) fun b4 =>
 bif b4 then
 Option.map Sum.inr (some (5 : Int))
 else
 some (Sum.inl ((addI .i64 v2.1 (1 : Int)), ()))
 else
 Option.map Sum.inr (Option.bind (F_ref01_Of a0.Nodes) fun r5 =>
 bif (!decide (r5.2.1 = (0 : Int))) then
 some r5.2.1
 else
 loopO (fun (v6 : Int × Unit) =>
 bif (decide (v6.1 < ((List.length a0.Inner : Nat) : Int))) then
 Option.bind (idx a0.Inner v6.1) fun x7 =>
 Option.bind (rec ((TTrust.mk x7.Threshold x7.Nodes x7.Inner), ())) fun r8 =>
 bif (!decide (r8 = (0 : Int))) then
 Option.map Sum.inr (some r8)
 else
 some (Sum.inl ((addI .i64 v6.1 (1 : Int)), ()))
 else
 Option.map Sum.inr (some (0 : Int))) ((0 : Int), ()))) ((0 : Int), ())
noncomputable def I_ref02_check : Nat → (TTrust × Unit) → Option Int := iterF (fun rec a => B_ref02_check rec a.1)
noncomputable def F_ref02_check (a0 : TTrust) : Option Int := I_ref02_check (SizeOf.sizeOf a0 + 1) (a0, ())
noncomputable def k_ref02_check : KS U Tryz.prog := ⟨.fn 179 [.ty (Ty.st .Trust)] (.one (Ty.i .i64)) fun a => F_ref02_check a.1, fnRS (K := K) («as» := [.ty (Ty.st .Trust)]) (r := .one (Ty.i .i64)) (B := fun rec a => B_ref02_check rec a.1) sa_ref02_check 61 [.tmp 2] [k_ref01_Of] (fk Tryz.f179 [] Tryz.func179) (hF := fun a => ⟨_, rfl⟩)⟩

/-! ### trustquorum/trustquorumref02.Valid -/
noncomputable def sa_ref02_Valid : SA U := annA (scOf Tryz.prog 13 [] Tryz.f139) .e
noncomputable def F_ref02_Valid (a0 : TTrust) : Option Int :=
 Option.bind (F_ref02_Depth (TTrust.mk a0.Threshold a0.Nodes a0.Inner)) fun r1 =>
 Option.bind (bif (decide ((4 : Int) < r1)) then some true
 else
 Option.bind (F_ref02_Size (TTrust.mk a0.Threshold a0.Nodes a0.Inner)) fun r2 =>
 some (decide ((200 : Int) < r2))) fun b3 =>
 bif b3 then
 some (3 : Int)
 else
 Option.bind (F_ref02_check (TTrust.mk a0.Threshold a0.Nodes a0.Inner)) fun r4 =>
 some r4
noncomputable def k_ref02_Valid : KS U Tryz.prog := ⟨.fn 139 [.ty (Ty.st .Trust)] (.one (Ty.i .i64)) fun a => F_ref02_Valid a.1, fnS (K := K) sa_ref02_Valid 13 [.tmp 2] [k_ref02_Depth, k_ref02_Size, k_ref02_check] (fk Tryz.f139 [] Tryz.func139)⟩

/-! ### trustquorum/trustquorumref23.Valid -/
noncomputable def sa_ref23_Valid : SA U := annA (scOf Tryz.prog 28 [] Tryz.f140) .e
noncomputable def F_ref23_Valid (a0 : TBallot) : Option Bool :=
 Option.bind (bif (decide ((1 : Int) ≤ a0.Counter)) then
 some (decide (a0.Counter ≤ (1000 : Int)))
 else some false) fun b1 =>
 Option.bind (bif b1 then some true
 else
 some (decide (a0.Counter = (1000000 : Int)))) fun b2 =>
 Option.bind (bif b2 then
 some (decide ((1 : Int) ≤ ((ByteArray.size a0.Value : Nat) : Int)))
 else some false) fun b3 =>
 Option.bind (bif b3 then
 some (decide (((ByteArray.size a0.Value : Nat) : Int) ≤ (200 : Int)))
 else some false) fun b4 =>
 some b4
noncomputable def k_ref23_Valid : KS U Tryz.prog := ⟨.fn 140 [.ty (Ty.st .Ballot)] (.one Ty.bool) fun a => F_ref23_Valid a.1, fnS (K := K) sa_ref23_Valid 28 [.tmp 2] [] (fk Tryz.f140 [] Tryz.func140)⟩

/-! ### trustquorum/trustquorumref23.Zero -/
noncomputable def sa_ref23_Zero : SA U := annA (scOf Tryz.prog 6 [] Tryz.f39) .e
noncomputable def F_ref23_Zero (a0 : TBallot) : Option Bool :=
 some (eq2 false a0.Counter (0 : Int) a0.Value (ByteArray.mk #[]))
noncomputable def k_ref23_Zero : KS U Tryz.prog := ⟨.fn 39 [.ty (Ty.st .Ballot)] (.one Ty.bool) fun a => F_ref23_Zero a.1, fnS (K := K) sa_ref23_Zero 6 [.tmp 2] [] (fk Tryz.f39 [] Tryz.func39)⟩

/-! ### trustquorum/trustquorumref23.LessValue -/
noncomputable def sa_ref23_LessValue : SA U := annA (scOf Tryz.prog 18 [] Tryz.f18) .e
noncomputable def F_ref23_LessValue (a0 : ByteArray) (a1 : ByteArray) : Option Bool :=
 bif (!decide (((ByteArray.size a0 : Nat) : Int) = ((ByteArray.size a1 : Nat) : Int))) then
 some (decide (((ByteArray.size a0 : Nat) : Int) < ((ByteArray.size a1 : Nat) : Int)))
 else
 some (sless a0 a1)
noncomputable def k_ref23_LessValue : KS U Tryz.prog := ⟨.fn 18 [.ty Ty.str, .ty Ty.str] (.one Ty.bool) fun a => F_ref23_LessValue a.1 a.2.1, fnS (K := K) sa_ref23_LessValue 18 [.tmp 4] [] (fk Tryz.f18 [] Tryz.func18)⟩

/-! ### trustquorum/trustquorumref23.Less -/
noncomputable def sa_ref23_Less : SA U := annA (scOf Tryz.prog 20 [] Tryz.f15) .e
noncomputable def F_ref23_Less (a0 : TBallot) (a1 : TBallot) : Option Bool :=
 bif (!decide (a0.Counter = a1.Counter)) then
 some (decide (a0.Counter < a1.Counter))
 else
 Option.bind (F_ref23_LessValue a0.Value a1.Value) fun r1 =>
 some r1
noncomputable def k_ref23_Less : KS U Tryz.prog := ⟨.fn 15 [.ty (Ty.st .Ballot), .ty (Ty.st .Ballot)] (.one Ty.bool) fun a => F_ref23_Less a.1 a.2.1, fnS (K := K) sa_ref23_Less 20 [.tmp 4] [k_ref23_LessValue] (fk Tryz.f15 [] Tryz.func15)⟩

/-! ### trustquorum/trustquorumref23.Compatible -/
noncomputable def sa_ref23_Compatible : SA U := annA (scOf Tryz.prog 10 [] Tryz.f106) .e
noncomputable def F_ref23_Compatible (a0 : TBallot) (a1 : TBallot) : Option Bool :=
 some (decide (a0.Value = a1.Value))
noncomputable def k_ref23_Compatible : KS U Tryz.prog := ⟨.fn 106 [.ty (Ty.st .Ballot), .ty (Ty.st .Ballot)] (.one Ty.bool) fun a => F_ref23_Compatible a.1 a.2.1, fnS (K := K) sa_ref23_Compatible 10 [.tmp 4] [] (fk Tryz.f106 [] Tryz.func106)⟩

/-! ### trustquorum/trustquorumref23.Covers -/
noncomputable def sa_ref23_Covers : SA U := annA (scOf Tryz.prog 20 [] Tryz.f112) .e
noncomputable def F_ref23_Covers (a0 : TBallot) (a1 : TBallot) : Option Bool :=
 Option.bind (F_ref23_Zero a0) fun r1 =>
 Option.bind (bif (!r1) then
 Option.bind (F_ref23_Compatible a0 a1) fun r2 =>
 some r2
 else some false) fun b3 =>
 Option.bind (bif b3 then
 some (decide (a1.Counter ≤ a0.Counter))
 else some false) fun b4 =>
 some b4
noncomputable def k_ref23_Covers : KS U Tryz.prog := ⟨.fn 112 [.ty (Ty.st .Ballot), .ty (Ty.st .Ballot)] (.one Ty.bool) fun a => F_ref23_Covers a.1 a.2.1, fnS (K := K) sa_ref23_Covers 20 [.tmp 4] [k_ref23_Zero, k_ref23_Compatible] (fk Tryz.f112 [] Tryz.func112)⟩

/-! ### trustquorum/trustquorumref23.Prepares -/
noncomputable def sa_ref23_Prepares : SA U := annA (scOf Tryz.prog 25 [] Tryz.f40) .e
noncomputable def F_ref23_Prepares (a0 : TBallot) (a1 : TBallot) (a2 : TBallot) : Option Bool :=
 Option.bind (F_ref23_Covers a0 a2) fun r1 =>
 Option.bind (bif r1 then some true
 else
 Option.bind (F_ref23_Covers a1 a2) fun r2 =>
 some r2) fun b3 =>
 Option.bind (bif b3 then some true
 else
 Option.bind (F_ref23_Zero a1) fun r4 =>
 Option.bind (bif (!r4) then
 Option.bind (F_ref23_Less a2 a1) fun r5 =>
 some r5
 else some false) fun b6 =>
 some b6) fun b7 =>
 some b7
noncomputable def k_ref23_Prepares : KS U Tryz.prog := ⟨.fn 40 [.ty (Ty.st .Ballot), .ty (Ty.st .Ballot), .ty (Ty.st .Ballot)] (.one Ty.bool) fun a => F_ref23_Prepares a.1 a.2.1 a.2.2.1, fnS (K := K) sa_ref23_Prepares 25 [.tmp 6] [k_ref23_Covers, k_ref23_Zero, k_ref23_Less] (fk Tryz.f40 [] Tryz.func40)⟩

/-! ### trustquorum/trustquorumref23.Aborts -/
noncomputable def sa_ref23_Aborts : SA U := annA (scOf Tryz.prog 19 [] Tryz.f141) .e
noncomputable def F_ref23_Aborts (a0 : TBallot) (a1 : TBallot) : Option Bool :=
 Option.bind (F_ref23_Zero a0) fun r1 =>
 Option.bind (bif (!r1) then
 Option.bind (F_ref23_Compatible a0 a1) fun r2 =>
 some (!r2)
 else some false) fun b3 =>
 Option.bind (bif b3 then
 Option.bind (F_ref23_Less a1 a0) fun r4 =>
 some r4
 else some false) fun b5 =>
 some b5
noncomputable def k_ref23_Aborts : KS U Tryz.prog := ⟨.fn 141 [.ty (Ty.st .Ballot), .ty (Ty.st .Ballot)] (.one Ty.bool) fun a => F_ref23_Aborts a.1 a.2.1, fnS (K := K) sa_ref23_Aborts 19 [.tmp 4] [k_ref23_Zero, k_ref23_Compatible, k_ref23_Less] (fk Tryz.f141 [] Tryz.func141)⟩

/-! ### trustquorum/trustquorumref24.Valid -/
noncomputable def sa_ref24_Valid : SA U := annA (scOf Tryz.prog 227 [] Tryz.f76) .e
noncomputable def F_ref24_Valid (a0 : TEnvelope) : Option Bool :=
 Option.bind (bif (decide (a0.Node < (0 : Int))) then some true
 else
 some (decide ((9 : Int) < a0.Node))) fun b1 =>
 Option.bind (bif b1 then some true
 else
 some (decide (a0.Slot < (1 : Int)))) fun b2 =>
 Option.bind (bif b2 then some true
 else
 some (decide ((1000000 : Int) < a0.Slot))) fun b3 =>
 Option.bind (bif b3 then some true
 else
 some (decide (a0.Seq < (1 : Int)))) fun b4 =>
 Option.bind (bif b4 then some true
 else
 some (decide ((1000000 : Int) < a0.Seq))) fun b5 =>
 Option.bind (bif b5 then some true
 else
 Option.bind (F_ref02_Valid (TTrust.mk a0.Trust.Threshold a0.Trust.Nodes a0.Trust.Inner)) fun r6 =>
 some (!decide (r6 = (0 : Int)))) fun b7 =>
 Option.bind (bif b7 then some true
 else
 Option.bind (F_ref23_Valid a0.Ballot) fun r8 =>
 some (!r8)) fun b9 =>
 bif b9 then
 some false
 else
 Option.bind (F_ref23_Zero a0.Prepared) fun r10 =>
 bif (decide (a0.Kind = (1 : Int))) then
 Option.bind (bif (decide ((1000 : Int) < a0.Ballot.Counter)) then some true
 else
 Option.bind (bif (!r10) then
 Option.bind (F_ref23_Valid a0.Prepared) fun r11 =>
 some (!r11)
 else some false) fun b12 =>
 some b12) fun b13 =>
 bif b13 then
 some false
 else
 Option.bind (F_ref23_Zero a0.Prime) fun r14 =>
 Option.bind (bif (!r14) then
 Option.bind (bif r10 then some true
 else
 Option.bind (F_ref23_Valid a0.Prime) fun r15 =>
 some (!r15)) fun b16 =>
 Option.bind (bif b16 then some true
 else
 Option.bind (F_ref23_Less a0.Prime a0.Prepared) fun r17 =>
 some (!r17)) fun b18 =>
 Option.bind (bif b18 then some true
 else
 Option.bind (F_ref23_Compatible a0.Prime a0.Prepared) fun r19 =>
 some r19) fun b20 =>
 some b20
 else some false) fun b21 =>
 bif b21 then
 some false
 else
 Option.bind (bif (decide (a0.Low < (0 : Int))) then some true
 else
 some (decide (a0.High < a0.Low))) fun b22 =>
 Option.bind (bif b22 then some true
 else
 some (decide (a0.Ballot.Counter < a0.High))) fun b23 =>
 bif b23 then
 some false
 else
 Option.bind (bif (decide ((0 : Int) < a0.High)) then
 Option.bind (F_ref23_Prepares a0.Prepared a0.Prime (TBallot.mk a0.High a0.Ballot.Value)) fun r24 =>
 some (!r24)
 else some false) fun b25 =>
 bif b25 then
 some false
 else
 Option.bind (bif (decide (a0.Low = (0 : Int))) then some true
 else
 Option.bind (F_ref23_Aborts a0.Prepared (TBallot.mk a0.Low a0.Ballot.Value)) fun r26 =>
 Option.bind (bif (!r26) then
 Option.bind (F_ref23_Aborts a0.Prime (TBallot.mk a0.Low a0.Ballot.Value)) fun r27 =>
 some (!r27)
 else some false) fun b28 =>
 some b28) fun b29 =>
 some b29
 else
 bif (decide (a0.Kind = (2 : Int))) then
 Option.bind (bif (decide (a0.Ballot.Counter ≤ (1000 : Int))) then
 Option.bind (F_ref23_Valid a0.Prepared) fun r30 =>
 some r30
 else some false) fun b31 =>
 Option.bind (bif b31 then
 Option.bind (F_ref23_Compatible a0.Prepared a0.Ballot) fun r32 =>
 some r32
 else some false) fun b33 =>
 Option.bind (bif b33 then
 Option.bind (F_ref23_Zero a0.Prime) fun r34 =>
 some r34
 else some false) fun b35 =>
 Option.bind (bif b35 then
 some (decide ((1 : Int) ≤ a0.Low))
 else some false) fun b36 =>
 Option.bind (bif b36 then
 some (decide (a0.Low ≤ a0.High))
 else some false) fun b37 =>
 Option.bind (bif b37 then
 some (decide (a0.High ≤ a0.Prepared.Counter))
 else some false) fun b38 =>
 Option.bind (bif b38 then
 some (decide (a0.High ≤ (1000 : Int)))
 else some false) fun b39 =>
 some b39
 else
 bif (decide (a0.Kind = (3 : Int))) then
 Option.bind (bif r10 then
 Option.bind (F_ref23_Zero a0.Prime) fun r40 =>
 some r40
 else some false) fun b41 =>
 Option.bind (bif b41 then
 some (decide ((1 : Int) ≤ a0.Low))
 else some false) fun b42 =>
 Option.bind (bif b42 then
 some (decide (a0.Low ≤ a0.High))
 else some false) fun b43 =>
 Option.bind (bif b43 then
 some (decide (a0.High ≤ (1000 : Int)))
 else some false) fun b44 =>
 some b44
 else
 some false
noncomputable def k_ref24_Valid : KS U Tryz.prog := ⟨.fn 76 [.ty (Ty.st .Envelope)] (.one Ty.bool) fun a => F_ref24_Valid a.1, fnS (K := K) sa_ref24_Valid 227 [.tmp 2] [k_ref02_Valid, k_ref23_Valid, k_ref23_Zero, k_ref23_Less, k_ref23_Compatible, k_ref23_Prepares, k_ref23_Aborts] (fk Tryz.f76 [] Tryz.func76)⟩

/-! ### (*trustquorum/trustquorumplay.Src).Envelope -/
noncomputable def sa_play_Src_Envelope : SA U := annA (scOf Tryz.prog 113 [] Tryz.f70) (.r (.r (.r (.j ⟨[.box 0 0 (Ty.st .Src) [], .box 10 1 (Ty.st .Envelope) []], [8, 9]⟩ (.l (.r (.l (.j ⟨[.box 0 0 (Ty.st .Src) [], .box 10 1 (Ty.st .Envelope) []], [0, 8, 9, 10]⟩ (.r (.j ⟨[.box 0 0 (Ty.st .Src) [], .box 10 1 (Ty.st .Envelope) []], [8, 9]⟩ (.l (.r (.j ⟨[.box 0 0 (Ty.st .Src) [], .box 10 1 (Ty.st .Envelope) []], [0, 8, 9]⟩ (.r (.r (.r (.j ⟨[.box 10 1 (Ty.st .Envelope) []], [8, 9]⟩ (.r (.j ⟨[.box 10 1 (Ty.st .Envelope) []], [8, 9]⟩ .e)))))))))))))))))))
noncomputable def F_play_Src_Envelope (s : TSrc) (a0 : Int) (a1 : Int) (a2 : Int) : Option (TEnvelope × TSrc) :=
 Option.bind (F_play_Src_Range s (1 : Int) (9 : Int)) fun p1 =>
 Option.bind (F_play_Src_Trust p1.2 a2) fun p2 =>
 Option.bind (F_play_Src_Value p2.2) fun p3 =>
 letJ (fun (v4 : TSrc × TEnvelope × Unit) =>
 some ((TEnvelope.mk v4.2.1.Node v4.2.1.Slot v4.2.1.Seq (TTrust.mk v4.2.1.Trust.Threshold v4.2.1.Trust.Nodes v4.2.1.Trust.Inner) v4.2.1.Kind v4.2.1.Ballot v4.2.1.Prepared v4.2.1.Prime v4.2.1.Low v4.2.1.High), v4.1)) fun j5 =>
 Option.bind (F_play_Src_N p3.2 (4 : Int)) fun p6 =>
 letJ (fun (v7 : TSrc × TEnvelope × Unit) =>
 letJ (fun (v9 : TSrc × TEnvelope × Unit) =>
 j5 (v9.1, (TEnvelope.mk v9.2.1.Node v9.2.1.Slot v9.2.1.Seq (TTrust.mk v9.2.1.Trust.Threshold v9.2.1.Trust.Nodes v9.2.1.Trust.Inner) v9.2.1.Kind v9.2.1.Ballot v9.2.1.Prepared v9.2.1.Prime v9.2.1.Low v9.2.1.High), ())) fun j10 =>
 Option.bind (F_play_Src_Range v7.1 (1 : Int) (7 : Int)) fun p11 =>
 letJ (fun (v12 : TSrc × TEnvelope × Unit) =>
 Option.bind (F_play_Src_N v12.1 (addI .i64 v12.2.1.Ballot.Counter (1 : Int))) fun p14 =>
 Option.bind (F_play_Src_N p14.2 (addI .i64 p14.1 (1 : Int))) fun p15 =>
 letJ (fun (v16 : TEnvelope × Unit) =>
 letJ (fun (v18 : TEnvelope × Unit) =>
 Option.bind (F_ref24_Valid (TEnvelope.mk v18.1.Node v18.1.Slot v18.1.Seq (TTrust.mk v18.1.Trust.Threshold v18.1.Trust.Nodes v18.1.Trust.Inner) v18.1.Kind v18.1.Ballot v18.1.Prepared v18.1.Prime v18.1.Low v18.1.High)) fun r20 =>
 bif (!r20) then
 j10 (p15.2, (TEnvelope.mk v18.1.Node v18.1.Slot v18.1.Seq (TTrust.mk v18.1.Trust.Threshold v18.1.Trust.Nodes v18.1.Trust.Inner) v18.1.Kind v18.1.Ballot v18.1.Prepared (TBallot.mk (0 : Int) (ByteArray.mk #[])) v18.1.Low v18.1.High), ())
 else
 j10 (p15.2, (TEnvelope.mk v18.1.Node v18.1.Slot v18.1.Seq (TTrust.mk v18.1.Trust.Threshold v18.1.Trust.Nodes v18.1.Trust.Inner) v18.1.Kind v18.1.Ballot v18.1.Prepared v18.1.Prime v18.1.Low v18.1.High), ())) fun j19 =>
 Option.bind (F_ref24_Valid (TEnvelope.mk v16.1.Node v16.1.Slot v16.1.Seq (TTrust.mk v16.1.Trust.Threshold v16.1.Trust.Nodes v16.1.Trust.Inner) v16.1.Kind v16.1.Ballot v16.1.Prepared v16.1.Prime v16.1.Low v16.1.High)) fun r21 =>
 bif (!r21) then
 j19 ((TEnvelope.mk v16.1.Node v16.1.Slot v16.1.Seq (TTrust.mk v16.1.Trust.Threshold v16.1.Trust.Nodes v16.1.Trust.Inner) v16.1.Kind v16.1.Ballot v16.1.Prepared v16.1.Prime v16.1.Low (0 : Int)), ())
 else
 j19 ((TEnvelope.mk v16.1.Node v16.1.Slot v16.1.Seq (TTrust.mk v16.1.Trust.Threshold v16.1.Trust.Nodes v16.1.Trust.Inner) v16.1.Kind v16.1.Ballot v16.1.Prepared v16.1.Prime v16.1.Low v16.1.High), ())) fun j17 =>
 Option.bind (F_ref24_Valid (TEnvelope.mk v12.2.1.Node v12.2.1.Slot v12.2.1.Seq (TTrust.mk v12.2.1.Trust.Threshold v12.2.1.Trust.Nodes v12.2.1.Trust.Inner) v12.2.1.Kind v12.2.1.Ballot v12.2.1.Prepared v12.2.1.Prime p15.1 p14.1)) fun r22 =>
 bif (!r22) then
 j17 ((TEnvelope.mk v12.2.1.Node v12.2.1.Slot v12.2.1.Seq (TTrust.mk v12.2.1.Trust.Threshold v12.2.1.Trust.Nodes v12.2.1.Trust.Inner) v12.2.1.Kind v12.2.1.Ballot v12.2.1.Prepared v12.2.1.Prime (0 : Int) p14.1), ())
 else
 j17 ((TEnvelope.mk v12.2.1.Node v12.2.1.Slot v12.2.1.Seq (TTrust.mk v12.2.1.Trust.Threshold v12.2.1.Trust.Nodes v12.2.1.Trust.Inner) v12.2.1.Kind v12.2.1.Ballot v12.2.1.Prepared v12.2.1.Prime p15.1 p14.1), ())) fun j13 =>
 Option.bind (F_play_Src_N p11.2 (3 : Int)) fun p23 =>
 bif (decide ((0 : Int) < p23.1)) then
 Option.bind (F_play_Src_Low p23.2) fun p24 =>
 Option.bind (F_play_Src_N p24.2 (2 : Int)) fun p25 =>
 bif (decide (p25.1 = (1 : Int))) then
 Option.bind (F_play_Src_Low p25.2) fun p26 =>
 j13 (p26.2, (TEnvelope.mk v7.2.1.Node v7.2.1.Slot v7.2.1.Seq (TTrust.mk v7.2.1.Trust.Threshold v7.2.1.Trust.Nodes v7.2.1.Trust.Inner) (1 : Int) (TBallot.mk p11.1 p3.1) p24.1 p26.1 v7.2.1.Low v7.2.1.High), ())
 else
 j13 (p25.2, (TEnvelope.mk v7.2.1.Node v7.2.1.Slot v7.2.1.Seq (TTrust.mk v7.2.1.Trust.Threshold v7.2.1.Trust.Nodes v7.2.1.Trust.Inner) (1 : Int) (TBallot.mk p11.1 p3.1) p24.1 v7.2.1.Prime v7.2.1.Low v7.2.1.High), ())
 else
 j13 (p23.2, (TEnvelope.mk v7.2.1.Node v7.2.1.Slot v7.2.1.Seq (TTrust.mk v7.2.1.Trust.Threshold v7.2.1.Trust.Nodes v7.2.1.Trust.Inner) (1 : Int) (TBallot.mk p11.1 p3.1) v7.2.1.Prepared v7.2.1.Prime v7.2.1.Low v7.2.1.High), ())) fun j8 =>
 bif (decide (p6.1 = (0 : Int))) then
 Option.bind (F_play_Src_Range p6.2 (1 : Int) (7 : Int)) fun p27 =>
 Option.bind (F_play_Src_Range p27.2 (1 : Int) (4 : Int)) fun p28 =>
 Option.bind (F_play_Src_N p28.2 (3 : Int)) fun p29 =>
 Option.bind (F_play_Src_N p29.2 (3 : Int)) fun p30 =>
 j5 (p30.2, (TEnvelope.mk a0 a1 p1.1 (TTrust.mk p2.1.Threshold p2.1.Nodes p2.1.Inner) (2 : Int) (TBallot.mk p27.1 p3.1) (TBallot.mk (addI .i64 (addI .i64 p28.1 p29.1) p30.1) p3.1) (TBallot.mk (0 : Int) (ByteArray.mk #[])) p28.1 (addI .i64 p28.1 p29.1)), ())
 else
 bif (decide (p6.1 = (1 : Int))) then
 Option.bind (F_play_Src_N p6.2 (3 : Int)) fun p31 =>
 bif (decide ((0 : Int) < p31.1)) then
 Option.bind (F_play_Src_Range p31.2 (1 : Int) (7 : Int)) fun p32 =>
 Option.bind (F_play_Src_Range p32.2 (1 : Int) (4 : Int)) fun p33 =>
 Option.bind (F_play_Src_N p33.2 (3 : Int)) fun p34 =>
 j5 (p34.2, (TEnvelope.mk a0 a1 p1.1 (TTrust.mk p2.1.Threshold p2.1.Nodes p2.1.Inner) (3 : Int) (TBallot.mk p32.1 p3.1) (TBallot.mk (0 : Int) (ByteArray.mk #[])) (TBallot.mk (0 : Int) (ByteArray.mk #[])) p33.1 (addI .i64 p33.1 p34.1)), ())
 else
 j8 (p31.2, (TEnvelope.mk a0 a1 p1.1 (TTrust.mk p2.1.Threshold p2.1.Nodes p2.1.Inner) (0 : Int) (TBallot.mk (0 : Int) (ByteArray.mk #[])) (TBallot.mk (0 : Int) (ByteArray.mk #[])) (TBallot.mk (0 : Int) (ByteArray.mk #[])) (0 : Int) (0 : Int)), ())
 else
 j8 (p6.2, (TEnvelope.mk a0 a1 p1.1 (TTrust.mk p2.1.Threshold p2.1.Nodes p2.1.Inner) (0 : Int) (TBallot.mk (0 : Int) (ByteArray.mk #[])) (TBallot.mk (0 : Int) (ByteArray.mk #[])) (TBallot.mk (0 : Int) (ByteArray.mk #[])) (0 : Int) (0 : Int)), ())
noncomputable def k_play_Src_Envelope : KS U Tryz.prog := ⟨.rc 70 0 (Ty.st .Src) [.ty (Ty.i .i64), .ty (Ty.i .i64), .ty (Ty.i .i64)] (.one (Ty.st .Envelope)) fun s a => F_play_Src_Envelope s a.1 a.2.1 a.2.2.1, rcS (K := K) sa_play_Src_Envelope 113 [.cell 8 (some 15)] [k_play_Src_Range, k_play_Src_Trust, k_play_Src_Value, k_play_Src_N, k_play_Src_Low, k_ref24_Valid] (fk Tryz.f70 [] Tryz.func70)⟩

/-! ### (*trustquorum/trustquorumplay.Src).Envelopes -/
noncomputable def sa_play_Src_Envelopes : SA U := annA (scOf Tryz.prog 26 [] Tryz.f12) (.r (.r (.l (.r (.l (.ps (.own 7 38 15 (Ty.st .Envelope)) (.j ⟨[.val 8 (Ty.i .i64), .own 7 4 1 38 15 (Ty.st .Envelope), .box 0 0 (Ty.st .Src) []], [0, 1, 2]⟩ (.l (.r (.j ⟨[.own 7 4 1 38 15 (Ty.st .Envelope), .box 0 0 (Ty.st .Src) []], [0, 1, 2, 8]⟩ .e))))))))))
noncomputable def F_play_Src_Envelopes (s : TSrc) (a0 : Int) (a1 : Int) : Option ((List TEnvelope) × TSrc) :=
 loopO (fun (v1 : Int × (List TEnvelope) × TSrc × Unit) =>
 bif (decide (v1.1 < a0)) then
 letJ (fun (v2 : (List TEnvelope) × TSrc × Unit) =>
 some (Sum.inl ((addI .i64 v1.1 (1 : Int)), v2.1, v2.2.1, ()))) fun j3 =>
 Option.bind (F_play_Src_N v1.2.2.1 (4 : Int)) fun p4 =>
 bif (decide ((0 : Int) < p4.1)) then
 Option.bind (F_play_Src_Envelope p4.2 v1.1 a1 a0) fun p5 =>
 bif lenOk 176 (List.length v1.2.1 + List.length [(TEnvelope.mk p5.1.Node p5.1.Slot p5.1.Seq (TTrust.mk p5.1.Trust.Threshold p5.1.Trust.Nodes p5.1.Trust.Inner) p5.1.Kind p5.1.Ballot p5.1.Prepared p5.1.Prime p5.1.Low p5.1.High)]) then
 j3 ((v1.2.1 ++ [(TEnvelope.mk p5.1.Node p5.1.Slot p5.1.Seq (TTrust.mk p5.1.Trust.Threshold p5.1.Trust.Nodes p5.1.Trust.Inner) p5.1.Kind p5.1.Ballot p5.1.Prepared p5.1.Prime p5.1.Low p5.1.High)]), p5.2, ())
 else none
 else
 j3 (v1.2.1, p4.2, ())
 else
 Option.map Sum.inr (some (v1.2.1, v1.2.2.1))) ((0 : Int), ([] : List TEnvelope), s, ())
noncomputable def k_play_Src_Envelopes : KS U Tryz.prog := ⟨.rc 12 0 (Ty.st .Src) [.ty (Ty.i .i64), .ty (Ty.i .i64)] (.one (Ty.sl (Ty.st .Envelope))) fun s a => F_play_Src_Envelopes s a.1 a.2.1, rcS (K := K) sa_play_Src_Envelopes 26 [.tmp 6] [k_play_Src_N, k_play_Src_Envelope] (fk Tryz.f12 [] Tryz.func12)⟩

/-! ### trustquorum/threshold.Depth -/
noncomputable def sa_threshold_Depth : SA U := annA (scOf Tryz.prog 20 [] Tryz.f173) (.r (.r (.l (.r (.l (.j ⟨[.val 3 (Ty.i .i64), .val 9 (Ty.i .i64)], [7, 8]⟩ .e))))))
noncomputable def B_threshold_Depth (rec : (TTrust × Unit) → Option Int) (a0 : TTrust) : Option Int :=
 loopO (fun (v1 : Int × Int × Unit) =>
 bif (decide (v1.2.1 < ((List.length a0.Inner : Nat) : Int))) then
 Option.bind (idx a0.Inner v1.2.1) fun x2 =>
 Option.bind (rec ((TTrust.mk x2.Threshold x2.Nodes x2.Inner), ())) fun r3 =>
 some (Sum.inl ((maxI v1.1 r3), (addI .i64 v1.2.1 (1 : Int)), ()))
 else
 Option.map Sum.inr (some (addI .i64 v1.1 (1 : Int)))) ((0 : Int), (0 : Int), ())
noncomputable def I_threshold_Depth : Nat → (TTrust × Unit) → Option Int := iterF (fun rec a => B_threshold_Depth rec a.1)
noncomputable def F_threshold_Depth (a0 : TTrust) : Option Int := I_threshold_Depth (SizeOf.sizeOf a0 + 1) (a0, ())
noncomputable def k_threshold_Depth : KS U Tryz.prog := ⟨.fn 173 [.ty (Ty.st .Trust)] (.one (Ty.i .i64)) fun a => F_threshold_Depth a.1, fnRS (K := K) («as» := [.ty (Ty.st .Trust)]) (r := .one (Ty.i .i64)) (B := fun rec a => B_threshold_Depth rec a.1) sa_threshold_Depth 20 [.tmp 2] [] (fk Tryz.f173 [] Tryz.func173) (hF := fun a => ⟨_, rfl⟩)⟩

/-! ### trustquorum/threshold.Size -/
noncomputable def sa_threshold_Size : SA U := annA (scOf Tryz.prog 26 [] Tryz.f174) (.r (.r (.l (.r (.l (.j ⟨[.val 3 (Ty.i .i64), .val 16 (Ty.i .i64)], [14, 15]⟩ .e))))))
noncomputable def B_threshold_Size (rec : (TTrust × Unit) → Option Int) (a0 : TTrust) : Option Int :=
 loopO (fun (v1 : Int × Int × Unit) =>
 bif (decide (v1.2.1 < ((List.length a0.Inner : Nat) : Int))) then
 Option.bind (idx a0.Inner v1.2.1) fun x2 =>
 Option.bind (rec ((TTrust.mk x2.Threshold x2.Nodes x2.Inner), ())) fun r3 =>
 some (Sum.inl ((addI .i64 v1.1 r3), (addI .i64 v1.2.1 (1 : Int)), ()))
 else
 Option.map Sum.inr (some v1.1)) ((addI .i64 ((List.length a0.Nodes : Nat) : Int) ((List.length a0.Inner : Nat) : Int)), (0 : Int), ())
noncomputable def I_threshold_Size : Nat → (TTrust × Unit) → Option Int := iterF (fun rec a => B_threshold_Size rec a.1)
noncomputable def F_threshold_Size (a0 : TTrust) : Option Int := I_threshold_Size (SizeOf.sizeOf a0 + 1) (a0, ())
noncomputable def k_threshold_Size : KS U Tryz.prog := ⟨.fn 174 [.ty (Ty.st .Trust)] (.one (Ty.i .i64)) fun a => F_threshold_Size a.1, fnRS (K := K) («as» := [.ty (Ty.st .Trust)]) (r := .one (Ty.i .i64)) (B := fun rec a => B_threshold_Size rec a.1) sa_threshold_Size 26 [.tmp 2] [] (fk Tryz.f174 [] Tryz.func174) (hF := fun a => ⟨_, rfl⟩)⟩

/-! ### trustquorum/threshold.node -/
noncomputable def sa_threshold_node : SA U := annA (scOf Tryz.prog 9 [] Tryz.f197) .e
noncomputable def F_threshold_node (a0 : Int) : Option Bool :=
 Option.bind (bif (decide ((0 : Int) ≤ a0)) then
 some (decide (a0 < (10 : Int)))
 else some false) fun b1 =>
 some b1
noncomputable def k_threshold_node : KS U Tryz.prog := ⟨.fn 197 [.ty (Ty.i .i64)] (.one Ty.bool) fun a => F_threshold_node a.1, fnS (K := K) sa_threshold_node 9 [.tmp 2] [] (fk Tryz.f197 [] Tryz.func197)⟩

/-! ### trustquorum/threshold.level$1 -/
noncomputable def sa_threshold_level_1 : SA U := annA (scOf Tryz.prog 6 [] Tryz.f196) .e
noncomputable def F_threshold_level_1 (a0 : Int) : Option Bool :=
 Option.bind (F_threshold_node a0) fun r1 =>
 some (!r1)
noncomputable def k_threshold_level_1 : KS U Tryz.prog := ⟨.fn 196 [.ty (Ty.i .i64)] (.one Ty.bool) fun a => F_threshold_level_1 a.1, fnS (K := K) sa_threshold_level_1 6 [.tmp 2] [k_threshold_node] (fk Tryz.f196 [] Tryz.func196)⟩

/-! ### slices.IndexFunc[[]int,int] -/
noncomputable def sa_slices_IndexFunc_int_int_c196 : SA U := annA (scOf Tryz.prog 19 [] Tryz.f231) (.r (.l (.r (.l (.j ⟨[.val 8 (Ty.i .i64)], [0, 1, 7]⟩ .e)))))
noncomputable def F_slices_IndexFunc_int_int_c196 (a0 : (List Int)) : Option Int :=
 loopO (fun (v1 : Int × Unit) =>
 bif (decide (v1.1 < ((List.length a0 : Nat) : Int))) then
 Option.bind (idx a0 v1.1) fun x2 =>
 Option.bind (F_threshold_level_1 x2) fun r3 =>
 bif r3 then
 Option.map Sum.inr (some v1.1)
 else
 some (Sum.inl ((addI .i64 v1.1 (1 : Int)), ()))
 else
 Option.map Sum.inr (some (-1 : Int))) ((0 : Int), ())
noncomputable def k_slices_IndexFunc_int_int_c196 : KS U Tryz.prog := ⟨.fn 231 [.ty (Ty.sl (Ty.i .i64)), .clo 196 []] (.one (Ty.i .i64)) fun a => F_slices_IndexFunc_int_int_c196 a.1, fnS (K := K) sa_slices_IndexFunc_int_int_c196 19 [.tmp 4] [k_threshold_level_1] (fk Tryz.f231 [] Tryz.func231)⟩

/-! ### slices.ContainsFunc[[]int,int] -/
noncomputable def sa_slices_ContainsFunc_int_int_c196 : SA U := annA (scOf Tryz.prog 9 [] Tryz.f195) .e
noncomputable def F_slices_ContainsFunc_int_int_c196 (a0 : (List Int)) : Option Bool :=
 Option.bind (F_slices_IndexFunc_int_int_c196 a0) fun r1 =>
 some (decide ((0 : Int) ≤ r1))
noncomputable def k_slices_ContainsFunc_int_int_c196 : KS U Tryz.prog := ⟨.fn 195 [.ty (Ty.sl (Ty.i .i64)), .clo 196 []] (.one Ty.bool) fun a => F_slices_ContainsFunc_int_int_c196 a.1, fnS (K := K) sa_slices_ContainsFunc_int_int_c196 9 [.tmp 4] [k_slices_IndexFunc_int_int_c196] (fk Tryz.f195 [] Tryz.func195)⟩

/-! ### trustquorum/nodeset.below -/
noncomputable def sa_nodeset_below : SA U := annA (scOf Tryz.prog 13 [] Tryz.f243) .e
noncomputable def F_nodeset_below (a0 : Int) (a1 : Int) : Option Bool :=
 Option.bind (bif (decide ((0 : Int) ≤ a0)) then
 if a1 < 0 then none else
 some (decide (a0 < (shlI .i64 (1 : Int) a1)))
 else some false) fun b1 =>
 some b1
noncomputable def k_nodeset_below : KS U Tryz.prog := ⟨.fn 243 [.ty (Ty.i .i64), .ty (Ty.i .i64)] (.one Ty.bool) fun a => F_nodeset_below a.1 a.2.1, fnS (K := K) sa_nodeset_below 13 [.tmp 4] [] (fk Tryz.f243 [] Tryz.func243)⟩

/-! ### trustquorum/nodeset.Valid -/
noncomputable def sa_nodeset_Valid : SA U := annA (scOf Tryz.prog 5 [] Tryz.f226) .e
noncomputable def F_nodeset_Valid (a0 : Int) : Option Bool :=
 Option.bind (F_nodeset_below a0 (10 : Int)) fun r1 =>
 some r1
noncomputable def k_nodeset_Valid : KS U Tryz.prog := ⟨.fn 226 [.ty (Ty.i .i64)] (.one Ty.bool) fun a => F_nodeset_Valid a.1, fnS (K := K) sa_nodeset_Valid 5 [.tmp 2] [k_nodeset_below] (fk Tryz.f226 [] Tryz.func226)⟩

/-! ### trustquorum/nodeset.Has -/
noncomputable def sa_nodeset_Has : SA U := annA (scOf Tryz.prog 22 [] Tryz.f188) .e
noncomputable def F_nodeset_Has (a0 : Int) (a1 : Int) : Option Bool :=
 Option.bind (F_nodeset_Valid a0) fun r1 =>
 Option.bind (bif r1 then
 some (decide ((0 : Int) ≤ a1))
 else some false) fun b2 =>
 Option.bind (bif b2 then
 some (decide (a1 < (10 : Int)))
 else some false) fun b3 =>
 Option.bind (bif b3 then
 if a1 < 0 then none else
 some (!decide ((andI .i64 a0 (shlI .i64 (1 : Int) a1)) = (0 : Int)))
 else some false) fun b4 =>
 some b4
noncomputable def k_nodeset_Has : KS U Tryz.prog := ⟨.fn 188 [.ty (Ty.i .i64), .ty (Ty.i .i64)] (.one Ty.bool) fun a => F_nodeset_Has a.1 a.2.1, fnS (K := K) sa_nodeset_Has 22 [.tmp 4] [k_nodeset_Valid] (fk Tryz.f188 [] Tryz.func188)⟩

/-! ### trustquorum/nodeset.Of -/
noncomputable def sa_nodeset_Of : SA U := annA (scOf Tryz.prog 28 [] Tryz.f198) (.r (.r (.l (.r (.l (.j ⟨[.val 4 (Ty.i .i64), .val 9 (Ty.i .i64)], [7, 8]⟩ .e))))))
noncomputable def F_nodeset_Of (a0 : (List Int)) : Option (Int × Int × Unit) :=
 loopO (fun (v1 : Int × Int × Unit) =>
 bif (decide (v1.2.1 < ((List.length a0 : Nat) : Int))) then
 Option.bind (idx a0 v1.2.1) fun x2 =>
 Option.bind (bif (decide (x2 < (0 : Int))) then some true
 else
 some (decide ((10 : Int) ≤ x2))) fun b3 =>
 bif b3 then
 Option.map Sum.inr (some ((0 : Int), (5 : Int), ()))
 else
 Option.bind (F_nodeset_Has v1.1 x2) fun r4 =>
 bif r4 then
 Option.map Sum.inr (some ((0 : Int), (6 : Int), ()))
 else
 if x2 < 0 then none else
 some (Sum.inl ((orI .i64 v1.1 (shlI .i64 (1 : Int) x2)), (addI .i64 v1.2.1 (1 : Int)), ()))
 else
 Option.map Sum.inr (some (v1.1, (0 : Int), ()))) ((0 : Int), (0 : Int), ())
noncomputable def k_nodeset_Of : KS U Tryz.prog := ⟨.fn 198 [.ty (Ty.sl (Ty.i .i64))] (.many [(Ty.i .i64), (Ty.i .i64)]) fun a => F_nodeset_Of a.1, fnS (K := K) sa_nodeset_Of 28 [.tmp 2, .tmp 3] [k_nodeset_Has] (fk Tryz.f198 [] Tryz.func198)⟩

/-! ### trustquorum/threshold.level -/
noncomputable def sa_threshold_level : SA U := annA (scOf Tryz.prog 48 [] Tryz.f175) (.r (.r (.r (.r (.l (.r (.l (.j ⟨[.val 38 (Ty.i .i64)], [36, 37]⟩ .e))))))))
noncomputable def B_threshold_level (rec : (TTrust × Unit) → Option Int) (a0 : TTrust) : Option Int :=
 Option.bind (bif (decide (a0.Threshold < (1 : Int))) then some true
 else
 some (decide ((addI .i64 ((List.length a0.Nodes : Nat) : Int) ((List.length a0.Inner : Nat) : Int)) < a0.Threshold))) fun b1 =>
 bif b1 then
 some (4 : Int)
 else
 Option.bind (F_slices_ContainsFunc_int_int_c196 a0.Nodes) fun r2 =>
 bif r2 then
 some (5 : Int)
 else
 Option.bind (F_nodeset_Of a0.Nodes) fun r3 =>
 bif (!decide (r3.2.1 = (0 : Int))) then
 some r3.2.1
 else
 loopO (fun (v4 : Int × Unit) =>
 bif (decide (v4.1 < ((List.length a0.Inner : Nat) : Int))) then
 Option.bind (idx a0.Inner v4.1) fun x5 =>
 Option.bind (rec ((TTrust.mk x5.Threshold x5.Nodes x5.Inner), ())) fun r6 =>
 bif (!decide (r6 = (0 : Int))) then
 Option.map Sum.inr (some r6)
 else
 some (Sum.inl ((addI .i64 v4.1 (1 : Int)), ()))
 else
 Option.map Sum.inr (some (0 : Int))) ((0 : Int), ())
noncomputable def I_threshold_level : Nat → (TTrust × Unit) → Option Int := iterF (fun rec a => B_threshold_level rec a.1)
noncomputable def F_threshold_level (a0 : TTrust) : Option Int := I_threshold_level (SizeOf.sizeOf a0 + 1) (a0, ())
noncomputable def k_threshold_level : KS U Tryz.prog := ⟨.fn 175 [.ty (Ty.st .Trust)] (.one (Ty.i .i64)) fun a => F_threshold_level a.1, fnRS (K := K) («as» := [.ty (Ty.st .Trust)]) (r := .one (Ty.i .i64)) (B := fun rec a => B_threshold_level rec a.1) sa_threshold_level 48 [.tmp 2] [k_slices_ContainsFunc_int_int_c196, k_nodeset_Of] (fk Tryz.f175 [] Tryz.func175) (hF := fun a => ⟨_, rfl⟩)⟩

/-! ### trustquorum/threshold.Valid -/
noncomputable def sa_threshold_Valid : SA U := annA (scOf Tryz.prog 13 [] Tryz.f135) .e
noncomputable def F_threshold_Valid (a0 : TTrust) : Option Int :=
 Option.bind (F_threshold_Depth (TTrust.mk a0.Threshold a0.Nodes a0.Inner)) fun r1 =>
 Option.bind (bif (decide ((4 : Int) < r1)) then some true
 else
 Option.bind (F_threshold_Size (TTrust.mk a0.Threshold a0.Nodes a0.Inner)) fun r2 =>
 some (decide ((200 : Int) < r2))) fun b3 =>
 bif b3 then
 some (3 : Int)
 else
 Option.bind (F_threshold_level (TTrust.mk a0.Threshold a0.Nodes a0.Inner)) fun r4 =>
 some r4
noncomputable def k_threshold_Valid : KS U Tryz.prog := ⟨.fn 135 [.ty (Ty.st .Trust)] (.one (Ty.i .i64)) fun a => F_threshold_Valid a.1, fnS (K := K) sa_threshold_Valid 13 [.tmp 2] [k_threshold_Depth, k_threshold_Size, k_threshold_level] (fk Tryz.f135 [] Tryz.func135)⟩

/-! ### trustquorum/ballots.Zero -/
noncomputable def sa_ballots_Zero : SA U := annA (scOf Tryz.prog 6 [] Tryz.f85) .e
noncomputable def F_ballots_Zero (a0 : TBallot) : Option Bool :=
 some (eq2 false a0.Counter (0 : Int) a0.Value (ByteArray.mk #[]))
noncomputable def k_ballots_Zero : KS U Tryz.prog := ⟨.fn 85 [.ty (Ty.st .Ballot)] (.one Ty.bool) fun a => F_ballots_Zero a.1, fnS (K := K) sa_ballots_Zero 6 [.tmp 2] [] (fk Tryz.f85 [] Tryz.func85)⟩

/-! ### cmp.isNaN[int] -/
noncomputable def sa_cmp_isNaN_int : SA U := annA (scOf Tryz.prog 6 [] Tryz.f154) .e
noncomputable def F_cmp_isNaN_int (a0 : Int) : Option Bool :=
 some (!decide (a0 = a0))
noncomputable def k_cmp_isNaN_int : KS U Tryz.prog := ⟨.fn 154 [.ty (Ty.i .i64)] (.one Ty.bool) fun a => F_cmp_isNaN_int a.1, fnS (K := K) sa_cmp_isNaN_int 6 [.tmp 2] [] (fk Tryz.f154 [] Tryz.func154)⟩

/-! ### cmp.Compare[int] -/
noncomputable def sa_cmp_Compare_int : SA U := annA (scOf Tryz.prog 20 [] Tryz.f93) .e
noncomputable def F_cmp_Compare_int (a0 : Int) (a1 : Int) : Option Int :=
 Option.bind (F_cmp_isNaN_int a0) fun r1 =>
 Option.bind (F_cmp_isNaN_int a1) fun r2 =>
 bif r1 then
 bif r2 then
 some (0 : Int)
 else
 some (-1 : Int)
 else
 bif r2 then
 some (1 : Int)
 else
 bif (decide (a0 < a1)) then
 some (-1 : Int)
 else
 bif (decide (a1 < a0)) then
 some (1 : Int)
 else
 some (0 : Int)
noncomputable def k_cmp_Compare_int : KS U Tryz.prog := ⟨.fn 93 [.ty (Ty.i .i64), .ty (Ty.i .i64)] (.one (Ty.i .i64)) fun a => F_cmp_Compare_int a.1 a.2.1, fnS (K := K) sa_cmp_Compare_int 20 [.tmp 4] [k_cmp_isNaN_int] (fk Tryz.f93 [] Tryz.func93)⟩

/-! ### cmp.isNaN[string] -/
noncomputable def sa_cmp_isNaN_string : SA U := annA (scOf Tryz.prog 6 [] Tryz.f183) .e
noncomputable def F_cmp_isNaN_string (a0 : ByteArray) : Option Bool :=
 some (!decide (a0 = a0))
noncomputable def k_cmp_isNaN_string : KS U Tryz.prog := ⟨.fn 183 [.ty Ty.str] (.one Ty.bool) fun a => F_cmp_isNaN_string a.1, fnS (K := K) sa_cmp_isNaN_string 6 [.tmp 2] [] (fk Tryz.f183 [] Tryz.func183)⟩

/-! ### cmp.Compare[string] -/
noncomputable def sa_cmp_Compare_string : SA U := annA (scOf Tryz.prog 20 [] Tryz.f150) .e
noncomputable def F_cmp_Compare_string (a0 : ByteArray) (a1 : ByteArray) : Option Int :=
 Option.bind (F_cmp_isNaN_string a0) fun r1 =>
 Option.bind (F_cmp_isNaN_string a1) fun r2 =>
 bif r1 then
 bif r2 then
 some (0 : Int)
 else
 some (-1 : Int)
 else
 bif r2 then
 some (1 : Int)
 else
 bif (sless a0 a1) then
 some (-1 : Int)
 else
 bif (!(sless a0 a1 || decide (a0 = a1))) then
 some (1 : Int)
 else
 some (0 : Int)
noncomputable def k_cmp_Compare_string : KS U Tryz.prog := ⟨.fn 150 [.ty Ty.str, .ty Ty.str] (.one (Ty.i .i64)) fun a => F_cmp_Compare_string a.1 a.2.1, fnS (K := K) sa_cmp_Compare_string 20 [.tmp 4] [k_cmp_isNaN_string] (fk Tryz.f150 [] Tryz.func150)⟩

/-! ### cmp.Or[int] -/
noncomputable def sa_cmp_Or_int : SA U := annA (scOf Tryz.prog 18 [] Tryz.f147) (.r (.r (.l (.r (.l (.j ⟨[.val 8 (Ty.i .i64)], [3, 6, 7]⟩ .e))))))
noncomputable def F_cmp_Or_int (a0 : (List Int)) : Option Int :=
 loopO (fun (v1 : Int × Unit) =>
 bif (decide (v1.1 < ((List.length a0 : Nat) : Int))) then
 Option.bind (idx a0 v1.1) fun x2 =>
 bif (!decide (x2 = (0 : Int))) then
 Option.map Sum.inr (some x2)
 else
 some (Sum.inl ((addI .i64 v1.1 (1 : Int)), ()))
 else
 Option.map Sum.inr (some (0 : Int))) ((0 : Int), ())
noncomputable def k_cmp_Or_int : KS U Tryz.prog := ⟨.fn 147 [.ty (Ty.sl (Ty.i .i64))] (.one (Ty.i .i64)) fun a => F_cmp_Or_int a.1, fnS (K := K) sa_cmp_Or_int 18 [.tmp 2] [] (fk Tryz.f147 [] Tryz.func147)⟩

/-! ### trustquorum/ballots.CompareValues -/
noncomputable def sa_ballots_CompareValues : SA U := annA (scOf Tryz.prog 15 [] Tryz.f89) .e
noncomputable def F_ballots_CompareValues (a0 : ByteArray) (a1 : ByteArray) : Option Int :=
 Option.bind (F_cmp_Compare_int ((ByteArray.size a0 : Nat) : Int) ((ByteArray.size a1 : Nat) : Int)) fun r1 =>
 Option.bind (F_cmp_Compare_string a0 a1) fun r2 =>
 Option.bind (F_cmp_Or_int [r1, r2]) fun r3 =>
 some r3
noncomputable def k_ballots_CompareValues : KS U Tryz.prog := ⟨.fn 89 [.ty Ty.str, .ty Ty.str] (.one (Ty.i .i64)) fun a => F_ballots_CompareValues a.1 a.2.1, fnS (K := K) sa_ballots_CompareValues 15 [.tmp 4] [k_cmp_Compare_int, k_cmp_Compare_string, k_cmp_Or_int] (fk Tryz.f89 [] Tryz.func89)⟩

/-! ### trustquorum/ballots.Compare -/
noncomputable def sa_ballots_Compare : SA U := annA (scOf Tryz.prog 17 [] Tryz.f87) .e
noncomputable def F_ballots_Compare (a0 : TBallot) (a1 : TBallot) : Option Int :=
 Option.bind (F_cmp_Compare_int a0.Counter a1.Counter) fun r1 =>
 Option.bind (F_ballots_CompareValues a0.Value a1.Value) fun r2 =>
 Option.bind (F_cmp_Or_int [r1, r2]) fun r3 =>
 some r3
noncomputable def k_ballots_Compare : KS U Tryz.prog := ⟨.fn 87 [.ty (Ty.st .Ballot), .ty (Ty.st .Ballot)] (.one (Ty.i .i64)) fun a => F_ballots_Compare a.1 a.2.1, fnS (K := K) sa_ballots_Compare 17 [.tmp 4] [k_cmp_Compare_int, k_ballots_CompareValues, k_cmp_Or_int] (fk Tryz.f87 [] Tryz.func87)⟩

/-! ### trustquorum/ballots.Less -/
noncomputable def sa_ballots_Less : SA U := annA (scOf Tryz.prog 9 [] Tryz.f101) .e
noncomputable def F_ballots_Less (a0 : TBallot) (a1 : TBallot) : Option Bool :=
 Option.bind (F_ballots_Compare a0 a1) fun r1 =>
 some (decide (r1 < (0 : Int)))
noncomputable def k_ballots_Less : KS U Tryz.prog := ⟨.fn 101 [.ty (Ty.st .Ballot), .ty (Ty.st .Ballot)] (.one Ty.bool) fun a => F_ballots_Less a.1 a.2.1, fnS (K := K) sa_ballots_Less 9 [.tmp 4] [k_ballots_Compare] (fk Tryz.f101 [] Tryz.func101)⟩

/-! ### trustquorum/ballots.Compatible -/
noncomputable def sa_ballots_Compatible : SA U := annA (scOf Tryz.prog 10 [] Tryz.f114) .e
noncomputable def F_ballots_Compatible (a0 : TBallot) (a1 : TBallot) : Option Bool :=
 some (decide (a0.Value = a1.Value))
noncomputable def k_ballots_Compatible : KS U Tryz.prog := ⟨.fn 114 [.ty (Ty.st .Ballot), .ty (Ty.st .Ballot)] (.one Ty.bool) fun a => F_ballots_Compatible a.1 a.2.1, fnS (K := K) sa_ballots_Compatible 10 [.tmp 4] [] (fk Tryz.f114 [] Tryz.func114)⟩

/-! ### trustquorum/ballots.Valid -/
noncomputable def sa_ballots_Valid : SA U := annA (scOf Tryz.prog 30 [] Tryz.f138) .e
noncomputable def F_ballots_Valid (a0 : TBallot) : Option Bool :=
 Option.bind (bif (decide ((1 : Int) ≤ a0.Counter)) then
 some (decide (a0.Counter ≤ (1000 : Int)))
 else some false) fun b1 =>
 Option.bind (bif b1 then some true
 else
 some (decide (a0.Counter = (1000000 : Int)))) fun b2 =>
 Option.bind (bif b2 then
 some (decide ((1 : Int) ≤ ((ByteArray.size a0.Value : Nat) : Int)))
 else some false) fun b3 =>
 Option.bind (bif b3 then
 some (decide (((ByteArray.size a0.Value : Nat) : Int) ≤ (200 : Int)))
 else some false) fun b4 =>
 some b4
noncomputable def k_ballots_Valid : KS U Tryz.prog := ⟨.fn 138 [.ty (Ty.st .Ballot)] (.one Ty.bool) fun a => F_ballots_Valid a.1, fnS (K := K) sa_ballots_Valid 30 [.tmp 2] [] (fk Tryz.f138 [] Tryz.func138)⟩

/-! ### trustquorum/envelopes.finite -/
noncomputable def sa_envelopes_finite : SA U := annA (scOf Tryz.prog 10 [] Tryz.f137) .e
noncomputable def F_envelopes_finite (a0 : TBallot) : Option Bool :=
 Option.bind (F_ballots_Valid a0) fun r1 =>
 Option.bind (bif r1 then
 some (decide (a0.Counter ≤ (1000 : Int)))
 else some false) fun b2 =>
 some b2
noncomputable def k_envelopes_finite : KS U Tryz.prog := ⟨.fn 137 [.ty (Ty.st .Ballot)] (.one Ty.bool) fun a => F_envelopes_finite a.1, fnS (K := K) sa_envelopes_finite 10 [.tmp 2] [k_ballots_Valid] (fk Tryz.f137 [] Tryz.func137)⟩

/-! ### trustquorum/envelopes.optional -/
noncomputable def sa_envelopes_optional : SA U := annA (scOf Tryz.prog 9 [] Tryz.f176) .e
noncomputable def F_envelopes_optional (a0 : TBallot) : Option Bool :=
 Option.bind (F_ballots_Zero a0) fun r1 =>
 Option.bind (bif r1 then some true
 else
 Option.bind (F_ballots_Valid a0) fun r2 =>
 some r2) fun b3 =>
 some b3
noncomputable def k_envelopes_optional : KS U Tryz.prog := ⟨.fn 176 [.ty (Ty.st .Ballot)] (.one Ty.bool) fun a => F_envelopes_optional a.1, fnS (K := K) sa_envelopes_optional 9 [.tmp 2] [k_ballots_Zero, k_ballots_Valid] (fk Tryz.f176 [] Tryz.func176)⟩

/-! ### trustquorum/envelopes.at -/
noncomputable def sa_envelopes_at : SA U := annA (scOf Tryz.prog 10 [] Tryz.f82) .e
noncomputable def F_envelopes_at (a0 : TEnvelope) (a1 : Int) : Option TBallot :=
 some (TBallot.mk a1 a0.Ballot.Value)
noncomputable def k_envelopes_at : KS U Tryz.prog := ⟨.fn 82 [.ty (Ty.st .Envelope), .ty (Ty.i .i64)] (.one (Ty.st .Ballot)) fun a => F_envelopes_at a.1 a.2.1, fnS (K := K) sa_envelopes_at 10 [.cell 4 (some 2)] [] (fk Tryz.f82 [] Tryz.func82)⟩

/-! ### trustquorum/ballots.Aborts -/
noncomputable def sa_ballots_Aborts : SA U := annA (scOf Tryz.prog 19 [] Tryz.f100) .e
noncomputable def F_ballots_Aborts (a0 : TBallot) (a1 : TBallot) : Option Bool :=
 Option.bind (F_ballots_Zero a0) fun r1 =>
 Option.bind (bif (!r1) then
 Option.bind (F_ballots_Compatible a0 a1) fun r2 =>
 some (!r2)
 else some false) fun b3 =>
 Option.bind (bif b3 then
 Option.bind (F_ballots_Less a1 a0) fun r4 =>
 some r4
 else some false) fun b5 =>
 some b5
noncomputable def k_ballots_Aborts : KS U Tryz.prog := ⟨.fn 100 [.ty (Ty.st .Ballot), .ty (Ty.st .Ballot)] (.one Ty.bool) fun a => F_ballots_Aborts a.1 a.2.1, fnS (K := K) sa_ballots_Aborts 19 [.tmp 4] [k_ballots_Zero, k_ballots_Compatible, k_ballots_Less] (fk Tryz.f100 [] Tryz.func100)⟩

/-! ### trustquorum/ballots.Covers -/
noncomputable def sa_ballots_Covers : SA U := annA (scOf Tryz.prog 20 [] Tryz.f151) .e
noncomputable def F_ballots_Covers (a0 : TBallot) (a1 : TBallot) : Option Bool :=
 Option.bind (F_ballots_Zero a0) fun r1 =>
 Option.bind (bif (!r1) then
 Option.bind (F_ballots_Compatible a0 a1) fun r2 =>
 some r2
 else some false) fun b3 =>
 Option.bind (bif b3 then
 some (decide (a1.Counter ≤ a0.Counter))
 else some false) fun b4 =>
 some b4
noncomputable def k_ballots_Covers : KS U Tryz.prog := ⟨.fn 151 [.ty (Ty.st .Ballot), .ty (Ty.st .Ballot)] (.one Ty.bool) fun a => F_ballots_Covers a.1 a.2.1, fnS (K := K) sa_ballots_Covers 20 [.tmp 4] [k_ballots_Zero, k_ballots_Compatible] (fk Tryz.f151 [] Tryz.func151)⟩

/-! ### trustquorum/ballots.Prepares -/
noncomputable def sa_ballots_Prepares : SA U := annA (scOf Tryz.prog 25 [] Tryz.f110) .e
noncomputable def F_ballots_Prepares (a0 : TBallot) (a1 : TBallot) (a2 : TBallot) : Option Bool :=
 Option.bind (F_ballots_Covers a0 a2) fun r1 =>
 Option.bind (bif r1 then some true
 else
 Option.bind (F_ballots_Covers a1 a2) fun r2 =>
 some r2) fun b3 =>
 Option.bind (bif b3 then some true
 else
 Option.bind (F_ballots_Zero a1) fun r4 =>
 Option.bind (bif (!r4) then
 Option.bind (F_ballots_Less a2 a1) fun r5 =>
 some r5
 else some false) fun b6 =>
 some b6) fun b7 =>
 some b7
noncomputable def k_ballots_Prepares : KS U Tryz.prog := ⟨.fn 110 [.ty (Ty.st .Ballot), .ty (Ty.st .Ballot), .ty (Ty.st .Ballot)] (.one Ty.bool) fun a => F_ballots_Prepares a.1 a.2.1 a.2.2.1, fnS (K := K) sa_ballots_Prepares 25 [.tmp 6] [k_ballots_Covers, k_ballots_Zero, k_ballots_Less] (fk Tryz.f110 [] Tryz.func110)⟩

/-! ### trustquorum/envelopes.prepares -/
noncomputable def sa_envelopes_prepares : SA U := annA (scOf Tryz.prog 106 [] Tryz.f136) (.r (.r (.r (.r (.j ⟨[.val 2 Ty.bool], []⟩ .e)))))
noncomputable def F_envelopes_prepares (a0 : TEnvelope) : Option Bool :=
 Option.bind (F_ballots_Zero a0.Prime) fun r1 =>
 Option.bind (bif r1 then some true
 else
 Option.bind (F_ballots_Zero a0.Prepared) fun r2 =>
 Option.bind (bif (!r2) then
 Option.bind (F_ballots_Less a0.Prime a0.Prepared) fun r3 =>
 some r3
 else some false) fun b4 =>
 Option.bind (bif b4 then
 Option.bind (F_ballots_Compatible a0.Prime a0.Prepared) fun r5 =>
 some (!r5)
 else some false) fun b6 =>
 some b6) fun b7 =>
 Option.bind (F_envelopes_finite a0.Ballot) fun r8 =>
 Option.bind (bif (!r8) then some true
 else
 Option.bind (F_envelopes_optional a0.Prepared) fun r9 =>
 some (!r9)) fun b10 =>
 Option.bind (bif b10 then some true
 else
 Option.bind (F_envelopes_optional a0.Prime) fun r11 =>
 some (!r11)) fun b12 =>
 Option.bind (bif b12 then some true
 else
 some (!b7)) fun b13 =>
 Option.bind (bif b13 then some true
 else
 some (decide (a0.Low < (0 : Int)))) fun b14 =>
 Option.bind (bif b14 then some true
 else
 some (decide (a0.High < a0.Low))) fun b15 =>
 Option.bind (bif b15 then some true
 else
 some (decide (a0.Ballot.Counter < a0.High))) fun b16 =>
 bif b16 then
 some false
 else
 Option.bind (F_envelopes_at (TEnvelope.mk a0.Node a0.Slot a0.Seq (TTrust.mk a0.Trust.Threshold a0.Trust.Nodes a0.Trust.Inner) a0.Kind a0.Ballot a0.Prepared a0.Prime a0.Low a0.High) a0.Low) fun r17 =>
 letJ (fun (v18 : Bool × Unit) =>
 some v18.1) fun j19 =>
 bif (decide (a0.High = (0 : Int))) then
 bif (decide (a0.Low = (0 : Int))) then
 j19 (true, ())
 else
 Option.bind (F_ballots_Aborts a0.Prepared r17) fun r20 =>
 bif (!r20) then
 Option.bind (F_ballots_Aborts a0.Prime r17) fun r21 =>
 j19 ((!r21), ())
 else
 j19 (false, ())
 else
 Option.bind (F_envelopes_at (TEnvelope.mk a0.Node a0.Slot a0.Seq (TTrust.mk a0.Trust.Threshold a0.Trust.Nodes a0.Trust.Inner) a0.Kind a0.Ballot a0.Prepared a0.Prime a0.Low a0.High) a0.High) fun r22 =>
 Option.bind (F_ballots_Prepares a0.Prepared a0.Prime r22) fun r23 =>
 bif r23 then
 bif (decide (a0.Low = (0 : Int))) then
 j19 (true, ())
 else
 Option.bind (F_ballots_Aborts a0.Prepared r17) fun r24 =>
 bif (!r24) then
 Option.bind (F_ballots_Aborts a0.Prime r17) fun r25 =>
 j19 ((!r25), ())
 else
 j19 (false, ())
 else
 j19 (false, ())
noncomputable def k_envelopes_prepares : KS U Tryz.prog := ⟨.fn 136 [.ty (Ty.st .Envelope)] (.one Ty.bool) fun a => F_envelopes_prepares a.1, fnS (K := K) sa_envelopes_prepares 106 [.tmp 2] [k_ballots_Zero, k_ballots_Less, k_ballots_Compatible, k_envelopes_finite, k_envelopes_optional, k_envelopes_at, k_ballots_Aborts, k_ballots_Prepares] (fk Tryz.f136 [] Tryz.func136)⟩

/-! ### trustquorum/envelopes.Valid -/
noncomputable def sa_envelopes_Valid : SA U := annA (scOf Tryz.prog 110 [] Tryz.f75) .e
noncomputable def F_envelopes_Valid (a0 : TEnvelope) : Option Bool :=
 Option.bind (bif (decide (a0.Node < (0 : Int))) then some true
 else
 some (decide ((10 : Int) ≤ a0.Node))) fun b1 =>
 Option.bind (bif b1 then some true
 else
 some (decide (a0.Slot < (1 : Int)))) fun b2 =>
 Option.bind (bif b2 then some true
 else
 some (decide ((1000000 : Int) < a0.Slot))) fun b3 =>
 Option.bind (bif b3 then some true
 else
 some (decide (a0.Seq < (1 : Int)))) fun b4 =>
 Option.bind (bif b4 then some true
 else
 some (decide ((1000000 : Int) < a0.Seq))) fun b5 =>
 Option.bind (bif b5 then some true
 else
 Option.bind (F_threshold_Valid (TTrust.mk a0.Trust.Threshold a0.Trust.Nodes a0.Trust.Inner)) fun r6 =>
 some (!decide (r6 = (0 : Int)))) fun b7 =>
 bif b7 then
 some false
 else
 Option.bind (bif (decide ((1 : Int) ≤ a0.Low)) then
 some (decide (a0.Low ≤ a0.High))
 else some false) fun b8 =>
 Option.bind (bif b8 then
 some (decide (a0.High ≤ (1000 : Int)))
 else some false) fun b9 =>
 bif (decide (a0.Kind = (1 : Int))) then
 Option.bind (F_envelopes_prepares (TEnvelope.mk a0.Node a0.Slot a0.Seq (TTrust.mk a0.Trust.Threshold a0.Trust.Nodes a0.Trust.Inner) a0.Kind a0.Ballot a0.Prepared a0.Prime a0.Low a0.High)) fun r10 =>
 some r10
 else
 bif (decide (a0.Kind = (2 : Int))) then
 Option.bind (F_envelopes_finite a0.Ballot) fun r11 =>
 Option.bind (bif r11 then
 Option.bind (F_ballots_Valid a0.Prepared) fun r12 =>
 some r12
 else some false) fun b13 =>
 Option.bind (bif b13 then
 Option.bind (F_ballots_Compatible a0.Prepared a0.Ballot) fun r14 =>
 some r14
 else some false) fun b15 =>
 Option.bind (bif b15 then
 Option.bind (F_ballots_Zero a0.Prime) fun r16 =>
 some r16
 else some false) fun b17 =>
 Option.bind (bif b17 then
 some b9
 else some false) fun b18 =>
 Option.bind (bif b18 then
 some (decide (a0.High ≤ a0.Prepared.Counter))
 else some false) fun b19 =>
 some b19
 else
 bif (decide (a0.Kind = (3 : Int))) then
 Option.bind (F_ballots_Valid a0.Ballot) fun r20 =>
 Option.bind (bif r20 then
 Option.bind (F_ballots_Zero a0.Prepared) fun r21 =>
 some r21
 else some false) fun b22 =>
 Option.bind (bif b22 then
 Option.bind (F_ballots_Zero a0.Prime) fun r23 =>
 some r23
 else some false) fun b24 =>
 Option.bind (bif b24 then
 some b9
 else some false) fun b25 =>
 some b25
 else
 some false
noncomputable def k_envelopes_Valid : KS U Tryz.prog := ⟨.fn 75 [.ty (Ty.st .Envelope)] (.one Ty.bool) fun a => F_envelopes_Valid a.1, fnS (K := K) sa_envelopes_Valid 110 [.tmp 2] [k_threshold_Valid, k_envelopes_prepares, k_envelopes_finite, k_ballots_Valid, k_ballots_Compatible, k_ballots_Zero] (fk Tryz.f75 [] Tryz.func75)⟩

/-! ### slices.IndexFunc[[]trustquorum/api.Ballot,trustquorum/api.Ballot] -/
noncomputable def sa_slices_IndexFunc_api_Ballot_api_Ballot_c85 : SA U := annA (scOf Tryz.prog 19 [] Tryz.f146) (.r (.l (.r (.l (.j ⟨[.val 8 (Ty.i .i64)], [0, 1, 7]⟩ .e)))))
noncomputable def F_slices_IndexFunc_api_Ballot_api_Ballot_c85 (a0 : (List TBallot)) : Option Int :=
 loopO (fun (v1 : Int × Unit) =>
 bif (decide (v1.1 < ((List.length a0 : Nat) : Int))) then
 Option.bind (idx a0 v1.1) fun x2 =>
 Option.bind (F_ballots_Zero x2) fun r3 =>
 bif r3 then
 Option.map Sum.inr (some v1.1)
 else
 some (Sum.inl ((addI .i64 v1.1 (1 : Int)), ()))
 else
 Option.map Sum.inr (some (-1 : Int))) ((0 : Int), ())
noncomputable def k_slices_IndexFunc_api_Ballot_api_Ballot_c85 : KS U Tryz.prog := ⟨.fn 146 [.ty (Ty.sl (Ty.st .Ballot)), .clo 85 []] (.one (Ty.i .i64)) fun a => F_slices_IndexFunc_api_Ballot_api_Ballot_c85 a.1, fnS (K := K) sa_slices_IndexFunc_api_Ballot_api_Ballot_c85 19 [.tmp 4] [k_ballots_Zero] (fk Tryz.f146 [] Tryz.func146)⟩

/-! ### slices.DeleteFunc[[]trustquorum/api.Ballot,trustquorum/api.Ballot] -/
noncomputable def sa_slices_DeleteFunc_api_Ballot_api_Ballot_c85 : SA U := annA (scOf Tryz.prog 42 [] Tryz.f84) (.r (.r (.r (.b (.r (.l (.j ⟨[.val 5 (Ty.i .i64), .val 6 (Ty.i .i64), .own 0 0 0 32 2 (Ty.st .Ballot)], [1]⟩ (.l (.r (.j ⟨[.val 5 (Ty.i .i64), .own 0 0 0 32 2 (Ty.st .Ballot)], [1, 6]⟩ .e)))))) (.r (.l (.g [(4, .ps (.cut 4))])))))))
noncomputable def F_slices_DeleteFunc_api_Ballot_api_Ballot_c85 (s : List TBallot)  : Option (List TBallot) :=
 Option.bind (F_slices_IndexFunc_api_Ballot_api_Ballot_c85 s) fun r1 =>
 bif (decide (r1 = (-1 : Int))) then
 some s
 else
 loopO (fun (v2 : Int × Int × (List TBallot) × Unit) =>
 bif (decide (v2.2.1 < ((List.length v2.2.2.1 : Nat) : Int))) then
 letJ (fun (v3 : Int × (List TBallot) × Unit) =>
 some (Sum.inl (v3.1, (addI .i64 v2.2.1 (1 : Int)), v3.2.1, ()))) fun j4 =>
 Option.bind (idx v2.2.2.1 v2.2.1) fun x5 =>
 Option.bind (v2.2.2.1[(Int.toNat v2.2.1)]?) fun x6 =>
 Option.bind (F_ballots_Zero x6) fun r7 =>
 bif (!r7) then
 Option.bind (idx v2.2.2.1 v2.1) fun x8 =>
 Option.bind (v2.2.2.1[(Int.toNat v2.1)]?) fun x9 =>
 j4 ((addI .i64 v2.1 (1 : Int)), (v2.2.2.1.set (Int.toNat v2.1) x6), ())
 else
 j4 (v2.1, v2.2.2.1, ())
 else
 Option.map Sum.inr (bif slcOk v2.1 ((List.length v2.2.2.1) : Int) (List.length v2.2.2.1) then
 bif slcOk (0 : Int) v2.1 (List.length (v2.2.2.1.take (Int.toNat v2.1) ++ List.replicate (Int.toNat ((List.length v2.2.2.1) : Int) - Int.toNat v2.1) (TBallot.mk (0 : Int) (ByteArray.mk #[])) ++ v2.2.2.1.drop ((Int.toNat v2.1) + (Int.toNat ((List.length v2.2.2.1) : Int) - Int.toNat v2.1)))) then
 some ((v2.2.2.1.take (Int.toNat v2.1) ++ List.replicate (Int.toNat ((List.length v2.2.2.1) : Int) - Int.toNat v2.1) (TBallot.mk (0 : Int) (ByteArray.mk #[])) ++ v2.2.2.1.drop ((Int.toNat v2.1) + (Int.toNat ((List.length v2.2.2.1) : Int) - Int.toNat v2.1))).take (Int.toNat v2.1 - Int.toNat (0 : Int)))
 else none
 else none)) (r1, (addI .i64 r1 (1 : Int)), s, ())
noncomputable def k_slices_DeleteFunc_api_Ballot_api_Ballot_c85 : KS U Tryz.prog := ⟨.cw 84 32 2 (Ty.st .Ballot) [.clo 85 []] fun s a => F_slices_DeleteFunc_api_Ballot_api_Ballot_c85 s , cwS (K := K) sa_slices_DeleteFunc_api_Ballot_api_Ballot_c85 42 [.tmp 4] [k_slices_IndexFunc_api_Ballot_api_Ballot_c85, k_ballots_Zero] (fk Tryz.f84 [] Tryz.func84)⟩

/-! ### math/bits.Len64 -/
noncomputable def sa_math_bits_Len64 : SA U := annA (scOf Tryz.prog 25 [] Tryz.f209) (.r (.j ⟨[.val 0 (Ty.i .u64), .val 2 (Ty.i .i64)], []⟩ (.r (.j ⟨[.val 0 (Ty.i .u64), .val 2 (Ty.i .i64)], []⟩ (.r (.j ⟨[.val 0 (Ty.i .u64), .val 2 (Ty.i .i64)], []⟩ .e))))))
noncomputable def F_math_bits_Len64 (a0 : Int) : Option Int :=
 letJ (fun (v1 : Int × Int × Unit) =>
 letJ (fun (v3 : Int × Int × Unit) =>
 letJ (fun (v5 : Int × Int × Unit) =>
 Option.bind (sidx (ByteArray.mk #[0, 1, 2, 2, 3, 3, 3, 3, 4, 4, 4, 4, 4, 4, 4, 4, 5, 5, 5, 5, 5, 5, 5, 5, 5, 5, 5, 5, 5, 5, 5, 5, 6, 6, 6, 6, 6, 6, 6, 6, 6, 6, 6, 6, 6, 6, 6, 6, 6, 6, 6, 6, 6, 6, 6, 6, 6, 6, 6, 6, 6, 6, 6, 6, 7, 7, 7, 7, 7, 7, 7, 7, 7, 7, 7, 7, 7, 7, 7, 7, 7, 7, 7, 7, 7, 7, 7, 7, 7, 7, 7, 7, 7, 7, 7, 7, 7, 7, 7, 7, 7, 7, 7, 7, 7, 7, 7, 7, 7, 7, 7, 7, 7, 7, 7, 7, 7, 7, 7, 7, 7, 7, 7, 7, 7, 7, 7, 7, 8, 8, 8, 8, 8, 8, 8, 8, 8, 8, 8, 8, 8, 8, 8, 8, 8, 8, 8, 8, 8, 8, 8, 8, 8, 8, 8, 8, 8, 8, 8, 8, 8, 8, 8, 8, 8, 8, 8, 8, 8, 8, 8, 8, 8, 8, 8, 8, 8, 8, 8, 8, 8, 8, 8, 8, 8, 8, 8, 8, 8, 8, 8, 8, 8, 8, 8, 8, 8, 8, 8, 8, 8, 8, 8, 8, 8, 8, 8, 8, 8, 8, 8, 8, 8, 8, 8, 8, 8, 8, 8, 8, 8, 8, 8, 8, 8, 8, 8, 8, 8, 8, 8, 8, 8, 8, 8, 8, 8, 8, 8, 8, 8, 8, 8, 8, 8, 8, 8, 8, 8, 8, 8, 8, 8, 8, 8, 8]) (convI .u8 v5.1)) fun x7 =>
 some (addI .i64 v5.2.1 (convI .i64 x7))) fun j6 =>
 bif (decide ((256 : Int) ≤ v3.1)) then
 j6 ((shrI .u64 v3.1 (8 : Int)), (addI .i64 v3.2.1 (8 : Int)), ())
 else
 j6 (v3.1, v3.2.1, ())) fun j4 =>
 bif (decide ((65536 : Int) ≤ v1.1)) then
 j4 ((shrI .u64 v1.1 (16 : Int)), (addI .i64 v1.2.1 (16 : Int)), ())
 else
 j4 (v1.1, v1.2.1, ())) fun j2 =>
 bif (decide ((4294967296 : Int) ≤ a0)) then
 j2 ((shrI .u64 a0 (32 : Int)), (32 : Int), ())
 else
 j2 (a0, (0 : Int), ())
noncomputable def k_math_bits_Len64 : KS U Tryz.prog := ⟨.fn 209 [.ty (Ty.i .u64)] (.one (Ty.i .i64)) fun a => F_math_bits_Len64 a.1, fnS (K := K) sa_math_bits_Len64 25 [.tmp 2] [] (fk Tryz.f209 [] Tryz.func209)⟩

/-! ### math/bits.Len -/
noncomputable def sa_math_bits_Len : SA U := annA (scOf Tryz.prog 8 [] Tryz.f181) .e
noncomputable def F_math_bits_Len (a0 : Int) : Option Int :=
 Option.bind (F_math_bits_Len64 a0) fun r1 =>
 some r1
noncomputable def k_math_bits_Len : KS U Tryz.prog := ⟨.fn 181 [.ty (Ty.i .u64)] (.one (Ty.i .i64)) fun a => F_math_bits_Len a.1, fnS (K := K) sa_math_bits_Len 8 [.tmp 2] [k_math_bits_Len64] (fk Tryz.f181 [] Tryz.func181)⟩

/-! ### trustquorum/envelopes.Ballots$1 -/
noncomputable def sa_envelopes_Ballots_1 : SA U := annA (scOf Tryz.prog 8 [] Tryz.f86) .e
noncomputable def F_envelopes_Ballots_1 (a0 : TBallot) (a1 : TBallot) : Option Int :=
 Option.bind (F_ballots_Compare a1 a0) fun r1 =>
 some r1
noncomputable def k_envelopes_Ballots_1 : KS U Tryz.prog := ⟨.fn 86 [.ty (Ty.st .Ballot), .ty (Ty.st .Ballot)] (.one (Ty.i .i64)) fun a => F_envelopes_Ballots_1 a.1 a.2.1, fnS (K := K) sa_envelopes_Ballots_1 8 [.tmp 4] [k_ballots_Compare] (fk Tryz.f86 [] Tryz.func86)⟩

/-! ### slices.insertionSortCmpFunc[trustquorum/api.Ballot] -/
noncomputable def sa_slices_insertionSortCmpFunc_api_Ballot_c86 : SA U := annA (scOf Tryz.prog 53 [] Tryz.f200) (.r (.l (.j ⟨[.val 8 (Ty.i .i64), .own 0 0 0 32 2 (Ty.st .Ballot)], [1, 2, 3]⟩ (.l (.r (.l (.l (.r (.l (.j ⟨[.val 9 (Ty.i .i64), .own 0 0 0 32 2 (Ty.st .Ballot)], [1, 2, 3, 8]⟩ (.l (.l (.j ⟨[.val 34 Ty.bool], [0, 1, 2, 3, 8, 9]⟩ .e)))))))))))))
noncomputable def F_slices_insertionSortCmpFunc_api_Ballot_c86 (s : List TBallot) (a0 : Int) (a1 : Int) : Option ((Unit) × List TBallot) :=
 loopO (fun (v1 : Int × (List TBallot) × Unit) =>
 bif (decide (v1.1 < a1)) then
 loopO (fun (v2 : Int × (List TBallot) × Unit) =>
 letJ (fun (v3 : Bool × Unit) =>
 bif v3.1 then
 Option.bind (idx v2.2.1 (subI .i64 v2.1 (1 : Int))) fun x5 =>
 Option.bind (v2.2.1[(Int.toNat (subI .i64 v2.1 (1 : Int)))]?) fun x6 =>
 Option.bind (idx v2.2.1 v2.1) fun x7 =>
 Option.bind (v2.2.1[(Int.toNat v2.1)]?) fun x8 =>
 Option.bind (idx v2.2.1 v2.1) fun x9 =>
 Option.bind (v2.2.1[(Int.toNat v2.1)]?) fun x10 =>
 Option.bind (idx (v2.2.1.set (Int.toNat v2.1) x6) (subI .i64 v2.1 (1 : Int))) fun x11 =>
 Option.bind ((v2.2.1.set (Int.toNat v2.1) x6)[(Int.toNat (subI .i64 v2.1 (1 : Int)))]?) fun x12 =>
 some (Sum.inl ((subI .i64 v2.1 (1 : Int)), ((v2.2.1.set (Int.toNat v2.1) x6).set (Int.toNat (subI .i64 v2.1 (1 : Int))) x8), ()))
 else
 Option.map Sum.inr (some (Sum.inl ((addI .i64 v1.1 (1 : Int)), v2.2.1, ())))) fun j4 =>
 bif (decide (a0 < v2.1)) then
 Option.bind (idx v2.2.1 v2.1) fun x13 =>
 Option.bind (v2.2.1[(Int.toNat v2.1)]?) fun x14 =>
 Option.bind (idx v2.2.1 (subI .i64 v2.1 (1 : Int))) fun x15 =>
 Option.bind (v2.2.1[(Int.toNat (subI .i64 v2.1 (1 : Int)))]?) fun x16 =>
 Option.bind (F_envelopes_Ballots_1 x14 x16) fun r17 =>
 j4 ((decide (r17 < (0 : Int))), ())
 else
 j4 (false, ())) (v1.1, v1.2.1, ())
 else
 Option.map Sum.inr (some ((()), v1.2.1))) ((addI .i64 a0 (1 : Int)), s, ())
noncomputable def k_slices_insertionSortCmpFunc_api_Ballot_c86 : KS U Tryz.prog := ⟨.rw 200 32 2 (Ty.st .Ballot) [.ty (Ty.i .i64), .ty (Ty.i .i64), .clo 86 []] (.many []) fun s a => F_slices_insertionSortCmpFunc_api_Ballot_c86 s a.1 a.2.1, rwS (K := K) sa_slices_insertionSortCmpFunc_api_Ballot_c86 53 [] [k_envelopes_Ballots_1] (fk Tryz.f200 [] Tryz.func200)⟩

/-! ### slices.siftDownCmpFunc[trustquorum/api.Ballot] -/
noncomputable def sa_slices_siftDownCmpFunc_api_Ballot_c86 : SA U := annA (scOf Tryz.prog 82 [] Tryz.f232) (.r (.l (.j ⟨[.val 10 (Ty.i .i64), .own 0 0 0 32 2 (Ty.st .Ballot)], [2, 3, 4]⟩ (.l (.l (.r (.r (.j ⟨[.val 11 (Ty.i .i64)], [0, 2, 3, 4, 10]⟩ (.l (.j ⟨[.val 40 Ty.bool], [0, 2, 3, 4, 10, 11]⟩ .e))))))))))
noncomputable def F_slices_siftDownCmpFunc_api_Ballot_c86 (s : List TBallot) (a0 : Int) (a1 : Int) (a2 : Int) : Option ((Unit) × List TBallot) :=
 loopO (fun (v1 : Int × (List TBallot) × Unit) =>
 bif (decide (a1 ≤ (addI .i64 (mulI .i64 (2 : Int) v1.1) (1 : Int)))) then
 Option.map Sum.inr (some ((()), v1.2.1))
 else
 letJ (fun (v2 : Int × Unit) =>
 Option.bind (idx v1.2.1 (addI .i64 a2 v1.1)) fun x4 =>
 Option.bind (v1.2.1[(Int.toNat (addI .i64 a2 v1.1))]?) fun x5 =>
 Option.bind (idx v1.2.1 (addI .i64 a2 v2.1)) fun x6 =>
 Option.bind (v1.2.1[(Int.toNat (addI .i64 a2 v2.1))]?) fun x7 =>
 Option.bind (F_envelopes_Ballots_1 x5 x7) fun r8 =>
 bif (!(decide (r8 < (0 : Int)))) then
 Option.map Sum.inr (some ((()), v1.2.1))
 else
 Option.bind (idx v1.2.1 (addI .i64 a2 v2.1)) fun x9 =>
 Option.bind (v1.2.1[(Int.toNat (addI .i64 a2 v2.1))]?) fun x10 =>
 Option.bind (idx v1.2.1 (addI .i64 a2 v1.1)) fun x11 =>
 Option.bind (v1.2.1[(Int.toNat (addI .i64 a2 v1.1))]?) fun x12 =>
 Option.bind (idx v1.2.1 (addI .i64 a2 v1.1)) fun x13 =>
 Option.bind (v1.2.1[(Int.toNat (addI .i64 a2 v1.1))]?) fun x14 =>
 Option.bind (idx (v1.2.1.set (Int.toNat (addI .i64 a2 v1.1)) x10) (addI .i64 a2 v2.1)) fun x15 =>
 Option.bind ((v1.2.1.set (Int.toNat (addI .i64 a2 v1.1)) x10)[(Int.toNat (addI .i64 a2 v2.1))]?) fun x16 =>
 some (Sum.inl (v2.1, ((v1.2.1.set (Int.toNat (addI .i64 a2 v1.1)) x10).set (Int.toNat (addI .i64 a2 v2.1)) x12), ()))) fun j3 =>
 letJ (fun (v17 : Bool × Unit) =>
 bif v17.1 then
 j3 ((addI .i64 (addI .i64 (mulI .i64 (2 : Int) v1.1) (1 : Int)) (1 : Int)), ())
 else
 j3 ((addI .i64 (mulI .i64 (2 : Int) v1.1) (1 : Int)), ())) fun j18 =>
 bif (decide ((addI .i64 (addI .i64 (mulI .i64 (2 : Int) v1.1) (1 : Int)) (1 : Int)) < a1)) then
 Option.bind (idx v1.2.1 (addI .i64 a2 (addI .i64 (mulI .i64 (2 : Int) v1.1) (1 : Int)))) fun x19 =>
 Option.bind (v1.2.1[(Int.toNat (addI .i64 a2 (addI .i64 (mulI .i64 (2 : Int) v1.1) (1 : Int))))]?) fun x20 =>
 Option.bind (idx v1.2.1 (addI .i64 (addI .i64 a2 (addI .i64 (mulI .i64 (2 : Int) v1.1) (1 : Int))) (1 : Int))) fun x21 =>
 Option.bind (v1.2.1[(Int.toNat (addI .i64 (addI .i64 a2 (addI .i64 (mulI .i64 (2 : Int) v1.1) (1 : Int))) (1 : Int)))]?) fun x22 =>
 Option.bind (F_envelopes_Ballots_1 x20 x22) fun r23 =>
 j18 ((decide (r23 < (0 : Int))), ())
 else
 j18 (false, ())) (a0, s, ())
noncomputable def k_slices_siftDownCmpFunc_api_Ballot_c86 : KS U Tryz.prog := ⟨.rw 232 32 2 (Ty.st .Ballot) [.ty (Ty.i .i64), .ty (Ty.i .i64), .ty (Ty.i .i64), .clo 86 []] (.many []) fun s a => F_slices_siftDownCmpFunc_api_Ballot_c86 s a.1 a.2.1 a.2.2.1, rwS (K := K) sa_slices_siftDownCmpFunc_api_Ballot_c86 82 [] [k_envelopes_Ballots_1] (fk Tryz.f232 [] Tryz.func232)⟩

/-! ### slices.heapSortCmpFunc[trustquorum/api.Ballot] -/
noncomputable def sa_slices_heapSortCmpFunc_api_Ballot_c86 : SA U := annA (scOf Tryz.prog 60 [] Tryz.f201) (.r (.r (.r (.b (.r (.l (.j ⟨[.val 11 (Ty.i .i64), .own 0 0 0 32 2 (Ty.st .Ballot)], [3, 8, 9, 10]⟩ .e))) (.r (.l (.j ⟨[.val 12 (Ty.i .i64), .own 0 0 0 32 2 (Ty.st .Ballot)], [3, 8, 9]⟩ .e)))))))
noncomputable def F_slices_heapSortCmpFunc_api_Ballot_c86 (s : List TBallot) (a0 : Int) (a1 : Int) : Option ((Unit) × List TBallot) :=
 loopO (fun (v1 : Int × (List TBallot) × Unit) =>
 bif (decide ((0 : Int) ≤ v1.1)) then
 Option.bind (F_slices_siftDownCmpFunc_api_Ballot_c86 v1.2.1 v1.1 (subI .i64 a1 a0) a0) fun p2 =>
 some (Sum.inl ((subI .i64 v1.1 (1 : Int)), p2.2, ()))
 else
 Option.map Sum.inr (loopO (fun (v3 : Int × (List TBallot) × Unit) =>
 bif (decide ((0 : Int) ≤ v3.1)) then
 Option.bind (idx v3.2.1 (addI .i64 a0 v3.1)) fun x4 =>
 Option.bind (v3.2.1[(Int.toNat (addI .i64 a0 v3.1))]?) fun x5 =>
 Option.bind (idx v3.2.1 a0) fun x6 =>
 Option.bind (v3.2.1[(Int.toNat a0)]?) fun x7 =>
 Option.bind (idx v3.2.1 a0) fun x8 =>
 Option.bind (v3.2.1[(Int.toNat a0)]?) fun x9 =>
 Option.bind (idx (v3.2.1.set (Int.toNat a0) x5) (addI .i64 a0 v3.1)) fun x10 =>
 Option.bind ((v3.2.1.set (Int.toNat a0) x5)[(Int.toNat (addI .i64 a0 v3.1))]?) fun x11 =>
 Option.bind (F_slices_siftDownCmpFunc_api_Ballot_c86 ((v3.2.1.set (Int.toNat a0) x5).set (Int.toNat (addI .i64 a0 v3.1)) x7) (0 : Int) v3.1 a0) fun p12 =>
 some (Sum.inl ((subI .i64 v3.1 (1 : Int)), p12.2, ()))
 else
 Option.map Sum.inr (some ((()), v3.2.1))) ((subI .i64 (subI .i64 a1 a0) (1 : Int)), v1.2.1, ()))) ((quoI .i64 (subI .i64 (subI .i64 a1 a0) (1 : Int)) (2 : Int)), s, ())
noncomputable def k_slices_heapSortCmpFunc_api_Ballot_c86 : KS U Tryz.prog := ⟨.rw 201 32 2 (Ty.st .Ballot) [.ty (Ty.i .i64), .ty (Ty.i .i64), .clo 86 []] (.many []) fun s a => F_slices_heapSortCmpFunc_api_Ballot_c86 s a.1 a.2.1, rwS (K := K) sa_slices_heapSortCmpFunc_api_Ballot_c86 60 [] [k_slices_siftDownCmpFunc_api_Ballot_c86] (fk Tryz.f201 [] Tryz.func201)⟩

/-! ### slices.nextPowerOfTwo -/
noncomputable def sa_slices_nextPowerOfTwo : SA U := annA (scOf Tryz.prog 7 [] Tryz.f233) .e
noncomputable def F_slices_nextPowerOfTwo (a0 : Int) : Option Int :=
 Option.bind (F_math_bits_Len (convI .u64 a0)) fun r1 =>
 if r1 < 0 then none else
 some (shlI .u64 (1 : Int) r1)
noncomputable def k_slices_nextPowerOfTwo : KS U Tryz.prog := ⟨.fn 233 [.ty (Ty.i .i64)] (.one (Ty.i .u64)) fun a => F_slices_nextPowerOfTwo a.1, fnS (K := K) sa_slices_nextPowerOfTwo 7 [.tmp 2] [k_math_bits_Len] (fk Tryz.f233 [] Tryz.func233)⟩

/-! ### (*slices.xorshift).Next -/
noncomputable def sa_slices_xorshift_Next : SA U := annA (scOf Tryz.prog 33 [] Tryz.f234) .e
noncomputable def F_slices_xorshift_Next (s : Int)  : Option (Int × Int) :=
 some ((xorI .u64 (xorI .u64 (xorI .u64 s (shlI .u64 s (13 : Int))) (shrI .u64 (xorI .u64 s (shlI .u64 s (13 : Int))) (7 : Int))) (shlI .u64 (xorI .u64 (xorI .u64 s (shlI .u64 s (13 : Int))) (shrI .u64 (xorI .u64 s (shlI .u64 s (13 : Int))) (7 : Int))) (17 : Int))), (xorI .u64 (xorI .u64 (xorI .u64 s (shlI .u64 s (13 : Int))) (shrI .u64 (xorI .u64 s (shlI .u64 s (13 : Int))) (7 : Int))) (shlI .u64 (xorI .u64 (xorI .u64 s (shlI .u64 s (13 : Int))) (shrI .u64 (xorI .u64 s (shlI .u64 s (13 : Int))) (7 : Int))) (17 : Int))))
noncomputable def k_slices_xorshift_Next : KS U Tryz.prog := ⟨.rc 234 0 (Ty.i .u64) [] (.one (Ty.i .u64)) fun s a => F_slices_xorshift_Next s , rcS (K := K) sa_slices_xorshift_Next 33 [.tmp 2] [] (fk Tryz.f234 [] Tryz.func234)⟩

/-! ### slices.breakPatternsCmpFunc[trustquorum/api.Ballot] -/
noncomputable def sa_slices_breakPatternsCmpFunc_api_Ballot_c86 : SA U := annA (scOf Tryz.prog 67 [] Tryz.f202) (.r (.r (.l (.r (.r (.r (.l (.j ⟨[.val 11 (Ty.i .i64), .own 0 0 0 32 2 (Ty.st .Ballot), .box 9 1 (Ty.i .u64) []], [1, 8, 9, 10]⟩ (.l (.r (.l (.l (.r (.j ⟨[.val 12 (Ty.i .i64)], [0, 1, 8, 9, 10, 11]⟩ .e))))))))))))))
noncomputable def F_slices_breakPatternsCmpFunc_api_Ballot_c86 (s : List TBallot) (a0 : Int) (a1 : Int) : Option ((Unit) × List TBallot) :=
 bif (decide ((8 : Int) ≤ (subI .i64 a1 a0))) then
 Option.bind (F_slices_nextPowerOfTwo (subI .i64 a1 a0)) fun r1 =>
 loopO (fun (v2 : Int × (List TBallot) × Int × Unit) =>
 bif (decide (v2.1 ≤ (addI .i64 (addI .i64 a0 (mulI .i64 (quoI .i64 (subI .i64 a1 a0) (4 : Int)) (2 : Int))) (1 : Int)))) then
 Option.bind (F_slices_xorshift_Next v2.2.2.1) fun p3 =>
 letJ (fun (v4 : Int × Unit) =>
 Option.bind (idx v2.2.1 (addI .i64 a0 v4.1)) fun x6 =>
 Option.bind (v2.2.1[(Int.toNat (addI .i64 a0 v4.1))]?) fun x7 =>
 Option.bind (idx v2.2.1 v2.1) fun x8 =>
 Option.bind (v2.2.1[(Int.toNat v2.1)]?) fun x9 =>
 Option.bind (idx v2.2.1 v2.1) fun x10 =>
 Option.bind (v2.2.1[(Int.toNat v2.1)]?) fun x11 =>
 Option.bind (idx (v2.2.1.set (Int.toNat v2.1) x7) (addI .i64 a0 v4.1)) fun x12 =>
 Option.bind ((v2.2.1.set (Int.toNat v2.1) x7)[(Int.toNat (addI .i64 a0 v4.1))]?) fun x13 =>
 some (Sum.inl ((addI .i64 v2.1 (1 : Int)), ((v2.2.1.set (Int.toNat v2.1) x7).set (Int.toNat (addI .i64 a0 v4.1)) x9), p3.2, ()))) fun j5 =>
 bif (decide ((subI .i64 a1 a0) ≤ (convI .i64 (andI .u64 p3.1 (subI .u64 r1 (1 : Int)))))) then
 j5 ((subI .i64 (convI .i64 (andI .u64 p3.1 (subI .u64 r1 (1 : Int)))) (subI .i64 a1 a0)), ())
 else
 j5 ((convI .i64 (andI .u64 p3.1 (subI .u64 r1 (1 : Int)))), ())
 else
 Option.map Sum.inr (some ((()), v2.2.1))) ((subI .i64 (addI .i64 a0 (mulI .i64 (quoI .i64 (subI .i64 a1 a0) (4 : Int)) (2 : Int))) (1 : Int)), s, (convI .u64 (subI .i64 a1 a0)), ())
 else
 some ((()), s)
noncomputable def k_slices_breakPatternsCmpFunc_api_Ballot_c86 : KS U Tryz.prog := ⟨.rw 202 32 2 (Ty.st .Ballot) [.ty (Ty.i .i64), .ty (Ty.i .i64), .clo 86 []] (.many []) fun s a => F_slices_breakPatternsCmpFunc_api_Ballot_c86 s a.1 a.2.1, rwS (K := K) sa_slices_breakPatternsCmpFunc_api_Ballot_c86 67 [] [k_slices_nextPowerOfTwo, k_slices_xorshift_Next] (fk Tryz.f202 [] Tryz.func202)⟩

/-! ### slices.order2CmpFunc[trustquorum/api.Ballot] -/
noncomputable def sa_slices_order2CmpFunc_api_Ballot_c86 : SA U := annA (scOf Tryz.prog 32 [] Tryz.f247) .e
noncomputable def F_slices_order2CmpFunc_api_Ballot_c86 (s : Int) (a0 : (List TBallot)) (a1 : Int) (a2 : Int) : Option ((Int × Int × Unit) × Int) :=
 Option.bind (idx a0 a2) fun x1 =>
 Option.bind (idx a0 a1) fun x2 =>
 Option.bind (F_envelopes_Ballots_1 x1 x2) fun r3 =>
 bif (decide (r3 < (0 : Int))) then
 some ((a2, a1, ()), (addI .i64 s (1 : Int)))
 else
 some ((a1, a2, ()), s)
noncomputable def k_slices_order2CmpFunc_api_Ballot_c86 : KS U Tryz.prog := ⟨.rc 247 3 (Ty.i .i64) [.ty (Ty.sl (Ty.st .Ballot)), .ty (Ty.i .i64), .ty (Ty.i .i64), .clo 86 []] (.many [(Ty.i .i64), (Ty.i .i64)]) fun s a => F_slices_order2CmpFunc_api_Ballot_c86 s a.1 a.2.1 a.2.2.1, rcS (K := K) sa_slices_order2CmpFunc_api_Ballot_c86 32 [.tmp 10, .tmp 11] [k_envelopes_Ballots_1] (fk Tryz.f247 [] Tryz.func247)⟩

/-! ### slices.medianCmpFunc[trustquorum/api.Ballot] -/
noncomputable def sa_slices_medianCmpFunc_api_Ballot_c86 : SA U := annA (scOf Tryz.prog 41 [] Tryz.f236) .e
noncomputable def F_slices_medianCmpFunc_api_Ballot_c86 (s : Int) (a0 : (List TBallot)) (a1 : Int) (a2 : Int) (a3 : Int) : Option (Int × Int) :=
 Option.bind (F_slices_order2CmpFunc_api_Ballot_c86 s a0 a1 a2) fun p1 =>
 Option.bind (F_slices_order2CmpFunc_api_Ballot_c86 p1.2 a0 p1.1.2.1 a3) fun p2 =>
 Option.bind (F_slices_order2CmpFunc_api_Ballot_c86 p2.2 a0 p1.1.1 p2.1.1) fun p3 =>
 some (p3.1.2.1, p3.2)
noncomputable def k_slices_medianCmpFunc_api_Ballot_c86 : KS U Tryz.prog := ⟨.rc 236 4 (Ty.i .i64) [.ty (Ty.sl (Ty.st .Ballot)), .ty (Ty.i .i64), .ty (Ty.i .i64), .ty (Ty.i .i64), .clo 86 []] (.one (Ty.i .i64)) fun s a => F_slices_medianCmpFunc_api_Ballot_c86 s a.1 a.2.1 a.2.2.1 a.2.2.2.1, rcS (K := K) sa_slices_medianCmpFunc_api_Ballot_c86 41 [.tmp 12] [k_slices_order2CmpFunc_api_Ballot_c86] (fk Tryz.f236 [] Tryz.func236)⟩

/-! ### slices.medianAdjacentCmpFunc[trustquorum/api.Ballot] -/
noncomputable def sa_slices_medianAdjacentCmpFunc_api_Ballot_c86 : SA U := annA (scOf Tryz.prog 18 [] Tryz.f235) .e
noncomputable def F_slices_medianAdjacentCmpFunc_api_Ballot_c86 (s : Int) (a0 : (List TBallot)) (a1 : Int) : Option (Int × Int) :=
 Option.bind (F_slices_medianCmpFunc_api_Ballot_c86 s a0 (subI .i64 a1 (1 : Int)) a1 (addI .i64 a1 (1 : Int))) fun p1 =>
 some (p1.1, p1.2)
noncomputable def k_slices_medianAdjacentCmpFunc_api_Ballot_c86 : KS U Tryz.prog := ⟨.rc 235 2 (Ty.i .i64) [.ty (Ty.sl (Ty.st .Ballot)), .ty (Ty.i .i64), .clo 86 []] (.one (Ty.i .i64)) fun s a => F_slices_medianAdjacentCmpFunc_api_Ballot_c86 s a.1 a.2.1, rcS (K := K) sa_slices_medianAdjacentCmpFunc_api_Ballot_c86 18 [.tmp 8] [k_slices_medianCmpFunc_api_Ballot_c86] (fk Tryz.f235 [] Tryz.func235)⟩

/-! ### slices.choosePivotCmpFunc[trustquorum/api.Ballot] -/
noncomputable def sa_slices_choosePivotCmpFunc_api_Ballot_c86 : SA U := annA (scOf Tryz.prog 63 [] Tryz.f203) (.r (.r (.r (.r (.r (.r (.j ⟨[.val 13 (Ty.i .i64), .box 6 1 (Ty.i .i64) []], [11]⟩ (.l (.r (.l (.j ⟨[.val 12 (Ty.i .i64), .val 13 (Ty.i .i64), .val 14 (Ty.i .i64), .box 6 1 (Ty.i .i64) []], [0, 3, 11]⟩ .e)))))))))))
noncomputable def F_slices_choosePivotCmpFunc_api_Ballot_c86 (a0 : (List TBallot)) (a1 : Int) (a2 : Int) : Option (Int × Int × Unit) :=
 letJ (fun (v1 : Int × Int × Unit) =>
 bif (decide (v1.2.1 = (0 : Int))) then
 some (v1.1, (1 : Int), ())
 else
 bif (decide (v1.2.1 = (12 : Int))) then
 some (v1.1, (2 : Int), ())
 else
 some (v1.1, (0 : Int), ())) fun j2 =>
 bif (decide ((8 : Int) ≤ (subI .i64 a2 a1))) then
 letJ (fun (v3 : Int × Int × Int × Int × Unit) =>
 Option.bind (F_slices_medianCmpFunc_api_Ballot_c86 v3.2.2.2.1 a0 v3.1 v3.2.1 v3.2.2.1) fun p5 =>
 j2 (p5.1, p5.2, ())) fun j4 =>
 bif (decide ((50 : Int) ≤ (subI .i64 a2 a1))) then
 Option.bind (F_slices_medianAdjacentCmpFunc_api_Ballot_c86 (0 : Int) a0 (addI .i64 a1 (mulI .i64 (quoI .i64 (subI .i64 a2 a1) (4 : Int)) (1 : Int)))) fun p6 =>
 Option.bind (F_slices_medianAdjacentCmpFunc_api_Ballot_c86 p6.2 a0 (addI .i64 a1 (mulI .i64 (quoI .i64 (subI .i64 a2 a1) (4 : Int)) (2 : Int)))) fun p7 =>
 Option.bind (F_slices_medianAdjacentCmpFunc_api_Ballot_c86 p7.2 a0 (addI .i64 a1 (mulI .i64 (quoI .i64 (subI .i64 a2 a1) (4 : Int)) (3 : Int)))) fun p8 =>
 j4 (p6.1, p7.1, p8.1, p8.2, ())
 else
 j4 ((addI .i64 a1 (mulI .i64 (quoI .i64 (subI .i64 a2 a1) (4 : Int)) (1 : Int))), (addI .i64 a1 (mulI .i64 (quoI .i64 (subI .i64 a2 a1) (4 : Int)) (2 : Int))), (addI .i64 a1 (mulI .i64 (quoI .i64 (subI .i64 a2 a1) (4 : Int)) (3 : Int))), (0 : Int), ())
 else
 j2 ((addI .i64 a1 (mulI .i64 (quoI .i64 (subI .i64 a2 a1) (4 : Int)) (2 : Int))), (0 : Int), ())
noncomputable def k_slices_choosePivotCmpFunc_api_Ballot_c86 : KS U Tryz.prog := ⟨.fn 203 [.ty (Ty.sl (Ty.st .Ballot)), .ty (Ty.i .i64), .ty (Ty.i .i64), .clo 86 []] (.many [(Ty.i .i64), (Ty.i .i64)]) fun a => F_slices_choosePivotCmpFunc_api_Ballot_c86 a.1 a.2.1 a.2.2.1, fnS (K := K) sa_slices_choosePivotCmpFunc_api_Ballot_c86 63 [.tmp 8, .tmp 9] [k_slices_medianAdjacentCmpFunc_api_Ballot_c86, k_slices_medianCmpFunc_api_Ballot_c86] (fk Tryz.f203 [] Tryz.func203)⟩

/-! ### slices.reverseRangeCmpFunc[trustquorum/api.Ballot] -/
noncomputable def sa_slices_reverseRangeCmpFunc_api_Ballot_c86 : SA U := annA (scOf Tryz.prog 34 [] Tryz.f204) (.r (.r (.l (.j ⟨[.val 8 (Ty.i .i64), .val 9 (Ty.i .i64), .own 0 0 0 32 2 (Ty.st .Ballot)], []⟩ .e))))
noncomputable def F_slices_reverseRangeCmpFunc_api_Ballot_c86 (s : List TBallot) (a0 : Int) (a1 : Int) : Option ((Unit) × List TBallot) :=
 loopO (fun (v1 : Int × Int × (List TBallot) × Unit) =>
 bif (decide (v1.1 < v1.2.1)) then
 Option.bind (idx v1.2.2.1 v1.2.1) fun x2 =>
 Option.bind (v1.2.2.1[(Int.toNat v1.2.1)]?) fun x3 =>
 Option.bind (idx v1.2.2.1 v1.1) fun x4 =>
 Option.bind (v1.2.2.1[(Int.toNat v1.1)]?) fun x5 =>
 Option.bind (idx v1.2.2.1 v1.1) fun x6 =>
 Option.bind (v1.2.2.1[(Int.toNat v1.1)]?) fun x7 =>
 Option.bind (idx (v1.2.2.1.set (Int.toNat v1.1) x3) v1.2.1) fun x8 =>
 Option.bind ((v1.2.2.1.set (Int.toNat v1.1) x3)[(Int.toNat v1.2.1)]?) fun x9 =>
 some (Sum.inl ((addI .i64 v1.1 (1 : Int)), (subI .i64 v1.2.1 (1 : Int)), ((v1.2.2.1.set (Int.toNat v1.1) x3).set (Int.toNat v1.2.1) x5), ()))
 else
 Option.map Sum.inr (some ((()), v1.2.2.1))) (a0, (subI .i64 a1 (1 : Int)), s, ())
noncomputable def k_slices_reverseRangeCmpFunc_api_Ballot_c86 : KS U Tryz.prog := ⟨.rw 204 32 2 (Ty.st .Ballot) [.ty (Ty.i .i64), .ty (Ty.i .i64), .clo 86 []] (.many []) fun s a => F_slices_reverseRangeCmpFunc_api_Ballot_c86 s a.1 a.2.1, rwS (K := K) sa_slices_reverseRangeCmpFunc_api_Ballot_c86 34 [] [] (fk Tryz.f204 [] Tryz.func204)⟩

/-! ### slices.partialInsertionSortCmpFunc[trustquorum/api.Ballot] -/
noncomputable def sa_slices_partialInsertionSortCmpFunc_api_Ballot_c86 : SA U := annA (scOf Tryz.prog 141 [] Tryz.f205) (.r (.r (.l (.r (.l (.j ⟨[.val 9 (Ty.i .i64), .val 10 (Ty.i .i64), .own 0 0 0 32 2 (Ty.st .Ballot)], [1, 2, 3]⟩ (.l (.r (.j ⟨[.val 9 (Ty.i .i64), .own 0 0 0 32 2 (Ty.st .Ballot)], [1, 2, 3, 10]⟩ (.l (.l (.b (.l (.j ⟨[.val 9 (Ty.i .i64)], [0, 1, 2, 3, 10]⟩ (.l (.l (.j ⟨[.val 36 Ty.bool], [0, 1, 2, 3, 9, 10]⟩ .e))))) (.r (.r (.r (.j ⟨[.own 0 0 0 32 2 (Ty.st .Ballot)], [1, 2, 3, 9, 10]⟩ (.b (.r (.l (.r (.l (.j ⟨[.val 11 (Ty.i .i64), .own 0 0 0 32 2 (Ty.st .Ballot)], [1, 2, 3, 9, 10]⟩ .e))))) (.r (.l (.r (.l (.j ⟨[.val 12 (Ty.i .i64), .own 0 0 0 32 2 (Ty.st .Ballot)], [1, 2, 3, 9, 10]⟩ .e))))))))))))))))))))))
noncomputable def F_slices_partialInsertionSortCmpFunc_api_Ballot_c86 (s : List TBallot) (a0 : Int) (a1 : Int) : Option (Bool × List TBallot) :=
 loopO (fun (v1 : Int × Int × (List TBallot) × Unit) =>
 bif (decide (v1.2.1 < (5 : Int))) then
 letJ (fun (v2 : Int × (List TBallot) × Unit) =>
 some (Sum.inl (v2.1, (addI .i64 v1.2.1 (1 : Int)), v2.2.1, ()))) fun j3 =>
 loopO (fun (v4 : Int × Unit) =>
 letJ (fun (v5 : Bool × Unit) =>
 bif v5.1 then
 some (Sum.inl ((addI .i64 v4.1 (1 : Int)), ()))
 else
 Option.map Sum.inr (bif (decide (v4.1 = a1)) then
 Option.map Sum.inr (some (true, v1.2.2.1))
 else
 bif (decide ((subI .i64 a1 a0) < (50 : Int))) then
 Option.map Sum.inr (some (false, v1.2.2.1))
 else
 Option.bind (idx v1.2.2.1 (subI .i64 v4.1 (1 : Int))) fun x7 =>
 Option.bind (v1.2.2.1[(Int.toNat (subI .i64 v4.1 (1 : Int)))]?) fun x8 =>
 Option.bind (idx v1.2.2.1 v4.1) fun x9 =>
 Option.bind (v1.2.2.1[(Int.toNat v4.1)]?) fun x10 =>
 Option.bind (idx v1.2.2.1 v4.1) fun x11 =>
 Option.bind (v1.2.2.1[(Int.toNat v4.1)]?) fun x12 =>
 Option.bind (idx (v1.2.2.1.set (Int.toNat v4.1) x8) (subI .i64 v4.1 (1 : Int))) fun x13 =>
 Option.bind ((v1.2.2.1.set (Int.toNat v4.1) x8)[(Int.toNat (subI .i64 v4.1 (1 : Int)))]?) fun x14 =>
 letJ (fun (v15 : (List TBallot) × Unit) =>
 bif (decide ((2 : Int) ≤ (subI .i64 a1 v4.1))) then
 loopO (fun (v17 : Int × (List TBallot) × Unit) =>
 bif (decide (v17.1 < a1)) then
 Option.bind (idx v17.2.1 v17.1) fun x18 =>
 Option.bind (v17.2.1[(Int.toNat v17.1)]?) fun x19 =>
 Option.bind (idx v17.2.1 (subI .i64 v17.1 (1 : Int))) fun x20 =>
 Option.bind (v17.2.1[(Int.toNat (subI .i64 v17.1 (1 : Int)))]?) fun x21 =>
 Option.bind (F_envelopes_Ballots_1 x19 x21) fun r22 =>
 bif (!(decide (r22 < (0 : Int)))) then
 Option.map Sum.inr (j3 (v4.1, v17.2.1, ()))
 else
 Option.bind (idx v17.2.1 (subI .i64 v17.1 (1 : Int))) fun x23 =>
 Option.bind (v17.2.1[(Int.toNat (subI .i64 v17.1 (1 : Int)))]?) fun x24 =>
 Option.bind (idx v17.2.1 v17.1) fun x25 =>
 Option.bind (v17.2.1[(Int.toNat v17.1)]?) fun x26 =>
 Option.bind (idx v17.2.1 v17.1) fun x27 =>
 Option.bind (v17.2.1[(Int.toNat v17.1)]?) fun x28 =>
 Option.bind (idx (v17.2.1.set (Int.toNat v17.1) x24) (subI .i64 v17.1 (1 : Int))) fun x29 =>
 Option.bind ((v17.2.1.set (Int.toNat v17.1) x24)[(Int.toNat (subI .i64 v17.1 (1 : Int)))]?) fun x30 =>
 some (Sum.inl ((addI .i64 v17.1 (1 : Int)), ((v17.2.1.set (Int.toNat v17.1) x24).set (Int.toNat (subI .i64 v17.1 (1 : Int))) x26), ()))
 else
 Option.map Sum.inr (j3 (v4.1, v17.2.1, ()))) ((addI .i64 v4.1 (1 : Int)), v15.1, ())
 else
 j3 (v4.1, v15.1, ())) fun j16 =>
 bif (decide ((2 : Int) ≤ (subI .i64 v4.1 a0))) then
 loopO (fun (v31 : Int × (List TBallot) × Unit) =>
 bif (decide ((1 : Int) ≤ v31.1)) then
 Option.bind (idx v31.2.1 v31.1) fun x32 =>
 Option.bind (v31.2.1[(Int.toNat v31.1)]?) fun x33 =>
 Option.bind (idx v31.2.1 (subI .i64 v31.1 (1 : Int))) fun x34 =>
 Option.bind (v31.2.1[(Int.toNat (subI .i64 v31.1 (1 : Int)))]?) fun x35 =>
 Option.bind (F_envelopes_Ballots_1 x33 x35) fun r36 =>
 bif (!(decide (r36 < (0 : Int)))) then
 Option.map Sum.inr (j16 (v31.2.1, ()))
 else
 Option.bind (idx v31.2.1 (subI .i64 v31.1 (1 : Int))) fun x37 =>
 Option.bind (v31.2.1[(Int.toNat (subI .i64 v31.1 (1 : Int)))]?) fun x38 =>
 Option.bind (idx v31.2.1 v31.1) fun x39 =>
 Option.bind (v31.2.1[(Int.toNat v31.1)]?) fun x40 =>
 Option.bind (idx v31.2.1 v31.1) fun x41 =>
 Option.bind (v31.2.1[(Int.toNat v31.1)]?) fun x42 =>
 Option.bind (idx (v31.2.1.set (Int.toNat v31.1) x38) (subI .i64 v31.1 (1 : Int))) fun x43 =>
 Option.bind ((v31.2.1.set (Int.toNat v31.1) x38)[(Int.toNat (subI .i64 v31.1 (1 : Int)))]?) fun x44 =>
 some (Sum.inl ((subI .i64 v31.1 (1 : Int)), ((v31.2.1.set (Int.toNat v31.1) x38).set (Int.toNat (subI .i64 v31.1 (1 : Int))) x40), ()))
 else
 Option.map Sum.inr (j16 (v31.2.1, ()))) ((subI .i64 v4.1 (1 : Int)), ((v1.2.2.1.set (Int.toNat v4.1) x8).set (Int.toNat (subI .i64 v4.1 (1 : Int))) x10), ())
 else
 j16 (((v1.2.2.1.set (Int.toNat v4.1) x8).set (Int.toNat (subI .i64 v4.1 (1 : Int))) x10), ()))) fun j6 =>
 bif (decide (v4.1 < a1)) then
 Option.bind (idx v1.2.2.1 v4.1) fun x45 =>
 Option.bind (v1.2.2.1[(Int.toNat v4.1)]?) fun x46 =>
 Option.bind (idx v1.2.2.1 (subI .i64 v4.1 (1 : Int))) fun x47 =>
 Option.bind (v1.2.2.1[(Int.toNat (subI .i64 v4.1 (1 : Int)))]?) fun x48 =>
 Option.bind (F_envelopes_Ballots_1 x46 x48) fun r49 =>
 j6 ((!(decide (r49 < (0 : Int)))), ())
 else
 j6 (false, ())) (v1.1, ())
 else
 Option.map Sum.inr (some (false, v1.2.2.1))) ((addI .i64 a0 (1 : Int)), (0 : Int), s, ())
noncomputable def k_slices_partialInsertionSortCmpFunc_api_Ballot_c86 : KS U Tryz.prog := ⟨.rw 205 32 2 (Ty.st .Ballot) [.ty (Ty.i .i64), .ty (Ty.i .i64), .clo 86 []] (.one Ty.bool) fun s a => F_slices_partialInsertionSortCmpFunc_api_Ballot_c86 s a.1 a.2.1, rwS (K := K) sa_slices_partialInsertionSortCmpFunc_api_Ballot_c86 141 [.tmp 8] [k_envelopes_Ballots_1] (fk Tryz.f205 [] Tryz.func205)⟩

/-! ### slices.partitionEqualCmpFunc[trustquorum/api.Ballot] -/
noncomputable def sa_slices_partitionEqualCmpFunc_api_Ballot_c86 : SA U := annA (scOf Tryz.prog 90 [] Tryz.f206) (.r (.r (.r (.l (.l (.j ⟨[.val 11 (Ty.i .i64), .val 12 (Ty.i .i64), .own 0 0 0 32 2 (Ty.st .Ballot)], [1, 4]⟩ (.l (.l (.b (.l (.j ⟨[.val 11 (Ty.i .i64)], [0, 1, 4, 12]⟩ (.l (.l (.j ⟨[.val 47 Ty.bool], [0, 1, 4, 11, 12]⟩ .e))))) (.l (.l (.j ⟨[.val 12 (Ty.i .i64)], [0, 1, 4, 11]⟩ (.l (.l (.j ⟨[.val 65 Ty.bool], [0, 1, 4, 11, 12]⟩ .e)))))))))))))))
noncomputable def F_slices_partitionEqualCmpFunc_api_Ballot_c86 (s : List TBallot) (a0 : Int) (a1 : Int) (a2 : Int) : Option (Int × List TBallot) :=
 Option.bind (idx s a2) fun x1 =>
 Option.bind (s[(Int.toNat a2)]?) fun x2 =>
 Option.bind (idx s a0) fun x3 =>
 Option.bind (s[(Int.toNat a0)]?) fun x4 =>
 Option.bind (idx s a0) fun x5 =>
 Option.bind (s[(Int.toNat a0)]?) fun x6 =>
 Option.bind (idx (s.set (Int.toNat a0) x2) a2) fun x7 =>
 Option.bind ((s.set (Int.toNat a0) x2)[(Int.toNat a2)]?) fun x8 =>
 loopO (fun (v9 : Int × Int × (List TBallot) × Unit) =>
 loopO (fun (v10 : Int × Unit) =>
 letJ (fun (v11 : Bool × Unit) =>
 bif v11.1 then
 some (Sum.inl ((addI .i64 v10.1 (1 : Int)), ()))
 else
 Option.map Sum.inr (loopO (fun (v13 : Int × Unit) =>
 letJ (fun (v14 : Bool × Unit) =>
 bif v14.1 then
 some (Sum.inl ((subI .i64 v13.1 (1 : Int)), ()))
 else
 Option.map Sum.inr (bif (decide (v13.1 < v10.1)) then
 Option.map Sum.inr (some (v10.1, v9.2.2.1))
 else
 Option.bind (idx v9.2.2.1 v13.1) fun x16 =>
 Option.bind (v9.2.2.1[(Int.toNat v13.1)]?) fun x17 =>
 Option.bind (idx v9.2.2.1 v10.1) fun x18 =>
 Option.bind (v9.2.2.1[(Int.toNat v10.1)]?) fun x19 =>
 Option.bind (idx v9.2.2.1 v10.1) fun x20 =>
 Option.bind (v9.2.2.1[(Int.toNat v10.1)]?) fun x21 =>
 Option.bind (idx (v9.2.2.1.set (Int.toNat v10.1) x17) v13.1) fun x22 =>
 Option.bind ((v9.2.2.1.set (Int.toNat v10.1) x17)[(Int.toNat v13.1)]?) fun x23 =>
 some (Sum.inl ((addI .i64 v10.1 (1 : Int)), (subI .i64 v13.1 (1 : Int)), ((v9.2.2.1.set (Int.toNat v10.1) x17).set (Int.toNat v13.1) x19), ())))) fun j15 =>
 bif (decide (v10.1 ≤ v13.1)) then
 Option.bind (idx v9.2.2.1 a0) fun x24 =>
 Option.bind (v9.2.2.1[(Int.toNat a0)]?) fun x25 =>
 Option.bind (idx v9.2.2.1 v13.1) fun x26 =>
 Option.bind (v9.2.2.1[(Int.toNat v13.1)]?) fun x27 =>
 Option.bind (F_envelopes_Ballots_1 x25 x27) fun r28 =>
 j15 ((decide (r28 < (0 : Int))), ())
 else
 j15 (false, ())) (v9.2.1, ()))) fun j12 =>
 bif (decide (v10.1 ≤ v9.2.1)) then
 Option.bind (idx v9.2.2.1 a0) fun x29 =>
 Option.bind (v9.2.2.1[(Int.toNat a0)]?) fun x30 =>
 Option.bind (idx v9.2.2.1 v10.1) fun x31 =>
 Option.bind (v9.2.2.1[(Int.toNat v10.1)]?) fun x32 =>
 Option.bind (F_envelopes_Ballots_1 x30 x32) fun r33 =>
 j12 ((!(decide (r33 < (0 : Int)))), ())
 else
 j12 (false, ())) (v9.1, ())) ((addI .i64 a0 (1 : Int)), (subI .i64 a1 (1 : Int)), ((s.set (Int.toNat a0) x2).set (Int.toNat a2) x4), ())
noncomputable def k_slices_partitionEqualCmpFunc_api_Ballot_c86 : KS U Tryz.prog := ⟨.rw 206 32 2 (Ty.st .Ballot) [.ty (Ty.i .i64), .ty (Ty.i .i64), .ty (Ty.i .i64), .clo 86 []] (.one (Ty.i .i64)) fun s a => F_slices_partitionEqualCmpFunc_api_Ballot_c86 s a.1 a.2.1 a.2.2.1, rwS (K := K) sa_slices_partitionEqualCmpFunc_api_Ballot_c86 90 [.tmp 10] [k_envelopes_Ballots_1] (fk Tryz.f206 [] Tryz.func206)⟩

/-! ### slices.partitionCmpFunc[trustquorum/api.Ballot] -/
noncomputable def sa_slices_partitionCmpFunc_api_Ballot_c86 : SA U := annA (scOf Tryz.prog 178 [] Tryz.f207) (.r (.r (.r (.b (.l (.j ⟨[.val 12 (Ty.i .i64)], [0, 1, 4, 13]⟩ (.l (.l (.j ⟨[.val 47 Ty.bool], [0, 1, 4, 12, 13]⟩ .e))))) (.b (.l (.j ⟨[.val 13 (Ty.i .i64)], [0, 1, 4, 12]⟩ (.l (.l (.j ⟨[.val 66 Ty.bool], [0, 1, 4, 12, 13]⟩ .e))))) (.r (.r (.r (.r (.l (.l (.j ⟨[.val 12 (Ty.i .i64), .val 13 (Ty.i .i64), .own 0 0 0 32 2 (Ty.st .Ballot)], [1, 4]⟩ (.l (.l (.b (.l (.j ⟨[.val 12 (Ty.i .i64)], [0, 1, 4, 13]⟩ (.l (.l (.j ⟨[.val 120 Ty.bool], [0, 1, 4, 12, 13]⟩ .e))))) (.l (.l (.j ⟨[.val 13 (Ty.i .i64)], [0, 1, 4, 12]⟩ (.l (.l (.j ⟨[.val 139 Ty.bool], [0, 1, 4, 12, 13]⟩ .e)))))))))))))))))))))
noncomputable def F_slices_partitionCmpFunc_api_Ballot_c86 (s : List TBallot) (a0 : Int) (a1 : Int) (a2 : Int) : Option ((Int × Bool × Unit) × List TBallot) :=
 Option.bind (idx s a2) fun x1 =>
 Option.bind (s[(Int.toNat a2)]?) fun x2 =>
 Option.bind (idx s a0) fun x3 =>
 Option.bind (s[(Int.toNat a0)]?) fun x4 =>
 Option.bind (idx s a0) fun x5 =>
 Option.bind (s[(Int.toNat a0)]?) fun x6 =>
 Option.bind (idx (s.set (Int.toNat a0) x2) a2) fun x7 =>
 Option.bind ((s.set (Int.toNat a0) x2)[(Int.toNat a2)]?) fun x8 =>
 loopO (fun (v9 : Int × Unit) =>
 letJ (fun (v10 : Bool × Unit) =>
 bif v10.1 then
 some (Sum.inl ((addI .i64 v9.1 (1 : Int)), ()))
 else
 Option.map Sum.inr (loopO (fun (v12 : Int × Unit) =>
 letJ (fun (v13 : Bool × Unit) =>
 bif v13.1 then
 some (Sum.inl ((subI .i64 v12.1 (1 : Int)), ()))
 else
 Option.map Sum.inr (bif (decide (v12.1 < v9.1)) then
 Option.bind (idx ((s.set (Int.toNat a0) x2).set (Int.toNat a2) x4) a0) fun x15 =>
 Option.bind (((s.set (Int.toNat a0) x2).set (Int.toNat a2) x4)[(Int.toNat a0)]?) fun x16 =>
 Option.bind (idx ((s.set (Int.toNat a0) x2).set (Int.toNat a2) x4) v12.1) fun x17 =>
 Option.bind (((s.set (Int.toNat a0) x2).set (Int.toNat a2) x4)[(Int.toNat v12.1)]?) fun x18 =>
 Option.bind (idx ((s.set (Int.toNat a0) x2).set (Int.toNat a2) x4) v12.1) fun x19 =>
 Option.bind (((s.set (Int.toNat a0) x2).set (Int.toNat a2) x4)[(Int.toNat v12.1)]?) fun x20 =>
 Option.bind (idx (((s.set (Int.toNat a0) x2).set (Int.toNat a2) x4).set (Int.toNat v12.1) x16) a0) fun x21 =>
 Option.bind ((((s.set (Int.toNat a0) x2).set (Int.toNat a2) x4).set (Int.toNat v12.1) x16)[(Int.toNat a0)]?) fun x22 =>
 some ((v12.1, true, ()), ((((s.set (Int.toNat a0) x2).set (Int.toNat a2) x4).set (Int.toNat v12.1) x16).set (Int.toNat a0) x18))
 else
 Option.bind (idx ((s.set (Int.toNat a0) x2).set (Int.toNat a2) x4) v12.1) fun x23 =>
 Option.bind (((s.set (Int.toNat a0) x2).set (Int.toNat a2) x4)[(Int.toNat v12.1)]?) fun x24 =>
 Option.bind (idx ((s.set (Int.toNat a0) x2).set (Int.toNat a2) x4) v9.1) fun x25 =>
 Option.bind (((s.set (Int.toNat a0) x2).set (Int.toNat a2) x4)[(Int.toNat v9.1)]?) fun x26 =>
 Option.bind (idx ((s.set (Int.toNat a0) x2).set (Int.toNat a2) x4) v9.1) fun x27 =>
 Option.bind (((s.set (Int.toNat a0) x2).set (Int.toNat a2) x4)[(Int.toNat v9.1)]?) fun x28 =>
 Option.bind (idx (((s.set (Int.toNat a0) x2).set (Int.toNat a2) x4).set (Int.toNat v9.1) x24) v12.1) fun x29 =>
 Option.bind ((((s.set (Int.toNat a0) x2).set (Int.toNat a2) x4).set (Int.toNat v9.1) x24)[(Int.toNat v12.1)]?) fun x30 =>
 loopO (fun (v31 : Int × Int × (List TBallot) × Unit) =>
 loopO (fun (v32 : Int × Unit) =>
 letJ (fun (v33 : Bool × Unit) =>
 bif v33.1 then
 some (Sum.inl ((addI .i64 v32.1 (1 : Int)), ()))
 else
 Option.map Sum.inr (loopO (fun (v35 : Int × Unit) =>
 letJ (fun (v36 : Bool × Unit) =>
 bif v36.1 then
 some (Sum.inl ((subI .i64 v35.1 (1 : Int)), ()))
 else
 Option.map Sum.inr (bif (decide (v35.1 < v32.1)) then
 Option.map Sum.inr (Option.bind (idx v31.2.2.1 a0) fun x38 =>
 Option.bind (v31.2.2.1[(Int.toNat a0)]?) fun x39 =>
 Option.bind (idx v31.2.2.1 v35.1) fun x40 =>
 Option.bind (v31.2.2.1[(Int.toNat v35.1)]?) fun x41 =>
 Option.bind (idx v31.2.2.1 v35.1) fun x42 =>
 Option.bind (v31.2.2.1[(Int.toNat v35.1)]?) fun x43 =>
 Option.bind (idx (v31.2.2.1.set (Int.toNat v35.1) x39) a0) fun x44 =>
 Option.bind ((v31.2.2.1.set (Int.toNat v35.1) x39)[(Int.toNat a0)]?) fun x45 =>
 some ((v35.1, false, ()), ((v31.2.2.1.set (Int.toNat v35.1) x39).set (Int.toNat a0) x41)))
 else
 Option.bind (idx v31.2.2.1 v35.1) fun x46 =>
 Option.bind (v31.2.2.1[(Int.toNat v35.1)]?) fun x47 =>
 Option.bind (idx v31.2.2.1 v32.1) fun x48 =>
 Option.bind (v31.2.2.1[(Int.toNat v32.1)]?) fun x49 =>
 Option.bind (idx v31.2.2.1 v32.1) fun x50 =>
 Option.bind (v31.2.2.1[(Int.toNat v32.1)]?) fun x51 =>
 Option.bind (idx (v31.2.2.1.set (Int.toNat v32.1) x47) v35.1) fun x52 =>
 Option.bind ((v31.2.2.1.set (Int.toNat v32.1) x47)[(Int.toNat v35.1)]?) fun x53 =>
 some (Sum.inl ((addI .i64 v32.1 (1 : Int)), (subI .i64 v35.1 (1 : Int)), ((v31.2.2.1.set (Int.toNat v32.1) x47).set (Int.toNat v35.1) x49), ())))) fun j37 =>
 bif (decide (v32.1 ≤ v35.1)) then
 Option.bind (idx v31.2.2.1 v35.1) fun x54 =>
 Option.bind (v31.2.2.1[(Int.toNat v35.1)]?) fun x55 =>
 Option.bind (idx v31.2.2.1 a0) fun x56 =>
 Option.bind (v31.2.2.1[(Int.toNat a0)]?) fun x57 =>
 Option.bind (F_envelopes_Ballots_1 x55 x57) fun r58 =>
 j37 ((!(decide (r58 < (0 : Int)))), ())
 else
 j37 (false, ())) (v31.2.1, ()))) fun j34 =>
 bif (decide (v32.1 ≤ v31.2.1)) then
 Option.bind (idx v31.2.2.1 v32.1) fun x59 =>
 Option.bind (v31.2.2.1[(Int.toNat v32.1)]?) fun x60 =>
 Option.bind (idx v31.2.2.1 a0) fun x61 =>
 Option.bind (v31.2.2.1[(Int.toNat a0)]?) fun x62 =>
 Option.bind (F_envelopes_Ballots_1 x60 x62) fun r63 =>
 j34 ((decide (r63 < (0 : Int))), ())
 else
 j34 (false, ())) (v31.1, ())) ((addI .i64 v9.1 (1 : Int)), (subI .i64 v12.1 (1 : Int)), ((((s.set (Int.toNat a0) x2).set (Int.toNat a2) x4).set (Int.toNat v9.1) x24).set (Int.toNat v12.1) x26), ()))) fun j14 =>
 bif (decide (v9.1 ≤ v12.1)) then
 Option.bind (idx ((s.set (Int.toNat a0) x2).set (Int.toNat a2) x4) v12.1) fun x64 =>
 Option.bind (((s.set (Int.toNat a0) x2).set (Int.toNat a2) x4)[(Int.toNat v12.1)]?) fun x65 =>
 Option.bind (idx ((s.set (Int.toNat a0) x2).set (Int.toNat a2) x4) a0) fun x66 =>
 Option.bind (((s.set (Int.toNat a0) x2).set (Int.toNat a2) x4)[(Int.toNat a0)]?) fun x67 =>
 Option.bind (F_envelopes_Ballots_1 x65 x67) fun r68 =>
 j14 ((!(decide (r68 < (0 : Int)))), ())
 else
 j14 (false, ())) ((subI .i64 a1 (1 : Int)), ()))) fun j11 =>
 bif (decide (v9.1 ≤ (subI .i64 a1 (1 : Int)))) then
 Option.bind (idx ((s.set (Int.toNat a0) x2).set (Int.toNat a2) x4) v9.1) fun x69 =>
 Option.bind (((s.set (Int.toNat a0) x2).set (Int.toNat a2) x4)[(Int.toNat v9.1)]?) fun x70 =>
 Option.bind (idx ((s.set (Int.toNat a0) x2).set (Int.toNat a2) x4) a0) fun x71 =>
 Option.bind (((s.set (Int.toNat a0) x2).set (Int.toNat a2) x4)[(Int.toNat a0)]?) fun x72 =>
 Option.bind (F_envelopes_Ballots_1 x70 x72) fun r73 =>
 j11 ((decide (r73 < (0 : Int))), ())
 else
 j11 (false, ())) ((addI .i64 a0 (1 : Int)), ())
noncomputable def k_slices_partitionCmpFunc_api_Ballot_c86 : KS U Tryz.prog := ⟨.rw 207 32 2 (Ty.st .Ballot) [.ty (Ty.i .i64), .ty (Ty.i .i64), .ty (Ty.i .i64), .clo 86 []] (.many [(Ty.i .i64), Ty.bool]) fun s a => F_slices_partitionCmpFunc_api_Ballot_c86 s a.1 a.2.1 a.2.2.1, rwS (K := K) sa_slices_partitionCmpFunc_api_Ballot_c86 178 [.tmp 10, .tmp 11] [k_envelopes_Ballots_1] (fk Tryz.f207 [] Tryz.func207)⟩

/-! ### slices.pdqsortCmpFunc[trustquorum/api.Ballot] -/
noncomputable def sa_slices_pdqsortCmpFunc_api_Ballot_c86 : SA U := annA (scOf Tryz.prog 148 [] Tryz.f180) (.r (.r (.l (.j ⟨[.val 1 (Ty.i .i64), .val 2 (Ty.i .i64), .val 3 (Ty.i .i64), .val 10 Ty.bool, .val 11 Ty.bool, .own 0 0 0 32 2 (Ty.st .Ballot)], [4]⟩ (.l (.l (.r (.r (.r (.j ⟨[.val 3 (Ty.i .i64), .own 0 0 0 32 2 (Ty.st .Ballot)], [1, 2, 4, 10, 11, 12]⟩ (.r (.r (.j ⟨[.val 13 (Ty.i .i64), .val 14 (Ty.i .i64), .own 0 0 0 32 2 (Ty.st .Ballot)], [1, 2, 3, 4, 10, 11, 12]⟩ (.r (.j ⟨[.own 0 0 0 32 2 (Ty.st .Ballot)], [1, 2, 3, 4, 10, 11, 12, 13]⟩ (.r (.l (.j ⟨[.val 97 Ty.bool], [0, 1, 2, 3, 4, 10, 11, 12, 13]⟩ .e))))))))))))))))))
noncomputable def B_slices_pdqsortCmpFunc_api_Ballot_c86 (rec : List TBallot → (Int × Int × Int × (Unit) × Unit) → Option ((Unit) × List TBallot)) (s : List TBallot) (a0 : Int) (a1 : Int) (a2 : Int) : Option ((Unit) × List TBallot) :=
 loopO (fun (v1 : Int × Int × Int × Bool × Bool × (List TBallot) × Unit) =>
 bif (decide ((subI .i64 v1.2.1 v1.1) ≤ (12 : Int))) then
 Option.bind (F_slices_insertionSortCmpFunc_api_Ballot_c86 v1.2.2.2.2.2.1 v1.1 v1.2.1) fun p2 =>
 Option.map Sum.inr (some ((()), p2.2))
 else
 bif (decide (v1.2.2.1 = (0 : Int))) then
 Option.bind (F_slices_heapSortCmpFunc_api_Ballot_c86 v1.2.2.2.2.2.1 v1.1 v1.2.1) fun p3 =>
 Option.map Sum.inr (some ((()), p3.2))
 else
 letJ (fun (v4 : Int × (List TBallot) × Unit) =>
 Option.bind (F_slices_choosePivotCmpFunc_api_Ballot_c86 v4.2.1 v1.1 v1.2.1) fun r6 =>
 letJ (fun (v7 : Int × Int × (List TBallot) × Unit) =>
 letJ (fun (v9 : (List TBallot) × Unit) =>
 letJ (fun (v11 : Bool × Unit) =>
 bif v11.1 then
 Option.bind (F_slices_partitionEqualCmpFunc_api_Ballot_c86 v9.1 v1.1 v1.2.1 v7.1) fun p13 =>
 some (Sum.inl (p13.1, v1.2.1, v4.1, v1.2.2.2.1, v1.2.2.2.2.1, p13.2, ()))
 else
 Option.bind (F_slices_partitionCmpFunc_api_Ballot_c86 v9.1 v1.1 v1.2.1 v7.1) fun p14 =>
 bif (decide ((subI .i64 p14.1.1 v1.1) < (subI .i64 v1.2.1 p14.1.1))) then
 Option.bind (rec p14.2 (v1.1, p14.1.1, v4.1, (()), ())) fun p15 =>
 some (Sum.inl ((addI .i64 p14.1.1 (1 : Int)), v1.2.1, v4.1, (decide ((quoI .i64 (subI .i64 v1.2.1 v1.1) (8 : Int)) ≤ (subI .i64 p14.1.1 v1.1))), p14.1.2.1, p15.2, ()))
 else
 Option.bind (rec p14.2 ((addI .i64 p14.1.1 (1 : Int)), v1.2.1, v4.1, (()), ())) fun p16 =>
 some (Sum.inl (v1.1, p14.1.1, v4.1, (decide ((quoI .i64 (subI .i64 v1.2.1 v1.1) (8 : Int)) ≤ (subI .i64 v1.2.1 p14.1.1))), p14.1.2.1, p16.2, ()))) fun j12 =>
 bif (decide ((0 : Int) < v1.1)) then
 Option.bind (idx v9.1 (subI .i64 v1.1 (1 : Int))) fun x17 =>
 Option.bind (v9.1[(Int.toNat (subI .i64 v1.1 (1 : Int)))]?) fun x18 =>
 Option.bind (idx v9.1 v7.1) fun x19 =>
 Option.bind (v9.1[(Int.toNat v7.1)]?) fun x20 =>
 Option.bind (F_envelopes_Ballots_1 x18 x20) fun r21 =>
 j12 ((!(decide (r21 < (0 : Int)))), ())
 else
 j12 (false, ())) fun j10 =>
 Option.bind (bif v1.2.2.2.1 then
 some v1.2.2.2.2.1
 else some false) fun b22 =>
 Option.bind (bif b22 then
 some (decide (v7.2.1 = (1 : Int)))
 else some false) fun b23 =>
 bif b23 then
 Option.bind (F_slices_partialInsertionSortCmpFunc_api_Ballot_c86 v7.2.2.1 v1.1 v1.2.1) fun p24 =>
 bif p24.1 then
 Option.map Sum.inr (some ((()), p24.2))
 else
 j10 (p24.2, ())
 else
 j10 (v7.2.2.1, ())) fun j8 =>
 bif (decide (r6.2.1 = (2 : Int))) then
 Option.bind (F_slices_reverseRangeCmpFunc_api_Ballot_c86 v4.2.1 v1.1 v1.2.1) fun p25 =>
 j8 ((subI .i64 (subI .i64 v1.2.1 (1 : Int)) (subI .i64 r6.1 v1.1)), (1 : Int), p25.2, ())
 else
 j8 (r6.1, r6.2.1, v4.2.1, ())) fun j5 =>
 bif (!v1.2.2.2.1) then
 Option.bind (F_slices_breakPatternsCmpFunc_api_Ballot_c86 v1.2.2.2.2.2.1 v1.1 v1.2.1) fun p26 =>
 j5 ((subI .i64 v1.2.2.1 (1 : Int)), p26.2, ())
 else
 j5 (v1.2.2.1, v1.2.2.2.2.2.1, ())) (a0, a1, a2, true, true, s, ())
noncomputable def I_slices_pdqsortCmpFunc_api_Ballot_c86 : Nat → List TBallot → (Int × Int × Int × (Unit) × Unit) → Option ((Unit) × List TBallot) := iterF2 (fun rec s a => B_slices_pdqsortCmpFunc_api_Ballot_c86 rec s a.1 a.2.1 a.2.2.1)
noncomputable def F_slices_pdqsortCmpFunc_api_Ballot_c86 (s : List TBallot) (a0 : Int) (a1 : Int) (a2 : Int) : Option ((Unit) × List TBallot) := I_slices_pdqsortCmpFunc_api_Ballot_c86 (List.length s + 1) s (a0, a1, a2, (()), ())
noncomputable def k_slices_pdqsortCmpFunc_api_Ballot_c86 : KS U Tryz.prog := ⟨.rw 180 32 2 (Ty.st .Ballot) [.ty (Ty.i .i64), .ty (Ty.i .i64), .ty (Ty.i .i64), .clo 86 []] (.many []) fun s a => F_slices_pdqsortCmpFunc_api_Ballot_c86 s a.1 a.2.1 a.2.2.1, rwRS (K := K) («as» := [.ty (Ty.i .i64), .ty (Ty.i .i64), .ty (Ty.i .i64), .clo 86 []]) (r := .many []) (T := (Ty.st .Ballot)) (B := fun rec s a => B_slices_pdqsortCmpFunc_api_Ballot_c86 rec s a.1 a.2.1 a.2.2.1) sa_slices_pdqsortCmpFunc_api_Ballot_c86 148 [] [k_slices_insertionSortCmpFunc_api_Ballot_c86, k_slices_heapSortCmpFunc_api_Ballot_c86, k_slices_breakPatternsCmpFunc_api_Ballot_c86, k_slices_choosePivotCmpFunc_api_Ballot_c86, k_slices_reverseRangeCmpFunc_api_Ballot_c86, k_slices_partialInsertionSortCmpFunc_api_Ballot_c86, k_envelopes_Ballots_1, k_slices_partitionEqualCmpFunc_api_Ballot_c86, k_slices_partitionCmpFunc_api_Ballot_c86] (fk Tryz.f180 [] Tryz.func180) (hF := fun s a => ⟨_, rfl⟩)⟩

/-! ### slices.SortFunc[[]trustquorum/api.Ballot,trustquorum/api.Ballot] -/
noncomputable def sa_slices_SortFunc_api_Ballot_api_Ballot_c86 : SA U := annA (scOf Tryz.prog 14 [] Tryz.f144) .e
noncomputable def F_slices_SortFunc_api_Ballot_api_Ballot_c86 (s : List TBallot)  : Option ((Unit) × List TBallot) :=
 Option.bind (F_math_bits_Len (convI .u64 ((List.length s : Nat) : Int))) fun r1 =>
 Option.bind (F_slices_pdqsortCmpFunc_api_Ballot_c86 s (0 : Int) ((List.length s : Nat) : Int) r1) fun p2 =>
 some ((()), p2.2)
noncomputable def k_slices_SortFunc_api_Ballot_api_Ballot_c86 : KS U Tryz.prog := ⟨.rw 144 32 2 (Ty.st .Ballot) [.clo 86 []] (.many []) fun s a => F_slices_SortFunc_api_Ballot_api_Ballot_c86 s , rwS (K := K) sa_slices_SortFunc_api_Ballot_api_Ballot_c86 14 [] [k_math_bits_Len, k_slices_pdqsortCmpFunc_api_Ballot_c86] (fk Tryz.f144 [] Tryz.func144)⟩

/-! ### slices.Compact[[]trustquorum/api.Ballot,trustquorum/api.Ballot] -/
noncomputable def sa_slices_Compact_api_Ballot_api_Ballot : SA U := annA (scOf Tryz.prog 61 [] Tryz.f145) (.r (.r (.l (.r (.l (.j ⟨[.val 3 (Ty.i .i64), .own 0 0 0 32 2 (Ty.st .Ballot)], []⟩ (.l (.r (.l (.l (.r (.l (.r (.b (.r (.l (.j ⟨[.val 3 (Ty.i .i64), .val 5 (Ty.i .i64), .own 0 0 0 32 2 (Ty.st .Ballot)], [4]⟩ (.l (.r (.j ⟨[.val 3 (Ty.i .i64), .own 0 0 0 32 2 (Ty.st .Ballot)], [4, 5]⟩ .e)))))) (.r (.l (.g [(4, .ps (.cut 2))])))))))))))))))))
noncomputable def F_slices_Compact_api_Ballot_api_Ballot (s : List TBallot)  : Option (List TBallot) :=
 bif (decide (((List.length s : Nat) : Int) < (2 : Int))) then
 some s
 else
 loopO (fun (v1 : Int × (List TBallot) × Unit) =>
 bif (decide (v1.1 < ((List.length v1.2.1 : Nat) : Int))) then
 Option.bind (idx v1.2.1 v1.1) fun x2 =>
 Option.bind (v1.2.1[(Int.toNat v1.1)]?) fun x3 =>
 Option.bind (idx v1.2.1 (subI .i64 v1.1 (1 : Int))) fun x4 =>
 Option.bind (v1.2.1[(Int.toNat (subI .i64 v1.1 (1 : Int)))]?) fun x5 =>
 bif (eq2 false x3.Counter x5.Counter x3.Value x5.Value) then
 bif slcOk v1.1 ((List.length v1.2.1) : Int) (List.length v1.2.1) then
 loopO (fun (v6 : Int × Int × (List TBallot) × Unit) =>
 bif (decide (v6.2.1 < ((List.length ((v6.2.2.1.drop (Int.toNat v1.1)).take (Int.toNat ((List.length v1.2.1) : Int) - Int.toNat v1.1)) : Nat) : Int))) then
 letJ (fun (v7 : Int × (List TBallot) × Unit) =>
 some (Sum.inl (v7.1, (addI .i64 v6.2.1 (1 : Int)), v7.2.1, ()))) fun j8 =>
 Option.bind (idx ((v6.2.2.1.drop (Int.toNat v1.1)).take (Int.toNat ((List.length v1.2.1) : Int) - Int.toNat v1.1)) v6.2.1) fun x9 =>
 Option.bind (v6.2.2.1[((Int.toNat v1.1) + Int.toNat v6.2.1)]?) fun x10 =>
 Option.bind (idx ((v6.2.2.1.drop (Int.toNat v1.1)).take (Int.toNat ((List.length v1.2.1) : Int) - Int.toNat v1.1)) (subI .i64 v6.2.1 (1 : Int))) fun x11 =>
 Option.bind (v6.2.2.1[((Int.toNat v1.1) + Int.toNat (subI .i64 v6.2.1 (1 : Int)))]?) fun x12 =>
 bif (eq2 true x10.Counter x12.Counter x10.Value x12.Value) then
 Option.bind (idx ((v6.2.2.1.drop (Int.toNat v1.1)).take (Int.toNat ((List.length v1.2.1) : Int) - Int.toNat v1.1)) v6.2.1) fun x13 =>
 Option.bind (v6.2.2.1[((Int.toNat v1.1) + Int.toNat v6.2.1)]?) fun x14 =>
 Option.bind (idx v6.2.2.1 v6.1) fun x15 =>
 Option.bind (v6.2.2.1[(Int.toNat v6.1)]?) fun x16 =>
 j8 ((addI .i64 v6.1 (1 : Int)), (v6.2.2.1.set (Int.toNat v6.1) x14), ())
 else
 j8 (v6.1, v6.2.2.1, ())
 else
 Option.map Sum.inr (bif slcOk v6.1 ((List.length v6.2.2.1) : Int) (List.length v6.2.2.1) then
 bif slcOk (0 : Int) v6.1 (List.length (v6.2.2.1.take (Int.toNat v6.1) ++ List.replicate (Int.toNat ((List.length v6.2.2.1) : Int) - Int.toNat v6.1) (TBallot.mk (0 : Int) (ByteArray.mk #[])) ++ v6.2.2.1.drop ((Int.toNat v6.1) + (Int.toNat ((List.length v6.2.2.1) : Int) - Int.toNat v6.1)))) then
 Option.map Sum.inr (some ((v6.2.2.1.take (Int.toNat v6.1) ++ List.replicate (Int.toNat ((List.length v6.2.2.1) : Int) - Int.toNat v6.1) (TBallot.mk (0 : Int) (ByteArray.mk #[])) ++ v6.2.2.1.drop ((Int.toNat v6.1) + (Int.toNat ((List.length v6.2.2.1) : Int) - Int.toNat v6.1))).take (Int.toNat v6.1 - Int.toNat (0 : Int))))
 else none
 else none)) (v1.1, (1 : Int), v1.2.1, ())
 else none
 else
 some (Sum.inl ((addI .i64 v1.1 (1 : Int)), v1.2.1, ()))
 else
 Option.map Sum.inr (some v1.2.1)) ((1 : Int), s, ())
noncomputable def k_slices_Compact_api_Ballot_api_Ballot : KS U Tryz.prog := ⟨.cw 145 32 2 (Ty.st .Ballot) [] fun s a => F_slices_Compact_api_Ballot_api_Ballot s , cwS (K := K) sa_slices_Compact_api_Ballot_api_Ballot 61 [.tmp 2] [] (fk Tryz.f145 [] Tryz.func145)⟩

/-! ### trustquorum/envelopes.unique[trustquorum/api.Ballot] -/
noncomputable def sa_envelopes_unique_api_Ballot_c86 : SA U := annA (scOf Tryz.prog 10 [] Tryz.f83) .e
noncomputable def F_envelopes_unique_api_Ballot_c86 (s : List TBallot)  : Option (List TBallot) :=
 Option.bind (F_slices_SortFunc_api_Ballot_api_Ballot_c86 s) fun p1 =>
 Option.bind (F_slices_Compact_api_Ballot_api_Ballot p1.2) fun r2 =>
 some r2
noncomputable def k_envelopes_unique_api_Ballot_c86 : KS U Tryz.prog := ⟨.cw 83 32 2 (Ty.st .Ballot) [.clo 86 []] fun s a => F_envelopes_unique_api_Ballot_c86 s , cwS (K := K) sa_envelopes_unique_api_Ballot_c86 10 [.tmp 4] [k_slices_SortFunc_api_Ballot_api_Ballot_c86, k_slices_Compact_api_Ballot_api_Ballot] (fk Tryz.f83 [] Tryz.func83)⟩

/-! ### trustquorum/envelopes.Ballots -/
noncomputable def sa_envelopes_Ballots : SA U := annA (scOf Tryz.prog 46 [] Tryz.f13) (.r (.r (.l (.r (.l (.ps (.own 3 32 2 (Ty.st .Ballot)) (.j ⟨[.val 8 (Ty.i .i64), .own 3 5 1 32 2 (Ty.st .Ballot)], [6, 7]⟩ (.l (.r (.r (.j ⟨[.own 3 5 1 32 2 (Ty.st .Ballot)], [6, 7, 8]⟩ .e)))))))))))
noncomputable def F_envelopes_Ballots (a0 : (List TEnvelope)) : Option (List TBallot) :=
 loopO (fun (v1 : Int × (List TBallot) × Unit) =>
 bif (decide (v1.1 < ((List.length a0 : Nat) : Int))) then
 letJ (fun (v2 : (List TBallot) × Unit) =>
 some (Sum.inl ((addI .i64 v1.1 (1 : Int)), v2.1, ()))) fun j3 =>
 Option.bind (idx a0 v1.1) fun x4 =>
 Option.bind (F_envelopes_Valid (TEnvelope.mk x4.Node x4.Slot x4.Seq (TTrust.mk x4.Trust.Threshold x4.Trust.Nodes x4.Trust.Inner) x4.Kind x4.Ballot x4.Prepared x4.Prime x4.Low x4.High)) fun r5 =>
 bif (!r5) then
 j3 (v1.2.1, ())
 else
 bif (decide (x4.Kind = (1 : Int))) then
 bif lenOk 24 (List.length v1.2.1 + List.length [x4.Ballot, x4.Prepared, x4.Prime]) then
 j3 ((v1.2.1 ++ [x4.Ballot, x4.Prepared, x4.Prime]), ())
 else none
 else
 bif (decide (x4.Kind = (2 : Int))) then
 Option.bind (F_envelopes_at (TEnvelope.mk x4.Node x4.Slot x4.Seq (TTrust.mk x4.Trust.Threshold x4.Trust.Nodes x4.Trust.Inner) x4.Kind x4.Ballot x4.Prepared x4.Prime x4.Low x4.High) (1000000 : Int)) fun r6 =>
 bif lenOk 24 (List.length v1.2.1 + List.length [x4.Prepared, r6]) then
 j3 ((v1.2.1 ++ [x4.Prepared, r6]), ())
 else none
 else
 Option.bind (F_envelopes_at (TEnvelope.mk x4.Node x4.Slot x4.Seq (TTrust.mk x4.Trust.Threshold x4.Trust.Nodes x4.Trust.Inner) x4.Kind x4.Ballot x4.Prepared x4.Prime x4.Low x4.High) (1000000 : Int)) fun r7 =>
 bif lenOk 24 (List.length v1.2.1 + List.length [r7]) then
 j3 ((v1.2.1 ++ [r7]), ())
 else none
 else
 Option.map Sum.inr (Option.bind (F_slices_DeleteFunc_api_Ballot_api_Ballot_c85 v1.2.1) fun r8 =>
 Option.bind (F_envelopes_unique_api_Ballot_c86 r8) fun r9 =>
 some r9)) ((0 : Int), ([] : List TBallot), ())
noncomputable def k_envelopes_Ballots : KS U Tryz.prog := ⟨.fn 13 [.ty (Ty.sl (Ty.st .Envelope))] (.one (Ty.sl (Ty.st .Ballot))) fun a => F_envelopes_Ballots a.1, fnS (K := K) sa_envelopes_Ballots 46 [.tmp 2] [k_envelopes_Valid, k_envelopes_at, k_slices_DeleteFunc_api_Ballot_api_Ballot_c85, k_envelopes_unique_api_Ballot_c86] (fk Tryz.f13 [] Tryz.func13)⟩

/-! ### slices.insertionSortCmpFunc[string] -/
noncomputable def sa_slices_insertionSortCmpFunc_string_c89 : SA U := annA (scOf Tryz.prog 53 [] Tryz.f210) (.r (.l (.j ⟨[.val 8 (Ty.i .i64), .own 0 0 0 9 1 Ty.str], [1, 2, 3]⟩ (.l (.r (.l (.l (.r (.l (.j ⟨[.val 9 (Ty.i .i64), .own 0 0 0 9 1 Ty.str], [1, 2, 3, 8]⟩ (.l (.l (.j ⟨[.val 34 Ty.bool], [0, 1, 2, 3, 8, 9]⟩ .e)))))))))))))
noncomputable def F_slices_insertionSortCmpFunc_string_c89 (s : List ByteArray) (a0 : Int) (a1 : Int) : Option ((Unit) × List ByteArray) :=
 loopO (fun (v1 : Int × (List ByteArray) × Unit) =>
 bif (decide (v1.1 < a1)) then
 loopO (fun (v2 : Int × (List ByteArray) × Unit) =>
 letJ (fun (v3 : Bool × Unit) =>
 bif v3.1 then
 Option.bind (idx v2.2.1 (subI .i64 v2.1 (1 : Int))) fun x5 =>
 Option.bind (v2.2.1[(Int.toNat (subI .i64 v2.1 (1 : Int)))]?) fun x6 =>
 Option.bind (idx v2.2.1 v2.1) fun x7 =>
 Option.bind (v2.2.1[(Int.toNat v2.1)]?) fun x8 =>
 Option.bind (idx v2.2.1 v2.1) fun x9 =>
 Option.bind (v2.2.1[(Int.toNat v2.1)]?) fun x10 =>
 Option.bind (idx (v2.2.1.set (Int.toNat v2.1) x6) (subI .i64 v2.1 (1 : Int))) fun x11 =>
 Option.bind ((v2.2.1.set (Int.toNat v2.1) x6)[(Int.toNat (subI .i64 v2.1 (1 : Int)))]?) fun x12 =>
 some (Sum.inl ((subI .i64 v2.1 (1 : Int)), ((v2.2.1.set (Int.toNat v2.1) x6).set (Int.toNat (subI .i64 v2.1 (1 : Int))) x8), ()))
 else
 Option.map Sum.inr (some (Sum.inl ((addI .i64 v1.1 (1 : Int)), v2.2.1, ())))) fun j4 =>
 bif (decide (a0 < v2.1)) then
 Option.bind (idx v2.2.1 v2.1) fun x13 =>
 Option.bind (v2.2.1[(Int.toNat v2.1)]?) fun x14 =>
 Option.bind (idx v2.2.1 (subI .i64 v2.1 (1 : Int))) fun x15 =>
 Option.bind (v2.2.1[(Int.toNat (subI .i64 v2.1 (1 : Int)))]?) fun x16 =>
 Option.bind (F_ballots_CompareValues x14 x16) fun r17 =>
 j4 ((decide (r17 < (0 : Int))), ())
 else
 j4 (false, ())) (v1.1, v1.2.1, ())
 else
 Option.map Sum.inr (some ((()), v1.2.1))) ((addI .i64 a0 (1 : Int)), s, ())
noncomputable def k_slices_insertionSortCmpFunc_string_c89 : KS U Tryz.prog := ⟨.rw 210 9 1 Ty.str [.ty (Ty.i .i64), .ty (Ty.i .i64), .clo 89 []] (.many []) fun s a => F_slices_insertionSortCmpFunc_string_c89 s a.1 a.2.1, rwS (K := K) sa_slices_insertionSortCmpFunc_string_c89 53 [] [k_ballots_CompareValues] (fk Tryz.f210 [] Tryz.func210)⟩

/-! ### slices.siftDownCmpFunc[string] -/
noncomputable def sa_slices_siftDownCmpFunc_string_c89 : SA U := annA (scOf Tryz.prog 82 [] Tryz.f237) (.r (.l (.j ⟨[.val 10 (Ty.i .i64), .own 0 0 0 9 1 Ty.str], [2, 3, 4]⟩ (.l (.l (.r (.r (.j ⟨[.val 11 (Ty.i .i64)], [0, 2, 3, 4, 10]⟩ (.l (.j ⟨[.val 40 Ty.bool], [0, 2, 3, 4, 10, 11]⟩ .e))))))))))
noncomputable def F_slices_siftDownCmpFunc_string_c89 (s : List ByteArray) (a0 : Int) (a1 : Int) (a2 : Int) : Option ((Unit) × List ByteArray) :=
 loopO (fun (v1 : Int × (List ByteArray) × Unit) =>
 bif (decide (a1 ≤ (addI .i64 (mulI .i64 (2 : Int) v1.1) (1 : Int)))) then
 Option.map Sum.inr (some ((()), v1.2.1))
 else
 letJ (fun (v2 : Int × Unit) =>
 Option.bind (idx v1.2.1 (addI .i64 a2 v1.1)) fun x4 =>
 Option.bind (v1.2.1[(Int.toNat (addI .i64 a2 v1.1))]?) fun x5 =>
 Option.bind (idx v1.2.1 (addI .i64 a2 v2.1)) fun x6 =>
 Option.bind (v1.2.1[(Int.toNat (addI .i64 a2 v2.1))]?) fun x7 =>
 Option.bind (F_ballots_CompareValues x5 x7) fun r8 =>
 bif (!(decide (r8 < (0 : Int)))) then
 Option.map Sum.inr (some ((()), v1.2.1))
 else
 Option.bind (idx v1.2.1 (addI .i64 a2 v2.1)) fun x9 =>
 Option.bind (v1.2.1[(Int.toNat (addI .i64 a2 v2.1))]?) fun x10 =>
 Option.bind (idx v1.2.1 (addI .i64 a2 v1.1)) fun x11 =>
 Option.bind (v1.2.1[(Int.toNat (addI .i64 a2 v1.1))]?) fun x12 =>
 Option.bind (idx v1.2.1 (addI .i64 a2 v1.1)) fun x13 =>
 Option.bind (v1.2.1[(Int.toNat (addI .i64 a2 v1.1))]?) fun x14 =>
 Option.bind (idx (v1.2.1.set (Int.toNat (addI .i64 a2 v1.1)) x10) (addI .i64 a2 v2.1)) fun x15 =>
 Option.bind ((v1.2.1.set (Int.toNat (addI .i64 a2 v1.1)) x10)[(Int.toNat (addI .i64 a2 v2.1))]?) fun x16 =>
 some (Sum.inl (v2.1, ((v1.2.1.set (Int.toNat (addI .i64 a2 v1.1)) x10).set (Int.toNat (addI .i64 a2 v2.1)) x12), ()))) fun j3 =>
 letJ (fun (v17 : Bool × Unit) =>
 bif v17.1 then
 j3 ((addI .i64 (addI .i64 (mulI .i64 (2 : Int) v1.1) (1 : Int)) (1 : Int)), ())
 else
 j3 ((addI .i64 (mulI .i64 (2 : Int) v1.1) (1 : Int)), ())) fun j18 =>
 bif (decide ((addI .i64 (addI .i64 (mulI .i64 (2 : Int) v1.1) (1 : Int)) (1 : Int)) < a1)) then
 Option.bind (idx v1.2.1 (addI .i64 a2 (addI .i64 (mulI .i64 (2 : Int) v1.1) (1 : Int)))) fun x19 =>
 Option.bind (v1.2.1[(Int.toNat (addI .i64 a2 (addI .i64 (mulI .i64 (2 : Int) v1.1) (1 : Int))))]?) fun x20 =>
 Option.bind (idx v1.2.1 (addI .i64 (addI .i64 a2 (addI .i64 (mulI .i64 (2 : Int) v1.1) (1 : Int))) (1 : Int))) fun x21 =>
 Option.bind (v1.2.1[(Int.toNat (addI .i64 (addI .i64 a2 (addI .i64 (mulI .i64 (2 : Int) v1.1) (1 : Int))) (1 : Int)))]?) fun x22 =>
 Option.bind (F_ballots_CompareValues x20 x22) fun r23 =>
 j18 ((decide (r23 < (0 : Int))), ())
 else
 j18 (false, ())) (a0, s, ())
noncomputable def k_slices_siftDownCmpFunc_string_c89 : KS U Tryz.prog := ⟨.rw 237 9 1 Ty.str [.ty (Ty.i .i64), .ty (Ty.i .i64), .ty (Ty.i .i64), .clo 89 []] (.many []) fun s a => F_slices_siftDownCmpFunc_string_c89 s a.1 a.2.1 a.2.2.1, rwS (K := K) sa_slices_siftDownCmpFunc_string_c89 82 [] [k_ballots_CompareValues] (fk Tryz.f237 [] Tryz.func237)⟩

/-! ### slices.heapSortCmpFunc[string] -/
noncomputable def sa_slices_heapSortCmpFunc_string_c89 : SA U := annA (scOf Tryz.prog 60 [] Tryz.f211) (.r (.r (.r (.b (.r (.l (.j ⟨[.val 11 (Ty.i .i64), .own 0 0 0 9 1 Ty.str], [3, 8, 9, 10]⟩ .e))) (.r (.l (.j ⟨[.val 12 (Ty.i .i64), .own 0 0 0 9 1 Ty.str], [3, 8, 9]⟩ .e)))))))
noncomputable def F_slices_heapSortCmpFunc_string_c89 (s : List ByteArray) (a0 : Int) (a1 : Int) : Option ((Unit) × List ByteArray) :=
 loopO (fun (v1 : Int × (List ByteArray) × Unit) =>
 bif (decide ((0 : Int) ≤ v1.1)) then
 Option.bind (F_slices_siftDownCmpFunc_string_c89 v1.2.1 v1.1 (subI .i64 a1 a0) a0) fun p2 =>
 some (Sum.inl ((subI .i64 v1.1 (1 : Int)), p2.2, ()))
 else
 Option.map Sum.inr (loopO (fun (v3 : Int × (List ByteArray) × Unit) =>
 bif (decide ((0 : Int) ≤ v3.1)) then
 Option.bind (idx v3.2.1 (addI .i64 a0 v3.1)) fun x4 =>
 Option.bind (v3.2.1[(Int.toNat (addI .i64 a0 v3.1))]?) fun x5 =>
 Option.bind (idx v3.2.1 a0) fun x6 =>
 Option.bind (v3.2.1[(Int.toNat a0)]?) fun x7 =>
 Option.bind (idx v3.2.1 a0) fun x8 =>
 Option.bind (v3.2.1[(Int.toNat a0)]?) fun x9 =>
 Option.bind (idx (v3.2.1.set (Int.toNat a0) x5) (addI .i64 a0 v3.1)) fun x10 =>
 Option.bind ((v3.2.1.set (Int.toNat a0) x5)[(Int.toNat (addI .i64 a0 v3.1))]?) fun x11 =>
 Option.bind (F_slices_siftDownCmpFunc_string_c89 ((v3.2.1.set (Int.toNat a0) x5).set (Int.toNat (addI .i64 a0 v3.1)) x7) (0 : Int) v3.1 a0) fun p12 =>
 some (Sum.inl ((subI .i64 v3.1 (1 : Int)), p12.2, ()))
 else
 Option.map Sum.inr (some ((()), v3.2.1))) ((subI .i64 (subI .i64 a1 a0) (1 : Int)), v1.2.1, ()))) ((quoI .i64 (subI .i64 (subI .i64 a1 a0) (1 : Int)) (2 : Int)), s, ())
noncomputable def k_slices_heapSortCmpFunc_string_c89 : KS U Tryz.prog := ⟨.rw 211 9 1 Ty.str [.ty (Ty.i .i64), .ty (Ty.i .i64), .clo 89 []] (.many []) fun s a => F_slices_heapSortCmpFunc_string_c89 s a.1 a.2.1, rwS (K := K) sa_slices_heapSortCmpFunc_string_c89 60 [] [k_slices_siftDownCmpFunc_string_c89] (fk Tryz.f211 [] Tryz.func211)⟩

/-! ### slices.breakPatternsCmpFunc[string] -/
noncomputable def sa_slices_breakPatternsCmpFunc_string_c89 : SA U := annA (scOf Tryz.prog 67 [] Tryz.f212) (.r (.r (.l (.r (.r (.r (.l (.j ⟨[.val 11 (Ty.i .i64), .own 0 0 0 9 1 Ty.str, .box 9 1 (Ty.i .u64) []], [1, 8, 9, 10]⟩ (.l (.r (.l (.l (.r (.j ⟨[.val 12 (Ty.i .i64)], [0, 1, 8, 9, 10, 11]⟩ .e))))))))))))))
noncomputable def F_slices_breakPatternsCmpFunc_string_c89 (s : List ByteArray) (a0 : Int) (a1 : Int) : Option ((Unit) × List ByteArray) :=
 bif (decide ((8 : Int) ≤ (subI .i64 a1 a0))) then
 Option.bind (F_slices_nextPowerOfTwo (subI .i64 a1 a0)) fun r1 =>
 loopO (fun (v2 : Int × (List ByteArray) × Int × Unit) =>
 bif (decide (v2.1 ≤ (addI .i64 (addI .i64 a0 (mulI .i64 (quoI .i64 (subI .i64 a1 a0) (4 : Int)) (2 : Int))) (1 : Int)))) then
 Option.bind (F_slices_xorshift_Next v2.2.2.1) fun p3 =>
 letJ (fun (v4 : Int × Unit) =>
 Option.bind (idx v2.2.1 (addI .i64 a0 v4.1)) fun x6 =>
 Option.bind (v2.2.1[(Int.toNat (addI .i64 a0 v4.1))]?) fun x7 =>
 Option.bind (idx v2.2.1 v2.1) fun x8 =>
 Option.bind (v2.2.1[(Int.toNat v2.1)]?) fun x9 =>
 Option.bind (idx v2.2.1 v2.1) fun x10 =>
 Option.bind (v2.2.1[(Int.toNat v2.1)]?) fun x11 =>
 Option.bind (idx (v2.2.1.set (Int.toNat v2.1) x7) (addI .i64 a0 v4.1)) fun x12 =>
 Option.bind ((v2.2.1.set (Int.toNat v2.1) x7)[(Int.toNat (addI .i64 a0 v4.1))]?) fun x13 =>
 some (Sum.inl ((addI .i64 v2.1 (1 : Int)), ((v2.2.1.set (Int.toNat v2.1) x7).set (Int.toNat (addI .i64 a0 v4.1)) x9), p3.2, ()))) fun j5 =>
 bif (decide ((subI .i64 a1 a0) ≤ (convI .i64 (andI .u64 p3.1 (subI .u64 r1 (1 : Int)))))) then
 j5 ((subI .i64 (convI .i64 (andI .u64 p3.1 (subI .u64 r1 (1 : Int)))) (subI .i64 a1 a0)), ())
 else
 j5 ((convI .i64 (andI .u64 p3.1 (subI .u64 r1 (1 : Int)))), ())
 else
 Option.map Sum.inr (some ((()), v2.2.1))) ((subI .i64 (addI .i64 a0 (mulI .i64 (quoI .i64 (subI .i64 a1 a0) (4 : Int)) (2 : Int))) (1 : Int)), s, (convI .u64 (subI .i64 a1 a0)), ())
 else
 some ((()), s)
noncomputable def k_slices_breakPatternsCmpFunc_string_c89 : KS U Tryz.prog := ⟨.rw 212 9 1 Ty.str [.ty (Ty.i .i64), .ty (Ty.i .i64), .clo 89 []] (.many []) fun s a => F_slices_breakPatternsCmpFunc_string_c89 s a.1 a.2.1, rwS (K := K) sa_slices_breakPatternsCmpFunc_string_c89 67 [] [k_slices_nextPowerOfTwo, k_slices_xorshift_Next] (fk Tryz.f212 [] Tryz.func212)⟩

/-! ### slices.order2CmpFunc[string] -/
noncomputable def sa_slices_order2CmpFunc_string_c89 : SA U := annA (scOf Tryz.prog 32 [] Tryz.f248) .e
noncomputable def F_slices_order2CmpFunc_string_c89 (s : Int) (a0 : (List ByteArray)) (a1 : Int) (a2 : Int) : Option ((Int × Int × Unit) × Int) :=
 Option.bind (idx a0 a2) fun x1 =>
 Option.bind (idx a0 a1) fun x2 =>
 Option.bind (F_ballots_CompareValues x1 x2) fun r3 =>
 bif (decide (r3 < (0 : Int))) then
 some ((a2, a1, ()), (addI .i64 s (1 : Int)))
 else
 some ((a1, a2, ()), s)
noncomputable def k_slices_order2CmpFunc_string_c89 : KS U Tryz.prog := ⟨.rc 248 3 (Ty.i .i64) [.ty (Ty.sl Ty.str), .ty (Ty.i .i64), .ty (Ty.i .i64), .clo 89 []] (.many [(Ty.i .i64), (Ty.i .i64)]) fun s a => F_slices_order2CmpFunc_string_c89 s a.1 a.2.1 a.2.2.1, rcS (K := K) sa_slices_order2CmpFunc_string_c89 32 [.tmp 10, .tmp 11] [k_ballots_CompareValues] (fk Tryz.f248 [] Tryz.func248)⟩

/-! ### slices.medianCmpFunc[string] -/
noncomputable def sa_slices_medianCmpFunc_string_c89 : SA U := annA (scOf Tryz.prog 41 [] Tryz.f239) .e
noncomputable def F_slices_medianCmpFunc_string_c89 (s : Int) (a0 : (List ByteArray)) (a1 : Int) (a2 : Int) (a3 : Int) : Option (Int × Int) :=
 Option.bind (F_slices_order2CmpFunc_string_c89 s a0 a1 a2) fun p1 =>
 Option.bind (F_slices_order2CmpFunc_string_c89 p1.2 a0 p1.1.2.1 a3) fun p2 =>
 Option.bind (F_slices_order2CmpFunc_string_c89 p2.2 a0 p1.1.1 p2.1.1) fun p3 =>
 some (p3.1.2.1, p3.2)
noncomputable def k_slices_medianCmpFunc_string_c89 : KS U Tryz.prog := ⟨.rc 239 4 (Ty.i .i64) [.ty (Ty.sl Ty.str), .ty (Ty.i .i64), .ty (Ty.i .i64), .ty (Ty.i .i64), .clo 89 []] (.one (Ty.i .i64)) fun s a => F_slices_medianCmpFunc_string_c89 s a.1 a.2.1 a.2.2.1 a.2.2.2.1, rcS (K := K) sa_slices_medianCmpFunc_string_c89 41 [.tmp 12] [k_slices_order2CmpFunc_string_c89] (fk Tryz.f239 [] Tryz.func239)⟩

/-! ### slices.medianAdjacentCmpFunc[string] -/
noncomputable def sa_slices_medianAdjacentCmpFunc_string_c89 : SA U := annA (scOf Tryz.prog 18 [] Tryz.f238) .e
noncomputable def F_slices_medianAdjacentCmpFunc_string_c89 (s : Int) (a0 : (List ByteArray)) (a1 : Int) : Option (Int × Int) :=
 Option.bind (F_slices_medianCmpFunc_string_c89 s a0 (subI .i64 a1 (1 : Int)) a1 (addI .i64 a1 (1 : Int))) fun p1 =>
 some (p1.1, p1.2)
noncomputable def k_slices_medianAdjacentCmpFunc_string_c89 : KS U Tryz.prog := ⟨.rc 238 2 (Ty.i .i64) [.ty (Ty.sl Ty.str), .ty (Ty.i .i64), .clo 89 []] (.one (Ty.i .i64)) fun s a => F_slices_medianAdjacentCmpFunc_string_c89 s a.1 a.2.1, rcS (K := K) sa_slices_medianAdjacentCmpFunc_string_c89 18 [.tmp 8] [k_slices_medianCmpFunc_string_c89] (fk Tryz.f238 [] Tryz.func238)⟩

/-! ### slices.choosePivotCmpFunc[string] -/
noncomputable def sa_slices_choosePivotCmpFunc_string_c89 : SA U := annA (scOf Tryz.prog 63 [] Tryz.f213) (.r (.r (.r (.r (.r (.r (.j ⟨[.val 13 (Ty.i .i64), .box 6 1 (Ty.i .i64) []], [11]⟩ (.l (.r (.l (.j ⟨[.val 12 (Ty.i .i64), .val 13 (Ty.i .i64), .val 14 (Ty.i .i64), .box 6 1 (Ty.i .i64) []], [0, 3, 11]⟩ .e)))))))))))
noncomputable def F_slices_choosePivotCmpFunc_string_c89 (a0 : (List ByteArray)) (a1 : Int) (a2 : Int) : Option (Int × Int × Unit) :=
 letJ (fun (v1 : Int × Int × Unit) =>
 bif (decide (v1.2.1 = (0 : Int))) then
 some (v1.1, (1 : Int), ())
 else
 bif (decide (v1.2.1 = (12 : Int))) then
 some (v1.1, (2 : Int), ())
 else
 some (v1.1, (0 : Int), ())) fun j2 =>
 bif (decide ((8 : Int) ≤ (subI .i64 a2 a1))) then
 letJ (fun (v3 : Int × Int × Int × Int × Unit) =>
 Option.bind (F_slices_medianCmpFunc_string_c89 v3.2.2.2.1 a0 v3.1 v3.2.1 v3.2.2.1) fun p5 =>
 j2 (p5.1, p5.2, ())) fun j4 =>
 bif (decide ((50 : Int) ≤ (subI .i64 a2 a1))) then
 Option.bind (F_slices_medianAdjacentCmpFunc_string_c89 (0 : Int) a0 (addI .i64 a1 (mulI .i64 (quoI .i64 (subI .i64 a2 a1) (4 : Int)) (1 : Int)))) fun p6 =>
 Option.bind (F_slices_medianAdjacentCmpFunc_string_c89 p6.2 a0 (addI .i64 a1 (mulI .i64 (quoI .i64 (subI .i64 a2 a1) (4 : Int)) (2 : Int)))) fun p7 =>
 Option.bind (F_slices_medianAdjacentCmpFunc_string_c89 p7.2 a0 (addI .i64 a1 (mulI .i64 (quoI .i64 (subI .i64 a2 a1) (4 : Int)) (3 : Int)))) fun p8 =>
 j4 (p6.1, p7.1, p8.1, p8.2, ())
 else
 j4 ((addI .i64 a1 (mulI .i64 (quoI .i64 (subI .i64 a2 a1) (4 : Int)) (1 : Int))), (addI .i64 a1 (mulI .i64 (quoI .i64 (subI .i64 a2 a1) (4 : Int)) (2 : Int))), (addI .i64 a1 (mulI .i64 (quoI .i64 (subI .i64 a2 a1) (4 : Int)) (3 : Int))), (0 : Int), ())
 else
 j2 ((addI .i64 a1 (mulI .i64 (quoI .i64 (subI .i64 a2 a1) (4 : Int)) (2 : Int))), (0 : Int), ())
noncomputable def k_slices_choosePivotCmpFunc_string_c89 : KS U Tryz.prog := ⟨.fn 213 [.ty (Ty.sl Ty.str), .ty (Ty.i .i64), .ty (Ty.i .i64), .clo 89 []] (.many [(Ty.i .i64), (Ty.i .i64)]) fun a => F_slices_choosePivotCmpFunc_string_c89 a.1 a.2.1 a.2.2.1, fnS (K := K) sa_slices_choosePivotCmpFunc_string_c89 63 [.tmp 8, .tmp 9] [k_slices_medianAdjacentCmpFunc_string_c89, k_slices_medianCmpFunc_string_c89] (fk Tryz.f213 [] Tryz.func213)⟩

/-! ### slices.reverseRangeCmpFunc[string] -/
noncomputable def sa_slices_reverseRangeCmpFunc_string_c89 : SA U := annA (scOf Tryz.prog 34 [] Tryz.f214) (.r (.r (.l (.j ⟨[.val 8 (Ty.i .i64), .val 9 (Ty.i .i64), .own 0 0 0 9 1 Ty.str], []⟩ .e))))
noncomputable def F_slices_reverseRangeCmpFunc_string_c89 (s : List ByteArray) (a0 : Int) (a1 : Int) : Option ((Unit) × List ByteArray) :=
 loopO (fun (v1 : Int × Int × (List ByteArray) × Unit) =>
 bif (decide (v1.1 < v1.2.1)) then
 Option.bind (idx v1.2.2.1 v1.2.1) fun x2 =>
 Option.bind (v1.2.2.1[(Int.toNat v1.2.1)]?) fun x3 =>
 Option.bind (idx v1.2.2.1 v1.1) fun x4 =>
 Option.bind (v1.2.2.1[(Int.toNat v1.1)]?) fun x5 =>
 Option.bind (idx v1.2.2.1 v1.1) fun x6 =>
 Option.bind (v1.2.2.1[(Int.toNat v1.1)]?) fun x7 =>
 Option.bind (idx (v1.2.2.1.set (Int.toNat v1.1) x3) v1.2.1) fun x8 =>
 Option.bind ((v1.2.2.1.set (Int.toNat v1.1) x3)[(Int.toNat v1.2.1)]?) fun x9 =>
 some (Sum.inl ((addI .i64 v1.1 (1 : Int)), (subI .i64 v1.2.1 (1 : Int)), ((v1.2.2.1.set (Int.toNat v1.1) x3).set (Int.toNat v1.2.1) x5), ()))
 else
 Option.map Sum.inr (some ((()), v1.2.2.1))) (a0, (subI .i64 a1 (1 : Int)), s, ())
noncomputable def k_slices_reverseRangeCmpFunc_string_c89 : KS U Tryz.prog := ⟨.rw 214 9 1 Ty.str [.ty (Ty.i .i64), .ty (Ty.i .i64), .clo 89 []] (.many []) fun s a => F_slices_reverseRangeCmpFunc_string_c89 s a.1 a.2.1, rwS (K := K) sa_slices_reverseRangeCmpFunc_string_c89 34 [] [] (fk Tryz.f214 [] Tryz.func214)⟩

/-! ### slices.partialInsertionSortCmpFunc[string] -/
noncomputable def sa_slices_partialInsertionSortCmpFunc_string_c89 : SA U := annA (scOf Tryz.prog 141 [] Tryz.f215) (.r (.r (.l (.r (.l (.j ⟨[.val 9 (Ty.i .i64), .val 10 (Ty.i .i64), .own 0 0 0 9 1 Ty.str], [1, 2, 3]⟩ (.l (.r (.j ⟨[.val 9 (Ty.i .i64), .own 0 0 0 9 1 Ty.str], [1, 2, 3, 10]⟩ (.l (.l (.b (.l (.j ⟨[.val 9 (Ty.i .i64)], [0, 1, 2, 3, 10]⟩ (.l (.l (.j ⟨[.val 36 Ty.bool], [0, 1, 2, 3, 9, 10]⟩ .e))))) (.r (.r (.r (.j ⟨[.own 0 0 0 9 1 Ty.str], [1, 2, 3, 9, 10]⟩ (.b (.r (.l (.r (.l (.j ⟨[.val 11 (Ty.i .i64), .own 0 0 0 9 1 Ty.str], [1, 2, 3, 9, 10]⟩ .e))))) (.r (.l (.r (.l (.j ⟨[.val 12 (Ty.i .i64), .own 0 0 0 9 1 Ty.str], [1, 2, 3, 9, 10]⟩ .e))))))))))))))))))))))
noncomputable def F_slices_partialInsertionSortCmpFunc_string_c89 (s : List ByteArray) (a0 : Int) (a1 : Int) : Option (Bool × List ByteArray) :=
 loopO (fun (v1 : Int × Int × (List ByteArray) × Unit) =>
 bif (decide (v1.2.1 < (5 : Int))) then
 letJ (fun (v2 : Int × (List ByteArray) × Unit) =>
 some (Sum.inl (v2.1, (addI .i64 v1.2.1 (1 : Int)), v2.2.1, ()))) fun j3 =>
 loopO (fun (v4 : Int × Unit) =>
 letJ (fun (v5 : Bool × Unit) =>
 bif v5.1 then
 some (Sum.inl ((addI .i64 v4.1 (1 : Int)), ()))
 else
 Option.map Sum.inr (bif (decide (v4.1 = a1)) then
 Option.map Sum.inr (some (true, v1.2.2.1))
 else
 bif (decide ((subI .i64 a1 a0) < (50 : Int))) then
 Option.map Sum.inr (some (false, v1.2.2.1))
 else
 Option.bind (idx v1.2.2.1 (subI .i64 v4.1 (1 : Int))) fun x7 =>
 Option.bind (v1.2.2.1[(Int.toNat (subI .i64 v4.1 (1 : Int)))]?) fun x8 =>
 Option.bind (idx v1.2.2.1 v4.1) fun x9 =>
 Option.bind (v1.2.2.1[(Int.toNat v4.1)]?) fun x10 =>
 Option.bind (idx v1.2.2.1 v4.1) fun x11 =>
 Option.bind (v1.2.2.1[(Int.toNat v4.1)]?) fun x12 =>
 Option.bind (idx (v1.2.2.1.set (Int.toNat v4.1) x8) (subI .i64 v4.1 (1 : Int))) fun x13 =>
 Option.bind ((v1.2.2.1.set (Int.toNat v4.1) x8)[(Int.toNat (subI .i64 v4.1 (1 : Int)))]?) fun x14 =>
 letJ (fun (v15 : (List ByteArray) × Unit) =>
 bif (decide ((2 : Int) ≤ (subI .i64 a1 v4.1))) then
 loopO (fun (v17 : Int × (List ByteArray) × Unit) =>
 bif (decide (v17.1 < a1)) then
 Option.bind (idx v17.2.1 v17.1) fun x18 =>
 Option.bind (v17.2.1[(Int.toNat v17.1)]?) fun x19 =>
 Option.bind (idx v17.2.1 (subI .i64 v17.1 (1 : Int))) fun x20 =>
 Option.bind (v17.2.1[(Int.toNat (subI .i64 v17.1 (1 : Int)))]?) fun x21 =>
 Option.bind (F_ballots_CompareValues x19 x21) fun r22 =>
 bif (!(decide (r22 < (0 : Int)))) then
 Option.map Sum.inr (j3 (v4.1, v17.2.1, ()))
 else
 Option.bind (idx v17.2.1 (subI .i64 v17.1 (1 : Int))) fun x23 =>
 Option.bind (v17.2.1[(Int.toNat (subI .i64 v17.1 (1 : Int)))]?) fun x24 =>
 Option.bind (idx v17.2.1 v17.1) fun x25 =>
 Option.bind (v17.2.1[(Int.toNat v17.1)]?) fun x26 =>
 Option.bind (idx v17.2.1 v17.1) fun x27 =>
 Option.bind (v17.2.1[(Int.toNat v17.1)]?) fun x28 =>
 Option.bind (idx (v17.2.1.set (Int.toNat v17.1) x24) (subI .i64 v17.1 (1 : Int))) fun x29 =>
 Option.bind ((v17.2.1.set (Int.toNat v17.1) x24)[(Int.toNat (subI .i64 v17.1 (1 : Int)))]?) fun x30 =>
 some (Sum.inl ((addI .i64 v17.1 (1 : Int)), ((v17.2.1.set (Int.toNat v17.1) x24).set (Int.toNat (subI .i64 v17.1 (1 : Int))) x26), ()))
 else
 Option.map Sum.inr (j3 (v4.1, v17.2.1, ()))) ((addI .i64 v4.1 (1 : Int)), v15.1, ())
 else
 j3 (v4.1, v15.1, ())) fun j16 =>
 bif (decide ((2 : Int) ≤ (subI .i64 v4.1 a0))) then
 loopO (fun (v31 : Int × (List ByteArray) × Unit) =>
 bif (decide ((1 : Int) ≤ v31.1)) then
 Option.bind (idx v31.2.1 v31.1) fun x32 =>
 Option.bind (v31.2.1[(Int.toNat v31.1)]?) fun x33 =>
 Option.bind (idx v31.2.1 (subI .i64 v31.1 (1 : Int))) fun x34 =>
 Option.bind (v31.2.1[(Int.toNat (subI .i64 v31.1 (1 : Int)))]?) fun x35 =>
 Option.bind (F_ballots_CompareValues x33 x35) fun r36 =>
 bif (!(decide (r36 < (0 : Int)))) then
 Option.map Sum.inr (j16 (v31.2.1, ()))
 else
 Option.bind (idx v31.2.1 (subI .i64 v31.1 (1 : Int))) fun x37 =>
 Option.bind (v31.2.1[(Int.toNat (subI .i64 v31.1 (1 : Int)))]?) fun x38 =>
 Option.bind (idx v31.2.1 v31.1) fun x39 =>
 Option.bind (v31.2.1[(Int.toNat v31.1)]?) fun x40 =>
 Option.bind (idx v31.2.1 v31.1) fun x41 =>
 Option.bind (v31.2.1[(Int.toNat v31.1)]?) fun x42 =>
 Option.bind (idx (v31.2.1.set (Int.toNat v31.1) x38) (subI .i64 v31.1 (1 : Int))) fun x43 =>
 Option.bind ((v31.2.1.set (Int.toNat v31.1) x38)[(Int.toNat (subI .i64 v31.1 (1 : Int)))]?) fun x44 =>
 some (Sum.inl ((subI .i64 v31.1 (1 : Int)), ((v31.2.1.set (Int.toNat v31.1) x38).set (Int.toNat (subI .i64 v31.1 (1 : Int))) x40), ()))
 else
 Option.map Sum.inr (j16 (v31.2.1, ()))) ((subI .i64 v4.1 (1 : Int)), ((v1.2.2.1.set (Int.toNat v4.1) x8).set (Int.toNat (subI .i64 v4.1 (1 : Int))) x10), ())
 else
 j16 (((v1.2.2.1.set (Int.toNat v4.1) x8).set (Int.toNat (subI .i64 v4.1 (1 : Int))) x10), ()))) fun j6 =>
 bif (decide (v4.1 < a1)) then
 Option.bind (idx v1.2.2.1 v4.1) fun x45 =>
 Option.bind (v1.2.2.1[(Int.toNat v4.1)]?) fun x46 =>
 Option.bind (idx v1.2.2.1 (subI .i64 v4.1 (1 : Int))) fun x47 =>
 Option.bind (v1.2.2.1[(Int.toNat (subI .i64 v4.1 (1 : Int)))]?) fun x48 =>
 Option.bind (F_ballots_CompareValues x46 x48) fun r49 =>
 j6 ((!(decide (r49 < (0 : Int)))), ())
 else
 j6 (false, ())) (v1.1, ())
 else
 Option.map Sum.inr (some (false, v1.2.2.1))) ((addI .i64 a0 (1 : Int)), (0 : Int), s, ())
noncomputable def k_slices_partialInsertionSortCmpFunc_string_c89 : KS U Tryz.prog := ⟨.rw 215 9 1 Ty.str [.ty (Ty.i .i64), .ty (Ty.i .i64), .clo 89 []] (.one Ty.bool) fun s a => F_slices_partialInsertionSortCmpFunc_string_c89 s a.1 a.2.1, rwS (K := K) sa_slices_partialInsertionSortCmpFunc_string_c89 141 [.tmp 8] [k_ballots_CompareValues] (fk Tryz.f215 [] Tryz.func215)⟩

/-! ### slices.partitionEqualCmpFunc[string] -/
noncomputable def sa_slices_partitionEqualCmpFunc_string_c89 : SA U := annA (scOf Tryz.prog 90 [] Tryz.f216) (.r (.r (.r (.l (.l (.j ⟨[.val 11 (Ty.i .i64), .val 12 (Ty.i .i64), .own 0 0 0 9 1 Ty.str], [1, 4]⟩ (.l (.l (.b (.l (.j ⟨[.val 11 (Ty.i .i64)], [0, 1, 4, 12]⟩ (.l (.l (.j ⟨[.val 47 Ty.bool], [0, 1, 4, 11, 12]⟩ .e))))) (.l (.l (.j ⟨[.val 12 (Ty.i .i64)], [0, 1, 4, 11]⟩ (.l (.l (.j ⟨[.val 65 Ty.bool], [0, 1, 4, 11, 12]⟩ .e)))))))))))))))
noncomputable def F_slices_partitionEqualCmpFunc_string_c89 (s : List ByteArray) (a0 : Int) (a1 : Int) (a2 : Int) : Option (Int × List ByteArray) :=
 Option.bind (idx s a2) fun x1 =>
 Option.bind (s[(Int.toNat a2)]?) fun x2 =>
 Option.bind (idx s a0) fun x3 =>
 Option.bind (s[(Int.toNat a0)]?) fun x4 =>
 Option.bind (idx s a0) fun x5 =>
 Option.bind (s[(Int.toNat a0)]?) fun x6 =>
 Option.bind (idx (s.set (Int.toNat a0) x2) a2) fun x7 =>
 Option.bind ((s.set (Int.toNat a0) x2)[(Int.toNat a2)]?) fun x8 =>
 loopO (fun (v9 : Int × Int × (List ByteArray) × Unit) =>
 loopO (fun (v10 : Int × Unit) =>
 letJ (fun (v11 : Bool × Unit) =>
 bif v11.1 then
 some (Sum.inl ((addI .i64 v10.1 (1 : Int)), ()))
 else
 Option.map Sum.inr (loopO (fun (v13 : Int × Unit) =>
 letJ (fun (v14 : Bool × Unit) =>
 bif v14.1 then
 some (Sum.inl ((subI .i64 v13.1 (1 : Int)), ()))
 else
 Option.map Sum.inr (bif (decide (v13.1 < v10.1)) then
 Option.map Sum.inr (some (v10.1, v9.2.2.1))
 else
 Option.bind (idx v9.2.2.1 v13.1) fun x16 =>
 Option.bind (v9.2.2.1[(Int.toNat v13.1)]?) fun x17 =>
 Option.bind (idx v9.2.2.1 v10.1) fun x18 =>
 Option.bind (v9.2.2.1[(Int.toNat v10.1)]?) fun x19 =>
 Option.bind (idx v9.2.2.1 v10.1) fun x20 =>
 Option.bind (v9.2.2.1[(Int.toNat v10.1)]?) fun x21 =>
 Option.bind (idx (v9.2.2.1.set (Int.toNat v10.1) x17) v13.1) fun x22 =>
 Option.bind ((v9.2.2.1.set (Int.toNat v10.1) x17)[(Int.toNat v13.1)]?) fun x23 =>
 some (Sum.inl ((addI .i64 v10.1 (1 : Int)), (subI .i64 v13.1 (1 : Int)), ((v9.2.2.1.set (Int.toNat v10.1) x17).set (Int.toNat v13.1) x19), ())))) fun j15 =>
 bif (decide (v10.1 ≤ v13.1)) then
 Option.bind (idx v9.2.2.1 a0) fun x24 =>
 Option.bind (v9.2.2.1[(Int.toNat a0)]?) fun x25 =>
 Option.bind (idx v9.2.2.1 v13.1) fun x26 =>
 Option.bind (v9.2.2.1[(Int.toNat v13.1)]?) fun x27 =>
 Option.bind (F_ballots_CompareValues x25 x27) fun r28 =>
 j15 ((decide (r28 < (0 : Int))), ())
 else
 j15 (false, ())) (v9.2.1, ()))) fun j12 =>
 bif (decide (v10.1 ≤ v9.2.1)) then
 Option.bind (idx v9.2.2.1 a0) fun x29 =>
 Option.bind (v9.2.2.1[(Int.toNat a0)]?) fun x30 =>
 Option.bind (idx v9.2.2.1 v10.1) fun x31 =>
 Option.bind (v9.2.2.1[(Int.toNat v10.1)]?) fun x32 =>
 Option.bind (F_ballots_CompareValues x30 x32) fun r33 =>
 j12 ((!(decide (r33 < (0 : Int)))), ())
 else
 j12 (false, ())) (v9.1, ())) ((addI .i64 a0 (1 : Int)), (subI .i64 a1 (1 : Int)), ((s.set (Int.toNat a0) x2).set (Int.toNat a2) x4), ())
noncomputable def k_slices_partitionEqualCmpFunc_string_c89 : KS U Tryz.prog := ⟨.rw 216 9 1 Ty.str [.ty (Ty.i .i64), .ty (Ty.i .i64), .ty (Ty.i .i64), .clo 89 []] (.one (Ty.i .i64)) fun s a => F_slices_partitionEqualCmpFunc_string_c89 s a.1 a.2.1 a.2.2.1, rwS (K := K) sa_slices_partitionEqualCmpFunc_string_c89 90 [.tmp 10] [k_ballots_CompareValues] (fk Tryz.f216 [] Tryz.func216)⟩

/-! ### slices.partitionCmpFunc[string] -/
noncomputable def sa_slices_partitionCmpFunc_string_c89 : SA U := annA (scOf Tryz.prog 178 [] Tryz.f217) (.r (.r (.r (.b (.l (.j ⟨[.val 12 (Ty.i .i64)], [0, 1, 4, 13]⟩ (.l (.l (.j ⟨[.val 47 Ty.bool], [0, 1, 4, 12, 13]⟩ .e))))) (.b (.l (.j ⟨[.val 13 (Ty.i .i64)], [0, 1, 4, 12]⟩ (.l (.l (.j ⟨[.val 66 Ty.bool], [0, 1, 4, 12, 13]⟩ .e))))) (.r (.r (.r (.r (.l (.l (.j ⟨[.val 12 (Ty.i .i64), .val 13 (Ty.i .i64), .own 0 0 0 9 1 Ty.str], [1, 4]⟩ (.l (.l (.b (.l (.j ⟨[.val 12 (Ty.i .i64)], [0, 1, 4, 13]⟩ (.l (.l (.j ⟨[.val 120 Ty.bool], [0, 1, 4, 12, 13]⟩ .e))))) (.l (.l (.j ⟨[.val 13 (Ty.i .i64)], [0, 1, 4, 12]⟩ (.l (.l (.j ⟨[.val 139 Ty.bool], [0, 1, 4, 12, 13]⟩ .e)))))))))))))))))))))
noncomputable def F_slices_partitionCmpFunc_string_c89 (s : List ByteArray) (a0 : Int) (a1 : Int) (a2 : Int) : Option ((Int × Bool × Unit) × List ByteArray) :=
 Option.bind (idx s a2) fun x1 =>
 Option.bind (s[(Int.toNat a2)]?) fun x2 =>
 Option.bind (idx s a0) fun x3 =>
 Option.bind (s[(Int.toNat a0)]?) fun x4 =>
 Option.bind (idx s a0) fun x5 =>
 Option.bind (s[(Int.toNat a0)]?) fun x6 =>
 Option.bind (idx (s.set (Int.toNat a0) x2) a2) fun x7 =>
 Option.bind ((s.set (Int.toNat a0) x2)[(Int.toNat a2)]?) fun x8 =>
 loopO (fun (v9 : Int × Unit) =>
 letJ (fun (v10 : Bool × Unit) =>
 bif v10.1 then
 some (Sum.inl ((addI .i64 v9.1 (1 : Int)), ()))
 else
 Option.map Sum.inr (loopO (fun (v12 : Int × Unit) =>
 letJ (fun (v13 : Bool × Unit) =>
 bif v13.1 then
 some (Sum.inl ((subI .i64 v12.1 (1 : Int)), ()))
 else
 Option.map Sum.inr (bif (decide (v12.1 < v9.1)) then
 Option.bind (idx ((s.set (Int.toNat a0) x2).set (Int.toNat a2) x4) a0) fun x15 =>
 Option.bind (((s.set (Int.toNat a0) x2).set (Int.toNat a2) x4)[(Int.toNat a0)]?) fun x16 =>
 Option.bind (idx ((s.set (Int.toNat a0) x2).set (Int.toNat a2) x4) v12.1) fun x17 =>
 Option.bind (((s.set (Int.toNat a0) x2).set (Int.toNat a2) x4)[(Int.toNat v12.1)]?) fun x18 =>
 Option.bind (idx ((s.set (Int.toNat a0) x2).set (Int.toNat a2) x4) v12.1) fun x19 =>
 Option.bind (((s.set (Int.toNat a0) x2).set (Int.toNat a2) x4)[(Int.toNat v12.1)]?) fun x20 =>
 Option.bind (idx (((s.set (Int.toNat a0) x2).set (Int.toNat a2) x4).set (Int.toNat v12.1) x16) a0) fun x21 =>
 Option.bind ((((s.set (Int.toNat a0) x2).set (Int.toNat a2) x4).set (Int.toNat v12.1) x16)[(Int.toNat a0)]?) fun x22 =>
 some ((v12.1, true, ()), ((((s.set (Int.toNat a0) x2).set (Int.toNat a2) x4).set (Int.toNat v12.1) x16).set (Int.toNat a0) x18))
 else
 Option.bind (idx ((s.set (Int.toNat a0) x2).set (Int.toNat a2) x4) v12.1) fun x23 =>
 Option.bind (((s.set (Int.toNat a0) x2).set (Int.toNat a2) x4)[(Int.toNat v12.1)]?) fun x24 =>
 Option.bind (idx ((s.set (Int.toNat a0) x2).set (Int.toNat a2) x4) v9.1) fun x25 =>
 Option.bind (((s.set (Int.toNat a0) x2).set (Int.toNat a2) x4)[(Int.toNat v9.1)]?) fun x26 =>
 Option.bind (idx ((s.set (Int.toNat a0) x2).set (Int.toNat a2) x4) v9.1) fun x27 =>
 Option.bind (((s.set (Int.toNat a0) x2).set (Int.toNat a2) x4)[(Int.toNat v9.1)]?) fun x28 =>
 Option.bind (idx (((s.set (Int.toNat a0) x2).set (Int.toNat a2) x4).set (Int.toNat v9.1) x24) v12.1) fun x29 =>
 Option.bind ((((s.set (Int.toNat a0) x2).set (Int.toNat a2) x4).set (Int.toNat v9.1) x24)[(Int.toNat v12.1)]?) fun x30 =>
 loopO (fun (v31 : Int × Int × (List ByteArray) × Unit) =>
 loopO (fun (v32 : Int × Unit) =>
 letJ (fun (v33 : Bool × Unit) =>
 bif v33.1 then
 some (Sum.inl ((addI .i64 v32.1 (1 : Int)), ()))
 else
 Option.map Sum.inr (loopO (fun (v35 : Int × Unit) =>
 letJ (fun (v36 : Bool × Unit) =>
 bif v36.1 then
 some (Sum.inl ((subI .i64 v35.1 (1 : Int)), ()))
 else
 Option.map Sum.inr (bif (decide (v35.1 < v32.1)) then
 Option.map Sum.inr (Option.bind (idx v31.2.2.1 a0) fun x38 =>
 Option.bind (v31.2.2.1[(Int.toNat a0)]?) fun x39 =>
 Option.bind (idx v31.2.2.1 v35.1) fun x40 =>
 Option.bind (v31.2.2.1[(Int.toNat v35.1)]?) fun x41 =>
 Option.bind (idx v31.2.2.1 v35.1) fun x42 =>
 Option.bind (v31.2.2.1[(Int.toNat v35.1)]?) fun x43 =>
 Option.bind (idx (v31.2.2.1.set (Int.toNat v35.1) x39) a0) fun x44 =>
 Option.bind ((v31.2.2.1.set (Int.toNat v35.1) x39)[(Int.toNat a0)]?) fun x45 =>
 some ((v35.1, false, ()), ((v31.2.2.1.set (Int.toNat v35.1) x39).set (Int.toNat a0) x41)))
 else
 Option.bind (idx v31.2.2.1 v35.1) fun x46 =>
 Option.bind (v31.2.2.1[(Int.toNat v35.1)]?) fun x47 =>
 Option.bind (idx v31.2.2.1 v32.1) fun x48 =>
 Option.bind (v31.2.2.1[(Int.toNat v32.1)]?) fun x49 =>
 Option.bind (idx v31.2.2.1 v32.1) fun x50 =>
 Option.bind (v31.2.2.1[(Int.toNat v32.1)]?) fun x51 =>
 Option.bind (idx (v31.2.2.1.set (Int.toNat v32.1) x47) v35.1) fun x52 =>
 Option.bind ((v31.2.2.1.set (Int.toNat v32.1) x47)[(Int.toNat v35.1)]?) fun x53 =>
 some (Sum.inl ((addI .i64 v32.1 (1 : Int)), (subI .i64 v35.1 (1 : Int)), ((v31.2.2.1.set (Int.toNat v32.1) x47).set (Int.toNat v35.1) x49), ())))) fun j37 =>
 bif (decide (v32.1 ≤ v35.1)) then
 Option.bind (idx v31.2.2.1 v35.1) fun x54 =>
 Option.bind (v31.2.2.1[(Int.toNat v35.1)]?) fun x55 =>
 Option.bind (idx v31.2.2.1 a0) fun x56 =>
 Option.bind (v31.2.2.1[(Int.toNat a0)]?) fun x57 =>
 Option.bind (F_ballots_CompareValues x55 x57) fun r58 =>
 j37 ((!(decide (r58 < (0 : Int)))), ())
 else
 j37 (false, ())) (v31.2.1, ()))) fun j34 =>
 bif (decide (v32.1 ≤ v31.2.1)) then
 Option.bind (idx v31.2.2.1 v32.1) fun x59 =>
 Option.bind (v31.2.2.1[(Int.toNat v32.1)]?) fun x60 =>
 Option.bind (idx v31.2.2.1 a0) fun x61 =>
 Option.bind (v31.2.2.1[(Int.toNat a0)]?) fun x62 =>
 Option.bind (F_ballots_CompareValues x60 x62) fun r63 =>
 j34 ((decide (r63 < (0 : Int))), ())
 else
 j34 (false, ())) (v31.1, ())) ((addI .i64 v9.1 (1 : Int)), (subI .i64 v12.1 (1 : Int)), ((((s.set (Int.toNat a0) x2).set (Int.toNat a2) x4).set (Int.toNat v9.1) x24).set (Int.toNat v12.1) x26), ()))) fun j14 =>
 bif (decide (v9.1 ≤ v12.1)) then
 Option.bind (idx ((s.set (Int.toNat a0) x2).set (Int.toNat a2) x4) v12.1) fun x64 =>
 Option.bind (((s.set (Int.toNat a0) x2).set (Int.toNat a2) x4)[(Int.toNat v12.1)]?) fun x65 =>
 Option.bind (idx ((s.set (Int.toNat a0) x2).set (Int.toNat a2) x4) a0) fun x66 =>
 Option.bind (((s.set (Int.toNat a0) x2).set (Int.toNat a2) x4)[(Int.toNat a0)]?) fun x67 =>
 Option.bind (F_ballots_CompareValues x65 x67) fun r68 =>
 j14 ((!(decide (r68 < (0 : Int)))), ())
 else
 j14 (false, ())) ((subI .i64 a1 (1 : Int)), ()))) fun j11 =>
 bif (decide (v9.1 ≤ (subI .i64 a1 (1 : Int)))) then
 Option.bind (idx ((s.set (Int.toNat a0) x2).set (Int.toNat a2) x4) v9.1) fun x69 =>
 Option.bind (((s.set (Int.toNat a0) x2).set (Int.toNat a2) x4)[(Int.toNat v9.1)]?) fun x70 =>
 Option.bind (idx ((s.set (Int.toNat a0) x2).set (Int.toNat a2) x4) a0) fun x71 =>
 Option.bind (((s.set (Int.toNat a0) x2).set (Int.toNat a2) x4)[(Int.toNat a0)]?) fun x72 =>
 Option.bind (F_ballots_CompareValues x70 x72) fun r73 =>
 j11 ((decide (r73 < (0 : Int))), ())
 else
 j11 (false, ())) ((addI .i64 a0 (1 : Int)), ())
noncomputable def k_slices_partitionCmpFunc_string_c89 : KS U Tryz.prog := ⟨.rw 217 9 1 Ty.str [.ty (Ty.i .i64), .ty (Ty.i .i64), .ty (Ty.i .i64), .clo 89 []] (.many [(Ty.i .i64), Ty.bool]) fun s a => F_slices_partitionCmpFunc_string_c89 s a.1 a.2.1 a.2.2.1, rwS (K := K) sa_slices_partitionCmpFunc_string_c89 178 [.tmp 10, .tmp 11] [k_ballots_CompareValues] (fk Tryz.f217 [] Tryz.func217)⟩

/-! ### slices.pdqsortCmpFunc[string] -/
noncomputable def sa_slices_pdqsortCmpFunc_string_c89 : SA U := annA (scOf Tryz.prog 148 [] Tryz.f182) (.r (.r (.l (.j ⟨[.val 1 (Ty.i .i64), .val 2 (Ty.i .i64), .val 3 (Ty.i .i64), .val 10 Ty.bool, .val 11 Ty.bool, .own 0 0 0 9 1 Ty.str], [4]⟩ (.l (.l (.r (.r (.r (.j ⟨[.val 3 (Ty.i .i64), .own 0 0 0 9 1 Ty.str], [1, 2, 4, 10, 11, 12]⟩ (.r (.r (.j ⟨[.val 13 (Ty.i .i64), .val 14 (Ty.i .i64), .own 0 0 0 9 1 Ty.str], [1, 2, 3, 4, 10, 11, 12]⟩ (.r (.j ⟨[.own 0 0 0 9 1 Ty.str], [1, 2, 3, 4, 10, 11, 12, 13]⟩ (.r (.l (.j ⟨[.val 97 Ty.bool], [0, 1, 2, 3, 4, 10, 11, 12, 13]⟩ .e))))))))))))))))))
noncomputable def B_slices_pdqsortCmpFunc_string_c89 (rec : List ByteArray → (Int × Int × Int × (Unit) × Unit) → Option ((Unit) × List ByteArray)) (s : List ByteArray) (a0 : Int) (a1 : Int) (a2 : Int) : Option ((Unit) × List ByteArray) :=
 loopO (fun (v1 : Int × Int × Int × Bool × Bool × (List ByteArray) × Unit) =>
 bif (decide ((subI .i64 v1.2.1 v1.1) ≤ (12 : Int))) then
 Option.bind (F_slices_insertionSortCmpFunc_string_c89 v1.2.2.2.2.2.1 v1.1 v1.2.1) fun p2 =>
 Option.map Sum.inr (some ((()), p2.2))
 else
 bif (decide (v1.2.2.1 = (0 : Int))) then
 Option.bind (F_slices_heapSortCmpFunc_string_c89 v1.2.2.2.2.2.1 v1.1 v1.2.1) fun p3 =>
 Option.map Sum.inr (some ((()), p3.2))
 else
 letJ (fun (v4 : Int × (List ByteArray) × Unit) =>
 Option.bind (F_slices_choosePivotCmpFunc_string_c89 v4.2.1 v1.1 v1.2.1) fun r6 =>
 letJ (fun (v7 : Int × Int × (List ByteArray) × Unit) =>
 letJ (fun (v9 : (List ByteArray) × Unit) =>
 letJ (fun (v11 : Bool × Unit) =>
 bif v11.1 then
 Option.bind (F_slices_partitionEqualCmpFunc_string_c89 v9.1 v1.1 v1.2.1 v7.1) fun p13 =>
 some (Sum.inl (p13.1, v1.2.1, v4.1, v1.2.2.2.1, v1.2.2.2.2.1, p13.2, ()))
 else
 Option.bind (F_slices_partitionCmpFunc_string_c89 v9.1 v1.1 v1.2.1 v7.1) fun p14 =>
 bif (decide ((subI .i64 p14.1.1 v1.1) < (subI .i64 v1.2.1 p14.1.1))) then
 Option.bind (rec p14.2 (v1.1, p14.1.1, v4.1, (()), ())) fun p15 =>
 some (Sum.inl ((addI .i64 p14.1.1 (1 : Int)), v1.2.1, v4.1, (decide ((quoI .i64 (subI .i64 v1.2.1 v1.1) (8 : Int)) ≤ (subI .i64 p14.1.1 v1.1))), p14.1.2.1, p15.2, ()))
 else
 Option.bind (rec p14.2 ((addI .i64 p14.1.1 (1 : Int)), v1.2.1, v4.1, (()), ())) fun p16 =>
 some (Sum.inl (v1.1, p14.1.1, v4.1, (decide ((quoI .i64 (subI .i64 v1.2.1 v1.1) (8 : Int)) ≤ (subI .i64 v1.2.1 p14.1.1))), p14.1.2.1, p16.2, ()))) fun j12 =>
 bif (decide ((0 : Int) < v1.1)) then
 Option.bind (idx v9.1 (subI .i64 v1.1 (1 : Int))) fun x17 =>
 Option.bind (v9.1[(Int.toNat (subI .i64 v1.1 (1 : Int)))]?) fun x18 =>
 Option.bind (idx v9.1 v7.1) fun x19 =>
 Option.bind (v9.1[(Int.toNat v7.1)]?) fun x20 =>
 Option.bind (F_ballots_CompareValues x18 x20) fun r21 =>
 j12 ((!(decide (r21 < (0 : Int)))), ())
 else
 j12 (false, ())) fun j10 =>
 Option.bind (bif v1.2.2.2.1 then
 some v1.2.2.2.2.1
 else some false) fun b22 =>
 Option.bind (bif b22 then
 some (decide (v7.2.1 = (1 : Int)))
 else some false) fun b23 =>
 bif b23 then
 Option.bind (F_slices_partialInsertionSortCmpFunc_string_c89 v7.2.2.1 v1.1 v1.2.1) fun p24 =>
 bif p24.1 then
 Option.map Sum.inr (some ((()), p24.2))
 else
 j10 (p24.2, ())
 else
 j10 (v7.2.2.1, ())) fun j8 =>
 bif (decide (r6.2.1 = (2 : Int))) then
 Option.bind (F_slices_reverseRangeCmpFunc_string_c89 v4.2.1 v1.1 v1.2.1) fun p25 =>
 j8 ((subI .i64 (subI .i64 v1.2.1 (1 : Int)) (subI .i64 r6.1 v1.1)), (1 : Int), p25.2, ())
 else
 j8 (r6.1, r6.2.1, v4.2.1, ())) fun j5 =>
 bif (!v1.2.2.2.1) then
 Option.bind (F_slices_breakPatternsCmpFunc_string_c89 v1.2.2.2.2.2.1 v1.1 v1.2.1) fun p26 =>
 j5 ((subI .i64 v1.2.2.1 (1 : Int)), p26.2, ())
 else
 j5 (v1.2.2.1, v1.2.2.2.2.2.1, ())) (a0, a1, a2, true, true, s, ())
noncomputable def I_slices_pdqsortCmpFunc_string_c89 : Nat → List ByteArray → (Int × Int × Int × (Unit) × Unit) → Option ((Unit) × List ByteArray) := iterF2 (fun rec s a => B_slices_pdqsortCmpFunc_string_c89 rec s a.1 a.2.1 a.2.2.1)
noncomputable def F_slices_pdqsortCmpFunc_string_c89 (s : List ByteArray) (a0 : Int) (a1 : Int) (a2 : Int) : Option ((Unit) × List ByteArray) := I_slices_pdqsortCmpFunc_string_c89 (List.length s + 1) s (a0, a1, a2, (()), ())
noncomputable def k_slices_pdqsortCmpFunc_string_c89 : KS U Tryz.prog := ⟨.rw 182 9 1 Ty.str [.ty (Ty.i .i64), .ty (Ty.i .i64), .ty (Ty.i .i64), .clo 89 []] (.many []) fun s a => F_slices_pdqsortCmpFunc_string_c89 s a.1 a.2.1 a.2.2.1, rwRS (K := K) («as» := [.ty (Ty.i .i64), .ty (Ty.i .i64), .ty (Ty.i .i64), .clo 89 []]) (r := .many []) (T := Ty.str) (B := fun rec s a => B_slices_pdqsortCmpFunc_string_c89 rec s a.1 a.2.1 a.2.2.1) sa_slices_pdqsortCmpFunc_string_c89 148 [] [k_slices_insertionSortCmpFunc_string_c89, k_slices_heapSortCmpFunc_string_c89, k_slices_breakPatternsCmpFunc_string_c89, k_slices_choosePivotCmpFunc_string_c89, k_slices_reverseRangeCmpFunc_string_c89, k_slices_partialInsertionSortCmpFunc_string_c89, k_ballots_CompareValues, k_slices_partitionEqualCmpFunc_string_c89, k_slices_partitionCmpFunc_string_c89] (fk Tryz.f182 [] Tryz.func182) (hF := fun s a => ⟨_, rfl⟩)⟩

/-! ### slices.SortFunc[[]string,string] -/
noncomputable def sa_slices_SortFunc_string_string_c89 : SA U := annA (scOf Tryz.prog 14 [] Tryz.f148) .e
noncomputable def F_slices_SortFunc_string_string_c89 (s : List ByteArray)  : Option ((Unit) × List ByteArray) :=
 Option.bind (F_math_bits_Len (convI .u64 ((List.length s : Nat) : Int))) fun r1 =>
 Option.bind (F_slices_pdqsortCmpFunc_string_c89 s (0 : Int) ((List.length s : Nat) : Int) r1) fun p2 =>
 some ((()), p2.2)
noncomputable def k_slices_SortFunc_string_string_c89 : KS U Tryz.prog := ⟨.rw 148 9 1 Ty.str [.clo 89 []] (.many []) fun s a => F_slices_SortFunc_string_string_c89 s , rwS (K := K) sa_slices_SortFunc_string_string_c89 14 [] [k_math_bits_Len, k_slices_pdqsortCmpFunc_string_c89] (fk Tryz.f148 [] Tryz.func148)⟩

/-! ### slices.Compact[[]string,string] -/
noncomputable def sa_slices_Compact_string_string : SA U := annA (scOf Tryz.prog 61 [] Tryz.f149) (.r (.r (.l (.r (.l (.j ⟨[.val 3 (Ty.i .i64), .own 0 0 0 9 1 Ty.str], []⟩ (.l (.r (.l (.l (.r (.l (.r (.b (.r (.l (.j ⟨[.val 3 (Ty.i .i64), .val 5 (Ty.i .i64), .own 0 0 0 9 1 Ty.str], [4]⟩ (.l (.r (.j ⟨[.val 3 (Ty.i .i64), .own 0 0 0 9 1 Ty.str], [4, 5]⟩ .e)))))) (.r (.l (.g [(4, .ps (.cut 2))])))))))))))))))))
noncomputable def F_slices_Compact_string_string (s : List ByteArray)  : Option (List ByteArray) :=
 bif (decide (((List.length s : Nat) : Int) < (2 : Int))) then
 some s
 else
 loopO (fun (v1 : Int × (List ByteArray) × Unit) =>
 bif (decide (v1.1 < ((List.length v1.2.1 : Nat) : Int))) then
 Option.bind (idx v1.2.1 v1.1) fun x2 =>
 Option.bind (v1.2.1[(Int.toNat v1.1)]?) fun x3 =>
 Option.bind (idx v1.2.1 (subI .i64 v1.1 (1 : Int))) fun x4 =>
 Option.bind (v1.2.1[(Int.toNat (subI .i64 v1.1 (1 : Int)))]?) fun x5 =>
 bif (decide (x3 = x5)) then
 bif slcOk v1.1 ((List.length v1.2.1) : Int) (List.length v1.2.1) then
 loopO (fun (v6 : Int × Int × (List ByteArray) × Unit) =>
 bif (decide (v6.2.1 < ((List.length ((v6.2.2.1.drop (Int.toNat v1.1)).take (Int.toNat ((List.length v1.2.1) : Int) - Int.toNat v1.1)) : Nat) : Int))) then
 letJ (fun (v7 : Int × (List ByteArray) × Unit) =>
 some (Sum.inl (v7.1, (addI .i64 v6.2.1 (1 : Int)), v7.2.1, ()))) fun j8 =>
 Option.bind (idx ((v6.2.2.1.drop (Int.toNat v1.1)).take (Int.toNat ((List.length v1.2.1) : Int) - Int.toNat v1.1)) v6.2.1) fun x9 =>
 Option.bind (v6.2.2.1[((Int.toNat v1.1) + Int.toNat v6.2.1)]?) fun x10 =>
 Option.bind (idx ((v6.2.2.1.drop (Int.toNat v1.1)).take (Int.toNat ((List.length v1.2.1) : Int) - Int.toNat v1.1)) (subI .i64 v6.2.1 (1 : Int))) fun x11 =>
 Option.bind (v6.2.2.1[((Int.toNat v1.1) + Int.toNat (subI .i64 v6.2.1 (1 : Int)))]?) fun x12 =>
 bif (!decide (x10 = x12)) then
 Option.bind (idx ((v6.2.2.1.drop (Int.toNat v1.1)).take (Int.toNat ((List.length v1.2.1) : Int) - Int.toNat v1.1)) v6.2.1) fun x13 =>
 Option.bind (v6.2.2.1[((Int.toNat v1.1) + Int.toNat v6.2.1)]?) fun x14 =>
 Option.bind (idx v6.2.2.1 v6.1) fun x15 =>
 Option.bind (v6.2.2.1[(Int.toNat v6.1)]?) fun x16 =>
 j8 ((addI .i64 v6.1 (1 : Int)), (v6.2.2.1.set (Int.toNat v6.1) x14), ())
 else
 j8 (v6.1, v6.2.2.1, ())
 else
 Option.map Sum.inr (bif slcOk v6.1 ((List.length v6.2.2.1) : Int) (List.length v6.2.2.1) then
 bif slcOk (0 : Int) v6.1 (List.length (v6.2.2.1.take (Int.toNat v6.1) ++ List.replicate (Int.toNat ((List.length v6.2.2.1) : Int) - Int.toNat v6.1) (ByteArray.mk #[]) ++ v6.2.2.1.drop ((Int.toNat v6.1) + (Int.toNat ((List.length v6.2.2.1) : Int) - Int.toNat v6.1)))) then
 Option.map Sum.inr (some ((v6.2.2.1.take (Int.toNat v6.1) ++ List.replicate (Int.toNat ((List.length v6.2.2.1) : Int) - Int.toNat v6.1) (ByteArray.mk #[]) ++ v6.2.2.1.drop ((Int.toNat v6.1) + (Int.toNat ((List.length v6.2.2.1) : Int) - Int.toNat v6.1))).take (Int.toNat v6.1 - Int.toNat (0 : Int))))
 else none
 else none)) (v1.1, (1 : Int), v1.2.1, ())
 else none
 else
 some (Sum.inl ((addI .i64 v1.1 (1 : Int)), v1.2.1, ()))
 else
 Option.map Sum.inr (some v1.2.1)) ((1 : Int), s, ())
noncomputable def k_slices_Compact_string_string : KS U Tryz.prog := ⟨.cw 149 9 1 Ty.str [] fun s a => F_slices_Compact_string_string s , cwS (K := K) sa_slices_Compact_string_string 61 [.tmp 2] [] (fk Tryz.f149 [] Tryz.func149)⟩

/-! ### trustquorum/envelopes.unique[string] -/
noncomputable def sa_envelopes_unique_string_c89 : SA U := annA (scOf Tryz.prog 10 [] Tryz.f88) .e
noncomputable def F_envelopes_unique_string_c89 (s : List ByteArray)  : Option (List ByteArray) :=
 Option.bind (F_slices_SortFunc_string_string_c89 s) fun p1 =>
 Option.bind (F_slices_Compact_string_string p1.2) fun r2 =>
 some r2
noncomputable def k_envelopes_unique_string_c89 : KS U Tryz.prog := ⟨.cw 88 9 1 Ty.str [.clo 89 []] fun s a => F_envelopes_unique_string_c89 s , cwS (K := K) sa_envelopes_unique_string_c89 10 [.tmp 4] [k_slices_SortFunc_string_string_c89, k_slices_Compact_string_string] (fk Tryz.f88 [] Tryz.func88)⟩

/-! ### trustquorum/envelopes.Values -/
noncomputable def sa_envelopes_Values : SA U := annA (scOf Tryz.prog 23 [] Tryz.f14) (.r (.r (.l (.r (.l (.ps (.own 3 9 1 Ty.str) (.j ⟨[.val 8 (Ty.i .i64), .own 3 5 1 9 1 Ty.str], [6, 7]⟩ (.l (.r (.r (.j ⟨[.own 3 5 1 9 1 Ty.str], [6, 7, 8]⟩ .e)))))))))))
noncomputable def F_envelopes_Values (a0 : (List TEnvelope)) : Option (List ByteArray) :=
 loopO (fun (v1 : Int × (List ByteArray) × Unit) =>
 bif (decide (v1.1 < ((List.length a0 : Nat) : Int))) then
 letJ (fun (v2 : (List ByteArray) × Unit) =>
 some (Sum.inl ((addI .i64 v1.1 (1 : Int)), v2.1, ()))) fun j3 =>
 Option.bind (idx a0 v1.1) fun x4 =>
 Option.bind (F_envelopes_Valid (TEnvelope.mk x4.Node x4.Slot x4.Seq (TTrust.mk x4.Trust.Threshold x4.Trust.Nodes x4.Trust.Inner) x4.Kind x4.Ballot x4.Prepared x4.Prime x4.Low x4.High)) fun r5 =>
 bif r5 then
 bif lenOk 16 (List.length v1.2.1 + List.length [x4.Ballot.Value]) then
 j3 ((v1.2.1 ++ [x4.Ballot.Value]), ())
 else none
 else
 j3 (v1.2.1, ())
 else
 Option.map Sum.inr (Option.bind (F_envelopes_unique_string_c89 v1.2.1) fun r6 =>
 some r6)) ((0 : Int), ([] : List ByteArray), ())
noncomputable def k_envelopes_Values : KS U Tryz.prog := ⟨.fn 14 [.ty (Ty.sl (Ty.st .Envelope))] (.one (Ty.sl Ty.str)) fun a => F_envelopes_Values a.1, fnS (K := K) sa_envelopes_Values 23 [.tmp 2] [k_envelopes_Valid, k_envelopes_unique_string_c89] (fk Tryz.f14 [] Tryz.func14)⟩

/-! ### (trustquorum/envelopes.Right).VotesPrepare -/
noncomputable def sa_envelopes_Right_VotesPrepare : SA U := annA (scOf Tryz.prog 23 [] Tryz.f90) .e
noncomputable def F_envelopes_Right_VotesPrepare (a0 : TRight) (a1 : TBallot) : Option Bool :=
 Option.bind (F_ballots_Zero a1) fun r1 =>
 bif r1 then
 some false
 else
 bif (decide (a0.Envelope.Kind = (1 : Int))) then
 Option.bind (F_ballots_Covers a0.Envelope.Ballot a1) fun r2 =>
 some r2
 else
 Option.bind (F_ballots_Compatible a0.Envelope.Ballot a1) fun r3 =>
 some r3
noncomputable def k_envelopes_Right_VotesPrepare : KS U Tryz.prog := ⟨.fn 90 [.ty (Ty.st .Right), .ty (Ty.st .Ballot)] (.one Ty.bool) fun a => F_envelopes_Right_VotesPrepare a.1 a.2.1, fnS (K := K) sa_envelopes_Right_VotesPrepare 23 [.tmp 4] [k_ballots_Zero, k_ballots_Covers, k_ballots_Compatible] (fk Tryz.f90 [] Tryz.func90)⟩

/-! ### trustquorum/envelopes.VotesPrepare -/
noncomputable def sa_envelopes_VotesPrepare : SA U := annA (scOf Tryz.prog 13 [] Tryz.f16) .e
noncomputable def F_envelopes_VotesPrepare (a0 : TEnvelope) (a1 : TBallot) : Option Bool :=
 Option.bind (F_envelopes_Valid (TEnvelope.mk a0.Node a0.Slot a0.Seq (TTrust.mk a0.Trust.Threshold a0.Trust.Nodes a0.Trust.Inner) a0.Kind a0.Ballot a0.Prepared a0.Prime a0.Low a0.High)) fun r1 =>
 Option.bind (bif r1 then
 Option.bind (F_envelopes_Right_VotesPrepare (TRight.mk (TEnvelope.mk a0.Node a0.Slot a0.Seq (TTrust.mk a0.Trust.Threshold a0.Trust.Nodes a0.Trust.Inner) a0.Kind a0.Ballot a0.Prepared a0.Prime a0.Low a0.High)) a1) fun r2 =>
 some r2
 else some false) fun b3 =>
 some b3
noncomputable def k_envelopes_VotesPrepare : KS U Tryz.prog := ⟨.fn 16 [.ty (Ty.st .Envelope), .ty (Ty.st .Ballot)] (.one Ty.bool) fun a => F_envelopes_VotesPrepare a.1 a.2.1, fnS (K := K) sa_envelopes_VotesPrepare 13 [.tmp 4] [k_envelopes_Valid, k_envelopes_Right_VotesPrepare] (fk Tryz.f16 [] Tryz.func16)⟩

/-! ### (trustquorum/envelopes.Right).AcceptsPrepare -/
noncomputable def sa_envelopes_Right_AcceptsPrepare : SA U := annA (scOf Tryz.prog 36 [] Tryz.f91) .e
noncomputable def F_envelopes_Right_AcceptsPrepare (a0 : TRight) (a1 : TBallot) : Option Bool :=
 Option.bind (F_ballots_Zero a1) fun r1 =>
 bif r1 then
 some false
 else
 bif (decide (a0.Envelope.Kind = (1 : Int))) then
 Option.bind (F_ballots_Prepares a0.Envelope.Prepared a0.Envelope.Prime a1) fun r2 =>
 some r2
 else
 bif (decide (a0.Envelope.Kind = (2 : Int))) then
 Option.bind (F_ballots_Covers a0.Envelope.Prepared a1) fun r3 =>
 some r3
 else
 Option.bind (F_ballots_Compatible a0.Envelope.Ballot a1) fun r4 =>
 some r4
noncomputable def k_envelopes_Right_AcceptsPrepare : KS U Tryz.prog := ⟨.fn 91 [.ty (Ty.st .Right), .ty (Ty.st .Ballot)] (.one Ty.bool) fun a => F_envelopes_Right_AcceptsPrepare a.1 a.2.1, fnS (K := K) sa_envelopes_Right_AcceptsPrepare 36 [.tmp 4] [k_ballots_Zero, k_ballots_Prepares, k_ballots_Covers, k_ballots_Compatible] (fk Tryz.f91 [] Tryz.func91)⟩

/-! ### trustquorum/envelopes.AcceptsPrepare -/
noncomputable def sa_envelopes_AcceptsPrepare : SA U := annA (scOf Tryz.prog 13 [] Tryz.f17) .e
noncomputable def F_envelopes_AcceptsPrepare (a0 : TEnvelope) (a1 : TBallot) : Option Bool :=
 Option.bind (F_envelopes_Valid (TEnvelope.mk a0.Node a0.Slot a0.Seq (TTrust.mk a0.Trust.Threshold a0.Trust.Nodes a0.Trust.Inner) a0.Kind a0.Ballot a0.Prepared a0.Prime a0.Low a0.High)) fun r1 =>
 Option.bind (bif r1 then
 Option.bind (F_envelopes_Right_AcceptsPrepare (TRight.mk (TEnvelope.mk a0.Node a0.Slot a0.Seq (TTrust.mk a0.Trust.Threshold a0.Trust.Nodes a0.Trust.Inner) a0.Kind a0.Ballot a0.Prepared a0.Prime a0.Low a0.High)) a1) fun r2 =>
 some r2
 else some false) fun b3 =>
 some b3
noncomputable def k_envelopes_AcceptsPrepare : KS U Tryz.prog := ⟨.fn 17 [.ty (Ty.st .Envelope), .ty (Ty.st .Ballot)] (.one Ty.bool) fun a => F_envelopes_AcceptsPrepare a.1 a.2.1, fnS (K := K) sa_envelopes_AcceptsPrepare 13 [.tmp 4] [k_envelopes_Valid, k_envelopes_Right_AcceptsPrepare] (fk Tryz.f17 [] Tryz.func17)⟩

/-! ### slices.insertionSortCmpFunc[int] -/
noncomputable def sa_slices_insertionSortCmpFunc_int_c93 : SA U := annA (scOf Tryz.prog 53 [] Tryz.f218) (.r (.l (.j ⟨[.val 8 (Ty.i .i64), .own 0 0 0 3 1 (Ty.i .i64)], [1, 2, 3]⟩ (.l (.r (.l (.l (.r (.l (.j ⟨[.val 9 (Ty.i .i64), .own 0 0 0 3 1 (Ty.i .i64)], [1, 2, 3, 8]⟩ (.l (.l (.j ⟨[.val 34 Ty.bool], [0, 1, 2, 3, 8, 9]⟩ .e)))))))))))))
noncomputable def F_slices_insertionSortCmpFunc_int_c93 (s : List Int) (a0 : Int) (a1 : Int) : Option ((Unit) × List Int) :=
 loopO (fun (v1 : Int × (List Int) × Unit) =>
 bif (decide (v1.1 < a1)) then
 loopO (fun (v2 : Int × (List Int) × Unit) =>
 letJ (fun (v3 : Bool × Unit) =>
 bif v3.1 then
 Option.bind (idx v2.2.1 (subI .i64 v2.1 (1 : Int))) fun x5 =>
 Option.bind (v2.2.1[(Int.toNat (subI .i64 v2.1 (1 : Int)))]?) fun x6 =>
 Option.bind (idx v2.2.1 v2.1) fun x7 =>
 Option.bind (v2.2.1[(Int.toNat v2.1)]?) fun x8 =>
 Option.bind (idx v2.2.1 v2.1) fun x9 =>
 Option.bind (v2.2.1[(Int.toNat v2.1)]?) fun x10 =>
 Option.bind (idx (v2.2.1.set (Int.toNat v2.1) x6) (subI .i64 v2.1 (1 : Int))) fun x11 =>
 Option.bind ((v2.2.1.set (Int.toNat v2.1) x6)[(Int.toNat (subI .i64 v2.1 (1 : Int)))]?) fun x12 =>
 some (Sum.inl ((subI .i64 v2.1 (1 : Int)), ((v2.2.1.set (Int.toNat v2.1) x6).set (Int.toNat (subI .i64 v2.1 (1 : Int))) x8), ()))
 else
 Option.map Sum.inr (some (Sum.inl ((addI .i64 v1.1 (1 : Int)), v2.2.1, ())))) fun j4 =>
 bif (decide (a0 < v2.1)) then
 Option.bind (idx v2.2.1 v2.1) fun x13 =>
 Option.bind (v2.2.1[(Int.toNat v2.1)]?) fun x14 =>
 Option.bind (idx v2.2.1 (subI .i64 v2.1 (1 : Int))) fun x15 =>
 Option.bind (v2.2.1[(Int.toNat (subI .i64 v2.1 (1 : Int)))]?) fun x16 =>
 Option.bind (F_cmp_Compare_int x14 x16) fun r17 =>
 j4 ((decide (r17 < (0 : Int))), ())
 else
 j4 (false, ())) (v1.1, v1.2.1, ())
 else
 Option.map Sum.inr (some ((()), v1.2.1))) ((addI .i64 a0 (1 : Int)), s, ())
noncomputable def k_slices_insertionSortCmpFunc_int_c93 : KS U Tryz.prog := ⟨.rw 218 3 1 (Ty.i .i64) [.ty (Ty.i .i64), .ty (Ty.i .i64), .clo 93 []] (.many []) fun s a => F_slices_insertionSortCmpFunc_int_c93 s a.1 a.2.1, rwS (K := K) sa_slices_insertionSortCmpFunc_int_c93 53 [] [k_cmp_Compare_int] (fk Tryz.f218 [] Tryz.func218)⟩

/-! ### slices.siftDownCmpFunc[int] -/
noncomputable def sa_slices_siftDownCmpFunc_int_c93 : SA U := annA (scOf Tryz.prog 82 [] Tryz.f240) (.r (.l (.j ⟨[.val 10 (Ty.i .i64), .own 0 0 0 3 1 (Ty.i .i64)], [2, 3, 4]⟩ (.l (.l (.r (.r (.j ⟨[.val 11 (Ty.i .i64)], [0, 2, 3, 4, 10]⟩ (.l (.j ⟨[.val 40 Ty.bool], [0, 2, 3, 4, 10, 11]⟩ .e))))))))))
noncomputable def F_slices_siftDownCmpFunc_int_c93 (s : List Int) (a0 : Int) (a1 : Int) (a2 : Int) : Option ((Unit) × List Int) :=
 loopO (fun (v1 : Int × (List Int) × Unit) =>
 bif (decide (a1 ≤ (addI .i64 (mulI .i64 (2 : Int) v1.1) (1 : Int)))) then
 Option.map Sum.inr (some ((()), v1.2.1))
 else
 letJ (fun (v2 : Int × Unit) =>
 Option.bind (idx v1.2.1 (addI .i64 a2 v1.1)) fun x4 =>
 Option.bind (v1.2.1[(Int.toNat (addI .i64 a2 v1.1))]?) fun x5 =>
 Option.bind (idx v1.2.1 (addI .i64 a2 v2.1)) fun x6 =>
 Option.bind (v1.2.1[(Int.toNat (addI .i64 a2 v2.1))]?) fun x7 =>
 Option.bind (F_cmp_Compare_int x5 x7) fun r8 =>
 bif (!(decide (r8 < (0 : Int)))) then
 Option.map Sum.inr (some ((()), v1.2.1))
 else
 Option.bind (idx v1.2.1 (addI .i64 a2 v2.1)) fun x9 =>
 Option.bind (v1.2.1[(Int.toNat (addI .i64 a2 v2.1))]?) fun x10 =>
 Option.bind (idx v1.2.1 (addI .i64 a2 v1.1)) fun x11 =>
 Option.bind (v1.2.1[(Int.toNat (addI .i64 a2 v1.1))]?) fun x12 =>
 Option.bind (idx v1.2.1 (addI .i64 a2 v1.1)) fun x13 =>
 Option.bind (v1.2.1[(Int.toNat (addI .i64 a2 v1.1))]?) fun x14 =>
 Option.bind (idx (v1.2.1.set (Int.toNat (addI .i64 a2 v1.1)) x10) (addI .i64 a2 v2.1)) fun x15 =>
 Option.bind ((v1.2.1.set (Int.toNat (addI .i64 a2 v1.1)) x10)[(Int.toNat (addI .i64 a2 v2.1))]?) fun x16 =>
 some (Sum.inl (v2.1, ((v1.2.1.set (Int.toNat (addI .i64 a2 v1.1)) x10).set (Int.toNat (addI .i64 a2 v2.1)) x12), ()))) fun j3 =>
 letJ (fun (v17 : Bool × Unit) =>
 bif v17.1 then
 j3 ((addI .i64 (addI .i64 (mulI .i64 (2 : Int) v1.1) (1 : Int)) (1 : Int)), ())
 else
 j3 ((addI .i64 (mulI .i64 (2 : Int) v1.1) (1 : Int)), ())) fun j18 =>
 bif (decide ((addI .i64 (addI .i64 (mulI .i64 (2 : Int) v1.1) (1 : Int)) (1 : Int)) < a1)) then
 Option.bind (idx v1.2.1 (addI .i64 a2 (addI .i64 (mulI .i64 (2 : Int) v1.1) (1 : Int)))) fun x19 =>
 Option.bind (v1.2.1[(Int.toNat (addI .i64 a2 (addI .i64 (mulI .i64 (2 : Int) v1.1) (1 : Int))))]?) fun x20 =>
 Option.bind (idx v1.2.1 (addI .i64 (addI .i64 a2 (addI .i64 (mulI .i64 (2 : Int) v1.1) (1 : Int))) (1 : Int))) fun x21 =>
 Option.bind (v1.2.1[(Int.toNat (addI .i64 (addI .i64 a2 (addI .i64 (mulI .i64 (2 : Int) v1.1) (1 : Int))) (1 : Int)))]?) fun x22 =>
 Option.bind (F_cmp_Compare_int x20 x22) fun r23 =>
 j18 ((decide (r23 < (0 : Int))), ())
 else
 j18 (false, ())) (a0, s, ())
noncomputable def k_slices_siftDownCmpFunc_int_c93 : KS U Tryz.prog := ⟨.rw 240 3 1 (Ty.i .i64) [.ty (Ty.i .i64), .ty (Ty.i .i64), .ty (Ty.i .i64), .clo 93 []] (.many []) fun s a => F_slices_siftDownCmpFunc_int_c93 s a.1 a.2.1 a.2.2.1, rwS (K := K) sa_slices_siftDownCmpFunc_int_c93 82 [] [k_cmp_Compare_int] (fk Tryz.f240 [] Tryz.func240)⟩

/-! ### slices.heapSortCmpFunc[int] -/
noncomputable def sa_slices_heapSortCmpFunc_int_c93 : SA U := annA (scOf Tryz.prog 60 [] Tryz.f219) (.r (.r (.r (.b (.r (.l (.j ⟨[.val 11 (Ty.i .i64), .own 0 0 0 3 1 (Ty.i .i64)], [3, 8, 9, 10]⟩ .e))) (.r (.l (.j ⟨[.val 12 (Ty.i .i64), .own 0 0 0 3 1 (Ty.i .i64)], [3, 8, 9]⟩ .e)))))))
noncomputable def F_slices_heapSortCmpFunc_int_c93 (s : List Int) (a0 : Int) (a1 : Int) : Option ((Unit) × List Int) :=
 loopO (fun (v1 : Int × (List Int) × Unit) =>
 bif (decide ((0 : Int) ≤ v1.1)) then
 Option.bind (F_slices_siftDownCmpFunc_int_c93 v1.2.1 v1.1 (subI .i64 a1 a0) a0) fun p2 =>
 some (Sum.inl ((subI .i64 v1.1 (1 : Int)), p2.2, ()))
 else
 Option.map Sum.inr (loopO (fun (v3 : Int × (List Int) × Unit) =>
 bif (decide ((0 : Int) ≤ v3.1)) then
 Option.bind (idx v3.2.1 (addI .i64 a0 v3.1)) fun x4 =>
 Option.bind (v3.2.1[(Int.toNat (addI .i64 a0 v3.1))]?) fun x5 =>
 Option.bind (idx v3.2.1 a0) fun x6 =>
 Option.bind (v3.2.1[(Int.toNat a0)]?) fun x7 =>
 Option.bind (idx v3.2.1 a0) fun x8 =>
 Option.bind (v3.2.1[(Int.toNat a0)]?) fun x9 =>
 Option.bind (idx (v3.2.1.set (Int.toNat a0) x5) (addI .i64 a0 v3.1)) fun x10 =>
 Option.bind ((v3.2.1.set (Int.toNat a0) x5)[(Int.toNat (addI .i64 a0 v3.1))]?) fun x11 =>
 Option.bind (F_slices_siftDownCmpFunc_int_c93 ((v3.2.1.set (Int.toNat a0) x5).set (Int.toNat (addI .i64 a0 v3.1)) x7) (0 : Int) v3.1 a0) fun p12 =>
 some (Sum.inl ((subI .i64 v3.1 (1 : Int)), p12.2, ()))
 else
 Option.map Sum.inr (some ((()), v3.2.1))) ((subI .i64 (subI .i64 a1 a0) (1 : Int)), v1.2.1, ()))) ((quoI .i64 (subI .i64 (subI .i64 a1 a0) (1 : Int)) (2 : Int)), s, ())
noncomputable def k_slices_heapSortCmpFunc_int_c93 : KS U Tryz.prog := ⟨.rw 219 3 1 (Ty.i .i64) [.ty (Ty.i .i64), .ty (Ty.i .i64), .clo 93 []] (.many []) fun s a => F_slices_heapSortCmpFunc_int_c93 s a.1 a.2.1, rwS (K := K) sa_slices_heapSortCmpFunc_int_c93 60 [] [k_slices_siftDownCmpFunc_int_c93] (fk Tryz.f219 [] Tryz.func219)⟩

/-! ### slices.breakPatternsCmpFunc[int] -/
noncomputable def sa_slices_breakPatternsCmpFunc_int_c93 : SA U := annA (scOf Tryz.prog 67 [] Tryz.f220) (.r (.r (.l (.r (.r (.r (.l (.j ⟨[.val 11 (Ty.i .i64), .own 0 0 0 3 1 (Ty.i .i64), .box 9 1 (Ty.i .u64) []], [1, 8, 9, 10]⟩ (.l (.r (.l (.l (.r (.j ⟨[.val 12 (Ty.i .i64)], [0, 1, 8, 9, 10, 11]⟩ .e))))))))))))))
noncomputable def F_slices_breakPatternsCmpFunc_int_c93 (s : List Int) (a0 : Int) (a1 : Int) : Option ((Unit) × List Int) :=
 bif (decide ((8 : Int) ≤ (subI .i64 a1 a0))) then
 Option.bind (F_slices_nextPowerOfTwo (subI .i64 a1 a0)) fun r1 =>
 loopO (fun (v2 : Int × (List Int) × Int × Unit) =>
 bif (decide (v2.1 ≤ (addI .i64 (addI .i64 a0 (mulI .i64 (quoI .i64 (subI .i64 a1 a0) (4 : Int)) (2 : Int))) (1 : Int)))) then
 Option.bind (F_slices_xorshift_Next v2.2.2.1) fun p3 =>
 letJ (fun (v4 : Int × Unit) =>
 Option.bind (idx v2.2.1 (addI .i64 a0 v4.1)) fun x6 =>
 Option.bind (v2.2.1[(Int.toNat (addI .i64 a0 v4.1))]?) fun x7 =>
 Option.bind (idx v2.2.1 v2.1) fun x8 =>
 Option.bind (v2.2.1[(Int.toNat v2.1)]?) fun x9 =>
 Option.bind (idx v2.2.1 v2.1) fun x10 =>
 Option.bind (v2.2.1[(Int.toNat v2.1)]?) fun x11 =>
 Option.bind (idx (v2.2.1.set (Int.toNat v2.1) x7) (addI .i64 a0 v4.1)) fun x12 =>
 Option.bind ((v2.2.1.set (Int.toNat v2.1) x7)[(Int.toNat (addI .i64 a0 v4.1))]?) fun x13 =>
 some (Sum.inl ((addI .i64 v2.1 (1 : Int)), ((v2.2.1.set (Int.toNat v2.1) x7).set (Int.toNat (addI .i64 a0 v4.1)) x9), p3.2, ()))) fun j5 =>
 bif (decide ((subI .i64 a1 a0) ≤ (convI .i64 (andI .u64 p3.1 (subI .u64 r1 (1 : Int)))))) then
 j5 ((subI .i64 (convI .i64 (andI .u64 p3.1 (subI .u64 r1 (1 : Int)))) (subI .i64 a1 a0)), ())
 else
 j5 ((convI .i64 (andI .u64 p3.1 (subI .u64 r1 (1 : Int)))), ())
 else
 Option.map Sum.inr (some ((()), v2.2.1))) ((subI .i64 (addI .i64 a0 (mulI .i64 (quoI .i64 (subI .i64 a1 a0) (4 : Int)) (2 : Int))) (1 : Int)), s, (convI .u64 (subI .i64 a1 a0)), ())
 else
 some ((()), s)
noncomputable def k_slices_breakPatternsCmpFunc_int_c93 : KS U Tryz.prog := ⟨.rw 220 3 1 (Ty.i .i64) [.ty (Ty.i .i64), .ty (Ty.i .i64), .clo 93 []] (.many []) fun s a => F_slices_breakPatternsCmpFunc_int_c93 s a.1 a.2.1, rwS (K := K) sa_slices_breakPatternsCmpFunc_int_c93 67 [] [k_slices_nextPowerOfTwo, k_slices_xorshift_Next] (fk Tryz.f220 [] Tryz.func220)⟩

/-! ### slices.order2CmpFunc[int] -/
noncomputable def sa_slices_order2CmpFunc_int_c93 : SA U := annA (scOf Tryz.prog 32 [] Tryz.f249) .e
noncomputable def F_slices_order2CmpFunc_int_c93 (s : Int) (a0 : (List Int)) (a1 : Int) (a2 : Int) : Option ((Int × Int × Unit) × Int) :=
 Option.bind (idx a0 a2) fun x1 =>
 Option.bind (idx a0 a1) fun x2 =>
 Option.bind (F_cmp_Compare_int x1 x2) fun r3 =>
 bif (decide (r3 < (0 : Int))) then
 some ((a2, a1, ()), (addI .i64 s (1 : Int)))
 else
 some ((a1, a2, ()), s)
noncomputable def k_slices_order2CmpFunc_int_c93 : KS U Tryz.prog := ⟨.rc 249 3 (Ty.i .i64) [.ty (Ty.sl (Ty.i .i64)), .ty (Ty.i .i64), .ty (Ty.i .i64), .clo 93 []] (.many [(Ty.i .i64), (Ty.i .i64)]) fun s a => F_slices_order2CmpFunc_int_c93 s a.1 a.2.1 a.2.2.1, rcS (K := K) sa_slices_order2CmpFunc_int_c93 32 [.tmp 10, .tmp 11] [k_cmp_Compare_int] (fk Tryz.f249 [] Tryz.func249)⟩

/-! ### slices.medianCmpFunc[int] -/
noncomputable def sa_slices_medianCmpFunc_int_c93 : SA U := annA (scOf Tryz.prog 41 [] Tryz.f242) .e
noncomputable def F_slices_medianCmpFunc_int_c93 (s : Int) (a0 : (List Int)) (a1 : Int) (a2 : Int) (a3 : Int) : Option (Int × Int) :=
 Option.bind (F_slices_order2CmpFunc_int_c93 s a0 a1 a2) fun p1 =>
 Option.bind (F_slices_order2CmpFunc_int_c93 p1.2 a0 p1.1.2.1 a3) fun p2 =>
 Option.bind (F_slices_order2CmpFunc_int_c93 p2.2 a0 p1.1.1 p2.1.1) fun p3 =>
 some (p3.1.2.1, p3.2)
noncomputable def k_slices_medianCmpFunc_int_c93 : KS U Tryz.prog := ⟨.rc 242 4 (Ty.i .i64) [.ty (Ty.sl (Ty.i .i64)), .ty (Ty.i .i64), .ty (Ty.i .i64), .ty (Ty.i .i64), .clo 93 []] (.one (Ty.i .i64)) fun s a => F_slices_medianCmpFunc_int_c93 s a.1 a.2.1 a.2.2.1 a.2.2.2.1, rcS (K := K) sa_slices_medianCmpFunc_int_c93 41 [.tmp 12] [k_slices_order2CmpFunc_int_c93] (fk Tryz.f242 [] Tryz.func242)⟩

/-! ### slices.medianAdjacentCmpFunc[int] -/
noncomputable def sa_slices_medianAdjacentCmpFunc_int_c93 : SA U := annA (scOf Tryz.prog 18 [] Tryz.f241) .e
noncomputable def F_slices_medianAdjacentCmpFunc_int_c93 (s : Int) (a0 : (List Int)) (a1 : Int) : Option (Int × Int) :=
 Option.bind (F_slices_medianCmpFunc_int_c93 s a0 (subI .i64 a1 (1 : Int)) a1 (addI .i64 a1 (1 : Int))) fun p1 =>
 some (p1.1, p1.2)
noncomputable def k_slices_medianAdjacentCmpFunc_int_c93 : KS U Tryz.prog := ⟨.rc 241 2 (Ty.i .i64) [.ty (Ty.sl (Ty.i .i64)), .ty (Ty.i .i64), .clo 93 []] (.one (Ty.i .i64)) fun s a => F_slices_medianAdjacentCmpFunc_int_c93 s a.1 a.2.1, rcS (K := K) sa_slices_medianAdjacentCmpFunc_int_c93 18 [.tmp 8] [k_slices_medianCmpFunc_int_c93] (fk Tryz.f241 [] Tryz.func241)⟩

/-! ### slices.choosePivotCmpFunc[int] -/
noncomputable def sa_slices_choosePivotCmpFunc_int_c93 : SA U := annA (scOf Tryz.prog 63 [] Tryz.f221) (.r (.r (.r (.r (.r (.r (.j ⟨[.val 13 (Ty.i .i64), .box 6 1 (Ty.i .i64) []], [11]⟩ (.l (.r (.l (.j ⟨[.val 12 (Ty.i .i64), .val 13 (Ty.i .i64), .val 14 (Ty.i .i64), .box 6 1 (Ty.i .i64) []], [0, 3, 11]⟩ .e)))))))))))
noncomputable def F_slices_choosePivotCmpFunc_int_c93 (a0 : (List Int)) (a1 : Int) (a2 : Int) : Option (Int × Int × Unit) :=
 letJ (fun (v1 : Int × Int × Unit) =>
 bif (decide (v1.2.1 = (0 : Int))) then
 some (v1.1, (1 : Int), ())
 else
 bif (decide (v1.2.1 = (12 : Int))) then
 some (v1.1, (2 : Int), ())
 else
 some (v1.1, (0 : Int), ())) fun j2 =>
 bif (decide ((8 : Int) ≤ (subI .i64 a2 a1))) then
 letJ (fun (v3 : Int × Int × Int × Int × Unit) =>
 Option.bind (F_slices_medianCmpFunc_int_c93 v3.2.2.2.1 a0 v3.1 v3.2.1 v3.2.2.1) fun p5 =>
 j2 (p5.1, p5.2, ())) fun j4 =>
 bif (decide ((50 : Int) ≤ (subI .i64 a2 a1))) then
 Option.bind (F_slices_medianAdjacentCmpFunc_int_c93 (0 : Int) a0 (addI .i64 a1 (mulI .i64 (quoI .i64 (subI .i64 a2 a1) (4 : Int)) (1 : Int)))) fun p6 =>
 Option.bind (F_slices_medianAdjacentCmpFunc_int_c93 p6.2 a0 (addI .i64 a1 (mulI .i64 (quoI .i64 (subI .i64 a2 a1) (4 : Int)) (2 : Int)))) fun p7 =>
 Option.bind (F_slices_medianAdjacentCmpFunc_int_c93 p7.2 a0 (addI .i64 a1 (mulI .i64 (quoI .i64 (subI .i64 a2 a1) (4 : Int)) (3 : Int)))) fun p8 =>
 j4 (p6.1, p7.1, p8.1, p8.2, ())
 else
 j4 ((addI .i64 a1 (mulI .i64 (quoI .i64 (subI .i64 a2 a1) (4 : Int)) (1 : Int))), (addI .i64 a1 (mulI .i64 (quoI .i64 (subI .i64 a2 a1) (4 : Int)) (2 : Int))), (addI .i64 a1 (mulI .i64 (quoI .i64 (subI .i64 a2 a1) (4 : Int)) (3 : Int))), (0 : Int), ())
 else
 j2 ((addI .i64 a1 (mulI .i64 (quoI .i64 (subI .i64 a2 a1) (4 : Int)) (2 : Int))), (0 : Int), ())
noncomputable def k_slices_choosePivotCmpFunc_int_c93 : KS U Tryz.prog := ⟨.fn 221 [.ty (Ty.sl (Ty.i .i64)), .ty (Ty.i .i64), .ty (Ty.i .i64), .clo 93 []] (.many [(Ty.i .i64), (Ty.i .i64)]) fun a => F_slices_choosePivotCmpFunc_int_c93 a.1 a.2.1 a.2.2.1, fnS (K := K) sa_slices_choosePivotCmpFunc_int_c93 63 [.tmp 8, .tmp 9] [k_slices_medianAdjacentCmpFunc_int_c93, k_slices_medianCmpFunc_int_c93] (fk Tryz.f221 [] Tryz.func221)⟩

/-! ### slices.reverseRangeCmpFunc[int] -/
noncomputable def sa_slices_reverseRangeCmpFunc_int_c93 : SA U := annA (scOf Tryz.prog 34 [] Tryz.f222) (.r (.r (.l (.j ⟨[.val 8 (Ty.i .i64), .val 9 (Ty.i .i64), .own 0 0 0 3 1 (Ty.i .i64)], []⟩ .e))))
noncomputable def F_slices_reverseRangeCmpFunc_int_c93 (s : List Int) (a0 : Int) (a1 : Int) : Option ((Unit) × List Int) :=
 loopO (fun (v1 : Int × Int × (List Int) × Unit) =>
 bif (decide (v1.1 < v1.2.1)) then
 Option.bind (idx v1.2.2.1 v1.2.1) fun x2 =>
 Option.bind (v1.2.2.1[(Int.toNat v1.2.1)]?) fun x3 =>
 Option.bind (idx v1.2.2.1 v1.1) fun x4 =>
 Option.bind (v1.2.2.1[(Int.toNat v1.1)]?) fun x5 =>
 Option.bind (idx v1.2.2.1 v1.1) fun x6 =>
 Option.bind (v1.2.2.1[(Int.toNat v1.1)]?) fun x7 =>
 Option.bind (idx (v1.2.2.1.set (Int.toNat v1.1) x3) v1.2.1) fun x8 =>
 Option.bind ((v1.2.2.1.set (Int.toNat v1.1) x3)[(Int.toNat v1.2.1)]?) fun x9 =>
 some (Sum.inl ((addI .i64 v1.1 (1 : Int)), (subI .i64 v1.2.1 (1 : Int)), ((v1.2.2.1.set (Int.toNat v1.1) x3).set (Int.toNat v1.2.1) x5), ()))
 else
 Option.map Sum.inr (some ((()), v1.2.2.1))) (a0, (subI .i64 a1 (1 : Int)), s, ())
noncomputable def k_slices_reverseRangeCmpFunc_int_c93 : KS U Tryz.prog := ⟨.rw 222 3 1 (Ty.i .i64) [.ty (Ty.i .i64), .ty (Ty.i .i64), .clo 93 []] (.many []) fun s a => F_slices_reverseRangeCmpFunc_int_c93 s a.1 a.2.1, rwS (K := K) sa_slices_reverseRangeCmpFunc_int_c93 34 [] [] (fk Tryz.f222 [] Tryz.func222)⟩

/-! ### slices.partialInsertionSortCmpFunc[int] -/
noncomputable def sa_slices_partialInsertionSortCmpFunc_int_c93 : SA U := annA (scOf Tryz.prog 141 [] Tryz.f223) (.r (.r (.l (.r (.l (.j ⟨[.val 9 (Ty.i .i64), .val 10 (Ty.i .i64), .own 0 0 0 3 1 (Ty.i .i64)], [1, 2, 3]⟩ (.l (.r (.j ⟨[.val 9 (Ty.i .i64), .own 0 0 0 3 1 (Ty.i .i64)], [1, 2, 3, 10]⟩ (.l (.l (.b (.l (.j ⟨[.val 9 (Ty.i .i64)], [0, 1, 2, 3, 10]⟩ (.l (.l (.j ⟨[.val 36 Ty.bool], [0, 1, 2, 3, 9, 10]⟩ .e))))) (.r (.r (.r (.j ⟨[.own 0 0 0 3 1 (Ty.i .i64)], [1, 2, 3, 9, 10]⟩ (.b (.r (.l (.r (.l (.j ⟨[.val 11 (Ty.i .i64), .own 0 0 0 3 1 (Ty.i .i64)], [1, 2, 3, 9, 10]⟩ .e))))) (.r (.l (.r (.l (.j ⟨[.val 12 (Ty.i .i64), .own 0 0 0 3 1 (Ty.i .i64)], [1, 2, 3, 9, 10]⟩ .e))))))))))))))))))))))
noncomputable def F_slices_partialInsertionSortCmpFunc_int_c93 (s : List Int) (a0 : Int) (a1 : Int) : Option (Bool × List Int) :=
 loopO (fun (v1 : Int × Int × (List Int) × Unit) =>
 bif (decide (v1.2.1 < (5 : Int))) then
 letJ (fun (v2 : Int × (List Int) × Unit) =>
 some (Sum.inl (v2.1, (addI .i64 v1.2.1 (1 : Int)), v2.2.1, ()))) fun j3 =>
 loopO (fun (v4 : Int × Unit) =>
 letJ (fun (v5 : Bool × Unit) =>
 bif v5.1 then
 some (Sum.inl ((addI .i64 v4.1 (1 : Int)), ()))
 else
 Option.map Sum.inr (bif (decide (v4.1 = a1)) then
 Option.map Sum.inr (some (true, v1.2.2.1))
 else
 bif (decide ((subI .i64 a1 a0) < (50 : Int))) then
 Option.map Sum.inr (some (false, v1.2.2.1))
 else
 Option.bind (idx v1.2.2.1 (subI .i64 v4.1 (1 : Int))) fun x7 =>
 Option.bind (v1.2.2.1[(Int.toNat (subI .i64 v4.1 (1 : Int)))]?) fun x8 =>
 Option.bind (idx v1.2.2.1 v4.1) fun x9 =>
 Option.bind (v1.2.2.1[(Int.toNat v4.1)]?) fun x10 =>
 Option.bind (idx v1.2.2.1 v4.1) fun x11 =>
 Option.bind (v1.2.2.1[(Int.toNat v4.1)]?) fun x12 =>
 Option.bind (idx (v1.2.2.1.set (Int.toNat v4.1) x8) (subI .i64 v4.1 (1 : Int))) fun x13 =>
 Option.bind ((v1.2.2.1.set (Int.toNat v4.1) x8)[(Int.toNat (subI .i64 v4.1 (1 : Int)))]?) fun x14 =>
 letJ (fun (v15 : (List Int) × Unit) =>
 bif (decide ((2 : Int) ≤ (subI .i64 a1 v4.1))) then
 loopO (fun (v17 : Int × (List Int) × Unit) =>
 bif (decide (v17.1 < a1)) then
 Option.bind (idx v17.2.1 v17.1) fun x18 =>
 Option.bind (v17.2.1[(Int.toNat v17.1)]?) fun x19 =>
 Option.bind (idx v17.2.1 (subI .i64 v17.1 (1 : Int))) fun x20 =>
 Option.bind (v17.2.1[(Int.toNat (subI .i64 v17.1 (1 : Int)))]?) fun x21 =>
 Option.bind (F_cmp_Compare_int x19 x21) fun r22 =>
 bif (!(decide (r22 < (0 : Int)))) then
 Option.map Sum.inr (j3 (v4.1, v17.2.1, ()))
 else
 Option.bind (idx v17.2.1 (subI .i64 v17.1 (1 : Int))) fun x23 =>
 Option.bind (v17.2.1[(Int.toNat (subI .i64 v17.1 (1 : Int)))]?) fun x24 =>
 Option.bind (idx v17.2.1 v17.1) fun x25 =>
 Option.bind (v17.2.1[(Int.toNat v17.1)]?) fun x26 =>
 Option.bind (idx v17.2.1 v17.1) fun x27 =>
 Option.bind (v17.2.1[(Int.toNat v17.1)]?) fun x28 =>
 Option.bind (idx (v17.2.1.set (Int.toNat v17.1) x24) (subI .i64 v17.1 (1 : Int))) fun x29 =>
 Option.bind ((v17.2.1.set (Int.toNat v17.1) x24)[(Int.toNat (subI .i64 v17.1 (1 : Int)))]?) fun x30 =>
 some (Sum.inl ((addI .i64 v17.1 (1 : Int)), ((v17.2.1.set (Int.toNat v17.1) x24).set (Int.toNat (subI .i64 v17.1 (1 : Int))) x26), ()))
 else
 Option.map Sum.inr (j3 (v4.1, v17.2.1, ()))) ((addI .i64 v4.1 (1 : Int)), v15.1, ())
 else
 j3 (v4.1, v15.1, ())) fun j16 =>
 bif (decide ((2 : Int) ≤ (subI .i64 v4.1 a0))) then
 loopO (fun (v31 : Int × (List Int) × Unit) =>
 bif (decide ((1 : Int) ≤ v31.1)) then
 Option.bind (idx v31.2.1 v31.1) fun x32 =>
 Option.bind (v31.2.1[(Int.toNat v31.1)]?) fun x33 =>
 Option.bind (idx v31.2.1 (subI .i64 v31.1 (1 : Int))) fun x34 =>
 Option.bind (v31.2.1[(Int.toNat (subI .i64 v31.1 (1 : Int)))]?) fun x35 =>
 Option.bind (F_cmp_Compare_int x33 x35) fun r36 =>
 bif (!(decide (r36 < (0 : Int)))) then
 Option.map Sum.inr (j16 (v31.2.1, ()))
 else
 Option.bind (idx v31.2.1 (subI .i64 v31.1 (1 : Int))) fun x37 =>
 Option.bind (v31.2.1[(Int.toNat (subI .i64 v31.1 (1 : Int)))]?) fun x38 =>
 Option.bind (idx v31.2.1 v31.1) fun x39 =>
 Option.bind (v31.2.1[(Int.toNat v31.1)]?) fun x40 =>
 Option.bind (idx v31.2.1 v31.1) fun x41 =>
 Option.bind (v31.2.1[(Int.toNat v31.1)]?) fun x42 =>
 Option.bind (idx (v31.2.1.set (Int.toNat v31.1) x38) (subI .i64 v31.1 (1 : Int))) fun x43 =>
 Option.bind ((v31.2.1.set (Int.toNat v31.1) x38)[(Int.toNat (subI .i64 v31.1 (1 : Int)))]?) fun x44 =>
 some (Sum.inl ((subI .i64 v31.1 (1 : Int)), ((v31.2.1.set (Int.toNat v31.1) x38).set (Int.toNat (subI .i64 v31.1 (1 : Int))) x40), ()))
 else
 Option.map Sum.inr (j16 (v31.2.1, ()))) ((subI .i64 v4.1 (1 : Int)), ((v1.2.2.1.set (Int.toNat v4.1) x8).set (Int.toNat (subI .i64 v4.1 (1 : Int))) x10), ())
 else
 j16 (((v1.2.2.1.set (Int.toNat v4.1) x8).set (Int.toNat (subI .i64 v4.1 (1 : Int))) x10), ()))) fun j6 =>
 bif (decide (v4.1 < a1)) then
 Option.bind (idx v1.2.2.1 v4.1) fun x45 =>
 Option.bind (v1.2.2.1[(Int.toNat v4.1)]?) fun x46 =>
 Option.bind (idx v1.2.2.1 (subI .i64 v4.1 (1 : Int))) fun x47 =>
 Option.bind (v1.2.2.1[(Int.toNat (subI .i64 v4.1 (1 : Int)))]?) fun x48 =>
 Option.bind (F_cmp_Compare_int x46 x48) fun r49 =>
 j6 ((!(decide (r49 < (0 : Int)))), ())
 else
 j6 (false, ())) (v1.1, ())
 else
 Option.map Sum.inr (some (false, v1.2.2.1))) ((addI .i64 a0 (1 : Int)), (0 : Int), s, ())
noncomputable def k_slices_partialInsertionSortCmpFunc_int_c93 : KS U Tryz.prog := ⟨.rw 223 3 1 (Ty.i .i64) [.ty (Ty.i .i64), .ty (Ty.i .i64), .clo 93 []] (.one Ty.bool) fun s a => F_slices_partialInsertionSortCmpFunc_int_c93 s a.1 a.2.1, rwS (K := K) sa_slices_partialInsertionSortCmpFunc_int_c93 141 [.tmp 8] [k_cmp_Compare_int] (fk Tryz.f223 [] Tryz.func223)⟩

/-! ### slices.partitionEqualCmpFunc[int] -/
noncomputable def sa_slices_partitionEqualCmpFunc_int_c93 : SA U := annA (scOf Tryz.prog 90 [] Tryz.f224) (.r (.r (.r (.l (.l (.j ⟨[.val 11 (Ty.i .i64), .val 12 (Ty.i .i64), .own 0 0 0 3 1 (Ty.i .i64)], [1, 4]⟩ (.l (.l (.b (.l (.j ⟨[.val 11 (Ty.i .i64)], [0, 1, 4, 12]⟩ (.l (.l (.j ⟨[.val 47 Ty.bool], [0, 1, 4, 11, 12]⟩ .e))))) (.l (.l (.j ⟨[.val 12 (Ty.i .i64)], [0, 1, 4, 11]⟩ (.l (.l (.j ⟨[.val 65 Ty.bool], [0, 1, 4, 11, 12]⟩ .e)))))))))))))))
noncomputable def F_slices_partitionEqualCmpFunc_int_c93 (s : List Int) (a0 : Int) (a1 : Int) (a2 : Int) : Option (Int × List Int) :=
 Option.bind (idx s a2) fun x1 =>
 Option.bind (s[(Int.toNat a2)]?) fun x2 =>
 Option.bind (idx s a0) fun x3 =>
 Option.bind (s[(Int.toNat a0)]?) fun x4 =>
 Option.bind (idx s a0) fun x5 =>
 Option.bind (s[(Int.toNat a0)]?) fun x6 =>
 Option.bind (idx (s.set (Int.toNat a0) x2) a2) fun x7 =>
 Option.bind ((s.set (Int.toNat a0) x2)[(Int.toNat a2)]?) fun x8 =>
 loopO (fun (v9 : Int × Int × (List Int) × Unit) =>
 loopO (fun (v10 : Int × Unit) =>
 letJ (fun (v11 : Bool × Unit) =>
 bif v11.1 then
 some (Sum.inl ((addI .i64 v10.1 (1 : Int)), ()))
 else
 Option.map Sum.inr (loopO (fun (v13 : Int × Unit) =>
 letJ (fun (v14 : Bool × Unit) =>
 bif v14.1 then
 some (Sum.inl ((subI .i64 v13.1 (1 : Int)), ()))
 else
 Option.map Sum.inr (bif (decide (v13.1 < v10.1)) then
 Option.map Sum.inr (some (v10.1, v9.2.2.1))
 else
 Option.bind (idx v9.2.2.1 v13.1) fun x16 =>
 Option.bind (v9.2.2.1[(Int.toNat v13.1)]?) fun x17 =>
 Option.bind (idx v9.2.2.1 v10.1) fun x18 =>
 Option.bind (v9.2.2.1[(Int.toNat v10.1)]?) fun x19 =>
 Option.bind (idx v9.2.2.1 v10.1) fun x20 =>
 Option.bind (v9.2.2.1[(Int.toNat v10.1)]?) fun x21 =>
 Option.bind (idx (v9.2.2.1.set (Int.toNat v10.1) x17) v13.1) fun x22 =>
 Option.bind ((v9.2.2.1.set (Int.toNat v10.1) x17)[(Int.toNat v13.1)]?) fun x23 =>
 some (Sum.inl ((addI .i64 v10.1 (1 : Int)), (subI .i64 v13.1 (1 : Int)), ((v9.2.2.1.set (Int.toNat v10.1) x17).set (Int.toNat v13.1) x19), ())))) fun j15 =>
 bif (decide (v10.1 ≤ v13.1)) then
 Option.bind (idx v9.2.2.1 a0) fun x24 =>
 Option.bind (v9.2.2.1[(Int.toNat a0)]?) fun x25 =>
 Option.bind (idx v9.2.2.1 v13.1) fun x26 =>
 Option.bind (v9.2.2.1[(Int.toNat v13.1)]?) fun x27 =>
 Option.bind (F_cmp_Compare_int x25 x27) fun r28 =>
 j15 ((decide (r28 < (0 : Int))), ())
 else
 j15 (false, ())) (v9.2.1, ()))) fun j12 =>
 bif (decide (v10.1 ≤ v9.2.1)) then
 Option.bind (idx v9.2.2.1 a0) fun x29 =>
 Option.bind (v9.2.2.1[(Int.toNat a0)]?) fun x30 =>
 Option.bind (idx v9.2.2.1 v10.1) fun x31 =>
 Option.bind (v9.2.2.1[(Int.toNat v10.1)]?) fun x32 =>
 Option.bind (F_cmp_Compare_int x30 x32) fun r33 =>
 j12 ((!(decide (r33 < (0 : Int)))), ())
 else
 j12 (false, ())) (v9.1, ())) ((addI .i64 a0 (1 : Int)), (subI .i64 a1 (1 : Int)), ((s.set (Int.toNat a0) x2).set (Int.toNat a2) x4), ())
noncomputable def k_slices_partitionEqualCmpFunc_int_c93 : KS U Tryz.prog := ⟨.rw 224 3 1 (Ty.i .i64) [.ty (Ty.i .i64), .ty (Ty.i .i64), .ty (Ty.i .i64), .clo 93 []] (.one (Ty.i .i64)) fun s a => F_slices_partitionEqualCmpFunc_int_c93 s a.1 a.2.1 a.2.2.1, rwS (K := K) sa_slices_partitionEqualCmpFunc_int_c93 90 [.tmp 10] [k_cmp_Compare_int] (fk Tryz.f224 [] Tryz.func224)⟩

/-! ### slices.partitionCmpFunc[int] -/
noncomputable def sa_slices_partitionCmpFunc_int_c93 : SA U := annA (scOf Tryz.prog 178 [] Tryz.f225) (.r (.r (.r (.b (.l (.j ⟨[.val 12 (Ty.i .i64)], [0, 1, 4, 13]⟩ (.l (.l (.j ⟨[.val 47 Ty.bool], [0, 1, 4, 12, 13]⟩ .e))))) (.b (.l (.j ⟨[.val 13 (Ty.i .i64)], [0, 1, 4, 12]⟩ (.l (.l (.j ⟨[.val 66 Ty.bool], [0, 1, 4, 12, 13]⟩ .e))))) (.r (.r (.r (.r (.l (.l (.j ⟨[.val 12 (Ty.i .i64), .val 13 (Ty.i .i64), .own 0 0 0 3 1 (Ty.i .i64)], [1, 4]⟩ (.l (.l (.b (.l (.j ⟨[.val 12 (Ty.i .i64)], [0, 1, 4, 13]⟩ (.l (.l (.j ⟨[.val 120 Ty.bool], [0, 1, 4, 12, 13]⟩ .e))))) (.l (.l (.j ⟨[.val 13 (Ty.i .i64)], [0, 1, 4, 12]⟩ (.l (.l (.j ⟨[.val 139 Ty.bool], [0, 1, 4, 12, 13]⟩ .e)))))))))))))))))))))
noncomputable def F_slices_partitionCmpFunc_int_c93 (s : List Int) (a0 : Int) (a1 : Int) (a2 : Int) : Option ((Int × Bool × Unit) × List Int) :=
 Option.bind (idx s a2) fun x1 =>
 Option.bind (s[(Int.toNat a2)]?) fun x2 =>
 Option.bind (idx s a0) fun x3 =>
 Option.bind (s[(Int.toNat a0)]?) fun x4 =>
 Option.bind (idx s a0) fun x5 =>
 Option.bind (s[(Int.toNat a0)]?) fun x6 =>
 Option.bind (idx (s.set (Int.toNat a0) x2) a2) fun x7 =>
 Option.bind ((s.set (Int.toNat a0) x2)[(Int.toNat a2)]?) fun x8 =>
 loopO (fun (v9 : Int × Unit) =>
 letJ (fun (v10 : Bool × Unit) =>
 bif v10.1 then
 some (Sum.inl ((addI .i64 v9.1 (1 : Int)), ()))
 else
 Option.map Sum.inr (loopO (fun (v12 : Int × Unit) =>
 letJ (fun (v13 : Bool × Unit) =>
 bif v13.1 then
 some (Sum.inl ((subI .i64 v12.1 (1 : Int)), ()))
 else
 Option.map Sum.inr (bif (decide (v12.1 < v9.1)) then
 Option.bind (idx ((s.set (Int.toNat a0) x2).set (Int.toNat a2) x4) a0) fun x15 =>
 Option.bind (((s.set (Int.toNat a0) x2).set (Int.toNat a2) x4)[(Int.toNat a0)]?) fun x16 =>
 Option.bind (idx ((s.set (Int.toNat a0) x2).set (Int.toNat a2) x4) v12.1) fun x17 =>
 Option.bind (((s.set (Int.toNat a0) x2).set (Int.toNat a2) x4)[(Int.toNat v12.1)]?) fun x18 =>
 Option.bind (idx ((s.set (Int.toNat a0) x2).set (Int.toNat a2) x4) v12.1) fun x19 =>
 Option.bind (((s.set (Int.toNat a0) x2).set (Int.toNat a2) x4)[(Int.toNat v12.1)]?) fun x20 =>
 Option.bind (idx (((s.set (Int.toNat a0) x2).set (Int.toNat a2) x4).set (Int.toNat v12.1) x16) a0) fun x21 =>
 Option.bind ((((s.set (Int.toNat a0) x2).set (Int.toNat a2) x4).set (Int.toNat v12.1) x16)[(Int.toNat a0)]?) fun x22 =>
 some ((v12.1, true, ()), ((((s.set (Int.toNat a0) x2).set (Int.toNat a2) x4).set (Int.toNat v12.1) x16).set (Int.toNat a0) x18))
 else
 Option.bind (idx ((s.set (Int.toNat a0) x2).set (Int.toNat a2) x4) v12.1) fun x23 =>
 Option.bind (((s.set (Int.toNat a0) x2).set (Int.toNat a2) x4)[(Int.toNat v12.1)]?) fun x24 =>
 Option.bind (idx ((s.set (Int.toNat a0) x2).set (Int.toNat a2) x4) v9.1) fun x25 =>
 Option.bind (((s.set (Int.toNat a0) x2).set (Int.toNat a2) x4)[(Int.toNat v9.1)]?) fun x26 =>
 Option.bind (idx ((s.set (Int.toNat a0) x2).set (Int.toNat a2) x4) v9.1) fun x27 =>
 Option.bind (((s.set (Int.toNat a0) x2).set (Int.toNat a2) x4)[(Int.toNat v9.1)]?) fun x28 =>
 Option.bind (idx (((s.set (Int.toNat a0) x2).set (Int.toNat a2) x4).set (Int.toNat v9.1) x24) v12.1) fun x29 =>
 Option.bind ((((s.set (Int.toNat a0) x2).set (Int.toNat a2) x4).set (Int.toNat v9.1) x24)[(Int.toNat v12.1)]?) fun x30 =>
 loopO (fun (v31 : Int × Int × (List Int) × Unit) =>
 loopO (fun (v32 : Int × Unit) =>
 letJ (fun (v33 : Bool × Unit) =>
 bif v33.1 then
 some (Sum.inl ((addI .i64 v32.1 (1 : Int)), ()))
 else
 Option.map Sum.inr (loopO (fun (v35 : Int × Unit) =>
 letJ (fun (v36 : Bool × Unit) =>
 bif v36.1 then
 some (Sum.inl ((subI .i64 v35.1 (1 : Int)), ()))
 else
 Option.map Sum.inr (bif (decide (v35.1 < v32.1)) then
 Option.map Sum.inr (Option.bind (idx v31.2.2.1 a0) fun x38 =>
 Option.bind (v31.2.2.1[(Int.toNat a0)]?) fun x39 =>
 Option.bind (idx v31.2.2.1 v35.1) fun x40 =>
 Option.bind (v31.2.2.1[(Int.toNat v35.1)]?) fun x41 =>
 Option.bind (idx v31.2.2.1 v35.1) fun x42 =>
 Option.bind (v31.2.2.1[(Int.toNat v35.1)]?) fun x43 =>
 Option.bind (idx (v31.2.2.1.set (Int.toNat v35.1) x39) a0) fun x44 =>
 Option.bind ((v31.2.2.1.set (Int.toNat v35.1) x39)[(Int.toNat a0)]?) fun x45 =>
 some ((v35.1, false, ()), ((v31.2.2.1.set (Int.toNat v35.1) x39).set (Int.toNat a0) x41)))
 else
 Option.bind (idx v31.2.2.1 v35.1) fun x46 =>
 Option.bind (v31.2.2.1[(Int.toNat v35.1)]?) fun x47 =>
 Option.bind (idx v31.2.2.1 v32.1) fun x48 =>
 Option.bind (v31.2.2.1[(Int.toNat v32.1)]?) fun x49 =>
 Option.bind (idx v31.2.2.1 v32.1) fun x50 =>
 Option.bind (v31.2.2.1[(Int.toNat v32.1)]?) fun x51 =>
 Option.bind (idx (v31.2.2.1.set (Int.toNat v32.1) x47) v35.1) fun x52 =>
 Option.bind ((v31.2.2.1.set (Int.toNat v32.1) x47)[(Int.toNat v35.1)]?) fun x53 =>
 some (Sum.inl ((addI .i64 v32.1 (1 : Int)), (subI .i64 v35.1 (1 : Int)), ((v31.2.2.1.set (Int.toNat v32.1) x47).set (Int.toNat v35.1) x49), ())))) fun j37 =>
 bif (decide (v32.1 ≤ v35.1)) then
 Option.bind (idx v31.2.2.1 v35.1) fun x54 =>
 Option.bind (v31.2.2.1[(Int.toNat v35.1)]?) fun x55 =>
 Option.bind (idx v31.2.2.1 a0) fun x56 =>
 Option.bind (v31.2.2.1[(Int.toNat a0)]?) fun x57 =>
 Option.bind (F_cmp_Compare_int x55 x57) fun r58 =>
 j37 ((!(decide (r58 < (0 : Int)))), ())
 else
 j37 (false, ())) (v31.2.1, ()))) fun j34 =>
 bif (decide (v32.1 ≤ v31.2.1)) then
 Option.bind (idx v31.2.2.1 v32.1) fun x59 =>
 Option.bind (v31.2.2.1[(Int.toNat v32.1)]?) fun x60 =>
 Option.bind (idx v31.2.2.1 a0) fun x61 =>
 Option.bind (v31.2.2.1[(Int.toNat a0)]?) fun x62 =>
 Option.bind (F_cmp_Compare_int x60 x62) fun r63 =>
 j34 ((decide (r63 < (0 : Int))), ())
 else
 j34 (false, ())) (v31.1, ())) ((addI .i64 v9.1 (1 : Int)), (subI .i64 v12.1 (1 : Int)), ((((s.set (Int.toNat a0) x2).set (Int.toNat a2) x4).set (Int.toNat v9.1) x24).set (Int.toNat v12.1) x26), ()))) fun j14 =>
 bif (decide (v9.1 ≤ v12.1)) then
 Option.bind (idx ((s.set (Int.toNat a0) x2).set (Int.toNat a2) x4) v12.1) fun x64 =>
 Option.bind (((s.set (Int.toNat a0) x2).set (Int.toNat a2) x4)[(Int.toNat v12.1)]?) fun x65 =>
 Option.bind (idx ((s.set (Int.toNat a0) x2).set (Int.toNat a2) x4) a0) fun x66 =>
 Option.bind (((s.set (Int.toNat a0) x2).set (Int.toNat a2) x4)[(Int.toNat a0)]?) fun x67 =>
 Option.bind (F_cmp_Compare_int x65 x67) fun r68 =>
 j14 ((!(decide (r68 < (0 : Int)))), ())
 else
 j14 (false, ())) ((subI .i64 a1 (1 : Int)), ()))) fun j11 =>
 bif (decide (v9.1 ≤ (subI .i64 a1 (1 : Int)))) then
 Option.bind (idx ((s.set (Int.toNat a0) x2).set (Int.toNat a2) x4) v9.1) fun x69 =>
 Option.bind (((s.set (Int.toNat a0) x2).set (Int.toNat a2) x4)[(Int.toNat v9.1)]?) fun x70 =>
 Option.bind (idx ((s.set (Int.toNat a0) x2).set (Int.toNat a2) x4) a0) fun x71 =>
 Option.bind (((s.set (Int.toNat a0) x2).set (Int.toNat a2) x4)[(Int.toNat a0)]?) fun x72 =>
 Option.bind (F_cmp_Compare_int x70 x72) fun r73 =>
 j11 ((decide (r73 < (0 : Int))), ())
 else
 j11 (false, ())) ((addI .i64 a0 (1 : Int)), ())
noncomputable def k_slices_partitionCmpFunc_int_c93 : KS U Tryz.prog := ⟨.rw 225 3 1 (Ty.i .i64) [.ty (Ty.i .i64), .ty (Ty.i .i64), .ty (Ty.i .i64), .clo 93 []] (.many [(Ty.i .i64), Ty.bool]) fun s a => F_slices_partitionCmpFunc_int_c93 s a.1 a.2.1 a.2.2.1, rwS (K := K) sa_slices_partitionCmpFunc_int_c93 178 [.tmp 10, .tmp 11] [k_cmp_Compare_int] (fk Tryz.f225 [] Tryz.func225)⟩

/-! ### slices.pdqsortCmpFunc[int] -/
noncomputable def sa_slices_pdqsortCmpFunc_int_c93 : SA U := annA (scOf Tryz.prog 148 [] Tryz.f184) (.r (.r (.l (.j ⟨[.val 1 (Ty.i .i64), .val 2 (Ty.i .i64), .val 3 (Ty.i .i64), .val 10 Ty.bool, .val 11 Ty.bool, .own 0 0 0 3 1 (Ty.i .i64)], [4]⟩ (.l (.l (.r (.r (.r (.j ⟨[.val 3 (Ty.i .i64), .own 0 0 0 3 1 (Ty.i .i64)], [1, 2, 4, 10, 11, 12]⟩ (.r (.r (.j ⟨[.val 13 (Ty.i .i64), .val 14 (Ty.i .i64), .own 0 0 0 3 1 (Ty.i .i64)], [1, 2, 3, 4, 10, 11, 12]⟩ (.r (.j ⟨[.own 0 0 0 3 1 (Ty.i .i64)], [1, 2, 3, 4, 10, 11, 12, 13]⟩ (.r (.l (.j ⟨[.val 97 Ty.bool], [0, 1, 2, 3, 4, 10, 11, 12, 13]⟩ .e))))))))))))))))))
noncomputable def B_slices_pdqsortCmpFunc_int_c93 (rec : List Int → (Int × Int × Int × (Unit) × Unit) → Option ((Unit) × List Int)) (s : List Int) (a0 : Int) (a1 : Int) (a2 : Int) : Option ((Unit) × List Int) :=
 loopO (fun (v1 : Int × Int × Int × Bool × Bool × (List Int) × Unit) =>
 bif (decide ((subI .i64 v1.2.1 v1.1) ≤ (12 : Int))) then
 Option.bind (F_slices_insertionSortCmpFunc_int_c93 v1.2.2.2.2.2.1 v1.1 v1.2.1) fun p2 =>
 Option.map Sum.inr (some ((()), p2.2))
 else
 bif (decide (v1.2.2.1 = (0 : Int))) then
 Option.bind (F_slices_heapSortCmpFunc_int_c93 v1.2.2.2.2.2.1 v1.1 v1.2.1) fun p3 =>
 Option.map Sum.inr (some ((()), p3.2))
 else
 letJ (fun (v4 : Int × (List Int) × Unit) =>
 Option.bind (F_slices_choosePivotCmpFunc_int_c93 v4.2.1 v1.1 v1.2.1) fun r6 =>
 letJ (fun (v7 : Int × Int × (List Int) × Unit) =>
 letJ (fun (v9 : (List Int) × Unit) =>
 letJ (fun (v11 : Bool × Unit) =>
 bif v11.1 then
 Option.bind (F_slices_partitionEqualCmpFunc_int_c93 v9.1 v1.1 v1.2.1 v7.1) fun p13 =>
 some (Sum.inl (p13.1, v1.2.1, v4.1, v1.2.2.2.1, v1.2.2.2.2.1, p13.2, ()))
 else
 Option.bind (F_slices_partitionCmpFunc_int_c93 v9.1 v1.1 v1.2.1 v7.1) fun p14 =>
 bif (decide ((subI .i64 p14.1.1 v1.1) < (subI .i64 v1.2.1 p14.1.1))) then
 Option.bind (rec p14.2 (v1.1, p14.1.1, v4.1, (()), ())) fun p15 =>
 some (Sum.inl ((addI .i64 p14.1.1 (1 : Int)), v1.2.1, v4.1, (decide ((quoI .i64 (subI .i64 v1.2.1 v1.1) (8 : Int)) ≤ (subI .i64 p14.1.1 v1.1))), p14.1.2.1, p15.2, ()))
 else
 Option.bind (rec p14.2 ((addI .i64 p14.1.1 (1 : Int)), v1.2.1, v4.1, (()), ())) fun p16 =>
 some (Sum.inl (v1.1, p14.1.1, v4.1, (decide ((quoI .i64 (subI .i64 v1.2.1 v1.1) (8 : Int)) ≤ (subI .i64 v1.2.1 p14.1.1))), p14.1.2.1, p16.2, ()))) fun j12 =>
 bif (decide ((0 : Int) < v1.1)) then
 Option.bind (idx v9.1 (subI .i64 v1.1 (1 : Int))) fun x17 =>
 Option.bind (v9.1[(Int.toNat (subI .i64 v1.1 (1 : Int)))]?) fun x18 =>
 Option.bind (idx v9.1 v7.1) fun x19 =>
 Option.bind (v9.1[(Int.toNat v7.1)]?) fun x20 =>
 Option.bind (F_cmp_Compare_int x18 x20) fun r21 =>
 j12 ((!(decide (r21 < (0 : Int)))), ())
 else
 j12 (false, ())) fun j10 =>
 Option.bind (bif v1.2.2.2.1 then
 some v1.2.2.2.2.1
 else some false) fun b22 =>
 Option.bind (bif b22 then
 some (decide (v7.2.1 = (1 : Int)))
 else some false) fun b23 =>
 bif b23 then
 Option.bind (F_slices_partialInsertionSortCmpFunc_int_c93 v7.2.2.1 v1.1 v1.2.1) fun p24 =>
 bif p24.1 then
 Option.map Sum.inr (some ((()), p24.2))
 else
 j10 (p24.2, ())
 else
 j10 (v7.2.2.1, ())) fun j8 =>
 bif (decide (r6.2.1 = (2 : Int))) then
 Option.bind (F_slices_reverseRangeCmpFunc_int_c93 v4.2.1 v1.1 v1.2.1) fun p25 =>
 j8 ((subI .i64 (subI .i64 v1.2.1 (1 : Int)) (subI .i64 r6.1 v1.1)), (1 : Int), p25.2, ())
 else
 j8 (r6.1, r6.2.1, v4.2.1, ())) fun j5 =>
 bif (!v1.2.2.2.1) then
 Option.bind (F_slices_breakPatternsCmpFunc_int_c93 v1.2.2.2.2.2.1 v1.1 v1.2.1) fun p26 =>
 j5 ((subI .i64 v1.2.2.1 (1 : Int)), p26.2, ())
 else
 j5 (v1.2.2.1, v1.2.2.2.2.2.1, ())) (a0, a1, a2, true, true, s, ())
noncomputable def I_slices_pdqsortCmpFunc_int_c93 : Nat → List Int → (Int × Int × Int × (Unit) × Unit) → Option ((Unit) × List Int) := iterF2 (fun rec s a => B_slices_pdqsortCmpFunc_int_c93 rec s a.1 a.2.1 a.2.2.1)
noncomputable def F_slices_pdqsortCmpFunc_int_c93 (s : List Int) (a0 : Int) (a1 : Int) (a2 : Int) : Option ((Unit) × List Int) := I_slices_pdqsortCmpFunc_int_c93 (List.length s + 1) s (a0, a1, a2, (()), ())
noncomputable def k_slices_pdqsortCmpFunc_int_c93 : KS U Tryz.prog := ⟨.rw 184 3 1 (Ty.i .i64) [.ty (Ty.i .i64), .ty (Ty.i .i64), .ty (Ty.i .i64), .clo 93 []] (.many []) fun s a => F_slices_pdqsortCmpFunc_int_c93 s a.1 a.2.1 a.2.2.1, rwRS (K := K) («as» := [.ty (Ty.i .i64), .ty (Ty.i .i64), .ty (Ty.i .i64), .clo 93 []]) (r := .many []) (T := (Ty.i .i64)) (B := fun rec s a => B_slices_pdqsortCmpFunc_int_c93 rec s a.1 a.2.1 a.2.2.1) sa_slices_pdqsortCmpFunc_int_c93 148 [] [k_slices_insertionSortCmpFunc_int_c93, k_slices_heapSortCmpFunc_int_c93, k_slices_breakPatternsCmpFunc_int_c93, k_slices_choosePivotCmpFunc_int_c93, k_slices_reverseRangeCmpFunc_int_c93, k_slices_partialInsertionSortCmpFunc_int_c93, k_cmp_Compare_int, k_slices_partitionEqualCmpFunc_int_c93, k_slices_partitionCmpFunc_int_c93] (fk Tryz.f184 [] Tryz.func184) (hF := fun s a => ⟨_, rfl⟩)⟩

/-! ### slices.SortFunc[[]int,int] -/
noncomputable def sa_slices_SortFunc_int_int_c93 : SA U := annA (scOf Tryz.prog 14 [] Tryz.f152) .e
noncomputable def F_slices_SortFunc_int_int_c93 (s : List Int)  : Option ((Unit) × List Int) :=
 Option.bind (F_math_bits_Len (convI .u64 ((List.length s : Nat) : Int))) fun r1 =>
 Option.bind (F_slices_pdqsortCmpFunc_int_c93 s (0 : Int) ((List.length s : Nat) : Int) r1) fun p2 =>
 some ((()), p2.2)
noncomputable def k_slices_SortFunc_int_int_c93 : KS U Tryz.prog := ⟨.rw 152 3 1 (Ty.i .i64) [.clo 93 []] (.many []) fun s a => F_slices_SortFunc_int_int_c93 s , rwS (K := K) sa_slices_SortFunc_int_int_c93 14 [] [k_math_bits_Len, k_slices_pdqsortCmpFunc_int_c93] (fk Tryz.f152 [] Tryz.func152)⟩

/-! ### slices.Compact[[]int,int] -/
noncomputable def sa_slices_Compact_int_int : SA U := annA (scOf Tryz.prog 61 [] Tryz.f153) (.r (.r (.l (.r (.l (.j ⟨[.val 3 (Ty.i .i64), .own 0 0 0 3 1 (Ty.i .i64)], []⟩ (.l (.r (.l (.l (.r (.l (.r (.b (.r (.l (.j ⟨[.val 3 (Ty.i .i64), .val 5 (Ty.i .i64), .own 0 0 0 3 1 (Ty.i .i64)], [4]⟩ (.l (.r (.j ⟨[.val 3 (Ty.i .i64), .own 0 0 0 3 1 (Ty.i .i64)], [4, 5]⟩ .e)))))) (.r (.l (.g [(4, .ps (.cut 2))])))))))))))))))))
noncomputable def F_slices_Compact_int_int (s : List Int)  : Option (List Int) :=
 bif (decide (((List.length s : Nat) : Int) < (2 : Int))) then
 some s
 else
 loopO (fun (v1 : Int × (List Int) × Unit) =>
 bif (decide (v1.1 < ((List.length v1.2.1 : Nat) : Int))) then
 Option.bind (idx v1.2.1 v1.1) fun x2 =>
 Option.bind (v1.2.1[(Int.toNat v1.1)]?) fun x3 =>
 Option.bind (idx v1.2.1 (subI .i64 v1.1 (1 : Int))) fun x4 =>
 Option.bind (v1.2.1[(Int.toNat (subI .i64 v1.1 (1 : Int)))]?) fun x5 =>
 bif (decide (x3 = x5)) then
 bif slcOk v1.1 ((List.length v1.2.1) : Int) (List.length v1.2.1) then
 loopO (fun (v6 : Int × Int × (List Int) × Unit) =>
 bif (decide (v6.2.1 < ((List.length ((v6.2.2.1.drop (Int.toNat v1.1)).take (Int.toNat ((List.length v1.2.1) : Int) - Int.toNat v1.1)) : Nat) : Int))) then
 letJ (fun (v7 : Int × (List Int) × Unit) =>
 some (Sum.inl (v7.1, (addI .i64 v6.2.1 (1 : Int)), v7.2.1, ()))) fun j8 =>
 Option.bind (idx ((v6.2.2.1.drop (Int.toNat v1.1)).take (Int.toNat ((List.length v1.2.1) : Int) - Int.toNat v1.1)) v6.2.1) fun x9 =>
 Option.bind (v6.2.2.1[((Int.toNat v1.1) + Int.toNat v6.2.1)]?) fun x10 =>
 Option.bind (idx ((v6.2.2.1.drop (Int.toNat v1.1)).take (Int.toNat ((List.length v1.2.1) : Int) - Int.toNat v1.1)) (subI .i64 v6.2.1 (1 : Int))) fun x11 =>
 Option.bind (v6.2.2.1[((Int.toNat v1.1) + Int.toNat (subI .i64 v6.2.1 (1 : Int)))]?) fun x12 =>
 bif (!decide (x10 = x12)) then
 Option.bind (idx ((v6.2.2.1.drop (Int.toNat v1.1)).take (Int.toNat ((List.length v1.2.1) : Int) - Int.toNat v1.1)) v6.2.1) fun x13 =>
 Option.bind (v6.2.2.1[((Int.toNat v1.1) + Int.toNat v6.2.1)]?) fun x14 =>
 Option.bind (idx v6.2.2.1 v6.1) fun x15 =>
 Option.bind (v6.2.2.1[(Int.toNat v6.1)]?) fun x16 =>
 j8 ((addI .i64 v6.1 (1 : Int)), (v6.2.2.1.set (Int.toNat v6.1) x14), ())
 else
 j8 (v6.1, v6.2.2.1, ())
 else
 Option.map Sum.inr (bif slcOk v6.1 ((List.length v6.2.2.1) : Int) (List.length v6.2.2.1) then
 bif slcOk (0 : Int) v6.1 (List.length (v6.2.2.1.take (Int.toNat v6.1) ++ List.replicate (Int.toNat ((List.length v6.2.2.1) : Int) - Int.toNat v6.1) (0 : Int) ++ v6.2.2.1.drop ((Int.toNat v6.1) + (Int.toNat ((List.length v6.2.2.1) : Int) - Int.toNat v6.1)))) then
 Option.map Sum.inr (some ((v6.2.2.1.take (Int.toNat v6.1) ++ List.replicate (Int.toNat ((List.length v6.2.2.1) : Int) - Int.toNat v6.1) (0 : Int) ++ v6.2.2.1.drop ((Int.toNat v6.1) + (Int.toNat ((List.length v6.2.2.1) : Int) - Int.toNat v6.1))).take (Int.toNat v6.1 - Int.toNat (0 : Int))))
 else none
 else none)) (v1.1, (1 : Int), v1.2.1, ())
 else none
 else
 some (Sum.inl ((addI .i64 v1.1 (1 : Int)), v1.2.1, ()))
 else
 Option.map Sum.inr (some v1.2.1)) ((1 : Int), s, ())
noncomputable def k_slices_Compact_int_int : KS U Tryz.prog := ⟨.cw 153 3 1 (Ty.i .i64) [] fun s a => F_slices_Compact_int_int s , cwS (K := K) sa_slices_Compact_int_int 61 [.tmp 2] [] (fk Tryz.f153 [] Tryz.func153)⟩

/-! ### trustquorum/envelopes.unique[int] -/
noncomputable def sa_envelopes_unique_int_c93 : SA U := annA (scOf Tryz.prog 10 [] Tryz.f92) .e
noncomputable def F_envelopes_unique_int_c93 (s : List Int)  : Option (List Int) :=
 Option.bind (F_slices_SortFunc_int_int_c93 s) fun p1 =>
 Option.bind (F_slices_Compact_int_int p1.2) fun r2 =>
 some r2
noncomputable def k_envelopes_unique_int_c93 : KS U Tryz.prog := ⟨.cw 92 3 1 (Ty.i .i64) [.clo 93 []] fun s a => F_envelopes_unique_int_c93 s , cwS (K := K) sa_envelopes_unique_int_c93 10 [.tmp 4] [k_slices_SortFunc_int_int_c93, k_slices_Compact_int_int] (fk Tryz.f92 [] Tryz.func92)⟩

/-! ### trustquorum/envelopes.Bounds -/
noncomputable def sa_envelopes_Bounds : SA U := annA (scOf Tryz.prog 38 [] Tryz.f19) (.r (.r (.l (.r (.l (.ps (.own 5 3 1 (Ty.i .i64)) (.j ⟨[.val 10 (Ty.i .i64), .own 5 5 1 3 1 (Ty.i .i64)], [1, 8, 9]⟩ (.l (.r (.r (.j ⟨[.own 5 5 1 3 1 (Ty.i .i64)], [1, 8, 9, 10]⟩ .e)))))))))))
noncomputable def F_envelopes_Bounds (a0 : (List TEnvelope)) (a1 : ByteArray) : Option (List Int) :=
 loopO (fun (v1 : Int × (List Int) × Unit) =>
 bif (decide (v1.1 < ((List.length a0 : Nat) : Int))) then
 letJ (fun (v2 : (List Int) × Unit) =>
 some (Sum.inl ((addI .i64 v1.1 (1 : Int)), v2.1, ()))) fun j3 =>
 Option.bind (idx a0 v1.1) fun x4 =>
 Option.bind (F_envelopes_Valid (TEnvelope.mk x4.Node x4.Slot x4.Seq (TTrust.mk x4.Trust.Threshold x4.Trust.Nodes x4.Trust.Inner) x4.Kind x4.Ballot x4.Prepared x4.Prime x4.Low x4.High)) fun r5 =>
 Option.bind (bif r5 then
 some (decide (x4.Ballot.Value = a1))
 else some false) fun b6 =>
 Option.bind (bif b6 then
 some (!decide (x4.Low = (0 : Int)))
 else some false) fun b7 =>
 bif b7 then
 bif lenOk 8 (List.length v1.2.1 + List.length [x4.Low, x4.High]) then
 j3 ((v1.2.1 ++ [x4.Low, x4.High]), ())
 else none
 else
 j3 (v1.2.1, ())
 else
 Option.map Sum.inr (Option.bind (F_envelopes_unique_int_c93 v1.2.1) fun r8 =>
 some r8)) ((0 : Int), ([] : List Int), ())
noncomputable def k_envelopes_Bounds : KS U Tryz.prog := ⟨.fn 19 [.ty (Ty.sl (Ty.st .Envelope)), .ty Ty.str] (.one (Ty.sl (Ty.i .i64))) fun a => F_envelopes_Bounds a.1 a.2.1, fnS (K := K) sa_envelopes_Bounds 38 [.tmp 4] [k_envelopes_Valid, k_envelopes_unique_int_c93] (fk Tryz.f19 [] Tryz.func19)⟩

/-! ### (trustquorum/envelopes.Right).from -/
noncomputable def sa_envelopes_Right_from : SA U := annA (scOf Tryz.prog 31 [] Tryz.f155) .e
noncomputable def F_envelopes_Right_from (a0 : TRight) (a1 : ByteArray) (a2 : Int) (a3 : Int) : Option Bool :=
 Option.bind (bif (decide ((1 : Int) ≤ a2)) then
 some (decide (a2 ≤ a3))
 else some false) fun b1 =>
 Option.bind (bif b1 then
 some (decide (a0.Envelope.Ballot.Value = a1))
 else some false) fun b2 =>
 Option.bind (bif b2 then
 some (decide (a0.Envelope.Low ≤ a2))
 else some false) fun b3 =>
 some b3
noncomputable def k_envelopes_Right_from : KS U Tryz.prog := ⟨.fn 155 [.ty (Ty.st .Right), .ty Ty.str, .ty (Ty.i .i64), .ty (Ty.i .i64)] (.one Ty.bool) fun a => F_envelopes_Right_from a.1 a.2.1 a.2.2.1 a.2.2.2.1, fnS (K := K) sa_envelopes_Right_from 31 [.tmp 8] [] (fk Tryz.f155 [] Tryz.func155)⟩

/-! ### (trustquorum/envelopes.Right).VotesCommit -/
noncomputable def sa_envelopes_Right_VotesCommit : SA U := annA (scOf Tryz.prog 33 [] Tryz.f94) .e
noncomputable def F_envelopes_Right_VotesCommit (a0 : TRight) (a1 : ByteArray) (a2 : Int) (a3 : Int) : Option Bool :=
 Option.bind (F_envelopes_Right_from (TRight.mk (TEnvelope.mk a0.Envelope.Node a0.Envelope.Slot a0.Envelope.Seq (TTrust.mk a0.Envelope.Trust.Threshold a0.Envelope.Trust.Nodes a0.Envelope.Trust.Inner) a0.Envelope.Kind a0.Envelope.Ballot a0.Envelope.Prepared a0.Envelope.Prime a0.Envelope.Low a0.Envelope.High)) a1 a2 a3) fun r1 =>
 Option.bind (bif r1 then
 Option.bind (bif (!decide (a0.Envelope.Kind = (1 : Int))) then some true
 else
 Option.bind (bif (!decide (a0.Envelope.Low = (0 : Int))) then
 some (decide (a3 ≤ a0.Envelope.High))
 else some false) fun b2 =>
 some b2) fun b3 =>
 some b3
 else some false) fun b4 =>
 some b4
noncomputable def k_envelopes_Right_VotesCommit : KS U Tryz.prog := ⟨.fn 94 [.ty (Ty.st .Right), .ty Ty.str, .ty (Ty.i .i64), .ty (Ty.i .i64)] (.one Ty.bool) fun a => F_envelopes_Right_VotesCommit a.1 a.2.1 a.2.2.1 a.2.2.2.1, fnS (K := K) sa_envelopes_Right_VotesCommit 33 [.tmp 8] [k_envelopes_Right_from] (fk Tryz.f94 [] Tryz.func94)⟩

/-! ### trustquorum/envelopes.VotesCommit -/
noncomputable def sa_envelopes_VotesCommit : SA U := annA (scOf Tryz.prog 19 [] Tryz.f20) .e
noncomputable def F_envelopes_VotesCommit (a0 : TEnvelope) (a1 : ByteArray) (a2 : Int) (a3 : Int) : Option Bool :=
 Option.bind (F_envelopes_Valid (TEnvelope.mk a0.Node a0.Slot a0.Seq (TTrust.mk a0.Trust.Threshold a0.Trust.Nodes a0.Trust.Inner) a0.Kind a0.Ballot a0.Prepared a0.Prime a0.Low a0.High)) fun r1 =>
 Option.bind (bif r1 then
 Option.bind (F_envelopes_Right_VotesCommit (TRight.mk (TEnvelope.mk a0.Node a0.Slot a0.Seq (TTrust.mk a0.Trust.Threshold a0.Trust.Nodes a0.Trust.Inner) a0.Kind a0.Ballot a0.Prepared a0.Prime a0.Low a0.High)) a1 a2 a3) fun r2 =>
 some r2
 else some false) fun b3 =>
 some b3
noncomputable def k_envelopes_VotesCommit : KS U Tryz.prog := ⟨.fn 20 [.ty (Ty.st .Envelope), .ty Ty.str, .ty (Ty.i .i64), .ty (Ty.i .i64)] (.one Ty.bool) fun a => F_envelopes_VotesCommit a.1 a.2.1 a.2.2.1 a.2.2.2.1, fnS (K := K) sa_envelopes_VotesCommit 19 [.tmp 8] [k_envelopes_Valid, k_envelopes_Right_VotesCommit] (fk Tryz.f20 [] Tryz.func20)⟩

/-! ### trustquorum/trustquorumplay.Flat -/
noncomputable def sa_play_Flat : SA U := annA (scOf Tryz.prog 21 [] Tryz.f30) (.r (.r (.l (.r (.l (.ps (.ownB 5 1 3 1 (Ty.i .i64)) (.j ⟨[.val 6 (Ty.i .i64), .box 3 1 (Ty.st .Trust) [(1, 6, 1)], .rowb 6 1 3 1 (Ty.i .i64)], [0, 4, 5]⟩ .e)))))))
noncomputable def F_play_Flat (a0 : Int) (a1 : Int) : Option TTrust :=
 loopO (fun (v1 : Int × TTrust × (List Int) × Unit) =>
 bif (decide (v1.1 < a0)) then
 bif lenOk 8 (List.length v1.2.2.1 + List.length [v1.1]) then
 some (Sum.inl ((addI .i64 v1.1 (1 : Int)), (TTrust.mk v1.2.1.Threshold ([] : List Int) v1.2.1.Inner), (v1.2.2.1 ++ [v1.1]), ()))
 else none
 else
 Option.map Sum.inr (some (TTrust.mk v1.2.1.Threshold v1.2.2.1 v1.2.1.Inner))) ((0 : Int), (TTrust.mk a1 ([] : List Int) ([] : List TTrust)), ([] : List Int), ())
noncomputable def k_play_Flat : KS U Tryz.prog := ⟨.fn 30 [.ty (Ty.i .i64), .ty (Ty.i .i64)] (.one (Ty.st .Trust)) fun a => F_play_Flat a.1 a.2.1, fnS (K := K) sa_play_Flat 21 [.cell 4 (some 3)] [] (fk Tryz.f30 [] Tryz.func30)⟩

/-! ### (trustquorum/envelopes.Right).AcceptsCommit -/
noncomputable def sa_envelopes_Right_AcceptsCommit : SA U := annA (scOf Tryz.prog 33 [] Tryz.f143) .e
noncomputable def F_envelopes_Right_AcceptsCommit (a0 : TRight) (a1 : ByteArray) (a2 : Int) (a3 : Int) : Option Bool :=
 Option.bind (F_envelopes_Right_from (TRight.mk (TEnvelope.mk a0.Envelope.Node a0.Envelope.Slot a0.Envelope.Seq (TTrust.mk a0.Envelope.Trust.Threshold a0.Envelope.Trust.Nodes a0.Envelope.Trust.Inner) a0.Envelope.Kind a0.Envelope.Ballot a0.Envelope.Prepared a0.Envelope.Prime a0.Envelope.Low a0.Envelope.High)) a1 a2 a3) fun r1 =>
 Option.bind (bif r1 then
 Option.bind (bif (decide (a0.Envelope.Kind = (3 : Int))) then some true
 else
 Option.bind (bif (decide (a0.Envelope.Kind = (2 : Int))) then
 some (decide (a3 ≤ a0.Envelope.High))
 else some false) fun b2 =>
 some b2) fun b3 =>
 some b3
 else some false) fun b4 =>
 some b4
noncomputable def k_envelopes_Right_AcceptsCommit : KS U Tryz.prog := ⟨.fn 143 [.ty (Ty.st .Right), .ty Ty.str, .ty (Ty.i .i64), .ty (Ty.i .i64)] (.one Ty.bool) fun a => F_envelopes_Right_AcceptsCommit a.1 a.2.1 a.2.2.1 a.2.2.2.1, fnS (K := K) sa_envelopes_Right_AcceptsCommit 33 [.tmp 8] [k_envelopes_Right_from] (fk Tryz.f143 [] Tryz.func143)⟩

/-! ### trustquorum/envelopes.AcceptsCommit -/
noncomputable def sa_envelopes_AcceptsCommit : SA U := annA (scOf Tryz.prog 19 [] Tryz.f81) .e
noncomputable def F_envelopes_AcceptsCommit (a0 : TEnvelope) (a1 : ByteArray) (a2 : Int) (a3 : Int) : Option Bool :=
 Option.bind (F_envelopes_Valid (TEnvelope.mk a0.Node a0.Slot a0.Seq (TTrust.mk a0.Trust.Threshold a0.Trust.Nodes a0.Trust.Inner) a0.Kind a0.Ballot a0.Prepared a0.Prime a0.Low a0.High)) fun r1 =>
 Option.bind (bif r1 then
 Option.bind (F_envelopes_Right_AcceptsCommit (TRight.mk (TEnvelope.mk a0.Node a0.Slot a0.Seq (TTrust.mk a0.Trust.Threshold a0.Trust.Nodes a0.Trust.Inner) a0.Kind a0.Ballot a0.Prepared a0.Prime a0.Low a0.High)) a1 a2 a3) fun r2 =>
 some r2
 else some false) fun b3 =>
 some b3
noncomputable def k_envelopes_AcceptsCommit : KS U Tryz.prog := ⟨.fn 81 [.ty (Ty.st .Envelope), .ty Ty.str, .ty (Ty.i .i64), .ty (Ty.i .i64)] (.one Ty.bool) fun a => F_envelopes_AcceptsCommit a.1 a.2.1 a.2.2.1 a.2.2.2.1, fnS (K := K) sa_envelopes_AcceptsCommit 19 [.tmp 8] [k_envelopes_Valid, k_envelopes_Right_AcceptsCommit] (fk Tryz.f81 [] Tryz.func81)⟩

/-! ### (trustquorum/envelopes.Right).Count -/
noncomputable def sa_envelopes_Right_Count : SA U := annA (scOf Tryz.prog 11 [] Tryz.f142) .e
noncomputable def F_envelopes_Right_Count (a0 : TRight) : Option Int :=
 bif (decide (a0.Envelope.Kind = (3 : Int))) then
 some (1000000 : Int)
 else
 some a0.Envelope.Ballot.Counter
noncomputable def k_envelopes_Right_Count : KS U Tryz.prog := ⟨.fn 142 [.ty (Ty.st .Right)] (.one (Ty.i .i64)) fun a => F_envelopes_Right_Count a.1, fnS (K := K) sa_envelopes_Right_Count 11 [.tmp 2] [] (fk Tryz.f142 [] Tryz.func142)⟩

/-! ### trustquorum/envelopes.Counter -/
noncomputable def sa_envelopes_Counter : SA U := annA (scOf Tryz.prog 9 [] Tryz.f77) .e
noncomputable def F_envelopes_Counter (a0 : TEnvelope) : Option Int :=
 Option.bind (F_envelopes_Valid (TEnvelope.mk a0.Node a0.Slot a0.Seq (TTrust.mk a0.Trust.Threshold a0.Trust.Nodes a0.Trust.Inner) a0.Kind a0.Ballot a0.Prepared a0.Prime a0.Low a0.High)) fun r1 =>
 bif (!r1) then
 some (0 : Int)
 else
 Option.bind (F_envelopes_Right_Count (TRight.mk (TEnvelope.mk a0.Node a0.Slot a0.Seq (TTrust.mk a0.Trust.Threshold a0.Trust.Nodes a0.Trust.Inner) a0.Kind a0.Ballot a0.Prepared a0.Prime a0.Low a0.High))) fun r2 =>
 some r2
noncomputable def k_envelopes_Counter : KS U Tryz.prog := ⟨.fn 77 [.ty (Ty.st .Envelope)] (.one (Ty.i .i64)) fun a => F_envelopes_Counter a.1, fnS (K := K) sa_envelopes_Counter 9 [.tmp 2] [k_envelopes_Valid, k_envelopes_Right_Count] (fk Tryz.f77 [] Tryz.func77)⟩

/-! ### trustquorum/trustquorumlaw24.sane -/
noncomputable def sa_law24_sane : SA U := annA (scOf Tryz.prog 22 [] Tryz.f21) .e
noncomputable def F_law24_sane  : Option Bool :=
 Option.bind (F_play_Flat (3 : Int) (2 : Int)) fun r1 =>
 Option.bind (F_envelopes_Valid (TEnvelope.mk (0 : Int) (1 : Int) (1 : Int) (TTrust.mk r1.Threshold r1.Nodes r1.Inner) (1 : Int) (TBallot.mk (3 : Int) (ByteArray.mk #[97])) (TBallot.mk (3 : Int) (ByteArray.mk #[97])) (TBallot.mk (0 : Int) (ByteArray.mk #[])) (2 : Int) (3 : Int))) fun r2 =>
 Option.bind (bif r2 then
 Option.bind (F_envelopes_VotesCommit (TEnvelope.mk (0 : Int) (1 : Int) (1 : Int) (TTrust.mk r1.Threshold r1.Nodes r1.Inner) (1 : Int) (TBallot.mk (3 : Int) (ByteArray.mk #[97])) (TBallot.mk (3 : Int) (ByteArray.mk #[97])) (TBallot.mk (0 : Int) (ByteArray.mk #[])) (2 : Int) (3 : Int)) (ByteArray.mk #[97]) (2 : Int) (3 : Int)) fun r3 =>
 some r3
 else some false) fun b4 =>
 Option.bind (bif b4 then
 Option.bind (F_envelopes_AcceptsCommit (TEnvelope.mk (0 : Int) (1 : Int) (1 : Int) (TTrust.mk r1.Threshold r1.Nodes r1.Inner) (1 : Int) (TBallot.mk (3 : Int) (ByteArray.mk #[97])) (TBallot.mk (3 : Int) (ByteArray.mk #[97])) (TBallot.mk (0 : Int) (ByteArray.mk #[])) (2 : Int) (3 : Int)) (ByteArray.mk #[97]) (2 : Int) (3 : Int)) fun r5 =>
 some (!r5)
 else some false) fun b6 =>
 Option.bind (bif b6 then
 Option.bind (F_envelopes_Counter (TEnvelope.mk (0 : Int) (1 : Int) (1 : Int) (TTrust.mk r1.Threshold r1.Nodes r1.Inner) (1 : Int) (TBallot.mk (3 : Int) (ByteArray.mk #[97])) (TBallot.mk (3 : Int) (ByteArray.mk #[97])) (TBallot.mk (0 : Int) (ByteArray.mk #[])) (2 : Int) (3 : Int))) fun r7 =>
 some (decide (r7 = (3 : Int)))
 else some false) fun b8 =>
 some b8
noncomputable def k_law24_sane : KS U Tryz.prog := ⟨.fn 21 [] (.one Ty.bool) fun a => F_law24_sane , fnS (K := K) sa_law24_sane 22 [.tmp 0] [k_play_Flat, k_envelopes_Valid, k_envelopes_VotesCommit, k_envelopes_AcceptsCommit, k_envelopes_Counter] (fk Tryz.f21 [] Tryz.func21)⟩

/-! ### slices.Clone[[]int,int] -/
noncomputable def sa_slices_Clone_int_int : SA U := annA (scOf Tryz.prog 8 [5] Tryz.f166) .e
noncomputable def F_slices_Clone_int_int (a0 : (List Int)) : Option (List Int) :=
 bif List.isEmpty a0 then
 both (some ([] : List Int)) (bif lenOk 8 (List.length ([] : List Int) + List.length a0) then
 some (([] : List Int) ++ a0)
 else none)
 else
 bif lenOk 8 (List.length ([] : List Int) + List.length a0) then
 some (([] : List Int) ++ a0)
 else none
noncomputable def k_slices_Clone_int_int : KS U Tryz.prog := ⟨.fn 166 [.ty (Ty.sl (Ty.i .i64))] (.one (Ty.sl (Ty.i .i64))) fun a => F_slices_Clone_int_int a.1, fnS (K := K) sa_slices_Clone_int_int 8 [.tmp 2] [] (fk Tryz.f166 [5] Tryz.func166)⟩

/-! ### trustquorum/copies.Trust -/
noncomputable def sa_copies_Trust : SA U := annA (scOf Tryz.prog 28 [] Tryz.f116) (.r (.r (.l (.r (.l (.ps (.ownB 3 2 36 3 (Ty.st .Trust)) (.j ⟨[.val 15 (Ty.i .i64), .box 8 1 (Ty.st .Trust) [(2, 14, 1)], .rowb 14 1 36 3 (Ty.st .Trust)], [2, 3, 13, 14]⟩ .e)))))))
noncomputable def B_copies_Trust (rec : (TTrust × Unit) → Option TTrust) (a0 : TTrust) : Option TTrust :=
 Option.bind (F_slices_Clone_int_int a0.Nodes) fun r1 =>
 loopO (fun (v2 : Int × TTrust × (List TTrust) × Unit) =>
 bif (decide (v2.1 < ((List.length a0.Inner : Nat) : Int))) then
 Option.bind (idx a0.Inner v2.1) fun x3 =>
 Option.bind (rec ((TTrust.mk x3.Threshold x3.Nodes x3.Inner), ())) fun r4 =>
 bif lenOk 56 (List.length v2.2.2.1 + List.length [(TTrust.mk r4.Threshold r4.Nodes r4.Inner)]) then
 some (Sum.inl ((addI .i64 v2.1 (1 : Int)), (TTrust.mk v2.2.1.Threshold v2.2.1.Nodes ([] : List TTrust)), (v2.2.2.1 ++ [(TTrust.mk r4.Threshold r4.Nodes r4.Inner)]), ()))
 else none
 else
 Option.map Sum.inr (some (TTrust.mk v2.2.1.Threshold v2.2.1.Nodes v2.2.2.1))) ((0 : Int), (TTrust.mk a0.Threshold r1 ([] : List TTrust)), ([] : List TTrust), ())
noncomputable def I_copies_Trust : Nat → (TTrust × Unit) → Option TTrust := iterF (fun rec a => B_copies_Trust rec a.1)
noncomputable def F_copies_Trust (a0 : TTrust) : Option TTrust := I_copies_Trust (SizeOf.sizeOf a0 + 1) (a0, ())
noncomputable def k_copies_Trust : KS U Tryz.prog := ⟨.fn 116 [.ty (Ty.st .Trust)] (.one (Ty.st .Trust)) fun a => F_copies_Trust a.1, fnRS (K := K) («as» := [.ty (Ty.st .Trust)]) (r := .one (Ty.st .Trust)) (B := fun rec a => B_copies_Trust rec a.1) sa_copies_Trust 28 [.cell 2 (some 3)] [k_slices_Clone_int_int] (fk Tryz.f116 [] Tryz.func116) (hF := fun a => ⟨_, rfl⟩)⟩

/-! ### trustquorum/trustquorumref24.AcceptsCommit -/
noncomputable def sa_ref24_AcceptsCommit : SA U := annA (scOf Tryz.prog 48 [] Tryz.f28) .e
noncomputable def F_ref24_AcceptsCommit (a0 : TEnvelope) (a1 : ByteArray) (a2 : Int) (a3 : Int) : Option Bool :=
 Option.bind (F_ref24_Valid (TEnvelope.mk a0.Node a0.Slot a0.Seq (TTrust.mk a0.Trust.Threshold a0.Trust.Nodes a0.Trust.Inner) a0.Kind a0.Ballot a0.Prepared a0.Prime a0.Low a0.High)) fun r1 =>
 Option.bind (bif (!r1) then some true
 else
 some (decide (a2 < (1 : Int)))) fun b2 =>
 Option.bind (bif b2 then some true
 else
 some (decide (a3 < a2))) fun b3 =>
 Option.bind (bif b3 then some true
 else
 some (decide (a0.Kind = (1 : Int)))) fun b4 =>
 Option.bind (bif b4 then some true
 else
 some (!decide (a0.Ballot.Value = a1))) fun b5 =>
 Option.bind (bif b5 then some true
 else
 some (decide (a2 < a0.Low))) fun b6 =>
 bif b6 then
 some false
 else
 Option.bind (bif (decide (a0.Kind = (3 : Int))) then some true
 else
 some (decide (a3 ≤ a0.High))) fun b7 =>
 some b7
noncomputable def k_ref24_AcceptsCommit : KS U Tryz.prog := ⟨.fn 28 [.ty (Ty.st .Envelope), .ty Ty.str, .ty (Ty.i .i64), .ty (Ty.i .i64)] (.one Ty.bool) fun a => F_ref24_AcceptsCommit a.1 a.2.1 a.2.2.1 a.2.2.2.1, fnS (K := K) sa_ref24_AcceptsCommit 48 [.tmp 8] [k_ref24_Valid] (fk Tryz.f28 [] Tryz.func28)⟩

/-! ### trustquorum/trustquorumref24.AcceptsPrepare -/
noncomputable def sa_ref24_AcceptsPrepare : SA U := annA (scOf Tryz.prog 25 [] Tryz.f34) .e
noncomputable def F_ref24_AcceptsPrepare (a0 : TEnvelope) (a1 : TBallot) : Option Bool :=
 Option.bind (F_ref24_Valid (TEnvelope.mk a0.Node a0.Slot a0.Seq (TTrust.mk a0.Trust.Threshold a0.Trust.Nodes a0.Trust.Inner) a0.Kind a0.Ballot a0.Prepared a0.Prime a0.Low a0.High)) fun r1 =>
 Option.bind (bif (!r1) then some true
 else
 Option.bind (F_ref23_Zero a1) fun r2 =>
 some r2) fun b3 =>
 bif b3 then
 some false
 else
 bif (decide (a0.Kind = (3 : Int))) then
 Option.bind (F_ref23_Compatible a0.Ballot a1) fun r4 =>
 some r4
 else
 Option.bind (F_ref23_Prepares a0.Prepared a0.Prime a1) fun r5 =>
 some r5
noncomputable def k_ref24_AcceptsPrepare : KS U Tryz.prog := ⟨.fn 34 [.ty (Ty.st .Envelope), .ty (Ty.st .Ballot)] (.one Ty.bool) fun a => F_ref24_AcceptsPrepare a.1 a.2.1, fnS (K := K) sa_ref24_AcceptsPrepare 25 [.tmp 4] [k_ref24_Valid, k_ref23_Zero, k_ref23_Compatible, k_ref23_Prepares] (fk Tryz.f34 [] Tryz.func34)⟩

/-! ### (*trustquorum/trustquorumplay.Src).Pick -/
noncomputable def sa_play_Src_Pick : SA U := annA (scOf Tryz.prog 12 [] Tryz.f113) .e
noncomputable def F_play_Src_Pick (s : TSrc) (a0 : (List Int)) : Option (Int × TSrc) :=
 Option.bind (F_play_Src_N s ((List.length a0 : Nat) : Int)) fun p1 =>
 Option.bind (idx a0 p1.1) fun x2 =>
 some (x2, p1.2)
noncomputable def k_play_Src_Pick : KS U Tryz.prog := ⟨.rc 113 0 (Ty.st .Src) [.ty (Ty.sl (Ty.i .i64))] (.one (Ty.i .i64)) fun s a => F_play_Src_Pick s a.1, rcS (K := K) sa_play_Src_Pick 12 [.tmp 4] [k_play_Src_N] (fk Tryz.f113 [] Tryz.func113)⟩

/-! ### (*trustquorum/trustquorumplay.Src).Ballot -/
noncomputable def sa_play_Src_Ballot : SA U := annA (scOf Tryz.prog 9 [] Tryz.f44) .e
noncomputable def F_play_Src_Ballot (s : TSrc)  : Option (TBallot × TSrc) :=
 Option.bind (F_play_Src_Pick s [(1 : Int), (2 : Int), (3 : Int), (4 : Int), (5 : Int), (1000 : Int), (1000000 : Int)]) fun p1 =>
 Option.bind (F_play_Src_Value p1.2) fun p2 =>
 some ((TBallot.mk p1.1 p2.1), p2.2)
noncomputable def k_play_Src_Ballot : KS U Tryz.prog := ⟨.rc 44 0 (Ty.st .Src) [] (.one (Ty.st .Ballot)) fun s a => F_play_Src_Ballot s , rcS (K := K) sa_play_Src_Ballot 9 [.cell 2 (some 2)] [k_play_Src_Pick, k_play_Src_Value] (fk Tryz.f44 [] Tryz.func44)⟩

/-! ### trustquorum/trustquorumref01.Same -/
noncomputable def sa_ref01_Same : SA U := annA (scOf Tryz.prog 26 [] Tryz.f190) (.r (.r (.l (.r (.l (.j ⟨[.val 13 (Ty.i .i64)], [0, 1, 12]⟩ .e))))))
noncomputable def F_ref01_Same (a0 : (List Int)) (a1 : (List Int)) : Option Bool :=
 bif (!decide (((List.length a0 : Nat) : Int) = ((List.length a1 : Nat) : Int))) then
 some false
 else
 loopO (fun (v1 : Int × Unit) =>
 bif (decide (v1.1 < ((List.length a0 : Nat) : Int))) then
 Option.bind (idx a0 v1.1) fun x2 =>
 Option.bind (idx a1 v1.1) fun x3 =>
 bif (!decide (x2 = x3)) then
 Option.map Sum.inr (some false)
 else
 some (Sum.inl ((addI .i64 v1.1 (1 : Int)), ()))
 else
 Option.map Sum.inr (some true)) ((0 : Int), ())
noncomputable def k_ref01_Same : KS U Tryz.prog := ⟨.fn 190 [.ty (Ty.sl (Ty.i .i64)), .ty (Ty.sl (Ty.i .i64))] (.one Ty.bool) fun a => F_ref01_Same a.1 a.2.1, fnS (K := K) sa_ref01_Same 26 [.tmp 4] [] (fk Tryz.f190 [] Tryz.func190)⟩

/-! ### trustquorum/trustquorumref02.Same -/
noncomputable def sa_ref02_Same : SA U := annA (scOf Tryz.prog 47 [] Tryz.f165) (.r (.r (.l (.r (.l (.j ⟨[.val 31 (Ty.i .i64)], [2, 3, 30]⟩ .e))))))
noncomputable def B_ref02_Same (rec : (TTrust × TTrust × Unit) → Option Bool) (a0 : TTrust) (a1 : TTrust) : Option Bool :=
 Option.bind (bif (!decide (a0.Threshold = a1.Threshold)) then some true
 else
 Option.bind (F_ref01_Same a0.Nodes a1.Nodes) fun r1 =>
 some (!r1)) fun b2 =>
 Option.bind (bif b2 then some true
 else
 some (!decide (((List.length a0.Inner : Nat) : Int) = ((List.length a1.Inner : Nat) : Int)))) fun b3 =>
 bif b3 then
 some false
 else
 loopO (fun (v4 : Int × Unit) =>
 bif (decide (v4.1 < ((List.length a0.Inner : Nat) : Int))) then
 Option.bind (idx a0.Inner v4.1) fun x5 =>
 Option.bind (idx a1.Inner v4.1) fun x6 =>
 Option.bind (rec ((TTrust.mk x5.Threshold x5.Nodes x5.Inner), (TTrust.mk x6.Threshold x6.Nodes x6.Inner), ())) fun r7 =>
 bif (!r7) then
 Option.map Sum.inr (some false)
 else
 some (Sum.inl ((addI .i64 v4.1 (1 : Int)), ()))
 else
 Option.map Sum.inr (some true)) ((0 : Int), ())
noncomputable def I_ref02_Same : Nat → (TTrust × TTrust × Unit) → Option Bool := iterF (fun rec a => B_ref02_Same rec a.1 a.2.1)
noncomputable def F_ref02_Same (a0 : TTrust) (a1 : TTrust) : Option Bool := I_ref02_Same (SizeOf.sizeOf a0 + SizeOf.sizeOf a1 + 1) (a0, a1, ())
noncomputable def k_ref02_Same : KS U Tryz.prog := ⟨.fn 165 [.ty (Ty.st .Trust), .ty (Ty.st .Trust)] (.one Ty.bool) fun a => F_ref02_Same a.1 a.2.1, fnRS (K := K) («as» := [.ty (Ty.st .Trust), .ty (Ty.st .Trust)]) (r := .one Ty.bool) (B := fun rec a => B_ref02_Same rec a.1 a.2.1) sa_ref02_Same 47 [.tmp 4] [k_ref01_Same] (fk Tryz.f165 [] Tryz.func165) (hF := fun a => ⟨_, rfl⟩)⟩

/-! ### trustquorum/trustquorumref24.VotesPrepare -/
noncomputable def sa_ref24_VotesPrepare : SA U := annA (scOf Tryz.prog 23 [] Tryz.f79) .e
noncomputable def F_ref24_VotesPrepare (a0 : TEnvelope) (a1 : TBallot) : Option Bool :=
 Option.bind (F_ref24_Valid (TEnvelope.mk a0.Node a0.Slot a0.Seq (TTrust.mk a0.Trust.Threshold a0.Trust.Nodes a0.Trust.Inner) a0.Kind a0.Ballot a0.Prepared a0.Prime a0.Low a0.High)) fun r1 =>
 Option.bind (bif (!r1) then some true
 else
 Option.bind (F_ref23_Zero a1) fun r2 =>
 some r2) fun b3 =>
 bif b3 then
 some false
 else
 bif (decide (a0.Kind = (1 : Int))) then
 Option.bind (F_ref23_Covers a0.Ballot a1) fun r4 =>
 some r4
 else
 Option.bind (F_ref23_Compatible a0.Ballot a1) fun r5 =>
 some r5
noncomputable def k_ref24_VotesPrepare : KS U Tryz.prog := ⟨.fn 79 [.ty (Ty.st .Envelope), .ty (Ty.st .Ballot)] (.one Ty.bool) fun a => F_ref24_VotesPrepare a.1 a.2.1, fnS (K := K) sa_ref24_VotesPrepare 23 [.tmp 4] [k_ref24_Valid, k_ref23_Zero, k_ref23_Covers, k_ref23_Compatible] (fk Tryz.f79 [] Tryz.func79)⟩

/-! ### trustquorum/trustquorumref24.Set -/
noncomputable def sa_ref24_Set : SA U := annA (scOf Tryz.prog 43 [] Tryz.f67) (.r (.r (.l (.r (.l (.j ⟨[.val 5 (Ty.i .i64), .val 10 (Ty.i .i64)], [1, 8, 9]⟩ (.l (.r (.r (.j ⟨[.val 5 (Ty.i .i64)], [1, 8, 9, 10]⟩ .e))))))))))
noncomputable def F_ref24_Set (a0 : (List TEnvelope)) (a1 : (List Bool)) : Option Int :=
 loopO (fun (v1 : Int × Int × Unit) =>
 bif (decide (v1.2.1 < ((List.length a0 : Nat) : Int))) then
 letJ (fun (v2 : Int × Unit) =>
 some (Sum.inl (v2.1, (addI .i64 v1.2.1 (1 : Int)), ()))) fun j3 =>
 Option.bind (idx a0 v1.2.1) fun x4 =>
 Option.bind (bif (decide (v1.2.1 < ((List.length a1 : Nat) : Int))) then
 Option.bind (idx a1 v1.2.1) fun x5 =>
 some x5
 else some false) fun b6 =>
 Option.bind (bif b6 then
 some (decide ((0 : Int) ≤ x4.Node))
 else some false) fun b7 =>
 Option.bind (bif b7 then
 some (decide (x4.Node ≤ (9 : Int)))
 else some false) fun b8 =>
 bif b8 then
 if (convI .u64 x4.Node) < 0 then none else
 j3 ((orI .i64 v1.1 (shlI .i64 (1 : Int) (convI .u64 x4.Node))), ())
 else
 j3 (v1.1, ())
 else
 Option.map Sum.inr (some v1.1)) ((0 : Int), (0 : Int), ())
noncomputable def k_ref24_Set : KS U Tryz.prog := ⟨.fn 67 [.ty (Ty.sl (Ty.st .Envelope)), .ty (Ty.sl Ty.bool)] (.one (Ty.i .i64)) fun a => F_ref24_Set a.1 a.2.1, fnS (K := K) sa_ref24_Set 43 [.tmp 4] [] (fk Tryz.f67 [] Tryz.func67)⟩

/-! ### trustquorum/trustquorumref24.into -/
noncomputable def sa_ref24_into : SA U := annA (scOf Tryz.prog 47 [] Tryz.f126) (.r (.r (.r (.b (.l (.j ⟨[.val 5 (Ty.i .i64)], [0, 3]⟩ (.l (.l (.j ⟨[.val 20 Ty.bool], [0, 3, 5]⟩ .e))))) (.l (.j ⟨[.val 34 Ty.bool], [0, 3, 5]⟩ .e))))))
noncomputable def F_ref24_into (a0 : (List TBallot)) (a1 : TBallot) : Option (List TBallot) :=
 Option.bind (F_ref23_Zero a1) fun r1 =>
 bif r1 then
 some a0
 else
 loopO (fun (v2 : Int × Unit) =>
 letJ (fun (v3 : Bool × Unit) =>
 bif v3.1 then
 some (Sum.inl ((addI .i64 v2.1 (1 : Int)), ()))
 else
 Option.map Sum.inr (letJ (fun (v5 : Bool × Unit) =>
 bif v5.1 then
 some a0
 else
 bif slcOk (0 : Int) v2.1 (List.length a0) then
 bif lenOk 24 (List.length ((a0.take (Int.toNat v2.1)).drop (Int.toNat (0 : Int)))) then
 bif lenOk 24 (List.length ((a0.take (Int.toNat v2.1)).drop (Int.toNat (0 : Int))) + List.length [a1]) then
 bif slcOk v2.1 (a0.length : Int) (List.length a0) then
 bif lenOk 24 (List.length (((a0.take (Int.toNat v2.1)).drop (Int.toNat (0 : Int))) ++ [a1]) + List.length ((a0.take (Int.toNat (a0.length : Int))).drop (Int.toNat v2.1))) then
 some ((((a0.take (Int.toNat v2.1)).drop (Int.toNat (0 : Int))) ++ [a1]) ++ ((a0.take (Int.toNat (a0.length : Int))).drop (Int.toNat v2.1)))
 else none
 else none
 else none
 else none
 else none) fun j6 =>
 bif (decide (v2.1 < ((List.length a0 : Nat) : Int))) then
 Option.bind (idx a0 v2.1) fun x7 =>
 j6 ((eq2 false x7.Counter a1.Counter x7.Value a1.Value), ())
 else
 j6 (false, ()))) fun j4 =>
 bif (decide (v2.1 < ((List.length a0 : Nat) : Int))) then
 Option.bind (idx a0 v2.1) fun x8 =>
 Option.bind (F_ref23_Less a1 x8) fun r9 =>
 j4 (r9, ())
 else
 j4 (false, ())) ((0 : Int), ())
noncomputable def k_ref24_into : KS U Tryz.prog := ⟨.fn 126 [.ty (Ty.sl (Ty.st .Ballot)), .ty (Ty.st .Ballot)] (.one (Ty.sl (Ty.st .Ballot))) fun a => F_ref24_into a.1 a.2.1, fnS (K := K) sa_ref24_into 47 [.tmp 4] [k_ref23_Zero, k_ref23_Less] (fk Tryz.f126 [] Tryz.func126)⟩

/-! ### trustquorum/trustquorumref24.Ballots -/
noncomputable def sa_ref24_Ballots : SA U := annA (scOf Tryz.prog 47 [] Tryz.f64) (.r (.r (.l (.r (.l (.j ⟨[.val 3 (Ty.sl (Ty.st .Ballot)), .val 11 (Ty.i .i64)], [9, 10]⟩ (.l (.r (.r (.j ⟨[.val 3 (Ty.sl (Ty.st .Ballot))], [9, 10, 11]⟩ (.l (.l (.r (.r (.r (.j ⟨[.val 6 (Ty.sl (Ty.st .Ballot))], [3, 9, 10, 11]⟩ (.r (.r (.l (.j ⟨[.val 3 (Ty.sl (Ty.st .Ballot)), .val 37 (Ty.i .i64)], [9, 10, 11, 35, 36]⟩ .e))))))))))))))))))))
noncomputable def F_ref24_Ballots (a0 : (List TEnvelope)) : Option (List TBallot) :=
 loopO (fun (v1 : (List TBallot) × Int × Unit) =>
 bif (decide (v1.2.1 < ((List.length a0 : Nat) : Int))) then
 letJ (fun (v2 : (List TBallot) × Unit) =>
 some (Sum.inl (v2.1, (addI .i64 v1.2.1 (1 : Int)), ()))) fun j3 =>
 Option.bind (idx a0 v1.2.1) fun x4 =>
 Option.bind (F_ref24_Valid (TEnvelope.mk x4.Node x4.Slot x4.Seq (TTrust.mk x4.Trust.Threshold x4.Trust.Nodes x4.Trust.Inner) x4.Kind x4.Ballot x4.Prepared x4.Prime x4.Low x4.High)) fun r5 =>
 bif (!r5) then
 j3 (v1.1, ())
 else
 letJ (fun (v6 : (List TBallot) × Unit) =>
 loopO (fun (v8 : (List TBallot) × Int × Unit) =>
 bif (decide (v8.2.1 < ((List.length v6.1 : Nat) : Int))) then
 Option.bind (idx v6.1 v8.2.1) fun x9 =>
 Option.bind (F_ref24_into v8.1 x9) fun r10 =>
 some (Sum.inl (r10, (addI .i64 v8.2.1 (1 : Int)), ()))
 else
 Option.map Sum.inr (j3 (v8.1, ()))) (v1.1, (0 : Int), ())) fun j7 =>
 bif (!decide (x4.Kind = (1 : Int))) then
 j7 ([x4.Prepared, (TBallot.mk (1000000 : Int) x4.Ballot.Value)], ())
 else
 j7 ([x4.Ballot, x4.Prepared, x4.Prime], ())
 else
 Option.map Sum.inr (some v1.1)) (([] : List TBallot), (0 : Int), ())
noncomputable def k_ref24_Ballots : KS U Tryz.prog := ⟨.fn 64 [.ty (Ty.sl (Ty.st .Envelope))] (.one (Ty.sl (Ty.st .Ballot))) fun a => F_ref24_Ballots a.1, fnS (K := K) sa_ref24_Ballots 47 [.tmp 2] [k_ref24_Valid, k_ref24_into] (fk Tryz.f64 [] Tryz.func64)⟩

/-! ### trustquorum/trustquorumref24.VotesCommit -/
noncomputable def sa_ref24_VotesCommit : SA U := annA (scOf Tryz.prog 48 [] Tryz.f80) .e
noncomputable def F_ref24_VotesCommit (a0 : TEnvelope) (a1 : ByteArray) (a2 : Int) (a3 : Int) : Option Bool :=
 Option.bind (F_ref24_Valid (TEnvelope.mk a0.Node a0.Slot a0.Seq (TTrust.mk a0.Trust.Threshold a0.Trust.Nodes a0.Trust.Inner) a0.Kind a0.Ballot a0.Prepared a0.Prime a0.Low a0.High)) fun r1 =>
 Option.bind (bif (!r1) then some true
 else
 some (decide (a2 < (1 : Int)))) fun b2 =>
 Option.bind (bif b2 then some true
 else
 some (decide (a3 < a2))) fun b3 =>
 Option.bind (bif b3 then some true
 else
 some (!decide (a0.Ballot.Value = a1))) fun b4 =>
 Option.bind (bif b4 then some true
 else
 some (decide (a0.Low = (0 : Int)))) fun b5 =>
 Option.bind (bif b5 then some true
 else
 some (decide (a2 < a0.Low))) fun b6 =>
 bif b6 then
 some false
 else
 Option.bind (bif (!decide (a0.Kind = (1 : Int))) then some true
 else
 some (decide (a3 ≤ a0.High))) fun b7 =>
 some b7
noncomputable def k_ref24_VotesCommit : KS U Tryz.prog := ⟨.fn 80 [.ty (Ty.st .Envelope), .ty Ty.str, .ty (Ty.i .i64), .ty (Ty.i .i64)] (.one Ty.bool) fun a => F_ref24_VotesCommit a.1 a.2.1 a.2.2.1 a.2.2.2.1, fnS (K := K) sa_ref24_VotesCommit 48 [.tmp 8] [k_ref24_Valid] (fk Tryz.f80 [] Tryz.func80)⟩

/-! ### trustquorum/trustquorumref24.Bounds -/
noncomputable def sa_ref24_Bounds : SA U := annA (scOf Tryz.prog 80 [] Tryz.f69) (.r (.r (.l (.r (.l (.j ⟨[.val 5 (Ty.sl (Ty.i .i64)), .val 13 (Ty.i .i64)], [1, 11, 12]⟩ (.l (.r (.r (.j ⟨[.val 5 (Ty.sl (Ty.i .i64))], [1, 11, 12, 13]⟩ (.l (.l (.r (.r (.r (.l (.j ⟨[.val 5 (Ty.sl (Ty.i .i64)), .val 37 (Ty.i .i64)], [1, 11, 12, 13, 36]⟩ (.l (.r (.r (.j ⟨[.val 5 (Ty.sl (Ty.i .i64))], [1, 11, 12, 13, 36, 37]⟩ (.l (.l (.r (.r (.b (.l (.j ⟨[.val 10 (Ty.i .i64)], [1, 5, 9, 11, 12, 13, 36, 37]⟩ .e)) (.r (.l (.pst (.frz 5) .e)))))))))))))))))))))))))))))
noncomputable def F_ref24_Bounds (a0 : (List TEnvelope)) (a1 : ByteArray) : Option (List Int) :=
 loopO (fun (v1 : (List Int) × Int × Unit) =>
 bif (decide (v1.2.1 < ((List.length a0 : Nat) : Int))) then
 letJ (fun (v2 : (List Int) × Unit) =>
 some (Sum.inl (v2.1, (addI .i64 v1.2.1 (1 : Int)), ()))) fun j3 =>
 Option.bind (idx a0 v1.2.1) fun x4 =>
 Option.bind (F_ref24_Valid (TEnvelope.mk x4.Node x4.Slot x4.Seq (TTrust.mk x4.Trust.Threshold x4.Trust.Nodes x4.Trust.Inner) x4.Kind x4.Ballot x4.Prepared x4.Prime x4.Low x4.High)) fun r5 =>
 Option.bind (bif (!r5) then some true
 else
 some (!decide (x4.Ballot.Value = a1))) fun b6 =>
 Option.bind (bif b6 then some true
 else
 some (decide (x4.Low = (0 : Int)))) fun b7 =>
 bif b7 then
 j3 (v1.1, ())
 else
 loopO (fun (v8 : (List Int) × Int × Unit) =>
 bif (decide (v8.2.1 < (2 : Int))) then
 letJ (fun (v9 : (List Int) × Unit) =>
 some (Sum.inl (v9.1, (addI .i64 v8.2.1 (1 : Int)), ()))) fun j10 =>
 Option.bind (idx [x4.Low, x4.High] v8.2.1) fun x11 =>
 loopO (fun (v12 : Int × Unit) =>
 Option.bind (bif (decide (v12.1 < ((List.length v8.1 : Nat) : Int))) then
 Option.bind (idx v8.1 v12.1) fun x13 =>
 some (decide (x13 < x11))
 else some false) fun b14 =>
 bif b14 then
 some (Sum.inl ((addI .i64 v12.1 (1 : Int)), ()))
 else
 Option.map Sum.inr (Option.bind (bif (decide (v12.1 = ((List.length v8.1 : Nat) : Int))) then some true
 else
 Option.bind (idx v8.1 v12.1) fun x15 =>
 some (!decide (x15 = x11))) fun b16 =>
 bif b16 then
 bif slcOk (0 : Int) v12.1 (List.length v8.1) then
 bif lenOk 8 (List.length ((v8.1.take (Int.toNat v12.1)).drop (Int.toNat (0 : Int)))) then
 bif lenOk 8 (List.length ((v8.1.take (Int.toNat v12.1)).drop (Int.toNat (0 : Int))) + List.length [x11]) then
 bif slcOk v12.1 (v8.1.length : Int) (List.length v8.1) then
 bif lenOk 8 (List.length (((v8.1.take (Int.toNat v12.1)).drop (Int.toNat (0 : Int))) ++ [x11]) + List.length ((v8.1.take (Int.toNat (v8.1.length : Int))).drop (Int.toNat v12.1))) then
 j10 (((((v8.1.take (Int.toNat v12.1)).drop (Int.toNat (0 : Int))) ++ [x11]) ++ ((v8.1.take (Int.toNat (v8.1.length : Int))).drop (Int.toNat v12.1))), ())
 else none
 else none
 else none
 else none
 else none
 else
 j10 (v8.1, ()))) ((0 : Int), ())
 else
 Option.map Sum.inr (j3 (v8.1, ()))) (v1.1, (0 : Int), ())
 else
 Option.map Sum.inr (some v1.1)) (([] : List Int), (0 : Int), ())
noncomputable def k_ref24_Bounds : KS U Tryz.prog := ⟨.fn 69 [.ty (Ty.sl (Ty.st .Envelope)), .ty Ty.str] (.one (Ty.sl (Ty.i .i64))) fun a => F_ref24_Bounds a.1 a.2.1, fnS (K := K) sa_ref24_Bounds 80 [.tmp 4] [k_ref24_Valid] (fk Tryz.f69 [] Tryz.func69)⟩

/-! ### trustquorum/trustquorumref24.Values -/
noncomputable def sa_ref24_Values : SA U := annA (scOf Tryz.prog 61 [] Tryz.f65) (.r (.r (.l (.r (.l (.j ⟨[.val 3 (Ty.sl Ty.str), .val 9 (Ty.i .i64)], [7, 8]⟩ (.l (.r (.r (.j ⟨[.val 3 (Ty.sl Ty.str)], [7, 8, 9]⟩ (.l (.l (.r (.r (.r (.b (.l (.j ⟨[.val 6 (Ty.i .i64)], [3, 5, 7, 8, 9]⟩ (.l (.l (.j ⟨[.val 29 Ty.bool], [3, 5, 6, 7, 8, 9]⟩ .e))))) (.j ⟨[.val 45 Ty.bool], [3, 5, 6, 7, 8, 9]⟩ (.r (.l (.pst (.frz 3) .e))))))))))))))))))))
noncomputable def F_ref24_Values (a0 : (List TEnvelope)) : Option (List ByteArray) :=
 loopO (fun (v1 : (List ByteArray) × Int × Unit) =>
 bif (decide (v1.2.1 < ((List.length a0 : Nat) : Int))) then
 letJ (fun (v2 : (List ByteArray) × Unit) =>
 some (Sum.inl (v2.1, (addI .i64 v1.2.1 (1 : Int)), ()))) fun j3 =>
 Option.bind (idx a0 v1.2.1) fun x4 =>
 Option.bind (F_ref24_Valid (TEnvelope.mk x4.Node x4.Slot x4.Seq (TTrust.mk x4.Trust.Threshold x4.Trust.Nodes x4.Trust.Inner) x4.Kind x4.Ballot x4.Prepared x4.Prime x4.Low x4.High)) fun r5 =>
 bif (!r5) then
 j3 (v1.1, ())
 else
 loopO (fun (v6 : Int × Unit) =>
 letJ (fun (v7 : Bool × Unit) =>
 bif v7.1 then
 some (Sum.inl ((addI .i64 v6.1 (1 : Int)), ()))
 else
 Option.map Sum.inr (letJ (fun (v9 : Bool × Unit) =>
 bif v9.1 then
 bif slcOk (0 : Int) v6.1 (List.length v1.1) then
 bif lenOk 16 (List.length ((v1.1.take (Int.toNat v6.1)).drop (Int.toNat (0 : Int)))) then
 bif lenOk 16 (List.length ((v1.1.take (Int.toNat v6.1)).drop (Int.toNat (0 : Int))) + List.length [x4.Ballot.Value]) then
 bif slcOk v6.1 (v1.1.length : Int) (List.length v1.1) then
 bif lenOk 16 (List.length (((v1.1.take (Int.toNat v6.1)).drop (Int.toNat (0 : Int))) ++ [x4.Ballot.Value]) + List.length ((v1.1.take (Int.toNat (v1.1.length : Int))).drop (Int.toNat v6.1))) then
 j3 (((((v1.1.take (Int.toNat v6.1)).drop (Int.toNat (0 : Int))) ++ [x4.Ballot.Value]) ++ ((v1.1.take (Int.toNat (v1.1.length : Int))).drop (Int.toNat v6.1))), ())
 else none
 else none
 else none
 else none
 else none
 else
 j3 (v1.1, ())) fun j10 =>
 bif (decide (v6.1 = ((List.length v1.1 : Nat) : Int))) then
 j10 (true, ())
 else
 Option.bind (idx v1.1 v6.1) fun x11 =>
 j10 ((!decide (x11 = x4.Ballot.Value)), ()))) fun j8 =>
 bif (decide (v6.1 < ((List.length v1.1 : Nat) : Int))) then
 Option.bind (idx v1.1 v6.1) fun x12 =>
 Option.bind (F_ref23_LessValue x12 x4.Ballot.Value) fun r13 =>
 j8 (r13, ())
 else
 j8 (false, ())) ((0 : Int), ())
 else
 Option.map Sum.inr (some v1.1)) (([] : List ByteArray), (0 : Int), ())
noncomputable def k_ref24_Values : KS U Tryz.prog := ⟨.fn 65 [.ty (Ty.sl (Ty.st .Envelope))] (.one (Ty.sl Ty.str)) fun a => F_ref24_Values a.1, fnS (K := K) sa_ref24_Values 61 [.tmp 2] [k_ref24_Valid, k_ref23_LessValue] (fk Tryz.f65 [] Tryz.func65)⟩

/-! ### trustquorum/trustquorumlaw24.few -/
noncomputable def sa_law24_few : SA U := annA (scOf Tryz.prog 65 [] Tryz.f63) (.r (.l (.r (.l (.j ⟨[.val 9 (Ty.i .i64)], [0, 7, 8]⟩ (.l (.r (.r (.l (.l (.r (.r (.r (.l (.j ⟨[.val 46 (Ty.i .i64)], [0, 7, 8, 9, 44, 45]⟩ .e)))))))))))))))
noncomputable def F_law24_few (a0 : (List TEnvelope)) : Option Bool :=
 loopO (fun (v1 : Int × Unit) =>
 bif (decide (v1.1 < ((List.length a0 : Nat) : Int))) then
 Option.bind (idx a0 v1.1) fun x2 =>
 Option.bind (bif (decide ((12 : Int) < ((List.length x2.Trust.Nodes : Nat) : Int))) then some true
 else
 some (decide ((4 : Int) < ((List.length x2.Trust.Inner : Nat) : Int)))) fun b3 =>
 Option.bind (bif b3 then some true
 else
 some (decide ((500 : Int) < (addI .i64 (addI .i64 ((ByteArray.size x2.Ballot.Value : Nat) : Int) ((ByteArray.size x2.Prepared.Value : Nat) : Int)) ((ByteArray.size x2.Prime.Value : Nat) : Int))))) fun b4 =>
 bif b4 then
 Option.map Sum.inr (some false)
 else
 loopO (fun (v5 : Int × Unit) =>
 bif (decide (v5.1 < ((List.length x2.Trust.Inner : Nat) : Int))) then
 Option.bind (idx x2.Trust.Inner v5.1) fun x6 =>
 Option.bind (bif (decide ((12 : Int) < ((List.length x6.Nodes : Nat) : Int))) then some true
 else
 some (decide ((0 : Int) < ((List.length x6.Inner : Nat) : Int)))) fun b7 =>
 bif b7 then
 Option.map Sum.inr (Option.map Sum.inr (some false))
 else
 some (Sum.inl ((addI .i64 v5.1 (1 : Int)), ()))
 else
 Option.map Sum.inr (some (Sum.inl ((addI .i64 v1.1 (1 : Int)), ())))) ((0 : Int), ())
 else
 Option.map Sum.inr (some (decide (((List.length a0 : Nat) : Int) ≤ (12 : Int))))) ((0 : Int), ())
noncomputable def k_law24_few : KS U Tryz.prog := ⟨.fn 63 [.ty (Ty.sl (Ty.st .Envelope))] (.one Ty.bool) fun a => F_law24_few a.1, fnS (K := K) sa_law24_few 65 [.tmp 2] [] (fk Tryz.f63 [] Tryz.func63)⟩

/-! ### trustquorum/envelopes.Set -/
noncomputable def sa_envelopes_Set : SA U := annA (scOf Tryz.prog 42 [] Tryz.f66) (.r (.r (.l (.r (.l (.j ⟨[.val 5 (Ty.i .i64), .val 10 (Ty.i .i64)], [1, 8, 9]⟩ (.l (.r (.r (.j ⟨[.val 5 (Ty.i .i64)], [1, 8, 9, 10]⟩ .e))))))))))
noncomputable def F_envelopes_Set (a0 : (List TEnvelope)) (a1 : (List Bool)) : Option Int :=
 loopO (fun (v1 : Int × Int × Unit) =>
 bif (decide (v1.2.1 < ((List.length a0 : Nat) : Int))) then
 letJ (fun (v2 : Int × Unit) =>
 some (Sum.inl (v2.1, (addI .i64 v1.2.1 (1 : Int)), ()))) fun j3 =>
 Option.bind (idx a0 v1.2.1) fun x4 =>
 Option.bind (bif (decide (v1.2.1 < ((List.length a1 : Nat) : Int))) then
 Option.bind (idx a1 v1.2.1) fun x5 =>
 some x5
 else some false) fun b6 =>
 Option.bind (bif b6 then
 some (decide ((0 : Int) ≤ x4.Node))
 else some false) fun b7 =>
 Option.bind (bif b7 then
 some (decide (x4.Node < (10 : Int)))
 else some false) fun b8 =>
 bif b8 then
 if x4.Node < 0 then none else
 j3 ((orI .i64 v1.1 (shlI .i64 (1 : Int) x4.Node)), ())
 else
 j3 (v1.1, ())
 else
 Option.map Sum.inr (some v1.1)) ((0 : Int), (0 : Int), ())
noncomputable def k_envelopes_Set : KS U Tryz.prog := ⟨.fn 66 [.ty (Ty.sl (Ty.st .Envelope)), .ty (Ty.sl Ty.bool)] (.one (Ty.i .i64)) fun a => F_envelopes_Set a.1 a.2.1, fnS (K := K) sa_envelopes_Set 42 [.tmp 4] [] (fk Tryz.f66 [] Tryz.func66)⟩

/-! ### trustquorum/trustquorumlaw24.ints -/
noncomputable def sa_law24_ints : SA U := annA (scOf Tryz.prog 26 [] Tryz.f68) (.r (.r (.l (.r (.l (.j ⟨[.val 13 (Ty.i .i64)], [0, 1, 12]⟩ .e))))))
noncomputable def F_law24_ints (a0 : (List Int)) (a1 : (List Int)) : Option Bool :=
 bif (!decide (((List.length a0 : Nat) : Int) = ((List.length a1 : Nat) : Int))) then
 some false
 else
 loopO (fun (v1 : Int × Unit) =>
 bif (decide (v1.1 < ((List.length a0 : Nat) : Int))) then
 Option.bind (idx a0 v1.1) fun x2 =>
 Option.bind (idx a1 v1.1) fun x3 =>
 bif (!decide (x2 = x3)) then
 Option.map Sum.inr (some false)
 else
 some (Sum.inl ((addI .i64 v1.1 (1 : Int)), ()))
 else
 Option.map Sum.inr (some true)) ((0 : Int), ())
noncomputable def k_law24_ints : KS U Tryz.prog := ⟨.fn 68 [.ty (Ty.sl (Ty.i .i64)), .ty (Ty.sl (Ty.i .i64))] (.one Ty.bool) fun a => F_law24_ints a.1 a.2.1, fnS (K := K) sa_law24_ints 26 [.tmp 4] [] (fk Tryz.f68 [] Tryz.func68)⟩

/-! ### (*trustquorum/trustquorumplay.Src).Odd -/
noncomputable def sa_play_Src_Odd : SA U := annA (scOf Tryz.prog 6 [] Tryz.f127) .e
noncomputable def F_play_Src_Odd (s : TSrc)  : Option (Int × TSrc) :=
 Option.bind (F_play_Src_Pick s [(-1 : Int), (0 : Int), (1 : Int), (2 : Int), (9223372036854775807 : Int), (-9223372036854775808 : Int), (1000000000000 : Int), (1000000000001 : Int), (1000000 : Int), (1000001 : Int), (1000000 : Int), (1000 : Int), (1001 : Int), (1000 : Int), (1001 : Int)]) fun p1 =>
 some (p1.1, p1.2)
noncomputable def k_play_Src_Odd : KS U Tryz.prog := ⟨.rc 127 0 (Ty.st .Src) [] (.one (Ty.i .i64)) fun s a => F_play_Src_Odd s , rcS (K := K) sa_play_Src_Odd 6 [.tmp 2] [k_play_Src_Pick] (fk Tryz.f127 [] Tryz.func127)⟩

end Go.Proofs.YtncjalhhkmojlaaGreat
