/-
  The statement CommitExact: the law returns true for every input. The frame follows the kit's; arguments of nested types are read by XRaw; the walk is the turned function.
-/
import Derived.Test.YtncjalhhkmojlaaGreatRows
import Derived.Test.YtncjalhhkmojlaaGreatCommitExactPlainB
import Derived.Test.YtncjalhhkmojlaaGreatRaw
import Derived.Test.YtncjalhhkmojlaaGreatRow
import Derived.WalkKit
import Derived.ProofKit
import Derived.OpenShut
import Derived.ShutString
import Derived.ChangeOld
import Derived.Below
namespace Go.Proofs.YtncjalhhkmojlaaGreat.commitExact
open Go.ChangeShapes Go.WideShapes Go.ChangeAt Go.RowKit Go.TQ
open Go.ChangeMaps (open_string shut_string)
set_option linter.unusedVariables false
set_option maxRecDepth 100000

theorem own : ownKnob Tryz.prog.godebug = none := by kernel_rfl
theorem laidOut : laidOutB Tryz.prog = true := by kernel_rfl
theorem elems : okR Tryz.prog [3, 36, 38] = true := by kernel_rfl

/-! ### the walk -/
theorem walk (v0 : Value) (x0 : List (Ty.den (Ty.i .i64))) (v1 : Value) (x1 : List (Ty.den (Ty.st .Envelope))) (v2 : Value) (x2 : Ty.den (Ty.st .Trust)) (a3 : Int) (v4 : Value) (x4 : Ty.den (Ty.st .Ballot)) (v5 : Value) (x5 : Ty.den (Ty.st .Ballot)) (a6 : ByteArray) (a7 : Int) (a8 : Int) (w : World) (w0 : Rep w (fun _ => False) Gh0 (valPV (U := U) (Ty.sl (Ty.i .i64)) x0) v0) (w1 : Rep w (fun _ => False) Gh0 (valPV (U := U) (Ty.sl (Ty.st .Envelope)) x1) v1) (w2 : Rep w (fun _ => False) Gh0 (valPV (U := U) (Ty.st .Trust) x2) v2) (w3 : (Lit.int .i64 a3).wf = true) (w4 : Rep w (fun _ => False) Gh0 (valPV (U := U) (Ty.st .Ballot) x4) v4) (w5 : Rep w (fun _ => False) Gh0 (valPV (U := U) (Ty.st .Ballot) x5) v5) (w7 : (Lit.int .i64 a7).wf = true) (w8 : (Lit.int .i64 a8).wf = true) :
    Calls Tryz.prog 8 #[v0, v1, v2, .int .i64 a3, v4, v5, .string a6, .int .i64 a7, .int .i64 a8] w fun e w' => e = .returned (.bool true) ∧ Below w.heap.size w w' :=
  law_calls (vs := [v0, v1, v2, .int .i64 a3, v4, v5, .string a6, .int .i64 a7, .int .i64 a8]) (k_law26_CommitExact.s.2 (x0, x1, x2, a3, x4, x5, a6, a7, a8, ()) true (commitExact _ _ (raw_len w1) _ _ _ _ _ _ _)) (.cons w0 (.cons w1 (.cons w2 (.cons (.int _ _) (.cons w4 (.cons w5 (.cons (.str _) (.cons (.int _ _) (.cons (.int _ _) .nil)))))))))

/-! ### the row -/
theorem lifted (os : Os) (started : os.Started) (H : Type) (enc : TypeId × Value → H) :
    ReturnsInHanded {} Tryz.checked os 8 .any (Rows.commitExactSpec.pre6 enc Tryz.prog Tryz.f8 Rows.commitExactRow.domain false) (Rows.commitExactSpec.post enc Tryz.prog Tryz.f8 false true false false) := by
  refine returnsInHanded_of_change (C := Tryz.checked) own started (by kernel_rfl) Tryz.func8
    (ChangeSpec.witness6 (enc := enc) (C := Tryz.checked) false ⟨#[], #[.slice none 0 0, .slice none 0 0, .agg #[.int .i64 0, .slice none 0 0, .slice none 0 0], .int .i64 0, .agg #[.int .i64 0, .string ⟨#[]⟩], .agg #[.int .i64 0, .string ⟨#[]⟩], .string ⟨#[]⟩, .int .i64 0, .int .i64 0], []⟩ 16 (by kernel_rfl) (by kernel_rfl) (by kernel_rfl) (by kernel_rfl)) ?_
  intro W base args ds gs before hval0 hW hcnd _
  have hval : ∀ (j : Nat) t v, Tryz.f8.params[j]? = some t → args[j]? = some v → Value.okWide Tryz.prog W .any base t v := hval0
  have hW' := hW
  obtain ⟨p, q, hA0, hV, rfl, hfz, hnd⟩ := hW
  have hA : DataW.TrodAll enc Tryz.prog W 0 (fun _ => true) true Tryz.f8.params.toList args.toList ds p := hA0
  rw [Tryz.params8] at hA hval
  obtain ⟨v0, vs0, d0, ds0, p0, q0, hargs, rfl, rfl, h0, r0⟩ := trodAll_cons hA
  obtain ⟨v1, vs1, d1, ds1, p1, q1, rfl, rfl, rfl, h1, r1⟩ := trodAll_cons r0
  obtain ⟨v2, vs2, d2, ds2, p2, q2, rfl, rfl, rfl, h2, r2⟩ := trodAll_cons r1
  obtain ⟨v3, vs3, d3, ds3, p3, q3, rfl, rfl, rfl, h3, r3⟩ := trodAll_cons r2
  obtain ⟨v4, vs4, d4, ds4, p4, q4, rfl, rfl, rfl, h4, r4⟩ := trodAll_cons r3
  obtain ⟨v5, vs5, d5, ds5, p5, q5, rfl, rfl, rfl, h5, r5⟩ := trodAll_cons r4
  obtain ⟨v6, vs6, d6, ds6, p6, q6, rfl, rfl, rfl, h6, r6⟩ := trodAll_cons r5
  obtain ⟨v7, vs7, d7, ds7, p7, q7, rfl, rfl, rfl, h7, r7⟩ := trodAll_cons r6
  obtain ⟨v8, vs8, d8, ds8, p8, q8, rfl, rfl, rfl, h8, r8⟩ := trodAll_cons r7
  obtain ⟨rfl, rfl, rfl⟩ := trodAll_nil r8
  obtain rfl : args = #[v0, v1, v2, v3, v4, v5, v6, v7, v8] := by cases args; simp_all
  obtain ⟨rfl, rfl⟩ := trodVars_none hV
  have k0 := h0
  have lt0 : ∀ x ∈ p0, x.block < W.heap.size := by obtain ⟨m, hm⟩ := k0; exact DataW.trod_lt m _ _ _ hm
  obtain ⟨x0, w0⟩ := raw_sl elems (fun _ h => h) (T := (Ty.i .i64)) Tryz.underlying22 (by kernel_rfl) (hval 0 22 v0 rfl rfl) h0
  have k1 := h1
  have lt1 : ∀ x ∈ p1, x.block < W.heap.size := by obtain ⟨m, hm⟩ := k1; exact DataW.trod_lt m _ _ _ hm
  obtain ⟨x1, w1⟩ := raw_sl elems (fun _ h => h) (T := (Ty.st .Envelope)) Tryz.underlying25 (by kernel_rfl) (hval 1 25 v1 rfl rfl) h1
  have k2 := h2
  have lt2 : ∀ x ∈ p2, x.block < W.heap.size := by obtain ⟨m, hm⟩ := k2; exact DataW.trod_lt m _ _ _ hm
  obtain ⟨x2, w2⟩ := raw_st elems (fun _ h => h) (n := .Trust) Tryz.underlying36 (by kernel_rfl) (hval 2 36 v2 rfl rfl) h2
  obtain ⟨a3, rfl, rfl, rfl, w3⟩ := open_int Tryz.underlying3 (hval 3 3 v3 rfl rfl) h3
  have k4 := h4
  have lt4 : ∀ x ∈ p4, x.block < W.heap.size := by obtain ⟨m, hm⟩ := k4; exact DataW.trod_lt m _ _ _ hm
  obtain ⟨x4, w4⟩ := raw_st elems (fun _ h => h) (n := .Ballot) Tryz.underlying32 (by kernel_rfl) (hval 4 32 v4 rfl rfl) h4
  have k5 := h5
  have lt5 : ∀ x ∈ p5, x.block < W.heap.size := by obtain ⟨m, hm⟩ := k5; exact DataW.trod_lt m _ _ _ hm
  obtain ⟨x5, w5⟩ := raw_st elems (fun _ h => h) (n := .Ballot) Tryz.underlying32 (by kernel_rfl) (hval 5 32 v5 rfl rfl) h5
  obtain ⟨a6, rfl, rfl, rfl, w6⟩ := open_string Tryz.underlying9 (hval 6 9 v6 rfl rfl) h6
  obtain ⟨a7, rfl, rfl, rfl, w7⟩ := open_int Tryz.underlying3 (hval 7 3 v7 rfl rfl) h7
  obtain ⟨a8, rfl, rfl, rfl, w8⟩ := open_int Tryz.underlying3 (hval 8 3 v8 rfl rfl) h8
  clear hA0 hval0
  refine (walk v0 x0 v1 x1 v2 x2 a3 v4 x4 v5 x5 a6 a7 a8 W w0 w1 w2 w3 w4 w5 w7 w8).mono fun e W' ⟨he, bel⟩ => ?_
  subst he
  exact ⟨_, rfl, _, _, _, [], _, [], hW', trodAll_mk1 (shut_bool Tryz.underlying4 _), (trodAll_cons_mk (Below.trod laidOut (by kernel_rfl) (of_decide_eq_true (by kernel_rfl)) k0 bel lt0) (trodAll_cons_mk (Below.trod laidOut (by kernel_rfl) (of_decide_eq_true (by kernel_rfl)) k1 bel lt1) (trodAll_cons_mk (Below.trod laidOut (by kernel_rfl) (of_decide_eq_true (by kernel_rfl)) k2 bel lt2) (trodAll_cons_mk (shut_int Tryz.underlying3 w3) (trodAll_cons_mk (Below.trod laidOut (by kernel_rfl) (of_decide_eq_true (by kernel_rfl)) k4 bel lt4) (trodAll_cons_mk (Below.trod laidOut (by kernel_rfl) (of_decide_eq_true (by kernel_rfl)) k5 bel lt5) (trodAll_cons_mk (shut_string Tryz.underlying9 w6) (trodAll_cons_mk (shut_int Tryz.underlying3 w7) (trodAll_cons_mk (shut_int Tryz.underlying3 w8) trodAll_mk0))))))))), rfl, bel.frame _, fun h => by cases h⟩

theorem over : Rows.commitExactRow.holds Tryz.pinned (OpenSpec.ofChange Rows.commitExactSpec) :=
  OpenClaim.holds_of_wide 8 Tryz.f8 rfl rfl rfl rfl rfl rfl rfl ⟨rfl, rfl, rfl, rfl, rfl⟩ rfl rfl rfl rfl rfl (by kernel_rfl) Tryz.func8 (by kernel_rfl)
    (of_decide_eq_true (by kernel_rfl)) (by unfold Func.isWrapper; first | (rw [if_pos (by decide +kernel)]; kernel_rfl) | (rw [if_neg (by decide +kernel)]; exact ⟨rfl, rfl⟩))
    (fun os started H enc _ => lifted os started H enc)

/-- the statement -/
theorem proved : Rows.CommitExactSaid := over
#print axioms proved
end Go.Proofs.YtncjalhhkmojlaaGreat.commitExact
namespace Go.Proofs.YtncjalhhkmojlaaGreat
theorem commitExact_holds : Rows.CommitExactSaid := commitExact.proved
end Go.Proofs.YtncjalhhkmojlaaGreat
