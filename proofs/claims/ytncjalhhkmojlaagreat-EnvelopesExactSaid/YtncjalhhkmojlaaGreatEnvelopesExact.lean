/-
  The statement EnvelopesExact: the law returns true for every input. The frame follows the kit's; arguments of nested types are read by XRaw; the walk is the turned function.
-/
import Derived.Test.YtncjalhhkmojlaaGreatRows
import Derived.Test.YtncjalhhkmojlaaGreatEnvelopesExactPlainB
import Derived.Test.YtncjalhhkmojlaaGreatRaw
import Derived.Test.YtncjalhhkmojlaaGreatRow
import Derived.WalkKit
import Derived.ProofKit
import Derived.OpenShut
import Derived.ShutString
import Derived.ChangeOld
import Derived.Below
namespace Go.Proofs.YtncjalhhkmojlaaGreat.envelopesExact
open Go.ChangeShapes Go.WideShapes Go.ChangeAt Go.RowKit Go.TQ
open Go.ChangeMaps (open_string shut_string)
set_option linter.unusedVariables false
set_option maxRecDepth 100000

theorem own : ownKnob Tryz.prog.godebug = none := by kernel_rfl
theorem laidOut : laidOutB Tryz.prog = true := by kernel_rfl
theorem elems : okR Tryz.prog [3, 4, 36, 38] = true := by kernel_rfl

/-! ### the walk -/
theorem walk (v0 : Value) (x0 : List (Ty.den (Ty.i .i64))) (v1 : Value) (x1 : List (Ty.den (Ty.st .Envelope))) (v2 : Value) (x2 : Ty.den (Ty.st .Envelope)) (v3 : Value) (x3 : Ty.den (Ty.st .Ballot)) (a4 : ByteArray) (a5 : Int) (a6 : Int) (v7 : Value) (x7 : List (Ty.den Ty.bool)) (w : World) (w0 : Rep w (fun _ => False) Gh0 (valPV (U := U) (Ty.sl (Ty.i .i64)) x0) v0) (w1 : Rep w (fun _ => False) Gh0 (valPV (U := U) (Ty.sl (Ty.st .Envelope)) x1) v1) (w2 : Rep w (fun _ => False) Gh0 (valPV (U := U) (Ty.st .Envelope) x2) v2) (w3 : Rep w (fun _ => False) Gh0 (valPV (U := U) (Ty.st .Ballot) x3) v3) (w5 : (Lit.int .i64 a5).wf = true) (w6 : (Lit.int .i64 a6).wf = true) (w7 : Rep w (fun _ => False) Gh0 (valPV (U := U) (Ty.sl Ty.bool) x7) v7) :
    Calls Tryz.prog 10 #[v0, v1, v2, v3, .string a4, .int .i64 a5, .int .i64 a6, v7] w fun e w' => e = .returned (.bool true) ∧ Below w.heap.size w w' :=
  law_calls (vs := [v0, v1, v2, v3, .string a4, .int .i64 a5, .int .i64 a6, v7]) (k_law24_EnvelopesExact.s.2 (x0, x1, x2, x3, a4, a5, a6, x7, ()) true (envelopesExact _ _ (raw_len w1) _ _ _ _ _ _)) (.cons w0 (.cons w1 (.cons w2 (.cons w3 (.cons (.str _) (.cons (.int _ _) (.cons (.int _ _) (.cons w7 .nil))))))))

/-! ### the row -/
theorem lifted (os : Os) (started : os.Started) (H : Type) (enc : TypeId × Value → H) :
    ReturnsInHanded {} Tryz.checked os 10 .any (Rows.envelopesExactSpec.pre6 enc Tryz.prog Tryz.f10 Rows.envelopesExactRow.domain false) (Rows.envelopesExactSpec.post enc Tryz.prog Tryz.f10 false true false false) := by
  refine returnsInHanded_of_change (C := Tryz.checked) own started (by kernel_rfl) Tryz.func10
    (ChangeSpec.witness6 (enc := enc) (C := Tryz.checked) false ⟨#[], #[.slice none 0 0, .slice none 0 0, .agg #[.int .i64 0, .int .i64 0, .int .i64 0, .int .i64 0, .slice none 0 0, .slice none 0 0, .int .i64 0, .int .i64 0, .string ⟨#[]⟩, .int .i64 0, .string ⟨#[]⟩, .int .i64 0, .string ⟨#[]⟩, .int .i64 0, .int .i64 0], .agg #[.int .i64 0, .string ⟨#[]⟩], .string ⟨#[]⟩, .int .i64 0, .int .i64 0, .slice none 0 0], []⟩ 16 (by kernel_rfl) (by kernel_rfl) (by kernel_rfl) (by kernel_rfl)) ?_
  intro W base args ds gs before hval0 hW hcnd _
  have hval : ∀ (j : Nat) t v, Tryz.f10.params[j]? = some t → args[j]? = some v → Value.okWide Tryz.prog W .any base t v := hval0
  have hW' := hW
  obtain ⟨p, q, hA0, hV, rfl, hfz, hnd⟩ := hW
  have hA : DataW.TrodAll enc Tryz.prog W 0 (fun _ => true) true Tryz.f10.params.toList args.toList ds p := hA0
  rw [Tryz.params10] at hA hval
  obtain ⟨v0, vs0, d0, ds0, p0, q0, hargs, rfl, rfl, h0, r0⟩ := trodAll_cons hA
  obtain ⟨v1, vs1, d1, ds1, p1, q1, rfl, rfl, rfl, h1, r1⟩ := trodAll_cons r0
  obtain ⟨v2, vs2, d2, ds2, p2, q2, rfl, rfl, rfl, h2, r2⟩ := trodAll_cons r1
  obtain ⟨v3, vs3, d3, ds3, p3, q3, rfl, rfl, rfl, h3, r3⟩ := trodAll_cons r2
  obtain ⟨v4, vs4, d4, ds4, p4, q4, rfl, rfl, rfl, h4, r4⟩ := trodAll_cons r3
  obtain ⟨v5, vs5, d5, ds5, p5, q5, rfl, rfl, rfl, h5, r5⟩ := trodAll_cons r4
  obtain ⟨v6, vs6, d6, ds6, p6, q6, rfl, rfl, rfl, h6, r6⟩ := trodAll_cons r5
  obtain ⟨v7, vs7, d7, ds7, p7, q7, rfl, rfl, rfl, h7, r7⟩ := trodAll_cons r6
  obtain ⟨rfl, rfl, rfl⟩ := trodAll_nil r7
  obtain rfl : args = #[v0, v1, v2, v3, v4, v5, v6, v7] := by cases args; simp_all
  obtain ⟨rfl, rfl⟩ := trodVars_none hV
  have k0 := h0
  have lt0 : ∀ x ∈ p0, x.block < W.heap.size := by obtain ⟨m, hm⟩ := k0; exact DataW.trod_lt m _ _ _ hm
  obtain ⟨x0, w0⟩ := raw_sl elems (fun _ h => h) (T := (Ty.i .i64)) Tryz.underlying22 (by kernel_rfl) (hval 0 22 v0 rfl rfl) h0
  have k1 := h1
  have lt1 : ∀ x ∈ p1, x.block < W.heap.size := by obtain ⟨m, hm⟩ := k1; exact DataW.trod_lt m _ _ _ hm
  obtain ⟨x1, w1⟩ := raw_sl elems (fun _ h => h) (T := (Ty.st .Envelope)) Tryz.underlying25 (by kernel_rfl) (hval 1 25 v1 rfl rfl) h1
  have k2 := h2
  have lt2 : ∀ x ∈ p2, x.block < W.heap.size := by obtain ⟨m, hm⟩ := k2; exact DataW.trod_lt m _ _ _ hm
  obtain ⟨x2, w2⟩ := raw_st elems (fun _ h => h) (n := .Envelope) Tryz.underlying38 (by kernel_rfl) (hval 2 38 v2 rfl rfl) h2
  have k3 := h3
  have lt3 : ∀ x ∈ p3, x.block < W.heap.size := by obtain ⟨m, hm⟩ := k3; exact DataW.trod_lt m _ _ _ hm
  obtain ⟨x3, w3⟩ := raw_st elems (fun _ h => h) (n := .Ballot) Tryz.underlying32 (by kernel_rfl) (hval 3 32 v3 rfl rfl) h3
  obtain ⟨a4, rfl, rfl, rfl, w4⟩ := open_string Tryz.underlying9 (hval 4 9 v4 rfl rfl) h4
  obtain ⟨a5, rfl, rfl, rfl, w5⟩ := open_int Tryz.underlying3 (hval 5 3 v5 rfl rfl) h5
  obtain ⟨a6, rfl, rfl, rfl, w6⟩ := open_int Tryz.underlying3 (hval 6 3 v6 rfl rfl) h6
  have k7 := h7
  have lt7 : ∀ x ∈ p7, x.block < W.heap.size := by obtain ⟨m, hm⟩ := k7; exact DataW.trod_lt m _ _ _ hm
  obtain ⟨x7, w7⟩ := raw_sl elems (fun _ h => h) (T := Ty.bool) Tryz.underlying84 (by kernel_rfl) (hval 7 84 v7 rfl rfl) h7
  clear hA0 hval0
  refine (walk v0 x0 v1 x1 v2 x2 v3 x3 a4 a5 a6 v7 x7 W w0 w1 w2 w3 w5 w6 w7).mono fun e W' ⟨he, bel⟩ => ?_
  subst he
  exact ⟨_, rfl, _, _, _, [], _, [], hW', trodAll_mk1 (shut_bool Tryz.underlying4 _), (trodAll_cons_mk (Below.trod laidOut (by kernel_rfl) (of_decide_eq_true (by kernel_rfl)) k0 bel lt0) (trodAll_cons_mk (Below.trod laidOut (by kernel_rfl) (of_decide_eq_true (by kernel_rfl)) k1 bel lt1) (trodAll_cons_mk (Below.trod laidOut (by kernel_rfl) (of_decide_eq_true (by kernel_rfl)) k2 bel lt2) (trodAll_cons_mk (Below.trod laidOut (by kernel_rfl) (of_decide_eq_true (by kernel_rfl)) k3 bel lt3) (trodAll_cons_mk (shut_string Tryz.underlying9 w4) (trodAll_cons_mk (shut_int Tryz.underlying3 w5) (trodAll_cons_mk (shut_int Tryz.underlying3 w6) (trodAll_cons_mk (Below.trod laidOut (by kernel_rfl) (of_decide_eq_true (by kernel_rfl)) k7 bel lt7) trodAll_mk0)))))))), rfl, bel.frame _, fun h => by cases h⟩

theorem over : Rows.envelopesExactRow.holds Tryz.pinned (OpenSpec.ofChange Rows.envelopesExactSpec) :=
  OpenClaim.holds_of_wide 10 Tryz.f10 rfl rfl rfl rfl rfl rfl rfl ⟨rfl, rfl, rfl, rfl, rfl⟩ rfl rfl rfl rfl rfl (by kernel_rfl) Tryz.func10 (by kernel_rfl)
    (of_decide_eq_true (by kernel_rfl)) (by unfold Func.isWrapper; first | (rw [if_pos (by decide +kernel)]; kernel_rfl) | (rw [if_neg (by decide +kernel)]; exact ⟨rfl, rfl⟩))
    (fun os started H enc _ => lifted os started H enc)

/-- the statement -/
theorem proved : Rows.EnvelopesExactSaid := over
#print axioms proved
end Go.Proofs.YtncjalhhkmojlaaGreat.envelopesExact
namespace Go.Proofs.YtncjalhhkmojlaaGreat
theorem envelopesExact_holds : Rows.EnvelopesExactSaid := envelopesExact.proved
end Go.Proofs.YtncjalhhkmojlaaGreat
