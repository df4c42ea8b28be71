/-
  The monitor's files: the walk.
-/
import Derived.Test.YtaebanabjdmgfaaGreatFilU
set_option linter.unusedVariables false
namespace Go.Proofs.YtaebanabjdmgfaaGreat
open Go.RowKit Go.TQ
namespace fil26
noncomputable def sa (c : Code) : SA U := annA ((ccode Tryz.prog 63 [] c).getD .skip) .e
noncomputable def saX : SA U := .seq (sa R7) (.cond (.tmp 35) (.exit 1) .skip)
noncomputable def saB : SA U := .seq (sa R5) (.seq (sa R6) (.seq saX (sa R8)))
noncomputable def S4 (l : List TSighting) (j : Int) : KSt U := { env := updK (updK (fun _ => .any) 11 (.sl (Ty.st .Sighting) l)) 13 (.int .i64 j), H := fun _ => ⟨0, .dead⟩, N := 0 }
def kF (e : Exit) (S : KSt U) : Option (Option (TEnvelope × TPlace)) :=
  match e with
  | .exit 1 => some none
  | .normal => (match S.env 8, S.env 9 with
    | .ptr i v 0, .ptr i' v' 0 => (match S.box? i v, S.box? i' v' with
      | some cs, some cs' => (match K.dec (Ty.st .Envelope) noLk cs, K.dec (Ty.st .Place) noLk cs' with
        | some e, some p => some (some (e, p))
        | _, _ => none)
      | _, _ => none)
    | _, _ => none)
  | _ => none
theorem c5 : ccode Tryz.prog 63 [] R5 = some (sa R5).erase := by kernel_rfl
theorem c6 : ccode Tryz.prog 63 [] R6 = some (sa R6).erase := by kernel_rfl
theorem c7 : ccode Tryz.prog 63 [] (.seq R7 (.cond (.tmp 35) (.exit 1) .skip)) = some saX.erase := by kernel_rfl
theorem c8 : ccode Tryz.prog 63 [] R8 = some (sa R8).erase := by kernel_rfl
theorem o5 : (sa R5).okc = true := by kernel_rfl
theorem o6 : (sa R6).okc = true := by kernel_rfl
theorem o7 : saX.okc = true := by kernel_rfl
theorem o8 : (sa R8).okc = true := by kernel_rfl
theorem evF : (fun (V : (TEnvelope × Unit) → Option Bool) (l : List TSighting) (j : Int) => evK K [.fn 60 [.ty (Ty.st .Envelope)] (.one Ty.bool) V] saB [] (some (0, [])) kF (S4 l j)) = fun V l j => Option.bind (idx l j) fun x => filStep (fun e => V (e, ())) x := by kernel_rfl
/-! ### the walk -/
def MS (X : Nat → Prop) (N0 : Nat) (es : Array MapEntry) (pv : Value) (b : Nat) : Prop := X b ∨ b = N0 ∨ (∃ e ∈ es.toList, e.val.ownBlock = some b) ∨ pv.ownBlock = some b
abbrev kf (k : TPlace) : Int × Int := (k.node, k.slot)
theorem eqp_kf (p : TPlace) : ∀ k, eqp p k = decide (kf k = kf p) := fun k => by
  rw [Bool.eq_iff_iff]
  simp only [eqp, Bool.and_eq_true, decide_eq_true_eq, Prod.mk.injEq]
  exact ⟨fun h => ⟨h.1.symm, h.2.symm⟩, fun h => ⟨h.1.symm, h.2.symm⟩⟩
structure J (w0 : World) (X : Nat → Prop) (lv : Value) (n : Nat) (G : List (TPlace × List TEnvelope)) (ps : List TPlace) (j : Nat) (a : Act) (w : World) : Prop where
  sz : a.tmps.size = 63
  df : a.defers = []
  t4 : tv a 4 = .map (some w0.heap.size)
  t11 : tv a 11 = lv
  t12 : tv a 12 = .int .i64 n
  t13 : tv a 13 = .int .i64 j
  fr : Fr none w0 w
  sN : w0.heap.size < w.heap.size
  ex : ∃ es ck, w.heap[w0.heap.size]? = some (.map es ck) ∧ GE (MS X w0.heap.size es (tv a 5)) w0.heap.size 38 15 kf pv_TEnvelope w G es ck ∧
    (∃ vs, w.ownsRow (w0.heap.size + 1) 74 2 (tv a 5) ps.length vs ∧ RepL w (MS X w0.heap.size es (tv a 5)) Gh0 (ps.map pv_TPlace).flatten vs) ∧
    ∀ e ∈ es.toList, ∀ b, e.val.ownBlock = some b → (tv a 5).ownBlock ≠ some b
def kept (t : Nat) : Bool := t == 4 || t == 5 || t == 11 || t == 12 || t == 13
theorem k5 : (csets R5).all (fun t => !kept t) = true ∧ noRf R5 = true := ⟨by kernel_rfl, by kernel_rfl⟩
theorem k6 : (csets R6).all (fun t => !kept t) = true ∧ noRf R6 = true := ⟨by kernel_rfl, by kernel_rfl⟩
theorem k7 : (csets (.seq R7 (.cond (.tmp 35) (.exit 1) .skip))).all (fun t => !kept t) = true ∧ noRf (.seq R7 (.cond (.tmp 35) (.exit 1) .skip)) = true := ⟨by kernel_rfl, by kernel_rfl⟩
theorem k8 : (csets R8).all (fun t => !kept t) = true ∧ noRf R8 = true := ⟨by kernel_rfl, by kernel_rfl⟩
theorem cok {E : En} {a : Act} {c : Code} (hkt : E.kt = fun t => if kept t = true then some (tv a t) else none) (h : (csets c).all (fun t => !kept t) = true ∧ noRf c = true) : COk E c :=
  ⟨fun t ht => by
    have := List.all_eq_true.1 h.1 t ht
    rw [hkt]
    simp only [Bool.not_eq_true'] at this
    simp [this], .inr h.2⟩
/-- what is kept by steps that only make new blocks -/
theorem J.step {w0 : World} {X : Nat → Prop} {lv : Value} {n : Nat} {G : List (TPlace × List TEnvelope)} {ps : List TPlace} {j : Nat} {a a' : Act} {w w' : World} (h : J w0 X lv n G ps j a w) (hs : a'.tmps.size = 63) (hd : a'.defers = []) (hk : ∀ t, kept t = true → tv a' t = tv a t) (hf : Fr none w w') : J w0 X lv n G ps j a' w' := by
  obtain ⟨es, ck, e1, e2, ⟨vs, e3, e4⟩, e5⟩ := h.ex
  have h5 : tv a' 5 = tv a 5 := hk 5 rfl
  have hg := fr_grown hf
  have hst : Stays w w' (MS X w0.heap.size es (tv a 5)) (MS X w0.heap.size es (tv a 5)) := stays_grown hg (fun b hb => by cases hb) (fun b _ hb => hb)
  refine ⟨hs, hd, (hk 4 rfl).trans h.t4, (hk 11 rfl).trans h.t11, (hk 12 rfl).trans h.t12, (hk 13 rfl).trans h.t13, h.fr.tr ⟨hf.os, hf.tape, hf.output, hf.size, hf.block⟩, Nat.lt_of_lt_of_le h.sN hf.size, es, ck, (hf.block _ h.sN (by simp)).trans e1, ?_, ⟨vs, ?_, ?_⟩, ?_⟩
  · rw [h5]
    exact e2.mono hg hst (fun e _ => by cases e.val.ownBlock <;> simp)
  · rw [h5]
    exact e3.kept hg (by cases (tv a 5).ownBlock <;> simp)
  · rw [h5]
    exact e4.mono hst (Gh.le.refl _)
  · rw [h5]
    exact e5
end fil26
end Go.Proofs.YtaebanabjdmgfaaGreat
