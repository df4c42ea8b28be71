/-
  The operations that build, cut and make memory. Conditions: none (generic in the program).
-/
import Derived.Test.YtnhgcpiljggmmaaGreatDoorSoundB
import Derived.Laws.Tables
import Derived.Laws.MakeOwn
namespace Go.TQ
open Go.RowKit
section
variable {P : Program} {E : En} {S : St} {a : Act} {w : World} {L : Nat → Value} {o : Oper} {x : PV} {wr : Option (Nat × AObj)} {Γ : Tab} {nid : Nat}

/-! ### literals -/
theorem fold_cells (off : Nat) : ∀ (vs : List Value) (s : Nat) (cells : Array Value), off + s + vs.length ≤ cells.size →
    ((vs.zipIdx s).foldl (fun cs (p : Value × Nat) => cs.setIfInBounds (off + p.2) p.1) cells).toList = cells.toList.take (off + s) ++ vs ++ cells.toList.drop (off + s + vs.length)
  | [], s, cells, _ => by simp
  | v :: vs, s, cells, h => by
    simp only [List.zipIdx_cons, List.foldl_cons]
    rw [fold_cells off vs (s + 1) _ (by simp at h ⊢; omega)]
    have := list_seg_step cells.toList (off + s) v vs (by simp at h ⊢; omega)
    simpa [Array.toList_setIfInBounds, Nat.add_assoc] using this
theorem fill_cells (off : Nat) (vs cells : Array Value) (h : off + vs.size ≤ cells.size) :
    (vs.zipIdx.foldl (fun cs (p : Value × Nat) => cs.setIfInBounds (off + p.2) p.1) cells).toList = cells.toList.take off ++ vs.toList ++ cells.toList.drop (off + vs.size) := by
  have := fold_cells off vs.toList 0 cells (by simpa using h)
  simp only [Nat.add_zero, Array.length_toList] at this
  rw [← this, ← Array.foldl_toList]
  simp

theorem RepL.splice {M : Nat → Prop} {G : Gh} {cs xs : List PV} {vs us : List Value} (h : RepL w M G cs vs) (k : RepL w M G xs us) (off : Nat) :
    RepL w M G (splice cs off xs) (vs.take off ++ us ++ vs.drop (off + us.length)) := by
  unfold TQ.splice
  rw [k.1]
  exact ((h.take off).append k).append (h.drop _)

theorem fill_ok (h : Rel E S a w L) (place : Nat → Option (Nat × Nat)) : ∀ (parts : List (Nat × Operand)) (ps : List (Nat × Nat × Opd)) (cells : Array Value) (cs cs' : List PV), cparts place parts = some ps →
    RepL w (mutb E S L) (S.gh L) cs cells.toList → fillPV S cs ps = some cs' → ∃ cells', Instr.fill place cells (parts.map fun p => (p.1, a.eval p.2)) = some cells' ∧ RepL w (mutb E S L) (S.gh L) cs' cells'.toList
  | [], ps, cells, cs, cs', hp, hr, hf => by
    simp [cparts] at hp
    subst hp
    simp only [fillPV, Option.some.injEq] at hf
    subst hf
    exact ⟨cells, rfl, hr⟩
  | (i, y) :: rest, ps, cells, cs, cs', hp, hr, hf => by
    simp only [cparts, List.mapM_cons, Option.bind_eq_bind, Option.bind_eq_some_iff, Option.pure_def, Option.some.injEq] at hp
    obtain ⟨_, ⟨⟨off, n⟩, hq, y', hy, rfl⟩, qs, hqs, rfl⟩ := hp
    simp only [fillPV] at hf
    split at hf
    · rename_i hb
      obtain ⟨h1, h2, h3⟩ := hb
      have r := (h.opd hy).cells (fun z hz => List.all_eq_true.1 h3 z hz)
      have hn : (a.eval y).cells.size = n := by have := r.1.1; simp at this; omega
      have hlen : cells.size = cs.length := by have := hr.1; simpa using this
      have hfc := fill_cells off (a.eval y).cells cells (by omega)
      have hr2 : RepL w (mutb E S L) (S.gh L) (TQ.splice cs off (y'.val S).cells) ((a.eval y).cells.zipIdx.foldl (fun cs (p : Value × Nat) => cs.setIfInBounds (off + p.2) p.1) cells).toList := by
        rw [hfc]
        have := hr.splice r.1 off
        simpa using this
      obtain ⟨cells', hfl, hr'⟩ := fill_ok h place rest qs _ _ cs' hqs hr2 hf
      refine ⟨cells', ?_, hr'⟩
      simp only [List.map_cons, Instr.fill, hq]
      rw [if_neg (by simp [hn]; omega)]
      exact hfl
    · cases hf

theorem mapM_const {M : Nat → Prop} {G : Gh} : ∀ {vs : List Value} {cs : List PV}, vs.mapM constPV = some cs → RepL w M G cs vs
  | [], cs, h => by simp at h; subst h; exact .nil
  | v :: vs, cs, h => by
    simp only [List.mapM_cons, Option.bind_eq_bind, Option.bind_eq_some_iff, Option.pure_def, Option.some.injEq] at h
    obtain ⟨x, hx, xs, hxs, rfl⟩ := h
    exact .cons (constPV_rep hx) (mapM_const hxs)

theorem zeroC_at {M : Nat → Prop} {G : Gh} {t : TypeId} {z : List PV} (h : zeroC P t = some z) : ∃ i v, P.info? t = some i ∧ i.zero = some v ∧ v.cells.size = i.size ∧ RepL w M G z v.cells.toList := by
  unfold zeroC at h
  split at h
  · rename_i i hi
    split at h
    · rename_i v hv
      split at h
      · rename_i hs
        exact ⟨i, v, hi, hv, hs, mapM_const h⟩
      · cases h
    · cases h
  · cases h

theorem g_build (h : Rel E S a w L) {t : TypeId} {parts : Array (Nat × Operand)} {z : List PV} {ps : List (Nat × Nat × Opd)} (ho : o.op = .build t parts) (hz : zeroC P t = some z)
    (hp : (∃ fields places, P.underlying t = some (.struct fields) ∧ fields.toList.mapM (fun f => (P.info? f.type).map fun i => (f.offset, i.size)) = some places ∧ cparts (fun i => places[i]?) parts.toList = some ps) ∨
      (∃ n e i, P.underlying t = some (.array n e) ∧ P.info? e = some i ∧ cparts (fun j => some (j * i.size, i.size)) parts.toList = some ps))
    (he : exec Γ nid S (.build z ps) = some (x, wr)) : Good P E S a w o x wr := by
  simp only [exec, Option.map_eq_some_iff] at he
  obtain ⟨cs, hf, he⟩ := he
  injection he with h1 h2
  subst h1 h2
  obtain ⟨i, v, hi, hv, hs, hr⟩ := zeroC_at (P := P) (w := w) (M := mutb E S L) (G := S.gh L) hz
  rcases hp with ⟨fields, places, hu, hpl, hc⟩ | ⟨n, e, ie, hu, hie, hc⟩
  · obtain ⟨cells, hfl, hr'⟩ := fill_ok h _ _ _ _ _ _ hc hr hf
    refine Good.pure (v := .agg cells) h ?_ (by have := hr'; exact (show (cells : Array Value) = cells.toList.toArray by simp) ▸ .agg cs cells.toList this.1 this.2)
    have hb : P.built t (parts.map fun (i, x) => (i, a.eval x)).toList = some cells := by
      simp only [Program.built, hi, hu, hv, hpl]
      simpa using hfl
    simp only [execOp, ho, Sem.run_bind, run_build w t _ cells hb, Result.andThen_ok, Sem.run_pure]
  · obtain ⟨cells, hfl, hr'⟩ := fill_ok h _ _ _ _ _ _ hc hr hf
    refine Good.pure (v := .agg cells) h ?_ (by have := hr'; exact (show (cells : Array Value) = cells.toList.toArray by simp) ▸ .agg cs cells.toList this.1 this.2)
    have hb : P.built t (parts.map fun (i, x) => (i, a.eval x)).toList = some cells := by
      simp only [Program.built, hi, hu, hv, hie]
      simpa using hfl
    simp only [execOp, ho, Sem.run_bind, run_build w t _ cells hb, Result.andThen_ok, Sem.run_pure]
end
end Go.TQ
