/-
  The monitor's files: one round of the walk.
-/
import Derived.Test.YtaebanabjdmgfaaGreatFilW
set_option linter.unusedVariables false
set_option linter.unusedSimpArgs false
namespace Go.Proofs.YtaebanabjdmgfaaGreat
open Go.RowKit Go.TQ
namespace fil26
theorem S4_rel {lv : Value} {l : List TSighting} {E : En} {a : Act} {w : World} {L : Nat → Value} {j : Int} (hlv : Rep w E.X Gh0 (.sl (l.map pv_TSighting)) lv) (h11 : tv a 11 = lv) (h13 : tv a 13 = .int .i64 j)
    (hm : Marks E a w) (hsz : a.tmps.size = E.nt ∧ ∀ t v, E.kt t = some v → a.tmps.getD t undef = v) (hf : FrE E w) (hr : E.hasR = false) : Rel E (S4 l j).st a w L := by
  refine ⟨hm, hsz, fun t => ?_, fun id hid => absurd hid (Nat.not_lt_zero _), fun i k b hi => absurd hi (Nat.not_lt_zero _), fun id _ => rfl, hf, fun h => by rw [hr] at h; cases h⟩
  show Rep w _ _ (updK (updK (fun _ => KV.any) 11 (.sl (Ty.st .Sighting) l)) 13 (.int .i64 j) t : KV U).pv _
  rw [updK_upd, updK_upd]
  unfold upd
  split
  · rename_i e
    subst e
    rw [show a.tmps.getD 13 undef = _ from h13]
    exact .int _ _
  · split
    · rename_i e
      subst e
      rw [show a.tmps.getD 11 undef = _ from h11]
      refine hlv.mono (Stays.of fun b hb h' => hb ?_) (Gh0.le _)
      rcases h' with ⟨id, hid, _⟩ | h'
      · exact absurd hid (Nat.not_lt_zero _)
      · exact h'
    · exact .any _
theorem idx_at {α : Type} {l : List α} {j : Nat} {x : α} (h : l[j]? = some x) : idx l (j : Int) = some x := by
  unfold idx
  simp [h]
/-- what the first part of a round leaves -/
theorem part {V : (TEnvelope × Unit) → Option Bool} (hV : KFun.Sound Tryz.prog (U := U) (.fn 60 [.ty (Ty.st .Envelope)] (.one Ty.bool) V)) {w0 : World} {X : Nat → Prop} (hX : ∀ b, X b → b < w0.heap.size) {lv : Value} {l : List TSighting} {n : Nat} (hlv : Rep w0 X Gh0 (.sl (l.map pv_TSighting)) lv)
    {G : List (TPlace × List TEnvelope)} {ps : List TPlace} {j : Nat} {a : Act} {w : World} (hJ : J w0 X lv n G ps j a w) {x : TSighting} (hx : l[j]? = some x) {o : Option (TEnvelope × TPlace)} (ho : filStep (fun e => V (e, ())) x = some o) {c : Code} {Q : Exit → Act → World → Prop}
    (hnone : o = none → ∀ a' w', J w0 X lv n G ps j a' w' → Q (.exit 1) a' w')
    (hsome : ∀ e p, o = some (e, p) → ∀ (a' : Act) (w' : World) (b8 b9 : Nat) (cur8 cur9 : Array Value) (T8 T9 : TypeId), J w0 X lv n G ps j a' w' → Fr none w w' → tv a' 5 = tv a 5 → tv a' 8 = .pointer (some ⟨b8, 0, none⟩) → tv a' 9 = .pointer (some ⟨b9, 0, none⟩) → w.heap.size ≤ b8 → w.heap.size ≤ b9 →
      w'.heap[b8]? = some (.cells cur8 T8 (0, 0)) → w'.heap[b9]? = some (.cells cur9 T9 (0, 0)) → (∀ es ck, w'.heap[w0.heap.size]? = some (.map es ck) → RepL w' (MS X w0.heap.size es (tv a 5)) Gh0 (pv_TEnvelope e) cur8.toList ∧ RepL w' (MS X w0.heap.size es (tv a 5)) Gh0 (pv_TPlace p) cur9.toList) → c.wpIn (WF none) 0 Tryz.prog Q a' w') :
    (Code.seq R5 (.seq R6 (.seq (.seq R7 (.cond (.tmp 35) (.exit 1) .skip)) (.seq R8 c)))).wpIn (WF none) 0 Tryz.prog Q a w := by
  obtain ⟨es, ck, e1, e2, ⟨vs, e3, e4⟩, e5⟩ := hJ.ex
  have hMlt : ∀ b, MS X w0.heap.size es (tv a 5) b → b < w.heap.size := by
    rintro b (h | h | ⟨e, he, h⟩ | h)
    · exact Nat.lt_trans (hX b h) hJ.sN
    · rw [h]; exact hJ.sN
    · exact (e2.blocks e he b h).2
    · exact (e3.lt b h).2
  let E : En := { w0 := w, rb := none, nt := 63, X := MS X w0.heap.size es (tv a 5), hX := hMlt, hasR := false, rv := undef, rk := false, hrb := fun b hb => (by cases hb), hxr := fun h => (by cases h), rd := none, nd := true, kt := fun t => if kept t = true then some (tv a t) else none, wk := { w with heap := #[] } }
  have hst0 : Stays w0 w X E.X := ⟨fun p v hp hm => by
    have hlt := cell_lt hp
    refine ⟨(World.cell?_of_block (hJ.fr.block _ hlt (by simp))).trans hp, ?_⟩
    rintro (h | h | ⟨e, he, h⟩ | h)
    · exact hm h
    · omega
    · have := (e2.blocks e he _ h).1; omega
    · have := (e3.lt _ h).1; omega, fun b es' ck' hb hm => by
    have hlt := (Array.getElem?_eq_some_iff.1 hb).1
    refine ⟨(hJ.fr.block _ hlt (by simp)).trans hb, ?_⟩
    rintro (h | h | ⟨e, he, h⟩ | h)
    · exact hm h
    · omega
    · have := (e2.blocks e he _ h).1; omega
    · have := (e3.lt _ h).1; omega⟩
  have hrel : Rel E (S4 l j).st a w (fun _ => undef) := S4_rel (hlv.mono hst0 (Gh.le.refl _)) hJ.t11 hJ.t13 (Marks.nil hJ.df) ⟨hJ.sz, fun t v ht => by
    show tv a t = v
    simp only [E] at ht
    split at ht
    · injection ht
    · cases ht⟩ ⟨Fr.refl _ _, oth_nil rfl⟩ rfl
  -- what any later state keeps
  have keep : ∀ {S : KSt U} {a' : Act} {w' : World} {L' : Nat → Value}, Rel E S.st a' w' L' → a'.tmps.size = 63 ∧ a'.defers = [] ∧ (∀ t, kept t = true → tv a' t = tv a t) ∧ Fr none w w' := fun h =>
    ⟨h.size.1, h.defers.none rfl, fun t ht => h.size.2 t (tv a t) (by simp only [E]; rw [if_pos ht]), h.fr.toFr⟩
  have out : ∀ {S : KSt U} {a' : Act} {w' : World} {L' : Nat → Value} (e : Exit), Rel E S.st a' w' L' → e ≠ .normal → kF e S = some o → Q e a' w' := by
    intro S a' w' L' e h hne hk
    cases e with
    | normal => exact absurd rfl hne
    | exit i =>
      by_cases hi : i = 1
      · subst hi
        have : (some none : Option (Option (TEnvelope × TPlace))) = some o := hk
        injection this with this
        obtain ⟨k1, k2, k3, k4⟩ := keep h
        exact hnone this.symm a' w' (hJ.step k1 k2 k3 k4)
      · exfalso
        unfold kF at hk
        split at hk
        · rename_i h1; injection h1 with h1; exact hi h1
        · rename_i h1; cases h1
        · cases hk
    | goto i => exact absurd hk (by simp [kF])
    | ret => exact absurd hk (by simp [kF])
    | panic i => exact absurd hk (by simp [kF])
    | outgrown => exact absurd hk (by simp [kF])
  have hΓ : AllK Tryz.prog [KFun.fn (U := U) 60 [.ty (Ty.st .Envelope)] (.one Ty.bool) V] := ⟨hV, trivial⟩
  have hev := congrFun (congrFun (congrFun evF V) l) (j : Int)
  have hev2 : evK K [.fn 60 [.ty (Ty.st .Envelope)] (.one Ty.bool) V] saB [] (some (0, [])) kF (S4 l j) = some o := by
    refine hev.trans ?_
    show Option.bind (idx l (j : Int)) (fun x => filStep (fun e => V (e, ())) x) = some o
    rw [idx_at hx, Option.bind_some, ho]
  have hkt : E.kt = fun t => if kept t = true then some (tv a t) else none := rfl
  rw [saB, evK] at hev2
  refine seqV (nt := 63) (K := K) (E := E) (sx := sa R5) hΓ c5 o5 hev2 rfl (cok hkt k5) hrel ?_
  intro e S' a1 w1 L1 r1 h1
  cases e with
  | normal =>
    have h2 : evK K [.fn 60 [.ty (Ty.st .Envelope)] (.one Ty.bool) V] (.seq (sa R6) (.seq saX (sa R8))) [] (some (0, [])) kF S' = some o := h1
    rw [evK] at h2
    refine seqV (nt := 63) (K := K) (E := E) (sx := sa R6) hΓ c6 o6 h2 rfl (cok hkt k6) r1 ?_
    intro e S' a1 w1 L1 r1 h1
    cases e with
    | normal =>
      have h2 : evK K [.fn 60 [.ty (Ty.st .Envelope)] (.one Ty.bool) V] (.seq saX (sa R8)) [] (some (0, [])) kF S' = some o := h1
      rw [evK] at h2
      refine seqV (nt := 63) (K := K) (E := E) (sx := saX) hΓ c7 o7 h2 rfl (cok hkt k7) r1 ?_
      intro e S' a1 w1 L1 r1 h1
      cases e with
      | normal =>
        have h2 : evK K [.fn 60 [.ty (Ty.st .Envelope)] (.one Ty.bool) V] (sa R8) [] (some (0, [])) kF S' = some o := h1
        refine seqV (nt := 63) (K := K) (E := E) (sx := sa R8) hΓ c8 o8 h2 rfl (cok hkt k8) r1 ?_
        intro e S8 a8 w8 L8 r8 h8
        cases e with
        | normal =>
          show c.wpIn (WF none) 0 Tryz.prog Q a8 w8
          unfold kF at h8
          simp only at h8
          split at h8
          · rename_i i8 v8 i9 v9 he8 he9
            split at h8
            · rename_i cs8 cs9 hb8 hb9
              split at h8
              · rename_i e p hd8 hd9
                injection h8 with h8
                obtain ⟨k1, k2, k3, k4⟩ := keep r8
                have hmap : w8.heap[w0.heap.size]? = some (.map es ck) := (k4.block _ hJ.sN (by simp)).trans e1
                obtain ⟨b8, cur8, T8, q1, q2, q3, q4⟩ := box_out (K := K) (T := Ty.st .Envelope) (d := e) r8 he8 hb8 hd8 (M := MS X w0.heap.size es (tv a 5)) (fun b hb => hb)
                obtain ⟨b9, cur9, T9, s1, s2, s3, s4⟩ := box_out (K := K) (T := Ty.st .Place) (d := p) r8 he9 hb9 hd9 (M := MS X w0.heap.size es (tv a 5)) (fun b hb => hb)
                refine hsome e p h8.symm a8 w8 b8 b9 cur8 cur9 T8 T9 (hJ.step k1 k2 k3 k4) k4 (k3 5 rfl) q1 s1 ?_ ?_ q2 s2 ?_
                · rcases q4 with h | h
                  · cases h
                  · exact h
                · rcases s4 with h | h
                  · cases h
                  · exact h
                · intro es' ck' hm'
                  rw [hmap] at hm'
                  injection hm' with hm'
                  injection hm' with hm1 hm2
                  subst hm1
                  exact ⟨q3, s3⟩
              · cases h8
            · cases h8
          · cases h8
        | exit i => exact out _ r8 (by intro h; cases h) h8
        | goto i => exact out _ r8 (by intro h; cases h) h8
        | ret => exact out _ r8 (by intro h; cases h) h8
        | panic i => exact out _ r8 (by intro h; cases h) h8
        | outgrown => exact out _ r8 (by intro h; cases h) h8
      | exit i => exact out _ r1 (by intro h; cases h) h1
      | goto i => exact out _ r1 (by intro h; cases h) h1
      | ret => exact out _ r1 (by intro h; cases h) h1
      | panic i => exact out _ r1 (by intro h; cases h) h1
      | outgrown => exact out _ r1 (by intro h; cases h) h1
    | exit i => exact out _ r1 (by intro h; cases h) h1
    | goto i => exact out _ r1 (by intro h; cases h) h1
    | ret => exact out _ r1 (by intro h; cases h) h1
    | panic i => exact out _ r1 (by intro h; cases h) h1
    | outgrown => exact out _ r1 (by intro h; cases h) h1
  | exit i => exact out _ r1 (by intro h; cases h) h1
  | goto i => exact out _ r1 (by intro h; cases h) h1
  | ret => exact out _ r1 (by intro h; cases h) h1
  | panic i => exact out _ r1 (by intro h; cases h) h1
  | outgrown => exact out _ r1 (by intro h; cases h) h1
end fil26
end Go.Proofs.YtaebanabjdmgfaaGreat
