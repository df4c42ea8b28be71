/-
  The monitor's files: the round, the loop, the function against a plain one. Conditions: none.
-/
import Derived.Test.YtaebanabjdmgfaaGreatFilS
set_option linter.unusedVariables false
set_option linter.unusedSimpArgs false
namespace Go.Proofs.YtaebanabjdmgfaaGreat
open Go.RowKit Go.TQ
namespace fil26
/-- a sighting that counts -/
theorem tail {w0 : World} {X : Nat → Prop} (hX : ∀ b, X b → b < w0.heap.size) {lv : Value} {n : Nat} {G : List (TPlace × List TEnvelope)} {ps : List TPlace} {j : Nat} {a : Act} {w : World} (hJ : J w0 X lv n G ps j a w) {wb : Nat} {e : TEnvelope} {p : TPlace} {b8 b9 : Nat} {cur8 cur9 : Array Value} {T8 T9 : TypeId}
    (h8 : tv a 8 = .pointer (some ⟨b8, 0, none⟩)) (h9 : tv a 9 = .pointer (some ⟨b9, 0, none⟩)) (hb8 : wb ≤ b8) (hb9 : wb ≤ b9) (hc8 : w.heap[b8]? = some (.cells cur8 T8 (0, 0))) (hc9 : w.heap[b9]? = some (.cells cur9 T9 (0, 0)))
    (hpl : ∀ b, (tv a 5).ownBlock = some b → b < wb) (hrep : ∀ es ck, w.heap[w0.heap.size]? = some (.map es ck) → RepL w (MS X w0.heap.size es (tv a 5)) Gh0 (pv_TEnvelope e) cur8.toList ∧ RepL w (MS X w0.heap.size es (tv a 5)) Gh0 (pv_TPlace p) cur9.toList)
    {q : List (TPlace × List TEnvelope) × List TPlace} (hq : filPut 176 16 G ps (some (e, p)) = some q) {Q : Exit → Act → World → Prop} (hQ : ∀ a' w', J w0 X lv n q.1 q.2 j a' w' → Q .normal a' w') :
    (Code.seq (.seq R9 (.cond (.tmp 45) R10 .skip)) R11).wpIn (WF none) 0 Tryz.prog Q a w := by
  obtain ⟨es, ck, e1, e2, ⟨vs, e3, e4⟩, e5⟩ := hJ.ex
  obtain ⟨hre, hrp⟩ := hrep es ck e1
  obtain ⟨hkv, hs9⟩ := place_val hrp
  have hsz := hJ.sz
  simp only [filPut] at hq
  cases hlen : (lenOk 176 ((mget (eqp p) G []).length + 1) && lenOk 16 (ps.length + 1)) with
  | false => rw [hlen] at hq; cases hq
  | true =>
  rw [hlen] at hq
  simp only [cond_true, Option.some.injEq] at hq
  rw [Bool.and_eq_true] at hlen
  obtain ⟨hl1, hl2⟩ := lenOk_true hlen.1
  obtain ⟨hl3, hl4⟩ := lenOk_true hlen.2
  obtain ⟨v, vs0, r1, r2⟩ := e2.look types e1 (eqp_kf p) p e
  have hv : ∃ ad c, v = .slice ad (mget (eqp p) G []).length c := by
    rcases r2.2 with ⟨h, h0⟩ | ⟨g, cap, cur, h, _⟩
    · exact ⟨none, 0, by rw [h, h0]⟩
    · exact ⟨_, _, h⟩
  obtain ⟨ad, c, hv⟩ := hv
  have hone9 : ∀ u ∈ cur9.toList, u.oneCell' = true := one_cells hrp fun y hy => good_one (K.good (Ty.st .Place) p y hy)
  refine wpIn_seq (wpIn_seq ?_)
  rw [hR9]
  refine wpIn_region_list (wpR_sound _ r9 _ _ i9 (reg9 hsz hJ.t4 h9 hc9 hs9 hkv r1 hv ?_))
  intro a1 hsz1 hdf1 hk1 h45
  show (Code.cond (.tmp 45) R10 .skip).wpIn (WF none) 0 Tryz.prog _ a1 w
  -- region 11, from any state that is as J says
  have rest : ∀ (a2 : Act) (w2 : World) (ps2 : List TPlace), J w0 X lv n G ps2 j a2 w2 → (gput (eqp p) p e G, ps2) = q → tv a2 8 = .pointer (some ⟨b8, 0, none⟩) → tv a2 9 = .pointer (some ⟨b9, 0, none⟩) → w2.heap[b8]? = some (.cells cur8 T8 (0, 0)) → w2.heap[b9]? = some (.cells cur9 T9 (0, 0)) →
      (∀ es2 ck2, w2.heap[w0.heap.size]? = some (.map es2 ck2) → RepL w2 (MS X w0.heap.size es2 (tv a2 5)) Gh0 (pv_TEnvelope e) cur8.toList) → R11.wpIn (WF none) 0 Tryz.prog Q a2 w2 := by
    intro a2 w2 ps2 hJ2 hq2 g8 g9 gc8 gc9 grep
    obtain ⟨es2, ck2, f1, f2, ⟨vs2, f3, f4⟩, f5⟩ := hJ2.ex
    rw [hR11]
    refine wpIn_region_list (wpR_sound _ r11 _ _ i11 (reg11 (p := p) hJ2.sz hJ2.t4 g8 g9 gc8 gc9 hs9 hkv (grep es2 ck2 f1) f1 f2 f3 f4 f5 hX hJ2.sN hl1 hl2 ?_))
    intro a3 w3 es3 ck3 vs3 k1 k2 k3 k4 k5 k6 k7 k8 k9
    have h5 : tv a3 5 = tv a2 5 := k3 5 (by decide)
    have k9' : (∀ b, b < w0.heap.size → w3.heap[b]? = w2.heap[b]?) ∧ w3.os = w2.os ∧ w3.tape = w2.tape ∧ w3.output = w2.output ∧ w2.heap.size ≤ w3.heap.size := by
      rcases k9 with h | h
      · exact ⟨fun b hb => h.block b (Nat.lt_trans hb hJ2.sN) (by simp), h.os, h.tape, h.output, h.size⟩
      · exact h
    obtain ⟨k9a, k9b, k9c, k9d, k9e⟩ := k9'
    refine hQ a3 w3 ?_
    rw [← hq2]
    refine ⟨k1, k2.trans hJ2.df, (k3 4 (by decide)).trans hJ2.t4, (k3 11 (by decide)).trans hJ2.t11, (k3 12 (by decide)).trans hJ2.t12, (k3 13 (by decide)).trans hJ2.t13, ⟨k9b.trans hJ2.fr.os, k9c.trans hJ2.fr.tape, k9d.trans hJ2.fr.output, Nat.le_trans hJ2.fr.size k9e, fun b hb _ => (k9a b hb).trans (hJ2.fr.block b hb (by simp))⟩, Nat.lt_of_lt_of_le hJ2.sN k9e, es3, ck3, k4, ?_, ⟨vs3, ?_, ?_⟩, ?_⟩
    · rw [h5]; exact k5
    · rw [h5]; exact k6
    · rw [h5]; exact k7
    · rw [h5]; exact k8
  have hJ1 : J w0 X lv n G ps j a1 w := hJ.step hsz1 (hdf1.trans hJ.df) (fun t ht => hk1 t (by
    simp only [kept, Bool.or_eq_true, beq_iff_eq] at ht
    omega)) (Fr.refl _ _)
  have h51 : tv a1 5 = tv a 5 := hk1 5 (by decide)
  refine wpIn_cond h45 ?_
  by_cases hz : (((mget (eqp p) G []).length : Nat) : Int) = 0
  · rw [decide_eq_true hz, if_pos rfl, hR10]
    have hze := mget_len.1 hz
    rw [hze, cond_true] at hq
    refine wpIn_region_list (wpR_sound _ r10 _ _ i10 (reg10 (B := w0.heap.size + 1) (n := ps.length) (xs := vs) hsz1 ((hk1 9 (by decide)).trans h9) hc9 hs9 hone9 (by rw [h51]; exact e3) hJ.sN hl4 hl3 ?_))
    intro a2 w2 k1 k2 k3 k4 k5 k6
    rw [h51] at k5 k6
    have plt : ∀ b, (tv a 5).ownBlock = some b → w0.heap.size + 1 ≤ b ∧ b < w.heap.size := fun b hb => e3.lt b hb
    have hne : ∀ b, wb ≤ b → some b ≠ (tv a 5).ownBlock := fun b hb e => by have := hpl b e.symm; omega
    have hmap2 : w2.heap[w0.heap.size]? = some (.map es ck) := (k5.block _ hJ.sN (fun e => by have := (plt _ e.symm).1; omega)).trans e1
    have hst : Stays w w2 (MS X w0.heap.size es (tv a 5)) (MS X w0.heap.size es (tv a2 5)) := stays_grown k5 (fun b hb => .inr (.inr (.inr hb))) (fun b hlt hb h => hb (by
      rcases h with h | h | h | h
      · exact .inl h
      · exact .inr (.inl h)
      · exact .inr (.inr (.inl h))
      · rcases k6 with h6 | ⟨g, h6, h7⟩
        · exact .inr (.inr (.inr (by rw [← h6]; exact h)))
        · rw [h6] at h; injection h with h; omega))
    have eap : ∀ e ∈ es.toList, e.val.ownBlock = none ∨ e.val.ownBlock ≠ (tv a 5).ownBlock := fun e he => by
      cases hu : e.val.ownBlock with
      | none => exact .inl rfl
      | some b => exact .inr fun h => e5 e he b hu h.symm
    have hJ2 : J w0 X lv n G (ps ++ [p]) j a2 w2 := by
      have kk : ∀ t, t < 41 → t ≠ 5 → tv a2 t = tv a t := fun t h1 h2 => (k3 t h1 h2).trans (hk1 t h1)
      refine ⟨k1, (k2.trans hdf1).trans hJ.df, (kk 4 (by decide) (by decide)).trans hJ.t4, (kk 11 (by decide) (by decide)).trans hJ.t11, (kk 12 (by decide) (by decide)).trans hJ.t12, (kk 13 (by decide) (by decide)).trans hJ.t13,
        ⟨k5.os.trans hJ.fr.os, k5.tape.trans hJ.fr.tape, k5.output.trans hJ.fr.output, Nat.le_trans hJ.fr.size k5.size, fun b hb _ => (k5.block b (Nat.lt_trans hb hJ.sN) (fun e => by have := (plt _ e.symm).1; omega)).trans (hJ.fr.block b hb (by simp))⟩, Nat.lt_of_lt_of_le hJ.sN k5.size, es, ck, hmap2, e2.mono k5 hst eap, ⟨vs ++ cur9.toList, ?_, ?_⟩, ?_⟩
      · simpa using k4
      · rw [List.map_append, List.flatten_append]
        refine (e4.mono hst (Gh.le.refl _)).append ?_
        simpa using hrp.mono hst (Gh.le.refl _)
      · intro e0 he0 b hb hb'
        rcases k6 with h6 | ⟨g, h6, h7⟩
        · exact e5 e0 he0 b hb (by rw [← h6]; exact hb')
        · rw [h6] at hb'
          injection hb' with hb'
          have := (e2.blocks e0 he0 b hb).2
          omega
    refine rest a2 w2 (ps ++ [p]) hJ2 hq ((k3 8 (by decide) (by decide)).trans ((hk1 8 (by decide)).trans h8)) ((k3 9 (by decide) (by decide)).trans ((hk1 9 (by decide)).trans h9)) ?_ ?_ ?_
    · exact (k5.block _ (Array.getElem?_eq_some_iff.1 hc8).1 (hne _ hb8)).trans hc8
    · exact (k5.block _ (Array.getElem?_eq_some_iff.1 hc9).1 (hne _ hb9)).trans hc9
    · intro es2 ck2 hm2
      rw [hmap2] at hm2
      injection hm2 with hm2
      injection hm2 with hm3 hm4
      subst hm3
      exact hre.mono hst (Gh.le.refl _)
  · rw [decide_eq_false hz, if_neg (by simp)]
    have hze : (mget (eqp p) G []).isEmpty = false := by
      cases h : (mget (eqp p) G []).isEmpty with
      | false => rfl
      | true => exact absurd (mget_len.2 h) hz
    rw [hze, cond_false] at hq
    refine wpIn_skip ?_
    refine rest a1 w ps hJ1 hq ((hk1 8 (by decide)).trans h8) ((hk1 9 (by decide)).trans h9) hc8 hc9 ?_
    intro es2 ck2 hm2
    rw [h51]
    exact (hrep es2 ck2 hm2).1
/-- a round's body -/
theorem round {V : (TEnvelope × Unit) → Option Bool} (hV : KFun.Sound Tryz.prog (U := U) (.fn 60 [.ty (Ty.st .Envelope)] (.one Ty.bool) V)) {w0 : World} {X : Nat → Prop} (hX : ∀ b, X b → b < w0.heap.size) {lv : Value} {l : List TSighting} {n : Nat} (hlv : Rep w0 X Gh0 (.sl (l.map pv_TSighting)) lv)
    {G : List (TPlace × List TEnvelope)} {ps : List TPlace} {j : Nat} {a : Act} {w : World} (hJ : J w0 X lv n G ps j a w) {x : TSighting} (hx : l[j]? = some x) {o : Option (TEnvelope × TPlace)} (ho : filStep (fun e => V (e, ())) x = some o)
    {q : List (TPlace × List TEnvelope) × List TPlace} (hq : filPut 176 16 G ps o = some q) {Q : Exit → Act → World → Prop} (hQ : ∀ a' w', J w0 X lv n q.1 q.2 j a' w' → Q .normal a' w' ∧ Q (.exit 1) a' w') : cB.wpIn (WF none) 0 Tryz.prog Q a w := by
  rw [hB]
  obtain ⟨es, ck, e1, e2, ⟨vs, e3, e4⟩, e5⟩ := hJ.ex
  refine part hV hX hlv hJ hx ho (fun hn a' w' h => ?_) (fun e p hs a' w' b8 b9 cur8 cur9 T8 T9 hJ' hf h5 h8 h9 hb8 hb9 hc8 hc9 hrep => ?_)
  · subst hn
    simp only [filPut, Option.some.injEq] at hq
    subst hq
    exact (hQ a' w' h).2
  · subst hs
    refine tail hX hJ' h8 h9 hb8 hb9 hc8 hc9 (fun b hb => ?_) (fun es ck hm => ?_) hq (fun a' w' h => (hQ a' w' h).1)
    · rw [h5] at hb; exact (e3.lt b hb).2
    · rw [h5]; exact hrep es ck hm
end fil26
end Go.Proofs.YtaebanabjdmgfaaGreat
