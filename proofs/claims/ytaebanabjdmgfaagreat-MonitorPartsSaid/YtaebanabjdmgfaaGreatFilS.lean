/-
  The monitor's files: the round, the loop, the function.
-/
import Derived.Test.YtaebanabjdmgfaaGreatFilR
set_option linter.unusedVariables false
set_option linter.unusedSimpArgs false
namespace Go.Proofs.YtaebanabjdmgfaaGreat
open Go.RowKit Go.TQ
namespace fil26
theorem place_val {w : World} {M : Nat → Prop} {p : TPlace} {cur : Array Value} (h : RepL w M Gh0 (pv_TPlace p) cur.toList) : (.agg cur : Value) = kv (kf p) ∧ cur.size = 2 := by
  obtain ⟨v1, vs1, e1, r1, h⟩ := RepL.cons_inv (show RepL w M Gh0 [.int .i64 p.node, .int .i64 p.slot] cur.toList from h)
  obtain ⟨v2, vs2, e2, r2, h⟩ := h.cons_inv
  have e3 := h.nil_inv
  subst e3 e2
  have := r1.int_inv; subst this
  have := r2.int_inv; subst this
  have hc : cur = #[.int .i64 p.node, .int .i64 p.slot] := by rw [← Array.toArray_toList (xs := cur), e1]
  rw [hc]
  exact ⟨rfl, rfl⟩
theorem mget_len {G : List (TPlace × List TEnvelope)} {t : TPlace → Bool} : (((mget t G []).length : Nat) : Int) = 0 ↔ (mget t G []).isEmpty = true := by
  cases mget t G [] with
  | nil => simp
  | cons a l => simp; omega
theorem reg9 {K : Act → World → Prop} {a : Act} {w : World} {b9 : Nat} {cur9 : Array Value} {T9 : TypeId} {N0 : Nat} {k : Int × Int} {v : Value} {m : Nat} {ad : Option Addr} {c : Nat} (hsz : a.tmps.size = 63) (h4 : tv a 4 = .map (some N0)) (h9 : tv a 9 = .pointer (some ⟨b9, 0, none⟩)) (hc9 : w.heap[b9]? = some (.cells cur9 T9 (0, 0))) (hs9 : cur9.size = 2)
    (hkv : (.agg cur9 : Value) = kv k) (r1 : (Instr.lookup 68 (.map (some N0)) (kv k) false).run Tryz.prog w = .ok v w) (hv : v = .slice ad m c) (hK : ∀ a' : Act, a'.tmps.size = 63 → a'.defers = a.defers → (∀ t, t < 41 → tv a' t = tv a t) → tv a' 45 = .bool (decide ((m : Int) = 0)) → K a' w) : wpR Tryz.prog K r9 a w := by
  refine ⟨_, _, runs_mv 4, _, _, runs_ld aggK (x := 9) (b := b9) (cur := cur9) (T := T9) ?_ hc9 hs9, _, _, runs_look (mv := .map (some N0)) (kx := kv k) (v := v) ?_ ?_ r1, _, _, runs_len (e := 38) (n := m) (ad := ad) (c := c) types.hs ?_, _, _, runs_eqc (p := m) ?_, hK _ ?_ ?_ ?_ ?_⟩
  · simp (disch := simp [sz_put, hsz]) [tv_put, h9]
  · simp (disch := simp [sz_put, hsz]) [tv_put, h4]
  · simp (disch := simp [sz_put, hsz]) [tv_put, hkv]
  · simp (disch := simp [sz_put, hsz]) [tv_put, hv]
  · simp (disch := simp [sz_put, hsz]) [tv_put]
  · simp [sz_put, hsz]
  · simp [df_put]
  · intro t ht
    have n1 : t ≠ 41 := by omega
    have n2 : t ≠ 42 := by omega
    have n3 : t ≠ 43 := by omega
    have n4 : t ≠ 44 := by omega
    have n5 : t ≠ 45 := by omega
    simp (disch := simp [sz_put, hsz]) [tv_put, n1, n2, n3, n4, n5]
  · simp (disch := simp [sz_put, hsz]) [tv_put]
theorem reg10 {K : Act → World → Prop} {a : Act} {w : World} {b9 : Nat} {cur9 : Array Value} {T9 : TypeId} {B n : Nat} {xs : List Value} (hsz : a.tmps.size = 63) (h9 : tv a 9 = .pointer (some ⟨b9, 0, none⟩)) (hc9 : w.heap[b9]? = some (.cells cur9 T9 (0, 0))) (hs9 : cur9.size = 2)
    (hone : ∀ u ∈ cur9.toList, u.oneCell' = true) (hown : w.ownsRow B 74 2 (tv a 5) n xs) (hB : B ≤ w.heap.size) (h63 : n + 1 ≤ maxLen) (hby : (n + 1) * 16 ≤ 140737488355328)
    (hK : ∀ (a' : Act) (w' : World), a'.tmps.size = 63 → a'.defers = a.defers → (∀ t, t < 41 → t ≠ 5 → tv a' t = tv a t) → w'.ownsRow B 74 2 (tv a' 5) (n + 1) (xs ++ cur9.toList) → w.grownBy w' (tv a 5).ownBlock → ((tv a' 5).ownBlock = (tv a 5).ownBlock ∨ ∃ g, (tv a' 5).ownBlock = some g ∧ w.heap.size ≤ g) → K a' w') : wpR Tryz.prog K r10 a w := by
  obtain ⟨iK, zK, q1, q2, q3, q4, q5⟩ := types.infoK
  have hg0 := World.grownBy_alloc w (.cells cur9 74) none
  have hown1 : (w.alloc (.cells cur9 74)).ownsRow B 74 2 (tv a 5) n xs := hown.alloc _
  have hnew : (w.alloc (.cells cur9 74)).heap[w.heap.size]? = some (.cells cur9 74 (0, 0)) := heap_alloc_new w _
  have hs1 : w.heap.size ≤ (w.alloc (.cells cur9 74)).heap.size := hg0.size
  obtain ⟨v', w', s1, s2, s3, s4⟩ := runs_app (P := Tryz.prog) (w := w.alloc (.cells cur9 74)) (a := ((a.put (some 46) (tv a 5)).put (some 47) (.agg cur9)).put (some 48) (.slice (some ⟨w.heap.size, 0, none⟩) 1 1)) (s := 46) (x := 48) (t := 69) (e := 74) (k := 2) (bytes := 16) (base := B) (n := n) (xs := xs) (news := cur9.toList) (ad := ⟨w.heap.size, 0, none⟩) types.hp q1 q2 q3 q4 q5 (by decide)
    (by simp (disch := simp [sz_put, hsz]) [tv_put]; exact hown1) (by simp (disch := simp [sz_put, hsz]) [tv_put]) (by simpa using hs9) (fun i u hu => by rw [add_mid, Nat.zero_add]; exact cell_block hnew hu) hone h63 hby (Nat.le_trans hB hs1)
  have h46 : tv (((a.put (some 46) (tv a 5)).put (some 47) (.agg cur9)).put (some 48) (.slice (some ⟨w.heap.size, 0, none⟩) 1 1)) 46 = tv a 5 := by simp (disch := simp [sz_put, hsz]) [tv_put]
  rw [h46] at s3 s4
  refine ⟨_, _, runs_mv 5, _, _, runs_ld aggK (x := 9) (b := b9) (cur := cur9) (T := T9) ?_ hc9 hs9, _, _, runs_bsl (cs := cur9) types.hp q1 q2 q4 (by decide) (by decide) ?_ hs9, _, _, s1, _, _, runs_as 49, hK _ _ ?_ ?_ ?_ ?_ ?_ ?_⟩
  · simp (disch := simp [sz_put, hsz]) [tv_put, h9]
  · simp (disch := simp [sz_put, hsz]) [tv_put, Value.cells]
  · simp [sz_put, hsz]
  · simp [df_put]
  · intro t ht ht5
    have n1 : t ≠ 46 := by omega
    have n2 : t ≠ 47 := by omega
    have n3 : t ≠ 48 := by omega
    have n4 : t ≠ 49 := by omega
    simp (disch := simp [sz_put, hsz]) [tv_put, n1, n2, n3, n4, ht5]
  · simp (disch := simp [sz_put, hsz]) [tv_put]
    exact s2
  · exact ⟨s3.os.trans hg0.os, s3.tape.trans hg0.tape, s3.output.trans hg0.output, Nat.le_trans hs1 s3.size, fun k hk hne => (s3.block k (Nat.lt_of_lt_of_le hk hs1) hne).trans (hg0.block k hk (by simp))⟩
  · simp (disch := simp [sz_put, hsz]) [tv_put]
    rcases s4 with h | h
    · exact .inl h
    · exact .inr ⟨_, h, hs1⟩
theorem reg11 {K : Act → World → Prop} {X : Nat → Prop} {N0 : Nat} {a : Act} {w : World} {b8 b9 : Nat} {cur8 cur9 : Array Value} {T8 T9 : TypeId} {e : TEnvelope} {p : TPlace} {es : Array MapEntry} {ck : Nat} {G : List (TPlace × List TEnvelope)} {ps : List TPlace} {vsP : List Value}
    (hsz : a.tmps.size = 63) (h4 : tv a 4 = .map (some N0)) (h8 : tv a 8 = .pointer (some ⟨b8, 0, none⟩)) (h9 : tv a 9 = .pointer (some ⟨b9, 0, none⟩)) (hc8 : w.heap[b8]? = some (.cells cur8 T8 (0, 0))) (hc9 : w.heap[b9]? = some (.cells cur9 T9 (0, 0))) (hs9 : cur9.size = 2) (hkv : (.agg cur9 : Value) = kv (kf p))
    (hre : RepL w (MS X N0 es (tv a 5)) Gh0 (pv_TEnvelope e) cur8.toList) (e1 : w.heap[N0]? = some (.map es ck)) (e2 : GE (MS X N0 es (tv a 5)) N0 38 15 kf pv_TEnvelope w G es ck) (e3 : w.ownsRow (N0 + 1) 74 2 (tv a 5) ps.length vsP) (e4 : RepL w (MS X N0 es (tv a 5)) Gh0 (ps.map pv_TPlace).flatten vsP)
    (e5 : ∀ e ∈ es.toList, ∀ b, e.val.ownBlock = some b → (tv a 5).ownBlock ≠ some b) (hX : ∀ b, X b → b < N0) (hN : N0 < w.heap.size) (hl1 : ((mget (eqp p) G []).length + 1) * 176 ≤ 140737488355328) (hl2 : (mget (eqp p) G []).length + 1 ≤ maxLen)
    (hK : ∀ (a' : Act) (w' : World) (es3 : Array MapEntry) (ck3 : Nat) (vs3 : List Value), a'.tmps.size = 63 → a'.defers = a.defers → (∀ t, t < 41 → tv a' t = tv a t) → w'.heap[N0]? = some (.map es3 ck3) → GE (MS X N0 es3 (tv a 5)) N0 38 15 kf pv_TEnvelope w' (gput (eqp p) p e G) es3 ck3 →
      w'.ownsRow (N0 + 1) 74 2 (tv a 5) ps.length vs3 → RepL w' (MS X N0 es3 (tv a 5)) Gh0 (ps.map pv_TPlace).flatten vs3 → (∀ e ∈ es3.toList, ∀ b, e.val.ownBlock = some b → (tv a 5).ownBlock ≠ some b) → w.grownBy w' none ∨ ((∀ b, b < N0 → w'.heap[b]? = w.heap[b]?) ∧ w'.os = w.os ∧ w'.tape = w.tape ∧ w'.output = w.output ∧ w.heap.size ≤ w'.heap.size) → K a' w') :
    wpR Tryz.prog K r11 a w := by
  obtain ⟨iE, zE, q1, q2, q3, q4, q5⟩ := types.infoE
  have hs8 : cur8.size = 15 := by have := hre.1; simpa [pv_TEnvelope] using this
  -- the element's own block
  obtain ⟨w1, hw1⟩ : ∃ w1, w1 = w.alloc (.cells cur8 38) := ⟨_, rfl⟩
  have hg1 : w.grownBy w1 none := by rw [hw1]; exact World.grownBy_alloc w _ none
  have hnew : w1.heap[w.heap.size]? = some (.cells cur8 38 (0, 0)) := by rw [hw1]; exact heap_alloc_new w _
  have hsz1 : w1.heap.size = w.heap.size + 1 := by rw [hw1]; simp
  have hst1 : Stays w w1 (MS X N0 es (tv a 5)) (MS X N0 es (tv a 5)) := stays_grown hg1 (fun b hb => by cases hb) (fun b _ hb => hb)
  have hn0 : ∀ u : Value, u.ownBlock = none ∨ u.ownBlock ≠ none := fun u => by cases u.ownBlock <;> simp
  have e1' : w1.heap[N0]? = some (.map es ck) := (hg1.block _ hN (by simp)).trans e1
  have e2' := e2.mono hg1 hst1 fun e _ => hn0 e.val
  have e3' := e3.kept hg1 (hn0 _)
  have hre1 := hre.mono hst1 (Gh.le.refl _)
  obtain ⟨v, st, es1, ck1, m1, ⟨vs0, m2, m3⟩, m4, m5⟩ := e2'.entry types e1' (eqp_kf p) p rfl e
  obtain ⟨w2, hw2⟩ : ∃ w2, w2 = World.atMap w1 N0 es1 ck1 := ⟨_, rfl⟩
  rw [← hw2] at m1 m5
  have hg2 : w1.grownBy w2 (some N0) := by rw [hw2]; exact atMap_grown w1 N0 es1 ck1
  have hsz2 : w2.heap.size = w1.heap.size := by rw [hw2]; simp [World.atMap]
  have hmap2 : w2.heap[N0]? = some (.map es1 ck1) := by rw [hw2]; exact atMap_same e1' es1 ck1
  have vblk : ∀ b, v.ownBlock = some b → N0 + 1 ≤ b ∧ b < w1.heap.size := fun b hb => m2.lt b hb
  have hnN : ∀ (u : Value) (b0 : Nat) (n0 : Nat) (ts : TypeId) (kk : Nat) (us : List Value), w1.ownsRow (N0 + 1) ts kk u n0 us → (u.ownBlock = none ∨ u.ownBlock ≠ some N0) := fun u b0 n0 ts kk us h => by
    cases hu : u.ownBlock with
    | none => exact .inl rfl
    | some b =>
      refine .inr fun e => ?_
      injection e with e
      have := (h.lt b hu).1
      omega
  have m2' : w2.ownsRow (N0 + 1) 38 15 v (mget (eqp p) G []).length vs0 := m2.kept hg2 (hnN v 0 _ _ _ _ m2)
  have hone8 : ∀ u ∈ cur8.toList, u.oneCell' = true := one_cells hre1 fun y hy => good_one (Go.TQ.K.good (Ty.st .Envelope) e y hy)
  obtain ⟨a5, ha5⟩ : ∃ a5 : Act, a5 = (((((a.put (some 50) (tv a 4)).put (some 51) (.agg cur9)).put (some 53) (.agg cur8)).put (some 54) (.slice (some ⟨w.heap.size, 0, none⟩) 1 1)).put (some 55) (.tuple #[v, goInt st])).put (some 52) v := ⟨_, rfl⟩
  have h52 : tv a5 52 = v := by rw [ha5]; simp (disch := simp [sz_put, hsz]) [tv_put]
  have h54 : tv a5 54 = .slice (some ⟨w.heap.size, 0, none⟩) 1 1 := by rw [ha5]; simp (disch := simp [sz_put, hsz]) [tv_put]
  have hcell : ∀ i u, cur8.toList[i]? = some u → w2.cell? ((⟨w.heap.size, 0, none⟩ : Addr).add i) = some u := fun i u hu => by
    rw [add_mid, Nat.zero_add]
    have hh : w2.heap[w.heap.size]? = some (.cells cur8 38 (0, 0)) := (hg2.block _ (by omega) (fun e => by injection e with e; omega)).trans hnew
    exact cell_block hh hu
  obtain ⟨v', w3, s1, s2, s3, s4⟩ := runs_app (P := Tryz.prog) (w := w2) (a := a5) (s := 52) (x := 54) (t := 42) (e := 38) (k := 15) (bytes := 176) (base := N0 + 1) (n := (mget (eqp p) G []).length) (xs := vs0) (news := cur8.toList) (ad := ⟨w.heap.size, 0, none⟩) types.hs q1 q2 q3 q4 q5 (by decide)
    (by rw [h52]; exact m2') h54 (by simpa using hs8) hcell hone8 hl2 hl1 (by omega)
  rw [h52] at s3 s4
  -- what may change afterwards
  have hstep : ∀ (es3 : Array MapEntry), (∀ e ∈ es3.toList, e.val = v' ∨ e ∈ es.toList) → Stays w1 w3 (MS X N0 es (tv a 5)) (MS X N0 es3 (tv a 5)) := fun es3 h3 => by
    have key : ∀ b, b < w1.heap.size → ¬ MS X N0 es (tv a 5) b → w3.heap[b]? = w1.heap[b]? ∧ ¬ MS X N0 es3 (tv a 5) b := fun b hb hm => by
      have nb : some b ≠ v.ownBlock := fun e => by
        rcases m4 with h | ⟨e0, he0, hv0⟩
        · rw [h] at e; cases e
        · exact hm (.inr (.inr (.inl ⟨e0, he0, by rw [hv0]; exact e.symm⟩)))
      refine ⟨(s3.block b (by rw [hsz2]; exact hb) nb).trans (hg2.block b hb (fun e => by injection e with e; exact hm (.inr (.inl e)))), ?_⟩
      rintro (h | h | ⟨e0, he0, h⟩ | h)
      · exact hm (.inl h)
      · exact hm (.inr (.inl h))
      · rcases h3 e0 he0 with h5 | h5
        · rw [h5] at h
          rcases s4 with h6 | h6
          · rw [h6] at h
            exact nb h.symm
          · rw [h6] at h
            injection h with h
            omega
        · exact hm (.inr (.inr (.inl ⟨e0, h5, h⟩)))
      · exact hm (.inr (.inr (.inr h)))
    exact ⟨fun a v hc hm => by
      obtain ⟨h1, h2⟩ := key _ (cell_lt hc) hm
      exact ⟨(World.cell?_of_block h1).trans hc, h2⟩, fun b _ _ hb hm => by
      obtain ⟨h1, h2⟩ := key b (Array.getElem?_eq_some_iff.1 hb).1 hm
      exact ⟨h1.trans hb, h2⟩⟩
  -- for the store, only what was mutable and the new row is of interest
  have hmap3 : w3.heap[N0]? = some (.map es1 ck1) := (s3.block N0 (by omega) (fun e => by have := vblk N0 e.symm; omega)).trans hmap2
  have hat : v'.ownBlock = v.ownBlock ∨ v'.ownBlock = some w1.heap.size := by rw [← hsz2]; exact s4
  have pblk : ∀ b, (tv a 5).ownBlock = some b → N0 + 1 ≤ b ∧ b < w.heap.size := fun b hb => e3.lt b hb
  have hdis : ∀ b, v'.ownBlock = some b → (tv a 5).ownBlock ≠ some b := fun b hb hb' => by
    rcases hat with h | h
    · rcases m4 with h7 | ⟨e0, he0, hv0⟩
      · rw [h, h7] at hb; cases hb
      · exact e5 e0 he0 b (by rw [hv0, ← h]; exact hb) hb'
    · rw [h] at hb
      injection hb with hb
      have := (pblk b hb').2
      omega
  -- the mutable places behind the store: by the entries that the law hands over
  obtain ⟨M', hM'⟩ : ∃ M' : Nat → Prop, M' = fun b => MS X N0 es (tv a 5) b ∨ v'.ownBlock = some b := ⟨_, rfl⟩
  have hst3 : Stays w1 w3 (MS X N0 es (tv a 5)) M' := by
    have key : ∀ b, b < w1.heap.size → ¬ MS X N0 es (tv a 5) b → w3.heap[b]? = w1.heap[b]? ∧ ¬ M' b := fun b hb hm => by
      have nb : some b ≠ v.ownBlock := fun e => by
        rcases m4 with h | ⟨e0, he0, hv0⟩
        · rw [h] at e; cases e
        · exact hm (.inr (.inr (.inl ⟨e0, he0, by rw [hv0]; exact e.symm⟩)))
      refine ⟨(s3.block b (by rw [hsz2]; exact hb) nb).trans (hg2.block b hb (fun e => by injection e with e; exact hm (.inr (.inl e)))), ?_⟩
      rw [hM']
      rintro (h | h)
      · exact hm h
      · rcases hat with h6 | h6
        · rw [h6] at h; exact nb h.symm
        · rw [h6] at h; injection h with h; omega
    exact ⟨fun a v hc hm => by
      obtain ⟨h1, h2⟩ := key _ (cell_lt hc) hm
      exact ⟨(World.cell?_of_block h1).trans hc, h2⟩, fun b _ _ hb hm => by
      obtain ⟨h1, h2⟩ := key b (Array.getElem?_eq_some_iff.1 hb).1 hm
      exact ⟨h1.trans hb, h2⟩⟩
  have hrow' : RepL w3 M' Gh0 ((mget (eqp p) G [] ++ [e]).map pv_TEnvelope).flatten (vs0 ++ cur8.toList) := by
    rw [List.map_append, List.flatten_append]
    refine (m3.mono hst3 (Gh.le.refl _)).append ?_
    simpa using hre1.mono hst3 (Gh.le.refl _)
  obtain ⟨es3, t1, t2, t3⟩ := m5 w3 M' v' (vs0 ++ cur8.toList) hst3 (by rw [hM']; exact .inl (.inr (.inl rfl))) hmap3 s3 hat s2 hrow'
  obtain ⟨w4, hw4⟩ : ∃ w4, w4 = World.atMap w3 N0 es3 ck1 := ⟨_, rfl⟩
  rw [← hw4] at t1 t2
  have hg4 : w3.grownBy w4 (some N0) := by rw [hw4]; exact atMap_grown w3 N0 es3 ck1
  have hmap4 : w4.heap[N0]? = some (.map es3 ck1) := by rw [hw4]; exact atMap_same hmap3 es3 ck1
  have hMs : ∀ b, ¬ M' b → ¬ MS X N0 es3 (tv a 5) b := fun b hb h => by
    apply hb
    rw [hM']
    rcases h with h | h | ⟨e0, he0, h⟩ | h
    · exact .inl (.inl h)
    · exact .inl (.inr (.inl h))
    · rcases t3 e0 he0 with h5 | h5
      · rw [h5] at h; exact .inr h
      · exact .inl (.inr (.inr (.inl ⟨e0, h5, h⟩)))
    · exact .inl (.inr (.inr (.inr h)))
  have t2' : GE (MS X N0 es3 (tv a 5)) N0 38 15 kf pv_TEnvelope w4 (gput (eqp p) p e G) es3 ck1 :=
    t2.mono (row := none) ⟨rfl, rfl, rfl, Nat.le_refl _, fun _ _ _ => rfl⟩ (Stays.of hMs) fun e _ => hn0 e.val
  have pN : (tv a 5).ownBlock = none ∨ (tv a 5).ownBlock ≠ some N0 := hnN _ 0 _ _ _ _ e3'
  have pV : (tv a 5).ownBlock = none ∨ (tv a 5).ownBlock ≠ v.ownBlock := by
    cases hu : (tv a 5).ownBlock with
    | none => exact .inl rfl
    | some b =>
      refine .inr fun e => ?_
      rcases m4 with h7 | ⟨e0, he0, hv0⟩
      · rw [h7] at e; cases e
      · exact e5 e0 he0 b (by rw [hv0]; exact e.symm) hu
  have prow : w4.ownsRow (N0 + 1) 74 2 (tv a 5) ps.length vsP := ((e3'.kept hg2 pN).kept s3 pV).kept hg4 pN
  have prep : RepL w4 (MS X N0 es3 (tv a 5)) Gh0 (ps.map pv_TPlace).flatten vsP := by
    have h1 := ((e4.mono hst1 (Gh.le.refl _)).mono hst3 (Gh.le.refl _))
    have h2 : RepL w4 M' Gh0 (ps.map pv_TPlace).flatten vsP := by
      rw [hw4]
      exact h1.mono (atMap_stays (by rw [hM']; exact .inl (.inr (.inl rfl)))) (Gh.le.refl _)
    exact h2.mono (Stays.of hMs) (Gh.le.refl _)
  have hold : ∀ b, b < N0 → w4.heap[b]? = w.heap[b]? := fun b hb => by
    rw [hg4.block b (by have := s3.size; omega) (fun e => by injection e with e; omega), s3.block b (by omega) (fun e => by have := vblk b e.symm; omega), hg2.block b (by omega) (fun e => by injection e with e; omega), hg1.block b (by omega) (by simp)]
  refine ⟨_, _, runs_mv 4, ?_⟩
  refine ⟨_, _, runs_ld aggK (x := 9) (b := b9) (cur := cur9) (T := T9) (by simp (disch := simp [sz_put, hsz]) [tv_put, h9]) hc9 hs9, ?_⟩
  refine ⟨_, _, runs_ld aggE (x := 8) (b := b8) (cur := cur8) (T := T8) (by simp (disch := simp [sz_put, hsz]) [tv_put, h8]) hc8 hs8, ?_⟩
  refine ⟨_, _, runs_bsl (cs := cur8) types.hs q1 q2 q4 (by decide) (by decide) (by simp (disch := simp [sz_put, hsz]) [tv_put, Value.cells]) hs8, ?_⟩
  refine ⟨_, _, runs_me (mv := .map (some N0)) (kx := kv (kf p)) (by simp (disch := simp [sz_put, hsz]) [tv_put, h4]) (by simp (disch := simp [sz_put, hsz]) [tv_put, hkv]) (by rw [← hw1]; exact m1), ?_⟩
  refine ⟨_, _, runs_ex (vs := #[v, goInt st]) (v := v) (by simp (disch := simp [sz_put, hsz]) [tv_put]) rfl, ?_⟩
  refine ⟨v', w3, by rw [ha5] at s1; exact s1, ?_⟩
  refine ⟨_, _, runs_ex (vs := #[v, goInt st]) (v := goInt st) (by simp (disch := simp [sz_put, hsz]) [tv_put]) rfl, ?_⟩
  refine ⟨_, _, runs_es (mv := .map (some N0)) (sv := goInt st) (xv := v') (by simp (disch := simp [sz_put, hsz]) [tv_put, h4]) (by simp (disch := simp [sz_put, hsz]) [tv_put]) (by simp (disch := simp [sz_put, hsz]) [tv_put]) t1, ?_⟩
  refine hK _ w4 es3 ck1 vsP ?_ ?_ ?_ hmap4 t2' prow prep ?_ (.inr ⟨hold, ?_, ?_, ?_, ?_⟩)
  · simp [sz_put, hsz]
  · simp [df_put]
  · intro t ht
    have n1 : t ≠ 50 := by omega
    have n2 : t ≠ 51 := by omega
    have n3 : t ≠ 53 := by omega
    have n4 : t ≠ 54 := by omega
    have n5 : t ≠ 55 := by omega
    have n6 : t ≠ 52 := by omega
    have n7 : t ≠ 56 := by omega
    have n8 : t ≠ 57 := by omega
    simp (disch := simp [sz_put, hsz]) [put_none, tv_put, n1, n2, n3, n4, n5, n6, n7, n8]
  · intro e0 he0 b hb
    rcases t3 e0 he0 with h5 | h5
    · rw [h5] at hb; exact hdis b hb
    · exact e5 e0 h5 b hb
  · exact hg4.os.trans (s3.os.trans (hg2.os.trans hg1.os))
  · exact hg4.tape.trans (s3.tape.trans (hg2.tape.trans hg1.tape))
  · exact hg4.output.trans (s3.output.trans (hg2.output.trans hg1.output))
  · have := hg4.size; have := s3.size; omega
end fil26
end Go.Proofs.YtaebanabjdmgfaaGreat
