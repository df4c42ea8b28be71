/-
  New objects, stores, cuts. Conditions: none (generic in the program).
-/
import Derived.Test.YtnhgcpiljggmmaaGreatDoorSoundC
namespace Go.TQ
open Go.RowKit
section
variable {P : Program} {E : En} {S : St} {a : Act} {w : World} {L : Nat → Value} {o : Oper} {x : PV} {wr : Option (Nat × AObj)} {Γ : Tab} {nid : Nat}

/-- a new block, laid as a variable -/
theorem Rel.newBox (h : Rel E S a w L) (hn : nid < S.N) {cs : List PV} {cur : Array Value} (T : TypeId) (hr : RepL w (mutb E S L) (S.gh L) cs cur.toList) :
    ∃ L', Rel E (S.appH (some (nid, ⟨(S.H nid).ver + 1, .box cs⟩))) a (w.alloc (.cells cur T)) L' ∧
      Rep (w.alloc (.cells cur T)) (mutb E (S.appH (some (nid, ⟨(S.H nid).ver + 1, .box cs⟩))) L') ((S.appH (some (nid, ⟨(S.H nid).ver + 1, .box cs⟩))).gh L') (.ptr nid ((S.H nid).ver + 1) 0) (.pointer (some ⟨w.heap.size, 0, none⟩)) := by
  obtain ⟨h1, hs, hg⟩ := h.turn (w' := w.alloc (.cells cur T)) hn ⟨(S.H nid).ver + 1, .box cs⟩ (.pointer (some ⟨w.heap.size, 0, none⟩)) (.inr (Nat.lt_succ_self _)) rfl rfl rfl (by simp)
    (fun b hb _ => Below.heap_alloc _ _ _ hb) (fun b _ hb => .inr (by simp only [blk, Option.some.injEq] at hb; omega))
    (fun hs hg => ⟨w.heap.size, cur, T, rfl, heap_alloc_new w _, .inr h.fr.size, hr.mono hs hg⟩)
  refine ⟨_, h1, ?_⟩
  refine .ptr _ _ _ _ hn ?_ (fun _ => ?_)
  · simp [St.gh, St.appH, upd_same]
  · simp [St.gh, St.appH, upd_same, blk]

/-- a new block, laid as a row -/
theorem Rel.newRow (h : Rel E S a w L) (hn : nid < S.N) {e k : Nat} {es : List (List PV)} {cur : Array Value} (hk : ∀ u ∈ es, u.length = k) (hm : es.length ≤ maxLen) (hr : RepL w (mutb E S L) (S.gh L) es.flatten cur.toList) :
    ∃ L', Rel E (S.appH (some (nid, ⟨(S.H nid).ver + 1, .row e k es⟩))) a (w.alloc (.cells cur e)) L' ∧
      Rep (w.alloc (.cells cur e)) (mutb E (S.appH (some (nid, ⟨(S.H nid).ver + 1, .row e k es⟩))) L') ((S.appH (some (nid, ⟨(S.H nid).ver + 1, .row e k es⟩))).gh L') (.own nid ((S.H nid).ver + 1)) (.slice (some ⟨w.heap.size, 0, none⟩) es.length es.length) := by
  have hl : cur.toList.length = es.length * k := by rw [hr.1, flatten_len es k hk]
  obtain ⟨h1, hs, hg⟩ := h.turn (w' := w.alloc (.cells cur e)) hn ⟨(S.H nid).ver + 1, .row e k es⟩ (.slice (some ⟨w.heap.size, 0, none⟩) es.length es.length) (.inr (Nat.lt_succ_self _)) rfl rfl rfl (by simp)
    (fun b hb _ => Below.heap_alloc _ _ _ hb) (fun b _ hb => .inr (by simp only [blk, Option.some.injEq] at hb; omega))
    (fun hs hg => ⟨cur.toList, ⟨hl, .inr ⟨w.heap.size, es.length, cur, rfl, Nat.le_trans (rowBase_le E _) h.fr.size, heap_alloc_new w _, Nat.le_refl _, hm, by simpa using hl, by rw [← hl]; exact List.take_length⟩⟩, hk, hr.mono hs hg⟩)
  refine ⟨_, h1, ?_⟩
  refine .own _ _ _ _ _ hn ?_ (fun _ => ?_)
  · simp [St.gh, St.appH, upd_same]
  · simp [St.gh, St.appH, upd_same]

theorem run_newRow (e : TypeId) (cells : Array Value) : (newRow e cells).run P w = .ok ⟨w.heap.size, 0, none⟩ (w.alloc (.cells cells e)) := rfl
theorem run_newVar (e : TypeId) (v : Value) : (newVar e v).run P w = .ok ⟨w.heap.size, 0, none⟩ (w.alloc (.cells v.cells e)) := rfl

theorem g_box (h : Rel E S a w L) (hn : nid < S.N) {t : TypeId} {y : Operand} {y' : Opd} (ho : o.op = .box t y) (hy : copd y = some y') (he : exec Γ nid S (.box y') = some (x, wr)) : Good P E S a w o x wr := by
  simp only [exec] at he
  split at he
  · rename_i h1
    obtain ⟨rfl, rfl⟩ := some_inv he
    have r := ((h.opd hy).cells (fun z hz => List.all_eq_true.1 h1 z hz)).1
    obtain ⟨L', h2, h3⟩ := h.newBox hn t r
    exact ⟨_, _, L', _, by simp [execOp, ho, Instr.box, run_newVar], .inl rfl, h3, h2⟩
  · cases he

theorem g_alloc (h : Rel E S a w L) (hn : nid < S.N) {t : TypeId} {z : List PV} (ho : o.op = .alloc t) (hz : zeroC P t = some z) (he : exec Γ nid S (.alloc z) = some (x, wr)) : Good P E S a w o x wr := by
  simp only [exec] at he
  obtain ⟨rfl, rfl⟩ := some_inv he
  obtain ⟨i, v, hi, hv, hs, hr⟩ := zeroC_at (P := P) (w := w) (M := mutb E S L) (G := S.gh L) hz
  obtain ⟨L', h2, h3⟩ := h.newBox hn t hr
  exact ⟨_, _, L', _, by simp [execOp, ho, Instr.alloc, zeroValue, typeInfo, hi, hv, run_newVar], .inl rfl, h3, h2⟩

theorem made_list (z : Array Value) (hz : 0 < z.size) (n : Nat) : ((Array.range (n * z.size)).map (z[· % z.size]!)).toList = (List.replicate n z.toList).flatten := by
  apply List.ext_getElem?
  intro i
  have hfl : (List.replicate n z.toList).flatten.length = n * z.size := by rw [flatten_len _ z.size (fun u hu => by rw [(List.mem_replicate.1 hu).2]; simp)]; simp
  by_cases hi : i < n * z.size
  · have hq : i / z.size < n := by rw [Nat.div_lt_iff_lt_mul hz]; exact hi
    have hr : i % z.size < z.size := Nat.mod_lt _ hz
    have := flatten_at (List.replicate n z.toList) z.size (i / z.size) z.toList (fun u hu => by rw [(List.mem_replicate.1 hu).2]; simp) (by rw [List.getElem?_replicate, if_pos hq]) (i % z.size) hr
    have e : i / z.size * z.size + i % z.size = i := by rw [Nat.mul_comm]; exact Nat.div_add_mod i z.size
    rw [e] at this
    rw [this]
    simp [hi, hr]
  · rw [List.getElem?_eq_none (by simp; omega), List.getElem?_eq_none (by omega)]

theorem flatten_set {α : Type} : ∀ (es : List (List α)) (k i : Nat) (xs : List α), (∀ u ∈ es, u.length = k) → xs.length = k → i < es.length → (es.set i xs).flatten = es.flatten.take (i * k) ++ xs ++ es.flatten.drop (i * k + xs.length)
  | [], _, _, _, _, _, h => by simp at h
  | e :: es, k, i, xs, hk, hx, hi => by
    have he : e.length = k := hk e (by simp)
    cases i with
    | zero =>
      simp only [List.set_cons_zero, List.flatten_cons, Nat.zero_mul, List.take_zero, List.nil_append, Nat.zero_add]
      rw [hx, ← he, List.drop_left]
    | succ i =>
      have := flatten_set es k i xs (fun u hu => hk u (by simp [hu])) hx (by simpa using hi)
      simp only [List.set_cons_succ, List.flatten_cons, this]
      have e1 : (i + 1) * k = e.length + i * k := by rw [Nat.add_mul, he]; omega
      rw [e1, List.take_append, List.take_of_length_le (show e.length ≤ e.length + i * k by omega), Nat.add_sub_cancel_left, Nat.add_assoc, List.drop_append,
        List.drop_eq_nil_of_le (show e.length ≤ e.length + (i * k + xs.length) by omega), Nat.add_sub_cancel_left]
      simp

theorem fillEs_ok (k : Nat) : ∀ (ps : List (Nat × Opd)) (es es' : List (List PV)), (∀ u ∈ es, u.length = k) → fillEs S k es ps = some es' →
    fillPV S es.flatten (ps.map fun p => (p.1 * k, k, p.2)) = some es'.flatten ∧ (∀ u ∈ es', u.length = k) ∧ es'.length = es.length
  | [], es, es', hk, hf => by simp only [fillEs, Option.some.injEq] at hf; subst hf; exact ⟨rfl, hk, rfl⟩
  | (i, y) :: ps, es, es', hk, hf => by
    simp only [fillEs] at hf
    split at hf
    · rename_i hb
      obtain ⟨h1, h2, h3⟩ := hb
      have hk' : ∀ u ∈ es.set i (y.val S).cells, u.length = k := by
        intro u hu
        rcases List.mem_or_eq_of_mem_set hu with hu | hu
        · exact hk u hu
        · rw [hu, h1]
      obtain ⟨h4, h5, h6⟩ := fillEs_ok k ps _ _ hk' hf
      refine ⟨?_, h5, by simpa using h6⟩
      have hle : i * k + k ≤ es.flatten.length := by
        rw [flatten_len es k hk]
        have := Nat.mul_le_mul_right k (show i + 1 ≤ es.length by omega)
        rw [Nat.add_mul] at this
        omega
      simp only [List.map_cons, fillPV]
      rw [if_pos ⟨h1, hle, h3⟩]
      rw [flatten_set es k i _ hk h1 h2] at h4
      exact h4
    · cases hf

theorem cparts_of {k : Nat} : ∀ {parts : List (Nat × Operand)} {ps : List (Nat × Opd)}, (parts.mapM fun p => (copd p.2).map fun y => (p.1, y)) = some ps → cparts (fun j => some (j * k, k)) parts = some (ps.map fun p => (p.1 * k, k, p.2))
  | [], ps, h => by simp at h; subst h; simp [cparts]
  | p :: parts, ps, h => by
    simp only [List.mapM_cons, Option.bind_eq_bind, Option.bind_eq_some_iff, Option.pure_def, Option.some.injEq, Option.map_eq_some_iff] at h
    obtain ⟨q, ⟨y, hy, rfl⟩, qs, hqs, rfl⟩ := h
    have ih := cparts_of (k := k) hqs
    unfold cparts at ih ⊢
    simp only [List.mapM_cons, ih]
    simp [hy]

theorem replicate_rep {M : Nat → Prop} {G : Gh} {z : List PV} {vs : List Value} (h : RepL w M G z vs) : ∀ n, RepL w M G (List.replicate n z).flatten (List.replicate n vs).flatten
  | 0 => by simpa using RepL.nil
  | n + 1 => by simp only [List.replicate_succ, List.flatten_cons]; exact h.append (replicate_rep h n)

theorem Rep.closed' {M : Nat → Prop} {G G' : Gh} {y : PV} {v : Value} (h : Rep w M G y v) (hc : y.closed = true) : Rep w M G' y v := by
  cases h with
  | any => simp [PV.closed] at hc
  | undef => simp [PV.closed] at hc
  | int => exact .int _ _
  | bool => exact .bool _
  | ubool => first | exact .ubool _ | simp [PV.closed] at hc
  | str => exact .str _
  | nilp => exact .nilp
  | nils => exact .nils
  | clo f cs vs hl h =>
    cases cs with
    | nil => exact .clo f [] vs hl (fun i x v hx _ => by simp at hx)
    | cons => simp [PV.closed] at hc
  | bnd => simp [PV.closed] at hc
  | agg => simp [PV.closed] at hc
  | tup => simp [PV.closed] at hc
  | ptr => simp [PV.closed] at hc
  | ref cs ad vs hl hcell h => exact .ref cs ad vs hl hcell h
  | sl es ad c k vs hk hl hcell h hn hm => exact .sl es ad c k vs hk hl hcell h hn hm
  | slnil => exact .slnil
  | own => simp [PV.closed] at hc
  | eptr => simp [PV.closed] at hc
  | view => simp [PV.closed] at hc
  | nilt => exact .nilt
  | nilf T v => exact .nilf T v
  | ifc T x v hp h => exact .ifc T x v hp (h.plain hp)
  | mapv ks us b es ck hb hMb hk hv h1 h2 => exact .mapv ks us b es ck hb hMb hk hv h1 h2

theorem g_boxr (h : Rel E S a w L) {t : TypeId} {y : Operand} {y' : Opd} (ho : o.op = .box t y) (hy : copd y = some y') (he : exec Γ nid S (.boxr y') = some (x, wr)) : Good P E S a w o x wr := by
  simp only [exec] at he
  split at he
  · rename_i h1
    rw [Bool.and_eq_true] at h1
    obtain ⟨rfl, rfl⟩ := some_inv he
    have r := ((h.opd hy).cells (fun z hz => List.all_eq_true.1 h1.1 z hz)).1
    obtain ⟨h2, hs1⟩ := h.grow (w' := w.alloc (.cells (a.eval y).cells t)) rfl rfl rfl (by simp) (fun b hb => Below.heap_alloc _ _ _ hb)
    refine ⟨.value (.pointer (some ⟨w.heap.size, 0, none⟩)), _, L, _, by simp [execOp, ho, Instr.box, run_newVar], .inl rfl, ?_, h2⟩
    have r2 : RepL (w.alloc (.cells (a.eval y).cells t)) (mutb E S L) Gh0 (y'.val S).cells (a.eval y).cells.toList :=
      ⟨r.1, fun i0 z v0 hz hv0 => ((r.2 i0 z v0 hz hv0).mono hs1 (Gh.le.refl _)).closed' (List.all_eq_true.1 h1.2 z (List.mem_of_getElem? hz))⟩
    refine .ref _ _ (a.eval y).cells.toList r2.1 (fun q u hu => ⟨?_, fun hm => ?_⟩) r2.2
    · rw [add_mid]
      exact cell_block (heap_alloc_new w _) (by simpa using hu)
    · rcases hm with ⟨id, hid, hl, hb⟩ | hm
      · have := ((h.obj id hid).blk_ok hl hb).1
        exact absurd this (Nat.lt_irrefl _)
      · have h8 := E.hX.lt _ hm
        have h9 := h.fr.size
        simp only at h8
        omega
  · cases he
theorem Rep.nz {M : Nat → Prop} {G : Gh} {y : PV} {v : Value} (h : Rep w M G y v) : Rep w M G (nz y) v := by
  cases h with
  | nils => exact .slnil
  | any => exact .any _
  | undef => exact .undef
  | int => exact .int _ _
  | bool => exact .bool _
  | ubool => exact .ubool _
  | str => exact .str _
  | nilp => exact .nilp
  | clo f cs vs hl h => exact .clo f cs vs hl h
  | bnd f cs vs hl h => exact .bnd f cs vs hl h
  | agg cs vs hl h => exact .agg cs vs hl h
  | tup cs vs hl h => exact .tup cs vs hl h
  | ptr _ _ _ _ h1 h2 h3 => exact .ptr _ _ _ _ h1 h2 h3
  | ref cs ad vs hl hc h => exact .ref cs ad vs hl hc h
  | sl es ad c k vs hk hl hc h hn hm => exact .sl es ad c k vs hk hl hc h hn hm
  | slnil => exact .slnil
  | own _ _ _ _ _ h1 h2 h3 => exact .own _ _ _ _ _ h1 h2 h3
  | eptr _ _ _ _ _ _ h1 h2 h3 => exact .eptr _ _ _ _ _ _ h1 h2 h3
  | view _ _ _ _ _ _ _ h1 h2 h3 => exact .view _ _ _ _ _ _ _ h1 h2 h3
  | nilt => exact .nilt
  | nilf T v => exact .nilf T v
  | ifc T x v hp h => exact .ifc T x v hp (h.plain hp)
  | mapv ks us b es ck hb hMb hk hv h1 h2 => exact .mapv ks us b es ck hb hMb hk hv h1 h2
theorem RepL.nz {M : Nat → Prop} {G : Gh} {cs : List PV} {vs : List Value} (h : RepL w M G cs vs) : RepL w M G (cs.map Go.TQ.nz) vs :=
  ⟨by simp [h.1], fun i x v hx hv => by
    rw [List.getElem?_map, Option.map_eq_some_iff] at hx
    obtain ⟨y, hy, rfl⟩ := hx
    exact (h.2 i y v hy hv).nz⟩
theorem nzz_flatten (es : List (List PV)) : (nzz es).flatten = es.flatten.map nz := by
  simp [nzz, List.map_flatten]
theorem nzz_length (es : List (List PV)) : (nzz es).length = es.length := by simp [nzz]
theorem nzz_len {es : List (List PV)} {k : Nat} (h : ∀ u ∈ es, u.length = k) : ∀ u ∈ nzz es, u.length = k := by
  intro u hu
  simp only [nzz, List.mem_map] at hu
  obtain ⟨e, he, rfl⟩ := hu
  simpa using h e he
theorem nz_closed {y : PV} (h : y.closed = true) : (nz y).closed = true := by
  cases y <;> simp_all [nz, PV.closed]

theorem g_bsl (h : Rel E S a w L) (hn : nid < S.N) {t e : TypeId} {len : Nat} {parts : Array (Nat × Operand)} {i : TypeInfo} {z : List PV} {ps : List (Nat × Opd)} {mb : Bool} (ho : o.op = .buildSlice t len parts) (ht : P.underlying t = some (.slice e))
    (hi : P.info? e = some i) (hz : zeroC P e = some z) (hps : (parts.toList.mapM fun p => (copd p.2).map fun y => (p.1, y)) = some ps) (hsm : len * i.size ≤ 16777216) (h0 : 0 < i.size) (hlen : len ≤ maxLen)
    (he : exec Γ nid S (.bsl mb e i.size (List.replicate len z) ps) = some (x, wr)) : Good P E S a w o x wr := by
  simp only [exec] at he
  split at he
  case h_2 => cases he
  rename_i es hf
  obtain ⟨i', v, hi', hv, hs, hr⟩ := zeroC_at (P := P) (w := w) (M := mutb E S L) (G := S.gh L) hz
  rw [hi] at hi'
  injection hi' with hi'
  subst hi'
  have hzl : z.length = i.size := by have := hr.1; simp at this; omega
  obtain ⟨h3, h4, h5⟩ := fillEs_ok i.size ps _ _ (fun u hu => by rw [(List.mem_replicate.1 hu).2, hzl]) hf
  have hr0 : RepL w (mutb E S L) (S.gh L) (List.replicate len z).flatten ((Array.range (len * i.size)).map (v.cells[· % v.cells.size]!)).toList := by
    rw [← hs, made_list v.cells (by omega)]
    exact replicate_rep hr len
  obtain ⟨cells, hfl, hr'⟩ := fill_ok h _ _ _ _ _ _ (cparts_of hps) hr0 h3
  have hle : (nzz es).length = len := by rw [nzz_length, h5]; simp
  replace h4 := nzz_len h4
  replace hr' := hr'.nz
  rw [← nzz_flatten] at hr'
  have hrun : (execOp a.eval o).run P w = .ok (.value (.slice (some ⟨w.heap.size, 0, none⟩) len len)) (w.alloc (.cells cells e)) := by
    have hfl' : Instr.fill (fun j => some (j * i.size, i.size)) ((Array.range (len * i.size)).map (v.cells[· % v.cells.size]!)) (parts.map fun p => (p.1, a.eval p.2)).toList = some cells := by simpa using hfl
    by_cases hl0 : len * i.size = 0
    · simp [execOp, ho, Instr.buildSlice, run_underlying ht, sizeOf, typeInfo, hi, hl0] at hfl' ⊢
      have hle0 : len = 0 := by rcases Nat.mul_eq_zero.1 hl0 with h | h <;> omega
      subst hle0
      have hnil : ∀ f : Nat → Value, Array.map f (Array.range 0) = #[] := fun f => by simp
      rw [hnil] at hfl' ⊢
      rw [show Instr.fill (fun i_1 => some (i_1 * i.size, i.size)) #[] (List.map (fun x => (x.fst, a.eval x.snd)) parts.toList) = some cells from hfl']
      simp [run_newRow]
    · simp [execOp, ho, Instr.buildSlice, run_underlying ht, sizeOf, typeInfo, zeroValue, hi, hv, hl0, Nat.not_lt.2 hsm] at hfl' ⊢
      rw [show Instr.fill (fun i_1 => some (i_1 * i.size, i.size)) (Array.map (fun x => v.cells[x % v.cells.size]!) (Array.range (len * i.size))) (List.map (fun x => (x.fst, a.eval x.snd)) parts.toList) = some cells from hfl']
      simp [run_newRow]
  split at he
  · rename_i hcl
    obtain ⟨rfl, rfl⟩ := some_inv he
    obtain ⟨h1, hs1⟩ := h.grow (w' := w.alloc (.cells cells e)) rfl rfl rfl (by simp) (fun b hb => Below.heap_alloc _ _ _ hb)
    refine ⟨_, _, L, _, hrun, .inl rfl, ?_, h1⟩
    have hall : ∀ y ∈ (nzz es).flatten, y.closed = true := fun y hy => by
      rw [nzz_flatten] at hy
      obtain ⟨y0, hy0, rfl⟩ := List.mem_map.1 hy
      obtain ⟨u, hu, hyu⟩ := List.mem_flatten.1 hy0
      exact nz_closed (List.all_eq_true.1 (List.all_eq_true.1 hcl.2 u hu) y0 hyu)
    have hr2 : RepL (w.alloc (.cells cells e)) (mutb E S L) Gh0 (nzz es).flatten cells.toList :=
      ⟨hr'.1, fun i0 y v0 hy hv0 => ((hr'.2 i0 y v0 hy hv0).mono hs1 (Gh.le.refl _)).closed' (hall y (List.mem_of_getElem? hy))⟩
    rw [← hle]
    refine .sl (nzz es) _ _ i.size cells.toList h4 hr2.1 (fun q u hu => ⟨?_, fun hm => ?_⟩) hr2.2 (Nat.le_refl _) (by omega)
    · rw [add_mid]
      exact cell_block (heap_alloc_new w _) (by simpa using hu)
    · rcases hm with ⟨id, hid, hl, hb⟩ | hm
      · have := ((h.obj id hid).blk_ok hl hb).1
        exact absurd this (Nat.lt_irrefl _)
      · have h8 := E.hX.lt _ hm
        have h9 := h.fr.size
        simp only at h8
        omega
  · obtain ⟨rfl, rfl⟩ := some_inv he
    obtain ⟨L', h6, h7⟩ := h.newRow (e := e) hn h4 (by omega) hr'
    rw [hle] at h7
    exact ⟨_, _, L', _, hrun, .inl rfl, h7, h6⟩

theorem g_mks (h : Rel E S a w L) (hn : nid < S.N) {t e : TypeId} {y z : Operand} {y' z' : Opd} {i : TypeInfo} {zc : List PV} (ho : o.op = .makeSlice t y z) (ht : P.underlying t = some (.slice e)) (hi : P.info? e = some i) (h0 : 0 < i.size) (hz : zeroC P e = some zc)
    (hy : copd y = some y') (hz' : copd z = some z') (he : exec Γ nid S (.mks e i.size i.bytes zc y' z') = some (x, wr)) : Good P E S a w o x wr := by
  have ry := h.opd hy
  have rz := h.opd hz'
  simp only [exec] at he
  split at he
  · rename_i k n k' m e1 e2
    split at he
    · rename_i hb
      obtain ⟨rfl, hn0, hby, hml⟩ := hb
      obtain ⟨rfl, rfl⟩ := some_inv he
      rw [e1] at ry
      rw [e2] at rz
      have hv := ry.int_inv
      have hu := rz.int_inv
      obtain ⟨i', v, hi', hv0, hs, hr⟩ := zeroC_at (P := P) (w := w) (M := mutb E S L) (G := S.gh L) hz
      rw [hi] at hi'
      injection hi' with hi'
      subst hi'
      have hzl : zc.length = i.size := by have := hr.1; simp at this; omega
      have hr0 : RepL w (mutb E S L) (S.gh L) (List.replicate n.toNat (zc.map nz)).flatten (madeCells v.cells (n.toNat * i.size)).toList := by
        unfold madeCells
        rw [← hs, made_list v.cells (by omega)]
        exact replicate_rep hr.nz _
      obtain ⟨L', h6, h7⟩ := h.newRow (e := e) (k := i.size) hn (fun u hu => by rw [(List.mem_replicate.1 hu).2, List.length_map, hzl]) (by simpa using hml) hr0
      simp only [List.length_replicate] at h7
      refine ⟨_, _, L', _, ?_, .inl rfl, h7, h6⟩
      have hbb : (i.bytes : Int) * n ≤ 281474976710656 := by
        have h1 : ((n.toNat * i.bytes : Nat) : Int) ≤ 140737488355328 := by omega
        have h2 : ((n.toNat : Nat) : Int) = n := Int.toNat_of_nonneg hn0
        rw [Int.natCast_mul, h2, Int.mul_comm] at h1
        omega
      have hm63 : n ≤ 9223372036854775807 := by simp only [maxLen] at hml; omega
      have := run_make (P := P) w t e i v ht hi hv0 k k' n n hn0 (Int.le_refl _) hbb hm63
      simp only [execOp, ho, hv, hu, Sem.run_bind, this, Result.andThen_ok, Sem.run_pure]
    · cases he
  · cases he

/-! ### stores -/
theorem run_store_at {t : TypeId} {y z : Operand} {b off : Nat} {cur : Array Value} {T : TypeId} {i : TypeInfo} (ho : o.op = .store t y z) (hi : P.info? t = some i) (hv : a.eval y = .pointer (some ⟨b, off, none⟩)) (hh : w.heap[b]? = some (.cells cur T (0, 0)))
    (hs : (a.eval z).cells.size = i.size) (hle : off + i.size ≤ cur.size) (h1 : ∀ u ∈ (a.eval z).cells.toList, u.oneCell' = true) :
    (execOp a.eval o).run P w = .ok .skip (w.setRow b (cur.toList.take off ++ (a.eval z).cells.toList ++ cur.toList.drop (off + i.size)).toArray) := by
  have := run_storeCells_at (P := P) b off T (a.eval z).cells.toList 0 cur w hh (by simp; omega) h1
  simp only [Nat.add_zero, Array.length_toList, hs] at this
  simp [execOp, ho, hv, Instr.storeAt, Instr.sureAddr, storeVar, sizeOf, typeInfo, hi, hs, this]

theorem splice_set {α : Type} (F c xs : List α) (k J off n : Nat) (hc : c.length = k) (hjk : J + k ≤ F.length) (hx : xs.length = n) (hle : off + n ≤ k) (hel : ∀ q, q < k → F[J + q]? = c[q]?) :
    F.take J ++ (c.take off ++ xs ++ c.drop (off + n)) ++ F.drop (J + k) = F.take (J + off) ++ xs ++ F.drop (J + off + n) := by
  have h1 : F.take (J + off) = F.take J ++ c.take off := by
    apply List.ext_getElem?
    intro q
    by_cases q1 : q < J
    · rw [List.getElem?_append_left (by simp; omega), List.getElem?_take, if_pos (by omega), List.getElem?_take, if_pos q1]
    · rw [List.getElem?_append_right (by simp; omega), List.getElem?_take, List.getElem?_take]
      have e : (F.take J).length = J := by simp; omega
      rw [e]
      by_cases q2 : q < J + off
      · rw [if_pos q2, if_pos (by omega), ← hel _ (by omega)]
        congr 1
        omega
      · rw [if_neg q2, if_neg (by omega)]
  have h2 : F.drop (J + off + n) = c.drop (off + n) ++ F.drop (J + k) := by
    apply List.ext_getElem?
    intro q
    rw [List.getElem?_drop]
    by_cases q1 : q < k - (off + n)
    · rw [List.getElem?_append_left (by simp; omega), List.getElem?_drop, ← hel _ (by omega)]
      congr 1
      omega
    · rw [List.getElem?_append_right (by simp; omega), List.getElem?_drop]
      have e : (c.drop (off + n)).length = k - (off + n) := by simp; omega
      rw [e]
      congr 1
      omega
  rw [h1, h2]
  simp [List.append_assoc]
theorem take_splice {α : Type} (cur xs : List α) (p n m : Nat) (hx : xs.length = n) (h1 : p + n ≤ m) (h2 : m ≤ cur.length) :
    (cur.take p ++ xs ++ cur.drop (p + n)).take m = (cur.take m).take p ++ xs ++ (cur.take m).drop (p + n) := by
  rw [List.take_take, Nat.min_eq_left (by omega), List.take_append, List.take_of_length_le (by simp; omega)]
  congr 1
  have e : (cur.take p ++ xs).length = p + n := by simp; omega
  rw [e, List.drop_take]

theorem g_store (h : Rel E S a w L) {t : TypeId} {y z : Operand} {y' z' : Opd} {i : TypeInfo} (ho : o.op = .store t y z) (hi : P.info? t = some i) (hy : copd y = some y') (hz : copd z = some z')
    (he : exec Γ nid S (.store i.size y' z') = some (x, wr)) : Good P E S a w o x wr := by
  have r := h.opd hy
  simp only [exec] at he
  split at he
  · rename_i hb
    obtain ⟨hl, h1⟩ := hb
    have rz := (h.opd hz).cells (fun u hu => List.all_eq_true.1 h1 u hu)
    have hs : (a.eval z).cells.size = i.size := by have := rz.1.1; simp at this; omega
    split at he
    · rename_i id ver off e
      rw [e] at r
      split at he
      · rename_i hver
        split at he
        · rename_i cs hc
          split at he
          · rename_i hle
            obtain ⟨rfl, rfl⟩ := some_inv he
            obtain ⟨hN, _⟩ := r.ptr_inv (show (S.gh L).V id = ver from hver)
            obtain ⟨b, hv, hL⟩ := h.ptr_some r hver hc
            obtain ⟨b', cur, T, hL', hh, hr, hE⟩ := h.box_at hN hc
            rw [hL] at hL'
            simp only [Value.pointer.injEq, Option.some.injEq, Addr.mk.injEq] at hL'
            obtain ⟨rfl, _⟩ := hL'
            have hcl : cur.size = cs.length := by have := hr.1; simpa using this
            have hrun := run_store_at (P := P) ho hi hv hh hs (by omega) rz.2
            obtain ⟨h2, hs2, hg⟩ := h.turn (w' := w.setRow b (cur.toList.take off ++ (a.eval z).cells.toList ++ cur.toList.drop (off + i.size)).toArray) hN ⟨ver, .box (splice cs off (z'.val S).cells)⟩ (L id) (.inl ⟨hver.symm, rfl, by rw [hc]; rfl⟩) rfl rfl rfl (by simp)
              (fun k hk hne => setRow_other w b k _ (fun ek => hne (by rw [hc]; rfl) (by rw [hL, ek]; rfl)))
              (fun k _ hk => .inl ⟨by rw [hc]; rfl, hk⟩)
              (fun hs2 hg => ⟨b, _, T, hL, setRow_heap w b cur _ T _ hh, hE, by
                have := (hr.splice rz.1 off).mono hs2 hg
                simpa [hs] using this⟩)
            exact ⟨_, _, _, undef, hrun, .inr ⟨rfl, rfl⟩, .undef, h2⟩
          · cases he
        · cases he
      · cases he
    · rename_i id ver k j off e
      rw [e] at r
      have rz1 := rz.1.nz
      have hl1 : ((z'.val S).cells.map nz).length = i.size := by simpa using hl
      split at he
      · rename_i hver
        split at he
        · rename_i e0 k' es hc
          split at he
          · rename_i hk
            subst hk
            split at he
            · rename_i c hcj
              split at he
              · rename_i hle
                obtain ⟨rfl, rfl⟩ := some_inv he
                obtain ⟨hN, hv⟩ := r.eptr_inv (show (S.gh L).V id = ver from hver)
                obtain ⟨vs, hown, hk, hr⟩ := h.row_at hN hc
                have hj : j < es.length := (List.getElem?_eq_some_iff.1 hcj).1
                rcases hown.2 with ⟨hL, h0⟩ | ⟨g, cap, cur, hL, hb1, hh, hnc, hcm, hcs, htake⟩
                · omega
                rw [show (S.gh L).L id = L id from rfl, hL] at hv
                simp only [blk, Option.map_some] at hv
                have hck : c.length = k := hk c (List.mem_of_getElem? hcj)
                have hjk : j * k + k ≤ es.length * k := by
                  have := Nat.mul_le_mul_right k (show j + 1 ≤ es.length by omega)
                  rw [Nat.add_mul] at this
                  omega
                have hvl : vs.length = es.length * k := hown.1
                have hcapk : es.length * k ≤ cap * k := Nat.mul_le_mul_right _ hnc
                have hrun := run_store_at (P := P) ho hi hv hh hs (by omega) rz.2
                have hsl : (splice c off ((z'.val S).cells.map nz)).length = k := by simp [splice, hl1]; omega
                have hk2 : ∀ u ∈ es.set j (splice c off ((z'.val S).cells.map nz)), u.length = k := by
                  intro u hu
                  rcases List.mem_or_eq_of_mem_set hu with hu | hu
                  · exact hk u hu
                  · rw [hu, hsl]
                have hz2 : ((z'.val S).cells.map nz).length = (a.eval z).cells.toList.length := rz1.1.symm
                -- the cells behind the store
                have hfl : (es.set j (splice c off ((z'.val S).cells.map nz))).flatten = splice es.flatten (j * k + off) ((z'.val S).cells.map nz) := by
                  rw [flatten_set es k j _ hk hsl hj, hsl]
                  unfold splice
                  rw [hl1]
                  exact splice_set es.flatten c ((z'.val S).cells.map nz) k (j * k) off i.size hck (by rw [flatten_len es k hk]; exact hjk) hl1 (by omega) (flatten_at es k j c hk hcj)
                have hset : (w.setRow g (cur.toList.take (j * k + off) ++ (a.eval z).cells.toList ++ cur.toList.drop (j * k + off + i.size)).toArray).ownsRow (rowBase E (L id)) e0 k (L id) (es.set j (splice c off ((z'.val S).cells.map nz))).length (vs.take (j * k + off) ++ (a.eval z).cells.toList ++ vs.drop (j * k + off + i.size)) := by
                  refine ⟨by simp [hvl, hs]; omega, .inr ⟨g, cap, _, by rw [hL]; simp, hb1, setRow_heap w g cur _ e0 _ hh, by simpa using hnc, hcm, by simp [hcs, hs]; omega, ?_⟩⟩
                  simp only [List.length_set]
                  rw [← htake]
                  simpa using take_splice cur.toList (a.eval z).cells.toList (j * k + off) i.size (es.length * k) (by simpa using hs) (by omega) (by simp [hcs]; omega)
                obtain ⟨h2, hs2, hg⟩ := h.turn (w' := w.setRow g (cur.toList.take (j * k + off) ++ (a.eval z).cells.toList ++ cur.toList.drop (j * k + off + i.size)).toArray) hN ⟨ver, .row e0 k (es.set j (splice c off ((z'.val S).cells.map nz)))⟩ (L id) (.inl ⟨hver.symm, rfl, by rw [hc]; rfl⟩) rfl rfl rfl (by simp)
                  (fun q hq hne => setRow_other w g q _ (fun ek => hne (by rw [hc]; rfl) (by rw [hL, ek]; rfl)))
                  (fun q _ hq => .inl ⟨by rw [hc]; rfl, hq⟩)
                  (fun hs2 hg => ⟨_, hset, hk2, by
                    rw [hfl]
                    have := (hr.splice rz1 (j * k + off)).mono hs2 hg
                    simpa [hs] using this⟩)
                exact ⟨_, _, _, undef, hrun, .inr ⟨rfl, rfl⟩, .undef, h2⟩
              · cases he
            · cases he
          · cases he
        · cases he
      · cases he
    · cases he
  · cases he
end
end Go.TQ
