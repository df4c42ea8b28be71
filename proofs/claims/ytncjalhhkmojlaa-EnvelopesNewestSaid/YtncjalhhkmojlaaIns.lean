/-
  slices.Insert: a row is handed over and comes back with elements put in. Generic in the program: what is asked of it is told by InsW. Conditions: the sum of the lengths fits. (run_overlaps_own follows the kit's worked law of slices.overlaps.)
-/
import Derived.Test.YtncjalhhkmojlaaKdef
import Derived.Laws.CopyRow
import Derived.Laws.Externs
import Derived.Lib.Overlaps
import Derived.Lib.AppendZerosOnto
import Derived.Laws.NewBlocks
import Derived.Maps.AppendAt
import Derived.Below
set_option linter.unusedVariables false
namespace Go.TQ
open Go.RowKit
/-- copy into a row: elements of any number of cells -/
theorem run_copy_rowk {P : Program} (w : World) (dT sT ty elem : TypeId) (g o dLen dCap : Nat) (a : Addr) (sLen sCap : Nat) (cur : Array Value) (t : TypeId) (cs : List Value) (size n : Nat)
    (hu : P.underlying dT = some (.slice elem)) (hs : (P.info? elem).map (·.size) = some size)
    (hg : w.heap[g]? = some (.cells cur t (0, 0))) (hn : n = Nat.min sLen dLen) (hcl : cs.length = n * size)
    (hsrc : ∀ (j : Nat) (v : Value), cs[j]? = some v → w.cell? (a.add j) = some v) (hfit : o + cs.length ≤ cur.size) (h1 : ∀ v ∈ cs, v.oneCell' = true) :
    (Builtin.copy_ #[dT, sT] ty #[.slice (some ⟨g, o, none⟩) dLen dCap, .slice (some a) sLen sCap]).run P w =
      .ok (goInt n) (w.setRow g (cur.toList.take o ++ cs ++ cur.toList.drop (o + cs.length)).toArray) := by
  have hl := run_loadCells_list (P := P) w a cs hsrc
  have hst := run_storeCells_at P g o t cs 0 cur w hg (by simpa using hfit) h1
  rw [hcl] at hl
  cases hq : P.info? elem with
  | none => simp [hq] at hs
  | some i =>
    have hi : i.size = size := by simpa [hq] using hs
    simp [Builtin.copy_, run_underlying hu, Builtin.lenOf, Builtin.firstCells, sizeOf, typeInfo, hq, hi, ← hn, hl, hst]
theorem cells_shape {w : World} {a : Addr} {v : Value} (h : w.cell? a = some v) : ∃ t n, w.shape? a.block = some (t, n + 1) := by
  unfold World.cell? at h
  unfold World.shape?
  split at h
  · rename_i c t fr hc
    split at h
    · cases h
    · have hlt := (Array.getElem?_eq_some_iff.1 h).1
      exact ⟨t, c.size - 1, by simp only [Option.some.injEq, Prod.mk.injEq, true_and]; omega⟩
  · cases h
theorem run_overlaps_own {P : Program} (w : World) (tS tR e : TypeId) (ht : P.underlying tS = some (.slice e)) (size : Nat) (hz : ∀ w, (Go.sizeOf e).run P w = .ok size w)
    (a b : Addr) (la ca lb cb : Nat) (hne : a.block ≠ b.block) {v : Value} (ha : w.cell? a = some v) {cur : Array Value} {t : TypeId} (hb : w.heap[b.block]? = some (.cells cur t (0, 0))) (h0 : cur.size ≠ 0) :
    (Extern.SlicesOverlaps.overlaps #[tS, tS] #[tR] #[.slice (some a) la ca, .slice (some b) lb cb]).run P w = .ok (.bool false) w := by
  obtain ⟨tA, kA, hsa⟩ := cells_shape ha
  have hsb : w.shape? b.block = some (t, cur.size) := by simp [World.shape?, hb]
  have hfb : w.frozen? b = false := by simp [World.frozen?, hb]
  have hfe : w.frozen? { block := b.block, off := cur.size } = false := by simp [World.frozen?, hb]
  have hnb : (a.block != b.block) = true := by simpa using hne
  have hnb' : (a.block == b.block) = false := by simpa using hne
  obtain ⟨kB, hkB⟩ : ∃ kB, cur.size = kB + 1 := ⟨cur.size - 1, by omega⟩
  rw [hkB] at hsb hfe
  change Sem.run P (α := Value) (do
    let some t := (#[tS, tS] : Array TypeId)[0]? | stuck "slices.overlaps: no parameter types"
    let .slice elem ← underlying t | stuck "slices.overlaps: slice type expected"
    let size ← sizeOf elem
    match (some a : Option Addr), (some b : Option Addr) with
    | some a, some b =>
      if la = 0 ∨ lb = 0 ∨ size = 0 then pure (Value.bool false)
      else if a.block != b.block && (← frozen a) && (← frozen b) then unsupported .addressObserved
      else do
        if a.block != b.block then do
          noView a; noView b
          if ← mayBeOne a b then return Value.bool ((← choose (.extern "sameAddr.stringBytes" 2)) == 1)
        pure (Value.bool (a.block == b.block && a.off < b.off + lb * size && b.off < a.off + la * size))
    | _, _ => pure (Value.bool false)) w = _
  by_cases h0 : la = 0 ∨ lb = 0 ∨ size = 0
  · simp [run_underlying ht, hz, h0]
  · cases hfa : w.frozen? a <;> cases hfk : w.frozen? { block := a.block, off := kA + 1 } <;>
      simp [run_underlying ht, hz, h0, hnb, hnb', frozen, noView, viewAt, mayBeOne, stringish, shape, Sem.run, hsa, hsb, hfa, hfk, hfb, hfe]

theorem addr_zero (a : Addr) : a.add 0 = a := by
  cases a with
  | mk b o s => unfold Addr.add; split <;> simp_all
theorem addr_blk (a : Addr) (n : Nat) : (a.add n).block = a.block := by unfold Addr.add; split <;> rfl
/-! ### a row, parts of it put -/
def putL {α : Type} (l : List α) (o : Nat) (c : List α) : List α := l.take o ++ c ++ l.drop (o + c.length)
theorem putL_len {α : Type} {l : List α} {o : Nat} {c : List α} (h : o + c.length ≤ l.length) : (putL l o c).length = l.length := by simp [putL]; omega
theorem putL_first {α : Type} {l us ys : List α} {a : Nat} (h : a + us.length + ys.length ≤ l.length) : putL (putL l a us) (a + us.length) ys = l.take a ++ us ++ ys ++ l.drop (a + us.length + ys.length) := by
  have h1 : (l.take a ++ us).length = a + us.length := by simp; omega
  have h2 : (putL l a us).take (a + us.length) = l.take a ++ us := by
    rw [putL, List.take_append_of_le_length (by omega), List.take_of_length_le (by omega)]
  have h3 : (putL l a us).drop (a + us.length + ys.length) = l.drop (a + us.length + ys.length) := by
    rw [putL, ← List.drop_drop, ← h1, List.drop_left, List.drop_drop, h1]
  rw [putL, h2, h3]
theorem putL_second {α : Type} {l us ys : List α} {a : Nat} (h : a + us.length + ys.length ≤ l.length) : putL (putL l (a + us.length) ys) a us = l.take a ++ us ++ ys ++ l.drop (a + us.length + ys.length) := by
  have h1 : (l.take (a + us.length)).length = a + us.length := by simp; omega
  have h2 : (putL l (a + us.length) ys).take a = l.take a := by
    rw [putL, List.append_assoc, List.take_append_of_le_length (by omega), List.take_take, Nat.min_eq_left (by omega)]
  have h3 : (putL l (a + us.length) ys).drop (a + us.length) = ys ++ l.drop (a + us.length + ys.length) := by
    conv => lhs; rw [putL, List.append_assoc]
    exact List.drop_left' h1
  rw [putL, h2, h3, List.append_assoc, List.append_assoc, List.append_assoc]
theorem setRow_keep (w : World) (g : Nat) (cs : Array Value) {b : Nat} (h : b ≠ g) : (w.setRow g cs).heap[b]? = w.heap[b]? := by
  simp only [World.setRow, Array.getElem?_modify]
  rw [if_neg (fun e => h e.symm)]
theorem setRow_fr (w : World) (g : Nat) (cs : Array Value) : Fr (some g) w (w.setRow g cs) := ⟨rfl, rfl, rfl, by simp [World.setRow], fun b _ hb => setRow_keep w g cs (fun e => hb (by rw [e]))⟩
theorem Fr.drew' (w : World) (rb : Option Nat) : Fr rb w w.drew := ⟨rfl, rfl, rfl, Nat.le_refl _, fun _ _ _ => rfl⟩
theorem Fr.trans' {rb : Option Nat} {a b c : World} (h : Fr rb a b) (k : Fr rb b c) : Fr rb a c := ⟨k.os.trans h.os, k.tape.trans h.tape, k.output.trans h.output, Nat.le_trans h.size k.size, fun i hi hne => (k.block i (Nat.lt_of_lt_of_le hi h.size) hne).trans (h.block i hi hne)⟩
theorem stays_to {w w' : World} {v u : Value} {X : Nat → Prop} (hf : Fr (blk v) w w') (hu : ∀ b, blk u = some b → blk v = some b ∨ w.heap.size ≤ b) : Stays w w' (Mv v X) (Mv u X) := by
  intro a x hc hM
  have hlt : a.block < w.heap.size := by
    by_cases h : a.block < w.heap.size
    · exact h
    · have : w.heap[a.block]? = none := by rw [Array.getElem?_eq_none_iff]; omega
      simp [World.cell?, this] at hc
  refine ⟨(World.cell?_of_block (hf.block _ hlt fun h => hM (.inl h))).trans hc, ?_⟩
  rintro (h | h)
  · rcases hu _ h with h | h
    · exact hM (.inl h)
    · omega
  · exact hM (.inr h)
theorem rows_one {w : World} {M : Nat → Prop} {es : List (List PV)} {xs : List Value} (h : RepL w M Gh0 es.flatten xs) (h1 : ∀ u ∈ es, u.all PV.one = true) : ∀ x ∈ xs, x.oneCell' = true := by
  intro x hx
  obtain ⟨q, hq, rfl⟩ := List.mem_iff_getElem.1 hx
  have hl : q < es.flatten.length := by rw [← h.1]; exact hq
  obtain ⟨el, hel, hmem⟩ := List.mem_flatten.1 (List.getElem_mem hl)
  exact ((h.2 q _ _ (List.getElem?_eq_getElem hl) (List.getElem?_eq_getElem hq)).one (List.all_eq_true.1 (h1 el hel) _ hmem)).1

/-! ### what the function does, way by way -/
structure InsW (P : Program) (f S E I B ov k bytes : Nat) : Prop where
  kpos : 0 < k
  hS : P.underlying S = some (.slice E)
  hI : P.underlying I = some (.int .i64)
  info : ∃ (i : TypeInfo) (z : Value), P.info? E = some i ∧ i.zero = some z ∧ z.cells.size = k ∧ i.size = k ∧ i.bytes = bytes
  over : ∀ (x : Array Value) (w : World), (Extern.SlicesOverlaps.overlaps #[S, S] #[B] x).run P w = .ok (.bool false) w → (callFunc ov x).run P w = .ok (.value (.bool false)) w
  none_some : ∀ (g n c i : Nat), i ≤ n → n ≤ c → c ≤ 9223372036854775807 → ∀ (u : Option Addr) (vc : Nat) (w : World),
    Calls P f #[.slice (some ⟨g, 0, none⟩) n c, .int .i64 i, .slice u 0 vc] w fun e w' => e = .returned (.slice (some ⟨g, 0, none⟩) n c) ∧ w' = w
  none_nil : ∀ (u : Option Addr) (vc : Nat) (w : World), Calls P f #[.slice none 0 0, .int .i64 0, .slice u 0 vc] w fun e w' => e = .returned (.slice none 0 0) ∧ w' = w
  at_end : ∀ (g n c : Nat), n ≤ c → c ≤ 9223372036854775807 → ∀ (ad : Addr) (m vc : Nat), 0 < m → ∀ (w w1 : World) (v1 : Value),
    (∀ ty, (Builtin.append_ #[S, S] ty #[.slice (some ⟨g, 0, none⟩) n c, .slice (some ad) m vc]).run P w = .ok v1 w1) →
    Calls P f #[.slice (some ⟨g, 0, none⟩) n c, .int .i64 n, .slice (some ad) m vc] w fun e w' => e = .returned v1 ∧ w' = w1
  at_end_nil : ∀ (ad : Addr) (m vc : Nat), 0 < m → ∀ (w w1 : World) (v1 : Value),
    (∀ ty, (Builtin.append_ #[S, S] ty #[.slice none 0 0, .slice (some ad) m vc]).run P w = .ok v1 w1) →
    Calls P f #[.slice none 0 0, .int .i64 0, .slice (some ad) m vc] w fun e w' => e = .returned v1 ∧ w' = w1
  shift : ∀ (g n c i : Nat), i < n → c ≤ 9223372036854775807 → ∀ (ad : Addr) (m vc : Nat), 0 < m → n + m ≤ c → ∀ (w w1 w2 : World),
    (∀ lb cb, (callFunc ov #[.slice (some ad) m vc, .slice (some ⟨g, (i + m) * k, none⟩) lb cb]).run P w = .ok (.value (.bool false)) w) →
    (∀ ty dc sc, (Builtin.copy_ #[S, S] ty #[.slice (some ⟨g, (i + m) * k, none⟩) (n + m - (i + m)) dc, .slice (some ⟨g, i * k, none⟩) (n + m - i) sc]).run P w.drew = .ok (goInt (n - i : Nat)) w1) →
    (∀ ty dc, (Builtin.copy_ #[S, S] ty #[.slice (some ⟨g, i * k, none⟩) (n + m - i) dc, .slice (some ad) m vc]).run P w1 = .ok (goInt m) w2) →
    Calls P f #[.slice (some ⟨g, 0, none⟩) n c, .int .i64 i, .slice (some ad) m vc] w fun e w' => e = .returned (.slice (some ⟨g, 0, none⟩) (n + m) c) ∧ w' = w2
  grow : ∀ (g n c i : Nat), i < n → n ≤ c → c ≤ 9223372036854775807 → ∀ (ad : Addr) (m vc : Nat), 0 < m → c < n + m → ∀ (N G : Nat), n + m ≤ G → G ≤ 9223372036854775807 → ∀ (w w1 w2 w3 : World),
    (∀ ty, (Builtin.append_ #[S, I] ty #[.slice (some ⟨g, 0, none⟩) i c, .int .i64 ((n : Int) + (m : Int) - (i : Int))]).run P w = .ok (.slice (some ⟨N, 0, none⟩) (n + m) G) w1) →
    (∀ ty dc, (Builtin.copy_ #[S, S] ty #[.slice (some ⟨N, i * k, none⟩) (n + m - i) dc, .slice (some ad) m vc]).run P w1 = .ok (goInt m) w2) →
    (∀ ty dc sc, (Builtin.copy_ #[S, S] ty #[.slice (some ⟨N, (i + m) * k, none⟩) (n + m - (i + m)) dc, .slice (some ⟨g, i * k, none⟩) (n - i) sc]).run P w2.drew = .ok (goInt (n - i : Nat)) w3) →
    Calls P f #[.slice (some ⟨g, 0, none⟩) n c, .int .i64 i, .slice (some ad) m vc] w fun e w' => e = .returned (.slice (some ⟨N, 0, none⟩) (n + m) G) ∧ w' = w3
theorem insInfo {P : Program} {E k bytes : Nat} (h : (P.info? E).map (fun i => (i.zero.map (·.cells.size), i.size, i.bytes)) = some (some k, k, bytes)) : ∃ (i : TypeInfo) (z : Value), P.info? E = some i ∧ i.zero = some z ∧ z.cells.size = k ∧ i.size = k ∧ i.bytes = bytes := by
  rw [Option.map_eq_some_iff] at h
  obtain ⟨i, h1, h2⟩ := h
  injection h2 with h2 h3
  injection h3 with h3 h4
  rw [Option.map_eq_some_iff] at h2
  obtain ⟨z, h5, h6⟩ := h2
  exact ⟨i, z, h1, h5, h6, h3, h4⟩
theorem ins_con {P : Program} {f S E I B ov k bytes : Nat} (H : InsW P f S E I B ov k bytes) {es vs : List (List PV)} {i : Nat} (hi : i ≤ es.length) (h1e : ∀ u ∈ es, u.all PV.one = true) (hvs : ∀ u ∈ vs, u.length = k ∧ u.all PV.one = true)
    (hmax : es.length + vs.length ≤ maxLen) (hby : (es.length + vs.length) * bytes ≤ 140737488355328) : ConC P f E k es [.int .i64 i, .sl vs] (es.take i ++ vs ++ es.drop i) := by
  have hk0 := H.kpos
  intro w X hX v args hvX ⟨xs, hown, hke, hr⟩ hargs
  obtain ⟨a1, args, rfl, ha1, hargs⟩ := hargs.cons_inv
  obtain ⟨a2, args, rfl, ha2, hargs⟩ := hargs.cons_inv
  obtain rfl := hargs.nil_inv
  obtain rfl := ha1.int_inv
  obtain ⟨inf, z, hi1, hi2, hi3, hi4, hi5⟩ := H.info
  have hsz : (P.info? E).map (·.size) = some k := by rw [hi1]; simp [hi4]
  have hmem : ∀ u ∈ es.take i ++ vs ++ es.drop i, u.length = k := by
    intro u hu
    rw [List.mem_append, List.mem_append] at hu
    rcases hu with (hu | hu) | hu
    · exact hke u (List.mem_of_mem_take hu)
    · exact (hvs u hu).1
    · exact hke u (List.mem_of_mem_drop hu)
  -- nothing put in
  have same : vs = [] → es.take i ++ vs ++ es.drop i = es := fun h => by rw [h]; simp
  by_cases hm0 : vs = []
  · rw [same hm0]
    have hz : ∃ u vc, a2 = .slice u 0 vc := by
      subst hm0
      rcases ha2.sl_inv with ⟨h, _⟩ | ⟨ad, c, _, _, h, _⟩
      · exact ⟨_, _, h⟩
      · exact ⟨_, _, h⟩
    obtain ⟨u, vc, rfl⟩ := hz
    have post : ∀ (e : Ending) (w' : World), e = .returned v ∧ w' = w → ∃ u, e = .returned u ∧ RowIn w' (Mv u X) E k u es ∧ (∀ b, blk u = some b → blk v = some b ∨ w.heap.size ≤ b) ∧ Fr (blk v) w w' := by
      rintro e w' ⟨rfl, rfl⟩
      exact ⟨v, rfl, ⟨xs, hown, hke, hr⟩, fun b hb => .inl hb, Fr.refl _ _⟩
    rcases hown.2 with ⟨rfl, h0⟩ | ⟨g, cap, cur, rfl, _, hg, hnc, hcm, hcs, htk⟩
    · obtain rfl : i = 0 := by omega
      exact (H.none_nil u vc w).mono fun e w' h => post e w' h
    · exact (H.none_some g es.length cap i hi hnc (by simp only [maxLen] at hcm; omega) u vc w).mono fun e w' h => post e w' h
  · -- something is put in
    have hm : 0 < vs.length := List.length_pos_iff.2 hm0
    rcases ha2.sl_inv with ⟨_, h⟩ | ⟨ad, vc, k', us, rfl, hk', hru, hcu, _, _⟩
    · exact absurd h hm0
    have hul : us.length = vs.length * k := by rw [hru.1, flatten_len vs k fun u hu => (hvs u hu).1]
    have hone := rows_one hru fun u hu => (hvs u hu).2
    have hpos : 0 < us.length := by rw [hul]; exact Nat.mul_pos hm hk0
    obtain ⟨c0, hc0⟩ : ∃ c0, us[0]? = some c0 := ⟨_, List.getElem?_eq_getElem hpos⟩
    obtain ⟨had, hadM⟩ := hcu 0 c0 hc0
    have had : w.cell? ad = some c0 := by rw [addr_zero] at had; exact had
    have hcell : ∀ (j : Nat) (u : Value), us[j]? = some u → w.cell? (ad.add j) = some u := fun j u hj => (hcu j u hj).1
    have hadlt : ad.block < w.heap.size := by
      by_cases h : ad.block < w.heap.size
      · exact h
      · have : w.heap[ad.block]? = none := by rw [Array.getElem?_eq_none_iff]; omega
        simp [World.cell?, this] at had
    -- the result of an append
    have fin : ∀ (v1 : Value) (w1 : World), w1.ownsRow 0 E k v1 (es.length + vs.length) (xs ++ us) → w.grownBy w1 v.ownBlock → (v1.ownBlock = v.ownBlock ∨ v1.ownBlock = some w.heap.size) → (∃ a n c, v = .slice a n c) → i = es.length →
        ∀ (e : Ending) (w' : World), e = .returned v1 ∧ w' = w1 → ∃ u, e = .returned u ∧ RowIn w' (Mv u X) E k u (es.take i ++ vs ++ es.drop i) ∧ (∀ b, blk u = some b → blk v = some b ∨ w.heap.size ≤ b) ∧ Fr (blk v) w w' := by
      rintro v1 w1 ho hgr hat ⟨a0, n0, c0, hv0⟩ hie e w' ⟨rfl, rfl⟩
      have hb0 : v.ownBlock = blk v := ownBlock_blk hv0
      have hb1 : v1.ownBlock = blk v1 := by
        rcases ho.2 with ⟨h, _⟩ | ⟨_, _, _, h, _⟩
        · exact ownBlock_blk h
        · exact ownBlock_blk h
      have hfr : Fr (blk v) w w' := ⟨hgr.os, hgr.tape, hgr.output, hgr.size, fun b hb hne => hgr.block b hb (fun h => hne (by rw [← hb0, ← h]))⟩
      have hub : ∀ b, blk v1 = some b → blk v = some b ∨ w.heap.size ≤ b := fun b hb => by
        rw [← hb1] at hb
        rcases hat with h | h
        · exact .inl (by rw [← hb0, ← h]; exact hb)
        · rw [h] at hb; injection hb with hb; exact .inr (by omega)
      have he : es.take i ++ vs ++ es.drop i = es ++ vs := by subst hie; simp
      rw [he] at hmem ⊢
      refine ⟨v1, rfl, ⟨xs ++ us, by rw [List.length_append]; exact ho, hmem, ?_⟩, hub, hfr⟩
      rw [List.flatten_append]
      exact (hr.append hru).mono (stays_to hfr hub) (Gh0.le _)
    rcases hown.2 with ⟨rfl, h0⟩ | ⟨g, cap, cur, rfl, hb0, hg, hnc, hcm, hcs, htk⟩
    · obtain rfl : i = 0 := by omega
      obtain ⟨v1, w1, r1, r2, r3, _, r5⟩ := run_append_own_at (P := P) w 0 S 0 E inf z k bytes H.hS hi1 hi2 hi4 hi5 hi3 hk0 (.slice none 0 0) es.length xs hown ad vs.length vc us hul hcell hone hmax hby (Nat.zero_le _)
      exact (H.at_end_nil ad vs.length vc hm w w1 v1 fun ty => r1).mono fun e w' h => fin v1 w1 r2 r3 r5 ⟨_, _, _, rfl⟩ h0.symm e w' h
    · have hcm' : cap ≤ 9223372036854775807 := by simp only [maxLen] at hcm; omega
      by_cases hie : i = es.length
      · obtain ⟨v1, w1, r1, r2, r3, _, r5⟩ := run_append_own_at (P := P) w 0 S 0 E inf z k bytes H.hS hi1 hi2 hi4 hi5 hi3 hk0 _ es.length xs hown ad vs.length vc us hul hcell hone hmax hby (Nat.zero_le _)
        have := H.at_end g es.length cap hnc hcm' ad vs.length vc hm w w1 v1 fun ty => r1
        rw [← hie] at this ⊢
        exact this.mono fun e w' h => fin v1 w1 r2 r3 r5 ⟨_, _, _, rfl⟩ hie e w' h
      · have hin : i < es.length := by omega
        have hM : ∀ b, Mv (.slice (some ⟨g, 0, none⟩) es.length cap) X b → True := fun _ _ => trivial
        have hne : ad.block ≠ g := fun h => hadM (.inl (by rw [h]; rfl))
        have hglt : g < w.heap.size := (Array.getElem?_eq_some_iff.1 hg).1
        have hxl : xs.length = es.length * k := hown.1
        have hcl : es.length * k ≤ cur.toList.length := by simpa [hcs] using Nat.mul_le_mul_right k hnc
        have hx1 := rows_one hr h1e
        obtain ⟨ys, hys⟩ : ∃ ys, ys = xs.drop (i * k) := ⟨_, rfl⟩
        have hyl : ys.length = (es.length - i) * k := by rw [hys, List.length_drop, hxl, Nat.sub_mul]
        have hy1 : ∀ y ∈ ys, y.oneCell' = true := fun y hy => hx1 y (List.mem_of_mem_drop (hys ▸ hy))
        have hcx : ∀ (j : Nat) (u : Value), xs[j]? = some u → w.cell? ⟨g, j, none⟩ = some u := fun j u hj => by
          refine cell_block hg ?_
          rw [← htk, List.getElem?_take] at hj
          split at hj
          · exact hj
          · cases hj
        have hcy : ∀ (j : Nat) (u : Value), ys[j]? = some u → w.cell? ((⟨g, i * k, none⟩ : Addr).add j) = some u := fun j u hj => by
          rw [add_mid]
          rw [hys, List.getElem?_drop] at hj
          exact hcx _ u hj
        have hik : i * k + us.length = (i + vs.length) * k := by rw [hul, Nat.add_mul]
        have htot : i * k + us.length + ys.length = (es.length + vs.length) * k := by
          rw [hul, hyl, ← Nat.add_mul, ← Nat.add_mul]
          congr 1
          omega
        have hres : RepL w (Mv (.slice (some ⟨g, 0, none⟩) es.length cap) X) Gh0 (es.take i ++ vs ++ es.drop i).flatten (xs.take (i * k) ++ us ++ ys) := by
          rw [List.flatten_append, List.flatten_append, flatten_take k i es hke, flatten_drop k i es hke, hys]
          exact ((hr.take _).append hru).append (hr.drop _)
        have hlen : (es.take i ++ vs ++ es.drop i).length = es.length + vs.length := by simp; omega
        have htl : (xs.take (i * k) ++ us ++ ys).length = (es.length + vs.length) * k := by
          rw [List.length_append, List.length_append, List.length_take, hxl, Nat.min_eq_left (Nat.mul_le_mul_right k hi)]
          exact htot
        by_cases hroom : es.length + vs.length ≤ cap
        · -- there is room
          have hfit : (es.length + vs.length) * k ≤ cur.toList.length := by simpa [hcs] using Nat.mul_le_mul_right k hroom
          have r1 := run_copy_rowk (P := P) w.drew S S 0 E g ((i + vs.length) * k) (es.length + vs.length - (i + vs.length)) 0 ⟨g, i * k, none⟩ (es.length + vs.length - i) 0 cur E ys k (es.length - i) H.hS hsz hg
            (by simp only [Nat.min_def]; split <;> omega) hyl hcy (by simp only [Array.length_toList] at hfit; omega) hy1
          obtain ⟨cur1, hcur1⟩ : ∃ cur1 : Array Value, cur1 = (putL cur.toList ((i + vs.length) * k) ys).toArray := ⟨_, rfl⟩
          have hg1 : (w.drew.setRow g cur1).heap[g]? = some (.cells cur1 E (0, 0)) := setRow_heap w.drew g cur _ E _ hg
          have hl1 : cur1.size = cap * k := by
            rw [hcur1, List.size_toArray, putL_len (by rw [← hik]; omega), Array.length_toList, hcs]
          have r2 := run_copy_rowk (P := P) (w.drew.setRow g cur1) S S 0 E g (i * k) (es.length + vs.length - i) 0 ad vs.length vc cur1 E us k vs.length H.hS hsz hg1
            (by simp only [Nat.min_def]; split <;> omega) hul (fun j u hj => by rw [World.cell?_of_block (w := w) (setRow_keep w.drew g cur1 (by rw [addr_blk]; exact hne))]; exact hcell j u hj)
            (by rw [hl1, ← hcs, ← Array.length_toList]; omega) hone
          obtain ⟨cur2, hcur2⟩ : ∃ cur2 : Array Value, cur2 = (putL cur1.toList (i * k) us).toArray := ⟨_, rfl⟩
          have hg2 : ((w.drew.setRow g cur1).setRow g cur2).heap[g]? = some (.cells cur2 E (0, 0)) := setRow_heap _ g cur1 _ E _ hg1
          have hc2 : cur2.toList = xs.take (i * k) ++ us ++ ys ++ cur.toList.drop ((es.length + vs.length) * k) := by
            rw [hcur2, hcur1, ← hik, putL_second (by omega), htot, ← htk, List.take_take, Nat.min_eq_left (Nat.mul_le_mul_right k hi)]
          have hC : cur.toList.length = cap * k := (Array.length_toList (xs := cur)).trans hcs
          have hL1 : cur1.toList.length = cap * k := (Array.length_toList (xs := cur1)).trans hl1
          have hfr : Fr (some g) w ((w.drew.setRow g cur1).setRow g cur2) := (Fr.drew' w _).trans' ((setRow_fr _ g _).trans' (setRow_fr _ g _))
          have hcap0 : cur.size ≠ 0 := by
            have : 0 < cap := by omega
            rw [hcs]
            exact Nat.ne_of_gt (Nat.mul_pos this hk0)
          refine (H.shift g es.length cap i hin hcm' ad vs.length vc hm hroom w (w.drew.setRow g cur1) ((w.drew.setRow g cur1).setRow g cur2) (fun lb cb => ?_) (fun ty dc sc => ?_) (fun ty dc => ?_)).mono ?_
          · exact H.over _ w (run_overlaps_own w S B E H.hS k (fun w' => by simp [Go.sizeOf, typeInfo, hi1, hi4]) ad ⟨g, (i + vs.length) * k, none⟩ vs.length vc lb cb hne had hg hcap0)
          · rw [hcur1]; exact r1
          · rw [hcur2]; exact r2
          · rintro e w' ⟨rfl, rfl⟩
            refine ⟨_, rfl, ⟨xs.take (i * k) ++ us ++ ys, ⟨?_, .inr ⟨g, cap, cur2, by rw [hlen], hb0, hg2, by rw [hlen]; exact hroom, hcm, ?_, ?_⟩⟩, hmem, hres.mono (@stays_to w _ (.slice (some ⟨g, 0, none⟩) es.length cap) (.slice (some ⟨g, 0, none⟩) (es.length + vs.length) cap) X hfr fun b hb => .inl hb) (Gh0.le _)⟩, fun b hb => .inl hb, hfr⟩
            · rw [htl, hlen]
            · rw [hcur2, List.size_toArray, putL_len (by rw [hL1]; omega), hL1]
            · rw [hlen, hc2, ← htl, List.take_left' rfl]
        · -- a new row
          have hik2 : i + (es.length + vs.length - i) = es.length + vs.length := by omega
          have hold : (Builtin.firstCells inf.size i (.slice (some ⟨g, 0, none⟩) i cap)).run P w.drew = .ok (xs.take (i * k)).toArray w.drew := by
            rw [hi4]
            refine run_firstCells_some w.drew k i ⟨g, 0, none⟩ i cap (xs.take (i * k)) (by rw [List.length_take, hxl]; exact Nat.min_eq_left (Nat.mul_le_mul_right k hi)) fun j u hj => ?_
            rw [add_mid, Nat.zero_add]
            rw [List.getElem?_take] at hj
            split at hj
            · exact hcx j u hj
            · cases hj
          have hmax' : es.length + vs.length ≤ 9223372036854775807 := by simp only [maxLen] at hmax; omega
          have r0 := fun ty => Lib.run_append_grow_zeros (P := P) w S I ty E inf z .i64 .i64 H.hS H.hI hi1 hi2 (some ⟨g, 0, none⟩) i cap (xs.take (i * k)) hold (es.length + vs.length - i) (by omega) (by omega) (by omega) (by omega)
            (by rw [hi5]; have := Nat.mul_le_mul_right bytes (show es.length + vs.length - i ≤ es.length + vs.length by omega); omega) (by rw [hi5, hik2]; exact growslice_fits (by omega) hby)
          rw [hik2] at r0
          obtain ⟨G, hG⟩ : ∃ G, G = grownCap w (es.length + vs.length) cap E := ⟨_, rfl⟩
          have hGn : es.length + vs.length ≤ G := by rw [hG]; exact grownCap_ge w _ _ _
          have hGm : G ≤ maxLen := by rw [hG]; exact grownCap_le_maxLen w _ _ _ hmax
          have hG63 : G ≤ 9223372036854775807 := by simp only [maxLen] at hGm; omega
          rw [← hG] at r0
          obtain ⟨row, hrow⟩ : ∃ row : Array Value, row = (xs.take (i * k)).toArray ++ Builtin.zeroCells z.cells (es.length + vs.length - i) ++ Builtin.zeroCells z.cells (G - (es.length + vs.length)) := ⟨_, rfl⟩
          rw [← hrow] at r0
          have hrt : (xs.take (i * k)).length = i * k := by rw [List.length_take, hxl]; exact Nat.min_eq_left (Nat.mul_le_mul_right k hi)
          have hrl : row.size = G * k := by
            rw [hrow, Array.size_append, Array.size_append, List.size_toArray, hrt, size_zeroCells, size_zeroCells, hi3, ← Nat.add_mul, ← Nat.add_mul]
            congr 1
            omega
          have hrtake : row.toList.take (i * k) = xs.take (i * k) := by
            rw [hrow, Array.toList_append, Array.toList_append, List.append_assoc]
            exact List.take_left' hrt
          have hN : (w.drew.alloc (.cells row E)).heap[w.heap.size]? = some (.cells row E (0, 0)) := by
            show (w.heap.push (.cells row E))[w.heap.size]? = _
            simp
          have hkeep : ∀ b, b < w.heap.size → (w.drew.alloc (.cells row E)).heap[b]? = w.heap[b]? := fun b hb => Below.heap_alloc w.drew _ b hb
          have hfit : (es.length + vs.length) * k ≤ row.size := by rw [hrl]; exact Nat.mul_le_mul_right k hGn
          have r1 := run_copy_rowk (P := P) (w.drew.alloc (.cells row E)) S S 0 E w.heap.size (i * k) (es.length + vs.length - i) 0 ad vs.length vc row E us k vs.length H.hS hsz hN
            (by simp only [Nat.min_def]; split <;> omega) hul (fun j u hj => by rw [World.cell?_of_block (w := w) (hkeep _ (by rw [addr_blk]; exact hadlt))]; exact hcell j u hj) (by omega) hone
          have hR : row.toList.length = G * k := (Array.length_toList (xs := row)).trans hrl
          obtain ⟨cur1, hcur1⟩ : ∃ cur1 : Array Value, cur1 = (putL row.toList (i * k) us).toArray := ⟨_, rfl⟩
          have hl1 : cur1.size = G * k := by rw [hcur1, List.size_toArray, putL_len (by rw [hR]; omega), hR]
          have hL1 : cur1.toList.length = G * k := (Array.length_toList (xs := cur1)).trans hl1
          have hg1 : ((w.drew.alloc (.cells row E)).setRow w.heap.size cur1).drew.heap[w.heap.size]? = some (.cells cur1 E (0, 0)) := setRow_heap _ _ row _ E _ hN
          have r2 := run_copy_rowk (P := P) ((w.drew.alloc (.cells row E)).setRow w.heap.size cur1).drew S S 0 E w.heap.size ((i + vs.length) * k) (es.length + vs.length - (i + vs.length)) 0 ⟨g, i * k, none⟩ (es.length - i) 0 cur1 E ys k (es.length - i) H.hS hsz hg1
            (by simp only [Nat.min_def]; split <;> omega) hyl (fun j u hj => by
              rw [World.cell?_of_block (w := w) (w' := ((w.drew.alloc (.cells row E)).setRow w.heap.size cur1).drew) (((setRow_keep _ w.heap.size cur1 (by rw [addr_blk]; exact Nat.ne_of_lt hglt)).trans (hkeep _ (by rw [addr_blk]; exact hglt))))]
              exact hcy j u hj) (by rw [hl1, ← hrl, ← hik]; omega) hy1
          obtain ⟨cur2, hcur2⟩ : ∃ cur2 : Array Value, cur2 = (putL cur1.toList ((i + vs.length) * k) ys).toArray := ⟨_, rfl⟩
          obtain ⟨w3, hw3⟩ : ∃ w3, w3 = ((w.drew.alloc (.cells row E)).setRow w.heap.size cur1).drew.setRow w.heap.size cur2 := ⟨_, rfl⟩
          have hg2 : w3.heap[w.heap.size]? = some (.cells cur2 E (0, 0)) := by rw [hw3]; exact setRow_heap _ _ cur1 _ E _ hg1
          have hc2 : cur2.toList = xs.take (i * k) ++ us ++ ys ++ row.toList.drop ((es.length + vs.length) * k) := by
            rw [hcur2, hcur1, ← hik, putL_first (by rw [hR]; omega), htot, hrtake]
          have hfr : Fr (some g) w w3 := by
            rw [hw3]
            refine ⟨rfl, rfl, rfl, by simp [World.setRow], fun b hb _ => ?_⟩
            rw [setRow_keep _ _ _ (Nat.ne_of_lt hb)]
            exact (setRow_keep _ w.heap.size cur1 (Nat.ne_of_lt hb)).trans (hkeep b hb)
          refine (H.grow g es.length cap i hin hnc hcm' ad vs.length vc hm (by omega) w.heap.size G hGn hG63 w (w.drew.alloc (.cells row E)) ((w.drew.alloc (.cells row E)).setRow w.heap.size cur1) w3 (fun ty => ?_) (fun ty dc => ?_) (fun ty dc sc => ?_)).mono ?_
          · have := r0 ty
            rw [show ((es.length + vs.length - i : Nat) : Int) = (es.length : Int) + (vs.length : Int) - (i : Int) by omega] at this
            exact this
          · rw [hcur1]; exact r1
          · rw [hw3, hcur2]; exact r2
          · rintro e w' ⟨rfl, rfl⟩
            have hub : ∀ b, blk (.slice (some ⟨w.heap.size, 0, none⟩) (es.length + vs.length) G) = some b → blk (.slice (some ⟨g, 0, none⟩) es.length cap) = some b ∨ w.heap.size ≤ b := fun b hb => by
              injection hb with hb
              exact .inr (Nat.le_of_eq hb)
            refine ⟨_, rfl, ⟨xs.take (i * k) ++ us ++ ys, ⟨?_, .inr ⟨w.heap.size, G, cur2, by rw [hlen], Nat.zero_le _, hg2, by rw [hlen]; exact hGn, hGm, ?_, ?_⟩⟩, hmem, hres.mono (@stays_to w _ (.slice (some ⟨g, 0, none⟩) es.length cap) (.slice (some ⟨w.heap.size, 0, none⟩) (es.length + vs.length) G) X hfr hub) (Gh0.le _)⟩, hub, hfr⟩
            · rw [htl, hlen]
            · rw [hcur2, List.size_toArray, putL_len (by rw [hL1, ← hik]; omega), hL1]
            · rw [hlen, hc2, ← htl, List.take_left' rfl]
end Go.TQ
