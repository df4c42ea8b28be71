/-
  Functions of Go's library as plain functions, by the kit's contracts. Conditions: draws are not counted; the package variables that they read are in 'globs'.
-/
import Derived.Test.YtnhgcpiljggmmaaGreatDoorUni
import Derived.Lib.AtoiAll
import Derived.Lib.SplitLaws
import Derived.Lib.LaidTab
import Derived.Shelf.Strings.OnBuilder
import Derived.Shelf.Strconv.Itoa3
import Derived.Shelf.Strconv.AtoiAll
set_option linter.unusedVariables false
set_option linter.unusedSimpArgs false
namespace Go.TQ
open Go.Proofs Go.RowKit Go.Sort

theorem fr_below (hd : drw = false) {w w' : World} (h : Below w.heap.size w w') : Fr none w w' :=
  ⟨h.os, h.tape, h.output, h.size, fun b hb _ => h.block b hb, fun e => by rw [hd] at e; cases e⟩

/-! ### arguments -/
theorem a1_inv {w : World} {M : Nat → Prop} {G : Gh} {x : PV} {vs : List Value} (h : RepL w M G [x] vs) : ∃ v, vs = [v] ∧ Rep w M G x v := by
  obtain ⟨v, us, rfl, h1, h2⟩ := h.cons_inv
  obtain rfl := h2.nil_inv
  exact ⟨v, rfl, h1⟩
theorem a2_inv {w : World} {M : Nat → Prop} {G : Gh} {x y : PV} {vs : List Value} (h : RepL w M G [x, y] vs) : ∃ u v, vs = [u, v] ∧ Rep w M G x u ∧ Rep w M G y v := by
  obtain ⟨v, us, rfl, h1, h2⟩ := h.cons_inv
  obtain ⟨u, rfl, h3⟩ := a1_inv h2
  exact ⟨v, u, rfl, h1, h3⟩
theorem str_inv {w : World} {M : Nat → Prop} {G : Gh} {s : ByteArray} {v : Value} (h : Rep w M G (.str s) v) : v = .string s := by cases h; rfl
theorem int_inv {w : World} {M : Nat → Prop} {G : Gh} {k : IntKind} {n : Int} {v : Value} (h : Rep w M G (.int k n) v) : v = .int k n := by cases h; rfl

/-- a function of plain values: nothing that was there turns -/
theorem con_of {P : Program} {f : FuncId} {args : List PV} {r : PV} (h : ∀ (w : World) (X : Nat → Prop) (vs : List Value), GI w → RepL w X Gh0 args vs → Calls P f vs.toArray w fun e w' => (∃ v, e = .returned v ∧ ∀ M, Rep w' M Gh0 r v) ∧ Fr none w w') :
    Con P f false [] args r [] := fun w X hX rb T rvs vs _ hv => by
  refine (h w _ vs hX.gi hv).mono ?_
  rintro e w' ⟨⟨v, rfl, hr⟩, hf⟩
  exact ⟨v, [], rfl, hr _, fun e => (by cases e), hf⟩

/-! ### strconv.Itoa -/
open Classical in
noncomputable def itoaF (n : Int) : Option ByteArray := if -9223372036854775808 ≤ n ∧ n ≤ 9223372036854775807 then some ⟨(Lib.itoa n).toArray⟩ else none
theorem itoa_con {P : Program} {f : FuncId} {n : Int} {r : ByteArray} (hd : drw = false) (hT : ∀ w, GI w → Lib.TabIs P w "internal/strconv.uint64pow10" .u64 Lib.pow10Tab)
    (h : ∀ (n : Int) (_ : -9223372036854775808 ≤ n) (_ : n ≤ 9223372036854775807) (w : World) (_ : Lib.TabIs P w "internal/strconv.uint64pow10" .u64 Lib.pow10Tab), Calls P f #[.int .i64 n] w fun e w' => e = .returned (.string ⟨(Lib.itoa n).toArray⟩) ∧ ∃ k os, w' = grow (w.drewN k) os)
    (hr : itoaF n = some r) : Con P f false [] [.int .i64 n] (.str r) [] := by
  unfold itoaF at hr
  split at hr
  · rename_i hn
    injection hr with hr
    subst hr
    refine con_of fun w X vs hG hv => ?_
    obtain ⟨v, rfl, hv1⟩ := a1_inv hv
    obtain rfl := int_inv hv1
    refine (h n hn.1 hn.2 w (hT w hG)).mono ?_
    rintro e w' ⟨rfl, k, os, rfl⟩
    refine ⟨⟨_, rfl, fun M => .str _⟩, rfl, rfl, rfl, by simp [grow, World.drewN], fun b hb _ => ?_, fun e => by rw [hd] at e; cases e⟩
    unfold grow World.drewN
    simp only
    rw [Array.getElem?_append_left hb]
  · cases hr

/-! ### strconv.Atoi -/
open Classical in
noncomputable def atoiF (s : ByteArray) : Option (Int × Bool × Unit) := if s.size ≤ 281474976710656 then
  match Lib.atoiAll s.data.toList with
  | .ok v => some (v, true, ())
  | Lib.NumEnd.syntax => some (0, false, ())
  | .range => some (Lib.atoiSat s.data.toList, false, ())
  else none
theorem atoi_con {P : Program} {f : FuncId} {s : ByteArray} {r : Int × Bool × Unit} {g1 g2 t1 t2 t5 : Nat} (hd : drw = false)
    (hS : ∀ w, GI w → ∃ tp p, w.cell? ⟨g1, 0, none⟩ = some (.iface tp p)) (hR : ∀ w, GI w → ∃ tp p, w.cell? ⟨g2, 0, none⟩ = some (.iface tp p))
    (h1 : ∀ (s : ByteArray) (_ : s.size ≤ 9223372036854775806) (v : Int) (_ : Lib.atoiAll s.data.toList = .ok v) (w : World), Calls P f #[.string s] w fun e w' => e = .returned (.tuple #[.int .i64 v, .nilIface]) ∧ (w' = w ∨ ∃ t, w' = Lib.bytesWorld w t5 t))
    (h2 : ∀ (s : ByteArray) (_ : s.size ≤ 281474976710656) (_ : Lib.atoiAll s.data.toList = Lib.NumEnd.syntax) (ev : Value) (w : World) (_ : w.cell? ⟨g1, 0, none⟩ = some ev) (_ : ev = .nilIface ∨ ∃ te pe, ev = .iface te pe), Calls P f #[.string s] w fun e w' => ∃ N, e = .returned (.tuple #[.int .i64 (0), .iface t1 (.pointer (some ⟨N, 0, none⟩))]) ∧ w.heap.size ≤ N ∧ w'.heap[N]? = some (.cells #[.string ⟨#[65, 116, 111, 105]⟩, .string s, ev] t2 (0, 0)) ∧ Below w.heap.size w w')
    (h3 : ∀ (s : ByteArray) (_ : s.size ≤ 281474976710656) (_ : Lib.atoiAll s.data.toList = .range) (ev : Value) (w : World) (_ : w.cell? ⟨g2, 0, none⟩ = some ev) (_ : ev = .nilIface ∨ ∃ te pe, ev = .iface te pe), Calls P f #[.string s] w fun e w' => ∃ N, e = .returned (.tuple #[.int .i64 (Lib.atoiSat s.data.toList), .iface t1 (.pointer (some ⟨N, 0, none⟩))]) ∧ w.heap.size ≤ N ∧ w'.heap[N]? = some (.cells #[.string ⟨#[65, 116, 111, 105]⟩, .string s, ev] t2 (0, 0)) ∧ Below w.heap.size w w')
    (hr : atoiF s = some r) : Con P f false [] [.str s] (.tup [.int .i64 r.1, .nili r.2.1]) [] := by
  unfold atoiF at hr
  split at hr
  · rename_i hs
    refine con_of fun w X vs hG hv => ?_
    obtain ⟨v, rfl, hv1⟩ := a1_inv hv
    obtain rfl := str_inv hv1
    have two : ∀ {w' : World} {M : Nat → Prop} {n : Int} {b : Bool} {e : Value}, Rep w' M Gh0 (.nili b) e → Rep w' M Gh0 (.tup [.int .i64 n, .nili b]) (.tuple #[.int .i64 n, e]) := fun {w' M n b e} he => by
      refine .tup _ [.int .i64 n, e] rfl fun i x v h1 h2 => ?_
      match i, h1, h2 with
      | 0, h1, h2 => injection h1 with h1; injection h2 with h2; subst h1 h2; exact .int _ _
      | 1, h1, h2 => injection h1 with h1; injection h2 with h2; subst h1 h2; exact he
    split at hr
    · rename_i v ha
      injection hr with hr
      subst hr
      refine (h1 s (by omega) v ha w).mono ?_
      rintro e w' ⟨rfl, hw⟩
      refine ⟨⟨_, rfl, fun M => two .nilt⟩, fr_below hd ?_⟩
      rcases hw with rfl | ⟨t, rfl⟩
      · exact Below.refl _ _
      · exact Lib.bytesWorld_below _ _ _
    · rename_i ha
      injection hr with hr
      subst hr
      obtain ⟨tp, p, hc⟩ := hS w hG
      refine (h2 s hs ha _ w hc (.inr ⟨_, _, rfl⟩)).mono ?_
      rintro e w' ⟨N, rfl, _, _, hb⟩
      exact ⟨⟨_, rfl, fun M => two (.nilf _ _)⟩, fr_below hd hb⟩
    · rename_i ha
      injection hr with hr
      subst hr
      obtain ⟨tp, p, hc⟩ := hR w hG
      refine (h3 s hs ha _ w hc (.inr ⟨_, _, rfl⟩)).mono ?_
      rintro e w' ⟨N, rfl, _, _, hb⟩
      exact ⟨⟨_, rfl, fun M => two (.nilf _ _)⟩, fr_below hd hb⟩
  · cases hr

/-! ### strings.Join -/
def joinB (xs : List ByteArray) (sep : ByteArray) : List UInt8 := Lib.join (xs.map (·.data.toList)) sep.data.toList
open Classical in
noncomputable def joinF (xs : List ByteArray) (sep : ByteArray) : Option ByteArray := if xs.length ≤ 140737488355328 ∧ (joinB xs sep).length ≤ 140737488355328 then some ⟨(joinB xs sep).toArray⟩ else none
theorem strs_inv {w : World} {M : Nat → Prop} {G : Gh} {xs : List ByteArray} {v : Value} (h : Rep w M G (.sl (xs.map fun s => [.str s])) v) :
    (xs = [] ∧ ∃ p c, v = .slice p 0 c) ∨ ∃ bk o c, v = .slice (some ⟨bk, o, none⟩) xs.length c ∧ xs.length ≤ c ∧ bk < w.heap.size ∧ ∀ (j : Nat) x, xs[j]? = some x → w.cell? ⟨bk, o + j, none⟩ = some (.string x) := by
  cases xs with
  | nil =>
    refine .inl ⟨rfl, ?_⟩
    cases h with
    | sl _ a c => exact ⟨_, _, rfl⟩
    | slnil => exact ⟨_, _, rfl⟩
  | cons x0 xs =>
    right
    generalize he : ((x0 :: xs).map fun s => [PV.str s]) = es at h
    cases h with
    | sl _ a c k vs hk hl hc hrep hn hm =>
      have hfl : ∀ l : List ByteArray, (l.map fun s => [PV.str s]).flatten = l.map PV.str := fun l => by
        induction l with
        | nil => rfl
        | cons y l ih => rw [List.map_cons, List.flatten_cons, ih]; rfl
      have hvs : ∀ (j : Nat) x, (x0 :: xs)[j]? = some x → w.cell? (a.add j) = some (.string x) := fun j x hx => by
        have hj : j < (x0 :: xs).length := (List.getElem?_eq_some_iff.1 hx).1
        have hvl : vs.length = (x0 :: xs).length := by rw [hl, ← he, hfl, List.length_map]
        have h1 : vs[j]? = some vs[j] := List.getElem?_eq_getElem (by omega)
        have h2 := hrep j (.str x) vs[j] (by rw [← he, hfl, List.getElem?_map, hx]; rfl) h1
        rw [str_inv h2] at h1
        exact (hc j _ h1).1
      have h0 := hvs 0 x0 rfl
      have hsp : a.spot = none := by
        unfold Addr.add World.cell? at h0
        simp only [if_true] at h0
        split at h0
        · split at h0
          · cases h0
          · rename_i hh; cases hq : a.spot with
            | none => rfl
            | some q => rw [hq] at hh; exact absurd rfl hh
        · cases h0
      obtain ⟨bk, o, sp⟩ := a
      simp only at hsp
      subst hsp
      refine ⟨bk, o, c, by rw [← he, List.length_map], by rw [← he, List.length_map] at hn; exact hn, World.block_lt_of_cell? w _ h0, fun j x hx => ?_⟩
      have := hvs j x hx
      unfold Addr.add at this
      split at this
      · rename_i hj; subst hj; exact this
      · exact this
    | slnil => simp at he
theorem join_con {P : Program} {f : FuncId} {xs : List ByteArray} {sep r : ByteArray} (hd : drw = false)
    (h0 : ∀ (a : Option Addr) (c : Nat) (sep : ByteArray) (w : World), Calls P f #[.slice a 0 c, .string sep] w fun e w' => e = .returned (.string .empty) ∧ w' = w)
    (h : ∀ (bk o c : Nat) (xs : List ByteArray) (sep : ByteArray) (w : World) (_ : ∀ (j : Nat) x, xs[j]? = some x → w.cell? ⟨bk, o + j, none⟩ = some (.string x)) (_ : bk < w.heap.size) (_ : xs.length ≤ 140737488355328) (_ : xs.length ≤ c) (_ : (Lib.join (xs.map (·.data.toList)) sep.data.toList).length ≤ 140737488355328),
      Calls P f #[.slice (some ⟨bk, o, none⟩) xs.length c, .string sep] w fun e w' => e = .returned (.string ⟨(Lib.join (xs.map (·.data.toList)) sep.data.toList).toArray⟩) ∧ Below w.heap.size w w')
    (hr : joinF xs sep = some r) : Con P f false [] [.sl (xs.map fun s => [.str s]), .str sep] (.str r) [] := by
  unfold joinF at hr
  split at hr
  · rename_i hn
    injection hr with hr
    subst hr
    refine con_of fun w X vs hG hv => ?_
    obtain ⟨v, u, rfl, hv1, hu⟩ := a2_inv hv
    obtain rfl := str_inv hu
    rcases strs_inv hv1 with ⟨rfl, p, c, rfl⟩ | ⟨bk, o, c, rfl, hc, hb, hcells⟩
    · refine (h0 p c sep w).mono ?_
      rintro e w' ⟨rfl, rfl⟩
      exact ⟨⟨_, rfl, fun M => .str _⟩, Fr.refl _ _⟩
    · refine (h bk o c xs sep w hcells hb hn.1 hc hn.2).mono ?_
      rintro e w' ⟨rfl, hw⟩
      exact ⟨⟨_, rfl, fun M => .str _⟩, fr_below hd hw⟩
  · cases hr

/-! ### strings.Split, Count, TrimSuffix, HasPrefix, IndexByte -/
open Classical in
noncomputable def splitF (s sep : ByteArray) : Option (List ByteArray) := if s.size < 4294967281 ∧ 1 ≤ sep.size then some (Lib.splitB sep 0 (Lib.countB s sep) s) else none
theorem split_con {P : Program} {f : FuncId} {s sep : ByteArray} {r : List ByteArray} {g e : Nat} (hM : ∀ w, GI w → ∃ m, w.cell? ⟨g, 0, none⟩ = some (.int .i64 m))
    (h : ∀ (s sep : ByteArray) (m : Int) (w : World) (_ : s.size < 4294967281) (_ : w.cell? ⟨g, 0, none⟩ = some (.int .i64 m)) (_ : 1 ≤ sep.size),
      Calls P f #[.string s, .string sep] w fun en w' => en = .returned (.slice (some ⟨w.heap.size, 0, none⟩) (Lib.countB s sep + 1) (Lib.countB s sep + 1)) ∧ w' = w.alloc (.cells ((Lib.splitB sep 0 (Lib.countB s sep) s).map Value.string).toArray e))
    (hr : splitF s sep = some r) : ConF P f [.str s, .str sep] e 1 (r.map fun s => [.str s]) := by
  unfold splitF at hr
  split at hr
  · rename_i hn
    injection hr with hr
    intro w X hX vs hv
    obtain ⟨v, u, rfl, hv1, hu⟩ := a2_inv hv
    obtain rfl := str_inv hv1
    obtain rfl := str_inv hu
    obtain ⟨m, hm⟩ := hM w hX.gi
    refine (h s sep m w hn.1 hm hn.2).mono ?_
    rintro en w' ⟨rfl, rfl⟩
    have hlen : r.length = Lib.countB s sep + 1 := by rw [← hr]; exact Lib.splitB_all sep hn.2 0 _ s rfl
    rw [hr]
    have hfl : ∀ l : List ByteArray, (l.map fun s => [PV.str s]).flatten = l.map PV.str := fun l => by
      induction l with
      | nil => rfl
      | cons y l ih => rw [List.map_cons, List.flatten_cons, ih]; rfl
    have hnew : (w.alloc (.cells (r.map Value.string).toArray e)).heap[w.heap.size]? = some (.cells (r.map Value.string).toArray e (0, 0)) := World.alloc_heap_new w _
    have hle := Lib.countB_le sep hn.2 s.size s (Nat.le_refl _)
    refine ⟨_, rfl, ⟨r.map Value.string, ⟨?_, .inr ⟨w.heap.size, Lib.countB s sep + 1, (r.map Value.string).toArray, ?_⟩⟩, ?_, ?_⟩, ?_, ?_⟩
    · simp [hlen]
    · have h63 := hn.1
      refine ⟨by rw [List.length_map, hlen], Nat.zero_le _, hnew, by rw [List.length_map, hlen]; exact Nat.le_refl _, by unfold maxLen; omega, by simp [hlen], by rw [List.length_map, Nat.mul_one]; exact List.take_of_length_le (by simp)⟩
    · intro x hx
      obtain ⟨y, _, rfl⟩ := List.mem_map.1 hx
      rfl
    · rw [hfl]
      refine ⟨by simp, fun i x v h1 h2 => ?_⟩
      rw [List.getElem?_map] at h1 h2
      cases hq : r[i]? with
      | none => rw [hq] at h1; cases h1
      | some y => rw [hq] at h1 h2; injection h1 with h1; injection h2 with h2; subst h1 h2; exact .str _
    · intro b hb
      injection hb with hb
      rw [← hb]
      exact Nat.le_refl _
    · refine ⟨rfl, rfl, rfl, by simp, fun b hb _ => Below.heap_alloc w _ b hb, DL.refl _⟩
  · cases hr
open Classical in
noncomputable def countF (s sep : ByteArray) : Option Int := if s.size < 4294967281 ∧ 1 ≤ sep.size then some (Lib.countB s sep) else none
theorem count_con {P : Program} {f : FuncId} {s sep : ByteArray} {r : Int} {g : Nat} (hM : ∀ w, GI w → ∃ m, w.cell? ⟨g, 0, none⟩ = some (.int .i64 m))
    (h : ∀ (s sep : ByteArray) (m : Int) (w : World) (_ : s.size < 4294967281) (_ : w.cell? ⟨g, 0, none⟩ = some (.int .i64 m)) (_ : 1 ≤ sep.size), Calls P f #[.string s, .string sep] w fun e w' => e = .returned (.int .i64 (Lib.countB s sep)) ∧ w' = w)
    (hr : countF s sep = some r) : Con P f false [] [.str s, .str sep] (.int .i64 r) [] := by
  unfold countF at hr
  split at hr
  · rename_i hn
    injection hr with hr
    subst hr
    refine con_of fun w X vs hG hv => ?_
    obtain ⟨v, u, rfl, hv1, hu⟩ := a2_inv hv
    obtain rfl := str_inv hv1
    obtain rfl := str_inv hu
    obtain ⟨m, hm⟩ := hM w hG
    refine (h s sep m w hn.1 hm hn.2).mono ?_
    rintro e w' ⟨rfl, rfl⟩
    exact ⟨⟨_, rfl, fun M => .int _ _⟩, Fr.refl _ _⟩
  · cases hr
open Classical in
noncomputable def trimF (s p : ByteArray) : Option ByteArray := if s.size ≤ 9223372036854775807 then some ⟨(Lib.trimSuffix s.data.toList p.data.toList).toArray⟩ else none
theorem trim_con {P : Program} {f : FuncId} {s p r : ByteArray}
    (h : ∀ (s p : ByteArray) (w : World) (_ : s.size ≤ 9223372036854775807), Calls P f #[.string s, .string p] w fun e w' => e = .returned (.string ⟨(Lib.trimSuffix s.data.toList p.data.toList).toArray⟩) ∧ w' = w)
    (hr : trimF s p = some r) : Con P f false [] [.str s, .str p] (.str r) [] := by
  unfold trimF at hr
  split at hr
  · rename_i hn
    injection hr with hr
    subst hr
    refine con_of fun w X vs hG hv => ?_
    obtain ⟨v, u, rfl, hv1, hu⟩ := a2_inv hv
    obtain rfl := str_inv hv1
    obtain rfl := str_inv hu
    refine (h s p w hn).mono ?_
    rintro e w' ⟨rfl, rfl⟩
    exact ⟨⟨_, rfl, fun M => .str _⟩, Fr.refl _ _⟩
  · cases hr
def hasPrefixF (s p : ByteArray) : Option Bool := some (Lib.hasPrefix s.data.toList p.data.toList)
theorem hasPrefix_con {P : Program} {f : FuncId} {s p : ByteArray} {r : Bool}
    (h : ∀ (s p : ByteArray) (w : World), Calls P f #[.string s, .string p] w fun e w' => e = .returned (.bool (Lib.hasPrefix s.data.toList p.data.toList)) ∧ w' = w)
    (hr : hasPrefixF s p = some r) : Con P f false [] [.str s, .str p] (.bool r) [] := by
  injection hr with hr
  subst hr
  refine con_of fun w X vs hG hv => ?_
  obtain ⟨v, u, rfl, hv1, hu⟩ := a2_inv hv
  obtain rfl := str_inv hv1
  obtain rfl := str_inv hu
  refine (h s p w).mono ?_
  rintro e w' ⟨rfl, rfl⟩
  exact ⟨⟨_, rfl, fun M => .bool _⟩, Fr.refl _ _⟩
def indexByteF (s : ByteArray) (c : Int) : Option Int := some (Lib.indexByte s.data.toList c.toNat.toUInt8)
theorem indexByte_con {P : Program} {f : FuncId} {s : ByteArray} {c r : Int}
    (h : ∀ (s : ByteArray) (c : Int) (w : World), Calls P f #[.string s, .int .u8 c] w fun e w' => e = .returned (.int .i64 (Lib.indexByte s.data.toList c.toNat.toUInt8)) ∧ w' = w)
    (hr : indexByteF s c = some r) : Con P f false [] [.str s, .int .u8 c] (.int .i64 r) [] := by
  injection hr with hr
  subst hr
  refine con_of fun w X vs hG hv => ?_
  obtain ⟨v, u, rfl, hv1, hu⟩ := a2_inv hv
  obtain rfl := str_inv hv1
  obtain rfl := int_inv hu
  refine (h s c w).mono ?_
  rintro e w' ⟨rfl, rfl⟩
  exact ⟨⟨_, rfl, fun M => .int _ _⟩, Fr.refl _ _⟩

/-! ### the package variables -/
theorem GI.cell {w : World} (h : GI w) {g : Nat} {p : Value → Prop} (hm : (g, fun o : Obj => ∃ v T fr, o = .cells #[v] T fr ∧ p v) ∈ globs) : ∃ v, w.cell? ⟨g, 0, none⟩ = some v ∧ p v := by
  obtain ⟨o, ho, v, T, fr, rfl, hp⟩ := h _ hm
  exact ⟨v, by unfold World.cell?; simp only; rw [ho]; rfl, hp⟩
theorem GI.row {P : Program} {w : World} (h : GI w) {g : Nat} {name : String} {cs : Array Value} (hn : P.globalNamed name = some g) (hm : (g, fun o : Obj => ∃ T fr, o = .cells cs T fr) ∈ globs) : w.var? P name = some cs := by
  obtain ⟨o, ho, T, fr, rfl⟩ := h _ hm
  unfold World.var?
  simp only at ho
  rw [hn, Option.bind_some, ho]
end Go.TQ
