/-
  slices.Collect of strings.Lines, walked: the iterator writes the box of its string. (append_seq: lines of the kit's proof of slices.AppendSeq, turned to an iterator that turns old blocks.) Conditions: draws are not counted.
-/
import Derived.Test.YtnhgcpiljggmmaaGreatDoorLibs
import Derived.RangeFuncLeaves
import Derived.Shelf.SlIter.Collect
import Derived.Maps.AppendAt
set_option linter.unusedVariables false
set_option linter.unusedSimpArgs false
namespace Go.Proofs
open Go.RowKit Go.Maps Go.Sort Go.Shelf
variable {P : Program} {ρ : Ren}

set_option maxRecDepth 100000 in
set_option maxHeartbeats 2000000 in
theorem append_seq (L : SlLaysZ.n11 P ρ) (F : Fence) (n : Nat) (h11 : F.fn (ρ.f 11)) (hro : F.round = none) (hn : 2 ≤ n) (g : Nat) (lb : Array Value) (hFg : F.fn g) (eg : ∀ args w, (callFunc g args).run P w = .ok (.enter g args) w) (w : World)
    (S : World → List (List UInt8) → Prop)
    (hseq : ∀ (fn : FuncId) (hfn : F.fn fn) (Bs l D : Nat) (W : World), w.heap.size ≤ Bs → w.heap.size ≤ l → w.heap.size ≤ D → Bs ≠ l → D ≠ l → D ≠ Bs → AnyZ.ApAt ρ w fn (.func (.func g) #[] lb) Bs l D [] W →
      CallsIn F (n - 1) P g (#[.func (.yield l) #[] #[]] ++ lb) W fun e W' => (∃ v, e = .returned v) ∧ ∃ w2 ss, w2.heap.size = w.heap.size ∧ S w2 ss ∧ AnyZ.ApAt ρ w2 fn (.func (.func g) #[] lb) Bs l D ss W') :
    CallsIn F n P (ρ.f 11) #[.slice none 0 0, .func (.func g) #[] lb] w fun e w' => ∃ (v : Value) (w2 : World) (ss : List (List UInt8)), e = .returned v ∧ w2.heap.size = w.heap.size ∧ S w2 ss ∧ w'.ownsRow w2.heap.size (ρ.t 26) 1 v ss.length (ss.map encStr) ∧ Below w2.heap.size w2 w' := by
  have h1 : 1 ≤ n := by omega
  have mixed := L.mixed; have t0 := L.t0; have a0 := L.a0; have z0 := L.z0; have v0 := L.v0; have t24 := L.t24; have a24 := L.a24; have z24 := L.z24; have v24 := L.v24; have t26 := L.t26; have a26 := L.a26; have z26 := L.z26; have v26 := L.v26; have t28 := L.t28; have a28 := L.a28; have z28 := L.z28; have v28 := L.v28
  have hne : ρ.t 24 ≠ ρ.t 26 := fun e => by have h := L.t24; rw [e, L.t26] at h; cases h
  have u0 := run_underlying L.t0; have u24 := run_underlying L.t24; have u26 := run_underlying L.t26; have u28 := run_underlying L.t28
  obtain ⟨_, _, FG⟩ := L.f11
  refine callsIn_of_wp_marks FG rfl h11 ?_ hro
  simp only [SlBodyZ.n11_ntmps ρ, List.size_toArray, List.length_cons, List.length_nil, Nat.reduceAdd, Nat.reduceSub, Array.replicate_succ, Array.replicate_zero, List.push_toArray, List.append_toArray, List.nil_append, List.cons_append]
  gi_wp2
  refine wpIn_rangeFunc ?_
  intro fn hfn
  rw [hro]
  obtain ⟨W0, hW0⟩ : ∃ W0, w.alloc (.cells #[.slice none 0 0] (ρ.t 24)) = W0 := ⟨_, rfl⟩
  have hs0 : W0.heap.size = w.heap.size + 1 := by rw [← hW0]; simp
  have hv0 : W0.heap[w.heap.size]? = some (.cells #[.slice none 0 0] (ρ.t 24) (0, 0)) := by rw [← hW0]; exact World.alloc_heap_new w _
  have hb0 : Below w.heap.size w W0 := by rw [← hW0]; exact (Below.refl _ w).alloc (Nat.le_refl _) _
  rw [hW0]
  obtain ⟨W1, hW1⟩ : ∃ W1, (W0.alloc (.deferred (some []))).alloc (.loop (AnyZ.apRec ρ fn (.func (.func g) #[] lb) w.heap.size W0.heap.size .ready none)) = W1 := ⟨_, rfl⟩
  have hold : ∀ k, k < W0.heap.size → W1.heap[k]? = W0.heap[k]? := fun k hk => by
    rw [← hW1]; exact (Below.heap_alloc _ _ k (by simp; omega)).trans (Below.heap_alloc _ _ k hk)
  have hb1 : Below w.heap.size w W1 := by rw [← hW1]; exact (hb0.alloc hb0.size _).alloc (by have := hb0.size; simp; omega) _
  have hs1 : W1.heap.size = W0.heap.size + 2 := by rw [← hW1]; simp
  have hM : AnyZ.ApAt ρ w fn (.func (.func g) #[] lb) w.heap.size (W0.heap.size + 1) W0.heap.size [] W1 :=
    ⟨⟨_, (hold w.heap.size (by omega)).trans hv0, ⟨rfl, .inl ⟨rfl, rfl⟩⟩, by simp⟩,
     by rw [← hW1]; have := World.alloc_heap_new (W0.alloc (.deferred (some []))) (.loop (AnyZ.apRec ρ fn (.func (.func g) #[] lb) w.heap.size W0.heap.size .ready none)); rwa [World.size_alloc] at this,
     by rw [← hW1]; exact (Below.heap_alloc _ _ _ (by simp)).trans (World.alloc_heap_new W0 _), hb1⟩
  refine ⟨W0.heap.size + 1, [{ target := .collected W0.heap.size, args := #[] }], W1, { target := .fn (.func g) lb, args := #[.func (.yield (W0.heap.size + 1)) #[] #[]] }, W1, g,
    #[.func (.yield (W0.heap.size + 1)) #[] #[]] ++ lb, W1, ?_, ?_, ?_, ?_, fun _ => h1, ?_⟩
  · rw [← hW1]; exact run_enterLoop_outer _ _ _ _ _
  · simp [resolve, go_sem]
  · intro f' hf'; simp [Target.leads] at hf'; subst hf'; exact hFg
  · simp [invoke, go_sem, eg]
  · refine (hseq fn hfn w.heap.size (W0.heap.size + 1) W0.heap.size W1 (Nat.le_refl _) (by omega) (by omega) (by omega) (by omega) (by omega) hM).mono ?_
    rintro e W2 ⟨⟨v0, rfl⟩, w2, ss, hsz2, hS, h2⟩
    obtain ⟨v, hv, hrow, hnil⟩ := h2.box
    have hend := run_endLoop (P := P) h2.L (by simp [AnyZ.apRec])
    obtain ⟨W3, hW3⟩ : ∃ W3, W2.putObj (W0.heap.size + 1) (.loop { AnyZ.apRec ρ fn (.func (.func g) #[] lb) w.heap.size W0.heap.size .ready none with state := .exhausted }) = W3 := ⟨_, rfl⟩
    rw [hW3] at hend
    have hg3 : W2.grownBy W3 (some (W0.heap.size + 1)) := by rw [← hW3]; exact grownBy_putObj_a _ _ _
    have hv3 : W3.heap[w.heap.size]? = some (.cells #[v] (ρ.t 24) (0, 0)) := by rw [← hW3]; exact (World.putObj_heap_other (by omega)).trans hv
    have hK3 : W3.heap[W0.heap.size]? = some (.deferred (some [])) := by rw [← hW3]; exact (World.putObj_heap_other (by omega)).trans h2.K
    have hrow3 := hrow.kept hg3 (ownsRow_ne_a hrow h2.L (fun cur e => by first | cases e | exact hne (Obj.cells.inj e).2.1))
    have hb3 : Below w2.heap.size w2 W3 := h2.below.grown hg3 h2.below.size (fun k e => by cases e; omega)
    obtain ⟨hc3, hf3⟩ := cell_of_box_a hv3
    clear hW3
    refine ⟨none, W3, hend, ?_⟩
    gi_wp2
    rw [← hs0]
    refine ⟨by simp, .inl ⟨_, _, rfl, run_takeDeferred hK3, ?_⟩⟩
    exact ⟨_, results_tmp rfl _ _ _, v, w2, ss, rfl, hsz2, hS, hrow3.kept (grownBy_putObj_a _ _ _) (ownsRow_ne_a hrow3 hK3 (fun cur e => by first | cases e | exact hne (Obj.cells.inj e).2.1)), hb3.grown (grownBy_putObj_a _ _ _) hb3.size (fun k e => by cases e; omega)⟩


end Go.Proofs
namespace Go.Proofs.YtnhgcpiljggmmaaGreatDoor
open Go.TQ Go.RowKit Go.Proofs Go.Maps Go.Sort Go.Shelf

/-- where the first line ends -/
def lineEnd (s : ByteArray) : Int := Lib.indexByte s.data.toList 10
theorem lineEnd_lt (s : ByteArray) (h : 0 ≤ lineEnd s) : (lineEnd s).toNat < s.size := by
  obtain ⟨o, ho⟩ : ∃ o : Nat, lineEnd s = o := ⟨(lineEnd s).toNat, by omega⟩
  have := (Lib.indexByte_some ho).1
  have h2 := (List.getElem?_eq_some_iff.1 this).1
  rw [ho]
  simpa using h2
/-- the lines of a text, each with its end -/
def linesGo : Nat → ByteArray → List ByteArray
  | 0, _ => []
  | f + 1, s => if s.size = 0 then [] else
      if 0 ≤ lineEnd s then s.extract 0 ((lineEnd s).toNat + 1) :: linesGo f (s.extract ((lineEnd s).toNat + 1) s.size) else [s]

theorem linesGo_fuel : ∀ (f g : Nat) (s : ByteArray), s.size ≤ f → s.size ≤ g → linesGo f s = linesGo g s
  | 0, 0, _, _, _ => rfl
  | 0, g + 1, s, h, _ => by simp only [linesGo]; rw [if_pos (by omega)]
  | f + 1, 0, s, _, h => by simp only [linesGo]; rw [if_pos (by omega)]
  | f + 1, g + 1, s, hf, hg => by
    simp only [linesGo]
    split
    · rfl
    · split
      · rw [linesGo_fuel f g _ (by rw [ByteArray.size_extract]; omega) (by rw [ByteArray.size_extract]; omega)]
      · rfl
/-- between two rounds -/
def LAt (w1 : World) (Bl : Nat) (fn : FuncId) (sv : Value) (Bs l D : Nat) (pre : List ByteArray) (rest : ByteArray) (W : World) : Prop :=
  AnyZ.ApAt Tryz.appSeqL_ren (w1.setCell ⟨Bl, 0, none⟩ (.string rest)) fn sv Bs l D (pre.map (·.data.toList)) W
theorem setCell_size (w : World) (p : Addr) (v : Value) : (w.setCell p v).heap.size = w.heap.size := by simp [World.setCell]
theorem enc_str (s : ByteArray) : encStr s.data.toList = .string s := by simp [encStr]
section
variable {w1 : World} {Bl : Nat} {fn : FuncId} {sv : Value} {Bs l D : Nat} {s0 : ByteArray} (hBl : w1.heap[Bl]? = some (.cells #[.string s0] 9 (0, 0)))
 include hBl
theorem LAt.box {pre : List ByteArray} {rest : ByteArray} {W : World} (h : LAt w1 Bl fn sv Bs l D pre rest W) : W.heap[Bl]? = some (.cells #[.string rest] 9 (0, 0)) := by
  have hlt := (Array.getElem?_eq_some_iff.1 hBl).1
  rw [(AnyZ.ApAt.below h).block Bl (by rw [setCell_size]; exact hlt)]
  exact heap_setCell_box_a _ hBl
theorem LAt.store {pre : List ByteArray} {rest : ByteArray} {W : World} (h : LAt w1 Bl fn sv Bs l D pre rest W) (h1 : w1.heap.size ≤ Bs) (h2 : w1.heap.size ≤ l) (h3 : w1.heap.size ≤ D) (rest' : ByteArray) :
    LAt w1 Bl fn sv Bs l D pre rest' (W.setCell ⟨Bl, 0, none⟩ (.string rest')) := by
  have hlt := (Array.getElem?_eq_some_iff.1 hBl).1
  have hb := LAt.box hBl h
  have hoth : ∀ k, k ≠ Bl → (W.setCell ⟨Bl, 0, none⟩ (.string rest')).heap[k]? = W.heap[k]? := fun k hk => Below.heap_setCell _ _ _ k hk
  obtain ⟨v, hv, hr, hn⟩ := AnyZ.ApAt.box h
  refine ⟨⟨v, (hoth Bs (by omega)).trans hv, ⟨hr.1, ?_⟩, hn⟩, (hoth l (by omega)).trans (AnyZ.ApAt.L h), (hoth D (by omega)).trans (AnyZ.ApAt.K h), ?_⟩
  · rcases hr.2 with h0 | ⟨g, cap, cur, e1, e2, e3, e4⟩
    · exact .inl h0
    · rw [setCell_size] at e2
      exact .inr ⟨g, cap, cur, e1, by rw [setCell_size]; exact e2, (hoth g (by omega)).trans e3, e4⟩
  · have hbl := AnyZ.ApAt.below h
    refine ⟨hbl.os, hbl.tape, hbl.output, by rw [setCell_size, setCell_size]; have := hbl.size; rw [setCell_size] at this; exact this, fun k hk => ?_⟩
    rw [setCell_size] at hk
    by_cases e : k = Bl
    · subst e
      rw [heap_setCell_box_a _ hb, heap_setCell_box_a _ hBl]
    · rw [hoth k e, Below.heap_setCell _ _ _ k e, hbl.block k (by rw [setCell_size]; exact hk), Below.heap_setCell _ _ _ k e]
end

theorem LAt.drew {w1 : World} {Bl : Nat} {fn : FuncId} {sv : Value} {Bs l D : Nat} {pre : List ByteArray} {rest : ByteArray} {W : World} (h : LAt w1 Bl fn sv Bs l D pre rest W) : LAt w1 Bl fn sv Bs l D pre rest W.drew := by
  obtain ⟨v, hv, hr, hn⟩ := AnyZ.ApAt.box h
  have hb := AnyZ.ApAt.below h
  have a1 := AnyZ.ApAt.L h
  have a2 := AnyZ.ApAt.K h
  exact ⟨⟨v, hv, hr, hn⟩, a1, a2, ⟨hb.os, hb.tape, hb.output, hb.size, hb.block⟩⟩
theorem map_snoc (pre : List ByteArray) (x : ByteArray) : pre.map (·.data.toList) ++ [x.data.toList] = (pre ++ [x]).map (·.data.toList) := by simp
/-- what is left to read -/
def restSize (Bl : Nat) (w : World) : Nat := match w.cell? ⟨Bl, 0, none⟩ with
  | some (.string r) => r.size
  | _ => 0
theorem LAt.cell {w1 : World} {Bl : Nat} {fn : FuncId} {sv : Value} {Bs l D : Nat} {s0 : ByteArray} (hBl : w1.heap[Bl]? = some (.cells #[.string s0] 9 (0, 0))) {pre : List ByteArray} {rest : ByteArray} {W : World} (h : LAt w1 Bl fn sv Bs l D pre rest W) :
    W.cell? ⟨Bl, 0, none⟩ = some (.string rest) ∧ W.frozen? ⟨Bl, 0, none⟩ = false := cell_of_box_a (LAt.box hBl h)

set_option maxRecDepth 100000 in
set_option maxHeartbeats 2000000 in
theorem iter_walk {w1 : World} {Bl : Nat} {fn : FuncId} {sv : Value} {Bs l D : Nat} {s0 : ByteArray} (hBl : w1.heap[Bl]? = some (.cells #[.string s0] 9 (0, 0))) (h1 : w1.heap.size ≤ Bs) (h2 : w1.heap.size ≤ l) (h3 : w1.heap.size ≤ D) (hd1 : Bs ≠ l) (hd2 : D ≠ l) (hd3 : D ≠ Bs)
    (s : ByteArray) (hs : s.size ≤ 8796093022208) (W : World) (h : LAt w1 Bl fn sv Bs l D [] s W) (n : Nat) :
    CallsIn Fence.wide n Tryz.prog 52 #[.func (.yield l) #[] #[], .pointer (some ⟨Bl, 0, none⟩)] W fun e W' => (∃ v, e = .returned v) ∧ LAt w1 Bl fn sv Bs l D (linesGo s.size s) ⟨#[]⟩ W' := by
  refine callsIn_of_wp Tryz.func52 rfl trivial ?_ rfl
  simp only [Tryz.ntmps52, List.size_toArray, List.length_cons, List.length_nil, Nat.reduceAdd, Nat.reduceSub, Array.replicate_succ, Array.replicate_zero, List.push_toArray, List.append_toArray, List.nil_append, List.cons_append]
  gi_wp2
  gi_loopw [] (fun wr => ∃ (pre : List ByteArray) (rest : ByteArray), LAt w1 Bl fn sv Bs l D pre rest wr ∧ pre ++ linesGo rest.size rest = linesGo s.size s ∧ pre.length + rest.size ≤ s.size) (fun wr => restSize Bl wr)
  case atStart => exact ⟨[], s, h, rfl, by simp⟩
  case round =>
    obtain ⟨pre, rest, hA, hpre, hlen⟩ := hrel
    obtain ⟨hc, hf⟩ := LAt.cell hBl hA
    by_cases h0 : rest.size = 0
    · gi_wp2
      go_end0
      rw [h0] at hpre
      obtain rfl : rest = ⟨#[]⟩ := by
        obtain ⟨d⟩ := rest
        have : d = #[] := Array.eq_empty_of_size_eq_zero h0
        rw [this]
      rw [← hpre]
      simp only [linesGo, List.append_nil]
      exact ⟨⟨_, rfl⟩, hA⟩
    · gi_wp2
      refine ⟨trivial, (fun h => by cases h), (callsIn_wide.2 (Tryz.strings_IndexByte rest 10 wr)).mono ?_⟩
      rintro e w' ⟨rfl, rfl⟩
      rw [show Lib.indexByte rest.data.toList (10 : Int).toNat.toUInt8 = lineEnd rest from rfl]
      obtain ⟨f, hf1⟩ : ∃ f, rest.size = f + 1 := ⟨rest.size - 1, by omega⟩
      rw [hf1] at hpre
      simp only [linesGo, if_neg h0] at hpre
      have hle := lineEnd_lt rest
      have hge : -1 ≤ lineEnd rest := Lib.indexByte_ge _ _
      by_cases hE : 0 ≤ lineEnd rest
      · rw [if_pos hE] at hpre
        have hlt := hle hE
        obtain ⟨k, hk⟩ : ∃ k : Nat, lineEnd rest = k := ⟨(lineEnd rest).toNat, by omega⟩
        rw [hk] at hpre hlt hE ⊢
        simp only [Int.toNat_natCast] at hpre hlt
        clear hge hle hk
        gi_wp2
        gi_region
        have hx1 : (rest.extract (k + 1) (f + 1)).size = f - k := by rw [ByteArray.size_extract]; omega
        rw [show rest.extract (k + 1) rest.size = rest.extract (k + 1) (f + 1) by rw [hf1]] at hpre
        have hA2 := LAt.drew (LAt.store hBl hA h1 h2 h3 (rest.extract (k + 1) (f + 1)))
        generalize rest.extract (k + 1) (f + 1) = rest' at hA2 hx1 hpre ⊢
        generalize rest.extract 0 (k + 1) = line at hpre ⊢
        obtain ⟨fn', tmps, assign, body, hy, hR⟩ := AnyZ.apYield Tryz.appSeqL Fence.wide (n - 1) (w1.setCell ⟨Bl, 0, none⟩ (.string rest')) fn trivial sv Bs l D hd1 hd2 hd3 (by rw [setCell_size]; exact h1) (by rw [setCell_size]; exact h2) 8796093022208 (by decide) (by decide) (pre.map fun b : ByteArray => b.data.toList) line.data.toList _ hA2 (by rw [List.length_map]; omega)
        rw [enc_str] at hy
        gi_wp2
        refine ⟨(fun h => by cases h), hR.mono ?_⟩
        rintro e W3 ⟨rfl, hJ3, hk3⟩
        rw [map_snoc] at hJ3
        have hJ4 : LAt w1 Bl fn sv Bs l D (pre ++ [line]) rest' W3 := hJ3
        gi_wp2
        go_roundw
        case rel =>
          refine ⟨pre ++ [line], rest', hJ4, ?_, by rw [List.length_append, hx1]; simp; omega⟩
          rw [← hpre, List.append_assoc, linesGo_fuel rest'.size f rest' (Nat.le_refl _) (by omega)]
          rfl
        case measure =>
          simp only [restSize, (LAt.cell hBl hJ4).1, hc]
          omega
      · rw [if_neg hE] at hpre
        have hE1 : lineEnd rest = -1 := by omega
        rw [hE1]
        have hA2 := LAt.store hBl hA h1 h2 h3 ⟨#[]⟩
        obtain ⟨fn', tmps, assign, body, hy, hR⟩ := AnyZ.apYield Tryz.appSeqL Fence.wide (n - 1) (w1.setCell ⟨Bl, 0, none⟩ (.string ⟨#[]⟩)) fn trivial sv Bs l D hd1 hd2 hd3 (by rw [setCell_size]; exact h1) (by rw [setCell_size]; exact h2) 8796093022208 (by decide) (by decide) (pre.map fun b : ByteArray => b.data.toList) rest.data.toList _ hA2 (by rw [List.length_map]; omega)
        rw [enc_str] at hy
        gi_wp2
        refine ⟨(fun h => by cases h), hR.mono ?_⟩
        rintro e W3 ⟨rfl, hJ3, hk3⟩
        rw [map_snoc] at hJ3
        have hJ4 : LAt w1 Bl fn sv Bs l D (pre ++ [rest]) ⟨#[]⟩ W3 := hJ3
        gi_wp2
        go_roundw
        case rel =>
          refine ⟨pre ++ [rest], ⟨#[]⟩, hJ4, ?_, by rw [List.length_append]; simp only [List.length_cons, List.length_nil]; show pre.length + 1 + 0 ≤ s.size; omega⟩
          rw [← hpre]
          show pre ++ [rest] ++ [] = _
          rw [List.append_nil]
        case measure =>
          simp only [restSize, (LAt.cell hBl hJ4).1, hc]
          show 0 < rest.size
          omega
theorem LAt.start {w1 : World} {Bl : Nat} {fn : FuncId} {sv : Value} {Bs l D : Nat} {s : ByteArray} (hBl : w1.heap[Bl]? = some (.cells #[.string s] 9 (0, 0))) {W : World} (h : AnyZ.ApAt Tryz.appSeqL_ren w1 fn sv Bs l D [] W) : LAt w1 Bl fn sv Bs l D [] s W := by
  obtain ⟨v, hv, hr, hn⟩ := AnyZ.ApAt.box h
  have hb := AnyZ.ApAt.below h
  have a1 := AnyZ.ApAt.L h
  have a2 := AnyZ.ApAt.K h
  refine ⟨⟨v, hv, ⟨hr.1, ?_⟩, hn⟩, a1, a2, ⟨hb.os, hb.tape, hb.output, by rw [setCell_size]; exact hb.size, fun k hk => ?_⟩⟩
  · rcases hr.2 with h0 | ⟨g, cap, cur, e1, e2, e3, e4⟩
    · exact .inl h0
    · exact .inr ⟨g, cap, cur, e1, by rw [setCell_size]; exact e2, e3, e4⟩
  · rw [setCell_size] at hk
    rw [hb.block k hk]
    by_cases e : k = Bl
    · subst e
      rw [heap_setCell_box_a _ hBl, hBl]
    · rw [Below.heap_setCell _ _ _ k e]

set_option maxRecDepth 100000 in
set_option maxHeartbeats 2000000 in
theorem lines_walk (s : ByteArray) (w : World) : Calls Tryz.prog 27 #[.string s] w fun e w' => e = .returned (.func (.func 52) #[] #[.pointer (some ⟨w.heap.size, 0, none⟩)]) ∧ w' = w.alloc (.cells #[.string s] 9) := by
  go_enter Tryz.func27, Tryz.ntmps27
  go_wp2
  go_ret
  exact ⟨rfl, rfl⟩

set_option maxRecDepth 100000 in
set_option maxHeartbeats 2000000 in
theorem collect_walk (s : ByteArray) (hs : s.size ≤ 8796093022208) (w1 : World) (Bl : Nat) (hBl : w1.heap[Bl]? = some (.cells #[.string s] 9 (0, 0))) :
    Calls Tryz.prog 26 #[.func (.func 52) #[] #[.pointer (some ⟨Bl, 0, none⟩)]] w1 fun e w' => ∃ (v : Value) (w2 : World), e = .returned v ∧ w2 = w1.setCell ⟨Bl, 0, none⟩ (.string ⟨#[]⟩) ∧
      w'.ownsRow w2.heap.size 9 1 v (linesGo s.size s).length ((linesGo s.size s).map Value.string) ∧ RowKit.Below w2.heap.size w2 w' := by
  have hseq : CallsIn Fence.wide 3 Tryz.prog 51 #[.slice none 0 0, .func (.func 52) #[] #[.pointer (some ⟨Bl, 0, none⟩)]] w1 fun e w' => ∃ (v : Value) (w2 : World) (ss : List (List UInt8)), e = .returned v ∧ w2.heap.size = w1.heap.size ∧
      (w2 = w1.setCell ⟨Bl, 0, none⟩ (.string ⟨#[]⟩) ∧ ss = (linesGo s.size s).map fun b : ByteArray => b.data.toList) ∧ w'.ownsRow w2.heap.size 9 1 v ss.length (ss.map encStr) ∧ RowKit.Below w2.heap.size w2 w' :=
    append_seq Tryz.appSeqL Fence.wide 3 trivial rfl (by omega) 52 #[.pointer (some ⟨Bl, 0, none⟩)] trivial (enters_of Tryz.func52 (by kernel_rfl) rfl) w1
      (fun w2 ss => w2 = w1.setCell ⟨Bl, 0, none⟩ (.string ⟨#[]⟩) ∧ ss = (linesGo s.size s).map fun b : ByteArray => b.data.toList)
      (fun fn hfn Bs l D W h1 h2 h3 hd1 hd2 hd3 hM => by
        refine (iter_walk hBl h1 h2 h3 hd1 hd2 hd3 s hs W (LAt.start hBl hM) 2).mono ?_
        rintro e W' ⟨hv, hA⟩
        exact ⟨hv, _, _, by rw [setCell_size], ⟨rfl, rfl⟩, hA⟩)
  have hseq := callsIn_wide.1 hseq
  go_enter Tryz.func26, Tryz.ntmps26
  go_wp2_with (go_at_call 51; refine hseq.mono ?_)
  rintro e w' ⟨v, w2, ss, rfl, _, ⟨hw2, rfl⟩, hr, hb⟩
  go_wp2
  go_ret
  refine ⟨_, w2, rfl, hw2, ?_, hb⟩
  rw [List.length_map, List.map_map] at hr
  rw [show (linesGo s.size s).map Value.string = (linesGo s.size s).map (encStr ∘ fun b : ByteArray => b.data.toList) from List.map_congr_left fun b _ => (enc_str b).symm]
  exact hr

open Classical in
/-- strings.Lines, collected -/
noncomputable def linesF (s : ByteArray) : Option (List ByteArray) := if s.size ≤ 8796093022208 then some (linesGo s.size s) else none
theorem libLines : KFun.Sound Tryz.prog (U := U) (.pr 27 26 [.ty Ty.str] 9 1 Ty.str fun a => linesF a.1) := by
  refine ⟨⟨⟨_, Tryz.func27, by kernel_rfl, by kernel_rfl⟩, ⟨_, Tryz.func26, by kernel_rfl, by kernel_rfl⟩⟩, fun a r h => ?_⟩
  obtain ⟨s, u⟩ := a
  have h : linesF s = some r := h
  show ConP Tryz.prog 27 26 [.str s] 9 1 (r.map fun x : ByteArray => [PV.str x])
  unfold linesF at h
  split at h
  · rename_i hs
    injection h with h
    subst h
    intro w X hX vs hv
    obtain ⟨v, rfl, hv1⟩ := a1_inv hv
    obtain rfl := str_inv hv1
    refine (lines_walk s w).mono ?_
    rintro e w1 ⟨rfl, rfl⟩
    refine ⟨_, rfl, ?_⟩
    have hBl := World.alloc_heap_new w (.cells #[.string s] 9)
    refine (collect_walk s hs _ w.heap.size hBl).mono ?_
    rintro e w' ⟨v, w2, rfl, rfl, hr, hb⟩
    rw [setCell_size] at hr
    have hsz : (w.alloc (.cells #[.string s] 9)).heap.size = w.heap.size + 1 := by simp
    have hfl : ∀ l : List ByteArray, (l.map fun s => [PV.str s]).flatten = l.map PV.str := fun l => by
      induction l with
      | nil => rfl
      | cons y l ih => rw [List.map_cons, List.flatten_cons, ih]; rfl
    refine ⟨v, rfl, ⟨(linesGo s.size s).map Value.string, ?_, ?_, ?_⟩, ?_, ?_⟩
    · rw [List.length_map]
      exact ownsRow_base_a hr (Nat.zero_le _)
    · intro x hx
      obtain ⟨y, _, rfl⟩ := List.mem_map.1 hx
      rfl
    · rw [hfl]
      refine ⟨by simp, fun i x v h1 h2 => ?_⟩
      rw [List.getElem?_map] at h1 h2
      cases hq : (linesGo s.size s)[i]? with
      | none => rw [hq] at h1; cases h1
      | some y => rw [hq] at h1 h2; injection h1 with h1; injection h2 with h2; subst h1 h2; exact .str _
    · intro b hb1
      rcases hr.2 with ⟨rfl, _⟩ | ⟨g, cap, cur, rfl, e2, _⟩
      · cases hb1
      · injection hb1 with hb1
        simp only at hb1
        omega
    · rw [setCell_size] at hb
      refine ⟨hb.os, hb.tape, hb.output, by have := hb.size; rw [setCell_size, hsz] at this; omega, fun b hb1 _ => ?_, fun e => by cases e⟩
      rw [hb.block b (by omega), Below.heap_setCell _ _ _ b (by show b ≠ w.heap.size; omega)]
      exact Below.heap_alloc w _ b hb1
  · cases h
end Go.Proofs.YtnhgcpiljggmmaaGreatDoor
