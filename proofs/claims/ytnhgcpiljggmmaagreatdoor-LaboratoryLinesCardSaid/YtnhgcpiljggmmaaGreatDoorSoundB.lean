/-
  The operations that load and reckon addresses. Conditions: none (generic in the program).
-/
import Derived.Test.YtnhgcpiljggmmaaGreatDoorSoundA
import Derived.Laws.IdiomStrings
import Derived.Laws.Strings3
import Derived.Laws.Build
import Derived.Laws.Slices
namespace Go.TQ
open Go.RowKit
section
variable {P : Program} {E : En} {S : St} {a : Act} {w : World} {L : Nat → Value} {o : Oper} {x : PV} {wr : Option (Nat × AObj)} {Γ : Tab} {nid : Nat}

theorem run_load {t : TypeId} {y : Operand} {ad : Addr} {v : Value} (ho : o.op = .load t y) (hv : a.eval y = .pointer (some ad)) (hr : (loadVar t ad).run P w = .ok v w) : (execOp a.eval o).run P w = .ok (.value v) w := by
  simp [execOp, ho, hv, Instr.loadAt, Instr.sureAddr, hr]

theorem add_mid (b o j : Nat) : (⟨b, o, none⟩ : Addr).add j = ⟨b, o + j, none⟩ := Addr.add_mid b o j

theorem getElem?_drop_some {α : Type} {l : List α} {n i : Nat} {v : α} (h : (l.drop n)[i]? = some v) : l[n + i]? = some v := by rwa [List.getElem?_drop] at h

theorem g_load (h : Rel E S a w L) {y : Operand} {y' : Opd} {t : TypeId} {n : Option Nat} (ho : o.op = .load t y) (ht : aggN P t = some n) (hy : copd y = some y') (he : exec Γ nid S (.load n y') = some (x, wr)) : Good P E S a w o x wr := by
  have r := h.opd hy
  simp only [exec] at he
  split at he
  · rename_i id ver off e
    rw [e] at r
    split at he
    · rename_i hver
      split at he
      · rename_i cs hc
        simp only [Option.map_eq_some_iff] at he
        obtain ⟨z, hz, he⟩ := he
        injection he with h1 h2
        subst h1 h2
        obtain ⟨hN, hv⟩ := r.ptr_inv (show (S.gh L).V id = ver from hver)
        obtain ⟨b, cur, T, hL, hh, hr, _⟩ := h.box_at hN hc
        rw [show (S.gh L).L id = L id from rfl, hL] at hv
        simp only [blk, Option.map_some] at hv
        obtain ⟨v, hrun, hx⟩ := load_of (P := P) (ad := ⟨b, off, none⟩) ht (hr.drop off) (fun i u hu => by rw [add_mid]; exact cell_block hh (getElem?_drop_some hu)) hz
        exact Good.pure h (run_load ho hv hrun) hx
      · cases he
    · cases he
  · rename_i id ver k i off e
    rw [e] at r
    split at he
    · rename_i hver
      split at he
      · rename_i e0 k' es hc
        split at he
        · rename_i hk
          subst hk
          split at he
          · rename_i el hel
            simp only [Option.map_eq_some_iff] at he
            obtain ⟨z, hz, he⟩ := he
            injection he with h1 h2
            subst h1 h2
            obtain ⟨hN, hv⟩ := r.eptr_inv (show (S.gh L).V id = ver from hver)
            obtain ⟨vs, hown, hk, hr⟩ := h.row_at hN hc
            rw [show (S.gh L).L id = L id from rfl] at hv
            have hlen : el.length = k := hk el (List.mem_of_getElem? hel)
            -- the element's cells
            have hsub : RepL w (mutb E S L) (S.gh L) el ((vs.drop (i * k)).take k) := by
              have h1 := (hr.drop (i * k)).take k
              have h2 : (es.flatten.drop (i * k)).take k = el := by
                apply List.ext_getElem?
                intro j
                rw [List.getElem?_take]
                split
                · rename_i hj
                  rw [List.getElem?_drop, flatten_at es k i el hk hel j hj]
                · rw [List.getElem?_eq_none (by omega)]
              rw [h2] at h1
              exact h1
            rcases hown.2 with ⟨hL, h0⟩ | ⟨g, cap, cur, hL, hb1, hh, _, _, _, htake⟩
            · have : es = [] := List.eq_nil_of_length_eq_zero h0
              subst this
              simp at hel
            · rw [hL] at hv
              simp only [blk, Option.map_some] at hv
              obtain ⟨v, hrun, hx⟩ := load_of (P := P) (ad := ⟨g, i * k + off, none⟩) ht (hsub.drop off) (fun j u hu => by
                rw [add_mid]
                refine cell_block hh ?_
                have h1 := getElem?_drop_some hu
                rw [List.getElem?_take] at h1
                split at h1
                · rw [List.getElem?_drop, ← htake, List.getElem?_take] at h1
                  split at h1
                  · rw [← h1]; congr 1; omega
                  · cases h1
                · cases h1) hz
              exact Good.pure h (run_load ho hv hrun) hx
          · cases he
        · cases he
      · cases he
    · cases he
  · rename_i cs e
    rw [e] at r
    simp only [Option.map_eq_some_iff] at he
    obtain ⟨z, hz, he⟩ := he
    injection he with h1 h2
    subst h1 h2
    obtain ⟨ad, vs, hv, hr, hc⟩ := r.ref_inv
    obtain ⟨v, hrun, hx⟩ := load_of (P := P) (ad := ad) ht hr (fun i u hu => (hc i u hu).1) hz
    exact Good.pure h (run_load ho hv hrun) (hx.mono (Stays.of fun _ hm => hm) (Gh0.le _))
  · cases he

theorem add_add (ad : Addr) (i j : Nat) : (ad.add i).add j = ad.add (i + j) := by
  unfold Addr.add
  by_cases hi : i = 0 <;> by_cases hj : j = 0 <;> simp [hi, hj, Nat.add_assoc]

theorem ref_drop {M : Nat → Prop} {G : Gh} {cs : List PV} {ad : Addr} {vs : List Value} (hr : RepL w M Gh0 cs vs) (hc : ∀ (i : Nat) (u : Value), vs[i]? = some u → w.cell? (ad.add i) = some u ∧ ¬ M ad.block) (n : Nat) :
    Rep w M G (.ref (cs.drop n)) (.pointer (some (ad.add n))) := by
  have h1 := hr.drop n
  exact .ref _ _ _ h1.1 (fun i u hu => by rw [add_add, block_add]; exact hc _ u (getElem?_drop_some hu)) h1.2

theorem run_fieldPlace {fd : Field} {i : TypeInfo} (hi : P.info? fd.type = some i) (h0 : i.size ≠ 0) (ad : Addr) : (fieldPlace ad fd).run P w = .ok (ad.add fd.offset) w := by
  simp [fieldPlace, sizeOf, typeInfo, hi, h0]

theorem run_faddr {s : TypeId} {y : Operand} {f : Nat} {fields : Array Field} {fd : Field} {i : TypeInfo} {ad : Addr} (ho : o.op = .fieldAddr s y f) (hs : P.underlying s = some (.struct fields)) (hf : fields[f]? = some fd)
    (hi : P.info? fd.type = some i) (h0 : i.size ≠ 0) (hv : a.eval y = .pointer (some ad)) : (execOp a.eval o).run P w = .ok (.value (.pointer (some (ad.add fd.offset)))) w := by
  simp [execOp, ho, Instr.fieldAt, run_underlying hs, hf, hv, Instr.sureAddr, run_fieldPlace hi h0]

/-- a pointer into an object, known or not, is a pointer; it may be nil only if the object is gone -/
theorem Rep.ptr_shift {M : Nat → Prop} {G : Gh} {id ver off : Nat} {ad : Addr} (n : Nat) (h : Rep w M G (.ptr id ver off) (.pointer (some ad))) : Rep w M G (.ptr id ver (off + n)) (.pointer (some (ad.add n))) := by
  cases h with
  | ptr _ _ _ _ hN hV h =>
    refine .ptr _ _ _ _ hN hV (fun e => ?_)
    have := h e
    cases hb : blk (G.L id) with
    | none => rw [hb] at this; cases this
    | some b =>
      rw [hb] at this
      simp only [Option.map_some, Option.some.injEq] at this ⊢
      rw [this, add_mid]
theorem Rep.eptr_shift {M : Nat → Prop} {G : Gh} {id ver k i off : Nat} {ad : Addr} (n : Nat) (h : Rep w M G (.eptr id ver k i off) (.pointer (some ad))) : Rep w M G (.eptr id ver k i (off + n)) (.pointer (some (ad.add n))) := by
  cases h with
  | eptr _ _ _ _ _ _ hN hV h =>
    refine .eptr _ _ _ _ _ _ hN hV (fun e => ?_)
    have := h e
    cases hb : blk (G.L id) with
    | none => rw [hb] at this; cases this
    | some b =>
      rw [hb] at this
      simp only [Option.map_some, Option.some.injEq] at this ⊢
      rw [this, add_mid, Nat.add_assoc]

theorem Rel.ptr_some (h : Rel E S a w L) {id ver off : Nat} {v : Value} {cs : List PV} (r : Rep w (mutb E S L) (S.gh L) (.ptr id ver off) v) (hver : (S.H id).ver = ver) (hc : (S.H id).c = .box cs) :
    ∃ b, v = .pointer (some ⟨b, off, none⟩) ∧ L id = .pointer (some ⟨b, 0, none⟩) := by
  obtain ⟨hN, hv⟩ := r.ptr_inv (show (S.gh L).V id = ver from hver)
  obtain ⟨b, cur, T, hL, hh, hr, _⟩ := h.box_at hN hc
  rw [show (S.gh L).L id = L id from rfl, hL] at hv
  exact ⟨b, hv, hL⟩
theorem Rel.eptr_some (h : Rel E S a w L) {id ver k i off : Nat} {v : Value} {e0 k' : Nat} {es : List (List PV)} (r : Rep w (mutb E S L) (S.gh L) (.eptr id ver k i off) v) (hver : (S.H id).ver = ver) (hc : (S.H id).c = .row e0 k' es) (hi : i < es.length) :
    ∃ b n cap, v = .pointer (some ⟨b, i * k + off, none⟩) ∧ L id = .slice (some ⟨b, 0, none⟩) n cap := by
  obtain ⟨hN, hv⟩ := r.eptr_inv (show (S.gh L).V id = ver from hver)
  obtain ⟨vs, hown, hk, hr⟩ := h.row_at hN hc
  rcases hown.2 with ⟨hL, h0⟩ | ⟨g, cap, cur, hL, hb1, hh, _⟩
  · omega
  · rw [show (S.gh L).L id = L id from rfl, hL] at hv
    exact ⟨g, _, cap, hv, hL⟩

theorem g_faddr (h : Rel E S a w L) {s : TypeId} {y : Operand} {y' : Opd} {f : Nat} {fields : Array Field} {fd : Field} {i : TypeInfo} (ho : o.op = .fieldAddr s y f) (hs : P.underlying s = some (.struct fields)) (hf : fields[f]? = some fd)
    (hi : P.info? fd.type = some i) (h0 : i.size ≠ 0) (hy : copd y = some y') (he : exec Γ nid S (.faddr fd.offset y') = some (x, wr)) : Good P E S a w o x wr := by
  have r := h.opd hy
  simp only [exec] at he
  split at he
  · rename_i id ver off e
    rw [e] at r
    split at he
    · rename_i hver
      split at he
      · rename_i cs hc
        obtain ⟨rfl, rfl⟩ := some_inv he
        obtain ⟨b, hv, _⟩ := h.ptr_some r hver hc
        rw [hv] at r
        exact Good.pure h (run_faddr ho hs hf hi h0 hv) (r.ptr_shift _)
      · cases he
    · cases he
  · rename_i id ver k j off e
    rw [e] at r
    split at he
    · rename_i hver
      split at he
      · rename_i hc
        split at he
        · rename_i hj
          obtain ⟨rfl, rfl⟩ := some_inv he
          obtain ⟨b, n, cap, hv, _⟩ := h.eptr_some r hver hc hj
          rw [hv] at r
          exact Good.pure h (run_faddr ho hs hf hi h0 hv) (r.eptr_shift _)
        · cases he
      · cases he
    · cases he
  · rename_i cs e
    rw [e] at r
    obtain ⟨rfl, rfl⟩ := some_inv he
    obtain ⟨ad, vs, hv, hr, hc⟩ := r.ref_inv
    exact Good.pure h (run_faddr ho hs hf hi h0 hv) (ref_drop hr hc _)
  · cases he

theorem g_nilck (h : Rel E S a w L) {y : Operand} {y' : Opd} (ho : o.op = .nilCheck y) (hy : copd y = some y') (he : exec Γ nid S (.nilck y') = some (x, wr)) : Good P E S a w o x wr := by
  have r := h.opd hy
  simp only [exec] at he
  split at he
  · rename_i id ver off e
    rw [e] at r
    split at he
    · rename_i hver
      split at he
      · rename_i cs hc
        obtain ⟨rfl, rfl⟩ := some_inv he
        obtain ⟨b, hv, _⟩ := h.ptr_some r hver hc
        exact Good.pure (v := a.eval y) h (by simp [execOp, ho, hv]) r
      · cases he
    · cases he
  · rename_i cs e
    rw [e] at r
    obtain ⟨rfl, rfl⟩ := some_inv he
    obtain ⟨ad, vs, hv, hr, hc⟩ := r.ref_inv
    exact Good.pure (v := a.eval y) h (by simp [execOp, ho, hv]) r
  · rename_i f cs e
    rw [e] at r
    obtain ⟨rfl, rfl⟩ := some_inv he
    obtain ⟨vs, hv, hr⟩ := r.clo_inv
    exact Good.pure (v := a.eval y) h (by simp [execOp, ho, hv]) r
  · cases he

/-- a part of a row lies in it -/
theorem Rel.view_le (h : Rel E S a w L) {id k lo n : Nat} {ad : Option Addr} {c : Nat} {e0 k' : Nat} {es : List (List PV)} (hN : id < S.N) (hc : (S.H id).c = .row e0 k' es) (hat : ViewAt (L id) k lo n ad c) : lo + n ≤ es.length := by
  obtain ⟨a0, m0, c0, hl, h1, _⟩ := hat
  obtain ⟨vs, hown, hk, hr⟩ := h.row_at hN hc
  rcases hown.2 with ⟨hL, h0⟩ | ⟨g, cap, cur, hL, _⟩
  · rw [hL] at hl; injection hl with e1 e2 e3; omega
  · rw [hL] at hl; injection hl with e1 e2 e3; omega

theorem run_iaddr {t e : TypeId} {y z : Operand} {ad : Addr} {n c : Nat} {i : TypeInfo} {k : IntKind} {j : Int} (ho : o.op = .indexAddr t y z) (ht : P.underlying t = some (.slice e)) (hi : P.info? e = some i)
    (hv : a.eval y = .slice (some ad) n c) (hz : a.eval z = .int k j) (h0 : 0 ≤ j) (h1 : j < n) : (execOp a.eval o).run P w = .ok (.value (.pointer (some (ad.add (j.toNat * i.size))))) w := by
  simp [execOp, ho, Instr.indexAt, run_underlying ht, hv, hz, asIntOf, sizeOf, typeInfo, hi, h0, h1]

theorem g_iaddr (h : Rel E S a w L) {t e : TypeId} {y z : Operand} {y' z' : Opd} {i : TypeInfo} (ho : o.op = .indexAddr t y z) (ht : P.underlying t = some (.slice e)) (hi : P.info? e = some i) (hy : copd y = some y') (hz : copd z = some z')
    (he : exec Γ nid S (.iaddr i.size y' z') = some (x, wr)) : Good P E S a w o x wr := by
  have r := h.opd hy
  have rz := h.opd hz
  simp only [exec] at he
  split at he
  · rename_i kk j ej
    rw [ej] at rz
    have hj := rz.int_inv
    split at he
    · rename_i es ee
      rw [ee] at r
      split at he
      · rename_i hb
        split at he
        · rename_i el hel
          split at he
          · rename_i hlen
            obtain ⟨rfl, rfl⟩ := some_inv he
            rcases r.sl_inv with ⟨_, h0⟩ | ⟨ad, c, k, vs, hv, hk, hr, hc, _, _⟩
            · subst h0; simp at hel
            · have hk' : k = i.size := (hk el (List.mem_of_getElem? hel)).symm.trans hlen
              subst hk'
              refine Good.pure h (run_iaddr ho ht hi hv hj hb.1 hb.2) ?_
              have h2 : (es.flatten.drop (j.toNat * i.size)).take i.size = el := by
                apply List.ext_getElem?
                intro q
                rw [List.getElem?_take]
                split
                · rename_i hq
                  rw [List.getElem?_drop, flatten_at es i.size j.toNat el hk hel q hq]
                · rw [List.getElem?_eq_none (by omega)]
              have h1 := (hr.drop (j.toNat * i.size)).take i.size
              rw [h2] at h1
              refine .ref _ _ _ h1.1 (fun q u hu => ?_) h1.2
              rw [List.getElem?_take] at hu
              split at hu
              · rw [add_add, block_add]
                exact hc _ u (getElem?_drop_some hu)
              · cases hu
          · cases he
        · cases he
      · cases he
    · rename_i id ver ee
      rw [ee] at r
      split at he
      · rename_i hver
        split at he
        · rename_i e0 k' es hc
          split at he
          · rename_i hb
            obtain ⟨rfl, rfl⟩ := some_inv he
            obtain ⟨hN, hv⟩ := r.own_inv (show (S.gh L).V id = ver from hver)
            obtain ⟨vs, hown, hk, hr⟩ := h.row_at hN hc
            rcases hown.2 with ⟨hL, h0⟩ | ⟨g, cap, cur, hL, hb1, hh, _⟩
            · omega
            · rw [show (S.gh L).L id = L id from rfl, hL] at hv
              refine Good.pure h (run_iaddr ho ht hi hv hj hb.2.1 hb.2.2) ?_
              refine .eptr _ _ _ _ _ _ hN (Nat.le_of_eq hver.symm) (fun _ => ?_)
              rw [show (S.gh L).L id = L id from rfl, hL]
              simp [blk, add_mid]
          · cases he
        · cases he
      · cases he
    · rename_i id ver k0 lo m ee
      rw [ee] at r
      split at he
      · rename_i hver
        split at he
        · rename_i e0 k' es hc
          split at he
          · rename_i hb
            obtain ⟨hk1, hk0, hb0, hb1, hb2⟩ := hb
            subst hk0
            obtain ⟨rfl, rfl⟩ := some_inv he
            obtain ⟨hN, ad, c, hv, a0, m0, c0, hl, h1, h2, h3, h4⟩ := r.view_inv (show (S.gh L).V id = ver from hver)
            obtain ⟨vs, hown, hk, hr⟩ := h.row_at hN hc
            have hl : L id = .slice a0 m0 c0 := hl
            rcases hown.2 with ⟨hL, h0⟩ | ⟨g, cap, cur, hL, hb1', hh, _⟩
            · omega
            · rw [hL] at hl
              injection hl with e1 e2 e3
              subst e1 e2 e3
              rcases h4 with h4 | h4
              · omega
              · subst h4
                refine Good.pure h (run_iaddr ho ht hi hv hj hb0 hb1) ?_
                refine .eptr _ _ _ _ _ _ hN (Nat.le_of_eq hver.symm) (fun _ => ?_)
                rw [show (S.gh L).L id = L id from rfl, hL]
                simp [blk, add_mid, Nat.add_mul]
          · cases he
        · cases he
      · cases he
    · cases he
  · cases he

theorem run_aaddr {t e : TypeId} {y z : Operand} {ad : Addr} {n : Nat} {i : TypeInfo} {k : IntKind} {j : Int} (ho : o.op = .indexAddr t y z) (ht : P.underlying t = some (.array n e)) (hi : P.info? e = some i)
    (hv : a.eval y = .pointer (some ad)) (hz : a.eval z = .int k j) (h0 : 0 ≤ j) (h1 : j < n) : (execOp a.eval o).run P w = .ok (.value (.pointer (some (ad.add (j.toNat * i.size))))) w := by
  simp [execOp, ho, Instr.indexAt, Instr.sureAddr, run_underlying ht, hv, hz, asIntOf, sizeOf, typeInfo, hi, h0, h1]

theorem g_aaddr (h : Rel E S a w L) {t e : TypeId} {n : Nat} {y z : Operand} {y' z' : Opd} {i : TypeInfo} (ho : o.op = .indexAddr t y z) (ht : P.underlying t = some (.array n e)) (hi : P.info? e = some i) (hy : copd y = some y') (hz : copd z = some z')
    (he : exec Γ nid S (.aaddr i.size n y' z') = some (x, wr)) : Good P E S a w o x wr := by
  have r := h.opd hy
  have rz := h.opd hz
  simp only [exec] at he
  split at he
  · rename_i kk j ej
    rw [ej] at rz
    have hj := rz.int_inv
    split at he
    · rename_i hb
      split at he
      · rename_i id ver off e
        rw [e] at r
        split at he
        · rename_i hver
          split at he
          · rename_i cs hc
            obtain ⟨rfl, rfl⟩ := some_inv he
            obtain ⟨b, hv, _⟩ := h.ptr_some r hver hc
            rw [hv] at r
            exact Good.pure h (run_aaddr ho ht hi hv hj hb.1 hb.2) (r.ptr_shift _)
          · cases he
        · cases he
      · rename_i cs e
        rw [e] at r
        obtain ⟨rfl, rfl⟩ := some_inv he
        obtain ⟨ad, vs, hv, hr, hc⟩ := r.ref_inv
        exact Good.pure h (run_aaddr ho ht hi hv hj hb.1 hb.2) (ref_drop hr hc _)
      · cases he
    · cases he
  · cases he

theorem g_sidx (h : Rel E S a w L) {t : TypeId} {y z : Operand} {y' z' : Opd} (ho : o.op = .index t y z) (ht : P.underlying t = some .string) (hy : copd y = some y') (hz : copd z = some z')
    (he : exec Γ nid S (.sidx y' z') = some (x, wr)) : Good P E S a w o x wr := by
  have ry := h.opd hy
  have rz := h.opd hz
  simp only [exec] at he
  split at he
  · rename_i s kk n e1 e2
    rw [e1] at ry
    rw [e2] at rz
    have hv := ry.str_inv
    have hj := rz.int_inv
    simp only [Option.map_eq_some_iff] at he
    obtain ⟨b, hb, he⟩ := he
    injection he with h1 h2
    subst h1 h2
    unfold sidx at hb
    split at hb
    · rename_i h0
      simp only [Option.map_eq_some_iff] at hb
      obtain ⟨c, hc, rfl⟩ := hb
      exact Good.pure h (by simp [execOp, ho, Instr.index, run_underlying ht, hv, hj, asIntOf, h0, hc]) (.int _ _)
    · cases hb
  · cases he

theorem pur_inv {q : PQ} {xs : List Opd} (he : exec Γ nid S (.pur q xs) = some (x, wr)) : evalP q (xs.map (·.val S)) = some x ∧ wr = none := by
  simp only [exec, Option.map_eq_some_iff] at he
  obtain ⟨v, hv, he⟩ := he
  injection he with h1 h2
  subst h1 h2
  exact ⟨hv, rfl⟩
theorem g_scat (h : Rel E S a w L) {t t2 : TypeId} {y z : Operand} {y' z' : Opd} (ho : o.op = .binOp .add t y z t2) (hy : copd y = some y') (hz : copd z = some z') (he : exec Γ nid S (.pur .scat [y', z']) = some (x, wr)) : Good P E S a w o x wr := by
  have ry := h.opd hy
  have rz := h.opd hz
  obtain ⟨hv, rfl⟩ := pur_inv he
  simp only [List.map_cons, List.map_nil] at hv
  generalize y'.val S = p at ry hv
  generalize z'.val S = q at rz hv
  unfold evalP at hv
  split at hv <;> simp only [reduceCtorEq, List.cons.injEq, and_true, and_false] at * <;> try contradiction
  rename_i s1 s2 _ e1
  obtain ⟨rfl, rfl⟩ := e1
  simp only [Option.map_eq_some_iff, scat] at hv
  obtain ⟨r, hr, rfl⟩ := hv
  split at hr
  · rename_i hs
    injection hr with hr
    subst hr
    refine Good.pure h (v := .string (s1 ++ s2)) ?_ (.str _)
    have hi : IntKind.i64.max = 9223372036854775807 := rfl
    simp [execOp, ho, eqGuard, binOp, ry.str_inv, rz.str_inv, Op.stringOp, hi]
    omega
  · cases hr
theorem g_inil (h : Rel E S a w L) {neg : Bool} {t t2 : TypeId} {ms : Array (String × TypeId)} {y : Operand} {y' : Opd} (ho : o.op = .binOp (if neg then .neq else .eql) t y (.const .nilIface) t2) (ht : P.underlying t = some (.interface ms)) (hy : copd y = some y')
    (he : exec Γ nid S (.pur (.inil neg) [y']) = some (x, wr)) : Good P E S a w o x wr := by
  have ry := h.opd hy
  obtain ⟨hv, rfl⟩ := pur_inv he
  simp only [List.map_cons, List.map_nil] at hv
  generalize y'.val S = p at ry hv
  have hc : a.eval (.const .nilIface) = .nilIface := rfl
  have key0 : a.eval y = .nilIface → (execOp a.eval o).run P w = .ok (.value (.bool !neg)) w := by
    intro h1
    have hq : (Op.equal t .nilIface .nilIface).run P w = .ok true w := by
      show (Op.equalIn (9999 + 1) t _ _).run P w = _
      rw [Op.equalIn]
      simp [run_underlying ht]
    cases neg <;> simp only [Bool.false_eq_true, if_false, if_true] at ho <;> simp [execOp, ho, h1, hc, eqGuard, binOp, hq]
  have key1 : ∀ (T : TypeId) (u : Value), a.eval y = .iface T u → (execOp a.eval o).run P w = .ok (.value (.bool neg)) w := by
    intro T u h1
    have hq : (Op.equal t (.iface T u) .nilIface).run P w = .ok false w := by
      show (Op.equalIn (9999 + 1) t _ _).run P w = _
      rw [Op.equalIn]
      simp [run_underlying ht]
    cases neg <;> simp only [Bool.false_eq_true, if_false, if_true] at ho <;> simp [execOp, ho, h1, hc, eqGuard, binOp, hq]
  unfold evalP at hv
  split at hv <;> simp only [reduceCtorEq, PQ.inil.injEq, List.cons.injEq, and_true, and_false] at * <;> try contradiction
  · rename_i T u e0 e1
    subst e0 e1
    injection hv with hv
    subst hv
    obtain ⟨u', hu⟩ := ry.ifc_inv
    exact Good.pure h (key1 _ _ hu.1) (.bool _)
  · rename_i b e0 e1
    subst e0 e1
    injection hv with hv
    subst hv
    cases b with
    | true =>
      rw [Bool.xor_true]
      exact Good.pure h (key0 ry.nili_inv) (.bool _)
    | false =>
      obtain ⟨T, u, hu⟩ := ry.nilf_inv
      rw [Bool.xor_false]
      exact Good.pure h (key1 _ _ hu) (.bool _)
theorem g_neg (h : Rel E S a w L) {t : TypeId} {y : Operand} {y' : Opd} (ho : o.op = .unOp .neg t y) (hy : copd y = some y') (he : exec Γ nid S (.pur .neg [y']) = some (x, wr)) : Good P E S a w o x wr := by
  have ry := h.opd hy
  obtain ⟨hv, rfl⟩ := pur_inv he
  simp only [List.map_cons, List.map_nil] at hv
  generalize y'.val S = p at ry hv
  cases p with
  | int k n =>
    change some (PV.int k (k.wrap (0 - n))) = some x at hv
    injection hv with hv
    subst hv
    exact Good.pure h (v := .int k (k.wrap (0 - n))) (by simp [execOp, ho, ry.int_inv, Op.unary, Op.intArith]) (.int _ _)
  | _ => cases hv
theorem g_mki (h : Rel E S a w L) {t : TypeId} {y : Operand} {y' : Opd} (ho : o.op = .makeInterface t y) (ht : P.concrete t = true) (hy : copd y = some y') (he : exec Γ nid S (.pur (.mki t) [y']) = some (x, wr)) : Good P E S a w o x wr := by
  have ry := h.opd hy
  obtain ⟨hv, rfl⟩ := pur_inv he
  simp only [List.map_cons, List.map_nil] at hv
  generalize y'.val S = p at ry hv
  change (if (p.plain && p.one) = true then some (PV.ifc t p) else none) = some x at hv
  split at hv
  · rename_i hp
    rw [Bool.and_eq_true] at hp
    injection hv with hv
    subst hv
    exact Good.pure h (by simp [execOp, ho, run_makeInterface, ht]) (.ifc _ _ _ hp.1 (ry.plain hp.1))
  · cases hv
theorem g_tas (h : Rel E S a w L) {t t0 : TypeId} {u : TypeDesc} {i : TypeInfo} {zv : Value} {zp : PV} {y : Operand} {y' : Opd} (ho : o.op = .typeAssert y t0 t true) (hu : P.underlying t = some u) (hni : ∀ ms, u ≠ .interface ms) (hi : P.info? t = some i) (hz : i.zero = some zv) (hzp : constPV zv = some zp)
    (hy : copd y = some y') (he : exec Γ nid S (.pur (.tas t zp) [y']) = some (x, wr)) : Good P E S a w o x wr := by
  have ry := h.opd hy
  obtain ⟨hv, rfl⟩ := pur_inv he
  simp only [List.map_cons, List.map_nil] at hv
  generalize y'.val S = p at ry hv
  have two : ∀ {M : Nat → Prop} {G : Gh} {p q : PV} {v1 v2 : Value}, Rep w M G p v1 → Rep w M G q v2 → Rep w M G (.tup [p, q]) (.tuple #[v1, v2]) := fun h1 h2 => by
    have := RepL.cons h1 (RepL.cons h2 RepL.nil)
    exact .tup _ _ this.1 this.2
  unfold evalP at hv
  split at hv <;> simp only [reduceCtorEq, PQ.tas.injEq, List.cons.injEq, and_true, and_false] at * <;> try contradiction
  · rename_i T z T' p0 e0 e1
    obtain ⟨rfl, rfl⟩ := e0
    subst e1
    obtain ⟨v, hv1, hp, hv2⟩ := ry.ifc_inv
    injection hv with hv
    subst hv
    by_cases hT : T' = t
    · rw [if_pos hT]
      refine Good.pure h (v := .tuple #[v, .bool true]) ?_ (two (hv2.plain hp) (.bool _))
      cases u <;> first | exact absurd rfl (hni _) | simp [execOp, ho, hv1, Instr.typeAssert, run_underlying hu, hT]
    · rw [if_neg hT]
      refine Good.pure h (v := .tuple #[zv, .bool false]) ?_ (two (constPV_rep hzp) (.bool _))
      cases u <;> first | exact absurd rfl (hni _) | simp [execOp, ho, hv1, Instr.typeAssert, run_underlying hu, hT, zeroValue, typeInfo, hi, hz]
  · rename_i T z e0 e1
    obtain ⟨rfl, rfl⟩ := e0
    subst e1
    injection hv with hv
    subst hv
    refine Good.pure h (v := .tuple #[zv, .bool false]) ?_ (two (constPV_rep hzp) (.bool _))
    cases u <;> first | exact absurd rfl (hni _) | simp [execOp, ho, ry.nili_inv, Instr.typeAssert, run_underlying hu, zeroValue, typeInfo, hi, hz]
theorem bytesOf_some : ∀ {es : List (List PV)} {l : List UInt8}, bytesOf es = some l → es = l.map fun b => [.int .u8 (b.toNat : Int)]
  | [], l, h => by injection h with h; subst h; rfl
  | e :: es, l, h => by
    unfold bytesOf at h
    split at h
    · rename_i e0; cases e0
    · rename_i n l0 e0
      injection e0 with e1 e2
      subst e1 e2
      split at h
      · rename_i b bs hb hbs
        injection h with h
        subst h
        rw [List.map_cons, ← bytesOf_some hbs]
        unfold byteOf at hb
        split at hb
        · rename_i hn
          injection hb with hb
          subst hb
          have : (((UInt8.ofNat n.toNat).toNat : Nat) : Int) = n := by
            rw [UInt8.toNat_ofNat', Nat.mod_eq_of_lt (by omega)]
            omega
          rw [this]
        · cases hb
      · cases h
    · cases h
theorem g_b2s (h : Rel E S a w L) {src dst e : TypeId} {y : Operand} {y' : Opd} (ho : o.op = .convert src dst y) (hs : P.underlying src = some (.slice e)) (hb : P.underlying e = some (.int .u8)) (hd : P.underlying dst = some .string) (hy : copd y = some y')
    (he : exec Γ nid S (.pur .b2s [y']) = some (x, wr)) : Good P E S a w o x wr := by
  have ry := h.opd hy
  obtain ⟨hv, rfl⟩ := pur_inv he
  simp only [List.map_cons, List.map_nil] at hv
  generalize y'.val S = p at ry hv
  unfold evalP at hv
  split at hv <;> simp only [reduceCtorEq, List.cons.injEq, and_true, and_false] at * <;> try contradiction
  rename_i es _ e1
  subst e1
  simp only [Option.map_eq_some_iff] at hv
  obtain ⟨l, hl, rfl⟩ := hv
  have hes := bytesOf_some hl
  have hfl : es.flatten = l.map fun b => .int .u8 (b.toNat : Int) := by
    rw [hes]
    clear hl hes ry he
    induction l with
    | nil => rfl
    | cons b l ih => rw [List.map_cons, List.flatten_cons, ih]; rfl
  rcases ry.sl_inv with ⟨hv, h0⟩ | ⟨ad, c, k, vs, hv, hk, hr, hc, _⟩
  · have h1 : l = [] := by rw [hes] at h0; simpa using h0
    subst h1
    refine Good.pure h (v := .string ⟨#[]⟩) ?_ (.str _)
    simp only [execOp, ho, hv, Sem.run_bind]
    rw [run_convert_bytes_string w src dst e none 0 0 hs hb hd]
    simp [Conv.bytesToString]
    rfl
  · refine Good.pure h (v := .string ⟨l.toArray⟩) ?_ (.str _)
    have hle : es.length = l.length := by rw [hes, List.length_map]
    simp only [execOp, ho, hv, Sem.run_bind, hle]
    rw [run_convert_bytes_back w src dst e ad c l hs hb hd fun j hj => ?_]
    · rfl
    · have hjv : j < vs.length := by rw [hr.1, hfl, List.length_map]; exact hj
      have h1 := (hc j vs[j] (List.getElem?_eq_getElem hjv)).1
      have h2 := hr.2 j (.int .u8 (l[j].toNat : Int)) vs[j] (by rw [hfl, List.getElem?_map, List.getElem?_eq_getElem hj]; rfl) (List.getElem?_eq_getElem hjv)
      rw [h1, h2.int_inv]
theorem g_sslc (h : Rel E S a w L) {t : TypeId} {y : Operand} {y' : Opd} {lo hi : Option Operand} {zs : List Opd} (ho : o.op = .slice t y lo hi none) (ht : P.underlying t = some .string) (hy : copd y = some y')
    (hz : (∃ l l', lo = some l ∧ hi = none ∧ copd l = some l' ∧ zs = [l']) ∨ (∃ l l', lo = none ∧ hi = some l ∧ copd l = some l' ∧ zs = [l']) ∨ (∃ l l' m m', lo = some l ∧ hi = some m ∧ copd l = some l' ∧ copd m = some m' ∧ zs = [l', m']))
    (he : exec Γ nid S (.pur (.sslc lo.isSome hi.isSome) (y' :: zs)) = some (x, wr)) : Good P E S a w o x wr := by
  have ry := h.opd hy
  obtain ⟨hv, rfl⟩ := pur_inv he
  have hx : ∀ s : ByteArray, a.eval y = .string s → (execOp a.eval o).run P w = ((Instr.slice t (.string s) (lo.map a.eval) (hi.map a.eval) none).run P w).andThen fun v w' => .ok (.value v) w' := by
    intro s hs
    simp only [execOp, ho, hs, Sem.run_bind, Option.map_none, run_sliceAt_string (P := P) w t _ _ _ none ht]
    rfl
  rcases hz with ⟨l, l', rfl, rfl, hl, rfl⟩ | ⟨l, l', rfl, rfl, hl, rfl⟩ | ⟨l, l', m, m', rfl, rfl, hl, hm, rfl⟩
  · have rl := h.opd hl
    simp only [List.map_cons, List.map_nil, Option.isSome_some, Option.isSome_none] at hv
    generalize y'.val S = p at ry hv
    generalize l'.val S = q at rl hv
    unfold evalP at hv
    split at hv <;> simp only [reduceCtorEq, PQ.sslc.injEq, List.cons.injEq, and_true, and_false] at * <;> try contradiction
    rename_i s k n _ e1
    obtain ⟨rfl, rfl⟩ := e1
    simp only [Option.map_eq_some_iff, sslc] at hv
    obtain ⟨r, hr, rfl⟩ := hv
    split at hr
    · rename_i hb
      injection hr with hr
      subst hr
      refine Good.pure h (v := .string (s.extract n.toNat s.size)) ?_ (.str _)
      rw [hx s ry.str_inv, Option.map_some, Option.map_none, rl.int_inv, run_slice_string_from_if w t s k n ht, if_pos ⟨hb.1, hb.2.1⟩]
      rfl
    · cases hr
  · have rl := h.opd hl
    simp only [List.map_cons, List.map_nil, Option.isSome_some, Option.isSome_none] at hv
    generalize y'.val S = p at ry hv
    generalize l'.val S = q at rl hv
    unfold evalP at hv
    split at hv <;> simp only [reduceCtorEq, PQ.sslc.injEq, List.cons.injEq, and_true, and_false] at * <;> try contradiction
    rename_i s k n _ e1
    obtain ⟨rfl, rfl⟩ := e1
    simp only [Option.map_eq_some_iff, sslc] at hv
    obtain ⟨r, hr, rfl⟩ := hv
    split at hr
    · rename_i hb
      injection hr with hr
      subst hr
      refine Good.pure h (v := .string (s.extract 0 n.toNat)) ?_ (.str _)
      rw [hx s ry.str_inv, Option.map_some, Option.map_none, rl.int_inv, run_slice_string_to_if w t s k n ht, if_pos ⟨hb.2.1, hb.2.2⟩]
      rfl
    · cases hr
  · have rl := h.opd hl
    have rm := h.opd hm
    simp only [List.map_cons, List.map_nil, Option.isSome_some] at hv
    generalize y'.val S = p at ry hv
    generalize l'.val S = q at rl hv
    generalize m'.val S = q' at rm hv
    unfold evalP at hv
    split at hv <;> simp only [reduceCtorEq, PQ.sslc.injEq, List.cons.injEq, and_true, and_false] at * <;> try contradiction
    rename_i s k n k' n' _ e1
    obtain ⟨rfl, rfl, rfl⟩ := e1
    simp only [Option.map_eq_some_iff, sslc] at hv
    obtain ⟨r, hr, rfl⟩ := hv
    split at hr
    · rename_i hb
      injection hr with hr
      subst hr
      refine Good.pure h (v := .string (s.extract n.toNat n'.toNat)) ?_ (.str _)
      rw [hx s ry.str_inv, Option.map_some, Option.map_some, rl.int_inv, rm.int_inv, run_slice_string w t s k k' n n' ht hb.1 hb.2.1 hb.2.2]
      rfl
    · cases hr

theorem part_at {M : Nat → Prop} {G : Gh} {t : TypeId} {n : Option Nat} {cs' : List PV} {vs : List Value} {off : Nat} {x : PV} (ht : aggN P t = some n) (hrd : RepL w M G cs' (vs.drop off)) (hx : ldn n cs' = some x) : ∃ v, (part t vs.toArray off).run P w = .ok v w ∧ Rep w M G x v := by
  cases n with
  | none =>
    cases hcs : cs' with
    | nil => rw [hcs] at hx; simp [ldn] at hx
    | cons y ys =>
      rw [hcs] at hx hrd
      simp only [ldn, Option.some.injEq] at hx
      subst hx
      obtain ⟨v, us, hus, h1, _⟩ := hrd.cons_inv
      refine ⟨v, ?_, h1⟩
      have hv : vs[off]? = some v := by
        have : (vs.drop off)[0]? = some v := by rw [hus]; rfl
        simpa [List.getElem?_drop] using this
      have hag : (isAgg t).run P w = .ok false w := by
        unfold aggN at ht
        split at ht
        · simp at ht
        · simp at ht
        · rename_i d _ hu hd
          unfold isAgg
          rw [Sem.run_bind, run_underlying hd w]
          cases d <;> simp_all
        · cases ht
      simp [part, hag, hv]
  | some m =>
    simp only [ldn] at hx
    split at hx
    · rename_i hm
      injection hx with hx
      subst hx
      have hi : ∃ i, P.info? t = some i ∧ i.size = m := by
        unfold aggN at ht
        split at ht
        · simpa using ht
        · simpa using ht
        · simp at ht
        · cases ht
      obtain ⟨i, hi, hs⟩ := hi
      have hag : (isAgg t).run P w = .ok true w := by
        unfold aggN at ht
        unfold isAgg
        split at ht
        · rename_i hu; rw [Sem.run_bind, run_underlying hu w]; simp
        · rename_i hu; rw [Sem.run_bind, run_underlying hu w]; simp
        · simp at ht
        · cases ht
      have h3 := hrd.take m
      refine ⟨.agg ((vs.drop off).take m).toArray, ?_, .agg _ _ h3.1 h3.2⟩
      simp only [part, Sem.run_bind, hag, Result.andThen_ok, sizeOf, typeInfo]
      simp [program, Sem.run, hi, hs]
    · cases hx
theorem part_of {M : Nat → Prop} {G : Gh} {t : TypeId} {n : Option Nat} {cs : List PV} {vs : List Value} {off : Nat} {x : PV} (ht : aggN P t = some n) (hr : RepL w M G cs vs) (hx : ldn n ((cs.drop off).map nz) = some x) : ∃ v, (part t vs.toArray off).run P w = .ok v w ∧ Rep w M G x v := by
  have hrd : RepL w M G ((cs.drop off).map nz) (vs.drop off) := ⟨by simp [hr.1], fun i y v hy hv => by
    rw [List.getElem?_map, Option.map_eq_some_iff] at hy
    obtain ⟨y0, hy0, rfl⟩ := hy
    have h0 := (hr.drop off).2 i y0 v hy0 hv
    cases h0 with
    | nils => exact .slnil
    | any => exact .any _
    | undef => exact .undef
    | int k n => exact .int k n
    | bool b => exact .bool b
    | ubool b => exact .ubool b
    | str s => exact .str s
    | nilp => exact .nilp
    | clo f caps us hl h => exact .clo f caps us hl h
    | bnd f caps us hl h => exact .bnd f caps us hl h
    | agg cs us hl h => exact .agg cs us hl h
    | tup cs us hl h => exact .tup cs us hl h
    | ptr id ver off a hN hV h => exact .ptr id ver off a hN hV h
    | ref cs a us hl hc h => exact .ref cs a us hl hc h
    | sl es a c k us hk hl hc h hn hm => exact .sl es a c k us hk hl hc h hn hm
    | slnil => exact .slnil
    | own id ver a n c hN hV h => exact .own id ver a n c hN hV h
    | eptr id ver k i off a hN hV h => exact .eptr id ver k i off a hN hV h
    | view id ver k lo n a c hN hV h => exact .view id ver k lo n a c hN hV h
    | nilt => exact .nilt
    | nilf T v => exact .nilf T v
    | ifc T x v hp h => exact .ifc T x v hp h
    | mapv ks us b es ck hb hMb hk hl h1 h2 => exact .mapv ks us b es ck hb hMb hk hl h1 h2⟩
  exact part_at ht hrd hx
theorem g_fld (h : Rel E S a w L) {t : TypeId} {fs : Array Field} {f : Field} {n : Option Nat} {i : Nat} {y : Operand} {y' : Opd} (ho : o.op = .field t y i) (ht : P.underlying t = some (.struct fs)) (hf : fs[i]? = some f) (hn : aggN P f.type = some n) (hy : copd y = some y')
    (he : exec Γ nid S (.fld n f.offset y') = some (x, wr)) : Good P E S a w o x wr := by
  have ry := h.opd hy
  simp only [exec] at he
  split at he
  · rename_i cs e1
    rw [e1] at ry
    obtain ⟨vs, hv, hr⟩ := ry.agg_inv
    simp only [Option.map_eq_some_iff] at he
    obtain ⟨b, hb, he⟩ := he
    injection he with h1 h2
    subst h1 h2
    obtain ⟨v, hp, hrv⟩ := part_at (w := w) hn (hr.drop f.offset) hb
    refine Good.pure h (v := v) ?_ hrv
    simp [execOp, ho, Instr.field, run_underlying ht, hv, hf, asAgg, hp]
  · cases he
theorem g_aidx (h : Rel E S a w L) {t e : TypeId} {n : Option Nat} {len : Nat} {i : TypeInfo} {y z : Operand} {y' z' : Opd} (ho : o.op = .index t y z) (ht : P.underlying t = some (.array len e)) (hn : aggN P e = some n) (hi : P.info? e = some i) (hy : copd y = some y') (hz : copd z = some z')
    (he : exec Γ nid S (.aidx e n len i.size y' z') = some (x, wr)) : Good P E S a w o x wr := by
  have ry := h.opd hy
  have rz := h.opd hz
  simp only [exec] at he
  split at he
  · rename_i cs kk j e1 e2
    rw [e1] at ry
    rw [e2] at rz
    obtain ⟨vs, hv, hr⟩ := ry.agg_inv
    have hj := rz.int_inv
    split at he
    · rename_i h0
      simp only [Option.map_eq_some_iff] at he
      obtain ⟨b, hb, he⟩ := he
      injection he with h1 h2
      subst h1 h2
      obtain ⟨v, hp, hrv⟩ := part_of (w := w) hn hr hb
      refine Good.pure h (v := v) ?_ hrv
      have hsz : (Go.sizeOf e).run P w = .ok i.size w := by simp [sizeOf, typeInfo, program, Sem.run, hi]
      simp [execOp, ho, Instr.index, run_underlying ht, hv, hj, asIntOf, h0.1, h0.2, hsz, hp]
    · cases he
  · cases he

/-- a slice's length -/
theorem Rel.elems_at (h : Rel E S a w L) {y : PV} {v : Value} {es : List (List PV)} (r : Rep w (mutb E S L) (S.gh L) y v) (he : elems S y = some es) : ∃ (ad : Option Addr) (c : Nat), v = .slice ad es.length c := by
  unfold elems at he
  split at he
  · injection he with he; subst he; exact ⟨none, 0, r.nils_inv⟩
  · injection he with he; subst he
    rcases r.sl_inv with ⟨hv, h0⟩ | ⟨ad, c, k, vs, hv, _⟩
    · subst h0; exact ⟨none, 0, hv⟩
    · exact ⟨_, _, hv⟩
  · rename_i id ver
    split at he
    · rename_i hver
      split at he
      · rename_i hc
        injection he with he; subst he
        obtain ⟨hN, hv⟩ := r.own_inv (show (S.gh L).V id = ver from hver)
        obtain ⟨vs, hown, hk, hr⟩ := h.row_at hN hc
        rcases hown.2 with ⟨hL, h0⟩ | ⟨g, cap, cur, hL, _⟩
        · exact ⟨none, 0, by rw [hv, show (S.gh L).L id = L id from rfl, hL, h0]⟩
        · exact ⟨_, _, by rw [hv, show (S.gh L).L id = L id from rfl, hL]⟩
      · cases he
    · cases he
  · rename_i id ver k lo n
    split at he
    · rename_i hver
      split at he
      · split at he
        · rename_i e1 k' es0 hc _
          injection he with he; subst he
          obtain ⟨hN, ad, c, hv, hat⟩ := r.view_inv (show (S.gh L).V id = ver from hver)
          have hb := h.view_le hN hc hat
          refine ⟨ad, c, ?_⟩
          rw [hv]
          congr 1
          simp
          omega
        · cases he
      · cases he
    · cases he
  · cases he

theorem g_lens (h : Rel E S a w L) {y : Operand} {y' : Opd} {t : TypeId} (ho : o.op = .call { callee := .builtin .len, args := #[y], argTypes := #[t] }) (ht : P.underlying t = some .string) (hy : copd y = some y')
    (he : exec Γ nid S (.len true y') = some (x, wr)) : Good P E S a w o x wr := by
  have r := h.opd hy
  simp only [exec] at he
  split at he
  · rename_i s e
    rw [e] at r
    obtain ⟨rfl, rfl⟩ := some_inv he
    have hv := r.str_inv
    exact Good.pure h (by simp [execOp, ho, resolve, invoke, builtin, Builtin.len_, run_underlying ht, hv, goInt]) (.int _ _)
  · cases he
theorem g_len (h : Rel E S a w L) {y : Operand} {y' : Opd} {t e : TypeId} (ho : o.op = .call { callee := .builtin .len, args := #[y], argTypes := #[t] }) (ht : P.underlying t = some (.slice e)) (hy : copd y = some y')
    (he : exec Γ nid S (.len false y') = some (x, wr)) : Good P E S a w o x wr := by
  have r := h.opd hy
  simp only [exec, Option.map_eq_some_iff] at he
  obtain ⟨es, hes, he⟩ := he
  injection he with h1 h2
  subst h1 h2
  obtain ⟨ad, c, hv⟩ := h.elems_at r hes
  exact Good.pure h (by simp [execOp, ho, resolve, invoke, builtin, Builtin.len_, run_underlying ht, hv, goInt]) (.int _ _)

theorem g_minmax (h : Rel E S a w L) {y z : Operand} {y' z' : Opd} {mx : Bool} {ts : Array TypeId} (ho : o.op = .call { callee := .builtin (if mx then .max else .min), args := #[y, z], argTypes := ts }) (hy : copd y = some y') (hz : copd z = some z')
    (he : exec Γ nid S (.minmax mx y' z') = some (x, wr)) : Good P E S a w o x wr := by
  have ry := h.opd hy
  have rz := h.opd hz
  simp only [exec] at he
  split at he
  · rename_i k p k' q e1 e2
    split at he
    · rename_i hk
      subst hk
      obtain ⟨rfl, rfl⟩ := some_inv he
      rw [e1] at ry
      rw [e2] at rz
      have hv := ry.int_inv
      have hu := rz.int_inv
      cases mx
      · exact Good.pure h (by simp [execOp, ho, resolve, invoke, builtin, Builtin.min_, Builtin.min2, hv, hu]) (.int _ _)
      · exact Good.pure h (by simp [execOp, ho, resolve, invoke, builtin, Builtin.max_, Builtin.max2, hv, hu]) (.int _ _)
    · cases he
  · cases he

end
end Go.TQ
