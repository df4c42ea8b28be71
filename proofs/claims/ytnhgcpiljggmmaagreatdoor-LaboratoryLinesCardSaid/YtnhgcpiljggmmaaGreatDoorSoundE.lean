/-
  Cuts of slices, appends, equality of a struct of a number and a string. Conditions: none (generic in the program).
-/
import Derived.Test.YtnhgcpiljggmmaaGreatDoorSoundD
import Derived.Laws.Cover3
namespace Go.TQ
open Go.RowKit
section
variable {P : Program} {E : En} {S : St} {a : Act} {w : World} {L : Nat → Value} {o : Oper} {x : PV} {wr : Option (Nat × AObj)} {Γ : Tab} {nid : Nat}

theorem optI_at (h : Rel E S a w L) {y : Option Operand} {y' : Option Opd} (hy : y.mapM copd = some y') {d n : Int} (hn : optI S y' d = some n) :
    (y = none ∧ n = d) ∨ ∃ z k, y = some z ∧ a.eval z = .int k n := by
  cases y with
  | none =>
    simp at hy
    subst hy
    simp only [optI, Option.some.injEq] at hn
    exact .inl ⟨rfl, hn.symm⟩
  | some z =>
    simp only [Option.mapM_some, Option.map_eq_map, Option.map_eq_some_iff] at hy
    obtain ⟨z', hz, rfl⟩ := hy
    have r := h.opd hz
    simp only [optI] at hn
    split at hn
    · rename_i k m e
      rw [e] at r
      injection hn with hn
      subst hn
      exact .inr ⟨z, k, rfl, r.int_inv⟩
    · cases hn

theorem flatten_take {α : Type} (k : Nat) : ∀ (m : Nat) (fs : List (List α)), (∀ u ∈ fs, u.length = k) → (fs.take m).flatten = fs.flatten.take (m * k)
  | 0, fs, _ => by simp
  | m + 1, [], _ => by simp
  | m + 1, u :: us, hf => by
    have hu : u.length = k := hf u (by simp)
    simp only [List.take_succ_cons, List.flatten_cons, flatten_take k m us (fun q hq => hf q (by simp [hq]))]
    rw [Nat.add_mul, Nat.one_mul, Nat.add_comm, ← hu, List.take_length_add_append]
theorem flatten_drop {α : Type} (k : Nat) : ∀ (m : Nat) (fs : List (List α)), (∀ u ∈ fs, u.length = k) → (fs.drop m).flatten = fs.flatten.drop (m * k)
  | 0, fs, _ => by simp
  | m + 1, [], _ => by simp
  | m + 1, u :: us, hf => by
    have hu : u.length = k := hf u (by simp)
    simp only [List.drop_succ_cons, List.flatten_cons, flatten_drop k m us (fun q hq => hf q (by simp [hq]))]
    rw [Nat.add_mul, Nat.one_mul, Nat.add_comm, ← hu, List.drop_length_add_append]

theorem run_slc {t e : TypeId} {y : Operand} {lo hi : Option Operand} {i : TypeInfo} {ad : Option Addr} {n c : Nat} {l h : Int} (ho : o.op = .slice t y lo hi none) (ht : P.underlying t = some (.slice e)) (hi' : P.info? e = some i)
    (hv : a.eval y = .slice ad n c) (hlo : (lo = none ∧ l = 0) ∨ ∃ z k, lo = some z ∧ a.eval z = .int k l) (hhi : (hi = none ∧ h = n) ∨ ∃ z k, hi = some z ∧ a.eval z = .int k h) (h0 : 0 ≤ l) (h1 : l ≤ h) (h2 : h ≤ n) (h3 : n ≤ c) :
    (execOp a.eval o).run P w = .ok (.value (.slice (if c = l.toNat then ad else ad.map (·.add (l.toNat * i.size))) (h.toNat - l.toNat) (c - l.toNat))) w := by
  have e1 : 0 ≤ h := by omega
  have e2 : h ≤ (c : Int) := by omega
  have e3 : l ≤ ((h.toNat : Nat) : Int) := by omega
  rcases hlo with ⟨rfl, rfl⟩ | ⟨z, k, rfl, hz⟩ <;> rcases hhi with ⟨rfl, rfl⟩ | ⟨z2, k2, rfl, hz2⟩ <;>
    simp [execOp, Instr.sliceAt, Instr.slice, run_underlying ht, Instr.sliceBounds, Instr.sliceBound, asIntOf, sizeOf, typeInfo, *] <;> omega

theorem g_slc (h : Rel E S a w L) {t e : TypeId} {y : Operand} {lo hi : Option Operand} {y' : Opd} {lo' hi' : Option Opd} {i : TypeInfo} (ho : o.op = .slice t y lo hi none) (ht : P.underlying t = some (.slice e)) (hi0 : P.info? e = some i)
    (hy : copd y = some y') (hlo : lo.mapM copd = some lo') (hhi : hi.mapM copd = some hi') (he : exec Γ nid S (.slc i.size y' lo' hi') = some (x, wr)) : Good P E S a w o x wr := by
  have r := h.opd hy
  simp only [exec] at he
  split at he
  · rename_i es e0
    rw [e0] at r
    split at he
    · rename_i hall
      have hall' : ∀ u ∈ es, u.length = i.size := fun u hu => by have := List.all_eq_true.1 hall u hu; simpa using this
      split at he
      · rename_i l hh el eh
        split at he
        · rename_i hb
          obtain ⟨hb0, hb1, hb2⟩ := hb
          obtain ⟨rfl, rfl⟩ := some_inv he
          have hl := optI_at h hlo (d := 0) (n := l) (by unfold optI; exact el)
          have hh' := optI_at h hhi (d := (es.length : Int)) (n := hh) (by unfold optI; exact eh)
          have hlen : ((es.take hh.toNat).drop l.toNat).length = hh.toNat - l.toNat := by simp; omega
          rcases r.sl_inv with ⟨hv, h0⟩ | ⟨ad, c, k, vs, hv, hk, hr, hc, hn, hm⟩
          · subst h0
            refine Good.pure h (run_slc (n := 0) ho ht hi0 hv hl (by simpa using hh') hb0 hb1 (by simpa using hb2) (Nat.le_refl _)) ?_
            have e1 : hh = 0 := by simp at hb2; omega
            have e2 : l = 0 := by omega
            subst e1 e2
            simpa using Rep.slnil
          · refine Good.pure h (run_slc ho ht hi0 hv hl hh' hb0 hb1 hb2 hn) ?_
            rw [← hlen]
            have hkk : ∀ u ∈ (es.take hh.toNat).drop l.toNat, u.length = i.size := fun u hu => hall' u (List.mem_of_mem_take (List.mem_of_mem_drop hu))
            -- the cells
            have hfl : ((es.take hh.toNat).drop l.toNat).flatten = (es.flatten.take (hh.toNat * i.size)).drop (l.toNat * i.size) := by
              have t1 : ∀ (m : Nat) (fs : List (List PV)), (∀ u ∈ fs, u.length = i.size) → (fs.take m).flatten = fs.flatten.take (m * i.size) := by
                intro m
                induction m with
                | zero => intro fs _; simp
                | succ m ih =>
                  intro fs hf
                  cases fs with
                  | nil => simp
                  | cons u us =>
                    have hu : u.length = i.size := hf u (by simp)
                    simp only [List.take_succ_cons, List.flatten_cons, ih us (fun q hq => hf q (by simp [hq]))]
                    rw [Nat.add_mul, Nat.one_mul, Nat.add_comm, ← hu, List.take_length_add_append]
              have t2 : ∀ (m : Nat) (fs : List (List PV)), (∀ u ∈ fs, u.length = i.size) → (fs.drop m).flatten = fs.flatten.drop (m * i.size) := by
                intro m
                induction m with
                | zero => intro fs _; simp
                | succ m ih =>
                  intro fs hf
                  cases fs with
                  | nil => simp
                  | cons u us =>
                    have hu : u.length = i.size := hf u (by simp)
                    simp only [List.drop_succ_cons, List.flatten_cons, ih us (fun q hq => hf q (by simp [hq]))]
                    rw [Nat.add_mul, Nat.one_mul, Nat.add_comm, ← hu, List.drop_length_add_append]
              rw [t2 _ _ (fun u hu => hall' u (List.mem_of_mem_take hu)), t1 _ _ hall']
            have hr2 := (hr.take (hh.toNat * i.size)).drop (l.toNat * i.size)
            rw [← hfl] at hr2
            by_cases hcl : c = l.toNat
            · have hnil : (es.take hh.toNat).drop l.toNat = [] := List.eq_nil_of_length_eq_zero (by rw [hlen]; omega)
              rw [if_pos hcl, hnil]
              exact .sl [] ad _ i.size [] (by simp) (by simp) (fun j u hu => by simp at hu) (fun j p u hp => by simp at hp) (Nat.zero_le _) (by omega)
            · rw [if_neg hcl]
              simp only [Option.map_some]
              refine .sl _ _ _ i.size _ hkk hr2.1 (fun j u hu => ?_) hr2.2 (by rw [hlen]; omega) (by omega)
              rw [add_add, block_add]
              have h4 := getElem?_drop_some hu
              rw [List.getElem?_take] at h4
              split at h4
              · exact hc _ u h4
              · cases h4
        · cases he
      · cases he
    · cases he
  · rename_i id ver e0
    rw [e0] at r
    split at he
    · rename_i hver
      split at he
      · rename_i e1 k' es hcc
        split at he
        · rename_i hkk
          subst hkk
          split at he
          · rename_i l hh el eh
            split at he
            · rename_i hb
              obtain ⟨hb0, hb1, hb2⟩ := hb
              obtain ⟨rfl, rfl⟩ := some_inv he
              obtain ⟨hN, hv⟩ := r.own_inv (show (S.gh L).V id = ver from hver)
              obtain ⟨vs, hown, hk, hr⟩ := h.row_at hN hcc
              have hl := optI_at h hlo (d := 0) (n := l) el
              have hh' := optI_at h hhi (d := (es.length : Int)) (n := hh) eh
              have hL : ∃ ad c, L id = .slice ad es.length c ∧ es.length ≤ c := by
                rcases hown.2 with ⟨hL, h0⟩ | ⟨g, cap, cur, hL, _, _, hnc, _⟩
                · exact ⟨none, 0, by rw [hL, h0], by omega⟩
                · exact ⟨_, cap, hL, hnc⟩
              obtain ⟨ad, c, hL, hc⟩ := hL
              rw [show (S.gh L).L id = L id from rfl, hL] at hv
              refine Good.pure h (run_slc ho ht hi0 hv hl hh' hb0 hb1 hb2 hc) ?_
              refine .view _ _ _ _ _ _ _ hN (Nat.le_of_eq hver.symm) (fun _ => ⟨ad, es.length, c, hL, by omega, hc, rfl, ?_⟩)
              by_cases h0 : c = l.toNat
              · rw [if_pos h0]
                by_cases h1 : l.toNat = 0
                · right; rw [h1]; cases ad <;> simp [Addr.add]
                · left; exact ⟨by omega, h1, fun e => e⟩
              · rw [if_neg h0]; right; rfl
            · cases he
          · cases he
        · cases he
      · cases he
    · cases he
  · rename_i id ver k0 lo0 n0 e0
    rw [e0] at r
    split at he
    · rename_i hver
      split at he
      · rename_i e1 k' es hcc
        split at he
        · rename_i hkk
          obtain ⟨hk1, hk2⟩ := hkk
          subst hk2
          split at he
          · rename_i l hh el eh
            split at he
            · rename_i hb
              obtain ⟨hb0, hb1, hb2⟩ := hb
              obtain ⟨rfl, rfl⟩ := some_inv he
              obtain ⟨hN, ad, c, hv, a0, m0, c0, hL, q1, q2, q3, q4⟩ := r.view_inv (show (S.gh L).V id = ver from hver)
              have hl := optI_at h hlo (d := 0) (n := l) el
              have hh' := optI_at h hhi (d := (n0 : Int)) (n := hh) eh
              refine Good.pure h (run_slc ho ht hi0 hv hl hh' hb0 hb1 hb2 (by omega)) ?_
              refine .view _ _ _ _ _ _ _ hN (Nat.le_of_eq hver.symm) (fun _ => ⟨a0, m0, c0, hL, by omega, q2, by omega, ?_⟩)
              by_cases h0 : c = l.toNat
              · rw [if_pos h0]
                by_cases h1 : lo0 + l.toNat = 0
                · right
                  rcases q4 with q4 | q4
                  · omega
                  · rw [q4]
                    have e1 : lo0 = 0 := by omega
                    have e2 : l.toNat = 0 := by omega
                    rw [e1, e2]
                · left
                  refine ⟨by omega, h1, fun e => ?_⟩
                  rcases q4 with q4 | q4
                  · exact q4.2.2 e
                  · rw [q4] at e; cases a0 <;> first | rfl | cases e
              · rw [if_neg h0]
                rcases q4 with q4 | q4
                · left
                  refine ⟨by omega, by omega, fun e => q4.2.2 ?_⟩
                  cases ad <;> first | rfl | cases e
                · right
                  rw [q4]
                  cases a0 <;> simp [add_add, Nat.add_mul]
            · cases he
          · cases he
        · cases he
      · cases he
    · cases he
  · cases he

theorem run_append_of_nil {base : Nat} {t ty e : TypeId} {i : TypeInfo} {size : Nat} (ht : P.underlying t = some (.slice e)) (hi : P.info? e = some i)
    {v : Value} {n : Nat} {xs : List Value} (hown : w.ownsRow base e size v n xs) (c : Nat) : (Builtin.append_ #[t, t] ty #[v, .slice none 0 c]).run P w = .ok v w := by
  rcases hown.2 with ⟨rfl, rfl⟩ | ⟨g, cap, cur, rfl, _, _, hnc, _⟩
  · simp [Builtin.append_, run_underlying ht, sizeOf, typeInfo, hi, Builtin.lenOf, Builtin.firstCells]
  · simp [Builtin.append_, run_underlying ht, sizeOf, typeInfo, hi, Builtin.lenOf, Builtin.firstCells, hnc, storeCells]

/-- the cells of a slice's elements -/
theorem Rel.elems_cells (h : Rel E S a w L) {y : PV} {v : Value} {es : List (List PV)} (r : Rep w (mutb E S L) (S.gh L) y v) (he : elems S y = some es) :
    (v = .slice none 0 0 ∧ es = []) ∨ ∃ (ad : Addr) (c : Nat) (vs : List Value), v = .slice (some ad) es.length c ∧ RepL w (mutb E S L) (S.gh L) es.flatten vs ∧ (∀ (i : Nat) (u : Value), vs[i]? = some u → w.cell? (ad.add i) = some u) := by
  unfold elems at he
  split at he
  · injection he with he; subst he; exact .inl ⟨r.nils_inv, rfl⟩
  · injection he with he; subst he
    rcases r.sl_inv with ⟨hv, h0⟩ | ⟨ad, c, k, vs, hv, hk, hr, hc, _⟩
    · exact .inl ⟨hv, h0⟩
    · exact .inr ⟨ad, c, vs, hv, hr.mono (Stays.of fun _ hm => hm) (Gh0.le _), fun i u hu => (hc i u hu).1⟩
  · rename_i id ver
    split at he
    · rename_i hver
      split at he
      · rename_i hc
        injection he with he; subst he
        obtain ⟨hN, hv⟩ := r.own_inv (show (S.gh L).V id = ver from hver)
        obtain ⟨vs, hown, hk, hr⟩ := h.row_at hN hc
        rcases hown.2 with ⟨hL, h0⟩ | ⟨g, cap, cur, hL, _, hh, _, _, _, htake⟩
        · exact .inl ⟨by rw [hv]; exact hL, List.eq_nil_of_length_eq_zero h0⟩
        · refine .inr ⟨⟨g, 0, none⟩, cap, vs, by rw [hv]; exact hL, hr, fun i u hu => ?_⟩
          exact hown.cells (g := g) (by rw [hL]; rfl) i u hu
      · cases he
    · cases he
  · rename_i id ver k lo n
    split at he
    · rename_i hver
      split at he
      · rename_i e1 k' es0 hc
        split at he
        · rename_i hb
          subst hb
          injection he with he; subst he
          obtain ⟨hN, ad, c, hv, hat⟩ := r.view_inv (show (S.gh L).V id = ver from hver)
          have hb := h.view_le hN hc hat
          obtain ⟨a0, m0, c0, hL, q1, q2, q3, q4⟩ := hat
          obtain ⟨vs, hown, hk, hr⟩ := h.row_at hN hc
          have hL : L id = .slice a0 m0 c0 := hL
          have hlen : ((es0.drop lo).take n).length = n := by simp; omega
          rcases hown.2 with ⟨hL', h0⟩ | ⟨g, cap, cur, hL', _, hh, _, _, _, htake⟩
          · have : es0 = [] := List.eq_nil_of_length_eq_zero h0
            subst this
            rw [hL'] at hL
            injection hL with e1 e2 e3
            subst e1 e2 e3
            left
            have hn0 : n = 0 := by omega
            have hl0 : lo = 0 := by omega
            subst hn0 hl0
            rcases q4 with q4 | q4
            · exact absurd rfl q4.2.1
            · subst q4
              rw [hv, q3]
              exact ⟨by simp, by simp⟩
          · rw [hL'] at hL
            injection hL with e1 e2 e3
            subst e1 e2 e3
            have hfl : ((es0.drop lo).take n).flatten = (es0.flatten.drop (lo * k')).take (n * k') := by
              rw [flatten_take k' n _ (fun u hu => hk u (List.mem_of_mem_drop hu)), flatten_drop k' lo _ hk]
            have hr2 := (hr.drop (lo * k')).take (n * k')
            rw [← hfl] at hr2
            by_cases hn0 : n = 0
            · subst hn0
              cases ad with
              | none =>
                rcases q4 with q4 | q4
                · cases q4.2.2 rfl
                · cases q4
              | some ad =>
                right
                exact ⟨ad, c, [], by rw [hv]; simp, by simpa using RepL.nil, fun i u hu => by simp at hu⟩
            · rcases q4 with q4 | q4
              · omega
              · right
                refine ⟨⟨g, lo * k', none⟩, c, _, by rw [hv, hlen, q4]; simp [add_mid], hr2, fun i u hu => ?_⟩
                rw [add_mid]
                refine cell_block hh ?_
                rw [List.getElem?_take] at hu
                split at hu
                · have hu := getElem?_drop_some hu
                  rw [← htake, List.getElem?_take] at hu
                  split at hu
                  · exact hu
                  · cases hu
                · cases hu
        · cases he
      · cases he
    · cases he
  · cases he

theorem ownBlock_blk {v : Value} {ad : Option Addr} {n c : Nat} (h : v = .slice ad n c) : v.ownBlock = blk v := by subst h; cases ad <;> rfl

/-- an append draws, if at all, on -/
theorem append_drawn {P : Program} (w : World) (base : Nat) (t ty e : TypeId) (i : TypeInfo) (z : Value) (size bytes : Nat) (ht : P.underlying t = some (.slice e)) (hi : P.info? e = some i) (hz : i.zero = some z)
    (hsize : i.size = size) (hby : i.bytes = bytes) (hsz : 0 < size)
    (v : Value) (n : Nat) (xs : List Value) (hown : w.ownsRow base e size v n xs)
    (a : Addr) (m c : Nat) (news : List Value) (hl : news.length = m * size) (hnews : ∀ j u, news[j]? = some u → w.cell? (a.add j) = some u) (h1 : ∀ u ∈ news, u.oneCell' = true)
    (h63 : n + m ≤ maxLen) (hbytes : (n + m) * bytes ≤ 140737488355328) {v' : Value} {w' : World} (hrun : (Builtin.append_ #[t, t] ty #[v, .slice (some a) m c]).run P w = .ok v' w') : w.drawn ≤ w'.drawn := by
  subst hsize
  subst hby
  have hsmall : n + m ≤ 9223372036854775807 := by simp only [maxLen] at h63; omega
  have fin : ∀ {u : Value} {W : World}, (Builtin.append_ #[t, t] ty #[v, .slice (some a) m c]).run P w = .ok u W → w.drawn ≤ W.drawn → w.drawn ≤ w'.drawn := fun h hd => by
    rw [h] at hrun
    injection hrun with _ h2
    rw [← h2]
    exact hd
  rcases hown.2 with ⟨rfl, rfl⟩ | ⟨g, cap, cur, rfl, hbg, hg, hnc, hcm, hcs, htake⟩
  · by_cases hm : m = 0
    · subst hm
      have hn : news = [] := List.eq_nil_of_length_eq_zero (by simpa using hl)
      refine fin (u := .slice none 0 0) (W := w) ?_ (Nat.le_refl _)
      simp [Builtin.append_, run_underlying ht, sizeOf, typeInfo, hi, Builtin.lenOf, Builtin.firstCells, loadCells, loadCellsFrom]
    · exact fin (run_append_nil (P := P) w t ty e i z ht hi hz a m c news hl hnews (by omega) (by omega) (by have hb := hbytes; simp only [Nat.zero_add] at hb; omega)) (Nat.le_succ _)
  · by_cases hroom : n + m ≤ cap
    · have hfit : n * i.size + news.length ≤ cur.size := by rw [hl, hcs, ← Nat.add_mul]; exact Nat.mul_le_mul_right _ hroom
      exact fin (run_append_room (P := P) w t ty e i ht hi g n cap cur hg a m c news hl hnews h1 hroom hfit) (Nat.le_refl _)
    · have holds : ∀ j u, xs[j]? = some u → w.cell? ((⟨g, 0, none⟩ : Addr).add j) = some u := hown.cells (g := g) rfl
      exact fin (run_append_grow (P := P) w t ty e i z ht hi hz ⟨g, 0, none⟩ n cap xs hown.1 holds a m c news hl hnews (by omega) (by omega) (growslice_fits (by omega) hbytes)) (Nat.le_succ _)

theorem g_app (h : Rel E S a w L) (hn : nid < S.N) {t e : TypeId} {y z : Operand} {y' z' : Opd} {i : TypeInfo} {zv : Value} (ho : o.op = .call { callee := .builtin .append, args := #[y, z], argTypes := #[t, t] }) (ht : P.underlying t = some (.slice e)) (hi : P.info? e = some i)
    (hzv : i.zero = some zv) (hzs : zv.cells.size = i.size) (hsz : 0 < i.size) (hy : copd y = some y') (hz : copd z = some z') (he : exec Γ nid S (.app false e i.size i.bytes y' z') = some (x, wr)) : Good P E S a w o x wr := by
  have ry := h.opd hy
  have rz := h.opd hz
  have hexec : ∀ (r : Result Value) , (Builtin.append_ #[t, t] o.type #[a.eval y, a.eval z]).run P w = r → (execOp a.eval o).run P w = r.andThen fun v w' => .ok (.value v) w' := by
    intro r hr
    simp [execOp, ho, resolve, invoke, builtin, hr]
  simp only [exec, appR] at he
  split at he
  · rename_i news hnews
    split at he
    · rename_i hall
      have hall' : ∀ u ∈ news, u.length = i.size ∧ u.all PV.one = true := fun u hu => by have := List.all_eq_true.1 hall u hu; simpa using this
      have hnl : news.flatten.length = news.length * i.size := flatten_len news i.size (fun u hu => (hall' u hu).1)
      have hone : ∀ {vs : List Value}, RepL w (mutb E S L) (S.gh L) news.flatten vs → ∀ u ∈ vs, u.oneCell' = true := by
        intro vs hr u hu
        obtain ⟨q, hq, rfl⟩ := List.mem_iff_getElem.1 hu
        have hx : q < news.flatten.length := by rw [← hr.1]; exact hq
        have hm : news.flatten[q] ∈ news.flatten := List.getElem_mem hx
        obtain ⟨el, hel, hmem⟩ := List.mem_flatten.1 hm
        exact ((hr.2 q _ _ (List.getElem?_eq_getElem hx) (List.getElem?_eq_getElem hq)).one (List.all_eq_true.1 (hall' el hel).2 _ hmem)).1
      -- the general step: an owned row v at id0, with es
      have main : ∀ (id0 : Nat) (hid : id0 < S.N) (es : List (List PV)) (ver' : Nat) (v : Value) (vs : List Value), a.eval y = v → w.ownsRow (rowBase E v) e i.size v es.length vs → RepL w (mutb E S L) (S.gh L) es.flatten vs →
          (∀ u ∈ es, u.length = i.size) → (S.H id0).ver < ver' → (∀ b, v.ownBlock = some b → (S.H id0).c.live = true ∧ blk (L id0) = some b) → es.length + news.length ≤ maxLen → (es.length + news.length) * i.bytes ≤ 140737488355328 →
          Good P E S a w o (.own id0 ver') (some (id0, ⟨ver', .row e i.size (es ++ news)⟩)) := by
        intro id0 hid es ver' v vs hv hown hr hk hver hblk hmax hby
        have hk2 : ∀ u ∈ es ++ news, u.length = i.size := fun u hu => by
          rcases List.mem_append.1 hu with hu | hu
          · exact hk u hu
          · exact (hall' u hu).1
        -- run the append
        have hrun : ∃ v' w' us, (Builtin.append_ #[t, t] o.type #[a.eval y, a.eval z]).run P w = .ok v' w' ∧ w'.ownsRow (rowBase E v) e i.size v' (es.length + news.length) (vs ++ us) ∧ w.grownBy w' v.ownBlock ∧
            (v'.ownBlock = v.ownBlock ∨ v'.ownBlock = some w.heap.size) ∧ RepL w (mutb E S L) (S.gh L) news.flatten us ∧ w.drawn ≤ w'.drawn := by
          rcases h.elems_cells rz hnews with ⟨hvz, hnil⟩ | ⟨ad, c, us, hvz, hrz, hcz⟩
          · subst hnil
            refine ⟨v, w, [], by rw [hv, hvz]; exact run_append_of_nil ht hi hown 0, by simpa using hown, World.grownBy.refl w _, .inl rfl, RepL.nil, Nat.le_refl _⟩
          · have hus : us.length = news.length * i.size := by rw [hrz.1, hnl]
            obtain ⟨v', w', h1, h2, h3, _, h5⟩ := run_append_own_at (P := P) w (rowBase E v) t o.type e i zv i.size i.bytes ht hi hzv rfl rfl hzs hsz v es.length vs hown ad news.length c us hus hcz (hone hrz) hmax hby (Nat.le_trans (rowBase_le E v) h.fr.size)
            exact ⟨v', w', us, by rw [hv, hvz]; exact h1, h2, h3, h5, hrz, append_drawn w (rowBase E v) t o.type e i zv i.size i.bytes ht hi hzv rfl rfl hsz v es.length vs hown ad news.length c us hus hcz (hone hrz) hmax hby h1⟩
        obtain ⟨v', w', us, hr1, hown', hgr, hat, hru, hdrw⟩ := hrun
        have hv' : ∃ ad n c, v' = .slice ad n c := by
          rcases hown'.2 with ⟨rfl, _⟩ | ⟨g, cap, cur, rfl, _⟩
          · exact ⟨_, _, _, rfl⟩
          · exact ⟨_, _, _, rfl⟩
        obtain ⟨ad', n', c', hv'⟩ := hv'
        have hvb : ∃ ad n c, v = .slice ad n c := by
          rcases hown.2 with ⟨rfl, _⟩ | ⟨g, cap, cur, rfl, _⟩
          · exact ⟨_, _, _, rfl⟩
          · exact ⟨_, _, _, rfl⟩
        obtain ⟨ad0, n0, c0, hv0⟩ := hvb
        have hown' : w'.ownsRow (rowBase E v') e i.size v' (es.length + news.length) (vs ++ us) := by
          rcases hat with hat | hat
          · rw [rowBase_congr (v := v') (v' := v) (by rw [← ownBlock_blk hv', ← ownBlock_blk hv0, hat])]
            exact hown'
          · refine ⟨hown'.1, ?_⟩
            rcases hown'.2 with hnil | ⟨g, cap, cur, e1, e2, e3⟩
            · exact .inl hnil
            · rw [ownBlock_blk hv'] at hat
              have hg : g = w.heap.size := by rw [e1] at hat; simpa [blk] using hat
              refine .inr ⟨g, cap, cur, e1, ?_, e3⟩
              rw [rowBase_new hat h.fr.size, hg]
              exact h.fr.size
        obtain ⟨h2, hs2, hg2⟩ := h.turn (w' := w') (hdr := DL.of hdrw) hid ⟨ver', .row e i.size (es ++ news)⟩ v' (.inr hver) hgr.os hgr.tape hgr.output hgr.size
          (fun b hb hne => hgr.block b hb (fun eb => by
            obtain ⟨q1, q2⟩ := hblk b eb.symm
            exact hne q1 q2))
          (fun b _ hb => by
            rw [← ownBlock_blk hv'] at hb
            rcases hat with hat | hat
            · rw [hat] at hb
              exact .inl (hblk b hb)
            · rw [hat] at hb
              injection hb with hb
              exact .inr (by omega))
          (fun hs2 hg2 => ⟨vs ++ us, by simpa using hown', hk2, by simp only [List.flatten_append]; exact (hr.append hru).mono hs2 hg2⟩)
        refine ⟨_, w', _, v', by rw [hexec _ hr1]; rfl, .inl rfl, ?_, h2⟩
        subst hv'
        exact .own _ _ _ _ _ hid (by simp [St.gh, St.appH, upd_same]) (fun _ => by simp [St.gh, St.appH, upd_same])
      split at he
      · rename_i ey
        rw [ey] at ry
        split at he
        · rename_i hb
          obtain ⟨rfl, rfl⟩ := some_inv he
          have := main nid hn [] ((S.H nid).ver + 1) (.slice none 0 0) [] ry.nils_inv (World.ownsRow_nil w _ _ _) RepL.nil (by simp) (Nat.lt_succ_self _) (fun b hb => by simp [Value.ownBlock] at hb) (by simpa using hb.2) (by simpa using hb.1)
          simpa using this
        · cases he
      · rename_i id ver ey
        rw [ey] at ry
        split at he
        · rename_i hver
          split at he
          · rename_i e' k' es hc
            split at he
            · rename_i hb
              obtain ⟨rfl, rfl, hby, hmax⟩ := hb
              obtain ⟨rfl, rfl⟩ := some_inv he
              obtain ⟨hN, hv⟩ := ry.own_inv (show (S.gh L).V id = ver from hver)
              obtain ⟨vs, hown, hk, hr⟩ := h.row_at hN hc
              have hLs : ∃ ad n c, L id = .slice ad n c := by
                rcases hown.2 with ⟨hL, _⟩ | ⟨g, cap, cur, hL, _⟩
                · exact ⟨_, _, _, hL⟩
                · exact ⟨_, _, _, hL⟩
              obtain ⟨ad0, n0, c0, hL0⟩ := hLs
              exact main id hN es (ver + 1) (L id) vs hv hown hr hk (by omega) (fun b hb => ⟨by rw [hc]; rfl, by rw [ownBlock_blk hL0] at hb; exact hb⟩) hmax hby
            · cases he
          · cases he
        · cases he
      · cases he
    · cases he
  · cases he

theorem zeroCells_list (z : Array Value) (n : Nat) : (Builtin.zeroCells z n).toList = (List.replicate n z.toList).flatten := by
  unfold Builtin.zeroCells
  by_cases hz : 0 < z.size
  · exact made_list z hz n
  · have h0 : z.size = 0 := by omega
    have hz : z = #[] := Array.eq_empty_of_size_eq_zero h0
    subst hz
    simp

theorem g_clear (h : Rel E S a w L) {t e : TypeId} {y : Operand} {y' : Opd} {i : TypeInfo} {zc : List PV} (ho : o.op = .call { callee := .builtin .clear, args := #[y], argTypes := #[t] }) (ht : P.underlying t = some (.slice e)) (hi : P.info? e = some i)
    (hz : zeroC P e = some zc) (hy : copd y = some y') (he : exec Γ nid S (.clear i.size zc y') = some (x, wr)) : Good P E S a w o x wr := by
  have r := h.opd hy
  simp only [exec] at he
  split at he
  case h_2 => cases he
  rename_i id ver k0 lo n e0
  rw [e0] at r
  split at he
  case isFalse => cases he
  rename_i hver
  split at he
  case h_2 => cases he
  rename_i e1 k' es hc
  split at he
  case isFalse => cases he
  rename_i hb
  obtain ⟨hk1, hk2, hk3, hone⟩ := hb
  subst hk2
  subst hk1
  obtain ⟨rfl, rfl⟩ := some_inv he
  obtain ⟨hN, ad, c, hv, hat⟩ := r.view_inv (show (S.gh L).V id = ver from hver)
  have hlen := h.view_le hN hc hat
  obtain ⟨a0, m0, c0, hL, q1, q2, q3, q4⟩ := hat
  have hL : L id = .slice a0 m0 c0 := hL
  obtain ⟨vs, hown, hk, hr⟩ := h.row_at hN hc
  obtain ⟨i', v, hi', hv0, hs, hrz⟩ := zeroC_at (P := P) (w := w) (M := mutb E S L) (G := S.gh L) hz
  rw [hi] at hi'
  injection hi' with hi'
  subst hi'
  have hkz : ∀ u ∈ es.take lo ++ List.replicate n (zc.map nz) ++ es.drop (lo + n), u.length = i.size := by
    intro u hu
    simp only [List.mem_append] at hu
    rcases hu with (hu | hu) | hu
    · exact hk u (List.mem_of_mem_take hu)
    · rw [(List.mem_replicate.1 hu).2, List.length_map, hk3]
    · exact hk u (List.mem_of_mem_drop hu)
  have hlz : (es.take lo ++ List.replicate n (zc.map nz) ++ es.drop (lo + n)).length = es.length := by simp; omega
  have hfl : (es.take lo ++ List.replicate n (zc.map nz) ++ es.drop (lo + n)).flatten = es.flatten.take (lo * i.size) ++ (List.replicate n (zc.map nz)).flatten ++ es.flatten.drop (lo * i.size + n * i.size) := by
    rw [List.flatten_append, List.flatten_append, flatten_take i.size lo es hk, flatten_drop i.size (lo + n) es hk, Nat.add_mul]
  have hrn : RepL w (mutb E S L) (S.gh L) (List.replicate n (zc.map nz)).flatten (List.replicate n v.cells.toList).flatten := replicate_rep hrz.nz n
  have hnl : (List.replicate n v.cells.toList).flatten.length = n * i.size := by rw [flatten_len _ i.size (fun u hu => by rw [(List.mem_replicate.1 hu).2]; simpa using hs)]; simp
  by_cases hn0 : n = 0
  · subst hn0
    have hsame : es.take lo ++ List.replicate 0 (zc.map nz) ++ es.drop (lo + 0) = es := by simp
    rw [hsame]
    obtain ⟨h2, hs2, hg⟩ := h.turn (w' := w) hN ⟨ver, .row e1 i.size es⟩ (L id) (.inl ⟨hver.symm, rfl, by rw [hc]; rfl⟩) rfl rfl rfl (Nat.le_refl _)
      (fun q hq _ => rfl) (fun q _ hq => .inl ⟨by rw [hc]; rfl, hq⟩) (fun hs2 hg => ⟨vs, hown, hk, hr.mono hs2 hg⟩)
    refine ⟨_, w, _, .tuple #[], ?_, .inl rfl, .tup [] [] rfl (fun j p u hp => by simp at hp), h2⟩
    cases ad <;> simp [execOp, ho, resolve, invoke, builtin, Builtin.clear_, run_underlying ht, hv]
  · rcases hown.2 with ⟨hL', h0⟩ | ⟨g, cap, cur, hL', hb1, hh, hnc, hcm, hcs, htake⟩
    · omega
    rw [hL'] at hL
    injection hL with e2 e3 e4
    subst e2 e3 e4
    rcases q4 with q4 | q4
    · omega
    have hone' : ∀ u ∈ (List.replicate n v.cells.toList).flatten, u.oneCell' = true := by
      intro u hu
      obtain ⟨l, hl, hul⟩ := List.mem_flatten.1 hu
      rw [(List.mem_replicate.1 hl).2] at hul
      obtain ⟨q, hq, rfl⟩ := List.mem_iff_getElem.1 hul
      have hx : q < zc.length := by rw [← hrz.1]; exact hq
      exact ((hrz.2 q _ _ (List.getElem?_eq_getElem hx) (List.getElem?_eq_getElem hq)).one (List.all_eq_true.1 hone _ (List.getElem_mem hx))).1
    have hcl : lo * i.size + n * i.size ≤ cur.size := by
      rw [hcs, ← Nat.add_mul]
      exact Nat.mul_le_mul_right _ (by omega)
    have hst := run_storeCells_at (P := P) g (lo * i.size) e1 (List.replicate n v.cells.toList).flatten 0 cur w hh (by rw [hnl]; omega) hone'
    simp only [Nat.add_zero, hnl] at hst
    have hz0 : (Builtin.zeroCells v.cells n).toList = (List.replicate n v.cells.toList).flatten := zeroCells_list _ _
    have hset : (w.setRow g (cur.toList.take (lo * i.size) ++ (List.replicate n v.cells.toList).flatten ++ cur.toList.drop (lo * i.size + n * i.size)).toArray).ownsRow (rowBase E (L id)) e1 i.size (L id) (es.take lo ++ List.replicate n (zc.map nz) ++ es.drop (lo + n)).length (vs.take (lo * i.size) ++ (List.replicate n v.cells.toList).flatten ++ vs.drop (lo * i.size + n * i.size)) := by
      have hvl : vs.length = es.length * i.size := hown.1
      have hle : lo * i.size + n * i.size ≤ es.length * i.size := by rw [← Nat.add_mul]; exact Nat.mul_le_mul_right _ hlen
      rw [hlz]
      refine ⟨by simp only [List.length_append, List.length_take, List.length_drop, hnl, hvl]; omega, .inr ⟨g, cap, _, hL', hb1, setRow_heap w g cur _ e1 _ hh, hnc, hcm, by
        rw [hcs] at hcl
        simp only [List.size_toArray, List.length_append, List.length_take, List.length_drop, Array.length_toList, hnl, hcs]
        omega, ?_⟩⟩
      rw [← htake]
      have hce : es.length * i.size ≤ cur.size := by rw [hcs]; exact Nat.mul_le_mul_right _ hnc
      simpa using take_splice cur.toList (List.replicate n v.cells.toList).flatten (lo * i.size) (n * i.size) (es.length * i.size) hnl hle (by simpa using hce)
    obtain ⟨h2, hs2, hg⟩ := h.turn (w' := w.setRow g (cur.toList.take (lo * i.size) ++ (List.replicate n v.cells.toList).flatten ++ cur.toList.drop (lo * i.size + n * i.size)).toArray) hN
      ⟨ver, .row e1 i.size (es.take lo ++ List.replicate n (zc.map nz) ++ es.drop (lo + n))⟩ (L id) (.inl ⟨hver.symm, rfl, by rw [hc]; rfl⟩) rfl rfl rfl (by simp)
      (fun q hq hne => setRow_other w g q _ (fun ek => hne (by rw [hc]; rfl) (by rw [hL', ek]; rfl)))
      (fun q _ hq => .inl ⟨by rw [hc]; rfl, hq⟩)
      (fun hs2 hg => ⟨_, hset, hkz, by
        rw [hfl]
        have h5 := (((hr.take (lo * i.size)).append hrn).append (hr.drop (lo * i.size + n * i.size))).mono hs2 hg
        exact h5⟩)
    refine ⟨_, _, _, .tuple #[], ?_, .inl rfl, .tup [] [] rfl (fun j p u hp => by simp at hp), h2⟩
    have hv' : a.eval y = .slice (some ⟨g, lo * i.size, none⟩) n c := by rw [hv, q4]; simp [add_mid]
    have hnn : ∃ m, n = m + 1 := ⟨n - 1, by omega⟩
    obtain ⟨m, rfl⟩ := hnn
    simp [execOp, ho, resolve, invoke, builtin, Builtin.clear_, run_underlying ht, hv', zeroValue, typeInfo, hi, hv0, hz0, hst]

/-- copy into a row: elements of any number of cells -/
theorem run_copy_rowk {P : Program} (w : World) (dT sT ty elem : TypeId) (g o dLen dCap : Nat) (a : Addr) (sLen sCap : Nat) (cur : Array Value) (t : TypeId) (cs : List Value) (size n : Nat)
    (hu : P.underlying dT = some (.slice elem)) (hs : (P.info? elem).map (·.size) = some size)
    (hg : w.heap[g]? = some (.cells cur t (0, 0))) (hn : n = Nat.min sLen dLen) (hcl : cs.length = n * size)
    (hsrc : ∀ (j : Nat) (v : Value), cs[j]? = some v → w.cell? (a.add j) = some v) (hfit : o + cs.length ≤ cur.size) (h1 : ∀ v ∈ cs, v.oneCell' = true) :
    (Builtin.copy_ #[dT, sT] ty #[.slice (some ⟨g, o, none⟩) dLen dCap, .slice (some a) sLen sCap]).run P w =
      .ok (goInt n) (w.setRow g (cur.toList.take o ++ cs ++ cur.toList.drop (o + cs.length)).toArray) := by
  have hl := run_loadCells_list (P := P) w a cs hsrc
  have hst := run_storeCells_at P g o t cs 0 cur w hg (by simpa using hfit) h1
  rw [hcl] at hl
  cases hq : P.info? elem with
  | none => simp [hq] at hs
  | some i =>
    have hi : i.size = size := by simpa [hq] using hs
    simp [Builtin.copy_, run_underlying hu, Builtin.lenOf, Builtin.firstCells, sizeOf, typeInfo, hq, hi, ← hn, hl, hst]
theorem run_copy_zero {P : Program} (w : World) (dT sT ty elem : TypeId) (d a : Option Addr) (dLen dCap sLen sCap : Nat) {i : TypeInfo} (hu : P.underlying dT = some (.slice elem)) (hq : P.info? elem = some i) (hn : Nat.min sLen dLen = 0) :
    (Builtin.copy_ #[dT, sT] ty #[.slice d dLen dCap, .slice a sLen sCap]).run P w = .ok (goInt 0) w := by
  have hl : ∀ (x : Addr), (loadCells x 0).run P w = .ok #[] w := fun x => by simpa using run_loadCells_list (P := P) w x [] (by simp)
  cases d <;> cases a <;> simp [Builtin.copy_, run_underlying hu, Builtin.lenOf, Builtin.firstCells, sizeOf, typeInfo, hq, hn, storeCells, hl]
theorem g_cpy (h : Rel E S a w L) {t e : TypeId} {y z : Operand} {y' z' : Opd} {i : TypeInfo} (ho : o.op = .call { callee := .builtin .copy, args := #[y, z], argTypes := #[t, t] }) (ht : P.underlying t = some (.slice e)) (hi : P.info? e = some i)
    (hy : copd y = some y') (hz : copd z = some z') (he : exec Γ nid S (.cpy e i.size y' z') = some (x, wr)) : Good P E S a w o x wr := by
  have ry := h.opd hy
  have rz := h.opd hz
  simp only [exec] at he
  split at he
  · cases he
  rename_i ys hys
  have main : ∀ (id ver : Nat) (es : List (List PV)) (lo n c : Nat) (ad : Option Addr), id < S.N → (S.H id).ver = ver → (S.H id).c = .row e i.size es → a.eval y = .slice ad n c → lo + n ≤ es.length →
      (n ≠ 0 → ∃ g m0 c0, L id = .slice (some ⟨g, 0, none⟩) m0 c0 ∧ ad = some ⟨g, lo * i.size, none⟩) → ys.all (fun u => u.length == i.size && u.all PV.one) = true →
      Good P E S a w o (.int .i64 (min n ys.length : Nat)) (some (id, ⟨ver, .row e i.size (cpyL es lo n ys)⟩)) := by
    intro id ver es lo n c ad hN hver hc hv hlen hat hall
    have hall' : ∀ u ∈ ys, u.length = i.size ∧ u.all PV.one = true := fun u hu => by have := List.all_eq_true.1 hall u hu; simpa using this
    obtain ⟨vs, hown, hk, hr⟩ := h.row_at hN hc
    have hexec : ∀ {w' : World} {u : Value}, (Builtin.copy_ #[t, t] o.type #[a.eval y, a.eval z]).run P w = .ok u w' → (execOp a.eval o).run P w = .ok (.value u) w' := by
      intro w' u hr
      simp [execOp, ho, resolve, invoke, builtin, hr]
    have hsrc := h.elems_cells rz hys
    by_cases hm : min n ys.length = 0
    · have hsame : cpyL es lo n ys = es := by
        have h1 : ys.take n = [] := by
          rcases Nat.eq_zero_or_pos n with h0 | h0
          · rw [h0]; rfl
          · rw [List.eq_nil_of_length_eq_zero (l := ys) (by omega)]; simp
        rw [cpyL, h1, hm]
        simp
      rw [hsame, hm]
      obtain ⟨h2, hs2, hg⟩ := h.turn (w' := w) hN ⟨ver, .row e i.size es⟩ (L id) (.inl ⟨hver.symm, rfl, by rw [hc]; rfl⟩) rfl rfl rfl (Nat.le_refl _)
        (fun q hq _ => rfl) (fun q _ hq => .inl ⟨by rw [hc]; rfl, hq⟩) (fun hs2 hg => ⟨vs, hown, hk, hr.mono hs2 hg⟩)
      have hz' : ∃ ad' c', a.eval z = .slice ad' ys.length c' := by
        rcases hsrc with ⟨h1, h2⟩ | ⟨ad', c', us, h1, _⟩
        · exact ⟨none, 0, by rw [h1, h2]; rfl⟩
        · exact ⟨some ad', c', h1⟩
      obtain ⟨ad', c', hz'⟩ := hz'
      refine ⟨_, w, _, goInt 0, hexec ?_, .inl rfl, .int _ _, h2⟩
      rw [hv, hz']
      exact run_copy_zero w t t o.type e ad ad' n c ys.length c' ht hi (by show min ys.length n = 0; omega)
    · rcases hsrc with ⟨h1, h2⟩ | ⟨ad', c', us, hvz, hrz, hcz⟩
      · rw [h2] at hm; simp at hm
      obtain ⟨g0, m0, c0, hL, rfl⟩ := hat (by omega)
      have hL0 := hL
      rcases hown.2 with ⟨hL', h0⟩ | ⟨g, cap, cur, hL', hb1, hh, hnc, hcm, hcs, htake⟩
      · rw [hL'] at hL; cases hL
      rw [hL'] at hL
      injection hL with e2 e3 e4
      injection e2 with e2
      injection e2 with e2
      subst e2
      generalize hq : min n ys.length = m at hm ⊢
      have hyl : us.length = ys.length * i.size := by rw [hrz.1, flatten_len ys i.size fun u hu => (hall' u hu).1]
      have hcl' : (us.take (m * i.size)).length = m * i.size := by
        rw [List.length_take, hyl]
        exact Nat.min_eq_left (Nat.mul_le_mul_right _ (by omega))
      have hone' : ∀ u ∈ us.take (m * i.size), u.oneCell' = true := by
        intro u hu
        obtain ⟨q, hq, rfl⟩ := List.mem_iff_getElem.1 (List.mem_of_mem_take hu)
        have hx : q < ys.flatten.length := by rw [← hrz.1]; exact hq
        obtain ⟨el, hel, hmem⟩ := List.mem_flatten.1 (List.getElem_mem hx)
        exact ((hrz.2 q _ _ (List.getElem?_eq_getElem hx) (List.getElem?_eq_getElem hq)).one (List.all_eq_true.1 (hall' el hel).2 _ hmem)).1
      have hmt : (ys.take n).length = m := by rw [List.length_take]; exact hq
      have hkz : ∀ u ∈ cpyL es lo n ys, u.length = i.size := by
        intro u hu
        simp only [cpyL, List.mem_append] at hu
        rcases hu with (hu | hu) | hu
        · exact hk u (List.mem_of_mem_take hu)
        · exact (hall' u (List.mem_of_mem_take hu)).1
        · exact hk u (List.mem_of_mem_drop hu)
      have hlz : (cpyL es lo n ys).length = es.length := by
        simp only [cpyL, List.length_append, List.length_take, List.length_drop]
        omega
      have hfl : (cpyL es lo n ys).flatten = es.flatten.take (lo * i.size) ++ ys.flatten.take (m * i.size) ++ es.flatten.drop (lo * i.size + m * i.size) := by
        have h1 : ys.take n = ys.take m := by rw [← hq, Nat.min_def]; split <;> first | rfl | (rw [List.take_of_length_le (by omega), List.take_of_length_le (Nat.le_refl _)])
        rw [cpyL, hq, h1, List.flatten_append, List.flatten_append, flatten_take i.size lo es hk, flatten_take i.size m ys (fun u hu => (hall' u hu).1), flatten_drop i.size (lo + m) es hk, Nat.add_mul]
      have hcl : lo * i.size + m * i.size ≤ cur.size := by
        rw [hcs, ← Nat.add_mul]
        exact Nat.mul_le_mul_right _ (by omega)
      have hrun := run_copy_rowk (P := P) w t t o.type e g (lo * i.size) n c ad' ys.length c' cur e (us.take (m * i.size)) i.size m ht (by rw [hi]; rfl) hh (by show m = min ys.length n; omega) hcl'
        (fun j v hj => hcz j v (by rw [List.getElem?_take] at hj; split at hj; exact hj; cases hj)) (by rw [hcl']; exact hcl) hone'
      rw [hcl'] at hrun
      have hset : (w.setRow g (cur.toList.take (lo * i.size) ++ us.take (m * i.size) ++ cur.toList.drop (lo * i.size + m * i.size)).toArray).ownsRow (rowBase E (L id)) e i.size (L id) (cpyL es lo n ys).length (vs.take (lo * i.size) ++ us.take (m * i.size) ++ vs.drop (lo * i.size + m * i.size)) := by
        have hvl : vs.length = es.length * i.size := hown.1
        have hle : lo * i.size + m * i.size ≤ es.length * i.size := by rw [← Nat.add_mul]; exact Nat.mul_le_mul_right _ (by omega)
        rw [hlz]
        refine ⟨by simp only [List.length_append, List.length_drop, hcl', hvl]; rw [List.length_take, hvl]; omega, .inr ⟨g, cap, _, hL', hb1, setRow_heap w g cur _ e _ hh, hnc, hcm, by
          rw [hcs] at hcl
          simp only [List.size_toArray, List.length_append, List.length_drop, Array.length_toList, hcl', hcs]
          rw [List.length_take, Array.length_toList, hcs]
          omega, ?_⟩⟩
        rw [← htake]
        have hce : es.length * i.size ≤ cur.size := by rw [hcs]; exact Nat.mul_le_mul_right _ hnc
        simpa using take_splice cur.toList (us.take (m * i.size)) (lo * i.size) (m * i.size) (es.length * i.size) hcl' hle (by simpa using hce)
      obtain ⟨h2, hs2, hg⟩ := h.turn (w' := w.setRow g (cur.toList.take (lo * i.size) ++ us.take (m * i.size) ++ cur.toList.drop (lo * i.size + m * i.size)).toArray) hN
        ⟨ver, .row e i.size (cpyL es lo n ys)⟩ (L id) (.inl ⟨hver.symm, rfl, by rw [hc]; rfl⟩) rfl rfl rfl (by simp)
        (fun q hq hne => setRow_other w g q _ (fun ek => hne (by rw [hc]; rfl) (by rw [hL', ek]; rfl)))
        (fun q _ hq => .inl ⟨by rw [hc]; rfl, hq⟩)
        (fun hs2 hg => ⟨_, hset, hkz, by
          rw [hfl]
          exact (((hr.take (lo * i.size)).append (hrz.take (m * i.size))).append (hr.drop (lo * i.size + m * i.size))).mono hs2 hg⟩)
      exact ⟨_, _, _, goInt m, hexec (by rw [hv, hvz]; exact hrun), .inl rfl, .int _ _, h2⟩
  split at he
  · rename_i id ver e0
    rw [e0] at ry
    split at he
    case isFalse => cases he
    rename_i hver
    split at he
    case h_2 => cases he
    rename_i e1 k' es hc
    split at he
    case isFalse => cases he
    rename_i hb
    obtain ⟨rfl, rfl, hall⟩ := hb
    obtain ⟨rfl, rfl⟩ := some_inv he
    obtain ⟨hN, hv⟩ := ry.own_inv (show (S.gh L).V id = ver from hver)
    have hv : a.eval y = L id := hv
    obtain ⟨vs, hown, hk, hr⟩ := h.row_at hN hc
    rcases hown.2 with ⟨hL, h0⟩ | ⟨g, cap, cur, hL, _⟩
    · have := main id ver es 0 es.length 0 none hN hver hc (by rw [hv, hL, h0]) (by omega) (fun h1 => absurd h0 h1) hall
      exact this
    · have := main id ver es 0 es.length cap _ hN hver hc (by rw [hv, hL]) (by omega) (fun _ => ⟨g, _, _, hL, by simp⟩) hall
      exact this
  · rename_i id ver k0 lo n e0
    rw [e0] at ry
    split at he
    case isFalse => cases he
    rename_i hver
    split at he
    case h_2 => cases he
    rename_i e1 k' es hc
    split at he
    case isFalse => cases he
    rename_i hb
    obtain ⟨rfl, rfl, rfl, hall⟩ := hb
    obtain ⟨rfl, rfl⟩ := some_inv he
    obtain ⟨hN, ad, c, hv, hat⟩ := ry.view_inv (show (S.gh L).V id = ver from hver)
    have hle := h.view_le hN hc hat
    obtain ⟨a0, m0, c0, hL, q1, q2, q3, q4⟩ := hat
    have hL : L id = .slice a0 m0 c0 := hL
    refine main id ver es lo n c ad hN hver hc hv hle (fun h1 => ?_) hall
    obtain ⟨vs, hown, hk, hr⟩ := h.row_at hN hc
    rcases hown.2 with ⟨hL', h0⟩ | ⟨g, cap, cur, hL', _⟩
    · omega
    · rw [hL'] at hL
      injection hL with e2 e3 e4
      subst e2 e3 e4
      rcases q4 with q4 | q4
      · omega
      · exact ⟨g, _, _, hL', by rw [q4]; simp [add_mid]⟩
  · cases he

theorem g_isnil (h : Rel E S a w L) {neg : Bool} {t t2 e : TypeId} {y : Operand} {y' : Opd} (ho : o.op = .binOp (if neg then .neq else .eql) t y (.const (.slice none 0 0)) t2) (ht : P.underlying t = some (.slice e)) (hy : copd y = some y')
    (he : exec Γ nid S (.isnil neg y') = some (x, wr)) : Good P E S a w o x wr := by
  have r := h.opd hy
  have key : ∀ (ad : Option Addr) (n c : Nat), a.eval y = .slice ad n c → (execOp a.eval o).run P w = .ok (.value (.bool (xor neg ad.isNone))) w := by
    intro ad n c hv
    have hc : a.eval (.const (.slice none 0 0)) = .slice none 0 0 := rfl
    have hq := run_equal_slice_nil (P := P) w t e ad n c ht
    have hg : ∀ op, (eqGuard op t y (.const (.slice none 0 0)) (.slice ad n c) (.slice none 0 0)).run P w = .ok () w := by intro op; cases op <;> simp [eqGuard]
    cases neg
    · simp only [Bool.false_eq_true, if_false] at ho
      simp only [execOp, ho, hv, hc, Sem.run_bind, hg, Result.andThen_ok, binOp, hq, Sem.run_pure]
      simp
    · simp only [if_true] at ho
      simp only [execOp, ho, hv, hc, Sem.run_bind, hg, Result.andThen_ok, binOp, hq, Sem.run_pure]
      simp
  simp only [exec] at he
  split at he
  · rename_i e0
    rw [e0] at r
    obtain ⟨rfl, rfl⟩ := some_inv he
    exact Good.pure h (key none 0 0 r.nils_inv) (by cases neg <;> exact .bool _)
  · split at he
    · rename_i hes
      obtain ⟨rfl, rfl⟩ := some_inv he
      obtain ⟨ad, c, hv⟩ := h.elems_at r hes
      exact Good.pure h (key ad _ c hv) (.ubool _)
    · rename_i u us hes
      obtain ⟨rfl, rfl⟩ := some_inv he
      rcases h.elems_cells r hes with ⟨_, h0⟩ | ⟨ad, c, vs, hv, _⟩
      · cases h0
      · exact Good.pure h (key (some ad) _ c hv) (by cases neg <;> exact .bool _)
    · cases he
end
end Go.TQ
