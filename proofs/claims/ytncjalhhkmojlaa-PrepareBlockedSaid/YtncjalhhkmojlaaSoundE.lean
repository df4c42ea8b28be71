/-
  Cuts of slices, appends, equality of a struct of a number and a string. Conditions: none (generic in the program).
-/
import Derived.Test.YtncjalhhkmojlaaSoundD
import Derived.Laws.Cover3
namespace Go.TQ
open Go.RowKit
section
variable {P : Program} {E : En} {S : St} {a : Act} {w : World} {L : Nat → Value} {o : Oper} {x : PV} {wr : Option (Nat × AObj)} {Γ : Tab} {nid : Nat}

def optI (S : St) (y : Option Opd) (d : Int) : Option Int :=
  match y with
  | none => some d
  | some l => match l.val S with | .int _ n => some n | _ => none

theorem optI_at (h : Rel E S a w L) {y : Option Operand} {y' : Option Opd} (hy : y.mapM copd = some y') {d n : Int} (hn : optI S y' d = some n) :
    (y = none ∧ n = d) ∨ ∃ z k, y = some z ∧ a.eval z = .int k n := by
  cases y with
  | none =>
    simp at hy
    subst hy
    simp only [optI, Option.some.injEq] at hn
    exact .inl ⟨rfl, hn.symm⟩
  | some z =>
    simp only [Option.mapM_some, Option.map_eq_map, Option.map_eq_some_iff] at hy
    obtain ⟨z', hz, rfl⟩ := hy
    have r := h.opd hz
    simp only [optI] at hn
    split at hn
    · rename_i k m e
      rw [e] at r
      injection hn with hn
      subst hn
      exact .inr ⟨z, k, rfl, r.int_inv⟩
    · cases hn

theorem run_slc {t e : TypeId} {y : Operand} {lo hi : Option Operand} {i : TypeInfo} {ad : Option Addr} {n c : Nat} {l h : Int} (ho : o.op = .slice t y lo hi none) (ht : P.underlying t = some (.slice e)) (hi' : P.info? e = some i)
    (hv : a.eval y = .slice ad n c) (hlo : (lo = none ∧ l = 0) ∨ ∃ z k, lo = some z ∧ a.eval z = .int k l) (hhi : (hi = none ∧ h = n) ∨ ∃ z k, hi = some z ∧ a.eval z = .int k h) (h0 : 0 ≤ l) (h1 : l ≤ h) (h2 : h ≤ n) (h3 : n ≤ c) :
    (execOp a.eval o).run P w = .ok (.value (.slice (if c = l.toNat then ad else ad.map (·.add (l.toNat * i.size))) (h.toNat - l.toNat) (c - l.toNat))) w := by
  have e1 : 0 ≤ h := by omega
  have e2 : h ≤ (c : Int) := by omega
  have e3 : l ≤ ((h.toNat : Nat) : Int) := by omega
  rcases hlo with ⟨rfl, rfl⟩ | ⟨z, k, rfl, hz⟩ <;> rcases hhi with ⟨rfl, rfl⟩ | ⟨z2, k2, rfl, hz2⟩ <;>
    simp [execOp, Instr.sliceAt, Instr.slice, run_underlying ht, Instr.sliceBounds, Instr.sliceBound, asIntOf, sizeOf, typeInfo, *] <;> omega

theorem g_slc (h : Rel E S a w L) {t e : TypeId} {y : Operand} {lo hi : Option Operand} {y' : Opd} {lo' hi' : Option Opd} {i : TypeInfo} (ho : o.op = .slice t y lo hi none) (ht : P.underlying t = some (.slice e)) (hi0 : P.info? e = some i)
    (hy : copd y = some y') (hlo : lo.mapM copd = some lo') (hhi : hi.mapM copd = some hi') (he : exec Γ nid S (.slc i.size y' lo' hi') = some (x, wr)) : Good P E S a w o x wr := by
  have r := h.opd hy
  simp only [exec] at he
  split at he
  · rename_i es e0
    rw [e0] at r
    split at he
    · rename_i hall
      have hall' : ∀ u ∈ es, u.length = i.size := fun u hu => by have := List.all_eq_true.1 hall u hu; simpa using this
      split at he
      · rename_i l hh el eh
        split at he
        · rename_i hb
          obtain ⟨hb0, hb1, hb2⟩ := hb
          obtain ⟨rfl, rfl⟩ := some_inv he
          have hl := optI_at h hlo (d := 0) (n := l) (by unfold optI; exact el)
          have hh' := optI_at h hhi (d := (es.length : Int)) (n := hh) (by unfold optI; exact eh)
          have hlen : ((es.take hh.toNat).drop l.toNat).length = hh.toNat - l.toNat := by simp; omega
          rcases r.sl_inv with ⟨hv, h0⟩ | ⟨ad, c, k, vs, hv, hk, hr, hc, hn, hm⟩
          · subst h0
            refine Good.pure h (run_slc (n := 0) ho ht hi0 hv hl (by simpa using hh') hb0 hb1 (by simpa using hb2) (Nat.le_refl _)) ?_
            have e1 : hh = 0 := by simp at hb2; omega
            have e2 : l = 0 := by omega
            subst e1 e2
            simpa using Rep.slnil
          · refine Good.pure h (run_slc ho ht hi0 hv hl hh' hb0 hb1 hb2 hn) ?_
            rw [← hlen]
            have hkk : ∀ u ∈ (es.take hh.toNat).drop l.toNat, u.length = i.size := fun u hu => hall' u (List.mem_of_mem_take (List.mem_of_mem_drop hu))
            -- the cells
            have hfl : ((es.take hh.toNat).drop l.toNat).flatten = (es.flatten.take (hh.toNat * i.size)).drop (l.toNat * i.size) := by
              have t1 : ∀ (m : Nat) (fs : List (List PV)), (∀ u ∈ fs, u.length = i.size) → (fs.take m).flatten = fs.flatten.take (m * i.size) := by
                intro m
                induction m with
                | zero => intro fs _; simp
                | succ m ih =>
                  intro fs hf
                  cases fs with
                  | nil => simp
                  | cons u us =>
                    have hu : u.length = i.size := hf u (by simp)
                    simp only [List.take_succ_cons, List.flatten_cons, ih us (fun q hq => hf q (by simp [hq]))]
                    rw [Nat.add_mul, Nat.one_mul, Nat.add_comm, ← hu, List.take_length_add_append]
              have t2 : ∀ (m : Nat) (fs : List (List PV)), (∀ u ∈ fs, u.length = i.size) → (fs.drop m).flatten = fs.flatten.drop (m * i.size) := by
                intro m
                induction m with
                | zero => intro fs _; simp
                | succ m ih =>
                  intro fs hf
                  cases fs with
                  | nil => simp
                  | cons u us =>
                    have hu : u.length = i.size := hf u (by simp)
                    simp only [List.drop_succ_cons, List.flatten_cons, ih us (fun q hq => hf q (by simp [hq]))]
                    rw [Nat.add_mul, Nat.one_mul, Nat.add_comm, ← hu, List.drop_length_add_append]
              rw [t2 _ _ (fun u hu => hall' u (List.mem_of_mem_take hu)), t1 _ _ hall']
            have hr2 := (hr.take (hh.toNat * i.size)).drop (l.toNat * i.size)
            rw [← hfl] at hr2
            by_cases hcl : c = l.toNat
            · have hnil : (es.take hh.toNat).drop l.toNat = [] := List.eq_nil_of_length_eq_zero (by rw [hlen]; omega)
              rw [if_pos hcl, hnil]
              exact .sl [] ad _ i.size [] (by simp) (by simp) (fun j u hu => by simp at hu) (fun j p u hp => by simp at hp) (Nat.zero_le _) (by omega)
            · rw [if_neg hcl]
              simp only [Option.map_some]
              refine .sl _ _ _ i.size _ hkk hr2.1 (fun j u hu => ?_) hr2.2 (by rw [hlen]; omega) (by omega)
              rw [add_add, block_add]
              have h4 := getElem?_drop_some hu
              rw [List.getElem?_take] at h4
              split at h4
              · exact hc _ u h4
              · cases h4
        · cases he
      · cases he
    · cases he
  · cases he

theorem run_append_of_nil {base : Nat} {t ty e : TypeId} {i : TypeInfo} {size : Nat} (ht : P.underlying t = some (.slice e)) (hi : P.info? e = some i)
    {v : Value} {n : Nat} {xs : List Value} (hown : w.ownsRow base e size v n xs) (c : Nat) : (Builtin.append_ #[t, t] ty #[v, .slice none 0 c]).run P w = .ok v w := by
  rcases hown.2 with ⟨rfl, rfl⟩ | ⟨g, cap, cur, rfl, _, _, hnc, _⟩
  · simp [Builtin.append_, run_underlying ht, sizeOf, typeInfo, hi, Builtin.lenOf, Builtin.firstCells]
  · simp [Builtin.append_, run_underlying ht, sizeOf, typeInfo, hi, Builtin.lenOf, Builtin.firstCells, hnc, storeCells]

/-- the cells of a slice's elements -/
theorem Rel.elems_cells (h : Rel E S a w L) {y : PV} {v : Value} {es : List (List PV)} (r : Rep w (mutb E S L) (S.gh L) y v) (he : elems S y = some es) :
    (v = .slice none 0 0 ∧ es = []) ∨ ∃ (ad : Addr) (c : Nat) (vs : List Value), v = .slice (some ad) es.length c ∧ RepL w (mutb E S L) (S.gh L) es.flatten vs ∧ (∀ (i : Nat) (u : Value), vs[i]? = some u → w.cell? (ad.add i) = some u) := by
  unfold elems at he
  split at he
  · injection he with he; subst he; exact .inl ⟨r.nils_inv, rfl⟩
  · injection he with he; subst he
    rcases r.sl_inv with ⟨hv, h0⟩ | ⟨ad, c, k, vs, hv, hk, hr, hc, _⟩
    · exact .inl ⟨hv, h0⟩
    · exact .inr ⟨ad, c, vs, hv, hr.mono (fun p u hp hm => ⟨hp, hm⟩) (Gh0.le _), fun i u hu => (hc i u hu).1⟩
  · rename_i id ver
    split at he
    · rename_i hver
      split at he
      · rename_i hc
        injection he with he; subst he
        obtain ⟨hN, hv⟩ := r.own_inv (show (S.gh L).V id = ver from hver)
        obtain ⟨vs, hown, hk, hr⟩ := h.row_at hN hc
        rcases hown.2 with ⟨hL, h0⟩ | ⟨g, cap, cur, hL, _, hh, _, _, _, htake⟩
        · exact .inl ⟨by rw [hv]; exact hL, List.eq_nil_of_length_eq_zero h0⟩
        · refine .inr ⟨⟨g, 0, none⟩, cap, vs, by rw [hv]; exact hL, hr, fun i u hu => ?_⟩
          exact hown.cells (g := g) (by rw [hL]; rfl) i u hu
      · cases he
    · cases he
  · cases he

theorem ownBlock_blk {v : Value} {ad : Option Addr} {n c : Nat} (h : v = .slice ad n c) : v.ownBlock = blk v := by subst h; cases ad <;> rfl

theorem g_app (h : Rel E S a w L) (hn : nid < S.N) {t e : TypeId} {y z : Operand} {y' z' : Opd} {i : TypeInfo} {zv : Value} (ho : o.op = .call { callee := .builtin .append, args := #[y, z], argTypes := #[t, t] }) (ht : P.underlying t = some (.slice e)) (hi : P.info? e = some i)
    (hzv : i.zero = some zv) (hzs : zv.cells.size = i.size) (hsz : 0 < i.size) (hy : copd y = some y') (hz : copd z = some z') (he : exec Γ nid S (.app e i.size i.bytes y' z') = some (x, wr)) : Good P E S a w o x wr := by
  have ry := h.opd hy
  have rz := h.opd hz
  have hexec : ∀ (r : Result Value) , (Builtin.append_ #[t, t] o.type #[a.eval y, a.eval z]).run P w = r → (execOp a.eval o).run P w = r.andThen fun v w' => .ok (.value v) w' := by
    intro r hr
    simp [execOp, ho, resolve, invoke, builtin, hr]
  simp only [exec] at he
  split at he
  · rename_i news hnews
    split at he
    · rename_i hall
      have hall' : ∀ u ∈ news, u.length = i.size ∧ u.all PV.one = true := fun u hu => by have := List.all_eq_true.1 hall u hu; simpa using this
      have hnl : news.flatten.length = news.length * i.size := flatten_len news i.size (fun u hu => (hall' u hu).1)
      have hone : ∀ {vs : List Value}, RepL w (mutb E S L) (S.gh L) news.flatten vs → ∀ u ∈ vs, u.oneCell' = true := by
        intro vs hr u hu
        obtain ⟨q, hq, rfl⟩ := List.mem_iff_getElem.1 hu
        have hx : q < news.flatten.length := by rw [← hr.1]; exact hq
        have hm : news.flatten[q] ∈ news.flatten := List.getElem_mem hx
        obtain ⟨el, hel, hmem⟩ := List.mem_flatten.1 hm
        exact ((hr.2 q _ _ (List.getElem?_eq_getElem hx) (List.getElem?_eq_getElem hq)).one (List.all_eq_true.1 (hall' el hel).2 _ hmem)).1
      -- the general step: an owned row v at id0, with es
      have main : ∀ (id0 : Nat) (hid : id0 < S.N) (es : List (List PV)) (ver' : Nat) (v : Value) (vs : List Value), a.eval y = v → w.ownsRow E.w0.heap.size e i.size v es.length vs → RepL w (mutb E S L) (S.gh L) es.flatten vs →
          (∀ u ∈ es, u.length = i.size) → (S.H id0).ver < ver' → (∀ b, v.ownBlock = some b → (S.H id0).c.live = true ∧ blk (L id0) = some b) → es.length + news.length ≤ maxLen → (es.length + news.length) * i.bytes ≤ 140737488355328 →
          Good P E S a w o (.own id0 ver') (some (id0, ⟨ver', .row e i.size (es ++ news)⟩)) := by
        intro id0 hid es ver' v vs hv hown hr hk hver hblk hmax hby
        have hk2 : ∀ u ∈ es ++ news, u.length = i.size := fun u hu => by
          rcases List.mem_append.1 hu with hu | hu
          · exact hk u hu
          · exact (hall' u hu).1
        -- run the append
        have hrun : ∃ v' w' us, (Builtin.append_ #[t, t] o.type #[a.eval y, a.eval z]).run P w = .ok v' w' ∧ w'.ownsRow E.w0.heap.size e i.size v' (es.length + news.length) (vs ++ us) ∧ w.grownBy w' v.ownBlock ∧
            (v'.ownBlock = v.ownBlock ∨ v'.ownBlock = some w.heap.size) ∧ RepL w (mutb E S L) (S.gh L) news.flatten us := by
          rcases h.elems_cells rz hnews with ⟨hvz, hnil⟩ | ⟨ad, c, us, hvz, hrz, hcz⟩
          · subst hnil
            refine ⟨v, w, [], by rw [hv, hvz]; exact run_append_of_nil ht hi hown 0, by simpa using hown, World.grownBy.refl w _, .inl rfl, RepL.nil⟩
          · have hus : us.length = news.length * i.size := by rw [hrz.1, hnl]
            obtain ⟨v', w', h1, h2, h3, _, h5⟩ := run_append_own_at (P := P) w E.w0.heap.size t o.type e i zv i.size i.bytes ht hi hzv rfl rfl hzs hsz v es.length vs hown ad news.length c us hus hcz (hone hrz) hmax hby h.fr.size
            exact ⟨v', w', us, by rw [hv, hvz]; exact h1, h2, h3, h5, hrz⟩
        obtain ⟨v', w', us, hr1, hown', hgr, hat, hru⟩ := hrun
        have hv' : ∃ ad n c, v' = .slice ad n c := by
          rcases hown'.2 with ⟨rfl, _⟩ | ⟨g, cap, cur, rfl, _⟩
          · exact ⟨_, _, _, rfl⟩
          · exact ⟨_, _, _, rfl⟩
        obtain ⟨ad', n', c', hv'⟩ := hv'
        have hvb : ∃ ad n c, v = .slice ad n c := by
          rcases hown.2 with ⟨rfl, _⟩ | ⟨g, cap, cur, rfl, _⟩
          · exact ⟨_, _, _, rfl⟩
          · exact ⟨_, _, _, rfl⟩
        obtain ⟨ad0, n0, c0, hv0⟩ := hvb
        obtain ⟨h2, hs2, hg2⟩ := h.turn (w' := w') hid ⟨ver', .row e i.size (es ++ news)⟩ v' (.inr hver) hgr.os hgr.tape hgr.output hgr.size
          (fun b hb hne => hgr.block b hb (fun eb => by
            obtain ⟨q1, q2⟩ := hblk b eb.symm
            exact hne q1 q2))
          (fun b _ hb => by
            rw [← ownBlock_blk hv'] at hb
            rcases hat with hat | hat
            · rw [hat] at hb
              exact .inl (hblk b hb)
            · rw [hat] at hb
              injection hb with hb
              exact .inr (by omega))
          (fun hs2 hg2 => ⟨vs ++ us, by simpa using hown', hk2, by simp only [List.flatten_append]; exact (hr.append hru).mono hs2 hg2⟩)
        refine ⟨_, w', _, v', by rw [hexec _ hr1]; rfl, .inl rfl, ?_, h2⟩
        subst hv'
        exact .own _ _ _ _ _ hid (by simp [St.gh, St.appH, upd_same]) (fun _ => by simp [St.gh, St.appH, upd_same])
      split at he
      · rename_i ey
        rw [ey] at ry
        split at he
        · rename_i hb
          obtain ⟨rfl, rfl⟩ := some_inv he
          have := main nid hn [] ((S.H nid).ver + 1) (.slice none 0 0) [] ry.nils_inv (World.ownsRow_nil w _ _ _) RepL.nil (by simp) (Nat.lt_succ_self _) (fun b hb => by simp [Value.ownBlock] at hb) (by simpa using hb.2) (by simpa using hb.1)
          simpa using this
        · cases he
      · rename_i id ver ey
        rw [ey] at ry
        split at he
        · rename_i hver
          split at he
          · rename_i e' k' es hc
            split at he
            · rename_i hb
              obtain ⟨rfl, rfl, hby, hmax⟩ := hb
              obtain ⟨rfl, rfl⟩ := some_inv he
              obtain ⟨hN, hv⟩ := ry.own_inv (show (S.gh L).V id = ver from hver)
              obtain ⟨vs, hown, hk, hr⟩ := h.row_at hN hc
              have hLs : ∃ ad n c, L id = .slice ad n c := by
                rcases hown.2 with ⟨hL, _⟩ | ⟨g, cap, cur, hL, _⟩
                · exact ⟨_, _, _, hL⟩
                · exact ⟨_, _, _, hL⟩
              obtain ⟨ad0, n0, c0, hL0⟩ := hLs
              exact main id hN es (ver + 1) (L id) vs hv hown hr hk (by omega) (fun b hb => ⟨by rw [hc]; rfl, by rw [ownBlock_blk hL0] at hb; exact hb⟩) hmax hby
            · cases he
          · cases he
        · cases he
      · cases he
    · cases he
  · cases he

theorem g_isnil (h : Rel E S a w L) {neg : Bool} {t t2 e : TypeId} {y : Operand} {y' : Opd} (ho : o.op = .binOp (if neg then .neq else .eql) t y (.const (.slice none 0 0)) t2) (ht : P.underlying t = some (.slice e)) (hy : copd y = some y')
    (he : exec Γ nid S (.isnil neg y') = some (x, wr)) : Good P E S a w o x wr := by
  have r := h.opd hy
  have key : ∀ (ad : Option Addr) (n c : Nat), a.eval y = .slice ad n c → (execOp a.eval o).run P w = .ok (.value (.bool (xor neg ad.isNone))) w := by
    intro ad n c hv
    have hc : a.eval (.const (.slice none 0 0)) = .slice none 0 0 := rfl
    have hq := run_equal_slice_nil (P := P) w t e ad n c ht
    have hg : ∀ op, (eqGuard op t y (.const (.slice none 0 0)) (.slice ad n c) (.slice none 0 0)).run P w = .ok () w := by intro op; cases op <;> simp [eqGuard]
    cases neg
    · simp only [Bool.false_eq_true, if_false] at ho
      simp only [execOp, ho, hv, hc, Sem.run_bind, hg, Result.andThen_ok, binOp, hq, Sem.run_pure]
      simp
    · simp only [if_true] at ho
      simp only [execOp, ho, hv, hc, Sem.run_bind, hg, Result.andThen_ok, binOp, hq, Sem.run_pure]
      simp
  simp only [exec] at he
  split at he
  · rename_i e0
    rw [e0] at r
    obtain ⟨rfl, rfl⟩ := some_inv he
    exact Good.pure h (key none 0 0 r.nils_inv) (by cases neg <;> exact .bool _)
  · split at he
    · rename_i hes
      obtain ⟨rfl, rfl⟩ := some_inv he
      obtain ⟨ad, c, hv⟩ := h.elems_at r hes
      exact Good.pure h (key ad _ c hv) (.ubool _)
    · rename_i u us hes
      obtain ⟨rfl, rfl⟩ := some_inv he
      rcases h.elems_cells r hes with ⟨_, h0⟩ | ⟨ad, c, vs, hv, _⟩
      · cases h0
      · exact Good.pure h (key (some ad) _ c hv) (by cases neg <;> exact .bool _)
    · cases he
end
end Go.TQ
