/-
  Equality of small structs, calls, and the whole of 'exec'. Conditions: none (generic in the program).
-/
import Derived.Test.YtnhgcpiljggmmaaGreatDoorSoundE
import Derived.Laws.StructEq
namespace Go.TQ
open Go.RowKit
section
variable {P : Program} {E : En} {S : St} {a : Act} {w : World} {L : Nat → Value} {o : Oper} {x : PV} {wr : Option (Nat × AObj)} {Γ : Tab} {nid : Nat}

theorem run_equal2 {t : TypeId} {fs : Array Field} {f g : Field} {k0 k : IntKind} {p q : Int} {s u : ByteArray} (ht : P.underlying t = some (.struct fs)) (hfs : fs.toList = [f, g]) (hf : P.underlying f.type = some (.int k0)) (hg : P.underlying g.type = some .string)
    (h0 : f.offset = 0) (h1 : g.offset = 1) (hn0 : f.name ≠ "_") (hn1 : g.name ≠ "_") (hst : P.stoodInHeld t = false) (d : Nat) :
    (Op.equalIn (d + 2) t (.agg #[.int k p, .string s]) (.agg #[.int k q, .string u])).run P w = .ok (decide (p = q) && decide (s = u)) w := by
  have hfo : P.fieldsOf t = fs := by simp [Program.fieldsOf, ht]
  have hi0 : (isAgg f.type).run P w = .ok false w := by simp [isAgg, run_underlying hf]
  have hi1 : (isAgg g.type).run P w = .ok false w := by simp [isAgg, run_underlying hg]
  have p0 : ∀ v u : Value, (part f.type #[v, u] 0).run P w = .ok v w := fun v u => by simp [part, hi0]
  have p1 : ∀ v u : Value, (part g.type #[v, u] 1).run P w = .ok u w := fun v u => by simp [part, hi1]
  rw [run_equalIn_struct w (d + 1) t _ _ (by rw [hfo]; exact ht) hst, hfo, hfs]
  have q0 := run_equalIn_int (P := P) w d f.type k k0 p q hf
  have q1 := run_equalIn_string (P := P) w d g.type s u hg
  rw [toList_eq_iff] at q1
  by_cases hpq : p = q
  · subst hpq
    simp [Op.eqFields, hn0, hn1, h0, h1, p0, p1, q0, q1]
    by_cases hsu : s = u <;> simp [hsu]
  · have : (p == q) = false := by simp [hpq]
    rw [this] at q0
    simp [Op.eqFields, hn0, h0, p0, q0, hpq]

theorem g_eqb (h : Rel E S a w L) {neg : Bool} {y z : Operand} {y' z' : Opd} {t t2 : TypeId} (ho : o.op = .binOp (if neg then .neq else .eql) t y z t2) (ht : P.underlying t = some .bool)
    (hy : copd y = some y') (hz : copd z = some z') (he : exec Γ nid S (.eqb neg y' z') = some (x, wr)) : Good P E S a w o x wr := by
  have ry := h.opd hy
  have rz := h.opd hz
  simp only [exec] at he
  split at he
  · rename_i p q e1 e2
    obtain ⟨rfl, rfl⟩ := some_inv he
    rw [e1] at ry
    rw [e2] at rz
    have hv := ry.bool_inv
    have hu := rz.bool_inv
    have hd : (p == q) = decide (p = q) := by cases p <;> cases q <;> rfl
    have hrun := run_equalIn_bool (P := P) w 9999 t p q ht
    rw [hd] at hrun
    have hgd : ∀ op, (eqGuard op t y z (.bool p) (.bool q)).run P w = .ok () w := by intro op; cases op <;> simp [eqGuard]
    refine Good.pure h (v := .bool (xor neg (decide (p = q)))) ?_ (.bool _)
    cases neg
    · simp only [Bool.false_eq_true, if_false] at ho
      simp only [execOp, ho, hv, hu, Sem.run_bind, hgd, Result.andThen_ok, binOp, Op.equal, Op.maxDepth, Sem.run_pure]
      rw [hrun]
      simp
    · simp only [if_true] at ho
      simp only [execOp, ho, hv, hu, Sem.run_bind, hgd, Result.andThen_ok, binOp, Op.equal, Op.maxDepth, Sem.run_pure]
      rw [hrun]
      simp
  · cases he

theorem g_eq2 (h : Rel E S a w L) {neg : Bool} {y z : Operand} {y' z' : Opd} {t t2 : TypeId} {fs : Array Field} {f g : Field} {k0 : IntKind} (ho : o.op = .binOp (if neg then .neq else .eql) t y z t2) (ht : P.underlying t = some (.struct fs)) (hfs : fs.toList = [f, g])
    (hf : P.underlying f.type = some (.int k0)) (hg : P.underlying g.type = some .string) (h0 : f.offset = 0) (h1 : g.offset = 1) (hn0 : f.name ≠ "_") (hn1 : g.name ≠ "_") (hst : P.stoodInHeld t = false) (hgu : P.eqGuardType P.depth t = false)
    (hy : copd y = some y') (hz : copd z = some z') (he : exec Γ nid S (.eq2 neg y' z') = some (x, wr)) : Good P E S a w o x wr := by
  have ry := h.opd hy
  have rz := h.opd hz
  simp only [exec] at he
  split at he
  · rename_i k p s k' q u e1 e2
    split at he
    · rename_i hk
      subst hk
      obtain ⟨rfl, rfl⟩ := some_inv he
      rw [e1] at ry
      rw [e2] at rz
      obtain ⟨vs, hv, hr⟩ := ry.agg_inv
      obtain ⟨us, hu, hr2⟩ := rz.agg_inv
      obtain ⟨v1, vs1, rfl, r1, hr⟩ := hr.cons_inv
      obtain ⟨v2, vs2, rfl, r2, hr⟩ := hr.cons_inv
      have := hr.nil_inv
      subst this
      obtain ⟨u1, us1, rfl, r3, hr2⟩ := hr2.cons_inv
      obtain ⟨u2, us2, rfl, r4, hr2⟩ := hr2.cons_inv
      have := hr2.nil_inv
      subst this
      have := r1.int_inv; subst this
      have := r2.str_inv; subst this
      have := r3.int_inv; subst this
      have := r4.str_inv; subst this
      have hrun := run_equal2 (P := P) (w := w) (k := k) (p := p) (q := q) (s := s) (u := u) ht hfs hf hg h0 h1 hn0 hn1 hst 9998
      have hgd : ∀ op, (eqGuard op t y z (.agg [.int k p, .string s].toArray) (.agg [.int k q, .string u].toArray)).run P w = .ok () w := by
        intro op
        cases op <;> simp [eqGuard, program, Sem.run, hgu]
      refine Good.pure h (v := .bool (xor neg (decide (p = q) && decide (s = u)))) ?_ (.bool _)
      cases neg
      · simp only [Bool.false_eq_true, if_false] at ho
        simp only [execOp, ho, hv, hu, Sem.run_bind, hgd, Result.andThen_ok, binOp, Op.equal, Op.maxDepth, Sem.run_pure]
        rw [hrun]
        simp
      · simp only [if_true] at ho
        simp only [execOp, ho, hv, hu, Sem.run_bind, hgd, Result.andThen_ok, binOp, Op.equal, Op.maxDepth, Sem.run_pure]
        rw [hrun]
        simp
    · cases he
  · cases he

/-! ### equality of structs of plain parts -/
theorem eqCs_append : ∀ (ks ks' : List LK) (cs ds : List PV) (b : Bool), eqCs (ks ++ ks') cs ds = some b →
    ∃ b1 b2, eqCs ks (cs.take ks.length) (ds.take ks.length) = some b1 ∧ eqCs ks' (cs.drop ks.length) (ds.drop ks.length) = some b2 ∧ b = (b1 && b2)
  | [], ks', cs, ds, b, h => ⟨true, b, by simp [eqCs], by simpa using h, by simp⟩
  | k :: ks, ks', cs, ds, b, h => by
    cases k <;> cases cs <;> cases ds <;> simp only [List.cons_append, eqCs] at h <;> try (cases h; done)
    all_goals rename_i x cs y ds
    all_goals cases x <;> cases y <;> simp only [eqCs] at h <;> try (cases h; done)
    · split at h
      · rename_i hk
        simp only [Option.map_eq_some_iff] at h
        obtain ⟨r, hr, rfl⟩ := h
        obtain ⟨b1, b2, h1, h2, rfl⟩ := eqCs_append ks ks' cs ds r hr
        refine ⟨_, b2, ?_, h2, (Bool.and_assoc _ _ _).symm⟩
        simp only [List.length_cons, List.take_succ_cons, eqCs, if_pos hk, h1, Option.map_some]
      · cases h
    all_goals
      simp only [Option.map_eq_some_iff] at h
      obtain ⟨r, hr, rfl⟩ := h
      obtain ⟨b1, b2, h1, h2, rfl⟩ := eqCs_append ks ks' cs ds r hr
      refine ⟨_, b2, ?_, h2, (Bool.and_assoc _ _ _).symm⟩
      simp only [List.length_cons, List.take_succ_cons, eqCs, h1, Option.map_some]
theorem eqCs_len : ∀ (ks : List LK) (cs ds : List PV) (b : Bool), eqCs ks cs ds = some b → cs.length = ks.length ∧ ds.length = ks.length
  | [], cs, ds, b, h => by cases cs <;> cases ds <;> simp [eqCs] at h <;> simp
  | k :: ks, cs, ds, b, h => by
    cases k <;> cases cs <;> cases ds <;> (try simp only [eqCs] at h) <;> try (cases h; done)
    all_goals rename_i x cs y ds
    all_goals cases x <;> cases y <;> simp only [eqCs] at h <;> try (cases h; done)
    · split at h
      · simp only [Option.map_eq_some_iff] at h
        obtain ⟨r, hr, rfl⟩ := h
        have := eqCs_len ks cs ds r hr
        simp [this.1, this.2]
      · cases h
    all_goals
      simp only [Option.map_eq_some_iff] at h
      obtain ⟨r, hr, rfl⟩ := h
      have := eqCs_len ks cs ds r hr
      simp [this.1, this.2]
def valOf (P : Program) (t : TypeId) (vs : List Value) : Value :=
  match P.underlying t with
  | some (.struct _) => .agg vs.toArray
  | _ => vs.headD undef
theorem eqSh_cases {d : Nat} {t : TypeId} {ks : List LK} (h : eqSh P (d + 1) t = some ks) :
    (∃ k, P.underlying t = some (.int k) ∧ ks = [.i]) ∨ (P.underlying t = some .string ∧ ks = [.s]) ∨ (P.underlying t = some .bool ∧ ks = [.b]) ∨ ∃ fs, P.underlying t = some (.struct fs) ∧ P.stoodInHeld t = false ∧ eqFs P (eqSh P d) fs.toList 0 = some ks := by
  rw [eqSh] at h
  split at h
  · rename_i k hu; injection h with h; exact .inl ⟨k, hu, h.symm⟩
  · rename_i hu; injection h with h; exact .inr (.inl ⟨hu, h.symm⟩)
  · rename_i hu; injection h with h; exact .inr (.inr (.inl ⟨hu, h.symm⟩))
  · rename_i fs hu
    split at h
    · rename_i hs; exact .inr (.inr (.inr ⟨fs, hu, hs, h⟩))
    · cases h
  · cases h
theorem run_partOf {t : TypeId} {d off : Nat} {ks : List LK} {i : TypeInfo} {vs : List Value} (h : eqSh P d t = some ks) (hi : P.info? t = some i) (hn : i.size = ks.length) (hlen : off + ks.length ≤ vs.length) :
    (part t vs.toArray off).run P w = .ok (valOf P t ((vs.drop off).take ks.length)) w := by
  cases d with
  | zero => simp [eqSh] at h
  | succ d =>
    have leaf : (∀ fs, P.underlying t ≠ some (.struct fs)) → (isAgg t).run P w = .ok false w → ks.length = 1 → (part t vs.toArray off).run P w = .ok (valOf P t ((vs.drop off).take ks.length)) w := by
      intro hns ha h1
      have hlt : off < vs.length := by omega
      have hv : valOf P t ((vs.drop off).take ks.length) = vs[off] := by
        unfold valOf
        split
        · rename_i fs hfs; exact absurd hfs (hns fs)
        · rw [h1, List.drop_eq_getElem_cons hlt]; rfl
      rw [hv]
      simp [part, ha, hlt]
    rcases eqSh_cases h with ⟨k, hu, rfl⟩ | ⟨hu, rfl⟩ | ⟨hu, rfl⟩ | ⟨fs, hu, _, _⟩
    · exact leaf (fun fs e => by rw [hu] at e; cases e) (by simp [isAgg, run_underlying hu]) rfl
    · exact leaf (fun fs e => by rw [hu] at e; cases e) (by simp [isAgg, run_underlying hu]) rfl
    · exact leaf (fun fs e => by rw [hu] at e; cases e) (by simp [isAgg, run_underlying hu]) rfl
    · have ha : (isAgg t).run P w = .ok true w := by simp [isAgg, run_underlying hu]
      have hv : valOf P t ((vs.drop off).take ks.length) = .agg ((vs.drop off).take ks.length).toArray := by unfold valOf; rw [hu]
      rw [hv]
      simp [part, ha, sizeOf, typeInfo, hi, hn, List.extract]
theorem run_eqFs {M : Nat → Prop} {G : Gh} {d e : Nat} (hA : ∀ (t : TypeId) (ks : List LK) (cs ds : List PV) (b : Bool) (vs us : List Value), eqSh P d t = some ks → eqCs ks cs ds = some b → RepL w M G cs vs → RepL w M G ds us → (Op.equalIn e t (valOf P t vs) (valOf P t us)).run P w = .ok b w) :
    ∀ (fs : List Field) (ks : List LK) (off : Nat) (cs ds : List PV) (b : Bool) (vs us : List Value), eqFs P (eqSh P d) fs off = some ks → cs.length = off + ks.length → ds.length = off + ks.length → eqCs ks (cs.drop off) (ds.drop off) = some b → RepL w M G cs vs → RepL w M G ds us → (Op.eqFields e vs.toArray us.toArray fs).run P w = .ok b w := by
  intro fs
  induction fs with
  | nil =>
    intro ks off cs ds b vs us h hc hd hq hr hr2
    simp only [eqFs, Option.some.injEq] at h
    subst h
    rw [List.drop_eq_nil_of_le (by simpa using Nat.le_of_eq hc), List.drop_eq_nil_of_le (by simpa using Nat.le_of_eq hd)] at hq
    simp only [eqCs, Option.some.injEq] at hq
    subst hq
    simp [Op.eqFields]
  | cons f fs ih =>
    intro ks off cs ds b vs us h hc hd hq hr hr2
    rw [eqFs] at h
    split at h
    · rename_i hname
      obtain ⟨hname, hoff⟩ := hname
      split at h
      · rename_i k1 i hk1 hi
        split at h
        · rename_i hsz
          simp only [Option.map_eq_some_iff] at h
          obtain ⟨k2, hk2, rfl⟩ := h
          rw [List.length_append] at hc hd
          obtain ⟨b1, b2, h1, h2, rfl⟩ := eqCs_append k1 k2 _ _ b hq
          rw [List.drop_drop] at h2
          rw [List.drop_drop] at h2
          have p1 : (part f.type vs.toArray f.offset).run P w = _ := run_partOf (w := w) hk1 hi hsz (by rw [hoff, hr.1]; omega)
          have p2 : (part f.type us.toArray f.offset).run P w = _ := run_partOf (w := w) hk1 hi hsz (by rw [hoff, hr2.1]; omega)
          have q1 := hA f.type k1 _ _ b1 _ _ hk1 h1 ((hr.drop off).take k1.length) ((hr2.drop off).take k1.length)
          rw [← hoff] at q1
          have q2 := ih k2 (off + k1.length) cs ds b2 vs us hk2 (by omega) (by omega) h2 hr hr2
          cases b1 with
          | false => simp [Op.eqFields, hname, p1, p2, q1]
          | true => simp [Op.eqFields, hname, p1, p2, q1, q2]
        · cases h
      · cases h
    · cases h
theorem run_eqSh {M : Nat → Prop} {G : Gh} : ∀ (d : Nat) (t : TypeId) (ks : List LK) (e : Nat) (cs ds : List PV) (b : Bool) (vs us : List Value), eqSh P d t = some ks → d ≤ e → eqCs ks cs ds = some b → RepL w M G cs vs → RepL w M G ds us → (Op.equalIn e t (valOf P t vs) (valOf P t us)).run P w = .ok b w
  | 0 => fun t ks e cs ds b vs us h => by simp [eqSh] at h
  | d + 1 => by
    have hA := run_eqSh (M := M) (G := G) d
    intro t ks e cs ds b vs us h he hq hr hr2
    · obtain ⟨e, rfl⟩ : ∃ e', e = e' + 1 := ⟨e - 1, by omega⟩
      obtain ⟨hl1, hl2⟩ := eqCs_len _ _ _ _ hq
      have one : ∀ {x : LK}, ks = [x] → ∃ p q v u, cs = [p] ∧ ds = [q] ∧ vs = [v] ∧ us = [u] ∧ Rep w M G p v ∧ Rep w M G q u := by
        intro x hx
        subst hx
        have h1 : ∃ p, cs = [p] := List.length_eq_one_iff.1 hl1
        have h2 : ∃ p, ds = [p] := List.length_eq_one_iff.1 hl2
        obtain ⟨p, rfl⟩ := h1
        obtain ⟨q, rfl⟩ := h2
        obtain ⟨v, vs', rfl, r1, r2⟩ := hr.cons_inv
        obtain ⟨u, us', rfl, r3, r4⟩ := hr2.cons_inv
        have e1 := r2.nil_inv
        have e2 := r4.nil_inv
        subst e1 e2
        exact ⟨p, q, v, u, rfl, rfl, rfl, rfl, r1, r3⟩
      have hval : ∀ l : List Value, (∀ fs, P.underlying t ≠ some (.struct fs)) → valOf P t l = l.headD undef := by
        intro l hns
        unfold valOf
        split
        · rename_i fs hfs; exact absurd hfs (hns fs)
        · rfl
      rcases eqSh_cases h with ⟨k, hu, hk⟩ | ⟨hu, hk⟩ | ⟨hu, hk⟩ | ⟨fs, hu, hst, hf⟩
      · obtain ⟨p, q, v, u, rfl, rfl, rfl, rfl, r1, r2⟩ := one hk
        subst hk
        rw [hval _ (fun fs e => by rw [hu] at e; cases e), hval _ (fun fs e => by rw [hu] at e; cases e)]
        cases p <;> cases q <;> simp only [eqCs] at hq <;> try (cases hq; done)
        split at hq
        · rename_i hkk
          subst hkk
          simp only [Option.map_some, Option.some.injEq, Bool.and_true] at hq
          subst hq
          have := r1.int_inv; subst this
          have := r2.int_inv; subst this
          rename_i k1 a1 b1
          exact run_equalIn_int w e t _ k a1 b1 hu
        · cases hq
      · obtain ⟨p, q, v, u, rfl, rfl, rfl, rfl, r1, r2⟩ := one hk
        subst hk
        rw [hval _ (fun fs e => by rw [hu] at e; cases e), hval _ (fun fs e => by rw [hu] at e; cases e)]
        cases p <;> cases q <;> simp only [eqCs] at hq <;> try (cases hq; done)
        simp only [Option.map_some, Option.some.injEq, Bool.and_true] at hq
        subst hq
        have := r1.str_inv; subst this
        have := r2.str_inv; subst this
        rename_i a1 b1
        have := run_equalIn_string (P := P) w e t a1 b1 hu
        rw [toList_eq_iff] at this
        exact this
      · obtain ⟨p, q, v, u, rfl, rfl, rfl, rfl, r1, r2⟩ := one hk
        subst hk
        rw [hval _ (fun fs e => by rw [hu] at e; cases e), hval _ (fun fs e => by rw [hu] at e; cases e)]
        cases p <;> cases q <;> simp only [eqCs] at hq <;> try (cases hq; done)
        simp only [Option.map_some, Option.some.injEq, Bool.and_true] at hq
        subst hq
        have := r1.bool_inv; subst this
        have := r2.bool_inv; subst this
        rename_i a1 b1
        have := run_equalIn_bool (P := P) w e t a1 b1 hu
        rw [show (a1 == b1) = decide (a1 = b1) by cases a1 <;> cases b1 <;> rfl] at this
        exact this
      · have hv : ∀ l : List Value, valOf P t l = .agg l.toArray := fun l => by unfold valOf; rw [hu]
        have hfo : P.fieldsOf t = fs := by simp [Program.fieldsOf, hu]
        rw [hv, hv, run_equalIn_struct w e t _ _ (by rw [hfo]; exact hu) hst, hfo]
        exact run_eqFs (fun t ks cs ds b vs us h1 h2 h3 h4 => hA t ks e cs ds b vs us h1 (by omega) h2 h3 h4) fs.toList ks 0 cs ds b vs us hf (by omega) (by omega) (by simpa using hq) hr hr2
theorem g_eqs (h : Rel E S a w L) {neg : Bool} {ks : List LK} {y z : Operand} {y' z' : Opd} {t t2 : TypeId} {fs : Array Field} (ho : o.op = .binOp (if neg then .neq else .eql) t y z t2) (ht : P.underlying t = some (.struct fs)) (hk : eqSh P 64 t = some ks)
    (hgu : P.eqGuardType P.depth t = false) (hy : copd y = some y') (hz : copd z = some z') (he : exec Γ nid S (.eqs neg ks y' z') = some (x, wr)) : Good P E S a w o x wr := by
  have ry := h.opd hy
  have rz := h.opd hz
  simp only [exec] at he
  split at he
  · rename_i cs ds e1 e2
    simp only [Option.map_eq_some_iff] at he
    obtain ⟨b, hb, he⟩ := he
    injection he with h1 h2
    subst h1 h2
    rw [e1] at ry
    rw [e2] at rz
    obtain ⟨vs, hv, hr⟩ := ry.agg_inv
    obtain ⟨us, hu, hr2⟩ := rz.agg_inv
    have hval : ∀ l : List Value, valOf P t l = .agg l.toArray := fun l => by unfold valOf; rw [ht]
    have hrun := run_eqSh (P := P) (w := w) 64 t ks 10000 cs ds b vs us hk (by omega) hb hr hr2
    rw [hval, hval] at hrun
    have hgd : ∀ op, (eqGuard op t y z (.agg vs.toArray) (.agg us.toArray)).run P w = .ok () w := by
      intro op
      cases op <;> simp [eqGuard, program, Sem.run, hgu]
    refine Good.pure h (v := .bool (xor neg b)) ?_ (.bool _)
    cases neg
    · simp only [Bool.false_eq_true, if_false] at ho
      simp only [execOp, ho, hv, hu, Sem.run_bind, hgd, Result.andThen_ok, binOp, Op.equal, Op.maxDepth, Sem.run_pure]
      rw [hrun]
      simp
    · simp only [if_true] at ho
      simp only [execOp, ho, hv, hu, Sem.run_bind, hgd, Result.andThen_ok, binOp, Op.equal, Op.maxDepth, Sem.run_pure]
      rw [hrun]
      simp
  · cases he

/-! ### maps -/
theorem run_equalii {t : TypeId} {fs : Array Field} {f g : Field} {k0 l0 k l : IntKind} {p q s u : Int} (ht : P.underlying t = some (.struct fs)) (hfs : fs.toList = [f, g]) (hf : P.underlying f.type = some (.int k0)) (hg : P.underlying g.type = some (.int l0))
    (h0 : f.offset = 0) (h1 : g.offset = 1) (hn0 : f.name ≠ "_") (hn1 : g.name ≠ "_") (hst : P.stoodInHeld t = false) (d : Nat) :
    (Op.equalIn (d + 2) t (.agg #[.int k p, .int l s]) (.agg #[.int k q, .int l u])).run P w = .ok (decide (p = q) && decide (s = u)) w := by
  have hfo : P.fieldsOf t = fs := by simp [Program.fieldsOf, ht]
  have hi0 : (isAgg f.type).run P w = .ok false w := by simp [isAgg, run_underlying hf]
  have hi1 : (isAgg g.type).run P w = .ok false w := by simp [isAgg, run_underlying hg]
  have p0 : ∀ v u : Value, (part f.type #[v, u] 0).run P w = .ok v w := fun v u => by simp [part, hi0]
  have p1 : ∀ v u : Value, (part g.type #[v, u] 1).run P w = .ok u w := fun v u => by simp [part, hi1]
  rw [run_equalIn_struct w (d + 1) t _ _ (by rw [hfo]; exact ht) hst, hfo, hfs]
  have q0 := run_equalIn_int (P := P) w d f.type k k0 p q hf
  have q1 := run_equalIn_int (P := P) w d g.type l l0 s u hg
  by_cases hpq : p = q
  · subst hpq
    simp [Op.eqFields, hn0, hn1, h0, h1, p0, p1, q0, q1]
    by_cases hsu : s = u <;> simp [hsu]
  · have : (p == q) = false := by simp [hpq]
    rw [this] at q0
    simp [Op.eqFields, hn0, h0, p0, q0, hpq]
theorem run_checkii {t : TypeId} {fs : Array Field} {f g : Field} {k0 l0 k l : IntKind} {p s : Int} (ht : P.underlying t = some (.struct fs)) (hfs : fs.toList = [f, g]) (hf : P.underlying f.type = some (.int k0)) (hg : P.underlying g.type = some (.int l0))
    (h0 : f.offset = 0) (h1 : g.offset = 1) (hn0 : f.name ≠ "_") (hn1 : g.name ≠ "_") (em : Bool) (d : Nat) :
    (Instr.checkKey em (d + 2) t (.agg #[.int k p, .int l s])).run P w = .ok () w := by
  have hi0 : (isAgg f.type).run P w = .ok false w := by simp [isAgg, run_underlying hf]
  have hi1 : (isAgg g.type).run P w = .ok false w := by simp [isAgg, run_underlying hg]
  have p0 : ∀ v u : Value, (part f.type #[v, u] 0).run P w = .ok v w := fun v u => by simp [part, hi0]
  have p1 : ∀ v u : Value, (part g.type #[v, u] 1).run P w = .ok u w := fun v u => by simp [part, hi1]
  have e1 : fs = #[f, g] := by rw [← Array.toArray_toList (xs := fs), hfs]
  subst e1
  simp [Instr.checkKey, run_underlying ht, run_underlying hf, run_underlying hg, hn0, hn1, h0, h1, p0, p1]
/-- a key among the entries -/
theorem run_findii {t : TypeId} {fs : Array Field} {f g : Field} {k0 l0 k l : IntKind} {p s : Int} (ht : P.underlying t = some (.struct fs)) (hfs : fs.toList = [f, g]) (hf : P.underlying f.type = some (.int k0)) (hg : P.underlying g.type = some (.int l0))
    (h0 : f.offset = 0) (h1 : g.offset = 1) (hn0 : f.name ≠ "_") (hn1 : g.name ≠ "_") (hst : P.stoodInHeld t = false) {M : Nat → Prop} : ∀ (es : List MapEntry) (ks vs : List PV) (i : Nat) (r : Option PV), mfind k p l s ks vs = some r →
    es.length = ks.length → es.length = vs.length → (∀ (i : Nat) (x : PV) (e : MapEntry), ks[i]? = some x → es[i]? = some e → Rep w M Gh0 x e.key) → (∀ (i : Nat) (x : PV) (e : MapEntry), vs[i]? = some x → es[i]? = some e → Rep w M Gh0 x e.val) →
    ∃ q, (Instr.findAsking t (.agg #[.int k p, .int l s]) es i).run P w = .ok q w ∧ ((r = none ∧ q = none) ∨ ∃ j x v, r = some x ∧ q = some (j, v) ∧ Rep w M Gh0 x v)
  | [], ks, vs, i, r, hm, hk, hv, _, _ => by
    cases ks with
    | cons => simp at hk
    | nil => cases vs with
      | cons => simp at hv
      | nil =>
        simp only [mfind, Option.some.injEq] at hm
        subst hm
        exact ⟨none, by simp [Instr.findAsking], .inl ⟨rfl, rfl⟩⟩
  | e :: es, ks, vs, i, r, hm, hk, hv, hr, hr2 => by
    cases ks with
    | nil => simp at hk
    | cons x ks => cases vs with
      | nil => simp at hv
      | cons y vs =>
        unfold mfind at hm
        split at hm
        · rename_i heq _; cases heq
        · rename_i k' a' l' b' ks' v' vs' heq heq2
          injection heq with h3 h4
          injection heq2 with h5 h6
          subst h3 h4 h5 h6
          split at hm
          · rename_i hkl
            obtain ⟨rfl, rfl⟩ := hkl
            have rk := hr 0 _ e rfl rfl
            obtain ⟨us, hu, hru⟩ := rk.agg_inv
            obtain ⟨u1, us1, rfl, r1, hru⟩ := hru.cons_inv
            obtain ⟨u2, us2, rfl, r2, hru⟩ := hru.cons_inv
            have := hru.nil_inv
            subst this
            have := r1.int_inv; subst this
            have := r2.int_inv; subst this
            have hq := run_equalii (P := P) (w := w) (k := k) (l := l) (p := p) (q := a') (s := s) (u := b') ht hfs hf hg h0 h1 hn0 hn1 hst 9998
            have hq2 : (Op.equal t (.agg #[.int k p, .int l s]) e.key).run P w = .ok (decide (p = a') && decide (s = b')) w := by rw [hu]; exact hq
            split at hm
            · rename_i hab
              obtain ⟨rfl, rfl⟩ := hab
              injection hm with hm
              subst hm
              exact ⟨some (i, e.val), by simp [Instr.findAsking, hq2], .inr ⟨i, y, e.val, rfl, rfl, hr2 0 y e rfl rfl⟩⟩
            · rename_i hab
              have hf2 : (decide (p = a') && decide (s = b')) = false := by
                rw [Bool.and_eq_false_iff, decide_eq_false_iff_not, decide_eq_false_iff_not]
                by_cases h : p = a'
                · exact .inr fun h' => hab ⟨h, h'⟩
                · exact .inl h
              obtain ⟨q, h3, h4⟩ := run_findii ht hfs hf hg h0 h1 hn0 hn1 hst es ks vs (i + 1) r hm (by simpa using hk) (by simpa using hv) (fun i x e h h' => hr (i + 1) x e (by simpa using h) (by simpa using h')) (fun i x e h h' => hr2 (i + 1) x e (by simpa using h) (by simpa using h'))
              refine ⟨q, ?_, h4⟩
              rw [hf2] at hq2
              simp [Instr.findAsking, hq2, h3]
          · cases hm
        · cases hm
theorem run_findKeyii {t : TypeId} {fs : Array Field} {f g : Field} {k0 l0 k l : IntKind} {p s : Int} (ht : P.underlying t = some (.struct fs)) (hfs : fs.toList = [f, g]) (hf : P.underlying f.type = some (.int k0)) (hg : P.underlying g.type = some (.int l0))
    (h0 : f.offset = 0) (h1 : g.offset = 1) (hn0 : f.name ≠ "_") (hn1 : g.name ≠ "_") (hst : P.stoodInHeld t = false) {M : Nat → Prop} {es : List MapEntry} {ks vs : List PV} {r : Option PV} (hm : mfind k p l s ks vs = some r)
    (hk : es.length = ks.length) (hv : es.length = vs.length) (hr : ∀ (i : Nat) (x : PV) (e : MapEntry), ks[i]? = some x → es[i]? = some e → Rep w M Gh0 x e.key) (hr2 : ∀ (i : Nat) (x : PV) (e : MapEntry), vs[i]? = some x → es[i]? = some e → Rep w M Gh0 x e.val) :
    ∃ q, (Instr.findKey t (.agg #[.int k p, .int l s]) es).run P w = .ok q w ∧ ((r = none ∧ q = none) ∨ ∃ j x v, r = some x ∧ q = some (j, v) ∧ Rep w M Gh0 x v) := by
  obtain ⟨q, h3, h4⟩ := run_findii ht hfs hf hg h0 h1 hn0 hn1 hst es ks vs 0 r hm hk hv hr hr2
  refine ⟨q, ?_, h4⟩
  cases es with
  | nil =>
    simp [Instr.findAsking] at h3
    simp [Instr.findKey, run_underlying ht, Instr.findNow, ← h3]
  | cons e es => simp [Instr.findKey, run_underlying ht, Instr.findNow, Instr.sameNow, h3]

theorem g_lookup (h : Rel E S a w L) {ok : Bool} {y z : Operand} {y' z' : Opd} {t kt vt : TypeId} {fs : Array Field} {f g : Field} {k0 l0 : IntKind} {zv : PV} (ho : o.op = .lookup t y z ok) (ht : P.underlying t = some (.map kt vt)) (hkt : P.underlying kt = some (.struct fs)) (hfs : fs.toList = [f, g])
    (hf : P.underlying f.type = some (.int k0)) (hg : P.underlying g.type = some (.int l0)) (h0 : f.offset = 0) (h1 : g.offset = 1) (hn0 : f.name ≠ "_") (hn1 : g.name ≠ "_") (hst : P.stoodInHeld kt = false) {i : TypeInfo} {z0 : Value} (hi : P.info? vt = some i) (hz0 : i.zero = some z0) (hz : constPV z0 = some zv)
    (hy : copd y = some y') (hzz : copd z = some z') (he : exec Γ nid S (.lookup ok zv y' z') = some (x, wr)) : Good P E S a w o x wr := by
  have ry := h.opd hy
  have rz := h.opd hzz
  simp only [exec] at he
  split at he
  · rename_i ks vs k p l s e1 e2
    simp only [Option.map_eq_some_iff] at he
    obtain ⟨r, hm, he⟩ := he
    injection he with he1 he2
    subst he1 he2
    rw [e1] at ry
    rw [e2] at rz
    obtain ⟨us, hu, hru⟩ := rz.agg_inv
    obtain ⟨u1, us1, rfl, r1, hru⟩ := hru.cons_inv
    obtain ⟨u2, us2, rfl, r2, hru⟩ := hru.cons_inv
    have := hru.nil_inv
    subst this
    have := r1.int_inv; subst this
    have := r2.int_inv; subst this
    generalize hev : a.eval y = vy at ry
    cases ry with
    | mapv _ _ b es ck hb hMb hk hv h3 h4 =>
      obtain ⟨q, h5, h6⟩ := run_findKeyii (P := P) (k := k) (l := l) (p := p) (s := s) hkt hfs hf hg h0 h1 hn0 hn1 hst (es := es.toList) hm (by simpa using hk) (by simpa using hv) (fun i x e hi hj => h3 i x e hi (by simpa using hj)) (fun i x e hi hj => h4 i x e hi (by simpa using hj))
      have hchk : ∀ em, (Instr.checkKey em 10000 kt (.agg #[.int k p, .int l s])).run P w = .ok () w := fun em => run_checkii hkt hfs hf hg h0 h1 hn0 hn1 em 9998
      have hobj : (getObj b).run P w = .ok (.map es ck) w := by simp [getObj, Sem.run, hb]
      have hzero : ∃ v0, (zeroValue vt).run P w = .ok v0 w ∧ Rep w (mutb E S L) (S.gh L) (nz zv) v0 := by
        refine ⟨z0, by simp [zeroValue, typeInfo, hi, hz0, Sem.run, program], ?_⟩
        have := constPV_rep (w := w) (M := mutb E S L) (G := S.gh L) hz
        unfold nz
        split
        · have e5 := this.nils_inv
          rw [e5]
          exact .slnil
        · exact this
      obtain ⟨v0, hz1, hz2⟩ := hzero
      rcases h6 with ⟨rfl, rfl⟩ | ⟨j, x, v, rfl, rfl, hx⟩
      · cases ok
        · refine Good.pure h (v := v0) ?_ hz2
          simp [execOp, ho, hev, hu, Instr.lookup, run_underlying ht, hobj, hchk, h5, hz1]
        · refine Good.pure h (v := .tuple #[v0, .bool false]) ?_ (.tup _ [v0, .bool false] rfl ?_)
          · simp [execOp, ho, hev, hu, Instr.lookup, run_underlying ht, hobj, hchk, h5, hz1]
          · exact (RepL.cons hz2 (.cons (.bool _) .nil)).2
      · have hx' : Rep w (mutb E S L) (S.gh L) x v := hx.mono (Stays.of fun _ h => h) (Gh0.le _)
        cases ok
        · refine Good.pure h (v := v) ?_ hx'
          simp [execOp, ho, hev, hu, Instr.lookup, run_underlying ht, hobj, hchk, h5]
        · refine Good.pure h (v := .tuple #[v, .bool true]) ?_ (.tup _ [v, .bool true] rfl ?_)
          · simp [execOp, ho, hev, hu, Instr.lookup, run_underlying ht, hobj, hchk, h5]
          · exact (RepL.cons hx' (.cons (.bool _) .nil)).2
  · cases he

/-! ### calls -/
theorem Rep.closed {M M' : Nat → Prop} {G G' : Gh} {y : PV} {v : Value} (hc : y.closed = true) (hM : ∀ b, M' b → M b) (h : Rep w M G y v) : Rep w M' G' y v := by
  have hs : Stays w w M M' := (Stays.of fun _ hm => fun h' => hm (hM _ h'))
  cases h with
  | any => simp [PV.closed] at hc
  | undef => simp [PV.closed] at hc
  | int => exact .int _ _
  | bool => exact .bool _
  | ubool => first | exact .ubool _ | simp [PV.closed] at hc
  | str => exact .str _
  | nilp => exact .nilp
  | nils => exact .nils
  | clo f cs vs hl h =>
    cases cs with
    | nil => exact .clo f [] vs hl (fun i x v hx _ => by simp at hx)
    | cons => simp [PV.closed] at hc
  | bnd => simp [PV.closed] at hc
  | agg => simp [PV.closed] at hc
  | tup => simp [PV.closed] at hc
  | ptr => simp [PV.closed] at hc
  | ref cs ad vs hl hcell h => exact .ref cs ad vs hl (fun i u hu => ⟨(hcell i u hu).1, fun h' => (hcell i u hu).2 (hM _ h')⟩) (fun i p u hp hu => (h i p u hp hu).mono hs (Gh.le.refl _))
  | sl es ad c k vs hk hl hcell h hn hm => exact .sl es ad c k vs hk hl (fun i u hu => ⟨(hcell i u hu).1, fun h' => (hcell i u hu).2 (hM _ h')⟩) (fun i p u hp hu => (h i p u hp hu).mono hs (Gh.le.refl _)) hn hm
  | slnil => exact .slnil
  | own => simp [PV.closed] at hc
  | eptr => simp [PV.closed] at hc
  | view => simp [PV.closed] at hc
  | nilt => exact .nilt
  | nilf T v => exact .nilf T v
  | ifc T x v hp h => exact .ifc T x v hp (h.plain hp)
  | mapv ks us b es ck hb hMb hk hv h1 h2 => exact .mapv ks us b es ck hb (fun h' => hMb (hM _ h')) hk hv (fun i p e hp he => (h1 i p e hp he).mono hs (Gh.le.refl _)) (fun i p e hp he => (h2 i p e hp he).mono hs (Gh.le.refl _))

theorem RepL.closed {M M' : Nat → Prop} {G G' : Gh} {ys : List PV} {vs : List Value} (hc : ys.all PV.closed = true) (hM : ∀ b, M' b → M b) (h : RepL w M G ys vs) : RepL w M' G' ys vs :=
  ⟨h.1, fun i y v hy hv => (h.2 i y v hy hv).closed (List.all_eq_true.1 hc y (List.mem_of_getElem? hy)) hM⟩

theorem Rep.closeds {M M' : Nat → Prop} {G G' : Gh} {y : PV} {v : Value} (hc : y.closeds = true) (hM : ∀ b, M' b → M b) (h : Rep w M G y v) : Rep w M' G' y v := by
  cases y with
  | agg cs => cases h with | agg _ vs hl h => have := RepL.closed (G' := G') (by simpa [PV.closeds] using hc) hM ⟨hl, h⟩; exact .agg cs vs this.1 this.2
  | tup cs => cases h with | tup _ vs hl h => have := RepL.closed (G' := G') (by simpa [PV.closeds] using hc) hM ⟨hl, h⟩; exact .tup cs vs this.1 this.2
  | clo f cs => cases h with | clo _ _ vs hl h => have := RepL.closed (G' := G') (by simpa [PV.closeds] using hc) hM ⟨hl, h⟩; exact .clo f cs vs this.1 this.2
  | _ => exact h.closed (by simpa [PV.closeds] using hc) hM
theorem Rep.closedr {M M' : Nat → Prop} {G G' : Gh} {y : PV} {v : Value} (hc : y.closedr = true) (hM : ∀ b, M' b → M b) (h : Rep w M G y v) : Rep w M' G' y v := by
  cases y with
  | tup cs => cases h with | tup _ vs hl h => exact .tup cs vs hl fun i y v hy hv => (h i y v hy hv).closeds (List.all_eq_true.1 (show cs.all PV.closeds = true from hc) y (List.mem_of_getElem? hy)) hM
  | _ => exact h.closeds hc hM

theorem Rep.plain1 {w' : World} {M M' : Nat → Prop} {G G' : Gh} {y : PV} {v : Value} (hc : y.plain1 = true) (h : Rep w M G y v) : Rep w' M' G' y v := by
  have go : ∀ {cs : List PV} {vs : List Value}, cs.all PV.plain = true → RepL w M G cs vs → RepL w' M' G' cs vs := fun hc h => ⟨h.1, fun i y v hy hv => (h.2 i y v hy hv).plain (List.all_eq_true.1 hc y (List.mem_of_getElem? hy))⟩
  cases y with
  | agg cs => cases h with | agg _ vs hl h => have := go (by simpa [PV.plain1] using hc) ⟨hl, h⟩; exact .agg cs vs this.1 this.2
  | _ => exact h.plain (by simpa [PV.plain1] using hc)
theorem Rep.plains {w' : World} {M M' : Nat → Prop} {G G' : Gh} {y : PV} {v : Value} (hc : y.plains = true) (h : Rep w M G y v) : Rep w' M' G' y v := by
  cases y with
  | tup cs => cases h with | tup _ vs hl h => exact .tup cs vs hl fun i y v hy hv => (h i y v hy hv).plain1 (List.all_eq_true.1 (show cs.all PV.plain1 = true from hc) y (List.mem_of_getElem? hy))
  | _ => exact h.plain1 hc
theorem RepL.plain {w' : World} {M M' : Nat → Prop} {G G' : Gh} {ys : List PV} {vs : List Value} (hc : ys.all PV.plain = true) (h : RepL w M G ys vs) : RepL w' M' G' ys vs :=
  ⟨h.1, fun i y v hy hv => (h.2 i y v hy hv).plain (List.all_eq_true.1 hc y (List.mem_of_getElem? hy))⟩

theorem fz_rep_closed {H : Nat → AObj} {ex : Option Nat} {M M' : Nat → Prop} {G : Gh} {y : PV} {v : Value} (hc : y.closed = true) (hM : ∀ b, M' b → M b) (h : Rep w M G y v) (n : Nat) : Rep w M' Gh0 (fz H ex n y) v := by
  have hn : y = .nils ∨ fz H ex n y = y := by
    cases y with
    | clo f cs =>
      cases cs with
      | nil => right; cases n <;> simp [fz, PV.closed]
      | cons => simp [PV.closed] at hc
    | _ => first | exact .inl rfl | (right; cases n <;> simp_all [fz, PV.closed]) | (simp [PV.closed] at hc; done)
  rcases hn with rfl | hn
  · have := h.nils_inv
    subst this
    cases n <;> exact .slnil
  · rw [hn]
    exact h.closed hc hM
theorem fz_rep_closeds {H : Nat → AObj} {ex : Option Nat} {M M' : Nat → Prop} {G : Gh} {y : PV} {v : Value} (hc : y.closeds = true) (hM : ∀ b, M' b → M b) (h : Rep w M G y v) (n : Nat) : Rep w M' Gh0 (fz H ex (n + 1) y) v := by
  have go : ∀ {cs : List PV} {vs : List Value}, cs.all PV.closed = true → RepL w M G cs vs → RepL w M' Gh0 (cs.map (fz H ex n)) vs := fun hc hr =>
    ⟨by simp [hr.1], fun i p u hp hu => by
      rw [List.getElem?_map, Option.map_eq_some_iff] at hp
      obtain ⟨q, hq, rfl⟩ := hp
      exact fz_rep_closed (List.all_eq_true.1 hc q (List.mem_of_getElem? hq)) hM (hr.2 i q u hq hu) n⟩
  cases y with
  | agg cs => obtain ⟨vs, rfl, hr⟩ := h.agg_inv; have := go (by simpa [PV.closeds] using hc) hr; simp only [fz]; exact .agg _ _ this.1 this.2
  | tup cs => obtain ⟨vs, rfl, hr⟩ := h.tup_inv; have := go (by simpa [PV.closeds] using hc) hr; simp only [fz]; exact .tup _ _ this.1 this.2
  | clo f cs => obtain ⟨vs, rfl, hr⟩ := h.clo_inv; have := go (by simpa [PV.closeds] using hc) hr; simp only [fz]; exact .clo _ _ _ this.1 this.2
  | _ => exact fz_rep_closed (by simpa [PV.closeds] using hc) hM h (n + 1)

/-- an object that is handed over read only -/
theorem Rel.fz (h : Rel E S a w L) {ex : Option Nat} {M : Nat → Prop} (hM : ∀ b, M b → mutb E S L b) (hx : ∀ id b, id < S.N → (S.H id).c.live = true → some id ≠ ex → blk (L id) = some b → ¬ M b) :
    ∀ (n : Nat) {y : PV} {v : Value}, Rep w (mutb E S L) (S.gh L) y v → Rep w M Gh0 (fz S.H ex n y) v
  | 0, y, v, r => by
    cases hc : y.closed with
    | true => exact fz_rep_closed hc hM r 0
    | false =>
      have : TQ.fz S.H ex 0 y = .any := by cases y <;> simp_all [TQ.fz, PV.closed]
      rw [this]
      exact .any _
  | n + 1, y, v, r => by
    have ih := fun {y : PV} {v : Value} (r : Rep w (mutb E S L) (S.gh L) y v) => h.fz hM hx n r
    have ihl : ∀ {cs : List PV} {vs : List Value}, RepL w (mutb E S L) (S.gh L) cs vs → RepL w M Gh0 (cs.map (TQ.fz S.H ex n)) vs := fun hr =>
      ⟨by simp [hr.1], fun i p u hp hu => by
        rw [List.getElem?_map, Option.map_eq_some_iff] at hp
        obtain ⟨q, hq, rfl⟩ := hp
        exact ih (hr.2 i q u hq hu)⟩
    cases y with
    | own id ver =>
      simp only [TQ.fz]
      split
      · exact .any _
      · rename_i hne
        have hne' : some id ≠ ex ∧ (S.H id).ver = ver := ⟨fun e => hne (.inl e), Classical.not_not.1 fun e => hne (.inr e)⟩
        split
        · rename_i e k es hc
          obtain ⟨hN, hv⟩ := r.own_inv (show (S.gh L).V id = ver from hne'.2)
          obtain ⟨vs, hown, hk, hr⟩ := h.row_at hN hc
          rw [hv, show (S.gh L).L id = L id from rfl]
          have hfl : (es.map fun e => e.map (TQ.fz S.H ex n)).flatten = es.flatten.map (TQ.fz S.H ex n) := by rw [List.map_flatten]
          rcases hown.2 with ⟨hL, h0⟩ | ⟨g, cap, cur, hL, _, hh, hnc, hcm, _⟩
          · have : es = [] := List.eq_nil_of_length_eq_zero h0
            subst this
            rw [hL]
            exact .slnil
          · rw [hL]
            have hr2 := ihl hr
            rw [← hfl] at hr2
            have hlen : es.length = (es.map fun e => e.map (TQ.fz S.H ex n)).length := by simp
            rw [hlen]
            refine .sl _ _ _ k vs (fun u hu => ?_) hr2.1 (fun i u hu => ⟨hown.cells (g := g) (by rw [hL]; rfl) i u hu, hx id g hN (by rw [hc]; rfl) hne'.1 (by rw [hL]; rfl)⟩) hr2.2 (by simpa using hnc) hcm
            obtain ⟨q, hq, rfl⟩ := List.mem_map.1 hu
            simpa using hk q hq
        · exact .any _
    | ptr id ver off =>
      simp only [TQ.fz]
      split
      · exact .any _
      · rename_i hne
        have hne' : some id ≠ ex ∧ (S.H id).ver = ver := ⟨fun e => hne (.inl e), Classical.not_not.1 fun e => hne (.inr e)⟩
        split
        · rename_i cs hc
          obtain ⟨hN, _⟩ := r.ptr_inv (show (S.gh L).V id = ver from hne'.2)
          obtain ⟨b, hv, hL⟩ := h.ptr_some r hne'.2 hc
          obtain ⟨b', cur, T, hL', hh, hr, _⟩ := h.box_at hN hc
          rw [hL] at hL'
          simp only [Value.pointer.injEq, Option.some.injEq, Addr.mk.injEq] at hL'
          obtain ⟨rfl, _⟩ := hL'
          rw [hv]
          have hr2 := (ihl hr).drop off
          exact .ref _ _ _ hr2.1 (fun i u hu => ⟨by rw [add_mid]; exact cell_block hh (getElem?_drop_some hu), hx id b hN (by rw [hc]; rfl) hne'.1 (by rw [hL]; rfl)⟩) hr2.2
        · exact .any _
    | agg cs => obtain ⟨vs, rfl, hr⟩ := r.agg_inv; have := ihl hr; exact .agg _ _ this.1 this.2
    | tup cs => obtain ⟨vs, rfl, hr⟩ := r.tup_inv; have := ihl hr; exact .tup _ _ this.1 this.2
    | clo f cs => obtain ⟨vs, rfl, hr⟩ := r.clo_inv; have := ihl hr; exact .clo _ _ _ this.1 this.2
    | nils => exact fz_rep_closed rfl hM r (n + 1)
    | _ =>
      simp only [TQ.fz]
      split
      · rename_i hc; exact r.closed hc hM
      · exact .any _

theorem mutb_lt (h : Rel E S a w L) {b : Nat} (hb : mutb E S L b) : b < w.heap.size := by
  rcases hb with ⟨id, hid, hl, hb⟩ | hb
  · exact ((h.obj id hid).blk_ok hl hb).1
  · exact Nat.lt_of_lt_of_le (E.hX.lt b hb) h.fr.size

theorem mutb_ng (h : Rel E S a w L) {b : Nat} (hb : mutb E S L b) : ¬ gb b := by
  rcases hb with ⟨id, hid, hl, hb⟩ | hb
  · rcases ((h.obj id hid).blk_ok hl hb).2 with h1 | h1
    · exact (E.hrb b h1).2
    · intro hg
      have := E.hX.gi.lt hg
      omega
  · exact E.hX.ng b hb
theorem Rel.gi (h : Rel E S a w L) : GI w := E.hX.gi.keep fun b hg => h.fr.block b (E.hX.gi.lt hg) fun e => (E.hrb b e).2 hg
theorem Rel.xok (h : Rel E S a w L) {X : Nat → Prop} (hX : ∀ q, X q → mutb E S L q) : XOk w X := ⟨fun q hq => mutb_lt h (hX q hq), fun q hq => mutb_ng h (hX q hq), h.gi⟩
theorem Rel.x0 (h : Rel E S a w L) : XOk w fun _ => False := .nil h.gi

theorem RepL.fz (h : Rel E S a w L) {ex : Option Nat} {M : Nat → Prop} (hM : ∀ b, M b → mutb E S L b) (hx : ∀ id b, id < S.N → (S.H id).c.live = true → some id ≠ ex → blk (L id) = some b → ¬ M b) {args : List PV} {vs : List Value}
    (hr : RepL w (mutb E S L) (S.gh L) args vs) : RepL w M Gh0 (args.map (TQ.fz S.H ex 9)) vs :=
  ⟨by simp [hr.1], fun i p u hp hu => by
    rw [List.getElem?_map, Option.map_eq_some_iff] at hp
    obtain ⟨q, hq, rfl⟩ := hp
    exact h.fz hM hx 9 (hr.2 i q u hq hu)⟩

theorem RepL.closeds {M M' : Nat → Prop} {G G' : Gh} {ys : List PV} {vs : List Value} (hc : ys.all PV.closeds = true) (hM : ∀ b, M' b → M b) (h : RepL w M G ys vs) : RepL w M' G' ys vs :=
  ⟨h.1, fun i y v hy hv => (h.2 i y v hy hv).closeds (List.all_eq_true.1 hc y (List.mem_of_getElem? hy)) hM⟩

theorem RepL.fz_closeds {H : Nat → AObj} {ex : Option Nat} {M M' : Nat → Prop} {G : Gh} {ys : List PV} {vs : List Value} (hc : ys.all PV.closeds = true) (hM : ∀ b, M' b → M b) (h : RepL w M G ys vs) : RepL w M' Gh0 (ys.map (TQ.fz H ex 9)) vs :=
  ⟨by simp [h.1], fun i p u hp hu => by
    rw [List.getElem?_map, Option.map_eq_some_iff] at hp
    obtain ⟨q, hq, rfl⟩ := hp
    exact fz_rep_closeds (List.all_eq_true.1 hc q (List.mem_of_getElem? hq)) hM (h.2 i q u hq hu) 8⟩

theorem okRows_flat {es : List (List PV)} (h : okRows es = true) : es.flatten.all PV.closed = true := by
  refine List.all_eq_true.2 fun y hy => ?_
  obtain ⟨u, hu, hyu⟩ := List.mem_flatten.1 hy
  exact List.all_eq_true.1 (List.all_eq_true.1 h u hu) y hyu
theorem plRows_flat {es : List (List PV)} (h : plRows es = true) : es.flatten.all PV.plain = true := by
  refine List.all_eq_true.2 fun y hy => ?_
  obtain ⟨u, hu, hyu⟩ := List.mem_flatten.1 hy
  exact List.all_eq_true.1 (List.all_eq_true.1 h u hu) y hyu
theorem ownsRow_zero {w : World} {b : Nat} {e k : Nat} {v : Value} {n : Nat} {xs : List Value} (h : w.ownsRow b e k v n xs) : w.ownsRow 0 e k v n xs := by
  refine ⟨h.1, ?_⟩
  rcases h.2 with h1 | ⟨g, cap, cur, h1, _, h3⟩
  · exact .inl h1
  · exact .inr ⟨g, cap, cur, h1, Nat.zero_le _, h3⟩
theorem ownsRow_base {w w' : World} {b : Nat} {e k : Nat} {v : Value} {n n' : Nat} {xs ys : List Value} (h : w.ownsRow b e k v n xs) (h' : w'.ownsRow 0 e k v n' ys) : w'.ownsRow b e k v n' ys := by
  refine ⟨h'.1, ?_⟩
  rcases h'.2 with h1 | ⟨g, cap, cur, h1, _, h3⟩
  · exact .inl h1
  · refine .inr ⟨g, cap, cur, h1, ?_, h3⟩
    rcases h.2 with ⟨h4, _⟩ | ⟨g', cap', cur', h4, h5, _⟩
    · rw [h4] at h1; cases h1
    · rw [h4] at h1
      injection h1 with h1
      injection h1 with h1
      injection h1 with h1
      omega
theorem ownsRow_slice {w : World} {b : Nat} {e k : Nat} {v : Value} {n : Nat} {xs : List Value} (h : w.ownsRow b e k v n xs) : ∃ ad n c, v = .slice ad n c := by
  rcases h.2 with ⟨rfl, _⟩ | ⟨g, cap, cur, rfl, _⟩
  · exact ⟨_, _, _, rfl⟩
  · exact ⟨_, _, _, rfl⟩
theorem ownsRow_newbase {E : En} {w w' : World} {b : Nat} {e k : Nat} {v u : Value} {n n' : Nat} {xs ys : List Value} (h : w.ownsRow (rowBase E v) e k v n xs) (h' : w'.ownsRow 0 e k u n' ys) (hs : E.w0.heap.size ≤ b)
    (hu : ∀ g, blk u = some g → blk v = some g ∨ b ≤ g) : w'.ownsRow (rowBase E u) e k u n' ys := by
  refine ⟨h'.1, ?_⟩
  rcases h'.2 with h1 | ⟨g, cap, cur, h1, _, h3⟩
  · exact .inl h1
  · refine .inr ⟨g, cap, cur, h1, ?_, h3⟩
    have hbu : blk u = some g := by rw [h1]; rfl
    rcases hu g hbu with hv | hv
    · rw [rowBase_congr (v := u) (v' := v) (by rw [hbu, hv])]
      rcases h.2 with ⟨h4, _⟩ | ⟨g', cap', cur', h4, h5, _⟩
      · rw [h4] at hv; cases hv
      · rw [h4] at hv
        simp only [blk, Option.some.injEq] at hv
        omega
    · rw [rowBase_new hbu (Nat.le_trans hs hv)]
      exact Nat.le_trans hs hv
/-- what a callee that gets a row may not touch -/
theorem row_key (h : Rel E S a w L) {id : Nat} (hN : id < S.N) (hlive : (S.H id).c.live = true) {rest : List PV} {vs' : List Value} (hr' : RepL w (mutb E S L) (S.gh L) rest vs') :
    ∃ X : Nat → Prop, XOk w X ∧ (∀ b, blk (L id) = some b → ¬ X b ∧ ¬ gb b) ∧ (∀ q, Mv (L id) X q → mutb E S L q) ∧ RepL w (Mv (L id) X) Gh0 (rest.map (TQ.fz S.H (some id) 9)) vs' ∧ (rest.all PV.closeds = true → ∀ q, mutb E S L q → Mv (L id) X q) := by
  have hmb : ∀ b, blk (L id) = some b → mutb E S L b := fun b hb => .inl ⟨id, hN, hlive, hb⟩
  by_cases hall : rest.all PV.closeds = true
  · have hsub : ∀ q, Mv (L id) (fun q => mutb E S L q ∧ blk (L id) ≠ some q) q → mutb E S L q := by
      rintro q (hq | hq)
      · exact hmb q hq
      · exact hq.1
    refine ⟨fun q => mutb E S L q ∧ blk (L id) ≠ some q, h.xok fun q hq => hq.1, fun b hb => ⟨fun hq => hq.2 hb, mutb_ng h (hmb b hb)⟩, hsub, hr'.fz_closeds hall hsub, fun _ q hq => ?_⟩
    by_cases hb : blk (L id) = some q
    · exact .inl hb
    · exact .inr ⟨hq, hb⟩
  · have hsub : ∀ q, Mv (L id) (fun _ => False) q → mutb E S L q := by
      rintro q (hq | hq)
      · exact hmb q hq
      · exact hq.elim
    refine ⟨fun _ => False, h.x0, fun b hb => ⟨fun hq => hq, mutb_ng h (hmb b hb)⟩, hsub, ?_, fun hq => absurd hq hall⟩
    refine hr'.fz h hsub (fun j q hj hjl hne hjb hq => ?_)
    rcases hq with hq | hq
    · exact hne (by rw [h.apart j id q hj hN hjl hlive hjb hq])
    · exact hq
theorem bor_ok {f : FuncId} {m : Model} {e k : Nat} (hrow : ∀ es args r es', m.rm es args = some (r, es') → ConR P f e k es args r es') (h : Rel E S a w L) {args : List PV} {vs : List Value} (hr : RepL w (mutb E S L) (S.gh L) args vs) (he : callBor m e k S args = some (x, wr)) :
    Calls P f vs.toArray w (fun en w' => ∃ v L', en = .returned v ∧ Rel E (S.appH wr) a w' L' ∧ Rep w' (mutb E (S.appH wr) L') ((S.appH wr).gh L') x v) := by
  unfold callBor at he
  split at he
  case h_2 => cases he
  rename_i id ver rest
  split at he
  case isFalse => cases he
  rename_i hver
  split at he
  case h_2 => cases he
  rename_i e' k' es hc
  split at he
  case isFalse => cases he
  rename_i hek
  obtain ⟨rfl, rfl, hok⟩ := hek
  split at he
  case h_2 => cases he
  rename_i r es' hmm
  split at he
  case isFalse => cases he
  rename_i hcond
  obtain ⟨rfl, rfl⟩ := some_inv he
  simp only [Bool.and_eq_true, Bool.or_eq_true] at hcond
  obtain ⟨⟨hc1, hc2⟩, hc3⟩ := hcond
  obtain ⟨v0, vs', rfl, r0, hr'⟩ := hr.cons_inv
  obtain ⟨hN, hv0⟩ := r0.own_inv (show (S.gh L).V id = ver from hver)
  have hv0 : v0 = L id := hv0
  subst hv0
  have hlive : (S.H id).c.live = true := by rw [hc]; rfl
  obtain ⟨us, hown, hk, hru⟩ := h.row_at hN hc
  obtain ⟨X, hX, hXn, hsub, hargs, hsup⟩ := row_key h hN hlive hr'
  refine (hrow es _ r es' hmm w X hX (L id) vs' hXn ⟨us, ownsRow_zero hown, hk, hru.closed (okRows_flat hok) hsub⟩ hargs).mono ?_
  rintro en w' ⟨u, rfl, hrep, ⟨us', hown', hk', hru'⟩, hfr⟩
  have hmm' : ∀ q, mutb E { S with H := upd S.H id ⟨ver, .row e' k' es'⟩ } (upd L id (L id)) q → mutb E S L q := by
    rintro q (⟨j, hj, hjl, hjb⟩ | hq)
    · simp only at hj hjl
      have : upd L id (L id) j = L j := by by_cases hji : j = id <;> simp [upd, hji]
      rw [this] at hjb
      by_cases hji : j = id
      · subst hji
        exact .inl ⟨j, hj, hlive, hjb⟩
      · rw [upd_ne _ _ hji] at hjl
        exact .inl ⟨j, hj, hjl, hjb⟩
    · exact .inr hq
  have hst : rest.all PV.closeds = true → Stays w' w' (Mv (L id) X) (mutb E { S with H := upd S.H id ⟨ver, .row e' k' es'⟩ } (upd L id (L id))) := fun hall => (Stays.of fun _ hnm => fun hq => hnm (hsup hall _ (hmm' _ hq)))
  obtain ⟨h2, hs2, hg2⟩ := h.turn (w' := w') (hdr := hfr.drawn) hN ⟨ver, .row e' k' es'⟩ (L id) (.inl ⟨hver.symm, rfl, hlive⟩) hfr.os hfr.tape hfr.output hfr.size
    (fun q hq hne => hfr.block q hq (hne hlive)) (fun q _ hq => .inl ⟨hlive, hq⟩)
    (fun hs2 hg2 => ⟨us', ownsRow_base hown hown', hk', by
      rcases hc3 with hpl | hall
      · exact hru'.plain (plRows_flat hpl)
      · exact hru'.mono (hst hall) (Gh0.le _)⟩)
  refine ⟨u, _, rfl, h2, ?_⟩
  rcases hc1 with hpl | hall
  · exact hrep.plains hpl
  · exact hrep.mono (hst hall.1) (Gh0.le _)
theorem con_ok {f : FuncId} {m : Model} {e k : Nat} (hrow : ∀ es args r es', m.rm es args = some (r, es') → ConC P f e k es args es') (h : Rel E S a w L) {args : List PV} {vs : List Value} (hr : RepL w (mutb E S L) (S.gh L) args vs) (he : callCon m e k S args = some (x, wr)) :
    Calls P f vs.toArray w (fun en w' => ∃ v L', en = .returned v ∧ Rel E (S.appH wr) a w' L' ∧ Rep w' (mutb E (S.appH wr) L') ((S.appH wr).gh L') x v) := by
  unfold callCon at he
  split at he
  case h_2 => cases he
  rename_i id ver rest
  split at he
  case isFalse => cases he
  rename_i hver
  split at he
  case h_2 => cases he
  rename_i e' k' es hc
  split at he
  case isFalse => cases he
  rename_i hek
  obtain ⟨rfl, rfl, hok⟩ := hek
  split at he
  case h_2 => cases he
  rename_i r es' hmm
  split at he
  case isFalse => cases he
  rename_i hcond
  obtain ⟨rfl, rfl⟩ := some_inv he
  simp only [Bool.and_eq_true, Bool.or_eq_true] at hcond
  obtain ⟨hc2, hc3⟩ := hcond
  obtain ⟨v0, vs', rfl, r0, hr'⟩ := hr.cons_inv
  obtain ⟨hN, hv0⟩ := r0.own_inv (show (S.gh L).V id = ver from hver)
  have hv0 : v0 = L id := hv0
  subst hv0
  have hlive : (S.H id).c.live = true := by rw [hc]; rfl
  obtain ⟨us, hown, hk, hru⟩ := h.row_at hN hc
  obtain ⟨X, hX, hXn, hsub, hargs, hsup⟩ := row_key h hN hlive hr'
  refine (hrow es _ r es' hmm w X hX (L id) vs' hXn ⟨us, ownsRow_zero hown, hk, hru.closed (okRows_flat hok) hsub⟩ hargs).mono ?_
  rintro en w' ⟨u, rfl, ⟨us', hown', hk', hru'⟩, hub, hfr⟩
  have hEX : ∀ q, E.X q → blk (L id) ≠ some q := by
    intro q hq hb
    rcases hown.2 with ⟨h4, _⟩ | ⟨g', cap', cur', h4, h5, _⟩
    · rw [h4] at hb; cases hb
    · have hbg : blk (L id) = some g' := by rw [h4]; rfl
      rw [hb] at hbg
      injection hbg with hbg
      subst hbg
      rcases rowBase_at hb h5 with ⟨h6, h7⟩ | h6
      · exact E.hxr h6 q h7 hq
      · have := E.hX.lt q hq; omega
  have hst : rest.all PV.closeds = true → Stays w' w' (Mv u X) (mutb E { S with H := upd S.H id ⟨ver + 1, .row e' k' es'⟩ } (upd L id u)) := by
    intro hall
    refine (Stays.of fun _ hnm => fun hq => hnm ?_)
    rcases hq with ⟨j, hj, hjl, hjb⟩ | hq
    · simp only at hj hjl
      by_cases hji : j = id
      · subst hji
        rw [upd_same] at hjb
        exact .inl hjb
      · rw [upd_ne _ _ hji] at hjl hjb
        rcases hsup hall _ (.inl ⟨j, hj, hjl, hjb⟩) with hq | hq
        · exact absurd (h.apart j id _ hj hN hjl hlive hjb hq) hji
        · exact .inr hq
    · rcases hsup hall _ (.inr hq) with hq' | hq'
      · exact absurd hq' (hEX _ hq)
      · exact .inr hq'
  obtain ⟨h2, hs2, hg2⟩ := h.turn (w' := w') (hdr := hfr.drawn) hN ⟨ver + 1, .row e' k' es'⟩ u (.inr (by show (S.H id).ver < ver + 1; omega)) hfr.os hfr.tape hfr.output hfr.size
    (fun q hq hne => hfr.block q hq (hne hlive)) (fun q _ hq => (hub q hq).imp (fun hb => ⟨hlive, hb⟩) (fun hb => hb))
    (fun hs2 hg2 => ⟨us', ownsRow_newbase hown hown' h.fr.size hub, hk', by
      rcases hc3 with hpl | hall
      · exact hru'.plain (plRows_flat hpl)
      · exact hru'.mono (hst hall) (Gh0.le _)⟩)
  obtain ⟨ad, n, c, hu⟩ := ownsRow_slice hown'
  refine ⟨u, _, rfl, h2, ?_⟩
  subst hu
  exact .own _ _ _ _ _ hN (by simp [St.gh, St.appH, upd_same]) (fun _ => by simp [St.gh, St.appH, upd_same])
theorem fre_ok {f : FuncId} {m : Model} {e k : Nat} (hrow : ∀ args r es', m.rm [] args = some (r, es') → ConF P f args e k es') (h : Rel E S a w L) (hn : nid < S.N) {args : List PV} {vs : List Value} (hr : RepL w (mutb E S L) (S.gh L) args vs) (he : callFre m e k nid S args = some (x, wr)) :
    Calls P f vs.toArray w (fun en w' => ∃ v L', en = .returned v ∧ Rel E (S.appH wr) a w' L' ∧ Rep w' (mutb E (S.appH wr) L') ((S.appH wr).gh L') x v) := by
  unfold callFre at he
  split at he
  case h_2 => cases he
  rename_i r es' hmm
  split at he
  case isFalse => cases he
  rename_i hcond
  obtain ⟨rfl, rfl⟩ := some_inv he
  simp only [Bool.and_eq_true, Bool.or_eq_true] at hcond
  obtain ⟨hc2, hc3⟩ := hcond
  have key : ∃ X : Nat → Prop, XOk w X ∧ RepL w X Gh0 (args.map (TQ.fz S.H none 9)) vs ∧ (args.all PV.closeds = true → ∀ q, mutb E S L q → X q) := by
    by_cases hall : args.all PV.closeds = true
    · exact ⟨mutb E S L, h.xok fun q hq => hq, hr.fz_closeds hall (fun q hq => hq), fun _ q hq => hq⟩
    · exact ⟨fun _ => False, h.x0, hr.fz h (fun q hq => hq.elim) (fun j q hj hjl hne hjb hq => hq), fun hq => absurd hq hall⟩
  obtain ⟨X, hX, hargs, hsup⟩ := key
  refine (hrow _ r es' hmm w X hX vs hargs).mono ?_
  rintro en w' ⟨u, rfl, ⟨us', hown', hk', hru'⟩, hub, hfr⟩
  have hst : args.all PV.closeds = true → Stays w' w' (Mv u X) (mutb E { S with H := upd S.H nid ⟨(S.H nid).ver + 1, .row e k es'⟩ } (upd L nid u)) := by
    intro hall
    refine (Stays.of fun _ hnm => fun hq => hnm ?_)
    rcases hq with ⟨j, hj, hjl, hjb⟩ | hq
    · simp only at hj hjl
      by_cases hji : j = nid
      · subst hji
        rw [upd_same] at hjb
        exact .inl hjb
      · rw [upd_ne _ _ hji] at hjl hjb
        exact .inr (hsup hall _ (.inl ⟨j, hj, hjl, hjb⟩))
    · exact .inr (hsup hall _ (.inr hq))
  obtain ⟨h2, hs2, hg2⟩ := h.turn (w' := w') (hdr := hfr.drawn) hn ⟨(S.H nid).ver + 1, .row e k es'⟩ u (.inr (Nat.lt_succ_self _)) hfr.os hfr.tape hfr.output hfr.size
    (fun q hq _ => hfr.block q hq (by simp)) (fun q _ hq => .inr (hub q hq))
    (fun hs2 hg2 => ⟨us', ownsRow_newbase (v := .slice none 0 0) (World.ownsRow_nil w _ _ _) hown' h.fr.size (fun g hg => .inr (hub g hg)), hk', by
      rcases hc3 with hpl | hall
      · exact hru'.plain (plRows_flat hpl)
      · exact hru'.mono (hst hall) (Gh0.le _)⟩)
  obtain ⟨ad, n, c, hu⟩ := ownsRow_slice hown'
  refine ⟨u, _, rfl, h2, ?_⟩
  subst hu
  exact .own _ _ _ _ _ hn (by simp [St.gh, St.appH, upd_same]) (fun _ => by simp [St.gh, St.appH, upd_same])

/-- the same for two calls, of which the second takes what the first one hands back -/
theorem pair_ok {f g : FuncId} {e k : Nat} {args : List PV} {es' : List (List PV)} (hcon : ConP P f g (args.map (TQ.fz S.H none 9)) e k es') (h : Rel E S a w L) (hn : nid < S.N) {vs : List Value} (hr : RepL w (mutb E S L) (S.gh L) args vs)
    (hc : (plRows es' || args.all PV.closeds) = true) :
    Calls P f vs.toArray w fun en w1 => ∃ v, en = .returned v ∧ Calls P g #[v] w1 fun en w' => ∃ u L', en = .returned u ∧ Rel E { S with H := upd S.H nid ⟨(S.H nid).ver + 1, .row e k es'⟩ } a w' L' ∧
      Rep w' (mutb E { S with H := upd S.H nid ⟨(S.H nid).ver + 1, .row e k es'⟩ } L') (St.gh { S with H := upd S.H nid ⟨(S.H nid).ver + 1, .row e k es'⟩ } L') (.own nid ((S.H nid).ver + 1)) u := by
  have key : ∃ X : Nat → Prop, XOk w X ∧ RepL w X Gh0 (args.map (TQ.fz S.H none 9)) vs ∧ (args.all PV.closeds = true → ∀ q, mutb E S L q → X q) := by
    by_cases hall : args.all PV.closeds = true
    · exact ⟨mutb E S L, h.xok fun q hq => hq, hr.fz_closeds hall (fun q hq => hq), fun _ q hq => hq⟩
    · exact ⟨fun _ => False, h.x0, hr.fz h (fun q hq => hq.elim) (fun j q hj hjl hne hjb hq => hq), fun hq => absurd hq hall⟩
  obtain ⟨X, hX, hargs, hsup⟩ := key
  refine (hcon w X hX vs hargs).mono ?_
  rintro en w1 ⟨v, rfl, hcall⟩
  refine ⟨v, rfl, hcall.mono ?_⟩
  rintro en w' ⟨u, rfl, ⟨us', hown', hk', hru'⟩, hub, hfr⟩
  rw [Bool.or_eq_true] at hc
  have hst : args.all PV.closeds = true → Stays w' w' (Mv u X) (mutb E { S with H := upd S.H nid ⟨(S.H nid).ver + 1, .row e k es'⟩ } (upd L nid u)) := by
    intro hall
    refine (Stays.of fun _ hnm => fun hq => hnm ?_)
    rcases hq with ⟨j, hj, hjl, hjb⟩ | hq
    · simp only at hj hjl
      by_cases hji : j = nid
      · subst hji
        rw [upd_same] at hjb
        exact .inl hjb
      · rw [upd_ne _ _ hji] at hjl hjb
        exact .inr (hsup hall _ (.inl ⟨j, hj, hjl, hjb⟩))
    · exact .inr (hsup hall _ (.inr hq))
  obtain ⟨h2, hs2, hg2⟩ := h.turn (w' := w') (hdr := hfr.drawn) hn ⟨(S.H nid).ver + 1, .row e k es'⟩ u (.inr (Nat.lt_succ_self _)) hfr.os hfr.tape hfr.output hfr.size
    (fun q hq _ => hfr.block q hq (by simp)) (fun q _ hq => .inr (hub q hq))
    (fun hs2 hg2 => ⟨us', ownsRow_newbase (v := .slice none 0 0) (World.ownsRow_nil w _ _ _) hown' h.fr.size (fun g hg => .inr (hub g hg)), hk', by
      rcases hc with hpl | hall
      · exact hru'.plain (plRows_flat hpl)
      · exact hru'.mono (hst hall) (Gh0.le _)⟩)
  obtain ⟨ad, n, c, hu⟩ := ownsRow_slice hown'
  refine ⟨u, _, rfl, h2, ?_⟩
  subst hu
  exact .own _ _ _ _ _ hn (by simp [St.gh, upd_same]) (fun _ => by simp [St.gh, upd_same])
/-- two objects are lent -/
theorem two_ok {f : FuncId} {cs ds cs' ds' : List PV} (hcon : Con2 P f (cs.map TQ.nz) (ds.map TQ.nz) cs' ds') (h : Rel E S a w L) {i j v u : Nat} {x y : Value} (rx : Rep w (mutb E S L) (S.gh L) (.ptr i v 0) x) (ry : Rep w (mutb E S L) (S.gh L) (.ptr j u 0) y)
    (hi : (S.H i).ver = v) (hj : (S.H j).ver = u) (ci : (S.H i).c = .box cs) (cj : (S.H j).c = .box ds) (hne : i ≠ j) (k1 : cs.all PV.closed = true) (k2 : ds.all PV.closed = true) :
    Calls P f #[x, y] w fun e w' => ∃ L', e = .returned (.tuple #[]) ∧ Rel E { S with H := upd (upd S.H i ⟨v, .box cs'⟩) j ⟨u, .box ds'⟩ } a w' L' := by
  obtain ⟨hNi, _⟩ := rx.ptr_inv (show (S.gh L).V i = v from hi)
  obtain ⟨hNj, _⟩ := ry.ptr_inv (show (S.gh L).V j = u from hj)
  obtain ⟨b, hx, hLb⟩ := h.ptr_some rx hi ci
  obtain ⟨c, hy, hLc⟩ := h.ptr_some ry hj cj
  obtain ⟨b', cur, T, hL', hh, hr, hE⟩ := h.box_at hNi ci
  rw [hLb] at hL'
  simp only [Value.pointer.injEq, Option.some.injEq, Addr.mk.injEq] at hL'
  obtain ⟨rfl, _⟩ := hL'
  obtain ⟨c', cur2, T2, hL', hh2, hr2, hE2⟩ := h.box_at hNj cj
  rw [hLc] at hL'
  simp only [Value.pointer.injEq, Option.some.injEq, Addr.mk.injEq] at hL'
  obtain ⟨rfl, _⟩ := hL'
  have li : (S.H i).c.live = true := by rw [ci]; rfl
  have lj : (S.H j).c.live = true := by rw [cj]; rfl
  have hbc : b ≠ c := fun e => hne (h.apart i j b hNi hNj li lj (by rw [hLb]; rfl) (by rw [hLc, e]; rfl))
  have mb : mutb E S L b := .inl ⟨i, hNi, li, by rw [hLb]; rfl⟩
  have mc : mutb E S L c := .inl ⟨j, hNj, lj, by rw [hLc]; rfl⟩
  subst hx hy
  refine (hcon w (mutb E S L) b c T T2 cur.toList cur2.toList (h.xok fun q hq => hq) mb mc hbc (by simpa using hh) (by simpa using hh2) (hr.closed k1 fun q hq => hq).nz (hr2.closed k2 fun q hq => hq).nz).mono ?_
  rintro e w' ⟨us', vs', T', U', rfl, g1, g2, r1, r2, fr⟩
  have hcw : c < w'.heap.size := (Array.getElem?_eq_some_iff.1 g2).1
  -- the world in between
  obtain ⟨w1, hw1⟩ : ∃ w1 : World, w1 = { w' with heap := w'.heap.setIfInBounds c (.cells cur2 T2 (0, 0)) } := ⟨_, rfl⟩
  have w1c : w1.heap[c]? = w.heap[c]? := by rw [hw1, hh2]; simp [Array.getElem?_setIfInBounds_self_of_lt hcw]
  have w1o : ∀ q, q ≠ c → w1.heap[q]? = w'.heap[q]? := fun q hq => by rw [hw1]; exact Array.getElem?_setIfInBounds_ne (fun e => hq e.symm)
  have w1s : w1.heap.size = w'.heap.size := by rw [hw1]; simp
  have hsub : ∀ q, mutb E { S with H := upd S.H i ⟨v, .box cs'⟩ } (upd L i (L i)) q → mutb E S L q := by
    rintro q (⟨p, hp, hpl, hpb⟩ | hq)
    · simp only at hp hpl
      by_cases hpi : p = i
      · subst hpi
        rw [upd_same] at hpb
        exact .inl ⟨p, hp, li, hpb⟩
      · rw [upd_ne _ _ hpi] at hpl hpb
        exact .inl ⟨p, hp, hpl, hpb⟩
    · exact .inr hq
  have hst1 : Stays w' w1 (mutb E S L) (mutb E { S with H := upd S.H i ⟨v, .box cs'⟩ } (upd L i (L i))) := by
    refine ⟨fun p z hp hm => ⟨?_, fun hq => hm (hsub _ hq)⟩, fun q es ck hq hm => ⟨?_, fun hq => hm (hsub _ hq)⟩⟩
    · rw [World.cell?_of_block (w1o _ fun e => hm (by rw [e]; exact mc))]; exact hp
    · rw [w1o _ fun e => hm (by rw [e]; exact mc)]; exact hq
  obtain ⟨h1, _, _⟩ := h.turn (w' := w1) (hdr := by rw [hw1]; exact fr.drawn) hNi ⟨v, .box cs'⟩ (L i) (.inl ⟨hi.symm, rfl, li⟩) (by rw [hw1]; exact fr.os) (by rw [hw1]; exact fr.tape) (by rw [hw1]; exact fr.output) (by rw [w1s]; exact fr.size)
    (fun q hq hb => by
      by_cases hqc : q = c
      · rw [hqc]; exact w1c
      · rw [w1o q hqc]; exact fr.block q hq (fun e => hb li (by rw [hLb, e]; rfl)) hqc)
    (fun q _ hq => .inl ⟨li, hq⟩)
    (fun _ _ => ⟨b, us'.toArray, T', hLb, by rw [w1o b hbc]; exact g1, hE, (r1.mono hst1 (Gh0.le _))⟩)
  have hsub2 : ∀ q, mutb E { S with H := upd (upd S.H i ⟨v, .box cs'⟩) j ⟨u, .box ds'⟩ } (upd (upd L i (L i)) j (upd L i (L i) j)) q → mutb E S L q := by
    rintro q (⟨p, hp, hpl, hpb⟩ | hq)
    · simp only at hp hpl
      have hLp : upd (upd L i (L i)) j (upd L i (L i) j) p = L p := by
        unfold upd
        split
        · rename_i e; rw [e]; split
          · rename_i e2; rw [e2]
          · rfl
        · split
          · rename_i e; rw [e]
          · rfl
      rw [hLp] at hpb
      by_cases hpj : p = j
      · subst hpj; exact .inl ⟨p, hp, lj, hpb⟩
      · rw [upd_ne _ _ hpj] at hpl
        by_cases hpi : p = i
        · subst hpi; exact .inl ⟨p, hp, li, hpb⟩
        · rw [upd_ne _ _ hpi] at hpl
          exact .inl ⟨p, hp, hpl, hpb⟩
    · exact .inr hq
  have hji : j ≠ i := fun e => hne e.symm
  have hLj : upd L i (L i) j = L j := upd_ne _ _ hji
  have hHj : upd S.H i ⟨v, .box cs'⟩ j = S.H j := upd_ne _ _ hji
  obtain ⟨h2, _, _⟩ := h1.turn (w' := w') (hdr := by rw [hw1]; exact DL.refl _) (id := j) hNj ⟨u, .box ds'⟩ (upd L i (L i) j) (.inl ⟨by simp only [hHj]; exact hj.symm, rfl, by simp only [hHj]; exact lj⟩) (by rw [hw1]) (by rw [hw1]) (by rw [hw1]) (by rw [w1s]; exact Nat.le_refl _)
    (fun q hq hb => (w1o q fun e => hb (by simp only [hHj]; exact lj) (by rw [hLj, hLc, e]; rfl)).symm)
    (fun q _ hq => .inl ⟨by simp only [hHj]; exact lj, hq⟩)
    (fun _ _ => ⟨c, vs'.toArray, U', by rw [hLj]; exact hLc, g2, hE2, r2.mono (Stays.of fun q hm hq => hm (hsub2 q hq)) (Gh0.le _)⟩)
  exact ⟨_, rfl, h2⟩

theorem RepL.cut_inv {M : Nat → Prop} {G : Gh} {args : List PV} {vs : List Value} (hr : RepL w M G args vs) {p : Nat} {y : PV} (hp : args[p]? = some y) :
    ∃ v0, Rep w M G y v0 ∧ RepL w M G (cutAt p args) (cutAt p vs) ∧ insAt p [v0] (cutAt p vs) = vs := by
  obtain ⟨v0, hv0, hrep⟩ := hr.get hp
  refine ⟨v0, hrep, (hr.take p).append (hr.drop (p + 1)), ?_⟩
  have hlt : p < vs.length := (List.getElem?_eq_some_iff.1 hv0).1
  have ht : (vs.take p).length = p := by simp; omega
  have e1 : (cutAt p vs).take p = vs.take p := by
    unfold cutAt
    rw [List.take_append_of_le_length (by omega)]
    rw [List.take_take, Nat.min_self]
  have e2 : (cutAt p vs).drop p = vs.drop (p + 1) := by
    unfold cutAt
    rw [List.drop_append_of_le_length (by omega)]
    rw [List.drop_of_length_le (by omega), List.nil_append]
  unfold insAt
  rw [e1, e2]
  have h3 : vs.drop p = v0 :: vs.drop (p + 1) := by
    rw [List.drop_eq_getElem_cons hlt]
    congr 1
    rw [List.getElem?_eq_getElem hlt] at hv0
    injection hv0
  rw [List.append_assoc, List.singleton_append, ← h3, List.take_append_drop]

theorem call_ok (hΓ : TabOk P Γ) (h : Rel E S a w L) (hn : nid < S.N) {f : FuncId} {args : List PV} {vs : List Value} (hr : RepL w (mutb E S L) (S.gh L) args vs) (he : callPV Γ nid S f args = some (x, wr)) :
    Enters P f ∧ Calls P f vs.toArray w (fun e w' => ∃ v L', e = .returned v ∧ Rel E (S.appH wr) a w' L' ∧ Rep w' (mutb E (S.appH wr) L') ((S.appH wr).gh L') x v) := by
  unfold callPV at he
  split at he
  · cases he
  · rename_i m hm
    obtain ⟨hen, hcon, hconN, hrow, hro⟩ := hΓ f m hm
    refine ⟨hen, ?_⟩
    split at he
    · rename_i e k hrk
      rw [RowSound, hrk] at hrow
      exact bor_ok hrow h hr he
    · rename_i e k hrk
      rw [RowSound, hrk] at hrow
      exact con_ok hrow h hr he
    · rename_i e k hrk
      rw [RowSound, hrk] at hrow
      exact fre_ok hrow h hn hr he
    split at he
    · rename_i hfresh
      split at he
      · rename_i r0 cs hmm
        split at he
        · rename_i hcond
          obtain ⟨rfl, rfl⟩ := some_inv he
          simp only [Bool.and_eq_true, Bool.or_eq_true] at hcond
          obtain ⟨hc1, hc2⟩ := hcond
          have key : ∃ X : Nat → Prop, XOk w X ∧ RepL w X Gh0 (args.map (TQ.fz S.H none 9)) vs ∧ (args.all PV.closeds = true → ∀ q, mutb E S L q → X q) := by
            by_cases hall : args.all PV.closeds = true
            · exact ⟨mutb E S L, h.xok fun q hq => hq, hr.fz_closeds hall (fun q hq => hq), fun _ q hq => hq⟩
            · exact ⟨fun _ => False, h.x0, hr.fz h (fun q hq => hq.elim) (fun j q hj hjl hne hjb hq => hq), fun hq => absurd hq hall⟩
          obtain ⟨X, hX, hargs, hsup⟩ := key
          refine (hconN hfresh _ _ _ hmm w X hX vs hargs).mono ?_
          rintro e w' ⟨b, rvs, T, rfl, hbge, hh, hrc, hfr⟩
          have hmq : args.all PV.closeds = true → ∀ q, mutb E { S with H := upd S.H nid ⟨(S.H nid).ver + 1, .box cs⟩ } (upd L nid (.pointer (some ⟨b, 0, none⟩))) q → X q ∨ q = b := by
            rintro hall q (⟨j, hj, hjl, hjb⟩ | hq)
            · simp only at hj hjl
              by_cases hji : j = nid
              · subst hji
                rw [upd_same] at hjb
                simp only [blk, Option.some.injEq] at hjb
                exact .inr hjb.symm
              · rw [upd_ne _ _ hji] at hjl hjb
                exact .inl (hsup hall q (.inl ⟨j, hj, hjl, hjb⟩))
            · exact .inl (hsup hall q (.inr hq))
          obtain ⟨h2, hs2, hg2⟩ := h.turn (w' := w') (hdr := hfr.drawn) hn ⟨(S.H nid).ver + 1, .box cs⟩ (.pointer (some ⟨b, 0, none⟩)) (.inr (Nat.lt_succ_self _)) hfr.os hfr.tape hfr.output hfr.size (fun q hq _ => hfr.block q hq (by simp))
            (fun q _ hq => .inr (by simp only [blk, Option.some.injEq] at hq; omega))
            (fun hs2 hg2 => ⟨b, rvs.toArray, T, rfl, hh, .inr (Nat.le_trans h.fr.size hbge), by
              simp only
              rcases hc2 with hpl | hall
              · exact hrc.plain hpl
              · exact hrc.mono (Stays.of fun _ hn' hq => hn' (hmq hall _ hq)) (Gh0.le _)⟩)
          refine ⟨_, _, rfl, h2, ?_⟩
          exact .ptr _ _ _ _ hn (by simp [St.gh, St.appH, upd_same]) (fun _ => by simp [St.gh, St.appH, upd_same, blk])
        · cases he
      · cases he
    rename_i hnf
    have hnf' : m.fresh = false := by simpa using hnf
    have hcon := hcon hnf'
    split at he
    · rename_i hrecv
      split at he
      · rename_i id ver hpos
        generalize hrest : cutAt m.pos args = rest at he
        split at he
        · rename_i hver
          split at he
          · rename_i cs hc
            split at he
            · rename_i hcl
              split at he
              · rename_i r cs' hmm
                split at he
                · rename_i hcond
                  obtain ⟨rfl, rfl⟩ := some_inv he
                  have hwr : S.appH (if (m.ro && cs.all PV.noNils) = true then none else some (id, (⟨ver, .box cs'⟩ : AObj))) = S.appH (some (id, ⟨ver, .box cs'⟩)) := by
                    split
                    · rename_i hq
                      rw [Bool.and_eq_true] at hq
                      have e1 : cs.map TQ.nz = cs := by
                        rw [List.map_congr_left (g := fun y => y) fun y hy => by have := List.all_eq_true.1 hq.2 y hy; cases y <;> first | rfl | cases this]
                        simp
                      have e2 := hro hq.1 _ _ _ _ hmm
                      rw [e1] at e2
                      rw [e2]
                      show S = { S with H := upd S.H id ⟨ver, .box cs⟩ }
                      have e3 : (⟨ver, .box cs⟩ : AObj) = S.H id := by rw [← hver, ← hc]
                      rw [e3]
                      have e4 : upd S.H id (S.H id) = S.H := by
                        funext j; unfold upd; split
                        · rename_i e; rw [e]
                        · rfl
                      rw [e4]
                    · rfl
                  rw [hwr]
                  simp only [Bool.and_eq_true, Bool.or_eq_true] at hcond
                  obtain ⟨⟨⟨hc1, hc2⟩, hc3⟩, hc4⟩ := hcond
                  obtain ⟨v0, r0, hr', hins⟩ := hr.cut_inv hpos
                  rw [hrest] at hr'
                  generalize cutAt m.pos vs = vs' at hr' hins
                  obtain ⟨hN, _⟩ := r0.ptr_inv (show (S.gh L).V id = ver from hver)
                  obtain ⟨b, hv0, hL⟩ := h.ptr_some r0 hver hc
                  obtain ⟨b', cur, T, hL', hh, hrc, hE⟩ := h.box_at hN hc
                  rw [hL] at hL'
                  simp only [Value.pointer.injEq, Option.some.injEq, Addr.mk.injEq] at hL'
                  obtain ⟨rfl, _⟩ := hL'
                  have hmb : mutb E S L b := .inl ⟨id, hN, by rw [hc]; rfl, by rw [hL]; rfl⟩
                  -- what the callee may not touch
                  have key : ∃ X : Nat → Prop, XOk w X ∧ (∀ q, Mc true b X q → mutb E S L q) ∧ RepL w (Mc true b X) Gh0 (rest.map (TQ.fz S.H (some id) 9)) vs' ∧ (rest.all PV.closeds = true → ∀ q, mutb E S L q → Mc true b X q) := by
                    by_cases hall : rest.all PV.closeds = true
                    · refine ⟨mutb E S L, h.xok fun q hq => hq, fun q hq => ?_, ?_, fun _ q hq => .inr hq⟩
                      · rcases hq with ⟨_, rfl⟩ | hq
                        · exact hmb
                        · exact hq
                      · exact hr'.fz_closeds hall (fun q hq => by
                          rcases hq with ⟨_, rfl⟩ | hq
                          · exact hmb
                          · exact hq)
                    · refine ⟨fun _ => False, h.x0, fun q hq => ?_, ?_, fun hq => absurd hq hall⟩
                      · rcases hq with ⟨_, rfl⟩ | hq
                        · exact hmb
                        · exact hq.elim
                      · refine hr'.fz h (fun q hq => ?_) (fun j q hj hjl hne hjb hq => ?_)
                        · rcases hq with ⟨_, rfl⟩ | hq
                          · exact hmb
                          · exact hq.elim
                        · rcases hq with ⟨_, rfl⟩ | hq
                          · exact hne (by rw [h.apart j id q hj hN hjl (by rw [hc]; rfl) hjb (by rw [hL]; rfl)])
                          · exact hq
                  obtain ⟨X, hX, hsub, hargs, hsup⟩ := key
                  have hcall := hcon (cs.map TQ.nz) (rest.map (TQ.fz S.H (some id) 9)) r cs' hmm w X hX b T cur.toList vs' (fun _ => ⟨by simpa using hh, by rw [hrecv]; exact (hrc.closed hcl hsub).nz, mutb_ng h hmb⟩) (by rw [hrecv]; exact hargs)
                  rw [hrecv] at hcall
                  have hargsv : (insAt m.pos (recvL true b) vs').toArray = vs.toArray := by rw [← hins, hv0]; rfl
                  rw [hargsv] at hcall
                  refine hcall.mono ?_
                  rintro e w' ⟨v, rvs', rfl, hrep, hrv, hfr⟩
                  obtain ⟨⟨T', hh'⟩, hrc'⟩ := hrv rfl
                  simp only [if_true] at hfr
                  have hmm' : ∀ q, mutb E { S with H := upd S.H id ⟨ver, .box cs'⟩ } (upd L id (L id)) q → mutb E S L q := by
                    rintro q (⟨j, hj, hjl, hjb⟩ | hq)
                    · simp only at hj hjl
                      have : upd L id (L id) j = L j := by by_cases hji : j = id <;> simp [upd, hji]
                      rw [this] at hjb
                      by_cases hji : j = id
                      · subst hji
                        exact .inl ⟨j, hj, by rw [hc]; rfl, hjb⟩
                      · rw [upd_ne _ _ hji] at hjl
                        exact .inl ⟨j, hj, hjl, hjb⟩
                    · exact .inr hq
                  have hst : rest.all PV.closeds = true → Stays w' w' (Mc true b X) (mutb E { S with H := upd S.H id ⟨ver, .box cs'⟩ } (upd L id (L id))) := fun hall => (Stays.of fun _ hnm => fun hq => hnm (hsup hall _ (hmm' _ hq)))
                  obtain ⟨h2, hs2, hg2⟩ := h.turn (w' := w') (hdr := hfr.drawn) hN ⟨ver, .box cs'⟩ (L id) (.inl ⟨hver.symm, rfl, by rw [hc]; rfl⟩) hfr.os hfr.tape hfr.output hfr.size
                    (fun q hq hne => hfr.block q hq (fun eq => hne (by rw [hc]; rfl) (by rw [hL]; exact eq)))
                    (fun q _ hq => .inl ⟨by rw [hc]; rfl, hq⟩)
                    (fun hs2 hg2 => ⟨b, rvs'.toArray, T', hL, hh', hE, by
                      simp only
                      rcases hc4 with hpl | hall
                      · exact hrc'.plain hpl
                      · exact hrc'.mono (hst hall) (Gh0.le _)⟩)
                  refine ⟨v, _, rfl, h2, ?_⟩
                  rcases hc1 with hpl | hall
                  · exact hrep.plains hpl
                  · exact hrep.mono (hst hall) (Gh0.le _)
                · cases he
              · cases he
            · cases he
          · cases he
        · cases he
      · cases he
    · rename_i hrecv
      split at he
      · rename_i r cs' hmm
        split at he
        · rename_i hcond
          obtain ⟨rfl, rfl⟩ := some_inv he
          simp only [Bool.or_eq_true, Bool.and_eq_true] at hcond
          have hrecv' : m.recv = false := by simpa using hrecv
          have key : ∃ X : Nat → Prop, XOk w X ∧ RepL w (Mc false 0 X) Gh0 (args.map (TQ.fz S.H none 9)) vs ∧ (args.all PV.closeds = true → ∀ q, mutb E S L q → Mc false 0 X q) := by
            by_cases hall : args.all PV.closeds = true
            · refine ⟨mutb E S L, h.xok fun q hq => hq, ?_, fun _ q hq => .inr hq⟩
              exact hr.fz_closeds hall (fun q hq => by
                rcases hq with ⟨hq, _⟩ | hq
                · cases hq
                · exact hq)
            · refine ⟨fun _ => False, h.x0, ?_, fun hq => absurd hq hall⟩
              refine hr.fz h (fun q hq => ?_) (fun j q hj hjl hne hjb hq => ?_)
              · rcases hq with ⟨hq, _⟩ | hq
                · cases hq
                · exact hq.elim
              · rcases hq with ⟨hq, _⟩ | hq
                · cases hq
                · exact hq
          obtain ⟨X, hX, hargs, hsup⟩ := key
          have hcall := hcon [] (args.map (TQ.fz S.H none 9)) r cs' hmm w X hX 0 0 [] vs (fun hq => by rw [hrecv'] at hq; cases hq) (by rw [hrecv']; exact hargs)
          rw [hrecv'] at hcall
          simp only [recvL, Bool.false_eq_true, if_false, insAt_nil] at hcall
          refine hcall.mono ?_
          rintro e w' ⟨v, rvs', rfl, hrep, _, hfr⟩
          simp only [Bool.false_eq_true, if_false] at hfr
          obtain ⟨h2, hs2⟩ := h.grow (w' := w') hfr.os hfr.tape hfr.output hfr.size (fun q hq => hfr.block q hq (by simp)) hfr.drawn
          refine ⟨v, L, rfl, h2, ?_⟩
          rcases hcond with hpl | ⟨hall, _⟩
          · exact hrep.plains hpl
          · exact hrep.mono (Stays.of fun _ hnm => fun hq => hnm (hsup hall _ hq)) (Gh0.le _)
        · cases he
      · cases he
end
end Go.TQ
