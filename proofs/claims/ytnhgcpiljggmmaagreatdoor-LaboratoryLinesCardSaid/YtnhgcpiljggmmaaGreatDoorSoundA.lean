/-
  The operations that read and compute. Conditions: none (generic in the program).
-/
import Derived.Test.YtnhgcpiljggmmaaGreatDoorSound
import Derived.Lib.Bytes
namespace Go.TQ
open Go.RowKit
section
variable {P : Program} {E : En} {S : St} {a : Act} {w : World} {L : Nat → Value} {o : Oper} {x : PV} {wr : Option (Nat × AObj)} {Γ : Tab} {nid : Nat}

theorem some_inv {p q : PV × Option (Nat × AObj)} (h : some p = some q) : p.1 = q.1 ∧ p.2 = q.2 := by injection h with h; subst h; exact ⟨rfl, rfl⟩

theorem g_mov (h : Rel E S a w L) {y : Operand} {y' : Opd} (ho : o.op = .move y ∨ o.op = .assign y) (hy : copd y = some y') : Good P E S a w o (y'.val S) none := by
  refine Good.pure h ?_ (h.opd hy)
  rcases ho with ho | ho <;> simp [execOp, ho]

theorem g_pick (h : Rel E S a w L) {c y z : Operand} {c' y' z' : Opd} (ho : o.op = .pick c y z) (hc : copd c = some c') (hy : copd y = some y') (hz : copd z = some z')
    (he : exec Γ nid S (.pick c' y' z') = some (x, wr)) : Good P E S a w o x wr := by
  have rc := h.opd hc
  simp only [exec] at he
  split at he
  · rename_i e
    obtain ⟨rfl, rfl⟩ := some_inv he
    rw [e] at rc
    have hv := rc.bool_inv
    exact Good.pure (v := a.eval y) h (by simp [execOp, ho, asBool, hv]) (h.opd hy)
  · rename_i e
    obtain ⟨rfl, rfl⟩ := some_inv he
    rw [e] at rc
    have hv := rc.bool_inv
    exact Good.pure (v := a.eval z) h (by simp [execOp, ho, asBool, hv]) (h.opd hz)
  · cases he

theorem g_not (h : Rel E S a w L) {y : Operand} {y' : Opd} {t : TypeId} (ho : o.op = .unOp .not t y) (hy : copd y = some y') (he : exec Γ nid S (.not y') = some (x, wr)) : Good P E S a w o x wr := by
  have r := h.opd hy
  simp only [exec] at he
  split at he
  · rename_i b e
    obtain ⟨rfl, rfl⟩ := some_inv he
    rw [e] at r
    have hv := r.bool_inv
    exact Good.pure (v := .bool !b) h (by simp [execOp, ho, Op.unary, hv]) (.bool _)
  · cases he

theorem g_conv (h : Rel E S a w L) {y : Operand} {y' : Opd} {s t : TypeId} {k k0 : IntKind} (ho : o.op = .convert s t y) (hs : P.underlying s = some (.int k0)) (ht : P.underlying t = some (.int k)) (hy : copd y = some y')
    (he : exec Γ nid S (.conv k y') = some (x, wr)) : Good P E S a w o x wr := by
  have r := h.opd hy
  simp only [exec] at he
  split at he
  · rename_i k1 n e
    obtain ⟨rfl, rfl⟩ := some_inv he
    rw [e] at r
    have hv := r.int_inv
    exact Good.pure (v := .int k (k.wrap n)) h (by simp [execOp, ho, convert, run_underlying hs, run_underlying ht, Conv.intToInt, hv]) (.int _ _)
  · cases he

theorem g_extr (h : Rel E S a w L) {y : Operand} {y' : Opd} {i : Nat} (ho : o.op = .extract y i) (hy : copd y = some y') (he : exec Γ nid S (.extr i y') = some (x, wr)) : Good P E S a w o x wr := by
  have r := h.opd hy
  simp only [exec] at he
  split at he
  · rename_i cs e
    simp only [Option.map_eq_some_iff] at he
    obtain ⟨z, hz, he⟩ := he
    injection he with h1 h2
    subst h1 h2
    rw [e] at r
    obtain ⟨vs, hv, hr⟩ := r.tup_inv
    obtain ⟨u, hu, hx⟩ := hr.get hz
    exact Good.pure (v := u) h (by simp [execOp, ho, Instr.extract, hv, hu]) hx
  · cases he

theorem g_mkf (h : Rel E S a w L) {f : FuncId} {first caps : Array Operand} {cs : List Opd} (ho : o.op = .makeFunc (.func f) first caps) (h0 : first.size = 0) (hc : caps.toList.mapM copd = some cs)
    (he : exec Γ nid S (.mkf f cs) = some (x, wr)) : Good P E S a w o x wr := by
  simp only [exec] at he
  obtain ⟨rfl, rfl⟩ := some_inv he
  have r := h.opds hc
  have h1 : first = #[] := Array.eq_empty_of_size_eq_zero h0
  subst h1
  refine Good.pure (v := .func (.func f) #[] (caps.toList.map a.eval).toArray) h ?_ (.clo f _ _ r.1 r.2)
  have e : caps.map a.eval = (caps.toList.map a.eval).toArray := by rw [← Array.toList_map, Array.toArray_toList]
  simp [execOp, ho, Instr.makeFunc, e]

theorem g_mkb (h : Rel E S a w L) {f : FuncId} {first caps : Array Operand} {cs : List Opd} (ho : o.op = .makeFunc (.func f) first caps) (h0 : caps.size = 0) (hc : first.toList.mapM copd = some cs)
    (he : exec Γ nid S (.mkb f cs) = some (x, wr)) : Good P E S a w o x wr := by
  simp only [exec] at he
  obtain ⟨rfl, rfl⟩ := some_inv he
  have r := h.opds hc
  have h1 : caps = #[] := Array.eq_empty_of_size_eq_zero h0
  subst h1
  refine Good.pure (v := .func (.func f) (first.toList.map a.eval).toArray #[]) h ?_ (.bnd f _ _ r.1 r.2)
  have e : first.map a.eval = (first.toList.map a.eval).toArray := by rw [← Array.toList_map, Array.toArray_toList]
  simp [execOp, ho, Instr.makeFunc, e]

theorem toList_eq_iff (a b : ByteArray) : (a.toList == b.toList) = decide (a = b) := by
  have hl : ∀ c : ByteArray, c.toList = c.data.toList := fun c => Lib.toList_data c
  rw [hl, hl, Bool.eq_iff_iff]
  simp only [beq_iff_eq, decide_eq_true_eq]
  constructor
  · intro h
    have : a.data = b.data := Array.toList_inj.1 h
    cases a; cases b; simp_all
  · rintro rfl; rfl

theorem run_binInt {M : Nat → Prop} {G : Gh} {op : BinOp} {t : TypeId} {k : IntKind} {p q : Int} {r : PV} (hb : binInt op k p q = some r) (hs1 : op ≠ .shl) (hs2 : op ≠ .shr) :
    ∃ v, (binOp op t (.int k p) (.int k q)).run P w = .ok v w ∧ Rep w M G r v := by
  cases op <;> simp only [binInt] at hb
  case shl => exact absurd rfl hs1
  case shr => exact absurd rfl hs2
  case quo => split at hb
              · cases hb
              · rename_i hq; injection hb with hb; subst hb; exact ⟨.int k (k.wrap (p.tdiv q)), by simp [binOp, Op.intDiv, hq], .int _ _⟩
  case rem => split at hb
              · cases hb
              · rename_i hq; injection hb with hb; subst hb; exact ⟨.int k (p.tmod q), by simp [binOp, Op.intDiv, hq], .int _ _⟩
  case andNot => injection hb with hb; subst hb; exact ⟨.int k (k.wrap ((BitVec.ofInt k.bits p &&& ~~~ BitVec.ofInt k.bits q).toNat)), by simp only [binOp, ne_eq, not_true_eq_false, if_false, Op.intBits, Sem.run_pure], .int _ _⟩
  case and => injection hb with hb; subst hb; exact ⟨_, by simp only [binOp, ne_eq, not_true_eq_false, if_false, Op.intBits]; rfl, .int _ _⟩
  case or => injection hb with hb; subst hb; exact ⟨_, by simp only [binOp, ne_eq, not_true_eq_false, if_false, Op.intBits]; rfl, .int _ _⟩
  case xor => injection hb with hb; subst hb; exact ⟨_, by simp only [binOp, ne_eq, not_true_eq_false, if_false, Op.intBits]; rfl, .int _ _⟩
  all_goals (injection hb with hb; subst hb)
  all_goals exact ⟨_, by simp only [binOp, ne_eq, not_true_eq_false, if_false, Op.intArith, Op.intCmp]; rfl, by first | exact .int _ _ | exact .bool _⟩

theorem g_bin (h : Rel E S a w L) {y z : Operand} {y' z' : Opd} {op : BinOp} {t t2 : TypeId} (ho : o.op = .binOp op t y z t2) (hy : copd y = some y') (hz : copd z = some z')
    (he : exec Γ nid S (.bin op y' z') = some (x, wr)) : Good P E S a w o x wr := by
  have ry := h.opd hy
  have rz := h.opd hz
  simp only [exec, Option.map_eq_some_iff] at he
  obtain ⟨r, hb, he⟩ := he
  injection he with h1 h2
  subst h1 h2
  unfold binPV at hb
  split at hb
  · rename_i k p k' q e1 e2
    rw [e1] at ry
    rw [e2] at rz
    have hv := ry.int_inv
    have hu := rz.int_inv
    have hg : ∀ op, (eqGuard op t y z (.int k p) (.int k' q)).run P w = .ok () w := by intro op; cases op <;> simp [eqGuard]
    split at hb
    · split at hb
      · cases hb
      · rename_i hq
        injection hb with hb
        subst hb
        exact Good.pure (v := _) h (by simp [execOp, ho, hv, hu, hg, binOp, Op.shift, hq]) (.int _ _)
    · split at hb
      · cases hb
      · rename_i hq
        injection hb with hb
        subst hb
        exact Good.pure (v := _) h (by simp [execOp, ho, hv, hu, hg, binOp, Op.shift, hq]) (.int _ _)
    · rename_i hs1 hs2
      split at hb
      · rename_i hk
        subst hk
        obtain ⟨v, hrun, hx⟩ := run_binInt (P := P) (w := w) (t := t) (M := mutb E S L) (G := S.gh L) hb hs1 hs2
        exact Good.pure (v := v) h (by simp [execOp, ho, hv, hu, hg, hrun]) hx
      · cases hb
  · rename_i p q e1 e2
    rw [e1] at ry
    rw [e2] at rz
    have hv := ry.str_inv
    have hu := rz.str_inv
    have hg : ∀ op, (eqGuard op t y z (.string p) (.string q)).run P w = .ok () w := by intro op; cases op <;> simp [eqGuard]
    cases op <;> simp only [binStr] at hb <;>
      first
      | (injection hb with hb; subst hb
         exact Good.pure (v := _) h (by first | (simp only [execOp, ho, hv, hu, Sem.run_bind, hg, binOp, Op.stringOp, toList_eq_iff, Sem.run_pure, Result.andThen_ok]; done) | (simp only [execOp, ho, hv, hu, Sem.run_bind, hg, binOp, Op.stringOp, toList_eq_iff, Sem.run_pure, Result.andThen_ok]; rfl)) (.bool _))
      | cases hb
  · cases hb
end
end Go.TQ
