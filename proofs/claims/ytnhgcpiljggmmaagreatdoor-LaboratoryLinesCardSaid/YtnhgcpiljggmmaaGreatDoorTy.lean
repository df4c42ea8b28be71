/-
  Models of functions over typed data, and the evaluation's rules. Conditions: none.
-/
import Derived.Test.YtnhgcpiljggmmaaGreatDoorFun
namespace Go.TQ

/-- a model by an encoding: where the arguments are the code of some x with pre x, the result is spec x -/
noncomputable def mkM {α : Type} (enc : α → List PV) (pre : α → Prop) (spec : α → PV) : Model :=
  { recv := false, pos := 0, fresh := false, m := fun _ args => open Classical in if h : ∃ x, args = enc x ∧ pre x then some (spec (Classical.choose h), []) else none, rk := .no, ro := false, rm := fun _ _ => none }
theorem mkM_fresh {α : Type} {enc : α → List PV} {pre : α → Prop} {spec : α → PV} : (mkM enc pre spec).fresh = false := rfl
theorem mkM_recv {α : Type} {enc : α → List PV} {pre : α → Prop} {spec : α → PV} : (mkM enc pre spec).recv = false := rfl

@[simp] theorem upd_apply {α : Type} (f : Nat → α) (i : Nat) (x : α) (j : Nat) : upd f i x j = if j = i then x else f j := rfl
@[simp] theorem tab_cons (g : FuncId) (m : Model) (l : List (FuncId × Model)) (f : FuncId) : tab ((g, m) :: l) f = if f = g then some m else tab l f := rfl
@[simp] theorem cut_env (S : St) (ts : List Nat) (n t : Nat) : (S.cut ts n).env t = if t ∈ ts then S.env t else .any := rfl
@[simp] theorem cut_H (S : St) (ts : List Nat) (n id : Nat) : (S.cut ts n).H id = if id < n then S.H id else ⟨0, .dead⟩ := rfl
@[simp] theorem cut_N (S : St) (ts : List Nat) (n : Nat) : (S.cut ts n).N = n := rfl
attribute [simp] ev runG stp SG.wanted exec St.app Opd.val St0 St0At insAt seqQ retQ retOk blockQ loopQ resPV resL res1 fz ldn fillPV fillEs PV.cells PV.one PV.closed splice binPV binInt binStr callPV PV.plains PV.plain PV.plain1 PV.closeds PV.closedr elems
  runD runF eff fpOf grd rdOf rids ids1 indepB mkM_recv mkM_fresh newQ PV.under1

section
variable (n : Nat)
@[simp] theorem under_any : PV.under n .any = true := rfl
@[simp] theorem under_undef : PV.under n .undef = true := rfl
@[simp] theorem under_int (k : IntKind) (i : Int) : PV.under n (.int k i) = true := rfl
@[simp] theorem under_bool (b : Bool) : PV.under n (.bool b) = true := rfl
@[simp] theorem under_ubool : PV.under n .ubool = true := rfl
@[simp] theorem under_str (s : ByteArray) : PV.under n (.str s) = true := rfl
@[simp] theorem under_nilp : PV.under n .nilp = true := rfl
@[simp] theorem under_nils : PV.under n .nils = true := rfl
@[simp] theorem under_ref (cs : List PV) : PV.under n (.ref cs) = true := rfl
@[simp] theorem under_sl (es : List (List PV)) : PV.under n (.sl es) = true := rfl
@[simp] theorem under_own (i v : Nat) : PV.under n (.own i v) = decide (i < n) := rfl
@[simp] theorem under_ptr (i v o : Nat) : PV.under n (.ptr i v o) = decide (i < n) := rfl
@[simp] theorem under_eptr (i v k j o : Nat) : PV.under n (.eptr i v k j o) = decide (i < n) := rfl
@[simp] theorem under_view (i v k j o : Nat) : PV.under n (.view i v k j o) = decide (i < n) := rfl
@[simp] theorem under_agg (cs : List PV) : PV.under n (.agg cs) = cs.all (PV.under1 n) := rfl
@[simp] theorem under_tup (cs : List PV) : PV.under n (.tup cs) = cs.all (PV.under1 n) := rfl
@[simp] theorem under_clo (f : FuncId) (cs : List PV) : PV.under n (.clo f cs) = cs.all (PV.under1 n) := rfl
@[simp] theorem under_dead : Cont.under n .dead = true := rfl
@[simp] theorem under_box (cs : List PV) : Cont.under n (.box cs) = cs.all (PV.under n) := rfl
@[simp] theorem under_row (e k : Nat) (es : List (List PV)) : Cont.under n (.row e k es) = es.all fun u => u.all (PV.under n) := rfl
end

def AllLt : Nat → (Nat → Prop) → Prop
  | 0, _ => True
  | n + 1, p => AllLt n p ∧ p n
theorem allLt_iff {p : Nat → Prop} : ∀ {n : Nat}, AllLt n p ↔ ∀ i, i < n → p i
  | 0 => by simp [AllLt]
  | n + 1 => by
    rw [AllLt, allLt_iff]
    refine ⟨fun h i hi => ?_, fun h => ⟨fun i hi => h i (by omega), h n (by omega)⟩⟩
    by_cases e : i = n
    · rw [e]; exact h.2
    · exact h.1 i (by omega)
theorem cutOk_iff {S : St} {ts : List Nat} {n : Nat} : CutOk S ts n ↔ n ≤ S.N ∧ (∀ t ∈ ts, (S.env t).under n = true) ∧ AllLt n fun id => (S.H id).c.under n = true :=
  ⟨fun h => ⟨h.N, h.env, allLt_iff.2 h.H⟩, fun h => ⟨h.1, h.2.1, allLt_iff.1 h.2.2⟩⟩
attribute [simp] cutOk_iff AllLt
theorem i64_in {n : Int} (h : -9223372036854775808 ≤ n) (h' : n ≤ 9223372036854775807) : IntKind.i64.wrap n = n := by
  rw [IntKind.wrap_i64]; omega
end Go.TQ
