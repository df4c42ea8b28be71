/-
  Typed data in place of cells: values, states, the operations' evaluation over them. Conditions: none (generic in the program).
-/
import Derived.Test.YtnhgcpiljggmmaaGreatDoorTy
namespace Go.TQ

/-- a universe of plain data types and their cells -/
structure TU where
  Ty : Type
  deq : DecidableEq Ty
  den : Ty → Type
  pv : (t : Ty) → den t → List PV
  size : Ty → Nat
  agg : Ty → Bool
  plain : Ty → Bool

inductive KV (U : TU) where
  | any
  | undef
  | int (k : IntKind) (n : Int)
  | bool (b : Bool)
  | ubool
  | str (s : ByteArray)
  | nilp
  | nils
  | clo (f : FuncId) (caps : List (KV U))
  | bnd (f : FuncId) (first : List (KV U))
  | agg (cs : List (KV U))
  | tup (cs : List (KV U))
  | ptr (id ver off : Nat)
  | ref (cs : List (KV U))
  | sl (T : U.Ty) (xs : List (U.den T))
  | own (id ver : Nat)
  | eptr (id ver k i off : Nat)
  | view (id ver k lo n : Nat)
  | mapv (A B : U.Ty) (xs : List (U.den A × U.den B))
  /-- nothing, or something, behind an interface -/
  | nili (b : Bool)
  | ifc (T : TypeId) (x : KV U)
  /-- an integer or a string behind an interface -/
  | dyn (Ti Ts : TypeId) (b : Bool) (n : Int) (s : ByteArray)

/-- a value as one cell, or as a struct's cells -/
def valPV {U : TU} (T : U.Ty) (v : U.den T) : PV :=
  match U.agg T with
  | true => .agg (U.pv T v)
  | false => (U.pv T v).headD .any
section
variable {U : TU}
mutual
def KV.pv : KV U → PV
  | .any => .any
  | .undef => .undef
  | .int k n => .int k n
  | .bool b => .bool b
  | .ubool => .ubool
  | .str s => .str s
  | .nilp => .nilp
  | .nils => .nils
  | .clo f cs => .clo f (KV.pvs cs)
  | .bnd f cs => .bnd f (KV.pvs cs)
  | .agg cs => .agg (KV.pvs cs)
  | .tup cs => .tup (KV.pvs cs)
  | .ptr id ver off => .ptr id ver off
  | .ref cs => .ref (KV.pvs cs)
  | .sl T xs => .sl (xs.map (U.pv T))
  | .own id ver => .own id ver
  | .eptr id ver k i off => .eptr id ver k i off
  | .view id ver k lo n => .view id ver k lo n
  | .mapv A B xs => .mapv (xs.map fun p => valPV A p.1) (xs.map fun p => valPV B p.2)
  | .nili b => .nili b
  | .ifc T x => .ifc T (KV.pv x)
  | .dyn Ti Ts b n s => .ifc (cond b Ts Ti) (cond b (.str s) (.int .i64 n))
def KV.pvs : List (KV U) → List PV
  | [] => []
  | x :: l => KV.pv x :: KV.pvs l
end
theorem KV.pvs_map : ∀ (l : List (KV U)), KV.pvs l = l.map KV.pv
  | [] => by simp [KV.pvs]
  | x :: l => by simp [KV.pvs, KV.pvs_map l]

inductive KCont (U : TU) where
  | dead
  | box (cs : List (KV U))
  | row (e k : Nat) (T : U.Ty) (xs : List (U.den T))
  | raw (e k : Nat) (es : List (List (KV U)))
structure KObj (U : TU) where
  ver : Nat
  c : KCont U
structure KSt (U : TU) where
  env : Nat → KV U
  H : Nat → KObj U
  N : Nat
def KCont.pv : KCont U → Cont
  | .dead => .dead
  | .box cs => .box (cs.map KV.pv)
  | .row e k T xs => .row e k (xs.map (U.pv T))
  | .raw e k es => .row e k (es.map fun c => c.map KV.pv)
def KObj.pv (o : KObj U) : AObj := ⟨o.ver, o.c.pv⟩
def KSt.st (S : KSt U) : St := ⟨fun t => (S.env t).pv, fun id => (S.H id).pv, S.N⟩

def updK {α : Type} (f : Nat → α) (i : Nat) (x : α) (j : Nat) : α :=
  match Nat.beq j i with
  | true => x
  | false => f j
theorem updK_upd {α : Type} (f : Nat → α) (i : Nat) (x : α) : updK f i x = upd f i x := by
  funext j
  unfold updK upd
  split
  · rename_i h; rw [if_pos (Nat.eq_of_beq_eq_true h)]
  · rename_i h; rw [if_neg (Nat.ne_of_beq_eq_false h)]
def KSt.app (S : KSt U) (d : Option Nat) (x : KV U) (wr : Option (Nat × KObj U)) : KSt U :=
  { env := match d with | some d => updK S.env d x | none => S.env
    H := match wr with | some (id, o) => updK S.H id o | none => S.H
    N := S.N }
def objpv (p : Nat × KObj U) : Nat × AObj := (p.1, p.2.pv)
theorem upd_map {α β : Type} (g : α → β) (f : Nat → α) (i : Nat) (x : α) : (fun j => g (upd f i x j)) = upd (fun j => g (f j)) i (g x) := by
  funext j
  unfold upd
  split <;> rfl
theorem st_app (S : KSt U) (d : Option Nat) (x : KV U) (wr : Option (Nat × KObj U)) : (S.app d x wr).st = S.st.app d x.pv (wr.map objpv) := by
  unfold KSt.app St.app KSt.st
  congr 1
  · cases d with
    | none => rfl
    | some d => simp only [updK_upd]; exact upd_map _ _ _ _
  · cases wr with
    | none => rfl
    | some p => obtain ⟨i, o⟩ := p; simp only [updK_upd, Option.map_some, objpv]; exact upd_map _ _ _ _

/-! ### cells of typed data -/
abbrev Lk (U : TU) := Nat → Nat → (T : U.Ty) → Option (List (U.den T))
def castL {U : TU} (T' T : U.Ty) (xs : List (U.den T')) : Option (List (U.den T)) :=
  match U.deq T' T with
  | isTrue h => some (h ▸ xs)
  | isFalse _ => none
theorem castL_some {T' T : U.Ty} {xs : List (U.den T')} {ys : List (U.den T)} (h : castL T' T xs = some ys) : ∃ e : T' = T, ys = e ▸ xs := by
  unfold castL at h
  split at h
  · rename_i e _; injection h with h; exact ⟨e, h.symm⟩
  · cases h
def KSt.lk (S : KSt U) : Lk U := fun id ver T =>
  match Nat.beq (S.H id).ver ver with
  | true => match (S.H id).c with
    | .row _ _ T' xs => castL T' T xs
    | _ => none
  | false => none
def noLk : Lk U := fun _ _ _ => none

def decI (k : IntKind) : KV U → Option Int
  | .int k' n => if k' = k then some n else none
  | _ => none
def decB : KV U → Option Bool
  | .bool b => some b
  | _ => none
def decS : KV U → Option ByteArray
  | .str s => some s
  | _ => none
def decL (lk : Lk U) (T : U.Ty) : KV U → Option (List (U.den T))
  | .nils => some []
  | .sl T' xs => castL T' T xs
  | .own id ver => lk id ver T
  | _ => none

def castM {U : TU} (A' B' A B : U.Ty) (xs : List (U.den A' × U.den B')) : Option (List (U.den A × U.den B)) :=
  match U.deq A' A with
  | isTrue h => (match U.deq B' B with
    | isTrue h' => some (h ▸ h' ▸ xs)
    | isFalse _ => none)
  | isFalse _ => none
theorem castM_some {A' B' A B : U.Ty} {xs : List (U.den A' × U.den B')} {ys : List (U.den A × U.den B)} (h : castM A' B' A B xs = some ys) : ∃ (e : A' = A) (e' : B' = B), ys = e ▸ e' ▸ xs := by
  unfold castM at h
  split at h
  · rename_i e _
    split at h
    · rename_i e' _; injection h with h; exact ⟨e, e', h.symm⟩
    · cases h
  · cases h
def decM (A B : U.Ty) : KV U → Option (List (U.den A × U.den B))
  | .mapv A' B' xs => castM A' B' A B xs
  | _ => none
inductive CellOk (lk : Lk U) : KV U → PV → Prop where
  | int (k : IntKind) (n : Int) : CellOk lk (.int k n) (.int k n)
  | bool (b : Bool) : CellOk lk (.bool b) (.bool b)
  | str (s : ByteArray) : CellOk lk (.str s) (.str s)
  | nils : CellOk lk .nils (.sl [])
  | sl (T : U.Ty) (xs : List (U.den T)) : CellOk lk (.sl T xs) (.sl (xs.map (U.pv T)))
  | own (id ver : Nat) (T : U.Ty) (xs : List (U.den T)) (h : lk id ver T = some xs) : CellOk lk (.own id ver) (.sl (xs.map (U.pv T)))
  | mapv (A B : U.Ty) (xs : List (U.den A × U.den B)) : CellOk lk (.mapv A B xs) (.mapv (xs.map fun p => valPV A p.1) (xs.map fun p => valPV B p.2))
  | nili (b : Bool) : CellOk lk (.nili b) (.nili b)
  | ifc (T : TypeId) (x : KV U) : CellOk lk (.ifc T x) (.ifc T x.pv)
  | dyn (Ti Ts : TypeId) (b : Bool) (n : Int) (s : ByteArray) : CellOk lk (.dyn Ti Ts b n s) (.ifc (cond b Ts Ti) (cond b (.str s) (.int .i64 n)))
theorem decM_ok {lk : Lk U} {A B : U.Ty} {x : KV U} {xs : List (U.den A × U.den B)} (h : decM A B x = some xs) : CellOk lk x (.mapv (xs.map fun p => valPV A p.1) (xs.map fun p => valPV B p.2)) := by
  unfold decM at h
  split at h
  · obtain ⟨e, e', rfl⟩ := castM_some h; subst e; subst e'; exact .mapv _ _ _
  · cases h
theorem decI_ok {lk : Lk U} {k : IntKind} {x : KV U} {n : Int} (h : decI k x = some n) : CellOk lk x (.int k n) := by
  unfold decI at h
  split at h
  · split at h
    · rename_i e; injection h with h; subst h e; exact .int _ _
    · cases h
  · cases h
theorem decB_ok {lk : Lk U} {x : KV U} {b : Bool} (h : decB x = some b) : CellOk lk x (.bool b) := by
  unfold decB at h
  split at h
  · injection h with h; subst h; exact .bool _
  · cases h
theorem decS_ok {lk : Lk U} {x : KV U} {s : ByteArray} (h : decS x = some s) : CellOk lk x (.str s) := by
  unfold decS at h
  split at h
  · injection h with h; subst h; exact .str _
  · cases h
theorem decL_ok {lk : Lk U} {T : U.Ty} {x : KV U} {xs : List (U.den T)} (h : decL lk T x = some xs) : CellOk lk x (.sl (xs.map (U.pv T))) := by
  unfold decL at h
  split at h
  · injection h with h; subst h; exact .nils
  · obtain ⟨e, rfl⟩ := castL_some h; subst e; exact .sl _ _
  · exact .own _ _ _ _ h
  · cases h

/-- the cells that typed data have -/
def PV.good : PV → Bool
  | .int .. | .bool _ | .str _ | .sl _ | .mapv .. | .nili _ | .ifc .. => true
  | _ => false
inductive CellsOk (lk : Lk U) : List (KV U) → List PV → Prop where
  | nil : CellsOk lk [] []
  | cons {x : KV U} {y : PV} {xs : List (KV U)} {ys : List PV} (h : CellOk lk x y) (t : CellsOk lk xs ys) : CellsOk lk (x :: xs) (y :: ys)

structure TK (U : TU) where
  enc : (t : U.Ty) → U.den t → List (KV U)
  dec : (t : U.Ty) → Lk U → List (KV U) → Option (U.den t)
  tyOf : Nat → Option U.Ty
  enc_pv : ∀ t v, (enc t v).map KV.pv = U.pv t v
  dec_ok : ∀ t lk cs v, dec t lk cs = some v → CellsOk lk cs (U.pv t v)
  len : ∀ t v, (U.pv t v).length = U.size t
  good : ∀ t v y, y ∈ U.pv t v → y.good = true
  one : ∀ t, U.agg t = false → U.size t = 1
  plain : ∀ t, U.plain t = true → ∀ v y, y ∈ U.pv t v → y.plain = true
  key2 : U.Ty → Option (IntKind × IntKind)
  key2_ok : ∀ t k l, key2 t = some (k, l) → U.agg t = true ∧ ∀ v, ∃ a b, enc t v = [.int k a, .int l b]

variable (K : TK U)
def valK (T : U.Ty) (v : U.den T) : KV U :=
  match U.agg T with
  | true => .agg (K.enc T v)
  | false => (K.enc T v).headD .any
def unval (lk : Lk U) (T : U.Ty) (x : KV U) : Option (U.den T) :=
  match U.agg T with
  | true => (match x with | .agg cs => K.dec T lk cs | _ => none)
  | false => K.dec T lk [x]
theorem valK_pv (T : U.Ty) (v : U.den T) : (valK K T v).pv = valPV T v := by
  unfold valK valPV
  split
  · simp only [KV.pv, KV.pvs_map, K.enc_pv]
  · rename_i h
    have h1 := K.len T v
    rw [K.one T h] at h1
    have h2 := K.enc_pv T v
    cases he : K.enc T v with
    | nil => rw [he] at h2; simp at h2; rw [h2] at h1; simp at h1
    | cons x l => rw [he] at h2; rw [← h2]; rfl

/-! ### operands -/
def PV.okc : PV → Bool
  | .int .. | .bool _ | .str _ | .nilp | .nils | .any | .nili _ | .clo _ [] => true
  | _ => false
def KV.ofc : PV → KV U
  | .int k n => .int k n
  | .bool b => .bool b
  | .str s => .str s
  | .nilp => .nilp
  | .nils => .nils
  | .nili b => .nili b
  | .clo f [] => .clo f []
  | _ => .any
def Opd.okc : Opd → Bool
  | .tmp _ => true
  | .cst x => x.okc
def Opd.kval (S : KSt U) : Opd → KV U
  | .tmp t => S.env t
  | .cst x => KV.ofc x
theorem kval_pv {S : KSt U} {x : Opd} (h : x.okc = true) : x.val S.st = (x.kval S).pv := by
  cases x with
  | tmp t => rfl
  | cst x =>
    simp only [Opd.okc] at h
    unfold PV.okc at h
    split at h <;> first | rfl | (cases h)

def KV.cells : KV U → List (KV U)
  | .agg cs => cs
  | x => [x]
def KV.one : KV U → Bool
  | .int .. | .bool _ | .ubool | .str _ | .nilp | .nils | .clo .. | .bnd .. | .ptr .. | .eptr .. | .ref _ | .sl .. | .own .. | .view .. | .mapv .. | .nili _ | .ifc .. | .dyn .. => true
  | _ => false
def KV.closed : KV U → Bool
  | .int .. | .bool _ | .str _ | .nilp | .nils | .sl .. | .ref _ | .mapv .. | .nili _ | .ifc .. | .dyn .. => true
  | .clo _ [] => true
  | _ => false
def KV.closeds : KV U → Bool
  | .agg cs | .tup cs | .clo _ cs => cs.all KV.closed
  | x => x.closed
theorem one_pv (x : KV U) : x.pv.one = x.one := by
  cases x with
  | _ => simp [KV.pv, PV.one, KV.one]
theorem closed_pv (x : KV U) : x.pv.closed = x.closed := by
  cases x with
  | clo f cs => cases cs <;> simp [KV.pv, KV.pvs, PV.closed, KV.closed]
  | _ => simp [KV.pv, PV.closed, KV.closed]
theorem cells_pv (x : KV U) : x.pv.cells = x.cells.map KV.pv := by
  cases x with
  | _ => simp [KV.pv, PV.cells, KV.cells, KV.pvs_map]
theorem all_closed_pv (l : List (KV U)) : (l.map KV.pv).all PV.closed = l.all KV.closed := by
  induction l with
  | nil => rfl
  | cons x l ih => simp only [List.map_cons, List.all_cons, closed_pv, ih]
theorem all_one_pv (l : List (KV U)) : (l.map KV.pv).all PV.one = l.all KV.one := by
  induction l with
  | nil => rfl
  | cons x l ih => simp only [List.map_cons, List.all_cons, one_pv, ih]
theorem closeds_pv (x : KV U) : x.pv.closeds = x.closeds := by
  cases x with
  | agg cs => simp only [KV.pv, PV.closeds, KV.closeds, KV.pvs_map]; exact all_closed_pv cs
  | tup cs => simp only [KV.pv, PV.closeds, KV.closeds, KV.pvs_map]; exact all_closed_pv cs
  | clo f cs => simp only [KV.pv, PV.closeds, KV.closeds, KV.pvs_map]; exact all_closed_pv cs
  | _ => simp [KV.pv, PV.closeds, KV.closeds, PV.closed, KV.closed]
end
end Go.TQ
