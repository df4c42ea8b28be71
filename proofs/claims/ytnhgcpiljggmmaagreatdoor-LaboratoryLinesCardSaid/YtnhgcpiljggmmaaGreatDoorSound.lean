/-
  The operations' evaluation is right: what 'exec' says is what the machine does. Conditions: none (generic in the program).
-/
import Derived.Test.YtnhgcpiljggmmaaGreatDoorOps
import Derived.WalkKit
namespace Go.TQ
open Go.RowKit

def Mc (recv : Bool) (rb : Nat) (X : Nat → Prop) (b : Nat) : Prop := (recv = true ∧ b = rb) ∨ X b
def Enters (P : Program) (f : FuncId) : Prop := ∃ fn, P.funcs[f]? = some fn ∧ fn.body.isSome = true ∧ (fn.name == "runtime.NumGoroutine") = false
def recvL (recv : Bool) (rb : Nat) : List Value := if recv then [.pointer (some ⟨rb, 0, none⟩)] else []
def ConPost (recv : Bool) (rb : Nat) (X : Nat → Prop) (w : World) (r : PV) (cs' : List PV) (e : Ending) (w' : World) : Prop :=
  ∃ (v : Value) (rvs' : List Value), e = .returned v ∧ Rep w' (Mc recv rb X) Gh0 r v ∧ (recv = true → (∃ T, w'.heap[rb]? = some (.cells rvs'.toArray T (0, 0))) ∧ RepL w' (Mc recv rb X) Gh0 cs' rvs') ∧
    Fr (if recv then some rb else none) w w'
def ConAt (P : Program) (f : FuncId) (pos : Nat) (recv : Bool) (cs args : List PV) (r : PV) (cs' : List PV) : Prop :=
  ∀ (w : World) (X : Nat → Prop) (_ : XOk w X) (rb : Nat) (T : TypeId) (rvs vs : List Value),
    (recv = true → w.heap[rb]? = some (.cells rvs.toArray T (0, 0)) ∧ RepL w (Mc recv rb X) Gh0 cs rvs ∧ ¬ gb rb) → RepL w (Mc recv rb X) Gh0 args vs →
    Calls P f (insAt pos (recvL recv rb) vs).toArray w (ConPost recv rb X w r cs')
abbrev Con (P : Program) (f : FuncId) := ConAt P f 0
theorem insAt_nil {α : Type} (p : Nat) (l : List α) : insAt p [] l = l := by simp [insAt]
/-- a function that hands back a new object -/
def ConN (P : Program) (f : FuncId) (args cs : List PV) : Prop :=
  ∀ (w : World) (X : Nat → Prop) (_ : XOk w X) (vs : List Value), RepL w X Gh0 args vs →
    Calls P f vs.toArray w fun e w' => ∃ (b : Nat) (rvs : List Value) (T : TypeId), e = .returned (.pointer (some ⟨b, 0, none⟩)) ∧ w.heap.size ≤ b ∧ w'.heap[b]? = some (.cells rvs.toArray T (0, 0)) ∧ RepL w' (fun q => X q ∨ q = b) Gh0 cs rvs ∧ Fr none w w'
/-- a row comes in -/
def RowIn (w : World) (M : Nat → Prop) (e k : Nat) (v : Value) (es : List (List PV)) : Prop :=
  ∃ (vs : List Value), w.ownsRow 0 e k v es.length vs ∧ (∀ x ∈ es, x.length = k) ∧ RepL w M Gh0 es.flatten vs
def Mv (v : Value) (X : Nat → Prop) (b : Nat) : Prop := blk v = some b ∨ X b
/-- a row is lent: it comes back, in its place, changed -/
def ConR (P : Program) (f : FuncId) (e k : Nat) (es : List (List PV)) (args : List PV) (r : PV) (es' : List (List PV)) : Prop :=
  ∀ (w : World) (X : Nat → Prop) (_ : XOk w X) (v : Value) (vs : List Value), (∀ b, blk v = some b → ¬ X b ∧ ¬ gb b) → RowIn w (Mv v X) e k v es → RepL w (Mv v X) Gh0 args vs →
    Calls P f (v :: vs).toArray w fun en w' => ∃ u, en = .returned u ∧ Rep w' (Mv v X) Gh0 r u ∧ RowIn w' (Mv v X) e k v es' ∧ Fr (blk v) w w'
/-- a row is handed over; one comes back -/
def ConC (P : Program) (f : FuncId) (e k : Nat) (es : List (List PV)) (args : List PV) (es' : List (List PV)) : Prop :=
  ∀ (w : World) (X : Nat → Prop) (_ : XOk w X) (v : Value) (vs : List Value), (∀ b, blk v = some b → ¬ X b ∧ ¬ gb b) → RowIn w (Mv v X) e k v es → RepL w (Mv v X) Gh0 args vs →
    Calls P f (v :: vs).toArray w fun en w' => ∃ u, en = .returned u ∧ RowIn w' (Mv u X) e k u es' ∧ (∀ b, blk u = some b → blk v = some b ∨ w.heap.size ≤ b) ∧ Fr (blk v) w w'
/-- a new row comes back -/
def ConF (P : Program) (f : FuncId) (args : List PV) (e k : Nat) (es' : List (List PV)) : Prop :=
  ∀ (w : World) (X : Nat → Prop) (_ : XOk w X) (vs : List Value), RepL w X Gh0 args vs →
    Calls P f vs.toArray w fun en w' => ∃ u, en = .returned u ∧ RowIn w' (Mv u X) e k u es' ∧ (∀ b, blk u = some b → w.heap.size ≤ b) ∧ Fr none w w'
/-- two objects are lent by their pointers -/
structure Fr2 (b c : Nat) (w0 w : World) : Prop where
  os : w.os = w0.os
  tape : w.tape = w0.tape
  output : w.output = w0.output
  size : w0.heap.size ≤ w.heap.size
  block : ∀ k, k < w0.heap.size → k ≠ b → k ≠ c → w.heap[k]? = w0.heap[k]?
  drawn : DL w0 w
def Con2 (P : Program) (f : FuncId) (cs ds cs' ds' : List PV) : Prop :=
  ∀ (w : World) (M : Nat → Prop) (b c : Nat) (T U : TypeId) (us vs : List Value), XOk w M → M b → M c → b ≠ c → w.heap[b]? = some (.cells us.toArray T (0, 0)) → w.heap[c]? = some (.cells vs.toArray U (0, 0)) → RepL w M Gh0 cs us → RepL w M Gh0 ds vs →
    Calls P f #[.pointer (some ⟨b, 0, none⟩), .pointer (some ⟨c, 0, none⟩)] w fun e w' => ∃ (us' vs' : List Value) (T' U' : TypeId), e = .returned (.tuple #[]) ∧ w'.heap[b]? = some (.cells us'.toArray T' (0, 0)) ∧
      w'.heap[c]? = some (.cells vs'.toArray U' (0, 0)) ∧ RepL w' M Gh0 cs' us' ∧ RepL w' M Gh0 ds' vs' ∧ Fr2 b c w w'
/-- what one function hands back, another one takes at once; a new row comes back -/
def ConP (P : Program) (f g : FuncId) (args : List PV) (e k : Nat) (es' : List (List PV)) : Prop :=
  ∀ (w : World) (X : Nat → Prop) (_ : XOk w X) (vs : List Value), RepL w X Gh0 args vs →
    Calls P f vs.toArray w fun en w1 => ∃ v, en = .returned v ∧ Calls P g #[v] w1 fun en w' => ∃ u, en = .returned u ∧ RowIn w' (Mv u X) e k u es' ∧ (∀ b, blk u = some b → w.heap.size ≤ b) ∧ Fr none w w'
def RowSound (P : Program) (f : FuncId) (m : Model) : Prop :=
  match m.rk with
  | .no => True
  | .bor e k => ∀ es args r es', m.rm es args = some (r, es') → ConR P f e k es args r es'
  | .con e k => ∀ es args r es', m.rm es args = some (r, es') → ConC P f e k es args es'
  | .fre e k => ∀ args r es', m.rm [] args = some (r, es') → ConF P f args e k es'
def SoundM (P : Program) (f : FuncId) (m : Model) : Prop :=
  Enters P f ∧ (m.fresh = false → ∀ cs args r cs', m.m cs args = some (r, cs') → ConAt P f m.pos m.recv cs args r cs') ∧ (m.fresh = true → ∀ args r cs, m.m [] args = some (r, cs) → ConN P f args cs) ∧ RowSound P f m ∧ (m.ro = true → ∀ cs args r cs', m.m cs args = some (r, cs') → cs' = cs)
def TabOk (P : Program) (Γ : Tab) : Prop := ∀ f m, Γ f = some m → SoundM P f m

section
variable {P : Program} {E : En} {S : St} {a : Act} {w : World} {L : Nat → Value}

theorem constPV_rep {M : Nat → Prop} {G : Gh} {v : Value} {x : PV} (h : constPV v = some x) : Rep w M G x v := by
  unfold constPV at h
  split at h <;> first | (injection h with h; subst h; first | exact .bool _ | exact .int _ _ | exact .str _ | exact .nilp | exact .nils | exact .nilt | exact .any _) | cases h

theorem Rel.opd (h : Rel E S a w L) {x : Operand} {y : Opd} (hc : copd x = some y) : Rep w (mutb E S L) (S.gh L) (y.val S) (a.eval x) := by
  cases x with
  | tmp t => simp only [copd, Option.some.injEq] at hc; subst hc; exact h.env t
  | const v =>
    simp only [copd, Option.map_eq_some_iff] at hc
    obtain ⟨p, hp, rfl⟩ := hc
    exact constPV_rep hp
  | global g => simp [copd] at hc
  | func f =>
    simp only [copd, Option.some.injEq] at hc
    subst hc
    exact .clo f [] [] rfl (fun i x v hx _ => by simp at hx)

theorem Rel.opds (h : Rel E S a w L) : ∀ {xs : List Operand} {ys : List Opd}, xs.mapM copd = some ys → RepL w (mutb E S L) (S.gh L) (ys.map (·.val S)) (xs.map a.eval)
  | [], ys, hc => by simp at hc; subst hc; exact .nil
  | x :: xs, ys, hc => by
    simp only [List.mapM_cons, Option.bind_eq_bind, Option.bind_eq_some_iff, Option.pure_def, Option.some.injEq] at hc
    obtain ⟨y, hy, zs, hzs, rfl⟩ := hc
    exact .cons (h.opd hy) (h.opds hzs)

section
variable {M : Nat → Prop} {G : Gh} {v : Value}
theorem Rep.bool_inv {b : Bool} (h : Rep w M G (.bool b) v) : v = .bool b := by cases h; rfl
theorem Rep.int_inv {k : IntKind} {n : Int} (h : Rep w M G (.int k n) v) : v = .int k n := by cases h; rfl
theorem Rep.str_inv {s : ByteArray} (h : Rep w M G (.str s) v) : v = .string s := by cases h; rfl
theorem Rep.nils_inv (h : Rep w M G .nils v) : v = .slice none 0 0 := by cases h; rfl
theorem Rep.nili_inv (h : Rep w M G (.nili true) v) : v = .nilIface := by cases h; rfl
theorem Rep.nilf_inv (h : Rep w M G (.nili false) v) : ∃ T u, v = .iface T u := by cases h; exact ⟨_, _, rfl⟩
theorem Rep.ifc_inv {T : TypeId} {x : PV} (h : Rep w M G (.ifc T x) v) : ∃ u, v = .iface T u ∧ x.plain = true ∧ Rep w M Gh0 x u := by cases h with | ifc _ _ u hp h => exact ⟨u, rfl, hp, h⟩
theorem Rep.plain {w' : World} {M M' : Nat → Prop} {G G' : Gh} {y : PV} {v : Value} (hc : y.plain = true) (h : Rep w M G y v) : Rep w' M' G' y v := by
  induction h generalizing G' with
  | ifc T x v hp _ ih => exact .ifc T x v hp (ih hp)
  | _ => first | (simp [PV.plain] at hc; done) | constructor
theorem Rep.undef_inv (h : Rep w M G .undef v) : v = Go.undef := by cases h; rfl
theorem Rep.tup_inv {cs : List PV} (h : Rep w M G (.tup cs) v) : ∃ vs : List Value, v = .tuple vs.toArray ∧ RepL w M G cs vs := by cases h with | tup _ vs hl h => exact ⟨vs, rfl, hl, h⟩
theorem Rep.agg_inv {cs : List PV} (h : Rep w M G (.agg cs) v) : ∃ vs : List Value, v = .agg vs.toArray ∧ RepL w M G cs vs := by cases h with | agg _ vs hl h => exact ⟨vs, rfl, hl, h⟩
theorem Rep.bnd_inv {f : FuncId} {cs : List PV} (h : Rep w M G (.bnd f cs) v) : ∃ vs : List Value, v = .func (.func f) vs.toArray #[] ∧ RepL w M G cs vs := by cases h with | bnd _ _ vs hl h => exact ⟨vs, rfl, hl, h⟩
theorem Rep.clo_inv {f : FuncId} {cs : List PV} (h : Rep w M G (.clo f cs) v) : ∃ vs : List Value, v = .func (.func f) #[] vs.toArray ∧ RepL w M G cs vs := by cases h with | clo _ _ vs hl h => exact ⟨vs, rfl, hl, h⟩
theorem Rep.ref_inv {cs : List PV} (h : Rep w M G (.ref cs) v) : ∃ (ad : Addr) (vs : List Value), v = .pointer (some ad) ∧ RepL w M Gh0 cs vs ∧ ∀ (i : Nat) (u : Value), vs[i]? = some u → w.cell? (ad.add i) = some u ∧ ¬ M ad.block := by
  cases h with | ref _ ad vs hl hc h => exact ⟨ad, vs, rfl, ⟨hl, h⟩, hc⟩
theorem Rep.ptr_inv {id ver off : Nat} (h : Rep w M G (.ptr id ver off) v) (hv : G.V id = ver) : id < G.N ∧ v = .pointer ((blk (G.L id)).map fun b => ⟨b, off, none⟩) := by
  cases h with | ptr _ _ _ ad hN hV h => exact ⟨hN, by rw [h hv.symm]⟩
theorem Rep.eptr_inv {id ver k i off : Nat} (h : Rep w M G (.eptr id ver k i off) v) (hv : G.V id = ver) : id < G.N ∧ v = .pointer ((blk (G.L id)).map fun b => ⟨b, i * k + off, none⟩) := by
  cases h with | eptr _ _ _ _ _ ad hN hV h => exact ⟨hN, by rw [h hv.symm]⟩
theorem Rep.view_inv {id ver k lo n : Nat} (h : Rep w M G (.view id ver k lo n) v) (hv : G.V id = ver) : id < G.N ∧ ∃ a c, v = .slice a n c ∧ ViewAt (G.L id) k lo n a c := by
  cases h with | view _ _ _ _ _ ad c hN hV h => exact ⟨hN, ad, c, rfl, h hv.symm⟩
theorem Rep.own_inv {id ver : Nat} (h : Rep w M G (.own id ver) v) (hv : G.V id = ver) : id < G.N ∧ v = G.L id := by
  cases h with | own _ _ ad n c hN hV h => exact ⟨hN, h hv.symm⟩
theorem Rep.sl_inv {es : List (List PV)} (h : Rep w M G (.sl es) v) : (v = .slice none 0 0 ∧ es = []) ∨ ∃ (ad : Addr) (c k : Nat) (vs : List Value), v = .slice (some ad) es.length c ∧ (∀ e ∈ es, e.length = k) ∧ RepL w M Gh0 es.flatten vs ∧
    (∀ (i : Nat) (u : Value), vs[i]? = some u → w.cell? (ad.add i) = some u ∧ ¬ M ad.block) ∧ es.length ≤ c ∧ c ≤ maxLen := by
  cases h with
  | sl _ ad c k vs hk hl hc h hn hm => exact .inr ⟨ad, c, k, vs, rfl, hk, ⟨hl, h⟩, hc, hn, hm⟩
  | slnil => exact .inl ⟨rfl, rfl⟩
end

def St.appH (S : St) (wr : Option (Nat × AObj)) : St := { S with H := match wr with | some (id, o) => upd S.H id o | none => S.H }

/-- the operation runs to its end, and what comes out is x -/
def Good (P : Program) (E : En) (S : St) (a : Act) (w : World) (o : Oper) (x : PV) (wr : Option (Nat × AObj)) : Prop :=
  ∃ nx w' L' v, (execOp a.eval o).run P w = .ok nx w' ∧ (nx = .value v ∨ (nx = .skip ∧ v = undef)) ∧ Rep w' (mutb E (S.appH wr) L') ((S.appH wr).gh L') x v ∧ Rel E (S.appH wr) a w' L'

theorem Good.pure {o : Oper} {x : PV} {v : Value} (h : Rel E S a w L) (hr : (execOp a.eval o).run P w = .ok (.value v) w) (hx : Rep w (mutb E S L) (S.gh L) x v) : Good P E S a w o x none :=
  ⟨_, w, L, v, hr, .inl rfl, hx, h⟩

theorem Rel.putd (h : Rel E S a w L) {d : Option Nat} {x : PV} {v : Value} (hd : ∀ t, d = some t → E.can t) (hx : Rep w (mutb E S L) (S.gh L) x v) : Rel E (S.app d x none) (a.put d v) w L := by
  cases d with
  | none => exact h
  | some t => exact h.put (hd t rfl) hx

/-- no deferred call is made -/
def NoDefer (o : Oper) : Prop := ∀ c, o.op ≠ .defer c
theorem Good.wp {o : Oper} {x : PV} {wr : Option (Nat × AObj)} (h : Good P E S a w o x wr) (hnd : NoDefer o) (hd : ∀ t, o.dst = some t → E.can t) {K : Act → World → Prop} {Q : Exit → Act → World → Prop}
    (hK : ∀ a' w' L', Rel E (S.app o.dst x wr) a' w' L' → K a' w') : o.wpIn (WF E.rd) 0 P a w K Q := by
  obtain ⟨nx, w', L', v, hr, hn, hx, h'⟩ := h
  have := hK _ _ _ (show Rel E (S.app o.dst x wr) (a.put o.dst v) w' L' from h'.putd hd hx)
  unfold Oper.wpIn
  rw [Oper.semAt_eq _ _ _ hnd, hr]
  rcases hn with rfl | ⟨rfl, rfl⟩ <;> exact ⟨fun _ _ => trivial, this⟩

/-! ### reading -/
theorem loadVar_one {t : TypeId} {ad : Addr} {v : Value} (ht : aggN P t = some none) (h : w.cell? ad = some v) : (loadVar t ad).run P w = .ok v w := by
  unfold aggN at ht
  split at ht
  · simp at ht
  · simp at ht
  · rename_i d _ hu hd
    have : (isAgg t).run P w = .ok false w := by
      unfold isAgg
      rw [Sem.run_bind, run_underlying hd w]
      cases d <;> simp_all
    simp only [loadVar, Sem.run_bind, this, Result.andThen_ok]
    simp [load, Sem.run, h]
  · cases ht
theorem loadVar_agg {t : TypeId} {ad : Addr} {n : Nat} {vs : List Value} (ht : aggN P t = some (some n)) (hl : vs.length = n) (h : ∀ (i : Nat) (v : Value), vs[i]? = some v → w.cell? (ad.add i) = some v) :
    (loadVar t ad).run P w = .ok (.agg vs.toArray) w := by
  have hi : ∃ i, P.info? t = some i ∧ i.size = n := by
    unfold aggN at ht
    split at ht
    · simpa using ht
    · simpa using ht
    · simp at ht
    · cases ht
  obtain ⟨i, hi, hs⟩ := hi
  have : (isAgg t).run P w = .ok true w := by
    unfold aggN at ht
    unfold isAgg
    split at ht
    · rename_i hu; rw [Sem.run_bind, run_underlying hu w]; simp
    · rename_i hu; rw [Sem.run_bind, run_underlying hu w]; simp
    · simp at ht
    · cases ht
  have hl2 := run_loadCells_list (P := P) w ad vs h
  rw [hl] at hl2
  simp only [loadVar, Sem.run_bind, this, Result.andThen_ok, sizeOf, typeInfo]
  simp [program, Sem.run, hi, hs, hl2]

theorem load_of {M : Nat → Prop} {G : Gh} {t : TypeId} {n : Option Nat} {ad : Addr} {cs : List PV} {vs : List Value} {x : PV} (ht : aggN P t = some n) (hr : RepL w M G cs vs)
    (hc : ∀ (i : Nat) (v : Value), vs[i]? = some v → w.cell? (ad.add i) = some v) (hx : ldn n cs = some x) : ∃ v, (loadVar t ad).run P w = .ok v w ∧ Rep w M G x v := by
  cases n with
  | none =>
    cases cs with
    | nil => simp [ldn] at hx
    | cons y ys =>
      simp only [ldn, Option.some.injEq] at hx
      subst hx
      obtain ⟨v, us, rfl, h1, _⟩ := hr.cons_inv
      exact ⟨v, loadVar_one ht (by simpa [Addr.add] using hc 0 v (by simp)), h1⟩
  | some n =>
    simp only [ldn] at hx
    split at hx
    · injection hx with hx
      subst hx
      rename_i hn
      refine ⟨.agg (vs.take n).toArray, loadVar_agg ht (by simp [hr.1]; omega) (fun i v hv => ?_), ?_⟩
      · rw [List.getElem?_take] at hv
        split at hv
        · exact hc i v hv
        · cases hv
      · have := hr.take n
        exact .agg _ _ this.1 this.2
    · cases hx

/-- what a live object's cells are -/
theorem Rel.box_at (h : Rel E S a w L) {id : Nat} {cs : List PV} (hid : id < S.N) (hc : (S.H id).c = .box cs) :
    ∃ (b : Nat) (cur : Array Value) (T : TypeId), L id = .pointer (some ⟨b, 0, none⟩) ∧ w.heap[b]? = some (.cells cur T (0, 0)) ∧ RepL w (mutb E S L) (S.gh L) cs cur.toList ∧ (E.rb = some b ∨ E.w0.heap.size ≤ b) := by
  have := h.obj id hid
  rw [hc] at this
  obtain ⟨b, cur, T, h1, h2, h3, h4⟩ := this
  exact ⟨b, cur, T, h1, h2, h4, h3⟩
theorem cell_block {b : Nat} {cur : Array Value} {T : TypeId} (h : w.heap[b]? = some (.cells cur T (0, 0))) {i : Nat} {v : Value} (hv : cur.toList[i]? = some v) : w.cell? ⟨b, i, none⟩ = some v := by
  simp [World.cell?, h]
  simpa using hv
theorem Rel.row_at (h : Rel E S a w L) {id : Nat} {e k : Nat} {es : List (List PV)} (hid : id < S.N) (hc : (S.H id).c = .row e k es) :
    ∃ (vs : List Value), w.ownsRow (rowBase E (L id)) e k (L id) es.length vs ∧ (∀ x ∈ es, x.length = k) ∧ RepL w (mutb E S L) (S.gh L) es.flatten vs := by
  have := h.obj id hid
  rw [hc] at this
  exact this

/-- the i-th element among all cells -/
theorem flatten_at {α : Type} : ∀ (es : List (List α)) (k i : Nat) (e : List α), (∀ x ∈ es, x.length = k) → es[i]? = some e → ∀ j, j < k → es.flatten[i * k + j]? = e[j]?
  | [], _, _, _, _, h, _, _ => by simp at h
  | x :: xs, k, i, e, hk, h, j, hj => by
    have hx : x.length = k := hk x (by simp)
    cases i with
    | zero =>
      simp at h
      subst h
      simp only [List.flatten_cons, Nat.zero_mul, Nat.zero_add]
      rw [List.getElem?_append_left (by omega)]
    | succ i =>
      simp only [List.getElem?_cons_succ] at h
      have := flatten_at xs k i e (fun y hy => hk y (by simp [hy])) h j hj
      simp only [List.flatten_cons]
      have e1 : (i + 1) * k = i * k + k := by rw [Nat.add_mul]; omega
      rw [List.getElem?_append_right (by omega), ← this]
      congr 1
      omega
theorem flatten_len {α : Type} (es : List (List α)) (k : Nat) (hk : ∀ x ∈ es, x.length = k) : es.flatten.length = es.length * k := by
  induction es with
  | nil => simp
  | cons x xs ih =>
    have hx : x.length = k := hk x (by simp)
    have := ih (fun y hy => hk y (by simp [hy]))
    simp only [List.flatten_cons, List.length_append, List.length_cons, hx, this, Nat.add_mul]
    omega
end
end Go.TQ
