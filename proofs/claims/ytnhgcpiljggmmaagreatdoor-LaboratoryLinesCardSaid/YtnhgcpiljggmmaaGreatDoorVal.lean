/-
  Values without memory: Go values read as plain data, the relation to the machine's memory, and that it stays true while memory grows. Conditions: none (generic in the program).
-/
import Derived.Maps.AppendAt
import Derived.Below
import Derived.Orders
import Derived.Tactics
import Derived.Deep.MidRow
namespace Go.TQ

inductive PV where
  | any
  | undef
  | int (k : IntKind) (n : Int)
  | bool (b : Bool)
  | ubool
  | str (s : ByteArray)
  | nilp
  | nils
  | clo (f : FuncId) (caps : List PV)
  | bnd (f : FuncId) (first : List PV)
  | agg (cs : List PV)
  | tup (cs : List PV)
  | ptr (id ver off : Nat)
  | ref (cs : List PV)
  | sl (es : List (List PV))
  | own (id ver : Nat)
  | eptr (id ver k i off : Nat)
  | view (id ver k lo n : Nat)
  | mapv (ks vs : List PV)
  | nili (b : Bool)
  | ifc (T : TypeId) (x : PV)

/-- a value without memory -/
def PV.plain : PV → Bool
  | .int .. | .bool _ | .ubool | .str _ | .nilp | .nils | .any | .undef | .nili _ | .ifc .. => true
  | _ => false

/-- where the objects lie: ids below N, their place, their version -/
structure Gh where
  N : Nat
  L : Nat → Value
  V : Nat → Nat

/-- no objects -/
def Gh0 : Gh := ⟨0, fun _ => .bool false, fun _ => 0⟩

def blk : Value → Option Nat
  | .pointer (some a) => some a.block
  | .slice (some a) _ _ => some a.block
  | _ => none

/-- a part of a row -/
def ViewAt (l : Value) (k lo n : Nat) (a : Option Addr) (c : Nat) : Prop :=
  ∃ a0 m c0, l = .slice a0 m c0 ∧ lo + n ≤ m ∧ m ≤ c0 ∧ c = c0 - lo ∧ ((n = 0 ∧ lo ≠ 0 ∧ (a = none → a0 = none)) ∨ a = a0.map (·.add (lo * k)))

inductive Rep (w : World) (M : Nat → Prop) : Gh → PV → Value → Prop where
  | any {G : Gh} (v : Value) : Rep w M G .any v
  | undef {G : Gh} : Rep w M G .undef Go.undef
  | int {G : Gh} (k : IntKind) (n : Int) : Rep w M G (.int k n) (.int k n)
  | bool {G : Gh} (b : Bool) : Rep w M G (.bool b) (.bool b)
  | ubool {G : Gh} (b : Bool) : Rep w M G .ubool (.bool b)
  | str {G : Gh} (s : ByteArray) : Rep w M G (.str s) (.string s)
  | nilp {G : Gh} : Rep w M G .nilp (.pointer none)
  | nils {G : Gh} : Rep w M G .nils (.slice none 0 0)
  | clo {G : Gh} (f : FuncId) (caps : List PV) (vs : List Value) (hl : vs.length = caps.length) (h : ∀ (i : Nat) (x : PV) (v : Value), caps[i]? = some x → vs[i]? = some v → Rep w M G x v) : Rep w M G (.clo f caps) (.func (.func f) #[] vs.toArray)
  | bnd {G : Gh} (f : FuncId) (cs : List PV) (vs : List Value) (hl : vs.length = cs.length) (h : ∀ (i : Nat) (x : PV) (v : Value), cs[i]? = some x → vs[i]? = some v → Rep w M G x v) : Rep w M G (.bnd f cs) (.func (.func f) vs.toArray #[])
  | agg {G : Gh} (cs : List PV) (vs : List Value) (hl : vs.length = cs.length) (h : ∀ (i : Nat) (x : PV) (v : Value), cs[i]? = some x → vs[i]? = some v → Rep w M G x v) : Rep w M G (.agg cs) (.agg vs.toArray)
  | tup {G : Gh} (cs : List PV) (vs : List Value) (hl : vs.length = cs.length) (h : ∀ (i : Nat) (x : PV) (v : Value), cs[i]? = some x → vs[i]? = some v → Rep w M G x v) : Rep w M G (.tup cs) (.tuple vs.toArray)
  | ptr {G : Gh} (id ver off : Nat) (a : Option Addr) (hN : id < G.N) (hV : ver ≤ G.V id) (h : ver = G.V id → a = (blk (G.L id)).map fun b => ⟨b, off, none⟩) : Rep w M G (.ptr id ver off) (.pointer a)
  | ref {G : Gh} (cs : List PV) (a : Addr) (vs : List Value) (hl : vs.length = cs.length) (hc : ∀ (i : Nat) (v : Value), vs[i]? = some v → w.cell? (a.add i) = some v ∧ ¬ M a.block)
      (h : ∀ (i : Nat) (x : PV) (v : Value), cs[i]? = some x → vs[i]? = some v → Rep w M Gh0 x v) : Rep w M G (.ref cs) (.pointer (some a))
  | sl {G : Gh} (es : List (List PV)) (a : Addr) (c k : Nat) (vs : List Value) (hk : ∀ e ∈ es, e.length = k) (hl : vs.length = es.flatten.length) (hc : ∀ (i : Nat) (v : Value), vs[i]? = some v → w.cell? (a.add i) = some v ∧ ¬ M a.block)
      (h : ∀ (i : Nat) (x : PV) (v : Value), es.flatten[i]? = some x → vs[i]? = some v → Rep w M Gh0 x v) (hn : es.length ≤ c) (hm : c ≤ maxLen) : Rep w M G (.sl es) (.slice (some a) es.length c)
  | slnil {G : Gh} : Rep w M G (.sl []) (.slice none 0 0)
  | own {G : Gh} (id ver : Nat) (a : Option Addr) (n c : Nat) (hN : id < G.N) (hV : ver ≤ G.V id) (h : ver = G.V id → .slice a n c = G.L id) : Rep w M G (.own id ver) (.slice a n c)
  | eptr {G : Gh} (id ver k i off : Nat) (a : Option Addr) (hN : id < G.N) (hV : ver ≤ G.V id) (h : ver = G.V id → a = (blk (G.L id)).map fun b => ⟨b, i * k + off, none⟩) : Rep w M G (.eptr id ver k i off) (.pointer a)
  | view {G : Gh} (id ver k lo n : Nat) (a : Option Addr) (c : Nat) (hN : id < G.N) (hV : ver ≤ G.V id) (h : ver = G.V id → ViewAt (G.L id) k lo n a c) : Rep w M G (.view id ver k lo n) (.slice a n c)
  | mapv {G : Gh} (ks vs : List PV) (b : Nat) (es : Array MapEntry) (ck : Nat) (hb : w.heap[b]? = some (.map es ck)) (hM : ¬ M b) (hk : es.size = ks.length) (hv : es.size = vs.length)
      (h1 : ∀ (i : Nat) (x : PV) (e : MapEntry), ks[i]? = some x → es[i]? = some e → Rep w M Gh0 x e.key) (h2 : ∀ (i : Nat) (x : PV) (e : MapEntry), vs[i]? = some x → es[i]? = some e → Rep w M Gh0 x e.val) : Rep w M G (.mapv ks vs) (.map (some b))
  | nilt {G : Gh} : Rep w M G (.nili true) .nilIface
  | nilf {G : Gh} (T : TypeId) (v : Value) : Rep w M G (.nili false) (.iface T v)
  | ifc {G : Gh} (T : TypeId) (x : PV) (v : Value) (hp : x.plain = true) (h : Rep w M Gh0 x v) : Rep w M G (.ifc T x) (.iface T v)

def RepL (w : World) (M : Nat → Prop) (G : Gh) (cs : List PV) (vs : List Value) : Prop :=
  vs.length = cs.length ∧ ∀ (i : Nat) (x : PV) (v : Value), cs[i]? = some x → vs[i]? = some v → Rep w M G x v

/-- ghosts grow -/
structure Gh.le (G G' : Gh) : Prop where
  N : G.N ≤ G'.N
  at_ : ∀ id, id < G.N → (G.V id = G'.V id ∧ G.L id = G'.L id) ∨ G.V id < G'.V id

theorem Gh.le.refl (G : Gh) : G.le G := ⟨Nat.le_refl _, fun _ _ => .inl ⟨rfl, rfl⟩⟩

/-- what is not mutable stays as it is -/
structure Stays (w w' : World) (M M' : Nat → Prop) : Prop where
  c : ∀ (a : Addr) (v : Value), w.cell? a = some v → ¬ M a.block → w'.cell? a = some v ∧ ¬ M' a.block
  m : ∀ (b : Nat) (es : Array MapEntry) (ck : Nat), w.heap[b]? = some (.map es ck) → ¬ M b → w'.heap[b]? = some (.map es ck) ∧ ¬ M' b
theorem Stays.of {w : World} {M M' : Nat → Prop} (h : ∀ b, ¬ M b → ¬ M' b) : Stays w w M M' := ⟨fun _ _ hp hm => ⟨hp, h _ hm⟩, fun _ _ _ hb hm => ⟨hb, h _ hm⟩⟩

theorem Rep.mono' {w w' : World} {M M' : Nat → Prop} {G : Gh} (hs : Stays w w' M M') {x : PV} {v : Value} (h : Rep w M G x v) : ∀ G', G.le G' → Rep w' M' G' x v := by
  induction h with
  | any v => exact fun _ _ => .any v
  | undef => exact fun _ _ => .undef
  | int k n => exact fun _ _ => .int k n
  | bool b => exact fun _ _ => .bool b
  | ubool b => exact fun _ _ => .ubool b
  | str s => exact fun _ _ => .str s
  | nilp => exact fun _ _ => .nilp
  | nils => exact fun _ _ => .nils
  | clo f caps vs hl _ ih => exact fun G' hg => .clo f caps vs hl fun i x v hx hv => ih i x v hx hv G' hg
  | bnd f cs vs hl _ ih => exact fun G' hg => .bnd f cs vs hl fun i x v hx hv => ih i x v hx hv G' hg
  | agg cs vs hl _ ih => exact fun G' hg => .agg cs vs hl fun i x v hx hv => ih i x v hx hv G' hg
  | tup cs vs hl _ ih => exact fun G' hg => .tup cs vs hl fun i x v hx hv => ih i x v hx hv G' hg
  | ptr id ver off a hN hV h =>
    intro G' hg
    refine .ptr id ver off a (Nat.lt_of_lt_of_le hN hg.N) ?_ ?_
    · rcases hg.at_ id hN with ⟨e, _⟩ | e <;> omega
    · intro e
      rcases hg.at_ id hN with ⟨e1, e2⟩ | e1
      · rw [← e2]; exact h (by omega)
      · omega
  | ref cs a vs hl hc _ ih =>
    intro G' _
    exact .ref cs a vs hl (fun i v hv => by
      obtain ⟨h1, h2⟩ := hc i v hv
      have hb : (a.add i).block = a.block := by unfold Addr.add; split <;> rfl
      have := hs.c _ _ h1 (by rw [hb]; exact h2)
      rw [hb] at this
      exact this) fun i x v hx hv => ih i x v hx hv Gh0 (Gh.le.refl _)
  | sl es a c k vs hk hl hc _ hn hm ih =>
    intro G' _
    exact .sl es a c k vs hk hl (fun i v hv => by
      obtain ⟨h1, h2⟩ := hc i v hv
      have hb : (a.add i).block = a.block := by unfold Addr.add; split <;> rfl
      have := hs.c _ _ h1 (by rw [hb]; exact h2)
      rw [hb] at this
      exact this) (fun i x v hx hv => ih i x v hx hv Gh0 (Gh.le.refl _)) hn hm
  | slnil => exact fun _ _ => .slnil
  | own id ver a n c hN hV h =>
    intro G' hg
    refine .own id ver a n c (Nat.lt_of_lt_of_le hN hg.N) ?_ ?_
    · rcases hg.at_ id hN with ⟨e, _⟩ | e <;> omega
    · intro e
      rcases hg.at_ id hN with ⟨e1, e2⟩ | e1
      · rw [← e2]; exact h (by omega)
      · omega
  | eptr id ver k i off a hN hV h =>
    intro G' hg
    refine .eptr id ver k i off a (Nat.lt_of_lt_of_le hN hg.N) ?_ ?_
    · rcases hg.at_ id hN with ⟨e, _⟩ | e <;> omega
    · intro e
      rcases hg.at_ id hN with ⟨e1, e2⟩ | e1
      · rw [← e2]; exact h (by omega)
      · omega
  | view id ver k lo n a c hN hV h =>
    intro G' hg
    refine .view id ver k lo n a c (Nat.lt_of_lt_of_le hN hg.N) ?_ ?_
    · rcases hg.at_ id hN with ⟨e, _⟩ | e <;> omega
    · intro e
      rcases hg.at_ id hN with ⟨e1, e2⟩ | e1
      · rw [← e2]; exact h (by omega)
      · omega
  | mapv ks vs b es ck hb hM hk hv _ _ ih1 ih2 =>
    intro G' _
    exact .mapv ks vs b es ck (hs.m _ _ _ hb hM).1 (hs.m _ _ _ hb hM).2 hk hv (fun i x e hx he => ih1 i x e hx he Gh0 (Gh.le.refl _)) fun i x e hx he => ih2 i x e hx he Gh0 (Gh.le.refl _)
  | nilt => exact fun _ _ => .nilt
  | nilf T v => exact fun _ _ => .nilf T v
  | ifc T x v hp _ ih => exact fun _ _ => .ifc T x v hp (ih Gh0 (Gh.le.refl _))

theorem Rep.mono {w w' : World} {M M' : Nat → Prop} {G G' : Gh} (hs : Stays w w' M M') (hg : G.le G') {x : PV} {v : Value} (h : Rep w M G x v) : Rep w' M' G' x v := h.mono' hs G' hg
theorem Gh0.le (G : Gh) : Gh0.le G := ⟨Nat.zero_le _, fun _ h => absurd h (Nat.not_lt_zero _)⟩

theorem RepL.mono {w w' : World} {M M' : Nat → Prop} {G G' : Gh} (hs : Stays w w' M M') (hg : G.le G') {cs : List PV} {vs : List Value} (h : RepL w M G cs vs) : RepL w' M' G' cs vs :=
  ⟨h.1, fun i x v hx hv => (h.2 i x v hx hv).mono hs hg⟩

section
variable {w : World} {M : Nat → Prop} {G : Gh}

theorem RepL.nil : RepL w M G [] [] := ⟨rfl, fun i x v h _ => by simp at h⟩
theorem RepL.cons {x : PV} {v : Value} {cs : List PV} {vs : List Value} (h : Rep w M G x v) (t : RepL w M G cs vs) : RepL w M G (x :: cs) (v :: vs) := by
  refine ⟨by simp [t.1], fun i y u hy hu => ?_⟩
  cases i with
  | zero => simp at hy hu; subst hy hu; exact h
  | succ i => simp at hy hu; exact t.2 i y u hy hu
theorem RepL.cons_inv {x : PV} {cs : List PV} {vs : List Value} (h : RepL w M G (x :: cs) vs) : ∃ v vs', vs = v :: vs' ∧ Rep w M G x v ∧ RepL w M G cs vs' := by
  obtain ⟨hl, h⟩ := h
  cases vs with
  | nil => simp at hl
  | cons v vs => exact ⟨v, vs, rfl, h 0 x v (by simp) (by simp), by simpa using hl, fun i y u hy hu => h (i + 1) y u (by simpa using hy) (by simpa using hu)⟩
theorem RepL.nil_inv {vs : List Value} (h : RepL w M G [] vs) : vs = [] := List.eq_nil_of_length_eq_zero h.1
theorem RepL.append {cs ds : List PV} {vs us : List Value} (h : RepL w M G cs vs) (k : RepL w M G ds us) : RepL w M G (cs ++ ds) (vs ++ us) := by
  refine ⟨by simp [h.1, k.1], fun i x v hx hv => ?_⟩
  by_cases hi : i < cs.length
  · rw [List.getElem?_append_left hi] at hx
    rw [List.getElem?_append_left (by rw [h.1]; exact hi)] at hv
    exact h.2 i x v hx hv
  · rw [List.getElem?_append_right (by omega)] at hx
    rw [List.getElem?_append_right (by rw [h.1]; omega), h.1] at hv
    exact k.2 _ x v hx hv
theorem RepL.take {cs : List PV} {vs : List Value} (h : RepL w M G cs vs) (n : Nat) : RepL w M G (cs.take n) (vs.take n) := by
  refine ⟨by simp [h.1], fun i x v hx hv => ?_⟩
  rw [List.getElem?_take] at hx hv
  split at hx
  · rename_i hi; rw [if_pos hi] at hv; exact h.2 i x v hx hv
  · cases hx
theorem RepL.drop {cs : List PV} {vs : List Value} (h : RepL w M G cs vs) (n : Nat) : RepL w M G (cs.drop n) (vs.drop n) := by
  refine ⟨by simp [h.1], fun i x v hx hv => ?_⟩
  rw [List.getElem?_drop] at hx hv
  exact h.2 _ x v hx hv
theorem RepL.get {cs : List PV} {vs : List Value} (h : RepL w M G cs vs) {i : Nat} {x : PV} (hx : cs[i]? = some x) : ∃ v, vs[i]? = some v ∧ Rep w M G x v := by
  have hi : i < vs.length := by rw [h.1]; exact (List.getElem?_eq_some_iff.1 hx).1
  exact ⟨vs[i], List.getElem?_eq_getElem hi, h.2 i x _ hx (List.getElem?_eq_getElem hi)⟩

/-- one cell holds it -/
def PV.one : PV → Bool
  | .int .. | .bool _ | .ubool | .str _ | .nilp | .nils | .clo .. | .bnd .. | .ptr .. | .eptr .. | .ref _ | .sl _ | .own .. | .view .. | .mapv .. | .nili _ | .ifc .. => true
  | _ => false
def PV.cells : PV → List PV
  | .agg cs => cs
  | x => [x]

theorem Rep.one {x : PV} {v : Value} (h : Rep w M G x v) (h1 : x.one = true) : v.oneCell' = true ∧ v.cells = #[v] := by
  cases h <;> simp [PV.one] at h1 <;> exact ⟨rfl, rfl⟩
theorem Rep.cells {x : PV} {v : Value} (h : Rep w M G x v) (h1 : ∀ y ∈ x.cells, y.one = true) : RepL w M G x.cells v.cells.toList ∧ ∀ u ∈ v.cells.toList, u.oneCell' = true := by
  have go : ∀ {cs : List PV} {vs : List Value}, RepL w M G cs vs → (∀ y ∈ cs, y.one = true) → ∀ u ∈ vs, u.oneCell' = true := by
    intro cs vs hr h1 u hu
    obtain ⟨i, hi, rfl⟩ := List.mem_iff_getElem.1 hu
    have hx : i < cs.length := by rw [← hr.1]; exact hi
    exact ((hr.2 i cs[i] vs[i] (List.getElem?_eq_getElem hx) (List.getElem?_eq_getElem hi)).one (h1 _ (List.getElem_mem hx))).1
  cases hx : x with
  | agg cs =>
    subst hx
    cases h with
    | agg _ vs hl h =>
      have hr : RepL w M G cs vs := ⟨hl, h⟩
      exact ⟨by simpa [PV.cells, Value.cells] using hr, by simpa [Value.cells] using go hr (by simpa [PV.cells] using h1)⟩
  | _ =>
    have hc : x.cells = [x] := by rw [hx]; rfl
    rw [← hx]
    rw [hc] at h1
    obtain ⟨h2, h3⟩ := h.one (h1 x (by simp))
    rw [hc, h3]
    exact ⟨.cons h .nil, by simpa using h2⟩
end
end Go.TQ
