/-
  Abstract states and how they stand to the machine's: temporaries, objects, a frame. Conditions: none (generic in the program).
-/
import Derived.Test.YtnhgcpiljggmmaaGreatDoorVal
import Derived.RangeFuncLeaves

namespace Go.TQ
open Go.RowKit

inductive Cont where
  | dead
  | box (cs : List PV)
  | row (e : TypeId) (k : Nat) (es : List (List PV))
structure AObj where
  ver : Nat
  c : Cont
def Cont.live : Cont → Bool
  | .dead => false
  | _ => true

structure St where
  env : Nat → PV
  H : Nat → AObj
  N : Nat

def upd {α : Type} (f : Nat → α) (i : Nat) (x : α) : Nat → α := fun j => if j = i then x else f j
theorem upd_same {α : Type} (f : Nat → α) (i : Nat) (x : α) : upd f i x i = x := by simp [upd]
theorem upd_ne {α : Type} (f : Nat → α) {i j : Nat} (x : α) (h : j ≠ i) : upd f i x j = f j := by simp [upd, h]

/-- all that is no cells lies as it lay -/
def isC : Obj → Bool
  | .cells .. => true
  | _ => false
def isCM : Obj → Bool
  | .cells .. | .map .. => true
  | _ => false
theorem isCM_of {o : Obj} (h : isC o = true) : isCM o = true := by cases o <;> first | rfl | cases h
structure Oth (w w' : World) : Prop where
  size : w.heap.size ≤ w'.heap.size
  same : ∀ (k : Nat) (o : Obj), w.heap[k]? = some o → isC o = false → w'.heap[k]? = some o
theorem Oth.refl (w : World) : Oth w w := ⟨Nat.le_refl _, fun _ _ h _ => h⟩
theorem Oth.trans {a b c : World} (h : Oth a b) (k : Oth b c) : Oth a c := ⟨Nat.le_trans h.size k.size, fun i o hi ho => k.same i o (h.same i o hi ho) ho⟩
/-- any function, in a round or not -/
def WF (rd : Option Nat) : Fence := { Fence.wide with round := rd }
theorem callsIn_wf {rd : Option Nat} {n : Nat} {P : Program} {f : FuncId} {args : Array Value} {w : World} {R : Ending → World → Prop} : CallsIn (WF rd) n P f args w R ↔ Calls P f args w R :=
  (show CallsIn (WF rd) n P f args w R ↔ CallsIn Fence.wide n P f args w R from Iff.rfl).trans callsIn_wide

/-- package-level variables that are read: where they lie, what lies there -/
def globs : List (Nat × (Obj → Prop)) := [(0, fun o => ∃ v T fr, o = .cells #[v] T fr ∧ ∃ m : Int, v = .int .i64 m), (1, fun o => ∃ v T fr, o = .cells #[v] T fr ∧ ∃ tp p, v = .iface tp p), (2, fun o => ∃ v T fr, o = .cells #[v] T fr ∧ ∃ tp p, v = .iface tp p), (5, fun o => ∃ T fr, o = .cells (((List.range 20).map fun i => Value.int .u64 ((10 ^ i : Nat) : Int)).toArray) T fr)]
def gb (b : Nat) : Prop := ∃ q ∈ globs, q.1 = b
def GI (w : World) : Prop := ∀ q ∈ globs, ∃ o, w.heap[q.1]? = some o ∧ q.2 o
/-- what a call may not touch, and what it may rely on -/
structure XOk (w : World) (X : Nat → Prop) : Prop where
  lt : ∀ b, X b → b < w.heap.size
  ng : ∀ b, X b → ¬ gb b
  gi : GI w
theorem GI.lt {w : World} (h : GI w) {b : Nat} (hb : gb b) : b < w.heap.size := by
  obtain ⟨q, hq, rfl⟩ := hb
  obtain ⟨o, ho, _⟩ := h q hq
  exact (Array.getElem?_eq_some_iff.1 ho).1
theorem GI.keep {w w' : World} (h : GI w) (hb : ∀ b, gb b → w'.heap[b]? = w.heap[b]?) : GI w' := fun q hq => by
  obtain ⟨o, ho, hp⟩ := h q hq
  exact ⟨o, (hb _ ⟨q, hq, rfl⟩).trans ho, hp⟩
theorem XOk.nil {w : World} (h : GI w) : XOk w fun _ => False := ⟨fun _ hb => hb.elim, fun _ hb => hb.elim, h⟩

/-- the entry: the world at the call, the receiver's block, the number of temporaries -/
structure En where
  w0 : World
  rb : Option Nat
  nt : Nat
  /-- the round that it is in -/
  rd : Option Nat
  /-- is nothing deferred? -/
  nd : Bool
  /-- temporaries that keep their values -/
  kt : Nat → Option Value
  /-- a world whose other objects stay -/
  wk : World
  X : Nat → Prop
  hX : XOk w0 X
  /-- is there a receiver, or a row that is handed over? what is its value? is it a row? -/
  hasR : Bool
  rv : Value
  rk : Bool
  hrb : ∀ b, rb = some b → b < w0.heap.size ∧ ¬ gb b
  hxr : rk = true → ∀ b, rb = some b → ¬ X b
/-- from where on a row's block lies -/
def rowBase (E : En) (v : Value) : Nat := if E.rk = true ∧ E.rb ≠ none ∧ blk v = E.rb then 0 else E.w0.heap.size
theorem rowBase_congr {E : En} {v v' : Value} (h : blk v = blk v') : rowBase E v = rowBase E v' := by simp [rowBase, h]
theorem rowBase_le (E : En) (v : Value) : rowBase E v ≤ E.w0.heap.size := by unfold rowBase; split <;> omega
theorem rowBase_new {E : En} {v : Value} {g : Nat} (h : blk v = some g) (hg : E.w0.heap.size ≤ g) : rowBase E v = E.w0.heap.size := by
  unfold rowBase
  rw [if_neg]
  rintro ⟨_, _, h1⟩
  rw [h] at h1
  have := (E.hrb g h1.symm).1
  omega
theorem rowBase_at {E : En} {v : Value} {g : Nat} (h : blk v = some g) (hb : rowBase E v ≤ g) : (E.rk = true ∧ E.rb = some g) ∨ E.w0.heap.size ≤ g := by
  unfold rowBase at hb
  split at hb
  · rename_i hc; exact .inl ⟨hc.1, by rw [← hc.2.2, h]⟩
  · exact .inr hb

/-- are draws counted? -/
def drw : Bool := false
def DL (w w' : World) : Prop := drw = true → w.drawn ≤ w'.drawn
theorem DL.refl (w : World) : DL w w := fun _ => Nat.le_refl _
theorem DL.of {w w' : World} (h : w.drawn ≤ w'.drawn) : DL w w' := fun _ => h
theorem DL.trans {a b c : World} (h : DL a b) (k : DL b c) : DL a c := fun e => Nat.le_trans (h e) (k e)
structure Fr (rb : Option Nat) (w0 w : World) : Prop where
  os : w.os = w0.os
  tape : w.tape = w0.tape
  output : w.output = w0.output
  size : w0.heap.size ≤ w.heap.size
  block : ∀ b, b < w0.heap.size → rb ≠ some b → w.heap[b]? = w0.heap[b]?
  drawn : DL w0 w

theorem Fr.refl (rb : Option Nat) (w : World) : Fr rb w w := ⟨rfl, rfl, rfl, Nat.le_refl _, fun _ _ _ => rfl, DL.refl _⟩

def mutb (E : En) (S : St) (L : Nat → Value) (b : Nat) : Prop := (∃ id, id < S.N ∧ (S.H id).c.live = true ∧ blk (L id) = some b) ∨ E.X b
def St.gh (S : St) (L : Nat → Value) : Gh := ⟨S.N, L, fun id => (S.H id).ver⟩

def ObjOk (E : En) (w : World) (M : Nat → Prop) (G : Gh) (v : Value) : Cont → Prop
  | .dead => True
  | .box cs => ∃ (b : Nat) (cur : Array Value) (T : TypeId), v = .pointer (some ⟨b, 0, none⟩) ∧ w.heap[b]? = some (.cells cur T (0, 0)) ∧ (E.rb = some b ∨ E.w0.heap.size ≤ b) ∧ RepL w M G cs cur.toList
  | .row e k es => ∃ (vs : List Value), w.ownsRow (rowBase E v) e k v es.length vs ∧ (∀ x ∈ es, x.length = k) ∧ RepL w M G es.flatten vs

/-- may a temporary be set? -/
def En.can (E : En) (d : Nat) : Prop := d < E.nt ∧ E.kt d = none
/-- the marks of loops over functions that have ended -/
structure Marks (E : En) (a : Act) (w : World) : Prop where
  none : E.nd = true → a.defers = []
  nodup : a.defers.Nodup
  at_ : ∀ d ∈ a.defers, ∃ D, d = { target := .collected D, args := #[] } ∧ E.w0.heap.size ≤ D ∧ w.heap[D]? = some (.deferred (some []))
theorem Marks.nil {E : En} {a : Act} {w : World} (h : a.defers = []) : Marks E a w := ⟨fun _ => h, by rw [h]; exact List.nodup_nil, fun d hd => by rw [h] at hd; cases hd⟩
structure FrE (E : En) (w : World) : Prop extends Fr E.rb E.w0 w where
  ko : Oth E.wk w

structure Rel (E : En) (S : St) (a : Act) (w : World) (L : Nat → Value) : Prop where
  defers : Marks E a w
  size : a.tmps.size = E.nt ∧ ∀ t v, E.kt t = some v → a.tmps.getD t undef = v
  env : ∀ t, Rep w (mutb E S L) (S.gh L) (S.env t) (a.tmps.getD t undef)
  obj : ∀ id, id < S.N → ObjOk E w (mutb E S L) (S.gh L) (L id) (S.H id).c
  apart : ∀ i j b, i < S.N → j < S.N → (S.H i).c.live = true → (S.H j).c.live = true → blk (L i) = some b → blk (L j) = some b → i = j
  fresh : ∀ id, S.N ≤ id → S.H id = ⟨0, .dead⟩
  fr : FrE E w
  rcv : E.hasR = true → (S.H 0).c.live = true → (S.H 0).ver = 0 → L 0 = E.rv

theorem block_add (a : Addr) (i : Nat) : (a.add i).block = a.block := by unfold Addr.add; split <;> rfl
theorem cell_lt {w : World} {a : Addr} {v : Value} (h : w.cell? a = some v) : a.block < w.heap.size := World.block_lt_of_cell? w a h

theorem ObjOk.mono {E : En} {w w' : World} {M M' : Nat → Prop} {G G' : Gh} {v : Value} {c : Cont} (hs : Stays w w' M M') (hg : G.le G')
    (hb : ∀ b, blk v = some b → b < w.heap.size → w'.heap[b]? = w.heap[b]?) (h : ObjOk E w M G v c) : ObjOk E w' M' G' v c := by
  cases c with
  | dead => trivial
  | box cs =>
    obtain ⟨b, cur, T, rfl, hh, hE, hr⟩ := h
    exact ⟨b, cur, T, rfl, (hb b rfl (Array.getElem?_eq_some_iff.1 hh).1).trans hh, hE, hr.mono hs hg⟩
  | row e k cs =>
    obtain ⟨vs, ho, hk, hr⟩ := h
    refine ⟨vs, ⟨ho.1, ?_⟩, hk, hr.mono hs hg⟩
    rcases ho.2 with hn | ⟨g, cap, cur, rfl, hb1, hh, rest⟩
    · exact .inl hn
    · exact .inr ⟨g, cap, cur, rfl, hb1, (hb g rfl (Array.getElem?_eq_some_iff.1 hh).1).trans hh, rest⟩

theorem ObjOk.blk_ok {E : En} {w : World} {M : Nat → Prop} {G : Gh} {v : Value} {c : Cont} (h : ObjOk E w M G v c) (hl : c.live = true) {b : Nat} (hb : blk v = some b) :
    b < w.heap.size ∧ (E.rb = some b ∨ E.w0.heap.size ≤ b) := by
  cases c with
  | dead => cases hl
  | box cs =>
    obtain ⟨b', cur, T, rfl, hh, hE, _⟩ := h
    simp only [blk, Option.some.injEq] at hb
    subst hb
    exact ⟨(Array.getElem?_eq_some_iff.1 hh).1, hE⟩
  | row e k cs =>
    obtain ⟨vs, ho, _⟩ := h
    rcases ho.2 with ⟨rfl, _⟩ | ⟨g, cap, cur, rfl, hb1, hh, rest⟩
    · simp [blk] at hb
    · simp only [blk, Option.some.injEq] at hb
      subst hb
      exact ⟨(Array.getElem?_eq_some_iff.1 hh).1, (rowBase_at rfl hb1).imp (·.2) id⟩

section
variable {E : En} {S : St} {a : Act} {w : World} {L : Nat → Value}

theorem Marks.oth {w' : World} (h : Marks E a w) (ho : Oth w w') : Marks E a w' := ⟨h.none, h.nodup, fun d hd => by
  obtain ⟨D, h1, h2, h3⟩ := h.at_ d hd
  exact ⟨D, h1, h2, ho.same D _ h3 rfl⟩⟩
/-- a live object's block holds cells -/
theorem ObjOk.cells {M : Nat → Prop} {G : Gh} {v : Value} {c : Cont} (h : ObjOk E w M G v c) (hl : c.live = true) {b : Nat} (hb : blk v = some b) : ∃ o, w.heap[b]? = some o ∧ isC o = true := by
  cases c with
  | dead => cases hl
  | box cs =>
    obtain ⟨b', cur, T, rfl, hh, hE, _⟩ := h
    simp only [blk, Option.some.injEq] at hb
    subst hb
    exact ⟨_, hh, rfl⟩
  | row e k cs =>
    obtain ⟨vs, ho, _⟩ := h
    rcases ho.2 with ⟨rfl, _⟩ | ⟨g, cap, cur, rfl, hb1, hh, rest⟩
    · simp [blk] at hb
    · simp only [blk, Option.some.injEq] at hb
      subst hb
      exact ⟨_, hh, rfl⟩
theorem put_getD {a : Act} {d t : Nat} {v : Value} (h : t ≠ d) : (a.put (some d) v).tmps.getD t undef = a.tmps.getD t undef := by
  simp only [Act.put, Array.getD_eq_getD_getElem?]
  rw [Array.getElem?_setIfInBounds_ne (fun e => h e.symm)]

/-- a temporary is written -/
theorem Rel.put (h : Rel E S a w L) {d : Nat} {x : PV} {v : Value} (hd : E.can d) (hx : Rep w (mutb E S L) (S.gh L) x v) :
    Rel E { S with env := upd S.env d x } (a.put (some d) v) w L := by
  refine ⟨⟨h.defers.none, h.defers.nodup, h.defers.at_⟩, ⟨by simp [Act.put, h.size.1], fun t u hu => ?_⟩, fun t => ?_, h.obj, h.apart, h.fresh, h.fr, h.rcv⟩
  · rw [put_getD (fun e => by subst e; rw [hd.2] at hu; cases hu)]
    exact h.size.2 t u hu
  show Rep w (mutb E S L) (S.gh L) (upd S.env d x t) _
  by_cases ht : t = d
  · subst ht
    have : (a.put (some t) v).tmps.getD t undef = v := by simp [Act.put, Array.getD_eq_getD_getElem?, Array.getElem?_setIfInBounds_self_of_lt (show t < a.tmps.size by rw [h.size.1]; exact hd.1)]
    rw [this, upd_same]
    exact hx
  · have : (a.put (some d) v).tmps.getD t undef = a.tmps.getD t undef := by
      simp only [Act.put, Array.getD_eq_getD_getElem?]
      rw [Array.getElem?_setIfInBounds_ne (fun e => ht e.symm)]
    rw [this, upd_ne _ _ ht]
    exact h.env t

/-- memory only grows: every block that was there is as it was -/
theorem Rel.grow (h : Rel E S a w L) {w' : World} (hos : w'.os = w.os) (htape : w'.tape = w.tape) (hout : w'.output = w.output) (hsz : w.heap.size ≤ w'.heap.size)
    (hb : ∀ b, b < w.heap.size → w'.heap[b]? = w.heap[b]?) (hdr : DL w w' := by first | exact DL.refl _ | exact DL.of (Nat.le_refl _) | exact DL.of (by first | (simp; done) | omega)) : Rel E S a w' L ∧ Stays w w' (mutb E S L) (mutb E S L) := by
  have hs : Stays w w' (mutb E S L) (mutb E S L) := ⟨fun p v hp hm => ⟨(World.cell?_of_block (hb _ (cell_lt hp))).trans hp, hm⟩, fun k _ _ hk hm => ⟨(hb k (Array.getElem?_eq_some_iff.1 hk).1).trans hk, hm⟩⟩
  have ho : Oth w w' := ⟨hsz, fun k o hk _ => (hb k (Array.getElem?_eq_some_iff.1 hk).1).trans hk⟩
  refine ⟨⟨h.defers.oth ho, h.size, fun t => (h.env t).mono hs (Gh.le.refl _), fun id hid => (h.obj id hid).mono hs (Gh.le.refl _) (fun b _ hlt => hb b hlt), h.apart, h.fresh,
    ⟨⟨hos.trans h.fr.os, htape.trans h.fr.tape, hout.trans h.fr.output, Nat.le_trans h.fr.size hsz, fun b h1 h2 => (hb b (Nat.lt_of_lt_of_le h1 h.fr.size)).trans (h.fr.block b h1 h2), h.fr.drawn.trans hdr⟩, h.fr.ko.trans ho⟩, h.rcv⟩, hs⟩

/-- one object turns, in its own block, or is laid in a new one -/
theorem Rel.turn (h : Rel E S a w L) {w' : World} {id : Nat} (hid : id < S.N) (o : AObj) (l : Value)
    (hv : (o.ver = (S.H id).ver ∧ l = L id ∧ (S.H id).c.live = true) ∨ (S.H id).ver < o.ver)
    (hos : w'.os = w.os) (htape : w'.tape = w.tape) (hout : w'.output = w.output) (hsz : w.heap.size ≤ w'.heap.size)
    (hb : ∀ b, b < w.heap.size → ((S.H id).c.live = true → blk (L id) ≠ some b) → w'.heap[b]? = w.heap[b]?)
    (hl : ∀ b, o.c.live = true → blk l = some b → ((S.H id).c.live = true ∧ blk (L id) = some b) ∨ w.heap.size ≤ b)
    (hnew : Stays w w' (mutb E S L) (mutb E { S with H := upd S.H id o } (upd L id l)) → (S.gh L).le (St.gh { S with H := upd S.H id o } (upd L id l)) →
      ObjOk E w' (mutb E { S with H := upd S.H id o } (upd L id l)) (St.gh { S with H := upd S.H id o } (upd L id l)) l o.c)
    (hdr : DL w w' := by first | exact DL.refl _ | exact DL.of (Nat.le_refl _) | exact DL.of (by first | (simp; done) | omega)) :
    Rel E { S with H := upd S.H id o } a w' (upd L id l) ∧ Stays w w' (mutb E S L) (mutb E { S with H := upd S.H id o } (upd L id l)) ∧ (S.gh L).le (St.gh { S with H := upd S.H id o } (upd L id l)) := by
  have hg : (S.gh L).le (St.gh { S with H := upd S.H id o } (upd L id l)) := by
    refine ⟨Nat.le_refl _, fun j hj => ?_⟩
    by_cases hji : j = id
    · subst hji
      rcases hv with ⟨e1, e2, _⟩ | e
      · exact .inl ⟨by simp [St.gh, upd_same, e1], by simp [St.gh, upd_same, e2]⟩
      · exact .inr (by simpa [St.gh, upd_same] using e)
    · exact .inl ⟨by simp [St.gh, upd_ne _ _ hji], by simp [St.gh, upd_ne _ _ hji]⟩
  have hm : ∀ b, b < w.heap.size → mutb E { S with H := upd S.H id o } (upd L id l) b → mutb E S L b := by
    rintro b hlt (⟨j, hj, hlive, hblk⟩ | hX)
    case inr => exact .inr hX
    simp only at hj hlive
    by_cases hji : j = id
    · subst hji
      rw [upd_same] at hlive hblk
      rcases hl b hlive hblk with ⟨h1, h2⟩ | h1
      · exact .inl ⟨j, hj, h1, h2⟩
      · omega
    · rw [upd_ne _ _ hji] at hlive hblk
      exact .inl ⟨j, hj, hlive, hblk⟩
  have ho : Oth w w' := ⟨hsz, fun k o hk hc => (hb k (Array.getElem?_eq_some_iff.1 hk).1 (fun h1 h2 => by
    obtain ⟨o', h3, h4⟩ := (h.obj id hid).cells h1 h2
    rw [hk] at h3
    injection h3 with h3
    rw [h3, h4] at hc
    cases hc)).trans hk⟩
  have hs : Stays w w' (mutb E S L) (mutb E { S with H := upd S.H id o } (upd L id l)) := by
    refine ⟨fun p v hp hnm => ?_, fun k _ _ hk hnm => ⟨ho.same k _ hk rfl, fun hm' => hnm (hm _ (Array.getElem?_eq_some_iff.1 hk).1 hm')⟩⟩
    have hlt := cell_lt hp
    exact ⟨(World.cell?_of_block (hb _ hlt (fun h1 h2 => hnm (.inl ⟨id, hid, h1, h2⟩)))).trans hp, fun hm' => hnm (hm _ hlt hm')⟩
  refine ⟨⟨h.defers.oth ho, h.size, fun t => (h.env t).mono hs hg, fun j hj => ?_, ?_, fun j hj => ?_, ?_, ?_⟩, hs, hg⟩
  · simp only at hj ⊢
    by_cases hji : j = id
    · subst hji
      rw [upd_same, upd_same]
      exact hnew hs hg
    · rw [upd_ne _ _ hji, upd_ne _ _ hji]
      cases hlv : (S.H j).c.live with
      | false =>
        cases hc : (S.H j).c with
        | dead => trivial
        | box cs => rw [hc] at hlv; cases hlv
        | row e k cs => rw [hc] at hlv; cases hlv
      | true =>
        refine (h.obj j hj).mono hs hg (fun b hbj hlt => hb b hlt (fun h1 h2 => hji (h.apart j id b hj hid hlv h1 hbj h2)))
  · intro i j b hi hj hli hlj hbi hbj
    simp only at hi hj hli hlj
    by_cases hii : i = id
    · by_cases hjj : j = id
      · rw [hii, hjj]
      · subst hii
        rw [upd_same] at hli hbi
        rw [upd_ne _ _ hjj] at hlj hbj
        rcases hl b hli hbi with ⟨h1, h2⟩ | h1
        · exact h.apart i j b hi hj h1 hlj h2 hbj
        · have := ((h.obj j hj).blk_ok hlj hbj).1
          omega
    · rw [upd_ne _ _ hii] at hli hbi
      by_cases hjj : j = id
      · subst hjj
        rw [upd_same] at hlj hbj
        rcases hl b hlj hbj with ⟨h1, h2⟩ | h1
        · exact h.apart i j b hi hj hli h1 hbi h2
        · have := ((h.obj i hi).blk_ok hli hbi).1
          omega
      · rw [upd_ne _ _ hjj] at hlj hbj
        exact h.apart i j b hi hj hli hlj hbi hbj
  · simp only at hj ⊢
    rw [upd_ne _ _ (by omega)]
    exact h.fresh j hj
  · refine ⟨⟨hos.trans h.fr.os, htape.trans h.fr.tape, hout.trans h.fr.output, Nat.le_trans h.fr.size hsz, fun b h1 h2 => ?_, h.fr.drawn.trans hdr⟩, h.fr.ko.trans ho⟩
    refine (hb b (Nat.lt_of_lt_of_le h1 h.fr.size) (fun h3 h4 => ?_)).trans (h.fr.block b h1 h2)
    rcases ((h.obj id hid).blk_ok h3 h4).2 with h5 | h5
    · exact h2 h5
    · omega
  · intro hb0 hlv hvr
    simp only at hlv hvr
    by_cases hi0 : 0 = id
    · subst hi0
      rw [upd_same] at hlv hvr ⊢
      rcases hv with ⟨e1, e2, e3⟩ | e
      · rw [e2]
        exact h.rcv hb0 e3 (by omega)
      · omega
    · rw [upd_ne _ _ hi0] at hlv hvr ⊢
      exact h.rcv hb0 hlv hvr

/-- a draw -/
theorem Rel.drew (h : Rel E S a w L) (n : Nat) (hn : w.drawn ≤ n := by first | exact Nat.le_refl _ | exact Nat.le_add_right _ _ | exact Nat.le_succ _ | assumption | omega) : Rel E S a { w with drawn := n } L :=
  (h.grow (w' := { w with drawn := n }) rfl rfl rfl (Nat.le_refl _) (fun _ _ => rfl) (DL.of hn)).1

/-- room for new objects -/
theorem Rel.room (h : Rel E S a w L) (k : Nat) : Rel E { S with N := S.N + k } a w L := by
  have hm : ∀ b, mutb E { S with N := S.N + k } L b ↔ mutb E S L b := by
    intro b
    constructor
    · rintro (⟨j, hj, hl, hb⟩ | hX)
      case inr => exact .inr hX
      simp only at hj hl
      by_cases hlt : j < S.N
      · exact .inl ⟨j, hlt, hl, hb⟩
      · rw [h.fresh j (by omega)] at hl
        cases hl
    · rintro (⟨j, hj, hl, hb⟩ | hX)
      · exact .inl ⟨j, by simp only; omega, hl, hb⟩
      · exact .inr hX
  have hs : Stays w w (mutb E S L) (mutb E { S with N := S.N + k } L) := (Stays.of fun _ hn => fun hm' => hn ((hm _).1 hm'))
  have hg : (S.gh L).le (St.gh { S with N := S.N + k } L) := ⟨by simp [St.gh], fun _ _ => .inl ⟨rfl, rfl⟩⟩
  refine ⟨h.defers, h.size, fun t => (h.env t).mono hs hg, fun id hid => ?_, fun i j b hi hj hli hlj hbi hbj => ?_, fun id hid => h.fresh id (by simp only at hid; omega), h.fr, h.rcv⟩
  · by_cases hlt : id < S.N
    · exact (h.obj id hlt).mono hs hg (fun _ _ _ => rfl)
    · simp only
      rw [h.fresh id (by omega)]
      trivial
  · simp only at hi hj hli hlj
    have hi' : i < S.N := by
      rcases Nat.lt_or_ge i S.N with h1 | h1
      · exact h1
      · rw [h.fresh i h1] at hli; cases hli
    have hj' : j < S.N := by
      rcases Nat.lt_or_ge j S.N with h1 | h1
      · exact h1
      · rw [h.fresh j h1] at hlj; cases hlj
    exact h.apart i j b hi' hj' hli hlj hbi hbj
end
end Go.TQ
