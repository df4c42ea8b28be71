/-
  A map of rows, made in a loop: m[k] = append(m[k], x). Conditions: none (generic in the program).
-/
import Derived.Test.YtaebanabjdmgfaaGreatKdef
import Derived.Carry
namespace Go.TQ
open Go.RowKit

/-! ### groups -/
section
variable {κ ε : Type}
def gput (t : κ → Bool) (k : κ) (r : ε) : List (κ × List ε) → List (κ × List ε)
  | [] => [(k, [r])]
  | p :: G => bif t p.1 then (p.1, p.2 ++ [r]) :: G else p :: gput t k r G
theorem gput_at (t : κ → Bool) (k : κ) (r : ε) : ∀ G : List (κ × List ε),
    (∃ j p, G[j]? = some p ∧ t p.1 = true ∧ (∀ i q, i < j → G[i]? = some q → t q.1 = false) ∧ gput t k r G = G.set j (p.1, p.2 ++ [r]) ∧ mget t G [] = p.2) ∨
    ((∀ p ∈ G, t p.1 = false) ∧ gput t k r G = G ++ [(k, [r])] ∧ mget t G [] = [])
  | [] => .inr ⟨fun _ h => (by cases h), rfl, rfl⟩
  | p :: G => by
    cases hp : t p.1 with
    | true => exact .inl ⟨0, p, rfl, hp, fun i q hi => by omega, by simp [gput, hp], by simp [mget, hp]⟩
    | false =>
      rcases gput_at t k r G with ⟨j, q, h1, h2, h3, h4, h5⟩ | ⟨h1, h2, h3⟩
      · refine .inl ⟨j + 1, q, by simpa using h1, h2, fun i q' hi hq => ?_, by simp [gput, hp, h4], by simp [mget, hp, h5]⟩
        cases i with
        | zero => simp at hq; subst hq; exact hp
        | succ i => exact h3 i q' (by omega) (by simpa using hq)
      · refine .inr ⟨fun q hq => ?_, by simp [gput, hp, h2], by simp [mget, hp, h3]⟩
        rcases List.mem_cons.1 hq with rfl | hq
        · exact hp
        · exact h1 q hq
end

/-! ### the types -/
structure FilT (P : Program) (mT kT sT eT pT : TypeId) (kE bE bK : Nat) : Prop where
  hm : P.underlying mT = some (.map kT sT)
  key : ∃ (fs : Array Field) (f g : Field) (k0 l0 : IntKind), P.underlying kT = some (.struct fs) ∧ fs.toList = [f, g] ∧ P.underlying f.type = some (.int k0) ∧ P.underlying g.type = some (.int l0) ∧ f.offset = 0 ∧ g.offset = 1 ∧ f.name ≠ "_" ∧ g.name ≠ "_" ∧ P.stoodInHeld kT = false
  hs : P.underlying sT = some (.slice eT)
  hp : P.underlying pT = some (.slice kT)
  hz : ∃ i : TypeInfo, P.info? sT = some i ∧ i.zero = some (.slice none 0 0)
  infoE : ∃ (i : TypeInfo) (z : Value), P.info? eT = some i ∧ i.zero = some z ∧ z.cells.size = kE ∧ i.size = kE ∧ i.bytes = bE
  infoK : ∃ (i : TypeInfo) (z : Value), P.info? kT = some i ∧ i.zero = some z ∧ z.cells.size = 2 ∧ i.size = 2 ∧ i.bytes = bK
  kpos : 0 < kE
  small : kE ≤ 16777216

theorem insInfo' {P : Program} {E k bytes : Nat} (h : (P.info? E).map (fun i => (i.zero.map (·.cells.size), i.size, i.bytes)) = some (some k, k, bytes)) : ∃ (i : TypeInfo) (z : Value), P.info? E = some i ∧ i.zero = some z ∧ z.cells.size = k ∧ i.size = k ∧ i.bytes = bytes := by
  rw [Option.map_eq_some_iff] at h
  obtain ⟨i, h1, h2⟩ := h
  injection h2 with h2 h3
  injection h3 with h3 h4
  rw [Option.map_eq_some_iff] at h2
  obtain ⟨z, h5, h6⟩ := h2
  exact ⟨i, z, h1, h5, h6, h3, h4⟩
def keyB (P : Program) (kT : TypeId) : Bool :=
  match P.underlying kT with
  | some (.struct fs) => (match fs.toList with
    | [f, g] => (match P.underlying f.type, P.underlying g.type with
      | some (.int _), some (.int _) => f.offset == 0 && g.offset == 1 && f.name != "_" && g.name != "_" && !P.stoodInHeld kT
      | _, _ => false)
    | _ => false)
  | _ => false
theorem keyInfo {P : Program} {kT : TypeId} (h : keyB P kT = true) : ∃ (fs : Array Field) (f g : Field) (k0 l0 : IntKind), P.underlying kT = some (.struct fs) ∧ fs.toList = [f, g] ∧ P.underlying f.type = some (.int k0) ∧ P.underlying g.type = some (.int l0) ∧ f.offset = 0 ∧ g.offset = 1 ∧ f.name ≠ "_" ∧ g.name ≠ "_" ∧ P.stoodInHeld kT = false := by
  unfold keyB at h
  split at h
  · rename_i fs h1
    split at h
    · rename_i f g h2
      split at h
      · rename_i k0 l0 h3 h4
        simp only [Bool.and_eq_true, beq_iff_eq, bne_iff_ne, ne_eq, Bool.not_eq_true'] at h
        obtain ⟨⟨⟨⟨h5, h6⟩, h7⟩, h8⟩, h9⟩ := h
        exact ⟨fs, f, g, k0, l0, h1, h2, h3, h4, h5, h6, h7, h8, h9⟩
      · cases h
    · cases h
  · cases h
theorem zeroInfo {P : Program} {sT : TypeId} (h : (match (P.info? sT).bind (·.zero) with | some (.slice none 0 0) => true | _ => false) = true) : ∃ i : TypeInfo, P.info? sT = some i ∧ i.zero = some (.slice none 0 0) := by
  split at h
  · rename_i h1
    rw [Option.bind_eq_some_iff] at h1
    exact h1
  · cases h
def kv (p : Int × Int) : Value := .agg #[.int .i64 p.1, .int .i64 p.2]
theorem sameBits_kv (p : Int × Int) : Instr.sameBits 10000 (kv p) (kv p) = true := by
  have : ∀ n, Instr.sameBits (n + 2) (kv p) (kv p) = true := fun n => by simp [Instr.sameBits, kv]
  exact this 9998
section
variable {P : Program} {w : World} {mT kT sT eT pT : TypeId} {kE bE bK : Nat}
theorem keyStays_kv (p : Int × Int) : (Instr.keyThatStays (kv p) (kv p)).run P w = .ok (kv p) w := by
  simp [Instr.keyThatStays, sameBits_kv]
theorem check_kv (T : FilT P mT kT sT eT pT kE bE bK) (p : Int × Int) (em : Bool) : (Instr.checkKey em 10000 kT (kv p)).run P w = .ok () w := by
  obtain ⟨fs, f, g, k0, l0, h1, h2, h3, h4, h5, h6, h7, h8, h9⟩ := T.key
  exact run_checkii h1 h2 h3 h4 h5 h6 h7 h8 em 9998
theorem eq_kv (T : FilT P mT kT sT eT pT kE bE bK) (p q : Int × Int) : (Op.equal kT (kv p) (kv q)).run P w = .ok (decide (q = p)) w := by
  obtain ⟨fs, f, g, k0, l0, h1, h2, h3, h4, h5, h6, h7, h8, h9⟩ := T.key
  have := run_equalii (P := P) (w := w) (k := .i64) (l := .i64) (p := p.1) (q := q.1) (s := p.2) (u := q.2) h1 h2 h3 h4 h5 h6 h7 h8 h9 9998
  refine this.trans ?_
  congr 1
  obtain ⟨a, b⟩ := p
  obtain ⟨c, d⟩ := q
  rw [Bool.eq_iff_iff]
  simp only [Bool.and_eq_true, decide_eq_true_eq, Prod.mk.injEq]
  exact ⟨fun h => ⟨h.1.symm, h.2.symm⟩, fun h => ⟨h.1.symm, h.2.symm⟩⟩
theorem find_kv (T : FilT P mT kT sT eT pT kE bE bK) (p : Int × Int) : ∀ (es : List MapEntry) (ks : List (Int × Int)) (i0 : Nat), es.length = ks.length → (∀ (i : Nat) (e : MapEntry) (g : Int × Int), es[i]? = some e → ks[i]? = some g → e.key = kv g) →
    (∃ j e, es[j]? = some e ∧ ks[j]? = some p ∧ (∀ i q, i < j → ks[i]? = some q → q ≠ p) ∧ (Instr.findAsking kT (kv p) es i0).run P w = .ok (some (i0 + j, e.val)) w) ∨
    ((∀ q ∈ ks, q ≠ p) ∧ (Instr.findAsking kT (kv p) es i0).run P w = .ok none w)
  | [], ks, i0, hl, _ => by
    have : ks = [] := List.eq_nil_of_length_eq_zero hl.symm
    subst this
    exact .inr ⟨fun _ h => by (cases h), by simp [Instr.findAsking]⟩
  | e :: es, ks, i0, hl, hk => by
    cases ks with
    | nil => simp at hl
    | cons k ks =>
      have h0 : e.key = kv k := hk 0 e k rfl rfl
      have hq : (Op.equal kT (kv p) e.key).run P w = .ok (decide (k = p)) w := by rw [h0]; exact eq_kv T p k
      by_cases hkp : k = p
      · subst hkp
        exact .inl ⟨0, e, rfl, rfl, fun i q hi => by omega, by simp [Instr.findAsking, hq]⟩
      · rw [decide_eq_false hkp] at hq
        rcases find_kv T p es ks (i0 + 1) (by simpa using hl) (fun i e g h h' => hk (i + 1) e g (by simpa using h) (by simpa using h')) with ⟨j, e', h1, h2, h3, h4⟩ | ⟨h1, h2⟩
        · refine .inl ⟨j + 1, e', by simpa using h1, by simpa using h2, fun i q hi hq' => ?_, ?_⟩
          · cases i with
            | zero => simp at hq'; subst hq'; exact hkp
            | succ i => exact h3 i q (by omega) (by simpa using hq')
          · simp [Instr.findAsking, hq, h4, Nat.add_assoc, Nat.add_comm 1 j]
        · refine .inr ⟨fun q hq' => ?_, by simp [Instr.findAsking, hq, h2]⟩
          rcases List.mem_cons.1 hq' with rfl | hq'
          · exact hkp
          · exact h1 q hq'
theorem findKey_kv (T : FilT P mT kT sT eT pT kE bE bK) (p : Int × Int) (es : List MapEntry) (ks : List (Int × Int)) (hl : es.length = ks.length) (hk : ∀ (i : Nat) (e : MapEntry) (g : Int × Int), es[i]? = some e → ks[i]? = some g → e.key = kv g) :
    (∃ j e, es[j]? = some e ∧ ks[j]? = some p ∧ (∀ i q, i < j → ks[i]? = some q → q ≠ p) ∧ (Instr.findKey kT (kv p) es).run P w = .ok (some (j, e.val)) w) ∨
    ((∀ q ∈ ks, q ≠ p) ∧ (Instr.findKey kT (kv p) es).run P w = .ok none w) := by
  obtain ⟨fs, f, g, k0, l0, h1, _⟩ := T.key
  have key : (Instr.findKey kT (kv p) es).run P w = (Instr.findAsking kT (kv p) es 0).run P w := by
    cases es with
    | nil => simp [Instr.findKey, run_underlying h1, Instr.findNow, Instr.findAsking]
    | cons e es => simp [Instr.findKey, run_underlying h1, Instr.findNow, Instr.sameNow, kv]
  rw [key]
  have := find_kv (w := w) T p es ks 0 hl hk
  simpa only [Nat.zero_add] using this
end

/-! ### what the map is -/
section
variable {κ ε : Type}
structure GE (M : Nat → Prop) (N0 eT kE : Nat) (kf : κ → Int × Int) (pvf : ε → List PV) (w : World) (G : List (κ × List ε)) (es : Array MapEntry) (ck : Nat) : Prop where
  len : es.toList.length = G.length
  born : (es.toList.map (·.born)).Nodup ∧ ∀ e ∈ es.toList, e.born < ck
  at_ : ∀ (i : Nat) (e : MapEntry) (g : κ × List ε), es.toList[i]? = some e → G[i]? = some g → e.key = kv (kf g.1) ∧ ∃ vs, w.ownsRow (N0 + 1) eT kE e.val g.2.length vs ∧ RepL w M Gh0 (g.2.map pvf).flatten vs
  apart : ∀ (i i' : Nat) (e e' : MapEntry) (b : Nat), es.toList[i]? = some e → es.toList[i']? = some e' → e.val.ownBlock = some b → e'.val.ownBlock = some b → i = i'
variable {M : Nat → Prop} {N0 : Nat} {kf : κ → Int × Int} {pvf : ε → List PV} {G : List (κ × List ε)} {es : Array MapEntry} {ck : Nat}
variable {P : Program} {w : World} {mT kT sT eT pT : TypeId} {kE bE bK : Nat}
theorem GE.mono {w' : World} {M' : Nat → Prop} {row : Option Nat} (h : GE M N0 eT kE kf pvf w G es ck) (hg : w.grownBy w' row) (hst : Stays w w' M M') (hne : ∀ e ∈ es.toList, e.val.ownBlock = none ∨ e.val.ownBlock ≠ row) : GE M' N0 eT kE kf pvf w' G es ck :=
  ⟨h.len, h.born, fun i e g he hg' => by
    obtain ⟨h1, vs, h2, h3⟩ := h.at_ i e g he hg'
    exact ⟨h1, vs, h2.kept hg (hne e (List.mem_of_getElem? he)), h3.mono hst (Gh.le.refl _)⟩, h.apart⟩
theorem GE.blocks (h : GE M N0 eT kE kf pvf w G es ck) : ∀ e ∈ es.toList, ∀ b, e.val.ownBlock = some b → N0 + 1 ≤ b ∧ b < w.heap.size := by
  intro e he b hb
  obtain ⟨i, hi⟩ := List.mem_iff_getElem?.1 he
  have hlt : i < G.length := by rw [← h.len]; exact (List.getElem?_eq_some_iff.1 hi).1
  obtain ⟨_, vs, h2, _⟩ := h.at_ i e G[i] hi (List.getElem?_eq_getElem hlt)
  exact h2.lt b hb
/-- a key's place -/
theorem GE.find (T : FilT P mT kT sT eT pT kE bE bK) (h : GE M N0 eT kE kf pvf w G es ck) {t : κ → Bool} {p : Int × Int} (ht : ∀ k, t k = decide (kf k = p)) (k : κ) (r : ε) :
    (∃ j e g, es.toList[j]? = some e ∧ G[j]? = some g ∧ kf g.1 = p ∧ (Instr.findKey kT (kv p) es.toList).run P w = .ok (some (j, e.val)) w ∧ gput t k r G = G.set j (g.1, g.2 ++ [r]) ∧ mget t G [] = g.2) ∨
    ((Instr.findKey kT (kv p) es.toList).run P w = .ok none w ∧ gput t k r G = G ++ [(k, [r])] ∧ mget t G [] = []) := by
  have hks : ∀ (i : Nat) (e : MapEntry) (q : Int × Int), es.toList[i]? = some e → (G.map fun g => kf g.1)[i]? = some q → e.key = kv q := fun i e q he hq => by
    rw [List.getElem?_map, Option.map_eq_some_iff] at hq
    obtain ⟨g, hg, rfl⟩ := hq
    exact (h.at_ i e g he hg).1
  rcases gput_at t k r G with ⟨j, g, g1, g2, g3, g4, g5⟩ | ⟨g1, g2, g3⟩
  · rcases findKey_kv (w := w) T p es.toList (G.map fun g => kf g.1) (by rw [List.length_map, h.len]) hks with ⟨j', e, h1, h2, h3, h4⟩ | ⟨h1, _⟩
    · have hkg : kf g.1 = p := by rw [ht] at g2; exact of_decide_eq_true g2
      have hj : j' = j := by
        rcases Nat.lt_trichotomy j' j with hlt | heq | hlt
        · exfalso
          rw [List.getElem?_map, Option.map_eq_some_iff] at h2
          obtain ⟨q, hq, hqp⟩ := h2
          have := g3 j' q hlt hq
          rw [ht, decide_eq_false_iff_not] at this
          exact this hqp
        · exact heq
        · exact absurd hkg (h3 j (kf g.1) hlt (by rw [List.getElem?_map, g1]; rfl))
      subst hj
      exact .inl ⟨j', e, g, h1, g1, hkg, h4, g4, g5⟩
    · exfalso
      have hkg : kf g.1 = p := by rw [ht] at g2; exact of_decide_eq_true g2
      exact h1 (kf g.1) (List.mem_map.2 ⟨g, List.mem_of_getElem? g1, rfl⟩) hkg
  · rcases findKey_kv (w := w) T p es.toList (G.map fun g => kf g.1) (by rw [List.length_map, h.len]) hks with ⟨j', e, h1, h2, h3, h4⟩ | ⟨_, h2⟩
    · exfalso
      rw [List.getElem?_map, Option.map_eq_some_iff] at h2
      obtain ⟨q, hq, hqp⟩ := h2
      have := g1 q (List.mem_of_getElem? hq)
      rw [ht, decide_eq_false_iff_not] at this
      exact this hqp
    · exact .inr ⟨h2, g2, g3⟩
theorem zero_s (T : FilT P mT kT sT eT pT kE bE bK) (w : World) : (zeroValue sT).run P w = .ok (.slice none 0 0) w := by
  obtain ⟨i, h1, h2⟩ := T.hz
  simp [zeroValue, typeInfo, h1, h2, Sem.run, program]
/-- m[k] -/
theorem GE.look (T : FilT P mT kT sT eT pT kE bE bK) (h : GE M N0 eT kE kf pvf w G es ck) (hb : w.heap[N0]? = some (.map es ck)) {t : κ → Bool} {p : Int × Int} (ht : ∀ k, t k = decide (kf k = p)) (k : κ) (r : ε) :
    ∃ v vs, (Instr.lookup mT (.map (some N0)) (kv p) false).run P w = .ok v w ∧ w.ownsRow (N0 + 1) eT kE v (mget t G []).length vs := by
  have hobj := MapKept.run_getObj_map (P := P) hb
  rcases h.find T ht k r with ⟨j, e, g, h1, h2, _, h4, _, h6⟩ | ⟨h1, _, h3⟩
  · obtain ⟨_, vs, h7, _⟩ := h.at_ j e g h1 h2
    exact ⟨e.val, vs, by simp [Instr.lookup, run_underlying T.hm, hobj, check_kv T, h4], by rw [h6]; exact h7⟩
  · exact ⟨.slice none 0 0, [], by simp [Instr.lookup, run_underlying T.hm, hobj, check_kv T, h1, zero_s T], by rw [h3]; exact World.ownsRow_nil _ _ _ _⟩

theorem findIdx_born {l : List MapEntry} (hn : (l.map (·.born)).Nodup) {j : Nat} {e0 : MapEntry} (h : l[j]? = some e0) : l.findIdx? (fun e => ((e.born : Nat) : Int) == ((e0.born : Nat) : Int)) = some j := by
  induction l generalizing j with
  | nil => simp at h
  | cons a r ih =>
    simp only [List.map_cons, List.nodup_cons] at hn
    cases j with
    | zero =>
      simp only [List.getElem?_cons_zero, Option.some.injEq] at h
      subst h
      simp [List.findIdx?_cons]
    | succ j =>
      simp only [List.getElem?_cons_succ] at h
      have hne : a.born ≠ e0.born := fun e1 => hn.1 (List.mem_map.2 ⟨e0, List.mem_of_getElem? h, e1.symm⟩)
      have hb : (((a.born : Nat) : Int) == ((e0.born : Nat) : Int)) = false := by
        simp only [beq_eq_false_iff_ne, ne_eq, Int.natCast_inj]
        exact hne
      rw [List.findIdx?_cons, hb]
      simp [ih hn.2 h]
theorem findIdx_arr (xs : Array MapEntry) (p : MapEntry → Bool) : xs.findIdx? p = xs.toList.findIdx? p := by
  cases xs
  simp
theorem modify_last {α : Type} (f : α → α) (a : α) : ∀ l : List α, (l ++ [a]).modify l.length f = l ++ [f a]
  | [] => rfl
  | b :: r => by simp [List.modify_succ_cons, modify_last f a r]
def World.atMap (w : World) (b : Nat) (es : Array MapEntry) (ck : Nat) : World := { w with heap := w.heap.setIfInBounds b (.map es ck) }
theorem atMap_run {b : Nat} {es0 : Array MapEntry} {ck0 : Nat} (hb : w.heap[b]? = some (.map es0 ck0)) (es : Array MapEntry) (ck : Nat) : (setObj b (.map es ck)).run P w = .ok () (World.atMap w b es ck) := by
  simp [setObj, Sem.run, World.atMap, hb]
theorem atMap_same {b : Nat} {o : Obj} (hb : w.heap[b]? = some o) (es : Array MapEntry) (ck : Nat) : (World.atMap w b es ck).heap[b]? = some (.map es ck) := by
  have := (Array.getElem?_eq_some_iff.1 hb).1
  simp [World.atMap, this]
theorem atMap_grown (w : World) (b : Nat) (es : Array MapEntry) (ck : Nat) : w.grownBy (World.atMap w b es ck) (some b) := by
  refine ⟨rfl, rfl, rfl, by simp [World.atMap], fun k hk hne => ?_⟩
  have : b ≠ k := fun e => hne (by rw [e])
  simp [World.atMap, Array.getElem?_setIfInBounds_ne this]
theorem atMap_stays {b : Nat} {es : Array MapEntry} {ck : Nat} (hM : M b) : Stays w (World.atMap w b es ck) M M := by
  have key : ∀ k, ¬ M k → (World.atMap w b es ck).heap[k]? = w.heap[k]? := fun k hk => by
    have : b ≠ k := fun e => hk (e ▸ hM)
    simp [World.atMap, Array.getElem?_setIfInBounds_ne this]
  exact ⟨fun a v hc hk => ⟨(World.cell?_of_block (key _ hk)).trans hc, hk⟩, fun k _ _ hb hk => ⟨(key k hk).trans hb, hk⟩⟩
/-- the entry for a store, and the store -/
theorem GE.entry (T : FilT P mT kT sT eT pT kE bE bK) (h : GE M N0 eT kE kf pvf w G es ck) (hb : w.heap[N0]? = some (.map es ck)) {t : κ → Bool} {p : Int × Int} (ht : ∀ k, t k = decide (kf k = p)) (k : κ) (hk : kf k = p) (r : ε) :
    ∃ (v : Value) (st : Nat) (es1 : Array MapEntry) (ck1 : Nat), (Instr.mapEntry mT (.map (some N0)) (kv p)).run P w = .ok (.tuple #[v, goInt st]) (World.atMap w N0 es1 ck1) ∧
      (∃ vs, w.ownsRow (N0 + 1) eT kE v (mget t G []).length vs ∧ RepL w M Gh0 ((mget t G []).map pvf).flatten vs) ∧ (v.ownBlock = none ∨ ∃ e ∈ es.toList, e.val = v) ∧
      ∀ (w2 : World) (M' : Nat → Prop) (v' : Value) (vs' : List Value), Stays w w2 M M' → M' N0 → w2.heap[N0]? = some (.map es1 ck1) → (World.atMap w N0 es1 ck1).grownBy w2 v.ownBlock → (v'.ownBlock = v.ownBlock ∨ v'.ownBlock = some w.heap.size) → w2.ownsRow (N0 + 1) eT kE v' ((mget t G []).length + 1) vs' →
        RepL w2 M' Gh0 (((mget t G []) ++ [r]).map pvf).flatten vs' →
        ∃ es3, (Instr.entryStore mT (.map (some N0)) (goInt st) v').run P w2 = .ok () (World.atMap w2 N0 es3 ck1) ∧ GE M' N0 eT kE kf pvf (World.atMap w2 N0 es3 ck1) (gput t k r G) es3 ck1 ∧ (∀ e ∈ es3.toList, e.val = v' ∨ e ∈ es.toList) := by
  have hobj := MapKept.run_getObj_map (P := P) hb
  have hlt := h.blocks
  rcases h.find T ht k r with ⟨j, e, g, h1, h2, h3, h4, h5, h6⟩ | ⟨h1, h2, h3⟩
  · obtain ⟨hkey, vs, hrow, hrep⟩ := h.at_ j e g h1 h2
    have hjl : j < es.size := by simpa using (List.getElem?_eq_some_iff.1 h1).1
    have hea : es[j]? = some e := by simpa using h1
    have hmod : es.modify j (fun e' => { e' with key := kv p }) = es := by
      apply Array.toList_inj.1
      rw [Array.toList_modify]
      apply List.ext_getElem?
      intro i
      rw [List.getElem?_modify]
      by_cases hij : j = i
      · subst hij
        rw [h1]
        have : ({ e with key := kv p } : MapEntry) = e := by rw [← h3, ← hkey]
        simp [this]
      · simp [hij]
    refine ⟨e.val, e.born, es, ck, ?_, ⟨vs, by rw [h6]; exact hrow, by rw [h6]; exact hrep⟩, .inr ⟨e, List.mem_of_getElem? h1, rfl⟩, fun w2 M' v' vs' hst hM' hw2 hgr hat hown hrep' => ?_⟩
    · have hk1 : e.key = kv p := by rw [hkey, h3]
      simp [Instr.mapEntry, run_underlying T.hm, hobj, check_kv T, h4, hea, hk1, keyStays_kv, hmod, atMap_run hb]
    · have hidx := findIdx_born h.born.1 h1
      rw [← findIdx_arr] at hidx
      have hobj2 := MapKept.run_getObj_map (P := P) hw2
      refine ⟨es.modify j fun e' => { e' with val := v' }, ?_, ?_, ?_⟩
      · simp [Instr.entryStore, hobj2, goInt, asInt, asIntOf, hidx, atMap_run hw2]
      · have hg1 := atMap_grown w N0 es ck
        have hg3 := atMap_grown w2 N0 (es.modify j fun e' => { e' with val := v' }) ck
        have hs1 : (World.atMap w N0 es ck).heap.size = w.heap.size := by simp [World.atMap]
        have hts : (es.modify j fun e' => { e' with val := v' }).toList = es.toList.set j { e with val := v' } := by
          rw [Array.toList_modify]
          apply List.ext_getElem?
          intro i
          rw [List.getElem?_modify, List.getElem?_set]
          by_cases hij : j = i
          · subst hij
            have hjl2 : j < es.toList.length := by simpa using hjl
            rw [h1]
            simp [hjl]
          · simp [hij]
        have eblk : ∀ b, e.val.ownBlock = some b → N0 + 1 ≤ b ∧ b < w.heap.size := hlt e (List.mem_of_getElem? h1)
        refine ⟨by rw [hts, List.length_set, h5, List.length_set, h.len], ⟨?_, ?_⟩, fun i e1 g1 he1 hg1' => ?_, fun i i' e1 e2 b he1 he2 hb1 hb2 => ?_⟩
        · have : (es.toList.set j { e with val := v' }).map (·.born) = es.toList.map (·.born) := by
            rw [List.map_set]
            apply List.ext_getElem?
            intro i
            rw [List.getElem?_set]
            split
            · rename_i hij
              subst hij
              split
              · rw [List.getElem?_map, h1]; rfl
              · rename_i hn
                rw [List.getElem?_eq_none (by omega)]
            · rfl
          rw [hts, this]
          exact h.born.1
        · intro e1 he1
          rw [hts] at he1
          rcases List.mem_or_eq_of_mem_set he1 with he1 | rfl
          · exact h.born.2 e1 he1
          · exact h.born.2 e (List.mem_of_getElem? h1)
        · rw [hts, List.getElem?_set] at he1
          rw [h5, List.getElem?_set] at hg1'
          split at he1
          · rename_i hij
            subst hij
            rw [if_pos rfl] at hg1'
            split at he1
            · split at hg1'
              · injection he1 with he1
                injection hg1' with hg1'
                subst he1 hg1'
                refine ⟨hkey, vs', ?_, ?_⟩
                · simp only [List.length_append, List.length_singleton]
                  rw [h6] at hown
                  refine hown.kept hg3 ?_
                  cases hvb : v'.ownBlock with
                  | none => exact .inl rfl
                  | some b =>
                    refine .inr fun e1 => ?_
                    injection e1 with e1
                    have := (hown.lt b hvb).1
                    omega
                · rw [h6] at hrep'
                  exact hrep'.mono (atMap_stays hM') (Gh.le.refl _)
              · cases hg1'
            · cases he1
          · rename_i hij
            rw [if_neg hij] at hg1'
            obtain ⟨q1, vs1, q2, q3⟩ := h.at_ i e1 g1 he1 hg1'
            refine ⟨q1, vs1, ?_, (q3.mono hst (Gh.le.refl _)).mono (atMap_stays hM') (Gh.le.refl _)⟩
            have n1 : e1.val.ownBlock = none ∨ e1.val.ownBlock ≠ some N0 := by
              cases hvb : e1.val.ownBlock with
              | none => exact .inl rfl
              | some b =>
                refine .inr fun e2 => ?_
                injection e2 with e2
                have := hlt e1 (List.mem_of_getElem? he1) b hvb
                omega
            refine ((q2.kept hg1 n1).kept hgr ?_).kept hg3 n1
            cases hvb : e1.val.ownBlock with
            | none => exact .inl rfl
            | some b =>
              refine .inr fun e2 => hij ?_
              exact h.apart j i e e1 b h1 he1 e2.symm hvb
        · have new : ∀ (i : Nat) (e1 : MapEntry) (b : Nat), i ≠ j → es.toList[i]? = some e1 → e1.val.ownBlock = some b → v'.ownBlock = some b → False := fun i e1 b hij he1 hb1 hb2 => by
            rcases hat with hq | hq
            · rw [hq] at hb2
              exact hij (h.apart i j e1 e b he1 h1 hb1 hb2)
            · rw [hq] at hb2
              injection hb2 with hb2
              have := (hlt e1 (List.mem_of_getElem? he1) b hb1).2
              omega
          rw [hts, List.getElem?_set] at he1 he2
          split at he1
          · rename_i hij
            split at he1
            · injection he1 with he1
              subst he1
              split at he2
              · rename_i hij2; rw [← hij, ← hij2]
              · rename_i hij2
                exact (new i' e2 b (fun e => hij2 e.symm) he2 hb2 hb1).elim
            · cases he1
          · rename_i hij
            split at he2
            · rename_i hij2
              split at he2
              · injection he2 with he2
                subst he2
                exact (new i e1 b (fun e => hij e.symm) he1 hb1 hb2).elim
              · cases he2
            · exact h.apart i i' e1 e2 b he1 he2 hb1 hb2
      · intro e1 he1
        have hts : (es.modify j fun e' => { e' with val := v' }).toList = es.toList.set j { e with val := v' } := by
          rw [Array.toList_modify]
          apply List.ext_getElem?
          intro i
          rw [List.getElem?_modify, List.getElem?_set]
          by_cases hij : j = i
          · subst hij
            have hjl2 : j < es.toList.length := by simpa using hjl
            rw [h1]
            simp [hjl]
          · simp [hij]
        rw [hts] at he1
        rcases List.mem_or_eq_of_mem_set he1 with he1 | rfl
        · exact .inr he1
        · exact .inl rfl
  · refine ⟨.slice none 0 0, ck, es.push ⟨kv p, .slice none 0 0, ck⟩, ck + 1, ?_, ⟨[], by rw [h3]; exact World.ownsRow_nil _ _ _ _, by rw [h3]; exact .nil⟩, .inl rfl, fun w2 M' v' vs' hst hM' hw2 hgr hat hown hrep' => ?_⟩
    · simp [Instr.mapEntry, run_underlying T.hm, hobj, check_kv T, h1, zero_s T, atMap_run hb]
    · have hnd : ((es.push ⟨kv p, .slice none 0 0, ck⟩).toList.map (·.born)).Nodup := by
        rw [Array.toList_push, List.map_append, List.nodup_append]
        refine ⟨h.born.1, by simp, fun a ha c hc e1 => ?_⟩
        simp only [List.map_cons, List.map_nil, List.mem_singleton] at hc
        obtain ⟨e0, he0, rfl⟩ := List.mem_map.1 ha
        have := h.born.2 e0 he0
        omega
      have hlast : (es.push ⟨kv p, .slice none 0 0, ck⟩).toList[es.size]? = some ⟨kv p, .slice none 0 0, ck⟩ := by
        rw [Array.toList_push, List.getElem?_append_right (by simp)]
        simp
      have hidx := findIdx_born hnd hlast
      rw [← findIdx_arr] at hidx
      have hobj2 := MapKept.run_getObj_map (P := P) hw2
      have hmodify : (es.push ⟨kv p, .slice none 0 0, ck⟩).modify es.size (fun e => { e with val := v' }) = es.push ⟨kv p, v', ck⟩ := by
        apply Array.toList_inj.1
        rw [Array.toList_modify, Array.toList_push, Array.toList_push, ← Array.length_toList]
        exact modify_last _ _ es.toList
      have hts : (es.push ⟨kv p, v', ck⟩).toList = es.toList ++ [⟨kv p, v', ck⟩] := Array.toList_push ..
      have hg1 := atMap_grown w N0 (es.push ⟨kv p, .slice none 0 0, ck⟩) (ck + 1)
      have hg3 := atMap_grown w2 N0 (es.push ⟨kv p, v', ck⟩) (ck + 1)
      have hs1 : (World.atMap w N0 (es.push ⟨kv p, .slice none 0 0, ck⟩) (ck + 1)).heap.size = w.heap.size := by simp [World.atMap]
      have newb : ∀ b, v'.ownBlock = some b → w.heap.size ≤ b := fun b hb' => by
        rcases hat with hq | hq
        · rw [hq] at hb'; simp [Value.ownBlock] at hb'
        · rw [hq] at hb'; injection hb' with hb'; omega
      refine ⟨es.push ⟨kv p, v', ck⟩, ?_, ⟨?_, ⟨?_, ?_⟩, fun i e1 g1 he1 hg1' => ?_, fun i i' e1 e2 b he1 he2 hb1 hb2 => ?_⟩, ?_⟩
      · simp [Instr.entryStore, hobj2, goInt, asInt, asIntOf, hidx, hmodify, atMap_run hw2]
      · rw [hts, h2, List.length_append, List.length_append, h.len]; rfl
      · rw [hts, List.map_append]
        rw [Array.toList_push, List.map_append] at hnd
        exact hnd
      · intro e1 he1
        rw [hts] at he1
        rcases List.mem_append.1 he1 with he1 | he1
        · have := h.born.2 e1 he1; omega
        · simp only [List.mem_singleton] at he1; subst he1; exact Nat.lt_succ_self _
      · rw [hts, List.getElem?_append] at he1
        rw [h2, List.getElem?_append] at hg1'
        rw [h.len] at he1
        split at he1
        · rename_i hi
          rw [if_pos hi] at hg1'
          obtain ⟨q1, vs1, q2, q3⟩ := h.at_ i e1 g1 he1 hg1'
          refine ⟨q1, vs1, ?_, (q3.mono hst (Gh.le.refl _)).mono (atMap_stays hM') (Gh.le.refl _)⟩
          have n1 : e1.val.ownBlock = none ∨ e1.val.ownBlock ≠ some N0 := by
            cases hvb : e1.val.ownBlock with
            | none => exact .inl rfl
            | some b =>
              refine .inr fun e2 => ?_
              injection e2 with e2
              have := hlt e1 (List.mem_of_getElem? he1) b hvb
              omega
          refine ((q2.kept hg1 n1).kept hgr ?_).kept hg3 n1
          cases hvb : e1.val.ownBlock with
          | none => exact .inl rfl
          | some b => exact .inr (by simp [Value.ownBlock])
        · rename_i hi
          rw [if_neg hi] at hg1'
          cases hc : i - G.length with
          | zero =>
            rw [hc] at he1 hg1'
            simp only [List.getElem?_cons_zero, Option.some.injEq] at he1 hg1'
            subst he1 hg1'
            rw [h3] at hown hrep'
            refine ⟨by simp only; rw [hk], vs', ?_, hrep'.mono (atMap_stays hM') (Gh.le.refl _)⟩
            refine hown.kept hg3 ?_
            cases hvb : v'.ownBlock with
            | none => exact .inl rfl
            | some b =>
              refine .inr fun e1 => ?_
              injection e1 with e1
              have := (hown.lt b hvb).1
              omega
          | succ m => rw [hc] at he1; simp at he1
      · have side : ∀ (i : Nat) (e1 : MapEntry), (es.toList ++ [⟨kv p, v', ck⟩])[i]? = some e1 → (es.toList[i]? = some e1 ∧ i < es.toList.length) ∨ (e1.val = v' ∧ i = es.toList.length) := fun i e1 he => by
          rw [List.getElem?_append] at he
          split at he
          · rename_i hi; exact .inl ⟨he, hi⟩
          · rename_i hi
            cases hc : i - es.toList.length with
            | zero => rw [hc] at he; simp only [List.getElem?_cons_zero, Option.some.injEq] at he; subst he; exact .inr ⟨rfl, by omega⟩
            | succ m => rw [hc] at he; simp at he
        rw [hts] at he1 he2
        rcases side i e1 he1 with ⟨q1, q2⟩ | ⟨q1, q2⟩ <;> rcases side i' e2 he2 with ⟨q3, q4⟩ | ⟨q3, q4⟩
        · exact h.apart i i' e1 e2 b q1 q3 hb1 hb2
        · exfalso
          rw [q3] at hb2
          have := newb b hb2
          have := (hlt e1 (List.mem_of_getElem? q1) b hb1).2
          omega
        · exfalso
          rw [q1] at hb1
          have := newb b hb1
          have := (hlt e2 (List.mem_of_getElem? q3) b hb2).2
          omega
        · rw [q2, q4]
      · intro e1 he1
        rw [hts] at he1
        rcases List.mem_append.1 he1 with he1 | he1
        · exact .inr he1
        · simp only [List.mem_singleton] at he1; subst he1; exact .inl rfl
end

/-! ### operations one by one -/
def tv (a : Act) (t : Nat) : Value := a.tmps.getD t undef
theorem tv_put {a : Act} {d t : Nat} {v : Value} (h : d < a.tmps.size) : tv (a.put (some d) v) t = if t = d then v else tv a t := by
  simp only [tv, Act.put, Array.getD_eq_getD_getElem?]
  by_cases e : t = d
  · subst e
    rw [if_pos rfl, Array.getElem?_setIfInBounds_self_of_lt h]
    rfl
  · rw [if_neg e, Array.getElem?_setIfInBounds_ne (fun h => e h.symm)]
theorem sz_put {a : Act} {d : Option Nat} {v : Value} : (a.put d v).tmps.size = a.tmps.size := by cases d <;> simp [Act.put]
theorem put_none {a : Act} {v : Value} : a.put none v = a := rfl
theorem df_put {a : Act} {d : Option Nat} {v : Value} : (a.put d v).defers = a.defers := by cases d <;> rfl
def Is : List Oper → List (Option Nat × Op) → Prop
  | [], [] => True
  | o :: l, p :: r => (o.dst = p.1 ∧ o.op = p.2 ∧ o.guard = none ∧ ∀ c, o.op ≠ .defer c) ∧ Is l r
  | _, _ => False
def RunsTo (P : Program) (p : Op) (a : Act) (w : World) (v : Value) (w' : World) : Prop :=
  ∀ o : Oper, o.op = p → ∃ nx, (execOp a.eval o).run P w = .ok nx w' ∧ (nx = .value v ∨ (nx = .skip ∧ v = undef))
def wpR (P : Program) (Q : Act → World → Prop) : List (Option Nat × Op) → Act → World → Prop
  | [], a, w => Q a w
  | p :: r, a, w => ∃ v w', RunsTo P p.2 a w v w' ∧ wpR P Q r (a.put p.1 v) w'
section
variable {P : Program} {w : World} {a : Act}
theorem wpR_sound {rd : Option Nat} {ops : Array Oper} {Q : Exit → Act → World → Prop} : ∀ (l : List Oper) (r : List (Option Nat × Op)) (a : Act) (w : World), Is l r → wpR P (fun a w => Q .normal a w) r a w → wpListIn (WF rd) 0 P ops Q l a w
  | [], [], a, w, _, h => h
  | [], _ :: _, _, _, hi, _ => hi.elim
  | _ :: _, [], _, _, hi, _ => hi.elim
  | o :: l, p :: r, a, w, hi, h => by
    obtain ⟨⟨h1, h2, h3, h4⟩, h5⟩ := hi
    obtain ⟨v, w', h6, h7⟩ := h
    refine wpListIn_plain h3 fun K hK => ?_
    obtain ⟨nx, h8, h9⟩ := h6 o h2
    have hk := hK _ _ (wpR_sound l r _ w' h5 h7)
    rw [← h1] at hk
    unfold Oper.wpIn
    rw [Oper.semAt_eq _ _ _ h4, h8]
    rcases h9 with rfl | ⟨rfl, rfl⟩ <;> exact ⟨fun _ _ => trivial, hk⟩
theorem runs_of {p : Op} {v : Value} {w' : World} (h : ∀ o : Oper, o.op = p → (execOp a.eval o).run P w = .ok (.value v) w') : RunsTo P p a w v w' := fun o ho => ⟨_, h o ho, .inl rfl⟩
theorem runs_skip {p : Op} {w' : World} (h : ∀ o : Oper, o.op = p → (execOp a.eval o).run P w = .ok .skip w') : RunsTo P p a w undef w' := fun o ho => ⟨_, h o ho, .inr ⟨rfl, rfl⟩⟩
theorem runs_mv (t : Nat) : RunsTo P (.move (.tmp t)) a w (tv a t) w := runs_of fun o ho => by simp [execOp, ho, Act.eval, tv]
theorem runs_mc (v : Value) : RunsTo P (.move (.const v)) a w v w := runs_of fun o ho => by simp [execOp, ho, Act.eval]
theorem runs_as (t : Nat) : RunsTo P (.assign (.tmp t)) a w (tv a t) w := runs_of fun o ho => by simp [execOp, ho, Act.eval, tv]
theorem runs_ac (v : Value) : RunsTo P (.assign (.const v)) a w v w := runs_of fun o ho => by simp [execOp, ho, Act.eval]
theorem runs_makeMap (t : TypeId) : RunsTo P (.makeMap t none) a w (.map (some w.heap.size)) (w.alloc (.map #[] 0)) := runs_of fun o ho => by simp [execOp, ho, run_makeMap]
theorem runs_len {t e : TypeId} {x n : Nat} {ad : Option Addr} {c : Nat} (ht : P.underlying t = some (.slice e)) (hx : tv a x = .slice ad n c) : RunsTo P (.call { callee := .builtin .len, args := #[.tmp x], argTypes := #[t] }) a w (.int .i64 n) w :=
  runs_of fun o ho => by simp [execOp, ho, resolve, invoke, builtin, Builtin.len_, run_underlying ht, Act.eval, show a.tmps.getD x undef = _ from hx, goInt]
theorem runs_lss {x y : Nat} {t t2 : TypeId} {p q : Int} (hx : tv a x = .int .i64 p) (hy : tv a y = .int .i64 q) : RunsTo P (.binOp .lss t (.tmp x) (.tmp y) t2) a w (.bool (decide (p < q))) w :=
  runs_of fun o ho => by
    have hg : ∀ op, (eqGuard op t (.tmp x) (.tmp y) (.int .i64 p) (.int .i64 q)).run P w = .ok () w := by intro op; cases op <;> simp [eqGuard]
    obtain ⟨v, hr, hx'⟩ := run_binInt (P := P) (w := w) (t := t) (M := fun _ => False) (G := Gh0) (op := .lss) (k := .i64) (p := p) (q := q) rfl (by intro h; cases h) (by intro h; cases h)
    rw [hx'.bool_inv] at hr
    simp [execOp, ho, Act.eval, show a.tmps.getD x undef = _ from hx, show a.tmps.getD y undef = _ from hy, hg, hr]
theorem runs_eqc {x : Nat} {t t2 : TypeId} {p q : Int} (hx : tv a x = .int .i64 p) : RunsTo P (.binOp .eql t (.tmp x) (.const (.int .i64 q)) t2) a w (.bool (decide (p = q))) w :=
  runs_of fun o ho => by
    have hg : ∀ op, (eqGuard op t (.tmp x) (.const (.int .i64 q)) (.int .i64 p) (.int .i64 q)).run P w = .ok () w := by intro op; cases op <;> simp [eqGuard]
    obtain ⟨v, hr, hx'⟩ := run_binInt (P := P) (w := w) (t := t) (M := fun _ => False) (G := Gh0) (op := .eql) (k := .i64) (p := p) (q := q) rfl (by intro h; cases h) (by intro h; cases h)
    rw [hx'.bool_inv] at hr
    simp [execOp, ho, Act.eval, show a.tmps.getD x undef = _ from hx, hg, hr]
theorem runs_addc {x : Nat} {t t2 : TypeId} {p q : Int} (hx : tv a x = .int .i64 p) : RunsTo P (.binOp .add t (.tmp x) (.const (.int .i64 q)) t2) a w (.int .i64 (IntKind.i64.wrap (p + q))) w :=
  runs_of fun o ho => by
    have hg : ∀ op, (eqGuard op t (.tmp x) (.const (.int .i64 q)) (.int .i64 p) (.int .i64 q)).run P w = .ok () w := by intro op; cases op <;> simp [eqGuard]
    obtain ⟨v, hr, hx'⟩ := run_binInt (P := P) (w := w) (t := t) (M := fun _ => False) (G := Gh0) (op := .add) (k := .i64) (p := p) (q := q) rfl (by intro h; cases h) (by intro h; cases h)
    rw [hx'.int_inv] at hr
    simp [execOp, ho, Act.eval, show a.tmps.getD x undef = _ from hx, hg, hr]
theorem runs_ld {t : TypeId} {x n b : Nat} {cur : Array Value} {T : TypeId} (ht : aggN P t = some (some n)) (hx : tv a x = .pointer (some ⟨b, 0, none⟩)) (hh : w.heap[b]? = some (.cells cur T (0, 0))) (hn : cur.size = n) : RunsTo P (.load t (.tmp x)) a w (.agg cur) w :=
  runs_of fun o ho => by
    have := loadVar_agg (P := P) (w := w) (ad := ⟨b, 0, none⟩) ht (vs := cur.toList) (by simpa using hn) fun i v hv => by rw [add_mid, Nat.zero_add]; exact cell_block hh hv
    exact run_load ho hx (by simpa using this)
theorem runs_bsl {t e : TypeId} {x k : Nat} {i : TypeInfo} {z : Value} {cs : Array Value} (ht : P.underlying t = some (.slice e)) (hi : P.info? e = some i) (hz : i.zero = some z) (hs : i.size = k) (hk : 0 < k) (hsm : k ≤ 16777216) (hx : (tv a x).cells = cs) (hcs : cs.size = k) :
    RunsTo P (.buildSlice t 1 #[(0, .tmp x)]) a w (.slice (some ⟨w.heap.size, 0, none⟩) 1 1) (w.alloc (.cells cs e)) :=
  runs_of fun o ho => by
    have hl0 : ¬ (i.size = 0) := by omega
    have hsm' : ¬ (16777216 < i.size) := by omega
    obtain ⟨zs, hzs'⟩ : ∃ zs, zs = (Array.range i.size).map (fun j => z.cells[j % z.cells.size]!) := ⟨_, rfl⟩
    have hzl : zs.size = k := by rw [hzs']; simp [hs]
    have hfl : Instr.fill (fun j => some (j * i.size, i.size)) zs [(0, tv a x)] = some cs := by
      simp only [Instr.fill, Nat.zero_mul, hx]
      rw [if_neg (by rw [hs, hcs, hzl]; simp)]
      congr 1
      apply Array.toList_inj.1
      rw [fill_cells 0 cs zs (by rw [hcs, hzl]; omega)]
      rw [List.take_zero, List.nil_append, List.drop_eq_nil_of_le (by rw [Array.length_toList, hzl, hcs]; omega), List.append_nil]
    have hfl2 : Instr.fill (fun j => some (j * i.size, i.size)) (Array.map (fun x => z.cells[x % z.cells.size]!) (Array.range i.size)) [(0, a.tmps.getD x undef)] = some cs := by rw [← hzs']; exact hfl
    simp [execOp, ho, Instr.buildSlice, run_underlying ht, sizeOf, typeInfo, zeroValue, hi, hz, hl0, hsm', Act.eval] at hfl2 ⊢
    simp [hfl2, run_newRow]
theorem runs_app {t e : TypeId} {s x k bytes base n : Nat} {i : TypeInfo} {z : Value} (ht : P.underlying t = some (.slice e)) (hi : P.info? e = some i) (hz : i.zero = some z) (hzs : z.cells.size = k) (hs : i.size = k) (hby : i.bytes = bytes) (hk : 0 < k)
    {xs news : List Value} {ad : Addr} (hown : w.ownsRow base e k (tv a s) n xs) (hx : tv a x = .slice (some ad) 1 1) (hl : news.length = k) (hnews : ∀ j u, news[j]? = some u → w.cell? (ad.add j) = some u) (h1 : ∀ u ∈ news, u.oneCell' = true)
    (h63 : n + 1 ≤ maxLen) (hbytes : (n + 1) * bytes ≤ 140737488355328) (hbase : base ≤ w.heap.size) :
    ∃ v' w', RunsTo P (.call { callee := .builtin .append, args := #[.tmp s, .tmp x], argTypes := #[t, t] }) a w v' w' ∧ w'.ownsRow base e k v' (n + 1) (xs ++ news) ∧ w.grownBy w' (tv a s).ownBlock ∧ (v'.ownBlock = (tv a s).ownBlock ∨ v'.ownBlock = some w.heap.size) := by
  have key := fun ty => run_append_own_at (P := P) w base t ty e i z k bytes ht hi hz hs hby hzs hk (tv a s) n xs hown ad 1 1 news (by rw [hl, Nat.one_mul]) hnews h1 h63 hbytes hbase
  obtain ⟨v', w', r1, r2, r3, _, r5⟩ := key 0
  refine ⟨v', w', runs_of fun o ho => ?_, r2, r3, r5⟩
  have : (Builtin.append_ #[t, t] o.type #[tv a s, .slice (some ad) 1 1]).run P w = .ok v' w' := r1
  simp only [execOp, ho, resolve, invoke, builtin, Sem.run_bind, Sem.run_pure, Result.andThen_ok, List.map_toArray, List.map_cons, List.map_nil, Act.eval, show a.tmps.getD x undef = _ from hx]
  rw [show a.tmps.getD s undef = tv a s from rfl, this]
  rfl
theorem runs_look {t : TypeId} {m x : Nat} {mv kx v : Value} (hm : tv a m = mv) (hx : tv a x = kx) (hr : (Instr.lookup t mv kx false).run P w = .ok v w) : RunsTo P (.lookup t (.tmp m) (.tmp x) false) a w v w :=
  runs_of fun o ho => by simp [execOp, ho, Act.eval, show a.tmps.getD m undef = _ from hm, show a.tmps.getD x undef = _ from hx, hr]
theorem runs_me {t : TypeId} {m x : Nat} {mv kx v : Value} {w' : World} (hm : tv a m = mv) (hx : tv a x = kx) (hr : (Instr.mapEntry t mv kx).run P w = .ok v w') : RunsTo P (.mapEntry t (.tmp m) (.tmp x)) a w v w' :=
  runs_of fun o ho => by simp [execOp, ho, Act.eval, show a.tmps.getD m undef = _ from hm, show a.tmps.getD x undef = _ from hx, hr]
theorem runs_es {t : TypeId} {m s x : Nat} {mv sv xv : Value} {w' : World} (hm : tv a m = mv) (hs : tv a s = sv) (hx : tv a x = xv) (hr : (Instr.entryStore t mv sv xv).run P w = .ok () w') : RunsTo P (.entryStore t (.tmp m) (.tmp s) (.tmp x)) a w undef w' :=
  runs_skip fun o ho => by simp [execOp, ho, Act.eval, show a.tmps.getD m undef = _ from hm, show a.tmps.getD s undef = _ from hs, show a.tmps.getD x undef = _ from hx, hr]
theorem runs_ex {x i : Nat} {vs : Array Value} {v : Value} (hx : tv a x = .tuple vs) (hv : vs[i]? = some v) : RunsTo P (.extract (.tmp x) i) a w v w :=
  runs_of fun o ho => by simp [execOp, ho, Act.eval, show a.tmps.getD x undef = _ from hx, Instr.extract, hv]
end

/-! ### out of the logic, and back -/
theorem Fr.tr {rb : Option Nat} {a b c : World} (h : Fr rb a b) (k : Fr rb b c) : Fr rb a c := ⟨k.os.trans h.os, k.tape.trans h.tape, k.output.trans h.output, Nat.le_trans h.size k.size, fun i hi hne => (k.block i (Nat.lt_of_lt_of_le hi h.size) hne).trans (h.block i hi hne)⟩
theorem fr_grown {w w' : World} (h : Fr none w w') : w.grownBy w' none := ⟨h.os, h.tape, h.output, h.size, fun k hk _ => h.block k hk (by simp)⟩
theorem stays_grown {w w' : World} {row : Option Nat} {M M' : Nat → Prop} (h : w.grownBy w' row) (hr : ∀ b, row = some b → M b) (hM : ∀ b, b < w.heap.size → ¬ M b → ¬ M' b) : Stays w w' M M' := by
  have key : ∀ b, ¬ M b → b < w.heap.size → w'.heap[b]? = w.heap[b]? := fun b hb hlt => h.block b hlt fun e => hb (hr b e.symm)
  exact ⟨fun a v hc hm => ⟨(World.cell?_of_block (key _ hm (cell_lt hc))).trans hc, hM _ (cell_lt hc) hm⟩, fun b _ _ hb hm => ⟨(key b hm (Array.getElem?_eq_some_iff.1 hb).1).trans hb, hM _ (Array.getElem?_eq_some_iff.1 hb).1 hm⟩⟩
theorem Stays.trans {a b c : World} {M M' M'' : Nat → Prop} (h : Stays a b M M') (k : Stays b c M' M'') : Stays a c M M'' :=
  ⟨fun p v hp hm => let ⟨h1, h2⟩ := h.c p v hp hm; k.c p v h1 h2, fun p es ck hp hm => let ⟨h1, h2⟩ := h.m p es ck hp hm; k.m p es ck h1 h2⟩
theorem row_sl {w : World} {M : Nat → Prop} {G : Gh} {base e k : Nat} {v : Value} {es : List (List PV)} {vs : List Value} (h : w.ownsRow base e k v es.length vs) (hk : ∀ x ∈ es, x.length = k) (hr : RepL w M Gh0 es.flatten vs) (hM : ∀ b, v.ownBlock = some b → ¬ M b) : Rep w M G (.sl es) v := by
  rcases h.2 with ⟨rfl, h0⟩ | ⟨g, cap, cur, rfl, h1, h2, h3, h4, h5, h6⟩
  · rw [List.eq_nil_of_length_eq_zero h0]
    exact .slnil
  · refine .sl es ⟨g, 0, none⟩ cap k vs hk hr.1 (fun i u hu => ⟨?_, hM g rfl⟩) hr.2 h3 h4
    rw [add_mid, Nat.zero_add]
    refine cell_block h2 ?_
    rw [← h6, List.getElem?_take] at hu
    split at hu
    · exact hu
    · cases hu
theorem one_cells {w : World} {M : Nat → Prop} {G : Gh} {cs : List PV} {vs : List Value} (h : RepL w M G cs vs) (h1 : ∀ y ∈ cs, y.one = true) : ∀ u ∈ vs, u.oneCell' = true := by
  intro u hu
  obtain ⟨i, hi, rfl⟩ := List.mem_iff_getElem.1 hu
  have hx : i < cs.length := by rw [← h.1]; exact hi
  exact ((h.2 i cs[i] vs[i] (List.getElem?_eq_getElem hx) (List.getElem?_eq_getElem hi)).one (h1 _ (List.getElem_mem hx))).1
section
variable {P : Program} {U : TU} {K : TK U} {nt : Nat} {E : En} {a : Act} {w : World} {L : Nat → Value}
theorem box_out {S : KSt U} (h : Rel E S.st a w L) {t id ver : Nat} {T : U.Ty} {cs : List (KV U)} {d : U.den T} (he : S.env t = .ptr id ver 0) (hb : S.box? id ver = some cs) (hd : K.dec T noLk cs = some d) {M : Nat → Prop} (hM : ∀ b, M b → E.X b) :
    ∃ (b : Nat) (cur : Array Value) (Ty : TypeId), tv a t = .pointer (some ⟨b, 0, none⟩) ∧ w.heap[b]? = some (.cells cur Ty (0, 0)) ∧ RepL w M Gh0 (U.pv T d) cur.toList ∧ (E.rb = some b ∨ E.w0.heap.size ≤ b) := by
  obtain ⟨h1, h2⟩ := box_st hb
  have r := h.env t
  have he' : S.st.env t = .ptr id ver 0 := by simp only [KSt.st, he, KV.pv]
  rw [he'] at r
  obtain ⟨hN, hv⟩ := r.ptr_inv (show (S.st.gh L).V id = ver from h1)
  obtain ⟨b, cur, Ty, q1, q2, q3, q4⟩ := h.box_at hN h2
  refine ⟨b, cur, Ty, ?_, q2, ?_, q4⟩
  · have q1' : (S.st.gh L).L id = .pointer (some ⟨b, 0, none⟩) := q1
    rw [q1'] at hv
    exact hv
  · obtain ⟨h5, h6⟩ := cells_nz (K.dec_ok T noLk cs d hd)
    have h7 := q3.nz
    rw [h5] at h7
    refine RepL.closed (List.all_eq_true.2 fun y hy => good_closed (K.good T d y hy)) (fun b hb => .inr (hM b hb)) h7
theorem seqV {x y : Code} {sx : SA U} {ρ : Type} {Γ : List (KFun U)} (hΓ : AllK P Γ) {k0 : Exit → KSt U → Option ρ} {S : KSt U} {r : ρ} {hs : List Nat} {Q : Exit → Act → World → Prop} (hc : ccode P nt hs x = some sx.erase) (hok : sx.okc = true) (h : evK K Γ sx [] (some (0, [])) k0 S = some r)
    (hE : E.nt = nt) (hk : COk E x) (hrel : Rel E S.st a w L) (hK : ∀ e S' a' w' L', Rel E S'.st a' w' L' → k0 e S' = some r → Exit.then (y.wpIn (WF E.rd) 0 P Q) Q e a' w') : (Code.seq x y).wpIn (WF E.rd) 0 P Q a w := by
  refine wpIn_seq (wpIn_mono (evK_sound (P := P) (nt := nt) (K := K) hΓ sx [] (some (0, [])) k0 S r hok h x hs hc E hE hk a w L hrel) ?_)
  rintro e a' w' ⟨A, L', h1, S', rfl, _, h3⟩
  exact hK e S' a' w' L' h1 h3
end
/-- an operation among operations -/
theorem wpList_run {P : Program} {rd : Option Nat} {ops : Array Oper} {Q : Exit → Act → World → Prop} {o : Oper} {l : List Oper} {a : Act} {w : World} {d : Option Nat} {p : Op} {v : Value} {w' : World} (h1 : o.dst = d) (h2 : o.op = p) (h3 : o.guard = none) (hnd : ∀ c, p ≠ .defer c)
    (hr : RunsTo P p a w v w') (hK : wpListIn (WF rd) 0 P ops Q l (a.put d v) w') : wpListIn (WF rd) 0 P ops Q (o :: l) a w := by
  refine wpListIn_plain h3 fun K hK' => ?_
  obtain ⟨nx, h8, h9⟩ := hr o h2
  have hk := hK' _ _ hK
  rw [← h1] at hk
  unfold Oper.wpIn
  rw [Oper.semAt_eq _ _ _ (fun c => by rw [h2]; exact hnd c), h8]
  rcases h9 with rfl | ⟨rfl, rfl⟩ <;> exact ⟨fun _ _ => trivial, hk⟩
/-- a call among operations -/
theorem wpList_call {P : Program} {rd : Option Nat} {ops : Array Oper} {Q : Exit → Act → World → Prop} {o : Oper} {l : List Oper} {a : Act} {w : World} {f : FuncId} {args : Array Value} {R : Ending → World → Prop} (hg : o.guard = none) (hnd : ∀ c, o.op ≠ .defer c)
    (hrun : (execOp a.eval o).run P w = .ok (.enter f args) w) (hcall : Calls P f args w R) (hK : ∀ e w', R e w' → ∃ v, e = .returned v ∧ wpListIn (WF rd) 0 P ops Q l (a.put o.dst v) w') : wpListIn (WF rd) 0 P ops Q (o :: l) a w := by
  refine wpListIn_plain hg fun K hK' => ?_
  unfold Oper.wpIn
  rw [Oper.semAt_eq _ _ _ hnd, hrun]
  refine ⟨fun _ _ => trivial, (fun h => by cases h), callsIn_wf.2 (Calls.mono hcall ?_)⟩
  intro e w' hR
  obtain ⟨v, rfl, h⟩ := hK e w' hR
  exact hK' _ _ h
end Go.TQ
