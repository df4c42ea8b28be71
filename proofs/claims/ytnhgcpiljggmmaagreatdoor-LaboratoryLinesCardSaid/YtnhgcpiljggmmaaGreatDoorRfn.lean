/-
  A loop over slices.Backward. Conditions: none (generic in the program).
-/
import Derived.Test.YtnhgcpiljggmmaaGreatDoorBack
namespace Go.TQ
open Go.RowKit

section
variable {P : Program} {E : En} {S : St} {a : Act} {w : World} {L : Nat → Value}
/-- cells stay; the frame is another one -/
theorem Rel.reframe (h : Rel E S a w L) {w' : World} {a' : Act} {env' : Nat → PV} (rd : Option Nat) (nd : Bool) (kt : Nat → Option Value) (wk : World)
    (hc : ∀ (b : Nat) (o : Obj), w.heap[b]? = some o → isCM o = true → w'.heap[b]? = some o) (he : ∀ t, Rep w (mutb E S L) (S.gh L) (env' t) (a'.tmps.getD t undef))
    (hm : Marks { E with rd := rd, nd := nd, kt := kt, wk := wk } a' w') (hs : a'.tmps.size = E.nt ∧ ∀ t v, kt t = some v → a'.tmps.getD t undef = v) (hf : FrE { E with rd := rd, nd := nd, kt := kt, wk := wk } w') :
    Rel { E with rd := rd, nd := nd, kt := kt, wk := wk } { S with env := env' } a' w' L := by
  have hcell : ∀ (p : Addr) (v : Value), w.cell? p = some v → w'.heap[p.block]? = w.heap[p.block]? := by
    intro p v hp
    unfold World.cell? at hp
    cases ho : w.heap[p.block]? with
    | none => rw [ho] at hp; simp at hp
    | some o =>
      refine hc _ o ho ?_
      rw [ho] at hp
      cases o <;> first | rfl | (simp at hp)
  have hst : Stays w w' (mutb E S L) (mutb E S L) := ⟨fun p v hp hn => ⟨(World.cell?_of_block (hcell p v hp)).trans hp, hn⟩, fun b _ _ hb hn => ⟨hc b _ hb rfl, hn⟩⟩
  refine ⟨hm, hs, fun t => (he t).mono hst (Gh.le.refl _), fun id hid => ?_, h.apart, h.fresh, hf, h.rcv⟩
  have ho := h.obj id hid
  cases hl : (S.H id).c.live with
  | false =>
    cases hcc : (S.H id).c with
    | dead => trivial
    | box cs => rw [hcc] at hl; cases hl
    | row e k es => rw [hcc] at hl; cases hl
  | true =>
    have := ObjOk.mono (w' := w') hst (Gh.le.refl _) (fun b hb _ => by
      obtain ⟨o, h1, h2⟩ := ho.cells hl hb
      rw [h1]
      exact hc b o h1 (isCM_of h2)) ho
    cases hcc : (S.H id).c with
    | dead => trivial
    | box cs => rw [hcc] at this; exact this
    | row e k es => rw [hcc] at this; exact this
theorem Fr.putObj {rb : Option Nat} {w0 : World} (h : Fr rb w0 w) {l : Nat} (hl : w0.heap.size ≤ l) (o : Obj) : Fr rb w0 (w.putObj l o) :=
  ⟨h.os, h.tape, h.output, by rw [World.putObj_size]; exact h.size, fun b hb hr => by rw [World.putObj_heap_other (by omega)]; exact h.block b hb hr, h.drawn⟩
/-- what is not set -/
def St.dropT (S : St) (D : List Nat) : St := { S with env := fun t => if t ∈ D then .any else S.env t }
theorem Rel.drop (h : Rel E S a w L) (D : List Nat) : Rel E (S.dropT D) a w L :=
  ⟨h.defers, h.size, fun t => by
    show Rep _ _ _ (if t ∈ D then .any else S.env t) _
    split
    · exact .any _
    · exact h.env t, h.obj, h.apart, h.fresh, h.fr, h.rcv⟩

theorem oth_put {x : World} (h : Oth x w) {l : Nat} (hl : x.heap.size ≤ l) (o : Obj) : Oth x (w.putObj l o) :=
  ⟨by rw [World.putObj_size]; exact h.size, fun k p hk hp => by
    have hlt : k < x.heap.size := (Array.getElem?_eq_some_iff.1 hk).1
    rw [World.putObj_heap_other (by omega)]
    exact h.same k p hk hp⟩
theorem cells_put {l : Nat} {o : Obj} (hl : w.heap[l]? = some o) (ho : isCM o = false) (o' : Obj) : ∀ (b : Nat) (q : Obj), w.heap[b]? = some q → isCM q = true → (w.putObj l o').heap[b]? = some q := by
  intro b q hb hq
  have : b ≠ l := by
    intro e
    subst e
    rw [hl] at hb
    injection hb with hb
    subst hb
    rw [ho] at hq
    cases hq
  rw [World.putObj_heap_other this]
  exact hb
/-- how a round leaves the loop -/
def jumpOf : Exit → Option Code
  | .ret => some .ret
  | .exit i => some (.exit i)
  | .goto l => some (.goto l)
  | _ => none
/-- memory that stands for the one stands for another of which this holds -/
def Weak (I : St → Prop) (S : St) : Prop := ∃ S', (∀ (E : En) (a : Act) (w : World) (L : Nat → Value), Rel E S a w L → ∃ L', Rel E S' a w L') ∧ I S'
theorem Weak.of {I : St → Prop} {S : St} (h : I S) : Weak I S := ⟨S, fun _ _ _ L h => ⟨L, h⟩, h⟩
/-- what a round must show -/
def rndQ (D : List Nat) (I : St → Prop) (Q : Exit → St → Prop) : Exit → St → Prop
  | .normal, T => Weak I (T.dropT D)
  | .ret, T => Q .ret (T.dropT D)
  | .exit i, T => Q (.exit i) (T.dropT D)
  | .goto l, T => Q (.goto l) (T.dropT D)
  | _, _ => False

theorem fold2 (ts : Array Value) (p0 p1 : Nat) (u v : Value) : (#[p0, p1].zip #[u, v]).foldl (fun tmps x => match x with | (t, a) => tmps.setIfInBounds t a) ts = (ts.setIfInBounds p0 u).setIfInBounds p1 v := by
  rw [← Array.foldl_toList, Array.toList_zip]
  rfl

theorem get2 {ts : Array Value} {p0 p1 t : Nat} {u v : Value} (h0 : p0 < ts.size) (h1 : p1 < ts.size) : ((ts.setIfInBounds p0 u).setIfInBounds p1 v).getD t undef = if t = p1 then v else if t = p0 then u else ts.getD t undef := by
  simp only [Array.getD_eq_getD_getElem?]
  by_cases q1 : t = p1
  · subst q1
    rw [if_pos rfl, Array.getElem?_setIfInBounds_self_of_lt (by simpa using h1)]
    rfl
  · rw [if_neg q1, Array.getElem?_setIfInBounds_ne (fun e => q1 e.symm)]
    by_cases q0 : t = p0
    · subst q0
      rw [if_pos rfl, Array.getElem?_setIfInBounds_self_of_lt h0]
      rfl
    · rw [if_neg q0, Array.getElem?_setIfInBounds_ne (fun e => q0 e.symm)]

theorem V_back {nt : Nat} {tg p0 p1 : Nat} {assign body : Code} {f : FuncId} {k : Nat} {nE : Option Nat} {es : List (List PV)} {Q : Exit → St → Prop} (hf : FnOk P f 19 (backSC k nE) []) (hin : BackIn k nE es) (hna : noRf assign = true) (hnb : noRf body = true)
    (hp0 : p0 < nt) (hp1 : p1 < nt) (_htg : tg ∉ csets (.rangeFunc (.tmp tg) #[p0, p1] assign body)) (I : Nat → St → Prop)
    (h0 : Weak (I es.length) (S.dropT (csets (.rangeFunc (.tmp tg) #[p0, p1] assign body)))) (hI : ∀ i T, I i T → T.env tg = .clo f [.ref [.sl es]])
    (hround : ∀ m T e, I (m + 1) T → es[m]? = some e → V P nt assign (seqQ (V P nt body (rndQ (csets (.rangeFunc (.tmp tg) #[p0, p1] assign body)) (I m) Q)) (fun _ _ => False)) { T with env := upd (upd T.env p0 (.int .i64 m)) p1 (evB nE e) })
    (hend : ∀ T, I 0 T → Q .normal T) : V P nt (.rangeFunc (.tmp tg) #[p0, p1] assign body) Q S := by
  intro E hE hk a w L hrel
  generalize hD : csets (.rangeFunc (.tmp tg) #[p0, p1] assign body) = D at *
  have hk1 : ∀ t ∈ D, E.kt t = none := by rw [← hD]; exact hk.1
  obtain ⟨hrd, hnd⟩ : E.rd = none ∧ E.nd = false := by
    rcases hk.2 with h | h
    · exact h
    · cases h
  have hDa : ∀ t ∈ csets assign, t ∈ D := by rw [← hD]; intro t ht; simp only [csets, List.mem_append]; exact .inl (.inr ht)
  have hDb : ∀ t ∈ csets body, t ∈ D := by rw [← hD]; intro t ht; simp only [csets, List.mem_append]; exact .inr ht
  have hD0 : p0 ∈ D := by rw [← hD]; simp [csets]
  have hD1 : p1 ∈ D := by rw [← hD]; simp [csets]
  -- the closure
  have hclo : ∀ {i : Nat} {T : St} {w' : World} {L' : Nat → Value}, I i T → Rel E T a w' L' → ∃ c, a.tmps.getD tg undef = .func (.func f) #[] #[c] ∧ Rep w' (mutb E T L') Gh0 (.ref [.sl es]) c := by
    intro i T w' L' hi hr
    have := hr.env tg
    rw [hI i T hi] at this
    obtain ⟨vs, hv, hrv⟩ := this.clo_inv
    obtain ⟨c, vs', rfl, hc, hr'⟩ := hrv.cons_inv
    have := hr'.nil_inv
    subst this
    exact ⟨c, hv, hc.closed rfl (fun b hb => hb)⟩
  obtain ⟨S0, hw0, h0⟩ := h0
  obtain ⟨L, hrel0⟩ := hw0 E a w L (hrel.drop D)
  obtain ⟨c, hgv, hc0⟩ := hclo h0 hrel0
  rw [hrd]
  refine wpIn_rangeFunc ?_
  intro fn _
  obtain ⟨rec, hrec⟩ : ∃ rec : LoopState → Option Code → Loop, rec = fun st pe => { state := st, pending := pe, fn, tmps := a.tmps, params := #[p0, p1], assign, body, defers := w.heap.size } := ⟨_, rfl⟩
  obtain ⟨W1, hW1⟩ : ∃ W1, (w.alloc (.deferred (some []))).alloc (.loop (rec .ready none)) = W1 := ⟨_, rfl⟩
  have hL1 : W1.heap[w.heap.size + 1]? = some (.loop (rec .ready none)) := by
    rw [← hW1]; have := World.alloc_heap_new (w.alloc (.deferred (some []))) (.loop (rec .ready none)); rwa [World.size_alloc] at this
  have hK1 : W1.heap[w.heap.size]? = some (.deferred (some [])) := by
    rw [← hW1]; exact (Below.heap_alloc _ _ _ (by simp)).trans (World.alloc_heap_new w _)
  -- between two rounds
  let J : Nat → (Nat → Prop) → World → Prop := fun i X W => ∃ T L', X = mutb E T L' ∧ I i T ∧ Rel E T a W L' ∧ W.heap[w.heap.size + 1]? = some (.loop (rec .ready none)) ∧ W.heap[w.heap.size]? = some (.deferred (some []))
  let Jx : World → Prop := fun W => ∃ en j T L', jumpOf en = some j ∧ Q en T ∧ Rel E T a W L' ∧ W.heap[w.heap.size + 1]? = some (.loop (rec .done (some j))) ∧ W.heap[w.heap.size]? = some (.deferred (some []))
  have grow : ∀ {T : St} {L' : Nat → Value} {W' W'' : World}, Rel E T a W' L' → Fr none W' W'' → Rel E T a W'' L' := fun h hf => (h.grow hf.os hf.tape hf.output hf.size (fun b hb => hf.block b hb (by simp)) hf.drawn).1
  have keep : ∀ {W' W'' : World} {b : Nat} {o : Obj}, Fr none W' W'' → W'.heap[b]? = some o → W''.heap[b]? = some o := fun hf hb => by rw [hf.block _ (Array.getElem?_eq_some_iff.1 hb).1 (by simp)]; exact hb
  have hE0 : E.w0.heap.size ≤ w.heap.size := hrel.fr.size
  have hEk : E.wk.heap.size ≤ w.heap.size := hrel.fr.ko.size
  have hW1s : ∀ (b : Nat), b < w.heap.size → W1.heap[b]? = w.heap[b]? := by
    intro b hb
    rw [← hW1]
    exact (Below.heap_alloc _ _ _ (by simp; omega)).trans (Below.heap_alloc _ _ _ hb)
  have hrel1 : Rel E S0 a W1 L := (hrel0.grow (w' := W1) (by rw [← hW1]; rfl) (by rw [← hW1]; rfl) (by rw [← hW1]; rfl) (by rw [← hW1]; simp; omega) hW1s (by rw [← hW1]; exact DL.of (Nat.le_refl _))).1
  have old : ∀ d ∈ a.defers, ∃ Do, d = { target := .collected Do, args := #[] } ∧ E.w0.heap.size ≤ Do ∧ Do < w.heap.size := by
    intro d hd
    obtain ⟨Do, q1, q2, q3⟩ := hrel.defers.at_ d hd
    exact ⟨Do, q1, q2, (Array.getElem?_eq_some_iff.1 q3).1⟩
  -- a round
  have hrounds : ∀ (m : Nat) (X : Nat → Prop) (W' : World) (e : List PV) (v : Value), J (m + 1) X W' → es[m]? = some e → Rep W' X Gh0 (evB nE e) v → YieldB P (w.heap.size + 1) m v W' fun en W'' => (en = .returned (.bool true) ∧ ∃ X, J m X W'') ∨ (en = .returned (.bool false) ∧ Jx W'') := by
    rintro m X W' e v ⟨T, L', rfl, hi, hr, hl, hk⟩ hem hrep
    refine ⟨fn, (a.tmps.setIfInBounds p0 (.int .i64 m)).setIfInBounds p1 v, assign, body, by rw [run_yield hl (by rw [hrec]; rfl)]; simp only [hrec]; rw [← fold2], ?_⟩
    refine roundIn_of_wpIn (F := WF none) trivial ?_
    -- the round's frame
    let E1 : En := { E with rd := some (w.heap.size + 1), nd := true, kt := fun t => if t ∈ D then none else some (a.tmps.getD t undef), wk := W' }
    have hget : ∀ t, ((a.tmps.setIfInBounds p0 (.int .i64 m)).setIfInBounds p1 v).getD t undef = if t = p1 then v else if t = p0 then .int .i64 m else a.tmps.getD t undef := by
      intro t
      exact get2 (by rw [hr.size.1, hE]; exact hp0) (by rw [hr.size.1, hE]; exact hp1)
    have hrel2 : Rel E1 { T with env := upd (upd T.env p0 (.int .i64 m)) p1 (evB nE e) } { tmps := (a.tmps.setIfInBounds p0 (.int .i64 m)).setIfInBounds p1 v, defers := [] } W' L' := by
      refine hr.reframe (some (w.heap.size + 1)) true _ W' (fun _ _ hb _ => hb) (fun t => ?_) (Marks.nil rfl) ⟨by simp only [Array.size_setIfInBounds]; exact hr.size.1, fun t u hu => ?_⟩ ⟨hr.fr.toFr, Oth.refl _⟩
      · simp only
        rw [hget t]
        simp only [upd]
        split
        · exact hrep.mono (Stays.of fun _ hn => hn) (Gh0.le _)
        · split
          · exact .int _ _
          · exact hr.env t
      · simp only at hu ⊢
        rw [hget t]
        split at hu
        · cases hu
        · rename_i hnt
          injection hu with hu
          rw [if_neg (fun e : t = p1 => hnt (by rw [e]; exact hD1)), if_neg (fun e : t = p0 => hnt (by rw [e]; exact hD0)), hu]
    have hV := hround m T e hi hem
    have hw1 := hV E1 hE ⟨fun t ht => if_pos (hDa t ht), .inr hna⟩ _ W' L' hrel2
    refine wpIn_mono hw1 ?_
    rintro en a1 w1 ⟨S1, L1, hr1, hq1⟩
    cases en with
    | exit i => exact hq1.elim
    | goto i => exact hq1.elim
    | ret => exact hq1.elim
    | panic ch => exact hq1.elim
    | outgrown => exact hq1.elim
    | normal =>
      have hl1 : w1.heap[w.heap.size + 1]? = some (.loop (rec .ready none)) := hr1.fr.ko.same _ _ hl rfl
      have hd1 : a1.defers = [] := hr1.defers.none rfl
      refine ⟨_, run_beginRound hl1 (by rw [hrec]), ?_⟩
      -- the body
      generalize hw2 : w1.putObj (w.heap.size + 1) (.loop { rec .ready none with state := .busy }) = w2
      have hrec2 : ({ rec .ready none with state := .busy } : Loop) = rec .busy none := by rw [hrec]
      rw [hrec2] at hw2
      have hlt1 : w.heap.size + 1 < w1.heap.size := (Array.getElem?_eq_some_iff.1 hl1).1
      have hl2 : w2.heap[w.heap.size + 1]? = some (.loop (rec .busy none)) := by rw [← hw2]; exact World.putObj_heap_same hlt1
      have hrel3 : Rel { E with rd := some (w.heap.size + 1), nd := true, kt := fun t => if t ∈ D then none else some (a.tmps.getD t undef), wk := w2 } S1 a1 w2 L1 := by
        refine hr1.reframe (some (w.heap.size + 1)) true _ w2 (by rw [← hw2]; exact cells_put hl1 rfl _) (fun t => hr1.env t) (Marks.nil hd1) hr1.size ⟨?_, Oth.refl _⟩
        rw [← hw2]
        exact hr1.fr.toFr.putObj (by show E.w0.heap.size ≤ _; omega) _
      have hw3 := hq1 { E with rd := some (w.heap.size + 1), nd := true, kt := fun t => if t ∈ D then none else some (a.tmps.getD t undef), wk := w2 } hE ⟨fun t ht => if_pos (hDb t ht), .inr hnb⟩ a1 w2 L1 hrel3
      refine wpIn_mono hw3 ?_
      rintro en a3 w3 ⟨S3, L3, hr3, hq3⟩
      have hl3 : w3.heap[w.heap.size + 1]? = some (.loop (rec .busy none)) := hr3.fr.ko.same _ _ hl2 rfl
      have hlt3 : w.heap.size + 1 < w3.heap.size := (Array.getElem?_eq_some_iff.1 hl3).1
      -- what else there is stays
      have stay : ∀ (b : Nat) (o : Obj), b ≠ w.heap.size + 1 → W'.heap[b]? = some o → isC o = false → ∀ o', (w3.putObj (w.heap.size + 1) o').heap[b]? = some o := by
        intro b o hne hb ho o'
        rw [World.putObj_heap_other hne]
        refine hr3.fr.ko.same b o ?_ ho
        rw [← hw2, World.putObj_heap_other hne]
        exact hr1.fr.ko.same b o hb ho
      have back : ∀ o', Rel E (S3.dropT D) a (w3.putObj (w.heap.size + 1) o') L3 := by
        intro o'
        have := hr3.reframe (w' := w3.putObj (w.heap.size + 1) o') (a' := a) (env' := (S3.dropT D).env) E.rd E.nd E.kt E.wk (cells_put hl3 rfl _) (fun t => by
            show Rep _ _ _ (if t ∈ D then .any else S3.env t) _
            split
            · exact .any _
            · rename_i hnt
              have h4 := hr3.size.2 t (a.tmps.getD t undef) (if_neg hnt)
              rw [← h4]
              exact hr3.env t) ⟨hr.defers.none, hr.defers.nodup, fun d hd => by
            obtain ⟨Do, q1, q2, q3⟩ := hr.defers.at_ d hd
            obtain ⟨Do', q4, _, q6⟩ := old d hd
            have : Do = Do' := by rw [q1] at q4; injection q4 with q4; injection q4
            subst this
            exact ⟨Do, q1, q2, stay Do _ (by omega) q3 rfl _⟩⟩ hr.size ⟨hr3.fr.toFr.putObj (by show E.w0.heap.size ≤ _; omega) _, ⟨by rw [World.putObj_size]; show E.wk.heap.size ≤ _; omega, fun b o hb ho => stay b o (by have hb' : b < E.wk.heap.size := (Array.getElem?_eq_some_iff.1 hb).1; omega) (hr.fr.ko.same b o hb ho) ho _⟩⟩
        exact this
      have hk3 : ∀ o', (w3.putObj (w.heap.size + 1) o').heap[w.heap.size]? = some (.deferred (some [])) := fun o' => stay _ _ (by omega) hk rfl o'
      have leave : ∀ j, jumpOf en = some j → Q en (S3.dropT D) → ∃ v w', (Instr.endRound (w.heap.size + 1) (some j)).run P w3 = .ok v w' ∧ ((Ending.returned v = .returned (.bool true) ∧ ∃ X, J m X w') ∨ (Ending.returned v = .returned (.bool false) ∧ Jx w')) := by
        intro j hj hq
        refine ⟨_, _, run_endRound (some j) hl3, .inr ⟨rfl, en, j, S3.dropT D, L3, hj, hq, back _, ?_, hk3 _⟩⟩
        rw [World.putObj_heap_same hlt3, hrec]
        rfl
      cases en with
      | normal =>
        obtain ⟨S5, hw5, hi5⟩ := hq3
        obtain ⟨L5, hr5⟩ := hw5 E a _ L3 (back _)
        refine ⟨_, _, run_endRound none hl3, .inl ⟨rfl, _, S5, L5, rfl, hi5, hr5, ?_, hk3 _⟩⟩
        rw [World.putObj_heap_same hlt3, hrec]
        rfl
      | ret => exact leave _ rfl hq3
      | exit i => exact leave _ rfl hq3
      | goto i => exact leave _ rfl hq3
      | panic ch => exact hq3.elim
      | outgrown => exact hq3.elim
  -- all rounds
  have hcalls := back_calls (P := P) (c := c) (l := w.heap.size + 1) hf hin J Jx
    (fun i X W ⟨T, L', hX, hi, hr, _, _⟩ => by
      subst hX
      obtain ⟨c', h1, h2⟩ := hclo hi hr
      rw [hgv] at h1
      injection h1 with _ _ h1
      have : c' = c := by have := congrArg (fun a : Array Value => a.toList) h1; simpa using this.symm
      subst this
      exact ⟨hr.xok fun b hb => hb, h2⟩)
    (fun i X W' W'' ⟨T, L', hX, hi, hr, hl, hk⟩ hfr => ⟨T, L', hX, hi, grow hr hfr, keep hfr hl, keep hfr hk⟩)
    (fun W' W'' ⟨en, j, T, L', h1, h2, hr, hl, hk⟩ hfr => ⟨en, j, T, L', h1, h2, grow hr hfr, keep hfr hl, keep hfr hk⟩) (fun W' ⟨en, j, T, L', h1, h2, hr, hl, hk⟩ => hr.gi)
    hrounds W1 (X := mutb E S0 L) ⟨S0, L, rfl, h0, hrel1, hL1, hK1⟩
  refine ⟨w.heap.size + 1, [{ target := .collected w.heap.size, args := #[] }], W1, { target := .fn (.func f) #[c], args := #[.func (.yield (w.heap.size + 1)) #[] #[]] }, W1, f, #[.func (.yield (w.heap.size + 1)) #[] #[], c], W1, ?_, ?_, fun _ _ => trivial, ?_, (fun h => by cases h), hcalls.mono ?_⟩
  · rw [← hW1, hrec]
    exact run_enterLoop_outer _ _ _ _ _
  · have : a.eval (.tmp tg) = .func (.func f) #[] #[c] := hgv
    have h2 : (#[] ++ #[Operand.const (Value.func (Fn.yield (w.heap.size + 1)) #[] #[])].map a.eval : Array Value) = #[.func (.yield (w.heap.size + 1)) #[] #[]] := by
      rw [Array.empty_append]
      simp [Act.eval]
    simp only [resolve, this, Deferred.ofValue]
    rw [h2]
    rfl
  · have hen : Enters P f := hf.enters
    simp only [invoke]
    exact run_callFunc hen _
  · rintro en W' ⟨⟨v, rfl⟩, hW'⟩
    have marks : ∀ {T : St} {L' : Nat → Value} (o' : Obj), Rel E T a W' L' → W'.heap[w.heap.size + 1]? = some o' → isCM o' = false → W'.heap[w.heap.size]? = some (.deferred (some [])) → ∀ o'', Rel E T { a with defers := [{ target := .collected w.heap.size, args := #[] }] ++ a.defers } (W'.putObj (w.heap.size + 1) o'') L' := by
      intro T L' o' hr hl ho hk o''
      refine hr.reframe (env' := T.env) E.rd E.nd E.kt E.wk (cells_put hl ho _) (fun t => hr.env t) ⟨(fun e => by rw [hnd] at e; cases e), ?_, fun d hd => ?_⟩ hr.size ⟨hr.fr.toFr.putObj (by omega) _, oth_put hr.fr.ko (by omega) _⟩
      · rw [List.singleton_append, List.nodup_cons]
        refine ⟨fun hmem => ?_, hr.defers.nodup⟩
        obtain ⟨Do, q1, _, q3⟩ := old _ hmem
        injection q1 with q1
        injection q1 with q1
        omega
      · rcases List.mem_append.1 hd with hd | hd
        · rw [List.mem_singleton.1 hd]
          exact ⟨_, rfl, hE0, by rw [World.putObj_heap_other (by omega)]; exact hk⟩
        · obtain ⟨Do, q1, q2, q3⟩ := hr.defers.at_ d hd
          obtain ⟨Do', q4, _, q6⟩ := old d hd
          have : Do = Do' := by rw [q1] at q4; injection q4 with q4; injection q4
          subst this
          exact ⟨Do, q1, q2, by rw [World.putObj_heap_other (by omega)]; exact q3⟩
    rcases hW' with ⟨X, T, L', _, hi, hr, hl, hk⟩ | ⟨en, j, T, L', hj, hq, hr, hl, hk⟩
    · have hend1 := run_endLoop (P := P) hl (by rw [hrec]; intro e; cases e)
      exact ⟨none, _, by rw [hend1, hrec], T, L', marks _ hr hl rfl hk _, hend T hi⟩
    · have hend1 := run_endLoop (P := P) hl (by rw [hrec]; intro e; cases e)
      obtain ⟨p, o', hp, hrun⟩ : ∃ p o', p = some j ∧ (Instr.endLoop (w.heap.size + 1)).run P W' = .ok p (W'.putObj (w.heap.size + 1) o') := ⟨_, _, by rw [hrec], hend1⟩
      subst hp
      have hfin := marks _ hr hl rfl hk o'
      refine ⟨some j, _, hrun, ?_⟩
      cases en with
      | ret => injection hj with hj; subst hj; exact wpIn_ret ⟨T, L', hfin, hq⟩
      | exit i => injection hj with hj; subst hj; exact wpIn_exit ⟨T, L', hfin, hq⟩
      | goto i => injection hj with hj; subst hj; exact wpIn_goto ⟨T, L', hfin, hq⟩
      | normal => cases hj
      | panic ch => cases hj
      | outgrown => cases hj

/-! ### over resolved code -/
/-- the temporaries that it sets -/
def SC.sets : SC → List Nat
  | .reg gs | .drw _ gs => gs.filterMap (·.d)
  | .seq x y | .cond _ x y => x.sets ++ y.sets
  | .block _ x | .loop x => x.sets
  | .rfn _ ps x y => ps ++ x.sets ++ y.sets
  | _ => []
theorem gs_sets {hs : List Nat} {ops : Array Oper} : ∀ (l : List Oper) (gs : List SG), l.mapM (cog P hs ops) = some gs → l.filterMap (·.dst) = gs.filterMap (·.d)
  | [], gs, h => by
    simp at h
    subst h
    rfl
  | o :: l, gs, h => by
    simp only [List.mapM_cons, Option.bind_eq_bind, Option.bind_eq_some_iff, Option.pure_def, Option.some.injEq] at h
    obtain ⟨g, hg, gs', hgs, rfl⟩ := h
    simp only [List.filterMap_cons, (cog_at hg).2.1, gs_sets l gs' hgs]
theorem csets_eq {nt : Nat} {hs : List Nat} : ∀ (c : Code) (sc : SC), ccode P nt hs c = some sc → csets c = sc.sets
  | .skip, sc, h => by simp only [ccode] at h; injection h with h; subst h; rfl
  | .exit _, sc, h => by simp only [ccode] at h; injection h with h; subst h; rfl
  | .ret, sc, h => by simp only [ccode] at h; injection h with h; subst h; rfl
  | .region _ ops false, sc, h => by
    simp only [ccode] at h
    split at h
    · rename_i gs hgs
      split at h
      · injection h with h; subst h; exact gs_sets _ _ hgs
      · cases h
    · cases h
  | .region _ ops true, sc, h => by
    simp only [ccode] at h
    split at h
    · rename_i gs hgs
      split at h
      · split at h
        · injection h with h; subst h; exact gs_sets _ _ hgs
        · cases h
      · cases h
    · cases h
  | .seq x y, sc, h => by
    simp only [ccode] at h
    split at h
    · rename_i hx hy; injection h with h; subst h; simp only [csets, SC.sets, csets_eq x _ hx, csets_eq y _ hy]
    · cases h
  | .cond c x y, sc, h => by
    simp only [ccode] at h
    split at h
    · rename_i _ hx hy; injection h with h; subst h; simp only [csets, SC.sets, csets_eq x _ hx, csets_eq y _ hy]
    · cases h
  | .block _ x, sc, h => by
    simp only [ccode, Option.map_eq_some_iff] at h
    obtain ⟨x', hx, rfl⟩ := h
    simp only [csets, SC.sets, csets_eq x _ hx]
  | .loop x, sc, h => by
    simp only [ccode, Option.map_eq_some_iff] at h
    obtain ⟨x', hx, rfl⟩ := h
    simp only [csets, SC.sets, csets_eq x _ hx]
  | .rangeFunc g ps x y, sc, h => by
    simp only [ccode] at h
    split at h
    · rename_i _ hx hy
      split at h
      · injection h with h; subst h; simp only [csets, SC.sets, csets_eq x _ hx, csets_eq y _ hy]
      · cases h
    · cases h
  | .goto _, sc, h => by simp only [ccode] at h; cases h
  | .scope _, sc, h => by simp only [ccode] at h; cases h
  | .label _, sc, h => by simp only [ccode] at h; cases h
  | .refuse _, sc, h => by simp only [ccode] at h; cases h

theorem VS_back {nt : Nat} {tg p0 p1 : Nat} {x y : SC} {f : FuncId} {k : Nat} {nE : Option Nat} {es : List (List PV)} {Q : Exit → St → Prop} (hf : FnOk P f 19 (backSC k nE) []) (hin : BackIn k nE es)
    (htg : tg ∉ SC.sets (.rfn (.tmp tg) [p0, p1] x y)) (I : Nat → St → Prop)
    (h0 : Weak (I es.length) (S.dropT (SC.sets (.rfn (.tmp tg) [p0, p1] x y)))) (hI : ∀ i T, I i T → T.env tg = .clo f [.ref [.sl es]])
    (hround : ∀ m T e, I (m + 1) T → es[m]? = some e → VS P nt x (seqQ (VS P nt y (rndQ (SC.sets (.rfn (.tmp tg) [p0, p1] x y)) (I m) Q)) (fun _ _ => False)) { T with env := upd (upd T.env p0 (.int .i64 m)) p1 (evB nE e) })
    (hend : ∀ T, I 0 T → Q .normal T) : VS P nt (.rfn (.tmp tg) [p0, p1] x y) Q S := by
  intro c hs hc
  have hsets := csets_eq c _ hc
  cases c with
  | rangeFunc g ps assign body =>
    simp only [ccode] at hc
    split at hc
    · rename_i g' x' y' hg hx hy
      split at hc
      · rename_i hcond
        injection hc with hc
        injection hc with e1 e2 e3 e4
        subst e1 e3 e4
        simp only [Bool.and_eq_true] at hcond
        obtain ⟨⟨hn1, hn2⟩, hps⟩ := hcond
        have hps2 : ps = #[p0, p1] := by
          have := congrArg List.toArray e2
          simpa using this
        subst hps2
        have hg2 : g = .tmp tg := by
          cases g with
          | tmp t => simp only [copd] at hg; injection hg with hg; injection hg with hg; rw [hg]
          | const v => simp only [copd, Option.map_eq_some_iff] at hg; obtain ⟨_, _, hg⟩ := hg; cases hg
          | global g => simp [copd] at hg
          | func f => simp [copd] at hg
        subst hg2
        rw [← hsets] at h0 hround htg
        simp only [List.all_cons, List.all_nil, Bool.and_true, Bool.and_eq_true, decide_eq_true_eq] at hps
        refine V_back hf hin hn1 hn2 hps.1 hps.2 htg I h0 hI (fun m T e hi he => ?_) hend
        refine (hround m T e hi he assign hs hx).mono ?_
        intro en A hq
        cases en with
        | normal => exact hq body hs hy
        | exit i => exact hq
        | goto i => exact hq
        | ret => exact hq
        | panic ch => exact hq
        | outgrown => exact hq
      · cases hc
    · cases hc
  | region id ops d => cases d <;> simp only [ccode] at hc <;> (try split at hc) <;> (try split at hc) <;> (try split at hc) <;> cases hc
  | seq x y => simp only [ccode] at hc; split at hc <;> cases hc
  | cond c x y => simp only [ccode] at hc; split at hc <;> cases hc
  | block id c => simp only [ccode, Option.map_eq_some_iff] at hc; obtain ⟨_, _, hc⟩ := hc; cases hc
  | loop c => simp only [ccode, Option.map_eq_some_iff] at hc; obtain ⟨_, _, hc⟩ := hc; cases hc
  | _ => simp only [ccode] at hc <;> cases hc
end
end Go.TQ
