/-
  Regions in the text's order, code, loops, functions. Conditions: none (generic in the program).
-/
import Derived.Test.YtnhgcpiljggmmaaGreatDoorSoundG
import Derived.Sort.LoopGhostIn
namespace Go.TQ
open Go.RowKit

/-! ### regions in the order of the text -/
def cog (P : Program) (hs : List Nat) (ops : Array Oper) (o : Oper) : Option SG :=
  match cop P hs o with
  | none => none
  | some s =>
    match o.guard with
    | none => some ⟨o.dst, none, s⟩
    | some (j, want) =>
      match ops[j]? with
      | none => none
      | some oj =>
        match oj.dst with
        | none => none
        | some t => some ⟨o.dst, some (t, want), s⟩

section
variable {P : Program} {E : En} {S : St} {a : Act} {w : World} {L : Nat → Value} {Γ : Tab} {hs : List Nat}

theorem cog_at {ops : Array Oper} {o : Oper} {g : SG} (h : cog P hs ops o = some g) : cop P hs o = some g.op ∧ g.d = o.dst ∧
    ((o.guard = none ∧ g.g = none) ∨ ∃ j want oj t, o.guard = some (j, want) ∧ ops[j]? = some oj ∧ oj.dst = some t ∧ g.g = some (t, want)) := by
  unfold cog at h
  split at h
  · cases h
  · rename_i s hs
    split at h
    · rename_i hg
      injection h with h
      subst h
      exact ⟨hs, rfl, .inl ⟨hg, rfl⟩⟩
    · rename_i j want hg
      split at h
      · cases h
      · rename_i oj hoj
        split at h
        · cases h
        · rename_i t ht
          injection h with h
          subst h
          exact ⟨hs, rfl, .inr ⟨j, want, oj, t, hg, hoj, ht, rfl⟩⟩

theorem wanted_ok {ops : Array Oper} {o : Oper} {g : SG} (h : Rel E S a w L) (hc : cog P hs ops o = some g) {b : Bool} (hw : g.wanted S = some b) : Region.wanted o (yielded ops a.tmps) = b := by
  obtain ⟨_, _, hg⟩ := cog_at hc
  unfold SG.wanted at hw
  rcases hg with ⟨h1, h2⟩ | ⟨j, want, oj, t, h1, h2, h3, h4⟩
  · rw [h2] at hw
    injection hw with hw
    subst hw
    simp [Region.wanted, h1]
  · rw [h4] at hw
    simp only at hw
    have he := h.env t
    split at hw
    · rename_i b' eb
      rw [eb] at he
      have hv := he.bool_inv
      injection hw with hw
      subst hw
      have : a.tmps[t]? = some (.bool b') := by
        rw [Array.getD_eq_getD_getElem?] at hv
        cases hq : a.tmps[t]? with
        | none => rw [hq] at hv; simp [undef] at hv
        | some v => rw [hq] at hv; simp at hv; rw [hv]
      simp [Region.wanted, h1, yielded, h2, h3, this]
    · rename_i eb
      rw [eb] at he
      have hv := he.undef_inv
      injection hw with hw
      subst hw
      have : yielded ops a.tmps j = none := by
        simp only [yielded, h2, h3, Option.bind_some]
        rw [Array.getD_eq_getD_getElem?] at hv
        cases hq : a.tmps[t]? with
        | none => rfl
        | some v => rw [hq] at hv; simp at hv; rw [hv]; rfl
      simp [Region.wanted, h1, this]
    · cases hw

/-- one operation of a region -/
theorem stp_sound (hΓ : TabOk P Γ) {ops : Array Oper} {o : Oper} {g : SG} (hc : cog P hs ops o = some g) (h : Rel E S a w L) {nid : Nat} (hn : nid < S.N) (hd : ∀ t, o.dst = some t → E.can t) {S' : St} (hs : stp Γ nid S g = some S') {K : Act → World → Prop} {Q : Exit → Act → World → Prop}
    (hK : ∀ a' w' L', Rel E S' a' w' L' → K a' w') : if Region.wanted o (yielded ops a.tmps) = true then o.wpIn (WF E.rd) 0 P a w K Q else (∀ f, o.about P w a.eval = some f → (WF E.rd).fn f) ∧ K (a.put o.dst undef) w := by
  obtain ⟨hcop, hgd, _⟩ := cog_at hc
  unfold stp at hs
  split at hs
  · rename_i hw
    rw [wanted_ok h hc hw, if_pos rfl]
    simp only [Option.map_eq_some_iff] at hs
    obtain ⟨⟨x, wr⟩, he, rfl⟩ := hs
    rw [hgd] at hK
    exact exec_sound hΓ hcop h hn he hd hK
  · rename_i hw
    rw [wanted_ok h hc hw, if_neg (by simp)]
    injection hs with hs
    subst hs
    rw [hgd] at hK
    exact ⟨fun _ _ => trivial, hK _ _ _ (h.putd hd .undef)⟩
  · cases hs

theorem stp_N {nid : Nat} {g : SG} {S' : St} (hs : stp Γ nid S g = some S') : S'.N = S.N := by
  unfold stp at hs
  split at hs
  · simp only [Option.map_eq_some_iff] at hs
    obtain ⟨p, _, rfl⟩ := hs
    rfl
  · injection hs with hs; subst hs; rfl
  · cases hs

theorem runG_sound (hΓ : TabOk P Γ) {ops : Array Oper} : ∀ (l : List Oper) (gs : List SG) (nid : Nat) (S S' : St) (a : Act) (w : World) (L : Nat → Value), l.mapM (cog P hs ops) = some gs → Rel E S a w L → nid + l.length ≤ S.N →
    (∀ o ∈ l, ∀ t, o.dst = some t → E.can t) → runG Γ nid gs S = some S' → ∀ {Q : Exit → Act → World → Prop}, (∀ a' w' L', Rel E S' a' w' L' → Q .normal a' w') → wpListIn (WF E.rd) 0 P ops Q l a w
  | [], gs, nid, S, S', a, w, L, hm, h, hN, hd, hr, Q, hQ => by
    simp at hm
    subst hm
    simp only [runG, Option.some.injEq] at hr
    subst hr
    exact hQ a w L h
  | o :: l, gs, nid, S, S', a, w, L, hm, h, hN, hd, hr, Q, hQ => by
    simp only [List.mapM_cons, Option.bind_eq_bind, Option.bind_eq_some_iff, Option.pure_def, Option.some.injEq] at hm
    obtain ⟨g, hg, gs', hgs, rfl⟩ := hm
    simp only [runG] at hr
    split at hr
    · rename_i S1 hs
      refine wpListIn_step fun K hK => ?_
      refine stp_sound hΓ hg h (by simp at hN; omega) (hd o (by simp)) hs (fun a' w' L' h' => hK _ _ ?_)
      exact runG_sound hΓ l gs' (nid + 1) S1 S' a' w' L' hgs h' (by rw [stp_N hs]; simp at hN; omega) (fun o' ho' => hd o' (by simp [ho'])) hr hQ
    · cases hr

/-! ### code -/
inductive SC where
  | skip
  | reg (ops : List SG)
  | drw (un : List (Nat × Nat)) (ops : List SG)
  | seq (x y : SC)
  | cond (c : Opd) (x y : SC)
  | block (id : Nat) (c : SC)
  | loop (c : SC)
  | rfn (g : Opd) (ps : List Nat) (x y : SC)
  | exit (id : Nat)
  | ret

/-- the temporaries that code sets -/
def csets : Code → List Nat
  | .region _ ops _ => ops.toList.filterMap (·.dst)
  | .seq x y | .cond _ x y => csets x ++ csets y
  | .block _ c | .loop c => csets c
  | .rangeFunc _ ps x y => ps.toList ++ csets x ++ csets y
  | _ => []
/-- no loop over a function within -/
def noRf : Code → Bool
  | .seq x y | .cond _ x y => noRf x && noRf y
  | .block _ c | .loop c => noRf c
  | .rangeFunc .. => false
  | _ => true
def COk (E : En) (c : Code) : Prop := (∀ t ∈ csets c, E.kt t = none) ∧ ((E.rd = none ∧ E.nd = false) ∨ noRf c = true)
theorem COk.seqL {E : En} {x y : Code} (h : COk E (.seq x y)) : COk E x := ⟨fun t ht => h.1 t (List.mem_append_left _ ht), h.2.imp id fun e => by simp only [noRf, Bool.and_eq_true] at e; exact e.1⟩
theorem COk.seqR {E : En} {x y : Code} (h : COk E (.seq x y)) : COk E y := ⟨fun t ht => h.1 t (List.mem_append_right _ ht), h.2.imp id fun e => by simp only [noRf, Bool.and_eq_true] at e; exact e.2⟩
theorem COk.condL {E : En} {c : Operand} {x y : Code} (h : COk E (.cond c x y)) : COk E x := ⟨fun t ht => h.1 t (List.mem_append_left _ ht), h.2.imp id fun e => by simp only [noRf, Bool.and_eq_true] at e; exact e.1⟩
theorem COk.condR {E : En} {c : Operand} {x y : Code} (h : COk E (.cond c x y)) : COk E y := ⟨fun t ht => h.1 t (List.mem_append_right _ ht), h.2.imp id fun e => by simp only [noRf, Bool.and_eq_true] at e; exact e.2⟩
theorem can_of {E : En} {id : Nat} {ops : Array Oper} {d : Bool} {nt : Nat} (hE : E.nt = nt) (hk : COk E (.region id ops d)) (hd : ∀ o ∈ ops.toList, ∀ t, o.dst = some t → t < nt) : ∀ o ∈ ops.toList, ∀ t, o.dst = some t → E.can t :=
  fun o ho t ht => ⟨by rw [hE]; exact hd o ho t ht, hk.1 t (List.mem_filterMap.2 ⟨o, ho, ht⟩)⟩
/-- what holds of the code, whatever memory stands for the state -/
def V (P : Program) (nt : Nat) (c : Code) (Q : Exit → St → Prop) (S : St) : Prop :=
  ∀ (E : En), E.nt = nt → COk E c → ∀ (a : Act) (w : World) (L : Nat → Value), Rel E S a w L → c.wpIn (WF E.rd) 0 P (fun e a' w' => ∃ S' L', Rel E S' a' w' L' ∧ Q e S') a w

theorem V.mono {nt : Nat} {c : Code} {Q Q' : Exit → St → Prop} (h : V P nt c Q S) (hq : ∀ e S, Q e S → Q' e S) : V P nt c Q' S :=
  fun E hE hk a w L hr => wpIn_mono (h E hE hk a w L hr) fun _ _ _ ⟨S', L', h1, h2⟩ => ⟨S', L', h1, hq _ _ h2⟩

def seqQ (K : St → Prop) (Q : Exit → St → Prop) : Exit → St → Prop
  | .normal, S => K S
  | .exit i, S => Q (.exit i) S
  | .goto l, S => Q (.goto l) S
  | .ret, S => Q .ret S
  | .panic c, S => Q (.panic c) S
  | .outgrown, S => Q .outgrown S
def blockQ (id : Nat) (Q : Exit → St → Prop) : Exit → St → Prop
  | .exit i, S => if i = id then Q .normal S else Q (.exit i) S
  | .normal, S => Q .normal S
  | .goto l, S => Q (.goto l) S
  | .ret, S => Q .ret S
  | .panic c, S => Q (.panic c) S
  | .outgrown, S => Q .outgrown S

theorem V_skip {nt : Nat} {Q : Exit → St → Prop} (h : Q .normal S) : V P nt .skip Q S := fun _ _ _ _ _ L hr => wpIn_skip ⟨S, L, hr, h⟩
theorem V_exit {nt id : Nat} {Q : Exit → St → Prop} (h : Q (.exit id) S) : V P nt (.exit id) Q S := fun _ _ _ _ _ L hr => wpIn_exit ⟨S, L, hr, h⟩
theorem V_ret {nt : Nat} {Q : Exit → St → Prop} (h : Q .ret S) : V P nt .ret Q S := fun _ _ _ _ _ L hr => wpIn_ret ⟨S, L, hr, h⟩
theorem V_seq {nt : Nat} {x y : Code} {Q : Exit → St → Prop} (h : V P nt x (seqQ (V P nt y Q) Q) S) : V P nt (.seq x y) Q S := fun E hE hk a w L hr =>
  wpIn_seq (wpIn_mono (h E hE hk.seqL a w L hr) fun e a' w' ⟨S', L', h1, h2⟩ => by
    cases e with
    | normal => exact h2 E hE hk.seqR a' w' L' h1
    | exit i => exact ⟨S', L', h1, h2⟩
    | goto l => exact ⟨S', L', h1, h2⟩
    | ret => exact ⟨S', L', h1, h2⟩
    | panic c => exact ⟨S', L', h1, h2⟩
    | outgrown => exact ⟨S', L', h1, h2⟩)
theorem V_cond {nt : Nat} {c : Operand} {c' : Opd} {x y : Code} {b : Bool} {Q : Exit → St → Prop} (hc : copd c = some c') (hb : c'.val S = .bool b) (h : V P nt (if b then x else y) Q S) : V P nt (.cond c x y) Q S := fun E hE hk a w L hr => by
  have := hr.opd hc
  rw [hb] at this
  exact wpIn_cond this.bool_inv (h E hE (by
    cases b
    · exact hk.condR
    · exact hk.condL) a w L hr)
theorem V_block {nt id : Nat} {c : Code} {Q : Exit → St → Prop} (h : V P nt c (blockQ id Q) S) : V P nt (.block id c) Q S := fun E hE hk a w L hr =>
  wpIn_block (wpIn_mono (h E hE hk a w L hr) fun e a' w' ⟨S', L', h1, h2⟩ => by
    cases e with
    | exit i =>
      simp only [blockQ] at h2
      simp only [Exit.inBlock]
      split
      · rename_i hi; rw [if_pos hi] at h2; exact ⟨S', L', h1, h2⟩
      · rename_i hi; rw [if_neg hi] at h2; exact ⟨S', L', h1, h2⟩
    | normal => exact ⟨S', L', h1, h2⟩
    | goto l => exact ⟨S', L', h1, h2⟩
    | ret => exact ⟨S', L', h1, h2⟩
    | panic c => exact ⟨S', L', h1, h2⟩
    | outgrown => exact ⟨S', L', h1, h2⟩)
theorem mapM_length {α β : Type} {f : α → Option β} : ∀ {l : List α} {r : List β}, l.mapM f = some r → r.length = l.length
  | [], r, h => by simp at h; subst h; rfl
  | x :: l, r, h => by
    simp only [List.mapM_cons, Option.bind_eq_bind, Option.bind_eq_some_iff, Option.pure_def, Option.some.injEq] at h
    obtain ⟨y, _, ys, hys, rfl⟩ := h
    simp [mapM_length hys]
/-! ### forgetting; loops -/
def PV.under1 (n : Nat) : PV → Bool
  | .own id _ | .ptr id _ _ | .eptr id _ _ _ _ | .view id _ _ _ _ => decide (id < n)
  | .agg _ | .tup _ | .clo _ _ | .bnd _ _ => false
  | _ => true
def PV.under (n : Nat) : PV → Bool
  | .agg cs | .tup cs | .clo _ cs | .bnd _ cs => cs.all (PV.under1 n)
  | x => x.under1 n
def Cont.under (n : Nat) : Cont → Bool
  | .dead => true
  | .box cs => cs.all (PV.under n)
  | .row _ _ es => es.all fun e => e.all (PV.under n)

theorem Rep.under1 {M M' : Nat → Prop} {G G' : Gh} {x : PV} {v : Value} (hx : x.under1 G'.N = true) (hM : ∀ b, M' b → M b) (hL : G'.L = G.L) (hV : ∀ id, id < G'.N → G'.V id = G.V id) (h : Rep w M G x v) : Rep w M' G' x v := by
  have hs : Stays w w M M' := (Stays.of fun _ hm => fun h' => hm (hM _ h'))
  cases h with
  | any => exact .any _
  | undef => exact .undef
  | int => exact .int _ _
  | bool => exact .bool _
  | ubool => first | exact .ubool _ | simp [PV.closed] at hc
  | str => exact .str _
  | nilp => exact .nilp
  | nils => exact .nils
  | clo => simp [PV.under1] at hx
  | bnd => simp [PV.under1] at hx
  | agg => simp [PV.under1] at hx
  | tup => simp [PV.under1] at hx
  | ptr id ver off a hN hVe h => simp only [PV.under1, decide_eq_true_eq] at hx; exact .ptr _ _ _ _ hx (by rw [hV id hx]; exact hVe) (fun e => by rw [hL]; exact h (by rw [e, hV id hx]))
  | ref cs ad vs hl hcell h => exact .ref cs ad vs hl (fun i u hu => ⟨(hcell i u hu).1, fun h' => (hcell i u hu).2 (hM _ h')⟩) (fun i p u hp hu => (h i p u hp hu).mono hs (Gh.le.refl _))
  | sl es ad c k vs hk hl hcell h hn hm => exact .sl es ad c k vs hk hl (fun i u hu => ⟨(hcell i u hu).1, fun h' => (hcell i u hu).2 (hM _ h')⟩) (fun i p u hp hu => (h i p u hp hu).mono hs (Gh.le.refl _)) hn hm
  | slnil => exact .slnil
  | own id ver a n c hN hVe h => simp only [PV.under1, decide_eq_true_eq] at hx; exact .own _ _ _ _ _ hx (by rw [hV id hx]; exact hVe) (fun e => by rw [hL]; exact h (by rw [e, hV id hx]))
  | eptr id ver k i off a hN hVe h => simp only [PV.under1, decide_eq_true_eq] at hx; exact .eptr _ _ _ _ _ _ hx (by rw [hV id hx]; exact hVe) (fun e => by rw [hL]; exact h (by rw [e, hV id hx]))
  | view id ver k lo n a c hN hVe h => simp only [PV.under1, decide_eq_true_eq] at hx; exact .view _ _ _ _ _ _ _ hx (by rw [hV id hx]; exact hVe) (fun e => by rw [hL]; exact h (by rw [e, hV id hx]))
  | nilt => exact .nilt
  | nilf T v => exact .nilf T v
  | ifc T x v hp h => exact .ifc T x v hp (h.plain hp)
  | mapv ks us b es ck hb hMb hk hv h1 h2 => exact .mapv ks us b es ck hb (fun h' => hMb (hM _ h')) hk hv (fun i p e hp he => (h1 i p e hp he).mono hs (Gh.le.refl _)) (fun i p e hp he => (h2 i p e hp he).mono hs (Gh.le.refl _))
theorem Rep.under {M M' : Nat → Prop} {G G' : Gh} {x : PV} {v : Value} (hx : x.under G'.N = true) (hM : ∀ b, M' b → M b) (hL : G'.L = G.L) (hV : ∀ id, id < G'.N → G'.V id = G.V id) (h : Rep w M G x v) : Rep w M' G' x v := by
  have go : ∀ {cs : List PV} {vs : List Value}, cs.all (PV.under1 G'.N) = true → RepL w M G cs vs → RepL w M' G' cs vs := fun hc h => ⟨h.1, fun i y v hy hv => (h.2 i y v hy hv).under1 (List.all_eq_true.1 hc y (List.mem_of_getElem? hy)) hM hL hV⟩
  cases x with
  | agg cs => obtain ⟨vs, rfl, hr⟩ := h.agg_inv; have := go (by simpa [PV.under] using hx) hr; exact .agg _ _ this.1 this.2
  | tup cs => obtain ⟨vs, rfl, hr⟩ := h.tup_inv; have := go (by simpa [PV.under] using hx) hr; exact .tup _ _ this.1 this.2
  | clo f cs => obtain ⟨vs, rfl, hr⟩ := h.clo_inv; have := go (by simpa [PV.under] using hx) hr; exact .clo _ _ _ this.1 this.2
  | bnd f cs => obtain ⟨vs, rfl, hr⟩ := h.bnd_inv; have := go (by simpa [PV.under] using hx) hr; exact .bnd _ _ _ this.1 this.2
  | _ => exact h.under1 (by simpa [PV.under] using hx) hM hL hV

/-- only some temporaries and the first objects are kept in mind -/
def St.cut (S : St) (ts : List Nat) (n : Nat) : St :=
  { env := fun t => if t ∈ ts then S.env t else .any
    H := fun id => if id < n then S.H id else ⟨0, .dead⟩
    N := n }
structure CutOk (S : St) (ts : List Nat) (n : Nat) : Prop where
  N : n ≤ S.N
  env : ∀ t ∈ ts, (S.env t).under n = true
  H : ∀ id, id < n → (S.H id).c.under n = true

theorem Rel.cut (h : Rel E S a w L) {ts : List Nat} {n : Nat} (hc : CutOk S ts n) : Rel E (S.cut ts n) a w L := by
  have hM : ∀ b, mutb E (S.cut ts n) L b → mutb E S L b := by
    rintro b (⟨id, hid, hl, hb⟩ | hb)
    · simp only [St.cut] at hid hl
      rw [if_pos hid] at hl
      exact .inl ⟨id, Nat.lt_of_lt_of_le hid hc.N, hl, hb⟩
    · exact .inr hb
  have hV : ∀ id, id < ((S.cut ts n).gh L).N → ((S.cut ts n).gh L).V id = (S.gh L).V id := fun id hid => by
    simp only [St.gh, St.cut] at hid ⊢
    rw [if_pos hid]
  have go : ∀ {cs : List PV} {vs : List Value}, (∀ y ∈ cs, y.under n = true) → RepL w (mutb E S L) (S.gh L) cs vs → RepL w (mutb E (S.cut ts n) L) ((S.cut ts n).gh L) cs vs := fun hc h =>
    ⟨h.1, fun i y v hy hv => Rep.under (G := S.gh L) (G' := (S.cut ts n).gh L) (hc y (List.mem_of_getElem? hy)) hM rfl hV (h.2 i y v hy hv)⟩
  refine ⟨h.defers, h.size, fun t => ?_, fun id hid => ?_, fun i j b hi hj hli hlj hbi hbj => ?_, fun id hid => ?_, h.fr, fun hb hlv hvr => ?_⟩
  · by_cases ht : t ∈ ts
    · have e : (S.cut ts n).env t = S.env t := by simp [St.cut, ht]
      rw [e]
      exact Rep.under (G := S.gh L) (G' := (S.cut ts n).gh L) (hc.env t ht) hM rfl hV (h.env t)
    · have e : (S.cut ts n).env t = .any := by simp [St.cut, ht]
      rw [e]
      exact .any _
  · simp only [St.cut] at hid
    have hc' : ((S.cut ts n).H id).c = (S.H id).c := by simp [St.cut, hid]
    rw [hc']
    have ho := h.obj id (Nat.lt_of_lt_of_le hid hc.N)
    have hb := hc.H id hid
    cases hcc : (S.H id).c with
    | dead => trivial
    | box cs =>
      rw [hcc] at ho hb
      obtain ⟨b, cur, T, h1, h2, h3, h4⟩ := ho
      exact ⟨b, cur, T, h1, h2, h3, go (fun y hy => List.all_eq_true.1 hb y hy) h4⟩
    | row e k es =>
      rw [hcc] at ho hb
      obtain ⟨vs, h1, h2, h3⟩ := ho
      refine ⟨vs, h1, h2, go (fun y hy => ?_) h3⟩
      obtain ⟨l, hl, hyl⟩ := List.mem_flatten.1 hy
      exact List.all_eq_true.1 (List.all_eq_true.1 hb l hl) y hyl
  · simp only [St.cut] at hi hj hli hlj
    rw [if_pos hi] at hli
    rw [if_pos hj] at hlj
    exact h.apart i j b (Nat.lt_of_lt_of_le hi hc.N) (Nat.lt_of_lt_of_le hj hc.N) hli hlj hbi hbj
  · simp only [St.cut] at hid ⊢
    rw [if_neg (by omega)]
  · simp only [St.cut] at hlv hvr
    by_cases hn0 : 0 < n
    · rw [if_pos hn0] at hlv hvr
      exact h.rcv hb hlv hvr
    · rw [if_neg hn0] at hlv
      cases hlv

def loopQ (ts : List Nat) (n : Nat) (I : Nat → St → Prop) (m : Nat) (Q : Exit → St → Prop) : Exit → St → Prop
  | .normal, S => CutOk S ts n ∧ ∃ m', m' < m ∧ I m' (S.cut ts n)
  | .exit i, S => Q (.exit i) S
  | .goto l, S => Q (.goto l) S
  | .ret, S => Q .ret S
  | .panic c, S => Q (.panic c) S
  | .outgrown, S => Q .outgrown S

end
end Go.TQ
