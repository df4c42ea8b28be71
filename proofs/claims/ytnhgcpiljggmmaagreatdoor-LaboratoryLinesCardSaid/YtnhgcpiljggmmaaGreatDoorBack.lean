/-
  Ranging over slices.Backward: what its closure does. Conditions: none (generic in the program).
-/
import Derived.Test.YtnhgcpiljggmmaaGreatDoorFun
namespace Go.TQ
open Go.RowKit

/-! ### code out of its resolved form -/
section
variable {P : Program} {nt : Nat} {hs : List Nat}
theorem ccode_seq {c : Code} {x y : SC} (h : ccode P nt hs c = some (.seq x y)) : ∃ p q, c = .seq p q ∧ ccode P nt hs p = some x ∧ ccode P nt hs q = some y := by
  cases c with
  | seq p q =>
    simp only [ccode] at h
    split at h
    · rename_i x' y' hx hy
      injection h with h
      injection h with h1 h2
      subst h1 h2
      exact ⟨p, q, rfl, hx, hy⟩
    · cases h
  | region id ops d => cases d <;> simp only [ccode] at h <;> (try split at h) <;> (try split at h) <;> (try split at h) <;> cases h
  | cond c x y => simp only [ccode] at h; split at h <;> cases h
  | block id c => simp only [ccode, Option.map_eq_some_iff] at h; obtain ⟨_, _, h⟩ := h; cases h
  | loop c => simp only [ccode, Option.map_eq_some_iff] at h; obtain ⟨_, _, h⟩ := h; cases h
  | rangeFunc g ps x y => simp only [ccode] at h; split at h <;> (try split at h) <;> cases h
  | _ => simp only [ccode] at h <;> cases h
theorem ccode_cond {c : Code} {o : Opd} {x y : SC} (h : ccode P nt hs c = some (.cond o x y)) : ∃ o' p q, c = .cond o' p q ∧ copd o' = some o ∧ ccode P nt hs p = some x ∧ ccode P nt hs q = some y := by
  cases c with
  | cond o' p q =>
    simp only [ccode] at h
    split at h
    · rename_i c' x' y' hc hx hy
      injection h with h
      injection h with h1 h2 h3
      subst h1 h2 h3
      exact ⟨o', p, q, rfl, hc, hx, hy⟩
    · cases h
  | region id ops d => cases d <;> simp only [ccode] at h <;> (try split at h) <;> (try split at h) <;> (try split at h) <;> cases h
  | seq x y => simp only [ccode] at h; split at h <;> cases h
  | block id c => simp only [ccode, Option.map_eq_some_iff] at h; obtain ⟨_, _, h⟩ := h; cases h
  | loop c => simp only [ccode, Option.map_eq_some_iff] at h; obtain ⟨_, _, h⟩ := h; cases h
  | rangeFunc g ps x y => simp only [ccode] at h; split at h <;> (try split at h) <;> cases h
  | _ => simp only [ccode] at h <;> cases h
theorem ccode_block {c : Code} {id : Nat} {x : SC} (h : ccode P nt hs c = some (.block id x)) : ∃ p, c = .block id p ∧ ccode P nt hs p = some x := by
  cases c with
  | block j p =>
    simp only [ccode, Option.map_eq_some_iff] at h
    obtain ⟨x', hx, h⟩ := h
    injection h with h1 h2
    subst h1 h2
    exact ⟨p, rfl, hx⟩
  | region id ops d => cases d <;> simp only [ccode] at h <;> (try split at h) <;> (try split at h) <;> (try split at h) <;> cases h
  | seq x y => simp only [ccode] at h; split at h <;> cases h
  | cond c x y => simp only [ccode] at h; split at h <;> cases h
  | loop c => simp only [ccode, Option.map_eq_some_iff] at h; obtain ⟨_, _, h⟩ := h; cases h
  | rangeFunc g ps x y => simp only [ccode] at h; split at h <;> (try split at h) <;> cases h
  | _ => simp only [ccode] at h <;> cases h
theorem ccode_loop {c : Code} {x : SC} (h : ccode P nt hs c = some (.loop x)) : ∃ p, c = .loop p ∧ ccode P nt hs p = some x := by
  cases c with
  | loop p =>
    simp only [ccode, Option.map_eq_some_iff] at h
    obtain ⟨x', hx, h⟩ := h
    injection h with h1
    subst h1
    exact ⟨p, rfl, hx⟩
  | region id ops d => cases d <;> simp only [ccode] at h <;> (try split at h) <;> (try split at h) <;> (try split at h) <;> cases h
  | seq x y => simp only [ccode] at h; split at h <;> cases h
  | cond c x y => simp only [ccode] at h; split at h <;> cases h
  | block id c => simp only [ccode, Option.map_eq_some_iff] at h; obtain ⟨_, _, h⟩ := h; cases h
  | rangeFunc g ps x y => simp only [ccode] at h; split at h <;> (try split at h) <;> cases h
  | _ => simp only [ccode] at h <;> cases h
theorem ccode_reg {c : Code} {gs : List SG} (h : ccode P nt hs c = some (.reg gs)) : ∃ id ops, c = .region id ops false ∧ ops.toList.mapM (cog P hs ops) = some gs ∧ ∀ o ∈ ops.toList, ∀ t, o.dst = some t → t < nt := by
  cases c with
  | region id ops d =>
    cases d with
    | true => simp only [ccode] at h; (try split at h) <;> (try split at h) <;> (try split at h) <;> cases h
    | false =>
      simp only [ccode] at h
      split at h
      · rename_i gs' hgs
        split at h
        · rename_i hd
          injection h with h
          injection h with h
          subst h
          exact ⟨id, ops, rfl, hgs, dst_lt hd⟩
        · cases h
      · cases h
  | seq x y => simp only [ccode] at h; split at h <;> cases h
  | cond c x y => simp only [ccode] at h; split at h <;> cases h
  | block id c => simp only [ccode, Option.map_eq_some_iff] at h; obtain ⟨_, _, h⟩ := h; cases h
  | loop c => simp only [ccode, Option.map_eq_some_iff] at h; obtain ⟨_, _, h⟩ := h; cases h
  | rangeFunc g ps x y => simp only [ccode] at h; split at h <;> (try split at h) <;> cases h
  | _ => simp only [ccode] at h <;> cases h
theorem ccode_exit {c : Code} {id : Nat} (h : ccode P nt hs c = some (.exit id)) : c = .exit id := by
  cases c with
  | exit j => simp only [ccode, Option.some.injEq, SC.exit.injEq] at h; rw [h]
  | region id ops d => cases d <;> simp only [ccode] at h <;> (try split at h) <;> (try split at h) <;> (try split at h) <;> cases h
  | seq x y => simp only [ccode] at h; split at h <;> cases h
  | cond c x y => simp only [ccode] at h; split at h <;> cases h
  | block id c => simp only [ccode, Option.map_eq_some_iff] at h; obtain ⟨_, _, h⟩ := h; cases h
  | loop c => simp only [ccode, Option.map_eq_some_iff] at h; obtain ⟨_, _, h⟩ := h; cases h
  | rangeFunc g ps x y => simp only [ccode] at h; split at h <;> (try split at h) <;> cases h
  | _ => simp only [ccode] at h <;> cases h
theorem ccode_skip {c : Code} (h : ccode P nt hs c = some .skip) : c = .skip := by
  cases c with
  | skip => rfl
  | region id ops d => cases d <;> simp only [ccode] at h <;> (try split at h) <;> (try split at h) <;> (try split at h) <;> cases h
  | seq x y => simp only [ccode] at h; split at h <;> cases h
  | cond c x y => simp only [ccode] at h; split at h <;> cases h
  | block id c => simp only [ccode, Option.map_eq_some_iff] at h; obtain ⟨_, _, h⟩ := h; cases h
  | loop c => simp only [ccode, Option.map_eq_some_iff] at h; obtain ⟨_, _, h⟩ := h; cases h
  | rangeFunc g ps x y => simp only [ccode] at h; split at h <;> (try split at h) <;> cases h
  | _ => simp only [ccode] at h <;> cases h
theorem ccode_ret {c : Code} (h : ccode P nt hs c = some .ret) : c = .ret := by
  cases c with
  | ret => rfl
  | region id ops d => cases d <;> simp only [ccode] at h <;> (try split at h) <;> (try split at h) <;> (try split at h) <;> cases h
  | seq x y => simp only [ccode] at h; split at h <;> cases h
  | cond c x y => simp only [ccode] at h; split at h <;> cases h
  | block id c => simp only [ccode, Option.map_eq_some_iff] at h; obtain ⟨_, _, h⟩ := h; cases h
  | loop c => simp only [ccode, Option.map_eq_some_iff] at h; obtain ⟨_, _, h⟩ := h; cases h
  | rangeFunc g ps x y => simp only [ccode] at h; split at h <;> (try split at h) <;> cases h
  | _ => simp only [ccode] at h <;> cases h
theorem mapM_cons_inv {α β : Type} {f : α → Option β} {l : List α} {y : β} {ys : List β} (h : l.mapM f = some (y :: ys)) : ∃ x xs, l = x :: xs ∧ f x = some y ∧ xs.mapM f = some ys := by
  cases l with
  | nil => simp at h
  | cons x xs =>
    simp only [List.mapM_cons, Option.bind_eq_bind, Option.bind_eq_some_iff, Option.pure_def, Option.some.injEq, List.cons.injEq] at h
    obtain ⟨z, hz, zs, hzs, rfl, rfl⟩ := h
    exact ⟨x, xs, rfl, hz, hzs⟩
theorem mapM_nil_inv {α β : Type} {f : α → Option β} {l : List α} (h : l.mapM f = some []) : l = [] := by
  cases l with
  | nil => rfl
  | cons x xs =>
    simp only [List.mapM_cons, Option.bind_eq_bind, Option.bind_eq_some_iff, Option.pure_def, Option.some.injEq] at h
    obtain ⟨z, hz, zs, hzs, h⟩ := h
    cases h
theorem cop_callv {o : Oper} {fv : Opd} {xs : List Opd} (h : cop P hs o = some (.callv fv xs)) : ∃ (g : Operand) (args : Array Operand) (ts : Array TypeId), o.op = .call { callee := .value g, args := args, argTypes := ts } ∧ copd g = some fv ∧ args.toList.mapM copd = some xs := by
  unfold cop at h
  split at h
  case h_22 fop args ats hop =>
    simp only [Option.bind_eq_bind, Option.bind_eq_some_iff] at h
    obtain ⟨ys, hys, h⟩ := h
    split at h
    · cases h
    · simp only [Option.bind_eq_some_iff, Option.some.injEq, SOp.callv.injEq] at h
      obtain ⟨fv', hfv, rfl, rfl⟩ := h
      exact ⟨_, _, _, hop, hfv, hys⟩
  all_goals (repeat' (first | (cases h; done) | split at h | (simp only [Option.bind_eq_bind, Option.bind_eq_some_iff] at h; obtain ⟨_, _, h⟩ := h) | (obtain ⟨_, _, h⟩ := h)))
theorem copd_tmp {x : Operand} {t : Nat} (h : copd x = some (.tmp t)) : x = .tmp t := by
  cases x with
  | tmp u => simp only [copd, Option.some.injEq, Opd.tmp.injEq] at h; rw [h]
  | const v => simp only [copd, Option.map_eq_some_iff] at h; obtain ⟨_, _, h⟩ := h; cases h
  | global g => simp [copd] at h
  | func f => simp [copd] at h
end

/-! ### the closure -/
/-- the closure of slices.Backward: k cells an element; are they a struct's? -/
def backSC (k : Nat) (nE : Option Nat) : SC :=
  .seq (.reg [⟨some 4, none, .load none (.tmp 1)⟩, ⟨some 5, none, .len false (.tmp 4)⟩, ⟨some 6, none, .bin .sub (.tmp 5) (.cst (.int .i64 1))⟩, ⟨some 3, none, .mov (.tmp 6)⟩])
    (.block 0 (.loop (.seq (.seq (.reg [⟨some 7, none, .mov (.tmp 3)⟩, ⟨some 8, none, .bin .geq (.tmp 7) (.cst (.int .i64 0))⟩]) (.cond (.tmp 8) .skip (.exit 0)))
      (.seq (.block 1 (.seq (.reg [⟨some 11, none, .mov (.tmp 0)⟩, ⟨some 12, none, .mov (.tmp 3)⟩, ⟨some 13, none, .load none (.tmp 1)⟩, ⟨some 14, none, .mov (.tmp 3)⟩, ⟨some 15, none, .iaddr k (.tmp 13) (.tmp 14)⟩,
        ⟨some 16, none, .load nE (.tmp 15)⟩, ⟨some 17, none, .callv (.tmp 11) [.tmp 12, .tmp 16]⟩, ⟨some 18, none, .not (.tmp 17)⟩]) (.cond (.tmp 18) .ret .skip)))
        (.reg [⟨some 9, none, .mov (.tmp 3)⟩, ⟨some 10, none, .bin .sub (.tmp 9) (.cst (.int .i64 1))⟩, ⟨some 3, none, .mov (.tmp 10)⟩])))))

section
variable {P : Program}
def noT : Tab := fun _ => none
theorem noT_ok : TabOk P noT := fun _ _ h => by cases h
/-- operations, then the rest -/
theorem runG_pre {Γ : Tab} (hΓ : TabOk P Γ) {E : En} {hs : List Nat} {ops : Array Oper} {l2 : List Oper} : ∀ (l : List Oper) (gs : List SG) (nid : Nat) (S S' : St) (a : Act) (w : World) (L : Nat → Value), l.mapM (cog P hs ops) = some gs → Rel E S a w L → nid + l.length ≤ S.N →
    (∀ o ∈ l, ∀ t, o.dst = some t → E.can t) → runG Γ nid gs S = some S' → ∀ {Q : Exit → Act → World → Prop}, (∀ a' w' L', Rel E S' a' w' L' → wpListIn (WF E.rd) 0 P ops Q l2 a' w') → wpListIn (WF E.rd) 0 P ops Q (l ++ l2) a w
  | [], gs, nid, S, S', a, w, L, hm, h, hN, hd, hr, Q, hQ => by
    simp at hm
    subst hm
    simp only [runG, Option.some.injEq] at hr
    subst hr
    exact hQ a w L h
  | o :: l, gs, nid, S, S', a, w, L, hm, h, hN, hd, hr, Q, hQ => by
    simp only [List.mapM_cons, Option.bind_eq_bind, Option.bind_eq_some_iff, Option.pure_def, Option.some.injEq] at hm
    obtain ⟨g, hg, gs', hgs, rfl⟩ := hm
    simp only [runG] at hr
    split at hr
    · rename_i S1 hs
      rw [List.cons_append]
      refine wpListIn_step fun K hK => ?_
      refine stp_sound hΓ hg h (by simp at hN; omega) (hd o (by simp)) hs (fun a' w' L' h' => hK _ _ ?_)
      exact runG_pre hΓ l gs' (nid + 1) S1 S' a' w' L' hgs h' (by rw [stp_N hs]; simp at hN; omega) (fun o' ho' => hd o' (by simp [ho'])) hr hQ
    · cases hr

/-- the closure's own frame: its entry -/
def EB (W : World) (X : Nat → Prop) (hX : XOk W X) (kt : Nat → Option Value) : En :=
  { w0 := W, rb := none, nt := 19, X := X, hX := hX, hasR := false, rv := undef, rk := false, hrb := fun b hb => (by cases hb), hxr := fun h => (by cases h), rd := none, nd := true, kt := kt, wk := { W with heap := #[] } }
def SB (env : Nat → PV) : St := { env := env, H := fun _ => ⟨0, .dead⟩, N := 8 }
theorem rel_B {W : World} {X : Nat → Prop} (hX : XOk W X) {kt : Nat → Option Value} {env : Nat → PV} {a : Act} {L : Nat → Value} (hd : a.defers = []) (hs : a.tmps.size = 19) (hk : ∀ t v, kt t = some v → a.tmps.getD t undef = v)
    (he : ∀ t, Rep W X Gh0 (env t) (a.tmps.getD t undef)) : Rel (EB W X hX kt) (SB env) a W L := by
  have hM : ∀ b, mutb (EB W X hX kt) (SB env) L b → X b := by
    rintro b (⟨id, _, hl, _⟩ | h)
    · cases hl
    · exact h
  exact ⟨Marks.nil hd, ⟨hs, hk⟩, fun t => (he t).mono (Stays.of fun _ hn => fun h => hn (hM _ h)) (Gh0.le _), fun _ _ => trivial, fun i j b _ _ hi => (by cases hi), fun _ _ => rfl, ⟨Fr.refl _ _, oth_nil rfl⟩, fun h => (by cases h)⟩

/-- what the temporaries hold between the steps -/
structure BF (y c : Value) (i : Int) (a : Act) : Prop where
  defers : a.defers = []
  size : a.tmps.size = 19
  y : a.tmps.getD 0 undef = y
  c : a.tmps.getD 1 undef = c
  i : a.tmps.getD 3 undef = .int .i64 i
def kt2 (y c : Value) (t : Nat) : Option Value := if t = 0 then some y else if t = 1 then some c else none
theorem rel_B_fr {W W' : World} {X : Nat → Prop} {hX : XOk W X} {kt : Nat → Option Value} {S : St} {a : Act} {L : Nat → Value} (h : Rel (EB W X hX kt) S a W' L) : Fr none W W' := h.fr.toFr

theorem cog_dst {hs : List Nat} {ops : Array Oper} {p : Nat → Prop} : ∀ {l : List Oper} {gs : List SG}, l.mapM (cog P hs ops) = some gs → (∀ g ∈ gs, ∀ t, g.d = some t → p t) → ∀ o ∈ l, ∀ t, o.dst = some t → p t
  | [], _, _, _ => by simp
  | x :: l, gs, h, hp => by
    simp only [List.mapM_cons, Option.bind_eq_bind, Option.bind_eq_some_iff, Option.pure_def, Option.some.injEq] at h
    obtain ⟨g, hg, gs', hgs, rfl⟩ := h
    intro o ho t ht
    rcases List.mem_cons.1 ho with rfl | ho
    · exact hp g List.mem_cons_self t (by rw [(cog_at hg).2.1]; exact ht)
    · exact cog_dst hgs (fun g hg => hp g (List.mem_cons_of_mem _ hg)) o ho t ht

def envB (es : List (List PV)) (x : Nat → PV) (t : Nat) : PV := if t = 1 then .ref [.sl es] else x t
variable {hs : List Nat} {es : List (List PV)} {y c : Value} {W : World} {X : Nat → Prop} {hX : XOk W X} {a : Act}
theorem BF.env {i : Int} (h : BF y c i a) (hc : Rep W X Gh0 (.ref [.sl es]) c) (t : Nat) : Rep W X Gh0 (envB es (fun t => if t = 3 then .int .i64 i else .any) t) (a.tmps.getD t undef) := by
  unfold envB
  split
  · rename_i e; rw [e, h.c]; exact hc
  · simp only
    split
    · rename_i e; rw [e, h.i]; exact .int _ _
    · exact .any _
theorem BF.kt {i : Int} (h : BF y c i a) (t : Nat) (v : Value) (hv : kt2 y c t = some v) : a.tmps.getD t undef = v := by
  unfold kt2 at hv
  split at hv
  · rename_i e; injection hv with hv; rw [e, h.y, hv]
  · split at hv
    · rename_i e; injection hv with hv; rw [e, h.c, hv]
    · cases hv
theorem BF.rel {i : Int} (h : BF y c i a) (hc : Rep W X Gh0 (.ref [.sl es]) c) (L : Nat → Value) : Rel (EB W X hX (kt2 y c)) (SB (envB es fun t => if t = 3 then .int .i64 i else .any)) a W L :=
  rel_B hX h.defers h.size h.kt (h.env hc)
/-- behind a region of plain operations -/
theorem reg_B {c0 : Code} {gs : List SG} (hcc : ccode P 19 hs c0 = some (.reg gs)) {env : Nat → PV} {S' : St} (hlen : gs.length ≤ 8) (hd : ∀ g ∈ gs, ∀ t, g.d = some t → t ≠ 0 ∧ t ≠ 1) {L : Nat → Value} (h : Rel (EB W X hX (kt2 y c)) (SB env) a W L)
    (hr : runG noT 0 gs (SB env) = some S') {Q : Exit → Act → World → Prop} (hQ : ∀ a' W' L', Rel (EB W X hX (kt2 y c)) S' a' W' L' → Q .normal a' W') : c0.wpIn (WF none) 0 P Q a W := by
  obtain ⟨id, ops, rfl, hm, hlt⟩ := ccode_reg hcc
  refine wpIn_region_list ?_
  have hl := mapM_length hm
  refine runG_sound (E := EB W X hX (kt2 y c)) noT_ok ops.toList gs 0 (SB env) S' a W L hm h (by simp only [SB]; omega) (fun o ho t ht => ⟨hlt o ho t ht, ?_⟩) hr hQ
  have := cog_dst (p := fun t => t ≠ 0 ∧ t ≠ 1) hm hd o ho t ht
  show kt2 y c t = none
  unfold kt2
  rw [if_neg this.1, if_neg this.2]
theorem BF.of {S' : St} {W' : World} {L' : Nat → Value} {i : Int} {a' : Act} (h : Rel (EB W X hX (kt2 y c)) S' a' W' L') (hi : S'.env 3 = .int .i64 i) : BF y c i a' := by
  refine ⟨h.defers.none rfl, h.size.1, h.size.2 0 y rfl, h.size.2 1 c rfl, ?_⟩
  have := h.env 3
  rw [hi] at this
  exact this.int_inv
theorem sl_max (hc : Rep W X Gh0 (.ref [.sl es]) c) : es.length ≤ maxLen := by
  cases hc with
  | ref _ ad vs hl hcell h =>
    cases vs with
    | nil => simp at hl
    | cons v vs =>
      have h1 := h 0 (.sl es) v (by simp) (by simp)
      cases h1 with
      | sl _ _ _ _ _ _ _ _ _ hn hm => omega
      | slnil => simp
theorem wrap_small {n : Int} (h : -1 ≤ n) (h' : n ≤ 9223372036854775807) : IntKind.i64.wrap n = n := by
  rw [IntKind.wrap_i64]; omega

/-- what an element is as a value -/
def evB (nE : Option Nat) (e : List PV) : PV := (ldn nE e).getD .any
structure BackIn (k : Nat) (nE : Option Nat) (es : List (List PV)) : Prop where
  len : ∀ e ∈ es, e.length = k
  ld : ∀ e ∈ es, ldn nE e = some (evB nE e)
  cl : ∀ e ∈ es, (evB nE e).closeds = true

/-- a call of yield: a round -/
def YieldB (P : Program) (l : Nat) (i : Nat) (v : Value) (W : World) (R : Ending → World → Prop) : Prop :=
  ∃ (fn : FuncId) (tmps : Array Value) (assign body : Code), (Instr.yield l #[.int .i64 i, v]).run P W = .ok (.round l fn tmps assign body) W ∧ RoundIn (WF none) 0 P l fn tmps assign body W R

theorem region_B {k : Nat} {nE : Option Nat} {l : Nat} {m : Nat} (hin : BackIn k nE es) (hX : XOk W X) (hc : Rep W X Gh0 (.ref [.sl es]) c) {J0 J1 : World → Prop} (hJ0 : ∀ W', Fr none W W' → J0 W') 
    (hJ : ∀ W' W'', J1 W' → Fr none W' W'' → J1 W'') {Jx : World → Prop} (hJx : ∀ W' W'', Jx W' → Fr none W' W'' → Jx W'') (hG1 : ∀ W', J1 W' → GI W') (hGx : ∀ W', Jx W' → GI W')
    (hr : ∀ (W' : World) (e : List PV) (v : Value), J0 W' → es[m]? = some e → Rep W' X Gh0 (evB nE e) v → YieldB P l m v W' fun en W'' => (en = .returned (.bool true) ∧ J1 W'') ∨ (en = .returned (.bool false) ∧ Jx W''))
    {c0 : Code} (hcc : ccode P 19 hs c0 = some (.reg [⟨some 11, none, .mov (.tmp 0)⟩, ⟨some 12, none, .mov (.tmp 3)⟩, ⟨some 13, none, .load none (.tmp 1)⟩, ⟨some 14, none, .mov (.tmp 3)⟩, ⟨some 15, none, .iaddr k (.tmp 13) (.tmp 14)⟩,
        ⟨some 16, none, .load nE (.tmp 15)⟩, ⟨some 17, none, .callv (.tmp 11) [.tmp 12, .tmp 16]⟩, ⟨some 18, none, .not (.tmp 17)⟩]))
    (hm : m < es.length) (hB : BF (.func (.yield l) #[] #[]) c m a) {Q : Exit → Act → World → Prop}
    (hQ : ∀ a' W' b, BF (.func (.yield l) #[] #[]) c m a' → a'.tmps.getD 18 undef = .bool (!b) → (b = true → J1 W') → (b = false → Jx W') → Q .normal a' W') : c0.wpIn (WF none) 0 P Q a W := by
  obtain ⟨id, ops, rfl, hmm, hlt⟩ := ccode_reg hcc
  refine wpIn_region_list ?_
  obtain ⟨o11, l1, e1, g11, hm1⟩ := mapM_cons_inv hmm
  obtain ⟨o12, l2, rfl, g12, hm2⟩ := mapM_cons_inv hm1
  obtain ⟨o13, l3, rfl, g13, hm3⟩ := mapM_cons_inv hm2
  obtain ⟨o14, l4, rfl, g14, hm4⟩ := mapM_cons_inv hm3
  obtain ⟨o15, l5, rfl, g15, hm5⟩ := mapM_cons_inv hm4
  obtain ⟨o16, l6, rfl, g16, hm6⟩ := mapM_cons_inv hm5
  obtain ⟨o17, l7, rfl, g17, hm7⟩ := mapM_cons_inv hm6
  obtain ⟨o18, l8, rfl, g18, hm8⟩ := mapM_cons_inv hm7
  have := mapM_nil_inv hm8
  subst this
  rw [e1] at hlt ⊢
  have plain : ∀ {o : Oper} {d : Option Nat} {s : SOp}, cog P hs ops o = some ⟨d, none, s⟩ → o.guard = none ∧ o.dst = d ∧ cop P hs o = some s := by
    intro o d s hg
    obtain ⟨q1, q2, q3⟩ := cog_at hg
    rcases q3 with ⟨q3, _⟩ | ⟨_, _, _, _, _, _, _, q⟩
    · exact ⟨q3, q2.symm, q1⟩
    · cases q
  -- yield is looked up
  obtain ⟨u1, u2, u3⟩ := plain g11
  have hmv : (o11.op = .move (.tmp 0) ∨ o11.op = .assign (.tmp 0)) := by
    unfold cop at u3
    split at u3
    case h_1 x hx => simp only [Option.bind_eq_bind, Option.bind_eq_some_iff, Option.some.injEq, SOp.mov.injEq] at u3; obtain ⟨z, hz, rfl⟩ := u3; rw [copd_tmp hz] at hx; exact .inl hx
    case h_2 x hx => simp only [Option.bind_eq_bind, Option.bind_eq_some_iff, Option.some.injEq, SOp.mov.injEq] at u3; obtain ⟨z, hz, rfl⟩ := u3; rw [copd_tmp hz] at hx; exact .inr hx
    all_goals (exfalso)
    all_goals (repeat' (first | (cases u3; done) | split at u3 | (simp only [Option.bind_eq_bind, Option.bind_eq_some_iff] at u3; obtain ⟨_, _, u3⟩ := u3) | (obtain ⟨_, _, u3⟩ := u3)))
  refine wpListIn_plain u1 fun K hK => ?_
  have hev : a.eval (.tmp 0) = .func (.yield l) #[] #[] := hB.y
  have step1 : ∀ {Q' : Exit → Act → World → Prop}, K (a.put (some 11) (.func (.yield l) #[] #[])) W → o11.wpIn (WF none) 0 P a W K Q' := by
    intro Q' hk
    unfold Oper.wpIn
    rw [Oper.semAt_eq _ _ _ (cop_nodefer u3)]
    have hrun : (execOp a.eval o11).run P W = .ok (.value (.func (.yield l) #[] #[])) W := by
      rcases hmv with hx | hx <;> simp [execOp, hx, hev]
    rw [hrun]
    refine ⟨fun _ _ => trivial, ?_⟩
    show K (a.put o11.dst _) W
    rw [u2]
    exact hk
  refine step1 (hK _ _ ?_)
  -- the element is loaded
  have hsz : (a.put (some 11) (.func (.yield l) #[] #[])).tmps.size = 19 := by simp [Act.put, hB.size]
  have hne : ∀ t, t ≠ 11 → (a.put (some 11) (.func (.yield l) #[] #[])).tmps.getD t undef = a.tmps.getD t undef := fun t ht => put_getD ht
  have h11 : (a.put (some 11) (.func (.yield l) #[] #[])).tmps.getD 11 undef = .func (.yield l) #[] #[] := by
    simp [Act.put, Array.getD_eq_getD_getElem?, Array.getElem?_setIfInBounds_self_of_lt (show 11 < a.tmps.size by rw [hB.size]; omega)]
  have hrel : Rel (EB W X hX (fun t => if t = 11 then some (.func (.yield l) #[] #[]) else kt2 (.func (.yield l) #[] #[]) c t)) (SB (envB es fun t => if t = 3 then .int .i64 m else .any)) (a.put (some 11) (.func (.yield l) #[] #[])) W (fun _ => undef) := by
    refine rel_B hX hB.defers hsz (fun t v hv => ?_) (fun t => ?_)
    · by_cases h0 : t = 11
      · rw [if_pos h0] at hv; injection hv with hv; rw [h0, h11, hv]
      · rw [if_neg h0] at hv
        rw [hne t h0]
        exact hB.kt t v hv
    · by_cases h0 : t = 11
      · have : envB es (fun t => if t = 3 then .int .i64 m else .any) t = .any := by rw [h0]; rfl
        rw [this]
        exact .any _
      · rw [hne t h0]
        exact hB.env hc t
  have helt : es[m]? = some es[m] := List.getElem?_eq_getElem hm
  have hek := hin.len _ (List.getElem_mem hm)
  have hld := hin.ld _ (List.getElem_mem hm)
  have s12 : stp noT 0 (SB (envB es fun t => if t = 3 then .int .i64 m else .any)) ⟨some 12, none, .mov (.tmp 3)⟩ = some ((SB (envB es fun t => if t = 3 then .int .i64 m else .any)).app (some 12) (.int .i64 m) none) := rfl
  generalize hS1 : (SB (envB es fun t => if t = 3 then .int .i64 m else .any)).app (some 12) (.int .i64 m) none = S1 at s12
  have s13 : stp noT 1 S1 ⟨some 13, none, .load none (.tmp 1)⟩ = some (S1.app (some 13) (.sl es) none) := by subst hS1; rfl
  generalize hS2 : S1.app (some 13) (.sl es) none = S2 at s13
  have s14 : stp noT 2 S2 ⟨some 14, none, .mov (.tmp 3)⟩ = some (S2.app (some 14) (.int .i64 m) none) := by subst hS2 hS1; rfl
  generalize hS3 : S2.app (some 14) (.int .i64 m) none = S3 at s14
  have e13 : S3.env 13 = .sl es := by subst hS3 hS2 hS1; rfl
  have e14 : S3.env 14 = .int .i64 m := by subst hS3 hS2 hS1; rfl
  have s15 : stp noT 3 S3 ⟨some 15, none, .iaddr k (.tmp 13) (.tmp 14)⟩ = some (S3.app (some 15) (.ref es[m]) none) := by
    simp only [stp, SG.wanted, exec, Opd.val, e13, e14]
    rw [if_pos ⟨by omega, by omega⟩]
    simp only [Int.toNat_natCast, helt, hek, if_true, Option.map_some]
  generalize hS4 : S3.app (some 15) (.ref es[m]) none = S4 at s15
  have e15 : S4.env 15 = .ref es[m] := by subst hS4; rfl
  have s16 : stp noT 4 S4 ⟨some 16, none, .load nE (.tmp 15)⟩ = some (S4.app (some 16) (evB nE es[m]) none) := by
    simp only [stp, SG.wanted, exec, Opd.val, e15, hld, Option.map_some]
  generalize hS5 : S4.app (some 16) (evB nE es[m]) none = S5 at s16
  have f12 : S5.env 12 = .int .i64 m := by subst hS5 hS4 hS3 hS2 hS1; rfl
  have f16 : S5.env 16 = evB nE es[m] := by subst hS5; rfl
  have f3 : S5.env 3 = .int .i64 m := by subst hS5 hS4 hS3 hS2 hS1; rfl
  have hrun : runG noT 0 [⟨some 12, none, .mov (.tmp 3)⟩, ⟨some 13, none, .load none (.tmp 1)⟩, ⟨some 14, none, .mov (.tmp 3)⟩, ⟨some 15, none, .iaddr k (.tmp 13) (.tmp 14)⟩, ⟨some 16, none, .load nE (.tmp 15)⟩] (SB (envB es fun t => if t = 3 then .int .i64 m else .any)) = some S5 := by
    simp only [runG, s12, s13, s14, s15, s16]
  have hmap : [o12, o13, o14, o15, o16].mapM (cog P hs ops) = some [⟨some 12, none, .mov (.tmp 3)⟩, ⟨some 13, none, .load none (.tmp 1)⟩, ⟨some 14, none, .mov (.tmp 3)⟩, ⟨some 15, none, .iaddr k (.tmp 13) (.tmp 14)⟩, ⟨some 16, none, .load nE (.tmp 15)⟩] := by
    simp only [List.mapM_cons, List.mapM_nil, g12, g13, g14, g15, g16, Option.bind_eq_bind, Option.bind_some, Option.pure_def]
  show wpListIn (WF none) 0 P ops Q ([o12, o13, o14, o15, o16] ++ [o17, o18]) _ W
  refine runG_pre (E := EB W X hX _) noT_ok _ _ 0 _ S5 _ W _ hmap hrel (by simp [SB]) (fun o ho t ht => ⟨hlt o (by simp only [List.mem_cons] at ho ⊢; right; rcases ho with h | h | h | h | h | h <;> simp_all) t ht, ?_⟩) hrun (fun a5 W5 L5 h5 => ?_)
  · have := cog_dst (p := fun t => t ≠ 0 ∧ t ≠ 1 ∧ t ≠ 11) hmap (by intro g hg t ht; simp only [List.mem_cons, List.not_mem_nil, or_false] at hg; rcases hg with rfl | rfl | rfl | rfl | rfl <;> (injection ht with ht; omega)) o ho t ht
    show (if t = 11 then _ else kt2 _ _ t) = none
    rw [if_neg this.2.2]
    unfold kt2
    rw [if_neg this.1, if_neg this.2.1]
  -- the round
  have hfr5 : Fr none W W5 := rel_B_fr h5
  have v11 : a5.tmps.getD 11 undef = .func (.yield l) #[] #[] := h5.size.2 11 _ rfl
  have v12 : a5.tmps.getD 12 undef = .int .i64 m := by have := h5.env 12; rw [f12] at this; exact this.int_inv
  have r16 : Rep W5 X Gh0 (evB nE es[m]) (a5.tmps.getD 16 undef) := by
    have := h5.env 16
    rw [f16] at this
    exact this.closeds (hin.cl _ (List.getElem_mem hm)) (fun b hb => .inr hb)
  have hB5 : BF (.func (.yield l) #[] #[]) c m a5 := ⟨h5.defers.none rfl, h5.size.1, h5.size.2 0 _ rfl, h5.size.2 1 _ rfl, by have := h5.env 3; rw [f3] at this; exact this.int_inv⟩
  obtain ⟨fn, tmps, assign, body, hy, hround⟩ := hr W5 _ _ (hJ0 W5 hfr5) helt r16
  obtain ⟨w1, w2, w3⟩ := plain g17
  obtain ⟨gv, args, ts, hop, hgv, hargs⟩ := cop_callv w3
  have hgv := copd_tmp hgv
  subst hgv
  obtain ⟨x12, xs, ex, hx12, hxs⟩ := mapM_cons_inv hargs
  obtain ⟨x16, xs', rfl, hx16, hxs'⟩ := mapM_cons_inv hxs
  have := mapM_nil_inv hxs'
  subst this
  rw [copd_tmp hx12, copd_tmp hx16] at ex
  have hargs' : args = #[.tmp 12, .tmp 16] := by rw [← Array.toArray_toList (xs := args), ex]
  refine wpListIn_plain w1 fun K hK => ?_
  unfold Oper.wpIn
  rw [Oper.semAt_eq _ _ _ (cop_nodefer w3)]
  have hrun17 : (execOp a5.eval o17).run P W5 = .ok (.round l fn tmps assign body) W5 := by
    have q1 : a5.eval (.tmp 11) = .func (.yield l) #[] #[] := v11
    simp only [execOp, hop, resolve, q1, Deferred.ofValue, Sem.run_bind, Sem.run_pure, Result.andThen_ok, invoke, hargs']
    have q4 : a5.tmps[12]?.getD undef = .int .i64 m := by rw [← Array.getD_eq_getD_getElem?]; exact v12
    simpa [Act.eval, q4] using hy
  rw [hrun17]
  refine ⟨fun _ _ => trivial, (fun h => by cases h), hround.mono ?_⟩
  rintro en W6 hen
  have fin : ∀ b : Bool, en = .returned (.bool b) → (b = true → J1 W6) → (b = false → Jx W6) → K (a5.put o17.dst (.bool b)) W6 := by
    rintro b rfl hj1 hjx
    refine hK _ _ ?_
    rw [w2]
    have hsz6 : (a5.put (some 17) (.bool b)).tmps.size = 19 := by simp [Act.put, hB5.size]
    have hne6 : ∀ t, t ≠ 17 → (a5.put (some 17) (.bool b)).tmps.getD t undef = a5.tmps.getD t undef := fun t ht => put_getD ht
    have h17 : (a5.put (some 17) (.bool b)).tmps.getD 17 undef = .bool b := by
      simp [Act.put, Array.getD_eq_getD_getElem?, Array.getElem?_setIfInBounds_self_of_lt (show 17 < a5.tmps.size by rw [hB5.size]; omega)]
    have hgi : GI W6 := by
      cases b with
      | true => exact hG1 _ (hj1 rfl)
      | false => exact hGx _ (hjx rfl)
    have hrel6 : Rel (EB W6 (fun _ => False) (.nil hgi) (kt2 (.func (.yield l) #[] #[]) c)) (SB fun t => if t = 17 then .bool b else if t = 3 then .int .i64 m else .any) (a5.put (some 17) (.bool b)) W6 (fun _ => undef) := by
      refine rel_B _ hB5.defers hsz6 (fun t v hv => ?_) (fun t => ?_)
      · by_cases h0 : t = 17
        · subst h0; cases hv
        · rw [hne6 t h0]; exact hB5.kt t v hv
      · split
        · rename_i h0; rw [h0, h17]; exact .bool _
        · rename_i h0
          rw [hne6 t h0]
          split
          · rename_i h3; rw [h3, hB5.i]; exact .int _ _
          · exact .any _
    have hmap18 : [o18].mapM (cog P hs ops) = some [⟨some 18, none, .not (.tmp 17)⟩] := by simp only [List.mapM_cons, List.mapM_nil, g18, Option.bind_eq_bind, Option.bind_some, Option.pure_def]
    refine runG_sound (E := EB W6 (fun _ => False) (.nil hgi) _) noT_ok _ _ 0 _ ((SB fun t => if t = 17 then .bool b else if t = 3 then .int .i64 m else .any).app (some 18) (.bool !b) none) _ W6 _ hmap18 hrel6 (by simp [SB]) (fun o ho t ht => ⟨hlt o (by simp only [List.mem_cons] at ho ⊢; simp_all) t ht, ?_⟩) rfl (fun a7 W7 L7 h7 => ?_)
    · have := cog_dst (p := fun t => t ≠ 0 ∧ t ≠ 1) hmap18 (by intro g hg t ht; simp only [List.mem_cons, List.not_mem_nil, or_false] at hg; subst hg; injection ht with ht; omega) o ho t ht
      show kt2 _ _ t = none
      unfold kt2
      rw [if_neg this.1, if_neg this.2]
    · have hfr7 := rel_B_fr h7
      refine hQ a7 W7 b (BF.of h7 rfl) ?_ (fun hb => hJ _ _ (hj1 hb) hfr7) (fun hb => hJx _ _ (hjx hb) hfr7)
      have := h7.env 18
      have e18 : ((SB fun t => if t = 17 then .bool b else if t = 3 then .int .i64 m else .any).app (some 18) (.bool !b) none).env 18 = .bool !b := rfl
      rw [e18] at this
      exact this.bool_inv
  rcases hen with ⟨rfl, hj⟩ | ⟨rfl, hj⟩
  · exact fin true rfl (fun _ => hj) (fun h => by cases h)
  · exact fin false rfl (fun h => by cases h) (fun _ => hj)

/-- what the closure does: a round for each element, from the last to the first -/
theorem back_calls {f : FuncId} {k : Nat} {nE : Option Nat} (hf : FnOk P f 19 (backSC k nE) []) (hin : BackIn k nE es) {l : Nat} (J : Nat → (Nat → Prop) → World → Prop) (Jx : World → Prop)
    (hc : ∀ i X W, J i X W → XOk W X ∧ Rep W X Gh0 (.ref [.sl es]) c) (hJ : ∀ i X W' W'', J i X W' → Fr none W' W'' → J i X W'') (hJx : ∀ W' W'', Jx W' → Fr none W' W'' → Jx W'') (hGx : ∀ W', Jx W' → GI W')
    (hr : ∀ (m : Nat) (X : Nat → Prop) (W' : World) (e : List PV) (v : Value), J (m + 1) X W' → es[m]? = some e → Rep W' X Gh0 (evB nE e) v → YieldB P l m v W' fun en W'' => (en = .returned (.bool true) ∧ ∃ X, J m X W'') ∨ (en = .returned (.bool false) ∧ Jx W''))
    (W : World) (h0 : J es.length X W) : CallsIn (WF none) 0 P f #[.func (.yield l) #[] #[], c] W fun en W' => (∃ v, en = .returned v) ∧ ((∃ X, J 0 X W') ∨ Jx W') := by
  obtain ⟨fn, hs, h1, h2, h3, h4, _⟩ := hf
  cases hb : fn.body with
  | none => rw [hb] at h3; cases h3
  | some c0 =>
  rw [hb] at h3
  have h3 : ccode P 19 hs c0 = some (backSC k nE) := h3
  have hres : fn.results.toList = [] := by
    cases hq : fn.results.toList with
    | nil => rfl
    | cons r rs => rw [hq] at h4; cases r <;> simp only [cres] at h4 <;> first | (split at h4 <;> cases h4) | (simp only [Option.map_eq_some_iff] at h4; obtain ⟨_, _, h4⟩ := h4; cases h4)
  have hresr : ∀ (tm : Array Value) (W : World), (results fn tm).run P W = .ok (.tuple #[]) W := by
    intro tm W
    unfold results
    rw [Array.mapM_eq_mapM_toList, hres]
    simp
  refine callsIn_of_wp (F := WF none) (n := 0) h1 hb trivial ?_
  obtain ⟨cA, cB, rfl, hA, hB⟩ := ccode_seq h3
  obtain ⟨cL, rfl, hL⟩ := ccode_block hB
  obtain ⟨cR, rfl, hR⟩ := ccode_loop hL
  obtain ⟨cR1, cR2, rfl, hR1, hR2⟩ := ccode_seq hR
  obtain ⟨cT, cC, rfl, hT, hC⟩ := ccode_seq hR1
  obtain ⟨oc, cS, cX, rfl, hoc, hcS, hcX⟩ := ccode_cond hC
  have := ccode_skip hcS
  subst this
  have := ccode_exit hcX
  subst this
  have := copd_tmp hoc
  subst this
  obtain ⟨cM, cN, rfl, hM, hN⟩ := ccode_seq hR2
  obtain ⟨cM2, rfl, hM2⟩ := ccode_block hM
  obtain ⟨cG, cH, rfl, hG, hH⟩ := ccode_seq hM2
  obtain ⟨od, cV, cK, rfl, hod, hcV, hcK⟩ := ccode_cond hH
  have := ccode_ret hcV
  subst this
  have := ccode_skip hcK
  subst this
  have := copd_tmp hod
  subst this
  have hmax := sl_max (hc _ _ _ h0).2
  simp only [maxLen] at hmax
  -- the first region
  have hargs : ∀ t, (#[Value.func (.yield l) #[] #[], c] ++ Array.replicate (fn.ntmps - (#[Value.func (.yield l) #[] #[], c] : Array Value).size) undef).getD t undef = if t = 0 then .func (.yield l) #[] #[] else if t = 1 then c else undef := by
    intro t
    rw [h2, Array.getD_eq_getD_getElem?, Array.getElem?_append]
    match t with
    | 0 => rfl
    | 1 => rfl
    | t + 2 =>
      simp only [List.size_toArray, List.length_cons, List.length_nil]
      rw [if_neg (by omega), if_neg (by omega), if_neg (by omega), Array.getElem?_replicate]
      split <;> rfl
  refine wpIn_seq ?_
  have hrel0 : Rel (EB W X (hc _ _ _ h0).1 (kt2 (.func (.yield l) #[] #[]) c)) (SB (envB es fun _ => .any)) { tmps := #[Value.func (.yield l) #[] #[], c] ++ Array.replicate (fn.ntmps - (#[Value.func (.yield l) #[] #[], c] : Array Value).size) undef, defers := [] } W (fun _ => undef) := by
    refine rel_B _ rfl (by simp [h2]) (fun t v hv => ?_) (fun t => ?_)
    · simp only
      rw [hargs t]
      unfold kt2 at hv
      split at hv
      · rename_i e; rw [if_pos e]; injection hv
      · rename_i e; rw [if_neg e]
        split at hv
        · rename_i e'; rw [if_pos e']; injection hv
        · cases hv
    · simp only
      rw [hargs t]
      unfold envB
      split
      · rename_i e; subst e; exact (hc _ _ _ h0).2
      · exact .any _
  have dA : ∀ g ∈ [(⟨some 4, none, .load none (.tmp 1)⟩ : SG), ⟨some 5, none, .len false (.tmp 4)⟩, ⟨some 6, none, .bin .sub (.tmp 5) (.cst (.int .i64 1))⟩, ⟨some 3, none, .mov (.tmp 6)⟩], ∀ t, g.d = some t → t ≠ 0 ∧ t ≠ 1 := by
    intro g hg t ht
    simp only [List.mem_cons, List.not_mem_nil, or_false] at hg
    rcases hg with rfl | rfl | rfl | rfl <;> (injection ht with ht; omega)
  refine reg_B hA (by simp) dA hrel0 rfl fun a1 W1 L1 r1 => ?_
  have hJ1 : J es.length X W1 := hJ _ _ _ _ h0 (rel_B_fr r1)
  have b1 : BF (.func (.yield l) #[] #[]) c ((es.length : Int) - 1) a1 := by
    refine BF.of r1 ?_
    show PV.int .i64 (IntKind.i64.wrap ((es.length : Int) - 1)) = _
    rw [wrap_small (by omega) (by omega)]
  -- the loop
  refine wpIn_block ?_
  refine wpIn_loop_ghost (fun n a W => n ≤ es.length ∧ BF (.func (.yield l) #[] #[]) c ((n : Int) - 1) a ∧ ∃ X, J n X W) es.length ⟨Nat.le_refl _, b1, X, hJ1⟩ ?_
  rintro n a W ⟨hn, hb, X, hj⟩
  refine wpIn_seq (wpIn_seq ?_)
  have dT : ∀ g ∈ [(⟨some 7, none, .mov (.tmp 3)⟩ : SG), ⟨some 8, none, .bin .geq (.tmp 7) (.cst (.int .i64 0))⟩], ∀ t, g.d = some t → t ≠ 0 ∧ t ≠ 1 := by
    intro g hg t ht
    simp only [List.mem_cons, List.not_mem_nil, or_false] at hg
    rcases hg with rfl | rfl <;> (injection ht with ht; omega)
  refine reg_B hT (by simp) dT (hb.rel (hX := (hc _ _ _ hj).1) (hc _ _ _ hj).2 (fun _ => undef)) rfl fun a2 W2 L2 r2 => ?_
  have hj2 : J n X W2 := hJ _ _ _ _ hj (rel_B_fr r2)
  have b2 : BF (.func (.yield l) #[] #[]) c ((n : Int) - 1) a2 := BF.of r2 rfl
  have t8 : a2.eval (.tmp 8) = .bool (decide (0 ≤ (n : Int) - 1)) := by
    have := r2.env 8
    exact (show Rep _ _ _ (.bool (decide ((0 : Int) ≤ (n : Int) - 1))) _ from this).bool_inv
  refine wpIn_cond t8 ?_
  cases n with
  | zero =>
    rw [decide_eq_false (by omega)]
    refine wpIn_exit ?_
    simp only [Exit.then, Exit.inBlock, if_true]
    exact ⟨b2.defers, _, hresr _ _, ⟨_, rfl⟩, .inl ⟨X, hj2⟩⟩
  | succ m =>
    rw [decide_eq_true (by omega)]
    refine wpIn_skip ?_
    have e1 : ((m + 1 : Nat) : Int) - 1 = (m : Int) := by omega
    rw [e1] at b2
    refine wpIn_seq (wpIn_block (wpIn_seq ?_))
    refine region_B (J0 := J (m + 1) X) (J1 := fun W => ∃ X, J m X W) (Jx := Jx) hin (hc _ _ _ hj2).1 (hc _ _ _ hj2).2 (fun W' hW' => hJ _ _ _ _ hj2 hW') (fun _ _ ⟨X', q1⟩ q2 => ⟨X', hJ _ _ _ _ q1 q2⟩) hJx (fun W' ⟨X', q⟩ => (hc _ _ _ q).1.gi) hGx (fun W' e v q1 q2 q3 => hr m X W' e v q1 q2 q3) hG (by omega) b2 fun a3 W3 b hb3 t18 hj3 hx3 => ?_
    refine wpIn_cond (t := !b) t18 ?_
    cases b with
    | false =>
      refine wpIn_ret ?_
      exact ⟨hb3.defers, _, hresr _ _, ⟨_, rfl⟩, .inr (hx3 rfl)⟩
    | true =>
      refine wpIn_skip ?_
      have dN : ∀ g ∈ [(⟨some 9, none, .mov (.tmp 3)⟩ : SG), ⟨some 10, none, .bin .sub (.tmp 9) (.cst (.int .i64 1))⟩, ⟨some 3, none, .mov (.tmp 10)⟩], ∀ t, g.d = some t → t ≠ 0 ∧ t ≠ 1 := by
        intro g hg t ht
        simp only [List.mem_cons, List.not_mem_nil, or_false] at hg
        rcases hg with rfl | rfl | rfl <;> (injection ht with ht; omega)
      obtain ⟨X', hj4⟩ := hj3 rfl
      refine reg_B hN (by simp) dN (hb3.rel (hX := (hc _ _ _ hj4).1) (hc _ _ _ hj4).2 (fun _ => undef)) rfl fun a4 W4 L4 r4 => ?_
      refine ⟨m, Nat.lt_succ_self m, by omega, BF.of r4 ?_, X', hJ _ _ _ _ hj4 (rel_B_fr r4)⟩
      show PV.int .i64 (IntKind.i64.wrap ((m : Int) - 1)) = _
      rw [wrap_small (by omega) (by omega)]
end
end Go.TQ
