/-
  Plain Lean: what the turned functions compute. Conditions: none beyond those that each theorem names.
-/
import Derived.Test.YtncjalhhkmojlaaGreatEnvelopesExactPlainA
set_option linter.unusedVariables false
namespace Go.Proofs.YtncjalhhkmojlaaGreat
open Go.TQ

/-- the first place where a test holds -/
theorem place_find {α ρ : Type} (l : List α) (hl : l.length ≤ 1000000) (p : α → Bool) {step : Int × Unit → Option ((Int × Unit) ⊕ ρ)} {fin : Option ρ} {f : Nat → α → Option ρ}
    (h1 : ∀ (i : Nat) (x : α), i < l.length → l[i]? = some x → decide ((i : Int) < ((l.length : Nat) : Int)) = true → idx l (i : Int) = some x → addI .i64 (i : Int) 1 = ((i + 1 : Nat) : Int) → step ((i : Int), ()) = bif p x then Option.map Sum.inr (f i x) else some (.inl (((i + 1 : Nat) : Int), ())))
    (h2 : (∀ x ∈ l, p x = false) → decide (((l.length : Nat) : Int) < ((l.length : Nat) : Int)) = false → step (((l.length : Nat) : Int), ()) = Option.map Sum.inr fin) :
    loopO step ((0 : Int), ()) = match l.findIdx? p with | some i => (l[i]?).bind (f i) | none => fin := by
  suffices key : ∀ (k i : Nat), i + k = l.length → (∀ x ∈ l.take i, p x = false) → loopO step ((i : Int), ()) = match (l.drop i).findIdx? p with | some j => (l[i + j]?).bind (f (i + j)) | none => fin by
    have := key l.length 0 (by omega) (by simp)
    rw [List.drop_zero] at this
    simp only [Nat.zero_add] at this
    exact this
  intro k
  induction k with
  | zero =>
    intro i hi hpre
    obtain rfl : i = l.length := by omega
    rw [List.take_length] at hpre
    rw [loopO_eq, h2 hpre (decide_eq_false (Int.lt_irrefl _)), List.drop_length]
    cases fin <;> rfl
  | succ k ih =>
    intro i hi hpre
    have hlt : i < l.length := by omega
    have hx : l[i]? = some l[i] := List.getElem?_eq_getElem hlt
    have hs := h1 i l[i] hlt hx (decide_eq_true (by omega)) (by rw [idx_nat]; exact hx) (add64 (by omega) (by omega))
    rw [List.drop_eq_getElem_cons hlt, List.findIdx?_cons]
    cases hp : p l[i] with
    | true =>
      rw [hp] at hs
      rw [loopO_eq, hs]
      simp only [cond_true, if_true, Nat.add_zero, hx, Option.bind_some]
      cases f i l[i] <;> rfl
    | false =>
      rw [hp] at hs
      rw [loopO_inl hs, ih (i + 1) (by omega) (fun x hx => by
        rw [List.take_succ_eq_append_getElem hlt, List.mem_append, List.mem_singleton] at hx
        rcases hx with hx | rfl
        · exact hpre x hx
        · exact hp)]
      simp only [Bool.false_eq_true, if_false]
      cases (l.drop (i + 1)).findIdx? p with
      | none => rfl
      | some j =>
        simp only [Option.map_some]
        rw [show i + 1 + j = i + (j + 1) by omega]
def atN (l : List TEnvelope) (e : TEnvelope) : Nat := (l.findIdx? fun x => decide (e.Node < x.Node)).getD l.length
noncomputable def putN (l : List TEnvelope) (e : TEnvelope) : List TEnvelope × Bool × Unit :=
  if isValid e then
    match l.findIdx? fun x => decide (x.Node = e.Node) with
    | some i => if e.Seq ≤ ((l[i]?).getD e).Seq then (l, false, ()) else (l.set i e, true, ())
    | none => (l.take (atN l e) ++ [e] ++ l.drop (atN l e), true, ())
  else (l, false, ())
theorem at_le (l : List TEnvelope) (e : TEnvelope) : atN l e ≤ l.length := by
  unfold atN
  cases h : l.findIdx? fun x => decide (e.Node < x.Node) with
  | none => exact Nat.le_refl _
  | some i => exact Nat.le_of_lt ((List.findIdx?_eq_some_iff_getElem.1 h).1)
section
variable {l : List TEnvelope} (hl : ∀ x ∈ l, SmT x.Trust) (hlen : l.length ≤ 1000)
 include hlen
theorem where_eq (e : TEnvelope) : F_slices_IndexFunc_api_Envelope_api_Envelope_c131 l e = some (match l.findIdx? fun x => decide (x.Node = e.Node) with | some i => (i : Int) | none => -1) := by
  unfold F_slices_IndexFunc_api_Envelope_api_Envelope_c131
  refine (place_find l (by omega) (fun x => decide (x.Node = e.Node)) (f := fun i _ => some (i : Int)) (fin := some (-1)) (fun i x hi hx0 hd hx hw => ?_) (fun hall hd => ?_)).trans ?_
  · simp only [hd, hx, hw, cond_true, Option.bind_some, F_envelopes_Put_1]
  · simp only [hd, cond_false]
  · cases h : l.findIdx? fun x => decide (x.Node = e.Node) with
    | none => rfl
    | some i => have := (List.findIdx?_eq_some_iff_getElem.1 h).1; simp [List.getElem?_eq_getElem this]
theorem above_eq (e : TEnvelope) : F_slices_IndexFunc_api_Envelope_api_Envelope_c132 l e = some (match l.findIdx? fun x => decide (e.Node < x.Node) with | some i => (i : Int) | none => -1) := by
  unfold F_slices_IndexFunc_api_Envelope_api_Envelope_c132
  refine (place_find l (by omega) (fun x => decide (e.Node < x.Node)) (f := fun i _ => some (i : Int)) (fin := some (-1)) (fun i x hi hx0 hd hx hw => ?_) (fun hall hd => ?_)).trans ?_
  · simp only [hd, hx, hw, cond_true, Option.bind_some, F_envelopes_Put_2]
  · simp only [hd, cond_false]
  · cases h : l.findIdx? fun x => decide (e.Node < x.Node) with
    | none => rfl
    | some i => have := (List.findIdx?_eq_some_iff_getElem.1 h).1; simp [List.getElem?_eq_getElem this]
 include hl
theorem All_eq : F_copies_All_api_Envelope_c129 l = some l := by
  unfold F_copies_All_api_Envelope_c129
  suffices key : ∀ (k i : Nat), i + k = l.length → loopO _ ((i : Int), l.take i, ()) = some l from key l.length 0 (by omega)
  intro k
  induction k with
  | zero =>
    intro i hi
    obtain rfl : i = l.length := by omega
    have hd : decide (((l.length : Nat) : Int) < ((l.length : Nat) : Int)) = false := decide_eq_false (Int.lt_irrefl _)
    exact loopO_inr (by simp only [hd, cond_false, Option.map_some, List.take_length])
  | succ k ih =>
    intro i hi
    have hlt : i < l.length := by omega
    have hd : decide ((i : Int) < ((l.length : Nat) : Int)) = true := decide_eq_true (by omega)
    have hw : addI .i64 (i : Int) 1 = ((i + 1 : Nat) : Int) := add64 (by omega) (by omega)
    have hx : idx l (i : Int) = some l[i] := by rw [idx_nat]; exact List.getElem?_eq_getElem hlt
    have hc : F_copies_Envelope l[i] = some l[i] := by simp only [F_copies_Envelope, TTrust.eta, copies_eq (hl _ (List.getElem_mem hlt)), Option.bind_some]
    refine (loopO_inl ?_).trans (ih (i + 1) (by omega))
    simp only [hd, hx, hw, cond_true, Option.bind_some, TTrust.eta, TEnvelope.eta, hc]
    rw [len_ok (by omega) (by simp; omega), List.take_succ_eq_append_getElem hlt]
    rfl
theorem Put_eq {e : TEnvelope} (he : SmT e.Trust) : F_envelopes_Put l e = some (putN l e) := by
  have hc : F_copies_Envelope e = some e := by simp only [F_copies_Envelope, TTrust.eta, copies_eq he, Option.bind_some]
  have hat := at_le l e
  unfold F_envelopes_Put
  simp only [All_eq hl hlen, TTrust.eta, TEnvelope.eta, Valid_eq he, hc, where_eq hlen, above_eq hlen, Option.bind_some, letJ_eq]
  unfold putN
  cases isValid e with
  | false => rfl
  | true =>
    simp only [Bool.not_true, cond_false, if_true]
    cases h : l.findIdx? fun x => decide (x.Node = e.Node) with
    | some i =>
      have hi := (List.findIdx?_eq_some_iff_getElem.1 h).1
      have hd : decide ((0 : Int) ≤ (i : Int)) = true := decide_eq_true (by omega)
      have hx : idx l (i : Int) = some l[i] := by rw [idx_nat]; exact List.getElem?_eq_getElem hi
      simp only [hd, hx, cond_true, Option.bind_some, Int.toNat_natCast, List.getElem?_eq_getElem hi, Option.getD_some]
      by_cases hs : e.Seq ≤ l[i].Seq <;> simp [hs]
    | none =>
      have hd : decide ((0 : Int) ≤ -1) = false := rfl
      simp only [hd, cond_false]
      have hins : ∀ a : Nat, a ≤ l.length → F_slices_Insert_api_Envelope_api_Envelope l (a : Int) [e] = some (l.take a ++ [e] ++ l.drop a) := fun a ha => by
        unfold F_slices_Insert_api_Envelope_api_Envelope insF
        have h1 : decide ((0 : Int) ≤ (a : Int)) = true := decide_eq_true (by omega)
        have h2 : decide ((a : Int) ≤ ((l.length : Nat) : Int)) = true := decide_eq_true (by omega)
        rw [h1, h2, len_ok (by omega) (by simp; omega)]
        rfl
      unfold atN at hat ⊢
      cases h' : l.findIdx? fun x => decide (e.Node < x.Node) with
      | none =>
        have hd2 : decide ((-1 : Int) < 0) = true := rfl
        simp only [hd2, cond_true, hins _ (Nat.le_refl _), Option.bind_some, Option.getD_none]
      | some j =>
        have hj := (List.findIdx?_eq_some_iff_getElem.1 h').1
        have hd2 : decide ((j : Int) < 0) = false := decide_eq_false (by omega)
        simp only [hd2, cond_false, hins _ (Nat.le_of_lt hj), Option.bind_some, Option.getD_some]
 omit hl in
theorem put_facts (e : TEnvelope) {a b : Nat} (ha : a ≤ b) (hb : b ≤ l.length) : slcOk (0 : Int) (a : Int) l.length = true ∧ lenOk 176 (List.length ((l.take (Int.toNat (a : Int))).drop (Int.toNat (0 : Int)))) = true ∧
    lenOk 176 (List.length ((l.take (Int.toNat (a : Int))).drop (Int.toNat (0 : Int))) + List.length [e]) = true ∧ slcOk (b : Int) (l.length : Int) l.length = true ∧
    lenOk 176 (List.length (((l.take (Int.toNat (a : Int))).drop (Int.toNat (0 : Int))) ++ [e]) + List.length ((l.take (Int.toNat (l.length : Int))).drop (Int.toNat (b : Int)))) = true ∧
    (((l.take (Int.toNat (a : Int))).drop (Int.toNat (0 : Int))) ++ [e]) ++ ((l.take (Int.toNat (l.length : Int))).drop (Int.toNat (b : Int))) = l.take a ++ [e] ++ l.drop b := by
  refine ⟨by simp [slcOk]; omega, len_ok (by omega) (by simp; omega), len_ok (by omega) (by simp; omega), by simp [slcOk]; omega, len_ok (by omega) (by simp; omega), ?_⟩
  simp only [Int.toNat_natCast, Int.toNat_zero, List.drop_zero, List.take_length]
end
theorem findIdx_congr {α : Type} {p q : α → Bool} : ∀ {l : List α}, (∀ x ∈ l, p x = q x) → l.findIdx? p = l.findIdx? q
  | [], _ => rfl
  | x :: l, h => by rw [List.findIdx?_cons, List.findIdx?_cons, h x (by simp), findIdx_congr fun y hy => h y (by simp [hy])]
theorem rPut_eq {l : List TEnvelope} (hl : ∀ x ∈ l, SmT x.Trust) (hlen : l.length ≤ 1000) {e : TEnvelope} (he : SmT e.Trust) : F_ref24_Put l e = some (putN l e) := by
  unfold F_ref24_Put
  simp only [TTrust.eta, TEnvelope.eta, rValid_eq he, Option.bind_some, letJ_eq]
  unfold putN
  cases isValid e with
  | false => rfl
  | true =>
    simp only [Bool.not_true, cond_false, if_true]
    refine (place_find l (by omega) (fun x => decide (x.Node = e.Node)) (f := fun i x => if e.Seq ≤ x.Seq then some (l, false, ()) else some (l.take i ++ [e] ++ l.drop (i + 1), true, ())) (fin := some (l.take (atN l e) ++ [e] ++ l.drop (atN l e), true, ())) (fun i x hi hx0 hd hx hw => ?_) (fun hall hd => ?_)).trans ?_
    · simp only [hd, hx, hw, cond_true, Option.bind_some]
      cases decide (x.Node = e.Node) with
      | false => rfl
      | true =>
        simp only [cond_true]
        obtain ⟨f1, f2, f3, f4, f5, f6⟩ := put_facts hlen e (show i ≤ i + 1 by omega) (show i + 1 ≤ l.length by omega)
        simp only [f1, f2, f3, f4, f5, f6, cond_true]
        by_cases hs : e.Seq ≤ x.Seq <;> simp [hs]
    · simp only [hd, cond_false]
      refine congrArg (Option.map Sum.inr) ?_
      have hcg : (l.findIdx? fun x => !decide (x.Node < e.Node)) = l.findIdx? fun x => decide (e.Node < x.Node) := findIdx_congr fun x hx => by
        have := hall x hx
        have hne : x.Node ≠ e.Node := of_decide_eq_false this
        by_cases h : x.Node < e.Node
        · have h' : ¬ e.Node < x.Node := by omega
          simp [h, h']
        · have h' : e.Node < x.Node := by omega
          simp [h, h']
      refine (place_find l (by omega) (fun x => !decide (x.Node < e.Node)) (f := fun i x => some (l.take i ++ [e] ++ l.drop i, true, ())) (fin := some (l.take l.length ++ [e] ++ l.drop l.length, true, ())) (fun i x hi hx0 hd hx hw => ?_) (fun _ hd => ?_)).trans ?_
      · simp only [hd, hx, hw, cond_true, Option.bind_some]
        cases decide (x.Node < e.Node) with
        | true => rfl
        | false =>
          simp only [cond_false, Bool.not_false, cond_true]
          obtain ⟨f1, f2, f3, f4, f5, f6⟩ := put_facts hlen e (Nat.le_refl i) (show i ≤ l.length by omega)
          simp only [f1, f2, f3, f4, f5, f6, cond_true]
      · simp only [hd, cond_false]
        obtain ⟨f1, f2, f3, f4, f5, f6⟩ := put_facts hlen e (Nat.le_refl l.length) (Nat.le_refl _)
        simp only [f1, f2, f3, f4, f5, f6, cond_true]
      · rw [hcg]
        unfold atN
        cases h : l.findIdx? fun x => decide (e.Node < x.Node) with
        | none => rfl
        | some i =>
          have hi := (List.findIdx?_eq_some_iff_getElem.1 h).1
          simp only [List.getElem?_eq_getElem hi, Option.bind_some, Option.getD_some]
    · cases h : l.findIdx? fun x => decide (x.Node = e.Node) with
      | none => rfl
      | some i =>
        have hi := (List.findIdx?_eq_some_iff_getElem.1 h).1
        simp only [List.getElem?_eq_getElem hi, Option.bind_some, Option.getD_some]
        by_cases hs : e.Seq ≤ l[i].Seq
        · simp [hs]
        · simp only [hs, if_false]
          rw [List.set_eq_take_append_cons_drop, if_pos hi]
          simp
end Go.Proofs.YtncjalhhkmojlaaGreat

set_option linter.unusedVariables false
namespace Go.Proofs.YtncjalhhkmojlaaGreat
open Go.TQ

/-! ### raw arguments -/
theorem thin_gen {ρ : Type} {bad good : ρ} {t : TTrust} {step : Int × Unit → Option ((Int × Unit) ⊕ ρ)} (h4 : t.Inner.length ≤ 4) (h12 : t.Nodes.length ≤ 12)
    (h1 : ∀ (i : Nat) (x : TTrust), decide ((i : Int) < ((t.Inner.length : Nat) : Int)) = true → idx t.Inner (i : Int) = some x → addI .i64 (i : Int) 1 = ((i + 1 : Nat) : Int) → step ((i : Int), ()) = some (bif (decide ((12 : Int) < ((x.Nodes.length : Nat) : Int)) || decide ((0 : Int) < ((x.Inner.length : Nat) : Int))) then .inr bad else .inl (((i + 1 : Nat) : Int), ())))
    (h2 : decide (((t.Inner.length : Nat) : Int) < ((t.Inner.length : Nat) : Int)) = false → step (((t.Inner.length : Nat) : Int), ()) = some (.inr good)) : loopO step ((0 : Int), ()) = some bad ∨ (loopO step ((0 : Int), ()) = some good ∧ SmT t) := by
  suffices key : ∀ (k i : Nat), i + k = t.Inner.length → (∀ u ∈ t.Inner.take i, SmT u) → loopO step ((i : Int), ()) = some bad ∨ (loopO step ((i : Int), ()) = some good ∧ SmT t) from key t.Inner.length 0 (by omega) (by simp)
  intro k
  induction k with
  | zero =>
    intro i hi hu
    obtain rfl : i = t.Inner.length := by omega
    rw [List.take_length] at hu
    exact .inr ⟨loopO_inr (h2 (decide_eq_false (Int.lt_irrefl _))), .mk t (by omega) (by omega) hu⟩
  | succ k ih =>
    intro i hi hu
    have hlt : i < t.Inner.length := by omega
    have hs := h1 i t.Inner[i] (decide_eq_true (by omega)) (by rw [idx_nat]; exact List.getElem?_eq_getElem hlt) (add64 (by omega) (by omega))
    cases hb : (decide ((12 : Int) < ((t.Inner[i].Nodes.length : Nat) : Int)) || decide ((0 : Int) < ((t.Inner[i].Inner.length : Nat) : Int))) with
    | true => rw [hb] at hs; exact .inl (loopO_inr hs)
    | false =>
      rw [hb] at hs
      rw [loopO_inl hs]
      refine ih (i + 1) (by omega) fun u huu => ?_
      rw [List.take_succ_eq_append_getElem hlt, List.mem_append, List.mem_singleton] at huu
      rcases huu with huu | rfl
      · exact hu u huu
      · simp only [Bool.or_eq_false_iff, decide_eq_false_iff_not] at hb
        have h0 : t.Inner[i].Inner = [] := List.eq_nil_of_length_eq_zero (by omega)
        exact .mk _ (by omega) (by omega) (by rw [h0]; simp)
theorem few_gen {l : List TEnvelope} (hmax : l.length ≤ 9223372036854775807) {step : Int × Unit → Option ((Int × Unit) ⊕ Bool)}
    (h1 : ∀ (i : Nat) (e : TEnvelope), decide ((i : Int) < ((l.length : Nat) : Int)) = true → idx l (i : Int) = some e → addI .i64 (i : Int) 1 = ((i + 1 : Nat) : Int) → step ((i : Int), ()) = some (.inr false) ∨ (step ((i : Int), ()) = some (.inl (((i + 1 : Nat) : Int), ())) ∧ SmT e.Trust))
    (h2 : decide (((l.length : Nat) : Int) < ((l.length : Nat) : Int)) = false → step (((l.length : Nat) : Int), ()) = some (.inr (decide (((l.length : Nat) : Int) ≤ 12)))) : ∃ b, loopO step ((0 : Int), ()) = some b ∧ (b = true → l.length ≤ 12 ∧ SmL l) := by
  suffices key : ∀ (k i : Nat), i + k = l.length → (∀ e ∈ l.take i, SmT e.Trust) → ∃ b, loopO step ((i : Int), ()) = some b ∧ (b = true → l.length ≤ 12 ∧ SmL l) from key l.length 0 (by omega) (by simp)
  intro k
  induction k with
  | zero =>
    intro i hi hu
    obtain rfl : i = l.length := by omega
    rw [List.take_length] at hu
    refine ⟨_, loopO_inr (h2 (decide_eq_false (Int.lt_irrefl _))), fun h => ?_⟩
    have := of_decide_eq_true h
    exact ⟨by omega, by omega, hu⟩
  | succ k ih =>
    intro i hi hu
    have hlt : i < l.length := by omega
    rcases h1 i l[i] (decide_eq_true (by omega)) (by rw [idx_nat]; exact List.getElem?_eq_getElem hlt) (add64 (by omega) (by omega)) with hs | ⟨hs, ht⟩
    · exact ⟨false, loopO_inr hs, fun h => by cases h⟩
    · rw [loopO_inl hs]
      refine ih (i + 1) (by omega) fun e he => ?_
      rw [List.take_succ_eq_append_getElem hlt, List.mem_append, List.mem_singleton] at he
      rcases he with he | rfl
      · exact hu e he
      · exact ht
theorem few24 {l : List TEnvelope} (hmax : l.length ≤ 9223372036854775807) : ∃ b, F_law24_few l = some b ∧ (b = true → l.length ≤ 12 ∧ SmL l) := by
  unfold F_law24_few
  refine few_gen hmax (fun i e hd hx hw => ?_) (fun hd => ?_)
  · simp only [hd, hx, hw, cond_true, Option.bind_some]
    generalize decide ((500 : Int) < _) = big
    by_cases h12 : e.Trust.Nodes.length ≤ 12
    · by_cases h4 : e.Trust.Inner.length ≤ 4
      · have d1 : decide ((12 : Int) < ((e.Trust.Nodes.length : Nat) : Int)) = false := decide_eq_false (by omega)
        have d2 : decide ((4 : Int) < ((e.Trust.Inner.length : Nat) : Int)) = false := decide_eq_false (by omega)
        simp only [d1, d2, cond_false, Option.bind_some]
        cases big with
        | true => exact .inl rfl
        | false =>
          simp only [cond_false]
          refine thin_gen h4 h12 (fun j x hd' hx' hw' => ?_) (fun hd' => ?_)
          · simp only [hd', hx', hw', cond_true, Option.bind_some]
            cases decide ((12 : Int) < ((x.Nodes.length : Nat) : Int)) <;> cases decide ((0 : Int) < ((x.Inner.length : Nat) : Int)) <;> simp
          · simp only [hd', cond_false, Option.map_some]
      · have d2 : decide ((4 : Int) < ((e.Trust.Inner.length : Nat) : Int)) = true := decide_eq_true (by omega)
        left
        simp only [d2, bif_same, Option.bind_some, cond_true, Option.map_some]
    · have d1 : decide ((12 : Int) < ((e.Trust.Nodes.length : Nat) : Int)) = true := decide_eq_true (by omega)
      left
      simp only [d1, cond_true, Option.bind_some, Option.map_some]
  · simp only [hd, cond_false, Option.map_some]

/-! ### sets -/
theorem set24 (l : List TEnvelope) (hlen : l.length ≤ 1000) (ok : List Bool) (hok : ok.length ≤ 1000) : ∃ r, F_envelopes_Set l ok = some r ∧ F_ref24_Set l ok = some r := by
  unfold F_envelopes_Set F_ref24_Set
  suffices key : ∀ (k i s : Nat), i + k = l.length → s < 1024 → ∃ r, loopO _ ((s : Int), (i : Int), ()) = some r ∧ loopO _ ((s : Int), (i : Int), ()) = some r from key l.length 0 0 (by omega) (by omega)
  intro k
  induction k with
  | zero =>
    intro i s hi hs
    obtain rfl : i = l.length := by omega
    have hd : decide (((l.length : Nat) : Int) < ((l.length : Nat) : Int)) = false := decide_eq_false (Int.lt_irrefl _)
    exact ⟨(s : Int), loopO_inr (by simp only [hd, cond_false, Option.map_some]), loopO_inr (by simp only [hd, cond_false, Option.map_some])⟩
  | succ k ih =>
    intro i s hi hs
    have hlt : i < l.length := by omega
    have hd : decide ((i : Int) < ((l.length : Nat) : Int)) = true := decide_eq_true (by omega)
    have hw : addI .i64 (i : Int) 1 = ((i + 1 : Nat) : Int) := add64 (by omega) (by omega)
    have hx : idx l (i : Int) = some l[i] := by rw [idx_nat]; exact List.getElem?_eq_getElem hlt
    obtain ⟨o, ho⟩ : ∃ o : Bool, (bif (decide ((i : Int) < ((ok.length : Nat) : Int))) then Option.bind (idx ok (i : Int)) fun x5 => some x5 else some false) = some o := by
      by_cases h : i < ok.length
      · have h1 : decide ((i : Int) < ((ok.length : Nat) : Int)) = true := decide_eq_true (by omega)
        have h2 : idx ok (i : Int) = some ok[i] := by rw [idx_nat]; exact List.getElem?_eq_getElem h
        exact ⟨ok[i], by rw [h1, h2]; rfl⟩
      · have h1 : decide ((i : Int) < ((ok.length : Nat) : Int)) = false := decide_eq_false (by omega)
        exact ⟨false, by rw [h1]; rfl⟩
    by_cases hin : o = true ∧ 0 ≤ l[i].Node ∧ l[i].Node < 10
    · obtain ⟨rfl, h0, h1⟩ := hin
      have hc : convI .u64 l[i].Node = l[i].Node := by
        obtain ⟨n, hn⟩ : ∃ n : Nat, l[i].Node = n := ⟨l[i].Node.toNat, by omega⟩
        rw [hn]
        exact convU' (by omega)
      have hn0 : ¬ l[i].Node < 0 := by omega
      have d1 : decide ((0 : Int) ≤ l[i].Node) = true := decide_eq_true h0
      have d2 : decide (l[i].Node ≤ (9 : Int)) = true := decide_eq_true (by omega)
      have d3 : decide (l[i].Node < (10 : Int)) = true := decide_eq_true h1
      obtain ⟨r, g1, g2⟩ := ih (i + 1) (s ||| 2 ^ l[i].Node.toNat) (by omega) (or_lt hs h1)
      refine ⟨r, (loopO_inl ?_).trans g1, (loopO_inl ?_).trans g2⟩
      · simp only [hd, hx, hw, ho, cond_true, letJ_eq, Option.bind_some, d1, d3, hn0, if_false]
        rw [orI_bit hs h0 h1]
      · simp only [hd, hx, hw, ho, cond_true, letJ_eq, Option.bind_some, d1, d2, hc, hn0, if_false]
        rw [orI_bit hs h0 h1]
    · obtain ⟨r, g1, g2⟩ := ih (i + 1) s (by omega) hs
      have e1 : (bif (bif o then decide ((0 : Int) ≤ l[i].Node) else false) then decide (l[i].Node < (10 : Int)) else false) = false := by
        cases o with
        | false => rfl
        | true =>
          by_cases h0 : 0 ≤ l[i].Node
          · by_cases h1 : l[i].Node < 10
            · exact absurd ⟨rfl, h0, h1⟩ hin
            · simp [h1]
          · simp [h0]
      have e2 : (bif (bif o then decide ((0 : Int) ≤ l[i].Node) else false) then decide (l[i].Node ≤ (9 : Int)) else false) = false := by
        have h9 : decide (l[i].Node ≤ (9 : Int)) = decide (l[i].Node < (10 : Int)) := by rw [decide_eq_decide]; omega
        rw [h9]
        exact e1
      refine ⟨r, (loopO_inl ?_).trans g1, (loopO_inl ?_).trans g2⟩
      · simp only [hd, hx, hw, ho, cond_true, letJ_eq, Option.bind_some, bif_some, e1, cond_false]
      · simp only [hd, hx, hw, ho, cond_true, letJ_eq, Option.bind_some, bif_some, e2, cond_false]

/-! ### the same -/
theorem ints24 (l : List Int) (hlen : l.length ≤ 1000000) : F_law24_ints l l = some true := by
  unfold F_law24_ints
  simp only [decide_true, Bool.not_true, cond_false]
  refine all_loop l.length (fun i => (i, ())) (fun i hi => ?_) ?_
  · have hd : decide ((i : Int) < ((l.length : Nat) : Int)) = true := decide_eq_true (by omega)
    have hw : addI .i64 (i : Int) 1 = ((i + 1 : Nat) : Int) := add64 (by omega) (by omega)
    have hx : idx l (i : Int) = some l[i] := by rw [idx_nat]; exact List.getElem?_eq_getElem hi
    simp only [hd, hx, hw, cond_true, Option.bind_some, decide_true, Bool.not_true, cond_false]
  · have hd : decide (((l.length : Nat) : Int) < ((l.length : Nat) : Int)) = false := decide_eq_false (Int.lt_irrefl _)
    simp only [hd, cond_false]
theorem eq2_true_self (a : Int) (s : ByteArray) : eq2 false a a s s = true := by simp
theorem same24 {e : TEnvelope} (h : SmT e.Trust) : F_ref24_Same e e = some true := by
  simp only [F_ref24_Same, TTrust.eta, same02 h, decide_true, cond_true, Option.bind_some, eq2_true_self]
theorem envs24 {l : List TEnvelope} (hlen : l.length ≤ 1000000) (hl : ∀ e ∈ l, SmT e.Trust) : F_ref24_Envelopes l l = some true := by
  unfold F_ref24_Envelopes
  simp only [decide_true, Bool.not_true, cond_false]
  refine all_loop l.length (fun i => (i, ())) (fun i hi => ?_) ?_
  · have hd : decide ((i : Int) < ((l.length : Nat) : Int)) = true := decide_eq_true (by omega)
    have hw : addI .i64 (i : Int) 1 = ((i + 1 : Nat) : Int) := add64 (by omega) (by omega)
    have hx : idx l (i : Int) = some l[i] := by rw [idx_nat]; exact List.getElem?_eq_getElem hi
    simp only [hd, hx, hw, cond_true, Option.bind_some, TTrust.eta, TEnvelope.eta, same24 (hl _ (List.getElem_mem hi)), Bool.not_true, cond_false]
  · have hd : decide (((l.length : Nat) : Int) < ((l.length : Nat) : Int)) = false := decide_eq_false (Int.lt_irrefl _)
    simp only [hd, cond_false]
theorem put_sm {l : List TEnvelope} (hl : ∀ x ∈ l, SmT x.Trust) {e : TEnvelope} (he : SmT e.Trust) : ∀ x ∈ (putN l e).1, SmT x.Trust := by
  unfold putN
  split
  · split
    · split
      · exact hl
      · intro x hx
        rcases List.mem_or_eq_of_mem_set hx with h | rfl
        · exact hl x h
        · exact he
    · intro x hx
      rw [List.mem_append, List.mem_append, List.mem_singleton] at hx
      rcases hx with (h | rfl) | h
      · exact hl x (List.mem_of_mem_take h)
      · exact he
      · exact hl x (List.mem_of_mem_drop h)
  · exact hl
theorem put_len {l : List TEnvelope} {e : TEnvelope} : (putN l e).1.length ≤ l.length + 1 := by
  have := at_le l e
  unfold putN
  split
  · split
    · split
      · simp
      · simp
    · simp; omega
  · simp
theorem rCounter_eq {e : TEnvelope} (h : SmT e.Trust) : F_ref24_Counter e = F_envelopes_Counter e := by
  simp only [F_ref24_Counter, F_envelopes_Counter, TTrust.eta, TEnvelope.eta, rValid_eq h, Valid_eq h, Option.bind_some, F_Right_Count_eq, countE]
  cases isValid e with
  | false => rfl
  | true => by_cases h3 : e.Kind = 3 <;> simp [h3]

/-! ### envelopes that are bent -/
theorem Odd_ok {s : TSrc} (h : OkS s) : Yd (F_play_Src_Odd s) fun p => OkS p.2 := by
  unfold F_play_Src_Odd
  exact (Pick_ok h (by simp) (by simp)).bind fun p a1 => Yd.some a1
theorem Bent_ok {s : TSrc} (h : OkS s) {e : TEnvelope} (he : SmT e.Trust) : Yd (F_play_Src_BentEnvelope s e) fun p => OkS p.2 ∧ SmT p.1.Trust := by
  have hk : ∀ t : Int, SmT (TTrust.mk t e.Trust.Nodes e.Trust.Inner) := fun t => .mk _ he.nodes he.len he.inner
  unfold F_play_Src_BentEnvelope
  simp only [TTrust.eta, TEnvelope.eta]
  refine Yd.join (fun v => OkS v.1 ∧ SmT v.2.1.Trust) (fun v ⟨g1, g2⟩ => Yd.some ⟨g1, g2⟩) fun j2 hj => ?_
  refine (N_ok h (by omega)).bind fun p3 ⟨a1, _⟩ => ?_
  refine Yd.cond (fun _ => (Pick_ok a1 (by simp) (by simp)).bind fun p b => hj _ ⟨b, he⟩) fun _ => ?_
  refine Yd.cond (fun _ => (Pick_ok a1 (by simp) (by simp)).bind fun p b => hj _ ⟨b, he⟩) fun _ => ?_
  refine Yd.cond (fun _ => (Odd_ok a1).bind fun p b => hj _ ⟨b, he⟩) fun _ => ?_
  refine Yd.cond (fun _ => (Pick_ok a1 (by simp) (by simp)).bind fun p b => hj _ ⟨b, hk _⟩) fun _ => ?_
  refine Yd.cond (fun _ => (Range_ok a1 (by omega) (by omega) (by omega)).bind fun p b => hj _ ⟨b.1, he⟩) fun _ => ?_
  refine Yd.cond (fun _ => (Odd_ok a1).bind fun p b => (Text_ok b (by simp) (by simp)).bind fun q c => hj _ ⟨c.1, he⟩) fun _ => ?_
  refine Yd.cond (fun _ => (Odd_ok a1).bind fun p b => (Text_ok b (by simp) (by simp)).bind fun q c => hj _ ⟨c.1, he⟩) fun _ => ?_
  refine Yd.cond (fun _ => (Ballot_ok a1).bind fun p b => hj _ ⟨b, he⟩) fun _ => ?_
  refine Yd.cond (fun _ => (Odd_ok a1).bind fun p b => hj _ ⟨b, he⟩) fun _ => ?_
  exact (Odd_ok a1).bind fun p b => hj _ ⟨b, he⟩
end Go.Proofs.YtncjalhhkmojlaaGreat

set_option linter.unusedVariables false
namespace Go.Proofs.YtncjalhhkmojlaaGreat
open Go.TQ

theorem rounds_yd {ρ : Type} {p : ρ → Prop} (n : Nat) (hn : n ≤ 1000000) {step : Int × Unit → Option ((Int × Unit) ⊕ ρ)}
    (h1 : ∀ i : Nat, i < n → decide ((i : Int) < ((n : Nat) : Int)) = true → addI .i64 (i : Int) 1 = ((i + 1 : Nat) : Int) → step ((i : Int), ()) = some (.inl (((i + 1 : Nat) : Int), ())))
    (h2 : decide (((n : Nat) : Int) < ((n : Nat) : Int)) = false → Yd (step ((n : Int), ())) fun y => match y with | .inl _ => False | .inr r => p r) : Yd (loopO step (0, ())) p := by
  obtain ⟨y, hy, hp⟩ := h2 (decide_eq_false (Int.lt_irrefl _))
  cases y with
  | inl z => exact hp.elim
  | inr r => exact ⟨r, all_loop n (fun i => (i, ())) (fun i hi => h1 i hi (decide_eq_true (by omega)) (add64 (by omega) (by omega))) (fin := some r) hy, hp⟩
theorem rounds_eq {ρ : Type} (n : Nat) (hn : n ≤ 1000000) {fin : Option ρ} {step : Int × Unit → Option ((Int × Unit) ⊕ ρ)}
    (h1 : ∀ i : Nat, i < n → decide ((i : Int) < ((n : Nat) : Int)) = true → addI .i64 (i : Int) 1 = ((i + 1 : Nat) : Int) → step ((i : Int), ()) = some (.inl (((i + 1 : Nat) : Int), ())))
    (h2 : decide (((n : Nat) : Int) < ((n : Nat) : Int)) = false → step ((n : Int), ()) = Option.map Sum.inr fin) : loopO step (0, ()) = fin :=
  all_loop n (fun i => (i, ())) (fun i hi => h1 i hi (decide_eq_true (by omega)) (add64 (by omega) (by omega))) (h2 (decide_eq_false (Int.lt_irrefl _)))
theorem idx_both {α : Type} {l : List α} {i : Nat} (h : i < l.length) : ∃ x ∈ l, idx l (i : Int) = some x ∧ l[Int.toNat (i : Int)]? = some x := ⟨l[i], List.getElem_mem h, by rw [idx_nat]; exact List.getElem?_eq_getElem h, by rw [Int.toNat_natCast]; exact List.getElem?_eq_getElem h⟩
theorem counter_some {e : TEnvelope} (h : SmT e.Trust) : ∃ c, F_envelopes_Counter e = some c := ⟨_, F_Counter_eq (tval_eq h)⟩
theorem vp_eq {e : TEnvelope} (h : SmT e.Trust) (b : TBallot) : F_envelopes_VotesPrepare e b = some (isValid e && votesP e b) := F_VotesPrepare_eq (tval_eq h) b
theorem ap_eq {e : TEnvelope} (h : SmT e.Trust) (b : TBallot) : F_envelopes_AcceptsPrepare e b = some (isValid e && acceptsP e b) := F_AcceptsPrepare_eq (tval_eq h) b
theorem vc_eq {e : TEnvelope} (h : SmT e.Trust) (v : ByteArray) (lo hi : Int) : F_envelopes_VotesCommit e v lo hi = some (isValid e && votesC e v lo hi) := F_VotesCommit_eq (tval_eq h) v lo hi
theorem ac_eq {e : TEnvelope} (h : SmT e.Trust) (v : ByteArray) (lo hi : Int) : F_envelopes_AcceptsCommit e v lo hi = some (isValid e && acceptsC e v lo hi) := F_AcceptsCommit_eq (tval_eq h) v lo hi
theorem envelopesExact (a0 : List Int) (a1 : List TEnvelope) (h1 : a1.length ≤ 9223372036854775807) (a2 : TEnvelope) (a3 : TBallot) (a4 : ByteArray) (a5 a6 : Int) (a7 : List Bool) : F_law24_EnvelopesExact a0 a1 a2 a3 a4 a5 a6 a7 = some true := by
  refine Yd.eq_true ?_
  unfold F_law24_EnvelopesExact
  obtain ⟨bf, hf, hfew⟩ := few24 h1
  obtain ⟨bt, ht, hodd⟩ := few24 (l := [a2]) (by simp)
  simp only [TTrust.eta, TEnvelope.eta]
  simp only [hf, ht, Option.bind_some]
  generalize decide ((400 : Int) < _) = big
  cases bf with
  | false =>
    simp only [Bool.not_false, cond_true, Option.bind_some, sane24]
    exact Yd.some rfl
  | true =>
  cases bt with
  | false =>
    simp only [Bool.not_true, Bool.not_false, cond_true, cond_false, Option.bind_some, sane24]
    exact Yd.some rfl
  | true =>
  cases big with
  | true =>
    simp only [Bool.not_true, cond_true, cond_false, Option.bind_some, sane24]
    exact Yd.some rfl
  | false =>
  by_cases hok : a7.length ≤ 20
  case neg =>
    have hd : decide ((20 : Int) < ((a7.length : Nat) : Int)) = true := decide_eq_true (by omega)
    simp only [hd, Bool.not_true, cond_true, cond_false, Option.bind_some, sane24]
    exact Yd.some rfl
  have hdk : decide ((20 : Int) < ((a7.length : Nat) : Int)) = false := decide_eq_false (by omega)
  obtain ⟨hlen1, hsm1⟩ := hfew rfl
  have hsmo : SmT a2.Trust := (hodd rfl).2.trust a2 (by simp)
  simp only [hdk, Bool.not_true, cond_false, Option.bind_some]
  refine (New_ok a0).bind fun s hs => ?_
  refine (Envelopes_ok (n := 5) hs (by omega) (by omega)).bind fun p8 ⟨b1, b2⟩ => ?_
  have hsm0 := b2.sm (by omega)
  have hlen0 := b2.len
  generalize p8.1 = own at *
  refine src_loop 2 (fun i s hi hs => ?_) (fun s hs => ?_) b1
  · have hd : decide ((i : Int) < 2) = true := decide_eq_true (by omega)
    have hw : addI .i64 (i : Int) 1 = ((i + 1 : Nat) : Int) := add64 (by omega) (by omega)
    simp only [hd, cond_true, hw]
    obtain ⟨l, hl, hli⟩ := idx_mem (l := [own, a1]) (i := i) (by simp; omega)
    rw [hli, Option.bind_some]
    have hl2 : SmL l ∧ l.length ≤ 1000 ∧ l.length ≤ 12 := by
      simp only [List.mem_cons, List.not_mem_nil, or_false] at hl
      rcases hl with rfl | rfl
      · exact ⟨hsm0, by omega, by omega⟩
      · exact ⟨hsm1, by omega, by omega⟩
    obtain ⟨hsm, hlen, hl12⟩ := hl2
    obtain ⟨e1, _, e3, _⟩ := ballotsN_ok hsm.trust hlen
    obtain ⟨f1, _, f3, _⟩ := valuesN_ok hsm.trust hlen
    obtain ⟨r1, g1, g2⟩ := set24 l hlen a7 (by omega)
    obtain ⟨r2, g3, g4⟩ := set24 l hlen [true, false, true, true] (by simp)
    simp only [e1, f1, g1, g2, g3, g4, rBallots_eq hsm.trust hlen, rValues_eq hsm.trust hlen, Option.bind_some, decide_true, Bool.not_true, cond_false]
    generalize ballotsN l = bs at *
    generalize valuesN l = vs at *
    refine rounds_yd bs.length (by omega) (fun i1 hi1 hd hw1 => ?_) (fun hd => ?_)
    · obtain ⟨x, _, hx, _⟩ := idx_both hi1
      simp only [hd, hx, hw1, cond_true, Option.bind_some, eq2_self, cond_false]
    simp only [hd, cond_false]
    refine Yd.map ?_
    refine rounds_yd vs.length (by omega) (fun i1 hi1 hd hw1 => ?_) (fun hd => ?_)
    · obtain ⟨x, _, hx, _⟩ := idx_both hi1
      simp only [hd, hx, hw1, cond_true, Option.bind_some, decide_true, Bool.not_true, cond_false]
    simp only [hd, cond_false]
    refine Yd.map ?_
    rw [len_ok (by omega) (by simp; omega), cond_true]
    obtain ⟨us, hus⟩ : ∃ us, us = [a4, ByteArray.mk #[97]] ++ vs := ⟨_, rfl⟩
    have hul : us.length ≤ 1000000 := by rw [hus]; simp; omega
    rw [← hus]
    refine rounds_yd us.length hul (fun i1 hi1 hd hw1 => ?_) (fun hd => ?_)
    · obtain ⟨x, _, hx, hx2⟩ := idx_both hi1
      obtain ⟨k1, _, k3, _⟩ := boundsN_ok hsm.trust hlen x
      simp only [hd, hx, hx2, hw1, cond_true, Option.bind_some, k1, rBounds_eq hsm.trust hlen, ints24 _ (by omega : (boundsN l x).length ≤ 1000000), Bool.not_true, cond_false]
    simp only [hd, cond_false]
    refine Yd.map ?_
    refine (N_ok hs (by omega)).bind fun p34 ⟨c1, c2, c3, _⟩ => ?_
    have c4 := c3 (by omega)
    refine (Envelope_ok c1 c2 (by omega) (by omega) (by omega) (n := 5) (by omega) (by omega)).bind fun p35 ⟨d1, d2⟩ => ?_
    refine (Envelope_ok d1 (node := 2) (by omega) (by omega) (by omega) (by omega) (n := 5) (by omega) (by omega)).bind fun p36 ⟨d3, d4⟩ => ?_
    refine (Bent_ok d3 d4.trust.sm).bind fun p37 ⟨d5, d6⟩ => ?_
    rw [len_ok (by omega) (by simp; omega), cond_true]
    obtain ⟨L, hL⟩ : ∃ L, L = [a2, p35.1, p37.1] ++ l := ⟨_, rfl⟩
    have hLs : ∀ x ∈ L, SmT x.Trust := by
      rw [hL]
      intro x hx
      simp only [List.mem_append, List.mem_cons, List.not_mem_nil, or_false] at hx
      rcases hx with (rfl | rfl | rfl) | hx
      · exact hsmo
      · exact d2.trust.sm
      · exact d6
      · exact hsm.trust x hx
    have hLl : L.length ≤ 1000 := by rw [hL]; simp; omega
    rw [← hL]
    refine src_loop L.length (fun i2 s hi2 hs => ?_) (fun s hs => ?_) d5
    · have hd : decide ((i2 : Int) < ((L.length : Nat) : Int)) = true := decide_eq_true (by omega)
      have hw2 : addI .i64 (i2 : Int) 1 = ((i2 + 1 : Nat) : Int) := add64 (by omega) (by omega)
      obtain ⟨x, hxL, hx, hx2⟩ := idx_both hi2
      have hxs := hLs x hxL
      have hvx := Valid_eq hxs
      simp only [hd, hx, hx2, hw2, cond_true, Option.bind_some, Put_eq hsm.trust hlen hxs, rPut_eq hsm.trust hlen hxs, letJ_eq, envs24 (Nat.le_trans put_len (by omega)) (put_sm hsm.trust hxs), hvx, rValid_eq hxs, rCounter_eq hxs, Bool.not_true, cond_false, decide_true, Bool.xor_self]
      obtain ⟨c, hc⟩ := counter_some hxs
      simp only [hc, Option.bind_some, decide_true, Bool.not_true, cond_false]
      refine (Low_ok hs).bind fun p45 ⟨m1, _⟩ => ?_
      refine rounds_yd 4 (by omega) (fun i3 hi3 hd hw3 => ?_) (fun hd => ?_)
      · have hd : decide ((i3 : Int) < 4) = true := hd
        obtain ⟨y, _, hy, _⟩ := idx_both (l := [a3, p45.1, x.Ballot, TBallot.mk (0 : Int) (ByteArray.mk #[])]) (i := i3) (by simp; omega)
        simp only [hd, hy, hw3, cond_true, Option.bind_some, vp_eq hxs, ap_eq hxs, rVotesP_eq hxs, rAcceptsP_eq hxs, Bool.xor_self, cond_false, decide_true]
      have hd : decide (((4 : Nat) : Int) < 4) = false := hd
      simp only [hd, cond_false]
      refine Yd.map ?_
      refine (Range_ok m1 (by omega) (by omega) (by omega)).bind fun p54 ⟨n1, _⟩ => ?_
      refine (Range_ok n1 (by omega) (by omega) (by omega)).bind fun p55 ⟨n2, _⟩ => ?_
      refine rounds_yd 3 (by omega) (fun i4 hi4 hd hw4 => ?_) (fun hd => ?_)
      · have hd : decide ((i4 : Int) < 3) = true := hd
        obtain ⟨y, _, hy, _⟩ := idx_both (l := [TArr2I64.mk a5 a6, TArr2I64.mk p54.1 p55.1, TArr2I64.mk x.Low x.High]) (i := i4) (by simp; omega)
        simp only [hd, hy, hw4, cond_true, Option.bind_some]
        refine rounds_eq 2 (by omega) (fun i5 hi5 hd hw5 => ?_) (fun hd => ?_)
        · have hd : decide ((i5 : Int) < 2) = true := hd
          obtain ⟨z, _, hz, _⟩ := idx_both (l := [a4, x.Ballot.Value]) (i := i5) (by simp; omega)
          simp only [hd, hz, hw5, cond_true, Option.bind_some, vc_eq hxs, ac_eq hxs, rVotesC_eq hxs, rAcceptsC_eq hxs, Bool.xor_self, cond_false, decide_true]
        · have hd : decide (((2 : Nat) : Int) < 2) = false := hd
          simp only [hd, cond_false]
      have hd : decide (((3 : Nat) : Int) < 3) = false := hd
      simp only [hd, cond_false, Option.map_some]
      exact Yd.some ⟨rfl, n2⟩
    · have hd : decide (((L.length : Nat) : Int) < ((L.length : Nat) : Int)) = false := decide_eq_false (Int.lt_irrefl _)
      simp only [hd, cond_false, Option.map_some]
      exact Yd.some ⟨rfl, hs⟩
  · have hd : decide (((2 : Nat) : Int) < 2) = false := rfl
    simp only [hd, cond_false, sane24, Option.bind_some, Option.map_some]
    exact Yd.some rfl
end Go.Proofs.YtncjalhhkmojlaaGreat
