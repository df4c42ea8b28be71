/-
  Preparing: the view of a node, who says what, what may be accepted and confirmed. Conditions: lists of modest length.
-/
import Derived.Test.YtncjalhhkmojlaaGreatPGq
namespace Go.Proofs.YtncjalhhkmojlaaGreat
open Go.TQ

/-- lists of envelopes of modest size -/
structure SmL (l : List TEnvelope) : Prop where
  len : l.length ≤ 100000
  trust : ∀ e ∈ l, SmT e.Trust
theorem isValid_node {e : TEnvelope} (h : isValid e = true) : 0 ≤ e.Node ∧ e.Node < 10 := by
  simp only [isValid, validE, headOk, Bool.and_eq_true, decide_eq_true_eq] at h
  exact ⟨h.1.1.1.1.1.1.1, h.1.1.1.1.1.1.2⟩

/-! ### the view -/
def noMember : TMember := ⟨false, ⟨0, [], []⟩⟩
noncomputable def viewStep (ms : List TMember) (e : TEnvelope) : List TMember :=
  if isValid e && !((ms[e.Node.toNat]?).any (·.Declared)) then ms.set e.Node.toNat ⟨true, e.Trust⟩ else ms
noncomputable def viewN (node : Nat) (t : TTrust) (l : List TEnvelope) : List TMember := l.foldl viewStep ((List.replicate 10 noMember).set node ⟨true, t⟩)
theorem viewStep_len (ms : List TMember) (e : TEnvelope) : (viewStep ms e).length = ms.length := by
  unfold viewStep
  split
  · rw [List.length_set]
  · rfl
theorem view_foldl_len : ∀ (l : List TEnvelope) (ms : List TMember), (l.foldl viewStep ms).length = ms.length
  | [], _ => rfl
  | e :: l, ms => by rw [List.foldl_cons, view_foldl_len l, viewStep_len]
theorem viewN_len (node : Nat) (t : TTrust) (l : List TEnvelope) : (viewN node t l).length = 10 := by
  rw [viewN, view_foldl_len, List.length_set, List.length_replicate]
theorem get10 {ms : List TMember} (hl : ms.length = 10) {n : Int} (h0 : 0 ≤ n) (h1 : n < 10) : ∃ m, ms[n.toNat]? = some m ∧ idx ms n = some m := by
  have : n.toNat < ms.length := by omega
  exact ⟨ms[n.toNat], List.getElem?_eq_getElem this, by rw [idx_of _ h0]; exact List.getElem?_eq_getElem this⟩
theorem View_eq {node : Nat} (hn : node < 10) {t : TTrust} (ht : SmT t) {l : List TEnvelope} (hl : SmL l) : F_prepare_View node t l = some ⟨viewN node t l⟩ := by
  unfold F_prepare_View
  have h1 : (decide ((10 : Int) = 10) && decide ((0 : Int) ≤ 10) && lenOk 64 (Int.toNat 10)) = true := by
    rw [lenOk_small (by decide)]; rfl
  have h2 : ¬ (node : Int) < 0 := by omega
  have h3 : ¬ (10 : Int) ≤ node := by omega
  rw [h1]
  simp only [cond_true, h2, h3, decide_false, cond_false, Option.bind_some, TTrust.eta, copies_eq ht, letJ_eq]
  obtain ⟨m, hm1, hm2⟩ := get10 (ms := List.replicate 10 noMember) (by simp) (n := (node : Int)) (by omega) (by omega)
  have e10 : List.replicate (Int.toNat 10) (TMember.mk false (TTrust.mk 0 [] [])) = List.replicate 10 noMember := rfl
  rw [e10, hm2, hm1, Option.bind_some, Option.bind_some]
  have hlen := hl.len
  suffices key : ∀ (k i : Nat) (ms : List TMember) (c : TConfig), i + k = l.length → ms.length = 10 → loopO _ ((i : Int), c, ms, ()) = some (TConfig.mk ((l.drop i).foldl viewStep ms)) by
    have := key l.length 0 ((List.replicate 10 noMember).set node ⟨true, t⟩) ⟨[]⟩ (by omega) (by simp)
    simpa [viewN] using this
  intro k
  induction k with
  | zero =>
    intro i ms c hi hms
    obtain rfl : i = l.length := by omega
    refine loopO_inr ?_
    have hd : decide (((l.length : Nat) : Int) < ((l.length : Nat) : Int)) = false := decide_eq_false (Int.lt_irrefl _)
    simp only [hd, cond_false, List.drop_length, List.foldl_nil]
  | succ k ih =>
    intro i ms c hi hms
    have hlt : i < l.length := by omega
    have hd : decide ((i : Int) < ((l.length : Nat) : Int)) = true := decide_eq_true (by omega)
    have hw : addI .i64 (i : Int) 1 = ((i + 1 : Nat) : Int) := add64 (by omega) (by omega)
    have hx : idx l (i : Int) = some l[i] := by rw [idx_nat]; exact List.getElem?_eq_getElem hlt
    have hsm := hl.trust _ (List.getElem_mem hlt)
    rw [List.drop_eq_getElem_cons hlt, List.foldl_cons]
    refine Eq.trans (loopO_inl (s' := (((i + 1 : Nat) : Int), ⟨[]⟩, viewStep ms l[i], ())) ?_) (ih (i + 1) _ _ (by omega) (by rw [viewStep_len]; exact hms))
    simp only [hd, hx, hw, cond_true, Option.bind_some, Valid_eq hsm]
    unfold viewStep
    cases hv : isValid l[i] with
    | false => simp
    | true =>
      obtain ⟨h4, h5⟩ := isValid_node hv
      obtain ⟨m, hm1, hm2⟩ := get10 hms h4 h5
      simp only [cond_true, hm1, hm2, Option.bind_some, copies_eq hsm, Option.any_some, Bool.true_and]
      cases m.Declared <;> simp
theorem viewN_sm {node : Nat} {t : TTrust} (ht : SmT t) {l : List TEnvelope} (hl : SmL l) : SmC ⟨viewN node t l⟩ := by
  refine ⟨by rw [viewN_len]; omega, ?_⟩
  have key : ∀ (l : List TEnvelope) (ms : List TMember), (∀ e ∈ l, SmT e.Trust) → (∀ m ∈ ms, SmT m.Trust) → ∀ m ∈ l.foldl viewStep ms, SmT m.Trust := by
    intro l
    induction l with
    | nil => intro ms _ h; exact h
    | cons e l ih =>
      intro ms he h
      rw [List.foldl_cons]
      refine ih _ (fun e' h' => he e' (by simp [h'])) fun m hm => ?_
      unfold viewStep at hm
      split at hm
      · rcases List.mem_or_eq_of_mem_set hm with hm | rfl
        · exact h m hm
        · exact he e (by simp)
      · exact h m hm
  refine key l _ hl.trust fun m hm => ?_
  rcases List.mem_or_eq_of_mem_set hm with hm | rfl
  · rw [List.eq_of_mem_replicate hm]
    exact .mk _ (by simp [noMember]) (by simp [noMember]) (by simp [noMember])
  · exact ht

/-! ### who says what -/
noncomputable def rights (l : List TEnvelope) : List TEnvelope := l.filter isValid
theorem Rights_eq {l : List TEnvelope} (hl : SmL l) : F_envelopes_Rights l = some ((rights l).map TRight.mk) := by
  unfold F_envelopes_Rights
  have hlen := hl.len
  simp only [letJ_eq]
  suffices key : ∀ (k i : Nat) (acc : List TRight), i + k = l.length → acc = (rights (l.take i)).map TRight.mk → loopO _ ((i : Int), acc, ()) = some ((rights l).map TRight.mk) from key l.length 0 [] (by omega) rfl
  intro k
  induction k with
  | zero =>
    intro i acc hi ha
    obtain rfl : i = l.length := by omega
    refine loopO_inr ?_
    have hd : decide (((l.length : Nat) : Int) < ((l.length : Nat) : Int)) = false := decide_eq_false (Int.lt_irrefl _)
    simp only [hd, cond_false, Option.map_some, ha, List.take_length]
  | succ k ih =>
    intro i acc hi ha
    have hlt : i < l.length := by omega
    have hd : decide ((i : Int) < ((l.length : Nat) : Int)) = true := decide_eq_true (by omega)
    have hw : addI .i64 (i : Int) 1 = ((i + 1 : Nat) : Int) := add64 (by omega) (by omega)
    have hx : idx l (i : Int) = some l[i] := by rw [idx_nat]; exact List.getElem?_eq_getElem hlt
    have hsm := hl.trust _ (List.getElem_mem hlt)
    have hal : acc.length ≤ i := by
      rw [ha, List.length_map]
      exact Nat.le_trans (List.length_filter_le _ _) (by rw [List.length_take]; omega)
    refine Eq.trans (loopO_inl (s' := (((i + 1 : Nat) : Int), (if isValid l[i] then acc ++ [TRight.mk l[i]] else acc), ())) ?_) (ih (i + 1) _ (by omega) ?_)
    · simp only [hd, hx, hw, cond_true, Option.bind_some, TTrust.eta, TEnvelope.eta, Valid_eq hsm]
      rw [lenOk_small (by simp; omega)]
      cases isValid l[i] <;> simp
    · rw [List.take_succ_eq_append_getElem hlt, rights, List.filter_append, ha]
      cases hv : isValid l[i] <;> simp [rights, hv]
/-- the nodes of some envelopes -/
def whoN (p : TEnvelope → Bool) : List TEnvelope → Nat
  | [] => 0
  | e :: l => (if p e then 2 ^ e.Node.toNat else 0) ||| whoN p l
theorem whoN_bit (p : TEnvelope → Bool) (k : Nat) : ∀ (l : List TEnvelope), (whoN p l).testBit k = l.any fun e => p e && decide (e.Node.toNat = k)
  | [] => by simp [whoN]
  | e :: l => by
    rw [whoN, Nat.testBit_or, whoN_bit p k l, List.any_cons]
    cases p e <;> simp [Nat.testBit_two_pow]
def InNodes (l : List TEnvelope) : Prop := ∀ e ∈ l, 0 ≤ e.Node ∧ e.Node < 10
theorem rights_in (l : List TEnvelope) : InNodes (rights l) := fun _ he => isValid_node (List.mem_filter.1 he).2
theorem rights_len (l : List TEnvelope) : (rights l).length ≤ l.length := List.length_filter_le _ _
theorem whoN_lt {p : TEnvelope → Bool} {l : List TEnvelope} (h : InNodes l) : whoN p l < 1024 := lt_1024 fun k hk => by
  rw [whoN_bit, List.any_eq_true] at hk
  obtain ⟨e, he, h1⟩ := hk
  simp only [Bool.and_eq_true, decide_eq_true_eq] at h1
  have := h e he
  omega
theorem who_loop (p : TEnvelope → Bool) (l : List TEnvelope) (hin : InNodes l) (step : (Int × Int × Unit) → Option ((Int × Int × Unit) ⊕ Int))
    (h1 : ∀ (i : Nat) (e : TEnvelope) (s : Int), l[i]? = some e → step (s, (i : Int), ()) = if p e then (if e.Node < 0 then none else some (.inl (orI .i64 s (shlI .i64 1 e.Node), ((i + 1 : Nat) : Int), ()))) else some (.inl (s, ((i + 1 : Nat) : Int), ())))
    (h2 : ∀ s : Int, step (s, (l.length : Int), ()) = some (.inr s)) : loopO step (0, 0, ()) = some ((whoN p l : Nat) : Int) := by
  suffices key : ∀ (k i s : Nat), i + k = l.length → s < 1024 → loopO step ((s : Int), (i : Int), ()) = some ((s ||| whoN p (l.drop i) : Nat) : Int) by
    have := key l.length 0 0 (by omega) (by omega)
    simpa using this
  intro k
  induction k with
  | zero =>
    intro i s hi hs
    obtain rfl : i = l.length := by omega
    rw [loopO_inr (h2 s), List.drop_length, whoN]
    simp
  | succ k ih =>
    intro i s hi hs
    have hlt : i < l.length := by omega
    have hm := hin l[i] (List.getElem_mem hlt)
    rw [List.drop_eq_getElem_cons hlt, whoN]
    have hst := h1 i l[i] s (List.getElem?_eq_getElem hlt)
    cases hp : p l[i] with
    | false =>
      rw [hp] at hst
      rw [loopO_inl hst, ih (i + 1) s (by omega) hs]
      simp
    | true =>
      rw [hp, if_pos rfl, if_neg (by omega), orI_bit hs hm.1 hm.2] at hst
      rw [loopO_inl hst, ih (i + 1) _ (by omega) (or_lt hs hm.2)]
      simp [Nat.or_assoc]
/-! ### what may be accepted and confirmed -/
noncomputable def fedAccepts (ms : List TMember) (v votes accepts : Nat) : Bool := blocksN ms v accepts || (gq ms (votes ||| accepts)).testBit v
theorem fedAccepts_eq {c : TConfig} (hc : SmC c) {v votes accepts : Nat} (hv : v < 10) (h1 : votes < 1024) (h2 : accepts < 1024) : F_federated_Accepts c v votes accepts = some (fedAccepts c.Members v votes accepts) := by
  unfold F_federated_Accepts fedAccepts
  have h3 : votes ||| accepts < 1024 := Nat.or_lt_two_pow (n := 10) h1 h2
  rw [validS_nat h1, validS_nat h2, Blocks_eq hc h2, orI_nat votes accepts (by omega) (by omega), Greatest_eq hc h3]
  simp [hasS_nat (gq_is hc h3).lt, hasN_nat, hv]
theorem fedConfirms_eq {c : TConfig} (hc : SmC c) {v accepts : Nat} (hv : v < 10) (h2 : accepts < 1024) : F_federated_Confirms c v accepts = some ((gq c.Members accepts).testBit v) := by
  unfold F_federated_Confirms
  rw [Greatest_eq hc h2]
  simp [hasS_nat (gq_is hc h2).lt, hasN_nat, hv]
theorem Look_eq {node : Nat} (hn : node < 10) {t : TTrust} (ht : SmT t) {l : List TEnvelope} (hl : SmL l) : F_prepare_Look node t l = some ⟨node, ⟨viewN node t l⟩, (rights l).map TRight.mk⟩ := by
  unfold F_prepare_Look
  simp only [TTrust.eta, View_eq hn ht hl, Rights_eq hl, Option.bind_some]
end Go.Proofs.YtncjalhhkmojlaaGreat
