/-
  Trusts and sets of nodes: copies, validity, satisfaction, declared members. Conditions: lists of modest length.
-/
import Derived.Test.YtncjalhhkmojlaaGreatPEnv
namespace Go.Proofs.YtncjalhhkmojlaaGreat
open Go.TQ

/-- trusts whose lists are of modest length -/
inductive SmT : TTrust → Prop where
  | mk (t : TTrust) (h1 : t.Nodes.length ≤ 1000000) (h2 : t.Inner.length ≤ 1000000) (h3 : ∀ u ∈ t.Inner, SmT u) : SmT t
theorem SmT.nodes {t : TTrust} : SmT t → t.Nodes.length ≤ 1000000 | .mk _ h _ _ => h
theorem SmT.len {t : TTrust} : SmT t → t.Inner.length ≤ 1000000 | .mk _ _ h _ => h
theorem SmT.inner {t : TTrust} : SmT t → ∀ u ∈ t.Inner, SmT u | .mk _ _ _ h => h
theorem inner_lt {t u : TTrust} (h : u ∈ t.Inner) : SizeOf.sizeOf u < SizeOf.sizeOf t := by
  have h1 := List.sizeOf_lt_of_mem h
  cases t with
  | mk th ns is =>
    simp only [TTrust.mk.sizeOf_spec] at h1 ⊢
    omega
theorem GoodT.sm {t : TTrust} (h : GoodT t) : SmT t := by
  have := h.len
  refine .mk t (by omega) ?_ fun u hu => ?_
  · rcases h.inner with e | ⟨x, _, _, e⟩ <;> rw [e] <;> simp
  · rcases h.inner with e | ⟨x, _, _, e⟩
    · rw [e] at hu; cases hu
    · rw [e] at hu
      simp only [List.mem_singleton] at hu
      subst hu
      exact .mk _ (by simp) (by simp) (by simp)

/-! ### copies -/
@[simp] theorem clone_eq (l : List Int) (h : l.length ≤ 1000000) : F_slices_Clone_int_int l = some l := by
  unfold F_slices_Clone_int_int
  rw [lenOk_small (by simp; omega)]
  cases l with
  | nil => simp
  | cons x l => simp
theorem I_copies {n : Nat} : ∀ {t : TTrust}, SizeOf.sizeOf t < n → SmT t → I_copies_Trust n (t, ()) = some t := by
  induction n with
  | zero => intro t h; omega
  | succ n ih =>
    intro t hs hm
    show B_copies_Trust (I_copies_Trust n) t = some t
    unfold B_copies_Trust
    have hl := hm.len
    rw [clone_eq _ hm.nodes, Option.bind_some]
    -- the elements are copied one by one
    suffices key : ∀ (k i : Nat) (t' : TTrust), i + k = t.Inner.length → t'.Threshold = t.Threshold → t'.Nodes = t.Nodes → loopO (fun (v2 : Int × TTrust × (List TTrust) × Unit) =>
        bif (decide (v2.1 < ((List.length t.Inner : Nat) : Int))) then
        Option.bind (idx t.Inner v2.1) fun x3 =>
        Option.bind (I_copies_Trust n ((TTrust.mk x3.Threshold x3.Nodes x3.Inner), ())) fun r4 =>
        bif lenOk 56 (List.length v2.2.2.1 + List.length [(TTrust.mk r4.Threshold r4.Nodes r4.Inner)]) then
        some (Sum.inl ((addI .i64 v2.1 (1 : Int)), (TTrust.mk v2.2.1.Threshold v2.2.1.Nodes ([] : List TTrust)), (v2.2.2.1 ++ [(TTrust.mk r4.Threshold r4.Nodes r4.Inner)]), ()))
        else none
        else
        Option.map Sum.inr (some (TTrust.mk v2.2.1.Threshold v2.2.1.Nodes v2.2.2.1))) ((i : Int), t', t.Inner.take i, ()) = some t by
      have := key t.Inner.length 0 ⟨t.Threshold, t.Nodes, []⟩ (by omega) rfl rfl
      simpa using this
    intro k
    induction k with
    | zero =>
      intro i t' hi h1 h2
      refine loopO_inr ?_
      have hd : decide ((i : Int) < ((t.Inner.length : Nat) : Int)) = false := decide_eq_false (by omega)
      simp only [hd, cond_false, Option.map_some, h1, h2]
      rw [List.take_of_length_le (by omega), TTrust.eta]
    | succ k ihk =>
      intro i t' hi h1 h2
      have hlt : i < t.Inner.length := by omega
      have hd : decide ((i : Int) < ((t.Inner.length : Nat) : Int)) = true := decide_eq_true (by omega)
      have hx : idx t.Inner (i : Int) = some t.Inner[i] := by rw [idx_nat]; exact List.getElem?_eq_getElem hlt
      have hw : addI .i64 (i : Int) 1 = ((i + 1 : Nat) : Int) := add64 (by omega) (by omega)
      have hmem : t.Inner[i] ∈ t.Inner := List.getElem_mem hlt
      have hr := ih (t := t.Inner[i]) (by have := inner_lt hmem; omega) (hm.inner _ hmem)
      rw [loopO_inl (s' := (((i + 1 : Nat) : Int), ⟨t'.Threshold, t'.Nodes, []⟩, t.Inner.take (i + 1), ()))]
      · exact ihk (i + 1) _ (by omega) h1 h2
      · simp only [hd, cond_true, hx, hw, Option.bind_some, TTrust.eta, hr]
        rw [lenOk_small (by simp; omega), List.take_succ_eq_append_getElem hlt]
        rfl
@[simp] theorem copies_eq {t : TTrust} (h : SmT t) : F_copies_Trust t = some t := I_copies (by omega) h

/-! ### validity -/
theorem foldE_total {α σ ρ : Type} {g : α → σ → Option (σ ⊕ ρ)} {fin : σ → Option ρ} (hf : ∀ s, ∃ r, fin s = some r) : ∀ (l : List α), (∀ x ∈ l, ∀ s, ∃ y, g x s = some y) → ∀ s, ∃ r, foldE g fin l s = some r
  | [], _, s => hf s
  | x :: l, h, s => by
    obtain ⟨y, hy⟩ := h x (by simp) s
    rw [foldE, hy]
    cases y with
    | inr r => exact ⟨r, rfl⟩
    | inl s' => exact foldE_total hf l (fun x hx => h x (by simp [hx])) s'
theorem foldE_congr {α σ ρ : Type} {g g' : α → σ → Option (σ ⊕ ρ)} {fin : σ → Option ρ} : ∀ (l : List α), (∀ x ∈ l, ∀ s, g x s = g' x s) → ∀ s, foldE g fin l s = foldE g' fin l s
  | [], _, s => rfl
  | x :: l, h, s => by
    rw [foldE, foldE, h x (by simp) s]
    cases g' x s with
    | none => rfl
    | some y =>
      cases y with
      | inr r => rfl
      | inl s' => exact foldE_congr l (fun x hx => h x (by simp [hx])) s'
theorem depth_total {n : Nat} : ∀ {t : TTrust}, SizeOf.sizeOf t < n → SmT t → ∃ d, I_threshold_Depth n (t, ()) = some d := by
  induction n with
  | zero => intro t h; omega
  | succ n ih =>
    intro t hs hm
    show ∃ d, B_threshold_Depth (I_threshold_Depth n) t = some d
    have hl := hm.len
    rw [B_depth (by omega)]
    refine foldE_total (fun s => ⟨_, rfl⟩) _ (fun u hu s => ?_) _
    obtain ⟨d, hd⟩ := ih (t := u) (by have := inner_lt hu; omega) (hm.inner u hu)
    exact ⟨_, by rw [hd]; rfl⟩
theorem size_total {n : Nat} : ∀ {t : TTrust}, SizeOf.sizeOf t < n → SmT t → ∃ d, I_threshold_Size n (t, ()) = some d := by
  induction n with
  | zero => intro t h; omega
  | succ n ih =>
    intro t hs hm
    show ∃ d, B_threshold_Size (I_threshold_Size n) t = some d
    have hl := hm.len
    rw [B_size (by omega)]
    refine foldE_total (fun s => ⟨_, rfl⟩) _ (fun u hu s => ?_) _
    obtain ⟨d, hd⟩ := ih (t := u) (by have := inner_lt hu; omega) (hm.inner u hu)
    exact ⟨_, by rw [hd]; rfl⟩
theorem levelB_total {rec : TTrust → Option Int} {t : TTrust} (h : ∀ u ∈ t.Inner, ∃ r, rec u = some r) : ∃ r, levelB rec t = some r := by
  unfold levelB
  split
  · exact ⟨_, rfl⟩
  · split
    · exact ⟨_, rfl⟩
    · split
      · refine foldE_total (fun s => ⟨_, rfl⟩) _ (fun u hu s => ?_) _
        obtain ⟨r, hr⟩ := h u hu
        exact ⟨_, by rw [hr]; rfl⟩
      · exact ⟨_, rfl⟩
theorem levelB_congr {rec rec' : TTrust → Option Int} {t : TTrust} (h : ∀ u ∈ t.Inner, rec u = rec' u) : levelB rec t = levelB rec' t := by
  unfold levelB
  rw [foldE_congr _ fun u hu s => by rw [h u hu]]
theorem level_total {n : Nat} : ∀ {t : TTrust}, SizeOf.sizeOf t < n → SmT t → ∃ d, I_threshold_level n (t, ()) = some d ∧ I_ref02_check n (t, ()) = some d := by
  induction n with
  | zero => intro t h; omega
  | succ n ih =>
    intro t hs hm
    show ∃ d, B_threshold_level (I_threshold_level n) t = some d ∧ B_ref02_check (I_ref02_check n) t = some d
    have hl := hm.len
    have hn := hm.nodes
    rw [B_level (by omega) (by omega), B_check (by omega) (by omega)]
    have hih : ∀ u ∈ t.Inner, ∃ r, I_threshold_level n (u, ()) = some r ∧ I_ref02_check n (u, ()) = some r := fun u hu => ih (t := u) (by have := inner_lt hu; omega) (hm.inner u hu)
    obtain ⟨r, hr⟩ := levelB_total (rec := fun u => I_threshold_level n (u, ())) (t := t) fun u hu => by obtain ⟨r, h1, _⟩ := hih u hu; exact ⟨r, h1⟩
    refine ⟨r, hr, ?_⟩
    rw [← hr]
    refine levelB_congr fun u hu => ?_
    obtain ⟨r, h1, h2⟩ := hih u hu
    rw [h1, h2]
theorem valid_both {t : TTrust} (h : SmT t) : ∃ v, F_threshold_Valid t = some v ∧ F_ref02_Valid t = some v := by
  obtain ⟨d, hd⟩ : ∃ d, F_threshold_Depth t = some d := depth_total (by omega) h
  obtain ⟨z, hz⟩ : ∃ z, F_threshold_Size t = some z := size_total (by omega) h
  obtain ⟨l, hl1, hl2⟩ : ∃ l, F_threshold_level t = some l ∧ F_ref02_check t = some l := level_total (by omega) h
  simp [F_threshold_Valid, F_ref02_Valid, ref_depth, ref_size, hd, hz, hl1, hl2]
noncomputable def tval (t : TTrust) : Int := (F_threshold_Valid t).getD 1
theorem tval_eq {t : TTrust} (h : SmT t) : F_threshold_Valid t = some (tval t) := by
  obtain ⟨v, h1, _⟩ := valid_both h
  rw [tval, h1]; rfl
theorem tval_good {t : TTrust} (h : GoodT t) : tval t = 0 := by rw [tval, F_threshold_Valid_good h]; rfl
noncomputable def isValid (e : TEnvelope) : Bool := validE (tval e.Trust) e
theorem Valid_eq {e : TEnvelope} (h : SmT e.Trust) : F_envelopes_Valid e = some (isValid e) := F_envelopes_Valid_eq (tval_eq h)
/-! ### satisfaction -/
def hasN (s : Nat) (x : Int) : Bool := inNode x && s.testBit x.toNat
theorem hasS_nat {s : Nat} (h : s < 1024) (x : Int) : hasS s x = hasN s x := by
  have h1 : decide (0 ≤ (s : Int)) = true := decide_eq_true (by omega)
  have h2 : decide ((s : Int) < 1024) = true := decide_eq_true (by omega)
  simp only [hasS, hasN, h1, h2, Bool.true_and, Int.toNat_natCast]
mutual
def satT (s : Nat) : TTrust → Bool
  | ⟨th, ns, is⟩ => decide (th ≤ ((ns.countP (hasN s) + satC s is : Nat) : Int))
def satC (s : Nat) : List TTrust → Nat
  | [] => 0
  | t :: l => (if satT s t then 1 else 0) + satC s l
end
theorem satT_eq (s : Nat) (t : TTrust) : satT s t = decide (t.Threshold ≤ ((t.Nodes.countP (hasN s) + satC s t.Inner : Nat) : Int)) := by
  cases t; rw [satT]
theorem count_fold (s : Nat) (hs : s < 1024) (fin : Int → Option Bool) : ∀ (l : List Int) (n : Nat), n + l.length ≤ 9000000 →
    foldE (fun x (m : Int) => some (.inl (if hasS s x then addI .i64 m 1 else m))) fin l n = fin ((n + l.countP (hasN s) : Nat) : Int)
  | [], n, _ => by simp [foldE]
  | x :: l, n, h => by
    simp at h
    rw [foldE, hasS_nat hs, List.countP_cons]
    cases hx : hasN s x with
    | false =>
      simp only [Bool.false_eq_true, if_false, Nat.add_zero]
      exact count_fold s hs fin l n (by omega)
    | true =>
      simp only [if_true]
      rw [add64 (by omega) (by omega)]
      rw [show (n : Int) + 1 = ((n + 1 : Nat) : Int) by omega, count_fold s hs fin l (n + 1) (by omega)]
      congr 2
      omega
theorem sat_fold (s : Nat) (rec : TTrust → Option Bool) (fin : Int → Option Bool) : ∀ (l : List TTrust) (n : Nat), n + l.length ≤ 9000000 → (∀ u ∈ l, rec u = some (satT s u)) →
    foldE (fun u (m : Int) => (rec u).map fun r => .inl (if r then addI .i64 m 1 else m)) fin l n = fin ((n + satC s l : Nat) : Int)
  | [], n, _, _ => by simp [foldE, satC]
  | u :: l, n, h, hr => by
    simp at h
    rw [foldE, hr u (by simp), satC]
    cases hx : satT s u with
    | false =>
      simp only [Option.map_some, Bool.false_eq_true, if_false, Nat.zero_add]
      exact sat_fold s rec fin l n (by omega) fun u hu => hr u (by simp [hu])
    | true =>
      simp only [Option.map_some, if_true]
      rw [add64 (by omega) (by omega)]
      rw [show (n : Int) + 1 = ((n + 1 : Nat) : Int) by omega, sat_fold s rec fin l (n + 1) (by omega) fun u hu => hr u (by simp [hu])]
      congr 2
      omega
theorem B_sat {rec : (TTrust × Int × Unit) → Option Bool} {t : TTrust} {s : Nat} (hs : s < 1024) (hm : SmT t) (hr : ∀ u ∈ t.Inner, rec (u, (s : Int), ()) = some (satT s u)) : B_threshold_Satisfied rec t s = some (satT s t) := by
  unfold B_threshold_Satisfied
  have hn := hm.nodes
  have hl := hm.len
  have hv : F_nodeset_Valid (s : Int) = some true := by rw [below10]; simp; omega
  rw [hv]
  simp only [Option.bind_some, Bool.not_true, cond_false, letJ_eq]
  rw [loopO_range t.Nodes (by omega) (fun i (m : Int) => (m, i, ())) (fun x (m : Int) => some (.inl (if hasS s x then addI .i64 m 1 else m))) (fun m => foldE (fun u (m : Int) => (rec (u, (s : Int), ())).map fun r => .inl (if r then addI .i64 m 1 else m)) (fun m => some (decide (t.Threshold ≤ m))) t.Inner m) (fun i x m hd hx hw => ?_) (fun m hd => ?_) 0]
  · rw [show (0 : Int) = ((0 : Nat) : Int) from rfl, count_fold s hs _ t.Nodes 0 (by omega)]
    rw [sat_fold s (fun u => rec (u, (s : Int), ())) _ t.Inner _ (by have := List.countP_le_length (p := hasN s) (l := t.Nodes); omega) hr, satT_eq]
    simp
  · simp only [hd, hx, hw, cond_true, Option.bind_some, F_nodeset_Has_eq]
    cases hasS s x <;> rfl
  · simp only [hd, cond_false]
    rw [loopO_range t.Inner (by omega) (fun i (m : Int) => (m, i, ())) (fun u (m : Int) => (rec (u, (s : Int), ())).map fun r => .inl (if r then addI .i64 m 1 else m)) (fun m => some (decide (t.Threshold ≤ m))) (fun i x m hd hx hw => ?_) (fun m hd => ?_) m]
    · simp only [hd, hx, hw, cond_true, Option.bind_some, TTrust.eta]
      cases rec (x, (s : Int), ()) with
      | none => rfl
      | some r => cases r <;> rfl
    · simp only [hd, cond_false]
theorem I_sat {s : Nat} (hs : s < 1024) {n : Nat} : ∀ {t : TTrust}, SizeOf.sizeOf t < n → SmT t → I_threshold_Satisfied n (t, (s : Int), ()) = some (satT s t) := by
  induction n with
  | zero => intro t h; omega
  | succ n ih =>
    intro t hz hm
    show B_threshold_Satisfied (I_threshold_Satisfied n) t s = some (satT s t)
    exact B_sat hs hm fun u hu => ih (t := u) (by have := inner_lt hu; omega) (hm.inner u hu)
theorem Satisfied_eq {s : Nat} (hs : s < 1024) {t : TTrust} (hm : SmT t) : F_threshold_Satisfied t s = some (satT s t) := I_sat hs (by omega) hm
/-- more nodes satisfy more -/
theorem hasN_mono {s s' : Nat} (h : ∀ k, s.testBit k = true → s'.testBit k = true) (x : Int) (hx : hasN s x = true) : hasN s' x = true := by
  simp only [hasN, Bool.and_eq_true] at hx ⊢
  exact ⟨hx.1, h _ hx.2⟩
mutual
theorem satT_mono {s s' : Nat} (h : ∀ k, s.testBit k = true → s'.testBit k = true) : ∀ (t : TTrust), satT s t = true → satT s' t = true
  | ⟨th, ns, is⟩, ht => by
    rw [satT, decide_eq_true_eq] at ht ⊢
    have h1 := satC_mono h is
    have h2 : ns.countP (hasN s) ≤ ns.countP (hasN s') := List.countP_mono_left fun x _ hx => hasN_mono h x hx
    omega
theorem satC_mono {s s' : Nat} (h : ∀ k, s.testBit k = true → s'.testBit k = true) : ∀ (l : List TTrust), satC s l ≤ satC s' l
  | [] => by simp [satC]
  | t :: l => by
    have h1 := satC_mono h l
    have h2 := satT_mono h t
    rw [satC, satC]
    cases hs : satT s t with
    | false => simp; omega
    | true => rw [h2 hs]; simp; omega
end
end Go.Proofs.YtncjalhhkmojlaaGreat
