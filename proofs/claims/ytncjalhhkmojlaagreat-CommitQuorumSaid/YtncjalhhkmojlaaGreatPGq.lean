/-
  The greatest quorum in a set: what the program and the document compute. Conditions: lists of modest length.
-/
import Derived.Test.YtncjalhhkmojlaaGreatPQuo
namespace Go.Proofs.YtncjalhhkmojlaaGreat
open Go.TQ

/-! ### the nodes of a set -/
def nodesN (s : Nat) : List Int := (ups 10).filter (hasN s)
theorem mem_ups {n : Nat} {x : Int} : x ∈ ups n ↔ ∃ k : Nat, k < n ∧ x = k := by
  simp only [ups, List.mem_map, List.mem_range]
  exact ⟨fun ⟨k, h1, h2⟩ => ⟨k, h1, h2.symm⟩, fun ⟨k, h1, h2⟩ => ⟨k, h1, h2.symm⟩⟩
theorem mem_nodesN {s : Nat} {x : Int} : x ∈ nodesN s ↔ ∃ k : Nat, k < 10 ∧ x = k ∧ s.testBit k = true := by
  rw [nodesN, List.mem_filter, mem_ups]
  constructor
  · rintro ⟨⟨k, h1, rfl⟩, h2⟩
    rw [hasN_nat] at h2
    simp at h2
    exact ⟨k, h1, rfl, h2.2⟩
  · rintro ⟨k, h1, rfl, h2⟩
    exact ⟨⟨k, h1, rfl⟩, by rw [hasN_nat]; simp [h1, h2]⟩
theorem nodes_loop (step : (Int × List Int × Unit) → Option ((Int × List Int × Unit) ⊕ List Int)) (s : Nat)
    (h1 : ∀ (i : Nat) (acc : List Int), i < 10 → acc.length ≤ i → step ((i : Int), acc, ()) = some (.inl (((i + 1 : Nat) : Int), (if hasN s i then acc ++ [(i : Int)] else acc), ())))
    (h2 : ∀ acc, step (((10 : Nat) : Int), acc, ()) = some (.inr acc)) : loopO step (0, [], ()) = some (nodesN s) := by
  suffices key : ∀ (k i : Nat) (acc : List Int), i + k = 10 → acc = (ups i).filter (hasN s) → loopO step ((i : Int), acc, ()) = some (nodesN s) from key 10 0 [] rfl rfl
  intro k
  induction k with
  | zero =>
    intro i acc hi ha
    obtain rfl : i = 10 := by omega
    rw [loopO_inr (h2 acc), ha]; rfl
  | succ k ih =>
    intro i acc hi ha
    have hlen : acc.length ≤ i := by rw [ha]; exact Nat.le_trans (List.length_filter_le _ _) (by simp)
    rw [loopO_inl (h1 i acc (by omega) hlen)]
    refine ih (i + 1) _ (by omega) ?_
    rw [ups_succ, List.filter_append, ← ha]
    cases hh : hasN s i <;> simp [hh]
theorem Nodes_eq {s : Nat} (hs : s < 1024) : F_nodeset_Nodes (s : Int) = some (nodesN s) := by
  unfold F_nodeset_Nodes
  refine nodes_loop _ s (fun i acc hi hl => ?_) (fun acc => ?_)
  · have hd : decide ((i : Int) < 10) = true := decide_eq_true (by omega)
    have hw : addI .i64 (i : Int) 1 = ((i + 1 : Nat) : Int) := add64 (by omega) (by omega)
    simp only [hd, hw, cond_true, letJ_eq, F_nodeset_Has_eq, hasS_nat hs, Option.bind_some]
    rw [lenOk_small (by simp; omega)]
    cases hasN s i <;> simp
  · rfl
/-! ### quorums -/
/-- each of r is in s, is declared, and is satisfied by r -/
def Inside (l : List TMember) (s r : Nat) : Prop := ∀ k, r.testBit k = true → s.testBit k = true ∧ isDecl l k = true ∧ satT r (trustAt l k) = true
structure IsGq (l : List TMember) (s q : Nat) : Prop where
  inside : Inside l s q
  max : ∀ r, Inside l s r → ∀ k, r.testBit k = true → q.testBit k = true
theorem IsGq.unique {l : List TMember} {s q q' : Nat} (h : IsGq l s q) (h' : IsGq l s q') : q = q' := by
  refine nat_ext fun k => ?_
  rw [Bool.eq_iff_iff]
  exact ⟨h'.max q h.inside k, h.max q' h'.inside k⟩
theorem IsGq.lt {l : List TMember} {s q : Nat} (h : IsGq l s q) : q < 1024 := lt_1024 fun k hk => (isDecl_get (h.inside k hk).2.1).1
def unhappyN (l : List TMember) (s : Nat) : Option Int := (nodesN s).find? fun x => !satT s (trustAt l x.toNat)
theorem unhappyN_some {l : List TMember} {s : Nat} {x : Int} (h : unhappyN l s = some x) : ∃ k : Nat, x = k ∧ k < 10 ∧ s.testBit k = true ∧ satT s (trustAt l k) = false := by
  have h1 := List.mem_of_find?_eq_some h
  have h2 := List.find?_some h
  obtain ⟨k, hk, rfl, hb⟩ := mem_nodesN.1 h1
  simp at h2
  exact ⟨k, rfl, hk, hb, h2⟩
theorem unhappyN_none {l : List TMember} {s : Nat} (hs : s < 1024) (h : unhappyN l s = none) : ∀ k, s.testBit k = true → satT s (trustAt l k) = true := by
  intro k hk
  have := List.find?_eq_none.1 h (k : Int) (mem_nodesN.2 ⟨k, bit_lt hs hk, rfl, hk⟩)
  simpa using this
theorem sub_xor : ∀ s, s < 1024 → ∀ k, k < 10 → s.testBit k = true → s - 2 ^ k = s ^^^ 2 ^ k := by decide +kernel
/-- one node is taken away -/
theorem sub_bit {s k : Nat} (hs : s < 1024) (hk : s.testBit k = true) : 2 ^ k ≤ s ∧ ∀ j, (s - 2 ^ k).testBit j = (s.testBit j && !decide (k = j)) := by
  have hle : 2 ^ k ≤ s := Nat.ge_two_pow_of_testBit hk
  refine ⟨hle, ?_⟩
  have hx : s - 2 ^ k = s ^^^ 2 ^ k := sub_xor s hs k (bit_lt hs hk) hk
  intro j
  rw [hx, Nat.testBit_xor, Nat.testBit_two_pow]
  by_cases hj : k = j
  · subst hj; simp [hk]
  · simp [hj]
/-- what the elimination keeps true -/
structure ElimInv (l : List TMember) (s0 s : Nat) : Prop where
  lt : s < 1024
  sub : ∀ k, s.testBit k = true → s0.testBit k = true ∧ isDecl l k = true
  max : ∀ r, Inside l s0 r → ∀ k, r.testBit k = true → s.testBit k = true
theorem ElimInv.first (l : List TMember) {s : Nat} (hs : s < 1024) : ElimInv l s (s &&& declN l) := by
  refine ⟨Nat.lt_of_le_of_lt Nat.and_le_left hs, fun k hk => ?_, fun r hr k hk => ?_⟩
  · rw [Nat.testBit_and, Bool.and_eq_true] at hk
    exact hk
  · rw [Nat.testBit_and, Bool.and_eq_true]
    exact ⟨(hr k hk).1, (hr k hk).2.1⟩
theorem ElimInv.next {l : List TMember} {s0 s k : Nat} (h : ElimInv l s0 s) (hk : s.testBit k = true) (hu : satT s (trustAt l k) = false) : ElimInv l s0 (s - 2 ^ k) := by
  obtain ⟨h1, h2⟩ := sub_bit h.lt hk
  refine ⟨Nat.lt_of_le_of_lt (Nat.sub_le _ _) h.lt, fun j hj => ?_, fun r hr j hj => ?_⟩
  · rw [h2] at hj
    simp at hj
    exact h.sub j hj.1
  · rw [h2, h.max r hr j hj]
    have : k ≠ j := by
      intro e
      subst e
      have := satT_mono (fun i hi => h.max r hr i hi) _ (hr k hj).2.2
      rw [hu] at this
      cases this
    simp [this]
theorem ElimInv.done {l : List TMember} {s0 s : Nat} (h : ElimInv l s0 s) (hn : unhappyN l s = none) : IsGq l s0 s :=
  ⟨fun k hk => ⟨(h.sub k hk).1, (h.sub k hk).2, unhappyN_none h.lt hn k hk⟩, h.max⟩

/-! ### the program -/
theorem find_loop {l : List Int} {ρ : Type} {f : Int → Bool} {hit : Int → ρ} {fin : Unit → Option ρ} {g : Int → Unit → Option (Unit ⊕ ρ)} (hg : ∀ x ∈ l, ∀ s, g x s = some (if f x then .inr (hit x) else .inl ())) :
    foldE g fin l () = match l.find? f with | some x => some (hit x) | none => fin () := by
  induction l with
  | nil => rfl
  | cons x l ih =>
    rw [foldE, hg x (by simp), List.find?_cons]
    cases hx : f x with
    | true => simp
    | false =>
      simp only [Bool.false_eq_true, if_false]
      exact ih fun y hy => hg y (by simp [hy])
theorem nodesN_len (s : Nat) : (nodesN s).length ≤ 10 := Nat.le_trans (List.length_filter_le _ _) (by simp)
theorem unhappy_eq {c : TConfig} (hc : SmC c) {s : Nat} (hs : s < 1024) (hsub : ∀ k, s.testBit k = true → isDecl c.Members k = true) :
    F_closure_unhappy c s = some (match unhappyN c.Members s with | some x => (x, true, ()) | none => (0, false, ())) := by
  unfold F_closure_unhappy
  rw [Nodes_eq hs, Option.bind_some]
  have hlen := nodesN_len s
  rw [loopO_range (nodesN s) (by omega) (fun i (_ : Unit) => (i, ())) (fun x (_ : Unit) => (F_closure_content c x s).map fun r => if r then .inl () else .inr (x, true, ())) (fun _ => some (0, false, ())) (fun i x u hd hx hw => ?_) (fun u hd => ?_) ()]
  · rw [find_loop (f := fun x => !satT s (trustAt c.Members x.toNat)) (hit := fun x => (x, true, ()))]
    · unfold unhappyN
      cases (nodesN s).find? _ <;> rfl
    · intro x hx u
      obtain ⟨k, hk, rfl, hb⟩ := mem_nodesN.1 hx
      obtain ⟨_, m, hm, _⟩ := isDecl_get (hsub k hb)
      unfold F_closure_content
      rw [idx_nat, hm]
      simp only [Option.bind_some, TTrust.eta, Satisfied_eq hs (hc.trust m (List.mem_of_getElem? hm)), Option.map_some, Int.toNat_natCast, trustAt_get hm]
      cases satT s m.Trust <;> rfl
  · simp only [hd, hx, hw, cond_true, Option.bind_some]
    cases F_closure_content c x s with
    | none => rfl
    | some r => cases r <;> rfl
  · simp only [hd, cond_false]
theorem andNot_bit {s k : Nat} (hs : s < 1024) (hk : s.testBit k = true) : andNotI .i64 (s : Int) (shlI .i64 1 (k : Int)) = ((s - 2 ^ k : Nat) : Int) := by
  have h10 := bit_lt hs hk
  obtain ⟨c, h1, _, h3⟩ := andNotI_nat s (2 ^ k) (by omega) (Nat.pow_lt_pow_right (by omega) (by omega))
  rw [shlI_one k (by omega), h1]
  congr 1
  refine nat_ext fun j => ?_
  rw [h3, (sub_bit hs hk).2, Nat.testBit_two_pow]
theorem Greatest_ok {c : TConfig} (hc : SmC c) {s : Nat} (hs : s < 1024) : Yd (F_closure_Greatest c s) fun q => ∃ n : Nat, q = n ∧ IsGq c.Members s n := by
  unfold F_closure_Greatest F_closure_eliminate
  rw [validS_nat hs, Declared_eq hc.len]
  simp only [Option.bind_some, Bool.not_true, cond_false]
  have hdl := declN_lt c.Members
  rw [andI_nat s (declN c.Members) (by omega) (by omega)]
  suffices key : ∀ (n t : Nat) (out : List Int), t < n → ElimInv c.Members s t → out.length + t ≤ 1024 → Yd (loopO (fun (v3 : Int × (List Int) × Unit) =>
      Option.bind (F_closure_unhappy c v3.1) fun r4 =>
      bif (!r4.2.1) then
      Option.map Sum.inr (some (v3.1, v3.2.1, ()))
      else
      bif lenOk 8 (List.length v3.2.1 + List.length [r4.1]) then
      if r4.1 < 0 then none else
      some (Sum.inl ((andNotI .i64 v3.1 (shlI .i64 (1 : Int) r4.1)), (v3.2.1 ++ [r4.1]), ()))
      else none) ((t : Int), out, ())) fun p => ∃ n : Nat, p.1 = n ∧ IsGq c.Members s n by
    have hfirst := ElimInv.first c.Members hs
    have hb := hfirst.lt
    refine (key 1024 (s &&& declN c.Members) [] hb hfirst (by simp; omega)).bind fun p hp => Yd.some hp
  intro n
  induction n with
  | zero => intro t out h; omega
  | succ n ih =>
    intro t out ht hinv hout
    refine Yd.loop ?_
    rw [unhappy_eq hc hinv.lt fun k hk => (hinv.sub k hk).2]
    simp only [Option.bind_some]
    cases hu : unhappyN c.Members t with
    | none => exact Yd.some ⟨t, rfl, hinv.done hu⟩
    | some x =>
      obtain ⟨k, rfl, hk10, hkb, hks⟩ := unhappyN_some hu
      have h0 : ¬ (k : Int) < 0 := by omega
      have hlb := (sub_bit hinv.lt hkb).1
      have hp : 0 < 2 ^ k := Nat.pow_pos (by omega)
      simp only [Bool.not_true, cond_false]
      rw [lenOk_small (by simp; omega), if_neg h0, andNot_bit hinv.lt hkb]
      exact Yd.some (ih (t - 2 ^ k) _ (by omega) (hinv.next hkb hks) (by simp; omega))
theorem gq_exists {c : TConfig} (hc : SmC c) {s : Nat} (hs : s < 1024) : ∃ q, IsGq c.Members s q := by
  obtain ⟨_, _, n, _, h⟩ := Greatest_ok hc hs
  exact ⟨n, h⟩
open Classical in
noncomputable def gq (l : List TMember) (s : Nat) : Nat := if h : ∃ q, IsGq l s q then Classical.choose h else 0
theorem gq_is {c : TConfig} (hc : SmC c) {s : Nat} (hs : s < 1024) : IsGq c.Members s (gq c.Members s) := by
  have h := gq_exists hc hs
  rw [gq, dif_pos h]
  exact Classical.choose_spec h
theorem Greatest_eq {c : TConfig} (hc : SmC c) {s : Nat} (hs : s < 1024) : F_closure_Greatest c s = some ((gq c.Members s : Nat) : Int) := by
  obtain ⟨q, h1, n, rfl, h2⟩ := Greatest_ok hc hs
  rw [h1, h2.unique (gq_is hc hs)]

end Go.Proofs.YtncjalhhkmojlaaGreat
