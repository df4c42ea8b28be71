/-
  Trusts: what the checks return, in plain terms. Conditions: none.
-/
import Derived.Test.YtncjalhhkmojlaaGreatPBal
namespace Go.Proofs.YtncjalhhkmojlaaGreat
open Go.TQ

theorem B_depth {rec : (TTrust × Unit) → Option Int} {t : TTrust} (hl : t.Inner.length ≤ 9223372036854775807) :
    B_threshold_Depth rec t = foldE (fun u m => (rec (u, ())).map fun r => .inl (maxI m r)) (fun m => some (addI .i64 m 1)) t.Inner 0 := by
  unfold B_threshold_Depth
  rw [loopO_range t.Inner hl (fun i (m : Int) => (m, i, ())) (fun u m => (rec (u, ())).map fun r => .inl (maxI m r)) (fun m => some (addI .i64 m 1)) (fun i x s hd hx hw => ?_) (fun s hd => ?_) 0]
  · simp only [hd, hx, hw, cond_true, Option.bind_some, TTrust.eta]
    cases rec (x, ()) <;> rfl
  · simp only [hd, cond_false]
theorem B_size {rec : (TTrust × Unit) → Option Int} {t : TTrust} (hl : t.Inner.length ≤ 9223372036854775807) :
    B_threshold_Size rec t = foldE (fun u m => (rec (u, ())).map fun r => .inl (addI .i64 m r)) (fun m => some m) t.Inner (addI .i64 t.Nodes.length t.Inner.length) := by
  unfold B_threshold_Size
  rw [loopO_range t.Inner hl (fun i (m : Int) => (m, i, ())) (fun u m => (rec (u, ())).map fun r => .inl (addI .i64 m r)) (fun m => some m) (fun i x s hd hx hw => ?_) (fun s hd => ?_) (addI .i64 t.Nodes.length t.Inner.length)]
  · simp only [hd, hx, hw, cond_true, Option.bind_some, TTrust.eta]
    cases rec (x, ()) <;> rfl
  · simp only [hd, cond_false]
theorem ref_depth (t : TTrust) : F_ref02_Depth t = F_threshold_Depth t := rfl
theorem ref_size (t : TTrust) : F_ref02_Size t = F_threshold_Size t := rfl

/-! ### sets of nodes -/
def inNode (x : Int) : Bool := decide (0 ≤ x) && decide (x < 10)
def hasS (s x : Int) : Bool := decide (0 ≤ s) && decide (s < 1024) && inNode x && s.toNat.testBit x.toNat
theorem below10 (s : Int) : F_nodeset_Valid s = some (decide (0 ≤ s) && decide (s < 1024)) := by
  have : shlI .i64 1 10 = 1024 := shlI_one 10 (by omega)
  simp [F_nodeset_Valid, F_nodeset_below, this]
theorem andI_testBit {s x : Int} (h1 : 0 ≤ s) (h2 : s < 1024) (h3 : 0 ≤ x) (h4 : x < 10) : (andI .i64 s (shlI .i64 1 x) = 0) = (s.toNat.testBit x.toNat = false) := by
  obtain ⟨n, rfl⟩ := Int.eq_ofNat_of_zero_le h1
  obtain ⟨j, rfl⟩ := Int.eq_ofNat_of_zero_le h3
  have hj : 2 ^ j ≤ 2 ^ 10 := Nat.pow_le_pow_right (by omega) (by omega)
  rw [shlI_one j (by omega), andI_nat n (2 ^ j) (by omega) (by omega), and_bit]
  simp only [Int.toNat_natCast]
  have hp : 2 ^ j ≠ 0 := Nat.pos_iff_ne_zero.1 (Nat.pow_pos (by omega))
  cases n.testBit j
  · simp
  · rw [if_pos rfl]
    simp only [Bool.true_eq_false, eq_iff_iff, iff_false]
    omega
@[simp] theorem F_nodeset_Has_eq (s x : Int) : F_nodeset_Has s x = some (hasS s x) := by
  unfold F_nodeset_Has hasS inNode
  rw [below10]
  by_cases h1 : 0 ≤ s
  · by_cases h2 : s < 1024
    · by_cases h3 : 0 ≤ x
      · by_cases h4 : x < 10
        · have h5 : ¬ x < 0 := by omega
          have := andI_testBit h1 h2 h3 h4
          simp [h1, h2, h3, h4, h5, this]
        · simp [h1, h2, h3, h4]
      · simp [h1, h2, h3]
    · simp [h1, h2]
  · simp [h1]
theorem shr_testBit {s x : Int} (h1 : 0 ≤ s) (h2 : s < 1024) (h3 : 0 ≤ x) (h4 : x < 10) : (andI .i64 (shrI .i64 s x) 1 = 1) = (s.toNat.testBit x.toNat = true) := by
  obtain ⟨n, rfl⟩ := Int.eq_ofNat_of_zero_le h1
  obtain ⟨j, rfl⟩ := Int.eq_ofNat_of_zero_le h3
  have hle : n >>> j ≤ n := by rw [Nat.shiftRight_eq_div_pow]; exact Nat.div_le_self _ _
  rw [shrI_nat n j (by omega), show (1 : Int) = ((1 : Nat) : Int) from rfl, andI_nat _ 1 (by omega) (by omega)]
  simp only [Int.toNat_natCast, Int.ofNat_inj, Nat.testBit, eq_iff_iff]
  rw [Nat.and_comm]
  simp
@[simp] theorem F_ref01_Has_eq (s x : Int) : F_ref01_Has s x = some (hasS s x) := by
  unfold F_ref01_Has F_ref01_Valid hasS inNode
  by_cases h1 : 0 ≤ s
  · by_cases h2 : s < 1024
    · have h2' : s ≤ 1023 := by omega
      by_cases h3 : 0 ≤ x
      · by_cases h4 : x < 10
        · have h5 : ¬ x < 0 := by omega
          have := shr_testBit h1 h2 h3 h4
          simp [h1, h2, h2', h3, h4, h5, this]
        · simp [h1, h2, h2', h3, h4]
      · simp [h1, h2, h2', h3]
    · have h2' : ¬ s ≤ 1023 := by omega
      simp [h1, h2, h2']
  · simp [h1]
theorem orI_bit {s : Nat} {x : Int} (h1 : s < 1024) (h3 : 0 ≤ x) (h4 : x < 10) : orI .i64 (s : Int) (shlI .i64 1 x) = ((s ||| 2 ^ x.toNat : Nat) : Int) := by
  obtain ⟨j, rfl⟩ := Int.eq_ofNat_of_zero_le h3
  have hj : 2 ^ j ≤ 2 ^ 9 := Nat.pow_le_pow_right (by omega) (by omega)
  rw [shlI_one j (by omega)]
  exact orI_nat s (2 ^ j) (by omega) (by omega)
theorem or_lt {s : Nat} {x : Int} (h1 : s < 1024) (h4 : x < 10) : s ||| 2 ^ x.toNat < 1024 := by
  have hj : 2 ^ x.toNat ≤ 2 ^ 9 := Nat.pow_le_pow_right (by omega) (by omega)
  exact Nat.or_lt_two_pow (n := 10) h1 (by omega)
/-- the bits of nodes, and an error -/
def ofErr (s : Nat) : List Int → Int × Int × Unit
  | [] => (s, 0, ())
  | x :: l => if inNode x then (if s.testBit x.toNat then (0, 6, ()) else ofErr (s ||| 2 ^ x.toNat) l) else (0, 5, ())
theorem of_fold (g : Int → Int → Option (Int ⊕ (Int × Int × Unit)))
    (hg : ∀ x (s : Nat), s < 1024 → g x s = some (if inNode x then (if s.testBit x.toNat then .inr (0, 6, ()) else .inl ((s ||| 2 ^ x.toNat : Nat) : Int)) else .inr (0, 5, ()))) :
    ∀ (l : List Int) (s : Nat), s < 1024 → foldE g (fun s => some (s, 0, ())) l s = some (ofErr s l)
  | [], s, _ => rfl
  | x :: l, s, hs => by
    rw [foldE, hg x s hs, ofErr]
    cases h1 : inNode x with
    | false => simp
    | true =>
      cases h2 : s.testBit x.toNat with
      | true => simp
      | false =>
        simp only [if_true, Bool.false_eq_true, if_false]
        have h3 : x < 10 := by simp [inNode] at h1; omega
        exact of_fold g hg l _ (or_lt hs h3)
theorem F_nodeset_Of_eq (l : List Int) (hl : l.length ≤ 9223372036854775807) : F_nodeset_Of l = some (ofErr 0 l) := by
  unfold F_nodeset_Of
  rw [loopO_range l hl (fun i (s : Int) => (s, i, ())) (fun x s => if inNode x then (if hasS s x then some (.inr (0, 6, ())) else some (.inl (orI .i64 s (shlI .i64 1 x)))) else some (.inr (0, 5, ()))) (fun s => some (s, 0, ())) (fun i x s hd hx hw => ?_) (fun s hd => ?_) 0]
  · refine of_fold _ (fun x s hs => ?_) l 0 (by omega)
    cases h1 : inNode x with
    | false => simp
    | true =>
      have h3 : 0 ≤ x ∧ x < 10 := by simp [inNode] at h1; omega
      have h2 : hasS s x = s.testBit x.toNat := by simp [hasS, h1]; omega
      rw [h2, orI_bit hs h3.1 h3.2]
      cases s.testBit x.toNat <;> simp
  · simp only [hd, hx, hw, cond_true, Option.bind_some, F_nodeset_Has_eq]
    by_cases h0 : x < 0
    · have : ¬ 0 ≤ x := by omega
      simp [h0, inNode, this]
    · have h0' : 0 ≤ x := by omega
      by_cases h10 : 10 ≤ x
      · have : ¬ x < 10 := by omega
        simp [h0, h10, inNode, this, h0']
      · have h10' : x < 10 := by omega
        cases h : hasS s x <;> simp [h0, h10, inNode, h0', h10']
  · simp only [hd, cond_false]
theorem F_ref01_Of_eq (l : List Int) (hl : l.length ≤ 9223372036854775807) : F_ref01_Of l = some (ofErr 0 l) := by
  have : F_ref01_Of l = F_nodeset_Of l := by
    unfold F_ref01_Of F_nodeset_Of
    simp only [F_ref01_Has_eq, F_nodeset_Has_eq]
  rw [this, F_nodeset_Of_eq l hl]

/-! ### one level -/
@[simp] theorem F_threshold_level_1_eq (x : Int) : F_threshold_level_1 x = some (!inNode x) := by simp [F_threshold_level_1, F_threshold_node, inNode]
theorem F_ContainsFunc_eq (l : List Int) (hl : l.length ≤ 9223372036854775807) : F_slices_ContainsFunc_int_int_c196 l = some (l.any fun x => !inNode x) := by
  have key : ∀ (i : Nat) (k : Nat), i + k = l.length → Yd (loopO (fun (v1 : Int × Unit) => bif (decide (v1.1 < ((List.length l : Nat) : Int))) then Option.bind (idx l v1.1) fun x2 => Option.bind (F_threshold_level_1 x2) fun r3 => bif r3 then Option.map Sum.inr (some v1.1) else some (Sum.inl ((addI .i64 v1.1 (1 : Int)), ())) else Option.map Sum.inr (some (-1 : Int))) ((i : Int), ())) fun r => decide (0 ≤ r) = (l.drop i).any fun x => !inNode x := by
    intro i k
    induction k generalizing i with
    | zero =>
      intro hi
      refine ⟨-1, loopO_inr ?_, ?_⟩
      · have : ¬ ((i : Int) < (l.length : Int)) := by omega
        simp [this]
      · rw [List.drop_eq_nil_of_le (by omega)]; rfl
    | succ k ih =>
      intro hi
      have hlt : i < l.length := by omega
      have hd : decide ((i : Int) < ((l.length : Nat) : Int)) = true := decide_eq_true (Int.ofNat_lt.2 hlt)
      have hx : idx l (i : Int) = some l[i] := by rw [idx_nat]; exact List.getElem?_eq_getElem hlt
      have hw : addI .i64 (i : Int) 1 = ((i + 1 : Nat) : Int) := add64 (by omega) (by omega)
      rw [List.drop_eq_getElem_cons hlt, List.any_cons]
      cases h : inNode l[i] with
      | true =>
        rw [loopO_inl (s' := (((i + 1 : Nat) : Int), ())) (by simp only [hd, hx, hw, cond_true, Option.bind_some, F_threshold_level_1_eq, h]; rfl)]
        exact (ih (i + 1) (by omega)).mono fun r hr => by simpa using hr
      | false =>
        refine ⟨i, loopO_inr (by simp only [hd, hx, cond_true, Option.bind_some, F_threshold_level_1_eq, h]; rfl), ?_⟩
        simp
  obtain ⟨r, h1, h2⟩ := key 0 l.length (by omega)
  unfold F_slices_ContainsFunc_int_int_c196 F_slices_IndexFunc_int_int_c196
  simp only [Int.natCast_zero] at h1
  rw [h1]
  simpa using h2
def levelB (rec : TTrust → Option Int) (t : TTrust) : Option Int :=
  if t.Threshold < 1 ∨ addI .i64 t.Nodes.length t.Inner.length < t.Threshold then some 4
  else if (t.Nodes.any fun x => !inNode x) then some 5
  else if (ofErr 0 t.Nodes).2.1 = 0 then foldE (fun u (_ : Unit) => (rec u).map fun r => if r = 0 then .inl () else .inr r) (fun _ => some 0) t.Inner ()
  else some (ofErr 0 t.Nodes).2.1
theorem B_level {rec : (TTrust × Unit) → Option Int} {t : TTrust} (hn : t.Nodes.length ≤ 9223372036854775807) (hl : t.Inner.length ≤ 9223372036854775807) : B_threshold_level rec t = levelB (fun u => rec (u, ())) t := by
  unfold B_threshold_level levelB
  rw [F_ContainsFunc_eq _ hn, F_nodeset_Of_eq _ hn]
  rw [loopO_range t.Inner hl (fun i (_ : Unit) => (i, ())) (fun u (_ : Unit) => (rec (u, ())).map fun r => if r = 0 then .inl () else .inr r) (fun _ => some 0) (fun i x s hd hx hw => ?_) (fun s hd => ?_) ()]
  · by_cases h1 : t.Threshold < 1
    · simp [h1]
    · by_cases h2 : addI .i64 t.Nodes.length t.Inner.length < t.Threshold
      · simp [h1, h2]
      · simp only [h1, h2, decide_false, cond_false, Option.bind_some, or_self, if_false]
        cases (t.Nodes.any fun x => !inNode x) with
        | true => simp
        | false =>
          by_cases h3 : (ofErr 0 t.Nodes).2.1 = 0 <;> simp [h3]
  · simp only [hd, hx, hw, cond_true, Option.bind_some, TTrust.eta]
    cases rec (x, ()) with
    | none => rfl
    | some r => by_cases h : r = 0 <;> simp [h]
  · simp only [hd, cond_false]
theorem B_check {rec : (TTrust × Unit) → Option Int} {t : TTrust} (hn : t.Nodes.length ≤ 9223372036854775807) (hl : t.Inner.length ≤ 9223372036854775807) : B_ref02_check rec t = levelB (fun u => rec (u, ())) t := by
  unfold B_ref02_check levelB
  rw [loopO_range t.Nodes hn (fun i (_ : Unit) => (i, ())) (fun x (_ : Unit) => some (if inNode x then .inl () else .inr 5)) (fun _ => if (ofErr 0 t.Nodes).2.1 = 0 then foldE (fun u (_ : Unit) => (rec (u, ())).map fun r => if r = 0 then .inl () else .inr r) (fun _ => some 0) t.Inner () else some (ofErr 0 t.Nodes).2.1) (fun i x s hd hx hw => ?_) (fun s hd => ?_) ()]
  · by_cases h1 : t.Threshold < 1
    · simp [h1]
    · by_cases h2 : addI .i64 t.Nodes.length t.Inner.length < t.Threshold
      · simp [h1, h2]
      · simp only [h1, h2, decide_false, cond_false, Option.bind_some, or_self, if_false]
        have : ∀ (l : List Int) (fin : Unit → Option Int), foldE (fun x (_ : Unit) => some (if inNode x then .inl () else .inr 5)) fin l () = if (l.any fun x => !inNode x) then some 5 else fin () := by
          intro l fin
          induction l with
          | nil => rfl
          | cons x l ih =>
            rw [foldE, List.any_cons]
            cases h : inNode x with
            | true => simpa using ih
            | false => simp
        exact this _ _
  · simp only [hd, hx, hw, cond_true, Option.bind_some, inNode]
    by_cases h0 : x < 0
    · have h0' : ¬ 0 ≤ x := by omega
      simp [h0, h0']
    · have h0' : 0 ≤ x := by omega
      by_cases h1 : 10 ≤ x
      · have h1' : ¬ x < 10 := by omega
        simp [h0, h0', h1, h1']
      · have h1' : x < 10 := by omega
        simp [h0, h0', h1, h1']
  · simp only [hd, cond_false]
    rw [F_ref01_Of_eq _ hn, Option.bind_some]
    rw [loopO_range t.Inner hl (fun i (_ : Unit) => (i, ())) (fun u (_ : Unit) => (rec (u, ())).map fun r => if r = 0 then .inl () else .inr r) (fun _ => some 0) (fun i x s hd hx hw => ?_) (fun s hd => ?_) ()]
    · by_cases h3 : (ofErr 0 t.Nodes).2.1 = 0 <;> simp [h3]
    · simp only [hd, hx, hw, cond_true, Option.bind_some, TTrust.eta]
      cases rec (x, ()) with
      | none => rfl
      | some r => by_cases h : r = 0 <;> simp [h]
    · simp only [hd, cond_false]

/-! ### trusts as the source makes them -/
structure GoodT (t : TTrust) : Prop where
  nodes : ∀ x ∈ t.Nodes, 0 ≤ x ∧ x < 10
  nodup : t.Nodes.Nodup
  len : t.Nodes.length ≤ 10
  inner : t.Inner = [] ∨ ∃ x, 0 ≤ x ∧ x < 10 ∧ t.Inner = [⟨1, [x], []⟩]
  th : 1 ≤ t.Threshold ∧ t.Threshold ≤ t.Nodes.length + t.Inner.length
theorem ofErr_good : ∀ (l : List Int) (s : Nat), (∀ x ∈ l, 0 ≤ x ∧ x < 10) → l.Nodup → (∀ x ∈ l, s.testBit x.toNat = false) → (ofErr s l).2.1 = 0
  | [], s, _, _, _ => rfl
  | x :: l, s, h1, h2, h3 => by
    rw [List.nodup_cons] at h2
    have hx := h1 x (by simp)
    have : inNode x = true := by simp [inNode]; omega
    rw [ofErr, this, h3 x (by simp)]
    simp only [if_true, Bool.false_eq_true, if_false]
    refine ofErr_good l _ (fun y hy => h1 y (by simp [hy])) h2.2 fun y hy => ?_
    have hy1 := h1 y (by simp [hy])
    rw [Nat.testBit_or, h3 y (by simp [hy]), Nat.testBit_two_pow]
    have : x.toNat ≠ y.toNat := fun e => by
      have : x = y := by omega
      subst this
      exact h2.1 hy
    simp [this]
theorem any_good {l : List Int} (h : ∀ x ∈ l, 0 ≤ x ∧ x < 10) : (l.any fun x => !inNode x) = false := by
  rw [List.any_eq_false]
  intro x hx
  have := h x hx
  simp [inNode]
  omega
theorem levelB_leaf {rec : TTrust → Option Int} {x : Int} (h0 : 0 ≤ x) (h1 : x < 10) : levelB rec ⟨1, [x], []⟩ = some 0 := by
  have h2 : addI .i64 (1 : Nat) (0 : Nat) = 1 := rfl
  have h3 : (ofErr 0 [x]).2.1 = 0 := ofErr_good [x] 0 (by simp; omega) (by simp) (by simp)
  have h4 : ([x].any fun x => !inNode x) = false := any_good (by simp; omega)
  simp only [levelB, List.length_cons, List.length_nil, Nat.zero_add, h2, h3, h4]
  simp [foldE]
theorem level_good {t : TTrust} (h : GoodT t) {rec : TTrust → Option Int} (hr : ∀ x, 0 ≤ x → x < 10 → rec ⟨1, [x], []⟩ = some 0) : levelB rec t = some 0 := by
  have hil : t.Inner.length ≤ 1 := by rcases h.inner with e | ⟨x, _, _, e⟩ <;> rw [e] <;> simp
  have hlen := h.len
  have h2 : addI .i64 t.Nodes.length t.Inner.length = t.Nodes.length + t.Inner.length := add64 (by omega) (by omega)
  have h3 : (ofErr 0 t.Nodes).2.1 = 0 := ofErr_good _ 0 h.nodes h.nodup (by simp)
  have h4 := any_good h.nodes
  have h5 := h.th
  unfold levelB
  rw [h2, if_neg (by omega), h4, h3]
  simp only [Bool.false_eq_true, if_false, if_true]
  rcases h.inner with e | ⟨x, hx0, hx1, e⟩
  · rw [e]; rfl
  · rw [e, foldE, hr x hx0 hx1]; rfl
theorem sz_pos (t : TTrust) : ∃ n, SizeOf.sizeOf t = n + 1 := by
  have : 1 ≤ SizeOf.sizeOf t := by
    cases t
    simp only [TTrust.mk.sizeOf_spec]
    omega
  exact ⟨SizeOf.sizeOf t - 1, by omega⟩
theorem depth_leaf (n : Nat) (th : Int) (l : List Int) : I_threshold_Depth (n + 1) (⟨th, l, []⟩, ()) = some 1 := by
  show B_threshold_Depth _ _ = _
  rw [B_depth (by simp)]
  rfl
theorem size_leaf (n : Nat) (th : Int) (l : List Int) : I_threshold_Size (n + 1) (⟨th, l, []⟩, ()) = some (addI .i64 l.length (0 : Nat)) := by
  show B_threshold_Size _ _ = _
  rw [B_size (by simp)]
  rfl
theorem depth_good {t : TTrust} (h : GoodT t) : ∃ d, F_threshold_Depth t = some d ∧ d ≤ 2 := by
  obtain ⟨n, hn⟩ := sz_pos t
  have hil : t.Inner.length ≤ 1 := by rcases h.inner with e | ⟨x, _, _, e⟩ <;> rw [e] <;> simp
  unfold F_threshold_Depth
  rw [hn]
  show ∃ d, B_threshold_Depth (I_threshold_Depth (n + 1)) t = some d ∧ d ≤ 2
  rw [B_depth (by omega)]
  rcases h.inner with e | ⟨x, _, _, e⟩
  · rw [e]; exact ⟨1, rfl, by omega⟩
  · rw [e, foldE, depth_leaf n 1 [x]]
    exact ⟨2, rfl, by omega⟩
theorem size_good {t : TTrust} (h : GoodT t) : ∃ d, F_threshold_Size t = some d ∧ d ≤ 200 := by
  obtain ⟨n, hn⟩ := sz_pos t
  have hil : t.Inner.length ≤ 1 := by rcases h.inner with e | ⟨x, _, _, e⟩ <;> rw [e] <;> simp
  have hlen := h.len
  unfold F_threshold_Size
  rw [hn]
  show ∃ d, B_threshold_Size (I_threshold_Size (n + 1)) t = some d ∧ d ≤ 200
  rw [B_size (by omega), add64 (by omega) (by omega)]
  rcases h.inner with e | ⟨x, _, _, e⟩
  · rw [e]; exact ⟨_, rfl, by simp; omega⟩
  · rw [e, foldE, size_leaf n 1 [x]]
    have h1 : addI .i64 (([x] : List Int).length : Nat) (0 : Nat) = 1 := rfl
    rw [h1]
    refine ⟨_, rfl, ?_⟩
    simp only [List.length_cons, List.length_nil]
    rw [add64 (by omega) (by omega)]
    omega
theorem F_threshold_Valid_good {t : TTrust} (h : GoodT t) : F_threshold_Valid t = some 0 := by
  obtain ⟨d, h1, h2⟩ := depth_good h
  obtain ⟨z, h3, h4⟩ := size_good h
  obtain ⟨n, hn⟩ := sz_pos t
  have hil : t.Inner.length ≤ 1 := by rcases h.inner with e | ⟨x, _, _, e⟩ <;> rw [e] <;> simp
  have hlen := h.len
  have h5 : F_threshold_level t = some 0 := by
    unfold F_threshold_level
    rw [hn]
    show B_threshold_level (I_threshold_level (n + 1)) t = some 0
    rw [B_level (by omega) (by omega)]
    refine level_good h fun x hx0 hx1 => ?_
    show B_threshold_level (I_threshold_level n) ⟨1, [x], []⟩ = some 0
    rw [B_level (by simp) (by simp)]
    exact levelB_leaf hx0 hx1
  have h6 : ¬ 4 < d := by omega
  have h7 : ¬ 200 < z := by omega
  simp [F_threshold_Valid, h1, h3, h5, h6, h7]
end Go.Proofs.YtncjalhhkmojlaaGreat
