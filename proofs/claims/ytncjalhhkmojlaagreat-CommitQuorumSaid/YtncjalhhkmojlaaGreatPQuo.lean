/-
  Configurations: declared members, blocking sets, greatest quorums. Conditions: lists of modest length.
-/
import Derived.Test.YtncjalhhkmojlaaGreatPSet
namespace Go.Proofs.YtncjalhhkmojlaaGreat
open Go.TQ

theorem validS_nat {s : Nat} (h : s < 1024) : F_nodeset_Valid (s : Int) = some true := by rw [below10]; simp; omega
/-! ### bits -/
theorem andNotI_nat (a b : Nat) (ha : a < 2 ^ 62) (hb : b < 2 ^ 62) : ∃ c : Nat, andNotI .i64 (a : Int) (b : Int) = (c : Int) ∧ c ≤ a ∧ ∀ k, c.testBit k = (a.testBit k && !b.testBit k) := by
  refine ⟨((BitVec.ofInt 64 (a : Int) &&& ~~~ BitVec.ofInt 64 (b : Int)).toNat), ?_, ?_, fun k => ?_⟩
  · have hle : (BitVec.ofInt 64 (a : Int) &&& ~~~ BitVec.ofInt 64 (b : Int)).toNat ≤ a := by
      rw [BitVec.toNat_and, ofInt_nat a ha]
      exact Nat.and_le_left
    show IntKind.i64.wrap (((BitVec.ofInt 64 (a : Int) &&& ~~~ BitVec.ofInt 64 (b : Int)).toNat : Nat) : Int) = _
    exact wrap_nat _ (by omega)
  · rw [BitVec.toNat_and, ofInt_nat a ha]
    exact Nat.and_le_left
  · have h1 : ∀ i (x : Nat), x < 2 ^ 62 → (BitVec.ofInt 64 (x : Int)).getLsbD i = x.testBit i := by
      intro i x hx
      rw [← BitVec.testBit_toNat, ofInt_nat x hx]
    rw [BitVec.testBit_toNat, BitVec.getLsbD_and, BitVec.getLsbD_not, h1 k a ha, h1 k b hb]
    by_cases hk : k < 64
    · simp [hk]
    · have : a.testBit k = false := Nat.testBit_lt_two_pow (Nat.lt_of_lt_of_le ha (Nat.pow_le_pow_right (by omega) (by omega)))
      simp [this]
theorem nat_ext {a b : Nat} (h : ∀ k, a.testBit k = b.testBit k) : a = b := Nat.eq_of_testBit_eq h
theorem bit_lt {s k : Nat} (hs : s < 1024) (hk : s.testBit k = true) : k < 10 := by
  rcases Nat.lt_or_ge k 10 with h | h
  · exact h
  · have : s.testBit k = false := Nat.testBit_lt_two_pow (Nat.lt_of_lt_of_le hs (show 2 ^ 10 ≤ 2 ^ k from Nat.pow_le_pow_right (by omega) h))
    rw [this] at hk
    cases hk
theorem lt_1024 {s : Nat} (h : ∀ k, s.testBit k = true → k < 10) : s < 1024 := by
  rcases Nat.lt_or_ge s 1024 with h1 | h1
  · exact h1
  · obtain ⟨k, hk1, hk2⟩ := Nat.exists_ge_and_testBit_of_ge_two_pow (n := 10) h1
    have := h k hk2
    omega
theorem hasN_nat (s k : Nat) : hasN s (k : Int) = (decide (k < 10) && s.testBit k) := by
  have h1 : decide ((k : Int) < 10) = decide (k < 10) := by rw [decide_eq_decide]; omega
  have h2 : decide (0 ≤ (k : Int)) = true := decide_eq_true (by omega)
  simp only [hasN, inNode, h1, h2, Bool.true_and, Int.toNat_natCast]

/-! ### declared members -/
def declF (i : Nat) (s : Nat) : List TMember → Nat
  | [] => s
  | m :: l => declF (i + 1) (if m.Declared && decide (i < 10) then s ||| 2 ^ i else s) l
def declN (l : List TMember) : Nat := declF 0 0 l
theorem declF_bit : ∀ (l : List TMember) (i s k : Nat), (declF i s l).testBit k = (s.testBit k || (decide (i ≤ k) && decide (k < 10) && ((l[k - i]?).any (·.Declared))))
  | [], i, s, k => by simp [declF]
  | m :: l, i, s, k => by
    rw [declF, declF_bit l (i + 1)]
    by_cases hk : k = i
    · subst hk
      have h1 : ¬ (k + 1 ≤ k) := by omega
      cases hm : m.Declared <;> by_cases hi : k < 10 <;> simp [hm, hi, h1, Nat.testBit_or]
    · have h2 : i ≤ k ↔ i + 1 ≤ k := by omega
      have h3 : ∀ b : Bool, (if (b && decide (i < 10)) = true then s ||| 2 ^ i else s).testBit k = s.testBit k := by
        intro b
        split
        · rw [Nat.testBit_or, Nat.testBit_two_pow]
          have : ¬ i = k := fun e => hk e.symm
          simp [this]
        · rfl
      rw [h3]
      by_cases hik : i + 1 ≤ k
      · have h4 : (m :: l)[k - i]? = l[k - (i + 1)]? := by
          rw [show k - i = (k - (i + 1)) + 1 by omega, List.getElem?_cons_succ]
        rw [h4]
        have : i ≤ k := by omega
        simp [this, hik]
      · have : ¬ i ≤ k := by omega
        simp [this, hik]
theorem declN_bit (l : List TMember) (k : Nat) : (declN l).testBit k = (decide (k < 10) && ((l[k]?).any (·.Declared))) := by
  rw [declN, declF_bit]; simp
theorem declN_lt (l : List TMember) : declN l < 1024 := lt_1024 fun k hk => by
  rw [declN_bit] at hk
  simp at hk
  exact hk.1
theorem decl_loop (step : (Int × Int × Unit) → Option ((Int × Int × Unit) ⊕ Int)) (l : List TMember)
    (h1 : ∀ (i : Nat) (m : TMember) (s : Nat), l[i]? = some m → s < 1024 → step ((s : Int), (i : Int), ()) = some (.inl (((if m.Declared && decide (i < 10) then s ||| 2 ^ i else s : Nat) : Int), ((i + 1 : Nat) : Int), ())))
    (h2 : ∀ s : Int, step (s, (l.length : Int), ()) = some (.inr s)) : loopO step (0, 0, ()) = some ((declN l : Nat) : Int) := by
  suffices key : ∀ (k i s : Nat), i + k = l.length → s < 1024 → loopO step ((s : Int), (i : Int), ()) = some ((declF i s (l.drop i) : Nat) : Int) by
    have := key l.length 0 0 (by omega) (by omega)
    simpa [declN] using this
  intro k
  induction k with
  | zero =>
    intro i s hi hs
    obtain rfl : i = l.length := by omega
    rw [loopO_inr (h2 s), List.drop_length]
    rfl
  | succ k ih =>
    intro i s hi hs
    have hlt : i < l.length := by omega
    rw [List.drop_eq_getElem_cons hlt, declF, loopO_inl (h1 i l[i] s (List.getElem?_eq_getElem hlt) hs)]
    refine ih (i + 1) _ (by omega) ?_
    split
    · rename_i hc
      simp only [Bool.and_eq_true, decide_eq_true_eq] at hc
      have := or_lt (x := (i : Int)) hs (by omega)
      simpa using this
    · exact hs
theorem Declared_eq {c : TConfig} (h : c.Members.length ≤ 1000000) : F_configuration_Declared c = some ((declN c.Members : Nat) : Int) := by
  unfold F_configuration_Declared
  refine decl_loop _ _ (fun i m s hm hs => ?_) (fun s => ?_)
  · have hlt : i < c.Members.length := (List.getElem?_eq_some_iff.1 hm).1
    have hd : decide ((i : Int) < ((c.Members.length : Nat) : Int)) = true := decide_eq_true (by omega)
    have hw : addI .i64 (i : Int) 1 = ((i + 1 : Nat) : Int) := add64 (by omega) (by omega)
    have hx : idx c.Members (i : Int) = some m := by rw [idx_nat]; exact hm
    have h0 : ¬ (i : Int) < 0 := by omega
    simp only [hd, hx, hw, cond_true, Option.bind_some, letJ_eq, h0, if_false]
    cases m.Declared with
    | false => simp
    | true =>
      by_cases h10 : i < 10
      · have : (i : Int) < 10 := by omega
        have ho := orI_bit (x := (i : Int)) hs (by omega) (by omega)
        simp only [Int.toNat_natCast] at ho
        simp [this, h10, ho]
      · have : ¬ (i : Int) < 10 := by omega
        simp [this, h10]
  · have hd : decide (((c.Members.length : Nat) : Int) < ((c.Members.length : Nat) : Int)) = false := decide_eq_false (Int.lt_irrefl _)
    simp only [hd, cond_false, Option.map_some]
/-! ### configurations of modest size -/
structure SmC (c : TConfig) : Prop where
  len : c.Members.length ≤ 1000000
  trust : ∀ m ∈ c.Members, SmT m.Trust
/-- the trust of a member -/
def trustAt (l : List TMember) (k : Nat) : TTrust := ((l[k]?).map (·.Trust)).getD ⟨0, [], []⟩
def isDecl (l : List TMember) (k : Nat) : Bool := (declN l).testBit k
theorem isDecl_get {l : List TMember} {k : Nat} (h : isDecl l k = true) : k < 10 ∧ ∃ m, l[k]? = some m ∧ m.Declared = true := by
  rw [isDecl, declN_bit] at h
  simp only [Bool.and_eq_true, decide_eq_true_eq, Option.any_eq_true] at h
  obtain ⟨h1, m, h2, h3⟩ := h
  exact ⟨h1, m, h2, h3⟩
theorem trustAt_get {l : List TMember} {k : Nat} {m : TMember} (h : l[k]? = some m) : trustAt l k = m.Trust := by rw [trustAt, h]; rfl

/-! ### blocking -/
/-- all others with v -/
def othersN (s v : Nat) : Nat := (1023 ^^^ s) ||| 2 ^ v
def blocksN (l : List TMember) (v s : Nat) : Bool := isDecl l v && !satT (othersN s v) (trustAt l v)
theorem t1023 (k : Nat) : (1023 : Nat).testBit k = decide (k < 10) := by
  rw [show (1023 : Nat) = 2 ^ 10 - 1 from rfl, Nat.testBit_two_pow_sub_one]
theorem others_bit {s : Nat} (hs : s < 1024) (v k : Nat) : (othersN s v).testBit k = (decide (k < 10) && !s.testBit k || decide (v = k)) := by
  rw [othersN, Nat.testBit_or, Nat.testBit_xor, t1023, Nat.testBit_two_pow]
  by_cases hk : k < 10
  · simp [hk]
  · have : s.testBit k = false := by
      cases h : s.testBit k with
      | false => rfl
      | true => exact absurd (bit_lt hs h) hk
    simp [hk, this]
theorem others_lt {s v : Nat} (hs : s < 1024) (hv : v < 10) : othersN s v < 1024 := lt_1024 fun k hk => by
  rw [others_bit hs] at hk
  simp at hk
  omega
theorem others_prog {s v : Nat} (hs : s < 1024) (hv : v < 10) : orI .i64 (andNotI .i64 1023 (s : Int)) (shlI .i64 1 (v : Int)) = ((othersN s v : Nat) : Int) := by
  obtain ⟨c, h1, h2, h3⟩ := andNotI_nat 1023 s (by omega) (by omega)
  have h1' : andNotI .i64 1023 (s : Int) = (c : Int) := h1
  rw [h1', shlI_one v (by omega), orI_nat c (2 ^ v) (by omega) (Nat.pow_lt_pow_right (by omega) (by omega))]
  congr 1
  refine nat_ext fun k => ?_
  rw [others_bit hs, Nat.testBit_or, h3, t1023, Nat.testBit_two_pow]
theorem Blocks_eq {c : TConfig} (hc : SmC c) {v s : Nat} (hs : s < 1024) : F_blocking_Blocks c v s = some (blocksN c.Members v s) := by
  unfold F_blocking_Blocks blocksN
  rw [validS_nat hs, Declared_eq hc.len]
  simp only [Option.bind_some, Bool.not_true, cond_false, F_nodeset_Has_eq, hasS_nat (declN_lt _), hasN_nat]
  cases hd : isDecl c.Members v with
  | false =>
    have : (decide (v < 10) && (declN c.Members).testBit v) = false := by
      rw [show (declN c.Members).testBit v = isDecl c.Members v from rfl, hd]; simp
    simp [this]
  | true =>
    obtain ⟨h10, m, hm, hdm⟩ := isDecl_get hd
    have : (decide (v < 10) && (declN c.Members).testBit v) = true := by
      rw [show (declN c.Members).testBit v = isDecl c.Members v from rfl, hd]; simp [h10]
    rw [idx_nat, hm, others_prog hs h10]
    have h0 : ¬ (v : Int) < 0 := by omega
    have hmem : m ∈ c.Members := List.mem_of_getElem? hm
    simp only [this, Bool.not_true, cond_false, Option.bind_some, h0, if_false, TTrust.eta, Satisfied_eq (others_lt hs h10) (hc.trust m hmem), trustAt_get hm, Bool.true_and]
end Go.Proofs.YtncjalhhkmojlaaGreat
