/-
  Sorting few numbers, each once; the bounds of a value. Conditions: at most 12 numbers, at most 6 envelopes.
-/
import Derived.Test.YtncjalhhkmojlaaGreatPComp
import Derived.Test.YtncjalhhkmojlaaGreatPLawC
import Derived.Test.YtncjalhhkmojlaaGreatFns
namespace Go.Proofs.YtncjalhhkmojlaaGreat
open Go.TQ

/-! ### sorting numbers -/
theorem swo_int : SWO fun a b : Int => decide (cmpI a b < 0) :=
  ⟨fun x y h => by
    have h := of_decide_eq_true h
    rw [cmpI_neg] at h
    exact decide_eq_false (by rw [cmpI_neg]; omega), fun x y z h1 h2 => by
    have h1 := of_decide_eq_false h1
    have h2 := of_decide_eq_false h2
    rw [cmpI_neg] at h1 h2
    exact decide_eq_false (by rw [cmpI_neg]; omega)⟩
theorem insI_eq (s : List Int) (a b : Int) : F_slices_insertionSortCmpFunc_int_c93 s a b = gIns F_cmp_Compare_int s a b := rfl
theorem compI_eq (s : List Int) : F_slices_Compact_int_int s = gCompact (fun x y => decide (x = y)) (fun x y => !decide (x = y)) 0 s := rfl
theorem sidx_some (s : ByteArray) (n : Nat) (h : n < s.size) : ∃ v, sidx s n = some v := by
  unfold sidx
  rw [if_pos (by omega), Int.toNat_natCast]
  exact ⟨_, by rw [getElem?_pos s n h]; rfl⟩
theorem tab_some : ∀ n : Nat, n ≤ 12 → ∃ r, F_math_bits_Len (convI .u64 (n : Int)) = some r := by
  intro n hn
  have hc : convI .u64 (n : Int) = n := convU (by omega)
  have h8 : convI .u8 (n : Int) = n := by
    unfold convI IntKind.wrap
    simp [IntKind.signed, IntKind.bits]
    omega
  have d1 : decide ((4294967296 : Int) ≤ n) = false := decide_eq_false (by omega)
  have d2 : decide ((65536 : Int) ≤ n) = false := decide_eq_false (by omega)
  have d3 : decide ((256 : Int) ≤ n) = false := decide_eq_false (by omega)
  rw [hc]
  unfold F_math_bits_Len F_math_bits_Len64
  generalize htab : ByteArray.mk _ = tb
  have hsz : tb.size = 256 := by rw [← htab]; decide +kernel
  obtain ⟨v, hv⟩ := sidx_some tb n (by omega)
  simp only [letJ_eq, d1, d2, d3, cond_false, h8, hv, Option.bind_some]
  exact ⟨_, rfl⟩
theorem pdqI_few (s : List Int) (hs : s.length ≤ 12) (lim : Int) : ∃ t : List Int, F_slices_pdqsortCmpFunc_int_c93 s 0 (s.length : Int) lim = some ((), t) ∧ t.Perm s ∧ t.Pairwise (fun a b => decide (cmpI b a < 0) = false) := by
  obtain ⟨t, h1, h2, h3⟩ := ins_ok (cmp := F_cmp_Compare_int) (c := cmpI) (fun x y => F_cmp_Compare_int_eq x y) s (by omega)
  refine ⟨t, ?_, h2, h3 swo_int⟩
  show B_slices_pdqsortCmpFunc_int_c93 (I_slices_pdqsortCmpFunc_int_c93 s.length) s 0 (s.length : Int) lim = some ((), t)
  unfold B_slices_pdqsortCmpFunc_int_c93
  refine loopO_inr ?_
  have e1 : subI .i64 (s.length : Int) 0 = s.length := by rw [sub64 (by omega) (by omega)]; omega
  have e2 : decide ((s.length : Int) ≤ 12) = true := decide_eq_true (by omega)
  simp only [e1, e2, cond_true, insI_eq, h1, Option.bind_some, Option.map_some]
theorem uniqueI {s : List Int} (hs : s.length ≤ 12) : ∃ b, F_envelopes_unique_int_c93 s = some b ∧ b.Pairwise (· < ·) ∧ ∀ x, x ∈ b ↔ x ∈ s := by
  obtain ⟨t, h1, h2, h3⟩ := pdqI_few s hs ((F_math_bits_Len (convI .u64 ((s.length : Nat) : Int))).getD 0)
  obtain ⟨r, hr⟩ := tab_some s.length hs
  rw [hr, Option.getD_some] at h1
  refine ⟨dd t, ?_, ?_, fun x => by rw [mem_dd]; exact h2.mem_iff⟩
  · have hc := compact_ok (eq := fun x y : Int => decide (x = y)) (ne := fun x y => !decide (x = y)) (z := 0) (fun _ _ => rfl) (fun _ _ => rfl) t (by rw [h2.length_eq]; omega)
    simp only [F_envelopes_unique_int_c93, F_slices_SortFunc_int_int_c93, hr, h1, Option.bind_some, compI_eq, hc]
  · refine (dd_sorted swo_int (fun x y h1 h2 => ?_) h3).imp fun {a b} h => by
      have h := of_decide_eq_true h
      rwa [cmpI_neg] at h
    have h1 := of_decide_eq_false h1
    have h2 := of_decide_eq_false h2
    rw [cmpI_neg] at h1 h2
    omega
/-- ascending lists of the same numbers are the same -/
theorem asc_unique : ∀ {a b : List Int}, a.Pairwise (· < ·) → b.Pairwise (· < ·) → (∀ x, x ∈ a ↔ x ∈ b) → a = b
  | [], [], _, _, _ => rfl
  | [], y :: b, _, _, h => by have := (h y).2 (by simp); cases this
  | x :: a, [], _, _, h => by have := (h x).1 (by simp); cases this
  | x :: a, y :: b, ha, hb, h => by
    rw [List.pairwise_cons] at ha hb
    have hxy : x = y := by
      have h1 := (h x).1 (by simp)
      have h2 := (h y).2 (by simp)
      rcases List.mem_cons.1 h1 with h1 | h1
      · exact h1
      · rcases List.mem_cons.1 h2 with h2 | h2
        · exact h2.symm
        · have := ha.1 y h2
          have := hb.1 x h1
          omega
    subst hxy
    congr 1
    refine asc_unique ha.2 hb.2 fun z => ⟨fun hz => ?_, fun hz => ?_⟩
    · rcases List.mem_cons.1 ((h z).1 (by simp [hz])) with e | e
      · subst e
        have := ha.1 z hz
        omega
      · exact e
    · rcases List.mem_cons.1 ((h z).2 (by simp [hz])) with e | e
      · subst e
        have := hb.1 z hz
        omega
      · exact e

/-! ### the bounds of a value -/
noncomputable def hasBounds (v : ByteArray) (e : TEnvelope) : Bool := isValid e && decide (e.Ballot.Value = v) && !decide (e.Low = 0)
noncomputable def ends (v : ByteArray) (l : List TEnvelope) : List Int := l.flatMap fun e => if hasBounds v e then [e.Low, e.High] else []
theorem ends_len (v : ByteArray) : ∀ l, (ends v l).length ≤ 2 * l.length
  | [] => by simp [ends]
  | e :: l => by
    have := ends_len v l
    rw [ends, List.flatMap_cons, List.length_append, List.length_cons]
    rw [ends] at this
    split <;> simp only [List.length_cons, List.length_nil] <;> omega
theorem mem_ends {v : ByteArray} {l : List TEnvelope} {x : Int} : x ∈ ends v l ↔ ∃ e ∈ l, hasBounds v e = true ∧ (x = e.Low ∨ x = e.High) := by
  simp only [ends, List.mem_flatMap]
  constructor
  · rintro ⟨e, he, hx⟩
    split at hx
    · rename_i h
      exact ⟨e, he, h, by simpa using hx⟩
    · cases hx
  · rintro ⟨e, he, h, hx⟩
    exact ⟨e, he, by rw [if_pos h]; simpa using hx⟩
theorem Bounds_eq {l : List TEnvelope} (hl : ∀ e ∈ l, SmT e.Trust) (hlen : l.length ≤ 6) (v : ByteArray) : ∃ b, F_envelopes_Bounds l v = some b ∧ b.Pairwise (· < ·) ∧ ∀ x, x ∈ b ↔ x ∈ ends v l := by
  have hle := ends_len v l
  obtain ⟨b, hb1, hb2, hb3⟩ := uniqueI (s := ends v l) (by omega)
  refine ⟨b, ?_, hb2, hb3⟩
  unfold F_envelopes_Bounds
  suffices key : ∀ (k i : Nat) (acc : List Int), i + k = l.length → acc = ends v (l.take i) → loopO _ ((i : Int), acc, ()) = some b from key l.length 0 [] (by omega) (by simp [ends])
  intro k
  induction k with
  | zero =>
    intro i acc hi ha
    obtain rfl : i = l.length := by omega
    refine loopO_inr ?_
    have hd : decide (((l.length : Nat) : Int) < ((l.length : Nat) : Int)) = false := decide_eq_false (Int.lt_irrefl _)
    rw [List.take_length] at ha
    simp only [hd, cond_false, ha, hb1, Option.bind_some, Option.map_some]
  | succ k ih =>
    intro i acc hi ha
    have hlt : i < l.length := by omega
    have hd : decide ((i : Int) < ((l.length : Nat) : Int)) = true := decide_eq_true (by omega)
    have hw : addI .i64 (i : Int) 1 = ((i + 1 : Nat) : Int) := add64 (by omega) (by omega)
    have hx : idx l (i : Int) = some l[i] := by rw [idx_nat]; exact List.getElem?_eq_getElem hlt
    have hsm := hl _ (List.getElem_mem hlt)
    have hal : acc.length ≤ 12 := by
      rw [ha]
      have := ends_len v (l.take i)
      rw [List.length_take] at this
      omega
    have hnext : ends v (l.take (i + 1)) = acc ++ (if hasBounds v l[i] then [l[i].Low, l[i].High] else []) := by
      rw [List.take_succ_eq_append_getElem hlt, ends, List.flatMap_append, ha]
      simp [ends]
    refine Eq.trans (loopO_inl (s' := (((i + 1 : Nat) : Int), ends v (l.take (i + 1)), ())) ?_) (ih (i + 1) _ (by omega) rfl)
    rw [hnext]
    have hok : lenOk 8 (acc.length + [l[i].Low, l[i].High].length) = true := lenOk_small (by simp; omega)
    simp only [hd, hx, hw, cond_true, letJ_eq, Option.bind_some, TTrust.eta, TEnvelope.eta, Valid_eq hsm, hok]
    unfold hasBounds
    cases isValid l[i] <;> cases decide (l[i].Ballot.Value = v) <;> cases decide (l[i].Low = 0) <;> simp
end Go.Proofs.YtncjalhhkmojlaaGreat
