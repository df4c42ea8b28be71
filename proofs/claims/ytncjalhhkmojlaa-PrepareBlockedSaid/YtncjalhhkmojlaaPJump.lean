/-
  The law CommitJumps as a plain function: it returns true. Conditions: none.
-/
import Derived.Test.YtncjalhhkmojlaaPFin
import Derived.Test.YtncjalhhkmojlaaPLawA
set_option linter.unusedVariables false
namespace Go.Proofs.Ytncjalhhkmojlaa
open Go.TQ

section
variable {node : Nat} (hn : node < 10) {t : TTrust} (ht : SmT t) {l : List TEnvelope} (hl : SmL l)
 include hn ht hl
theorem down81 (b : List Int) (lo : Int) (v : ByteArray) (hi : Int) : F_commit_downward_c81 b lo (seenOf node t l) v hi = some (downN (fun x => commReady node t l v x hi) b.reverse lo) := by
  have := down_ok (p := fun e => F_commit_Extend_1 e (seenOf node t l) v hi) (q := fun x => commReady node t l v x hi) (fun e => by simp only [F_commit_Extend_1, ready_eq hn ht hl, Option.bind_some]) b.reverse lo
  simp only [F_commit_downward_c81, F_slices_Backward_int_int, letJ_eq, Option.bind_some]
  exact this
theorem down82 (b : List Int) (lo : Int) (v : ByteArray) (hi : Int) : F_commit_downward_c82 b lo (seenOf node t l) v hi = some (downN (fun x => commReady node t l v x hi) b.reverse lo) := by
  have := down_ok (p := fun e => F_commit_Extend_2 e (seenOf node t l) v hi) (q := fun x => commReady node t l v x hi) (fun e => by simp only [F_commit_Extend_2, ready_eq hn ht hl, Option.bind_some]) b.reverse lo
  simp only [F_commit_downward_c82, F_slices_Backward_int_int, letJ_eq, Option.bind_some]
  exact this
/-- it goes on to what is greater -/
theorem Extend_jump {v : ByteArray} {old fr : Int} (h1 : old + 1 < fr) (h2 : 0 ≤ old) (h3 : fr ≤ 1000) (hb : F_envelopes_Bounds l v = some [old, fr]) (r1 : commReady node t l v fr fr = true) (r2 : commReady node t l v old fr = false) : F_commit_Extend node t l v old old = some (fr, fr, ()) := by
  have e1 : downN (fun x => commReady node t l v x fr) [fr, old] fr = fr := by
    have : ¬ fr ≤ old := by omega
    simp [downN, r2, this]
  have e2 : decide (fr ≤ old) = false := decide_eq_false (by omega)
  have e3 : subI .i64 fr 1 = fr - 1 := sub64 (by omega) (by omega)
  have e4 : decide (old < fr - 1) = true := decide_eq_true (by omega)
  have e5 : [old, fr].reverse = [fr, old] := rfl
  simp only [F_commit_Extend, TTrust.eta, look_eq hn ht hl, hb, F_slices_Backward_int_int, Option.bind_some, letJ_eq, e5, backO, e2, cond_false, ready_eq hn ht hl, r1, Bool.not_true, down81 hn ht hl, e1, e3, e4, cond_true, down82 hn ht hl, Option.map_some]
end

theorem set0 {α : Type} (f : Nat → α) (y : α) : ∀ n, ((List.range n).map f).set 0 y = (List.range n).map fun i => if i = 0 then y else f i := by
  intro n
  refine List.ext_getElem? fun i => ?_
  rw [List.getElem?_set]
  by_cases hi : i < n
  · by_cases h0 : 0 = i
    · subst h0
      simp [hi]
    · have : ¬ i = 0 := fun e => h0 e.symm
      simp [hi, h0, this]
  · simp [hi]
    intro h
    subst h
    omega

theorem jumps (t : List Int) (a b : Int) (ha0 : 0 ≤ a) (ha1 : a < 256) (hb0 : 0 ≤ b) (hb1 : b < 256) : F_law26_CommitJumps t a b = some true := by
  refine Yd.eq_true ?_
  unfold F_law26_CommitJumps
  refine (New_ok t).bind fun s hs => ?_
  refine (Range_ok hs (by omega) (by omega) (by omega)).bind fun p2 ⟨a1, a2, a3, _⟩ => ?_
  have a4 := a3 (by omega)
  obtain ⟨n, hn⟩ : ∃ n : Nat, p2.1 = n := ⟨p2.1.toNat, by omega⟩
  have hk : subI .i64 p2.1 1 = ((n : Int) - 1) := by rw [hn]; exact sub64 (by omega) (by omega)
  rw [hk, hn]
  refine (Yd.of_eq (Flat_eq n (by omega) ((n : Int) - 1)) rfl : Yd _ fun r => r = ⟨(n : Int) - 1, ups n, []⟩).bind fun r3 hr3 => ?_
  subst hr3
  refine (Value_ok a1).bind fun p4 ⟨b1, b2⟩ => ?_
  have hsz := b2.size
  -- the numbers
  have c1 : convI .i64 a = a := u8_in ha0 ha1
  have c2 : convI .i64 b = b := u8_in hb0 hb1
  have c3 : remI .i64 a 4 = a % 4 := Int.tmod_eq_emod_of_nonneg ha0
  have c4 : remI .i64 b 4 = b % 4 := Int.tmod_eq_emod_of_nonneg hb0
  rw [c1, c2, c3, c4]
  have c5 : addI .i64 1 (a % 4) = 1 + a % 4 := add64 (by omega) (by omega)
  have c6 : addI .i64 (1 + a % 4) 2 = 1 + a % 4 + 2 := add64 (by omega) (by omega)
  have c7 : addI .i64 (1 + a % 4 + 2) (b % 4) = 1 + a % 4 + 2 + b % 4 := add64 (by omega) (by omega)
  rw [c5, c6, c7]
  obtain ⟨old, hold⟩ : ∃ old, 1 + a % 4 = old := ⟨_, rfl⟩
  obtain ⟨fr, hfr⟩ : ∃ fr, 1 + a % 4 + 2 + b % 4 = fr := ⟨_, rfl⟩
  rw [hfr, hold]
  have d1 : 1 ≤ old ∧ old ≤ 4 := by omega
  have d2 : old + 2 ≤ fr ∧ fr ≤ 9 := by omega
  let lo : Nat → Int := fun i => if i = 0 then old else fr
  have hflat : FlatL n ((n : Int) - 1) ((List.range n).map (cE n ((n : Int) - 1) fr p4.1 lo lo)) := cE_flat (by omega) (by omega) (by omega) (by omega) (by omega) hsz.1 (by omega) fun i hi => by show 1 ≤ lo i ∧ lo i ≤ lo i ∧ lo i ≤ fr; simp only [lo]; split <;> omega
  have hflat2 : FlatL n ((n : Int) - 1) ((List.range n).map (cE n ((n : Int) - 1) fr p4.1 (fun _ => fr) (fun _ => fr))) := cE_flat (by omega) (by omega) (by omega) (by omega) (by omega) hsz.1 (by omega) fun i hi => by omega
  have hb : F_envelopes_Bounds ((List.range n).map (cE n ((n : Int) - 1) fr p4.1 lo lo)) p4.1 = some [old, fr] := by
    refine cE_bounds (by omega) hflat (fun i hi => by simp only [lo]; split <;> omega) (by simp; omega) fun x => ?_
    constructor
    · intro hx
      simp only [List.mem_cons, List.not_mem_nil, or_false] at hx
      rcases hx with rfl | rfl
      · exact ⟨0, by omega, .inl rfl⟩
      · exact ⟨1, by omega, .inl rfl⟩
    · rintro ⟨i, hi, hx⟩
      have hx : x = lo i := by rcases hx with h | h <;> exact h
      rw [hx]
      simp only [lo]
      split <;> simp
  have hb2 : F_envelopes_Bounds ((List.range n).map (cE n ((n : Int) - 1) fr p4.1 (fun _ => fr) (fun _ => fr))) p4.1 = some [fr] := by
    refine cE_bounds (by omega) hflat2 (fun i hi => by omega) (by simp) fun x => ?_
    constructor
    · intro hx
      exact ⟨0, by omega, .inl (by simpa using hx)⟩
    · rintro ⟨i, hi, rfl | rfl⟩ <;> simp
  have r1 := ready_yes hflat (i := 0) (by omega) (a := fr) (b := fr) fun j hj => by simp only [lo]; split <;> omega
  have r2 : commReady 0 (flat n ((n : Int) - 1)) ((List.range n).map (cE n ((n : Int) - 1) fr p4.1 lo lo)) p4.1 old fr = false := by
    refine ready_no hflat (by omega) 1 (fun j hj hx => ?_) (fun j hj => ?_) ?_
    · simp only [Bool.and_eq_true, decide_eq_true_eq, lo] at hx
      by_cases h0 : j = 0
      · subst h0; rfl
      · rw [if_neg h0] at hx; omega
    · have h3 : ¬ (lo j ≤ old ∧ fr ≤ lo j) := by simp only [lo]; split <;> omega
      cases hx : decide (1 ≤ old) && decide (old ≤ fr) && decide (lo j ≤ old) && decide (fr ≤ lo j) with
      | false => rfl
      | true =>
        simp only [Bool.and_eq_true, decide_eq_true_eq] at hx
        exact absurd ⟨hx.1.2, hx.2⟩ h3
    · rcases (show n = 3 ∨ n = 4 ∨ n = 5 by omega) with rfl | rfl | rfl <;> decide
  have hext := Extend_jump (node := 0) (by omega) hflat.good.sm hflat.sm (by omega) (by omega) (by omega) hb r1 r2
  have s1 := sure_yes hflat2 (i := 0) (by omega) (a := fr) (b := fr) fun j hj => by omega
  have hfin := Final_eq (node := 0) (by omega) hflat2.good.sm hflat2.sm hb2
  have hfn : finalN [fr] (commSure 0 (flat n ((n : Int) - 1)) ((List.range n).map (cE n ((n : Int) - 1) fr p4.1 (fun _ => fr) (fun _ => fr))) p4.1) = (fr, fr, true, ()) := by
    simp [finalN, downN, s1]
  rw [hfn] at hfin
  suffices key : ∀ (k i : Nat), i + k = n → Yd (loopO _ ((i : Int), (List.range i).map (cE n ((n : Int) - 1) fr p4.1 lo lo), ())) _ from key n 0 (by omega)
  intro k
  induction k with
  | zero =>
    intro i hi
    obtain rfl : i = n := by omega
    refine Yd.loop ?_
    have hd : decide ((i : Int) < (i : Int)) = false := decide_eq_false (Int.lt_irrefl _)
    have hext' : F_commit_Extend 0 ⟨(i : Int) - 1, ups i, []⟩ ((List.range i).map (cE i ((i : Int) - 1) fr p4.1 lo lo)) p4.1 old old = some (fr, fr, ()) := hext
    simp only [hd, cond_false, hext', Option.bind_some]
    have hget : ((List.range i).map (cE i ((i : Int) - 1) fr p4.1 lo lo))[0]? = some (cE i ((i : Int) - 1) fr p4.1 lo lo 0) := by
      rw [List.getElem?_map, List.getElem?_range (by omega)]; rfl
    have hix : idx ((List.range i).map (cE i ((i : Int) - 1) fr p4.1 lo lo)) 0 = some (cE i ((i : Int) - 1) fr p4.1 lo lo 0) := by
      have := idx_nat ((List.range i).map (cE i ((i : Int) - 1) fr p4.1 lo lo)) 0
      rw [hget] at this
      exact this
    have hget2 : ∀ f : Nat → TEnvelope, ((List.range i).map f)[0]? = some (f 0) := fun f => by
      rw [List.getElem?_map, List.getElem?_range (by omega)]; rfl
    have hix2 : ∀ f : Nat → TEnvelope, idx ((List.range i).map f) 0 = some (f 0) := fun f => by
      have := idx_nat ((List.range i).map f) 0
      rw [hget2] at this
      exact this
    simp only [hix, Int.toNat_zero, hget, Option.bind_some, set0, hix2, hget2, if_true]
    have hl2 : ((List.range i).map fun j => if j = 0 then TEnvelope.mk (cE i ((i : Int) - 1) fr p4.1 lo lo 0).Node (cE i ((i : Int) - 1) fr p4.1 lo lo 0).Slot (cE i ((i : Int) - 1) fr p4.1 lo lo 0).Seq (TTrust.mk (cE i ((i : Int) - 1) fr p4.1 lo lo 0).Trust.Threshold (cE i ((i : Int) - 1) fr p4.1 lo lo 0).Trust.Nodes (cE i ((i : Int) - 1) fr p4.1 lo lo 0).Trust.Inner) (cE i ((i : Int) - 1) fr p4.1 lo lo 0).Kind (cE i ((i : Int) - 1) fr p4.1 lo lo 0).Ballot (cE i ((i : Int) - 1) fr p4.1 lo lo 0).Prepared (cE i ((i : Int) - 1) fr p4.1 lo lo 0).Prime fr fr else if j = 0 then TEnvelope.mk (cE i ((i : Int) - 1) fr p4.1 lo lo 0).Node (cE i ((i : Int) - 1) fr p4.1 lo lo 0).Slot (cE i ((i : Int) - 1) fr p4.1 lo lo 0).Seq (TTrust.mk (cE i ((i : Int) - 1) fr p4.1 lo lo 0).Trust.Threshold (cE i ((i : Int) - 1) fr p4.1 lo lo 0).Trust.Nodes (cE i ((i : Int) - 1) fr p4.1 lo lo 0).Trust.Inner) (cE i ((i : Int) - 1) fr p4.1 lo lo 0).Kind (cE i ((i : Int) - 1) fr p4.1 lo lo 0).Ballot (cE i ((i : Int) - 1) fr p4.1 lo lo 0).Prepared (cE i ((i : Int) - 1) fr p4.1 lo lo 0).Prime fr (cE i ((i : Int) - 1) fr p4.1 lo lo 0).High else cE i ((i : Int) - 1) fr p4.1 lo lo j) = (List.range i).map (cE i ((i : Int) - 1) fr p4.1 (fun _ => fr) (fun _ => fr)) := by
      refine List.map_congr_left fun j _ => ?_
      by_cases h0 : j = 0
      · subst h0; rfl
      · rw [if_neg h0, if_neg h0]
        simp only [cE, lo, if_neg h0]
    have hfin' : F_commit_Final 0 ⟨(i : Int) - 1, ups i, []⟩ ((List.range i).map (cE i ((i : Int) - 1) fr p4.1 (fun _ => fr) (fun _ => fr))) p4.1 = some (fr, fr, true, ()) := hfin
    rw [hl2, hfin']
    simp only [Option.bind_some, decide_true, cond_true, sane26, Option.map_some]
    exact Yd.some rfl
  | succ k ih =>
    intro i hi
    have hd : decide ((i : Int) < (n : Int)) = true := decide_eq_true (by omega)
    have hw : addI .i64 (i : Int) 1 = ((i + 1 : Nat) : Int) := add64 (by omega) (by omega)
    have hnext : (List.range (i + 1)).map (cE n ((n : Int) - 1) fr p4.1 lo lo) = (List.range i).map (cE n ((n : Int) - 1) fr p4.1 lo lo) ++ [cE n ((n : Int) - 1) fr p4.1 lo lo i] := by
      rw [List.range_succ, List.map_append]; rfl
    have ih := ih (i + 1) (by omega)
    rw [hnext] at ih
    have hok : ∀ e : TEnvelope, lenOk 176 (((List.range i).map (cE n ((n : Int) - 1) fr p4.1 lo lo)).length + [e].length) = true := fun e => lenOk_small (by simp; omega)
    refine Yd.loop ?_
    simp only [hd, hw, cond_true, letJ_eq, hok]
    by_cases h0 : i = 0
    · subst h0
      have hz : decide (((0 : Nat) : Int) = 0) = true := rfl
      simp only [hz, cond_true]
      exact Yd.some ih
    · have hz : decide ((i : Int) = 0) = false := decide_eq_false (by omega)
      simp only [hz, cond_false]
      have he : cE n ((n : Int) - 1) fr p4.1 lo lo i = ⟨i, 1, 1, ⟨(n : Int) - 1, ups n, []⟩, 2, ⟨fr, p4.1⟩, ⟨fr, p4.1⟩, ⟨0, ByteArray.mk #[]⟩, fr, fr⟩ := by
        simp only [cE, lo, if_neg h0, flat]
      rw [he] at ih
      exact Yd.some ih
end Go.Proofs.Ytncjalhhkmojlaa
