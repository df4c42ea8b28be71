/-
  Insertion sort and Compact as plain functions, generic in elements and comparison. Conditions: lengths below 2^40.
-/
import Derived.Test.YtncjalhhkmojlaaGreatPBase
set_option linter.unusedVariables false
namespace Go.Proofs.YtncjalhhkmojlaaGreat
open Go.TQ

section
variable {α : Type}
noncomputable def insIn (cmp : α → α → Option Int) (a0 i : Int) (v2 : Int × (List α) × Unit) : Option ((Int × (List α) × Unit) ⊕ ((Int × (List α) × Unit) ⊕ ((Unit) × List α))) :=
 letJ (fun (v3 : Bool × Unit) =>
 bif v3.1 then
 Option.bind (idx v2.2.1 (subI .i64 v2.1 (1 : Int))) fun x5 =>
 Option.bind (v2.2.1[(Int.toNat (subI .i64 v2.1 (1 : Int)))]?) fun x6 =>
 Option.bind (idx v2.2.1 v2.1) fun x7 =>
 Option.bind (v2.2.1[(Int.toNat v2.1)]?) fun x8 =>
 Option.bind (idx v2.2.1 v2.1) fun x9 =>
 Option.bind (v2.2.1[(Int.toNat v2.1)]?) fun x10 =>
 Option.bind (idx (v2.2.1.set (Int.toNat v2.1) x6) (subI .i64 v2.1 (1 : Int))) fun x11 =>
 Option.bind ((v2.2.1.set (Int.toNat v2.1) x6)[(Int.toNat (subI .i64 v2.1 (1 : Int)))]?) fun x12 =>
 some (Sum.inl ((subI .i64 v2.1 (1 : Int)), ((v2.2.1.set (Int.toNat v2.1) x6).set (Int.toNat (subI .i64 v2.1 (1 : Int))) x8), ()))
 else
 Option.map Sum.inr (some (Sum.inl ((addI .i64 i (1 : Int)), v2.2.1, ())))) fun j4 =>
 bif (decide (a0 < v2.1)) then
 Option.bind (idx v2.2.1 v2.1) fun x13 =>
 Option.bind (v2.2.1[(Int.toNat v2.1)]?) fun x14 =>
 Option.bind (idx v2.2.1 (subI .i64 v2.1 (1 : Int))) fun x15 =>
 Option.bind (v2.2.1[(Int.toNat (subI .i64 v2.1 (1 : Int)))]?) fun x16 =>
 Option.bind (cmp x14 x16) fun r17 =>
 j4 ((decide (r17 < (0 : Int))), ())
 else
 j4 (false, ())
noncomputable def insOut (cmp : α → α → Option Int) (a0 a1 : Int) (v1 : Int × (List α) × Unit) : Option ((Int × (List α) × Unit) ⊕ ((Unit) × List α)) :=
 bif (decide (v1.1 < a1)) then
 loopO (insIn cmp a0 v1.1) (v1.1, v1.2.1, ())
 else
 Option.map Sum.inr (some ((()), v1.2.1))
/-- the decompiled insertion sort -/
noncomputable def gIns (cmp : α → α → Option Int) (s : List α) (a0 : Int) (a1 : Int) : Option ((Unit) × List α) := loopO (insOut cmp a0 a1) ((addI .i64 a0 (1 : Int)), s, ())

/-- an order -/
structure SWO (lt : α → α → Bool) : Prop where
  asymm : ∀ x y, lt x y = true → lt y x = false
  trans : ∀ x y z, lt y x = false → lt z y = false → lt z x = false

/-- x goes down into the reversed prefix -/
def sink (lt : α → α → Bool) : List α → α → List α → List α
  | [], x, q => x :: q
  | y :: rp, x, q => if lt x y then sink lt rp x (y :: q) else rp.reverse ++ y :: x :: q
theorem sink_len (lt : α → α → Bool) : ∀ (rp : List α) (x : α) (q : List α), (sink lt rp x q).length = rp.length + 1 + q.length
  | [], x, q => by simp [sink]; omega
  | y :: rp, x, q => by
    rw [sink]
    split
    · rw [sink_len lt rp]; simp; omega
    · simp; omega
theorem sink_perm (lt : α → α → Bool) : ∀ (rp : List α) (x : α) (q : List α), (sink lt rp x q).Perm (rp.reverse ++ x :: q)
  | [], x, q => .refl _
  | y :: rp, x, q => by
    rw [sink]
    split
    · refine (sink_perm lt rp x (y :: q)).trans ?_
      rw [List.reverse_cons, List.append_assoc]
      exact (List.Perm.refl _).append (.swap _ _ _)
    · rw [List.reverse_cons, List.append_assoc]
      exact .refl _
theorem sink_sorted {lt : α → α → Bool} (h : SWO lt) : ∀ (rp : List α) (x : α) (q : List α), (rp.reverse ++ q).Pairwise (fun a b => lt b a = false) → (∀ y ∈ q, lt y x = false) → (sink lt rp x q).Pairwise (fun a b => lt b a = false)
  | [], x, q, hp, hq => List.pairwise_cons.2 ⟨hq, by simpa using hp⟩
  | y :: rp, x, q, hp, hq => by
    rw [List.reverse_cons, List.append_assoc] at hp
    rw [sink]
    split
    · rename_i hlt
      refine sink_sorted h rp x (y :: q) hp fun z hz => ?_
      rcases List.mem_cons.1 hz with rfl | hz
      · exact h.asymm _ _ hlt
      · exact hq z hz
    · rename_i hlt
      have hlt : lt x y = false := by simpa using hlt
      rw [List.pairwise_append] at hp ⊢
      obtain ⟨h1, h2, h3⟩ := hp
      rw [List.singleton_append, List.pairwise_cons] at h2
      refine ⟨h1, ?_, fun a ha b hb => ?_⟩
      · rw [List.pairwise_cons, List.pairwise_cons]
        refine ⟨fun z hz => ?_, hq, h2.2⟩
        rcases List.mem_cons.1 hz with rfl | hz
        · exact hlt
        · exact h2.1 z hz
      · rcases List.mem_cons.1 hb with rfl | hb
        · exact h3 a ha _ (by simp)
        · rcases List.mem_cons.1 hb with rfl | hb
          · exact h.trans a y _ (h3 a ha y (by simp)) hlt
          · exact h3 a ha b (by simp [hb])

/-- one element goes to its place -/
theorem ins_inner {cmp : α → α → Option Int} {c : α → α → Int} (hc : ∀ x y, cmp x y = some (c x y)) (i : Int) : ∀ (rp : List α) (x : α) (q : List α), rp.length < 1000000000 → loopO (insIn cmp 0 i) ((rp.length : Int), rp.reverse ++ x :: q, ()) = some (.inl (addI .i64 i 1, sink (fun a b => decide (c a b < 0)) rp x q, ()))
  | [], x, q, _ => by
    refine loopO_inr ?_
    simp [insIn, letJ, sink]
  | y :: rp, x, q, hl => by
    have hl' : rp.length < 1000000000 := by rw [List.length_cons] at hl; omega
    have e1 : subI .i64 (((y :: rp).length : Nat) : Int) 1 = (rp.length : Int) := by rw [List.length_cons] at hl ⊢; rw [sub64 (by omega) (by omega)]; omega
    have e2 : (y :: rp).reverse ++ x :: q = rp.reverse ++ y :: x :: q := by simp
    have e3 : (rp.reverse ++ y :: x :: q)[(y :: rp).length]? = some x := by simp
    have e4 : (rp.reverse ++ y :: x :: q)[rp.length]? = some y := by simp
    have e5 : (rp.reverse ++ y :: x :: q).set (y :: rp).length y = rp.reverse ++ y :: y :: q := by simp
    have e6 : (rp.reverse ++ y :: y :: q).set rp.length x = rp.reverse ++ x :: y :: q := by simp
    have e7 : (rp.reverse ++ y :: y :: q)[rp.length]? = some y := by simp
    have hd : decide ((0 : Int) < (((y :: rp).length : Nat) : Int)) = true := decide_eq_true (by rw [List.length_cons]; omega)
    rw [e2, sink]
    have hst : insIn cmp 0 i ((((y :: rp).length : Nat) : Int), rp.reverse ++ y :: x :: q, ()) = _ := rfl
    conv at hst => rhs; rw [insIn]
    simp only [hd, cond_true, e1, idx_nat, Int.toNat_natCast, e3, e4, Option.bind_some, hc, letJ, e5, e6, e7] at hst
    cases hb : decide (c x y < 0) with
    | true =>
      rw [hb] at hst
      rw [if_pos rfl, loopO_inl hst]
      exact ins_inner hc i rp x (y :: q) hl'
    | false =>
      rw [hb] at hst
      rw [if_neg (by simp)]
      exact loopO_inr hst

theorem ins_ok {cmp : α → α → Option Int} {c : α → α → Int} (hc : ∀ x y, cmp x y = some (c x y)) (s : List α) (hs : s.length < 1000000000) :
    ∃ t : List α, gIns cmp s 0 (s.length : Int) = some ((), t) ∧ t.Perm s ∧ ((SWO fun a b => decide (c a b < 0)) → t.Pairwise (fun a b => decide (c b a < 0) = false)) := by
  suffices key : ∀ (k i : Nat) (p q : List α), i + k = s.length ∨ (k = 0 ∧ s.length ≤ i) → p.length = min i s.length → (p ++ q).Perm s → ((SWO fun a b => decide (c a b < 0)) → p.Pairwise (fun a b => decide (c b a < 0) = false)) →
      ∃ t : List α, loopO (insOut cmp 0 (s.length : Int)) ((i : Int), p ++ q, ()) = some ((), t) ∧ t.Perm s ∧ ((SWO fun a b => decide (c a b < 0)) → t.Pairwise (fun a b => decide (c b a < 0) = false)) by
    cases s with
    | nil => exact key 0 1 [] [] (.inr ⟨rfl, by simp⟩) (by simp) (.refl _) (fun _ => .nil)
    | cons x l => exact key l.length 1 [x] l (.inl (by simp; omega)) (by simp) (.refl _) (fun _ => by simp)
  intro k
  induction k with
  | zero =>
    intro i p q hi hp hperm hsort
    have hle : s.length ≤ i := by omega
    have hq : q = [] := by
      have := hperm.length_eq
      rw [List.length_append] at this
      exact List.length_eq_zero_iff.1 (by omega)
    subst hq
    rw [List.append_nil] at hperm ⊢
    refine ⟨p, loopO_inr ?_, hperm, hsort⟩
    have hd : decide ((i : Int) < (s.length : Int)) = false := decide_eq_false (by omega)
    simp only [insOut, hd, cond_false, Option.map_some]
  | succ k ih =>
    intro i p q hi hp hperm hsort
    have hi : i + (k + 1) = s.length := by omega
    have hpi : p.length = i := by omega
    have hlen := hperm.length_eq
    rw [List.length_append] at hlen
    cases q with
    | nil => simp at hlen; omega
    | cons x q =>
      have hd : decide ((i : Int) < (s.length : Int)) = true := decide_eq_true (by omega)
      have hw : addI .i64 (i : Int) 1 = ((i + 1 : Nat) : Int) := add64 (by omega) (by omega)
      let S := sink (fun a b => decide (c a b < 0)) p.reverse x []
      have hS1 : S.Perm (p ++ [x]) := by simpa using sink_perm (fun a b => decide (c a b < 0)) p.reverse x []
      have hS2 : (SWO fun a b => decide (c a b < 0)) → S.Pairwise (fun a b => decide (c b a < 0) = false) := fun ho => sink_sorted ho p.reverse x [] (by simpa using hsort ho) (by simp)
      have hSl : S.length = i + 1 := by simp [S, sink_len, hpi]
      have hsq : ∀ (rp : List α) (q1 q2 : List α), sink (fun a b => decide (c a b < 0)) rp x (q1 ++ q2) = sink (fun a b => decide (c a b < 0)) rp x q1 ++ q2 := by
        intro rp
        induction rp with
        | nil => intro q1 q2; simp [sink]
        | cons y rp ihr =>
          intro q1 q2
          simp only [sink]
          split
          · rw [← List.cons_append]; exact ihr _ _
          · simp
      have hin := ins_inner hc (i : Int) p.reverse x q (by simp; omega)
      obtain ⟨t, h1, h2, h3⟩ := ih (i + 1) S q (.inl (by omega)) (by omega) ((hS1.append_right q).trans (by simpa using hperm)) hS2
      refine ⟨t, ?_, h2, h3⟩
      refine Eq.trans (loopO_inl ?_) h1
      simp only [insOut, hd, cond_true]
      rw [hw, List.reverse_reverse, List.length_reverse, hpi] at hin
      have e : sink (fun a b => decide (c a b < 0)) p.reverse x q = S ++ q := hsq p.reverse [] q
      rw [e] at hin
      exact hin
end
end Go.Proofs.YtncjalhhkmojlaaGreat
