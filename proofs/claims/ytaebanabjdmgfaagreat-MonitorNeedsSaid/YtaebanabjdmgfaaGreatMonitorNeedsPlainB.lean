/-
  Plain Lean: what the turned functions compute. Conditions: none beyond those that each theorem names.
-/
import Derived.Test.YtaebanabjdmgfaaGreatMonitorNeedsPlainA
set_option linter.unusedVariables false
namespace Go.Proofs.YtaebanabjdmgfaaGreat
open Go.TQ
open Go.Sort (swp bitsLen breakPatterns Hint pdq PermIn SortedIn Below choosePivot reverseRange partialInsertionSort partition partitionEqual insertionSort heapSort)

section
variable {α : Type}
/-- behind the test of what lies to the left -/
noncomputable def st4 (cmp : α → α → Option Int) (rec : List α → (Int × Int × Int × (Unit) × Unit) → Option ((Unit) × List α)) (a b lim : Int) (wb wp : Bool) (l : List α) (pv : Int) (w : Bool) : Option ((Int × Int × Int × Bool × Bool × (List α) × Unit) ⊕ (Unit × List α)) :=
  bif w then Option.bind (gPartEq cmp l a b pv) fun p13 => some (Sum.inl (p13.1, b, lim, wb, wp, p13.2, ())) else
  Option.bind (gPart cmp l a b pv) fun p14 =>
  bif (decide ((subI .i64 p14.1.1 a) < (subI .i64 b p14.1.1))) then
    Option.bind (rec p14.2 (a, p14.1.1, lim, (()), ())) fun p15 => some (Sum.inl ((addI .i64 p14.1.1 (1 : Int)), b, lim, (decide ((quoI .i64 (subI .i64 b a) (8 : Int)) ≤ (subI .i64 p14.1.1 a))), p14.1.2.1, p15.2, ()))
  else
    Option.bind (rec p14.2 ((addI .i64 p14.1.1 (1 : Int)), b, lim, (()), ())) fun p16 => some (Sum.inl (a, p14.1.1, lim, (decide ((quoI .i64 (subI .i64 b a) (8 : Int)) ≤ (subI .i64 b p14.1.1))), p14.1.2.1, p16.2, ()))
noncomputable def st3 (cmp : α → α → Option Int) (rec : List α → (Int × Int × Int × (Unit) × Unit) → Option ((Unit) × List α)) (a b lim : Int) (wb wp : Bool) (pv : Int) (l : List α) : Option ((Int × Int × Int × Bool × Bool × (List α) × Unit) ⊕ (Unit × List α)) :=
  bif (decide ((0 : Int) < a)) then ltO cmp l (subI .i64 a (1 : Int)) pv fun w => st4 cmp rec a b lim wb wp l pv (!w) else st4 cmp rec a b lim wb wp l pv false
noncomputable def st2 (cmp : α → α → Option Int) (rec : List α → (Int × Int × Int × (Unit) × Unit) → Option ((Unit) × List α)) (a b lim : Int) (wb wp : Bool) (pv hint : Int) (l : List α) : Option ((Int × Int × Int × Bool × Bool × (List α) × Unit) ⊕ (Unit × List α)) :=
  Option.bind (bif wb then some wp else some false) fun b22 => Option.bind (bif b22 then some (decide (hint = (1 : Int))) else some false) fun b23 =>
  bif b23 then Option.bind (gPartial cmp l a b) fun p24 => bif p24.1 then Option.map Sum.inr (some ((()), p24.2)) else st3 cmp rec a b lim wb wp pv p24.2
  else st3 cmp rec a b lim wb wp pv l
noncomputable def st1 (cmp : α → α → Option Int) (rec : List α → (Int × Int × Int × (Unit) × Unit) → Option ((Unit) × List α)) (a b : Int) (wb wp : Bool) (lim : Int) (l : List α) : Option ((Int × Int × Int × Bool × Bool × (List α) × Unit) ⊕ (Unit × List α)) :=
  Option.bind (gPivot cmp l a b) fun r6 =>
  bif (decide (r6.2.1 = (2 : Int))) then Option.bind (gRev l a b) fun p25 => st2 cmp rec a b lim wb wp (subI .i64 (subI .i64 b (1 : Int)) (subI .i64 r6.1 a)) (1 : Int) p25.2
  else st2 cmp rec a b lim wb wp r6.1 r6.2.1 l
noncomputable def pdqStep (cmp : α → α → Option Int) (rec : List α → (Int × Int × Int × (Unit) × Unit) → Option ((Unit) × List α)) (v1 : Int × Int × Int × Bool × Bool × (List α) × Unit) : Option ((Int × Int × Int × Bool × Bool × (List α) × Unit) ⊕ (Unit × List α)) :=
  bif (decide ((subI .i64 v1.2.1 v1.1) ≤ (12 : Int))) then Option.bind (gInsert cmp v1.2.2.2.2.2.1 v1.1 v1.2.1) fun p2 => Option.map Sum.inr (some ((()), p2.2)) else
  bif (decide (v1.2.2.1 = (0 : Int))) then Option.bind (gHeap cmp v1.2.2.2.2.2.1 v1.1 v1.2.1) fun p3 => Option.map Sum.inr (some ((()), p3.2)) else
  bif (!v1.2.2.2.1) then Option.bind (gBreak v1.2.2.2.2.2.1 v1.1 v1.2.1) fun p26 => st1 cmp rec v1.1 v1.2.1 v1.2.2.2.1 v1.2.2.2.2.1 (subI .i64 v1.2.2.1 (1 : Int)) p26.2
  else st1 cmp rec v1.1 v1.2.1 v1.2.2.2.1 v1.2.2.2.2.1 v1.2.2.1 v1.2.2.2.2.2.1
noncomputable def gPB (cmp : α → α → Option Int) (rec : List α → (Int × Int × Int × (Unit) × Unit) → Option ((Unit) × List α)) (s : List α) (a0 a1 a2 : Int) : Option ((Unit) × List α) := loopO (pdqStep cmp rec) (a0, a1, a2, true, true, s, ())
noncomputable def gPI (cmp : α → α → Option Int) : Nat → List α → (Int × Int × Int × (Unit) × Unit) → Option ((Unit) × List α) := iterF2 (fun rec s a => gPB cmp rec s a.1 a.2.1 a.2.2.1)
noncomputable def gPdq (cmp : α → α → Option Int) (s : List α) (a0 a1 a2 : Int) : Option ((Unit) × List α) := gPI cmp (List.length s + 1) s (a0, a1, a2, (()), ())
end

section
variable {α : Type} [Inhabited α] {cmp : α → α → Option Int} {c : α → α → Int} (hc : ∀ x y, cmp x y = some (c x y))
variable {rec : List α → (Int × Int × Int × (Unit) × Unit) → Option ((Unit) × List α)}
 include hc
/-- the pivot and the reversal -/
theorem st1_eq {a b : Nat} {d : Array α} (hab : 12 < b - a) (hb : b ≤ d.size) (hd : d.size < 1000000000) (lim : Int) (wb wp : Bool) :
    st1 cmp rec (a : Int) (b : Int) wb wp lim d.toList = st2 cmp rec (a : Int) (b : Int) lim wb wp
      (((if (choosePivot (fun x y => decide (c x y < 0)) d a b).2 = .decreasing then (b - 1) - ((choosePivot (fun x y => decide (c x y < 0)) d a b).1 - a) else (choosePivot (fun x y => decide (c x y < 0)) d a b).1 : Nat)) : Int)
      (hintI (if (choosePivot (fun x y => decide (c x y < 0)) d a b).2 = .decreasing then Hint.increasing else (choosePivot (fun x y => decide (c x y < 0)) d a b).2))
      (if (choosePivot (fun x y => decide (c x y < 0)) d a b).2 = .decreasing then reverseRange d a b else d).toList := by
  obtain ⟨p1, p2⟩ := Go.Sort.choosePivot_holds (fun x y => decide (c x y < 0)) d a b (by omega)
  rw [st1, gPivot_eq hc hab hb hd, Option.bind_some]
  generalize choosePivot (fun x y => decide (c x y < 0)) d a b = r at *
  by_cases h : r.2 = .decreasing
  · have e1 : decide (hintI r.2 = (2 : Int)) = true := by rw [h]; rfl
    have e2 : subI .i64 (b : Int) 1 = ((b - 1 : Nat) : Int) := sub1 (by omega) (by omega)
    have e3 : subI .i64 (r.1 : Int) (a : Int) = ((r.1 - a : Nat) : Int) := subN (by omega) (by omega)
    have e4 : subI .i64 ((b - 1 : Nat) : Int) ((r.1 - a : Nat) : Int) = ((b - 1 - (r.1 - a) : Nat) : Int) := subN (by omega) (by omega)
    simp only [e1, cond_true, e2, e3, e4, gRev_eq (show a < b by omega) hb hd, Option.bind_some, if_pos h]
    rfl
  · have e1 : decide (hintI r.2 = (2 : Int)) = false := by
      cases hr : r.2 with
      | unknown => rfl
      | increasing => rfl
      | decreasing => exact absurd hr h
    simp only [e1, cond_false, if_neg h]
/-- the insertion sort that gives up -/
theorem st2_eq {a b : Nat} {d : Array α} (hab : a < b) (hb : b ≤ d.size) (hd : d.size < 1000000000) (lim pv : Int) (wb wp : Bool) (hint : Hint) :
    st2 cmp rec (a : Int) (b : Int) lim wb wp pv (hintI hint) d.toList =
      bif (if (wb && wp && decide (hint = Hint.increasing)) = true then partialInsertionSort (fun x y => decide (c x y < 0)) d a b else (d, false)).2 then some (Sum.inr ((), (if (wb && wp && decide (hint = Hint.increasing)) = true then partialInsertionSort (fun x y => decide (c x y < 0)) d a b else (d, false)).1.toList))
      else st3 cmp rec (a : Int) (b : Int) lim wb wp pv (if (wb && wp && decide (hint = Hint.increasing)) = true then partialInsertionSort (fun x y => decide (c x y < 0)) d a b else (d, false)).1.toList := by
  have e1 : decide (hintI hint = (1 : Int)) = decide (hint = Hint.increasing) := by cases hint <;> rfl
  have hp := gPartial_eq hc hab hb hd
  cases wb with
  | false => simp only [st2, cond_false, Option.bind_some, Bool.false_and, Bool.false_eq_true, if_false]
  | true =>
    cases wp with
    | false => simp only [st2, cond_false, cond_true, Option.bind_some, Bool.true_and, Bool.false_and, Bool.false_eq_true, if_false]
    | true =>
      simp only [st2, cond_true, Option.bind_some, Bool.true_and, e1]
      cases hh : decide (hint = Hint.increasing) with
      | false => simp only [cond_false, Bool.false_eq_true, if_false]
      | true =>
        rw [if_pos rfl, cond_true, hp, Option.bind_some, Option.map_some]
/-- is the pivot the same as what lies to the left? -/
theorem st3_eq {a b pv : Nat} {d : Array α} (ha : a ≤ d.size) (hp : pv < d.size) (hd : d.size < 1000000000) (lim : Int) (wb wp : Bool) :
    st3 cmp rec (a : Int) (b : Int) lim wb wp (pv : Int) d.toList = st4 cmp rec (a : Int) (b : Int) lim wb wp d.toList (pv : Int) (decide (a > 0) && !decide (c d[a - 1]! d[pv]! < 0)) := by
  by_cases h : a > 0
  · have e1 : decide ((0 : Int) < (a : Int)) = true := decide_eq_true (by omega)
    have e2 : subI .i64 (a : Int) 1 = ((a - 1 : Nat) : Int) := sub1 (by omega) (by omega)
    have e3 : decide (a > 0) = true := decide_eq_true h
    have k1 : a - 1 < d.size := by omega
    rw [st3, e1, cond_true, e2, ltO_eq hc k1 hp, e3, Bool.true_and]
  · have e1 : decide ((0 : Int) < (a : Int)) = false := decide_eq_false (by omega)
    have e3 : decide (a > 0) = false := decide_eq_false h
    rw [st3, e1, cond_false, e3, Bool.false_and]
end
end Go.Proofs.YtaebanabjdmgfaaGreat

set_option linter.unusedVariables false
namespace Go.Proofs.YtaebanabjdmgfaaGreat
open Go.TQ
open Go.Sort (swp bitsLen breakPatterns Hint pdq PermIn SortedIn Below choosePivot reverseRange partialInsertionSort partition partitionEqual insertionSort heapSort)

section
variable {α : Type} [Inhabited α]
/-- a call that gives a sorted permutation -/
def Sorts (lt : α → α → Bool) (a b : Nat) (d : Array α) (r : Option (Unit × List α)) : Prop := ∃ d' : Array α, r = some ((), d'.toList) ∧ PermIn a b d d' ∧ SortedIn lt a b d'
theorem Sorts.trans {lt : α → α → Bool} {a b : Nat} {d d1 : Array α} {r : Option (Unit × List α)} (h : PermIn a b d d1) (hs : Sorts lt a b d1 r) : Sorts lt a b d r := by
  obtain ⟨d', e, p, s⟩ := hs
  exact ⟨d', e, Go.Sort.permIn_trans _ _ _ a b h p, s⟩
end
/-- how a loop goes on behind one round -/
noncomputable def contO {σ ρ : Type} (step : σ → Option (σ ⊕ ρ)) : Option (σ ⊕ ρ) → Option ρ
  | none => none
  | some (.inl s) => loopO step s
  | some (.inr r) => some r
theorem loopO_cont {σ ρ : Type} (step : σ → Option (σ ⊕ ρ)) (s : σ) : loopO step s = contO step (step s) := by
  cases h : step s with
  | none => rw [loopO_none h, contO]
  | some y => cases y with
    | inl s' => rw [loopO_inl h, contO]
    | inr r => rw [loopO_inr h, contO]

section
variable {α : Type} [Inhabited α] {cmp : α → α → Option Int} {c : α → α → Int} (hc : ∀ x y, cmp x y = some (c x y))
variable {rec : List α → (Int × Int × Int × (Unit) × Unit) → Option ((Unit) × List α)}
 include hc
theorem st4_ok (ho : Go.Sort.SWO fun x y => decide (c x y < 0)) {k : Nat}
    (hrec : ∀ (d : Array α) (a b : Nat) (lim : Int), b - a < k → a ≤ b → b ≤ d.size → d.size < 1000000000 → Below (fun x y => decide (c x y < 0)) a b d → Sorts (fun x y => decide (c x y < 0)) a b d (rec d.toList ((a : Int), (b : Int), lim, (), ())))
    {a b pv : Nat} {d : Array α} (hk : b - a ≤ k) (hp1 : a ≤ pv) (hp2 : pv < b) (hb : b ≤ d.size) (hd : d.size < 1000000000) (hB : Below (fun x y => decide (c x y < 0)) a b d)
    (ih : ∀ (a' b' : Nat) (lim : Int) (wb wp : Bool) (d' : Array α), b' - a' < b - a → a' ≤ b' → b' ≤ d'.size → d'.size < 1000000000 → Below (fun x y => decide (c x y < 0)) a' b' d' → Sorts (fun x y => decide (c x y < 0)) a' b' d' (loopO (pdqStep cmp rec) ((a' : Int), (b' : Int), lim, wb, wp, d'.toList, ())))
    (lim : Int) (wb wp : Bool) :
    Sorts (fun x y => decide (c x y < 0)) a b d (contO (pdqStep cmp rec) (st4 cmp rec (a : Int) (b : Int) lim wb wp d.toList (pv : Int) (decide (a > 0) && !decide (c d[a - 1]! d[pv]! < 0)))) := by
  cases hw : (decide (a > 0) && !decide (c d[a - 1]! d[pv]! < 0)) with
  | true =>
    simp only [Bool.and_eq_true, decide_eq_true_eq, Bool.not_eq_true'] at hw
    obtain ⟨g1, g2, hs4, hB4, hfin⟩ := Go.Sort.round_eq ho (Go.Sort.partitionEqual_holds _) hw.1 hp1 hp2 hb hB hw.2 (d4 := (partitionEqual (fun x y => decide (c x y < 0)) d a b pv).2) (mid := (partitionEqual (fun x y => decide (c x y < 0)) d a b pv).1) rfl
    have e := gPartEq_eq hc (a := a) (b := b) (pivot := pv) (d := d) (by omega) (by omega) hb hd
    generalize partitionEqual (fun x y => decide (c x y < 0)) d a b pv = m at *
    simp only [st4, cond_true, e, Option.bind_some, contO]
    obtain ⟨d', e', r1, r2⟩ := ih m.1 b lim wb wp m.2 (by omega) g2 (by omega) (by omega) hB4
    exact ⟨d', e', hfin _ r1 r2⟩
  | false =>
    obtain ⟨g1, g2, hs4, hBa, hBr, hleft, hright⟩ := Go.Sort.round_part ho (Go.Sort.partition_holds _) hp1 hp2 hb hB (d4 := (partition (fun x y => decide (c x y < 0)) d a b pv).2.2) (mid := (partition (fun x y => decide (c x y < 0)) d a b pv).1) (ap := (partition (fun x y => decide (c x y < 0)) d a b pv).2.1) rfl
    have e := gPart_eq hc (a := a) (b := b) (pivot := pv) (d := d) (by omega) (by omega) hb hd
    generalize partition (fun x y => decide (c x y < 0)) d a b pv = m at *
    have e1 : subI .i64 (m.1 : Int) (a : Int) = ((m.1 - a : Nat) : Int) := subN (by omega) (by omega)
    have e2 : subI .i64 (b : Int) (m.1 : Int) = ((b - m.1 : Nat) : Int) := subN (by omega) (by omega)
    have e3 : addI .i64 (m.1 : Int) 1 = ((m.1 + 1 : Nat) : Int) := add1 (by omega)
    simp only [st4, cond_false, e, Option.bind_some, e1, e2, e3]
    cases hw2 : decide (((m.1 - a : Nat) : Int) < ((b - m.1 : Nat) : Int)) with
    | true =>
      obtain ⟨L, eL, l1, l2⟩ := hrec m.2.2 a m.1 lim (by omega) g1 (by omega) (by omega) hBa
      have hLs := l1.1
      obtain ⟨hBL, hfin⟩ := hleft _ l1 l2
      simp only [cond_true, eL, Option.bind_some, contO]
      obtain ⟨d', e', r1, r2⟩ := ih (m.1 + 1) b lim _ _ L (by omega) (by omega) (by omega) (by omega) hBL
      exact ⟨d', e', hfin _ r1 r2⟩
    | false =>
      obtain ⟨L, eL, l1, l2⟩ := hrec m.2.2 (m.1 + 1) b lim (by omega) (by omega) (by omega) (by omega) hBr
      have hLs := l1.1
      obtain ⟨hBL, hfin⟩ := hright _ l1 l2
      simp only [cond_false, eL, Option.bind_some, contO]
      obtain ⟨d', e', r1, r2⟩ := ih a m.1 lim _ _ L (by omega) g1 (by omega) (by omega) hBL
      exact ⟨d', e', hfin _ r1 r2⟩
theorem st1_ok (ho : Go.Sort.SWO fun x y => decide (c x y < 0)) {k : Nat}
    (hrec : ∀ (d : Array α) (a b : Nat) (lim : Int), b - a < k → a ≤ b → b ≤ d.size → d.size < 1000000000 → Below (fun x y => decide (c x y < 0)) a b d → Sorts (fun x y => decide (c x y < 0)) a b d (rec d.toList ((a : Int), (b : Int), lim, (), ())))
    {a b : Nat} {d : Array α} (h12 : 12 < b - a) (hk : b - a ≤ k) (hb : b ≤ d.size) (hd : d.size < 1000000000) (hB : Below (fun x y => decide (c x y < 0)) a b d)
    (ih : ∀ (a' b' : Nat) (lim : Int) (wb wp : Bool) (d' : Array α), b' - a' < b - a → a' ≤ b' → b' ≤ d'.size → d'.size < 1000000000 → Below (fun x y => decide (c x y < 0)) a' b' d' → Sorts (fun x y => decide (c x y < 0)) a' b' d' (loopO (pdqStep cmp rec) ((a' : Int), (b' : Int), lim, wb, wp, d'.toList, ())))
    (lim : Int) (wb wp : Bool) :
    Sorts (fun x y => decide (c x y < 0)) a b d (contO (pdqStep cmp rec) (st1 cmp rec (a : Int) (b : Int) wb wp lim d.toList)) := by
  rw [st1_eq hc h12 hb hd]
  obtain ⟨p1, p2⟩ := Go.Sort.choosePivot_holds (fun x y => decide (c x y < 0)) d a b (by omega)
  generalize choosePivot (fun x y => decide (c x y < 0)) d a b = r at *
  have P2 : PermIn a b d (if r.2 = .decreasing then reverseRange d a b else d) := by
    split
    · exact Go.Sort.reverseRange_holds d a b (by omega) hb
    · exact Go.Sort.permIn_refl d a b
  have Q : a ≤ (if r.2 = .decreasing then (b - 1) - (r.1 - a) else r.1) ∧ (if r.2 = .decreasing then (b - 1) - (r.1 - a) else r.1) < b := by split <;> omega
  refine Sorts.trans P2 ?_
  have B2 := hB.perm hb P2
  have hs2 := P2.1
  generalize (if r.2 = .decreasing then reverseRange d a b else d) = d2 at *
  generalize (if r.2 = .decreasing then (b - 1) - (r.1 - a) else r.1) = pv at *
  generalize (if r.2 = .decreasing then Hint.increasing else r.2) = hint at *
  have hb2 : b ≤ d2.size := by omega
  rw [st2_eq hc (by omega) hb2 (by omega)]
  have P3 : PermIn a b d2 (if (wb && wp && decide (hint = Hint.increasing)) = true then partialInsertionSort (fun x y => decide (c x y < 0)) d2 a b else (d2, false)).1 ∧ ((if (wb && wp && decide (hint = Hint.increasing)) = true then partialInsertionSort (fun x y => decide (c x y < 0)) d2 a b else (d2, false)).2 = true → SortedIn (fun x y => decide (c x y < 0)) a b (if (wb && wp && decide (hint = Hint.increasing)) = true then partialInsertionSort (fun x y => decide (c x y < 0)) d2 a b else (d2, false)).1) := by
    split
    · exact Go.Sort.partialInsertionSort_holds ho d2 a b (by omega) hb2 B2
    · exact ⟨Go.Sort.permIn_refl d2 a b, fun h => by cases h⟩
  generalize (if (wb && wp && decide (hint = Hint.increasing)) = true then partialInsertionSort (fun x y => decide (c x y < 0)) d2 a b else (d2, false)) = p at *
  obtain ⟨P3, S3⟩ := P3
  have hs3 := P3.1
  have B3 := B2.perm hb2 P3
  cases hp : p.2 with
  | true =>
    rw [cond_true, contO]
    exact ⟨p.1, rfl, P3, S3 hp⟩
  | false =>
    rw [cond_false, st3_eq hc (by omega) (by omega) (by omega)]
    exact Sorts.trans P3 (st4_ok hc ho hrec hk Q.1 Q.2 (by omega) (by omega) B3 ih lim wb wp)
theorem round_ok (ho : Go.Sort.SWO fun x y => decide (c x y < 0)) {k : Nat}
    (hrec : ∀ (d : Array α) (a b : Nat) (lim : Int), b - a < k → a ≤ b → b ≤ d.size → d.size < 1000000000 → Below (fun x y => decide (c x y < 0)) a b d → Sorts (fun x y => decide (c x y < 0)) a b d (rec d.toList ((a : Int), (b : Int), lim, (), ()))) (n : Nat) :
    ∀ (a b : Nat) (lim : Int) (wb wp : Bool) (d : Array α), b - a = n → b - a ≤ k → a ≤ b → b ≤ d.size → d.size < 1000000000 → Below (fun x y => decide (c x y < 0)) a b d → Sorts (fun x y => decide (c x y < 0)) a b d (loopO (pdqStep cmp rec) ((a : Int), (b : Int), lim, wb, wp, d.toList, ())) := by
  induction n using Nat.strongRecOn with
  | ind n ih =>
  intro a b lim wb wp d hn hk hab hb hd hB
  have e1 : subI .i64 (b : Int) (a : Int) = ((b - a : Nat) : Int) := subN hab (by omega)
  have ih' : ∀ (a' b' : Nat) (lim : Int) (wb wp : Bool) (d' : Array α), b' - a' < b - a → a' ≤ b' → b' ≤ d'.size → d'.size < 1000000000 → Below (fun x y => decide (c x y < 0)) a' b' d' → Sorts (fun x y => decide (c x y < 0)) a' b' d' (loopO (pdqStep cmp rec) ((a' : Int), (b' : Int), lim, wb, wp, d'.toList, ())) :=
    fun a' b' lim wb wp d' h1 h2 h3 h4 h5 => ih (b' - a') (by omega) a' b' lim wb wp d' rfl (by omega) h2 h3 h4 h5
  rw [loopO_cont]
  by_cases h12 : b - a ≤ 12
  · have c1 : decide (((b - a : Nat) : Int) ≤ 12) = true := decide_eq_true (by omega)
    simp only [pdqStep, e1, c1, cond_true, gInsert_eq hc (show a ≤ d.size by omega) hb hd, Option.bind_some, Option.map_some, contO]
    exact ⟨_, rfl, Go.Sort.insertionSort_holds ho d a b hab hb⟩
  · have c1 : decide (((b - a : Nat) : Int) ≤ 12) = false := decide_eq_false (by omega)
    cases hl : decide (lim = 0) with
    | true =>
      simp only [pdqStep, e1, c1, hl, cond_true, cond_false, gHeap_eq hc (show a < b by omega) hb hd, Option.bind_some, Option.map_some, contO]
      exact ⟨_, rfl, Go.Sort.heapSort_holds ho d a b hab hb⟩
    | false =>
      cases wb with
      | true =>
        simp only [pdqStep, e1, c1, hl, cond_false, Bool.not_true]
        exact st1_ok hc ho hrec (by omega) hk hb hd hB ih' _ _ _
      | false =>
        have P1 := Go.Sort.breakPatterns_holds d a b hab hb
        have hs1 := P1.1
        simp only [pdqStep, e1, c1, hl, cond_false, cond_true, Bool.not_false, gBreak_eq (show 12 < b - a by omega) hb hd, Option.bind_some]
        exact Sorts.trans P1 (st1_ok hc ho hrec (by omega) hk (by omega) (by omega) (hB.perm hb P1) ih' _ _ _)
theorem gPI_ok (ho : Go.Sort.SWO fun x y => decide (c x y < 0)) : ∀ (F : Nat) (d : Array α) (a b : Nat) (lim : Int), b - a < F → a ≤ b → b ≤ d.size → d.size < 1000000000 → Below (fun x y => decide (c x y < 0)) a b d → Sorts (fun x y => decide (c x y < 0)) a b d (gPI cmp F d.toList ((a : Int), (b : Int), lim, (), ()))
  | 0, d, a, b, lim, h, _, _, _, _ => absurd h (Nat.not_lt_zero _)
  | F + 1, d, a, b, lim, h, hab, hb, hd, hB => by
    show Sorts _ a b d (loopO (pdqStep cmp (gPI cmp F)) ((a : Int), (b : Int), lim, true, true, d.toList, ()))
    exact round_ok hc ho (gPI_ok ho F) (b - a) a b lim true true d rfl (by omega) hab hb hd hB
/-- the whole, on a list -/
theorem gPdq_ok (ho : Go.Sort.SWO fun x y => decide (c x y < 0)) (s : List α) (hs : s.length < 1000000000) (lim : Int) :
    ∃ s', gPdq cmp s 0 (s.length : Int) lim = some ((), s') ∧ s'.Perm s ∧ s'.Pairwise fun x y => ¬ c y x < 0 := by
  obtain ⟨d', e, p, q⟩ := gPI_ok hc ho (s.length + 1) s.toArray 0 s.length lim (by omega) (by omega) (by simp) (by simpa using hs) (Or.inl rfl)
  refine ⟨d'.toList, ?_, ?_, ?_⟩
  · exact e
  · have h3 := p.2.2
    have hsz := p.1
    simp only [List.size_toArray] at hsz
    have x1 : d'.extract 0 s.length = d' := by rw [← hsz]; exact Array.extract_size
    have x2 : s.toArray.extract 0 s.length = s.toArray := by
      rw [show s.length = s.toArray.size by simp]; exact Array.extract_size
    rw [x1, x2] at h3
    exact h3
  · have hsz := p.1
    simp only [List.size_toArray] at hsz
    rw [List.pairwise_iff_getElem]
    intro i j hi hj hij
    have h3 := q i j (Nat.zero_le _) hij (by simpa [← hsz] using hj)
    have hi' : i < d'.size := by simpa using hi
    have hj' : j < d'.size := by simpa using hj
    rw [getElem!_pos d' i hi', getElem!_pos d' j hj'] at h3
    simpa using of_decide_eq_false h3
end
end Go.Proofs.YtaebanabjdmgfaaGreat

set_option linter.unusedVariables false
set_option linter.unusedSimpArgs false
namespace Go.Proofs.YtaebanabjdmgfaaGreat
open Go.TQ

theorem pdqN_is (s : List Int) (a b l : Int) : F_slices_pdqsortCmpFunc_int_c128 s a b l = gPdq F_nodeset_Compare s a b l := rfl
theorem kswo_N : Go.Sort.SWO fun a b : Int => decide (cmpN a b < 0) := by
  refine ⟨fun x => ?_, fun x y z h1 h2 => ?_, fun x y z h1 h2 => ?_⟩
  · rw [decide_eq_false_iff_not, cmpN_iff]
    omega
  · rw [decide_eq_true_eq, cmpN_iff] at *
    omega
  · rw [decide_eq_false_iff_not, cmpN_iff] at *
    omega
theorem sort_all (f : Nat) (hf : f < 1024) : SortOk f := by
  intro S hS _
  have hl := len_eq (n := S.length) (by omega)
  obtain ⟨T, h1, h2, h3⟩ := gPdq_ok ncmp_eq kswo_N S (by omega) ((Go.Sort.bitsLen S.length : Nat) : Int)
  refine ⟨T, ?_, h2, h3⟩
  simp only [F_slices_SortFunc_int_int_c128, hl, Option.bind_some, pdqN_is, h1]

/-! ### slices.Sort -/
theorem less_eq (x y : Int) : F_cmp_Less_int x y = some (decide (x < y)) := by
  simp [F_cmp_Less_int, F_cmp_isNaN_int]
theorem cmpI_negd (x y : Int) : decide (cmpI x y < 0) = decide (x < y) := by rw [decide_eq_decide]; exact cmpI_neg x y
section
variable {γ : Type}
theorem ltO_c (s : List Int) (i j : Int) (k : Bool → Option γ) : ltO F_cmp_Compare_int s i j k = Option.bind (idx s i) fun x1 => Option.bind (s[(Int.toNat i)]?) fun x2 => Option.bind (idx s j) fun x3 => Option.bind (s[(Int.toNat j)]?) fun x4 => k (decide (x2 < x4)) := by
  simp only [ltO, F_cmp_Compare_int_eq, Option.bind_some, cmpI_negd]
theorem ltV_c (s : List Int) (i j : Int) (k : Bool → Option γ) : ltV F_cmp_Compare_int s i j k = Option.bind (idx s i) fun x1 => Option.bind (idx s j) fun x2 => k (decide (x1 < x2)) := by
  simp only [ltV, F_cmp_Compare_int_eq, Option.bind_some, cmpI_negd]
end
theorem oIns (s : List Int) (a b : Int) : F_slices_insertionSortOrdered_int s a b = gInsert F_cmp_Compare_int s a b := by
  unfold F_slices_insertionSortOrdered_int gInsert insO insI
  simp only [less_eq, ltO_c, Option.bind_some]
  rfl
theorem oSift (s : List Int) (a b c : Int) : F_slices_siftDownOrdered_int s a b c = gSift F_cmp_Compare_int s a b c := by
  unfold F_slices_siftDownOrdered_int gSift siftStep
  simp only [less_eq, ltO_c, Option.bind_some]
  rfl
theorem oHeap (s : List Int) (a b : Int) : F_slices_heapSortOrdered_int s a b = gHeap F_cmp_Compare_int s a b := by
  unfold F_slices_heapSortOrdered_int gHeap heapStep popStep
  simp only [oSift]
  rfl
theorem oBreak (s : List Int) (a b : Int) : F_slices_breakPatternsOrdered_int s a b = gBreak s a b := rfl
theorem oRev (s : List Int) (a b : Int) : F_slices_reverseRangeOrdered_int s a b = gRev s a b := rfl
theorem oOrd (s : Int) (l : List Int) (a b : Int) : F_slices_order2Ordered_int s l a b = gOrd F_cmp_Compare_int s l a b := by
  unfold F_slices_order2Ordered_int gOrd
  simp only [less_eq, ltV_c, Option.bind_some]
theorem oMed (s : Int) (l : List Int) (a b c : Int) : F_slices_medianOrdered_int s l a b c = gMed F_cmp_Compare_int s l a b c := by
  unfold F_slices_medianOrdered_int gMed
  simp only [oOrd]
theorem oAdj (s : Int) (l : List Int) (a : Int) : F_slices_medianAdjacentOrdered_int s l a = gAdj F_cmp_Compare_int s l a := by
  unfold F_slices_medianAdjacentOrdered_int gAdj
  simp only [oMed]
theorem oPivot (l : List Int) (a b : Int) : F_slices_choosePivotOrdered_int l a b = gPivot F_cmp_Compare_int l a b := by
  unfold F_slices_choosePivotOrdered_int gPivot
  simp only [oMed, oAdj]
theorem oPartial (s : List Int) (a b : Int) : F_slices_partialInsertionSortOrdered_int s a b = gPartial F_cmp_Compare_int s a b := by
  unfold F_slices_partialInsertionSortOrdered_int gPartial piStep scanStep sdStep suStep
  simp only [less_eq, ltO_c, Option.bind_some]
  rfl
theorem oPartEq (s : List Int) (a b c : Int) : F_slices_partitionEqualOrdered_int s a b c = gPartEq F_cmp_Compare_int s a b c := by
  unfold F_slices_partitionEqualOrdered_int gPartEq eqRound upStep downStep
  simp only [less_eq, ltO_c, Option.bind_some]
  rfl
theorem oPart (s : List Int) (a b c : Int) : F_slices_partitionOrdered_int s a b c = gPart F_cmp_Compare_int s a b c := by
  unfold F_slices_partitionOrdered_int gPart partRound upStep downStep
  simp only [less_eq, ltO_c, Option.bind_some]
  rfl
theorem oB {rec : List Int → (Int × Int × Int × Unit) → Option ((Unit) × List Int)} {rec' : List Int → (Int × Int × Int × (Unit) × Unit) → Option ((Unit) × List Int)} (h : ∀ l a b c, rec l (a, b, c, ()) = rec' l (a, b, c, (), ())) (s : List Int) (a b c : Int) : B_slices_pdqsortOrdered_int rec s a b c = gPB F_cmp_Compare_int rec' s a b c := by
  unfold B_slices_pdqsortOrdered_int gPB pdqStep st1 st2 st3 st4
  simp only [less_eq, ltO_c, Option.bind_some, oIns, oHeap, oBreak, oRev, oPivot, oPartial, oPartEq, oPart, h]
  rfl
theorem oI : ∀ (n : Nat) (l : List Int) (a b c : Int), I_slices_pdqsortOrdered_int n l (a, b, c, ()) = gPI F_cmp_Compare_int n l (a, b, c, (), ())
  | 0, l, a, b, c => rfl
  | n + 1, l, a, b, c => oB (rec := I_slices_pdqsortOrdered_int n) (rec' := gPI F_cmp_Compare_int n) (oI n) l a b c
theorem oPdq (s : List Int) (a b c : Int) : F_slices_pdqsortOrdered_int s a b c = gPdq F_cmp_Compare_int s a b c := oI _ s a b c
theorem kswo_I : Go.Sort.SWO fun a b : Int => decide (cmpI a b < 0) := by
  refine ⟨fun x => ?_, fun x y z h1 h2 => ?_, fun x y z h1 h2 => ?_⟩
  · rw [decide_eq_false_iff_not, cmpI_neg]
    omega
  · rw [decide_eq_true_eq, cmpI_neg] at *
    omega
  · rw [decide_eq_false_iff_not, cmpI_neg] at *
    omega
theorem sort_ord {good : Nat → Bool} (f : Nat) (hf : f < 1024) : SortOrd good f := by
  intro S hS _
  have hl := len_eq (n := S.length) (by omega)
  obtain ⟨T, h1, h2, h3⟩ := gPdq_ok F_cmp_Compare_int_eq kswo_I S (by omega) ((Go.Sort.bitsLen S.length : Nat) : Int)
  refine ⟨T, ?_, h2⟩
  simp only [F_slices_Sort_int_int, hl, Option.bind_some, oPdq, h1]
end Go.Proofs.YtaebanabjdmgfaaGreat

set_option linter.unusedVariables false
set_option linter.unusedSimpArgs false
namespace Go.Proofs.YtaebanabjdmgfaaGreat
open Go.TQ

theorem rVotesP_eq {e : TEnvelope} (h : SmT e.Trust) (b : TBallot) : F_ref24_VotesPrepare e b = some (isValid e && votesP e b) := by
  simp only [F_ref24_VotesPrepare, TTrust.eta, TEnvelope.eta, rValid_eq h, Option.bind_some, F_ref23_Zero_eq, F_ref23_Compatible_eq, F_ref23_Covers_eq]
  cases hv : isValid e with
  | false => simp
  | true =>
    cases hz : zeroB b with
    | true => simp [votesP, hz]
    | false => by_cases k1 : e.Kind = 1 <;> simp [votesP, hz, k1]
theorem rAcceptsP_eq {e : TEnvelope} (h : SmT e.Trust) (b : TBallot) : F_ref24_AcceptsPrepare e b = some (isValid e && acceptsP e b) := by
  simp only [F_ref24_AcceptsPrepare, TTrust.eta, TEnvelope.eta, rValid_eq h, Option.bind_some, F_ref23_Zero_eq, F_ref23_Compatible_eq, F_ref23_Prepares_eq]
  cases hv : isValid e with
  | false => simp
  | true =>
    cases hz : zeroB b with
    | true => simp [acceptsP, hz]
    | false =>
      by_cases k1 : e.Kind = 1
      · simp [acceptsP, hz, k1]
      · by_cases k3 : e.Kind = 3
        · simp [acceptsP, hz, k3]
        · by_cases k2 : e.Kind = 2
          · have hp : zeroB e.Prime = true := by
              unfold isValid validE at hv
              rw [Bool.and_eq_true, if_neg k1, if_pos k2] at hv
              simp only [commOk, Bool.and_eq_true] at hv
              exact hv.2.1.1.2
            simp [acceptsP, hz, k2, preparesB, covers, hp]
          · unfold isValid validE at hv
            rw [if_neg k1, if_neg k2, if_neg k3] at hv
            simp at hv

/-! ### bits -/
theorem bit1 {q j : Nat} (hq : q < 1024) (hj : j < 10) : decide (andI .i64 (shrI .i64 (q : Int) (j : Int)) 1 = 1) = q.testBit j := by
  have := shr_testBit (s := (q : Int)) (x := (j : Int)) (by omega) (by omega) (by omega) (by omega)
  simp only [Int.toNat_natCast] at this
  rw [Bool.eq_iff_iff, decide_eq_true_eq, this]
theorem bit0 {q j : Nat} (hq : q < 1024) (hj : j < 10) : decide (andI .i64 (shrI .i64 (q : Int) (j : Int)) 1 = 0) = !q.testBit j := by
  have hle : q >>> j ≤ q := by rw [Nat.shiftRight_eq_div_pow]; exact Nat.div_le_self _ _
  rw [shrI_nat q j (by omega), show (1 : Int) = ((1 : Nat) : Int) from rfl, andI_nat _ 1 (by omega) (by omega)]
  rw [Nat.testBit, Nat.and_comm]
  rcases Nat.mod_two_eq_zero_or_one (q >>> j) with h | h <;> simp [Nat.one_and_eq_mod_two, h]
theorem whoN_append (p : TEnvelope → Bool) : ∀ a b : List TEnvelope, whoN p (a ++ b) = whoN p a ||| whoN p b
  | [], b => by simp [whoN]
  | e :: a, b => by rw [List.cons_append, whoN, whoN, whoN_append p a b, Nat.or_assoc]

/-! ### the document's newest one -/
theorem foldl_newer_cons (e : TEnvelope) (l : List TEnvelope) : newestE (e :: l) = l.foldl newer e := by
  rw [newestE, List.foldl_cons]
  have : newer e e = e := by unfold newer; rw [if_neg (by omega)]
  rw [this]
/-- the newest so far -/
def nf (b : Bool) (o e : TEnvelope) : TEnvelope := bif b then newer o e else e
theorem newest_snoc (l : List TEnvelope) (e : TEnvelope) : newestE (l ++ [e]) = nf (!l.isEmpty) (newestE l) e := by
  cases l with
  | nil =>
    rw [List.nil_append, foldl_newer_cons]
    rfl
  | cons a l =>
    rw [List.cons_append, foldl_newer_cons, foldl_newer_cons, List.foldl_append]
    rfl
theorem counts44 {x : TSighting} (h : SmT x.Letter.Envelope.Trust) : F_ref44_counts x = some (countsS x) := by
  simp only [F_ref44_counts, TTrust.eta, TEnvelope.eta, rValid_eq h, Option.bind_some, cnd_and]
  unfold countsS
  cases decide (x.Letter.Kind = 2) <;> cases isValid x.Letter.Envelope <;> cases decide (x.From = x.Letter.Envelope.Node) <;> rfl
theorem rNewest_eq {l : List TSighting} (h : SmS l) (node slot : Int) : F_ref44_Newest l node slot = some (newestE (atP l ⟨node, slot⟩), !(atP l ⟨node, slot⟩).isEmpty, ()) := by
  have hlen := h.len
  unfold F_ref44_Newest
  suffices key : ∀ (k i : Nat), i + k = l.length → loopO _ (!(atP (l.take i) ⟨node, slot⟩).isEmpty, (i : Int), newestE (atP (l.take i) ⟨node, slot⟩), ()) = some (newestE (atP l ⟨node, slot⟩), !(atP l ⟨node, slot⟩).isEmpty, ()) from key l.length 0 (by omega)
  intro k
  induction k with
  | zero =>
    intro i hi
    obtain rfl : i = l.length := by omega
    have hd : decide (((l.length : Nat) : Int) < ((l.length : Nat) : Int)) = false := decide_eq_false (Int.lt_irrefl _)
    rw [List.take_length]
    refine loopO_inr ?_
    simp only [hd, cond_false, Option.map_some, TTrust.eta, TEnvelope.eta]
  | succ k ih =>
    intro i hi
    have hlt : i < l.length := by omega
    have hd : decide ((i : Int) < ((l.length : Nat) : Int)) = true := decide_eq_true (by omega)
    have hw : addI .i64 (i : Int) 1 = ((i + 1 : Nat) : Int) := add64 (by omega) (by omega)
    have hx : idx l (i : Int) = some l[i] := by rw [idx_nat]; exact List.getElem?_eq_getElem hlt
    have hc := counts44 (h.sm l[i] (List.getElem_mem hlt))
    have hstep := ih (i + 1) (by omega)
    have hsplit : atP (l.take (i + 1)) ⟨node, slot⟩ = atP (l.take i) ⟨node, slot⟩ ++ (if countsS l[i] && eqp ⟨node, slot⟩ (pl (envS l[i])) then [envS l[i]] else []) := by
      rw [List.take_succ_eq_append_getElem hlt]
      unfold atP cs
      rw [List.filter_append, List.map_append, List.filter_append]
      congr 1
      rw [List.filter_cons, List.filter_nil]
      cases countsS l[i] with
      | false => rfl
      | true =>
        rw [if_pos rfl, List.map_cons, List.map_nil, List.filter_cons, List.filter_nil, Bool.true_and]
    rw [hsplit] at hstep
    refine Eq.trans (loopO_inl ?_) hstep
    have hcomm : decide (l[i].Letter.Envelope.Node = node) = decide (node = l[i].Letter.Envelope.Node) := by rw [decide_eq_decide]; exact eq_comm
    have hcomm2 : decide (l[i].Letter.Envelope.Slot = slot) = decide (slot = l[i].Letter.Envelope.Slot) := by rw [decide_eq_decide]; exact eq_comm
    have he : eqp ⟨node, slot⟩ (pl (envS l[i])) = (decide (node = l[i].Letter.Envelope.Node) && decide (slot = l[i].Letter.Envelope.Slot)) := rfl
    simp only [hd, hx, hw, hc, hcomm, hcomm2, he, cond_true, Option.bind_some, letJ_eq, TTrust.eta, TEnvelope.eta, TNomination.eta, TLetter.eta, TSighting.eta, cnd_and]
    cases hb : (countsS l[i] && decide (node = l[i].Letter.Envelope.Node) && decide (slot = l[i].Letter.Envelope.Slot)) with
    | false =>
      rw [← Bool.and_assoc, hb]
      simp only [cond_false, Option.bind_some, Bool.false_eq_true, if_false, List.append_nil]
    | true =>
      rw [← Bool.and_assoc, hb]
      simp only [cond_true, Option.bind_some, if_true, newest_snoc, nf, newer, Bool.not_not]
      cases hem : (atP (l.take i) ⟨node, slot⟩).isEmpty with
      | true =>
        simp only [cond_true, Option.bind_some, Bool.not_true, cond_false, envS]
        simp
      | false =>
        simp only [cond_false, Option.bind_some, Bool.not_false, cond_true, envS]
        by_cases hs : (newestE (atP (l.take i) ⟨node, slot⟩)).Seq < l[i].Letter.Envelope.Seq
        · simp [hs]
        · have hne : atP (l.take i) ⟨node, slot⟩ ≠ [] := fun h0 => by rw [h0] at hem; cases hem
          simp [hs, hne]

/-! ### the law -/
theorem bits_check {c : TConfig} (hc : SmC c) {n v m : Nat} (hn : n < 1024) (hv : v < 1024) (hm : m < 10) : F_ref09_Greatest c (orI .i64 (n : Int) (v : Int)) = some ((gq c.Members (v ||| n) : Nat) : Int) ∧ decide (andI .i64 (shrI .i64 ((gq c.Members (v ||| n) : Nat) : Int) (m : Int)) 1 = 0) = !goodN c.Members m v n ∧ decide (andI .i64 (shrI .i64 ((gq c.Members (v ||| n) : Nat) : Int) (m : Int)) 1 = 1) = goodN c.Members m v n := by
  have h1 := or_lt1024 hv hn
  have h2 := (gq_is hc h1).lt
  refine ⟨?_, bit0 h2 hm, bit1 h2 hm⟩
  rw [orI_nat n v (by omega) (by omega), Nat.or_comm]
  exact rGreatest_eq hc h1
theorem needs (l : List Int) : F_law44_MonitorNeeds l = some true := by
  refine Yd.eq_true ?_
  unfold F_law44_MonitorNeeds
  refine (New_ok l).bind fun r1 a1 => ?_
  refine (sightings_ok a1).bind fun p2 ⟨b1, b2, b3⟩ => ?_
  obtain ⟨L, s2⟩ := p2
  have hlen : L.length ≤ 8 := b3
  have hL : SmS L := b2
  refine (N_pos b1 (by omega) (by omega)).bind fun p3 ⟨c1, c2, c3⟩ => ?_
  obtain ⟨m, hm⟩ : ∃ m : Nat, p3.1 = m := ⟨p3.1.toNat, by omega⟩
  rw [hm]
  have hm10 : m < 10 := by omega
  refine (Stuck_ok (slot := 1) hL hm10 (fun u f _ hf _ => ⟨sort_all f hf, sort_ord f hf⟩)).bind fun r4 ⟨d1, d2⟩ => ?_
  rw [rNewest_eq hL, Option.bind_some]
  cases hst : isStuck L m 1 with
  | false =>
    rw [hst] at d1
    simp only [d1, Bool.not_false, cond_true, sane44]
    exact Yd.some rfl
  | true =>
    have hR := d2 hst
    rw [hst] at d1
    have hem : (atP L ⟨(m : Int), 1⟩).isEmpty = false := by
      cases h : (atP L ⟨(m : Int), 1⟩).isEmpty with
      | false => rfl
      | true =>
        rw [isStuck, h] at hst
        simp at hst
    have hne : atP L ⟨(m : Int), 1⟩ ≠ [] := fun h0 => by rw [h0] at hem; cases hem
    have htop : newestE (atP L ⟨(m : Int), 1⟩) = top L m 1 := rfl
    have hin := atP_mem (newest_mem hne)
    rw [htop] at hin
    have hsm := cs_sm hL (top L m 1) hin.1
    simp only [d1, Bool.not_true, cond_false, hem, Bool.not_false, Option.bind_some, htop, hR.nd, hR.sl, hR.value, decide_true]
    suffices key : ∀ (k i : Nat), i + k = 10 → Yd (loopO _ (((sup (latN L 1 i) (top L m 1).Ballot : Nat) : Int), (i : Int), latN L 1 i, ())) (· = true) from key 10 0 (by omega)
    intro k
    induction k with
    | succ k ih =>
      intro i hi
      have hd : decide ((i : Int) < 10) = true := decide_eq_true (by omega)
      have hw : addI .i64 (i : Int) 1 = ((i + 1 : Nat) : Int) := add64 (by omega) (by omega)
      have hll := latN_len L 1 i
      have hin10 : InNodes (latN L 1 i) := by
        have := rights_in (latN L 1 i)
        rwa [latN_rights] at this
      have hsup : sup (latN L 1 i) (top L m 1).Ballot < 1024 := whoN_lt hin10
      have hstep := ih (i + 1) (by omega)
      cases hei : (atP L ⟨(i : Int), 1⟩).isEmpty with
      | true =>
        have e1 : latN L 1 (i + 1) = latN L 1 i := by rw [latN, hei]; simp
        rw [e1] at hstep
        refine Yd.next ?_ hstep
        simp only [hd, hw, rNewest_eq hL, hei, cond_true, Option.bind_some, Bool.not_true, cond_false, letJ_eq]
      | false =>
        have e1 : latN L 1 (i + 1) = latN L 1 i ++ [newestE (atP L ⟨(i : Int), 1⟩)] := by rw [latN, hei]; simp
        have hnei : atP L ⟨(i : Int), 1⟩ ≠ [] := fun h0 => by rw [h0] at hei; cases hei
        have hmi := atP_mem (newest_mem hnei)
        have hnode : (newestE (atP L ⟨(i : Int), 1⟩)).Node = (i : Int) := hmi.2.1
        have hvi := cs_valid (l := L) _ hmi.1
        have hsi := cs_sm hL _ hmi.1
        have e2 : sup (latN L 1 i ++ [newestE (atP L ⟨(i : Int), 1⟩)]) (top L m 1).Ballot = sup (latN L 1 i) (top L m 1).Ballot ||| (if (votesP (newestE (atP L ⟨(i : Int), 1⟩)) (top L m 1).Ballot || acceptsP (newestE (atP L ⟨(i : Int), 1⟩)) (top L m 1).Ballot) = true then 2 ^ i else 0) := by
          unfold sup
          rw [whoN_append, whoN, whoN, hnode, Int.toNat_natCast, Nat.or_zero]
        rw [e1, e2] at hstep
        refine Yd.next ?_ hstep
        have hv := rVotesP_eq hsi (top L m 1).Ballot
        have ha := rAcceptsP_eq hsi (top L m 1).Ballot
        rw [hvi, Bool.true_and] at hv ha
        have hcv : convI .u64 (i : Int) = (i : Int) := convI_u64 (by omega)
        simp only [hd, hw, rNewest_eq hL, hei, cond_true, Option.bind_some, Bool.not_false, letJ_eq, TTrust.eta, TEnvelope.eta, hv, ha, hcv]
        rw [lenOk_small (by simp; omega), cond_true, orI_bit hsup (by omega) (by omega), Int.toNat_natCast, if_neg (by omega : ¬ (i : Int) < 0)]
        cases votesP (newestE (atP L ⟨(i : Int), 1⟩)) (top L m 1).Ballot <;> cases acceptsP (newestE (atP L ⟨(i : Int), 1⟩)) (top L m 1).Ballot <;> simp
    | zero =>
      intro i hi
      obtain rfl : i = 10 := by omega
      have hd : decide (((10 : Nat) : Int) < 10) = false := by decide
      have hsl := latN_sm hL 1 (n := 10) (by omega)
      have hin10 : InNodes (latN L 1 10) := by
        have := rights_in (latN L 1 10)
        rwa [latN_rights] at this
      have hvt : vts L m 1 < 1024 := whoN_lt hin10
      have hc : SmC ⟨vw L m 1⟩ := viewN_sm (node := m) hsm hsl
      have hvw : F_ref25_View (m : Int) (top L m 1).Trust (latN L 1 10) = some ⟨vw L m 1⟩ := rView_eq hm10 hsl
      have hsup : ((sup (latN L 1 10) (top L m 1).Ballot : Nat) : Int) = ((vts L m 1 : Nat) : Int) := rfl
      have hcm : convI .u64 (m : Int) = (m : Int) := convI_u64 (by omega)
      obtain ⟨f, hf, hfv, hneeds⟩ := hR.needs
      have hnl := hR.few
      rw [hsup]
      refine Yd.loop ?_
      simp only [hd, cond_false, TTrust.eta, hvw, Option.bind_some]
      refine Yd.inr ?_
      refine Yd.of_eq (x := true) ?_ rfl
      refine all_loopS r4.1.Needs.length (fun i => (i, ())) (fun i hi => ?_) ?_
      · have hd : decide ((i : Int) < ((r4.1.Needs.length : Nat) : Int)) = true := decide_eq_true (by omega)
        have hw : addI .i64 (i : Int) 1 = ((i + 1 : Nat) : Int) := add64 (by omega) (by omega)
        obtain ⟨n, hn, hsub, hgood, hleast⟩ := hneeds _ (List.getElem_mem hi)
        have hx : idx r4.1.Needs (i : Int) = some (n : Int) := by rw [idx_nat, List.getElem?_eq_getElem hi, hn]
        have hn1 : n < 1024 := by have := sbN_le hsub; omega
        have hdis : andI .i64 (n : Int) ((vts L m 1 : Nat) : Int) = 0 := by
          rw [andI_nat n _ (by omega) (by omega)]
          have : n &&& vts L m 1 = 0 := nat_ext fun k => by
            rw [Nat.testBit_and, Nat.zero_testBit]
            cases hk : n.testBit k with
            | false => rfl
            | true => rw [hfv k (hsub k hk)]; rfl
          rw [this]
          rfl
        obtain ⟨g1, g2, g3⟩ := bits_check hc hn1 hvt hm10
        rw [hgood] at g2
        simp only [hd, hx, hw, hdis, cond_true, cond_false, Option.bind_some, decide_true, Bool.not_true, g1, hcm, if_neg (by omega : ¬ (m : Int) < 0), g2]
        refine all_loopS 10 (fun j => (j, ())) (fun j hj => ?_) ?_
        · have hd2 : decide ((j : Int) < 10) = true := decide_eq_true (by omega)
          have hw2 : addI .i64 (j : Int) 1 = ((j + 1 : Nat) : Int) := add64 (by omega) (by omega)
          have hcj : convI .u64 (j : Int) = (j : Int) := convI_u64 (by omega)
          simp only [hd2, hw2, hcj, cond_true, if_neg (by omega : ¬ (j : Int) < 0), bit1 hn1 hj]
          cases hb : n.testBit j with
          | false => simp only [cond_false, Option.bind_some]
          | true =>
            obtain ⟨k1, k2, k3⟩ := bits_check hc (n := n - 2 ^ j) (Nat.lt_of_le_of_lt (Nat.sub_le _ _) hn1) hvt hm10
            rw [hleast j hb] at k3
            simp only [cond_true, andNot_bit hn1 hb, k1, Option.bind_some, k3, cond_false]
        · have hd2 : decide (((10 : Nat) : Int) < 10) = false := by decide
          simp only [hd2, cond_false, Option.map_some]
      · have hd : decide (((r4.1.Needs.length : Nat) : Int) < ((r4.1.Needs.length : Nat) : Int)) = false := decide_eq_false (Int.lt_irrefl _)
        simp only [hd, cond_false, sane44, Option.bind_some]
end Go.Proofs.YtaebanabjdmgfaaGreat
