/-
  Plain Lean: what the turned functions compute. Conditions: none beyond those that each theorem names.
-/
import Derived.Test.YtncjalhhkmojlaaGreatCommitRangesPlainA
set_option linter.unusedVariables false
namespace Go.Proofs.YtncjalhhkmojlaaGreat
open Go.TQ
open Go.Sort (swp bitsLen breakPatterns Hint pdq PermIn SortedIn Below choosePivot reverseRange partialInsertionSort partition partitionEqual insertionSort heapSort)

section
variable {α : Type} [Inhabited α]
/-- a call that gives a sorted permutation -/
def Sorts (lt : α → α → Bool) (a b : Nat) (d : Array α) (r : Option (Unit × List α)) : Prop := ∃ d' : Array α, r = some ((), d'.toList) ∧ PermIn a b d d' ∧ SortedIn lt a b d'
theorem Sorts.trans {lt : α → α → Bool} {a b : Nat} {d d1 : Array α} {r : Option (Unit × List α)} (h : PermIn a b d d1) (hs : Sorts lt a b d1 r) : Sorts lt a b d r := by
  obtain ⟨d', e, p, s⟩ := hs
  exact ⟨d', e, Go.Sort.permIn_trans _ _ _ a b h p, s⟩
end
/-- how a loop goes on behind one round -/
noncomputable def contO {σ ρ : Type} (step : σ → Option (σ ⊕ ρ)) : Option (σ ⊕ ρ) → Option ρ
  | none => none
  | some (.inl s) => loopO step s
  | some (.inr r) => some r
theorem loopO_cont {σ ρ : Type} (step : σ → Option (σ ⊕ ρ)) (s : σ) : loopO step s = contO step (step s) := by
  cases h : step s with
  | none => rw [loopO_none h, contO]
  | some y => cases y with
    | inl s' => rw [loopO_inl h, contO]
    | inr r => rw [loopO_inr h, contO]

section
variable {α : Type} [Inhabited α] {cmp : α → α → Option Int} {c : α → α → Int} (hc : ∀ x y, cmp x y = some (c x y))
variable {rec : List α → (Int × Int × Int × (Unit) × Unit) → Option ((Unit) × List α)}
 include hc
theorem st4_ok (ho : Go.Sort.SWO fun x y => decide (c x y < 0)) {k : Nat}
    (hrec : ∀ (d : Array α) (a b : Nat) (lim : Int), b - a < k → a ≤ b → b ≤ d.size → d.size < 1000000000 → Below (fun x y => decide (c x y < 0)) a b d → Sorts (fun x y => decide (c x y < 0)) a b d (rec d.toList ((a : Int), (b : Int), lim, (), ())))
    {a b pv : Nat} {d : Array α} (hk : b - a ≤ k) (hp1 : a ≤ pv) (hp2 : pv < b) (hb : b ≤ d.size) (hd : d.size < 1000000000) (hB : Below (fun x y => decide (c x y < 0)) a b d)
    (ih : ∀ (a' b' : Nat) (lim : Int) (wb wp : Bool) (d' : Array α), b' - a' < b - a → a' ≤ b' → b' ≤ d'.size → d'.size < 1000000000 → Below (fun x y => decide (c x y < 0)) a' b' d' → Sorts (fun x y => decide (c x y < 0)) a' b' d' (loopO (pdqStep cmp rec) ((a' : Int), (b' : Int), lim, wb, wp, d'.toList, ())))
    (lim : Int) (wb wp : Bool) :
    Sorts (fun x y => decide (c x y < 0)) a b d (contO (pdqStep cmp rec) (st4 cmp rec (a : Int) (b : Int) lim wb wp d.toList (pv : Int) (decide (a > 0) && !decide (c d[a - 1]! d[pv]! < 0)))) := by
  cases hw : (decide (a > 0) && !decide (c d[a - 1]! d[pv]! < 0)) with
  | true =>
    simp only [Bool.and_eq_true, decide_eq_true_eq, Bool.not_eq_true'] at hw
    obtain ⟨g1, g2, hs4, hB4, hfin⟩ := Go.Sort.round_eq ho (Go.Sort.partitionEqual_holds _) hw.1 hp1 hp2 hb hB hw.2 (d4 := (partitionEqual (fun x y => decide (c x y < 0)) d a b pv).2) (mid := (partitionEqual (fun x y => decide (c x y < 0)) d a b pv).1) rfl
    have e := gPartEq_eq hc (a := a) (b := b) (pivot := pv) (d := d) (by omega) (by omega) hb hd
    generalize partitionEqual (fun x y => decide (c x y < 0)) d a b pv = m at *
    simp only [st4, cond_true, e, Option.bind_some, contO]
    obtain ⟨d', e', r1, r2⟩ := ih m.1 b lim wb wp m.2 (by omega) g2 (by omega) (by omega) hB4
    exact ⟨d', e', hfin _ r1 r2⟩
  | false =>
    obtain ⟨g1, g2, hs4, hBa, hBr, hleft, hright⟩ := Go.Sort.round_part ho (Go.Sort.partition_holds _) hp1 hp2 hb hB (d4 := (partition (fun x y => decide (c x y < 0)) d a b pv).2.2) (mid := (partition (fun x y => decide (c x y < 0)) d a b pv).1) (ap := (partition (fun x y => decide (c x y < 0)) d a b pv).2.1) rfl
    have e := gPart_eq hc (a := a) (b := b) (pivot := pv) (d := d) (by omega) (by omega) hb hd
    generalize partition (fun x y => decide (c x y < 0)) d a b pv = m at *
    have e1 : subI .i64 (m.1 : Int) (a : Int) = ((m.1 - a : Nat) : Int) := subN (by omega) (by omega)
    have e2 : subI .i64 (b : Int) (m.1 : Int) = ((b - m.1 : Nat) : Int) := subN (by omega) (by omega)
    have e3 : addI .i64 (m.1 : Int) 1 = ((m.1 + 1 : Nat) : Int) := add1 (by omega)
    simp only [st4, cond_false, e, Option.bind_some, e1, e2, e3]
    cases hw2 : decide (((m.1 - a : Nat) : Int) < ((b - m.1 : Nat) : Int)) with
    | true =>
      obtain ⟨L, eL, l1, l2⟩ := hrec m.2.2 a m.1 lim (by omega) g1 (by omega) (by omega) hBa
      have hLs := l1.1
      obtain ⟨hBL, hfin⟩ := hleft _ l1 l2
      simp only [cond_true, eL, Option.bind_some, contO]
      obtain ⟨d', e', r1, r2⟩ := ih (m.1 + 1) b lim _ _ L (by omega) (by omega) (by omega) (by omega) hBL
      exact ⟨d', e', hfin _ r1 r2⟩
    | false =>
      obtain ⟨L, eL, l1, l2⟩ := hrec m.2.2 (m.1 + 1) b lim (by omega) (by omega) (by omega) (by omega) hBr
      have hLs := l1.1
      obtain ⟨hBL, hfin⟩ := hright _ l1 l2
      simp only [cond_false, eL, Option.bind_some, contO]
      obtain ⟨d', e', r1, r2⟩ := ih a m.1 lim _ _ L (by omega) g1 (by omega) (by omega) hBL
      exact ⟨d', e', hfin _ r1 r2⟩
theorem st1_ok (ho : Go.Sort.SWO fun x y => decide (c x y < 0)) {k : Nat}
    (hrec : ∀ (d : Array α) (a b : Nat) (lim : Int), b - a < k → a ≤ b → b ≤ d.size → d.size < 1000000000 → Below (fun x y => decide (c x y < 0)) a b d → Sorts (fun x y => decide (c x y < 0)) a b d (rec d.toList ((a : Int), (b : Int), lim, (), ())))
    {a b : Nat} {d : Array α} (h12 : 12 < b - a) (hk : b - a ≤ k) (hb : b ≤ d.size) (hd : d.size < 1000000000) (hB : Below (fun x y => decide (c x y < 0)) a b d)
    (ih : ∀ (a' b' : Nat) (lim : Int) (wb wp : Bool) (d' : Array α), b' - a' < b - a → a' ≤ b' → b' ≤ d'.size → d'.size < 1000000000 → Below (fun x y => decide (c x y < 0)) a' b' d' → Sorts (fun x y => decide (c x y < 0)) a' b' d' (loopO (pdqStep cmp rec) ((a' : Int), (b' : Int), lim, wb, wp, d'.toList, ())))
    (lim : Int) (wb wp : Bool) :
    Sorts (fun x y => decide (c x y < 0)) a b d (contO (pdqStep cmp rec) (st1 cmp rec (a : Int) (b : Int) wb wp lim d.toList)) := by
  rw [st1_eq hc h12 hb hd]
  obtain ⟨p1, p2⟩ := Go.Sort.choosePivot_holds (fun x y => decide (c x y < 0)) d a b (by omega)
  generalize choosePivot (fun x y => decide (c x y < 0)) d a b = r at *
  have P2 : PermIn a b d (if r.2 = .decreasing then reverseRange d a b else d) := by
    split
    · exact Go.Sort.reverseRange_holds d a b (by omega) hb
    · exact Go.Sort.permIn_refl d a b
  have Q : a ≤ (if r.2 = .decreasing then (b - 1) - (r.1 - a) else r.1) ∧ (if r.2 = .decreasing then (b - 1) - (r.1 - a) else r.1) < b := by split <;> omega
  refine Sorts.trans P2 ?_
  have B2 := hB.perm hb P2
  have hs2 := P2.1
  generalize (if r.2 = .decreasing then reverseRange d a b else d) = d2 at *
  generalize (if r.2 = .decreasing then (b - 1) - (r.1 - a) else r.1) = pv at *
  generalize (if r.2 = .decreasing then Hint.increasing else r.2) = hint at *
  have hb2 : b ≤ d2.size := by omega
  rw [st2_eq hc (by omega) hb2 (by omega)]
  have P3 : PermIn a b d2 (if (wb && wp && decide (hint = Hint.increasing)) = true then partialInsertionSort (fun x y => decide (c x y < 0)) d2 a b else (d2, false)).1 ∧ ((if (wb && wp && decide (hint = Hint.increasing)) = true then partialInsertionSort (fun x y => decide (c x y < 0)) d2 a b else (d2, false)).2 = true → SortedIn (fun x y => decide (c x y < 0)) a b (if (wb && wp && decide (hint = Hint.increasing)) = true then partialInsertionSort (fun x y => decide (c x y < 0)) d2 a b else (d2, false)).1) := by
    split
    · exact Go.Sort.partialInsertionSort_holds ho d2 a b (by omega) hb2 B2
    · exact ⟨Go.Sort.permIn_refl d2 a b, fun h => by cases h⟩
  generalize (if (wb && wp && decide (hint = Hint.increasing)) = true then partialInsertionSort (fun x y => decide (c x y < 0)) d2 a b else (d2, false)) = p at *
  obtain ⟨P3, S3⟩ := P3
  have hs3 := P3.1
  have B3 := B2.perm hb2 P3
  cases hp : p.2 with
  | true =>
    rw [cond_true, contO]
    exact ⟨p.1, rfl, P3, S3 hp⟩
  | false =>
    rw [cond_false, st3_eq hc (by omega) (by omega) (by omega)]
    exact Sorts.trans P3 (st4_ok hc ho hrec hk Q.1 Q.2 (by omega) (by omega) B3 ih lim wb wp)
theorem round_ok (ho : Go.Sort.SWO fun x y => decide (c x y < 0)) {k : Nat}
    (hrec : ∀ (d : Array α) (a b : Nat) (lim : Int), b - a < k → a ≤ b → b ≤ d.size → d.size < 1000000000 → Below (fun x y => decide (c x y < 0)) a b d → Sorts (fun x y => decide (c x y < 0)) a b d (rec d.toList ((a : Int), (b : Int), lim, (), ()))) (n : Nat) :
    ∀ (a b : Nat) (lim : Int) (wb wp : Bool) (d : Array α), b - a = n → b - a ≤ k → a ≤ b → b ≤ d.size → d.size < 1000000000 → Below (fun x y => decide (c x y < 0)) a b d → Sorts (fun x y => decide (c x y < 0)) a b d (loopO (pdqStep cmp rec) ((a : Int), (b : Int), lim, wb, wp, d.toList, ())) := by
  induction n using Nat.strongRecOn with
  | ind n ih =>
  intro a b lim wb wp d hn hk hab hb hd hB
  have e1 : subI .i64 (b : Int) (a : Int) = ((b - a : Nat) : Int) := subN hab (by omega)
  have ih' : ∀ (a' b' : Nat) (lim : Int) (wb wp : Bool) (d' : Array α), b' - a' < b - a → a' ≤ b' → b' ≤ d'.size → d'.size < 1000000000 → Below (fun x y => decide (c x y < 0)) a' b' d' → Sorts (fun x y => decide (c x y < 0)) a' b' d' (loopO (pdqStep cmp rec) ((a' : Int), (b' : Int), lim, wb, wp, d'.toList, ())) :=
    fun a' b' lim wb wp d' h1 h2 h3 h4 h5 => ih (b' - a') (by omega) a' b' lim wb wp d' rfl (by omega) h2 h3 h4 h5
  rw [loopO_cont]
  by_cases h12 : b - a ≤ 12
  · have c1 : decide (((b - a : Nat) : Int) ≤ 12) = true := decide_eq_true (by omega)
    simp only [pdqStep, e1, c1, cond_true, gInsert_eq hc (show a ≤ d.size by omega) hb hd, Option.bind_some, Option.map_some, contO]
    exact ⟨_, rfl, Go.Sort.insertionSort_holds ho d a b hab hb⟩
  · have c1 : decide (((b - a : Nat) : Int) ≤ 12) = false := decide_eq_false (by omega)
    cases hl : decide (lim = 0) with
    | true =>
      simp only [pdqStep, e1, c1, hl, cond_true, cond_false, gHeap_eq hc (show a < b by omega) hb hd, Option.bind_some, Option.map_some, contO]
      exact ⟨_, rfl, Go.Sort.heapSort_holds ho d a b hab hb⟩
    | false =>
      cases wb with
      | true =>
        simp only [pdqStep, e1, c1, hl, cond_false, Bool.not_true]
        exact st1_ok hc ho hrec (by omega) hk hb hd hB ih' _ _ _
      | false =>
        have P1 := Go.Sort.breakPatterns_holds d a b hab hb
        have hs1 := P1.1
        simp only [pdqStep, e1, c1, hl, cond_false, cond_true, Bool.not_false, gBreak_eq (show 12 < b - a by omega) hb hd, Option.bind_some]
        exact Sorts.trans P1 (st1_ok hc ho hrec (by omega) hk (by omega) (by omega) (hB.perm hb P1) ih' _ _ _)
theorem gPI_ok (ho : Go.Sort.SWO fun x y => decide (c x y < 0)) : ∀ (F : Nat) (d : Array α) (a b : Nat) (lim : Int), b - a < F → a ≤ b → b ≤ d.size → d.size < 1000000000 → Below (fun x y => decide (c x y < 0)) a b d → Sorts (fun x y => decide (c x y < 0)) a b d (gPI cmp F d.toList ((a : Int), (b : Int), lim, (), ()))
  | 0, d, a, b, lim, h, _, _, _, _ => absurd h (Nat.not_lt_zero _)
  | F + 1, d, a, b, lim, h, hab, hb, hd, hB => by
    show Sorts _ a b d (loopO (pdqStep cmp (gPI cmp F)) ((a : Int), (b : Int), lim, true, true, d.toList, ()))
    exact round_ok hc ho (gPI_ok ho F) (b - a) a b lim true true d rfl (by omega) hab hb hd hB
/-- the whole, on a list -/
theorem gPdq_ok (ho : Go.Sort.SWO fun x y => decide (c x y < 0)) (s : List α) (hs : s.length < 1000000000) (lim : Int) :
    ∃ s', gPdq cmp s 0 (s.length : Int) lim = some ((), s') ∧ s'.Perm s ∧ s'.Pairwise fun x y => ¬ c y x < 0 := by
  obtain ⟨d', e, p, q⟩ := gPI_ok hc ho (s.length + 1) s.toArray 0 s.length lim (by omega) (by omega) (by simp) (by simpa using hs) (Or.inl rfl)
  refine ⟨d'.toList, ?_, ?_, ?_⟩
  · exact e
  · have h3 := p.2.2
    have hsz := p.1
    simp only [List.size_toArray] at hsz
    have x1 : d'.extract 0 s.length = d' := by rw [← hsz]; exact Array.extract_size
    have x2 : s.toArray.extract 0 s.length = s.toArray := by
      rw [show s.length = s.toArray.size by simp]; exact Array.extract_size
    rw [x1, x2] at h3
    exact h3
  · have hsz := p.1
    simp only [List.size_toArray] at hsz
    rw [List.pairwise_iff_getElem]
    intro i j hi hj hij
    have h3 := q i j (Nat.zero_le _) hij (by simpa [← hsz] using hj)
    have hi' : i < d'.size := by simpa using hi
    have hj' : j < d'.size := by simpa using hj
    rw [getElem!_pos d' i hi', getElem!_pos d' j hj'] at h3
    simpa using of_decide_eq_false h3
end
end Go.Proofs.YtncjalhhkmojlaaGreat

set_option linter.unusedVariables false
namespace Go.Proofs.YtncjalhhkmojlaaGreat
open Go.TQ

section
variable {α : Type}
/-- a strict total order -/
structure STO (lt : α → α → Bool) : Prop where
  irrefl : ∀ x, lt x x = false
  trans : ∀ x y z, lt x y = true → lt y z = true → lt x z = true
  total : ∀ x y, lt x y = false → lt y x = false → x = y
variable {lt : α → α → Bool}
theorem STO.asymm (h : STO lt) {x y : α} (hxy : lt x y = true) : lt y x = false := by
  cases hc : lt y x with
  | false => rfl
  | true => have := h.trans x y x hxy hc; rw [h.irrefl] at this; cases this
theorem STO.ntrans (h : STO lt) {x y z : α} (h1 : lt x y = false) (h2 : lt y z = false) : lt x z = false := by
  cases hc : lt x z with
  | false => rfl
  | true =>
    cases hyx : lt y x with
    | false => rw [h.total x y h1 hyx, h2] at hc; cases hc
    | true => have := h.trans y x z hyx hc; rw [h2] at this; cases this
theorem STO.kit (h : STO lt) : Go.Sort.SWO lt := ⟨h.irrefl, h.trans, fun _ _ _ => h.ntrans⟩
theorem STO.own (h : STO lt) : SWO lt := ⟨fun _ _ => h.asymm, fun _ _ _ h1 h2 => h.ntrans h2 h1⟩
/-- sorting, then each once -/
theorem STO.sorts [Inhabited α] [DecidableEq α] (h : STO lt) {cmp : α → α → Option Int} {c : α → α → Int} (hc : ∀ x y, cmp x y = some (c x y)) (hlt : ∀ x y, decide (c x y < 0) = lt x y) (s : List α) (hs : s.length < 1000000000) (lim : Int) :
    ∃ t, gPdq cmp s 0 (s.length : Int) lim = some ((), t) ∧ t.length = s.length ∧ (dd t).Pairwise (fun x y => lt x y = true) ∧ ∀ x, x ∈ dd t ↔ x ∈ s := by
  have he : (fun x y => decide (c x y < 0)) = lt := funext fun x => funext fun y => hlt x y
  obtain ⟨t, h1, h2, h3⟩ := gPdq_ok hc (by rw [he]; exact h.kit) s hs lim
  refine ⟨t, h1, h2.length_eq, dd_sorted h.own h.total (h3.imp fun {a b} hab => ?_), fun x => by rw [mem_dd]; exact h2.mem_iff⟩
  rw [← hlt]
  exact decide_eq_false hab
end

/-! ### values and ballots -/
theorem sto_int : STO fun a b : Int => decide (a < b) :=
  ⟨fun x => decide_eq_false (Int.lt_irrefl x), fun x y z h1 h2 => by simp only [decide_eq_true_eq] at *; omega, fun x y h1 h2 => by simp only [decide_eq_false_iff_not] at *; omega⟩
theorem bl_trans : ∀ {x y z : List UInt8}, Op.bytesLess x y = true → Op.bytesLess y z = true → Op.bytesLess x z = true
  | [], [], _, h, _ => by simp [Op.bytesLess] at h
  | _ :: _, [], _, h, _ => by simp [Op.bytesLess] at h
  | [], _ :: _, [], _, h => by simp [Op.bytesLess] at h
  | [], _ :: _, _ :: _, _, _ => rfl
  | _ :: _, _ :: _, [], _, h => by simp [Op.bytesLess] at h
  | a :: x, b :: y, c :: z, h, h' => by
    simp only [Op.bytesLess, Bool.or_eq_true, decide_eq_true_eq, Bool.and_eq_true, beq_iff_eq] at h h' ⊢
    rcases h with h | ⟨rfl, h⟩
    · rcases h' with h' | ⟨rfl, h'⟩
      · exact .inl (UInt8.lt_trans h h')
      · exact .inl h
    · rcases h' with h' | ⟨rfl, h'⟩
      · exact .inl h'
      · exact .inr ⟨rfl, bl_trans h h'⟩
theorem sless_trans {a b c : ByteArray} (h : sless a b = true) (h' : sless b c = true) : sless a c = true := bl_trans h h'
theorem sless_total {a b : ByteArray} (h : a ≠ b) : sless a b = true ∨ sless b a = true :=
  bl_total fun e => h (by
    rw [Lib.toList_data, Lib.toList_data] at e
    cases a; cases b
    rename_i x y
    cases x; cases y
    simp_all)
theorem sto_V : STO lessV := by
  refine ⟨fun x => by rw [lessV, if_pos rfl, sless_irrefl], fun x y z h1 h2 => ?_, fun x y h1 h2 => ?_⟩
  · unfold lessV at *
    by_cases e1 : x.size = y.size
    · rw [if_pos e1] at h1
      by_cases e2 : y.size = z.size
      · rw [if_pos e2] at h2
        rw [if_pos (e1.trans e2)]
        exact sless_trans h1 h2
      · rw [if_neg e2] at h2
        rw [if_neg (by omega), e1]
        exact h2
    · rw [if_neg e1, decide_eq_true_eq] at h1
      by_cases e2 : y.size = z.size
      · rw [if_neg (by omega), ← e2]
        exact decide_eq_true h1
      · rw [if_neg e2, decide_eq_true_eq] at h2
        rw [if_neg (by omega)]
        exact decide_eq_true (by omega)
  · unfold lessV at *
    by_cases e1 : x.size = y.size
    · rw [if_pos e1] at h1
      rw [if_pos e1.symm] at h2
      refine Classical.byContradiction fun hne => ?_
      rcases sless_total hne with h | h
      · rw [h] at h1; cases h1
      · rw [h] at h2; cases h2
    · rw [if_neg e1, decide_eq_false_iff_not] at h1
      rw [if_neg (fun e => e1 e.symm), decide_eq_false_iff_not] at h2
      omega
end Go.Proofs.YtncjalhhkmojlaaGreat

set_option linter.unusedVariables false
namespace Go.Proofs.YtncjalhhkmojlaaGreat
open Go.TQ

/-! ### slices.DeleteFunc -/
section
variable {α : Type}
variable {p : α → Option Bool} {q : α → Bool} (hp : ∀ x, p x = some (q x)) {z : α}
 include hp
end

/-! ### collecting -/
theorem collect_ok {α β ρ : Type} (l : List α) (hl : l.length ≤ 1000000) (f : α → List β) (hf : ∀ x ∈ l, (f x).length ≤ 3) {step : Int × List β × Unit → Option ((Int × List β × Unit) ⊕ ρ)} {fin : List β → Option ρ}
    (h1 : ∀ (i : Nat) (x : α) (acc : List β), x ∈ l → decide ((i : Int) < ((l.length : Nat) : Int)) = true → idx l (i : Int) = some x → addI .i64 (i : Int) 1 = ((i + 1 : Nat) : Int) → (∀ bytes n : Nat, bytes ≤ 40 → n ≤ 3 → acc.length ≤ 3000000 → lenOk bytes (acc.length + n) = true) → acc.length ≤ 3000000 → step ((i : Int), acc, ()) = some (.inl (((i + 1 : Nat) : Int), acc ++ f x, ())))
    (h2 : ∀ acc, decide (((l.length : Nat) : Int) < ((l.length : Nat) : Int)) = false → step (((l.length : Nat) : Int), acc, ()) = Option.map Sum.inr (fin acc)) : loopO step ((0 : Int), ([] : List β), ()) = fin (l.flatMap f) := by
  suffices key : ∀ (k i : Nat) (acc : List β), i + k = l.length → acc = (l.take i).flatMap f → acc.length ≤ 3 * i → loopO step ((i : Int), acc, ()) = fin (l.flatMap f) from key l.length 0 [] (by omega) (by simp) (by simp)
  intro k
  induction k with
  | zero =>
    intro i acc hi ha hal
    obtain rfl : i = l.length := by omega
    rw [List.take_length] at ha
    rw [loopO_eq, h2 acc (decide_eq_false (Int.lt_irrefl _)), ha]
    cases fin (l.flatMap f) <;> rfl
  | succ k ih =>
    intro i acc hi ha hal
    have hlt : i < l.length := by omega
    have hx : l[i]? = some l[i] := List.getElem?_eq_getElem hlt
    have := hf _ (List.getElem_mem hlt)
    refine (loopO_inl (h1 i l[i] acc (List.getElem_mem hlt) (decide_eq_true (by omega)) (by rw [idx_nat]; exact hx) (add64 (by omega) (by omega)) (fun bytes n hb hn ha => ?_) (by omega))).trans (ih (i + 1) _ (by omega) ?_ (by rw [List.length_append]; omega))
    · simp only [lenOk, Bool.and_eq_true, decide_eq_true_eq]
      exact ⟨Nat.le_trans (Nat.mul_le_mul (show acc.length + n ≤ 3000003 by omega) hb) (show 3000003 * 40 ≤ 140737488355328 by decide), Nat.le_trans (show acc.length + n ≤ 3000003 by omega) (by simp [maxLen])⟩
    · rw [List.take_succ_eq_append_getElem hlt, List.flatMap_append, ha]
      simp
/-! ### sorting, each once -/
instance : Inhabited TBallot := ⟨⟨0, ByteArray.mk #[]⟩⟩
instance : DecidableEq TBallot := fun a b => decidable_of_iff (a.Counter = b.Counter ∧ a.Value = b.Value) (by cases a; cases b; simp)
theorem uniqueV (s : List ByteArray) (hs : s.length < 1000000000) : ∃ b, F_envelopes_unique_string_c89 s = some b ∧ b.Pairwise (fun x y => lessV x y = true) ∧ b.length ≤ s.length ∧ ∀ x, x ∈ b ↔ x ∈ s := by
  obtain ⟨t, h1, h2, h3, h4⟩ := sto_V.sorts (cmp := F_ballots_CompareValues) (c := cmpV) (fun x y => F_ballots_CompareValues_eq x y) cmpV_neg s hs ((Go.Sort.bitsLen s.length : Nat) : Int)
  have hc := compact_ok (eq := fun x y : ByteArray => decide (x = y)) (ne := fun x y => !decide (x = y)) (z := ByteArray.mk #[]) (fun _ _ => rfl) (fun _ _ => rfl) t (by omega)
  refine ⟨dd t, ?_, h3, by have := dd_len t; omega, h4⟩
  have h1' : F_slices_pdqsortCmpFunc_string_c89 s 0 (s.length : Int) ((Go.Sort.bitsLen s.length : Nat) : Int) = some ((), t) := h1
  have hc' : F_slices_Compact_string_string t = some (dd t) := hc
  simp only [F_envelopes_unique_string_c89, F_slices_SortFunc_string_string_c89, len_eq (show s.length < 4294967296 by omega), h1', hc', Option.bind_some]
theorem cmpI_dec (a b : Int) : decide (cmpI a b < 0) = decide (a < b) := by rw [decide_eq_decide]; exact cmpI_neg a b
theorem uniqueN (s : List Int) (hs : s.length < 1000000000) : ∃ b, F_envelopes_unique_int_c93 s = some b ∧ b.Pairwise (· < ·) ∧ b.length ≤ s.length ∧ ∀ x, x ∈ b ↔ x ∈ s := by
  obtain ⟨t, h1, h2, h3, h4⟩ := sto_int.sorts (cmp := F_cmp_Compare_int) (c := cmpI) (fun x y => F_cmp_Compare_int_eq x y) cmpI_dec s hs ((Go.Sort.bitsLen s.length : Nat) : Int)
  have hc := compact_ok (eq := fun x y : Int => decide (x = y)) (ne := fun x y => !decide (x = y)) (z := 0) (fun _ _ => rfl) (fun _ _ => rfl) t (by omega)
  refine ⟨dd t, ?_, h3.imp fun h => of_decide_eq_true h, by have := dd_len t; omega, h4⟩
  have h1' : F_slices_pdqsortCmpFunc_int_c93 s 0 (s.length : Int) ((Go.Sort.bitsLen s.length : Nat) : Int) = some ((), t) := h1
  simp only [F_envelopes_unique_int_c93, F_slices_SortFunc_int_int_c93, len_eq (show s.length < 4294967296 by omega), h1', Option.bind_some, compI_eq, hc]

theorem flat_len {α β : Type} (f : α → List β) (hf : ∀ x, (f x).length ≤ 3) : ∀ l : List α, (l.flatMap f).length ≤ 3 * l.length
  | [] => by simp
  | x :: l => by
    have := flat_len f hf l
    have := hf x
    rw [List.flatMap_cons, List.length_append, List.length_cons]
    omega
section
variable {l : List TEnvelope} (hl : ∀ e ∈ l, SmT e.Trust) (hlen : l.length ≤ 1000)
 include hl hlen
theorem Values_eq : ∃ b, F_envelopes_Values l = some b ∧ b.Pairwise (fun x y => lessV x y = true) ∧ b.length ≤ 3000 ∧ ∀ x, x ∈ b ↔ ∃ e ∈ l, isValid e = true ∧ x = e.Ballot.Value := by
  have hf : ∀ e : TEnvelope, (if isValid e then [e.Ballot.Value] else []).length ≤ 3 := fun e => by split <;> simp
  obtain ⟨b, h1, h2, hbl, h3⟩ := uniqueV (l.flatMap fun e => if isValid e then [e.Ballot.Value] else []) (by have := flat_len _ hf l; omega)
  refine ⟨b, ?_, h2, by have := flat_len _ hf l; omega, fun x => ?_⟩
  · unfold F_envelopes_Values
    refine (collect_ok l (by omega) (fun e => if isValid e then [e.Ballot.Value] else []) (fun e _ => hf e) (fin := fun acc => Option.bind (F_envelopes_unique_string_c89 acc) fun r6 => some r6) (fun i e acc he hd hx hw hok hal => ?_) (fun acc hd => ?_)).trans ?_
    · have o3 := hok 16 1 (by omega) (by omega) hal
      simp only [hd, hx, hw, cond_true, letJ_eq, Option.bind_some, TTrust.eta, TEnvelope.eta, Valid_eq (hl e he), List.length_cons, List.length_nil, o3, Nat.zero_add]
      cases isValid e <;> simp
    · simp only [hd, cond_false]
    · simp only [h1, Option.bind_some]
  · rw [h3, List.mem_flatMap]
    constructor
    · rintro ⟨e, he, hx⟩
      split at hx
      · rename_i hv
        exact ⟨e, he, hv, by simpa using hx⟩
      · cases hx
    · rintro ⟨e, he, hv, hx⟩
      exact ⟨e, he, by rw [if_pos hv]; simpa using hx⟩
theorem BoundsL_eq (v : ByteArray) : ∃ b, F_envelopes_Bounds l v = some b ∧ b.Pairwise (· < ·) ∧ b.length ≤ 3000 ∧ ∀ x, x ∈ b ↔ x ∈ ends v l := by
  have hf : ∀ e : TEnvelope, (if hasBounds v e then [e.Low, e.High] else []).length ≤ 3 := fun e => by split <;> simp
  obtain ⟨b, h1, h2, hbl, h3⟩ := uniqueN (ends v l) (by have := flat_len _ hf l; unfold ends; omega)
  refine ⟨b, ?_, h2, by have := flat_len _ hf l; unfold ends at hbl; omega, h3⟩
  unfold F_envelopes_Bounds
  refine (collect_ok l (by omega) (fun e => if hasBounds v e then [e.Low, e.High] else []) (fun e _ => hf e) (fin := fun acc => Option.bind (F_envelopes_unique_int_c93 acc) fun r6 => some r6) (fun i e acc he hd hx hw hok hal => ?_) (fun acc hd => ?_)).trans ?_
  · have o3 := hok 8 2 (by omega) (by omega) hal
    simp only [hd, hx, hw, cond_true, letJ_eq, Option.bind_some, TTrust.eta, TEnvelope.eta, Valid_eq (hl e he), List.length_cons, List.length_nil, o3, Nat.zero_add, Nat.reduceAdd]
    unfold hasBounds
    cases isValid e <;> cases decide (e.Ballot.Value = v) <;> cases decide (e.Low = 0) <;> simp
  · simp only [hd, cond_false]
  · exact (congrArg (fun o => Option.bind o fun r6 => some r6) h1)
end
end Go.Proofs.YtncjalhhkmojlaaGreat

set_option linter.unusedVariables false
namespace Go.Proofs.YtncjalhhkmojlaaGreat
open Go.TQ

noncomputable def valuesN (l : List TEnvelope) : List ByteArray := (F_envelopes_Values l).getD []
noncomputable def boundsN (l : List TEnvelope) (v : ByteArray) : List Int := (F_envelopes_Bounds l v).getD []
section
variable {l : List TEnvelope} (hl : ∀ e ∈ l, SmT e.Trust) (hlen : l.length ≤ 1000)
 include hl hlen
theorem valuesN_ok : F_envelopes_Values l = some (valuesN l) ∧ (valuesN l).Pairwise (fun x y => lessV x y = true) ∧ (valuesN l).length ≤ 3000 ∧ ∀ x, x ∈ valuesN l ↔ ∃ e ∈ l, isValid e = true ∧ x = e.Ballot.Value := by
  obtain ⟨b, h1, h2, h3, h4⟩ := Values_eq hl hlen
  have : valuesN l = b := by rw [valuesN, h1]; rfl
  rw [this]
  exact ⟨h1, h2, h3, h4⟩
theorem boundsN_ok (v : ByteArray) : F_envelopes_Bounds l v = some (boundsN l v) ∧ (boundsN l v).Pairwise (· < ·) ∧ (boundsN l v).length ≤ 3000 ∧ ∀ x, x ∈ boundsN l v ↔ x ∈ ends v l := by
  obtain ⟨b, h1, h2, h3, h4⟩ := BoundsL_eq hl hlen v
  have : boundsN l v = b := by rw [boundsN, h1]; rfl
  rw [this]
  exact ⟨h1, h2, h3, h4⟩
end
theorem bounds_in {l : List TEnvelope} (hl : SmL l) (hlen : l.length ≤ 1000) (v : ByteArray) : ∀ x ∈ boundsN l v, 1 ≤ x ∧ x ≤ 1000 := by
  obtain ⟨_, _, _, h⟩ := boundsN_ok hl.trust hlen v
  intro x hx
  obtain ⟨e, he, hb, hy⟩ := mem_ends.1 ((h x).1 hx)
  simp only [hasBounds, Bool.and_eq_true, Bool.not_eq_true', decide_eq_false_iff_not] at hb
  have hv := hb.1.1
  have h0 := hb.2
  unfold isValid validE at hv
  rw [Bool.and_eq_true] at hv
  have hv := hv.2
  by_cases k1 : e.Kind = 1
  · rw [if_pos k1] at hv
    simp only [prepOk, finite, Bool.and_eq_true, decide_eq_true_eq] at hv
    omega
  · rw [if_neg k1] at hv
    by_cases k2 : e.Kind = 2
    · rw [if_pos k2] at hv
      simp only [commOk, ranged, Bool.and_eq_true, decide_eq_true_eq] at hv
      omega
    · rw [if_neg k2] at hv
      by_cases k3 : e.Kind = 3
      · rw [if_pos k3] at hv
        simp only [extOk, ranged, Bool.and_eq_true, decide_eq_true_eq] at hv
        omega
      · rw [if_neg k3] at hv; cases hv
/-- a loop that folds, its place between two parts of the state -/
theorem fold2_loop {α A B ρ : Type} (l : List α) (hl : l.length ≤ 1000000) (f : A × B → α → A × B) {step : A × Int × B × Unit → Option ((A × Int × B × Unit) ⊕ ρ)} {fin : A × B → Option ρ}
    (h1 : ∀ (i : Nat) (x : α) (a : A) (b : B), x ∈ l → decide ((i : Int) < ((l.length : Nat) : Int)) = true → idx l (i : Int) = some x → addI .i64 (i : Int) 1 = ((i + 1 : Nat) : Int) → step (a, (i : Int), b, ()) = some (.inl ((f (a, b) x).1, ((i + 1 : Nat) : Int), (f (a, b) x).2, ())))
    (h2 : ∀ a b, decide (((l.length : Nat) : Int) < ((l.length : Nat) : Int)) = false → step (a, ((l.length : Nat) : Int), b, ()) = Option.map Sum.inr (fin (a, b))) (a : A) (b : B) : loopO step (a, (0 : Int), b, ()) = fin (l.foldl f (a, b)) := by
  suffices key : ∀ (k i : Nat) (a : A) (b : B), i + k = l.length → loopO step (a, (i : Int), b, ()) = fin ((l.drop i).foldl f (a, b)) from key l.length 0 a b (by omega)
  intro k
  induction k with
  | zero =>
    intro i a b hi
    obtain rfl : i = l.length := by omega
    rw [loopO_eq, h2 a b (decide_eq_false (Int.lt_irrefl _)), List.drop_length, List.foldl_nil]
    cases fin (a, b) <;> rfl
  | succ k ih =>
    intro i a b hi
    have hlt : i < l.length := by omega
    rw [loopO_inl (h1 i l[i] a b (List.getElem_mem hlt) (decide_eq_true (by omega)) (by rw [idx_nat]; exact List.getElem?_eq_getElem hlt) (add64 (by omega) (by omega))), ih (i + 1) _ _ (by omega), List.drop_eq_getElem_cons hlt, List.foldl_cons]

def abB (p q : TBallot) (v : ByteArray) (n : Int) : Bool := aborts p ⟨n, v⟩ || aborts q ⟨n, v⟩
theorem First_1_eq (v : ByteArray) (n : Int) (p q : TBallot) : F_commit_First_1 v n p q = some (abB p q v n) := by
  simp only [F_commit_First_1, F_ballots_Aborts_eq, Option.bind_some, bif_some, Bool.cond_true_left, abB]
noncomputable def bestStep (node : Nat) (t : TTrust) (l : List TEnvelope) (p q : TBallot) (v : ByteArray) (s : Bool × TBallot) (n : Int) : Bool × TBallot :=
  if lessB s.2 ⟨n, v⟩ && !abB p q v n && commReady node t l v n n then (true, ⟨n, v⟩) else s
noncomputable def bestN (node : Nat) (t : TTrust) (l : List TEnvelope) (p q : TBallot) : Bool × TBallot :=
  (valuesN l).foldl (fun s v => (boundsN l v).foldl (bestStep node t l p q v) s) (false, ⟨0, noVal⟩)
noncomputable def firstOf (node : Nat) (t : TTrust) (l : List TEnvelope) (p q : TBallot) (s : Bool × TBallot) : ByteArray × Int × Int × Bool × Unit :=
  if s.1 then (s.2.Value, downN (fun n => !abB p q s.2.Value n && commReady node t l s.2.Value n s.2.Counter) (boundsN l s.2.Value).reverse s.2.Counter, s.2.Counter, true, ()) else (noVal, 0, 0, false, ())
noncomputable def extN (b : List Int) (ready : Int → Int → Bool) (low high : Int) : Int × Int :=
  match b.reverse.find? (fun n => decide (high < n) && ready n n) with
  | none => (downN (fun x => ready x high) b.reverse low, high)
  | some n =>
    let bottom := downN (fun x => ready x n) b.reverse n
    (downN (fun x => ready x n) b.reverse (if high < bottom - 1 ∨ bottom < low then bottom else low), n)
noncomputable def extStep (S : TSeen) (b : List Int) (v : ByteArray) (m8 : Nat) (e9 : Int) (v7 : Int × Int × Unit) : Option ((Int × Int × Unit) ⊕ (Int × Int × Unit)) :=
  Option.bind (bif (decide (e9 ≤ v7.2.1)) then some true else Option.bind (F_commit_ready S v e9 e9) fun r10 => some (!r10)) fun b11 =>
  bif b11 then some (Sum.inl (v7.1, v7.2.1, ())) else
  Option.bind (F_commit_downward_c122 b e9 S v e9) fun r12 =>
  letJ (fun (v13 : Int × Unit) => Option.map Sum.inr (Option.bind (F_commit_downward_c123 b v13.1 S v e9) fun r5 => some (r5, e9, ()))) fun j14 =>
  Option.bind (bif (decide (v7.2.1 < (subI .i64 r12 (1 : Int)))) then some true else some (decide (r12 < v7.1))) fun b15 =>
  bif b15 then j14 (r12, ()) else j14 (v7.1, ())
noncomputable def extFin (S : TSeen) (b : List Int) (v : ByteArray) (v16 : Int × Int × Unit) : Option (Int × Int × Unit) := Option.bind (F_commit_downward_c123 b v16.1 S v v16.2.1) fun r5 => some (r5, v16.2.1, ())
section
variable {node : Nat} (hn : node < 10) {t : TTrust} (ht : SmT t) {l : List TEnvelope} (hl : SmL l)
 include hn ht hl
theorem down103 (b : List Int) (lo : Int) (p q x : TBallot) : F_commit_downward_c103_c99 b lo p q x (seenOf node t l) = some (downN (fun n => !abB p q x.Value n && commReady node t l x.Value n x.Counter) b.reverse lo) := by
  have := down_ok (p := fun e => F_commit_First_2_c99 e p q x (seenOf node t l)) (q := fun n => !abB p q x.Value n && commReady node t l x.Value n x.Counter) (fun e => by
    simp only [F_commit_First_2_c99, First_1_eq, ready_eq hn ht hl, Option.bind_some, bif_some]
    cases abB p q x.Value e <;> simp) b.reverse lo
  simp only [F_commit_downward_c103_c99, F_slices_Backward_int_int, letJ_eq, Option.bind_some]
  exact this
theorem down122 (b : List Int) (lo : Int) (v : ByteArray) (hi : Int) : F_commit_downward_c122 b lo (seenOf node t l) v hi = some (downN (fun x => commReady node t l v x hi) b.reverse lo) := by
  have := down_ok (p := fun e => F_commit_Extend_1 e (seenOf node t l) v hi) (q := fun x => commReady node t l v x hi) (fun e => by simp only [F_commit_Extend_1, ready_eq hn ht hl, Option.bind_some]) b.reverse lo
  simp only [F_commit_downward_c122, F_slices_Backward_int_int, letJ_eq, Option.bind_some]
  exact this
theorem down123 (b : List Int) (lo : Int) (v : ByteArray) (hi : Int) : F_commit_downward_c123 b lo (seenOf node t l) v hi = some (downN (fun x => commReady node t l v x hi) b.reverse lo) := by
  have := down_ok (p := fun e => F_commit_Extend_2 e (seenOf node t l) v hi) (q := fun x => commReady node t l v x hi) (fun e => by simp only [F_commit_Extend_2, ready_eq hn ht hl, Option.bind_some]) b.reverse lo
  simp only [F_commit_downward_c123, F_slices_Backward_int_int, letJ_eq, Option.bind_some]
  exact this
theorem First_eq (hlen : l.length ≤ 1000) (p q : TBallot) : F_commit_First node t l p q = some (firstOf node t l p q (bestN node t l p q)) := by
  obtain ⟨h1, _, h3, _⟩ := valuesN_ok hl.trust hlen
  unfold F_commit_First
  simp only [TTrust.eta, look_eq hn ht hl, h1, Option.bind_some]
  refine (fold2_loop (valuesN l) (by omega) (fun s v => (boundsN l v).foldl (bestStep node t l p q v) s) (fin := fun s => some (firstOf node t l p q s)) (fun i v a b hv hd hx hw => ?_) (fun a b hd => ?_) false ⟨0, ByteArray.mk #[]⟩)
  · obtain ⟨g1, _, g3, _⟩ := boundsN_ok hl.trust hlen v
    simp only [hd, hx, hw, cond_true, Option.bind_some, g1]
    refine (fold2_loop (boundsN l v) (by omega) (bestStep node t l p q v) (fin := fun s => some (Sum.inl (s.1, ((i + 1 : Nat) : Int), s.2, ()))) (fun i' n a' b' hv' hd' hx' hw' => ?_) (fun a' b' hd' => ?_) a b)
    · simp only [hd', hx', hw', cond_true, letJ_eq, Option.bind_some, F_ballots_Less_eq, First_1_eq, ready_eq hn ht hl, bif_some]
      unfold bestStep
      cases lessB b' ⟨n, v⟩ <;> cases abB p q v n <;> cases commReady node t l v n n <;> simp
    · simp only [hd', cond_false]
  · simp only [hd, cond_false]
    obtain ⟨g1, _, g3, _⟩ := boundsN_ok hl.trust hlen b.Value
    unfold firstOf
    cases a
    · rfl
    · simp only [Bool.not_true, cond_false, g1, Option.bind_some, down103 hn ht hl, if_true]
theorem ext_loop (b : List Int) (v : ByteArray) (low high : Int) (hb : ∀ x ∈ b, 0 ≤ x ∧ x ≤ 1000000) : ∀ r : List Int, (∀ x ∈ r, x ∈ b) → backO (extStep (seenOf node t l) b v) (extFin (seenOf node t l) b v) r (low, high, ()) =
    some (match r.find? (fun n => decide (high < n) && commReady node t l v n n) with
      | none => (downN (fun x => commReady node t l v x high) b.reverse low, high, ())
      | some n => (downN (fun x => commReady node t l v x n) b.reverse (if high < downN (fun x => commReady node t l v x n) b.reverse n - 1 ∨ downN (fun x => commReady node t l v x n) b.reverse n < low then downN (fun x => commReady node t l v x n) b.reverse n else low), n, ()))
  | [], _ => by simp only [backO, extFin, down123 hn ht hl, Option.bind_some, List.find?_nil]
  | e :: r, hr => by
    have ih := ext_loop b v low high hb r (fun x hx => hr x (by simp [hx]))
    rw [List.find?_cons, backO]
    by_cases hle : e ≤ high
    · have h2 : decide (high < e) = false := decide_eq_false (by omega)
      have h1 : decide (e ≤ high) = true := decide_eq_true hle
      have hst : extStep (seenOf node t l) b v r.length e (low, high, ()) = some (.inl (low, high, ())) := by simp only [extStep, h1, cond_true, Option.bind_some]
      rw [hst, h2, Bool.false_and]
      exact ih
    · have h2 : decide (high < e) = true := decide_eq_true (by omega)
      have h1 : decide (e ≤ high) = false := decide_eq_false hle
      rw [h2, Bool.true_and]
      cases hr' : commReady node t l v e e with
      | false =>
        have hst : extStep (seenOf node t l) b v r.length e (low, high, ()) = some (.inl (low, high, ())) := by simp only [extStep, h1, cond_false, ready_eq hn ht hl, hr', Bool.not_false, Option.bind_some, cond_true]
        rw [hst]
        exact ih
      | true =>
        have hdn : ∀ (q : Int → Bool) (r : List Int) (lo : Int), (∀ x ∈ r, 0 ≤ x ∧ x ≤ 1000000) → 0 ≤ lo ∧ lo ≤ 1000000 → 0 ≤ downN q r lo ∧ downN q r lo ≤ 1000000 := by
          intro q r
          induction r with
          | nil => intro lo _ h; exact h
          | cons x r ih =>
            intro lo hx h
            rw [downN]
            split
            · exact ih lo (fun y hy => hx y (by simp [hy])) h
            · split
              · exact ih x (fun y hy => hx y (by simp [hy])) (hx x (by simp))
              · exact h
        have hb9 := hdn (fun x => commReady node t l v x e) b.reverse e (fun x hx => hb x (by simpa using hx)) (hb e (hr e (by simp)))
        simp only [extStep, h1, cond_false, ready_eq hn ht hl, hr', Bool.not_true, down122 hn ht hl, down123 hn ht hl, Option.bind_some, letJ_eq, bif_some, Bool.cond_true_left, Option.map_some]
        generalize downN (fun x => commReady node t l v x e) b.reverse e = bt at *
        have e3 : subI .i64 bt 1 = bt - 1 := sub64 (by omega) (by omega)
        rw [e3]
        by_cases hc : high < bt - 1 ∨ bt < low
        · have : (decide (high < bt - 1) || decide (bt < low)) = true := by rw [Bool.or_eq_true]; simpa using hc
          rw [this, if_pos hc]
          rfl
        · have : (decide (high < bt - 1) || decide (bt < low)) = false := by
            rw [← Bool.not_eq_true, Bool.or_eq_true]; simpa using hc
          rw [this, if_neg hc]
          rfl
theorem Extend_eq (hlen : l.length ≤ 1000) (v : ByteArray) (low high : Int) : F_commit_Extend node t l v low high = some ((extN (boundsN l v) (commReady node t l v) low high).1, (extN (boundsN l v) (commReady node t l v) low high).2, ()) := by
  obtain ⟨h1, _, _, _⟩ := boundsN_ok hl.trust hlen v
  have hin := bounds_in hl hlen v
  unfold F_commit_Extend
  simp only [TTrust.eta, look_eq hn ht hl, h1, Option.bind_some, F_slices_Backward_int_int]
  refine (ext_loop hn ht hl (boundsN l v) v low high (fun x hx => by have := hin x hx; omega) (boundsN l v).reverse (by simp)).trans ?_
  unfold extN
  cases (boundsN l v).reverse.find? (fun n => decide (high < n) && commReady node t l v n n) <;> rfl
end
end Go.Proofs.YtncjalhhkmojlaaGreat

set_option linter.unusedVariables false
namespace Go.Proofs.YtncjalhhkmojlaaGreat
open Go.TQ

theorem cConfirms_eq {node : Nat} (hn : node < 10) {t : TTrust} (ht : SmT t) {l : List TEnvelope} (hl : SmL l) (val : ByteArray) (lo hi : Int) : F_commit_Confirms node t l val lo hi = some (commSure node t l val lo hi) := by
  simp only [F_commit_Confirms, TTrust.eta, look_eq hn ht hl, sure_eq hn ht hl, Option.bind_some]
end Go.Proofs.YtncjalhhkmojlaaGreat

set_option linter.unusedVariables false
namespace Go.Proofs.YtncjalhhkmojlaaGreat
open Go.TQ

/-! ### going down -/
theorem downN_le (q : Int → Bool) : ∀ (r : List Int) (lo : Int), downN q r lo ≤ lo
  | [], lo => Int.le_refl _
  | e :: r, lo => by
    rw [downN]
    split
    · exact downN_le q r lo
    · split
      · exact Int.le_trans (downN_le q r e) (by omega)
      · exact Int.le_refl _
theorem downN_or (q : Int → Bool) : ∀ (r : List Int) (lo : Int), downN q r lo = lo ∨ q (downN q r lo) = true ∧ downN q r lo ∈ r
  | [], lo => .inl rfl
  | e :: r, lo => by
    rw [downN]
    split
    · exact (downN_or q r lo).imp id fun h => ⟨h.1, by simp [h.2]⟩
    · split
      · rename_i hq
        rcases downN_or q r e with h | h
        · exact .inr ⟨by rw [h]; exact hq, by rw [h]; simp⟩
        · exact .inr ⟨h.1, by simp [h.2]⟩
      · exact .inl rfl
theorem downN_idem (q : Int → Bool) : ∀ (r : List Int) (lo : Int), downN q r (downN q r lo) = downN q r lo
  | [], lo => rfl
  | e :: r, lo => by
    by_cases h1 : lo ≤ e
    · have e1 : downN q (e :: r) lo = downN q r lo := by rw [downN, if_pos h1]
      have := downN_le q r lo
      rw [e1, downN, if_pos (by omega)]
      exact downN_idem q r lo
    · cases h2 : q e with
      | true =>
        have e1 : downN q (e :: r) lo = downN q r e := by rw [downN, if_neg h1, if_pos h2]
        have := downN_le q r e
        rw [e1, downN, if_pos (by omega)]
        exact downN_idem q r e
      | false =>
        have e1 : downN q (e :: r) lo = lo := by rw [downN, if_neg h1, if_neg (by simp [h2])]
        rw [e1, e1]

theorem downN_ge (q : Int → Bool) (r : List Int) (lo : Int) (h : ∀ x ∈ r, 1 ≤ x) (h1 : 1 ≤ lo) : 1 ≤ downN q r lo := by
  rcases downN_or q r lo with e | ⟨_, e⟩
  · omega
  · exact h _ e
theorem extN_ge {b : List Int} {ready : Int → Int → Bool} {low high : Int} (h : ∀ x ∈ b, 1 ≤ x) (h1 : 1 ≤ low) : 1 ≤ (extN b ready low high).1 := by
  have hr : ∀ x ∈ b.reverse, 1 ≤ x := fun x hx => h x (by simpa using hx)
  unfold extN
  cases hf : b.reverse.find? (fun n => decide (high < n) && ready n n) with
  | none => exact downN_ge _ _ _ hr h1
  | some n =>
    refine downN_ge _ _ _ hr ?_
    split
    · exact downN_ge _ _ _ hr (hr n (List.mem_of_find?_eq_some hf))
    · exact h1

/-! ### what First finds -/
section
variable {node : Nat} {t : TTrust} {l : List TEnvelope} (p q : TBallot)
def FoundB (node : Nat) (t : TTrust) (l : List TEnvelope) (s : Bool × TBallot) : Prop := s.1 = true → commReady node t l s.2.Value s.2.Counter s.2.Counter = true ∧ s.2.Counter ∈ boundsN l s.2.Value
theorem best_found (v : ByteArray) : ∀ (r : List Int) (s : Bool × TBallot), FoundB node t l s → (∀ n ∈ r, n ∈ boundsN l v) → FoundB node t l (r.foldl (bestStep node t l p q v) s)
  | [], s, h, _ => h
  | n :: r, s, h, hr => by
    rw [List.foldl_cons]
    refine best_found v r _ ?_ fun m hm => hr m (by simp [hm])
    unfold bestStep
    split
    · rename_i hc
      intro _
      simp only [Bool.and_eq_true] at hc
      exact ⟨hc.2, hr n (by simp)⟩
    · exact h
theorem bestN_found : FoundB node t l (bestN node t l p q) := by
  have key : ∀ (vs : List ByteArray) (s : Bool × TBallot), FoundB node t l s → FoundB node t l (vs.foldl (fun s v => (boundsN l v).foldl (bestStep node t l p q v) s) s) := by
    intro vs
    induction vs with
    | nil => intro s h; exact h
    | cons v vs ih =>
      intro s h
      rw [List.foldl_cons]
      exact ih _ (best_found p q v (boundsN l v) s h fun _ h => h)
  exact key _ _ (fun h => by cases h)
end
/-- what Extend gives: all of it is accepted, number by number -/
theorem ext_all {b : List Int} {ready : Int → Int → Bool} (hpart : ∀ a c k : Int, a ≤ k → k ≤ c → ready a c = true → ready k k = true) {low high : Int} (hlh : low ≤ high) (h : ready low high = true) :
    high ≤ (extN b ready low high).2 ∧ ((extN b ready low high).1 ≤ low ∨ high < (extN b ready low high).1) ∧ ∀ k, (extN b ready low high).1 ≤ k → k ≤ (extN b ready low high).2 → ready k k = true := by
  unfold extN
  cases hf : b.reverse.find? (fun n => decide (high < n) && ready n n) with
  | none =>
    refine ⟨Int.le_refl _, .inl (downN_le _ _ _), fun k h1 h2 => ?_⟩
    rcases downN_or (fun x => ready x high) b.reverse low with e | ⟨e, _⟩
    · rw [e] at h1
      exact hpart _ _ _ h1 h2 h
    · exact hpart _ _ _ h1 h2 e
  | some n =>
    have hn := List.find?_some hf
    simp only [Bool.and_eq_true, decide_eq_true_eq] at hn
    have hbt : downN (fun x => ready x n) b.reverse n = n ∨ ready (downN (fun x => ready x n) b.reverse n) n = true := (downN_or (fun x => ready x n) b.reverse n).imp id fun h => h.1
    have hidem := downN_idem (fun x => ready x n) b.reverse n
    have hle := downN_le (fun x => ready x n) b.reverse n
    generalize hB : downN (fun x => ready x n) b.reverse n = B at *
    have hB' : ready B n = true := hbt.elim (fun e => by rw [e]; exact hn.2) id
    simp only [hB]
    by_cases hc : high < B - 1 ∨ B < low
    · rw [if_pos hc, hidem]
      refine ⟨by omega, ?_, fun k h1 h2 => hpart _ _ _ h1 h2 hB'⟩
      rcases hc with hc | hc
      · exact .inr (by omega)
      · exact .inl (by omega)
    · rw [if_neg hc]
      refine ⟨by omega, .inl (downN_le _ _ _), fun k h1 h2 => ?_⟩
      rcases downN_or (fun x => ready x n) b.reverse low with e | ⟨e, _⟩
      · rw [e] at h1
        by_cases hk : k ≤ high
        · exact hpart _ _ _ h1 hk h
        · exact hpart _ _ _ (by omega) h2 hB'
      · exact hpart _ _ _ h1 h2 e
theorem final_all {b : List Int} {sure : Int → Int → Bool} (h : (finalN b sure).2.2.1 = true) : (finalN b sure).1 ≤ (finalN b sure).2.1 ∧ sure (finalN b sure).1 (finalN b sure).2.1 = true ∧ sure (finalN b sure).2.1 (finalN b sure).2.1 = true := by
  unfold finalN at h ⊢
  cases hf : b.reverse.find? (fun e => sure e e) with
  | none => rw [hf] at h; cases h
  | some e =>
    have he := List.find?_some hf
    refine ⟨downN_le _ _ _, ?_, he⟩
    rcases downN_or (fun x => sure x e) b.reverse e with h1 | ⟨h1, _⟩
    · show sure (downN (fun x => sure x e) b.reverse e) e = true
      rw [h1]; exact he
    · exact h1

theorem ranges (t : List Int) : F_law26_CommitRanges t = some true := by
  refine Yd.eq_true ?_
  unfold F_law26_CommitRanges
  refine (New_ok t).bind fun s hs => ?_
  refine (Envelopes_ok (n := 5) hs (by omega) (by omega)).bind fun p2 ⟨a1, a2⟩ => ?_
  refine (N_ok a1 (by omega)).bind fun p3 ⟨b1, b2, b3, _⟩ => ?_
  refine (Trust_ok (n := 5) b1 (by omega) (by omega)).bind fun p4 ⟨c1, c2, c3, c4⟩ => ?_
  obtain ⟨node, hnode⟩ : ∃ node : Nat, p3.1 = node := ⟨p3.1.toNat, by omega⟩
  have b4 := b3 (by omega)
  have hn : node < 10 := by omega
  have hsm := a2.sm (by omega)
  have hlen : p2.1.length ≤ 1000 := by have := a2.len; omega
  have ht := c2.sm
  generalize p2.1 = l at *
  have hfound := bestN_found (node := node) (t := p4.1) (l := l) ⟨0, ByteArray.mk #[]⟩ ⟨0, ByteArray.mk #[]⟩
  simp only [TTrust.eta, hnode, First_eq hn ht hsm hlen, Option.bind_some, letJ_eq]
  -- the second half
  have hfin : Yd (Option.bind (F_play_Src_Value p4.2) fun p8 => Option.bind (F_commit_Final (node : Int) p4.1 l p8.1) fun r9 =>
      Option.bind (bif r9.2.2.1 then Option.bind (bif (decide (r9.2.1 < r9.1)) then some true else Option.bind (F_commit_Confirms (node : Int) p4.1 l p8.1 r9.1 r9.2.1) fun r10 => some (!r10)) fun b11 =>
        Option.bind (bif b11 then some true else Option.bind (F_commit_Confirms (node : Int) p4.1 l p8.1 r9.2.1 r9.2.1) fun r12 => some (!r12)) fun b13 => some b13 else some false) fun b14 =>
      bif b14 then some false else Option.bind (F_law26_sane) fun r15 => some r15) (· = true) := by
    refine (Value_ok c1).bind fun p8 ⟨d1, d2⟩ => ?_
    have hb := (boundsN_ok hsm.trust hlen p8.1).1
    simp only [Final_eq hn ht hsm hb, Option.bind_some, cConfirms_eq hn ht hsm, bif_some, sane26]
    cases hi : (finalN (boundsN l p8.1) (commSure node p4.1 l p8.1)).2.2.1 with
    | false => exact Yd.some rfl
    | true =>
      obtain ⟨h1, h2, h3⟩ := final_all hi
      have hd : decide ((finalN (boundsN l p8.1) (commSure node p4.1 l p8.1)).2.1 < (finalN (boundsN l p8.1) (commSure node p4.1 l p8.1)).1) = false := decide_eq_false (by omega)
      simp only [hd, h2, h3]
      exact Yd.some rfl
  generalize bestN node p4.1 l ⟨0, ByteArray.mk #[]⟩ ⟨0, ByteArray.mk #[]⟩ = best at *
  cases hok : best.1 with
  | false =>
    have e1 : firstOf node p4.1 l ⟨0, ByteArray.mk #[]⟩ ⟨0, ByteArray.mk #[]⟩ best = (noVal, 0, 0, false, ()) := by rw [firstOf, if_neg (by simp [hok])]
    simp only [e1, cond_false]
    exact hfin
  | true =>
    obtain ⟨g1, g2⟩ := hfound hok
    have hin := bounds_in hsm hlen best.2.Value
    have ab0 : ∀ n, abB ⟨0, ByteArray.mk #[]⟩ ⟨0, ByteArray.mk #[]⟩ best.2.Value n = false := fun n => by
      have z0 : zeroB (TBallot.mk 0 (ByteArray.mk #[])) = true := by decide +kernel
      simp [abB, aborts, z0]
    obtain ⟨lo, hlo⟩ : ∃ lo, lo = downN (fun n => commReady node p4.1 l best.2.Value n best.2.Counter) (boundsN l best.2.Value).reverse best.2.Counter := ⟨_, rfl⟩
    have e1 : firstOf node p4.1 l ⟨0, ByteArray.mk #[]⟩ ⟨0, ByteArray.mk #[]⟩ best = (best.2.Value, lo, best.2.Counter, true, ()) := by
      rw [firstOf, if_pos hok, hlo]
      simp only [ab0, Bool.not_false, Bool.true_and]
    have hle : lo ≤ best.2.Counter := by rw [hlo]; exact downN_le _ _ _
    have hc := hin _ g2
    have hlo2 : 1 ≤ lo ∧ commReady node p4.1 l best.2.Value lo best.2.Counter = true := by
      rcases downN_or (fun n => commReady node p4.1 l best.2.Value n best.2.Counter) (boundsN l best.2.Value).reverse best.2.Counter with h | ⟨h, hm⟩
      · rw [← hlo] at h
        rw [h]
        exact ⟨hc.1, g1⟩
      · rw [← hlo] at h hm
        exact ⟨(hin _ (by simpa using hm)).1, h⟩
    obtain ⟨x1, x2, x3⟩ := ext_all (b := boundsN l best.2.Value) (ready := commReady node p4.1 l best.2.Value) (fun a c k h1 h2 h => ready_part ht hsm h1 h2 h) hle hlo2.2
    have d1 : decide (lo < 1) = false := decide_eq_false (by omega)
    have d2 : decide (best.2.Counter < lo) = false := decide_eq_false (by omega)
    simp only [e1, cond_true, d1, d2, cond_false, Option.bind_some, cAccepts_eq hn ht hsm, hlo2.2, Bool.not_true, Extend_eq hn ht hsm hlen]
    have hxhi : (extN (boundsN l best.2.Value) (commReady node p4.1 l best.2.Value) lo best.2.Counter).2 ≤ 1000 ∧ (extN (boundsN l best.2.Value) (commReady node p4.1 l best.2.Value) lo best.2.Counter).1 ≤ 1000 := by
      unfold extN
      cases hf : (boundsN l best.2.Value).reverse.find? (fun n => decide (best.2.Counter < n) && commReady node p4.1 l best.2.Value n n) with
      | none =>
        have := downN_le (fun x => commReady node p4.1 l best.2.Value x best.2.Counter) (boundsN l best.2.Value).reverse lo
        exact ⟨hc.2, by show downN _ _ _ ≤ 1000; omega⟩
      | some n =>
        have hn := hin n (by simpa using List.mem_of_find?_eq_some hf)
        have h1 := downN_le (fun x => commReady node p4.1 l best.2.Value x n) (boundsN l best.2.Value).reverse n
        have h2 := downN_le (fun x => commReady node p4.1 l best.2.Value x n) (boundsN l best.2.Value).reverse (if best.2.Counter < downN (fun x => commReady node p4.1 l best.2.Value x n) (boundsN l best.2.Value).reverse n - 1 ∨ downN (fun x => commReady node p4.1 l best.2.Value x n) (boundsN l best.2.Value).reverse n < lo then downN (fun x => commReady node p4.1 l best.2.Value x n) (boundsN l best.2.Value).reverse n else lo)
        refine ⟨hn.2, ?_⟩
        show downN _ _ _ ≤ 1000
        refine Int.le_trans h2 ?_
        split <;> omega
    have hxlo := extN_ge (b := boundsN l best.2.Value) (ready := commReady node p4.1 l best.2.Value) (low := lo) (high := best.2.Counter) (fun x hx => (hin x hx).1) hlo2.1
    generalize extN (boundsN l best.2.Value) (commReady node p4.1 l best.2.Value) lo best.2.Counter = x at *
    have d3 : decide (x.2 < best.2.Counter) = false := decide_eq_false (by omega)
    have d4 : (bif (decide (lo < x.1)) then some (decide (x.1 ≤ best.2.Counter)) else some false) = some false := by
      rcases x2 with h | h
      · rw [show decide (lo < x.1) = false from decide_eq_false (by omega)]; rfl
      · rw [show decide (x.1 ≤ best.2.Counter) = false from decide_eq_false (by omega)]; simp
    simp only [d3, cond_false, d4, Option.bind_some]
    have e20 : addI .i64 x.1 20 = x.1 + 20 := add64 (by omega) (by omega)
    suffices key : ∀ (m : Nat) (k : Int), k + m = x.1 + 20 → x.1 ≤ k → Yd (loopO _ (k, ())) (· = true) from key 20 x.1 (by omega) (by omega)
    intro m
    induction m with
    | zero =>
      intro k hk hk2
      refine Yd.loop ?_
      have dd1 : decide (k < addI .i64 x.1 20) = false := by rw [e20]; exact decide_eq_false (by omega)
      simp only [dd1, bif_same, Option.bind_some, cond_false]
      exact Yd.inr hfin
    | succ m ih =>
      intro k hk hk2
      refine Yd.loop ?_
      have dd1 : decide (k < addI .i64 x.1 20) = true := by rw [e20]; exact decide_eq_true (by omega)
      by_cases hkb : k ≤ x.2
      · have dd2 : decide (k ≤ x.2) = true := decide_eq_true hkb
        have hw : addI .i64 k 1 = k + 1 := add64 (by omega) (by omega)
        simp only [dd1, dd2, cond_true, Option.bind_some, x3 k hk2 hkb, Bool.not_true, cond_false, hw]
        exact Yd.some (ih (k + 1) (by omega) (by omega))
      · have dd2 : decide (k ≤ x.2) = false := decide_eq_false hkb
        simp only [dd2, cond_false, Option.bind_some]
        exact Yd.inr hfin
end Go.Proofs.YtncjalhhkmojlaaGreat
