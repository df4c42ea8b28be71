/-
  Plain Lean: what the turned functions compute. Conditions: none beyond those that each theorem names.
-/
import Derived.Test.YtncjalhhkmojlaaGreatCommitExactPlainA
set_option linter.unusedVariables false
namespace Go.Proofs.YtncjalhhkmojlaaGreat
open Go.TQ
open Go.Sort (swp bitsLen breakPatterns Hint pdq PermIn SortedIn Below choosePivot reverseRange partialInsertionSort partition partitionEqual insertionSort heapSort)

section
variable {α : Type} [Inhabited α]
/-- a call that gives a sorted permutation -/
def Sorts (lt : α → α → Bool) (a b : Nat) (d : Array α) (r : Option (Unit × List α)) : Prop := ∃ d' : Array α, r = some ((), d'.toList) ∧ PermIn a b d d' ∧ SortedIn lt a b d'
theorem Sorts.trans {lt : α → α → Bool} {a b : Nat} {d d1 : Array α} {r : Option (Unit × List α)} (h : PermIn a b d d1) (hs : Sorts lt a b d1 r) : Sorts lt a b d r := by
  obtain ⟨d', e, p, s⟩ := hs
  exact ⟨d', e, Go.Sort.permIn_trans _ _ _ a b h p, s⟩
end
/-- how a loop goes on behind one round -/
noncomputable def contO {σ ρ : Type} (step : σ → Option (σ ⊕ ρ)) : Option (σ ⊕ ρ) → Option ρ
  | none => none
  | some (.inl s) => loopO step s
  | some (.inr r) => some r
theorem loopO_cont {σ ρ : Type} (step : σ → Option (σ ⊕ ρ)) (s : σ) : loopO step s = contO step (step s) := by
  cases h : step s with
  | none => rw [loopO_none h, contO]
  | some y => cases y with
    | inl s' => rw [loopO_inl h, contO]
    | inr r => rw [loopO_inr h, contO]

section
variable {α : Type} [Inhabited α] {cmp : α → α → Option Int} {c : α → α → Int} (hc : ∀ x y, cmp x y = some (c x y))
variable {rec : List α → (Int × Int × Int × (Unit) × Unit) → Option ((Unit) × List α)}
 include hc
theorem st4_ok (ho : Go.Sort.SWO fun x y => decide (c x y < 0)) {k : Nat}
    (hrec : ∀ (d : Array α) (a b : Nat) (lim : Int), b - a < k → a ≤ b → b ≤ d.size → d.size < 1000000000 → Below (fun x y => decide (c x y < 0)) a b d → Sorts (fun x y => decide (c x y < 0)) a b d (rec d.toList ((a : Int), (b : Int), lim, (), ())))
    {a b pv : Nat} {d : Array α} (hk : b - a ≤ k) (hp1 : a ≤ pv) (hp2 : pv < b) (hb : b ≤ d.size) (hd : d.size < 1000000000) (hB : Below (fun x y => decide (c x y < 0)) a b d)
    (ih : ∀ (a' b' : Nat) (lim : Int) (wb wp : Bool) (d' : Array α), b' - a' < b - a → a' ≤ b' → b' ≤ d'.size → d'.size < 1000000000 → Below (fun x y => decide (c x y < 0)) a' b' d' → Sorts (fun x y => decide (c x y < 0)) a' b' d' (loopO (pdqStep cmp rec) ((a' : Int), (b' : Int), lim, wb, wp, d'.toList, ())))
    (lim : Int) (wb wp : Bool) :
    Sorts (fun x y => decide (c x y < 0)) a b d (contO (pdqStep cmp rec) (st4 cmp rec (a : Int) (b : Int) lim wb wp d.toList (pv : Int) (decide (a > 0) && !decide (c d[a - 1]! d[pv]! < 0)))) := by
  cases hw : (decide (a > 0) && !decide (c d[a - 1]! d[pv]! < 0)) with
  | true =>
    simp only [Bool.and_eq_true, decide_eq_true_eq, Bool.not_eq_true'] at hw
    obtain ⟨g1, g2, hs4, hB4, hfin⟩ := Go.Sort.round_eq ho (Go.Sort.partitionEqual_holds _) hw.1 hp1 hp2 hb hB hw.2 (d4 := (partitionEqual (fun x y => decide (c x y < 0)) d a b pv).2) (mid := (partitionEqual (fun x y => decide (c x y < 0)) d a b pv).1) rfl
    have e := gPartEq_eq hc (a := a) (b := b) (pivot := pv) (d := d) (by omega) (by omega) hb hd
    generalize partitionEqual (fun x y => decide (c x y < 0)) d a b pv = m at *
    simp only [st4, cond_true, e, Option.bind_some, contO]
    obtain ⟨d', e', r1, r2⟩ := ih m.1 b lim wb wp m.2 (by omega) g2 (by omega) (by omega) hB4
    exact ⟨d', e', hfin _ r1 r2⟩
  | false =>
    obtain ⟨g1, g2, hs4, hBa, hBr, hleft, hright⟩ := Go.Sort.round_part ho (Go.Sort.partition_holds _) hp1 hp2 hb hB (d4 := (partition (fun x y => decide (c x y < 0)) d a b pv).2.2) (mid := (partition (fun x y => decide (c x y < 0)) d a b pv).1) (ap := (partition (fun x y => decide (c x y < 0)) d a b pv).2.1) rfl
    have e := gPart_eq hc (a := a) (b := b) (pivot := pv) (d := d) (by omega) (by omega) hb hd
    generalize partition (fun x y => decide (c x y < 0)) d a b pv = m at *
    have e1 : subI .i64 (m.1 : Int) (a : Int) = ((m.1 - a : Nat) : Int) := subN (by omega) (by omega)
    have e2 : subI .i64 (b : Int) (m.1 : Int) = ((b - m.1 : Nat) : Int) := subN (by omega) (by omega)
    have e3 : addI .i64 (m.1 : Int) 1 = ((m.1 + 1 : Nat) : Int) := add1 (by omega)
    simp only [st4, cond_false, e, Option.bind_some, e1, e2, e3]
    cases hw2 : decide (((m.1 - a : Nat) : Int) < ((b - m.1 : Nat) : Int)) with
    | true =>
      obtain ⟨L, eL, l1, l2⟩ := hrec m.2.2 a m.1 lim (by omega) g1 (by omega) (by omega) hBa
      have hLs := l1.1
      obtain ⟨hBL, hfin⟩ := hleft _ l1 l2
      simp only [cond_true, eL, Option.bind_some, contO]
      obtain ⟨d', e', r1, r2⟩ := ih (m.1 + 1) b lim _ _ L (by omega) (by omega) (by omega) (by omega) hBL
      exact ⟨d', e', hfin _ r1 r2⟩
    | false =>
      obtain ⟨L, eL, l1, l2⟩ := hrec m.2.2 (m.1 + 1) b lim (by omega) (by omega) (by omega) (by omega) hBr
      have hLs := l1.1
      obtain ⟨hBL, hfin⟩ := hright _ l1 l2
      simp only [cond_false, eL, Option.bind_some, contO]
      obtain ⟨d', e', r1, r2⟩ := ih a m.1 lim _ _ L (by omega) g1 (by omega) (by omega) hBL
      exact ⟨d', e', hfin _ r1 r2⟩
theorem st1_ok (ho : Go.Sort.SWO fun x y => decide (c x y < 0)) {k : Nat}
    (hrec : ∀ (d : Array α) (a b : Nat) (lim : Int), b - a < k → a ≤ b → b ≤ d.size → d.size < 1000000000 → Below (fun x y => decide (c x y < 0)) a b d → Sorts (fun x y => decide (c x y < 0)) a b d (rec d.toList ((a : Int), (b : Int), lim, (), ())))
    {a b : Nat} {d : Array α} (h12 : 12 < b - a) (hk : b - a ≤ k) (hb : b ≤ d.size) (hd : d.size < 1000000000) (hB : Below (fun x y => decide (c x y < 0)) a b d)
    (ih : ∀ (a' b' : Nat) (lim : Int) (wb wp : Bool) (d' : Array α), b' - a' < b - a → a' ≤ b' → b' ≤ d'.size → d'.size < 1000000000 → Below (fun x y => decide (c x y < 0)) a' b' d' → Sorts (fun x y => decide (c x y < 0)) a' b' d' (loopO (pdqStep cmp rec) ((a' : Int), (b' : Int), lim, wb, wp, d'.toList, ())))
    (lim : Int) (wb wp : Bool) :
    Sorts (fun x y => decide (c x y < 0)) a b d (contO (pdqStep cmp rec) (st1 cmp rec (a : Int) (b : Int) wb wp lim d.toList)) := by
  rw [st1_eq hc h12 hb hd]
  obtain ⟨p1, p2⟩ := Go.Sort.choosePivot_holds (fun x y => decide (c x y < 0)) d a b (by omega)
  generalize choosePivot (fun x y => decide (c x y < 0)) d a b = r at *
  have P2 : PermIn a b d (if r.2 = .decreasing then reverseRange d a b else d) := by
    split
    · exact Go.Sort.reverseRange_holds d a b (by omega) hb
    · exact Go.Sort.permIn_refl d a b
  have Q : a ≤ (if r.2 = .decreasing then (b - 1) - (r.1 - a) else r.1) ∧ (if r.2 = .decreasing then (b - 1) - (r.1 - a) else r.1) < b := by split <;> omega
  refine Sorts.trans P2 ?_
  have B2 := hB.perm hb P2
  have hs2 := P2.1
  generalize (if r.2 = .decreasing then reverseRange d a b else d) = d2 at *
  generalize (if r.2 = .decreasing then (b - 1) - (r.1 - a) else r.1) = pv at *
  generalize (if r.2 = .decreasing then Hint.increasing else r.2) = hint at *
  have hb2 : b ≤ d2.size := by omega
  rw [st2_eq hc (by omega) hb2 (by omega)]
  have P3 : PermIn a b d2 (if (wb && wp && decide (hint = Hint.increasing)) = true then partialInsertionSort (fun x y => decide (c x y < 0)) d2 a b else (d2, false)).1 ∧ ((if (wb && wp && decide (hint = Hint.increasing)) = true then partialInsertionSort (fun x y => decide (c x y < 0)) d2 a b else (d2, false)).2 = true → SortedIn (fun x y => decide (c x y < 0)) a b (if (wb && wp && decide (hint = Hint.increasing)) = true then partialInsertionSort (fun x y => decide (c x y < 0)) d2 a b else (d2, false)).1) := by
    split
    · exact Go.Sort.partialInsertionSort_holds ho d2 a b (by omega) hb2 B2
    · exact ⟨Go.Sort.permIn_refl d2 a b, fun h => by cases h⟩
  generalize (if (wb && wp && decide (hint = Hint.increasing)) = true then partialInsertionSort (fun x y => decide (c x y < 0)) d2 a b else (d2, false)) = p at *
  obtain ⟨P3, S3⟩ := P3
  have hs3 := P3.1
  have B3 := B2.perm hb2 P3
  cases hp : p.2 with
  | true =>
    rw [cond_true, contO]
    exact ⟨p.1, rfl, P3, S3 hp⟩
  | false =>
    rw [cond_false, st3_eq hc (by omega) (by omega) (by omega)]
    exact Sorts.trans P3 (st4_ok hc ho hrec hk Q.1 Q.2 (by omega) (by omega) B3 ih lim wb wp)
theorem round_ok (ho : Go.Sort.SWO fun x y => decide (c x y < 0)) {k : Nat}
    (hrec : ∀ (d : Array α) (a b : Nat) (lim : Int), b - a < k → a ≤ b → b ≤ d.size → d.size < 1000000000 → Below (fun x y => decide (c x y < 0)) a b d → Sorts (fun x y => decide (c x y < 0)) a b d (rec d.toList ((a : Int), (b : Int), lim, (), ()))) (n : Nat) :
    ∀ (a b : Nat) (lim : Int) (wb wp : Bool) (d : Array α), b - a = n → b - a ≤ k → a ≤ b → b ≤ d.size → d.size < 1000000000 → Below (fun x y => decide (c x y < 0)) a b d → Sorts (fun x y => decide (c x y < 0)) a b d (loopO (pdqStep cmp rec) ((a : Int), (b : Int), lim, wb, wp, d.toList, ())) := by
  induction n using Nat.strongRecOn with
  | ind n ih =>
  intro a b lim wb wp d hn hk hab hb hd hB
  have e1 : subI .i64 (b : Int) (a : Int) = ((b - a : Nat) : Int) := subN hab (by omega)
  have ih' : ∀ (a' b' : Nat) (lim : Int) (wb wp : Bool) (d' : Array α), b' - a' < b - a → a' ≤ b' → b' ≤ d'.size → d'.size < 1000000000 → Below (fun x y => decide (c x y < 0)) a' b' d' → Sorts (fun x y => decide (c x y < 0)) a' b' d' (loopO (pdqStep cmp rec) ((a' : Int), (b' : Int), lim, wb, wp, d'.toList, ())) :=
    fun a' b' lim wb wp d' h1 h2 h3 h4 h5 => ih (b' - a') (by omega) a' b' lim wb wp d' rfl (by omega) h2 h3 h4 h5
  rw [loopO_cont]
  by_cases h12 : b - a ≤ 12
  · have c1 : decide (((b - a : Nat) : Int) ≤ 12) = true := decide_eq_true (by omega)
    simp only [pdqStep, e1, c1, cond_true, gInsert_eq hc (show a ≤ d.size by omega) hb hd, Option.bind_some, Option.map_some, contO]
    exact ⟨_, rfl, Go.Sort.insertionSort_holds ho d a b hab hb⟩
  · have c1 : decide (((b - a : Nat) : Int) ≤ 12) = false := decide_eq_false (by omega)
    cases hl : decide (lim = 0) with
    | true =>
      simp only [pdqStep, e1, c1, hl, cond_true, cond_false, gHeap_eq hc (show a < b by omega) hb hd, Option.bind_some, Option.map_some, contO]
      exact ⟨_, rfl, Go.Sort.heapSort_holds ho d a b hab hb⟩
    | false =>
      cases wb with
      | true =>
        simp only [pdqStep, e1, c1, hl, cond_false, Bool.not_true]
        exact st1_ok hc ho hrec (by omega) hk hb hd hB ih' _ _ _
      | false =>
        have P1 := Go.Sort.breakPatterns_holds d a b hab hb
        have hs1 := P1.1
        simp only [pdqStep, e1, c1, hl, cond_false, cond_true, Bool.not_false, gBreak_eq (show 12 < b - a by omega) hb hd, Option.bind_some]
        exact Sorts.trans P1 (st1_ok hc ho hrec (by omega) hk (by omega) (by omega) (hB.perm hb P1) ih' _ _ _)
theorem gPI_ok (ho : Go.Sort.SWO fun x y => decide (c x y < 0)) : ∀ (F : Nat) (d : Array α) (a b : Nat) (lim : Int), b - a < F → a ≤ b → b ≤ d.size → d.size < 1000000000 → Below (fun x y => decide (c x y < 0)) a b d → Sorts (fun x y => decide (c x y < 0)) a b d (gPI cmp F d.toList ((a : Int), (b : Int), lim, (), ()))
  | 0, d, a, b, lim, h, _, _, _, _ => absurd h (Nat.not_lt_zero _)
  | F + 1, d, a, b, lim, h, hab, hb, hd, hB => by
    show Sorts _ a b d (loopO (pdqStep cmp (gPI cmp F)) ((a : Int), (b : Int), lim, true, true, d.toList, ()))
    exact round_ok hc ho (gPI_ok ho F) (b - a) a b lim true true d rfl (by omega) hab hb hd hB
/-- the whole, on a list -/
theorem gPdq_ok (ho : Go.Sort.SWO fun x y => decide (c x y < 0)) (s : List α) (hs : s.length < 1000000000) (lim : Int) :
    ∃ s', gPdq cmp s 0 (s.length : Int) lim = some ((), s') ∧ s'.Perm s ∧ s'.Pairwise fun x y => ¬ c y x < 0 := by
  obtain ⟨d', e, p, q⟩ := gPI_ok hc ho (s.length + 1) s.toArray 0 s.length lim (by omega) (by omega) (by simp) (by simpa using hs) (Or.inl rfl)
  refine ⟨d'.toList, ?_, ?_, ?_⟩
  · exact e
  · have h3 := p.2.2
    have hsz := p.1
    simp only [List.size_toArray] at hsz
    have x1 : d'.extract 0 s.length = d' := by rw [← hsz]; exact Array.extract_size
    have x2 : s.toArray.extract 0 s.length = s.toArray := by
      rw [show s.length = s.toArray.size by simp]; exact Array.extract_size
    rw [x1, x2] at h3
    exact h3
  · have hsz := p.1
    simp only [List.size_toArray] at hsz
    rw [List.pairwise_iff_getElem]
    intro i j hi hj hij
    have h3 := q i j (Nat.zero_le _) hij (by simpa [← hsz] using hj)
    have hi' : i < d'.size := by simpa using hi
    have hj' : j < d'.size := by simpa using hj
    rw [getElem!_pos d' i hi', getElem!_pos d' j hj'] at h3
    simpa using of_decide_eq_false h3
end
end Go.Proofs.YtncjalhhkmojlaaGreat

set_option linter.unusedVariables false
namespace Go.Proofs.YtncjalhhkmojlaaGreat
open Go.TQ

section
variable {α : Type}
/-- a strict total order -/
structure STO (lt : α → α → Bool) : Prop where
  irrefl : ∀ x, lt x x = false
  trans : ∀ x y z, lt x y = true → lt y z = true → lt x z = true
  total : ∀ x y, lt x y = false → lt y x = false → x = y
variable {lt : α → α → Bool}
theorem STO.asymm (h : STO lt) {x y : α} (hxy : lt x y = true) : lt y x = false := by
  cases hc : lt y x with
  | false => rfl
  | true => have := h.trans x y x hxy hc; rw [h.irrefl] at this; cases this
theorem STO.ntrans (h : STO lt) {x y z : α} (h1 : lt x y = false) (h2 : lt y z = false) : lt x z = false := by
  cases hc : lt x z with
  | false => rfl
  | true =>
    cases hyx : lt y x with
    | false => rw [h.total x y h1 hyx, h2] at hc; cases hc
    | true => have := h.trans y x z hyx hc; rw [h2] at this; cases this
theorem STO.kit (h : STO lt) : Go.Sort.SWO lt := ⟨h.irrefl, h.trans, fun _ _ _ => h.ntrans⟩
theorem STO.own (h : STO lt) : SWO lt := ⟨fun _ _ => h.asymm, fun _ _ _ h1 h2 => h.ntrans h2 h1⟩
/-- sorted lists of the same elements are the same -/
theorem STO.unique (h : STO lt) : ∀ {a b : List α}, a.Pairwise (fun x y => lt x y = true) → b.Pairwise (fun x y => lt x y = true) → (∀ x, x ∈ a ↔ x ∈ b) → a = b
  | [], [], _, _, _ => rfl
  | [], y :: b, _, _, h' => by have := (h' y).2 (by simp); cases this
  | x :: a, [], _, _, h' => by have := (h' x).1 (by simp); cases this
  | x :: a, y :: b, ha, hb, h' => by
    rw [List.pairwise_cons] at ha hb
    have hxy : x = y := by
      have h1 := (h' x).1 (by simp)
      have h2 := (h' y).2 (by simp)
      rcases List.mem_cons.1 h1 with h1 | h1
      · exact h1
      · rcases List.mem_cons.1 h2 with h2 | h2
        · exact h2.symm
        · have q1 := ha.1 y h2
          have q2 := hb.1 x h1
          rw [h.asymm q1] at q2
          cases q2
    subst hxy
    congr 1
    refine h.unique ha.2 hb.2 fun z => ⟨fun hz => ?_, fun hz => ?_⟩
    · rcases List.mem_cons.1 ((h' z).1 (by simp [hz])) with e | e
      · subst e
        have := ha.1 z hz
        rw [h.irrefl] at this
        cases this
      · exact e
    · rcases List.mem_cons.1 ((h' z).2 (by simp [hz])) with e | e
      · subst e
        have := hb.1 z hz
        rw [h.irrefl] at this
        cases this
      · exact e
/-- sorting, then each once -/
theorem STO.sorts [Inhabited α] [DecidableEq α] (h : STO lt) {cmp : α → α → Option Int} {c : α → α → Int} (hc : ∀ x y, cmp x y = some (c x y)) (hlt : ∀ x y, decide (c x y < 0) = lt x y) (s : List α) (hs : s.length < 1000000000) (lim : Int) :
    ∃ t, gPdq cmp s 0 (s.length : Int) lim = some ((), t) ∧ t.length = s.length ∧ (dd t).Pairwise (fun x y => lt x y = true) ∧ ∀ x, x ∈ dd t ↔ x ∈ s := by
  have he : (fun x y => decide (c x y < 0)) = lt := funext fun x => funext fun y => hlt x y
  obtain ⟨t, h1, h2, h3⟩ := gPdq_ok hc (by rw [he]; exact h.kit) s hs lim
  refine ⟨t, h1, h2.length_eq, dd_sorted h.own h.total (h3.imp fun {a b} hab => ?_), fun x => by rw [mem_dd]; exact h2.mem_iff⟩
  rw [← hlt]
  exact decide_eq_false hab
end

/-! ### values and ballots -/
theorem sto_int : STO fun a b : Int => decide (a < b) :=
  ⟨fun x => decide_eq_false (Int.lt_irrefl x), fun x y z h1 h2 => by simp only [decide_eq_true_eq] at *; omega, fun x y h1 h2 => by simp only [decide_eq_false_iff_not] at *; omega⟩
theorem bl_trans : ∀ {x y z : List UInt8}, Op.bytesLess x y = true → Op.bytesLess y z = true → Op.bytesLess x z = true
  | [], [], _, h, _ => by simp [Op.bytesLess] at h
  | _ :: _, [], _, h, _ => by simp [Op.bytesLess] at h
  | [], _ :: _, [], _, h => by simp [Op.bytesLess] at h
  | [], _ :: _, _ :: _, _, _ => rfl
  | _ :: _, _ :: _, [], _, h => by simp [Op.bytesLess] at h
  | a :: x, b :: y, c :: z, h, h' => by
    simp only [Op.bytesLess, Bool.or_eq_true, decide_eq_true_eq, Bool.and_eq_true, beq_iff_eq] at h h' ⊢
    rcases h with h | ⟨rfl, h⟩
    · rcases h' with h' | ⟨rfl, h'⟩
      · exact .inl (UInt8.lt_trans h h')
      · exact .inl h
    · rcases h' with h' | ⟨rfl, h'⟩
      · exact .inl h'
      · exact .inr ⟨rfl, bl_trans h h'⟩
theorem sless_trans {a b c : ByteArray} (h : sless a b = true) (h' : sless b c = true) : sless a c = true := bl_trans h h'
theorem sless_total {a b : ByteArray} (h : a ≠ b) : sless a b = true ∨ sless b a = true :=
  bl_total fun e => h (by
    rw [Lib.toList_data, Lib.toList_data] at e
    cases a; cases b
    rename_i x y
    cases x; cases y
    simp_all)
theorem sto_V : STO lessV := by
  refine ⟨fun x => by rw [lessV, if_pos rfl, sless_irrefl], fun x y z h1 h2 => ?_, fun x y h1 h2 => ?_⟩
  · unfold lessV at *
    by_cases e1 : x.size = y.size
    · rw [if_pos e1] at h1
      by_cases e2 : y.size = z.size
      · rw [if_pos e2] at h2
        rw [if_pos (e1.trans e2)]
        exact sless_trans h1 h2
      · rw [if_neg e2] at h2
        rw [if_neg (by omega), e1]
        exact h2
    · rw [if_neg e1, decide_eq_true_eq] at h1
      by_cases e2 : y.size = z.size
      · rw [if_neg (by omega), ← e2]
        exact decide_eq_true h1
      · rw [if_neg e2, decide_eq_true_eq] at h2
        rw [if_neg (by omega)]
        exact decide_eq_true (by omega)
  · unfold lessV at *
    by_cases e1 : x.size = y.size
    · rw [if_pos e1] at h1
      rw [if_pos e1.symm] at h2
      refine Classical.byContradiction fun hne => ?_
      rcases sless_total hne with h | h
      · rw [h] at h1; cases h1
      · rw [h] at h2; cases h2
    · rw [if_neg e1, decide_eq_false_iff_not] at h1
      rw [if_neg (fun e => e1 e.symm), decide_eq_false_iff_not] at h2
      omega
end Go.Proofs.YtncjalhhkmojlaaGreat

set_option linter.unusedVariables false
namespace Go.Proofs.YtncjalhhkmojlaaGreat
open Go.TQ

/-! ### slices.DeleteFunc -/
section
variable {α : Type}
variable {p : α → Option Bool} {q : α → Bool} (hp : ∀ x, p x = some (q x)) {z : α}
 include hp
end

/-! ### collecting -/
theorem collect_ok {α β ρ : Type} (l : List α) (hl : l.length ≤ 1000000) (f : α → List β) (hf : ∀ x ∈ l, (f x).length ≤ 3) {step : Int × List β × Unit → Option ((Int × List β × Unit) ⊕ ρ)} {fin : List β → Option ρ}
    (h1 : ∀ (i : Nat) (x : α) (acc : List β), x ∈ l → decide ((i : Int) < ((l.length : Nat) : Int)) = true → idx l (i : Int) = some x → addI .i64 (i : Int) 1 = ((i + 1 : Nat) : Int) → (∀ bytes n : Nat, bytes ≤ 40 → n ≤ 3 → acc.length ≤ 3000000 → lenOk bytes (acc.length + n) = true) → acc.length ≤ 3000000 → step ((i : Int), acc, ()) = some (.inl (((i + 1 : Nat) : Int), acc ++ f x, ())))
    (h2 : ∀ acc, decide (((l.length : Nat) : Int) < ((l.length : Nat) : Int)) = false → step (((l.length : Nat) : Int), acc, ()) = Option.map Sum.inr (fin acc)) : loopO step ((0 : Int), ([] : List β), ()) = fin (l.flatMap f) := by
  suffices key : ∀ (k i : Nat) (acc : List β), i + k = l.length → acc = (l.take i).flatMap f → acc.length ≤ 3 * i → loopO step ((i : Int), acc, ()) = fin (l.flatMap f) from key l.length 0 [] (by omega) (by simp) (by simp)
  intro k
  induction k with
  | zero =>
    intro i acc hi ha hal
    obtain rfl : i = l.length := by omega
    rw [List.take_length] at ha
    rw [loopO_eq, h2 acc (decide_eq_false (Int.lt_irrefl _)), ha]
    cases fin (l.flatMap f) <;> rfl
  | succ k ih =>
    intro i acc hi ha hal
    have hlt : i < l.length := by omega
    have hx : l[i]? = some l[i] := List.getElem?_eq_getElem hlt
    have := hf _ (List.getElem_mem hlt)
    refine (loopO_inl (h1 i l[i] acc (List.getElem_mem hlt) (decide_eq_true (by omega)) (by rw [idx_nat]; exact hx) (add64 (by omega) (by omega)) (fun bytes n hb hn ha => ?_) (by omega))).trans (ih (i + 1) _ (by omega) ?_ (by rw [List.length_append]; omega))
    · simp only [lenOk, Bool.and_eq_true, decide_eq_true_eq]
      exact ⟨Nat.le_trans (Nat.mul_le_mul (show acc.length + n ≤ 3000003 by omega) hb) (show 3000003 * 40 ≤ 140737488355328 by decide), Nat.le_trans (show acc.length + n ≤ 3000003 by omega) (by simp [maxLen])⟩
    · rw [List.take_succ_eq_append_getElem hlt, List.flatMap_append, ha]
      simp
/-- all rounds go on -/
theorem all_loop {τ ρ : Type} (n : Nat) (mk : Int → τ) {step : τ → Option (τ ⊕ ρ)} {fin : Option ρ} (h1 : ∀ i : Nat, i < n → step (mk (i : Int)) = some (.inl (mk ((i + 1 : Nat) : Int)))) (h2 : step (mk (n : Int)) = Option.map Sum.inr fin) : loopO step (mk 0) = fin := by
  suffices key : ∀ (k i : Nat), i + k = n → loopO step (mk (i : Int)) = fin from key n 0 (by omega)
  intro k
  induction k with
  | zero =>
    intro i hi
    obtain rfl : i = n := by omega
    rw [loopO_eq, h2]
    cases fin <;> rfl
  | succ k ih => exact fun i hi => (loopO_inl (h1 i (by omega))).trans (ih (i + 1) (by omega))

/-! ### sorting, each once -/
instance : Inhabited TBallot := ⟨⟨0, ByteArray.mk #[]⟩⟩
instance : DecidableEq TBallot := fun a b => decidable_of_iff (a.Counter = b.Counter ∧ a.Value = b.Value) (by cases a; cases b; simp)
theorem uniqueV (s : List ByteArray) (hs : s.length < 1000000000) : ∃ b, F_envelopes_unique_string_c89 s = some b ∧ b.Pairwise (fun x y => lessV x y = true) ∧ b.length ≤ s.length ∧ ∀ x, x ∈ b ↔ x ∈ s := by
  obtain ⟨t, h1, h2, h3, h4⟩ := sto_V.sorts (cmp := F_ballots_CompareValues) (c := cmpV) (fun x y => F_ballots_CompareValues_eq x y) cmpV_neg s hs ((Go.Sort.bitsLen s.length : Nat) : Int)
  have hc := compact_ok (eq := fun x y : ByteArray => decide (x = y)) (ne := fun x y => !decide (x = y)) (z := ByteArray.mk #[]) (fun _ _ => rfl) (fun _ _ => rfl) t (by omega)
  refine ⟨dd t, ?_, h3, by have := dd_len t; omega, h4⟩
  have h1' : F_slices_pdqsortCmpFunc_string_c89 s 0 (s.length : Int) ((Go.Sort.bitsLen s.length : Nat) : Int) = some ((), t) := h1
  have hc' : F_slices_Compact_string_string t = some (dd t) := hc
  simp only [F_envelopes_unique_string_c89, F_slices_SortFunc_string_string_c89, len_eq (show s.length < 4294967296 by omega), h1', hc', Option.bind_some]
theorem cmpI_dec (a b : Int) : decide (cmpI a b < 0) = decide (a < b) := by rw [decide_eq_decide]; exact cmpI_neg a b
theorem uniqueN (s : List Int) (hs : s.length < 1000000000) : ∃ b, F_envelopes_unique_int_c93 s = some b ∧ b.Pairwise (· < ·) ∧ b.length ≤ s.length ∧ ∀ x, x ∈ b ↔ x ∈ s := by
  obtain ⟨t, h1, h2, h3, h4⟩ := sto_int.sorts (cmp := F_cmp_Compare_int) (c := cmpI) (fun x y => F_cmp_Compare_int_eq x y) cmpI_dec s hs ((Go.Sort.bitsLen s.length : Nat) : Int)
  have hc := compact_ok (eq := fun x y : Int => decide (x = y)) (ne := fun x y => !decide (x = y)) (z := 0) (fun _ _ => rfl) (fun _ _ => rfl) t (by omega)
  refine ⟨dd t, ?_, h3.imp fun h => of_decide_eq_true h, by have := dd_len t; omega, h4⟩
  have h1' : F_slices_pdqsortCmpFunc_int_c93 s 0 (s.length : Int) ((Go.Sort.bitsLen s.length : Nat) : Int) = some ((), t) := h1
  simp only [F_envelopes_unique_int_c93, F_slices_SortFunc_int_int_c93, len_eq (show s.length < 4294967296 by omega), h1', Option.bind_some, compI_eq, hc]

theorem flat_len {α β : Type} (f : α → List β) (hf : ∀ x, (f x).length ≤ 3) : ∀ l : List α, (l.flatMap f).length ≤ 3 * l.length
  | [] => by simp
  | x :: l => by
    have := flat_len f hf l
    have := hf x
    rw [List.flatMap_cons, List.length_append, List.length_cons]
    omega
section
variable {l : List TEnvelope} (hl : ∀ e ∈ l, SmT e.Trust) (hlen : l.length ≤ 1000)
 include hl hlen
theorem Values_eq : ∃ b, F_envelopes_Values l = some b ∧ b.Pairwise (fun x y => lessV x y = true) ∧ b.length ≤ 3000 ∧ ∀ x, x ∈ b ↔ ∃ e ∈ l, isValid e = true ∧ x = e.Ballot.Value := by
  have hf : ∀ e : TEnvelope, (if isValid e then [e.Ballot.Value] else []).length ≤ 3 := fun e => by split <;> simp
  obtain ⟨b, h1, h2, hbl, h3⟩ := uniqueV (l.flatMap fun e => if isValid e then [e.Ballot.Value] else []) (by have := flat_len _ hf l; omega)
  refine ⟨b, ?_, h2, by have := flat_len _ hf l; omega, fun x => ?_⟩
  · unfold F_envelopes_Values
    refine (collect_ok l (by omega) (fun e => if isValid e then [e.Ballot.Value] else []) (fun e _ => hf e) (fin := fun acc => Option.bind (F_envelopes_unique_string_c89 acc) fun r6 => some r6) (fun i e acc he hd hx hw hok hal => ?_) (fun acc hd => ?_)).trans ?_
    · have o3 := hok 16 1 (by omega) (by omega) hal
      simp only [hd, hx, hw, cond_true, letJ_eq, Option.bind_some, TTrust.eta, TEnvelope.eta, Valid_eq (hl e he), List.length_cons, List.length_nil, o3, Nat.zero_add]
      cases isValid e <;> simp
    · simp only [hd, cond_false]
    · simp only [h1, Option.bind_some]
  · rw [h3, List.mem_flatMap]
    constructor
    · rintro ⟨e, he, hx⟩
      split at hx
      · rename_i hv
        exact ⟨e, he, hv, by simpa using hx⟩
      · cases hx
    · rintro ⟨e, he, hv, hx⟩
      exact ⟨e, he, by rw [if_pos hv]; simpa using hx⟩
theorem BoundsL_eq (v : ByteArray) : ∃ b, F_envelopes_Bounds l v = some b ∧ b.Pairwise (· < ·) ∧ b.length ≤ 3000 ∧ ∀ x, x ∈ b ↔ x ∈ ends v l := by
  have hf : ∀ e : TEnvelope, (if hasBounds v e then [e.Low, e.High] else []).length ≤ 3 := fun e => by split <;> simp
  obtain ⟨b, h1, h2, hbl, h3⟩ := uniqueN (ends v l) (by have := flat_len _ hf l; unfold ends; omega)
  refine ⟨b, ?_, h2, by have := flat_len _ hf l; unfold ends at hbl; omega, h3⟩
  unfold F_envelopes_Bounds
  refine (collect_ok l (by omega) (fun e => if hasBounds v e then [e.Low, e.High] else []) (fun e _ => hf e) (fin := fun acc => Option.bind (F_envelopes_unique_int_c93 acc) fun r6 => some r6) (fun i e acc he hd hx hw hok hal => ?_) (fun acc hd => ?_)).trans ?_
  · have o3 := hok 8 2 (by omega) (by omega) hal
    simp only [hd, hx, hw, cond_true, letJ_eq, Option.bind_some, TTrust.eta, TEnvelope.eta, Valid_eq (hl e he), List.length_cons, List.length_nil, o3, Nat.zero_add, Nat.reduceAdd]
    unfold hasBounds
    cases isValid e <;> cases decide (e.Ballot.Value = v) <;> cases decide (e.Low = 0) <;> simp
  · simp only [hd, cond_false]
  · exact (congrArg (fun o => Option.bind o fun r6 => some r6) h1)
end
end Go.Proofs.YtncjalhhkmojlaaGreat

set_option linter.unusedVariables false
namespace Go.Proofs.YtncjalhhkmojlaaGreat
open Go.TQ

section
variable {l : List TEnvelope} (hl : ∀ e ∈ l, SmT e.Trust) (hlen : l.length ≤ 1000)
 include hl hlen
end
section
variable {node : Nat} (hn : node < 10) {t : TTrust} (ht : SmT t) {l : List TEnvelope} (hl : SmL l)
 include hn ht hl
end
end Go.Proofs.YtncjalhhkmojlaaGreat

set_option linter.unusedVariables false
namespace Go.Proofs.YtncjalhhkmojlaaGreat
open Go.TQ

noncomputable def valuesN (l : List TEnvelope) : List ByteArray := (F_envelopes_Values l).getD []
noncomputable def boundsN (l : List TEnvelope) (v : ByteArray) : List Int := (F_envelopes_Bounds l v).getD []
section
variable {l : List TEnvelope} (hl : ∀ e ∈ l, SmT e.Trust) (hlen : l.length ≤ 1000)
 include hl hlen
theorem valuesN_ok : F_envelopes_Values l = some (valuesN l) ∧ (valuesN l).Pairwise (fun x y => lessV x y = true) ∧ (valuesN l).length ≤ 3000 ∧ ∀ x, x ∈ valuesN l ↔ ∃ e ∈ l, isValid e = true ∧ x = e.Ballot.Value := by
  obtain ⟨b, h1, h2, h3, h4⟩ := Values_eq hl hlen
  have : valuesN l = b := by rw [valuesN, h1]; rfl
  rw [this]
  exact ⟨h1, h2, h3, h4⟩
theorem boundsN_ok (v : ByteArray) : F_envelopes_Bounds l v = some (boundsN l v) ∧ (boundsN l v).Pairwise (· < ·) ∧ (boundsN l v).length ≤ 3000 ∧ ∀ x, x ∈ boundsN l v ↔ x ∈ ends v l := by
  obtain ⟨b, h1, h2, h3, h4⟩ := BoundsL_eq hl hlen v
  have : boundsN l v = b := by rw [boundsN, h1]; rfl
  rw [this]
  exact ⟨h1, h2, h3, h4⟩
end
theorem bounds_in {l : List TEnvelope} (hl : SmL l) (hlen : l.length ≤ 1000) (v : ByteArray) : ∀ x ∈ boundsN l v, 1 ≤ x ∧ x ≤ 1000 := by
  obtain ⟨_, _, _, h⟩ := boundsN_ok hl.trust hlen v
  intro x hx
  obtain ⟨e, he, hb, hy⟩ := mem_ends.1 ((h x).1 hx)
  simp only [hasBounds, Bool.and_eq_true, Bool.not_eq_true', decide_eq_false_iff_not] at hb
  have hv := hb.1.1
  have h0 := hb.2
  unfold isValid validE at hv
  rw [Bool.and_eq_true] at hv
  have hv := hv.2
  by_cases k1 : e.Kind = 1
  · rw [if_pos k1] at hv
    simp only [prepOk, finite, Bool.and_eq_true, decide_eq_true_eq] at hv
    omega
  · rw [if_neg k1] at hv
    by_cases k2 : e.Kind = 2
    · rw [if_pos k2] at hv
      simp only [commOk, ranged, Bool.and_eq_true, decide_eq_true_eq] at hv
      omega
    · rw [if_neg k2] at hv
      by_cases k3 : e.Kind = 3
      · rw [if_pos k3] at hv
        simp only [extOk, ranged, Bool.and_eq_true, decide_eq_true_eq] at hv
        omega
      · rw [if_neg k3] at hv; cases hv
/-- a loop that folds, its place between two parts of the state -/
theorem fold2_loop {α A B ρ : Type} (l : List α) (hl : l.length ≤ 1000000) (f : A × B → α → A × B) {step : A × Int × B × Unit → Option ((A × Int × B × Unit) ⊕ ρ)} {fin : A × B → Option ρ}
    (h1 : ∀ (i : Nat) (x : α) (a : A) (b : B), x ∈ l → decide ((i : Int) < ((l.length : Nat) : Int)) = true → idx l (i : Int) = some x → addI .i64 (i : Int) 1 = ((i + 1 : Nat) : Int) → step (a, (i : Int), b, ()) = some (.inl ((f (a, b) x).1, ((i + 1 : Nat) : Int), (f (a, b) x).2, ())))
    (h2 : ∀ a b, decide (((l.length : Nat) : Int) < ((l.length : Nat) : Int)) = false → step (a, ((l.length : Nat) : Int), b, ()) = Option.map Sum.inr (fin (a, b))) (a : A) (b : B) : loopO step (a, (0 : Int), b, ()) = fin (l.foldl f (a, b)) := by
  suffices key : ∀ (k i : Nat) (a : A) (b : B), i + k = l.length → loopO step (a, (i : Int), b, ()) = fin ((l.drop i).foldl f (a, b)) from key l.length 0 a b (by omega)
  intro k
  induction k with
  | zero =>
    intro i a b hi
    obtain rfl : i = l.length := by omega
    rw [loopO_eq, h2 a b (decide_eq_false (Int.lt_irrefl _)), List.drop_length, List.foldl_nil]
    cases fin (a, b) <;> rfl
  | succ k ih =>
    intro i a b hi
    have hlt : i < l.length := by omega
    rw [loopO_inl (h1 i l[i] a b (List.getElem_mem hlt) (decide_eq_true (by omega)) (by rw [idx_nat]; exact List.getElem?_eq_getElem hlt) (add64 (by omega) (by omega))), ih (i + 1) _ _ (by omega), List.drop_eq_getElem_cons hlt, List.foldl_cons]

def abB (p q : TBallot) (v : ByteArray) (n : Int) : Bool := aborts p ⟨n, v⟩ || aborts q ⟨n, v⟩
theorem First_1_eq (v : ByteArray) (n : Int) (p q : TBallot) : F_commit_First_1 v n p q = some (abB p q v n) := by
  simp only [F_commit_First_1, F_ballots_Aborts_eq, Option.bind_some, bif_some, Bool.cond_true_left, abB]
noncomputable def extN (b : List Int) (ready : Int → Int → Bool) (low high : Int) : Int × Int :=
  match b.reverse.find? (fun n => decide (high < n) && ready n n) with
  | none => (downN (fun x => ready x high) b.reverse low, high)
  | some n =>
    let bottom := downN (fun x => ready x n) b.reverse n
    (downN (fun x => ready x n) b.reverse (if high < bottom - 1 ∨ bottom < low then bottom else low), n)
noncomputable def extStep (S : TSeen) (b : List Int) (v : ByteArray) (m8 : Nat) (e9 : Int) (v7 : Int × Int × Unit) : Option ((Int × Int × Unit) ⊕ (Int × Int × Unit)) :=
  Option.bind (bif (decide (e9 ≤ v7.2.1)) then some true else Option.bind (F_commit_ready S v e9 e9) fun r10 => some (!r10)) fun b11 =>
  bif b11 then some (Sum.inl (v7.1, v7.2.1, ())) else
  Option.bind (F_commit_downward_c122 b e9 S v e9) fun r12 =>
  letJ (fun (v13 : Int × Unit) => Option.map Sum.inr (Option.bind (F_commit_downward_c123 b v13.1 S v e9) fun r5 => some (r5, e9, ()))) fun j14 =>
  Option.bind (bif (decide (v7.2.1 < (subI .i64 r12 (1 : Int)))) then some true else some (decide (r12 < v7.1))) fun b15 =>
  bif b15 then j14 (r12, ()) else j14 (v7.1, ())
noncomputable def extFin (S : TSeen) (b : List Int) (v : ByteArray) (v16 : Int × Int × Unit) : Option (Int × Int × Unit) := Option.bind (F_commit_downward_c123 b v16.1 S v v16.2.1) fun r5 => some (r5, v16.2.1, ())
section
variable {node : Nat} (hn : node < 10) {t : TTrust} (ht : SmT t) {l : List TEnvelope} (hl : SmL l)
 include hn ht hl
end
end Go.Proofs.YtncjalhhkmojlaaGreat

set_option linter.unusedVariables false
namespace Go.Proofs.YtncjalhhkmojlaaGreat
open Go.TQ

theorem low_pos {e : TEnvelope} (hv : isValid e = true) : e.Kind = 1 ∧ 0 ≤ e.Low ∧ e.Low ≤ e.High ∨ e.Kind ≠ 1 ∧ 1 ≤ e.Low ∧ e.Low ≤ e.High := by
  unfold isValid validE at hv
  rw [Bool.and_eq_true] at hv
  have h := hv.2
  by_cases k1 : e.Kind = 1
  · rw [if_pos k1] at h
    simp only [prepOk, Bool.and_eq_true, decide_eq_true_eq] at h
    omega
  · rw [if_neg k1] at h
    by_cases k2 : e.Kind = 2
    · rw [if_pos k2] at h
      simp only [commOk, ranged, Bool.and_eq_true, decide_eq_true_eq] at h
      omega
    · rw [if_neg k2] at h
      by_cases k3 : e.Kind = 3
      · rw [if_pos k3] at h
        simp only [extOk, ranged, Bool.and_eq_true, decide_eq_true_eq] at h
        omega
      · rw [if_neg k3] at h; cases h
end Go.Proofs.YtncjalhhkmojlaaGreat

set_option linter.unusedVariables false
namespace Go.Proofs.YtncjalhhkmojlaaGreat
open Go.TQ

/-! ### into a sorted list -/
section
variable {α : Type} [DecidableEq α] {lt : α → α → Bool}
def insS (lt : α → α → Bool) (x : α) : List α → List α
  | [] => [x]
  | y :: l => if lt y x then y :: insS lt x l else if y = x then y :: l else x :: y :: l
theorem mem_insS (x : α) : ∀ (l : List α) (z : α), z ∈ insS lt x l ↔ z = x ∨ z ∈ l
  | [], z => by simp [insS]
  | y :: l, z => by
    rw [insS]
    split
    · rw [List.mem_cons, mem_insS x l z, List.mem_cons]
      constructor
      · rintro (h | h | h)
        · exact .inr (.inl h)
        · exact .inl h
        · exact .inr (.inr h)
      · rintro (h | h | h)
        · exact .inr (.inl h)
        · exact .inl h
        · exact .inr (.inr h)
    · split
      · rename_i h
        rw [List.mem_cons]
        constructor
        · exact .inr
        · rintro (h1 | h1)
          · exact .inl (h1.trans h.symm)
          · exact h1
      · rw [List.mem_cons]
theorem STO.insS (h : STO lt) (x : α) : ∀ {l : List α}, l.Pairwise (fun a b => lt a b = true) → (Go.Proofs.YtncjalhhkmojlaaGreat.insS lt x l).Pairwise (fun a b => lt a b = true)
  | [], _ => by rw [Go.Proofs.YtncjalhhkmojlaaGreat.insS]; exact List.pairwise_singleton _ _
  | y :: l, hp => by
    rw [List.pairwise_cons] at hp
    rw [Go.Proofs.YtncjalhhkmojlaaGreat.insS]
    split
    · rename_i hy
      rw [List.pairwise_cons]
      refine ⟨fun z hz => ?_, h.insS x hp.2⟩
      rcases (mem_insS x l z).1 hz with rfl | hz
      · exact hy
      · exact hp.1 z hz
    · rename_i hy
      split
      · exact List.pairwise_cons.2 hp
      · rename_i hne
        have hxy : lt x y = true := by
          cases hc : lt x y with
          | true => rfl
          | false => exact absurd (h.total y x (by simpa using hy) hc) hne
        rw [List.pairwise_cons, List.pairwise_cons]
        refine ⟨fun z hz => ?_, hp⟩
        rcases List.mem_cons.1 hz with rfl | hz
        · exact hxy
        · exact h.trans _ _ _ hxy (hp.1 z hz)
theorem insS_len (x : α) : ∀ l : List α, (insS lt x l).length ≤ l.length + 1
  | [] => by simp [insS]
  | y :: l => by
    have := insS_len x l
    rw [insS]
    split
    · simp; omega
    · split <;> simp
/-- where it goes -/
theorem insS_at (x : α) : ∀ (l : List α) (i : Nat), (∀ j, j < i → ∃ y, l[j]? = some y ∧ lt y x = true) → (∀ y, l[i]? = some y → lt y x = false) → insS lt x l = if l[i]? = some x then l else l.take i ++ x :: l.drop i
  | [], i, h1, h2 => by
    cases i with
    | zero => simp [insS]
    | succ i => obtain ⟨y, hy, _⟩ := h1 0 (by omega); simp at hy
  | y :: l, i, h1, h2 => by
    cases i with
    | zero =>
      have hy := h2 y rfl
      rw [insS, hy, if_neg (by simp)]
      by_cases h : y = x
      · simp [h]
      · simp [h]
    | succ i =>
      obtain ⟨y', hy', hlt⟩ := h1 0 (by omega)
      simp only [List.getElem?_cons_zero, Option.some.injEq] at hy'
      subst hy'
      rw [insS, if_pos hlt, insS_at x l i (fun j hj => by
        obtain ⟨z, hz, h⟩ := h1 (j + 1) (by omega)
        exact ⟨z, by simpa using hz, h⟩) (fun z hz => h2 z (by simpa using hz))]
      simp only [List.getElem?_cons_succ, List.take_succ_cons, List.drop_succ_cons]
      split <;> simp
/-- all of some, one by one -/
theorem insAll (h : STO lt) : ∀ (xs l : List α), l.Pairwise (fun a b => lt a b = true) → (xs.foldl (fun l x => insS lt x l) l).Pairwise (fun a b => lt a b = true) ∧ ∀ z, z ∈ xs.foldl (fun l x => insS lt x l) l ↔ z ∈ xs ∨ z ∈ l
  | [], l, hp => ⟨hp, by simp⟩
  | x :: xs, l, hp => by
    obtain ⟨h1, h2⟩ := insAll h xs _ (h.insS x hp)
    rw [List.foldl_cons]
    refine ⟨h1, fun z => ?_⟩
    rw [h2, mem_insS, List.mem_cons]
    constructor
    · rintro (a | a | a)
      · exact .inl (.inr a)
      · exact .inl (.inl a)
      · exact .inr a
    · rintro ((a | a) | a)
      · exact .inr (.inl a)
      · exact .inl a
      · exact .inr (.inr a)
end
/-- slices of a list, as they are printed -/
theorem take_drop0 {α : Type} (l : List α) (i : Nat) : (l.take (Int.toNat (i : Int))).drop (Int.toNat (0 : Int)) = l.take i := by simp
theorem take_all {α : Type} (l : List α) (i : Nat) : (l.take (Int.toNat ((l.length : Nat) : Int))).drop (Int.toNat (i : Int)) = l.drop i := by simp
theorem slc_lo {i n : Nat} (h : i ≤ n) : slcOk (0 : Int) (i : Int) n = true := by
  simp only [slcOk, Bool.and_eq_true, decide_eq_true_eq]; omega
theorem slc_hi {i n : Nat} (h : i ≤ n) : slcOk (i : Int) (n : Int) n = true := by
  simp only [slcOk, Bool.and_eq_true, decide_eq_true_eq]; omega
theorem len_ok {bytes n : Nat} (h : bytes ≤ 200) (hn : n ≤ 1000000) : lenOk bytes n = true :=
  lenOk_small ⟨Nat.le_trans (Nat.mul_le_mul hn h) (by decide), hn⟩
/-- a loop that goes on while something is less -/
theorem while_at {α ρ : Type} (l : List α) (hl : l.length ≤ 1000000) (P : α → Bool) {step : Int × Unit → Option ((Int × Unit) ⊕ ρ)} {r : Nat → Option ρ}
    (h1 : ∀ (i : Nat) (y : α), l[i]? = some y → decide ((i : Int) < ((l.length : Nat) : Int)) = true → idx l (i : Int) = some y → P y = true → addI .i64 (i : Int) 1 = ((i + 1 : Nat) : Int) → step ((i : Int), ()) = some (.inl (((i + 1 : Nat) : Int), ())))
    (h2 : ∀ (i : Nat) (y : α), l[i]? = some y → decide ((i : Int) < ((l.length : Nat) : Int)) = true → idx l (i : Int) = some y → P y = false → step ((i : Int), ()) = Option.map Sum.inr (r i))
    (h3 : decide (((l.length : Nat) : Int) < ((l.length : Nat) : Int)) = false → step (((l.length : Nat) : Int), ()) = Option.map Sum.inr (r l.length)) :
    ∃ i, i ≤ l.length ∧ (∀ j, j < i → ∃ y, l[j]? = some y ∧ P y = true) ∧ (∀ y, l[i]? = some y → P y = false) ∧ loopO step ((0 : Int), ()) = r i := by
  suffices key : ∀ (k i : Nat), i + k = l.length → (∀ j, j < i → ∃ y, l[j]? = some y ∧ P y = true) → ∃ m, m ≤ l.length ∧ (∀ j, j < m → ∃ y, l[j]? = some y ∧ P y = true) ∧ (∀ y, l[m]? = some y → P y = false) ∧ loopO step ((i : Int), ()) = r m from key l.length 0 (by omega) (fun j hj => absurd hj (Nat.not_lt_zero _))
  intro k
  induction k with
  | zero =>
    intro i hi hj
    obtain rfl : i = l.length := by omega
    refine ⟨l.length, Nat.le_refl _, hj, fun y hy => by simp at hy, ?_⟩
    rw [loopO_eq, h3 (decide_eq_false (Int.lt_irrefl _))]
    cases r l.length <;> rfl
  | succ k ih =>
    intro i hi hj
    have hx : l[i]? = some l[i] := List.getElem?_eq_getElem (by omega)
    have hd : decide ((i : Int) < ((l.length : Nat) : Int)) = true := decide_eq_true (by omega)
    cases hP : P l[i] with
    | true =>
      rw [loopO_inl (h1 i _ hx hd (by rw [idx_nat]; exact hx) hP (add64 (by omega) (by omega)))]
      refine ih (i + 1) (by omega) fun j hj' => ?_
      rcases Nat.lt_or_ge j i with h | h
      · exact hj j h
      · obtain rfl : j = i := by omega
        exact ⟨_, hx, hP⟩
    | false =>
      refine ⟨i, by omega, hj, fun y hy => ?_, ?_⟩
      · rw [hx] at hy
        injection hy with hy
        rw [← hy]; exact hP
      · rw [loopO_eq, h2 i _ hx hd (by rw [idx_nat]; exact hx) hP]
        cases r i <;> rfl

theorem ins_while {α ρ : Type} [DecidableEq α] {lt : α → α → Bool} (l : List α) (hl : l.length ≤ 1000000) (x : α) {step : Int × Unit → Option ((Int × Unit) ⊕ ρ)} {k : List α → Option ρ}
    (h1 : ∀ (i : Nat) (y : α), decide ((i : Int) < ((l.length : Nat) : Int)) = true → idx l (i : Int) = some y → lt y x = true → addI .i64 (i : Int) 1 = ((i + 1 : Nat) : Int) → step ((i : Int), ()) = some (.inl (((i + 1 : Nat) : Int), ())))
    (h2 : ∀ (i : Nat) (y : α), i < l.length → decide ((i : Int) < ((l.length : Nat) : Int)) = true → decide ((i : Int) = ((l.length : Nat) : Int)) = false → idx l (i : Int) = some y → lt y x = false → step ((i : Int), ()) = Option.map Sum.inr (k (if y = x then l else l.take i ++ x :: l.drop i)))
    (h3 : decide (((l.length : Nat) : Int) < ((l.length : Nat) : Int)) = false → decide (((l.length : Nat) : Int) = ((l.length : Nat) : Int)) = true → step (((l.length : Nat) : Int), ()) = Option.map Sum.inr (k (l ++ [x]))) : loopO step ((0 : Int), ()) = k (insS lt x l) := by
  obtain ⟨i, hi, g1, g2, g3⟩ := while_at l hl (fun y => lt y x) (step := step) (r := fun i => k (if l[i]? = some x then l else l.take i ++ x :: l.drop i)) (fun i y hy hd hx hP hw => h1 i y hd hx hP hw) (fun i y hy hd hx hP => by
      have hlt := (List.getElem?_eq_some_iff.1 hy).1
      rw [h2 i y hlt hd (decide_eq_false (by omega)) hx hP, hy]
      by_cases hyx : y = x
      · simp [hyx]
      · have : ¬ (some y = some x) := fun h => hyx (by injection h)
        rw [if_neg hyx, if_neg this]) (fun hd => by
      rw [h3 hd (decide_eq_true rfl), if_neg (by simp), List.take_length, List.drop_length])
  rw [g3, insS_at x l i g1 g2]
/-- a fold with an invariant -/
theorem fold_loop {α σ ρ : Type} (l : List α) (hl : l.length ≤ 1000000) (f : σ → α → σ) (Inv : Nat → σ → Prop) {step : σ × Int × Unit → Option ((σ × Int × Unit) ⊕ ρ)} {fin : σ → Option ρ}
    (hI : ∀ i s x, x ∈ l → Inv i s → Inv (i + 1) (f s x))
    (h1 : ∀ (i : Nat) (x : α) (s : σ), Inv i s → i ≤ l.length → x ∈ l → decide ((i : Int) < ((l.length : Nat) : Int)) = true → idx l (i : Int) = some x → addI .i64 (i : Int) 1 = ((i + 1 : Nat) : Int) → step (s, (i : Int), ()) = some (.inl (f s x, ((i + 1 : Nat) : Int), ())))
    (h2 : ∀ s, decide (((l.length : Nat) : Int) < ((l.length : Nat) : Int)) = false → step (s, ((l.length : Nat) : Int), ()) = Option.map Sum.inr (fin s)) (s : σ) (hs : Inv 0 s) : loopO step (s, (0 : Int), ()) = fin (l.foldl f s) := by
  suffices key : ∀ (k i : Nat) (s : σ), i + k = l.length → Inv i s → loopO step (s, (i : Int), ()) = fin ((l.drop i).foldl f s) from key l.length 0 s (by omega) hs
  intro k
  induction k with
  | zero =>
    intro i s hi hs
    obtain rfl : i = l.length := by omega
    rw [loopO_eq, h2 s (decide_eq_false (Int.lt_irrefl _)), List.drop_length, List.foldl_nil]
    cases fin s <;> rfl
  | succ k ih =>
    intro i s hi hs
    have hlt : i < l.length := by omega
    rw [loopO_inl (h1 i l[i] s hs (by omega) (List.getElem_mem hlt) (decide_eq_true (by omega)) (by rw [idx_nat]; exact List.getElem?_eq_getElem hlt) (add64 (by omega) (by omega))), ih (i + 1) _ (by omega) (hI i s _ (List.getElem_mem hlt) hs), List.drop_eq_getElem_cons hlt, List.foldl_cons]
section
variable {l : List TEnvelope} (hl : ∀ e ∈ l, SmT e.Trust) (hlen : l.length ≤ 1000)
 include hl hlen
end
section
variable {l : List TEnvelope} (hl : ∀ e ∈ l, SmT e.Trust) (hlen : l.length ≤ 1000)
 include hl hlen
theorem rValues_eq : F_ref24_Values l = some (valuesN l) := by
  have hF : F_ref24_Values l = some (l.foldl (fun s e => if isValid e then insS lessV e.Ballot.Value s else s) []) := by
    unfold F_ref24_Values
    refine fold_loop l (by omega) (fun s e => if isValid e then insS lessV e.Ballot.Value s else s) (fun i s => s.length ≤ i) (fin := fun s => some s) (fun i s x _ hs => ?_) (fun i e s hs hi he hd hx hw => ?_) (fun s hd => ?_) [] (by simp)
    · show (if isValid x then insS lessV x.Ballot.Value s else s).length ≤ i + 1
      have := insS_len (lt := lessV) x.Ballot.Value s
      split <;> omega
    · simp only [hd, hx, hw, cond_true, letJ_eq, Option.bind_some, TTrust.eta, TEnvelope.eta, rValid_eq (hl e he)]
      cases hv : isValid e with
      | false => simp
      | true =>
        simp only [Bool.not_true, cond_false, if_true]
        refine ins_while (lt := lessV) s (by omega) e.Ballot.Value (k := fun t => some (Sum.inl (t, ((i + 1 : Nat) : Int), ()))) (fun j y hd' hx' hlt hw' => ?_) (fun j y hj hd' hde hx' hlt => ?_) (fun hd' hde => ?_)
        · simp only [hd', hx', hw', cond_true, Option.bind_some, F_ref23_LessValue_eq, hlt]
        · have e1 := take_drop0 s j
          have e2 := take_all s j
          simp only [hd', hx', hde, cond_true, cond_false, Option.bind_some, F_ref23_LessValue_eq, hlt, e1, e2, slc_lo (show j ≤ s.length by omega), slc_hi (show j ≤ s.length by omega)]
          rw [len_ok (by omega) (by simp; omega), len_ok (by omega) (by simp; omega), len_ok (by omega) (by simp; omega)]
          by_cases hyx : y = e.Ballot.Value <;> simp [hyx]
        · have e1 := take_drop0 s s.length
          have e2 := take_all s s.length
          simp only [hd', hde, cond_true, cond_false, e1, e2, slc_lo (Nat.le_refl s.length), slc_hi (Nat.le_refl s.length)]
          rw [len_ok (by omega) (by simp; omega), len_ok (by omega) (by simp; omega), len_ok (by omega) (by simp; omega)]
          simp
    · simp only [hd, cond_false]
  obtain ⟨_, h2, _, h4⟩ := valuesN_ok hl hlen
  have hflat : l.foldl (fun s e => if isValid e then insS lessV e.Ballot.Value s else s) [] = (l.flatMap fun e => if isValid e then [e.Ballot.Value] else []).foldl (fun l x => insS lessV x l) [] := by
    rw [List.foldl_flatMap]
    congr 1
    funext s e
    split <;> rfl
  rw [hF, hflat]
  obtain ⟨h5, h6⟩ := insAll sto_V (l.flatMap fun e => if isValid e then [e.Ballot.Value] else []) [] .nil
  congr 1
  refine sto_V.unique h5 h2 fun x => ?_
  rw [h6, h4]
  simp only [List.mem_flatMap, List.not_mem_nil, or_false]
  constructor
  · rintro ⟨e, he, hx⟩
    split at hx
    · rename_i hv
      exact ⟨e, he, hv, by simpa using hx⟩
    · cases hx
  · rintro ⟨e, he, hv, hx⟩
    exact ⟨e, he, by rw [if_pos hv]; simpa using hx⟩
theorem rBounds_eq (v : ByteArray) : F_ref24_Bounds l v = some (boundsN l v) := by
  have hF : F_ref24_Bounds l v = some (l.foldl (fun s e => if hasBounds v e then insS (fun a b => decide (a < b)) e.High (insS (fun a b => decide (a < b)) e.Low s) else s) []) := by
    unfold F_ref24_Bounds
    refine fold_loop l (by omega) (fun s e => if hasBounds v e then insS (fun a b => decide (a < b)) e.High (insS (fun a b => decide (a < b)) e.Low s) else s) (fun i s => s.length ≤ 2 * i) (fin := fun s => some s) (fun i s x _ hs => ?_) (fun i e s hs hi he hd hx hw => ?_) (fun s hd => ?_) [] (by simp)
    · show (if hasBounds v x then insS (fun a b => decide (a < b)) x.High (insS (fun a b => decide (a < b)) x.Low s) else s).length ≤ 2 * (i + 1)
      have h1 := insS_len (lt := fun a b : Int => decide (a < b)) x.Low s
      have h2 := insS_len (lt := fun a b : Int => decide (a < b)) x.High (insS (fun a b => decide (a < b)) x.Low s)
      split <;> omega
    · simp only [hd, hx, hw, cond_true, letJ_eq, Option.bind_some, TTrust.eta, TEnvelope.eta, rValid_eq (hl e he)]
      have inner : ∀ (t : List Int) (x : Int) (z : Int), t.length ≤ 3000 → loopO (fun (v12 : Int × Unit) =>
          Option.bind (bif (decide (v12.1 < ((List.length t : Nat) : Int))) then Option.bind (idx t v12.1) fun x13 => some (decide (x13 < x)) else some false) fun b14 =>
          bif b14 then some (Sum.inl ((addI .i64 v12.1 (1 : Int)), ())) else
          Option.map Sum.inr (Option.bind (bif (decide (v12.1 = ((List.length t : Nat) : Int))) then some true else Option.bind (idx t v12.1) fun x15 => some (!decide (x15 = x))) fun b16 =>
          bif b16 then
          bif slcOk (0 : Int) v12.1 (List.length t) then
          bif lenOk 8 (List.length ((t.take (Int.toNat v12.1)).drop (Int.toNat (0 : Int)))) then
          bif lenOk 8 (List.length ((t.take (Int.toNat v12.1)).drop (Int.toNat (0 : Int))) + List.length [x]) then
          bif slcOk v12.1 (t.length : Int) (List.length t) then
          bif lenOk 8 (List.length (((t.take (Int.toNat v12.1)).drop (Int.toNat (0 : Int))) ++ [x]) + List.length ((t.take (Int.toNat (t.length : Int))).drop (Int.toNat v12.1))) then
          some (Sum.inl (((((t.take (Int.toNat v12.1)).drop (Int.toNat (0 : Int))) ++ [x]) ++ ((t.take (Int.toNat (t.length : Int))).drop (Int.toNat v12.1))), z, ()) : ((List Int) × Int × Unit) ⊕ (((List Int) × Int × Unit) ⊕ (List Int)))
          else none else none else none else none else none
          else some (Sum.inl (t, z, ())))) ((0 : Int), ()) = some (Sum.inl (insS (fun a b => decide (a < b)) x t, z, ())) := by
        intro t x z ht
        refine ins_while (lt := fun a b : Int => decide (a < b)) t (by omega) x (k := fun t => some (Sum.inl (t, z, ()))) (fun j y hd' hx' hlt hw' => ?_) (fun j y hj hd' hde hx' hlt => ?_) (fun hd' hde => ?_)
        · simp only [hd', hx', hw', cond_true, Option.bind_some, hlt]
        · have e1 := take_drop0 t j
          have e2 := take_all t j
          simp only [hd', hx', hde, cond_true, cond_false, Option.bind_some, hlt, e1, e2, slc_lo (show j ≤ t.length by omega), slc_hi (show j ≤ t.length by omega)]
          rw [len_ok (by omega) (by simp; omega), len_ok (by omega) (by simp; omega), len_ok (by omega) (by simp; omega)]
          by_cases hyx : y = x <;> simp [hyx]
        · have e1 := take_drop0 t t.length
          have e2 := take_all t t.length
          simp only [hd', hde, cond_true, cond_false, Option.bind_some, e1, e2, slc_lo (Nat.le_refl t.length), slc_hi (Nat.le_refl t.length)]
          rw [len_ok (by omega) (by simp; omega), len_ok (by omega) (by simp; omega), len_ok (by omega) (by simp; omega)]
          simp
      have hw1 : addI .i64 (0 : Int) 1 = 1 := rfl
      have hw2 : addI .i64 (1 : Int) 1 = 2 := rfl
      have hd0 : decide ((0 : Int) < 2) = true := rfl
      have hd1 : decide ((1 : Int) < 2) = true := rfl
      have hd2 : decide ((2 : Int) < 2) = false := rfl
      have hx0 : idx [e.Low, e.High] 0 = some e.Low := rfl
      have hx1 : idx [e.Low, e.High] 1 = some e.High := rfl
      have hl1 := insS_len (lt := fun a b : Int => decide (a < b)) e.Low s
      unfold hasBounds
      cases hv : isValid e with
      | false => simp
      | true =>
        by_cases hvv : e.Ballot.Value = v
        · by_cases hlo : e.Low = 0
          · simp [hvv, hlo]
          · simp only [Bool.not_true, cond_false, hvv, decide_true, hlo, decide_false, Bool.and_self, Bool.not_false, Option.bind_some, if_true]
            refine (loopO_inl (s' := (insS (fun a b => decide (a < b)) e.Low s, (1 : Int), ())) ?_).trans ((loopO_inl (s' := (insS (fun a b => decide (a < b)) e.High (insS (fun a b => decide (a < b)) e.Low s), (2 : Int), ())) ?_).trans (loopO_inr ?_))
            · simp only [hd0, hx0, hw1, cond_true, Option.bind_some]
              exact inner s e.Low 1 (by omega)
            · simp only [hd1, hx1, hw2, cond_true, Option.bind_some]
              exact inner _ e.High 2 (by omega)
            · simp only [hd2, cond_false, Option.map_some]
        · simp [hvv]
    · simp only [hd, cond_false]
  obtain ⟨_, h2, _, h4⟩ := boundsN_ok hl hlen v
  have hflat : l.foldl (fun s e => if hasBounds v e then insS (fun a b => decide (a < b)) e.High (insS (fun a b => decide (a < b)) e.Low s) else s) [] = (ends v l).foldl (fun l x => insS (fun a b => decide (a < b)) x l) [] := by
    rw [ends, List.foldl_flatMap]
    congr 1
    funext s e
    split <;> rfl
  rw [hF, hflat]
  obtain ⟨h5, h6⟩ := insAll sto_int (ends v l) [] .nil
  congr 1
  refine sto_int.unique h5 (h2.imp fun h => decide_eq_true h) fun x => ?_
  rw [h6, h4]
  simp
end
end Go.Proofs.YtncjalhhkmojlaaGreat

set_option linter.unusedVariables false
namespace Go.Proofs.YtncjalhhkmojlaaGreat
open Go.TQ

/-! ### votes of the document -/
theorem kinds {e : TEnvelope} (hv : isValid e = true) : e.Kind = 1 ∨ e.Kind = 2 ∨ e.Kind = 3 := by
  unfold isValid validE at hv
  rw [Bool.and_eq_true] at hv
  have h := hv.2
  by_cases k1 : e.Kind = 1
  · exact .inl k1
  · by_cases k2 : e.Kind = 2
    · exact .inr (.inl k2)
    · by_cases k3 : e.Kind = 3
      · exact .inr (.inr k3)
      · rw [if_neg k1, if_neg k2, if_neg k3] at h; cases h
theorem rAcceptsC_eq {e : TEnvelope} (h : SmT e.Trust) (v : ByteArray) (lo hi : Int) : F_ref24_AcceptsCommit e v lo hi = some (isValid e && acceptsC e v lo hi) := by
  simp only [F_ref24_AcceptsCommit, TTrust.eta, TEnvelope.eta, rValid_eq h, Option.bind_some, bif_some, acceptsC, fromC]
  cases hv : isValid e with
  | false => simp
  | true =>
    have hk := kinds hv
    by_cases a1 : lo < 1 <;> by_cases a2 : hi < lo <;> by_cases a3 : e.Ballot.Value = v <;> by_cases a4 : lo < e.Low <;> by_cases k1 : e.Kind = 1 <;> by_cases k3 : e.Kind = 3 <;> simp_all <;> grind
theorem rVotesC_eq {e : TEnvelope} (h : SmT e.Trust) (v : ByteArray) (lo hi : Int) : F_ref24_VotesCommit e v lo hi = some (isValid e && votesC e v lo hi) := by
  simp only [F_ref24_VotesCommit, TTrust.eta, TEnvelope.eta, rValid_eq h, Option.bind_some, bif_some, votesC, fromC]
  cases hv : isValid e with
  | false => simp
  | true =>
    have hl := low_pos hv
    by_cases a1 : lo < 1 <;> by_cases a2 : hi < lo <;> by_cases a3 : e.Ballot.Value = v <;> by_cases a4 : lo < e.Low <;> by_cases k1 : e.Kind = 1 <;> by_cases a5 : e.Low = 0 <;> simp_all <;> grind

/-! ### sets of nodes -/
theorem whoN_rights (p : TEnvelope → Bool) : ∀ l : List TEnvelope, whoN (fun e => isValid e && p e) l = whoN p (rights l)
  | [] => rfl
  | e :: l => by
    have ih := whoN_rights p l
    rw [whoN, ih]
    cases hv : isValid e <;> simp [rights, hv, whoN]
theorem Set_loop (l : List TEnvelope) (hlen : l.length ≤ 1000) (p : TEnvelope → Bool) (hp : ∀ e ∈ l, p e = true → 0 ≤ e.Node ∧ e.Node < 10) : F_ref24_Set l (l.map p) = some ((whoN p l : Nat) : Int) := by
  unfold F_ref24_Set
  suffices key : ∀ (k i s : Nat), i + k = l.length → s < 1024 → loopO _ ((s : Int), (i : Int), ()) = some ((s ||| whoN p (l.drop i) : Nat) : Int) by
    have := key l.length 0 0 (by omega) (by omega)
    rw [Nat.zero_or, List.drop_zero] at this
    exact this
  intro k
  induction k with
  | zero =>
    intro i s hi hs
    obtain rfl : i = l.length := by omega
    have hd : decide (((l.length : Nat) : Int) < ((l.length : Nat) : Int)) = false := decide_eq_false (Int.lt_irrefl _)
    rw [loopO_inr (r := (s : Int)) (by simp only [hd, cond_false, Option.map_some]), List.drop_length, whoN]
    simp
  | succ k ih =>
    intro i s hi hs
    have hlt : i < l.length := by omega
    have hd : decide ((i : Int) < ((l.length : Nat) : Int)) = true := decide_eq_true (by omega)
    have hd2 : decide ((i : Int) < (((l.map p).length : Nat) : Int)) = true := decide_eq_true (by rw [List.length_map]; omega)
    have hw : addI .i64 (i : Int) 1 = ((i + 1 : Nat) : Int) := add64 (by omega) (by omega)
    have hx : idx l (i : Int) = some l[i] := by rw [idx_nat]; exact List.getElem?_eq_getElem hlt
    have hx2 : idx (l.map p) (i : Int) = some (p l[i]) := by rw [idx_nat, List.getElem?_map, List.getElem?_eq_getElem hlt]; rfl
    rw [List.drop_eq_getElem_cons hlt, whoN]
    cases hpe : p l[i] with
    | false =>
      rw [loopO_inl (s' := ((s : Int), ((i + 1 : Nat) : Int), ())) (by simp only [hd, hd2, hx, hx2, hw, hpe, cond_true, cond_false, letJ_eq, Option.bind_some]), ih (i + 1) s (by omega) hs]
      simp
    | true =>
      obtain ⟨h0, h1⟩ := hp _ (List.getElem_mem hlt) hpe
      have hc : convI .u64 l[i].Node = l[i].Node := by
        obtain ⟨n, hn⟩ : ∃ n : Nat, l[i].Node = n := ⟨l[i].Node.toNat, by omega⟩
        rw [hn]
        exact convU' (by omega)
      have hn0 : ¬ l[i].Node < 0 := by omega
      have d1 : decide ((0 : Int) ≤ l[i].Node) = true := decide_eq_true h0
      have d2 : decide (l[i].Node ≤ (9 : Int)) = true := decide_eq_true (by omega)
      rw [loopO_inl (s' := (((s ||| 2 ^ l[i].Node.toNat : Nat) : Int), ((i + 1 : Nat) : Int), ())) (by
        simp only [hd, hd2, hx, hx2, hw, hpe, cond_true, letJ_eq, Option.bind_some, d1, d2, hc, hn0, if_false]
        rw [orI_bit hs h0 h1]), ih (i + 1) _ (by omega) (or_lt hs h1)]
      simp [Nat.or_assoc]
/-- two lists of answers -/
theorem two_loop {ρ : Type} (l : List TEnvelope) (hl : l.length ≤ 1000) (p q : TEnvelope → Bool) {step : Int × List Bool × List Bool × Unit → Option ((Int × List Bool × List Bool × Unit) ⊕ ρ)} {fin : List Bool → List Bool → Option ρ}
    (h1 : ∀ (i : Nat) (e : TEnvelope) (vs as_ : List Bool), e ∈ l → decide ((i : Int) < ((l.length : Nat) : Int)) = true → idx l (i : Int) = some e → addI .i64 (i : Int) 1 = ((i + 1 : Nat) : Int) → (∀ x : Bool, lenOk 1 (vs.length + [x].length) = true) → (∀ x : Bool, lenOk 1 (as_.length + [x].length) = true) → step ((i : Int), vs, as_, ()) = some (.inl (((i + 1 : Nat) : Int), vs ++ [p e], as_ ++ [q e], ())))
    (h2 : ∀ vs as_, decide (((l.length : Nat) : Int) < ((l.length : Nat) : Int)) = false → step (((l.length : Nat) : Int), vs, as_, ()) = Option.map Sum.inr (fin vs as_)) : loopO step ((0 : Int), [], [], ()) = fin (l.map p) (l.map q) := by
  suffices key : ∀ (k i : Nat), i + k = l.length → loopO step ((i : Int), (l.take i).map p, (l.take i).map q, ()) = fin (l.map p) (l.map q) from key l.length 0 (by omega)
  intro k
  induction k with
  | zero =>
    intro i hi
    obtain rfl : i = l.length := by omega
    rw [loopO_eq, h2 _ _ (decide_eq_false (Int.lt_irrefl _)), List.take_length]
    cases fin (l.map p) (l.map q) <;> rfl
  | succ k ih =>
    intro i hi
    have hlt : i < l.length := by omega
    rw [loopO_inl (h1 i l[i] _ _ (List.getElem_mem hlt) (decide_eq_true (by omega)) (by rw [idx_nat]; exact List.getElem?_eq_getElem hlt) (add64 (by omega) (by omega)) (fun x => len_ok (by omega) (by simp; omega)) (fun x => len_ok (by omega) (by simp; omega))), ← ih (i + 1) (by omega), List.take_succ_eq_append_getElem hlt, List.map_append, List.map_append]
    rfl
theorem valid_in {p : TEnvelope → Bool} {l : List TEnvelope} : ∀ e ∈ l, (isValid e && p e) = true → 0 ≤ e.Node ∧ e.Node < 10 := fun e _ h => by
  rw [Bool.and_eq_true] at h
  exact isValid_node h.1
section
variable {l : List TEnvelope} (hl : ∀ e ∈ l, SmT e.Trust) (hlen : l.length ≤ 1000)
 include hl hlen
theorem sets26_eq (v : ByteArray) (lo hi : Int) : F_ref26_sets l v lo hi = some (((whoN (fun e => votesC e v lo hi || acceptsC e v lo hi) (rights l) : Nat) : Int), ((whoN (acceptsC · v lo hi) (rights l) : Nat) : Int), ()) := by
  unfold F_ref26_sets
  refine (two_loop l hlen (fun e => isValid e && (votesC e v lo hi || acceptsC e v lo hi)) (fun e => isValid e && acceptsC e v lo hi) (fin := fun vs as_ => Option.bind (F_ref24_Set l vs) fun r6 => Option.bind (F_ref24_Set l as_) fun r7 => some (r6, r7, ())) (fun i e vs as_ he hd hx hw o1 o2 => ?_) (fun vs as_ hd => ?_)).trans ?_
  · simp only [hd, hx, hw, cond_true, Option.bind_some, TTrust.eta, TEnvelope.eta, rAcceptsC_eq (hl e he), rVotesC_eq (hl e he), bif_some, o1, o2]
    cases isValid e <;> cases votesC e v lo hi <;> cases acceptsC e v lo hi <;> rfl
  · simp only [hd, cond_false]
  · rw [Set_loop l hlen _ valid_in, Set_loop l hlen _ valid_in, Option.bind_some, Option.bind_some, whoN_rights, whoN_rights]
end

/-! ### federated voting of the document -/
theorem rfedAccepts_eq {c : TConfig} (hc : SmC c) {v a b : Nat} (hv : v < 10) (h1 : a < 1024) (h2 : b < 1024) : F_ref18_Accepts c v a b = some (fedAccepts c.Members v a b) := by
  unfold F_ref18_Accepts fedAccepts
  have h3 : a ||| b < 1024 := Nat.or_lt_two_pow (n := 10) h1 h2
  rw [rvalidS_nat h1, rvalidS_nat h2, rBlocks_eq hc h2, orI_nat a b (by omega) (by omega), rGreatest_eq hc h3]
  simp [hasS_nat (gq_is hc h3).lt, hasN_nat, hv]
theorem rfedConfirms_eq {c : TConfig} (hc : SmC c) {v b : Nat} (hv : v < 10) (h2 : b < 1024) : F_ref18_Confirms c v b = some ((gq c.Members b).testBit v) := by
  unfold F_ref18_Confirms
  rw [rGreatest_eq hc h2]
  simp [hasS_nat (gq_is hc h2).lt, hasN_nat, hv]
/-- no node at all -/
def OutN (v : Int) : Prop := v < 0 ∨ 10 ≤ v
theorem has_out {v : Int} (h : OutN v) (s : Int) : hasS s v = false := by
  unfold hasS inNode
  have : (decide (0 ≤ v) && decide (v < 10)) = false := by
    rcases h with h | h
    · rw [show decide (0 ≤ v) = false from decide_eq_false (by omega)]; rfl
    · rw [show decide (v < 10) = false from decide_eq_false (by omega)]; simp
  simp [this]
theorem fed_out {c : TConfig} (hc : SmC c) {v : Int} (hv : OutN v) {a b : Nat} (h1 : a < 1024) (h2 : b < 1024) : F_federated_Accepts c v a b = some false := by
  have h3 : a ||| b < 1024 := Nat.or_lt_two_pow (n := 10) h1 h2
  unfold F_federated_Accepts F_blocking_Blocks
  rw [validS_nat h1, validS_nat h2, Declared_eq hc.len, orI_nat a b (by omega) (by omega), Greatest_eq hc h3]
  simp [has_out hv]
theorem rfed_out {c : TConfig} (hc : SmC c) {v : Int} (hv : OutN v) {a b : Nat} (h1 : a < 1024) (h2 : b < 1024) : F_ref18_Accepts c v a b = some false := by
  have h3 : a ||| b < 1024 := Nat.or_lt_two_pow (n := 10) h1 h2
  unfold F_ref18_Accepts F_ref11_Blocks
  rw [rvalidS_nat h1, rvalidS_nat h2, rDeclared_eq hc.len, orI_nat a b (by omega) (by omega), rGreatest_eq hc h3]
  simp [has_out hv]
theorem conf_out {c : TConfig} (hc : SmC c) {v : Int} (hv : OutN v) {b : Nat} (h2 : b < 1024) : F_federated_Confirms c v b = some false := by
  unfold F_federated_Confirms
  rw [Greatest_eq hc h2]
  simp [has_out hv]
theorem rconf_out {c : TConfig} (hc : SmC c) {v : Int} (hv : OutN v) {b : Nat} (h2 : b < 1024) : F_ref18_Confirms c v b = some false := by
  unfold F_ref18_Confirms
  rw [rGreatest_eq hc h2]
  simp [has_out hv]
def emptyC : TConfig := ⟨List.replicate 10 noMember⟩
theorem emptyC_sm : SmC emptyC := by
  refine ⟨by simp [emptyC], fun m hm => ?_⟩
  rw [List.eq_of_mem_replicate (show m ∈ List.replicate 10 noMember from hm)]
  exact .mk _ (by simp [noMember]) (by simp [noMember]) (by simp [noMember])
theorem view_out {v : Int} (hv : OutN v) (t : TTrust) (l : List TEnvelope) : F_prepare_View v t l = some emptyC := by
  unfold F_prepare_View
  have h1 : (decide ((10 : Int) = 10) && decide ((0 : Int) ≤ 10) && lenOk 64 (Int.toNat 10)) = true := by
    rw [lenOk_small (by decide)]; rfl
  rw [h1]
  rcases hv with hv | hv
  · simp only [cond_true, hv, decide_true, Option.bind_some]
    rfl
  · have : ¬ v < 0 := by omega
    simp only [cond_true, this, decide_false, cond_false, hv, decide_true, Option.bind_some]
    rfl
theorem rview_out {v : Int} (hv : OutN v) (t : TTrust) (l : List TEnvelope) : F_ref25_View v t l = some emptyC := by
  unfold F_ref25_View
  have h1 : (decide ((10 : Int) = 10) && decide ((0 : Int) ≤ 10) && lenOk 64 (Int.toNat 10)) = true := by
    rw [lenOk_small (by decide)]; rfl
  rw [h1]
  rcases hv with hv | hv
  · simp only [cond_true, hv, decide_true, Option.bind_some]
    rfl
  · have h0 : ¬ v < 0 := by omega
    have h9 : (9 : Int) < v := by omega
    simp only [cond_true, h0, decide_false, cond_false, h9, decide_true, Option.bind_some]
    rfl
end Go.Proofs.YtncjalhhkmojlaaGreat

set_option linter.unusedVariables false
namespace Go.Proofs.YtncjalhhkmojlaaGreat
open Go.TQ

theorem node_cases (v : Int) : OutN v ∨ ∃ n : Nat, n < 10 ∧ v = n := by
  by_cases h : v < 0
  · exact .inl (.inl h)
  · by_cases h' : 10 ≤ v
    · exact .inl (.inr h')
    · exact .inr ⟨v.toNat, by omega, by omega⟩
section
variable {node : Int} {t : TTrust} {l : List TEnvelope} (hl : SmL l) (hlen : l.length ≤ 1000) {c : TConfig} {x y : TBallot → Bool}
 include hl hlen
end

/-! ### raw arguments -/
/-- is a raw trust small? -/
theorem thin_of {t : TTrust} {step : Int × Unit → Option ((Int × Unit) ⊕ Bool)} (h4 : t.Inner.length ≤ 4) (h12 : t.Nodes.length ≤ 12)
    (h1 : ∀ (i : Nat) (x : TTrust), decide ((i : Int) < ((t.Inner.length : Nat) : Int)) = true → idx t.Inner (i : Int) = some x → addI .i64 (i : Int) 1 = ((i + 1 : Nat) : Int) → step ((i : Int), ()) = some (bif (decide ((12 : Int) < ((x.Nodes.length : Nat) : Int)) || decide ((0 : Int) < ((x.Inner.length : Nat) : Int))) then .inr false else .inl (((i + 1 : Nat) : Int), ())))
    (h2 : decide (((t.Inner.length : Nat) : Int) < ((t.Inner.length : Nat) : Int)) = false → step (((t.Inner.length : Nat) : Int), ()) = some (.inr true)) : ∃ b, loopO step ((0 : Int), ()) = some b ∧ (b = true → SmT t) := by
  suffices key : ∀ (k i : Nat), i + k = t.Inner.length → (∀ u ∈ t.Inner.take i, SmT u) → ∃ b, loopO step ((i : Int), ()) = some b ∧ (b = true → SmT t) from key t.Inner.length 0 (by omega) (by simp)
  intro k
  induction k with
  | zero =>
    intro i hi hu
    obtain rfl : i = t.Inner.length := by omega
    rw [List.take_length] at hu
    exact ⟨true, loopO_inr (h2 (decide_eq_false (Int.lt_irrefl _))), fun _ => .mk t (by omega) (by omega) hu⟩
  | succ k ih =>
    intro i hi hu
    have hlt : i < t.Inner.length := by omega
    have hs := h1 i t.Inner[i] (decide_eq_true (by omega)) (by rw [idx_nat]; exact List.getElem?_eq_getElem hlt) (add64 (by omega) (by omega))
    cases hb : (decide ((12 : Int) < ((t.Inner[i].Nodes.length : Nat) : Int)) || decide ((0 : Int) < ((t.Inner[i].Inner.length : Nat) : Int))) with
    | true => rw [hb] at hs; exact ⟨false, loopO_inr hs, fun h => by cases h⟩
    | false =>
      rw [hb] at hs
      rw [loopO_inl hs]
      refine ih (i + 1) (by omega) fun u huu => ?_
      rw [List.take_succ_eq_append_getElem hlt, List.mem_append, List.mem_singleton] at huu
      rcases huu with huu | rfl
      · exact hu u huu
      · simp only [Bool.or_eq_false_iff, decide_eq_false_iff_not] at hb
        have h0 : t.Inner[i].Inner = [] := List.eq_nil_of_length_eq_zero (by omega)
        exact .mk _ (by omega) (by omega) (by rw [h0]; simp)
/-- are raw envelopes few and small? -/
theorem few_of {l : List TEnvelope} (hmax : l.length ≤ 9223372036854775807) {thin : TTrust → Option Bool} (hthin : ∀ t, ∃ b, thin t = some b ∧ (b = true → SmT t)) {step : Int × Unit → Option ((Int × Unit) ⊕ Bool)}
    (h1 : ∀ (i : Nat) (e : TEnvelope) (b : Bool), decide ((i : Int) < ((l.length : Nat) : Int)) = true → idx l (i : Int) = some e → addI .i64 (i : Int) 1 = ((i + 1 : Nat) : Int) → thin e.Trust = some b → ∃ big : Bool, step ((i : Int), ()) = some (bif (!b || big) then .inr false else .inl (((i + 1 : Nat) : Int), ())))
    (h2 : decide (((l.length : Nat) : Int) < ((l.length : Nat) : Int)) = false → step (((l.length : Nat) : Int), ()) = some (.inr (decide (((l.length : Nat) : Int) ≤ 12)))) : ∃ b, loopO step ((0 : Int), ()) = some b ∧ (b = true → l.length ≤ 12 ∧ SmL l) := by
  suffices key : ∀ (k i : Nat), i + k = l.length → (∀ e ∈ l.take i, SmT e.Trust) → ∃ b, loopO step ((i : Int), ()) = some b ∧ (b = true → l.length ≤ 12 ∧ SmL l) from key l.length 0 (by omega) (by simp)
  intro k
  induction k with
  | zero =>
    intro i hi hu
    obtain rfl : i = l.length := by omega
    rw [List.take_length] at hu
    refine ⟨_, loopO_inr (h2 (decide_eq_false (Int.lt_irrefl _))), fun h => ?_⟩
    have := of_decide_eq_true h
    exact ⟨by omega, by omega, hu⟩
  | succ k ih =>
    intro i hi hu
    have hlt : i < l.length := by omega
    obtain ⟨b, hb, hbs⟩ := hthin l[i].Trust
    obtain ⟨big, hs⟩ := h1 i l[i] b (decide_eq_true (by omega)) (by rw [idx_nat]; exact List.getElem?_eq_getElem hlt) (add64 (by omega) (by omega)) hb
    cases hbb : (!b || big) with
    | true => rw [hbb] at hs; exact ⟨false, loopO_inr hs, fun h => by cases h⟩
    | false =>
      rw [hbb] at hs
      rw [loopO_inl hs]
      refine ih (i + 1) (by omega) fun e he => ?_
      rw [List.take_succ_eq_append_getElem hlt, List.mem_append, List.mem_singleton] at he
      rcases he with he | rfl
      · exact hu e he
      · refine hbs ?_
        cases b with
        | true => rfl
        | false => cases hbb
end Go.Proofs.YtncjalhhkmojlaaGreat

set_option linter.unusedVariables false
namespace Go.Proofs.YtncjalhhkmojlaaGreat
open Go.TQ

theorem idx_mem {α : Type} {l : List α} {i : Nat} (h : i < l.length) : ∃ x ∈ l, idx l (i : Int) = some x := ⟨l[i], List.getElem_mem h, by rw [idx_nat]; exact List.getElem?_eq_getElem h⟩
/-- rounds that draw -/
theorem src_loop {ρ : Type} {p : ρ → Prop} (n : Nat) {step : Int × TSrc × Unit → Option ((Int × TSrc × Unit) ⊕ ρ)}
    (h1 : ∀ (i : Nat) (s : TSrc), i < n → OkS s → Yd (step ((i : Int), s, ())) fun y => match y with | .inl z => z.1 = ((i + 1 : Nat) : Int) ∧ OkS z.2.1 | .inr r => p r)
    (h2 : ∀ s, OkS s → Yd (step ((n : Int), s, ())) fun y => match y with | .inl _ => False | .inr r => p r) {s : TSrc} (hs : OkS s) : Yd (loopO step ((0 : Int), s, ())) p := by
  suffices key : ∀ (k i : Nat) (s : TSrc), i + k = n → OkS s → Yd (loopO step ((i : Int), s, ())) p from key n 0 s (by omega) hs
  intro k
  induction k with
  | zero =>
    intro i s hi hs
    obtain rfl : i = n := by omega
    obtain ⟨y, hy, hp⟩ := h2 s hs
    cases y with
    | inl z => exact hp.elim
    | inr r => exact ⟨r, loopO_inr hy, hp⟩
  | succ k ih =>
    intro i s hi hs
    obtain ⟨y, hy, hp⟩ := h1 i s (by omega) hs
    cases y with
    | inl z =>
      obtain ⟨z1, z2, z3⟩ := z
      obtain ⟨hz, hs'⟩ := hp
      simp only at hz hs'
      subst hz
      rw [loopO_inl hy]
      exact ih (i + 1) z2 (by omega) hs'
    | inr r => exact ⟨r, loopO_inr hy, hp⟩
end Go.Proofs.YtncjalhhkmojlaaGreat

set_option linter.unusedVariables false
namespace Go.Proofs.YtncjalhhkmojlaaGreat
open Go.TQ

/-! ### going down by the place -/
def runR {A ρ : Type} (g : A → Int → A ⊕ ρ) (fin : A → Option ρ) : List Int → A → Option ρ
  | [], a => fin a
  | x :: l, a => match g a x with
    | .inl a' => runR g fin l a'
    | .inr r => some r
theorem place_loop {A σ ρ : Type} (b : List Int) (hb : b.length ≤ 1000000) (st : A → Int → σ) (g : A → Int → A ⊕ ρ) (fin : A → Option ρ) {step : σ → Option (σ ⊕ ρ)}
    (h1 : ∀ (i : Nat) (x : Int) (a : A), idx b (i : Int) = some x → decide ((0 : Int) ≤ (i : Int)) = true → subI .i64 (i : Int) 1 = (i : Int) - 1 → step (st a (i : Int)) = some (match g a x with | .inl a' => .inl (st a' ((i : Int) - 1)) | .inr r => .inr r))
    (h2 : ∀ a, decide ((0 : Int) ≤ (-1 : Int)) = false → step (st a (-1)) = Option.map Sum.inr (fin a)) : ∀ n : Nat, n ≤ b.length → ∀ a : A, loopO step (st a ((n : Int) - 1)) = runR g fin (b.take n).reverse a
  | 0, _, a => by
    rw [show ((0 : Nat) : Int) - 1 = -1 by omega, loopO_eq, h2 a rfl, List.take_zero, List.reverse_nil, runR]
    cases fin a <;> rfl
  | n + 1, hn, a => by
    have hlt : n < b.length := by omega
    have hs := h1 n b[n] a (by rw [idx_nat]; exact List.getElem?_eq_getElem hlt) (decide_eq_true (by omega)) (sub64 (by omega) (by omega))
    rw [show ((n + 1 : Nat) : Int) - 1 = (n : Int) by omega, List.take_succ_eq_append_getElem hlt, List.reverse_append, List.reverse_singleton, List.singleton_append, runR]
    cases hg : g a b[n] with
    | inl a' => rw [hg] at hs; rw [loopO_inl hs, place_loop b hb st g fin h1 h2 n (by omega) a']
    | inr r => rw [hg] at hs; rw [loopO_inr hs]
theorem sub_len (b : List Int) (hb : b.length ≤ 1000000) : subI .i64 ((b.length : Nat) : Int) 1 = ((b.length : Nat) : Int) - 1 := sub64 (by omega) (by omega)
theorem runR_down {ρ : Type} (q : Int → Bool) (f : Int → ρ) : ∀ (l : List Int) (lo : Int), runR (fun lo x => if lo ≤ x then .inl lo else if q x then .inl x else .inr (f lo)) (fun lo => some (f lo)) l lo = some (f (downN q l lo))
  | [], lo => rfl
  | x :: l, lo => by
    rw [runR, downN]
    by_cases h1 : lo ≤ x
    · rw [if_pos h1, if_pos h1]
      exact runR_down q f l lo
    · rw [if_neg h1, if_neg h1]
      cases hq : q x with
      | true => rw [if_pos rfl, if_pos rfl]; exact runR_down q f l x
      | false => rw [if_neg (by simp), if_neg (by simp)]
theorem runR_find {A ρ : Type} (s : A) (c p : Int → Bool) (f : Int → ρ) (d : ρ) (g : A → Int → A ⊕ ρ) (fin : A → Option ρ) (hg : ∀ z, g s z = if c z then (if p z then .inr (f z) else .inl s) else .inr d) (hfin : fin s = some d) (hc : ∀ a b, b < a → c b = true → c a = true) :
    ∀ r : List Int, r.Pairwise (fun a b => b < a) → runR g fin r s = some (match r.find? (fun n => c n && p n) with | some n => f n | none => d)
  | [], _ => hfin
  | z :: r, h => by
    rw [runR, hg, List.find?_cons]
    rw [List.pairwise_cons] at h
    cases hz : c z with
    | false =>
      have : r.find? (fun n => c n && p n) = none := by
        rw [List.find?_eq_none]
        intro n hn hcn
        rw [Bool.and_eq_true] at hcn
        rw [hc z n (h.1 n hn) hcn.1] at hz
        cases hz
      simp [this]
    | true =>
      cases hp : p z with
      | true => simp
      | false =>
        simp only [if_true, Bool.true_and]
        exact runR_find s c p f d g fin hg hfin hc r h.2
theorem runR_below {ρ : Type} (q : Int → Bool) (f : Int → ρ) : ∀ (r : List Int) (lo : Int), (∀ z ∈ r, z < lo) → r.Pairwise (fun a b => b < a) → runR (fun lo z => if q z then .inl z else .inr (f lo)) (fun lo => some (f lo)) r lo = some (f (downN q r lo))
  | [], lo, _, _ => rfl
  | z :: r, lo, h, hs => by
    rw [List.pairwise_cons] at hs
    have hz := h z (by simp)
    have h0 : ¬ lo ≤ z := by omega
    rw [runR, downN, if_neg h0]
    cases hq : q z with
    | true => rw [if_pos rfl, if_pos rfl]; exact runR_below q f r z hs.1 hs.2
    | false => rw [if_neg (by simp), if_neg (by simp)]
/-- a loop that folds, its place ahead of the state -/
theorem foldI_loop {α B ρ : Type} (l : List α) (hl : l.length ≤ 1000000) (f : B → α → B) {step : Int × B × Unit → Option ((Int × B × Unit) ⊕ ρ)} {fin : B → Option ρ}
    (h1 : ∀ (i : Nat) (x : α) (b : B), x ∈ l → decide ((i : Int) < ((l.length : Nat) : Int)) = true → idx l (i : Int) = some x → addI .i64 (i : Int) 1 = ((i + 1 : Nat) : Int) → step ((i : Int), b, ()) = some (.inl (((i + 1 : Nat) : Int), f b x, ())))
    (h2 : ∀ b, decide (((l.length : Nat) : Int) < ((l.length : Nat) : Int)) = false → step (((l.length : Nat) : Int), b, ()) = Option.map Sum.inr (fin b)) (b : B) : loopO step ((0 : Int), b, ()) = fin (l.foldl f b) := by
  suffices key : ∀ (k i : Nat) (b : B), i + k = l.length → loopO step ((i : Int), b, ()) = fin ((l.drop i).foldl f b) from key l.length 0 b (by omega)
  intro k
  induction k with
  | zero =>
    intro i b hi
    obtain rfl : i = l.length := by omega
    rw [loopO_eq, h2 b (decide_eq_false (Int.lt_irrefl _)), List.drop_length, List.foldl_nil]
    cases fin b <;> rfl
  | succ k ih =>
    intro i b hi
    have hlt : i < l.length := by omega
    rw [loopO_inl (h1 i l[i] b (List.getElem_mem hlt) (decide_eq_true (by omega)) (by rw [idx_nat]; exact List.getElem?_eq_getElem hlt) (add64 (by omega) (by omega))), ih (i + 1) _ (by omega), List.drop_eq_getElem_cons hlt, List.foldl_cons]
/-- what lies above changes nothing -/
theorem downN_above (q : Int → Bool) : ∀ (l r : List Int) (lo : Int), (∀ x ∈ l, lo ≤ x) → downN q (l ++ r) lo = downN q r lo
  | [], r, lo, _ => rfl
  | x :: l, r, lo, h => by
    rw [List.cons_append, downN, if_pos (h x (by simp))]
    exact downN_above q l r lo fun y hy => h y (by simp [hy])

theorem downN_in (q : Int → Bool) : ∀ (r : List Int) (lo : Int), (∀ x ∈ r, 0 ≤ x ∧ x ≤ 1000000) → 0 ≤ lo ∧ lo ≤ 1000000 → 0 ≤ downN q r lo ∧ downN q r lo ≤ 1000000
  | [], lo, _, h => h
  | x :: r, lo, hx, h => by
    rw [downN]
    split
    · exact downN_in q r lo (fun y hy => hx y (by simp [hy])) h
    · split
      · exact downN_in q r x (fun y hy => hx y (by simp [hy])) (hx x (by simp))
      · exact h

/-! ### what a node sees, and what it may accept and confirm -/
theorem seen_ready_eq {c : TConfig} {node : Int} {l : List TEnvelope} (hlen : l.length ≤ 100000) (v : ByteArray) (lo hi : Int) : F_commit_ready ⟨node, c, (rights l).map TRight.mk⟩ v lo hi = F_federated_Accepts c node ((whoN (fun e => votesC e v lo hi || acceptsC e v lo hi) (rights l) : Nat) : Int) ((whoN (acceptsC · v lo hi) (rights l) : Nat) : Int) := by
  have hrl := rights_len l
  have hin := rights_in l
  simp only [F_commit_ready, F_commit_accepts, F_prepare_Seen_Accepts_c157_c187, Option.bind_some, Option.bind_fun_some, Who_eitherC (by omega : (rights l).length ≤ 1000000) hin, Who_acceptsC (by omega : (rights l).length ≤ 1000000) hin]
theorem seen_sure_eq {c : TConfig} {node : Int} {l : List TEnvelope} (hlen : l.length ≤ 100000) (v : ByteArray) (lo hi : Int) : F_commit_sure ⟨node, c, (rights l).map TRight.mk⟩ v lo hi = F_federated_Confirms c node ((whoN (acceptsC · v lo hi) (rights l) : Nat) : Int) := by
  have hrl := rights_len l
  have hin := rights_in l
  simp only [F_commit_sure, F_commit_accepts, F_prepare_Seen_Confirms_c187, Option.bind_some, Option.bind_fun_some, Who_acceptsC (by omega : (rights l).length ≤ 1000000) hin]
theorem any26 (node : Int) {t : TTrust} (ht : SmT t) {l : List TEnvelope} (hl : SmL l) (hlen : l.length ≤ 1000) :
    ∃ (S : TSeen) (x y : ByteArray → Int → Int → Bool), F_prepare_Look node t l = some S ∧ (∀ v lo hi, F_commit_ready S v lo hi = some (x v lo hi)) ∧ (∀ v lo hi, F_commit_sure S v lo hi = some (y v lo hi)) ∧
      (∀ v lo hi, F_ref26_Accepts node t l v lo hi = some (x v lo hi)) ∧ (∀ v lo hi, F_ref26_Confirms node t l v lo hi = some (y v lo hi)) := by
  have hin := rights_in l
  rcases node_cases node with ho | ⟨n, hn, rfl⟩
  · have hv := view_out ho t l
    have hL : F_prepare_Look node t l = some ⟨node, emptyC, (rights l).map TRight.mk⟩ := by
      unfold F_prepare_Look
      simp only [TTrust.eta, hv, Rights_eq hl, Option.bind_some]
    refine ⟨_, fun _ _ _ => false, fun _ _ _ => false, hL, fun v lo hi => ?_, fun v lo hi => ?_, fun v lo hi => ?_, fun v lo hi => ?_⟩
    · rw [seen_ready_eq (by omega), fed_out emptyC_sm ho (whoN_lt hin) (whoN_lt hin)]
    · rw [seen_sure_eq (by omega), conf_out emptyC_sm ho (whoN_lt hin)]
    · simp only [F_ref26_Accepts, TTrust.eta, sets26_eq hl.trust hlen, rview_out ho, Option.bind_some, rfed_out emptyC_sm ho (whoN_lt hin) (whoN_lt hin)]
    · simp only [F_ref26_Confirms, TTrust.eta, sets26_eq hl.trust hlen, rview_out ho, Option.bind_some, rconf_out emptyC_sm ho (whoN_lt hin)]
  · have hsm := viewN_sm (node := n) ht hl
    refine ⟨seenOf n t l, commReady n t l, commSure n t l, look_eq hn ht hl, ready_eq hn ht hl, sure_eq hn ht hl, fun v lo hi => ?_, fun v lo hi => ?_⟩
    · simp only [F_ref26_Accepts, TTrust.eta, sets26_eq hl.trust hlen, rView_eq hn hl, Option.bind_some, rfedAccepts_eq hsm hn (whoN_lt hin) (whoN_lt hin)]
      rfl
    · simp only [F_ref26_Confirms, TTrust.eta, sets26_eq hl.trust hlen, rView_eq hn hl, Option.bind_some, rfedConfirms_eq hsm hn (whoN_lt hin)]
      rfl
noncomputable def bestStepX (x : ByteArray → Int → Int → Bool) (p q : TBallot) (v : ByteArray) (s : Bool × TBallot) (n : Int) : Bool × TBallot :=
  if lessB s.2 ⟨n, v⟩ && !abB p q v n && x v n n then (true, ⟨n, v⟩) else s
noncomputable def bestX (x : ByteArray → Int → Int → Bool) (l : List TEnvelope) (p q : TBallot) : Bool × TBallot :=
  (valuesN l).foldl (fun s v => (boundsN l v).foldl (bestStepX x p q v) s) (false, ⟨0, noVal⟩)
noncomputable def firstX (x : ByteArray → Int → Int → Bool) (l : List TEnvelope) (p q : TBallot) (s : Bool × TBallot) : ByteArray × Int × Int × Bool × Unit :=
  if s.1 then (s.2.Value, downN (fun n => !abB p q s.2.Value n && x s.2.Value n s.2.Counter) (boundsN l s.2.Value).reverse s.2.Counter, s.2.Counter, true, ()) else (noVal, 0, 0, false, ())
section
variable {S : TSeen} {x y : ByteArray → Int → Int → Bool} (hx : ∀ v lo hi, F_commit_ready S v lo hi = some (x v lo hi)) (hy : ∀ v lo hi, F_commit_sure S v lo hi = some (y v lo hi))
section
 include hx
theorem downX103 (b : List Int) (lo : Int) (p q z : TBallot) : F_commit_downward_c103_c99 b lo p q z S = some (downN (fun n => !abB p q z.Value n && x z.Value n z.Counter) b.reverse lo) := by
  have := down_ok (p := fun e => F_commit_First_2_c99 e p q z S) (q := fun n => !abB p q z.Value n && x z.Value n z.Counter) (fun e => by
    simp only [F_commit_First_2_c99, First_1_eq, hx, Option.bind_some, bif_some]
    cases abB p q z.Value e <;> simp) b.reverse lo
  simp only [F_commit_downward_c103_c99, F_slices_Backward_int_int, letJ_eq, Option.bind_some]
  exact this
theorem downX122 (b : List Int) (lo : Int) (v : ByteArray) (hi : Int) : F_commit_downward_c122 b lo S v hi = some (downN (fun z => x v z hi) b.reverse lo) := by
  have := down_ok (p := fun e => F_commit_Extend_1 e S v hi) (q := fun z => x v z hi) (fun e => by simp only [F_commit_Extend_1, hx, Option.bind_some]) b.reverse lo
  simp only [F_commit_downward_c122, F_slices_Backward_int_int, letJ_eq, Option.bind_some]
  exact this
theorem downX123 (b : List Int) (lo : Int) (v : ByteArray) (hi : Int) : F_commit_downward_c123 b lo S v hi = some (downN (fun z => x v z hi) b.reverse lo) := by
  have := down_ok (p := fun e => F_commit_Extend_2 e S v hi) (q := fun z => x v z hi) (fun e => by simp only [F_commit_Extend_2, hx, Option.bind_some]) b.reverse lo
  simp only [F_commit_downward_c123, F_slices_Backward_int_int, letJ_eq, Option.bind_some]
  exact this
theorem extX_loop (b : List Int) (v : ByteArray) (low high : Int) (hb : ∀ x ∈ b, 0 ≤ x ∧ x ≤ 1000000) : ∀ r : List Int, (∀ x ∈ r, x ∈ b) → backO (extStep S b v) (extFin S b v) r (low, high, ()) =
    some (match r.find? (fun n => decide (high < n) && x v n n) with
      | none => (downN (fun z => x v z high) b.reverse low, high, ())
      | some n => (downN (fun z => x v z n) b.reverse (if high < downN (fun z => x v z n) b.reverse n - 1 ∨ downN (fun z => x v z n) b.reverse n < low then downN (fun z => x v z n) b.reverse n else low), n, ()))
  | [], _ => by simp only [backO, extFin, downX123 hx, Option.bind_some, List.find?_nil]
  | e :: r, hr => by
    have ih := extX_loop b v low high hb r (fun x hx => hr x (by simp [hx]))
    rw [List.find?_cons, backO]
    by_cases hle : e ≤ high
    · have h2 : decide (high < e) = false := decide_eq_false (by omega)
      have h1 : decide (e ≤ high) = true := decide_eq_true hle
      have hst : extStep S b v r.length e (low, high, ()) = some (.inl (low, high, ())) := by simp only [extStep, h1, cond_true, Option.bind_some]
      rw [hst, h2, Bool.false_and]
      exact ih
    · have h2 : decide (high < e) = true := decide_eq_true (by omega)
      have h1 : decide (e ≤ high) = false := decide_eq_false hle
      rw [h2, Bool.true_and]
      cases hr' : x v e e with
      | false =>
        have hst : extStep S b v r.length e (low, high, ()) = some (.inl (low, high, ())) := by simp only [extStep, h1, cond_false, hx, hr', Bool.not_false, Option.bind_some, cond_true]
        rw [hst]
        exact ih
      | true =>
        have hb9 := downN_in (fun z => x v z e) b.reverse e (fun z hz => hb z (by simpa using hz)) (hb e (hr e (by simp)))
        simp only [extStep, h1, cond_false, hx, hr', Bool.not_true, downX122 hx, downX123 hx, Option.bind_some, letJ_eq, bif_some, Bool.cond_true_left, Option.map_some]
        generalize downN (fun z => x v z e) b.reverse e = bt at *
        have e3 : subI .i64 bt 1 = bt - 1 := sub64 (by omega) (by omega)
        rw [e3]
        by_cases hc : high < bt - 1 ∨ bt < low
        · have : (decide (high < bt - 1) || decide (bt < low)) = true := by rw [Bool.or_eq_true]; simpa using hc
          rw [this, if_pos hc]
          rfl
        · have : (decide (high < bt - 1) || decide (bt < low)) = false := by
            rw [← Bool.not_eq_true, Bool.or_eq_true]; simpa using hc
          rw [this, if_neg hc]
          rfl
end
section
 include hy
theorem downX84 (b : List Int) (lo : Int) (v : ByteArray) (hi : Int) : F_commit_downward_c105 b lo S v hi = some (downN (fun z => y v z hi) b.reverse lo) := by
  have := down_ok (p := fun e => F_commit_Final_1 e S v hi) (q := fun z => y v z hi) (fun e => by simp only [F_commit_Final_1, hy, Option.bind_some]) b.reverse lo
  simp only [F_commit_downward_c105, F_slices_Backward_int_int, letJ_eq, Option.bind_some]
  exact this
end
variable {node : Int} {t : TTrust} {l : List TEnvelope} (hl : SmL l) (hlen : l.length ≤ 1000) (hL : F_prepare_Look node t l = some S)
 include hl hlen hL
section
 include hx
theorem FirstX (p q : TBallot) : F_commit_First node t l p q = some (firstX x l p q (bestX x l p q)) := by
  obtain ⟨h1, _, h3, _⟩ := valuesN_ok hl.trust hlen
  unfold F_commit_First
  simp only [TTrust.eta, hL, h1, Option.bind_some]
  refine (fold2_loop (valuesN l) (by omega) (fun s v => (boundsN l v).foldl (bestStepX x p q v) s) (fin := fun s => some (firstX x l p q s)) (fun i v a b hv hd hx' hw => ?_) (fun a b hd => ?_) false ⟨0, ByteArray.mk #[]⟩)
  · obtain ⟨g1, _, g3, _⟩ := boundsN_ok hl.trust hlen v
    simp only [hd, hx', hw, cond_true, Option.bind_some, g1]
    refine (fold2_loop (boundsN l v) (by omega) (bestStepX x p q v) (fin := fun s => some (Sum.inl (s.1, ((i + 1 : Nat) : Int), s.2, ()))) (fun i' n a' b' hv' hd' hx'' hw' => ?_) (fun a' b' hd' => ?_) a b)
    · simp only [hd', hx'', hw', cond_true, letJ_eq, Option.bind_some, F_ballots_Less_eq, First_1_eq, hx, bif_some]
      unfold bestStepX
      cases lessB b' ⟨n, v⟩ <;> cases abB p q v n <;> cases x v n n <;> simp
    · simp only [hd', cond_false]
  · simp only [hd, cond_false]
    obtain ⟨g1, _, g3, _⟩ := boundsN_ok hl.trust hlen b.Value
    unfold firstX
    cases a
    · rfl
    · simp only [Bool.not_true, cond_false, g1, Option.bind_some, downX103 hx, if_true]
theorem ExtendX (v : ByteArray) (low high : Int) : F_commit_Extend node t l v low high = some ((extN (boundsN l v) (x v) low high).1, (extN (boundsN l v) (x v) low high).2, ()) := by
  obtain ⟨h1, _, _, _⟩ := boundsN_ok hl.trust hlen v
  have hin := bounds_in hl hlen v
  unfold F_commit_Extend
  simp only [TTrust.eta, hL, h1, Option.bind_some, F_slices_Backward_int_int]
  refine (extX_loop hx (boundsN l v) v low high (fun x hx => by have := hin x hx; omega) (boundsN l v).reverse (by simp)).trans ?_
  unfold extN
  cases (boundsN l v).reverse.find? (fun n => decide (high < n) && x v n n) <;> rfl
 omit hl hlen in
theorem AcceptsX (v : ByteArray) (lo hi : Int) : F_commit_Accepts node t l v lo hi = some (x v lo hi) := by simp only [F_commit_Accepts, TTrust.eta, hL, hx, Option.bind_some]
end
section
 include hy
theorem FinalX (v : ByteArray) : F_commit_Final node t l v = some (finalN (boundsN l v) (y v)) := by
  obtain ⟨h1, _, _, _⟩ := boundsN_ok hl.trust hlen v
  have := find_ok (p := fun e => F_commit_sure S v e e) (q := fun e => y v e e) (d := fun e => F_commit_downward_c105 (boundsN l v) e S v e) (f := fun e => downN (fun z => y v z e) (boundsN l v).reverse e)
    (fun e => hy v e e) (fun e => downX84 hy (boundsN l v) e v e) (boundsN l v).reverse
  simp only [F_commit_Final, TTrust.eta, hL, h1, F_slices_Backward_int_int, Option.bind_some, finalN]
  exact this
 omit hl hlen in
theorem ConfirmsX (v : ByteArray) (lo hi : Int) : F_commit_Confirms node t l v lo hi = some (y v lo hi) := by simp only [F_commit_Confirms, TTrust.eta, hL, hy, Option.bind_some]
end
end

/-! ### the document's -/
noncomputable def stepR (x : ByteArray → Int → Int → Bool) (p q : TBallot) (v : ByteArray) (s : TBallot) (n : Int) : TBallot := if lessB s ⟨n, v⟩ && !abB p q v n && x v n n then ⟨n, v⟩ else s
theorem best_one {x : ByteArray → Int → Int → Bool} {p q : TBallot} (v : ByteArray) : ∀ (b : List Int), (∀ n ∈ b, 1 ≤ n) → ∀ s : Bool × TBallot, s.1 = !zeroB s.2 →
    (b.foldl (bestStepX x p q v) s).2 = b.foldl (stepR x p q v) s.2 ∧ (b.foldl (bestStepX x p q v) s).1 = !zeroB (b.foldl (bestStepX x p q v) s).2
  | [], _, s, h => ⟨rfl, h⟩
  | n :: b, hb, s, h => by
    rw [List.foldl_cons, List.foldl_cons]
    have hn := hb n (by simp)
    have h1 : (bestStepX x p q v s n).2 = stepR x p q v s.2 n := by unfold bestStepX stepR; split <;> rfl
    have h2 : (bestStepX x p q v s n).1 = !zeroB (bestStepX x p q v s n).2 := by
      unfold bestStepX
      split
      · have : decide (n = 0) = false := decide_eq_false (by omega)
        simp [zeroB, this]
      · exact h
    rw [← h1]
    exact best_one v b (fun n hn => hb n (by simp [hn])) _ h2
theorem best_all {x : ByteArray → Int → Int → Bool} {p q : TBallot} {l : List TEnvelope} (hl : SmL l) (hlen : l.length ≤ 1000) : ∀ (vs : List ByteArray) (s : Bool × TBallot), s.1 = !zeroB s.2 →
    (vs.foldl (fun s v => (boundsN l v).foldl (bestStepX x p q v) s) s).2 = vs.foldl (fun s v => (boundsN l v).foldl (stepR x p q v) s) s.2 ∧ (vs.foldl (fun s v => (boundsN l v).foldl (bestStepX x p q v) s) s).1 = !zeroB (vs.foldl (fun s v => (boundsN l v).foldl (bestStepX x p q v) s) s).2
  | [], s, h => ⟨rfl, h⟩
  | v :: vs, s, h => by
    rw [List.foldl_cons, List.foldl_cons]
    obtain ⟨h1, h2⟩ := best_one (x := x) (p := p) (q := q) v (boundsN l v) (fun n hn => (bounds_in hl hlen v n hn).1) s h
    rw [← h1]
    exact best_all hl hlen vs _ h2
section
variable {node : Int} {t : TTrust} {l : List TEnvelope} (hl : SmL l) (hlen : l.length ≤ 1000) {x y : ByteArray → Int → Int → Bool} (hx : ∀ v lo hi, F_ref26_Accepts node t l v lo hi = some (x v lo hi)) (hy : ∀ v lo hi, F_ref26_Confirms node t l v lo hi = some (y v lo hi))
 include hl hlen
section
 include hx
theorem rdown_eq (v : ByteArray) (lo hi : Int) : F_ref26_down node t l v lo hi = some (downN (fun z => x v z hi) (boundsN l v).reverse lo) := by
  obtain ⟨_, _, h3, _⟩ := boundsN_ok hl.trust hlen v
  unfold F_ref26_down
  simp only [TTrust.eta, rBounds_eq hl.trust hlen, Option.bind_some, sub_len _ (by omega : (boundsN l v).length ≤ 1000000), letJ_eq]
  refine (place_loop (boundsN l v) (by omega) (fun lo i => (lo, i, ())) (fun lo z => if lo ≤ z then .inl lo else if x v z hi then .inl z else .inr lo) (fun lo => some lo) (fun i z a hi' hd hs => ?_) (fun a hd => ?_) (boundsN l v).length (Nat.le_refl _) lo).trans ?_
  · simp only [hi', hd, hs, cond_true, Option.bind_some, hx]
    by_cases h1 : a ≤ z
    · simp [h1]
    · cases x v z hi <;> simp [h1]
  · simp only [hd, cond_false]
  · rw [List.take_length]
    exact runR_down (fun z => x v z hi) (fun lo => lo) _ _
theorem rExtendX (v : ByteArray) (low high : Int) : F_ref26_Extend node t l v low high = some ((extN (boundsN l v) (x v) low high).1, (extN (boundsN l v) (x v) low high).2, ()) := by
  obtain ⟨_, h2, h3, _⟩ := boundsN_ok hl.trust hlen v
  have hin := bounds_in hl hlen v
  unfold F_ref26_Extend
  simp only [TTrust.eta, rBounds_eq hl.trust hlen, rdown_eq hl hlen hx, Option.bind_some, sub_len _ (by omega : (boundsN l v).length ≤ 1000000), letJ_eq]
  refine (place_loop (boundsN l v) (by omega) (fun (s : Int × Int) i => (s.1, s.2, i, ()))
    (fun s z => if s.2 < z then (if x v z z then .inr (downN (fun w => x v w z) (boundsN l v).reverse (if s.2 < downN (fun w => x v w z) (boundsN l v).reverse z - 1 ∨ downN (fun w => x v w z) (boundsN l v).reverse z < s.1 then downN (fun w => x v w z) (boundsN l v).reverse z else s.1), z, ()) else .inl s)
      else .inr (downN (fun w => x v w s.2) (boundsN l v).reverse s.1, s.2, ()))
    (fun s => some (downN (fun w => x v w s.2) (boundsN l v).reverse s.1, s.2, ())) (fun i z s hi' hd hs => ?_) (fun s hd => ?_) (boundsN l v).length (Nat.le_refl _) (low, high)).trans ?_
  · have hz : z ∈ boundsN l v := by rw [idx_nat] at hi'; exact List.mem_of_getElem? hi'
    have hb9 := downN_in (fun w => x v w z) (boundsN l v).reverse z (fun w hw => by have := hin w (by simpa using hw); omega) (by have := hin z hz; omega)
    simp only [hi', hd, hs, cond_true, Option.bind_some, hx]
    by_cases h1 : s.2 < z
    · simp only [h1, decide_true, cond_true, if_true]
      cases hxz : x v z z with
      | false => simp
      | true =>
        generalize downN (fun w => x v w z) (boundsN l v).reverse z = bt at *
        have e3 : subI .i64 bt 1 = bt - 1 := sub64 (by omega) (by omega)
        simp only [Bool.not_true, cond_false, e3, if_true]
        by_cases h4 : s.2 < bt - 1
        · simp [h4]
        · by_cases h5 : bt < s.1
          · simp [h4, h5, minI]
          · simp [h4, h5, minI]
    · simp [h1]
  · simp only [hd, cond_false, Option.bind_some]
  · rw [List.take_length]
    refine (runR_find (low, high) (fun z => decide (high < z)) (fun z => x v z z) (fun z => (downN (fun w => x v w z) (boundsN l v).reverse (if high < downN (fun w => x v w z) (boundsN l v).reverse z - 1 ∨ downN (fun w => x v w z) (boundsN l v).reverse z < low then downN (fun w => x v w z) (boundsN l v).reverse z else low), z, ()))
      (downN (fun w => x v w high) (boundsN l v).reverse low, high, ()) _ _ (fun z => ?_) rfl (fun a b h h' => ?_) _ (List.pairwise_reverse.2 h2)).trans ?_
    · by_cases h4 : high < z <;> simp [h4]
    · simp only [decide_eq_true_eq] at h' ⊢
      omega
    · unfold extN
      cases (boundsN l v).reverse.find? (fun n => decide (high < n) && x v n n) <;> rfl
 omit hl hlen hx in
theorem free_eq (p q : TBallot) (n : Int) (v : ByteArray) : F_ref26_free p q n v = some (!abB p q v n) := by
  simp only [F_ref26_free, F_ref23_Aborts_eq, Option.bind_some, abB]
  cases aborts p ⟨n, v⟩ <;> cases aborts q ⟨n, v⟩ <;> rfl
theorem rFirstX (p q : TBallot) : F_ref26_First node t l p q = some (firstX x l p q (bestX x l p q)) := by
  obtain ⟨_, _, h3, _⟩ := valuesN_ok hl.trust hlen
  obtain ⟨e1, e2⟩ := best_all (x := x) (p := p) (q := q) hl hlen (valuesN l) (false, ⟨0, noVal⟩) rfl
  unfold F_ref26_First
  simp only [TTrust.eta, rValues_eq hl.trust hlen, Option.bind_some]
  refine (foldI_loop (valuesN l) (by omega) (fun s v => (boundsN l v).foldl (stepR x p q v) s) (fin := fun s => some (firstX x l p q (!zeroB s, s))) (fun i v b hv hd hx' hw => ?_) (fun b hd => ?_) ⟨0, ByteArray.mk #[]⟩).trans ?_
  · obtain ⟨_, _, g3, _⟩ := boundsN_ok hl.trust hlen v
    simp only [hd, hx', hw, cond_true, Option.bind_some, rBounds_eq hl.trust hlen]
    refine (foldI_loop (boundsN l v) (by omega) (stepR x p q v) (fin := fun s => some (Sum.inl (((i + 1 : Nat) : Int), s, ()))) (fun i' n b' hv' hd' hx'' hw' => ?_) (fun b' hd' => ?_) b)
    · simp only [hd', hx'', hw', cond_true, letJ_eq, Option.bind_some, F_ref23_Less_eq, free_eq, hx, bif_some]
      unfold stepR
      cases lessB b' ⟨n, v⟩ <;> cases abB p q v n <;> cases x v n n <;> simp
    · simp only [hd', cond_false]
  · obtain ⟨_, _, g3, _⟩ := boundsN_ok hl.trust hlen b.Value
    simp only [hd, cond_false, F_ref23_Zero_eq, Option.bind_some]
    unfold firstX
    cases zeroB b with
    | true => rfl
    | false =>
      simp only [Bool.not_false, if_true, cond_false, rBounds_eq hl.trust hlen, Option.bind_some, letJ_eq, sub_len _ (by omega : (boundsN l b.Value).length ≤ 1000000)]
      refine congrArg (Option.map Sum.inr) ((place_loop (boundsN l b.Value) (by omega) (fun lo i => (lo, i, ())) (fun lo z => if lo ≤ z then .inl lo else if !abB p q b.Value z && x b.Value z b.Counter then .inl z else .inr (b.Value, lo, b.Counter, true, ())) (fun lo => some (b.Value, lo, b.Counter, true, ())) (fun i z a hi' hd hs => ?_) (fun a hd => ?_) (boundsN l b.Value).length (Nat.le_refl _) b.Counter).trans ?_)
      · simp only [hi', hd, hs, cond_true, Option.bind_some, hx, free_eq]
        by_cases h1 : a ≤ z
        · simp [h1]
        · cases abB p q b.Value z <;> cases x b.Value z b.Counter <;> simp [h1]
      · simp only [hd, cond_false]
      · rw [List.take_length]
        exact runR_down (fun z => !abB p q b.Value z && x b.Value z b.Counter) (fun lo => (b.Value, lo, b.Counter, true, ())) _ _
  · unfold bestX
    rw [show (valuesN l).foldl (fun s v => (boundsN l v).foldl (stepR x p q v) s) ⟨0, ByteArray.mk #[]⟩ = ((valuesN l).foldl (fun s v => (boundsN l v).foldl (bestStepX x p q v) s) (false, ⟨0, noVal⟩)).2 from e1.symm, ← e2]
end
section
 include hy
theorem rFinalX (v : ByteArray) : F_ref26_Final node t l v = some (finalN (boundsN l v) (y v)) := by
  obtain ⟨_, h2, h3, _⟩ := boundsN_ok hl.trust hlen v
  unfold F_ref26_Final
  simp only [TTrust.eta, rBounds_eq hl.trust hlen, Option.bind_some, sub_len _ (by omega : (boundsN l v).length ≤ 1000000), letJ_eq]
  unfold finalN
  generalize boundsN l v = b at *
  suffices key : ∀ n : Nat, n ≤ b.length → loopO _ (((n : Nat) : Int) - 1, ()) = some (match (b.take n).reverse.find? (fun e => y v e e) with | some e => (downN (fun z => y v z e) b.reverse e, e, true, ()) | none => (0, 0, false, ())) by
    have := key b.length (Nat.le_refl _)
    rw [List.take_length] at this
    exact this
  intro n
  induction n with
  | zero =>
    intro _
    rw [show ((0 : Nat) : Int) - 1 = -1 by omega]
    have hd : decide ((0 : Int) ≤ -1) = false := rfl
    exact loopO_inr (by simp only [hd, cond_false, Option.map_some, List.take_zero, List.reverse_nil, List.find?_nil])
  | succ n ih =>
    intro hn
    have hlt : n < b.length := by omega
    have hxn : idx b (n : Int) = some b[n] := by rw [idx_nat]; exact List.getElem?_eq_getElem hlt
    have hd : decide ((0 : Int) ≤ (n : Int)) = true := decide_eq_true (by omega)
    have hs : subI .i64 (n : Int) 1 = (n : Int) - 1 := sub64 (by omega) (by omega)
    rw [show ((n + 1 : Nat) : Int) - 1 = (n : Int) by omega, List.take_succ_eq_append_getElem hlt, List.reverse_append, List.reverse_singleton, List.singleton_append, List.find?_cons]
    cases hyn : y v b[n] b[n] with
    | false =>
      rw [loopO_inl (s' := ((n : Int) - 1, ())) (by simp only [hd, hxn, hs, hy, hyn, cond_true, Option.bind_some, Bool.not_false])]
      exact ih (by omega)
    | true =>
      have hb : b = b.take n ++ b[n] :: b.drop (n + 1) := by rw [← List.drop_eq_getElem_cons hlt, List.take_append_drop]
      have hp : (b.take n ++ b[n] :: b.drop (n + 1)).Pairwise (· < ·) := hb ▸ h2
      rw [List.pairwise_append, List.pairwise_cons] at hp
      obtain ⟨p1, ⟨p2, p3⟩, p4⟩ := hp
      refine loopO_inr ?_
      simp only [hd, hxn, hs, hy, hyn, cond_true, cond_false, Option.bind_some, Bool.not_true]
      refine (place_loop b (by omega) (fun lo i => (lo, i, ())) (fun lo z => if y v z b[n] then .inl z else .inr (.inr (lo, b[n], true, ()))) (fun lo => some (.inr (lo, b[n], true, ()))) (fun i z a hi' hd' hs' => ?_) (fun a hd' => ?_) n (by omega) b[n]).trans ?_
      · simp only [hi', hd', hs', cond_true, Option.bind_some]
        cases y v z b[n] <;> simp
      · simp only [hd', cond_false, Option.map_some]
      · rw [runR_below (fun z => y v z b[n]) (fun lo => Sum.inr (lo, b[n], true, ())) _ _ (fun z hz => p4 z (List.mem_reverse.1 hz) _ (List.mem_cons_self ..)) (List.pairwise_reverse.2 p1)]
        have : downN (fun z => y v z b[n]) b.reverse b[n] = downN (fun z => y v z b[n]) (b.take n).reverse b[n] := by
          have hr : b.reverse = ((b.drop (n + 1)).reverse ++ [b[n]]) ++ (b.take n).reverse := by
            rw [← List.reverse_cons, ← List.reverse_append, ← hb]
          rw [hr]
          refine downN_above _ _ _ _ fun z hz => ?_
          rw [List.mem_append, List.mem_reverse, List.mem_singleton] at hz
          rcases hz with hz | rfl
          · exact Int.le_of_lt (p2 z hz)
          · exact Int.le_refl _
        rw [this]
end
end
end Go.Proofs.YtncjalhhkmojlaaGreat

set_option linter.unusedVariables false
namespace Go.Proofs.YtncjalhhkmojlaaGreat
open Go.TQ

theorem thin26 (t : TTrust) : ∃ b, F_law26_thin t = some b ∧ (b = true → SmT t) := by
  unfold F_law26_thin
  by_cases h12 : t.Nodes.length ≤ 12
  · by_cases h4 : t.Inner.length ≤ 4
    · have d1 : decide ((12 : Int) < ((t.Nodes.length : Nat) : Int)) = false := decide_eq_false (by omega)
      have d2 : decide ((4 : Int) < ((t.Inner.length : Nat) : Int)) = false := decide_eq_false (by omega)
      simp only [d1, d2, cond_false, Option.bind_some]
      refine thin_of h4 h12 (fun i x hd hx hw => ?_) (fun hd => ?_)
      · simp only [hd, hx, hw, cond_true, Option.bind_some]
        cases decide ((12 : Int) < ((x.Nodes.length : Nat) : Int)) <;> cases decide ((0 : Int) < ((x.Inner.length : Nat) : Int)) <;> simp
      · simp only [hd, cond_false, Option.map_some]
    · have d2 : decide ((4 : Int) < ((t.Inner.length : Nat) : Int)) = true := decide_eq_true (by omega)
      refine ⟨false, ?_, fun h => by cases h⟩
      simp only [d2, bif_same, Option.bind_some, cond_true]
  · have d1 : decide ((12 : Int) < ((t.Nodes.length : Nat) : Int)) = true := decide_eq_true (by omega)
    refine ⟨false, ?_, fun h => by cases h⟩
    simp only [d1, cond_true, Option.bind_some]
theorem few26 {l : List TEnvelope} (hmax : l.length ≤ 9223372036854775807) : ∃ b, F_law26_few l = some b ∧ (b = true → l.length ≤ 12 ∧ SmL l) := by
  unfold F_law26_few
  refine few_of hmax thin26 (fun i e b hd hx hw hb => ?_) (fun hd => ?_)
  · simp only [hd, hx, hw, cond_true, Option.bind_some, TTrust.eta, hb]
    generalize decide ((500 : Int) < _) = big
    refine ⟨big, ?_⟩
    cases b <;> cases big <;> simp
  · simp only [hd, cond_false, Option.map_some]
theorem commits_sm : SmL ((List.range 3).map (cE 3 3 5 (ByteArray.mk #[97]) lo26 fun _ => 5)) :=
  (cE_flat (by omega) (by omega) (by omega) (by omega) (by omega) (by decide) (by decide) fun i hi => by unfold lo26; split <;> omega : FlatL 3 3 ((List.range 3).map (cE 3 3 5 (ByteArray.mk #[97]) lo26 fun _ => 5))).sm
/-- two rounds that draw nothing -/
theorem two_rounds {ρ : Type} {step : Int × Unit → Option ((Int × Unit) ⊕ ρ)} {fin : Option ρ}
    (h1 : ∀ i : Nat, i < 2 → decide ((i : Int) < 2) = true → addI .i64 (i : Int) 1 = ((i + 1 : Nat) : Int) → step ((i : Int), ()) = some (.inl (((i + 1 : Nat) : Int), ()))) (h2 : decide ((2 : Int) < 2) = false → step (2, ()) = Option.map Sum.inr fin) : loopO step (0, ()) = fin :=
  all_loop 2 (fun i => (i, ())) (fun i hi => h1 i hi (decide_eq_true (by omega)) (add64 (by omega) (by omega))) (h2 rfl)
theorem commitExact (a0 : List Int) (a1 : List TEnvelope) (h1 : a1.length ≤ 9223372036854775807) (a2 : TTrust) (a3 : Int) (a4 a5 : TBallot) (a6 : ByteArray) (a7 a8 : Int) : F_law26_CommitExact a0 a1 a2 a3 a4 a5 a6 a7 a8 = some true := by
  refine Yd.eq_true ?_
  unfold F_law26_CommitExact
  obtain ⟨bf, hf, hfew⟩ := few26 h1
  obtain ⟨bt, ht, hthin⟩ := thin26 a2
  simp only [hf, ht, TTrust.eta, Option.bind_some]
  generalize decide ((500 : Int) < _) = big
  cases bf with
  | false =>
    simp only [Bool.not_false, cond_true, Option.bind_some, sane26]
    exact Yd.some rfl
  | true =>
  cases bt with
  | false =>
    simp only [Bool.not_true, Bool.not_false, cond_true, cond_false, Option.bind_some, sane26]
    exact Yd.some rfl
  | true =>
  cases big with
  | true =>
    simp only [Bool.not_true, cond_true, cond_false, Option.bind_some, sane26]
    exact Yd.some rfl
  | false =>
  obtain ⟨hlen1, hsm1⟩ := hfew rfl
  have hsmt := hthin rfl
  simp only [Bool.not_true, cond_false, Option.bind_some]
  refine (New_ok a0).bind fun s hs => ?_
  refine (Envelopes_ok (n := 5) hs (by omega) (by omega)).bind fun p7 ⟨b1, b2⟩ => ?_
  have hsm0 := b2.sm (by omega)
  have hlen0 := b2.len
  generalize p7.1 = own at *
  rw [commits26, Option.bind_some]
  have hsm2 := commits_sm
  have hlen2 : ((List.range 3).map (cE 3 3 5 (ByteArray.mk #[97]) lo26 fun _ => 5)).length = 3 := rfl
  generalize (List.range 3).map (cE 3 3 5 (ByteArray.mk #[97]) lo26 fun _ => 5) = cs at *
  refine src_loop 3 (fun i s hi hs => ?_) (fun s hs => ?_) b1
  · have hd : decide ((i : Int) < 3) = true := decide_eq_true (by omega)
    have hw : addI .i64 (i : Int) 1 = ((i + 1 : Nat) : Int) := add64 (by omega) (by omega)
    simp only [hd, cond_true, hw]
    obtain ⟨l, hl, hli⟩ := idx_mem (l := [own, a1, cs]) (i := i) (by simp; omega)
    rw [hli, Option.bind_some]
    have hl2 : SmL l ∧ l.length ≤ 1000 := by
      simp only [List.mem_cons, List.not_mem_nil, or_false] at hl
      rcases hl with rfl | rfl | rfl
      · exact ⟨hsm0, by omega⟩
      · exact ⟨hsm1, by omega⟩
      · exact ⟨hsm2, by omega⟩
    refine (N_ok hs (by omega)).bind fun p11 ⟨d1, _⟩ => ?_
    refine src_loop 2 (fun i2 s hi2 hs => ?_) (fun s hs => ?_) d1
    · have hd : decide ((i2 : Int) < 2) = true := decide_eq_true (by omega)
      have hw2 : addI .i64 (i2 : Int) 1 = ((i2 + 1 : Nat) : Int) := add64 (by omega) (by omega)
      simp only [hd, cond_true, hw2]
      obtain ⟨node, _, hni⟩ := idx_mem (l := [p11.1, a3]) (i := i2) (by simp; omega)
      rw [hni, Option.bind_some]
      refine Yd.join (fun v => OkS v.1 ∧ SmT v.2.1) (fun v ⟨g1, g2⟩ => ?_) fun j15 hj15 => ?_
      · obtain ⟨S, x, y, hL, hx, hy, rx, ry⟩ := any26 node g2 hl2.1 hl2.2
        refine (Value_ok g1).bind fun p16 ⟨k1, _⟩ => ?_
        refine src_loop 2 (fun i3 s hi3 hs => ?_) (fun s hs => ?_) k1
        · have hd : decide ((i3 : Int) < 2) = true := decide_eq_true (by omega)
          have hw3 : addI .i64 (i3 : Int) 1 = ((i3 + 1 : Nat) : Int) := add64 (by omega) (by omega)
          simp only [hd, cond_true, hw3]
          obtain ⟨v, _, hvi⟩ := idx_mem (l := [a6, p16.1]) (i := i3) (by simp; omega)
          rw [hvi, Option.bind_some]
          refine (Range_ok hs (by omega) (by omega) (by omega)).bind fun p19 ⟨m1, _⟩ => ?_
          refine (Range_ok m1 (by omega) (by omega) (by omega)).bind fun p20 ⟨m2, _⟩ => ?_
          refine Yd.of_eq (x := Sum.inl (((i3 + 1 : Nat) : Int), p20.2, ())) (two_rounds (fun i4 hi4 hd hw4 => ?_) (fun hd => ?_)) (by exact ⟨rfl, m2⟩)
          · obtain ⟨r, _, hri⟩ := idx_mem (l := [TArr2I64.mk a7 a8, TArr2I64.mk p19.1 p20.1]) (i := i4) (by simp; omega)
            simp only [hd, hri, hw4, cond_true, Option.bind_some, letJ_eq, AcceptsX hx hL, ConfirmsX hy hL, rx, ry, ExtendX hx hl2.1 hl2.2 hL, rExtendX hl2.1 hl2.2 rx, Bool.xor_self, cond_false, decide_true, Bool.not_true]
          · simp only [hd, cond_false, FinalX hy hl2.1 hl2.2 hL, rFinalX hl2.1 hl2.2 ry, Option.bind_some, decide_true, Bool.not_true, Bool.xor_self, cond_false]
        · have hd : decide (((2 : Nat) : Int) < 2) = false := rfl
          simp only [hd, cond_false]
          refine Yd.map ((Low_ok hs).bind fun p36 ⟨n1, _⟩ => ?_)
          refine Yd.of_eq (x := Sum.inl (((i2 + 1 : Nat) : Int), p36.2, ())) (two_rounds (fun i4 hi4 hd hw4 => ?_) (fun hd => ?_)) (by exact ⟨rfl, n1⟩)
          · obtain ⟨r, _, hri⟩ := idx_mem (l := [TArr2Ballot.mk a4 a5, TArr2Ballot.mk p36.1 (TBallot.mk (0 : Int) (ByteArray.mk #[]))]) (i := i4) (by simp; omega)
            simp only [hd, hri, hw4, cond_true, Option.bind_some, FirstX hx hl2.1 hl2.2 hL, rFirstX hl2.1 hl2.2 rx, Bool.xor_self, cond_false, decide_true, Bool.not_true]
          · simp only [hd, cond_false]
      · refine Yd.cond (fun _ => ?_) (fun _ => hj15 _ ⟨hs, hsmt⟩)
        refine (Trust_ok (n := 5) hs (by omega) (by omega)).bind fun p44 ⟨f1, f2, _⟩ => ?_
        exact hj15 _ ⟨f1, f2.sm⟩
    · have hd : decide (((2 : Nat) : Int) < 2) = false := rfl
      simp only [hd, cond_false, Option.map_some]
      exact Yd.some ⟨rfl, hs⟩
  · have hd : decide (((3 : Nat) : Int) < 3) = false := rfl
    simp only [hd, cond_false, sane26, Option.bind_some, Option.map_some]
    exact Yd.some rfl
end Go.Proofs.YtncjalhhkmojlaaGreat
