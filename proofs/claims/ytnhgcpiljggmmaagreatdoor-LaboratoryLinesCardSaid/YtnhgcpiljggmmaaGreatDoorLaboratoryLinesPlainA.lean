/-
  Plain Lean: what the turned functions compute. Conditions: none beyond those that each theorem names.
-/
import Derived.Test.YtnhgcpiljggmmaaGreatDoorKdef
import Derived.Test.YtnhgcpiljggmmaaGreatDoorLaboratoryLinesFns
import Derived.Test.YtnhgcpiljggmmaaGreatDoorLines
import Derived.Lib.ItoaLen
namespace Go.TQ

/-! ### options and tests -/
@[simp] theorem letJ_eq {σ ρ : Type} (j : σ → Option ρ) (f : (σ → Option ρ) → Option ρ) : letJ j f = f j := rfl
@[simp] theorem bif_some {α : Type} (b : Bool) (x y : α) : (bif b then some x else some y) = some (bif b then x else y) := by cases b <;> rfl
@[simp] theorem bif_same {α : Type} (b : Bool) (x : α) : (bif b then x else x) = x := by cases b <;> rfl
theorem bif_dec {α : Type} (p : Prop) [Decidable p] (x y : α) : (bif decide p then x else y) = if p then x else y := by
  by_cases h : p <;> simp [h]
theorem ite_some {α : Type} (p : Prop) [Decidable p] (x y : α) : (if p then some x else some y) = some (if p then x else y) := by split <;> rfl
@[simp] theorem bif_not {α : Type} (b : Bool) (x y : α) : (bif !b then x else y) = bif b then y else x := by cases b <;> rfl
@[simp] theorem eq2_false (a b : Int) (s t : ByteArray) : eq2 false a b s t = (decide (a = b) && decide (s = t)) := by simp [eq2]
@[simp] theorem eq2_true (a b : Int) (s t : ByteArray) : eq2 true a b s t = !(decide (a = b) && decide (s = t)) := by simp [eq2]

/-- it is there, and of it this holds -/
def Yd {α : Type} (o : Option α) (p : α → Prop) : Prop := ∃ x, o = some x ∧ p x
theorem Yd.bind {α β : Type} {o : Option α} {p : α → Prop} {f : α → Option β} {q : β → Prop} (h : Yd o p) (k : ∀ x, p x → Yd (f x) q) : Yd (o.bind f) q := by
  obtain ⟨x, rfl, hx⟩ := h
  exact k x hx
theorem Yd.mono {α : Type} {o : Option α} {p q : α → Prop} (h : Yd o p) (k : ∀ x, p x → q x) : Yd o q := by
  obtain ⟨x, h1, hx⟩ := h
  exact ⟨x, h1, k x hx⟩
theorem Yd.some {α : Type} {x : α} {p : α → Prop} (h : p x) : Yd (Option.some x) p := ⟨x, rfl, h⟩
theorem Yd.cond {α : Type} {b : Bool} {x y : Option α} {p : α → Prop} (h1 : b = true → Yd x p) (h2 : b = false → Yd y p) : Yd (bif b then x else y) p := by
  cases b
  · exact h2 rfl
  · exact h1 rfl
theorem Yd.map {α β : Type} {o : Option α} {f : α → β} {p : β → Prop} (h : Yd o fun x => p (f x)) : Yd (o.map f) p := by
  obtain ⟨x, rfl, hx⟩ := h
  exact ⟨f x, rfl, hx⟩
theorem Yd.eq_true {o : Option Bool} (h : Yd o (· = true)) : o = Option.some true := by
  obtain ⟨x, h1, rfl⟩ := h
  exact h1

/-! ### numbers -/
theorem wrap64 {n : Int} (h1 : -9223372036854775808 ≤ n) (h2 : n ≤ 9223372036854775807) : IntKind.i64.wrap n = n := i64_in h1 h2
theorem add64 {a b : Int} (h1 : -9223372036854775808 ≤ a + b) (h2 : a + b ≤ 9223372036854775807) : addI .i64 a b = a + b := wrap64 h1 h2
theorem sub64 {a b : Int} (h1 : -9223372036854775808 ≤ a - b) (h2 : a - b ≤ 9223372036854775807) : subI .i64 a b = a - b := wrap64 h1 h2
theorem idx_nat {α : Type} (l : List α) (i : Nat) : idx l (i : Int) = l[i]? := by simp [idx]
theorem idx_of {α : Type} (l : List α) {n : Int} (h : 0 ≤ n) : idx l n = l[n.toNat]? := by simp [idx, h]
@[simp] theorem convI_i64_u8 (n : Nat) (h : n < 256) : convI .i64 (n : Int) = n := wrap64 (by omega) (by omega)
@[simp] theorem lenOk_small {bytes n : Nat} (h : n * bytes ≤ 140737488355328 ∧ n ≤ 1000000) : lenOk bytes n = true := by
  simp only [lenOk, Bool.and_eq_true, decide_eq_true_eq]
  exact ⟨h.1, Nat.le_trans h.2 (by simp [maxLen])⟩

/-! ### bits -/
theorem ofInt_nat (a : Nat) (h : a < 2 ^ 62) : (BitVec.ofInt 64 (a : Int)).toNat = a := by
  grind
theorem wrap_nat (n : Nat) (h : n < 2 ^ 62) : IntKind.i64.wrap (n : Int) = n := wrap64 (by omega) (by omega)
theorem andI_nat (a b : Nat) (ha : a < 2 ^ 62) (hb : b < 2 ^ 62) : andI .i64 (a : Int) (b : Int) = ((a &&& b : Nat) : Int) := by
  show IntKind.i64.wrap (((BitVec.ofInt 64 (a : Int) &&& BitVec.ofInt 64 (b : Int)).toNat : Nat) : Int) = _
  rw [BitVec.toNat_and, ofInt_nat a ha, ofInt_nat b hb]
  exact wrap_nat _ (Nat.lt_of_le_of_lt Nat.and_le_left ha)
theorem orI_nat (a b : Nat) (ha : a < 2 ^ 62) (hb : b < 2 ^ 62) : orI .i64 (a : Int) (b : Int) = ((a ||| b : Nat) : Int) := by
  show IntKind.i64.wrap (((BitVec.ofInt 64 (a : Int) ||| BitVec.ofInt 64 (b : Int)).toNat : Nat) : Int) = _
  rw [BitVec.toNat_or, ofInt_nat a ha, ofInt_nat b hb]
  exact wrap_nat _ (Nat.or_lt_two_pow ha hb)
theorem and_bit (s k : Nat) : s &&& 2 ^ k = if s.testBit k then 2 ^ k else 0 := by
  refine Nat.eq_of_testBit_eq fun i => ?_
  grind
theorem shlI_one (k : Nat) (h : k ≤ 60) : shlI .i64 1 (k : Int) = ((2 ^ k : Nat) : Int) := by
  show IntKind.i64.wrap (1 * 2 ^ min (k : Int).toNat 64) = _
  rw [Int.toNat_natCast, show min k 64 = k from Nat.min_eq_left (by omega), Int.one_mul]
  have := wrap_nat (2 ^ k) (Nat.pow_lt_pow_right (by omega) (by omega))
  simpa using this
theorem shrI_nat (a k : Nat) (h : k ≤ 60) : shrI .i64 (a : Int) (k : Int) = ((a >>> k : Nat) : Int) := by
  show (a : Int).fdiv (2 ^ min (k : Int).toNat 64) = _
  rw [Int.toNat_natCast, show min k 64 = k from Nat.min_eq_left (by omega), Nat.shiftRight_eq_div_pow]
  grind

/-! ### loops -/
theorem loopO_inr {σ ρ : Type} {step : σ → Option (σ ⊕ ρ)} {s : σ} {r : ρ} (h : step s = some (.inr r)) : loopO step s = some r := by rw [loopO_eq, h]
theorem loopO_inl {σ ρ : Type} {step : σ → Option (σ ⊕ ρ)} {s s' : σ} (h : step s = some (.inl s')) : loopO step s = loopO step s' := by rw [loopO_eq, h]
theorem loopO_none {σ ρ : Type} {step : σ → Option (σ ⊕ ρ)} {s : σ} (h : step s = none) : loopO step s = none := by rw [loopO_eq, h]

theorem Yd.loop {σ ρ : Type} {step : σ → Option (σ ⊕ ρ)} {s : σ} {p : ρ → Prop} (h : Yd (step s) fun y => match y with | .inl s' => Yd (loopO step s') p | .inr r => p r) : Yd (loopO step s) p := by
  obtain ⟨y, h1, h2⟩ := h
  cases y with
  | inl s' => rw [loopO_inl h1]; exact h2
  | inr r => exact ⟨r, loopO_inr h1, h2⟩
/-- where ways meet -/
theorem Yd.join {σ ρ : Type} {j : σ → Option ρ} {f : (σ → Option ρ) → Option ρ} {p : ρ → Prop} (inv : σ → Prop) (h1 : ∀ v, inv v → Yd (j v) p) (h2 : ∀ j' : σ → Option ρ, (∀ v, inv v → Yd (j' v) p) → Yd (f j') p) : Yd (letJ j f) p := h2 j h1
theorem Yd.inr {σ ρ : Type} {o : Option ρ} {p : σ ⊕ ρ → Prop} (h : Yd o fun r => p (.inr r)) : Yd (Option.map Sum.inr o) p := h.map
/-- through a list, with a state, till the end or till something is found -/
def foldE {α σ ρ : Type} (g : α → σ → Option (σ ⊕ ρ)) (fin : σ → Option ρ) : List α → σ → Option ρ
  | [], s => fin s
  | x :: l, s => match g x s with
    | none => none
    | some (.inr r) => some r
    | some (.inl s') => foldE g fin l s'
/-- a loop whose state T is made of a place in the list and a rest -/
theorem loopO_list {α σ τ ρ : Type} (l : List α) (mk : Int → σ → τ) {step : τ → Option (τ ⊕ ρ)} (g : α → σ → Option (σ ⊕ ρ)) (fin : σ → Option ρ)
    (h1 : ∀ (i : Nat) (x : α) (s : σ), i < l.length → l[i]? = some x → step (mk i s) = match g x s with | none => none | some (.inr r) => some (.inr r) | some (.inl s') => some (.inl (mk (i + 1 : Nat) s')))
    (h2 : ∀ s, step (mk l.length s) = (fin s).map Sum.inr) (s : σ) : loopO step (mk 0 s) = foldE g fin l s := by
  suffices h : ∀ (k : Nat) (i : Nat) (s : σ), i + k = l.length → loopO step (mk i s) = foldE g fin (l.drop i) s by
    have := h l.length 0 s (by omega)
    simpa using this
  intro k
  induction k with
  | zero =>
    intro i s hi
    obtain rfl : i = l.length := by omega
    rw [List.drop_length, foldE, loopO_eq, h2]
    cases fin s <;> rfl
  | succ k ih =>
    intro i s hi
    have hlt : i < l.length := by omega
    rw [List.drop_eq_getElem_cons hlt, foldE, loopO_eq, h1 i l[i] s hlt (List.getElem?_eq_getElem hlt)]
    cases hg : g l[i] s with
    | none => rfl
    | some y =>
      cases y with
      | inr r => rfl
      | inl s' => exact ih (i + 1) s' (by omega)
/-- the loops that 'range' makes: the facts at a place are handed over -/
theorem loopO_range {α σ τ ρ : Type} (l : List α) (hl : l.length ≤ 9223372036854775807) (mk : Int → σ → τ) {step : τ → Option (τ ⊕ ρ)} (g : α → σ → Option (σ ⊕ ρ)) (fin : σ → Option ρ)
    (h1 : ∀ (i : Nat) (x : α) (s : σ), decide ((i : Int) < ((l.length : Nat) : Int)) = true → idx l (i : Int) = some x → addI .i64 (i : Int) 1 = ((i + 1 : Nat) : Int) → step (mk i s) = match g x s with | none => none | some (.inr r) => some (.inr r) | some (.inl s') => some (.inl (mk (i + 1 : Nat) s')))
    (h2 : ∀ s, decide (((l.length : Nat) : Int) < ((l.length : Nat) : Int)) = false → step (mk l.length s) = (fin s).map Sum.inr) (s : σ) : loopO step (mk 0 s) = foldE g fin l s :=
  loopO_list l mk g fin (fun i x s hi hx => h1 i x s (decide_eq_true (Int.ofNat_lt.2 hi)) (by rw [idx_nat]; exact hx) (add64 (by omega) (by omega))) (fun s => h2 s (decide_eq_false (Int.lt_irrefl _))) s
end Go.TQ

namespace Go.Proofs.YtnhgcpiljggmmaaGreatDoor
open Go.TQ

def noVal : ByteArray := ⟨#[]⟩
def zeroB (b : TBallot) : Bool := decide (b.Counter = 0) && decide (b.Value = noVal)
def lessV (a b : ByteArray) : Bool := if a.size = b.size then sless a b else decide (a.size < b.size)
def lessB (a b : TBallot) : Bool := if a.Counter = b.Counter then lessV a.Value b.Value else decide (a.Counter < b.Counter)
def compat (a b : TBallot) : Bool := decide (a.Value = b.Value)
def covers (p b : TBallot) : Bool := !zeroB p && compat p b && decide (b.Counter ≤ p.Counter)
def preparesB (p q b : TBallot) : Bool := covers p b || covers q b || (!zeroB q && lessB b q)
def aborts (p b : TBallot) : Bool := !zeroB p && !compat p b && lessB b p
def validB (b : TBallot) : Bool := (decide (1 ≤ b.Counter) && decide (b.Counter ≤ 1000) || decide (b.Counter = 1000000)) && decide (1 ≤ b.Value.size) && decide (b.Value.size ≤ 200)

@[simp] theorem F_ref23_Zero_eq (b : TBallot) : F_ref23_Zero b = some (zeroB b) := by unfold F_ref23_Zero zeroB; rw [eq2_false]; rfl
@[simp] theorem F_ref23_Compatible_eq (a b : TBallot) : F_ref23_Compatible a b = some (compat a b) := rfl
@[simp] theorem F_ref23_LessValue_eq (a b : ByteArray) : F_ref23_LessValue a b = some (lessV a b) := by
  simp only [F_ref23_LessValue, lessV, bif_not, Int.ofNat_inj, Int.ofNat_lt, bif_dec, ite_some]
@[simp] theorem F_ref23_Less_eq (a b : TBallot) : F_ref23_Less a b = some (lessB a b) := by
  simp [F_ref23_Less, lessB, bif_dec, ite_some]
@[simp] theorem F_ref23_Covers_eq (a b : TBallot) : F_ref23_Covers a b = some (covers a b) := by simp [F_ref23_Covers, covers]
@[simp] theorem F_ref23_Prepares_eq (p q b : TBallot) : F_ref23_Prepares p q b = some (preparesB p q b) := by simp [F_ref23_Prepares, preparesB]
@[simp] theorem F_ref23_Aborts_eq (p b : TBallot) : F_ref23_Aborts p b = some (aborts p b) := by simp [F_ref23_Aborts, aborts]

def finite (b : TBallot) : Bool := validB b && decide (b.Counter ≤ 1000)
end Go.Proofs.YtnhgcpiljggmmaaGreatDoor

namespace Go.Proofs.YtnhgcpiljggmmaaGreatDoor
open Go.TQ

theorem B_depth {rec : (TTrust × Unit) → Option Int} {t : TTrust} (hl : t.Inner.length ≤ 9223372036854775807) :
    B_threshold_Depth rec t = foldE (fun u m => (rec (u, ())).map fun r => .inl (maxI m r)) (fun m => some (addI .i64 m 1)) t.Inner 0 := by
  unfold B_threshold_Depth
  rw [loopO_range t.Inner hl (fun i (m : Int) => (m, i, ())) (fun u m => (rec (u, ())).map fun r => .inl (maxI m r)) (fun m => some (addI .i64 m 1)) (fun i x s hd hx hw => ?_) (fun s hd => ?_) 0]
  · simp only [hd, hx, hw, cond_true, Option.bind_some, TTrust.eta]
    cases rec (x, ()) <;> rfl
  · simp only [hd, cond_false]
theorem B_size {rec : (TTrust × Unit) → Option Int} {t : TTrust} (hl : t.Inner.length ≤ 9223372036854775807) :
    B_threshold_Size rec t = foldE (fun u m => (rec (u, ())).map fun r => .inl (addI .i64 m r)) (fun m => some m) t.Inner (addI .i64 t.Nodes.length t.Inner.length) := by
  unfold B_threshold_Size
  rw [loopO_range t.Inner hl (fun i (m : Int) => (m, i, ())) (fun u m => (rec (u, ())).map fun r => .inl (addI .i64 m r)) (fun m => some m) (fun i x s hd hx hw => ?_) (fun s hd => ?_) (addI .i64 t.Nodes.length t.Inner.length)]
  · simp only [hd, hx, hw, cond_true, Option.bind_some, TTrust.eta]
    cases rec (x, ()) <;> rfl
  · simp only [hd, cond_false]
theorem ref_depth (t : TTrust) : F_ref02_Depth t = F_threshold_Depth t := rfl
theorem ref_size (t : TTrust) : F_ref02_Size t = F_threshold_Size t := rfl

/-! ### sets of nodes -/
def inNode (x : Int) : Bool := decide (0 ≤ x) && decide (x < 10)
def hasS (s x : Int) : Bool := decide (0 ≤ s) && decide (s < 1024) && inNode x && s.toNat.testBit x.toNat
theorem below10 (s : Int) : F_nodeset_Valid s = some (decide (0 ≤ s) && decide (s < 1024)) := by
  have : shlI .i64 1 10 = 1024 := shlI_one 10 (by omega)
  simp [F_nodeset_Valid, F_nodeset_below, this]
theorem andI_testBit {s x : Int} (h1 : 0 ≤ s) (h2 : s < 1024) (h3 : 0 ≤ x) (h4 : x < 10) : (andI .i64 s (shlI .i64 1 x) = 0) = (s.toNat.testBit x.toNat = false) := by
  obtain ⟨n, rfl⟩ := Int.eq_ofNat_of_zero_le h1
  obtain ⟨j, rfl⟩ := Int.eq_ofNat_of_zero_le h3
  have hj : 2 ^ j ≤ 2 ^ 10 := Nat.pow_le_pow_right (by omega) (by omega)
  rw [shlI_one j (by omega), andI_nat n (2 ^ j) (by omega) (by omega), and_bit]
  grind
@[simp] theorem F_nodeset_Has_eq (s x : Int) : F_nodeset_Has s x = some (hasS s x) := by
  unfold F_nodeset_Has hasS inNode
  rw [below10]
  by_cases h1 : 0 ≤ s
  · by_cases h2 : s < 1024
    · by_cases h3 : 0 ≤ x
      · by_cases h4 : x < 10
        · have h5 : ¬ x < 0 := by omega
          have := andI_testBit h1 h2 h3 h4
          simp [h1, h2, h3, h4, h5, this]
        · simp [h1, h2, h3, h4]
      · simp [h1, h2, h3]
    · simp [h1, h2]
  · simp [h1]
theorem shr_testBit {s x : Int} (h1 : 0 ≤ s) (h2 : s < 1024) (h3 : 0 ≤ x) (h4 : x < 10) : (andI .i64 (shrI .i64 s x) 1 = 1) = (s.toNat.testBit x.toNat = true) := by
  obtain ⟨n, rfl⟩ := Int.eq_ofNat_of_zero_le h1
  obtain ⟨j, rfl⟩ := Int.eq_ofNat_of_zero_le h3
  have hle : n >>> j ≤ n := by rw [Nat.shiftRight_eq_div_pow]; exact Nat.div_le_self _ _
  rw [shrI_nat n j (by omega), show (1 : Int) = ((1 : Nat) : Int) from rfl, andI_nat _ 1 (by omega) (by omega)]
  simp only [Int.toNat_natCast, Int.ofNat_inj, Nat.testBit, eq_iff_iff]
  rw [Nat.and_comm]
  simp
@[simp] theorem F_ref01_Has_eq (s x : Int) : F_ref01_Has s x = some (hasS s x) := by
  unfold F_ref01_Has F_ref01_Valid hasS inNode
  by_cases h1 : 0 ≤ s
  · by_cases h2 : s < 1024
    · have h2' : s ≤ 1023 := by omega
      by_cases h3 : 0 ≤ x
      · by_cases h4 : x < 10
        · have h5 : ¬ x < 0 := by omega
          have := shr_testBit h1 h2 h3 h4
          simp [h1, h2, h2', h3, h4, h5, this]
        · simp [h1, h2, h2', h3, h4]
      · simp [h1, h2, h2', h3]
    · have h2' : ¬ s ≤ 1023 := by omega
      simp [h1, h2, h2']
  · simp [h1]
theorem orI_bit {s : Nat} {x : Int} (h1 : s < 1024) (h3 : 0 ≤ x) (h4 : x < 10) : orI .i64 (s : Int) (shlI .i64 1 x) = ((s ||| 2 ^ x.toNat : Nat) : Int) := by
  obtain ⟨j, rfl⟩ := Int.eq_ofNat_of_zero_le h3
  have hj : 2 ^ j ≤ 2 ^ 9 := Nat.pow_le_pow_right (by omega) (by omega)
  rw [shlI_one j (by omega)]
  exact orI_nat s (2 ^ j) (by omega) (by omega)
theorem or_lt {s : Nat} {x : Int} (h1 : s < 1024) (h4 : x < 10) : s ||| 2 ^ x.toNat < 1024 := by
  have hj : 2 ^ x.toNat ≤ 2 ^ 9 := Nat.pow_le_pow_right (by omega) (by omega)
  exact Nat.or_lt_two_pow (n := 10) h1 (by omega)
/-- the bits of nodes, and an error -/
def ofErr (s : Nat) : List Int → Int × Int × Unit
  | [] => (s, 0, ())
  | x :: l => if inNode x then (if s.testBit x.toNat then (0, 6, ()) else ofErr (s ||| 2 ^ x.toNat) l) else (0, 5, ())
theorem of_fold (g : Int → Int → Option (Int ⊕ (Int × Int × Unit)))
    (hg : ∀ x (s : Nat), s < 1024 → g x s = some (if inNode x then (if s.testBit x.toNat then .inr (0, 6, ()) else .inl ((s ||| 2 ^ x.toNat : Nat) : Int)) else .inr (0, 5, ()))) :
    ∀ (l : List Int) (s : Nat), s < 1024 → foldE g (fun s => some (s, 0, ())) l s = some (ofErr s l)
  | [], s, _ => rfl
  | x :: l, s, hs => by
    rw [foldE, hg x s hs, ofErr]
    cases h1 : inNode x with
    | false => simp
    | true =>
      cases h2 : s.testBit x.toNat with
      | true => simp
      | false =>
        simp only [if_true, Bool.false_eq_true, if_false]
        have h3 : x < 10 := by simp [inNode] at h1; omega
        exact of_fold g hg l _ (or_lt hs h3)
theorem F_nodeset_Of_eq (l : List Int) (hl : l.length ≤ 9223372036854775807) : F_nodeset_Of l = some (ofErr 0 l) := by
  unfold F_nodeset_Of
  rw [loopO_range l hl (fun i (s : Int) => (s, i, ())) (fun x s => if inNode x then (if hasS s x then some (.inr (0, 6, ())) else some (.inl (orI .i64 s (shlI .i64 1 x)))) else some (.inr (0, 5, ()))) (fun s => some (s, 0, ())) (fun i x s hd hx hw => ?_) (fun s hd => ?_) 0]
  · refine of_fold _ (fun x s hs => ?_) l 0 (by omega)
    grind [inNode, hasS, orI_bit]
  · grind [F_nodeset_Has_eq, inNode, hasS]
  · simp only [hd, cond_false]
theorem F_ref01_Of_eq (l : List Int) (hl : l.length ≤ 9223372036854775807) : F_ref01_Of l = some (ofErr 0 l) := by
  have : F_ref01_Of l = F_nodeset_Of l := by
    unfold F_ref01_Of F_nodeset_Of
    simp only [F_ref01_Has_eq, F_nodeset_Has_eq]
  rw [this, F_nodeset_Of_eq l hl]

/-! ### one level -/
@[simp] theorem F_threshold_level_1_eq (x : Int) : F_threshold_level_1 x = some (!inNode x) := by simp [F_threshold_level_1, F_threshold_node, inNode]
theorem F_ContainsFunc_eq (l : List Int) (hl : l.length ≤ 9223372036854775807) : F_slices_ContainsFunc_int_int_c156 l = some (l.any fun x => !inNode x) := by
  have key : ∀ (i : Nat) (k : Nat), i + k = l.length → Yd (loopO (fun (v1 : Int × Unit) => bif (decide (v1.1 < ((List.length l : Nat) : Int))) then Option.bind (idx l v1.1) fun x2 => Option.bind (F_threshold_level_1 x2) fun r3 => bif r3 then Option.map Sum.inr (some v1.1) else some (Sum.inl ((addI .i64 v1.1 (1 : Int)), ())) else Option.map Sum.inr (some (-1 : Int))) ((i : Int), ())) fun r => decide (0 ≤ r) = (l.drop i).any fun x => !inNode x := by
    intro i k
    induction k generalizing i with
    | zero =>
      intro hi
      refine ⟨-1, loopO_inr ?_, ?_⟩
      · grind
      · rw [List.drop_eq_nil_of_le (by omega)]; rfl
    | succ k ih =>
      intro hi
      have hlt : i < l.length := by omega
      have hd : decide ((i : Int) < ((l.length : Nat) : Int)) = true := decide_eq_true (Int.ofNat_lt.2 hlt)
      have hx : idx l (i : Int) = some l[i] := by rw [idx_nat]; exact List.getElem?_eq_getElem hlt
      have hw : addI .i64 (i : Int) 1 = ((i + 1 : Nat) : Int) := add64 (by omega) (by omega)
      rw [List.drop_eq_getElem_cons hlt, List.any_cons]
      cases h : inNode l[i] with
      | true =>
        rw [loopO_inl (s' := (((i + 1 : Nat) : Int), ())) (by simp only [hd, hx, hw, cond_true, Option.bind_some, F_threshold_level_1_eq, h]; rfl)]
        exact (ih (i + 1) (by omega)).mono fun r hr => by simpa using hr
      | false =>
        refine ⟨i, loopO_inr (by simp only [hd, hx, cond_true, Option.bind_some, F_threshold_level_1_eq, h]; rfl), ?_⟩
        simp
  obtain ⟨r, h1, h2⟩ := key 0 l.length (by omega)
  unfold F_slices_ContainsFunc_int_int_c156 F_slices_IndexFunc_int_int_c156
  simp only [Int.natCast_zero] at h1
  rw [h1]
  simpa using h2
def levelB (rec : TTrust → Option Int) (t : TTrust) : Option Int :=
  if t.Threshold < 1 ∨ addI .i64 t.Nodes.length t.Inner.length < t.Threshold then some 4
  else if (t.Nodes.any fun x => !inNode x) then some 5
  else if (ofErr 0 t.Nodes).2.1 = 0 then foldE (fun u (_ : Unit) => (rec u).map fun r => if r = 0 then .inl () else .inr r) (fun _ => some 0) t.Inner ()
  else some (ofErr 0 t.Nodes).2.1
theorem B_level {rec : (TTrust × Unit) → Option Int} {t : TTrust} (hn : t.Nodes.length ≤ 9223372036854775807) (hl : t.Inner.length ≤ 9223372036854775807) : B_threshold_level rec t = levelB (fun u => rec (u, ())) t := by
  unfold B_threshold_level levelB
  rw [F_ContainsFunc_eq _ hn, F_nodeset_Of_eq _ hn]
  rw [loopO_range t.Inner hl (fun i (_ : Unit) => (i, ())) (fun u (_ : Unit) => (rec (u, ())).map fun r => if r = 0 then .inl () else .inr r) (fun _ => some 0) (fun i x s hd hx hw => ?_) (fun s hd => ?_) ()]
  · grind
  · simp only [hd, hx, hw, cond_true, Option.bind_some, TTrust.eta]
    cases rec (x, ()) with
    | none => rfl
    | some r => by_cases h : r = 0 <;> simp [h]
  · simp only [hd, cond_false]
theorem B_check {rec : (TTrust × Unit) → Option Int} {t : TTrust} (hn : t.Nodes.length ≤ 9223372036854775807) (hl : t.Inner.length ≤ 9223372036854775807) : B_ref02_check rec t = levelB (fun u => rec (u, ())) t := by
  unfold B_ref02_check levelB
  rw [loopO_range t.Nodes hn (fun i (_ : Unit) => (i, ())) (fun x (_ : Unit) => some (if inNode x then .inl () else .inr 5)) (fun _ => if (ofErr 0 t.Nodes).2.1 = 0 then foldE (fun u (_ : Unit) => (rec (u, ())).map fun r => if r = 0 then .inl () else .inr r) (fun _ => some 0) t.Inner () else some (ofErr 0 t.Nodes).2.1) (fun i x s hd hx hw => ?_) (fun s hd => ?_) ()]
  · by_cases h1 : t.Threshold < 1
    · simp [h1]
    · by_cases h2 : addI .i64 t.Nodes.length t.Inner.length < t.Threshold
      · simp [h1, h2]
      · simp only [h1, h2, decide_false, cond_false, Option.bind_some, or_self, if_false]
        have : ∀ (l : List Int) (fin : Unit → Option Int), foldE (fun x (_ : Unit) => some (if inNode x then .inl () else .inr 5)) fin l () = if (l.any fun x => !inNode x) then some 5 else fin () := by
          intro l fin
          induction l with
          | nil => rfl
          | cons x l ih =>
            grind [foldE, inNode]
        exact this _ _
  · grind [inNode]
  · simp only [hd, cond_false]
    rw [F_ref01_Of_eq _ hn, Option.bind_some]
    rw [loopO_range t.Inner hl (fun i (_ : Unit) => (i, ())) (fun u (_ : Unit) => (rec (u, ())).map fun r => if r = 0 then .inl () else .inr r) (fun _ => some 0) (fun i x s hd hx hw => ?_) (fun s hd => ?_) ()]
    · grind
    · simp only [hd, hx, hw, cond_true, Option.bind_some, TTrust.eta]
      cases rec (x, ()) with
      | none => rfl
      | some r => by_cases h : r = 0 <;> simp [h]
    · simp only [hd, cond_false]

/-! ### trusts as the source makes them -/
structure GoodT (t : TTrust) : Prop where
  nodes : ∀ x ∈ t.Nodes, 0 ≤ x ∧ x < 10
  nodup : t.Nodes.Nodup
  len : t.Nodes.length ≤ 10
  inner : t.Inner = [] ∨ ∃ x, 0 ≤ x ∧ x < 10 ∧ t.Inner = [⟨1, [x], []⟩]
  th : 1 ≤ t.Threshold ∧ t.Threshold ≤ t.Nodes.length + t.Inner.length
theorem ofErr_good : ∀ (l : List Int) (s : Nat), (∀ x ∈ l, 0 ≤ x ∧ x < 10) → l.Nodup → (∀ x ∈ l, s.testBit x.toNat = false) → (ofErr s l).2.1 = 0
  | [], s, _, _, _ => rfl
  | x :: l, s, h1, h2, h3 => by
    rw [List.nodup_cons] at h2
    have hx := h1 x (by simp)
    have : inNode x = true := by simp [inNode]; omega
    rw [ofErr, this, h3 x (by simp)]
    simp only [if_true, Bool.false_eq_true, if_false]
    refine ofErr_good l _ (fun y hy => h1 y (by simp [hy])) h2.2 fun y hy => ?_
    have hy1 := h1 y (by simp [hy])
    rw [Nat.testBit_or, h3 y (by simp [hy]), Nat.testBit_two_pow]
    have : x.toNat ≠ y.toNat := fun e => by
      have : x = y := by omega
      subst this
      exact h2.1 hy
    simp [this]
theorem any_good {l : List Int} (h : ∀ x ∈ l, 0 ≤ x ∧ x < 10) : (l.any fun x => !inNode x) = false := by
  grind [inNode]
theorem levelB_leaf {rec : TTrust → Option Int} {x : Int} (h0 : 0 ≤ x) (h1 : x < 10) : levelB rec ⟨1, [x], []⟩ = some 0 := by
  have h2 : addI .i64 (1 : Nat) (0 : Nat) = 1 := rfl
  grind [ofErr, ofErr_good, inNode, any_good, levelB, foldE]
theorem level_good {t : TTrust} (h : GoodT t) {rec : TTrust → Option Int} (hr : ∀ x, 0 ≤ x → x < 10 → rec ⟨1, [x], []⟩ = some 0) : levelB rec t = some 0 := by
  have hil : t.Inner.length ≤ 1 := by rcases h.inner with e | ⟨x, _, _, e⟩ <;> rw [e] <;> simp
  have hlen := h.len
  have h2 : addI .i64 t.Nodes.length t.Inner.length = t.Nodes.length + t.Inner.length := add64 (by omega) (by omega)
  have h3 : (ofErr 0 t.Nodes).2.1 = 0 := ofErr_good _ 0 h.nodes h.nodup (by simp)
  have h4 := any_good h.nodes
  have h5 := h.th
  unfold levelB
  rw [h2, if_neg (by omega), h4, h3]
  simp only [Bool.false_eq_true, if_false, if_true]
  rcases h.inner with e | ⟨x, hx0, hx1, e⟩
  · rw [e]; rfl
  · rw [e, foldE, hr x hx0 hx1]; rfl
theorem sz_pos (t : TTrust) : ∃ n, SizeOf.sizeOf t = n + 1 := by
  have : 1 ≤ SizeOf.sizeOf t := by
    cases t
    simp only [TTrust.mk.sizeOf_spec]
    omega
  exact ⟨SizeOf.sizeOf t - 1, by omega⟩
theorem depth_leaf (n : Nat) (th : Int) (l : List Int) : I_threshold_Depth (n + 1) (⟨th, l, []⟩, ()) = some 1 := by
  show B_threshold_Depth _ _ = _
  rw [B_depth (by simp)]
  rfl
theorem size_leaf (n : Nat) (th : Int) (l : List Int) : I_threshold_Size (n + 1) (⟨th, l, []⟩, ()) = some (addI .i64 l.length (0 : Nat)) := by
  show B_threshold_Size _ _ = _
  rw [B_size (by simp)]
  rfl
theorem depth_good {t : TTrust} (h : GoodT t) : ∃ d, F_threshold_Depth t = some d ∧ d ≤ 2 := by
  obtain ⟨n, hn⟩ := sz_pos t
  have hil : t.Inner.length ≤ 1 := by rcases h.inner with e | ⟨x, _, _, e⟩ <;> rw [e] <;> simp
  unfold F_threshold_Depth
  rw [hn]
  show ∃ d, B_threshold_Depth (I_threshold_Depth (n + 1)) t = some d ∧ d ≤ 2
  rw [B_depth (by omega)]
  rcases h.inner with e | ⟨x, _, _, e⟩
  · rw [e]; exact ⟨1, rfl, by omega⟩
  · rw [e, foldE, depth_leaf n 1 [x]]
    exact ⟨2, rfl, by omega⟩
theorem size_good {t : TTrust} (h : GoodT t) : ∃ d, F_threshold_Size t = some d ∧ d ≤ 200 := by
  obtain ⟨n, hn⟩ := sz_pos t
  have hil : t.Inner.length ≤ 1 := by rcases h.inner with e | ⟨x, _, _, e⟩ <;> rw [e] <;> simp
  have hlen := h.len
  unfold F_threshold_Size
  rw [hn]
  show ∃ d, B_threshold_Size (I_threshold_Size (n + 1)) t = some d ∧ d ≤ 200
  rw [B_size (by omega), add64 (by omega) (by omega)]
  rcases h.inner with e | ⟨x, _, _, e⟩
  · rw [e]; exact ⟨_, rfl, by simp; omega⟩
  · rw [e, foldE, size_leaf n 1 [x]]
    have h1 : addI .i64 (([x] : List Int).length : Nat) (0 : Nat) = 1 := rfl
    rw [h1]
    refine ⟨_, rfl, ?_⟩
    grind [add64]
theorem F_threshold_Valid_good {t : TTrust} (h : GoodT t) : F_threshold_Valid t = some 0 := by
  obtain ⟨d, h1, h2⟩ := depth_good h
  obtain ⟨z, h3, h4⟩ := size_good h
  obtain ⟨n, hn⟩ := sz_pos t
  have hil : t.Inner.length ≤ 1 := by rcases h.inner with e | ⟨x, _, _, e⟩ <;> rw [e] <;> simp
  have hlen := h.len
  have h5 : F_threshold_level t = some 0 := by
    unfold F_threshold_level
    rw [hn]
    show B_threshold_level (I_threshold_level (n + 1)) t = some 0
    rw [B_level (by omega) (by omega)]
    refine level_good h fun x hx0 hx1 => ?_
    show B_threshold_level (I_threshold_level n) ⟨1, [x], []⟩ = some 0
    grind [B_level, levelB_leaf]
  have h6 : ¬ 4 < d := by omega
  have h7 : ¬ 200 < z := by omega
  simp [F_threshold_Valid, h1, h3, h5, h6, h7]
end Go.Proofs.YtnhgcpiljggmmaaGreatDoor

namespace Go.Proofs.YtnhgcpiljggmmaaGreatDoor
open Go.TQ

structure OkS (s : TSrc) : Prop where
  len : s.L.length ≤ 800
  lo : 0 ≤ s.At
  hi : s.At ≤ 800
theorem New_ok (l : List Int) : Yd (F_play_New l) fun s => OkS s := by
  have h : minI (l.length : Int) 800 = ((min l.length 800 : Nat) : Int) := by unfold minI; split <;> omega
  have h2 : slcOk 0 ((min l.length 800 : Nat) : Int) l.length = true := by
    grind [slcOk]
  unfold F_play_New
  rw [h, h2]
  refine Yd.some ⟨?_, by simp, by simp⟩
  grind
theorem tmod_bd (x n : Int) (hn : 1 ≤ n) : -n < x.tmod n ∧ x.tmod n < n := by
  have h2 := Int.emod_nonneg x (show n ≠ 0 by omega)
  have h3 := Int.emod_lt_of_pos x (show 0 < n by omega)
  rw [Int.tmod_eq_emod]
  split
  · omega
  · rw [Int.natAbs_of_nonneg (by omega)]; omega
theorem N_ok {s : TSrc} (h : OkS s) {n : Int} (hn : n ≤ 1000000000) : Yd (F_play_Src_N s n) fun p => OkS p.2 ∧ 0 ≤ p.1 ∧ (1 ≤ n → p.1 < n) ∧ (n < 1 → p.1 = 0) := by
  unfold F_play_Src_N
  simp only [letJ_eq]
  refine Yd.cond (fun h1 => ?_) (fun h1 => ?_)
  · grind [Yd.some]
  · simp only [decide_eq_false_iff_not, Int.not_le] at h1
    refine Yd.cond (fun h2 => ?_) (fun h2 => ?_)
    · grind [Yd.some]
    · simp only [decide_eq_false_iff_not, Int.not_lt] at h2
      obtain ⟨hl, hlo, hhi⟩ := h
      have e1 : addI .i64 s.At 1 = s.At + 1 := add64 (by omega) (by omega)
      have e2 : subI .i64 (s.At + 1) 1 = s.At := by rw [sub64 (by omega) (by omega)]; omega
      rw [e1, e2]
      have hlt : s.At.toNat < s.L.length := by omega
      rw [idx_of _ hlo, List.getElem?_eq_getElem hlt, Option.bind_some, if_neg (by omega), if_neg (by omega)]
      have hb := tmod_bd s.L[s.At.toNat] n h2
      have e3 : remI .i64 s.L[s.At.toNat] n = s.L[s.At.toNat].tmod n := rfl
      rw [e3]
      generalize s.L[s.At.toNat].tmod n = y at hb
      have e4 : addI .i64 y n = y + n := add64 (by omega) (by omega)
      rw [e4]
      have h5 : remI .i64 (y + n) n = (y + n) % n := Int.tmod_eq_emod_of_nonneg (by omega)
      rw [h5]
      exact Yd.some ⟨⟨hl, by simp; omega, by simp; omega⟩, Int.emod_nonneg _ (by omega), fun _ => Int.emod_lt_of_pos _ (by omega), fun _ => by omega⟩
theorem Range_ok {s : TSrc} (h : OkS s) {a b : Int} (h1 : 0 ≤ a) (h2 : a ≤ b + 1) (h3 : b ≤ 1000000) : Yd (F_play_Src_Range s a b) fun p => OkS p.2 ∧ a ≤ p.1 ∧ (a ≤ b → p.1 ≤ b) ∧ (b < a → p.1 = a) := by
  unfold F_play_Src_Range
  have e1 : subI .i64 b a = b - a := sub64 (by omega) (by omega)
  have e2 : addI .i64 (b - a) 1 = b - a + 1 := add64 (by omega) (by omega)
  rw [e1, e2]
  refine (N_ok h (by omega)).bind fun p ⟨h4, h5, h6, h7⟩ => ?_
  grind [addI, add64, Yd.some]
theorem Text_ok {s : TSrc} (h : OkS s) {l : List ByteArray} (h1 : 1 ≤ l.length) (h2 : l.length ≤ 1000) : Yd (F_play_Src_Text s l) fun p => OkS p.2 ∧ p.1 ∈ l := by
  unfold F_play_Src_Text
  refine (N_ok h (by omega)).bind fun p ⟨h4, h5, h6, _⟩ => ?_
  grind [idx_of, Yd.some]
/-- one of the four values -/
def Val (v : ByteArray) : Prop := v ∈ [(ByteArray.mk #[97]), (ByteArray.mk #[98]), (ByteArray.mk #[99]), (ByteArray.mk #[97, 97])]
theorem Val.size {v : ByteArray} (h : Val v) : 1 ≤ v.size ∧ v.size ≤ 2 := by
  simp only [Val, List.mem_cons, List.not_mem_nil, or_false] at h
  rcases h with rfl | rfl | rfl | rfl <;> exact ⟨by decide, by decide⟩
theorem Value_ok {s : TSrc} (h : OkS s) : Yd (F_play_Src_Value s) fun p => OkS p.2 ∧ Val p.1 := by
  unfold F_play_Src_Value
  exact (Text_ok h (by simp) (by simp)).bind fun p hp => Yd.some hp
theorem Low_ok {s : TSrc} (h : OkS s) : Yd (F_play_Src_Low s) fun p => OkS p.2 ∧ 1 ≤ p.1.Counter ∧ p.1.Counter ≤ 6 ∧ Val p.1.Value := by
  unfold F_play_Src_Low
  refine (Range_ok h (by omega) (by omega) (by omega)).bind fun p ⟨h1, h2, h3, _⟩ => ?_
  refine (Value_ok h1).bind fun q ⟨h4, h5⟩ => ?_
  exact Yd.some ⟨h4, h2, h3 (by omega), h5⟩
/-- n nodes at most -/
theorem Trust_ok {s : TSrc} (h : OkS s) {n : Nat} (hn1 : 1 ≤ n) (hn : n ≤ 10) : Yd (F_play_Src_Trust s n) fun p => OkS p.2 ∧ GoodT p.1 ∧ (∀ x ∈ p.1.Nodes, x < n) ∧ p.1.Nodes ≠ [] := by
  unfold F_play_Src_Trust
  simp only [letJ_eq]
  -- the loop
  let I (i : Nat) (s : TSrc) (t : TTrust) (ns : List Int) (is : List TTrust) : Prop := OkS s ∧ t.Threshold = 0 ∧ (∀ x ∈ ns, 0 ≤ x ∧ x < i) ∧ ns.Nodup ∧ ns.length ≤ i ∧ is = []
  suffices key : ∀ (k i : Nat) (s : TSrc) (t : TTrust) (ns : List Int) (is : List TTrust), i + k = n → I i s t ns is → Yd (loopO _ ((i : Int), s, t, ns, is, ())) _ from key n 0 s _ _ _ (by omega) ⟨h, rfl, by simp, by simp, by simp, rfl⟩
  intro k
  induction k with
  | zero =>
    intro i s t ns is hi ⟨h1, h2, h3, h4, h5, h6⟩
    obtain rfl : i = n := by omega
    subst h6
    have hd : decide ((i : Int) < (i : Int)) = false := decide_eq_false (Int.lt_irrefl _)
    refine Yd.loop ?_
    simp only [hd, cond_false]
    refine Yd.inr ?_
    -- behind the nodes
    have fin : ∀ (s : TSrc) (ns : List Int) (is : List TTrust) (th : Int), OkS s → (∀ x ∈ ns, 0 ≤ x ∧ x < i) → ns.Nodup → ns.length ≤ 10 → ns ≠ [] → (is = [] ∨ ∃ x, 0 ≤ x ∧ x < 10 ∧ is = [⟨1, [x], []⟩]) → 1 ≤ th → th ≤ ns.length + is.length →
        OkS s ∧ GoodT ⟨th, ns, is⟩ ∧ (∀ x ∈ ns, x < (i : Int)) ∧ ns ≠ [] := by
      intro s ns is th a1 a2 a3 a4 a5 a6 a7 a8
      exact ⟨a1, ⟨fun x hx => by have := a2 x hx; exact ⟨this.1, by omega⟩, a3, a4, a6, a7, a8⟩, fun x hx => (a2 x hx).2, a5⟩
    have tail : ∀ (s : TSrc) (ns : List Int) (is : List TTrust), OkS s → (∀ x ∈ ns, 0 ≤ x ∧ x < i) → ns.Nodup → ns.length ≤ 10 → ns ≠ [] → (is = [] ∨ ∃ x, 0 ≤ x ∧ x < 10 ∧ is = [⟨1, [x], []⟩]) →
        Yd (Option.bind (F_play_Src_Range s (quoI .i64 (addI .i64 (addI .i64 ((List.length ns : Nat) : Int) ((List.length is : Nat) : Int)) (1 : Int)) (2 : Int)) (addI .i64 ((List.length ns : Nat) : Int) ((List.length is : Nat) : Int))) fun p9 =>
          Option.bind (F_play_Src_N p9.2 (6 : Int)) fun p12 =>
          bif (decide (p12.1 = (5 : Int))) then some ((TTrust.mk (1 : Int) ns is), p12.2) else some ((TTrust.mk p9.1 ns is), p12.2)) fun p => OkS p.2 ∧ GoodT p.1 ∧ (∀ x ∈ p.1.Nodes, x < (i : Int)) ∧ p.1.Nodes ≠ [] := by
      intro s ns is a1 a2 a3 a4 a5 a6
      have hp : 1 ≤ ns.length := by cases ns with | nil => exact absurd rfl a5 | cons x l => simp
      have hil : is.length ≤ 1 := by rcases a6 with e | ⟨x, _, _, e⟩ <;> rw [e] <;> simp
      have e1 : addI .i64 ((List.length ns : Nat) : Int) ((List.length is : Nat) : Int) = ns.length + is.length := add64 (by omega) (by omega)
      have e2 : addI .i64 ((ns.length : Int) + is.length) 1 = ns.length + is.length + 1 := add64 (by omega) (by omega)
      have e3 : quoI .i64 ((ns.length : Int) + is.length + 1) 2 = (ns.length + is.length + 1) / 2 := by
        show IntKind.i64.wrap (Int.tdiv _ _) = _
        rw [Int.tdiv_eq_ediv_of_nonneg (by omega)]
        exact wrap64 (by omega) (by omega)
      rw [e1, e2, e3]
      refine (Range_ok a1 (by omega) (by omega) (by omega)).bind fun p ⟨b1, b2, b3, _⟩ => ?_
      refine (N_ok b1 (by omega)).bind fun q ⟨c1, _⟩ => ?_
      have b4 := b3 (by omega)
      refine Yd.cond (fun _ => Yd.some (fin q.2 ns is 1 c1 a2 a3 a4 a5 a6 (by omega) (by omega))) (fun _ => Yd.some (fin q.2 ns is p.1 c1 a2 a3 a4 a5 a6 (by omega) (by omega)))
    have mid : ∀ (s : TSrc) (ns : List Int), OkS s → (∀ x ∈ ns, 0 ≤ x ∧ x < i) → ns.Nodup → ns.length ≤ 10 → ns ≠ [] →
        Yd (Option.bind (F_play_Src_N s (4 : Int)) fun p13 =>
          bif (decide (p13.1 = (3 : Int))) then
          Option.bind (F_play_Src_N p13.2 (i : Int)) fun p14 =>
          bif lenOk 56 (List.length ([] : List TTrust) + List.length [(TTrust.mk (1 : Int) [p14.1] ([] : List TTrust))]) then
          (Option.bind (F_play_Src_Range p14.2 (quoI .i64 (addI .i64 (addI .i64 ((List.length ns : Nat) : Int) ((List.length (([] : List TTrust) ++ [(TTrust.mk (1 : Int) [p14.1] ([] : List TTrust))]) : Nat) : Int)) (1 : Int)) (2 : Int)) (addI .i64 ((List.length ns : Nat) : Int) ((List.length (([] : List TTrust) ++ [(TTrust.mk (1 : Int) [p14.1] ([] : List TTrust))]) : Nat) : Int))) fun p9 =>
          Option.bind (F_play_Src_N p9.2 (6 : Int)) fun p12 =>
          bif (decide (p12.1 = (5 : Int))) then some ((TTrust.mk (1 : Int) ns (([] : List TTrust) ++ [(TTrust.mk (1 : Int) [p14.1] ([] : List TTrust))])), p12.2) else some ((TTrust.mk p9.1 ns (([] : List TTrust) ++ [(TTrust.mk (1 : Int) [p14.1] ([] : List TTrust))])), p12.2))
          else none
          else
          (Option.bind (F_play_Src_Range p13.2 (quoI .i64 (addI .i64 (addI .i64 ((List.length ns : Nat) : Int) ((List.length ([] : List TTrust) : Nat) : Int)) (1 : Int)) (2 : Int)) (addI .i64 ((List.length ns : Nat) : Int) ((List.length ([] : List TTrust) : Nat) : Int))) fun p9 =>
          Option.bind (F_play_Src_N p9.2 (6 : Int)) fun p12 =>
          bif (decide (p12.1 = (5 : Int))) then some ((TTrust.mk (1 : Int) ns []), p12.2) else some ((TTrust.mk p9.1 ns []), p12.2))) fun p => OkS p.2 ∧ GoodT p.1 ∧ (∀ x ∈ p.1.Nodes, x < (i : Int)) ∧ p.1.Nodes ≠ [] := by
      intro s ns a1 a2 a3 a4 a5
      refine (N_ok a1 (by omega)).bind fun p ⟨b1, b2, b3, _⟩ => ?_
      refine Yd.cond (fun _ => ?_) (fun _ => ?_)
      · refine (N_ok b1 (by omega)).bind fun q ⟨c1, c2, c3, _⟩ => ?_
        have c4 := c3 (by omega)
        rw [lenOk_small (by simp)]
        exact tail q.2 ns _ c1 a2 a3 a4 a5 (.inr ⟨q.1, c2, by omega, rfl⟩)
      · exact tail p.2 ns [] b1 a2 a3 a4 a5 (.inl rfl)
    refine Yd.cond (fun hz => ?_) (fun hz => ?_)
    · refine (N_ok h1 (by omega)).bind fun p ⟨b1, b2, b3, _⟩ => ?_
      have b4 := b3 (by omega)
      exact mid p.2 [p.1] b1 (by simp; omega) (by simp) (by simp) (by simp)
    · grind
  | succ k ih =>
    intro i s t ns is hi ⟨h1, h2, h3, h4, h5, h6⟩
    have hd : decide ((i : Int) < (n : Int)) = true := decide_eq_true (by omega)
    have hw : addI .i64 (i : Int) 1 = ((i + 1 : Nat) : Int) := add64 (by omega) (by omega)
    refine Yd.loop ?_
    simp only [hd, cond_true, hw]
    refine (N_ok h1 (by omega)).bind fun p ⟨b1, b2, b3, _⟩ => ?_
    refine Yd.cond (fun _ => ?_) (fun _ => ?_)
    · rw [lenOk_small (by simp; omega)]
      refine Yd.some (ih (i + 1) p.2 _ _ _ (by omega) ⟨b1, h2, ?_, ?_, by simp; omega, h6⟩)
      · grind
      · grind
    · refine Yd.some (ih (i + 1) p.2 _ _ _ (by omega) ⟨b1, h2, ?_, h4, by omega, h6⟩)
      intro x hx
      have := h3 x hx
      omega
end Go.Proofs.YtnhgcpiljggmmaaGreatDoor

namespace Go.Proofs.YtnhgcpiljggmmaaGreatDoor
open Go.TQ

/-- trusts whose lists are of modest length -/
inductive SmT : TTrust → Prop where
  | mk (t : TTrust) (h1 : t.Nodes.length ≤ 1000000) (h2 : t.Inner.length ≤ 1000000) (h3 : ∀ u ∈ t.Inner, SmT u) : SmT t
theorem SmT.nodes {t : TTrust} : SmT t → t.Nodes.length ≤ 1000000 | .mk _ h _ _ => h
theorem SmT.len {t : TTrust} : SmT t → t.Inner.length ≤ 1000000 | .mk _ _ h _ => h
theorem SmT.inner {t : TTrust} : SmT t → ∀ u ∈ t.Inner, SmT u | .mk _ _ _ h => h
theorem inner_lt {t u : TTrust} (h : u ∈ t.Inner) : SizeOf.sizeOf u < SizeOf.sizeOf t := by
  have h1 := List.sizeOf_lt_of_mem h
  cases t with
  | mk th ns is =>
    grind
theorem GoodT.sm {t : TTrust} (h : GoodT t) : SmT t := by
  have := h.len
  refine .mk t (by omega) ?_ fun u hu => ?_
  · rcases h.inner with e | ⟨x, _, _, e⟩ <;> rw [e] <;> simp
  · rcases h.inner with e | ⟨x, _, _, e⟩
    · rw [e] at hu; cases hu
    · rw [e] at hu
      simp only [List.mem_singleton] at hu
      subst hu
      exact .mk _ (by simp) (by simp) (by simp)

/-! ### validity -/
theorem foldE_total {α σ ρ : Type} {g : α → σ → Option (σ ⊕ ρ)} {fin : σ → Option ρ} (hf : ∀ s, ∃ r, fin s = some r) : ∀ (l : List α), (∀ x ∈ l, ∀ s, ∃ y, g x s = some y) → ∀ s, ∃ r, foldE g fin l s = some r
  | [], _, s => hf s
  | x :: l, h, s => by
    obtain ⟨y, hy⟩ := h x (by simp) s
    rw [foldE, hy]
    cases y with
    | inr r => exact ⟨r, rfl⟩
    | inl s' => exact foldE_total hf l (fun x hx => h x (by simp [hx])) s'
theorem foldE_congr {α σ ρ : Type} {g g' : α → σ → Option (σ ⊕ ρ)} {fin : σ → Option ρ} : ∀ (l : List α), (∀ x ∈ l, ∀ s, g x s = g' x s) → ∀ s, foldE g fin l s = foldE g' fin l s
  | [], _, s => rfl
  | x :: l, h, s => by
    rw [foldE, foldE, h x (by simp) s]
    cases g' x s with
    | none => rfl
    | some y =>
      cases y with
      | inr r => rfl
      | inl s' => exact foldE_congr l (fun x hx => h x (by simp [hx])) s'
theorem depth_total {n : Nat} : ∀ {t : TTrust}, SizeOf.sizeOf t < n → SmT t → ∃ d, I_threshold_Depth n (t, ()) = some d := by
  induction n with
  | zero => intro t h; omega
  | succ n ih =>
    intro t hs hm
    show ∃ d, B_threshold_Depth (I_threshold_Depth n) t = some d
    have hl := hm.len
    rw [B_depth (by omega)]
    refine foldE_total (fun s => ⟨_, rfl⟩) _ (fun u hu s => ?_) _
    obtain ⟨d, hd⟩ := ih (t := u) (by have := inner_lt hu; omega) (hm.inner u hu)
    exact ⟨_, by rw [hd]; rfl⟩
theorem size_total {n : Nat} : ∀ {t : TTrust}, SizeOf.sizeOf t < n → SmT t → ∃ d, I_threshold_Size n (t, ()) = some d := by
  induction n with
  | zero => intro t h; omega
  | succ n ih =>
    intro t hs hm
    show ∃ d, B_threshold_Size (I_threshold_Size n) t = some d
    have hl := hm.len
    rw [B_size (by omega)]
    refine foldE_total (fun s => ⟨_, rfl⟩) _ (fun u hu s => ?_) _
    obtain ⟨d, hd⟩ := ih (t := u) (by have := inner_lt hu; omega) (hm.inner u hu)
    exact ⟨_, by rw [hd]; rfl⟩
theorem levelB_total {rec : TTrust → Option Int} {t : TTrust} (h : ∀ u ∈ t.Inner, ∃ r, rec u = some r) : ∃ r, levelB rec t = some r := by
  unfold levelB
  split
  · exact ⟨_, rfl⟩
  · split
    · exact ⟨_, rfl⟩
    · split
      · refine foldE_total (fun s => ⟨_, rfl⟩) _ (fun u hu s => ?_) _
        obtain ⟨r, hr⟩ := h u hu
        exact ⟨_, by rw [hr]; rfl⟩
      · exact ⟨_, rfl⟩
theorem levelB_congr {rec rec' : TTrust → Option Int} {t : TTrust} (h : ∀ u ∈ t.Inner, rec u = rec' u) : levelB rec t = levelB rec' t := by
  grind [levelB, foldE_congr]
theorem level_total {n : Nat} : ∀ {t : TTrust}, SizeOf.sizeOf t < n → SmT t → ∃ d, I_threshold_level n (t, ()) = some d ∧ I_ref02_check n (t, ()) = some d := by
  induction n with
  | zero => intro t h; omega
  | succ n ih =>
    intro t hs hm
    show ∃ d, B_threshold_level (I_threshold_level n) t = some d ∧ B_ref02_check (I_ref02_check n) t = some d
    have hl := hm.len
    have hn := hm.nodes
    rw [B_level (by omega) (by omega), B_check (by omega) (by omega)]
    have hih : ∀ u ∈ t.Inner, ∃ r, I_threshold_level n (u, ()) = some r ∧ I_ref02_check n (u, ()) = some r := fun u hu => ih (t := u) (by have := inner_lt hu; omega) (hm.inner u hu)
    obtain ⟨r, hr⟩ := levelB_total (rec := fun u => I_threshold_level n (u, ())) (t := t) fun u hu => by obtain ⟨r, h1, _⟩ := hih u hu; exact ⟨r, h1⟩
    grind [levelB_congr]
theorem level_p {n : Nat} : ∀ {t : TTrust}, SizeOf.sizeOf t < n → SmT t → ∃ d, I_threshold_level n (t, ()) = some d := by
  induction n with
  | zero => intro t h; omega
  | succ n ih =>
    intro t hs hm
    show ∃ d, B_threshold_level (I_threshold_level n) t = some d
    have hl := hm.len
    have hn := hm.nodes
    rw [B_level (by omega) (by omega)]
    exact levelB_total (rec := fun u => I_threshold_level n (u, ())) (t := t) fun u hu => ih (t := u) (by have := inner_lt hu; omega) (hm.inner u hu)
theorem valid_p {t : TTrust} (h : SmT t) : ∃ v, F_threshold_Valid t = some v := by
  obtain ⟨d, hd⟩ : ∃ d, F_threshold_Depth t = some d := depth_total (by omega) h
  obtain ⟨z, hz⟩ : ∃ z, F_threshold_Size t = some z := size_total (by omega) h
  obtain ⟨l, hl1⟩ : ∃ l, F_threshold_level t = some l := level_p (by omega) h
  simp [F_threshold_Valid, hd, hz, hl1]
theorem valid_both {t : TTrust} (h : SmT t) : ∃ v, F_threshold_Valid t = some v ∧ F_ref02_Valid t = some v := by
  obtain ⟨d, hd⟩ : ∃ d, F_threshold_Depth t = some d := depth_total (by omega) h
  obtain ⟨z, hz⟩ : ∃ z, F_threshold_Size t = some z := size_total (by omega) h
  obtain ⟨l, hl1, hl2⟩ : ∃ l, F_threshold_level t = some l ∧ F_ref02_check t = some l := level_total (by omega) h
  simp [F_threshold_Valid, F_ref02_Valid, ref_depth, ref_size, hd, hz, hl1, hl2]
noncomputable def tval (t : TTrust) : Int := (F_threshold_Valid t).getD 1
theorem tval_eq {t : TTrust} (h : SmT t) : F_threshold_Valid t = some (tval t) := by
  grind [valid_p, tval]
theorem tval_ref {t : TTrust} (h : SmT t) : F_ref02_Valid t = some (tval t) := by
  grind [valid_both, tval]
theorem tval_good {t : TTrust} (h : GoodT t) : tval t = 0 := by rw [tval, F_threshold_Valid_good h]; rfl
end Go.Proofs.YtnhgcpiljggmmaaGreatDoor

namespace Go.Proofs.YtnhgcpiljggmmaaGreatDoor
open Go.TQ Go.Proofs

abbrev Str := List UInt8
def bs (l : Str) : ByteArray := ⟨l.toArray⟩
@[simp] theorem bs_data (l : Str) : (bs l).data.toList = l := rfl
@[simp] theorem bs_size (l : Str) : (bs l).size = l.length := rfl
theorem bs_of (s : ByteArray) : bs s.data.toList = s := by cases s; rfl
theorem bs_inj {a b : Str} : bs a = bs b ↔ a = b := ⟨fun h => by rw [← bs_data a, h, bs_data], fun h => by rw [h]⟩
theorem size_data (s : ByteArray) : s.size = s.data.toList.length := rfl

/-! ### parts between a byte -/
def cutC (c : UInt8) : Str → List Str
  | [] => [[]]
  | b :: l => if b = c then [] :: cutC c l else match cutC c l with
    | [] => [[b]]
    | x :: r => (b :: x) :: r
theorem cutC_ne (c : UInt8) (l : Str) : ∃ x r, cutC c l = x :: r := by
  cases l with
  | nil => exact ⟨_, _, rfl⟩
  | cons b l =>
    unfold cutC
    split
    · exact ⟨_, _, rfl⟩
    · split <;> exact ⟨_, _, rfl⟩
theorem cutC_word {c : UInt8} : ∀ {x : Str}, c ∉ x → cutC c x = [x]
  | [], _ => rfl
  | b :: x, h => by
    simp only [List.mem_cons, not_or] at h
    rw [cutC, if_neg (fun e => h.1 e.symm), cutC_word h.2]
theorem cutC_app {c : UInt8} : ∀ {x : Str} (l : Str), c ∉ x → cutC c (x ++ c :: l) = x :: cutC c l
  | [], l, _ => by simp [cutC]
  | b :: x, l, h => by
    simp only [List.mem_cons, not_or] at h
    rw [List.cons_append, cutC, if_neg (fun e => h.1 e.symm), cutC_app l h.2]
theorem cutC_join {c : UInt8} : ∀ (x : Str) (r : List Str), (∀ w ∈ x :: r, c ∉ w) → cutC c (Lib.join (x :: r) [c]) = x :: r
  | x, [], h => by rw [Lib.join_one]; exact cutC_word (h x (by simp))
  | x, y :: r, h => by
    have e : Lib.join (x :: y :: r) [c] = x ++ c :: Lib.join (y :: r) [c] := by
      rw [Lib.join_cons, Lib.join_cons, Lib.joinTail]
      simp [Lib.joinTail]
    rw [e, cutC_app _ (h x (by simp)), cutC_join y r fun w hw => h w (by simp [hw])]

theorem pre_one (c b : UInt8) (l : Str) : ([c] : Str).isPrefixOf (b :: l) = (c == b) := by simp [List.isPrefixOf]
theorem index_one_at {c : UInt8} : ∀ {x : Str} (l : Str), c ∉ x → Lib.index (x ++ c :: l) [c] = x.length
  | [], l, _ => by simp [Lib.index, List.isPrefixOf]
  | b :: x, l, h => by
    simp only [List.mem_cons, not_or] at h
    rw [List.cons_append, Lib.index, pre_one, if_neg (by simp [h.1]), index_one_at l h.2]
    have : ((x.length : Int) == -1) = false := by simp
    rw [this]
    simp
theorem mem_split {c : UInt8} : ∀ {l : Str}, c ∈ l → ∃ x r, l = x ++ c :: r ∧ c ∉ x
  | b :: l, h => by
    by_cases e : b = c
    · exact ⟨[], l, by rw [e]; rfl, by simp⟩
    · have hc : c ∈ l := by
        rcases List.mem_cons.1 h with h | h
        · exact absurd h.symm e
        · exact h
      obtain ⟨x, r, h1, h2⟩ := mem_split hc
      exact ⟨b :: x, r, by rw [h1]; rfl, by simp only [List.mem_cons, not_or]; exact ⟨fun h => e h.symm, h2⟩⟩
theorem splitK_cut (c : UInt8) : ∀ (k : Nat) (l : Str), l.count c = k → Lib.splitK [c] 0 k l = cutC c l
  | 0, l, h => by
    rw [Lib.splitK, cutC_word (fun hc => by have := List.count_pos_iff.2 hc; omega)]
  | k + 1, l, h => by
    obtain ⟨x, r, rfl, hx⟩ := mem_split (List.count_pos_iff.1 (show 0 < l.count c by omega))
    have hi := index_one_at r hx
    rw [Lib.splitK, hi, if_neg (by simp), cutC_app r hx]
    have hc : r.count c = k := by
      rw [List.count_append, List.count_cons_self, List.count_eq_zero_of_not_mem hx] at h
      omega
    have e1 : (x ++ c :: r).take ((x.length : Int).toNat + 0) = x := by simp
    have e2 : (x ++ c :: r).drop ((x.length : Int).toNat + ([c] : Str).length) = r := by simp
    rw [e1, e2, splitK_cut c k r hc]
theorem split_cut (c : UInt8) (s : ByteArray) : (Lib.splitB (bs [c]) 0 (Lib.countB s (bs [c])) s).map (·.data.toList) = cutC c s.data.toList := by
  rw [Lib.splitB_data]
  exact splitK_cut c _ _ (Lib.count_one c s.data.toList).symm

/-- the words of a text -/
theorem splitF_eq (s : ByteArray) (h : s.size < 4294967281) : splitF s (bs [32]) = some ((cutC 32 s.data.toList).map bs) := by
  unfold splitF
  rw [if_pos ⟨h, by simp⟩, ← split_cut, List.map_map]
  congr 1
  rw [show (bs ∘ fun x : ByteArray => x.data.toList) = id from funext bs_of]
  simp

/-! ### numerals of small numbers -/
def dig (n : Nat) : UInt8 := UInt8.ofNat (48 + n)
def num4 (u : Nat) : Str := if u < 10 then [dig u] else if u < 100 then [dig (u / 10), dig (u % 10)] else if u < 1000 then [dig (u / 100), dig (u / 10 % 10), dig (u % 10)] else [dig (u / 1000), dig (u / 100 % 10), dig (u / 10 % 10), dig (u % 10)]
theorem itoa_num4 {u : Nat} (h : u < 10000) : Lib.itoa u = num4 u := by
  rw [Lib.itoa_nonneg]
  unfold num4
  split
  · rename_i h1; rw [Lib.decDigits_one h1]; rfl
  · rename_i h1
    split
    · rename_i h2; rw [Lib.decDigits_two h1 h2]; rfl
    · rename_i h2
      split
      · rename_i h3
        rw [Lib.decDigits, dif_neg h1, Lib.decDigits_two (by omega) (by omega), Nat.div_div_eq_div_mul]
        rfl
      · rename_i h3
        rw [Lib.decDigits, dif_neg h1, Lib.decDigits, dif_neg (by omega), Lib.decDigits_two (by omega) (by omega)]
        simp only [Nat.div_div_eq_div_mul, Nat.reduceMul, dig, List.cons_append, List.nil_append]
def isDig (b : UInt8) : Bool := decide (48 ≤ b.toNat) && decide (b.toNat ≤ 57)
def numOk (n : Nat) : Bool := decide (Lib.atoiAll (num4 n) = .ok (n : Int)) && (num4 n).all isDig && decide (1 ≤ (num4 n).length) && decide ((num4 n).length ≤ 4) && (decide ((num4 n).length = 1) || decide ((num4 n).head? ≠ some 48))
theorem numOk_all : (List.range 1024).all numOk = true := by decide +kernel
theorem numOk_of {n : Nat} (h : n < 1024) : numOk n = true := List.all_eq_true.1 numOk_all n (List.mem_range.2 h)
structure NumOk (n : Nat) (l : Str) : Prop where
  itoa : Lib.itoa n = l
  back : Lib.atoiAll l = .ok (n : Int)
  dig : ∀ b ∈ l, isDig b = true
  len : 1 ≤ l.length ∧ l.length ≤ 4
  head : l.length = 1 ∨ l.head? ≠ some 48
theorem num_ok {n : Nat} (h : n < 1024) : NumOk n (num4 n) := by
  have := numOk_of h
  simp only [numOk, Bool.and_eq_true, Bool.or_eq_true, decide_eq_true_eq, List.all_eq_true] at this
  obtain ⟨⟨⟨⟨h1, h2⟩, h3⟩, h4⟩, h5⟩ := this
  exact ⟨itoa_num4 (by omega), h1, h2, ⟨h3, h4⟩, h5⟩
theorem atoiF_num {n : Nat} (h : n < 1024) : atoiF (bs (num4 n)) = some ((n : Int), true, ()) := by
  have := num_ok h
  unfold atoiF
  rw [if_pos (by have := this.len.2; simp; omega)]
  simp only [bs_data, this.back]
theorem atoiF_total (s : ByteArray) (h : s.size ≤ 281474976710656) : ∃ n b, atoiF s = some (n, b, ()) ∧ -9223372036854775808 ≤ n ∧ n ≤ 9223372036854775807 := by
  unfold atoiF
  rw [if_pos h]
  split
  · rename_i v hv
    have := Lib.atoiAll_bounds hv
    exact ⟨_, _, rfl, by omega, by omega⟩
  · exact ⟨_, _, rfl, by omega, by omega⟩
  · have := Lib.atoiSat_bounds s.data.toList
    exact ⟨_, _, rfl, by omega, by omega⟩

theorem indexByte_at {c : UInt8} : ∀ {x : Str} (l : Str), c ∉ x → Lib.indexByte (x ++ c :: l) c = x.length
  | [], l, _ => by simp [Lib.indexByte]
  | b :: x, l, h => by
    simp only [List.mem_cons, not_or] at h
    rw [List.cons_append, Lib.indexByte, if_neg (by simp; exact fun e => h.1 e.symm), indexByte_at l h.2]
    have : ((x.length : Int) == -1) = false := by simp
    rw [this]
    simp
def textOf (ls : List Str) : Str := (ls.map (· ++ [10])).flatten
theorem textOf_cons (x : Str) (ls : List Str) : textOf (x :: ls) = x ++ 10 :: textOf ls := by simp [textOf]
theorem extract_bs (l : Str) (i j : Nat) : (bs l).extract i j = bs ((l.drop i).take (j - i)) := by
  rw [← bs_of ((bs l).extract i j)]
  congr 1
  rw [← Lib.toList_data, Lib.extract_toList]
  rfl
theorem linesGo_text : ∀ (ls : List Str) (f : Nat), (∀ x ∈ ls, (10 : UInt8) ∉ x) → (textOf ls).length ≤ f → linesGo f (bs (textOf ls)) = ls.map fun x => bs (x ++ [10])
  | [], 0, _, _ => rfl
  | [], f + 1, _, _ => by rw [linesGo, if_pos (by simp [textOf])]; rfl
  | x :: ls, 0, _, h => by rw [textOf_cons] at h; simp at h
  | x :: ls, f + 1, hx, h => by
    rw [textOf_cons] at h ⊢
    have h10 := hx x (by simp)
    have hE : lineEnd (bs (x ++ 10 :: textOf ls)) = x.length := indexByte_at _ h10
    rw [linesGo, if_neg (by simp), hE, if_pos (by omega)]
    have e1 : (bs (x ++ 10 :: textOf ls)).extract 0 ((x.length : Int).toNat + 1) = bs (x ++ [10]) := by
      rw [extract_bs]
      congr 1
      simp [List.take_append, List.take_of_length_le]
    have e2 : (bs (x ++ 10 :: textOf ls)).extract ((x.length : Int).toNat + 1) (bs (x ++ 10 :: textOf ls)).size = bs (textOf ls) := by
      rw [extract_bs]
      congr 1
      rw [show x ++ 10 :: textOf ls = (x ++ [10]) ++ textOf ls by simp, List.drop_left' (by simp)]
      rw [List.take_of_length_le (by simp; omega)]
    rw [e1, e2, linesGo_text ls f (fun y hy => hx y (by simp [hy])) (by simp at h; omega)]
    rfl
end Go.Proofs.YtnhgcpiljggmmaaGreatDoor

set_option linter.unusedVariables false
set_option linter.unusedSimpArgs false
namespace Go.Proofs.YtnhgcpiljggmmaaGreatDoor
open Go.TQ Go.Proofs

theorem bs_get (l : Str) (i : Nat) : (bs l)[i]? = l[i]? := by
  by_cases h : i < l.length
  · rw [List.getElem?_eq_getElem h]
    exact (getElem?_pos (bs l) i (by simpa using h)).trans rfl
  · rw [List.getElem?_eq_none (by omega)]
    exact getElem?_neg (bs l) i (by simpa using h)
theorem sidx_bs (l : Str) (i : Nat) : sidx (bs l) (i : Int) = (l[i]?).map fun b => (b.toNat : Int) := by
  unfold sidx
  rw [if_pos (by omega), Int.toNat_natCast, bs_get]
theorem sslc_bs (l : Str) (i j : Nat) (h1 : i ≤ j) (h2 : j ≤ l.length) : sslc (bs l) (i : Int) (j : Int) = some (bs ((l.drop i).take (j - i))) := by
  unfold sslc
  rw [if_pos ⟨by omega, by omega, by simp; omega⟩, Int.toNat_natCast, Int.toNat_natCast, extract_bs]
theorem scat_bs (a b : Str) (h : a.length + b.length ≤ 9223372036854775807) : scat (bs a) (bs b) = some (bs (a ++ b)) := by
  unfold scat
  rw [if_pos (by simpa using h)]
  rw [← bs_of (bs a ++ bs b)]
  congr 2

/-! ### tokens -/
def isSp (b : UInt8) : Bool := decide (b = 32)
def digs (r : Str) : Nat := (r.takeWhile isDig).length
/-- how long the token is that begins here -/
def tokLen (r : Str) : Nat := if [111, 102] <+: r then 2 else match r with
  | [] => 0
  | b :: _ => if b = 40 ∨ b = 41 ∨ b = 44 then 1 else digs r
def skipS (r : Str) : Str := r.dropWhile isSp
def tok (r : Str) : Str := r.take (tokLen r)
/-- what is left behind the token, from the next token on -/
def nxt (r : Str) : Str := skipS (r.drop (tokLen r))
theorem digs_le (r : Str) : digs r ≤ r.length := (List.takeWhile_sublist _).length_le
theorem tokLen_le (r : Str) : tokLen r ≤ r.length := by
  unfold tokLen
  split
  · rename_i h; exact h.length_le
  · split
    · exact Nat.le_refl _
    · split
      · simp
      · exact digs_le _
theorem skipS_le (r : Str) : (skipS r).length ≤ r.length := (List.dropWhile_sublist _).length_le

/-- the reader stands at the token with which r begins -/
structure RS (s : TNotationReader) (r : Str) : Prop where
  token : s.token = bs (tok r)
  text : ∃ pre : Str, s.text = bs (pre ++ r) ∧ s.at_ = pre.length ∧ (pre ++ r).length ≤ 10000

theorem digit_eq (b : UInt8) : F_notation_digit (b.toNat : Int) = some (isDig b) := by
  unfold F_notation_digit isDig
  have h1 : decide ((48 : Int) ≤ (b.toNat : Int)) = decide (48 ≤ b.toNat) := decide_eq_decide.2 (by omega)
  have h2 : decide ((b.toNat : Int) ≤ 57) = decide (b.toNat ≤ 57) := decide_eq_decide.2 (by omega)
  rw [h1, h2]
  cases decide (48 ≤ b.toNat) <;> rfl

/-- the digits' loop -/
theorem digs_loop {ρ : Type} (r : Str) (hr : r.length ≤ 10000) (k : Int → Option ρ) : ∀ (m i : Nat), m = r.length - i → i ≤ r.length →
    loopO (fun (v : Int × Unit) => Option.bind (bif (decide (v.1 < (((bs r).size : Nat) : Int))) then Option.bind (sidx (bs r) v.1) fun x => Option.bind (F_notation_digit x) fun y => some y else some false) fun b =>
      bif b then some (Sum.inl ((addI .i64 v.1 (1 : Int)), ())) else Option.map Sum.inr (k v.1)) ((i : Int), ()) = k ((i + digs (r.drop i) : Nat) : Int)
  | 0, i, hm, hi => by
    obtain rfl : i = r.length := by omega
    have hb : (bif (decide ((r.length : Int) < (((bs r).size : Nat) : Int))) then Option.bind (sidx (bs r) (r.length : Int)) fun x => Option.bind (F_notation_digit x) fun y => some y else some false) = some false := by
      rw [decide_eq_false (by simp)]
      rfl
    have h0 : digs (r.drop r.length) = 0 := by simp [digs]
    rw [h0, Nat.add_zero]
    cases hk : k (r.length : Int) with
    | none =>
      refine loopO_none ?_
      show Option.bind (bif (decide ((r.length : Int) < (((bs r).size : Nat) : Int))) then Option.bind (sidx (bs r) (r.length : Int)) fun x => Option.bind (F_notation_digit x) fun y => some y else some false) _ = _
      rw [hb]
      show Option.map Sum.inr (k (r.length : Int)) = _
      rw [hk]
      rfl
    | some v =>
      refine loopO_inr ?_
      show Option.bind (bif (decide ((r.length : Int) < (((bs r).size : Nat) : Int))) then Option.bind (sidx (bs r) (r.length : Int)) fun x => Option.bind (F_notation_digit x) fun y => some y else some false) _ = _
      rw [hb]
      show Option.map Sum.inr (k (r.length : Int)) = _
      rw [hk]
      rfl
  | m + 1, i, hm, hi => by
    have hlt : i < r.length := by omega
    have hb : (bif (decide ((i : Int) < (((bs r).size : Nat) : Int))) then Option.bind (sidx (bs r) (i : Int)) fun x => Option.bind (F_notation_digit x) fun y => some y else some false) = some (isDig r[i]) := by
      rw [decide_eq_true (by simpa using hlt), cond_true, sidx_bs, List.getElem?_eq_getElem hlt, Option.map_some, Option.bind_some, digit_eq]
      rfl
    have hds : digs (r.drop i) = if isDig r[i] then digs (r.drop (i + 1)) + 1 else 0 := by
      rw [List.drop_eq_getElem_cons hlt]
      unfold digs
      rw [List.takeWhile_cons]
      split <;> rfl
    rw [hds]
    cases hd : isDig r[i] with
    | true =>
      have e : addI .i64 (i : Int) 1 = ((i + 1 : Nat) : Int) := by rw [add64 (by omega) (by omega)]; omega
      refine (loopO_inl (s' := (((i + 1 : Nat) : Int), ())) ?_).trans ?_
      · show Option.bind (bif (decide ((i : Int) < (((bs r).size : Nat) : Int))) then Option.bind (sidx (bs r) (i : Int)) fun x => Option.bind (F_notation_digit x) fun y => some y else some false) _ = _
        rw [hb, hd, Option.bind_some, cond_true]
        show some (Sum.inl ((addI .i64 (i : Int) (1 : Int)), ())) = _
        rw [e]
      · rw [digs_loop r hr k m (i + 1) (by omega) (by omega), if_pos rfl]
        congr 2
        omega
    | false =>
      rw [if_neg (by simp), Nat.add_zero]
      cases hk : k (i : Int) with
      | none =>
        refine loopO_none ?_
        show Option.bind (bif (decide ((i : Int) < (((bs r).size : Nat) : Int))) then Option.bind (sidx (bs r) (i : Int)) fun x => Option.bind (F_notation_digit x) fun y => some y else some false) _ = _
        rw [hb, hd]
        show Option.map Sum.inr (k (i : Int)) = _
        rw [hk]
        rfl
      | some v =>
        refine loopO_inr ?_
        show Option.bind (bif (decide ((i : Int) < (((bs r).size : Nat) : Int))) then Option.bind (sidx (bs r) (i : Int)) fun x => Option.bind (F_notation_digit x) fun y => some y else some false) _ = _
        rw [hb, hd]
        show Option.map Sum.inr (k (i : Int)) = _
        rw [hk]
        rfl

/-- the token that begins here: its length -/
theorem tok_len {ρ : Type} (r : Str) (hr : r.length ≤ 10000) (k : Int × Unit → Option ρ) :
    (Option.bind (F_strings_HasPrefix (bs r) (ByteArray.mk #[111, 102])) fun r8 =>
      bif r8 then k ((2 : Int), ()) else
      Option.bind (bif (!decide (bs r = (ByteArray.mk #[]))) then
        Option.bind (sidx (bs r) (0 : Int)) fun x9 => Option.bind (F_strings_IndexByte (ByteArray.mk #[40, 41, 44]) x9) fun r10 => some (decide ((0 : Int) ≤ r10)) else some false) fun b11 =>
      bif b11 then k ((1 : Int), ()) else
      loopO (fun (v12 : Int × Unit) => Option.bind (bif (decide (v12.1 < ((ByteArray.size (bs r) : Nat) : Int))) then Option.bind (sidx (bs r) v12.1) fun x13 => Option.bind (F_notation_digit x13) fun r14 => some r14 else some false) fun b15 =>
        bif b15 then some (Sum.inl ((addI .i64 v12.1 (1 : Int)), ())) else Option.map Sum.inr (k (v12.1, ()))) ((0 : Int), ())) = k ((tokLen r : Int), ()) := by
  have h1 : F_strings_HasPrefix (bs r) (ByteArray.mk #[111, 102]) = some (List.isPrefixOf [111, 102] r) := rfl
  rw [h1, Option.bind_some]
  unfold tokLen
  by_cases hp : [111, 102] <+: r
  · rw [if_pos hp, List.isPrefixOf_iff_prefix.2 hp]
    rfl
  · rw [if_neg hp, show List.isPrefixOf [111, 102] r = false by rw [Bool.eq_false_iff]; exact fun h => hp (List.isPrefixOf_iff_prefix.1 h), cond_false]
    cases r with
    | nil =>
      have hb : (bif (!decide (bs [] = (ByteArray.mk #[]))) then
        Option.bind (sidx (bs []) (0 : Int)) fun x9 => Option.bind (F_strings_IndexByte (ByteArray.mk #[40, 41, 44]) x9) fun r10 => some (decide ((0 : Int) ≤ r10)) else some false) = some false := by
        rw [decide_eq_true (show bs [] = ByteArray.mk #[] from rfl)]
        rfl
      rw [hb, Option.bind_some, cond_false]
      exact digs_loop [] (by simp) (fun n => k (n, ())) 0 0 rfl (Nat.le_refl _)
    | cons b l =>
      have hb : (bif (!decide (bs (b :: l) = (ByteArray.mk #[]))) then
        Option.bind (sidx (bs (b :: l)) (0 : Int)) fun x9 => Option.bind (F_strings_IndexByte (ByteArray.mk #[40, 41, 44]) x9) fun r10 => some (decide ((0 : Int) ≤ r10)) else some false) = some (decide (b = 40 ∨ b = 41 ∨ b = 44)) := by
        rw [decide_eq_false (fun h => by have := bs_inj.1 (h.trans (show ByteArray.mk #[] = bs [] from rfl)); cases this)]
        rw [Bool.not_false, cond_true, show (0 : Int) = ((0 : Nat) : Int) from rfl, sidx_bs]
        simp only [List.getElem?_cons_zero, Option.map_some, Option.bind_some]
        show Option.bind (indexByteF (bs [40, 41, 44]) (b.toNat : Int)) _ = _
        unfold indexByteF
        rw [Option.bind_some, Int.toNat_natCast, show b.toNat.toUInt8 = b from UInt8.ofNat_toNat, bs_data]
        congr 1
        simp only [Lib.indexByte]
        by_cases e1 : b = 40
        · subst e1; rfl
        · by_cases e2 : b = 41
          · subst e2; rfl
          · by_cases e3 : b = 44
            · subst e3; rfl
            · have f1 : (40 == b) = false := by simp; exact fun h => e1 h.symm
              have f2 : (41 == b) = false := by simp; exact fun h => e2 h.symm
              have f3 : (44 == b) = false := by simp; exact fun h => e3 h.symm
              simp [e1, e2, e3, f1, f2, f3]
      rw [hb, Option.bind_some]
      show _ = k (((if b = 40 ∨ b = 41 ∨ b = 44 then 1 else digs (b :: l) : Nat) : Int), ())
      by_cases hd : b = 40 ∨ b = 41 ∨ b = 44
      · rw [decide_eq_true hd, if_pos hd]
        rfl
      · rw [decide_eq_false hd, if_neg hd, cond_false]
        have := digs_loop (b :: l) hr (fun n => k (n, ())) (b :: l).length 0 rfl (Nat.zero_le _)
        rw [Nat.zero_add, List.drop_zero] at this
        exact this

/-- one round of next -/
noncomputable def nextFin (v : TNotationReader) : Option (Unit × TNotationReader) :=
  Option.bind (sslc v.text v.at_ (ByteArray.size v.text)) fun x4 =>
    letJ (fun (v5 : Int × Unit) => Option.bind (sslc x4 0 v5.1) fun x7 => some ((()), (TNotationReader.mk v.text x7 v.at_))) fun j6 =>
    Option.bind (F_strings_HasPrefix x4 (ByteArray.mk #[111, 102])) fun r8 =>
    bif r8 then j6 ((2 : Int), ()) else
    Option.bind (bif (!decide (x4 = (ByteArray.mk #[]))) then
      Option.bind (sidx x4 (0 : Int)) fun x9 => Option.bind (F_strings_IndexByte (ByteArray.mk #[40, 41, 44]) x9) fun r10 => some (decide ((0 : Int) ≤ r10)) else some false) fun b11 =>
    bif b11 then j6 ((1 : Int), ()) else
    loopO (fun (v12 : Int × Unit) => Option.bind (bif (decide (v12.1 < ((ByteArray.size x4 : Nat) : Int))) then Option.bind (sidx x4 v12.1) fun x13 => Option.bind (F_notation_digit x13) fun r14 => some r14 else some false) fun b15 =>
      bif b15 then some (Sum.inl ((addI .i64 v12.1 (1 : Int)), ())) else Option.map Sum.inr (j6 (v12.1, ()))) ((0 : Int), ())
noncomputable def nextStep (v1 : TNotationReader × Unit) : Option ((TNotationReader × Unit) ⊕ (Unit × TNotationReader)) :=
  letJ (fun (v2 : Bool × Unit) =>
    bif v2.1 then some (Sum.inl ((TNotationReader.mk v1.1.text v1.1.token (addI .i64 v1.1.at_ (1 : Int))), ()))
    else Option.map Sum.inr (nextFin v1.1)) fun j3 =>
  bif (decide (v1.1.at_ < ((ByteArray.size v1.1.text : Nat) : Int))) then
    Option.bind (sidx v1.1.text v1.1.at_) fun x16 => j3 ((decide (x16 = (32 : Int))), ())
  else j3 (false, ())
theorem next_loop (s : TNotationReader) : F_notation_reader_next s = loopO nextStep ((TNotationReader.mk s.text s.token (addI .i64 s.at_ ((ByteArray.size s.token : Nat) : Int))), ()) := rfl
theorem nextFin_eq (p q : Str) (w : ByteArray) (hl : (p ++ q).length ≤ 10000) : nextFin ⟨bs (p ++ q), w, p.length⟩ = some ((), ⟨bs (p ++ q), bs (tok q), p.length⟩) := by
  unfold nextFin
  have hpq : p.length ≤ (p ++ q).length := by simp
  have h1 : sslc (bs (p ++ q)) (p.length : Int) ((bs (p ++ q)).size : Nat) = some (bs q) := by
    rw [bs_size, sslc_bs (p ++ q) p.length (p ++ q).length hpq (Nat.le_refl _)]
    congr 2
    rw [List.drop_left, List.take_of_length_le (by simp)]
  rw [h1, Option.bind_some, letJ_eq]
  refine (tok_len q (by simp at hl; omega) (fun (v5 : Int × Unit) => Option.bind (sslc (bs q) 0 v5.1) fun x7 => some ((()), (TNotationReader.mk (bs (p ++ q)) x7 p.length)))).trans ?_
  show Option.bind (sslc (bs q) ((0 : Nat) : Int) (tokLen q : Int)) _ = _
  rw [sslc_bs q 0 (tokLen q) (Nat.zero_le _) (tokLen_le q), Option.bind_some]
  rfl
theorem nextStep_sp (p q : Str) (w : ByteArray) (hl : (p ++ 32 :: q).length ≤ 10000) : nextStep (⟨bs (p ++ 32 :: q), w, p.length⟩, ()) = some (Sum.inl (⟨bs (p ++ 32 :: q), w, (p ++ [32]).length⟩, ())) := by
  have hlt : p.length < (p ++ 32 :: q).length := by simp
  unfold nextStep
  rw [letJ_eq]
  simp only []
  rw [decide_eq_true (show ((p.length : Int) < (((bs (p ++ 32 :: q)).size : Nat) : Int)) by rw [bs_size]; omega), cond_true, sidx_bs]
  have hg : (p ++ 32 :: q)[p.length]? = some 32 := by simp
  rw [hg, Option.map_some, Option.bind_some]
  rw [show addI .i64 (p.length : Int) 1 = ((p ++ [32]).length : Int) by rw [add64 (by omega) (by omega)]; simp]
  rfl
theorem nextStep_end (p q : Str) (w : ByteArray) (hl : (p ++ q).length ≤ 10000) (hq : ∀ b r, q = b :: r → b ≠ 32) : nextStep (⟨bs (p ++ q), w, p.length⟩, ()) = some (Sum.inr ((), ⟨bs (p ++ q), bs (tok q), p.length⟩)) := by
  unfold nextStep
  rw [letJ_eq]
  simp only []
  rw [nextFin_eq p q w hl]
  cases q with
  | nil =>
    rw [decide_eq_false (show ¬ ((p.length : Int) < (((bs (p ++ [])).size : Nat) : Int)) by rw [bs_size]; simp), cond_false]
    rfl
  | cons b r =>
    rw [decide_eq_true (show ((p.length : Int) < (((bs (p ++ b :: r)).size : Nat) : Int)) by rw [bs_size]; simp; omega), cond_true, sidx_bs]
    have hg : (p ++ b :: r)[p.length]? = some b := by simp
    rw [hg, Option.map_some, Option.bind_some, decide_eq_false (fun h => hq b r rfl (by
      have : b.toNat = 32 := by omega
      exact UInt8.toNat_inj.1 this))]
    rfl
theorem next_from : ∀ (q p : Str) (w : ByteArray), (p ++ q).length ≤ 10000 →
    ∃ s' : TNotationReader, loopO nextStep (⟨bs (p ++ q), w, p.length⟩, ()) = some ((), s') ∧ s'.text = bs (p ++ q) ∧ RS s' (skipS q)
  | [], p, w, hl => ⟨_, loopO_inr (nextStep_end p [] w hl (fun b r h => by cases h)), rfl, rfl, p, rfl, rfl, hl⟩
  | b :: q, p, w, hl => by
    by_cases hb : b = 32
    · subst hb
      obtain ⟨s', h1, h2, h3⟩ := next_from q (p ++ [32]) w (by simpa using hl)
      rw [List.append_assoc] at h1 h2
      refine ⟨s', (loopO_inl (nextStep_sp p q w hl)).trans h1, h2, ?_⟩
      have : skipS (32 :: q) = skipS q := by simp [skipS, isSp]
      rw [this]
      exact h3
    · have : skipS (b :: q) = b :: q := by simp [skipS, isSp, hb]
      rw [this]
      exact ⟨_, loopO_inr (nextStep_end p (b :: q) w hl (fun c r h => by injection h with h1 _; rw [← h1]; exact hb)), rfl, rfl, p, rfl, rfl, hl⟩
/-- what is left from the next token on: the reader stands there -/
theorem next_core (pre r : Str) (k : ByteArray) (hl : (pre ++ r).length ≤ 10000) (hk : k.size ≤ r.length) :
    ∃ s' : TNotationReader, F_notation_reader_next ⟨bs (pre ++ r), k, pre.length⟩ = some ((), s') ∧ s'.text = bs (pre ++ r) ∧ RS s' (skipS (r.drop k.size)) := by
  rw [next_loop]
  have e1 : pre ++ r = (pre ++ r.take k.size) ++ r.drop k.size := by rw [List.append_assoc, List.take_append_drop]
  have e2 : addI .i64 (pre.length : Int) ((k.size : Nat) : Int) = ((pre ++ r.take k.size).length : Int) := by
    have : (pre ++ r).length = pre.length + r.length := by simp
    rw [add64 (by omega) (by omega), List.length_append, List.length_take, Nat.min_eq_left hk]
    omega
  obtain ⟨s', h1, h2, h3⟩ := next_from (r.drop k.size) (pre ++ r.take k.size) k (by rw [← e1]; exact hl)
  rw [← e1] at h1 h2
  refine ⟨s', ?_, h2, h3⟩
  simp only []
  rw [e2]
  exact h1
theorem tok_length (r : Str) : (tok r).length = tokLen r := by
  have := tokLen_le r
  simp [tok]
  omega
theorem next_ok {s : TNotationReader} {r : Str} (h : RS s r) : ∃ s', F_notation_reader_next s = some ((), s') ∧ s'.text = s.text ∧ RS s' (nxt r) := by
  obtain ⟨text, token, at_⟩ := s
  obtain ⟨h1, pre, h2, h3, h4⟩ := h
  simp only at h1 h2 h3
  subst h1 h2 h3
  obtain ⟨s', k1, k2, k3⟩ := next_core pre r (bs (tok r)) h4 (by rw [bs_size, tok_length]; exact tokLen_le r)
  rw [bs_size, tok_length] at k3
  exact ⟨s', k1, k2, k3⟩
theorem next_first (l : Str) (hl : l.length ≤ 10000) : ∃ s', F_notation_reader_next ⟨bs l, ByteArray.mk #[], 0⟩ = some ((), s') ∧ s'.text = bs l ∧ RS s' (skipS l) := next_core [] l (ByteArray.mk #[]) hl (Nat.zero_le _)
end Go.Proofs.YtnhgcpiljggmmaaGreatDoor

set_option linter.unusedVariables false
set_option linter.unusedSimpArgs false
namespace Go.Proofs.YtnhgcpiljggmmaaGreatDoor
open Go.TQ Go.Proofs

theorem nxt_le (r : Str) : (nxt r).length + tokLen r ≤ r.length := by
  have h1 := skipS_le (r.drop (tokLen r))
  have h2 := tokLen_le r
  rw [List.length_drop] at h1
  unfold nxt
  omega
theorem take_ok {s : TNotationReader} {r : Str} (h : RS s r) (w : Str) : ∃ s', F_notation_reader_take s (bs w) = some (decide (tok r = w), s') ∧ s'.text = s.text ∧ RS s' (if tok r = w then nxt r else r) := by
  unfold F_notation_reader_take
  rw [h.token]
  by_cases e : tok r = w
  · rw [decide_eq_true (bs_inj.2 e), decide_eq_true e, if_pos e]
    obtain ⟨s', h1, h2, h3⟩ := next_ok h
    refine ⟨s', ?_, h2, h3⟩
    rw [Bool.not_true, cond_false, h1]
    rfl
  · rw [decide_eq_false (fun h => e (bs_inj.1 h)), decide_eq_false e, if_neg e]
    exact ⟨s, rfl, rfl, h⟩

/-- is it a number's token? -/
def numTok : Str → Bool
  | [] => false
  | b :: l => isDig b && decide ((b :: l).length ≤ 4) && !(decide (1 < (b :: l).length) && decide (b = 48))
noncomputable def numV (t : Str) : Int := match atoiF (bs t) with
  | some (n, _, _) => n
  | none => 0
theorem numTok_len {t : Str} (h : numTok t = true) : 1 ≤ t.length ∧ t.length ≤ 4 := by
  cases t with
  | nil => cases h
  | cons b l =>
    simp only [numTok, Bool.and_eq_true, decide_eq_true_eq] at h
    exact ⟨by simp, h.1.2⟩
theorem numV_eq {t : Str} (h : t.length ≤ 4) : ∃ b, atoiF (bs t) = some (numV t, b, ()) ∧ -9223372036854775808 ≤ numV t ∧ numV t ≤ 9223372036854775807 := by
  obtain ⟨n, b, h1, h2, h3⟩ := atoiF_total (bs t) (by rw [bs_size]; omega)
  unfold numV
  rw [h1]
  exact ⟨b, rfl, h2, h3⟩
theorem numb_ok {s : TNotationReader} {r : Str} (h : RS s r) : ∃ s', F_notation_reader_number s = some (((if numTok (tok r) then numV (tok r) else 0), numTok (tok r), ()), s') ∧ s'.text = s.text ∧ RS s' (if numTok (tok r) then nxt r else r) := by
  unfold F_notation_reader_number
  rw [h.token]
  have hb : (Option.bind (Option.bind (bif (decide (bs (tok r) = (ByteArray.mk #[]))) then some true else Option.bind (sidx (bs (tok r)) (0 : Int)) fun x1 => Option.bind (F_notation_digit x1) fun r2 => some (!r2)) fun b3 =>
      Option.bind (bif b3 then some true else some (decide ((4 : Int) < ((ByteArray.size (bs (tok r)) : Nat) : Int)))) fun b4 =>
      Option.bind (bif b4 then some true else Option.bind (bif (decide ((1 : Int) < ((ByteArray.size (bs (tok r)) : Nat) : Int))) then Option.bind (sidx (bs (tok r)) (0 : Int)) fun x5 => some (decide (x5 = (48 : Int))) else some false) fun b6 => some b6) fun b7 => some b7) fun x => some x) = some (!numTok (tok r)) := by
    cases ht : tok r with
    | nil => rfl
    | cons b l =>
      have e0 : sidx (bs (b :: l)) (0 : Int) = some (b.toNat : Int) := sidx_bs (b :: l) 0
      rw [decide_eq_false (show ¬ (bs (b :: l) = ByteArray.mk #[]) from fun h => by have := bs_inj.1 (h.trans (show ByteArray.mk #[] = bs [] from rfl)); cases this), cond_false, e0, Option.bind_some, digit_eq, Option.bind_some, Option.bind_some, Option.bind_some]
      have e1 : decide ((4 : Int) < (((bs (b :: l)).size : Nat) : Int)) = decide (4 < (b :: l).length) := decide_eq_decide.2 (by rw [bs_size]; omega)
      have e2 : decide ((1 : Int) < (((bs (b :: l)).size : Nat) : Int)) = decide (1 < (b :: l).length) := decide_eq_decide.2 (by rw [bs_size]; omega)
      have e3 : decide ((b.toNat : Int) = 48) = decide (b = 48) := decide_eq_decide.2 ⟨fun h => UInt8.toNat_inj.1 (by show b.toNat = 48; omega), fun h => by rw [h]; rfl⟩
      rw [e1, e2, e3]
      have e4 : decide ((b :: l).length ≤ 4) = !decide (4 < (b :: l).length) := by
        by_cases h4 : 4 < (b :: l).length
        · rw [decide_eq_true h4, decide_eq_false (show ¬ (b :: l).length ≤ 4 by omega)]; rfl
        · rw [decide_eq_false h4, decide_eq_true (show (b :: l).length ≤ 4 by omega)]; rfl
      show _ = some (!(isDig b && decide ((b :: l).length ≤ 4) && !(decide (1 < (b :: l).length) && decide (b = 48))))
      rw [e4]
      generalize decide (4 < (b :: l).length) = d1
      generalize decide (1 < (b :: l).length) = d2
      generalize decide (b = 48) = d3
      generalize isDig b = d4
      cases d1 <;> cases d2 <;> cases d3 <;> cases d4 <;> rfl
  have key : ∀ {β : Type} (f : Bool → Option β), (Option.bind (bif (decide (bs (tok r) = (ByteArray.mk #[]))) then some true else Option.bind (sidx (bs (tok r)) (0 : Int)) fun x1 => Option.bind (F_notation_digit x1) fun r2 => some (!r2)) fun b3 =>
      Option.bind (bif b3 then some true else some (decide ((4 : Int) < ((ByteArray.size (bs (tok r)) : Nat) : Int)))) fun b4 =>
      Option.bind (bif b4 then some true else Option.bind (bif (decide ((1 : Int) < ((ByteArray.size (bs (tok r)) : Nat) : Int))) then Option.bind (sidx (bs (tok r)) (0 : Int)) fun x5 => some (decide (x5 = (48 : Int))) else some false) fun b6 => some b6) f) = f (!numTok (tok r)) := by
    intro β f
    rw [Option.bind_fun_some] at hb
    have h2 := congrArg (fun o => Option.bind o f) hb
    simp only [Option.bind_assoc, Option.bind_some] at h2
    try simp only [Option.bind_assoc, Option.bind_some]
    exact h2
  rw [key]
  cases ht : numTok (tok r) with
  | false =>
    exact ⟨s, rfl, rfl, by simpa using h⟩
  | true =>
    obtain ⟨b, h1, _, _⟩ := numV_eq (numTok_len ht).2
    obtain ⟨s', k1, k2, k3⟩ := next_ok h
    refine ⟨s', ?_, k2, by simpa using k3⟩
    rw [Bool.not_true, cond_false]
    show Option.bind (atoiF (bs (tok r))) _ = _
    rw [h1, Option.bind_some, k1]
    rfl

/-! ### the parser -/
/-- what a part of the parser hands back: a trust, whether it has its form, what is left -/
structure PR where
  t : TTrust
  ok : Bool
  r : Str
noncomputable def loopP (rec : Int → Str → PR) (th : Int) : Nat → List Int → List TTrust → Str → PR
  | 0, ns, is, r => ⟨⟨th, ns, is⟩, false, r⟩
  | g + 1, ns, is, r => if numTok (tok r) then
      let item := fun (ns' : List Int) (is' : List TTrust) (r' : Str) =>
        if tok r' = [41] then PR.mk ⟨th, ns', is'⟩ true (nxt r') else if tok r' = [44] then loopP rec th g ns' is' (nxt r') else PR.mk ⟨th, ns', is'⟩ false r'
      if tok (nxt r) = [111, 102] then
        if (rec (numV (tok r)) (nxt r)).ok then item ns (is ++ [(rec (numV (tok r)) (nxt r)).t]) (rec (numV (tok r)) (nxt r)).r
        else ⟨⟨th, ns, is⟩, false, (rec (numV (tok r)) (nxt r)).r⟩
      else item (ns ++ [numV (tok r)]) is (nxt r)
    else ⟨⟨th, ns, is⟩, false, r⟩
noncomputable def restP : Nat → Int → Str → PR
  | 0, th, r => ⟨⟨th, [], []⟩, false, r⟩
  | f + 1, th, r => if tok r = [111, 102] then
      if tok (nxt r) = [40] then loopP (restP f) th ((nxt (nxt r)).length + 1) [] [] (nxt (nxt r)) else ⟨⟨th, [], []⟩, false, nxt r⟩
    else ⟨⟨th, [], []⟩, false, r⟩

/-- a function of the program is a part of the parser -/
def RecOk (L : Nat) (rec : TNotationReader → (Int × Unit) → Option ((TTrust × Bool × Unit) × TNotationReader)) (p : Int → Str → PR) : Prop :=
  ∀ s r k, RS s r → r.length < L → ∃ s', rec s (k, ()) = some (((p k r).t, (p k r).ok, ()), s') ∧ s'.text = s.text ∧ RS s' (p k r).r ∧ (p k r).r.length ≤ r.length
abbrev LSt := TNotationReader × TTrust × TTrust × (List TTrust) × (List Int) × Unit
/-- behind an item -/
noncomputable def itemF (v5 : LSt) : Option (LSt ⊕ ((TTrust × Bool × Unit) × TNotationReader)) :=
  Option.bind (F_notation_reader_take v5.1 (ByteArray.mk #[41])) fun p7 =>
  bif p7.1 then Option.map Sum.inr (some (((TTrust.mk v5.2.2.1.Threshold v5.2.2.2.2.1 v5.2.2.2.1), true, ()), p7.2))
  else Option.bind (F_notation_reader_take p7.2 (ByteArray.mk #[44])) fun p8 =>
    bif (!p8.1) then Option.map Sum.inr (some (((TTrust.mk v5.2.2.1.Threshold v5.2.2.2.2.1 v5.2.2.2.1), false, ()), p8.2))
    else some (Sum.inl (p8.2, (eTTrust v5.2.1), (TTrust.mk v5.2.2.1.Threshold ([] : List Int) ([] : List TTrust)), v5.2.2.2.1, v5.2.2.2.2.1, ()))
noncomputable def restStep (rec : TNotationReader → (Int × Unit) → Option ((TTrust × Bool × Unit) × TNotationReader)) (v3 : LSt) : Option (LSt ⊕ ((TTrust × Bool × Unit) × TNotationReader)) :=
  Option.bind (F_notation_reader_number v3.1) fun p4 =>
  bif (!p4.1.2.1) then Option.map Sum.inr (some (((TTrust.mk v3.2.2.1.Threshold v3.2.2.2.2.1 v3.2.2.2.1), false, ()), p4.2))
  else letJ itemF fun j6 =>
  bif (decide (p4.2.token = (ByteArray.mk #[111, 102]))) then
    Option.bind (rec p4.2 (p4.1.1, ())) fun p9 =>
    bif (!p9.1.2.1) then Option.map Sum.inr (some (((TTrust.mk v3.2.2.1.Threshold v3.2.2.2.2.1 v3.2.2.2.1), false, ()), p9.2))
    else bif lenOk 56 (List.length v3.2.2.2.1 + List.length [(eTTrust p9.1.1)]) then
      j6 (p9.2, (eTTrust v3.2.1), (TTrust.mk v3.2.2.1.Threshold ([] : List Int) ([] : List TTrust)), (v3.2.2.2.1 ++ [(eTTrust p9.1.1)]), v3.2.2.2.2.1, ())
    else none
  else bif lenOk 8 (List.length v3.2.2.2.2.1 + List.length [p4.1.1]) then
    j6 (p4.2, (eTTrust v3.2.1), (TTrust.mk v3.2.2.1.Threshold ([] : List Int) ([] : List TTrust)), v3.2.2.2.1, (v3.2.2.2.2.1 ++ [p4.1.1]), ())
  else none
theorem rest_loop (rec : TNotationReader → (Int × Unit) → Option ((TTrust × Bool × Unit) × TNotationReader)) (s : TNotationReader) (a0 : Int) : B_notation_reader_rest rec s a0 =
    letJ (fun (v1 : Bool × TNotationReader × Unit) =>
      bif v1.1 then some (((TTrust.mk a0 ([] : List Int) ([] : List TTrust)), false, ()), v1.2.1)
      else loopO (restStep rec) (v1.2.1, (TTrust.mk (0 : Int) ([] : List Int) ([] : List TTrust)), (TTrust.mk a0 ([] : List Int) ([] : List TTrust)), ([] : List TTrust), ([] : List Int), ())) fun j2 =>
    Option.bind (F_notation_reader_take s (ByteArray.mk #[111, 102])) fun p10 =>
    bif (!p10.1) then j2 (true, p10.2, ())
    else Option.bind (F_notation_reader_take p10.2 (ByteArray.mk #[40])) fun p11 => j2 ((!p11.1), p11.2, ()) := rfl
theorem et (x : TTrust) : eTTrust x = x := TTrust.eta x
theorem lenOk_of {b n : Nat} (h1 : n * b ≤ 140737488355328) (h2 : n ≤ 140737488355328) : lenOk b n = true := by
  unfold lenOk
  rw [decide_eq_true h1, decide_eq_true (show n ≤ maxLen by unfold maxLen; omega)]
  rfl
theorem tok_pos {r : Str} {t : Str} (h : tok r = t) (ht : 1 ≤ t.length) : (nxt r).length < r.length := by
  have h1 := tok_length r
  have h2 := nxt_le r
  rw [h] at h1
  omega
theorem loop_eq {L : Nat} {rec : TNotationReader → (Int × Unit) → Option ((TTrust × Bool × Unit) × TNotationReader)} {p : Int → Str → PR} (hr : RecOk L rec p) (th : Int) :
    ∀ (g : Nat) (ns : List Int) (is : List TTrust) (r : Str) (s : TNotationReader) (x : TTrust), r.length < g → r.length ≤ L → RS s r → ns.length + r.length ≤ 10000 → is.length + r.length ≤ 10000 →
      ∃ s', loopO (restStep rec) (s, x, ⟨th, [], []⟩, is, ns, ()) = some (((loopP p th g ns is r).t, (loopP p th g ns is r).ok, ()), s') ∧ s'.text = s.text ∧ RS s' (loopP p th g ns is r).r ∧ (loopP p th g ns is r).r.length ≤ r.length
  | 0, ns, is, r, s, x, hg, _, _, _, _ => by omega
  | g + 1, ns, is, r, s, x, hg, hL, hs, hn, hi => by
    obtain ⟨s1, e1, x1, k1⟩ := numb_ok hs
    rw [loopP]
    cases ht : numTok (tok r) with
    | false =>
      rw [ht] at e1 k1
      refine ⟨s1, loopO_inr ?_, x1, by simpa using k1, by simp⟩
      show restStep rec (s, x, ⟨th, [], []⟩, is, ns, ()) = _
      unfold restStep
      rw [e1]
      rfl
    | true =>
      rw [ht] at e1 k1
      simp only [if_true] at e1 k1
      have hl1 := tok_pos (t := tok r) rfl (numTok_len ht).1
      simp only [if_true]
      -- behind an item
      have item : ∀ (ns' : List Int) (is' : List TTrust) (r' : Str) (s2 : TNotationReader), r'.length < r.length → RS s2 r' → s2.text = s.text → ns'.length + r'.length ≤ 10000 → is'.length + r'.length ≤ 10000 →
          restStep rec (s, x, ⟨th, [], []⟩, is, ns, ()) = itemF (s2, x, ⟨th, [], []⟩, is', ns', ()) →
          ∃ s', loopO (restStep rec) (s, x, ⟨th, [], []⟩, is, ns, ()) = some (((if tok r' = [41] then PR.mk ⟨th, ns', is'⟩ true (nxt r') else if tok r' = [44] then loopP p th g ns' is' (nxt r') else PR.mk ⟨th, ns', is'⟩ false r').t, (if tok r' = [41] then PR.mk ⟨th, ns', is'⟩ true (nxt r') else if tok r' = [44] then loopP p th g ns' is' (nxt r') else PR.mk ⟨th, ns', is'⟩ false r').ok, ()), s') ∧ s'.text = s.text ∧
            RS s' (if tok r' = [41] then PR.mk ⟨th, ns', is'⟩ true (nxt r') else if tok r' = [44] then loopP p th g ns' is' (nxt r') else PR.mk ⟨th, ns', is'⟩ false r').r ∧ (if tok r' = [41] then PR.mk ⟨th, ns', is'⟩ true (nxt r') else if tok r' = [44] then loopP p th g ns' is' (nxt r') else PR.mk ⟨th, ns', is'⟩ false r').r.length ≤ r.length := by
        intro ns' is' r' s2 hlt h2 hx hn' hi' hstep
        have hnl := nxt_le r'
        obtain ⟨s3, e3, x3, k3⟩ := take_ok h2 [41]
        by_cases h41 : tok r' = [41]
        · rw [if_pos h41]
          rw [if_pos h41] at k3
          refine ⟨s3, loopO_inr (hstep.trans ?_), x3.trans hx, k3, by show (nxt r').length ≤ r.length; omega⟩
          unfold itemF
          show Option.bind (F_notation_reader_take s2 (bs [41])) _ = _
          rw [e3, decide_eq_true h41]
          rfl
        · rw [if_neg h41]
          rw [if_neg h41] at k3
          obtain ⟨s4, e4, x4, k4⟩ := take_ok k3 [44]
          by_cases h44 : tok r' = [44]
          · rw [if_pos h44]
            rw [if_pos h44] at k4
            have hl4 := tok_pos h44 (by simp)
            obtain ⟨s5, e5, x5, k5, l5⟩ := loop_eq hr th g ns' is' (nxt r') s4 x (by omega) (by omega) k4 (by omega) (by omega)
            refine ⟨s5, (loopO_inl (hstep.trans ?_)).trans e5, x5.trans (x4.trans (x3.trans hx)), k5, by omega⟩
            unfold itemF
            show Option.bind (F_notation_reader_take s2 (bs [41])) _ = _
            rw [e3, decide_eq_false h41, Option.bind_some, cond_false]
            show Option.bind (F_notation_reader_take s3 (bs [44])) _ = _
            rw [e4, decide_eq_true h44]
            rw [Option.bind_some]
            show some (Sum.inl (s4, eTTrust x, TTrust.mk th ([] : List Int) ([] : List TTrust), is', ns', ())) = _
            rw [et]
          · rw [if_neg h44]
            rw [if_neg h44] at k4
            refine ⟨s4, loopO_inr (hstep.trans ?_), x4.trans (x3.trans hx), k4, by show r'.length ≤ r.length; omega⟩
            unfold itemF
            show Option.bind (F_notation_reader_take s2 (bs [41])) _ = _
            rw [e3, decide_eq_false h41, Option.bind_some, cond_false]
            show Option.bind (F_notation_reader_take s3 (bs [44])) _ = _
            rw [e4, decide_eq_false h44]
            rfl
      by_cases hof : tok (nxt r) = [111, 102]
      · rw [if_pos hof]
        obtain ⟨s2, e2, x2, k2, l2⟩ := hr s1 (nxt r) (numV (tok r)) k1 (by omega)
        generalize hq : p (numV (tok r)) (nxt r) = q at *
        have hstep : ∀ (c : Bool), q.ok = c → restStep rec (s, x, ⟨th, [], []⟩, is, ns, ()) = bif c then itemF (s2, x, ⟨th, [], []⟩, is ++ [q.t], ns, ()) else some (Sum.inr ((⟨th, ns, is⟩, false, ()), s2)) := by
          intro c hc
          unfold restStep
          simp only []
          rw [e1]
          simp only [Option.bind_some, Bool.not_true, cond_false, letJ_eq]
          rw [k1.token, show decide (bs (tok (nxt r)) = ByteArray.mk #[111, 102]) = true from decide_eq_true (by rw [hof]; rfl), cond_true, e2, hc]
          cases c
          · rfl
          · simp only [Option.bind_some, Bool.not_true, cond_false, cond_true]
            rw [lenOk_of (by simp; omega) (by simp; omega)]
            rw [cond_true, et, et]
        cases hok : q.ok with
        | true =>
          simp only [if_true]
          exact item ns (is ++ [q.t]) q.r s2 (by omega) k2 (x2.trans x1) (by omega) (by simp; omega) (hstep true hok)
        | false =>
          simp only [Bool.false_eq_true, if_false]
          exact ⟨s2, loopO_inr (hstep false hok), x2.trans x1, k2, by show q.r.length ≤ r.length; omega⟩
      · rw [if_neg hof]
        refine item (ns ++ [numV (tok r)]) is (nxt r) s1 hl1 k1 x1 (by simp; omega) (by omega) ?_
        unfold restStep
        simp only []
        rw [e1]
        simp only [Option.bind_some, Bool.not_true, cond_false, letJ_eq]
        rw [k1.token, show decide (bs (tok (nxt r)) = ByteArray.mk #[111, 102]) = false from decide_eq_false (fun h => hof (bs_inj.1 h)), cond_false]
        rw [lenOk_of (by simp; omega) (by simp; omega), cond_true, et]
end Go.Proofs.YtnhgcpiljggmmaaGreatDoor

set_option linter.unusedVariables false
set_option linter.unusedSimpArgs false
namespace Go.Proofs.YtnhgcpiljggmmaaGreatDoor
open Go.TQ Go.Proofs

theorem rest_eq : ∀ f : Nat, f ≤ 10000 → RecOk f (I_notation_reader_rest f) (restP f)
  | 0, _ => fun s r k hs hl => by omega
  | f + 1, hf => fun s r k hs hl => by
    show ∃ s', B_notation_reader_rest (I_notation_reader_rest f) s k = _ ∧ _
    rw [rest_loop, letJ_eq, restP]
    obtain ⟨s1, e1, x1, k1⟩ := take_ok hs [111, 102]
    by_cases h1 : tok r = [111, 102]
    · rw [if_pos h1]
      rw [if_pos h1] at k1
      have l1 := tok_pos h1 (by simp)
      obtain ⟨s2, e2, x2, k2⟩ := take_ok k1 [40]
      by_cases h2 : tok (nxt r) = [40]
      · rw [if_pos h2]
        rw [if_pos h2] at k2
        have l2 := tok_pos h2 (by simp)
        obtain ⟨s3, e3, x3, k3, l3⟩ := loop_eq (rest_eq f (by omega)) k ((nxt (nxt r)).length + 1) [] [] (nxt (nxt r)) s2 ⟨0, [], []⟩ (by omega) (by omega) k2 (by simp; omega) (by simp; omega)
        refine ⟨s3, ?_, x3.trans (x2.trans x1), k3, by omega⟩
        show Option.bind (F_notation_reader_take s (bs [111, 102])) _ = _
        rw [e1, decide_eq_true h1, Option.bind_some]
        show Option.bind (F_notation_reader_take s1 (bs [40])) _ = _
        rw [e2, decide_eq_true h2, Option.bind_some]
        exact e3
      · rw [if_neg h2]
        rw [if_neg h2] at k2
        refine ⟨s2, ?_, x2.trans x1, k2, by show (nxt r).length ≤ r.length; omega⟩
        show Option.bind (F_notation_reader_take s (bs [111, 102])) _ = _
        rw [e1, decide_eq_true h1, Option.bind_some]
        show Option.bind (F_notation_reader_take s1 (bs [40])) _ = _
        rw [e2, decide_eq_false h2, Option.bind_some]
        rfl
    · rw [if_neg h1]
      rw [if_neg h1] at k1
      refine ⟨s1, ?_, x1, k1, Nat.le_refl _⟩
      show Option.bind (F_notation_reader_take s (bs [111, 102])) _ = _
      rw [e1, decide_eq_false h1, Option.bind_some]
      rfl

/-- numbers that an int holds -/
def I64 (n : Int) : Prop := -9223372036854775808 ≤ n ∧ n ≤ 9223372036854775807
/-- what a parser hands back is of modest size -/
inductive BdT : TTrust → Prop where
  | mk (t : TTrust) (h0 : I64 t.Threshold) (h1 : t.Nodes.length ≤ 10000) (h2 : ∀ x ∈ t.Nodes, I64 x) (h3 : t.Inner.length ≤ 10000) (h4 : ∀ u ∈ t.Inner, BdT u) : BdT t
theorem BdT.of {th : Int} {ns : List Int} {is : List TTrust} (h0 : I64 th) (h1 : ns.length ≤ 10000) (h2 : ∀ x ∈ ns, I64 x) (h3 : is.length ≤ 10000) (h4 : ∀ u ∈ is, BdT u) : BdT ⟨th, ns, is⟩ := .mk ⟨th, ns, is⟩ h0 h1 h2 h3 h4
theorem BdT.nil {th : Int} (h0 : I64 th) : BdT ⟨th, [], []⟩ := .of h0 (Nat.zero_le _) (fun x hx => by cases hx) (Nat.zero_le _) (fun x hx => by cases hx)
theorem BdT.sm : ∀ {t : TTrust}, BdT t → SmT t
  | t, .mk _ _ h1 _ h3 h4 => .mk t (by omega) (by omega) fun u hu => (h4 u hu).sm
def RecBd (p : Int → Str → PR) : Prop := ∀ k r, I64 k → r.length ≤ 10000 → BdT (p k r).t ∧ (p k r).r.length ≤ r.length
theorem loopP_bd {p : Int → Str → PR} (hp : RecBd p) (th : Int) (hth : I64 th) : ∀ (g : Nat) (ns : List Int) (is : List TTrust) (r : Str), ns.length + r.length ≤ 10000 → is.length + r.length ≤ 10000 → (∀ x ∈ ns, I64 x) → (∀ u ∈ is, BdT u) →
    BdT (loopP p th g ns is r).t ∧ (loopP p th g ns is r).r.length ≤ r.length
  | 0, ns, is, r, h1, h2, h3, h4 => ⟨BdT.of hth (by omega) h3 (by omega) h4, Nat.le_refl _⟩
  | g + 1, ns, is, r, h1, h2, h3, h4 => by
    have item : ∀ (ns' : List Int) (is' : List TTrust) (r' : Str), r'.length ≤ r.length → ns'.length + r'.length ≤ 10000 → is'.length + r'.length ≤ 10000 → (∀ x ∈ ns', I64 x) → (∀ u ∈ is', BdT u) →
        BdT (if tok r' = [41] then PR.mk ⟨th, ns', is'⟩ true (nxt r') else if tok r' = [44] then loopP p th g ns' is' (nxt r') else PR.mk ⟨th, ns', is'⟩ false r').t ∧
          (if tok r' = [41] then PR.mk ⟨th, ns', is'⟩ true (nxt r') else if tok r' = [44] then loopP p th g ns' is' (nxt r') else PR.mk ⟨th, ns', is'⟩ false r').r.length ≤ r.length := by
      intro ns' is' r' hl k1 k2 k3 k4
      have hn := nxt_le r'
      have hB : BdT ⟨th, ns', is'⟩ := .of hth (by omega) k3 (by omega) k4
      split
      · exact ⟨hB, by show (nxt r').length ≤ r.length; omega⟩
      · split
        · have := loopP_bd hp th hth g ns' is' (nxt r') (by omega) (by omega) k3 k4
          exact ⟨this.1, by omega⟩
        · exact ⟨hB, hl⟩
    have hB : BdT ⟨th, ns, is⟩ := .of hth (by omega) h3 (by omega) h4
    rw [loopP]
    cases ht : numTok (tok r) with
    | false => exact ⟨hB, Nat.le_refl _⟩
    | true =>
      simp only [if_true]
      have hl1 := tok_pos (t := tok r) rfl (numTok_len ht).1
      obtain ⟨b, _, v1, v2⟩ := numV_eq (numTok_len ht).2
      split
      · have hq := hp (numV (tok r)) (nxt r) ⟨v1, v2⟩ (by omega)
        split
        · exact item ns (is ++ [(p (numV (tok r)) (nxt r)).t]) (p (numV (tok r)) (nxt r)).r (by omega) (by omega) (by simp; omega) h3 fun u hu => by
            rcases List.mem_append.1 hu with hu | hu
            · exact h4 u hu
            · obtain rfl := List.mem_singleton.1 hu
              exact hq.1
        · exact ⟨hB, by show (p (numV (tok r)) (nxt r)).r.length ≤ r.length; omega⟩
      · exact item (ns ++ [numV (tok r)]) is (nxt r) (by omega) (by simp; omega) (by omega) (fun x hx => by
          rcases List.mem_append.1 hx with hx | hx
          · exact h3 x hx
          · obtain rfl := List.mem_singleton.1 hx
            exact ⟨v1, v2⟩) h4
theorem restP_bd : ∀ f : Nat, RecBd (restP f)
  | 0 => fun k r hk _ => ⟨BdT.nil hk, Nat.le_refl _⟩
  | f + 1 => fun k r hk hr => by
    have h1 := nxt_le r
    have h2 := nxt_le (nxt r)
    have hB : BdT ⟨k, [], []⟩ := .nil hk
    rw [restP]
    split
    · split
      · have := loopP_bd (restP_bd f) k hk ((nxt (nxt r)).length + 1) [] [] (nxt (nxt r)) (by simp; omega) (by simp; omega) (by simp) (by simp)
        exact ⟨this.1, by omega⟩
      · exact ⟨hB, by show (nxt r).length ≤ r.length; omega⟩
    · exact ⟨hB, Nat.le_refl _⟩

def T0 : TTrust := ⟨0, [], []⟩
/-- the trust's form: what is read, whether it is one, what is left -/
noncomputable def formP (l : Str) : PR := if numTok (tok (skipS l)) then restP (l.length + 2) (numV (tok (skipS l))) (nxt (skipS l)) else ⟨T0, false, skipS l⟩
/-- notation.Parse: the trust and the error -/
noncomputable def parseP (l : Str) : TTrust × Int := if 6000 < l.length then (T0, 3) else
  if (formP l).ok = true ∧ (formP l).r = [] then (if tval (formP l).t = 0 then ((formP l).t, 0) else (T0, tval (formP l).t)) else (T0, 2)
theorem formP_bd (l : Str) (hl : l.length ≤ 6000) : BdT (formP l).t := by
  unfold formP
  have h1 := skipS_le l
  have h2 := nxt_le (skipS l)
  cases ht : numTok (tok (skipS l)) with
  | false => exact BdT.nil ⟨by omega, by omega⟩
  | true =>
    obtain ⟨b, _, v⟩ := numV_eq (numTok_len ht).2
    exact (restP_bd _ _ _ v (by omega)).1
theorem RS.at_lt {s : TNotationReader} {r l : Str} (h : RS s r) (ht : s.text = bs l) : decide (s.at_ < (((bs l).size : Nat) : Int)) = decide (r ≠ []) := by
  obtain ⟨_, pre, h2, h3, _⟩ := h
  have e : pre ++ r = l := bs_inj.1 (h2.symm.trans ht)
  rw [h3, ← e, bs_size, List.length_append]
  refine decide_eq_decide.2 ?_
  cases r with
  | nil => simp
  | cons b r => simp; omega
theorem parse_eq (l : Str) : ∃ at_, F_notation_Parse (bs l) = some ((parseP l).1, at_, (parseP l).2, ()) := by
  unfold F_notation_Parse parseP
  by_cases hl : 6000 < l.length
  · rw [if_pos hl, decide_eq_true (show (6000 : Int) < (((bs l).size : Nat) : Int) by rw [bs_size]; omega)]
    exact ⟨_, rfl⟩
  · rw [if_neg hl, decide_eq_false (show ¬ (6000 : Int) < (((bs l).size : Nat) : Int) by rw [bs_size]; omega), cond_false]
    obtain ⟨s1, e1, x1, k1⟩ := next_first l (by omega)
    rw [e1, Option.bind_some]
    obtain ⟨s2, e2, x2, k2⟩ := numb_ok k1
    simp only []
    rw [e2, Option.bind_some, letJ_eq]
    have hbd := formP_bd l (by omega)
    have fin : ∀ (s : TNotationReader) (x : TTrust), x = (formP l).t → s.text = bs l → RS s (formP l).r → ∃ at_, (Option.bind (bif (!(formP l).ok) then some true else some (decide (s.at_ < ((ByteArray.size (bs l) : Nat) : Int)))) fun b5 =>
        bif b5 then some (T0, s.at_, (2 : Int), ()) else
        Option.bind (F_threshold_Valid (eTTrust x)) fun r6 => bif (!decide (r6 = (0 : Int))) then some (T0, (0 : Int), r6, ()) else some ((eTTrust x), (0 : Int), (0 : Int), ())) =
        some ((if (formP l).ok = true ∧ (formP l).r = [] then (if tval (formP l).t = 0 then ((formP l).t, (0 : Int)) else (T0, tval (formP l).t)) else (T0, (2 : Int))).1, at_, (if (formP l).ok = true ∧ (formP l).r = [] then (if tval (formP l).t = 0 then ((formP l).t, (0 : Int)) else (T0, tval (formP l).t)) else (T0, (2 : Int))).2, ()) := by
      intro s x hx ht hr
      subst hx
      rw [hr.at_lt ht, et, tval_eq hbd.sm]
      cases hok : (formP l).ok with
      | false =>
        rw [if_neg (by simp)]
        exact ⟨_, rfl⟩
      | true =>
        cases hq : (formP l).r with
        | cons b r =>
          rw [if_neg (by simp)]
          exact ⟨_, rfl⟩
        | nil =>
          rw [if_pos ⟨rfl, rfl⟩]
          by_cases h0 : tval (formP l).t = 0
          · rw [if_pos h0, h0]
            exact ⟨_, rfl⟩
          · rw [if_neg h0]
            refine ⟨0, ?_⟩
            simp only [Bool.not_true, cond_false, ne_eq, not_true, decide_false, Option.bind_some]
            rw [decide_eq_false h0]
            rfl
    cases ht : numTok (tok (skipS l)) with
    | false =>
      rw [ht] at k2
      have hf : formP l = ⟨T0, false, skipS l⟩ := by unfold formP; rw [ht]; rfl
      rw [hf] at fin
      simp only [Bool.false_eq_true, if_false] at k2
      rw [hf]
      exact fin s2 T0 rfl (x2.trans x1) k2
    | true =>
      rw [ht] at k2
      simp only [if_true] at k2
      have hf : formP l = restP (l.length + 2) (numV (tok (skipS l))) (nxt (skipS l)) := by unfold formP; rw [ht]; rfl
      have h1 := skipS_le l
      have h2 := nxt_le (skipS l)
      obtain ⟨s3, e3, x3, k3, l3⟩ := rest_eq (l.length + 2) (by omega) s2 (nxt (skipS l)) (numV (tok (skipS l))) k2 (by omega)
      rw [← hf] at e3 k3
      simp only [cond_true, if_true]
      have e4 : F_notation_reader_rest s2 (numV (tok (skipS l))) = some (((formP l).t, (formP l).ok, ()), s3) := by
        unfold F_notation_reader_rest
        rw [x2, x1, bs_size]
        exact e3
      rw [e4, Option.bind_some]
      simp only [et]
      have := fin s3 (formP l).t rfl (x3.trans (x2.trans x1)) k3
      simp only [et] at this
      exact this
end Go.Proofs.YtnhgcpiljggmmaaGreatDoor

set_option linter.unusedVariables false
set_option linter.unusedSimpArgs false
namespace Go.Proofs.YtnhgcpiljggmmaaGreatDoor
open Go.TQ Go.Proofs

mutual
def wT : TTrust → Nat
  | ⟨_, ns, is⟩ => 1 + ns.length + wL is
def wL : List TTrust → Nat
  | [] => 0
  | t :: l => wT t + wL l
end
theorem wL_app : ∀ (a b : List TTrust), wL (a ++ b) = wL a + wL b
  | [], b => by simp [wL]
  | t :: a, b => by simp [wL, wL_app a b, Nat.add_assoc]
def RecW (p : Int → Str → PR) : Prop := ∀ k r, wT (p k r).t + (p k r).r.length ≤ r.length + 1
theorem loopP_w {p : Int → Str → PR} (hp : RecW p) (th : Int) : ∀ (g : Nat) (ns : List Int) (is : List TTrust) (r : Str),
    wT (loopP p th g ns is r).t + (loopP p th g ns is r).r.length ≤ 1 + ns.length + wL is + r.length
  | 0, ns, is, r => Nat.le_refl _
  | g + 1, ns, is, r => by
    have item : ∀ (ns' : List Int) (is' : List TTrust) (r' : Str), ns'.length + wL is' + r'.length ≤ ns.length + wL is + r.length →
        wT (if tok r' = [41] then PR.mk ⟨th, ns', is'⟩ true (nxt r') else if tok r' = [44] then loopP p th g ns' is' (nxt r') else PR.mk ⟨th, ns', is'⟩ false r').t +
          (if tok r' = [41] then PR.mk ⟨th, ns', is'⟩ true (nxt r') else if tok r' = [44] then loopP p th g ns' is' (nxt r') else PR.mk ⟨th, ns', is'⟩ false r').r.length ≤ 1 + ns.length + wL is + r.length := by
      intro ns' is' r' hl
      have hn := nxt_le r'
      split
      · show 1 + ns'.length + wL is' + (nxt r').length ≤ _
        omega
      · split
        · have := loopP_w hp th g ns' is' (nxt r')
          omega
        · show 1 + ns'.length + wL is' + r'.length ≤ _
          omega
    rw [loopP]
    cases ht : numTok (tok r) with
    | false => exact Nat.le_refl _
    | true =>
      simp only [if_true]
      have hl1 := tok_pos (t := tok r) rfl (numTok_len ht).1
      split
      · have hq := hp (numV (tok r)) (nxt r)
        split
        · exact item ns (is ++ [(p (numV (tok r)) (nxt r)).t]) (p (numV (tok r)) (nxt r)).r (by rw [wL_app]; simp only [wL]; omega)
        · show 1 + ns.length + wL is + (p (numV (tok r)) (nxt r)).r.length ≤ _
          have : 1 ≤ wT (p (numV (tok r)) (nxt r)).t := by cases (p (numV (tok r)) (nxt r)).t; simp only [wT]; omega
          omega
      · exact item (ns ++ [numV (tok r)]) is (nxt r) (by simp; omega)
theorem restP_w : ∀ f : Nat, RecW (restP f)
  | 0 => fun k r => by show 1 + 0 + 0 + r.length ≤ r.length + 1; omega
  | f + 1 => fun k r => by
    have h1 := nxt_le r
    have h2 := nxt_le (nxt r)
    rw [restP]
    split
    · split
      · have := loopP_w (restP_w f) k ((nxt (nxt r)).length + 1) [] [] (nxt (nxt r))
        simp only [wL, List.length_nil] at this
        omega
      · show 1 + 0 + 0 + (nxt r).length ≤ _
        omega
    · show 1 + 0 + 0 + r.length ≤ _
      omega
theorem formP_w (l : Str) : wT (formP l).t ≤ l.length + 1 := by
  unfold formP
  have h1 := skipS_le l
  have h2 := nxt_le (skipS l)
  split
  · have := restP_w (l.length + 2) (numV (tok (skipS l))) (nxt (skipS l))
    omega
  · show 1 + 0 + 0 ≤ _
    omega

/-! ### the text -/
mutual
def writeT : TTrust → Str
  | ⟨th, ns, is⟩ => Lib.itoa th ++ [32, 111, 102, 32, 40] ++ Lib.join (ns.map Lib.itoa ++ writeL is) [44, 32] ++ [41]
def writeL : List TTrust → List Str
  | [] => []
  | t :: l => writeT t :: writeL l
end
theorem writeL_map : ∀ l : List TTrust, writeL l = l.map writeT
  | [] => rfl
  | t :: l => by rw [writeL, writeL_map l]; rfl
theorem lens_app (a b : List Str) : Lib.lens (a ++ b) = Lib.lens a + Lib.lens b := by simp [Lib.lens]
theorem join_le (sep : Str) (l : List Str) : (Lib.join l sep).length ≤ sep.length * l.length + Lib.lens l := by
  cases l with
  | nil => exact Nat.zero_le _
  | cons x r =>
    rw [Lib.join_length, List.length_cons, Nat.mul_succ]
    omega
theorem lens_itoa : ∀ (ns : List Int), (∀ x ∈ ns, I64 x) → Lib.lens (ns.map Lib.itoa) ≤ 21 * ns.length
  | [], _ => Nat.zero_le _
  | x :: ns, h => by
    have h1 := lens_itoa ns fun y hy => h y (by simp [hy])
    have h2 := Lib.itoa_length_le x (h x (by simp)).1 (h x (by simp)).2
    simp only [Lib.lens, List.map_cons, List.sum_cons, List.length_cons] at h1 ⊢
    omega
mutual
theorem writeT_le : ∀ t : TTrust, BdT t → (writeT t).length + 2 ≤ 40 * wT t
  | ⟨th, ns, is⟩, h => by
    have h0 : I64 th ∧ (∀ x ∈ ns, I64 x) ∧ ∀ u ∈ is, BdT u := by cases h with | mk _ h0 _ h2 _ h4 => exact ⟨h0, h2, h4⟩
    have h1 := Lib.itoa_length_le th h0.1.1 h0.1.2
    have h2 := lens_itoa ns h0.2.1
    have h3 := writeL_le is h0.2.2
    have h4 := join_le [44, 32] (ns.map Lib.itoa ++ writeL is)
    rw [lens_app, List.length_append, List.length_map] at h4
    simp only [writeT, wT, List.length_append, List.length_cons, List.length_nil] at h4 ⊢
    omega
theorem writeL_le : ∀ l : List TTrust, (∀ u ∈ l, BdT u) → Lib.lens (writeL l) + 2 * (writeL l).length ≤ 40 * wL l
  | [], _ => Nat.zero_le _
  | t :: l, h => by
    have h1 := writeT_le t (h t (by simp))
    have h2 := writeL_le l fun u hu => h u (by simp [hu])
    have h3 : 1 ≤ wT t := by cases t; simp only [wT]; omega
    simp only [writeL, wL, Lib.lens, List.map_cons, List.sum_cons, List.length_cons] at h2 ⊢
    omega
end

theorem joinF_eq (l : List Str) (sep : Str) (h1 : l.length ≤ 1000000) (h2 : (Lib.join l sep).length ≤ 100000000000000) : joinF (l.map bs) (bs sep) = some (bs (Lib.join l sep)) := by
  have e : joinB (l.map bs) (bs sep) = Lib.join l sep := by
    unfold joinB
    rw [List.map_map, show ((fun x : ByteArray => x.data.toList) ∘ bs) = id from rfl, List.map_id]
    rfl
  unfold joinF
  rw [e, if_pos ⟨by rw [List.length_map]; omega, by omega⟩]
  rfl
theorem wL_len : ∀ (l : List TTrust), l.length ≤ wL l
  | [] => Nat.le_refl _
  | t :: l => by
    have h1 : 1 ≤ wT t := by cases t; simp only [wT]; omega
    have := wL_len l
    simp only [wL, List.length_cons]
    omega
theorem wL_mem : ∀ {l : List TTrust} {u : TTrust}, u ∈ l → wT u ≤ wL l
  | t :: l, u, h => by
    simp only [wL]
    rcases List.mem_cons.1 h with rfl | h
    · omega
    · have := wL_mem h
      omega
theorem itoaF_eq {n : Int} (h : I64 n) : itoaF n = some (bs (Lib.itoa n)) := by
  unfold itoaF
  rw [if_pos (show -9223372036854775808 ≤ n ∧ n ≤ 9223372036854775807 from h)]
  rfl
theorem coll_fold {α ρ : Type} (f : α → Option ByteArray) (fv : α → Str) (fin : List ByteArray → Option ρ) : ∀ (l : List α) (acc : List Str), (∀ x ∈ l, f x = some (bs (fv x))) → acc.length + l.length ≤ 1000000 →
    foldE (fun x s => Option.bind (f x) fun r => bif lenOk 16 (List.length s + List.length [r]) then some (Sum.inl (s ++ [r])) else none) fin l (acc.map bs) = fin ((acc ++ l.map fv).map bs)
  | [], acc, _, _ => by simp [foldE]
  | x :: l, acc, hf, hl => by
    rw [foldE, hf x (by simp), Option.bind_some, lenOk_of (by simp at hl ⊢; omega) (by simp at hl ⊢; omega), cond_true]
    have := coll_fold f fv fin l (acc ++ [fv x]) (fun y hy => hf y (by simp [hy])) (by simp at hl ⊢; omega)
    rw [List.map_append] at this
    simp only [] at this ⊢
    refine this.trans ?_
    simp
/-- texts are gathered -/
theorem coll_bs {α ρ : Type} (l : List α) (f : α → Option ByteArray) (fv : α → Str) (hf : ∀ x ∈ l, f x = some (bs (fv x))) (fin : List ByteArray → Option ρ) (acc : List Str) (hl : acc.length + l.length ≤ 1000000) :
    loopO (fun (v : Int × (List ByteArray) × Unit) =>
      bif (decide (v.1 < ((List.length l : Nat) : Int))) then
        Option.bind (idx l v.1) fun x => Option.bind (f x) fun r =>
        bif lenOk 16 (List.length v.2.1 + List.length [r]) then some (Sum.inl ((addI .i64 v.1 (1 : Int)), (v.2.1 ++ [r]), ())) else none
      else Option.map Sum.inr (fin v.2.1)) ((0 : Int), acc.map bs, ()) = fin ((acc ++ l.map fv).map bs) := by
  refine (loopO_range l (by omega) (fun i (s : List ByteArray) => (i, s, ())) (fun x s => Option.bind (f x) fun r => bif lenOk 16 (List.length s + List.length [r]) then some (Sum.inl (s ++ [r])) else none) fin ?_ ?_ (acc.map bs)).trans ?_
  · intro i x s h1 h2 h3
    simp only []
    rw [h1, cond_true, h2, Option.bind_some]
    cases f x with
    | none => rfl
    | some r =>
      simp only [Option.bind_some]
      cases lenOk 16 (List.length s + List.length [r])
      · rfl
      · simp only [cond_true]
        rw [h3]
  · intro s h1
    simp only []
    rw [h1, cond_false]
  · exact coll_fold f fv fin l acc hf hl
theorem B_write {rec : (TTrust × Unit) → Option ByteArray} {t : TTrust} (hb : BdT t) (hw : wT t ≤ 100000) (hr : ∀ u ∈ t.Inner, rec (u, ()) = some (bs (writeT u))) : B_notation_write rec t = some (bs (writeT t)) := by
  obtain ⟨th, ns, is⟩ := t
  have h0 : I64 th ∧ (∀ x ∈ ns, I64 x) ∧ ∀ u ∈ is, BdT u := by cases hb with | mk _ h0 _ h2 _ h4 => exact ⟨h0, h2, h4⟩
  have hwl := writeT_le _ hb
  simp only [wT] at hw hwl
  have hil := wL_len is
  have hlen : (writeT ⟨th, ns, is⟩).length ≤ 4000000 := by omega
  have hjoin : (Lib.join (ns.map Lib.itoa ++ writeL is) [44, 32]).length ≤ 4000000 := by
    simp only [writeT, List.length_append] at hlen
    omega
  have hith := Lib.itoa_length_le th h0.1.1 h0.1.2
  -- the end
  have fin : (Option.bind (F_strconv_Itoa th) fun r7 => Option.bind (scat r7 (ByteArray.mk #[32, 111, 102, 32, 40])) fun x8 => Option.bind (F_strings_Join ((ns.map Lib.itoa ++ writeL is).map bs) (ByteArray.mk #[44, 32])) fun r9 =>
      Option.bind (scat x8 r9) fun x10 => Option.bind (scat x10 (ByteArray.mk #[41])) fun x11 => some x11) = some (bs (writeT ⟨th, ns, is⟩)) := by
    show Option.bind (itoaF th) _ = _
    rw [itoaF_eq h0.1, Option.bind_some]
    show Option.bind (scat (bs (Lib.itoa th)) (bs [32, 111, 102, 32, 40])) _ = _
    rw [scat_bs _ _ (by simp; omega), Option.bind_some]
    show Option.bind (joinF ((ns.map Lib.itoa ++ writeL is).map bs) (bs [44, 32])) _ = _
    rw [joinF_eq _ _ (by rw [List.length_append, List.length_map, writeL_map, List.length_map]; omega) (by omega), Option.bind_some]
    rw [scat_bs _ _ (by simp only [List.length_append, List.length_cons, List.length_nil]; omega), Option.bind_some]
    show Option.bind (scat (bs _) (bs [41])) _ = _
    rw [scat_bs _ _ (by simp only [List.length_append, List.length_cons, List.length_nil]; omega)]
    rfl
  have hlen2 : ns.length + is.length ≤ 200000 := by omega
  have inner := coll_bs is (fun x => rec ((eTTrust x), ())) writeT (fun u hu => by rw [et]; exact hr u hu)
    (fun words => Option.bind (F_strconv_Itoa th) fun r7 => Option.bind (scat r7 (ByteArray.mk #[32, 111, 102, 32, 40])) fun x8 => Option.bind (F_strings_Join words (ByteArray.mk #[44, 32])) fun r9 =>
      Option.bind (scat x8 r9) fun x10 => Option.bind (scat x10 (ByteArray.mk #[41])) fun x11 => some x11) (ns.map Lib.itoa) (by rw [List.length_map]; omega)
  rw [← writeL_map] at inner
  have outer := coll_bs ns (fun x => F_strconv_Itoa x) Lib.itoa (fun x hx => itoaF_eq (h0.2.1 x hx))
    (fun words => loopO (fun (v4 : Int × (List ByteArray) × Unit) =>
      bif (decide (v4.1 < ((List.length is : Nat) : Int))) then
        Option.bind (idx is v4.1) fun x5 => Option.bind (rec ((eTTrust x5), ())) fun r6 =>
        bif lenOk 16 (List.length v4.2.1 + List.length [r6]) then some (Sum.inl ((addI .i64 v4.1 (1 : Int)), (v4.2.1 ++ [r6]), ())) else none
      else Option.map Sum.inr (Option.bind (F_strconv_Itoa th) fun r7 => Option.bind (scat r7 (ByteArray.mk #[32, 111, 102, 32, 40])) fun x8 => Option.bind (F_strings_Join v4.2.1 (ByteArray.mk #[44, 32])) fun r9 =>
        Option.bind (scat x8 r9) fun x10 => Option.bind (scat x10 (ByteArray.mk #[41])) fun x11 => some x11)) ((0 : Int), words, ())) [] (by simp; omega)
  rw [List.nil_append] at outer
  exact outer.trans (inner.trans fin)
theorem I_write {n : Nat} : ∀ {t : TTrust}, SizeOf.sizeOf t < n → BdT t → wT t ≤ 100000 → I_notation_write n (t, ()) = some (bs (writeT t)) := by
  induction n with
  | zero => intro t h; omega
  | succ n ih =>
    intro t h hb hw
    show B_notation_write (I_notation_write n) t = _
    refine B_write hb hw fun u hu => ih (by have := inner_lt hu; omega) ?_ ?_
    · cases hb with | mk _ _ _ _ _ h4 => exact h4 u hu
    · obtain ⟨th, ns, is⟩ := t
      have := wL_mem hu
      simp only [wT] at hw this
      omega
theorem write_eq {t : TTrust} (hb : BdT t) (hw : wT t ≤ 100000) : F_notation_write t = some (bs (writeT t)) := I_write (by omega) hb hw
/-- notation.Text -/
noncomputable def textT (t : TTrust) : Str := if tval t = 0 then writeT t else [63]
theorem text_eq {t : TTrust} (hb : BdT t) (hw : wT t ≤ 100000) : F_notation_Text t = some (bs (textT t)) := by
  unfold F_notation_Text textT
  rw [et, tval_eq hb.sm, Option.bind_some]
  by_cases h : tval t = 0
  · rw [decide_eq_true h, if_pos h, Bool.not_true, cond_false, write_eq hb hw]
    rfl
  · rw [decide_eq_false h, if_neg h]
    rfl
theorem textT_le {t : TTrust} (hb : BdT t) (hw : wT t ≤ 100000) : (textT t).length ≤ 4000000 := by
  unfold textT
  have := writeT_le t hb
  split
  · omega
  · simp
end Go.Proofs.YtnhgcpiljggmmaaGreatDoor

set_option linter.unusedVariables false
set_option linter.unusedSimpArgs false
namespace Go.Proofs.YtnhgcpiljggmmaaGreatDoor
open Go.TQ Go.Proofs

/-- it does not begin with a digit -/
def NoDig (r : Str) : Prop := ∀ b l, r = b :: l → isDig b = false
theorem num4_cons {n : Nat} (h : n < 1024) : ∃ b l, num4 n = b :: l ∧ isDig b = true := by
  have := num_ok h
  cases hn : num4 n with
  | nil => have := this.len.1; rw [hn] at this; simp at this
  | cons b l => exact ⟨b, l, rfl, this.dig b (by rw [hn]; simp)⟩
theorem digs_app {n : Nat} (h : n < 1024) {r : Str} (hr : NoDig r) : digs (num4 n ++ r) = (num4 n).length := by
  have hd := (num_ok h).dig
  unfold digs
  rw [List.takeWhile_append_of_pos hd]
  cases r with
  | nil => simp
  | cons b l => simp [List.takeWhile_cons, hr b l rfl]
theorem tok_num {n : Nat} (h : n < 1024) {r : Str} (hr : NoDig r) : tok (num4 n ++ r) = num4 n ∧ nxt (num4 n ++ r) = skipS r := by
  obtain ⟨b, l, hbl, hb⟩ := num4_cons h
  have hb1 : 48 ≤ b.toNat ∧ b.toNat ≤ 57 := by simpa [isDig] using hb
  have hlen : tokLen (num4 n ++ r) = (num4 n).length := by
    unfold tokLen
    rw [if_neg, digs_app h hr] 
    · rw [hbl]
      show (if b = 40 ∨ b = 41 ∨ b = 44 then 1 else _) = _
      rw [if_neg]
      rintro (rfl | rfl | rfl) <;> simp at hb1
    · rw [hbl]
      rintro ⟨t, ht⟩
      injection ht with h1 _
      rw [← h1] at hb1
      simp at hb1
  unfold tok nxt
  rw [hlen]
  simp
theorem tok_of (r : Str) : tok (111 :: 102 :: r) = [111, 102] ∧ nxt (111 :: 102 :: r) = skipS r := by
  have hlen : tokLen (111 :: 102 :: r) = 2 := by
    unfold tokLen
    rw [if_pos ⟨r, rfl⟩]
  unfold tok nxt
  rw [hlen]
  exact ⟨rfl, rfl⟩
theorem tok_par {b : UInt8} (hb : b = 40 ∨ b = 41 ∨ b = 44) (r : Str) : tok (b :: r) = [b] ∧ nxt (b :: r) = skipS r := by
  have hlen : tokLen (b :: r) = 1 := by
    unfold tokLen
    rw [if_neg]
    · show (if b = 40 ∨ b = 41 ∨ b = 44 then 1 else _) = _
      rw [if_pos hb]
    · rintro ⟨t, ht⟩
      injection ht with h1 _
      rw [← h1] at hb
      simp at hb
  unfold tok nxt
  rw [hlen]
  exact ⟨rfl, rfl⟩
theorem skip_num {n : Nat} (h : n < 1024) (r : Str) : skipS (num4 n ++ r) = num4 n ++ r := by
  obtain ⟨b, l, hbl, hb⟩ := num4_cons h
  rw [hbl]
  unfold skipS
  rw [List.cons_append, List.dropWhile_cons, if_neg]
  intro e
  simp only [isSp, decide_eq_true_eq] at e
  subst e
  simp [isDig] at hb
theorem numTok_num {n : Nat} (h : n < 1024) : numTok (num4 n) = true ∧ numV (num4 n) = (n : Int) := by
  have hk := num_ok h
  obtain ⟨b, l, hbl, hb⟩ := num4_cons h
  refine ⟨?_, by unfold numV; rw [atoiF_num h]⟩
  have h1 := hk.len.2
  have h2 := hk.head
  rw [hbl] at h1 h2 ⊢
  simp only [numTok, hb, Bool.true_and, Bool.and_eq_true, decide_eq_true_eq, Bool.not_eq_true', Bool.and_eq_false_iff, decide_eq_false_iff_not]
  refine ⟨h1, ?_⟩
  rcases h2 with h2 | h2
  · exact .inl (by omega)
  · exact .inr fun e => h2 (by rw [e]; rfl)
def itemsT : List Nat → Str → Str
  | [], e => e
  | n :: ms, e => num4 n ++ (match ms with
    | [] => e
    | _ :: _ => 44 :: 32 :: itemsT ms e)
theorem nodig_41 (l : Str) : NoDig (41 :: l) := fun b r h => by injection h with h1 _; rw [← h1]; rfl
theorem nodig_44 (l : Str) : NoDig (44 :: l) := fun b r h => by injection h with h1 _; rw [← h1]; rfl
theorem nodig_32 (l : Str) : NoDig (32 :: l) := fun b r h => by injection h with h1 _; rw [← h1]; rfl
/-- numbers, then the end -/
theorem loop_nums (p : Int → Str → PR) (th : Int) : ∀ (ms : List Nat) (g : Nat) (ns : List Int) (is : List TTrust) (e : Str), ms ≠ [] → (∀ n ∈ ms, n < 1024) → ms.length ≤ g →
    loopP p th g ns is (itemsT ms (41 :: e)) = ⟨⟨th, ns ++ ms.map Int.ofNat, is⟩, true, skipS e⟩
  | [n], g + 1, ns, is, e, _, hm, _ => by
    have hn := hm n (by simp)
    have ht := tok_num hn (nodig_41 e)
    have h41 := tok_par (b := 41) (by simp) e
    have hs : skipS (41 :: e) = 41 :: e := rfl
    rw [hs] at ht
    show loopP p th (g + 1) ns is (num4 n ++ 41 :: e) = _
    rw [loopP, ht.1, (numTok_num hn).1, ht.2, (numTok_num hn).2]
    simp only [if_true]
    rw [h41.1, if_neg (by simp), if_pos rfl, h41.2]
    rfl
  | n :: m :: ms, g + 1, ns, is, e, _, hm, hg => by
    have hn := hm n (by simp)
    have hmm := hm m (by simp)
    have hit : itemsT (n :: m :: ms) (41 :: e) = num4 n ++ 44 :: 32 :: itemsT (m :: ms) (41 :: e) := rfl
    have ht := tok_num hn (nodig_44 (32 :: itemsT (m :: ms) (41 :: e)))
    have h44 := tok_par (b := 44) (by simp) (32 :: itemsT (m :: ms) (41 :: e))
    have hs : skipS (44 :: 32 :: itemsT (m :: ms) (41 :: e)) = 44 :: 32 :: itemsT (m :: ms) (41 :: e) := rfl
    have hs2 : skipS (32 :: itemsT (m :: ms) (41 :: e)) = itemsT (m :: ms) (41 :: e) := by
      show skipS (itemsT (m :: ms) (41 :: e)) = _
      exact skip_num hmm _
    rw [hs] at ht
    rw [hs2] at h44
    rw [hit, loopP, ht.1, (numTok_num hn).1, ht.2, (numTok_num hn).2]
    simp only [if_true]
    rw [h44.1, if_neg (by simp), if_neg (by simp), if_pos rfl, h44.2, loop_nums p th (m :: ms) g (ns ++ [(n : Int)]) is e (by simp) (fun k hk => hm k (by simp [hk])) (by simp at hg ⊢; omega)]
    simp
/-- numbers, then one trust, then the end -/
theorem loop_inner (f : Nat) (th : Int) (x : Nat) (hx : x < 1024) : ∀ (ms : List Nat) (g : Nat) (ns : List Int) (e : Str), (∀ n ∈ ms, n < 1024) → ms.length + 1 ≤ g →
    loopP (restP (f + 1)) th g ns [] (itemsT (ms ++ [1]) ([32, 111, 102, 32, 40] ++ num4 x ++ 41 :: 41 :: e)) = ⟨⟨th, ns ++ ms.map Int.ofNat, [⟨1, [(x : Int)], []⟩]⟩, true, skipS e⟩
  | [], g + 1, ns, e, _, _ => by
    have hn : 1 < 1024 := by omega
    have ht := tok_num hn (nodig_32 (111 :: 102 :: 32 :: 40 :: (num4 x ++ 41 :: 41 :: e)))
    have hs : skipS (32 :: 111 :: 102 :: 32 :: 40 :: (num4 x ++ 41 :: 41 :: e)) = 111 :: 102 :: 32 :: 40 :: (num4 x ++ 41 :: 41 :: e) := rfl
    rw [hs] at ht
    have hof := tok_of (32 :: 40 :: (num4 x ++ 41 :: 41 :: e))
    have hs2 : skipS (32 :: 40 :: (num4 x ++ 41 :: 41 :: e)) = 40 :: (num4 x ++ 41 :: 41 :: e) := rfl
    rw [hs2] at hof
    have h40 := tok_par (b := 40) (by simp) (num4 x ++ 41 :: 41 :: e)
    rw [skip_num hx] at h40
    have h41 := tok_par (b := 41) (by simp) e
    have hrec : restP (f + 1) 1 (111 :: 102 :: 32 :: 40 :: (num4 x ++ 41 :: 41 :: e)) = ⟨⟨1, [(x : Int)], []⟩, true, 41 :: e⟩ := by
      rw [restP, hof.1, if_pos rfl, hof.2, h40.1, if_pos rfl, h40.2]
      exact loop_nums (restP f) 1 [x] _ [] [] (41 :: e) (by simp) (by simpa using hx) (by simp)
    show loopP (restP (f + 1)) th (g + 1) ns [] (num4 1 ++ 32 :: 111 :: 102 :: 32 :: 40 :: (num4 x ++ 41 :: 41 :: e)) = _
    rw [loopP, ht.1, (numTok_num hn).1, ht.2, (numTok_num hn).2]
    simp only [if_true]
    rw [hof.1, if_pos rfl, show ((1 : Nat) : Int) = 1 from rfl, hrec]
    simp only [if_true]
    rw [h41.1, if_pos rfl, h41.2]
    simp
  | n :: ms, g + 1, ns, e, hm, hg => by
    have hn := hm n (by simp)
    obtain ⟨m', ms', hms⟩ : ∃ m' ms', ms ++ [1] = m' :: ms' := by
      cases ms with
      | nil => exact ⟨_, _, rfl⟩
      | cons a b => exact ⟨_, _, rfl⟩
    have hm' : m' < 1024 := by
      cases ms with
      | nil => injection hms with h1 _; omega
      | cons a b => injection hms with h1 _; rw [← h1]; exact hm a (by simp)
    generalize hE : [32, 111, 102, 32, 40] ++ num4 x ++ 41 :: 41 :: e = E
    have hit : itemsT ((n :: ms) ++ [1]) E = num4 n ++ 44 :: 32 :: itemsT (ms ++ [1]) E := by
      rw [List.cons_append, hms]
      rfl
    have ht := tok_num hn (nodig_44 (32 :: itemsT (ms ++ [1]) E))
    have h44 := tok_par (b := 44) (by simp) (32 :: itemsT (ms ++ [1]) E)
    have hs : skipS (44 :: 32 :: itemsT (ms ++ [1]) E) = 44 :: 32 :: itemsT (ms ++ [1]) E := rfl
    have hs2 : skipS (32 :: itemsT (ms ++ [1]) E) = itemsT (ms ++ [1]) E := by
      show skipS (itemsT (ms ++ [1]) E) = _
      rw [hms]
      exact skip_num hm' _
    rw [hs] at ht
    rw [hs2] at h44
    rw [hit, loopP, ht.1, (numTok_num hn).1, ht.2, (numTok_num hn).2]
    simp only [if_true]
    rw [h44.1, if_neg (by simp), if_neg (by simp), if_pos rfl, h44.2, ← hE, loop_inner f th x hx ms g (ns ++ [(n : Int)]) e (fun k hk => hm k (by simp [hk])) (by simp at hg ⊢; omega)]
    simp

theorem join_two (x y : Str) (r : List Str) (sep : Str) : Lib.join (x :: y :: r) sep = x ++ sep ++ Lib.join (y :: r) sep := by
  rw [Lib.join_cons, Lib.join_cons, Lib.joinTail]
  simp [Lib.joinTail]
theorem join_items : ∀ (ms : List Nat) (n : Nat) (tl e : Str), Lib.join (ms.map num4 ++ [num4 n ++ tl]) [44, 32] ++ e = itemsT (ms ++ [n]) (tl ++ e)
  | [], n, tl, e => by
    show Lib.join [num4 n ++ tl] [44, 32] ++ e = num4 n ++ (tl ++ e)
    rw [Lib.join_one, List.append_assoc]
  | m :: ms, n, tl, e => by
    obtain ⟨y, r, hr⟩ : ∃ y r, ms.map num4 ++ [num4 n ++ tl] = y :: r := by
      cases ms with
      | nil => exact ⟨_, _, rfl⟩
      | cons a b => exact ⟨_, _, rfl⟩
    obtain ⟨m', ms', hms⟩ : ∃ m' ms', ms ++ [n] = m' :: ms' := by
      cases ms with
      | nil => exact ⟨_, _, rfl⟩
      | cons a b => exact ⟨_, _, rfl⟩
    have ih := join_items ms n tl e
    rw [List.map_cons, List.cons_append, hr, join_two, ← hr, List.append_assoc, List.append_assoc, ih, List.cons_append (a := m), hms]
    rfl
theorem nat_of {x : Int} (h : 0 ≤ x) : ((x.toNat : Nat) : Int) = x := by omega
theorem itoa_int {x : Int} (h0 : 0 ≤ x) (h1 : x < 1024) : Lib.itoa x = num4 x.toNat := by
  have h := itoa_num4 (u := x.toNat) (by omega)
  rw [nat_of h0] at h
  exact h
theorem map_nat : ∀ {l : List Int}, (∀ x ∈ l, 0 ≤ x) → (l.map Int.toNat).map Int.ofNat = l
  | [], _ => rfl
  | x :: l, h => by
    have := map_nat (l := l) fun y hy => h y (by simp [hy])
    simp only [List.map_cons, this]
    congr 1
    exact nat_of (h x (by simp))
theorem map_itoa : ∀ {l : List Int}, (∀ x ∈ l, 0 ≤ x ∧ x < 1024) → l.map Lib.itoa = (l.map Int.toNat).map num4
  | [], _ => rfl
  | x :: l, h => by
    have := map_itoa (l := l) fun y hy => h y (by simp [hy])
    simp only [List.map_cons, this]
    congr 1
    exact itoa_int (h x (by simp)).1 (h x (by simp)).2
theorem skip_nil : skipS [] = [] := rfl
/-- the text of a good trust is read back -/
theorem form_good {t : TTrust} (h : GoodT t) : formP (writeT t) = ⟨t, true, []⟩ := by
  obtain ⟨th, ns, is⟩ := t
  obtain ⟨h1, h2, h3, h4, h5⟩ := h
  simp only at h1 h2 h3 h4 h5
  have hil : is.length ≤ 1 := by rcases h4 with e | ⟨x, _, _, e⟩ <;> rw [e] <;> simp
  have hth : th.toNat < 1024 := by omega
  have hns : ∀ x ∈ ns, 0 ≤ x ∧ x < 1024 := fun x hx => by have := h1 x hx; omega
  have hms : ∀ n ∈ ns.map Int.toNat, n < 1024 := fun n hn => by
    obtain ⟨x, hx, rfl⟩ := List.mem_map.1 hn
    have := h1 x hx
    omega
  -- the text
  obtain ⟨body, hw, hbody⟩ : ∃ body : Str, writeT ⟨th, ns, is⟩ = num4 th.toNat ++ 32 :: 111 :: 102 :: 32 :: 40 :: body ∧
      ∀ f, skipS body = body ∧ loopP (restP (f + 1)) th (body.length + 1) [] [] body = ⟨⟨th, ns, is⟩, true, []⟩ := by
    have hw : writeT ⟨th, ns, is⟩ = num4 th.toNat ++ 32 :: 111 :: 102 :: 32 :: 40 :: (Lib.join (ns.map Lib.itoa ++ writeL is) [44, 32] ++ [41]) := by
      rw [writeT, itoa_int (by omega) (by omega)]
      simp
    refine ⟨_, hw, ?_⟩
    rw [map_itoa hns]
    rcases h4 with rfl | ⟨x, hx0, hx1, rfl⟩
    · have hne : ns.map Int.toNat ≠ [] := fun e => by
        rw [List.map_eq_nil_iff] at e
        subst e
        simp at h5
        omega
      obtain ⟨ini, n, hin⟩ : ∃ ini n, ns.map Int.toNat = ini ++ [n] := ⟨_, _, (List.dropLast_concat_getLast hne).symm⟩
      have hj : Lib.join ((ns.map Int.toNat).map num4 ++ writeL []) [44, 32] ++ [41] = itemsT (ns.map Int.toNat) [41] := by
        have := join_items ini n [] [41]
        rw [List.append_nil] at this
        rw [writeL, List.append_nil, hin, List.map_append]
        exact this
      rw [hj]
      intro f
      have hl : (ns.map Int.toNat).length ≤ (itemsT (ns.map Int.toNat) [41]).length + 1 := by
        have : ∀ (ms : List Nat) (e : Str), (∀ n ∈ ms, n < 1024) → ms.length ≤ (itemsT ms e).length := by
          intro ms
          induction ms with
          | nil => intro e _; exact Nat.zero_le _
          | cons m ms ih =>
            intro e hm
            have hm1 := (num_ok (hm m (by simp))).len.1
            have hi := ih e fun k hk => hm k (by simp [hk])
            cases ms with
            | nil => simp only [itemsT, List.length_append, List.length_cons, List.length_nil]; omega
            | cons a b => simp only [itemsT, List.length_append, List.length_cons] at hi ⊢; omega
        have := this (ns.map Int.toNat) [41] hms
        omega
      constructor
      · cases hq : ns.map Int.toNat with
        | nil => exact absurd hq hne
        | cons a b => exact skip_num (hms a (by rw [hq]; simp)) _
      · rw [loop_nums (restP (f + 1)) th (ns.map Int.toNat) _ [] [] [] hne hms hl, List.nil_append, map_nat fun x hx => (hns x hx).1, skip_nil]
    · have hj : Lib.join ((ns.map Int.toNat).map num4 ++ writeL [⟨1, [x], []⟩]) [44, 32] ++ [41] = itemsT (ns.map Int.toNat ++ [1]) ([32, 111, 102, 32, 40] ++ num4 x.toNat ++ 41 :: 41 :: []) := by
        have := join_items (ns.map Int.toNat) 1 ([32, 111, 102, 32, 40] ++ num4 x.toNat ++ [41]) [41]
        rw [show writeL [⟨1, [x], []⟩] = [num4 1 ++ ([32, 111, 102, 32, 40] ++ num4 x.toNat ++ [41])] by
          rw [writeL, writeL, writeT, writeL, itoa_int (by omega) (by omega)]
          simp only [List.map_cons, List.map_nil, List.append_nil, Lib.join_one]
          rw [itoa_int hx0 (by omega)]
          simp]
        rw [this]
        congr 1
        simp
      rw [hj]
      intro f
      generalize hT : itemsT (ns.map Int.toNat ++ [1]) ([32, 111, 102, 32, 40] ++ num4 x.toNat ++ 41 :: 41 :: []) = T
      have hl : (ns.map Int.toNat).length + 1 ≤ T.length + 1 := by
        have : ∀ (ms : List Nat) (e : Str), (∀ n ∈ ms, n < 1024) → ms.length ≤ (itemsT ms e).length := by
          intro ms
          induction ms with
          | nil => intro e _; exact Nat.zero_le _
          | cons m ms ih =>
            intro e hm
            have hm1 := (num_ok (hm m (by simp))).len.1
            have hi := ih e fun k hk => hm k (by simp [hk])
            cases ms with
            | nil => simp only [itemsT, List.length_append, List.length_cons, List.length_nil]; omega
            | cons a b => simp only [itemsT, List.length_append, List.length_cons] at hi ⊢; omega
        have := this (ns.map Int.toNat ++ [1]) ([32, 111, 102, 32, 40] ++ num4 x.toNat ++ 41 :: 41 :: []) (fun n hn => by
          rcases List.mem_append.1 hn with hn | hn
          · exact hms n hn
          · have := List.mem_singleton.1 hn
            omega)
        rw [hT] at this
        simp at this ⊢
        omega
      constructor
      · rw [← hT]
        cases hq : ns.map Int.toNat with
        | nil => exact skip_num (by omega) _
        | cons a b => exact skip_num (hms a (by rw [hq]; simp)) _
      · rw [← hT]
        rw [← hT] at hl
        rw [loop_inner f th x.toNat (by omega) (ns.map Int.toNat) _ [] [] hms hl, List.nil_append, map_nat fun x hx => (hns x hx).1, skip_nil, nat_of hx0]
  rw [hw]
  unfold formP
  have ht := tok_num hth (nodig_32 (111 :: 102 :: 32 :: 40 :: body))
  have hs : skipS (32 :: 111 :: 102 :: 32 :: 40 :: body) = 111 :: 102 :: 32 :: 40 :: body := rfl
  rw [hs] at ht
  have hof := tok_of (32 :: 40 :: body)
  have hs2 : skipS (32 :: 40 :: body) = 40 :: body := rfl
  rw [hs2] at hof
  have h40 := tok_par (b := 40) (by simp) body
  rw [skip_num hth, ht.1, (numTok_num hth).1, if_pos rfl, ht.2, (numTok_num hth).2, restP, hof.1, if_pos rfl, hof.2, h40.1, if_pos rfl, h40.2, nat_of (by omega)]
  obtain ⟨f, hf⟩ : ∃ f, (num4 th.toNat ++ 32 :: 111 :: 102 :: 32 :: 40 :: body).length + 1 = f + 1 := ⟨_, rfl⟩
  rw [hf, (hbody f).1]
  exact (hbody f).2
end Go.Proofs.YtnhgcpiljggmmaaGreatDoor

set_option linter.unusedVariables false
set_option linter.unusedSimpArgs false
namespace Go.Proofs.YtnhgcpiljggmmaaGreatDoor
open Go.TQ Go.Proofs

/-! ### equality of lists -/
def eqL {α : Type} (f : α → α → Option Bool) : List α → List α → Option Bool
  | x :: a, y :: b => (f x y).bind fun r => bif r then eqL f a b else some false
  | _, _ => some true
theorem eq_loop {α : Type} (f : α → α → Option Bool) (a b : List α) (hl : a.length = b.length) (hn : a.length ≤ 1000000000) :
    loopO (fun (v1 : Int × Unit) => bif (decide (v1.1 < ((List.length a : Nat) : Int))) then Option.bind (idx a v1.1) fun x2 => Option.bind (idx b v1.1) fun x3 => Option.bind (f x2 x3) fun r => bif (!r) then Option.map Sum.inr (some false) else some (Sum.inl ((addI .i64 v1.1 (1 : Int)), ()))
      else Option.map Sum.inr (some true)) ((0 : Int), ()) = eqL f a b := by
  suffices h : ∀ (k i : Nat), i + k = a.length → loopO (fun (v1 : Int × Unit) => bif (decide (v1.1 < ((List.length a : Nat) : Int))) then Option.bind (idx a v1.1) fun x2 => Option.bind (idx b v1.1) fun x3 => Option.bind (f x2 x3) fun r => bif (!r) then Option.map Sum.inr (some false) else some (Sum.inl ((addI .i64 v1.1 (1 : Int)), ()))
      else Option.map Sum.inr (some true)) ((i : Int), ()) = eqL f (a.drop i) (b.drop i) by
    have := h a.length 0 (by omega)
    simpa using this
  intro k
  induction k with
  | zero =>
    intro i hi
    obtain rfl : i = a.length := by omega
    rw [List.drop_length, eqL.eq_2 f [] _ (by simp)]
    refine loopO_inr ?_
    simp only []
    rw [decide_eq_false (by omega), cond_false]
    rfl
  | succ k ih =>
    intro i hi
    have h1 : i < a.length := by omega
    have h2 : i < b.length := by omega
    rw [List.drop_eq_getElem_cons h1, List.drop_eq_getElem_cons h2, eqL]
    have hs : ∀ (v1 : Int × Unit), v1 = ((i : Int), ()) → (bif (decide (v1.1 < ((List.length a : Nat) : Int))) then Option.bind (idx a v1.1) fun x2 => Option.bind (idx b v1.1) fun x3 => Option.bind (f x2 x3) fun r => bif (!r) then Option.map Sum.inr (some false) else some (Sum.inl ((addI .i64 v1.1 (1 : Int)), ()))
      else Option.map Sum.inr (some true) : Option ((Int × Unit) ⊕ Bool)) = Option.bind (f a[i] b[i]) fun r => bif (!r) then some (Sum.inr false) else some (Sum.inl (((i + 1 : Nat) : Int), ())) := by
      rintro v1 rfl
      simp only []
      rw [decide_eq_true (by omega), cond_true, idx_nat, idx_nat, List.getElem?_eq_getElem h1, List.getElem?_eq_getElem h2, Option.bind_some, Option.bind_some, add64 (by omega) (by omega)]
      rfl
    cases hf : f a[i] b[i] with
    | none => exact loopO_none ((hs _ rfl).trans (by rw [hf]; rfl))
    | some r =>
      cases r with
      | false => exact loopO_inr ((hs _ rfl).trans (by rw [hf]; rfl))
      | true => exact (loopO_inl ((hs _ rfl).trans (by rw [hf]; rfl))).trans (ih (i + 1) (by omega))
theorem eqL_dec {α : Type} [DecidableEq α] : ∀ (a b : List α), a.length = b.length → eqL (fun x y => some (decide (x = y))) a b = some (decide (a = b))
  | [], [], _ => rfl
  | x :: a, y :: b, h => by
    rw [eqL, Option.bind_some, eqL_dec a b (by simpa using h)]
    by_cases e : x = y
    · subst e
      by_cases e2 : a = b
      · subst e2; simp
      · simp [e2]
    · simp [e]
theorem equal_int (a b : List Int) (h : a.length ≤ 1000000000) : F_slices_Equal_int_int a b = some (decide (a = b)) := by
  unfold F_slices_Equal_int_int
  by_cases hl : a.length = b.length
  · rw [decide_eq_true (by omega), Bool.not_true, cond_false]
    exact (eq_loop (fun x y => some (decide (x = y))) a b hl h).trans (eqL_dec a b hl)
  · rw [decide_eq_false (by omega), decide_eq_false (fun e => hl (by rw [e]))]
    rfl
theorem equal_str (a b : List ByteArray) (h : a.length ≤ 1000000000) : F_slices_Equal_string_string a b = some (decide (a = b)) := by
  unfold F_slices_Equal_string_string
  by_cases hl : a.length = b.length
  · rw [decide_eq_true (by omega), Bool.not_true, cond_false]
    exact (eq_loop (fun x y => some (decide (x = y))) a b hl h).trans (eqL_dec a b hl)
  · rw [decide_eq_false (by omega), decide_eq_false (fun e => hl (by rw [e]))]
    rfl
theorem eqL_total {α : Type} {f : α → α → Option Bool} : ∀ (a b : List α), (∀ x ∈ a, ∀ y ∈ b, ∃ r, f x y = some r) → ∃ r, eqL f a b = some r
  | [], _, _ => ⟨true, by rw [eqL.eq_2 f [] _ (by simp)]⟩
  | x :: a, [], _ => ⟨true, rfl⟩
  | x :: a, y :: b, h => by
    obtain ⟨r, hr⟩ := h x (by simp) y (by simp)
    obtain ⟨q, hq⟩ := eqL_total a b fun u hu v hv => h u (by simp [hu]) v (by simp [hv])
    rw [eqL, hr, Option.bind_some]
    cases r
    · exact ⟨false, rfl⟩
    · exact ⟨q, hq⟩
theorem eqL_refl {α : Type} {f : α → α → Option Bool} : ∀ (a : List α), (∀ x ∈ a, f x x = some true) → eqL f a a = some true
  | [], _ => rfl
  | x :: a, h => by
    rw [eqL, h x (by simp), Option.bind_some, cond_true]
    exact eqL_refl a fun y hy => h y (by simp [hy])

/-! ### words -/
def dynT (d : TDyn) : Str := if d.isS then d.s.data.toList else Lib.itoa d.n
def DynOk (d : TDyn) : Prop := d.isS = false → I64 d.n
theorem words_eq (l : List TDyn) (hd : ∀ d ∈ l, DynOk d) (hn : l.length ≤ 100000) (hj : (Lib.join (l.map dynT) [32]).length ≤ 100000000000000) : F_laboratory_words l = some (bs (Lib.join (l.map dynT) [32])) := by
  unfold F_laboratory_words
  have h := coll_bs l (fun x => if x.isS then some x.s else itoaF x.n) dynT (fun x hx => by
    unfold dynT
    cases hs : x.isS with
    | true => simp only [if_true]; rw [bs_of]
    | false => simp only [Bool.false_eq_true, if_false]; exact itoaF_eq (hd x hx hs)) (fun words => Option.bind (F_strings_Join words (ByteArray.mk #[32])) fun r6 => some r6) [] (by simp; omega)
  rw [List.nil_append] at h
  have hfin : (Option.bind (F_strings_Join ((l.map dynT).map bs) (ByteArray.mk #[32])) fun r6 => some r6) = some (bs (Lib.join (l.map dynT) [32])) := by
    show Option.bind (joinF ((l.map dynT).map bs) (bs [32])) _ = _
    rw [joinF_eq _ _ (by rw [List.length_map]; omega) hj]
    rfl
  rw [hfin] at h
  rw [← h]
  show loopO _ _ = loopO _ _
  congr 1
  funext v
  cases decide (v.1 < ((List.length l : Nat) : Int)) with
  | false => rfl
  | true =>
    simp only [cond_true, letJ_eq]
    congr 1
    funext x
    cases hs : x.isS with
    | true => rfl
    | false => rfl
end Go.Proofs.YtnhgcpiljggmmaaGreatDoor

set_option linter.unusedVariables false
set_option linter.unusedSimpArgs false
namespace Go.Proofs.YtnhgcpiljggmmaaGreatDoor
open Go.TQ Go.Proofs

/-! ### ranges -/
def nodeB (n : Int) : Bool := decide (0 ≤ n) && decide (n < 10)
def countB' (n : Int) : Bool := decide (1 ≤ n) && decide (n ≤ 1000)
def setB (n : Int) : Bool := decide (1 ≤ n) && decide (n < 1024)
theorem node_eq (n : Int) : F_laboratory_node n = some (nodeB n) := by
  unfold F_laboratory_node nodeB
  cases decide (0 ≤ n) <;> rfl
theorem count_eq (n : Int) : F_laboratory_count n = some (countB' n) := by
  unfold F_laboratory_count countB'
  cases decide (1 ≤ n) <;> rfl
theorem line2_eq (n : Int) : F_laboratory_line_2 n = some (!setB n) := by
  unfold F_laboratory_line_2 F_laboratory_set setB
  cases decide (1 ≤ n) <;> rfl
theorem contains_set (l : List Int) (hl : l.length ≤ 9223372036854775807) : F_slices_ContainsFunc_int_int_c68 l = some (l.any fun x => !setB x) := by
  have key : ∀ (i : Nat) (k : Nat), i + k = l.length → Yd (loopO (fun (v1 : Int × Unit) => bif (decide (v1.1 < ((List.length l : Nat) : Int))) then Option.bind (idx l v1.1) fun x2 => Option.bind (F_laboratory_line_2 x2) fun r3 => bif r3 then Option.map Sum.inr (some v1.1) else some (Sum.inl ((addI .i64 v1.1 (1 : Int)), ())) else Option.map Sum.inr (some (-1 : Int))) ((i : Int), ())) fun r => decide (0 ≤ r) = (l.drop i).any fun x => !setB x := by
    intro i k
    induction k generalizing i with
    | zero =>
      intro hi
      refine ⟨-1, loopO_inr ?_, ?_⟩
      · grind
      · rw [List.drop_eq_nil_of_le (by omega)]; rfl
    | succ k ih =>
      intro hi
      have hlt : i < l.length := by omega
      have hd : decide ((i : Int) < ((l.length : Nat) : Int)) = true := decide_eq_true (Int.ofNat_lt.2 hlt)
      have hx : idx l (i : Int) = some l[i] := by rw [idx_nat]; exact List.getElem?_eq_getElem hlt
      have hw : addI .i64 (i : Int) 1 = ((i + 1 : Nat) : Int) := add64 (by omega) (by omega)
      rw [List.drop_eq_getElem_cons hlt, List.any_cons]
      cases h : setB l[i] with
      | true =>
        rw [loopO_inl (s' := (((i + 1 : Nat) : Int), ())) (by simp only [hd, hx, hw, cond_true, Option.bind_some, line2_eq, h]; rfl)]
        exact (ih (i + 1) (by omega)).mono fun r hr => by simpa using hr
      | false =>
        refine ⟨i, loopO_inr (by simp only [hd, hx, cond_true, Option.bind_some, line2_eq, h]; rfl), ?_⟩
        simp
  obtain ⟨r, h1, h2⟩ := key 0 l.length (by omega)
  unfold F_slices_ContainsFunc_int_int_c68 F_slices_IndexFunc_int_int_c68
  simp only [Int.natCast_zero] at h1
  rw [h1]
  simpa using h2

/-! ### equal trusts, equal steps -/
theorem same_total {n : Nat} : ∀ {a b : TTrust}, SizeOf.sizeOf a < n → BdT a → BdT b → ∃ r, I_threshold_Same n (a, b, ()) = some r := by
  induction n with
  | zero => intro a b h; omega
  | succ n ih =>
    intro a b h ha hb
    show ∃ r, B_threshold_Same (I_threshold_Same n) a b = some r
    have h1 : a.Nodes.length ≤ 10000 ∧ a.Inner.length ≤ 10000 ∧ ∀ u ∈ a.Inner, BdT u := by cases ha with | mk _ _ h1 _ h3 h4 => exact ⟨h1, h3, h4⟩
    have h2 : ∀ u ∈ b.Inner, BdT u := by cases hb with | mk _ _ _ _ _ h4 => exact h4
    have hi : ∃ r, B_slices_EqualFunc_api_Trust_api_Trust_api_Trust_api_Trust_c73 (I_threshold_Same n) a.Inner b.Inner = some r := by
      unfold B_slices_EqualFunc_api_Trust_api_Trust_api_Trust_api_Trust_c73
      by_cases hl : a.Inner.length = b.Inner.length
      · rw [decide_eq_true (by omega), Bool.not_true, cond_false]
        obtain ⟨r, hr⟩ := eqL_total (f := fun x y => I_threshold_Same n (eTTrust x, eTTrust y, ())) a.Inner b.Inner fun x hx y hy => by
          rw [et, et]
          exact ih (by have := inner_lt hx; omega) (h1.2.2 x hx) (h2 y hy)
        exact ⟨r, (eq_loop (fun x y => I_threshold_Same n (eTTrust x, eTTrust y, ())) a.Inner b.Inner hl (by omega)).trans hr⟩
      · rw [decide_eq_false (by omega)]
        exact ⟨_, rfl⟩
    obtain ⟨r, hr⟩ := hi
    unfold B_threshold_Same
    rw [equal_int _ _ (by omega), hr]
    cases decide (a.Threshold = b.Threshold) with
    | false => exact ⟨_, rfl⟩
    | true =>
      cases decide (a.Nodes = b.Nodes) with
      | false => exact ⟨_, rfl⟩
      | true => exact ⟨_, rfl⟩
theorem same_refl {n : Nat} : ∀ {a : TTrust}, SizeOf.sizeOf a < n → BdT a → I_threshold_Same n (a, a, ()) = some true := by
  induction n with
  | zero => intro a h; omega
  | succ n ih =>
    intro a h ha
    show B_threshold_Same (I_threshold_Same n) a a = some true
    have h1 : a.Nodes.length ≤ 10000 ∧ a.Inner.length ≤ 10000 ∧ ∀ u ∈ a.Inner, BdT u := by cases ha with | mk _ _ h1 _ h3 h4 => exact ⟨h1, h3, h4⟩
    have hi : B_slices_EqualFunc_api_Trust_api_Trust_api_Trust_api_Trust_c73 (I_threshold_Same n) a.Inner a.Inner = some true := by
      unfold B_slices_EqualFunc_api_Trust_api_Trust_api_Trust_api_Trust_c73
      rw [decide_eq_true rfl, Bool.not_true, cond_false]
      exact (eq_loop (fun x y => I_threshold_Same n (eTTrust x, eTTrust y, ())) a.Inner a.Inner rfl (by omega)).trans (eqL_refl a.Inner fun x hx => by
        rw [et]
        exact ih (by have := inner_lt hx; omega) (h1.2.2 x hx))
    unfold B_threshold_Same
    rw [equal_int _ _ (by omega), hi, decide_eq_true rfl, decide_eq_true rfl]
    rfl
theorem tsame_total {a b : TTrust} (ha : BdT a) (hb : BdT b) : ∃ r, F_threshold_Same a b = some r := same_total (by omega) ha hb
theorem tsame_refl {a : TTrust} (ha : BdT a) : F_threshold_Same a a = some true := same_refl (by omega) ha

/-- letters of modest size -/
structure BdL (l : TLetter) : Prop where
  nt : BdT l.Nomination.Trust
  et : BdT l.Envelope.Trust
  v : l.Nomination.Votes.length ≤ 1000000
  a : l.Nomination.Accepts.length ≤ 1000000
theorem andO_total {b : Bool} {o : Option Bool} (h : ∃ r, o = some r) : ∃ r, (bif b then o else some false) = some r := by
  obtain ⟨r, rfl⟩ := h
  cases b <;> exact ⟨_, rfl⟩
theorem bindO_total {α β : Type} {o : Option α} {f : α → Option β} (h : ∃ r, o = some r) (k : ∀ x, ∃ r, f x = some r) : ∃ r, Option.bind o f = some r := by
  obtain ⟨r, rfl⟩ := h
  exact k r
theorem bind_id {o : Option Bool} : (Option.bind o fun r => some r) = o := by cases o <;> rfl
theorem letter_total {a b : TLetter} (ha : BdL a) (hb : BdL b) : ∃ r, F_laboratory_letter a b = some r := by
  unfold F_laboratory_letter
  have t1 := tsame_total ha.nt hb.nt
  have t2 := tsame_total ha.et hb.et
  simp only [Go.Proofs.YtnhgcpiljggmmaaGreatDoor.et, bind_id, equal_str _ _ (show a.Nomination.Votes.length ≤ 1000000000 by have := ha.v; omega), equal_str _ _ (show a.Nomination.Accepts.length ≤ 1000000000 by have := ha.a; omega)]
  repeat' first
    | exact t1
    | exact t2
    | exact ⟨_, rfl⟩
    | (apply bindO_total)
    | (apply andO_total)
    | intro _

theorem letter_refl {a : TLetter} (ha : BdL a) : F_laboratory_letter a a = some true := by
  unfold F_laboratory_letter
  have h1 : F_threshold_Same (eTTrust a.Nomination.Trust) (eTTrust a.Nomination.Trust) = some true := by rw [Go.Proofs.YtnhgcpiljggmmaaGreatDoor.et]; exact tsame_refl ha.nt
  have h2 : F_threshold_Same (eTTrust a.Envelope.Trust) (eTTrust a.Envelope.Trust) = some true := by rw [Go.Proofs.YtnhgcpiljggmmaaGreatDoor.et]; exact tsame_refl ha.et
  rw [h1, h2, equal_str _ _ (by have := ha.v; omega), equal_str _ _ (by have := ha.a; omega)]
  simp [eq2]
/-- steps of modest size -/
structure BdS (x : TStep) : Prop where
  node : I64 x.Node
  to : I64 x.To
  slot : I64 x.Slot
  count : I64 x.Count
  lslot : I64 x.Letter.Slot
  value : x.Value.size ≤ 1000000
  bvalue : x.Letter.Envelope.Ballot.Value.size ≤ 1000000
  trust : BdT x.Trust
  weight : wT x.Trust ≤ 100000
  letter : BdL x.Letter
  parts : x.Parts.length ≤ 30000
  part : ∀ n ∈ x.Parts, I64 n
def L0 : TLetter := ⟨0, 0, ⟨0, 0, T0, [], []⟩, ⟨0, 0, 0, T0, 0, ⟨0, ByteArray.mk #[]⟩, ⟨0, ByteArray.mk #[]⟩, ⟨0, ByteArray.mk #[]⟩, 0, 0⟩⟩
theorem i64_0 : I64 0 := ⟨by omega, by omega⟩
theorem bd_L0 : BdL L0 := ⟨BdT.nil i64_0, BdT.nil i64_0, by simp [L0], by simp [L0]⟩
theorem same_total' {a b : TStep} (ha : BdS a) (hb : BdS b) : ∃ r, F_laboratory_same a b = some r := by
  unfold F_laboratory_same
  have t1 := tsame_total ha.trust hb.trust
  have t2 := letter_total ha.letter hb.letter
  simp only [Go.Proofs.YtnhgcpiljggmmaaGreatDoor.et, bind_id, equal_int _ _ (show a.Parts.length ≤ 1000000000 by have := ha.parts; omega)]
  repeat' first
    | exact t1
    | exact t2
    | exact ⟨_, rfl⟩
    | (apply bindO_total)
    | (apply andO_total)
    | intro _
theorem same_refl' {a : TStep} (ha : BdS a) : F_laboratory_same a a = some true := by
  unfold F_laboratory_same
  have h1 : F_threshold_Same (eTTrust a.Trust) (eTTrust a.Trust) = some true := by rw [Go.Proofs.YtnhgcpiljggmmaaGreatDoor.et]; exact tsame_refl ha.trust
  rw [h1, equal_int _ _ (by have := ha.parts; omega)]
  simp only [Go.Proofs.YtnhgcpiljggmmaaGreatDoor.et]
  have h2 := letter_refl ha.letter
  simp [h2]
end Go.Proofs.YtnhgcpiljggmmaaGreatDoor

set_option linter.unusedVariables false
set_option linter.unusedSimpArgs false
namespace Go.Proofs.YtnhgcpiljggmmaaGreatDoor
open Go.TQ Go.Proofs

def sPropose : Str := [112, 114, 111, 112, 111, 115, 101]
def sPrefer : Str := [112, 114, 101, 102, 101, 114]
def sTick : Str := [116, 105, 99, 107]
def sStop : Str := [115, 116, 111, 112]
def sDelay : Str := [100, 101, 108, 97, 121]
def sPart : Str := [112, 97, 114, 116]
def sDeclare : Str := [100, 101, 99, 108, 97, 114, 101]
def sLie : Str := [108, 105, 101]
def E0 : ByteArray := ByteArray.mk #[]
def Z0 : TStep := ⟨0, 0, 0, 0, 0, E0, T0, L0, []⟩
def lieP (a b c : Int) (v : ByteArray) : TStep := ⟨5, a, b, 0, 0, E0, T0, ⟨2, c, ⟨0, 0, T0, [], []⟩, ⟨a, c, 1, ⟨1, [a], []⟩, 3, ⟨1, v⟩, ⟨0, E0⟩, ⟨0, E0⟩, 1, 1⟩⟩, []⟩
/-- the words of a step's line -/
noncomputable def wordsP (x : TStep) : List Str :=
  if x.Kind = 1 then [sPropose, Lib.itoa x.Node, Lib.itoa x.Slot, x.Value.data.toList] else
  if x.Kind = 8 then [sPrefer, Lib.itoa x.Node, Lib.itoa x.Slot, x.Value.data.toList] else
  if x.Kind = 2 then [sTick, Lib.itoa x.Count] else
  if x.Kind = 4 then [sStop, Lib.itoa x.Node] else
  if x.Kind = 7 then [sDelay, Lib.itoa x.Node, Lib.itoa x.To, Lib.itoa x.Count] else
  if x.Kind = 6 then sPart :: x.Parts.map Lib.itoa else
  if x.Kind = 3 then [sDeclare, Lib.itoa x.Node, textT x.Trust] else
  if x.Kind = 5 then [sLie, Lib.itoa x.Node, Lib.itoa x.To, Lib.itoa x.Letter.Slot, x.Letter.Envelope.Ballot.Value.data.toList] else []
/-- the step with this line -/
def plainP (x : TStep) : TStep :=
  if x.Kind = 1 ∨ x.Kind = 8 then { Z0 with Kind := x.Kind, Node := x.Node, Slot := x.Slot, Value := x.Value } else
  if x.Kind = 2 then { Z0 with Kind := x.Kind, Count := x.Count } else
  if x.Kind = 4 then { Z0 with Kind := x.Kind, Node := x.Node } else
  if x.Kind = 7 then { Z0 with Kind := x.Kind, Node := x.Node, To := x.To, Count := x.Count } else
  if x.Kind = 6 then { Z0 with Kind := x.Kind, Parts := x.Parts } else
  if x.Kind = 3 then { Z0 with Kind := x.Kind, Node := x.Node, Trust := x.Trust } else
  if x.Kind = 5 then lieP x.Node x.To x.Letter.Slot x.Letter.Envelope.Ballot.Value else Z0
/-- are the numbers and words right? -/
noncomputable def okP (x : TStep) : Bool :=
  if x.Kind = 1 ∨ x.Kind = 8 then nodeB x.Node && (countB' x.Slot && wordOk x.Value) else
  if x.Kind = 2 then countB' x.Count else
  if x.Kind = 4 then nodeB x.Node else
  if x.Kind = 7 then nodeB x.Node && (nodeB x.To && countB' x.Count) else
  if x.Kind = 6 then decide (0 < x.Parts.length) && !(x.Parts.any fun n => !setB n) else
  if x.Kind = 3 then nodeB x.Node && decide (tval x.Trust = 0) else
  if x.Kind = 5 then nodeB x.Node && (nodeB x.To && (countB' x.Letter.Slot && wordOk x.Letter.Envelope.Ballot.Value)) else false

theorem itoa_le {n : Int} (h : I64 n) : (Lib.itoa n).length ≤ 21 := Lib.itoa_length_le n h.1 h.2
theorem words_of (l : List TDyn) (ws : List Str) (hl : l.map dynT = ws) (hd : ∀ d ∈ l, DynOk d) (hn : l.length ≤ 100000) (hw : ∀ w ∈ ws, w.length ≤ 4000000) : F_laboratory_words l = some (bs (Lib.join ws [32])) := by
  subst hl
  refine words_eq l hd hn ?_
  have h1 := join_le [32] (l.map dynT)
  have h2 : ∀ ws : List Str, (∀ w ∈ ws, w.length ≤ 4000000) → Lib.lens ws ≤ 4000000 * ws.length := by
    intro ws
    induction ws with
    | nil => intro _; exact Nat.le_refl _
    | cons w ws ih =>
      intro h
      have := ih fun y hy => h y (by simp [hy])
      have := h w (by simp)
      simp only [Lib.lens, List.map_cons, List.sum_cons, List.length_cons] at *
      omega
  have h3 := h2 _ hw
  rw [List.length_map] at h1 h3
  simp only [List.length_cons, List.length_nil] at h1
  omega

theorem dyn_s (s : Str) : DynOk (TDyn.mk true (0 : Int) (bs s)) := fun h => by cases h
theorem dyn_sv (s : ByteArray) : DynOk (TDyn.mk true (0 : Int) s) := fun h => by cases h
theorem dyn_n {n : Int} (h : I64 n) : DynOk (TDyn.mk false n (ByteArray.mk #[])) := fun _ => h
set_option maxHeartbeats 1000000 in
theorem line_1 {x : TStep} (h : BdS x) (hk : x.Kind = 1) : F_laboratory_line x = some (bs (Lib.join (wordsP x) [32]), plainP x, okP x, ()) := by
  have w := words_of [(TDyn.mk true (0 : Int) (bs sPropose)), (TDyn.mk false x.Node (ByteArray.mk #[])), (TDyn.mk false x.Slot (ByteArray.mk #[])), (TDyn.mk true (0 : Int) x.Value)] [sPropose, Lib.itoa x.Node, Lib.itoa x.Slot, x.Value.data.toList] rfl
    (by intro d hd; simp only [List.mem_cons, List.not_mem_nil, or_false] at hd; rcases hd with rfl | rfl | rfl | rfl <;> first | exact dyn_s _ | exact dyn_n h.node | exact dyn_n h.slot | exact dyn_n h.count | exact dyn_n h.to | exact dyn_n h.lslot | exact dyn_sv _) (by simp)
    (by intro u hu; simp only [List.mem_cons, List.not_mem_nil, or_false] at hu; have := itoa_le h.node; have := itoa_le h.slot; have := itoa_le h.count; have := itoa_le h.to; have := itoa_le h.lslot; have := h.value; have := h.bvalue; have := textT_le h.trust h.weight; rcases hu with rfl | rfl | rfl | rfl <;> first | (simp [sPropose]; done) | (rw [← size_data]; omega) | omega)
  have e1 : wordsP x = [sPropose, Lib.itoa x.Node, Lib.itoa x.Slot, x.Value.data.toList] := by simp [wordsP, hk]
  have e2 : plainP x = { Z0 with Kind := 1, Node := x.Node, Slot := x.Slot, Value := x.Value } := by simp [plainP, hk]
  have e3 : okP x = (nodeB x.Node && (countB' x.Slot && wordOk x.Value)) := by simp [okP, hk]
  rw [e1, e2, e3]
  unfold F_laboratory_line
  rw [show (ByteArray.mk #[112, 114, 111, 112, 111, 115, 101]) = bs sPropose from rfl]
  simp only [hk, letJ_eq, F_laboratory_line_1, node_eq, count_eq, Option.bind_some, decide_true, cond_true, decide_eq_false (show ¬ (1 : Int) = 8 by omega), cond_false, Go.Proofs.YtnhgcpiljggmmaaGreatDoor.et, w]
  rw [show F_laboratory_Word x.Value = some (wordOk x.Value) from rfl]
  cases nodeB x.Node <;> cases countB' x.Slot <;> rfl
set_option maxHeartbeats 1000000 in
theorem line_8 {x : TStep} (h : BdS x) (hk : x.Kind = 8) : F_laboratory_line x = some (bs (Lib.join (wordsP x) [32]), plainP x, okP x, ()) := by
  have w := words_of [(TDyn.mk true (0 : Int) (bs sPrefer)), (TDyn.mk false x.Node (ByteArray.mk #[])), (TDyn.mk false x.Slot (ByteArray.mk #[])), (TDyn.mk true (0 : Int) x.Value)] [sPrefer, Lib.itoa x.Node, Lib.itoa x.Slot, x.Value.data.toList] rfl
    (by intro d hd; simp only [List.mem_cons, List.not_mem_nil, or_false] at hd; rcases hd with rfl | rfl | rfl | rfl <;> first | exact dyn_s _ | exact dyn_n h.node | exact dyn_n h.slot | exact dyn_n h.count | exact dyn_n h.to | exact dyn_n h.lslot | exact dyn_sv _) (by simp)
    (by intro u hu; simp only [List.mem_cons, List.not_mem_nil, or_false] at hu; have := itoa_le h.node; have := itoa_le h.slot; have := itoa_le h.count; have := itoa_le h.to; have := itoa_le h.lslot; have := h.value; have := h.bvalue; have := textT_le h.trust h.weight; rcases hu with rfl | rfl | rfl | rfl <;> first | (simp [sPrefer]; done) | (rw [← size_data]; omega) | omega)
  have e1 : wordsP x = [sPrefer, Lib.itoa x.Node, Lib.itoa x.Slot, x.Value.data.toList] := by simp [wordsP, hk]
  have e2 : plainP x = { Z0 with Kind := 8, Node := x.Node, Slot := x.Slot, Value := x.Value } := by simp [plainP, hk]
  have e3 : okP x = (nodeB x.Node && (countB' x.Slot && wordOk x.Value)) := by simp [okP, hk]
  rw [e1, e2, e3]
  unfold F_laboratory_line
  rw [show (ByteArray.mk #[112, 114, 101, 102, 101, 114]) = bs sPrefer from rfl]
  simp only [hk, letJ_eq, F_laboratory_line_1, node_eq, count_eq, Option.bind_some, decide_true, cond_true, decide_eq_false (show ¬ (8 : Int) = 1 by omega), cond_false, Go.Proofs.YtnhgcpiljggmmaaGreatDoor.et, w]
  rw [show F_laboratory_Word x.Value = some (wordOk x.Value) from rfl]
  cases nodeB x.Node <;> cases countB' x.Slot <;> rfl
set_option maxHeartbeats 1000000 in
theorem line_2 {x : TStep} (h : BdS x) (hk : x.Kind = 2) : F_laboratory_line x = some (bs (Lib.join (wordsP x) [32]), plainP x, okP x, ()) := by
  have w := words_of [(TDyn.mk true (0 : Int) (bs sTick)), (TDyn.mk false x.Count (ByteArray.mk #[]))] [sTick, Lib.itoa x.Count] rfl
    (by intro d hd; simp only [List.mem_cons, List.not_mem_nil, or_false] at hd; rcases hd with rfl | rfl <;> first | exact dyn_s _ | exact dyn_n h.node | exact dyn_n h.slot | exact dyn_n h.count | exact dyn_n h.to | exact dyn_n h.lslot | exact dyn_sv _) (by simp)
    (by intro u hu; simp only [List.mem_cons, List.not_mem_nil, or_false] at hu; have := itoa_le h.node; have := itoa_le h.slot; have := itoa_le h.count; have := itoa_le h.to; have := itoa_le h.lslot; have := h.value; have := h.bvalue; have := textT_le h.trust h.weight; rcases hu with rfl | rfl <;> first | (simp [sTick]; done) | (rw [← size_data]; omega) | omega)
  have e1 : wordsP x = [sTick, Lib.itoa x.Count] := by simp [wordsP, hk]
  have e2 : plainP x = { Z0 with Kind := 2, Count := x.Count } := by simp [plainP, hk]
  have e3 : okP x = (countB' x.Count) := by simp [okP, hk]
  rw [e1, e2, e3]
  unfold F_laboratory_line
  rw [show (ByteArray.mk #[116, 105, 99, 107]) = bs sTick from rfl]
  simp only [hk, letJ_eq, F_laboratory_line_1, node_eq, count_eq, Option.bind_some, decide_true, cond_true, decide_eq_false (show ¬ (2 : Int) = 1 by omega), decide_eq_false (show ¬ (2 : Int) = 8 by omega), cond_false, Go.Proofs.YtnhgcpiljggmmaaGreatDoor.et, w]
  rfl
set_option maxHeartbeats 1000000 in
theorem line_4 {x : TStep} (h : BdS x) (hk : x.Kind = 4) : F_laboratory_line x = some (bs (Lib.join (wordsP x) [32]), plainP x, okP x, ()) := by
  have w := words_of [(TDyn.mk true (0 : Int) (bs sStop)), (TDyn.mk false x.Node (ByteArray.mk #[]))] [sStop, Lib.itoa x.Node] rfl
    (by intro d hd; simp only [List.mem_cons, List.not_mem_nil, or_false] at hd; rcases hd with rfl | rfl <;> first | exact dyn_s _ | exact dyn_n h.node | exact dyn_n h.slot | exact dyn_n h.count | exact dyn_n h.to | exact dyn_n h.lslot | exact dyn_sv _) (by simp)
    (by intro u hu; simp only [List.mem_cons, List.not_mem_nil, or_false] at hu; have := itoa_le h.node; have := itoa_le h.slot; have := itoa_le h.count; have := itoa_le h.to; have := itoa_le h.lslot; have := h.value; have := h.bvalue; have := textT_le h.trust h.weight; rcases hu with rfl | rfl <;> first | (simp [sStop]; done) | (rw [← size_data]; omega) | omega)
  have e1 : wordsP x = [sStop, Lib.itoa x.Node] := by simp [wordsP, hk]
  have e2 : plainP x = { Z0 with Kind := 4, Node := x.Node } := by simp [plainP, hk]
  have e3 : okP x = (nodeB x.Node) := by simp [okP, hk]
  rw [e1, e2, e3]
  unfold F_laboratory_line
  rw [show (ByteArray.mk #[115, 116, 111, 112]) = bs sStop from rfl]
  simp only [hk, letJ_eq, F_laboratory_line_1, node_eq, count_eq, Option.bind_some, decide_true, cond_true, decide_eq_false (show ¬ (4 : Int) = 1 by omega), decide_eq_false (show ¬ (4 : Int) = 8 by omega), decide_eq_false (show ¬ (4 : Int) = 2 by omega), cond_false, Go.Proofs.YtnhgcpiljggmmaaGreatDoor.et, w]
  rfl
set_option maxHeartbeats 1000000 in
theorem line_7 {x : TStep} (h : BdS x) (hk : x.Kind = 7) : F_laboratory_line x = some (bs (Lib.join (wordsP x) [32]), plainP x, okP x, ()) := by
  have w := words_of [(TDyn.mk true (0 : Int) (bs sDelay)), (TDyn.mk false x.Node (ByteArray.mk #[])), (TDyn.mk false x.To (ByteArray.mk #[])), (TDyn.mk false x.Count (ByteArray.mk #[]))] [sDelay, Lib.itoa x.Node, Lib.itoa x.To, Lib.itoa x.Count] rfl
    (by intro d hd; simp only [List.mem_cons, List.not_mem_nil, or_false] at hd; rcases hd with rfl | rfl | rfl | rfl <;> first | exact dyn_s _ | exact dyn_n h.node | exact dyn_n h.slot | exact dyn_n h.count | exact dyn_n h.to | exact dyn_n h.lslot | exact dyn_sv _) (by simp)
    (by intro u hu; simp only [List.mem_cons, List.not_mem_nil, or_false] at hu; have := itoa_le h.node; have := itoa_le h.slot; have := itoa_le h.count; have := itoa_le h.to; have := itoa_le h.lslot; have := h.value; have := h.bvalue; have := textT_le h.trust h.weight; rcases hu with rfl | rfl | rfl | rfl <;> first | (simp [sDelay]; done) | (rw [← size_data]; omega) | omega)
  have e1 : wordsP x = [sDelay, Lib.itoa x.Node, Lib.itoa x.To, Lib.itoa x.Count] := by simp [wordsP, hk]
  have e2 : plainP x = { Z0 with Kind := 7, Node := x.Node, To := x.To, Count := x.Count } := by simp [plainP, hk]
  have e3 : okP x = (nodeB x.Node && (nodeB x.To && countB' x.Count)) := by simp [okP, hk]
  rw [e1, e2, e3]
  unfold F_laboratory_line
  rw [show (ByteArray.mk #[100, 101, 108, 97, 121]) = bs sDelay from rfl]
  simp only [hk, letJ_eq, F_laboratory_line_1, node_eq, count_eq, Option.bind_some, decide_true, cond_true, decide_eq_false (show ¬ (7 : Int) = 1 by omega), decide_eq_false (show ¬ (7 : Int) = 8 by omega), decide_eq_false (show ¬ (7 : Int) = 2 by omega), decide_eq_false (show ¬ (7 : Int) = 4 by omega), cond_false, Go.Proofs.YtnhgcpiljggmmaaGreatDoor.et, w]
  cases nodeB x.Node <;> cases nodeB x.To <;> rfl
set_option maxHeartbeats 1000000 in
theorem line_3 {x : TStep} (h : BdS x) (hk : x.Kind = 3) : F_laboratory_line x = some (bs (Lib.join (wordsP x) [32]), plainP x, okP x, ()) := by
  have w := words_of [(TDyn.mk true (0 : Int) (bs sDeclare)), (TDyn.mk false x.Node (ByteArray.mk #[])), (TDyn.mk true (0 : Int) (bs (textT x.Trust)))] [sDeclare, Lib.itoa x.Node, textT x.Trust] rfl
    (by intro d hd; simp only [List.mem_cons, List.not_mem_nil, or_false] at hd; rcases hd with rfl | rfl | rfl <;> first | exact dyn_s _ | exact dyn_n h.node | exact dyn_n h.slot | exact dyn_n h.count | exact dyn_n h.to | exact dyn_n h.lslot | exact dyn_sv _) (by simp)
    (by intro u hu; simp only [List.mem_cons, List.not_mem_nil, or_false] at hu; have := itoa_le h.node; have := itoa_le h.slot; have := itoa_le h.count; have := itoa_le h.to; have := itoa_le h.lslot; have := h.value; have := h.bvalue; have := textT_le h.trust h.weight; rcases hu with rfl | rfl | rfl <;> first | (simp [sDeclare]; done) | (rw [← size_data]; omega) | omega)
  have e1 : wordsP x = [sDeclare, Lib.itoa x.Node, textT x.Trust] := by simp [wordsP, hk]
  have e2 : plainP x = { Z0 with Kind := 3, Node := x.Node, Trust := x.Trust } := by simp [plainP, hk]
  have e3 : okP x = (nodeB x.Node && decide (tval x.Trust = 0)) := by simp [okP, hk]
  rw [e1, e2, e3]
  unfold F_laboratory_line
  rw [show (ByteArray.mk #[100, 101, 99, 108, 97, 114, 101]) = bs sDeclare from rfl]
  simp only [hk, letJ_eq, F_laboratory_line_1, node_eq, count_eq, Option.bind_some, decide_true, cond_true, decide_eq_false (show ¬ (3 : Int) = 1 by omega), decide_eq_false (show ¬ (3 : Int) = 8 by omega), decide_eq_false (show ¬ (3 : Int) = 2 by omega), decide_eq_false (show ¬ (3 : Int) = 4 by omega), decide_eq_false (show ¬ (3 : Int) = 7 by omega), decide_eq_false (show ¬ (3 : Int) = 6 by omega), cond_false, Go.Proofs.YtnhgcpiljggmmaaGreatDoor.et, w, text_eq h.trust h.weight, tval_eq h.trust.sm]
  cases nodeB x.Node <;> rfl
set_option maxHeartbeats 1000000 in
theorem line_5 {x : TStep} (h : BdS x) (hk : x.Kind = 5) : F_laboratory_line x = some (bs (Lib.join (wordsP x) [32]), plainP x, okP x, ()) := by
  have w := words_of [(TDyn.mk true (0 : Int) (bs sLie)), (TDyn.mk false x.Node (ByteArray.mk #[])), (TDyn.mk false x.To (ByteArray.mk #[])), (TDyn.mk false x.Letter.Slot (ByteArray.mk #[])), (TDyn.mk true (0 : Int) x.Letter.Envelope.Ballot.Value)] [sLie, Lib.itoa x.Node, Lib.itoa x.To, Lib.itoa x.Letter.Slot, x.Letter.Envelope.Ballot.Value.data.toList] rfl
    (by intro d hd; simp only [List.mem_cons, List.not_mem_nil, or_false] at hd; rcases hd with rfl | rfl | rfl | rfl | rfl <;> first | exact dyn_s _ | exact dyn_n h.node | exact dyn_n h.slot | exact dyn_n h.count | exact dyn_n h.to | exact dyn_n h.lslot | exact dyn_sv _) (by simp)
    (by intro u hu; simp only [List.mem_cons, List.not_mem_nil, or_false] at hu; have := itoa_le h.node; have := itoa_le h.slot; have := itoa_le h.count; have := itoa_le h.to; have := itoa_le h.lslot; have := h.value; have := h.bvalue; have := textT_le h.trust h.weight; rcases hu with rfl | rfl | rfl | rfl | rfl <;> first | (simp [sLie]; done) | (rw [← size_data]; omega) | omega)
  have e1 : wordsP x = [sLie, Lib.itoa x.Node, Lib.itoa x.To, Lib.itoa x.Letter.Slot, x.Letter.Envelope.Ballot.Value.data.toList] := by simp [wordsP, hk]
  have e2 : plainP x = lieP x.Node x.To x.Letter.Slot x.Letter.Envelope.Ballot.Value := by simp [plainP, hk]
  have e3 : okP x = (nodeB x.Node && (nodeB x.To && (countB' x.Letter.Slot && wordOk x.Letter.Envelope.Ballot.Value))) := by simp [okP, hk]
  rw [e1, e2, e3]
  unfold F_laboratory_line
  rw [show (ByteArray.mk #[108, 105, 101]) = bs sLie from rfl]
  simp only [hk, letJ_eq, F_laboratory_line_1, node_eq, count_eq, Option.bind_some, decide_true, cond_true, decide_eq_false (show ¬ (5 : Int) = 1 by omega), decide_eq_false (show ¬ (5 : Int) = 8 by omega), decide_eq_false (show ¬ (5 : Int) = 2 by omega), decide_eq_false (show ¬ (5 : Int) = 4 by omega), decide_eq_false (show ¬ (5 : Int) = 7 by omega), decide_eq_false (show ¬ (5 : Int) = 6 by omega), decide_eq_false (show ¬ (5 : Int) = 3 by omega), cond_false, Go.Proofs.YtnhgcpiljggmmaaGreatDoor.et, w, F_laboratory_Lie, F_analyser_Lie]
  rw [show F_laboratory_Word x.Letter.Envelope.Ballot.Value = some (wordOk x.Letter.Envelope.Ballot.Value) from rfl]
  cases nodeB x.Node <;> cases nodeB x.To <;> cases countB' x.Letter.Slot <;> rfl

theorem coll_any_fold {α β ρ : Type} (b : Nat) (hb : b ≤ 1000) (f : α → β) (fin : List β → Option ρ) : ∀ (l : List α) (acc : List β), acc.length + l.length ≤ 1000000 →
    foldE (fun x s => bif lenOk b (List.length s + List.length [f x]) then some (Sum.inl (s ++ [f x])) else none) fin l acc = fin (acc ++ l.map f)
  | [], acc, _ => by simp [foldE]
  | x :: l, acc, hl => by
    have h1 : (acc.length + 1) * b ≤ 1000001 * 1000 := Nat.mul_le_mul (by simp at hl; omega) hb
    rw [foldE, lenOk_of (by show (acc.length + 1) * b ≤ _; omega) (by simp at hl ⊢; omega), cond_true]
    have := coll_any_fold b hb f fin l (acc ++ [f x]) (by simp at hl ⊢; omega)
    simp only [] at this ⊢
    refine this.trans ?_
    simp
theorem coll_any {α β ρ : Type} (b : Nat) (hb : b ≤ 1000) (l : List α) (f : α → β) (fin : List β → Option ρ) (acc : List β) (hl : acc.length + l.length ≤ 1000000) :
    loopO (fun (v : Int × (List β) × Unit) => bif (decide (v.1 < ((List.length l : Nat) : Int))) then Option.bind (idx l v.1) fun x => bif lenOk b (List.length v.2.1 + List.length [f x]) then some (Sum.inl ((addI .i64 v.1 (1 : Int)), (v.2.1 ++ [f x]), ())) else none
      else Option.map Sum.inr (fin v.2.1)) ((0 : Int), acc, ()) = fin (acc ++ l.map f) := by
  refine (loopO_range l (by omega) (fun i (s : List β) => (i, s, ())) (fun x s => bif lenOk b (List.length s + List.length [f x]) then some (Sum.inl (s ++ [f x])) else none) fin ?_ ?_ acc).trans (coll_any_fold b hb f fin l acc hl)
  · intro i x s h1 h2 h3
    simp only []
    rw [h1, cond_true, h2, Option.bind_some]
    cases lenOk b (List.length s + List.length [f x])
    · rfl
    · simp only [cond_true]
      rw [h3]
  · intro s h1
    simp only []
    rw [h1, cond_false]
theorem line_6 {x : TStep} (h : BdS x) (hk : x.Kind = 6) : F_laboratory_line x = some (bs (Lib.join (wordsP x) [32]), plainP x, okP x, ()) := by
  have hp := h.parts
  have w := words_of ((TDyn.mk true (0 : Int) (bs sPart)) :: x.Parts.map fun n => (TDyn.mk false n (ByteArray.mk #[]))) (sPart :: x.Parts.map Lib.itoa) (by
      rw [List.map_cons, List.map_map]
      rfl)
    (by intro d hd
        rcases List.mem_cons.1 hd with rfl | hd
        · exact dyn_s _
        · obtain ⟨n, hn, rfl⟩ := List.mem_map.1 hd
          exact dyn_n (h.part n hn)) (by rw [List.length_cons, List.length_map]; omega)
    (by intro u hu
        rcases List.mem_cons.1 hu with rfl | hu
        · simp [sPart]
        · obtain ⟨n, hn, rfl⟩ := List.mem_map.1 hu
          have := itoa_le (h.part n hn)
          omega)
  have e1 : wordsP x = sPart :: x.Parts.map Lib.itoa := by simp [wordsP, hk]
  have e2 : plainP x = { Z0 with Kind := 6, Parts := x.Parts } := by simp [plainP, hk]
  have e3 : okP x = (decide (0 < x.Parts.length) && !(x.Parts.any fun n => !setB n)) := by simp [okP, hk]
  rw [e1, e2, e3]
  unfold F_laboratory_line
  rw [show (ByteArray.mk #[112, 97, 114, 116]) = bs sPart from rfl]
  simp only [hk, letJ_eq, decide_eq_false (show ¬ (6 : Int) = 1 by omega), decide_eq_false (show ¬ (6 : Int) = 8 by omega), decide_eq_false (show ¬ (6 : Int) = 2 by omega), decide_eq_false (show ¬ (6 : Int) = 4 by omega), decide_eq_false (show ¬ (6 : Int) = 7 by omega), decide_true, cond_true, cond_false, Go.Proofs.YtnhgcpiljggmmaaGreatDoor.et]
  refine (coll_any 16 (by omega) x.Parts (fun n => (TDyn.mk false n (ByteArray.mk #[]))) (fun words => Option.bind (F_laboratory_words words) fun r28 => bif (decide ((0 : Int) < ((List.length x.Parts : Nat) : Int))) then Option.bind (F_slices_ContainsFunc_int_int_c68 x.Parts) fun r29 => some (r28, { Z0 with Kind := 6, Parts := x.Parts }, (!r29), ()) else some (r28, { Z0 with Kind := 6, Parts := x.Parts }, false, ())) [(TDyn.mk true (0 : Int) (bs sPart))] (by simp; omega)).trans ?_
  simp only [List.singleton_append]
  rw [w, Option.bind_some, contains_set _ (by omega), Option.bind_some]
  by_cases h0 : 0 < x.Parts.length
  · rw [decide_eq_true (show (0 : Int) < (x.Parts.length : Int) by omega), decide_eq_true h0]
    rfl
  · rw [decide_eq_false (show ¬ (0 : Int) < (x.Parts.length : Int) by omega), decide_eq_false h0]
    rfl
theorem line_0 {x : TStep} (h : x.Kind ≠ 1 ∧ x.Kind ≠ 8 ∧ x.Kind ≠ 2 ∧ x.Kind ≠ 4 ∧ x.Kind ≠ 7 ∧ x.Kind ≠ 6 ∧ x.Kind ≠ 3 ∧ x.Kind ≠ 5) : F_laboratory_line x = some (bs (Lib.join (wordsP x) [32]), plainP x, okP x, ()) := by
  obtain ⟨h1, h8, h2, h4, h7, h6, h3, h5⟩ := h
  have e1 : wordsP x = [] := by simp [wordsP, *]
  have e2 : plainP x = Z0 := by simp [plainP, *]
  have e3 : okP x = false := by simp [okP, *]
  rw [e1, e2, e3]
  unfold F_laboratory_line
  simp only [letJ_eq, decide_eq_false h1, decide_eq_false h8, decide_eq_false h2, decide_eq_false h4, decide_eq_false h7, decide_eq_false h6, decide_eq_false h3, decide_eq_false h5, cond_false]
  rfl
theorem line_eq {x : TStep} (h : BdS x) : F_laboratory_line x = some (bs (Lib.join (wordsP x) [32]), plainP x, okP x, ()) := by
  by_cases h1 : x.Kind = 1
  · exact line_1 h h1
  by_cases h8 : x.Kind = 8
  · exact line_8 h h8
  by_cases h2 : x.Kind = 2
  · exact line_2 h h2
  by_cases h4 : x.Kind = 4
  · exact line_4 h h4
  by_cases h7 : x.Kind = 7
  · exact line_7 h h7
  by_cases h6 : x.Kind = 6
  · exact line_6 h h6
  by_cases h3 : x.Kind = 3
  · exact line_3 h h3
  by_cases h5 : x.Kind = 5
  · exact line_5 h h5
  exact line_0 ⟨h1, h8, h2, h4, h7, h6, h3, h5⟩
theorem bd_Z0 : BdS Z0 := ⟨i64_0, i64_0, i64_0, i64_0, i64_0, Nat.zero_le _, Nat.zero_le _, BdT.nil i64_0, by simp [Z0, T0, wT, wL], bd_L0, by simp [Z0], by simp [Z0]⟩
theorem bd_leaf {a : Int} (h : I64 a) : BdT ⟨1, [a], []⟩ := BdT.of ⟨by omega, by omega⟩ (by simp) (by simpa using h) (by simp) (by simp)
theorem plain_bd {x : TStep} (h : BdS x) : BdS (plainP x) := by
  unfold plainP
  split
  · exact { bd_Z0 with node := h.node, slot := h.slot, value := h.value }
  split
  · exact { bd_Z0 with count := h.count }
  split
  · exact { bd_Z0 with node := h.node }
  split
  · exact { bd_Z0 with node := h.node, to := h.to, count := h.count }
  split
  · exact { bd_Z0 with parts := h.parts, part := h.part }
  split
  · exact { bd_Z0 with node := h.node, trust := h.trust, weight := h.weight }
  split
  · exact ⟨h.node, h.to, i64_0, i64_0, h.lslot, Nat.zero_le _, h.bvalue, BdT.nil i64_0, by simp [lieP, T0, wT, wL], ⟨BdT.nil i64_0, bd_leaf h.node, by simp [lieP], by simp [lieP]⟩, by simp [lieP], by simp [lieP]⟩
  · exact bd_Z0
/-- the line of a step -/
noncomputable def lineT (x : TStep) : Str := Lib.join (wordsP x) [32]
theorem step_eta (x : TStep) : ({ x with Trust := (eTTrust x.Trust), Letter := { x.Letter with Nomination := { x.Letter.Nomination with Trust := (eTTrust x.Letter.Nomination.Trust) }, Envelope := { x.Letter.Envelope with Trust := (eTTrust x.Letter.Envelope.Trust) } } } : TStep) = x := by simp only [Go.Proofs.YtnhgcpiljggmmaaGreatDoor.et]
theorem step_total {x : TStep} (h : BdS x) : ∃ (y : Str) (b : Bool), F_laboratory_Step x = some (bs y, b, ()) ∧ (b = true → y = lineT x ∧ okP x = true ∧ F_laboratory_same x (plainP x) = some true) := by
  unfold F_laboratory_Step
  simp only [Go.Proofs.YtnhgcpiljggmmaaGreatDoor.et]
  rw [line_eq h, Option.bind_some]
  simp only []
  cases hok : okP x with
  | false => exact ⟨[], false, rfl, fun e => by cases e⟩
  | true =>
    obtain ⟨r, hr⟩ := same_total' h (plain_bd h)
    rw [Bool.not_true, cond_false, hr]
    cases r with
    | false => exact ⟨[], false, rfl, fun e => by cases e⟩
    | true => exact ⟨_, true, rfl, fun _ => ⟨rfl, rfl, rfl⟩⟩
theorem step_ok {x : TStep} (h : BdS x) (hp : plainP x = x) (hok : okP x = true) : F_laboratory_Step x = some (bs (lineT x), true, ()) := by
  unfold F_laboratory_Step
  simp only [Go.Proofs.YtnhgcpiljggmmaaGreatDoor.et]
  rw [line_eq h, Option.bind_some]
  simp only []
  rw [hok, hp, Bool.not_true, cond_false, same_refl' h]
  rfl
end Go.Proofs.YtnhgcpiljggmmaaGreatDoor

set_option linter.unusedVariables false
set_option linter.unusedSimpArgs false
namespace Go.Proofs.YtnhgcpiljggmmaaGreatDoor
open Go.TQ Go.Proofs

abbrev Rd := List Str × Bool
def rdr (s : Rd) : TLaboratoryReader := ⟨s.1.map bs, s.2⟩
def wdP : Rd → Str × Rd
  | ([], _) => ([], ([], true))
  | (w :: r, b) => (w, (r, b))
noncomputable def okW (w : Str) : Bool := match atoiF (bs w) with
  | some (_, b, _) => b
  | none => false
noncomputable def nmP (s : Rd) : Int × Rd := (numV (wdP s).1, ((wdP s).2.1, (wdP s).2.2 || !okW (wdP s).1))
/-- words of modest size -/
def Wds (s : Rd) : Prop := (∀ w ∈ s.1, w.length ≤ 100000) ∧ s.1.length ≤ 100001
theorem wdP_ok {s : Rd} (h : Wds s) : (wdP s).1.length ≤ 100000 ∧ Wds (wdP s).2 := by
  obtain ⟨ws, b⟩ := s
  cases ws with
  | nil => exact ⟨Nat.zero_le _, ⟨fun w hw => (by cases hw), Nat.zero_le _⟩⟩
  | cons w r =>
    refine ⟨h.1 w (by simp), ⟨fun u hu => h.1 u (by simp [wdP] at hu; simp [hu]), ?_⟩⟩
    have := h.2
    simp [wdP] at this ⊢
    omega
theorem nmP_ok {s : Rd} (h : Wds s) : I64 (nmP s).1 ∧ Wds (nmP s).2 := by
  have h1 := wdP_ok h
  refine ⟨?_, h1.2⟩
  obtain ⟨n, b, e, h2, h3⟩ := atoiF_total (bs (wdP s).1) (by rw [bs_size]; omega)
  unfold nmP numV
  rw [e]
  exact ⟨h2, h3⟩
theorem word_eq (s : Rd) : F_laboratory_reader_word (rdr s) = some (bs (wdP s).1, rdr (wdP s).2) := by
  obtain ⟨ws, b⟩ := s
  unfold F_laboratory_reader_word
  cases ws with
  | nil => rfl
  | cons w r =>
    have e1 : decide (((List.length (rdr (w :: r, b)).l : Nat) : Int) = (0 : Int)) = false := by
      refine decide_eq_false ?_
      simp only [rdr, List.map_cons, List.length_cons]
      omega
    have e2 : slcOk (1 : Int) ((rdr (w :: r, b)).l.length : Int) (List.length (rdr (w :: r, b)).l) = true := by
      unfold slcOk
      simp only [rdr, List.map_cons, List.length_cons, List.length_map, Bool.and_eq_true, decide_eq_true_eq]
      omega
    have e3 : idx (rdr (w :: r, b)).l (0 : Int) = some (bs w) := rfl
    rw [e1, cond_false, e3, Option.bind_some, e2, cond_true]
    congr 2
    simp only [rdr, wdP, List.map_cons, List.length_cons]
    congr 1
    rw [List.take_of_length_le (by simp)]
    rfl
theorem num_eq {s : Rd} (h : Wds s) : F_laboratory_reader_number (rdr s) = some ((nmP s).1, rdr (nmP s).2) := by
  have h1 := wdP_ok h
  obtain ⟨n, b, e, _, _⟩ := atoiF_total (bs (wdP s).1) (by rw [bs_size]; omega)
  unfold F_laboratory_reader_number
  rw [word_eq, Option.bind_some]
  show Option.bind (atoiF (bs (wdP s).1)) _ = _
  have e1 : numV (wdP s).1 = n := by unfold numV; rw [e]
  have e2 : okW (wdP s).1 = b := by unfold okW; rw [e]
  rw [e, Option.bind_some]
  unfold nmP
  rw [e1, e2]
  show Option.bind (bif (wdP s).2.2 then some true else some (xor true b)) _ = _
  cases (wdP s).2.2 <;> cases b <;> rfl
noncomputable def valP (s : Rd) (t : TStep) : Rd × TStep := ((wdP (nmP (nmP s).2).2).2, { t with Node := (nmP s).1, Slot := (nmP (nmP s).2).1, Value := bs (wdP (nmP (nmP s).2).2).1 })
theorem valued_eq {s : Rd} (h : Wds s) (t : TStep) : F_laboratory_reader_valued (rdr s) t = some (rdr (valP s t).1, (valP s t).2) := by
  show valuedF (fun s => F_laboratory_reader_number s) (fun s => F_laboratory_reader_word s) (rdr s) t = _
  unfold valuedF
  show Option.bind (F_laboratory_reader_number (rdr s)) _ = _
  rw [num_eq h, Option.bind_some]
  simp only []
  rw [num_eq (nmP_ok h).2, Option.bind_some]
  simp only []
  rw [word_eq, Option.bind_some]
  rfl
/-- the numbers of a part -/
noncomputable def partsP : List Str → Bool → List Int × Bool
  | [], b => ([], b)
  | w :: r, b => (numV w :: (partsP r (b || !okW w)).1, (partsP r (b || !okW w)).2)
noncomputable def finP (s : Rd) (x : TStep) : TStep × Bool := (x, !s.2 && decide (s.1 = []))
noncomputable def readP (ws : List Str) : TStep × Bool :=
  let w := (wdP (ws, false)).1
  let s := (wdP (ws, false)).2
  if w = sPropose then finP (valP s { Z0 with Kind := 1 }).1 (valP s { Z0 with Kind := 1 }).2 else
  if w = sPrefer then finP (valP s { Z0 with Kind := 8 }).1 (valP s { Z0 with Kind := 8 }).2 else
  if w = sTick then finP (nmP s).2 { Z0 with Kind := 2, Count := (nmP s).1 } else
  if w = sStop then finP (nmP s).2 { Z0 with Kind := 4, Node := (nmP s).1 } else
  if w = sDelay then finP (nmP (nmP (nmP s).2).2).2 { Z0 with Kind := 7, Node := (nmP s).1, To := (nmP (nmP s).2).1, Count := (nmP (nmP (nmP s).2).2).1 } else
  if w = sPart then finP ([], (partsP s.1 s.2).2) { Z0 with Kind := 6, Parts := (partsP s.1 s.2).1 } else
  if w = sDeclare then finP ([], (nmP s).2.2 || !decide ((parseP (Lib.join (nmP s).2.1 [32])).2 = 0)) { Z0 with Kind := 3, Node := (nmP s).1, Trust := (parseP (Lib.join (nmP s).2.1 [32])).1 } else
  if w = sLie then finP (wdP (nmP (nmP (nmP s).2).2).2).2 (lieP (nmP s).1 (nmP (nmP s).2).1 (nmP (nmP (nmP s).2).2).1 (bs (wdP (nmP (nmP (nmP s).2).2).2).1)) else
  finP s Z0
theorem fin_eq (s : Rd) (x : TStep) : (bif (!(rdr s).bad) then some (x, (decide (((List.length (rdr s).l : Nat) : Int) = (0 : Int))), ()) else some (x, false, ())) = some ((finP s x).1, (finP s x).2, ()) := by
  obtain ⟨ws, b⟩ := s
  unfold finP
  have e : decide (((List.length (rdr (ws, b)).l : Nat) : Int) = (0 : Int)) = decide (ws = []) := decide_eq_decide.2 (by
    simp only [rdr, List.length_map]
    rw [← List.length_eq_zero_iff]
    omega)
  rw [e]
  cases b <;> rfl
theorem beq_word (w v : Str) : decide (bs w = bs v) = decide (w = v) := decide_eq_decide.2 bs_inj

theorem parts_loop {ρ : Type} (k : TLaboratoryReader → TStep → List Int → Option ρ) : ∀ (ws : List Str) (b : Bool) (acc : List Int), (∀ w ∈ ws, w.length ≤ 100000) → acc.length + ws.length ≤ 200000 →
    loopO (fun (v14 : TLaboratoryReader × TStep × (List Int) × Unit) =>
      bif (decide ((0 : Int) < ((List.length v14.1.l : Nat) : Int))) then
        Option.bind (F_laboratory_reader_number v14.1) fun p15 =>
        bif lenOk 8 (List.length v14.2.2.1 + List.length [p15.1]) then
          some (Sum.inl (p15.2, { v14.2.1 with Parts := ([] : List Int) }, (v14.2.2.1 ++ [p15.1]), ()))
        else none
      else Option.map Sum.inr (k v14.1 v14.2.1 v14.2.2.1)) (rdr (ws, b), { Z0 with Kind := 6 }, acc, ()) = k (rdr ([], (partsP ws b).2)) { Z0 with Kind := 6 } (acc ++ (partsP ws b).1)
  | [], b, acc, _, _ => by
    have hs : ∀ y, (k (rdr ([], b)) { Z0 with Kind := 6 } acc) = y → (k (rdr ([], (partsP [] b).2)) { Z0 with Kind := 6 } (acc ++ (partsP [] b).1)) = y := by
      intro y hy
      simp only [partsP, List.append_nil]
      exact hy
    cases hk : k (rdr ([], b)) { Z0 with Kind := 6 } acc with
    | none =>
      rw [hs _ hk]
      refine loopO_none ?_
      show Option.map Sum.inr (k (rdr ([], b)) { Z0 with Kind := 6 } acc) = _
      rw [hk]
      rfl
    | some v =>
      rw [hs _ hk]
      refine loopO_inr ?_
      show Option.map Sum.inr (k (rdr ([], b)) { Z0 with Kind := 6 } acc) = _
      rw [hk]
      rfl
  | w :: r, b, acc, hw, hl => by
    have hW : Wds ([w], b) := ⟨fun u hu => by rw [List.mem_singleton.1 hu]; exact hw w (by simp), by simp⟩
    have hn : F_laboratory_reader_number (rdr (w :: r, b)) = some (numV w, rdr (r, b || !okW w)) := by
      obtain ⟨n, c, e, _, _⟩ := atoiF_total (bs w) (by have := hw w (by simp); rw [bs_size]; omega)
      unfold F_laboratory_reader_number
      rw [word_eq, Option.bind_some]
      show Option.bind (atoiF (bs w)) _ = _
      have e1 : numV w = n := by unfold numV; rw [e]
      have e2 : okW w = c := by unfold okW; rw [e]
      rw [e, Option.bind_some, e1, e2]
      show Option.bind (bif b then some true else some (xor true c)) _ = _
      cases b <;> cases c <;> rfl
    refine (loopO_inl (s' := (rdr (r, b || !okW w), { Z0 with Kind := 6 }, acc ++ [numV w], ())) ?_).trans ?_
    · have e0 : decide ((0 : Int) < ((List.length (rdr (w :: r, b)).l : Nat) : Int)) = true := by
        refine decide_eq_true ?_
        simp only [rdr, List.map_cons, List.length_cons]
        omega
      simp only []
      rw [e0, cond_true, hn, Option.bind_some, lenOk_of (by simp at hl ⊢; omega) (by simp at hl ⊢; omega), cond_true]
      rfl
    · rw [parts_loop k r (b || !okW w) (acc ++ [numV w]) (fun u hu => hw u (by simp [hu])) (by simp at hl ⊢; omega)]
      simp only [partsP, List.append_assoc, List.singleton_append]
theorem parts_len : ∀ (ws : List Str) (b : Bool), (partsP ws b).1.length = ws.length
  | [], _ => rfl
  | w :: r, b => by simp [partsP, parts_len r]
theorem cutC_len (c : UInt8) : ∀ l : Str, (cutC c l).length ≤ l.length + 1 ∧ ∀ w ∈ cutC c l, w.length ≤ l.length
  | [] => ⟨Nat.le_refl _, fun w hw => by simp [cutC] at hw; simp [hw]⟩
  | b :: l => by
    obtain ⟨h1, h2⟩ := cutC_len c l
    unfold cutC
    split
    · refine ⟨by simp; omega, fun w hw => ?_⟩
      rcases List.mem_cons.1 hw with rfl | hw
      · simp
      · have := h2 w hw; simp; omega
    · obtain ⟨x, r, hx⟩ := cutC_ne c l
      rw [hx] at h1 h2 ⊢
      simp only [] at h1 h2 ⊢
      refine ⟨by simp at h1 ⊢; omega, fun w hw => ?_⟩
      rcases List.mem_cons.1 hw with rfl | hw
      · have := h2 x (by simp); simp; omega
      · have := h2 w (by simp [hw]); simp; omega
theorem wds_cut (l : Str) (h : l.length ≤ 100000) : Wds (cutC 32 l, false) := by
  obtain ⟨h1, h2⟩ := cutC_len 32 l
  exact ⟨fun w hw => by have := h2 w hw; omega, by show (cutC 32 l).length ≤ 100001; omega⟩
theorem join_le' (ws : List Str) (h : ∀ w ∈ ws, w.length ≤ 100000) : (Lib.join ws [32]).length ≤ 100001 * ws.length := by
  have h1 := join_le [32] ws
  have h2 : ∀ ws : List Str, (∀ w ∈ ws, w.length ≤ 100000) → Lib.lens ws ≤ 100000 * ws.length := by
    intro ws
    induction ws with
    | nil => intro _; exact Nat.le_refl _
    | cons w ws ih =>
      intro h
      have := ih fun y hy => h y (by simp [hy])
      have := h w (by simp)
      simp only [Lib.lens, List.map_cons, List.sum_cons, List.length_cons] at *
      omega
  have h3 := h2 ws h
  simp only [List.length_cons, List.length_nil] at h1
  omega
set_option maxHeartbeats 2000000 in
theorem read_eq (l : Str) (hl : l.length ≤ 100000) : F_laboratory_read (bs l) = some ((readP (cutC 32 l)).1, (readP (cutC 32 l)).2, ()) := by
  have hW := wds_cut l hl
  have hw := wdP_ok hW
  unfold F_laboratory_read
  rw [show F_strings_Split (bs l) (ByteArray.mk #[32]) = some ((cutC 32 l).map bs) from splitF_eq (bs l) (by rw [bs_size]; omega), Option.bind_some]
  simp only [letJ_eq, Go.Proofs.YtnhgcpiljggmmaaGreatDoor.et]
  rw [show (TLaboratoryReader.mk ((cutC 32 l).map bs) false) = rdr (cutC 32 l, false) from rfl, word_eq, Option.bind_some]
  unfold readP
  generalize (wdP (cutC 32 l, false)).1 = w at *
  generalize (wdP (cutC 32 l, false)).2 = s at *
  obtain ⟨hwl, hs⟩ := hw
  simp only []
  rw [show (ByteArray.mk #[112, 114, 111, 112, 111, 115, 101]) = bs sPropose from rfl, show (ByteArray.mk #[112, 114, 101, 102, 101, 114]) = bs sPrefer from rfl, show (ByteArray.mk #[116, 105, 99, 107]) = bs sTick from rfl,
    show (ByteArray.mk #[115, 116, 111, 112]) = bs sStop from rfl, show (ByteArray.mk #[100, 101, 108, 97, 121]) = bs sDelay from rfl, show (ByteArray.mk #[112, 97, 114, 116]) = bs sPart from rfl, show (ByteArray.mk #[100, 101, 99, 108, 97, 114, 101]) = bs sDeclare from rfl, show (ByteArray.mk #[108, 105, 101]) = bs sLie from rfl]
  simp only [beq_word]
  have hn1 := nmP_ok hs
  have hn2 := nmP_ok hn1.2
  have hn3 := nmP_ok hn2.2
  by_cases h1 : w = sPropose
  · rw [decide_eq_true h1, cond_true, if_pos h1, valued_eq hs, Option.bind_some]
    exact fin_eq (valP s { Z0 with Kind := 1 }).1 (valP s { Z0 with Kind := 1 }).2
  rw [decide_eq_false h1, cond_false, if_neg h1]
  by_cases h2 : w = sPrefer
  · rw [decide_eq_true h2, cond_true, if_pos h2, valued_eq hs, Option.bind_some]
    exact fin_eq (valP s { Z0 with Kind := 8 }).1 (valP s { Z0 with Kind := 8 }).2
  rw [decide_eq_false h2, cond_false, if_neg h2]
  by_cases h3 : w = sTick
  · rw [decide_eq_true h3, cond_true, if_pos h3, num_eq hs, Option.bind_some]
    exact fin_eq (nmP s).2 { Z0 with Kind := 2, Count := (nmP s).1 }
  rw [decide_eq_false h3, cond_false, if_neg h3]
  by_cases h4 : w = sStop
  · rw [decide_eq_true h4, cond_true, if_pos h4, num_eq hs, Option.bind_some]
    exact fin_eq (nmP s).2 { Z0 with Kind := 4, Node := (nmP s).1 }
  rw [decide_eq_false h4, cond_false, if_neg h4]
  by_cases h5 : w = sDelay
  · rw [decide_eq_true h5, cond_true, if_pos h5, num_eq hs, Option.bind_some]
    simp only []
    rw [num_eq hn1.2, Option.bind_some]
    simp only []
    rw [num_eq hn2.2, Option.bind_some]
    exact fin_eq (nmP (nmP (nmP s).2).2).2 { Z0 with Kind := 7, Node := (nmP s).1, To := (nmP (nmP s).2).1, Count := (nmP (nmP (nmP s).2).2).1 }
  rw [decide_eq_false h5, cond_false, if_neg h5]
  by_cases h6 : w = sPart
  · rw [decide_eq_true h6, cond_true, if_pos h6]
    obtain ⟨ws, b⟩ := s
    refine (parts_loop (fun rd st ps => (bif (!rd.bad) then some ({ st with Parts := ps }, (decide (((List.length rd.l : Nat) : Int) = (0 : Int))), ()) else some ({ st with Parts := ps }, false, ()))) ws b [] (fun u hu => hs.1 u hu) (by have := hs.2; simp at this ⊢; omega)).trans ?_
    rw [List.nil_append]
    exact fin_eq ([], (partsP ws b).2) { Z0 with Kind := 6, Parts := (partsP ws b).1 }
  rw [decide_eq_false h6, cond_false, if_neg h6]
  by_cases h7 : w = sDeclare
  · rw [decide_eq_true h7, cond_true, if_pos h7, num_eq hs, Option.bind_some]
    simp only []
    have hj := join_le' (nmP s).2.1 hn1.2.1
    have hl2 := hn1.2.2
    have hm : 100001 * (nmP s).2.1.length ≤ 100001 * 100001 := Nat.mul_le_mul_left _ hl2
    rw [show F_strings_Join (rdr (nmP s).2).l (ByteArray.mk #[32]) = some (bs (Lib.join (nmP s).2.1 [32])) from joinF_eq (nmP s).2.1 [32] (by omega) (by omega), Option.bind_some]
    obtain ⟨at_, hp⟩ := parse_eq (Lib.join (nmP s).2.1 [32])
    rw [hp, Option.bind_some]
    simp only []
    have hb : (bif (rdr (nmP s).2).bad then some true else some (!decide ((parseP (Lib.join (nmP s).2.1 [32])).2 = (0 : Int)))) = some ((nmP s).2.2 || !decide ((parseP (Lib.join (nmP s).2.1 [32])).2 = 0)) := by
      show (bif (nmP s).2.2 then some true else _) = _
      cases (nmP s).2.2 <;> rfl
    rw [hb, Option.bind_some]
    exact fin_eq ([], (nmP s).2.2 || !decide ((parseP (Lib.join (nmP s).2.1 [32])).2 = 0)) { Z0 with Kind := 3, Node := (nmP s).1, Trust := (parseP (Lib.join (nmP s).2.1 [32])).1 }
  rw [decide_eq_false h7, cond_false, if_neg h7]
  by_cases h8 : w = sLie
  · rw [decide_eq_true h8, cond_true, if_pos h8, num_eq hs, Option.bind_some]
    simp only []
    rw [num_eq hn1.2, Option.bind_some]
    simp only []
    rw [num_eq hn2.2, Option.bind_some]
    simp only []
    rw [word_eq, Option.bind_some]
    exact fin_eq (wdP (nmP (nmP (nmP s).2).2).2).2 (lieP (nmP s).1 (nmP (nmP s).2).1 (nmP (nmP (nmP s).2).2).1 (bs (wdP (nmP (nmP (nmP s).2).2).2).1))
  rw [decide_eq_false h8, cond_false, if_neg h8]
  exact fin_eq s Z0
end Go.Proofs.YtnhgcpiljggmmaaGreatDoor

set_option linter.unusedVariables false
set_option linter.unusedSimpArgs false
namespace Go.Proofs.YtnhgcpiljggmmaaGreatDoor
open Go.TQ Go.Proofs

/-! ### what is read is of modest size -/
theorem parse_bd (l : Str) : BdT (parseP l).1 ∧ wT (parseP l).1 ≤ 6001 := by
  have h0 : BdT T0 ∧ wT T0 ≤ 6001 := ⟨BdT.nil i64_0, by simp [T0, wT, wL]⟩
  unfold parseP
  split
  · exact h0
  · rename_i hl
    split
    · split
      · exact ⟨formP_bd l (by omega), by have := formP_w l; show wT (formP l).t ≤ 6001; omega⟩
      · exact h0
    · exact h0
theorem parts_bd : ∀ (ws : List Str) (b : Bool), (∀ w ∈ ws, w.length ≤ 100000) → ∀ n ∈ (partsP ws b).1, I64 n
  | [], b, _, n, h => by cases h
  | w :: r, b, hw, n, h => by
    rcases List.mem_cons.1 h with rfl | h
    · obtain ⟨m, c, e, h2, h3⟩ := atoiF_total (bs w) (by have := hw w (by simp); rw [bs_size]; omega)
      have e1 : numV w = m := by unfold numV; rw [e]
      rw [e1]
      exact ⟨h2, h3⟩
    · exact parts_bd r _ (fun u hu => hw u (by simp [hu])) n h
theorem lie_bd {a b c : Int} {v : ByteArray} (ha : I64 a) (hb : I64 b) (hc : I64 c) (hv : v.size ≤ 1000000) : BdS (lieP a b c v) :=
  ⟨ha, hb, i64_0, i64_0, hc, Nat.zero_le _, hv, BdT.nil i64_0, by simp [lieP, T0, wT, wL], ⟨BdT.nil i64_0, bd_leaf ha, by simp [lieP], by simp [lieP]⟩, by simp [lieP], by simp [lieP]⟩
theorem read_bd (ws : List Str) (hW : Wds (ws, false)) (hn : ws.length ≤ 30000) : BdS (readP ws).1 := by
  have hw := wdP_ok hW
  have hlen : (wdP (ws, false)).2.1.length ≤ 30000 := by
    cases ws with
    | nil => simp [wdP]
    | cons w r => simp [wdP] at hn ⊢; omega
  unfold readP
  generalize (wdP (ws, false)).1 = w at *
  generalize (wdP (ws, false)).2 = s at *
  obtain ⟨hwl, hs⟩ := hw
  have hn1 := nmP_ok hs
  have hn2 := nmP_ok hn1.2
  have hn3 := nmP_ok hn2.2
  have hv := (wdP_ok hn2.2).1
  have hv3 := (wdP_ok hn3.2).1
  simp only []
  split
  · exact { bd_Z0 with node := hn1.1, slot := hn2.1, value := by show (bs _).size ≤ _; rw [bs_size]; omega }
  split
  · exact { bd_Z0 with node := hn1.1, slot := hn2.1, value := by show (bs _).size ≤ _; rw [bs_size]; omega }
  split
  · exact { bd_Z0 with count := hn1.1 }
  split
  · exact { bd_Z0 with node := hn1.1 }
  split
  · exact { bd_Z0 with node := hn1.1, to := hn2.1, count := hn3.1 }
  split
  · exact { bd_Z0 with parts := by show (partsP s.1 s.2).1.length ≤ 30000; rw [parts_len]; exact hlen, part := parts_bd s.1 s.2 hs.1 }
  split
  · exact { bd_Z0 with node := hn1.1, trust := (parse_bd _).1, weight := Nat.le_trans (parse_bd _).2 (by omega) }
  split
  · exact lie_bd hn1.1 hn2.1 hn3.1 (by rw [bs_size]; omega)
  · exact bd_Z0

/-! ### a step's line is read back -/
theorem nm_itoa {n : Int} (h0 : 0 ≤ n) (h1 : n < 1024) (r : List Str) (b : Bool) : nmP (Lib.itoa n :: r, b) = (n, (r, b)) := by
  rw [itoa_int h0 h1]
  have hk := numTok_num (n := n.toNat) (by omega)
  have ho : okW (num4 n.toNat) = true := by unfold okW; rw [atoiF_num (by omega)]
  show (numV (num4 n.toNat), (r, b || !okW (num4 n.toNat))) = _
  rw [hk.2, ho, nat_of h0]
  simp
theorem itoa_nosp {n : Int} (h0 : 0 ≤ n) (h1 : n < 1024) : (32 : UInt8) ∉ Lib.itoa n ∧ (10 : UInt8) ∉ Lib.itoa n := by
  rw [itoa_int h0 h1]
  have hd := (num_ok (n := n.toNat) (by omega)).dig
  constructor
  · intro h; have := hd _ h; simp [isDig] at this
  · intro h; have := hd _ h; simp [isDig] at this
theorem word_nosp {v : ByteArray} (h : wordOk v = true) : (32 : UInt8) ∉ v.data.toList ∧ (10 : UInt8) ∉ v.data.toList := by
  simp only [wordOk, Bool.and_eq_true, List.all_eq_true] at h
  constructor
  · intro hm; have := h.1.1 _ hm; simp [inW] at this
  · intro hm; have := h.1.1 _ hm; simp [inW] at this
theorem nodeB_of {n : Int} (h : nodeB n = true) : 0 ≤ n ∧ n < 1024 := by
  simp only [nodeB, Bool.and_eq_true, decide_eq_true_eq] at h
  omega
theorem countB_of {n : Int} (h : countB' n = true) : 0 ≤ n ∧ n < 1024 := by
  simp only [countB', Bool.and_eq_true, decide_eq_true_eq] at h
  omega
theorem setB_of {n : Int} (h : setB n = true) : 0 ≤ n ∧ n < 1024 := by
  simp only [setB, Bool.and_eq_true, decide_eq_true_eq] at h
  omega
theorem join_cut : ∀ (l : Str), Lib.join (cutC 32 l) [32] = l
  | [] => rfl
  | b :: l => by
    have ih := join_cut l
    obtain ⟨x, r, hx⟩ := cutC_ne 32 l
    unfold cutC
    rw [hx] at ih ⊢
    split
    · rename_i hb
      subst hb
      rw [join_two, ih]
      rfl
    · simp only []
      cases r with
      | nil => rw [Lib.join_one] at ih ⊢; rw [ih]
      | cons y r =>
        rw [join_two] at ih ⊢
        rw [List.cons_append, List.cons_append, ih]
theorem parts_itoa : ∀ (l : List Int) (b : Bool), (∀ n ∈ l, setB n = true) → partsP (l.map Lib.itoa) b = (l, b)
  | [], b, _ => rfl
  | n :: l, b, h => by
    have hn := setB_of (h n (by simp))
    have hk := numTok_num (n := n.toNat) (by omega)
    have ho : okW (Lib.itoa n) = true := by unfold okW; rw [itoa_int hn.1 hn.2, atoiF_num (by omega)]
    have hv : numV (Lib.itoa n) = n := by rw [itoa_int hn.1 hn.2, hk.2, nat_of hn.1]
    simp only [List.map_cons, partsP]
    rw [ho, hv, Bool.not_true, Bool.or_false, parts_itoa l b fun m hm => h m (by simp [hm])]
theorem good_w {t : TTrust} (h : GoodT t) : wT t ≤ 13 := by
  obtain ⟨th, ns, is⟩ := t
  obtain ⟨_, _, h3, h4, _⟩ := h
  simp only at h3 h4
  rcases h4 with rfl | ⟨x, _, _, rfl⟩
  · simp only [wT, wL]; omega
  · simp only [wT, wL, List.length_cons, List.length_nil]; omega
/-- the steps that scripts have: canonical, right, with trusts of the source -/
structure StepOk (x : TStep) : Prop where
  bd : BdS x
  plain : plainP x = x
  ok : okP x = true
  good : x.Kind = 3 → GoodT x.Trust
theorem read_back {x : TStep} (h : StepOk x) : readP (cutC 32 (lineT x)) = (x, true) := by
  have hp := h.plain
  have hok := h.ok
  by_cases h1 : x.Kind = 1
  · have e1 : wordsP x = [sPropose, Lib.itoa x.Node, Lib.itoa x.Slot, x.Value.data.toList] := by simp [wordsP, h1]
    have e2 : plainP x = { Z0 with Kind := 1, Node := x.Node, Slot := x.Slot, Value := x.Value } := by simp [plainP, h1]
    have e3 : okP x = (nodeB x.Node && (countB' x.Slot && wordOk x.Value)) := by simp [okP, h1]
    rw [e3, Bool.and_eq_true, Bool.and_eq_true] at hok
    obtain ⟨k1, k2, k3⟩ := hok
    have n1 := nodeB_of k1
    have n2 := countB_of k2
    unfold lineT
    rw [e1, cutC_join _ _ (by
      intro w hw
      simp only [List.mem_cons, List.not_mem_nil, or_false] at hw
      rcases hw with rfl | rfl | rfl | rfl
      · decide
      · exact (itoa_nosp n1.1 n1.2).1
      · exact (itoa_nosp n2.1 n2.2).1
      · exact (word_nosp k3).1)]
    have s1 := nm_itoa n1.1 n1.2 [Lib.itoa x.Slot, x.Value.data.toList] false
    have s2 := nm_itoa n2.1 n2.2 [x.Value.data.toList] false
    unfold readP valP
    simp only [wdP, s1, s2, if_true, if_false, finP, bs_of, Bool.not_false, decide_true, Bool.and_true]
    rw [← hp, e2]
  by_cases h8 : x.Kind = 8
  · have e1 : wordsP x = [sPrefer, Lib.itoa x.Node, Lib.itoa x.Slot, x.Value.data.toList] := by simp [wordsP, h8]
    have e2 : plainP x = { Z0 with Kind := 8, Node := x.Node, Slot := x.Slot, Value := x.Value } := by simp [plainP, h8]
    have e3 : okP x = (nodeB x.Node && (countB' x.Slot && wordOk x.Value)) := by simp [okP, h8]
    rw [e3, Bool.and_eq_true, Bool.and_eq_true] at hok
    obtain ⟨k1, k2, k3⟩ := hok
    have n1 := nodeB_of k1
    have n2 := countB_of k2
    unfold lineT
    rw [e1, cutC_join _ _ (by
      intro w hw
      simp only [List.mem_cons, List.not_mem_nil, or_false] at hw
      rcases hw with rfl | rfl | rfl | rfl
      · decide
      · exact (itoa_nosp n1.1 n1.2).1
      · exact (itoa_nosp n2.1 n2.2).1
      · exact (word_nosp k3).1)]
    have s1 := nm_itoa n1.1 n1.2 [Lib.itoa x.Slot, x.Value.data.toList] false
    have s2 := nm_itoa n2.1 n2.2 [x.Value.data.toList] false
    unfold readP valP
    simp only [wdP, s1, s2, show (sPrefer = sPropose) = False from eq_false (by decide), if_true, if_false, finP, bs_of, Bool.not_false, decide_true, Bool.and_true]
    rw [← hp, e2]
  by_cases h2 : x.Kind = 2
  · have e1 : wordsP x = [sTick, Lib.itoa x.Count] := by simp [wordsP, h2]
    have e2 : plainP x = { Z0 with Kind := 2, Count := x.Count } := by simp [plainP, h2]
    have e3 : okP x = (countB' x.Count) := by simp [okP, h2]
    rw [e3] at hok
    have n1 := countB_of hok
    unfold lineT
    rw [e1, cutC_join _ _ (by
      intro w hw
      simp only [List.mem_cons, List.not_mem_nil, or_false] at hw
      rcases hw with rfl | rfl
      · decide
      · exact (itoa_nosp n1.1 n1.2).1)]
    have s1 := nm_itoa n1.1 n1.2 [] false
    unfold readP
    simp only [wdP, s1, show (sTick = sPropose) = False from eq_false (by decide), show (sTick = sPrefer) = False from eq_false (by decide), if_true, if_false, finP, bs_of, Bool.not_false, decide_true, Bool.and_true]
    rw [← hp, e2]
  by_cases h4 : x.Kind = 4
  · have e1 : wordsP x = [sStop, Lib.itoa x.Node] := by simp [wordsP, h4]
    have e2 : plainP x = { Z0 with Kind := 4, Node := x.Node } := by simp [plainP, h4]
    have e3 : okP x = (nodeB x.Node) := by simp [okP, h4]
    rw [e3] at hok
    have n1 := nodeB_of hok
    unfold lineT
    rw [e1, cutC_join _ _ (by
      intro w hw
      simp only [List.mem_cons, List.not_mem_nil, or_false] at hw
      rcases hw with rfl | rfl
      · decide
      · exact (itoa_nosp n1.1 n1.2).1)]
    have s1 := nm_itoa n1.1 n1.2 [] false
    unfold readP
    simp only [wdP, s1, show (sStop = sPropose) = False from eq_false (by decide), show (sStop = sPrefer) = False from eq_false (by decide), show (sStop = sTick) = False from eq_false (by decide), if_true, if_false, finP, bs_of, Bool.not_false, decide_true, Bool.and_true]
    rw [← hp, e2]
  by_cases h7 : x.Kind = 7
  · have e1 : wordsP x = [sDelay, Lib.itoa x.Node, Lib.itoa x.To, Lib.itoa x.Count] := by simp [wordsP, h7]
    have e2 : plainP x = { Z0 with Kind := 7, Node := x.Node, To := x.To, Count := x.Count } := by simp [plainP, h7]
    have e3 : okP x = (nodeB x.Node && (nodeB x.To && countB' x.Count)) := by simp [okP, h7]
    rw [e3, Bool.and_eq_true, Bool.and_eq_true] at hok
    obtain ⟨k1, k2, k3⟩ := hok
    have n1 := nodeB_of k1
    have n2 := nodeB_of k2
    have n3 := countB_of k3
    unfold lineT
    rw [e1, cutC_join _ _ (by
      intro w hw
      simp only [List.mem_cons, List.not_mem_nil, or_false] at hw
      rcases hw with rfl | rfl | rfl | rfl
      · decide
      · exact (itoa_nosp n1.1 n1.2).1
      · exact (itoa_nosp n2.1 n2.2).1
      · exact (itoa_nosp n3.1 n3.2).1)]
    have s1 := nm_itoa n1.1 n1.2 [Lib.itoa x.To, Lib.itoa x.Count] false
    have s2 := nm_itoa n2.1 n2.2 [Lib.itoa x.Count] false
    have s3 := nm_itoa n3.1 n3.2 [] false
    unfold readP
    simp only [wdP, s1, s2, s3, show (sDelay = sPropose) = False from eq_false (by decide), show (sDelay = sPrefer) = False from eq_false (by decide), show (sDelay = sTick) = False from eq_false (by decide), show (sDelay = sStop) = False from eq_false (by decide), if_true, if_false, finP, bs_of, Bool.not_false, decide_true, Bool.and_true]
    rw [← hp, e2]
  by_cases h5 : x.Kind = 5
  · have e1 : wordsP x = [sLie, Lib.itoa x.Node, Lib.itoa x.To, Lib.itoa x.Letter.Slot, x.Letter.Envelope.Ballot.Value.data.toList] := by simp [wordsP, h5]
    have e2 : plainP x = lieP x.Node x.To x.Letter.Slot x.Letter.Envelope.Ballot.Value := by simp [plainP, h5]
    have e3 : okP x = (nodeB x.Node && (nodeB x.To && (countB' x.Letter.Slot && wordOk x.Letter.Envelope.Ballot.Value))) := by simp [okP, h5]
    rw [e3, Bool.and_eq_true, Bool.and_eq_true, Bool.and_eq_true] at hok
    obtain ⟨k1, k2, k3, k4⟩ := hok
    have n1 := nodeB_of k1
    have n2 := nodeB_of k2
    have n3 := countB_of k3
    unfold lineT
    rw [e1, cutC_join _ _ (by
      intro w hw
      simp only [List.mem_cons, List.not_mem_nil, or_false] at hw
      rcases hw with rfl | rfl | rfl | rfl | rfl
      · decide
      · exact (itoa_nosp n1.1 n1.2).1
      · exact (itoa_nosp n2.1 n2.2).1
      · exact (itoa_nosp n3.1 n3.2).1
      · exact (word_nosp k4).1)]
    have s1 := nm_itoa n1.1 n1.2 [Lib.itoa x.To, Lib.itoa x.Letter.Slot, x.Letter.Envelope.Ballot.Value.data.toList] false
    have s2 := nm_itoa n2.1 n2.2 [Lib.itoa x.Letter.Slot, x.Letter.Envelope.Ballot.Value.data.toList] false
    have s3 := nm_itoa n3.1 n3.2 [x.Letter.Envelope.Ballot.Value.data.toList] false
    unfold readP
    simp only [wdP, s1, s2, s3, show (sLie = sPropose) = False from eq_false (by decide), show (sLie = sPrefer) = False from eq_false (by decide), show (sLie = sTick) = False from eq_false (by decide), show (sLie = sStop) = False from eq_false (by decide), show (sLie = sDelay) = False from eq_false (by decide), show (sLie = sPart) = False from eq_false (by decide), show (sLie = sDeclare) = False from eq_false (by decide), if_true, if_false, finP, bs_of, Bool.not_false, decide_true, Bool.and_true]
    rw [← e2, hp]
  by_cases h6 : x.Kind = 6
  · have e1 : wordsP x = sPart :: x.Parts.map Lib.itoa := by simp [wordsP, h6]
    have e2 : plainP x = { Z0 with Kind := 6, Parts := x.Parts } := by simp [plainP, h6]
    have e3 : okP x = (decide (0 < x.Parts.length) && !(x.Parts.any fun n => !setB n)) := by simp [okP, h6]
    rw [e3, Bool.and_eq_true] at hok
    have hall : ∀ n ∈ x.Parts, setB n = true := by simpa using hok.2
    unfold lineT
    rw [e1, cutC_join _ _ (by
      intro w hw
      rcases List.mem_cons.1 hw with rfl | hw
      · decide
      · obtain ⟨n, hn, rfl⟩ := List.mem_map.1 hw
        have := setB_of (hall n hn)
        exact (itoa_nosp this.1 this.2).1)]
    have s1 := parts_itoa x.Parts false hall
    unfold readP
    simp only [wdP, s1, show (sPart = sPropose) = False from eq_false (by decide), show (sPart = sPrefer) = False from eq_false (by decide), show (sPart = sTick) = False from eq_false (by decide), show (sPart = sStop) = False from eq_false (by decide), show (sPart = sDelay) = False from eq_false (by decide), if_true, if_false, finP, Bool.not_false, decide_true, Bool.and_true]
    rw [← hp, e2]
  by_cases h3 : x.Kind = 3
  · have e1 : wordsP x = [sDeclare, Lib.itoa x.Node, textT x.Trust] := by simp [wordsP, h3]
    have e2 : plainP x = { Z0 with Kind := 3, Node := x.Node, Trust := x.Trust } := by simp [plainP, h3]
    have e3 : okP x = (nodeB x.Node && decide (tval x.Trust = 0)) := by simp [okP, h3]
    rw [e3, Bool.and_eq_true, decide_eq_true_eq] at hok
    have n1 := nodeB_of hok.1
    have hg := h.good h3
    have hT : textT x.Trust = writeT x.Trust := by unfold textT; rw [if_pos hok.2]
    have hwl := writeT_le x.Trust h.bd.trust
    have hww := good_w hg
    have hpar : parseP (writeT x.Trust) = (x.Trust, 0) := by
      unfold parseP
      rw [if_neg (by omega), form_good hg, if_pos ⟨rfl, rfl⟩, if_pos hok.2]
    unfold lineT
    rw [e1, hT, join_two, join_two, Lib.join_one]
    rw [show sDeclare ++ [32] ++ (Lib.itoa x.Node ++ [32] ++ writeT x.Trust) = sDeclare ++ 32 :: (Lib.itoa x.Node ++ 32 :: writeT x.Trust) by simp, cutC_app _ (by decide), cutC_app _ (itoa_nosp n1.1 n1.2).1]
    have s1 := nm_itoa n1.1 n1.2 (cutC 32 (writeT x.Trust)) false
    unfold readP
    simp only [wdP, s1, show (sDeclare = sPropose) = False from eq_false (by decide), show (sDeclare = sPrefer) = False from eq_false (by decide), show (sDeclare = sTick) = False from eq_false (by decide), show (sDeclare = sStop) = False from eq_false (by decide), show (sDeclare = sDelay) = False from eq_false (by decide), show (sDeclare = sPart) = False from eq_false (by decide), if_true, if_false, finP, join_cut, hpar, Bool.not_false, decide_true, Bool.not_true, Bool.or_false, Bool.and_true]
    rw [← hp, e2]
  exfalso
  simp [okP, h1, h8, h2, h4, h7, h6, h3, h5] at hok
end Go.Proofs.YtnhgcpiljggmmaaGreatDoor

set_option linter.unusedVariables false
set_option linter.unusedSimpArgs false
namespace Go.Proofs.YtnhgcpiljggmmaaGreatDoor
open Go.TQ Go.Proofs

/-- laboratory.Step: the line and whether it is right -/
noncomputable def stepP (x : TStep) : Str × Bool := match F_laboratory_Step x with
  | some (y, b, _) => (y.data.toList, b)
  | none => ([], false)
theorem stepP_eq {x : TStep} (h : BdS x) : F_laboratory_Step x = some (bs (stepP x).1, (stepP x).2, ()) := by
  obtain ⟨y, b, e, _⟩ := step_total h
  unfold stepP
  rw [e]
  rfl
theorem stepP_ok {x : TStep} (h : StepOk x) : stepP x = (lineT x, true) := by
  unfold stepP
  rw [step_ok h.bd h.plain h.ok]
  rfl
theorem stepP_len {x : TStep} (h : BdS x) : (stepP x).2 = true → (stepP x).1 = lineT x := by
  obtain ⟨y, b, e, k⟩ := step_total h
  unfold stepP
  rw [e]
  intro hb
  exact (k hb).1
def trimP (y : Str) : Str := Lib.trimSuffix y [10]
theorem trimP_line (y : Str) : trimP (y ++ [10]) = y := by
  unfold trimP Lib.trimSuffix
  have : Lib.hasSuffix (y ++ [10]) [10] = true := by
    unfold Lib.hasSuffix
    rw [List.isSuffixOf_iff_suffix]
    exact ⟨y, rfl⟩
  rw [if_pos this]
  simp
theorem trimP_le (y : Str) : (trimP y).length ≤ y.length := by
  unfold trimP Lib.trimSuffix
  split
  · rw [List.length_take]; omega
  · exact Nat.le_refl _
/-- line by line -/
noncomputable def goP : Nat → List Str → List TStep → List TStep × Int × Int
  | _, [], acc => (acc, 0, 0)
  | i, y :: ys, acc =>
    if (readP (cutC 32 (trimP y))).2 = true ∧ (stepP (readP (cutC 32 (trimP y))).1).2 = true ∧ (stepP (readP (cutC 32 (trimP y))).1).1 ++ [10] = y
    then goP (i + 1) ys (acc ++ [(readP (cutC 32 (trimP y))).1]) else ([], (i + 1 : Nat), 2)

theorem wordsP_le {x : TStep} (h : BdS x) : (∀ w ∈ wordsP x, w.length ≤ 4000000) ∧ (wordsP x).length ≤ 30001 := by
  have a1 := itoa_le h.node
  have a2 := itoa_le h.slot
  have a3 := itoa_le h.count
  have a4 := itoa_le h.to
  have a5 := itoa_le h.lslot
  have a6 : x.Value.data.toList.length ≤ 1000000 := h.value
  have a7 : x.Letter.Envelope.Ballot.Value.data.toList.length ≤ 1000000 := h.bvalue
  have a8 := textT_le h.trust h.weight
  have a9 := h.parts
  have c1 : sPropose.length = 7 := rfl
  have c2 : sPrefer.length = 6 := rfl
  have c3 : sTick.length = 4 := rfl
  have c4 : sStop.length = 4 := rfl
  have c5 : sDelay.length = 5 := rfl
  have c6 : sPart.length = 4 := rfl
  have c7 : sDeclare.length = 7 := rfl
  have c8 : sLie.length = 3 := rfl
  have hp : ∀ w ∈ x.Parts.map Lib.itoa, w.length ≤ 4000000 := fun w hw => by
    obtain ⟨n, hn, rfl⟩ := List.mem_map.1 hw
    have := itoa_le (h.part n hn)
    omega
  unfold wordsP
  repeat' split
  all_goals simp only [List.mem_cons, List.not_mem_nil, or_false, forall_eq_or_imp, forall_eq, List.length_cons, List.length_nil, List.length_map, false_imp_iff, implies_true, true_and]
  all_goals first
    | omega
    | exact ⟨⟨by omega, hp⟩, by omega⟩
theorem lineT_le {x : TStep} (h : BdS x) : (lineT x).length ≤ 1000000000000 := by
  obtain ⟨h1, h2⟩ := wordsP_le h
  have h3 := join_le [32] (wordsP x)
  have h4 : ∀ ws : List Str, (∀ w ∈ ws, w.length ≤ 4000000) → Lib.lens ws ≤ 4000000 * ws.length := by
    intro ws
    induction ws with
    | nil => intro _; exact Nat.le_refl _
    | cons w ws ih =>
      intro h
      have := ih fun y hy => h y (by simp [hy])
      have := h w (by simp)
      simp only [Lib.lens, List.map_cons, List.sum_cons, List.length_cons] at *
      omega
  have h5 := h4 _ h1
  unfold lineT
  simp only [List.length_cons, List.length_nil] at h3
  omega
/-- one line -/
noncomputable def parStep (r3 : List ByteArray) (v4 : Int × (List TStep) × Unit) : Option ((Int × (List TStep) × Unit) ⊕ ((List TStep) × Int × Int × Unit)) :=
  bif (decide (v4.1 < ((List.length r3 : Nat) : Int))) then
    Option.bind (idx r3 v4.1) fun x5 =>
    Option.bind (r3[(Int.toNat v4.1)]?) fun x6 =>
    Option.bind (F_strings_TrimSuffix x6 (ByteArray.mk #[10])) fun r7 =>
    Option.bind (F_laboratory_read r7) fun r8 =>
    Option.bind (F_laboratory_Step r8.1) fun r9 =>
    Option.bind (bif (!r8.2.1) then some true else some (!r9.2.1)) fun b10 =>
    Option.bind (bif b10 then some true else Option.bind (scat r9.1 (ByteArray.mk #[10])) fun x11 => some (!decide (x11 = x6))) fun b12 =>
    bif b12 then Option.map Sum.inr (some (([] : List TStep), (addI .i64 v4.1 (1 : Int)), (2 : Int), ()))
    else bif lenOk 448 (List.length v4.2.1 + List.length [r8.1]) then some (Sum.inl ((addI .i64 v4.1 (1 : Int)), (v4.2.1 ++ [r8.1]), ())) else none
  else Option.map Sum.inr (some (v4.2.1, (0 : Int), (0 : Int), ()))
theorem parse_loop (s : ByteArray) : F_laboratory_Parse s =
    Option.bind (bif (decide ((20000 : Int) < ((ByteArray.size s : Nat) : Int))) then some true else Option.bind (F_strings_Count s (ByteArray.mk #[10])) fun r1 => some (decide ((300 : Int) < r1))) fun b2 =>
    bif b2 then some (([] : List TStep), (0 : Int), (3 : Int), ())
    else Option.bind (F_lines s) fun r3 => loopO (parStep r3) ((0 : Int), ([] : List TStep), ()) := by
  unfold F_laboratory_Parse parStep
  simp only [Go.Proofs.YtnhgcpiljggmmaaGreatDoor.et]
theorem cut_bd (y : Str) (h : y.length ≤ 20001) : BdS (readP (cutC 32 y)).1 := by
  refine read_bd _ (wds_cut y (by omega)) ?_
  have := (cutC_len 32 y).1
  omega
theorem par_go (r3 : List Str) (hr : ∀ y ∈ r3, y.length ≤ 20001) (hn : r3.length ≤ 20001) : ∀ (ys pre : List Str) (acc : List TStep), r3 = pre ++ ys → acc.length ≤ pre.length →
    loopO (parStep (r3.map bs)) ((pre.length : Int), acc, ()) = some ((goP pre.length ys acc).1, (goP pre.length ys acc).2.1, (goP pre.length ys acc).2.2, ())
  | [], pre, acc, he, ha => by
    refine loopO_inr ?_
    unfold parStep
    simp only []
    rw [decide_eq_false (by rw [List.length_map, he]; simp), cond_false]
    rfl
  | y :: ys, pre, acc, he, ha => by
    have hlen : r3.length = pre.length + ys.length + 1 := by rw [he]; simp; omega
    have hy := hr y (by rw [he]; simp)
    have hx : (r3.map bs)[pre.length]? = some (bs y) := by rw [he]; simp
    have ht := trimP_le y
    have hb := cut_bd (trimP y) (by omega)
    have e1 : F_strings_TrimSuffix (bs y) (ByteArray.mk #[10]) = some (bs (trimP y)) := by
      show trimF (bs y) (bs [10]) = _
      unfold trimF
      rw [if_pos (by rw [bs_size]; omega)]
      rfl
    have hadd : addI .i64 (pre.length : Int) 1 = ((pre.length + 1 : Nat) : Int) := by rw [add64 (by omega) (by omega)]; omega
    have hstep : parStep (r3.map bs) ((pre.length : Int), acc, ()) =
        if (readP (cutC 32 (trimP y))).2 = true ∧ (stepP (readP (cutC 32 (trimP y))).1).2 = true ∧ (stepP (readP (cutC 32 (trimP y))).1).1 ++ [10] = y
        then some (Sum.inl (((pre.length + 1 : Nat) : Int), acc ++ [(readP (cutC 32 (trimP y))).1], ())) else some (Sum.inr ([], ((pre.length + 1 : Nat) : Int), 2, ())) := by
      unfold parStep
      simp only []
      rw [decide_eq_true (by rw [List.length_map]; omega), cond_true, idx_nat, hx, Option.bind_some, Int.toNat_natCast, hx, Option.bind_some, e1, Option.bind_some, read_eq (trimP y) (by omega), Option.bind_some]
      simp only []
      rw [stepP_eq hb, Option.bind_some]
      simp only []
      have hsl : (stepP (readP (cutC 32 (trimP y))).1).2 = true → (stepP (readP (cutC 32 (trimP y))).1).1.length ≤ 1000000000000 := fun h => by
        rw [stepP_len hb h]
        exact lineT_le hb
      generalize readP (cutC 32 (trimP y)) = q at *
      generalize stepP q.1 = p at *
      obtain ⟨px, pb⟩ := p
      obtain ⟨qx, qb⟩ := q
      simp only at *
      cases qb with
      | false =>
        rw [if_neg (by simp)]
        simp only [Bool.not_false, cond_true, Option.bind_some]
        rw [hadd]
        rfl
      | true =>
        cases pb with
        | false =>
          rw [if_neg (by simp)]
          simp only [Bool.not_true, cond_false, Bool.not_false, cond_true, Option.bind_some]
          rw [hadd]
          rfl
        | true =>
          simp only [Bool.not_true, cond_false, Option.bind_some, true_and]
          have hl := hsl rfl
          rw [show scat (bs px) (ByteArray.mk #[10]) = some (bs (px ++ [10])) from scat_bs px [10] (by simp; omega), Option.bind_some]
          simp only [Option.bind_some]
          rw [beq_word]
          by_cases hp : px ++ [10] = y
          · rw [if_pos hp, decide_eq_true hp, Bool.not_true, cond_false, lenOk_of (by simp; omega) (by simp; omega), cond_true, hadd]
          · rw [if_neg hp, decide_eq_false hp, Bool.not_false, cond_true, hadd]
            rfl
    rw [goP]
    by_cases hc : (readP (cutC 32 (trimP y))).2 = true ∧ (stepP (readP (cutC 32 (trimP y))).1).2 = true ∧ (stepP (readP (cutC 32 (trimP y))).1).1 ++ [10] = y
    · rw [if_pos hc] at hstep ⊢
      refine (loopO_inl hstep).trans ?_
      have := par_go r3 hr hn ys (pre ++ [y]) (acc ++ [(readP (cutC 32 (trimP y))).1]) (by rw [he]; simp) (by simp; omega)
      rw [show (pre ++ [y]).length = pre.length + 1 by simp] at this
      exact this
    · rw [if_neg hc] at hstep ⊢
      exact loopO_inr hstep
end Go.Proofs.YtnhgcpiljggmmaaGreatDoor

set_option linter.unusedVariables false
set_option linter.unusedSimpArgs false
namespace Go.Proofs.YtnhgcpiljggmmaaGreatDoor
open Go.TQ Go.Proofs

noncomputable def linesP (l : Str) : List Str := (linesGo l.length (bs l)).map (·.data.toList)
theorem lines_flat : ∀ (f : Nat) (s : ByteArray), s.size ≤ f → ((linesGo f s).map (·.data.toList)).flatten = s.data.toList ∧ ∀ y ∈ (linesGo f s).map (·.data.toList), 1 ≤ y.length
  | 0, s, h => by
    have : s.data.toList = [] := List.eq_nil_of_length_eq_zero (by rw [← size_data]; omega)
    rw [this]
    exact ⟨rfl, fun y hy => by cases hy⟩
  | f + 1, s, h => by
    rw [linesGo]
    split
    · rename_i h0
      have : s.data.toList = [] := List.eq_nil_of_length_eq_zero (by rw [← size_data]; omega)
      rw [this]
      exact ⟨rfl, fun y hy => by cases hy⟩
    · rename_i h0
      split
      · rename_i hE
        have hlt := lineEnd_lt s hE
        generalize (lineEnd s).toNat = k at *
        obtain ⟨i1, i2⟩ := lines_flat f (s.extract (k + 1) s.size) (by rw [ByteArray.size_extract]; omega)
        have e : ∀ i j, (s.extract i j).data.toList = (s.data.toList.drop i).take (j - i) := fun i j => by
          have := extract_bs s.data.toList i j
          rw [bs_of] at this
          rw [this, bs_data]
        rw [List.map_cons, List.flatten_cons, i1, e, e]
        have hs : s.data.toList.length = s.size := rfl
        constructor
        · rw [List.drop_zero, Nat.sub_zero, List.take_of_length_le (l := List.drop (k + 1) s.data.toList) (by rw [List.length_drop]; omega), List.take_append_drop]
        · intro y hy
          rcases List.mem_cons.1 hy with rfl | hy
          · rw [List.length_take, List.length_drop]
            omega
          · exact i2 y hy
      · refine ⟨by simp, fun y hy => ?_⟩
        rw [List.map_cons, List.map_nil, List.mem_singleton] at hy
        rw [hy, ← size_data]
        omega
theorem flat_mem : ∀ {ys : List Str} {y : Str}, y ∈ ys → y.length ≤ ys.flatten.length
  | x :: ys, y, h => by
    rw [List.flatten_cons, List.length_append]
    rcases List.mem_cons.1 h with rfl | h
    · omega
    · have := flat_mem h
      omega
theorem flat_len : ∀ {ys : List Str}, (∀ y ∈ ys, 1 ≤ y.length) → ys.length ≤ ys.flatten.length
  | [], _ => Nat.le_refl _
  | x :: ys, h => by
    have h1 := h x (by simp)
    have h2 := flat_len (ys := ys) fun y hy => h y (by simp [hy])
    rw [List.flatten_cons, List.length_append, List.length_cons]
    omega
theorem linesP_flat (l : Str) : (linesP l).flatten = l ∧ ∀ y ∈ linesP l, 1 ≤ y.length := lines_flat l.length (bs l) (Nat.le_refl _)
theorem linesP_text (ls : List Str) (h : ∀ x ∈ ls, (10 : UInt8) ∉ x) : linesP (textOf ls) = ls.map (· ++ [10]) := by
  unfold linesP
  rw [linesGo_text ls _ h (Nat.le_refl _), List.map_map]
  rfl
/-- laboratory.Parse -/
noncomputable def parseL (l : Str) : List TStep × Int × Int := if 20000 < l.length ∨ 300 < l.count 10 then ([], 0, 3) else goP 0 (linesP l) []
theorem parseL_eq (l : Str) (h0 : l.length ≤ 1000000) : F_laboratory_Parse (bs l) = some ((parseL l).1, (parseL l).2.1, (parseL l).2.2, ()) := by
  rw [parse_loop]
  unfold parseL
  have hc : F_strings_Count (bs l) (ByteArray.mk #[10]) = some ((l.count 10 : Nat) : Int) := by
    show countF (bs l) (bs [10]) = _
    unfold countF
    rw [if_pos ⟨by rw [bs_size]; omega, by simp⟩]
    congr 2
    exact Lib.count_one 10 l
  by_cases h1 : 20000 < l.length
  · rw [if_pos (.inl h1), decide_eq_true (show (20000 : Int) < (((bs l).size : Nat) : Int) by rw [bs_size]; omega)]
    rfl
  · rw [decide_eq_false (show ¬ (20000 : Int) < (((bs l).size : Nat) : Int) by rw [bs_size]; omega), cond_false, hc, Option.bind_some, Option.bind_some]
    by_cases h2 : 300 < l.count 10
    · rw [if_pos (.inr h2), decide_eq_true (by omega)]
      rfl
    · rw [if_neg (by omega), decide_eq_false (by omega), cond_false]
      have hl : F_lines (bs l) = some ((linesP l).map bs) := by
        show linesF (bs l) = _
        unfold linesF
        rw [if_pos (by rw [bs_size]; omega), bs_size]
        unfold linesP
        rw [List.map_map, show (bs ∘ fun x : ByteArray => x.data.toList) = id from funext bs_of, List.map_id]
      rw [hl, Option.bind_some]
      obtain ⟨f1, f2⟩ := linesP_flat l
      exact par_go (linesP l) (fun y hy => by have := flat_mem hy; rw [f1] at this; omega) (by have := flat_len f2; rw [f1] at this; omega) (linesP l) [] [] rfl (Nat.le_refl _)
/-- right lines go through -/
theorem go_ok : ∀ (xs : List TStep) (i : Nat) (ys : List Str) (acc : List TStep), (∀ x ∈ xs, StepOk x) → goP i (xs.map (fun x => lineT x ++ [10]) ++ ys) acc = goP (i + xs.length) ys (acc ++ xs)
  | [], i, ys, acc, _ => by simp
  | x :: xs, i, ys, acc, h => by
    have hx := h x (by simp)
    rw [List.map_cons, List.cons_append, goP, trimP_line, read_back hx]
    simp only []
    rw [stepP_ok hx, if_pos (by simp), go_ok xs (i + 1) ys (acc ++ [x]) fun y hy => h y (by simp [hy])]
    simp only [List.length_cons, List.append_assoc, List.singleton_append]
    congr 1
    omega
/-- Format of right steps -/
theorem fmt_ok : ∀ (xs : List TStep) (a : Str), (∀ x ∈ xs, StepOk x) → a.length + (textOf (xs.map lineT)).length ≤ 1000000000 → fmtGo (fun b0 => F_laboratory_Step b0) xs a = some (a ++ textOf (xs.map lineT), true)
  | [], a, _, _ => by simp [fmtGo, textOf]
  | x :: xs, a, h, ha => by
    have hx := h x (by simp)
    rw [List.map_cons, textOf_cons] at ha ⊢
    rw [List.length_append, List.length_cons] at ha
    rw [fmtGo, step_ok hx.bd hx.plain hx.ok, Option.bind_some]
    show (if a.length + (bs (lineT x)).size + 1 ≤ 140737488355328 then fmtGo (fun b0 => F_laboratory_Step b0) xs (a ++ ((bs (lineT x)).data.toList ++ [10])) else none) = _
    rw [if_pos (by rw [bs_size]; omega), bs_data, fmt_ok xs _ (fun y hy => h y (by simp [hy])) (by simp only [List.length_append, List.length_cons, List.length_nil]; omega)]
    simp
theorem format_ok (xs : List TStep) (h : ∀ x ∈ xs, StepOk x) (hn : xs.length ≤ 300) (hl : (textOf (xs.map lineT)).length ≤ 1000000000) : F_laboratory_Format xs = some (bs (textOf (xs.map lineT)), 0, ()) := by
  show formatF (fun b0 => F_laboratory_Step b0) xs = _
  unfold formatF
  rw [if_neg (by omega), fmt_ok xs [] h (by simpa using hl)]
  rfl

theorem count_text : ∀ (ls : List Str), (∀ x ∈ ls, (10 : UInt8) ∉ x) → (textOf ls).count 10 = ls.length
  | [], _ => rfl
  | x :: ls, h => by
    rw [textOf_cons, List.count_append, List.count_cons_self, List.count_eq_zero_of_not_mem (h x (by simp)), count_text ls fun y hy => h y (by simp [hy]), List.length_cons]
    omega
/-- scripts of the source that have lines -/
structure Scr (xs : List TStep) : Prop where
  ok : ∀ x ∈ xs, StepOk x
  few : xs.length ≤ 100
  nl : ∀ x ∈ xs, (10 : UInt8) ∉ lineT x
  short : (textOf (xs.map lineT)).length ≤ 9000
theorem scr_format {xs : List TStep} (h : Scr xs) : F_laboratory_Format xs = some (bs (textOf (xs.map lineT)), 0, ()) :=
  format_ok xs h.ok (by have := h.few; omega) (by have := h.short; omega)
end Go.Proofs.YtnhgcpiljggmmaaGreatDoor

set_option linter.unusedVariables false
set_option linter.unusedSimpArgs false
namespace Go.Proofs.YtnhgcpiljggmmaaGreatDoor
open Go.TQ Go.Proofs

/-! ### the example -/
def exStep : TStep := { Z0 with Kind := 8, Slot := 1, Value := bs [97] }
theorem ex_ok : StepOk exStep := by
  refine ⟨{ bd_Z0 with slot := ⟨by show (-9223372036854775808 : Int) ≤ 1; omega, by show (1 : Int) ≤ 9223372036854775807; omega⟩, value := by show (1 : Nat) ≤ 1000000; omega }, by simp [plainP, exStep, Z0], ?_, fun h => ?_⟩
  · have : okP exStep = (nodeB exStep.Node && (countB' exStep.Slot && wordOk exStep.Value)) := by simp [okP, exStep]
    rw [this]
    decide
  · have : exStep.Kind = 8 := rfl
    rw [this] at h
    omega
theorem ex_line : lineT exStep = [112, 114, 101, 102, 101, 114, 32, 48, 32, 49, 32, 97] := by
  unfold lineT
  have : wordsP exStep = [sPrefer, Lib.itoa exStep.Node, Lib.itoa exStep.Slot, exStep.Value.data.toList] := by simp [wordsP, exStep]
  rw [this]
  have h0 : Lib.itoa exStep.Node = [48] := by show Lib.itoa 0 = _; rw [itoa_int (by omega) (by omega)]; rfl
  have h1 : Lib.itoa exStep.Slot = [49] := by show Lib.itoa 1 = _; rw [itoa_int (by omega) (by omega)]; rfl
  rw [h0, h1]
  rfl
theorem sane45 : F_law45_sane = some true := by
  unfold F_law45_sane
  have hp := parseL_eq [112, 114, 101, 102, 101, 114, 32, 48, 32, 49, 32, 97, 10] (by decide)
  have hl : parseL [112, 114, 101, 102, 101, 114, 32, 48, 32, 49, 32, 97, 10] = ([exStep], 0, 0) := by
    unfold parseL
    rw [if_neg (by decide)]
    have ht : ([112, 114, 101, 102, 101, 114, 32, 48, 32, 49, 32, 97, 10] : Str) = textOf [lineT exStep] := by rw [ex_line]; rfl
    rw [ht, linesP_text _ (by rw [ex_line]; decide)]
    have := go_ok [exStep] 0 [] [] (by intro x hx; rw [List.mem_singleton.1 hx]; exact ex_ok)
    rw [List.append_nil] at this
    exact this
  rw [hl] at hp
  rw [show (ByteArray.mk #[112, 114, 101, 102, 101, 114, 32, 48, 32, 49, 32, 97, 10]) = bs [112, 114, 101, 102, 101, 114, 32, 48, 32, 49, 32, 97, 10] from rfl, hp, Option.bind_some]
  have hs := step_ok ex_ok.bd ex_ok.plain ex_ok.ok
  rw [ex_line] at hs
  rw [show (TStep.mk (8 : Int) (0 : Int) (0 : Int) (1 : Int) (0 : Int) (ByteArray.mk #[97]) (TTrust.mk (0 : Int) ([] : List Int) ([] : List TTrust)) (TLetter.mk (0 : Int) (0 : Int) (TNomination.mk (0 : Int) (0 : Int) (TTrust.mk (0 : Int) ([] : List Int) ([] : List TTrust)) ([] : List ByteArray) ([] : List ByteArray)) (TEnvelope.mk (0 : Int) (0 : Int) (0 : Int) (TTrust.mk (0 : Int) ([] : List Int) ([] : List TTrust)) (0 : Int) (TBallot.mk (0 : Int) (ByteArray.mk #[])) (TBallot.mk (0 : Int) (ByteArray.mk #[])) (TBallot.mk (0 : Int) (ByteArray.mk #[])) (0 : Int) (0 : Int))) ([] : List Int)) = exStep from rfl, hs]
  rfl

/-- what the law needs of the source and of the document's comparison -/
structure Needs : Prop where
  ill : ∀ s, OkS s → ∀ n : Int, 1 ≤ n → n ≤ 4 → Yd (F_play_Src_Ill s n) fun p => OkS p.2 ∧ 0 ≤ p.1 ∧ p.1 < 1024
  lines : ∀ s, OkS s → ∀ n ill : Int, 1 ≤ n → n ≤ 4 → 0 ≤ ill → ill < 1024 → Yd (F_law45_lines s n ill) fun p => OkS p.2 ∧ Scr p.1
  refl : ∀ xs, Scr xs → F_ref43_Steps xs xs = some true
end Go.Proofs.YtnhgcpiljggmmaaGreatDoor

set_option linter.unusedVariables false
set_option linter.unusedSimpArgs false
namespace Go.Proofs.YtnhgcpiljggmmaaGreatDoor
open Go.TQ Go.Proofs

noncomputable instance : DecidableEq TTrust := fun a b => Classical.propDecidable (a = b)
theorem eqL_congr {α : Type} {f g : α → α → Option Bool} : ∀ (a b : List α), (∀ x ∈ a, ∀ y ∈ b, f x y = g x y) → eqL f a b = eqL g a b
  | [], b, _ => by rw [eqL.eq_2 f [] b (by simp), eqL.eq_2 g [] b (by simp)]
  | x :: a, [], _ => rfl
  | x :: a, y :: b, h => by
    rw [eqL, eqL, h x (by simp) y (by simp), eqL_congr a b fun u hu v hv => h u (by simp [hu]) v (by simp [hv])]
theorem ints31 (a b : List Int) (h : a.length ≤ 1000000000) : F_ref31_Ints a b = some (decide (a = b)) := equal_int a b h
theorem ints01 (a b : List Int) (h : a.length ≤ 1000000000) : F_ref01_Same a b = some (decide (a = b)) := equal_int a b h
theorem vals29 (a b : List ByteArray) (h : a.length ≤ 1000000000) : F_ref29_values a b = some (decide (a = b)) := equal_str a b h
theorem same02_dec {n : Nat} : ∀ {a b : TTrust}, SizeOf.sizeOf a < n → BdT a → BdT b → I_ref02_Same n (a, b, ()) = some (decide (a = b)) := by
  induction n with
  | zero => intro a b h; omega
  | succ n ih =>
    intro a b h ha hb
    show B_ref02_Same (I_ref02_Same n) a b = _
    have h1 : a.Nodes.length ≤ 10000 ∧ a.Inner.length ≤ 10000 ∧ ∀ u ∈ a.Inner, BdT u := by cases ha with | mk _ _ h1 _ h3 h4 => exact ⟨h1, h3, h4⟩
    have h2 : ∀ u ∈ b.Inner, BdT u := by cases hb with | mk _ _ _ _ _ h4 => exact h4
    have hin := fun (hl : a.Inner.length = b.Inner.length) => (eq_loop (fun x y => I_ref02_Same n (eTTrust x, eTTrust y, ())) a.Inner b.Inner hl (by omega)).trans ((eqL_congr a.Inner b.Inner fun x hx y hy => by
      rw [et, et]
      exact ih (by have := inner_lt hx; omega) (h1.2.2 x hx) (h2 y hy)).trans (eqL_dec a.Inner b.Inner hl))
    have key : decide (a = b) = (decide (a.Threshold = b.Threshold) && (decide (a.Nodes = b.Nodes) && decide (a.Inner = b.Inner))) := by
      rw [Bool.eq_iff_iff]
      simp only [decide_eq_true_eq, Bool.and_eq_true]
      cases a
      cases b
      simp
    rw [key]
    unfold B_ref02_Same
    rw [ints01 _ _ (by omega)]
    cases decide (a.Threshold = b.Threshold) with
    | false => rfl
    | true =>
      cases decide (a.Nodes = b.Nodes) with
      | false => rfl
      | true =>
        by_cases hl : a.Inner.length = b.Inner.length
        · rw [show decide (((List.length a.Inner : Nat) : Int) = ((List.length b.Inner : Nat) : Int)) = true from decide_eq_true (by omega)]
          exact hin hl
        · rw [show decide (((List.length a.Inner : Nat) : Int) = ((List.length b.Inner : Nat) : Int)) = false from decide_eq_false (by omega), decide_eq_false (fun e => hl (by rw [e]))]
          rfl
theorem tsame02 {a b : TTrust} (ha : BdT a) (hb : BdT b) : F_ref02_Same a b = some (decide (a = b)) := same02_dec (by omega) ha hb
noncomputable instance : DecidableEq TStep := fun a b => Classical.propDecidable (a = b)
noncomputable instance : DecidableEq TLetter := fun a b => Classical.propDecidable (a = b)
noncomputable instance : DecidableEq TEnvelope := fun a b => Classical.propDecidable (a = b)
noncomputable instance : DecidableEq TNomination := fun a b => Classical.propDecidable (a = b)
theorem bool_and (a b : Bool) : (bif a then some b else some false) = some (a && b) := by cases a <;> rfl
theorem env24_dec {a b : TEnvelope} (ha : BdT a.Trust) (hb : BdT b.Trust) : F_ref24_Same a b = some (decide (a = b)) := by
  unfold F_ref24_Same
  simp only [Go.Proofs.YtnhgcpiljggmmaaGreatDoor.et, tsame02 ha hb, Option.bind_some, bool_and, eq2_false]
  congr 1
  rw [Bool.eq_iff_iff]
  cases a
  cases b
  rename_i x _ _ _ _ _ _ y _ _ _ _
  simp only [Bool.and_eq_true, decide_eq_true_eq, TEnvelope.mk.injEq]
  constructor
  · rintro ⟨⟨⟨⟨⟨⟨⟨⟨⟨h1, h2⟩, h3⟩, h4⟩, h5⟩, h6⟩, h7⟩, h8⟩, h9⟩, h10⟩
    refine ⟨h1, h2, h3, h4, h5, ?_, ?_, ?_, h9, h10⟩
    · exact TBallot.mk.injEq .. ▸ h6
    · exact TBallot.mk.injEq .. ▸ h7
    · exact TBallot.mk.injEq .. ▸ h8
  · rintro ⟨rfl, rfl, rfl, rfl, rfl, rfl, rfl, rfl, rfl, rfl⟩
    simp

theorem nom29_dec {a b : TNomination} (ha : BdT a.Trust) (hb : BdT b.Trust) (hv : a.Votes.length ≤ 1000000) (hc : a.Accepts.length ≤ 1000000) : F_ref29_Nomination a b = some (decide (a = b)) := by
  unfold F_ref29_Nomination
  simp only [Go.Proofs.YtnhgcpiljggmmaaGreatDoor.et, tsame02 ha hb, Option.bind_some, bool_and, vals29 a.Votes b.Votes (by omega), vals29 a.Accepts b.Accepts (by omega)]
  congr 1
  rw [Bool.eq_iff_iff]
  cases a
  cases b
  simp only [Bool.and_eq_true, decide_eq_true_eq, TNomination.mk.injEq]
  constructor
  · rintro ⟨⟨⟨⟨h1, h2⟩, h3⟩, h4⟩, h5⟩
    exact ⟨h1, h2, h3, h4, h5⟩
  · rintro ⟨h1, h2, h3, h4, h5⟩
    exact ⟨⟨⟨⟨h1, h2⟩, h3⟩, h4⟩, h5⟩
theorem let31_dec {a b : TLetter} (ha : BdL a) (hb : BdL b) : F_ref31_Letter a b = some (decide (a = b)) := by
  unfold F_ref31_Letter F_ref29_Letter
  simp only [Go.Proofs.YtnhgcpiljggmmaaGreatDoor.et]
  rw [env24_dec ha.et hb.et, nom29_dec ha.nt hb.nt ha.v ha.a]
  simp only [Option.bind_some, bool_and]
  congr 1
  rw [Bool.eq_iff_iff]
  cases a
  cases b
  simp only [Bool.and_eq_true, decide_eq_true_eq, TLetter.mk.injEq]
  constructor
  · rintro ⟨⟨⟨h1, h2⟩, h3⟩, h4⟩
    exact ⟨h1, h2, h4, h3⟩
  · rintro ⟨h1, h2, h3, h4⟩
    exact ⟨⟨⟨h1, h2⟩, h4⟩, h3⟩
theorem equal43 {a b : TStep} (ha : BdS a) (hb : BdS b) : F_ref43_Equal a b = some (decide (a = b)) := by
  unfold F_ref43_Equal
  simp only [Go.Proofs.YtnhgcpiljggmmaaGreatDoor.et]
  rw [tsame02 ha.trust hb.trust, let31_dec ha.letter hb.letter, ints31 _ _ (by have := ha.parts; omega)]
  simp only [Option.bind_some, bool_and]
  congr 1
  rw [Bool.eq_iff_iff]
  cases a
  cases b
  simp only [Bool.and_eq_true, decide_eq_true_eq, TStep.mk.injEq]
  constructor
  · rintro ⟨⟨⟨⟨⟨⟨⟨⟨h1, h2⟩, h3⟩, h4⟩, h5⟩, h6⟩, h7⟩, h8⟩, h9⟩
    exact ⟨h1, h2, h3, h4, h5, h6, h7, h8, h9⟩
  · rintro ⟨h1, h2, h3, h4, h5, h6, h7, h8, h9⟩
    exact ⟨⟨⟨⟨⟨⟨⟨⟨h1, h2⟩, h3⟩, h4⟩, h5⟩, h6⟩, h7⟩, h8⟩, h9⟩
end Go.Proofs.YtnhgcpiljggmmaaGreatDoor

set_option linter.unusedVariables false
set_option linter.unusedSimpArgs false
namespace Go.Proofs.YtnhgcpiljggmmaaGreatDoor
open Go.TQ Go.Proofs

theorem wrap_u64 {n : Int} (h1 : 0 ≤ n) (h2 : n < 18446744073709551616) : IntKind.u64.wrap n = n := by
  unfold IntKind.wrap
  simp [IntKind.bits, IntKind.signed]
  omega
theorem wrap_u8 {n : Int} (h1 : 0 ≤ n) (h2 : n < 256) : IntKind.u8.wrap n = n := by
  unfold IntKind.wrap
  simp [IntKind.bits, IntKind.signed]
  omega
theorem byte_ok {n : Int} (h1 : 0 ≤ n) (h2 : n < 256) : ∃ b, bytesI [n] = some [b] := by
  refine ⟨UInt8.ofNat n.toNat, ?_⟩
  have : TQ.byteOf n = some (UInt8.ofNat n.toNat) := by unfold TQ.byteOf; rw [if_pos ⟨h1, h2⟩]
  unfold bytesI bytesK bytesK
  rw [this]
/-- there, and short -/
def Sh (n : Nat) (o : Option ByteArray) : Prop := Yd o fun r => r.size ≤ n
theorem scat_sh {a b : ByteArray} {n m : Nat} (ha : a.size ≤ n) (hb : b.size ≤ m) (hn : n + m ≤ 1000000) : Sh (n + m) (scat a b) := by
  have := scat_bs a.data.toList b.data.toList (by rw [← size_data, ← size_data]; omega)
  rw [bs_of, bs_of] at this
  refine ⟨_, this, ?_⟩
  show (bs _).size ≤ _
  rw [bs_size, List.length_append, ← size_data, ← size_data]
  omega
theorem unsigned_sh : ∀ (m : Nat) (v : Int) (acc : ByteArray), v.toNat ≤ m → 0 ≤ v → v < 10000 → acc.size + m ≤ 20000 →
    Sh (acc.size + m + 1) (loopO (fun (v1 : Int × ByteArray × Unit) =>
      bif (decide ((9 : Int) < v1.1)) then
        Option.bind (bytesI [(convI .u8 (addI .u64 (48 : Int) (remI .u64 v1.1 (10 : Int))))]) fun x2 => Option.bind (scat (ByteArray.mk (List.toArray x2)) v1.2.1) fun x3 => some (Sum.inl ((quoI .u64 v1.1 (10 : Int)), x3, ()))
      else Option.map Sum.inr (Option.bind (bytesI [(convI .u8 (addI .u64 (48 : Int) v1.1))]) fun x4 => Option.bind (scat (ByteArray.mk (List.toArray x4)) v1.2.1) fun x5 => some x5)) (v, acc, ())) := by
  intro m
  induction m with
  | zero =>
    intro v acc hm h0 h1 ha
    refine Yd.loop ?_
    simp only []
    rw [decide_eq_false (by omega), cond_false]
    have e : convI .u8 (addI .u64 (48 : Int) v) = 48 + v := by unfold convI addI; rw [wrap_u64 (by omega) (by omega), wrap_u8 (by omega) (by omega)]
    obtain ⟨b, hb⟩ := byte_ok (n := 48 + v) (by omega) (by omega)
    rw [e, hb, Option.bind_some]
    obtain ⟨r, hr, hrs⟩ := scat_sh (a := ByteArray.mk (List.toArray [b])) (b := acc) (n := 1) (m := acc.size) (Nat.le_refl _) (Nat.le_refl _) (by omega)
    rw [hr]
    exact ⟨_, rfl, by show r.size ≤ acc.size + 0 + 1; omega⟩
  | succ m ih =>
    intro v acc hm h0 h1 ha
    refine Yd.loop ?_
    simp only []
    by_cases h9 : 9 < v
    · rw [decide_eq_true h9, cond_true]
      have hr0 : 0 ≤ v.tmod 10 := Int.tmod_nonneg _ h0
      have hr1 : v.tmod 10 < 10 := Int.tmod_lt_of_pos _ (by omega)
      have e : convI .u8 (addI .u64 (48 : Int) (remI .u64 v 10)) = 48 + v.tmod 10 := by unfold convI addI remI; rw [wrap_u64 (by omega) (by omega), wrap_u8 (by omega) (by omega)]
      obtain ⟨b, hb⟩ := byte_ok (n := 48 + v.tmod 10) (by omega) (by omega)
      rw [e, hb, Option.bind_some]
      obtain ⟨r, hr, hrs⟩ := scat_sh (a := ByteArray.mk (List.toArray [b])) (b := acc) (n := 1) (m := acc.size) (Nat.le_refl _) (Nat.le_refl _) (by omega)
      have hq : v.tdiv 10 = v / 10 := Int.tdiv_eq_ediv_of_nonneg h0
      have e2 : quoI .u64 v 10 = v / 10 := by unfold quoI; rw [hq, wrap_u64 (by omega) (by omega)]
      rw [hr, Option.bind_some, e2]
      have := ih (v / 10) r (by omega) (by omega) (by omega) (by omega)
      exact ⟨_, rfl, this.mono fun x hx => by omega⟩
    · rw [decide_eq_false h9, cond_false]
      have e : convI .u8 (addI .u64 (48 : Int) v) = 48 + v := by unfold convI addI; rw [wrap_u64 (by omega) (by omega), wrap_u8 (by omega) (by omega)]
      obtain ⟨b, hb⟩ := byte_ok (n := 48 + v) (by omega) (by omega)
      rw [e, hb, Option.bind_some]
      obtain ⟨r, hr, hrs⟩ := scat_sh (a := ByteArray.mk (List.toArray [b])) (b := acc) (n := 1) (m := acc.size) (Nat.le_refl _) (Nat.le_refl _) (by omega)
      rw [hr]
      exact ⟨_, rfl, by show r.size ≤ acc.size + (m + 1) + 1; omega⟩
theorem decimal_sh {n : Int} (h0 : 0 ≤ n) (h1 : n < 10000) : Sh 10001 (F_ref40_Decimal n) := by
  unfold F_ref40_Decimal
  rw [decide_eq_false (by omega), cond_false]
  have e : convI .u64 n = n := by unfold convI; exact wrap_u64 h0 (by omega)
  rw [e]
  have := unsigned_sh 10000 n (ByteArray.mk #[]) (by omega) h0 h1 (by show 0 + 10000 ≤ 20000; omega)
  refine Yd.bind (p := fun r => r.size ≤ 10001) (this.mono fun r hr => ?_) fun r hr => ⟨r, rfl, hr⟩
  have : (ByteArray.mk #[]).size = 0 := rfl
  omega
theorem Sh.bind {β : Type} {o : Option ByteArray} {n : Nat} {f : ByteArray → Option β} {p : β → Prop} (h : Sh n o) (k : ∀ r, r.size ≤ n → Yd (f r) p) : Yd (o.bind f) p := Yd.bind h k

theorem itoa_sh {n : Int} (h : I64 n) : Sh 21 (F_strconv_Itoa n) := ⟨_, itoaF_eq h, by show (bs _).size ≤ 21; rw [bs_size]; exact itoa_le h⟩
/-- there, with room for two -/
def Sz (n : Nat) (o : Option ByteArray) : Prop := Yd o fun r => r.size + 2 ≤ n
theorem text03_sh {n : Nat} : ∀ {t : TTrust}, SizeOf.sizeOf t < n → BdT t → wT t ≤ 1000 → Yd (I_ref03_text n (t, ())) fun r => r.size + 2 ≤ 60 * wT t := by
  induction n with
  | zero => intro t h; omega
  | succ n ih =>
    intro t h hb hw
    show Yd (B_ref03_text (I_ref03_text n) t) _
    obtain ⟨th, ns, is⟩ := t
    have h0 : I64 th ∧ (∀ x ∈ ns, I64 x) ∧ ∀ u ∈ is, BdT u := by cases hb with | mk _ h0 _ h2 _ h4 => exact ⟨h0, h2, h4⟩
    simp only [wT] at hw ⊢
    have hil := wL_len is
    unfold B_ref03_text
    refine (itoa_sh h0.1).bind fun r1 q1 => ?_
    refine (scat_sh (b := ByteArray.mk #[32, 111, 102, 32, 40]) q1 (show (ByteArray.mk #[32, 111, 102, 32, 40]).size ≤ 5 from Nat.le_refl _) (by omega)).bind fun x2 q2 => ?_
    -- the inner trusts
    have inner : ∀ (l : List TTrust) (pre : List TTrust) (x y : ByteArray), is = pre ++ l → x.size + 60 * wL l ≤ 30 + 25 * ns.length + 60 * wL is → y.size ≤ 2 → Sz (60 * (1 + ns.length + wL is)) (loopO (fun (v8 : ByteArray × ByteArray × Int × Unit) =>
        bif (decide (v8.2.2.1 < ((List.length is : Nat) : Int))) then
          Option.bind (idx is v8.2.2.1) fun x9 => Option.bind (scat v8.1 v8.2.1) fun x10 => Option.bind (I_ref03_text n ((eTTrust x9), ())) fun r11 => Option.bind (scat x10 r11) fun x12 => some (Sum.inl (x12, (ByteArray.mk #[44, 32]), (addI .i64 v8.2.2.1 (1 : Int)), ()))
        else Option.map Sum.inr (Option.bind (scat v8.1 (ByteArray.mk #[41])) fun x13 => some x13)) (x, y, (pre.length : Int), ())) := by
      intro l
      induction l with
      | nil =>
        intro pre x y he hx hy
        refine Yd.loop ?_
        simp only []
        rw [decide_eq_false (by rw [he]; simp), cond_false]
        refine Yd.inr ?_
        refine (scat_sh (n := x.size) (m := 1) (b := ByteArray.mk #[41]) (Nat.le_refl _) (Nat.le_refl _) (by omega)).bind fun z hz => ?_
        exact ⟨z, rfl, by simp only [wL] at hx; omega⟩
      | cons u l ihl =>
        intro pre x y he hx hy
        have hlen : is.length = pre.length + l.length + 1 := by rw [he]; simp; omega
        have hu : u ∈ is := by rw [he]; simp
        have hwu := wL_mem hu
        have h1u : 1 ≤ wT u := by cases u; simp only [wT]; omega
        refine Yd.loop ?_
        simp only []
        rw [decide_eq_true (by omega), cond_true, idx_nat, show is[pre.length]? = some u by rw [he]; simp, Option.bind_some]
        refine (scat_sh (n := x.size) (m := 2) (Nat.le_refl _) hy (by omega)).bind fun x10 q10 => ?_
        rw [et]
        refine (ih (t := u) (by have := inner_lt (t := ⟨th, ns, is⟩) hu; omega) (h0.2.2 u hu) (by omega)).bind fun r11 q11 => ?_
        refine (scat_sh (n := x.size + 2) (m := r11.size) q10 (Nat.le_refl _) (by omega)).bind fun x12 q12 => ?_
        rw [add64 (by omega) (by omega)]
        have := ihl (pre ++ [u]) x12 (ByteArray.mk #[44, 32]) (by rw [he]; simp) (by simp only [wL] at hx; omega) (Nat.le_refl _)
        rw [show (((pre ++ [u]).length : Nat) : Int) = (pre.length : Int) + 1 by simp] at this
        exact ⟨_, rfl, this⟩
    have outer : ∀ (l : List Int) (pre : List Int) (x y : ByteArray), ns = pre ++ l → x.size + 25 * l.length ≤ 30 + 25 * ns.length → y.size ≤ 2 → Sz (60 * (1 + ns.length + wL is)) (loopO (fun (v3 : ByteArray × ByteArray × Int × Unit) =>
        bif (decide (v3.2.2.1 < ((List.length ns : Nat) : Int))) then
          Option.bind (idx ns v3.2.2.1) fun x4 => Option.bind (scat v3.1 v3.2.1) fun x5 => Option.bind (F_strconv_Itoa x4) fun r6 => Option.bind (scat x5 r6) fun x7 => some (Sum.inl (x7, (ByteArray.mk #[44, 32]), (addI .i64 v3.2.2.1 (1 : Int)), ()))
        else Option.map Sum.inr (loopO (fun (v8 : ByteArray × ByteArray × Int × Unit) =>
          bif (decide (v8.2.2.1 < ((List.length is : Nat) : Int))) then
            Option.bind (idx is v8.2.2.1) fun x9 => Option.bind (scat v8.1 v8.2.1) fun x10 => Option.bind (I_ref03_text n ((eTTrust x9), ())) fun r11 => Option.bind (scat x10 r11) fun x12 => some (Sum.inl (x12, (ByteArray.mk #[44, 32]), (addI .i64 v8.2.2.1 (1 : Int)), ()))
          else Option.map Sum.inr (Option.bind (scat v8.1 (ByteArray.mk #[41])) fun x13 => some x13)) (v3.1, v3.2.1, (0 : Int), ()))) (x, y, (pre.length : Int), ())) := by
      intro l
      induction l with
      | nil =>
        intro pre x y he hx hy
        refine Yd.loop ?_
        simp only []
        rw [decide_eq_false (by rw [he]; simp), cond_false]
        refine Yd.inr ?_
        exact inner is [] x y rfl (by simp at hx; omega) hy
      | cons u l ihl =>
        intro pre x y he hx hy
        have hlen : ns.length = pre.length + l.length + 1 := by rw [he]; simp; omega
        have hu : u ∈ ns := by rw [he]; simp
        refine Yd.loop ?_
        simp only []
        rw [decide_eq_true (by omega), cond_true, idx_nat, show ns[pre.length]? = some u by rw [he]; simp, Option.bind_some]
        refine (scat_sh (n := x.size) (m := 2) (Nat.le_refl _) hy (by omega)).bind fun x10 q10 => ?_
        refine (itoa_sh (h0.2.1 u hu)).bind fun r11 q11 => ?_
        refine (scat_sh q10 q11 (by omega)).bind fun x12 q12 => ?_
        rw [add64 (by omega) (by omega)]
        have := ihl (pre ++ [u]) x12 (ByteArray.mk #[44, 32]) (by rw [he]; simp) (by simp at hx; omega) (Nat.le_refl _)
        rw [show (((pre ++ [u]).length : Nat) : Int) = (pre.length : Int) + 1 by simp] at this
        exact ⟨_, rfl, this⟩
    exact outer ns [] x2 (ByteArray.mk #[]) rfl (by omega) (Nat.zero_le _)
theorem text03 {t : TTrust} (hb : BdT t) (hw : wT t ≤ 1000) : Sh 60000 (F_ref03_Text t) := by
  unfold F_ref03_Text
  rw [et, tval_ref hb.sm, Option.bind_some]
  refine Yd.cond (fun _ => ⟨_, rfl, by show 1 ≤ 60000; omega⟩) fun _ => ?_
  refine Yd.bind (p := fun r : ByteArray => r.size ≤ 60000) ((text03_sh (n := SizeOf.sizeOf t + 1) (by omega) hb hw).mono fun r hr => by omega) fun r hr => ⟨r, rfl, hr⟩
end Go.Proofs.YtnhgcpiljggmmaaGreatDoor

set_option linter.unusedVariables false
set_option linter.unusedSimpArgs false
namespace Go.Proofs.YtnhgcpiljggmmaaGreatDoor
open Go.TQ Go.Proofs

theorem sidx_at {s : ByteArray} {i : Nat} (h : i < s.size) : sidx s (i : Int) = some (((s[i]'h).toNat : Nat) : Int) := by
  unfold sidx
  rw [if_pos (by omega), Int.toNat_natCast, getElem?_pos s i h]
  rfl
theorem word45 {s : ByteArray} (hs : s.size ≤ 100000000) : F_ref45_Word s = some (wordOk s) := by
  have key : ∀ (k i : Nat), s.size = i + k → (∀ (j : Nat) (hj : j < s.size), j < i → inW (s[j]'hj).toNat = true) → loopO (fun (v1 : Int × Unit) =>
      bif (decide (v1.1 < ((ByteArray.size s : Nat) : Int))) then
        Option.bind (sidx s v1.1) fun x2 => Option.bind (bif (decide ((97 : Int) ≤ x2)) then Option.bind (sidx s v1.1) fun x3 => some (decide (x3 ≤ (122 : Int))) else some false) fun b4 =>
        Option.bind (bif b4 then some true else Option.bind (sidx s v1.1) fun x5 => Option.bind (bif (decide ((48 : Int) ≤ x5)) then Option.bind (sidx s v1.1) fun x6 => some (decide (x6 ≤ (57 : Int))) else some false) fun b7 => some b7) fun b8 =>
        bif (!b8) then Option.map Sum.inr (some false) else some (Sum.inl ((addI .i64 v1.1 (1 : Int)), ()))
      else Option.map Sum.inr (Option.bind (bif (decide ((1 : Int) ≤ ((ByteArray.size s : Nat) : Int))) then some (decide (((ByteArray.size s : Nat) : Int) ≤ (20 : Int))) else some false) fun b9 => some b9)) ((i : Int), ()) = some (wordOk s) := by
    intro k
    induction k with
    | zero =>
      intro i hi hj
      refine loopO_inr ?_
      simp only []
      rw [decide_eq_false (by omega), cond_false, wordOk_of fun j hj' => hj j hj' (by omega)]
      by_cases h1 : 1 ≤ s.size
      · rw [decide_eq_true (show (1 : Int) ≤ ((s.size : Nat) : Int) by omega), decide_eq_true h1, cond_true, Option.bind_some, Bool.true_and, show decide (((s.size : Nat) : Int) ≤ 20) = decide (s.size ≤ 20) from decide_eq_decide.mpr (by omega)]
        rfl
      · rw [decide_eq_false (show ¬ (1 : Int) ≤ ((s.size : Nat) : Int) by omega), decide_eq_false h1]
        rfl
    | succ k ih =>
      intro i hi hj
      have hlt : i < s.size := by omega
      have e : inW (s[i]'hlt).toNat = ((decide ((97 : Int) ≤ (((s[i]'hlt).toNat : Nat) : Int)) && decide ((((s[i]'hlt).toNat : Nat) : Int) ≤ 122)) || (decide ((48 : Int) ≤ (((s[i]'hlt).toNat : Nat) : Int)) && decide ((((s[i]'hlt).toNat : Nat) : Int) ≤ 57))) := by
        unfold inW
        rw [decide_eq_decide.mpr (show 97 ≤ (s[i]'hlt).toNat ↔ (97 : Int) ≤ (((s[i]'hlt).toNat : Nat) : Int) by omega), decide_eq_decide.mpr (show (s[i]'hlt).toNat ≤ 122 ↔ (((s[i]'hlt).toNat : Nat) : Int) ≤ 122 by omega), decide_eq_decide.mpr (show 48 ≤ (s[i]'hlt).toNat ↔ (48 : Int) ≤ (((s[i]'hlt).toNat : Nat) : Int) by omega), decide_eq_decide.mpr (show (s[i]'hlt).toNat ≤ 57 ↔ (((s[i]'hlt).toNat : Nat) : Int) ≤ 57 by omega)]
      cases hw : inW (s[i]'hlt).toNat with
      | false =>
        rw [wordOk_not hlt hw]
        refine loopO_inr ?_
        simp only []
        rw [decide_eq_true (by omega), cond_true, sidx_at hlt]
        simp only [Option.bind_some]
        rw [hw] at e
        revert e
        cases decide ((97 : Int) ≤ (((s[i]'hlt).toNat : Nat) : Int)) <;> cases decide ((((s[i]'hlt).toNat : Nat) : Int) ≤ 122) <;> cases decide ((48 : Int) ≤ (((s[i]'hlt).toNat : Nat) : Int)) <;> cases decide ((((s[i]'hlt).toNat : Nat) : Int) ≤ 57) <;> intro e <;> first | rfl | cases e
      | true =>
        have hn := ih (i + 1) (by omega) fun j hj' hji => by
          by_cases hh : j < i
          · exact hj j hj' hh
          · have : j = i := by omega
            subst this
            exact hw
        rw [← hn]
        refine loopO_inl ?_
        simp only []
        rw [decide_eq_true (by omega), cond_true, sidx_at hlt]
        simp only [Option.bind_some]
        rw [add64 (by omega) (by omega), show (((i + 1 : Nat)) : Int) = (i : Int) + 1 by simp]
        rw [hw] at e
        revert e
        cases decide ((97 : Int) ≤ (((s[i]'hlt).toNat : Nat) : Int)) <;> cases decide ((((s[i]'hlt).toNat : Nat) : Int) ≤ 122) <;> cases decide ((48 : Int) ≤ (((s[i]'hlt).toNat : Nat) : Int)) <;> cases decide ((((s[i]'hlt).toNat : Nat) : Int) ≤ 57) <;> intro e <;> first | rfl | cases e
  exact key s.size 0 (by omega) fun j hj h => by omega
theorem in_node (n : Int) : F_ref45_in n 0 9 = some (nodeB n) := by
  unfold F_ref45_in nodeB
  rw [show decide (n ≤ 9) = decide (n < 10) from decide_eq_decide.mpr (by omega)]
  cases decide (0 ≤ n) <;> rfl
theorem in_count (n : Int) : F_ref45_in n 1 1000 = some (countB' n) := by
  unfold F_ref45_in countB'
  cases decide (1 ≤ n) <;> rfl
theorem in_set (n : Int) : F_ref45_in n 1 1023 = some (setB n) := by
  unfold F_ref45_in setB
  rw [show decide (n ≤ 1023) = decide (n < 1024) from decide_eq_decide.mpr (by omega)]
  cases decide (1 ≤ n) <;> rfl
theorem lie45 (a b c : Int) (v : ByteArray) : F_ref45_Lie a b c v = some (lieP a b c v) := by
  unfold F_ref45_Lie F_ref43_Lie
  simp only [Option.bind_some, Go.Proofs.YtnhgcpiljggmmaaGreatDoor.et]
  rfl
theorem nodeB_r {n : Int} (h : nodeB n = true) : 0 ≤ n ∧ n < 10000 := by
  simp only [nodeB, Bool.and_eq_true, decide_eq_true_eq] at h; omega
theorem countB_r {n : Int} (h : countB' n = true) : 0 ≤ n ∧ n < 10000 := by
  simp only [countB', Bool.and_eq_true, decide_eq_true_eq] at h; omega
theorem setB_r {n : Int} (h : setB n = true) : 0 ≤ n ∧ n < 10000 := by
  simp only [setB, Bool.and_eq_true, decide_eq_true_eq] at h; omega
theorem wordOk_r {s : ByteArray} (h : wordOk s = true) : s.size ≤ 20 := by
  simp only [wordOk, Bool.and_eq_true, decide_eq_true_eq] at h; omega
def There {α : Type} (o : Option α) : Prop := Yd o fun _ => True
set_option maxRecDepth 200000 in
theorem line45 {x : TStep} (hx : BdS x) (hw : wT x.Trust ≤ 1000) (hp : x.Parts.length ≤ 30) (hok : okP x = true) : There (F_ref45_line x) := by
  unfold F_ref45_line There
  simp only [Go.Proofs.YtnhgcpiljggmmaaGreatDoor.et]
  unfold okP at hok
  by_cases h1 : x.Kind = 1
  · rw [if_pos (Or.inl h1)] at hok
    simp only [Bool.and_eq_true] at hok
    rw [decide_eq_true h1, cond_true]
    refine (decimal_sh (nodeB_r hok.1).1 (nodeB_r hok.1).2).bind fun r1 q1 => ?_
    refine (scat_sh (n := 20) (by decide) q1 (by omega)).bind fun x2 q2 => ?_
    refine (scat_sh (m := 20) q2 (by decide) (by omega)).bind fun x3 q3 => ?_
    refine (decimal_sh (countB_r hok.2.1).1 (countB_r hok.2.1).2).bind fun r4 q4 => ?_
    refine (scat_sh q3 q4 (by omega)).bind fun x5 q5 => ?_
    refine (scat_sh (m := 20) q5 (by decide) (by omega)).bind fun x6 q6 => ?_
    refine (scat_sh q6 (wordOk_r hok.2.2) (by omega)).bind fun x7 q7 => ?_
    exact ⟨_, rfl, trivial⟩
  by_cases h8 : x.Kind = 8
  · rw [if_pos (Or.inr h8)] at hok
    simp only [Bool.and_eq_true] at hok
    rw [decide_eq_false h1, cond_false, decide_eq_true h8, cond_true]
    refine (decimal_sh (nodeB_r hok.1).1 (nodeB_r hok.1).2).bind fun r1 q1 => ?_
    refine (scat_sh (n := 20) (by decide) q1 (by omega)).bind fun x2 q2 => ?_
    refine (scat_sh (m := 20) q2 (by decide) (by omega)).bind fun x3 q3 => ?_
    refine (decimal_sh (countB_r hok.2.1).1 (countB_r hok.2.1).2).bind fun r4 q4 => ?_
    refine (scat_sh q3 q4 (by omega)).bind fun x5 q5 => ?_
    refine (scat_sh (m := 20) q5 (by decide) (by omega)).bind fun x6 q6 => ?_
    refine (scat_sh q6 (wordOk_r hok.2.2) (by omega)).bind fun x7 q7 => ?_
    exact ⟨_, rfl, trivial⟩
  rw [if_neg (by omega)] at hok
  rw [decide_eq_false h1, cond_false, decide_eq_false h8, cond_false]
  by_cases h2 : x.Kind = 2
  · rw [if_pos h2] at hok
    rw [decide_eq_true h2, cond_true]
    refine (decimal_sh (countB_r hok).1 (countB_r hok).2).bind fun r1 q1 => ?_
    refine (scat_sh (n := 20) (by decide) q1 (by omega)).bind fun x2 q2 => ?_
    exact ⟨_, rfl, trivial⟩
  rw [if_neg h2] at hok
  rw [decide_eq_false h2, cond_false]
  by_cases h4 : x.Kind = 4
  · rw [if_pos h4] at hok
    rw [decide_eq_true h4, cond_true]
    refine (decimal_sh (nodeB_r hok).1 (nodeB_r hok).2).bind fun r1 q1 => ?_
    refine (scat_sh (n := 20) (by decide) q1 (by omega)).bind fun x2 q2 => ?_
    exact ⟨_, rfl, trivial⟩
  rw [if_neg h4] at hok
  rw [decide_eq_false h4, cond_false]
  by_cases h7 : x.Kind = 7
  · rw [if_pos h7] at hok
    simp only [Bool.and_eq_true] at hok
    rw [decide_eq_true h7, cond_true]
    refine (decimal_sh (nodeB_r hok.1).1 (nodeB_r hok.1).2).bind fun r1 q1 => ?_
    refine (scat_sh (n := 20) (by decide) q1 (by omega)).bind fun x2 q2 => ?_
    refine (scat_sh (m := 20) q2 (by decide) (by omega)).bind fun x3 q3 => ?_
    refine (decimal_sh (nodeB_r hok.2.1).1 (nodeB_r hok.2.1).2).bind fun r4 q4 => ?_
    refine (scat_sh q3 q4 (by omega)).bind fun x5 q5 => ?_
    refine (scat_sh (m := 20) q5 (by decide) (by omega)).bind fun x6 q6 => ?_
    refine (decimal_sh (countB_r hok.2.2).1 (countB_r hok.2.2).2).bind fun r7 q7 => ?_
    refine (scat_sh q6 q7 (by omega)).bind fun x7 q8 => ?_
    exact ⟨_, rfl, trivial⟩
  rw [if_neg h7] at hok
  rw [decide_eq_false h7, cond_false]
  by_cases h3 : x.Kind = 3
  · rw [if_neg (by omega), if_pos h3] at hok
    simp only [Bool.and_eq_true] at hok
    rw [decide_eq_true h3, cond_true]
    refine (decimal_sh (nodeB_r hok.1).1 (nodeB_r hok.1).2).bind fun r1 q1 => ?_
    refine (scat_sh (n := 20) (by decide) q1 (by omega)).bind fun x2 q2 => ?_
    refine (scat_sh (m := 20) q2 (by decide) (by omega)).bind fun x3 q3 => ?_
    refine (text03 hx.trust hw).bind fun r4 q4 => ?_
    refine (scat_sh q3 q4 (by omega)).bind fun x5 q5 => ?_
    exact ⟨_, rfl, trivial⟩
  rw [decide_eq_false h3, cond_false]
  by_cases h5 : x.Kind = 5
  · rw [if_neg (by omega), if_neg h3, if_pos h5] at hok
    simp only [Bool.and_eq_true] at hok
    rw [decide_eq_true h5, cond_true]
    refine (decimal_sh (nodeB_r hok.1).1 (nodeB_r hok.1).2).bind fun r1 q1 => ?_
    refine (scat_sh (n := 20) (by decide) q1 (by omega)).bind fun x2 q2 => ?_
    refine (scat_sh (m := 20) q2 (by decide) (by omega)).bind fun x3 q3 => ?_
    refine (decimal_sh (nodeB_r hok.2.1).1 (nodeB_r hok.2.1).2).bind fun r4 q4 => ?_
    refine (scat_sh q3 q4 (by omega)).bind fun x5 q5 => ?_
    refine (scat_sh (m := 20) q5 (by decide) (by omega)).bind fun x6 q6 => ?_
    refine (decimal_sh (countB_r hok.2.2.1).1 (countB_r hok.2.2.1).2).bind fun r7 q7 => ?_
    refine (scat_sh q6 q7 (by omega)).bind fun x7 q8 => ?_
    refine (scat_sh (m := 20) q8 (by decide) (by omega)).bind fun x8 q9 => ?_
    refine (scat_sh q9 (wordOk_r hok.2.2.2) (by omega)).bind fun x9 q10 => ?_
    exact ⟨_, rfl, trivial⟩
  rw [decide_eq_false h5, cond_false]
  by_cases h6 : x.Kind = 6
  · rw [if_pos h6] at hok
    simp only [Bool.and_eq_true, Bool.not_eq_true', List.any_eq_false] at hok
    rw [decide_eq_true h6, cond_true]
    have key : ∀ (l pre : List Int) (y : ByteArray), x.Parts = pre ++ l → y.size + 10100 * l.length ≤ 400000 → Yd (loopO (fun (v42 : ByteArray × Int × Unit) =>
        bif (decide (v42.2.1 < ((List.length x.Parts : Nat) : Int))) then
          Option.bind (idx x.Parts v42.2.1) fun x43 => Option.bind (F_ref40_Decimal x43) fun r44 => Option.bind (scat (ByteArray.mk #[32]) r44) fun x45 => Option.bind (scat v42.1 x45) fun x46 => some (Sum.inl (x46, (addI .i64 v42.2.1 (1 : Int)), ()))
        else Option.map Sum.inr (some v42.1)) (y, (pre.length : Int), ())) fun _ => True := by
      intro l
      induction l with
      | nil =>
        intro pre y he hy
        refine Yd.loop ?_
        simp only []
        rw [decide_eq_false (by rw [he]; simp), cond_false]
        exact ⟨_, rfl, trivial⟩
      | cons u l ihl =>
        intro pre y he hy
        have hlen : x.Parts.length = pre.length + l.length + 1 := by rw [he]; simp; omega
        have hu : u ∈ x.Parts := by rw [he]; simp
        have hs : setB u = true := by have := hok.2 u hu; simpa using this
        rw [List.length_cons] at hy
        refine Yd.loop ?_
        simp only []
        rw [decide_eq_true (by omega), cond_true, idx_nat, show x.Parts[pre.length]? = some u by rw [he]; simp, Option.bind_some]
        refine (decimal_sh (setB_r hs).1 (setB_r hs).2).bind fun r44 q44 => ?_
        refine (scat_sh (n := 20) (by decide) q44 (by omega)).bind fun x45 q45 => ?_
        refine (scat_sh (n := y.size) (m := 10021) (Nat.le_refl _) q45 (by omega)).bind fun x46 q46 => ?_
        rw [add64 (by omega) (by omega)]
        have := ihl (pre ++ [u]) x46 (by rw [he]; simp) (by omega)
        rw [show (((pre ++ [u]).length : Nat) : Int) = (pre.length : Int) + 1 by simp] at this
        exact ⟨_, rfl, this⟩
    exact key x.Parts [] _ rfl (show 4 + 10100 * x.Parts.length ≤ 400000 by omega)
  rw [decide_eq_false h6, cond_false]
  exact ⟨_, rfl, trivial⟩

set_option maxHeartbeats 1000000 in
theorem step45 {x : TStep} (hx : BdS x) (hw : wT x.Trust ≤ 1000) (hp : x.Parts.length ≤ 30) : Yd (F_ref45_Step x) fun r => r.2.1 = true → plainP x = x ∧ okP x = true := by
  unfold F_ref45_Step
  rw [in_node, Option.bind_some]
  refine Yd.join (inv := fun v : Bool × TStep × Unit => okP x = v.1 ∧ ({ v.2.1 with Kind := x.Kind } : TStep) = plainP x) ?_ fun j3 hj => ?_
  · intro v hv
    obtain ⟨b, want, u⟩ := v
    have h1 : okP x = b := hv.1
    have h2 : ({ want with Kind := x.Kind } : TStep) = plainP x := hv.2
    simp only [Go.Proofs.YtnhgcpiljggmmaaGreatDoor.et]
    cases b with
    | false => exact ⟨_, rfl, fun h => by cases h⟩
    | true =>
      have e := equal43 hx (plain_bd hx)
      rw [← h2] at e
      by_cases hh : x = plainP x
      · have e' : F_ref43_Equal x { want with Kind := x.Kind } = some true := by rw [e, h2, decide_eq_true hh]
        obtain ⟨l, hl, -⟩ := line45 hx hw hp h1
        refine Yd.bind (p := fun b5 => b5 = false) ?_ fun b5 hb5 => ?_
        · rw [Bool.not_true, cond_false]
          exact ⟨false, by rw [e']; rfl, rfl⟩
        · subst hb5
          rw [cond_false]
          exact ⟨(l, true, ()), by rw [hl]; rfl, fun _ => ⟨hh.symm, h1⟩⟩
      · have e' : F_ref43_Equal x { want with Kind := x.Kind } = some false := by rw [e, h2, decide_eq_false hh]
        refine Yd.bind (p := fun b5 => b5 = true) ?_ fun b5 hb5 => ?_
        · rw [Bool.not_true, cond_false]
          exact ⟨true, by rw [e']; rfl, rfl⟩
        · subst hb5
          rw [cond_true]
          exact ⟨_, rfl, fun h => by cases h⟩
  have hv : wordOk x.Value = wordOk x.Value := rfl
  have w1 := word45 (s := x.Value) (by have := hx.value; omega)
  have w2 := word45 (s := x.Letter.Envelope.Ballot.Value) (by have := hx.bvalue; omega)
  rw [letJ_eq]
  simp only [in_node, in_count, w1, w2, lie45, tval_ref hx.trust.sm, Go.Proofs.YtnhgcpiljggmmaaGreatDoor.et, Option.bind_some]
  by_cases h1 : x.Kind = 1
  · rw [decide_eq_true h1, cond_true, cond_true]
    have e : okP x = (nodeB x.Node && (countB' x.Slot && wordOk x.Value)) := by simp [okP, h1]
    have e2 : plainP x = { Z0 with Kind := x.Kind, Node := x.Node, Slot := x.Slot, Value := x.Value } := by simp [plainP, h1]
    cases hn : nodeB x.Node <;> cases hc : countB' x.Slot <;> simp only [cond_true, cond_false, Option.bind_some] <;> exact hj _ ⟨by rw [e, hn, hc]; first | rfl | simp, by rw [e2]; rfl⟩
  rw [decide_eq_false h1, cond_false]
  by_cases h8 : x.Kind = 8
  · rw [decide_eq_true h8, cond_true]
    have e : okP x = (nodeB x.Node && (countB' x.Slot && wordOk x.Value)) := by simp [okP, h8]
    have e2 : plainP x = { Z0 with Kind := x.Kind, Node := x.Node, Slot := x.Slot, Value := x.Value } := by simp [plainP, h8]
    cases hn : nodeB x.Node <;> cases hc : countB' x.Slot <;> simp only [cond_true, cond_false, Option.bind_some] <;> exact hj _ ⟨by rw [e, hn, hc]; first | rfl | simp, by rw [e2]; rfl⟩
  rw [decide_eq_false h8, cond_false]
  by_cases h2 : x.Kind = 2
  · rw [decide_eq_true h2, cond_true]
    have e : okP x = countB' x.Count := by simp [okP, h2]
    have e2 : plainP x = { Z0 with Kind := x.Kind, Count := x.Count } := by simp [plainP, h2]
    exact hj _ ⟨e, by rw [e2]; rfl⟩
  rw [decide_eq_false h2, cond_false]
  by_cases h4 : x.Kind = 4
  · rw [decide_eq_true h4, cond_true]
    have e : okP x = nodeB x.Node := by simp [okP, h4]
    have e2 : plainP x = { Z0 with Kind := x.Kind, Node := x.Node } := by simp [plainP, h4]
    exact hj _ ⟨e, by rw [e2]; rfl⟩
  rw [decide_eq_false h4, cond_false]
  by_cases h7 : x.Kind = 7
  · rw [decide_eq_true h7, cond_true]
    have e : okP x = (nodeB x.Node && (nodeB x.To && countB' x.Count)) := by simp [okP, h7]
    have e2 : plainP x = { Z0 with Kind := x.Kind, Node := x.Node, To := x.To, Count := x.Count } := by simp [plainP, h7]
    cases hn : nodeB x.Node <;> cases hc : nodeB x.To <;> simp only [cond_true, cond_false, Option.bind_some] <;> exact hj _ ⟨by rw [e, hn, hc]; first | rfl | simp, by rw [e2]; rfl⟩
  rw [decide_eq_false h7, cond_false]
  by_cases h3 : x.Kind = 3
  · rw [decide_eq_true h3, cond_true]
    have e : okP x = (nodeB x.Node && decide (tval x.Trust = 0)) := by simp [okP, h3]
    have e2 : plainP x = { Z0 with Kind := x.Kind, Node := x.Node, Trust := x.Trust } := by simp [plainP, h3]
    cases hn : nodeB x.Node <;> simp only [cond_true, cond_false, Option.bind_some] <;> exact hj _ ⟨by rw [e, hn]; first | rfl | simp, by rw [e2]; rfl⟩
  rw [decide_eq_false h3, cond_false]
  by_cases h5 : x.Kind = 5
  · rw [decide_eq_true h5, cond_true]
    have e : okP x = (nodeB x.Node && (nodeB x.To && (countB' x.Letter.Slot && wordOk x.Letter.Envelope.Ballot.Value))) := by simp [okP, h5]
    have e2 : plainP x = lieP x.Node x.To x.Letter.Slot x.Letter.Envelope.Ballot.Value := by simp [plainP, h5]
    cases hn : nodeB x.Node <;> cases hm : nodeB x.To <;> cases hc : countB' x.Letter.Slot <;> simp only [cond_true, cond_false, Option.bind_some] <;> exact hj _ ⟨by rw [e, hn, hm, hc]; first | rfl | simp, by rw [e2, h5]; rfl⟩
  rw [decide_eq_false h5, cond_false]
  by_cases h6 : x.Kind = 6
  · rw [decide_eq_true h6, cond_true]
    have e : okP x = (decide (0 < x.Parts.length) && !(x.Parts.any fun n => !setB n)) := by simp [okP, h6]
    have e2 : plainP x = { Z0 with Kind := x.Kind, Parts := x.Parts } := by simp [plainP, h6]
    have key : ∀ (step : (Bool × Int × Unit) → Option ((Bool × Int × Unit) ⊕ (ByteArray × Bool × Unit))) (q : (ByteArray × Bool × Unit) → Prop),
        (∀ (b : Bool) (i : Nat) u, x.Parts[i]? = some u → step (b, (i : Int), ()) = some (.inl (b && setB u, (i : Int) + 1, ()))) →
        (∀ b, okP x = b → Yd (loopO step (b, (x.Parts.length : Int), ())) q) →
        ∀ (l pre : List Int) (b : Bool), x.Parts = pre ++ l → okP x = (b && !(l.any fun n => !setB n)) → Yd (loopO step (b, (pre.length : Int), ())) q := by
      intro step q k1 k2 l
      induction l with
      | nil =>
        intro pre b he hb
        rw [List.append_nil] at he
        rw [← he]
        exact k2 b (by rw [hb]; simp)
      | cons u l ihl =>
        intro pre b he hb
        rw [loopO_inl (k1 b pre.length u (by rw [he]; simp))]
        have := ihl (pre ++ [u]) (b && setB u) (by rw [he]; simp) (by rw [hb]; cases b <;> cases hs : setB u <;> simp [hs])
        rw [show (((pre ++ [u]).length : Nat) : Int) = (pre.length : Int) + 1 by simp] at this
        exact this
    refine key _ _ (fun b i u hu => ?_) (fun b hb => ?_) x.Parts [] _ rfl ?_
    · have hi : i < x.Parts.length := (List.getElem?_eq_some_iff.mp hu).1
      have := hx.parts
      simp only []
      rw [decide_eq_true (by omega), cond_true, idx_nat, hu, Option.bind_some, add64 (by omega) (by omega), in_set]
      cases b <;> rfl
    · refine Yd.loop ?_
      simp only []
      rw [decide_eq_false (by omega), cond_false]
      exact Yd.inr (hj _ ⟨hb, by rw [e2]; rfl⟩)
    · rw [e, show decide ((0 : Int) < ((x.Parts.length : Nat) : Int)) = decide (0 < x.Parts.length) from decide_eq_decide.mpr (by omega)]
  rw [decide_eq_false h6, cond_false]
  exact ⟨_, rfl, fun h => by cases h⟩
end Go.Proofs.YtnhgcpiljggmmaaGreatDoor

set_option linter.unusedVariables false
set_option linter.unusedSimpArgs false
namespace Go.Proofs.YtnhgcpiljggmmaaGreatDoor
open Go.TQ Go.Proofs

def at_ (e : TEnvelope) (n : Int) : TBallot := ⟨n, e.Ballot.Value⟩
def primeOk (e : TEnvelope) : Bool := zeroB e.Prime || (!zeroB e.Prepared && lessB e.Prime e.Prepared && !compat e.Prime e.Prepared)
def prepOk (e : TEnvelope) : Bool :=
  finite e.Ballot && (zeroB e.Prepared || validB e.Prepared) && (zeroB e.Prime || validB e.Prime) && primeOk e && decide (0 ≤ e.Low) && decide (e.Low ≤ e.High) && decide (e.High ≤ e.Ballot.Counter)
    && (decide (e.High = 0) || preparesB e.Prepared e.Prime (at_ e e.High)) && (decide (e.Low = 0) || (!aborts e.Prepared (at_ e e.Low) && !aborts e.Prime (at_ e e.Low)))
def ranged (e : TEnvelope) : Bool := decide (1 ≤ e.Low) && decide (e.Low ≤ e.High) && decide (e.High ≤ 1000)
def commOk (e : TEnvelope) : Bool := finite e.Ballot && validB e.Prepared && compat e.Prepared e.Ballot && zeroB e.Prime && ranged e && decide (e.High ≤ e.Prepared.Counter)
def extOk (e : TEnvelope) : Bool := validB e.Ballot && zeroB e.Prepared && zeroB e.Prime && ranged e
def headOk (e : TEnvelope) : Bool := decide (0 ≤ e.Node) && decide (e.Node < 10) && decide (1 ≤ e.Slot) && decide (e.Slot ≤ 1000000) && decide (1 ≤ e.Seq) && decide (e.Seq ≤ 1000000)
def validE (tv : Int) (e : TEnvelope) : Bool :=
  headOk e && decide (tv = 0) && (if e.Kind = 1 then prepOk e else if e.Kind = 2 then commOk e else if e.Kind = 3 then extOk e else false)

theorem dlt (a b : Int) : decide (a < b) = !decide (b ≤ a) := by by_cases h : a < b <;> simp [h] <;> omega
@[simp] theorem F_ref23_Valid_eq' (b : TBallot) : F_ref23_Valid b = some (validB b) := by
  have h1 : decide ((1 : Int) ≤ (b.Value.size : Nat)) = decide (1 ≤ b.Value.size) := by rw [decide_eq_decide]; omega
  have h2 : decide (((b.Value.size : Nat) : Int) ≤ 200) = decide (b.Value.size ≤ 200) := by rw [decide_eq_decide]; omega
  simp only [F_ref23_Valid, validB, h1, h2, bif_some, Option.bind_some, Bool.cond_false_right, Bool.cond_true_left]
theorem GoodT.bd {t : TTrust} (h : GoodT t) : BdT t := by
  have h1 := h.len
  have h2 := h.th
  have hi := h.inner
  have hn := h.nodes
  have hl : t.Inner.length ≤ 1 := by rcases hi with e | ⟨x, _, _, e⟩ <;> rw [e] <;> simp
  refine .mk t ⟨by omega, by omega⟩ (by omega) (fun x hx => ?_) (by omega) fun u hu => ?_
  · have := hn x hx; exact ⟨by omega, by omega⟩
  · rcases hi with e | ⟨x, hx1, hx2, e⟩
    · rw [e] at hu; cases hu
    · rw [e] at hu
      simp only [List.mem_singleton] at hu
      subst hu
      exact bd_leaf ⟨by omega, by omega⟩
theorem F_ref24_Valid_eq {e : TEnvelope} {tv : Int} (hT : F_ref02_Valid e.Trust = some tv) : F_ref24_Valid e = some (validE tv e) := by
  unfold F_ref24_Valid validE headOk
  simp [hT, dlt, commOk, extOk, ranged, prepOk, finite, primeOk, at_]
  have h9 : decide (e.Node ≤ 9) = !decide (10 ≤ e.Node) := by by_cases h : e.Node ≤ 9 <;> simp [h] <;> omega
  rw [h9]
  generalize (decide (0 ≤ e.Node) && !decide (10 ≤ e.Node) && decide (1 ≤ e.Slot) && decide (e.Slot ≤ 1000000) && decide (1 ≤ e.Seq) && decide (e.Seq ≤ 1000000) && decide (tv = 0)) = hd
  by_cases k1 : e.Kind = 1
  · simp only [k1, decide_true, cond_true, if_true]
    grind
  · grind


/-- an envelope of the source: its trust good, its ballot's value short -/
structure EnvM (node : Int) (e : TEnvelope) : Prop where
  node : e.Node = node
  trust : GoodT e.Trust
  val : e.Ballot.Value.size ≤ 2
theorem ref24_there {e : TEnvelope} (h : GoodT e.Trust) : Yd (F_ref24_Valid e) fun _ => True :=
  ⟨_, F_ref24_Valid_eq (tval_ref (GoodT.bd h).sm), trivial⟩
theorem Envelope_m {s : TSrc} (h : OkS s) {node slot : Int} {n : Nat} (hn2 : 1 ≤ n) (hn : n ≤ 10) :
    Yd (F_play_Src_Envelope s node slot n) fun p => OkS p.2 ∧ EnvM node p.1 := by
  unfold F_play_Src_Envelope
  refine (Range_ok h (by omega) (by omega) (by omega)).bind fun p1 ⟨a1, a2, a3, _⟩ => ?_
  refine (Trust_ok a1 hn2 hn).bind fun p2 ⟨b1, b2, b3, b4⟩ => ?_
  refine (Value_ok b1).bind fun p3 ⟨c1, c2⟩ => ?_
  have c3 := c2.size
  simp only [TTrust.eta, TEnvelope.eta]
  have z0 : noVal.size ≤ 2 := by decide
  refine Yd.join (fun v => OkS v.1 ∧ EnvM node v.2.1) (fun v hv => Yd.some hv) fun j5 hj5 => ?_
  refine (N_ok c1 (by omega)).bind fun p6 ⟨d1, _⟩ => ?_
  refine Yd.join (fun v => OkS v.1 ∧ v.2.1.Node = node ∧ v.2.1.Trust = p2.1) (fun v ⟨hv1, hv2, hv3⟩ => ?_) fun j8 hj8 => ?_
  · refine Yd.join (fun v => OkS v.1 ∧ EnvM node v.2.1) (fun v hv => hj5 _ hv) fun j10 hj10 => ?_
    refine (Range_ok hv1 (by omega) (by omega) (by omega)).bind fun p11 ⟨e1, e2, e3, _⟩ => ?_
    have e4 := e3 (by omega)
    refine Yd.join (fun v => OkS v.1 ∧ EnvM node v.2.1 ∧ v.2.1.Ballot.Counter = p11.1) (fun v ⟨f0, f1, f6⟩ => ?_) fun j13 hj13 => ?_
    · rw [f6]
      have g1 : addI .i64 p11.1 1 = p11.1 + 1 := add64 (by omega) (by omega)
      rw [g1]
      refine (N_ok f0 (by omega)).bind fun p14 ⟨i1, i2, i3, i4⟩ => ?_
      have i5 := i3 (by omega)
      have g2 : addI .i64 p14.1 1 = p14.1 + 1 := add64 (by omega) (by omega)
      rw [g2]
      refine (N_ok i1 (by omega)).bind fun p15 ⟨k1, k2, _⟩ => ?_
      refine Yd.join (fun v => EnvM node v.1) (fun v hv => ?_) fun j17 hj17 => ?_
      · refine Yd.join (fun v => EnvM node v.1) (fun v hv => ?_) fun j19 hj19 => ?_
        · refine (ref24_there hv.trust).bind fun r20 _ => ?_
          refine Yd.cond (fun _ => ?_) fun _ => ?_
          · exact hj10 _ ⟨k1, ⟨hv.node, hv.trust, hv.val⟩⟩
          · exact hj10 _ ⟨k1, hv⟩
        · refine (ref24_there hv.trust).bind fun r20 _ => ?_
          refine Yd.cond (fun _ => ?_) fun _ => ?_
          · exact hj19 _ ⟨hv.node, hv.trust, hv.val⟩
          · exact hj19 _ hv
      · refine (ref24_there (e := { v.2.1 with Low := p15.1, High := p14.1 }) f1.trust).bind fun r20 _ => ?_
        refine Yd.cond (fun _ => ?_) fun _ => ?_
        · exact hj17 _ ⟨f1.node, f1.trust, f1.val⟩
        · exact hj17 _ ⟨f1.node, f1.trust, f1.val⟩
    · have ht : GoodT v.2.1.Trust := by rw [hv3]; exact b2
      refine (N_ok e1 (by omega)).bind fun p23 ⟨l1, _⟩ => ?_
      refine Yd.cond (fun _ => ?_) fun _ => ?_
      · refine (Low_ok l1).bind fun p24 ⟨m1, _⟩ => ?_
        refine (N_ok m1 (by omega)).bind fun p25 ⟨o1, _⟩ => ?_
        refine Yd.cond (fun _ => ?_) fun _ => ?_
        · refine (Low_ok o1).bind fun p26 ⟨q1, _⟩ => ?_
          exact hj13 _ ⟨q1, ⟨hv2, ht, c3.2⟩, rfl⟩
        · exact hj13 _ ⟨o1, ⟨hv2, ht, c3.2⟩, rfl⟩
      · exact hj13 _ ⟨l1, ⟨hv2, ht, c3.2⟩, rfl⟩
  · refine Yd.cond (fun _ => ?_) fun _ => ?_
    · refine (Range_ok d1 (by omega) (by omega) (by omega)).bind fun p27 ⟨e1, _⟩ => ?_
      refine (Range_ok e1 (by omega) (by omega) (by omega)).bind fun p28 ⟨e2, _⟩ => ?_
      refine (N_ok e2 (by omega)).bind fun p29 ⟨e3, _⟩ => ?_
      refine (N_ok e3 (by omega)).bind fun p30 ⟨e4, _⟩ => ?_
      exact hj5 _ ⟨e4, ⟨rfl, b2, c3.2⟩⟩
    refine Yd.cond (fun _ => ?_) fun _ => ?_
    · refine (N_ok d1 (by omega)).bind fun p31 ⟨e1, _⟩ => ?_
      refine Yd.cond (fun _ => ?_) fun _ => ?_
      · refine (Range_ok e1 (by omega) (by omega) (by omega)).bind fun p32 ⟨e2, _⟩ => ?_
        refine (Range_ok e2 (by omega) (by omega) (by omega)).bind fun p33 ⟨e3, _⟩ => ?_
        refine (N_ok e3 (by omega)).bind fun p34 ⟨e4, _⟩ => ?_
        exact hj5 _ ⟨e4, ⟨rfl, b2, c3.2⟩⟩
      · exact hj8 _ ⟨e1, rfl, rfl⟩
    · exact hj8 _ ⟨d1, rfl, rfl⟩
/-! ### the steps of the source -/
structure SrcS (x : TStep) : Prop where
  bd : BdS x
  w : wT x.Trust ≤ 1000
  parts : x.Parts.length ≤ 30
  trust : x.Kind = 3 → GoodT x.Trust
  val : x.Value.size ≤ 2
  bval : x.Letter.Envelope.Ballot.Value.size ≤ 2
theorem mkS {k n t s c : Int} {v : ByteArray} {ps : List Int} (hn : I64 n) (ht : I64 t) (hs : I64 s) (hc : I64 c) (hv : v.size ≤ 2) (hp : ps.length ≤ 30) (hi : ∀ m ∈ ps, I64 m) (hk : k ≠ 3) : SrcS ⟨k, n, t, s, c, v, T0, L0, ps⟩ :=
  ⟨⟨hn, ht, hs, hc, i64_0, by show v.size ≤ _; omega, Nat.zero_le _, BdT.nil i64_0, by simp [T0, wT, wL], bd_L0, by show ps.length ≤ _; omega, hi⟩, by simp [T0, wT, wL], hp, fun h => absurd h hk, hv, Nat.zero_le _⟩
theorem conv_u {n : Int} (h0 : 0 ≤ n) (h1 : n ≤ 1000) : convI .u64 n = n := by unfold convI; exact wrap_u64 h0 (by omega)
theorem i64_s {n : Int} (h0 : -1000000 ≤ n) (h1 : n ≤ 1000000) : I64 n := ⟨by omega, by omega⟩
theorem i64_add (a b : Int) (h0 : 0 ≤ a) (h1 : a ≤ 1000) (h2 : 0 ≤ b) (h3 : b ≤ 1000) : I64 (addI .i64 a b) := by rw [add64 (by omega) (by omega)]; exact ⟨by omega, by omega⟩
theorem top_ok {n : Nat} (h1 : 1 ≤ n) (h2 : n ≤ 4) : 1 ≤ subI .i64 (shlI .i64 (1 : Int) (n : Int)) 1 ∧ subI .i64 (shlI .i64 (1 : Int) (n : Int)) 1 ≤ 15 := by
  have : n = 1 ∨ n = 2 ∨ n = 3 ∨ n = 4 := by omega
  rcases this with rfl | rfl | rfl | rfl <;> decide
set_option maxHeartbeats 2000000 in
theorem Step_m {s : TSrc} (h : OkS s) {n : Nat} {ill : Int} (hn1 : 1 ≤ n) (hn : n ≤ 4) : Yd (F_play_Src_Step s n ill) fun p => OkS p.2 ∧ SrcS p.1 := by
  unfold F_play_Src_Step
  simp only [TTrust.eta]
  refine (N_ok h (by omega)).bind fun p1 ⟨a1, a2, a3, _⟩ => ?_
  have a4 := a3 (by omega)
  have in1 : I64 p1.1 := i64_s (by omega) (by omega)
  have i1 : I64 1 := i64_s (by omega) (by omega)
  have hc : convI .u64 p1.1 = p1.1 := conv_u a2 (by omega)
  have hcn : convI .u64 (n : Int) = (n : Int) := conv_u (by omega) (by omega)
  refine Yd.join (fun v => OkS v.1) (fun v hv => ?_) fun j3 hj3 => ?_
  · refine (Range_ok hv (by omega) (by omega) (by omega)).bind fun p4 ⟨b1, b2, b3, _⟩ => ?_
    have b4 := b3 (by omega)
    exact ⟨_, rfl, b1, mkS i64_0 i64_0 i64_0 (i64_s (by omega) (by omega)) (Nat.zero_le _) (Nat.zero_le _) (fun m hm => by cases hm) (by omega)⟩
  refine (N_ok a1 (by omega)).bind fun p5 ⟨c1, c2, c3, _⟩ => ?_
  refine Yd.cond (fun _ => ?_) fun _ => ?_
  · refine (Range_ok c1 (by omega) (by omega) (by omega)).bind fun p6 ⟨b1, b2, b3, _⟩ => ?_
    have b4 := b3 (by omega)
    refine (Value_ok b1).bind fun p7 ⟨d1, d2⟩ => ?_
    exact ⟨_, rfl, d1, mkS in1 i64_0 (i64_s (by omega) (by omega)) i64_0 d2.size.2 (Nat.zero_le _) (fun m hm => by cases hm) (by omega)⟩
  refine Yd.join (fun _ => True) (fun v _ => ?_) fun j9 hj9 => ?_
  · refine Yd.cond (fun _ => ?_) fun _ => ?_
    · refine (Value_ok c1).bind fun p10 ⟨d1, d2⟩ => ?_
      exact ⟨_, rfl, d1, mkS in1 i64_0 i1 i64_0 d2.size.2 (Nat.zero_le _) (fun m hm => by cases hm) (by omega)⟩
    refine Yd.cond (fun _ => ?_) fun _ => ?_
    · refine (N_ok c1 (by omega)).bind fun p11 ⟨d1, d2, d3, _⟩ => ?_
      refine Yd.cond (fun _ => ?_) fun _ => ?_
      · rw [hcn, if_neg (by omega)]
        have ht := top_ok hn1 hn
        refine (N_ok d1 (by omega)).bind fun p12 ⟨e1, e2, e3, _⟩ => ?_
        have e4 := e3 ht.1
        exact ⟨_, rfl, e1, mkS i64_0 i64_0 i64_0 i64_0 (Nat.zero_le _) (by simp) (fun m hm => by rw [List.mem_singleton] at hm; rw [hm]; exact i64_add _ _ (by omega) (by omega) e2 (by omega)) (by omega)⟩
      · exact ⟨_, rfl, d1, mkS i64_0 i64_0 i64_0 i64_0 (Nat.zero_le _) (Nat.zero_le _) (fun m hm => by cases hm) (by omega)⟩
    refine Yd.cond (fun _ => ?_) fun _ => ?_
    · refine (N_ok c1 (by omega)).bind fun p13 ⟨d1, d2, d3, _⟩ => ?_
      have d4 := d3 (by omega)
      refine (N_ok d1 (by omega)).bind fun p14 ⟨e1, e2, e3, _⟩ => ?_
      have e4 := e3 (by omega)
      exact ⟨_, rfl, e1, mkS in1 (i64_s (by omega) (by omega)) i64_0 (i64_s (by omega) (by omega)) (Nat.zero_le _) (Nat.zero_le _) (fun m hm => by cases hm) (by omega)⟩
    refine Yd.cond (fun _ => ?_) fun _ => ?_
    · refine (N_ok c1 (by omega)).bind fun p15 ⟨d1, d2, d3, _⟩ => ?_
      refine Yd.cond (fun _ => ?_) fun _ => ?_
      · exact ⟨_, rfl, d1, mkS in1 i64_0 i64_0 i64_0 (Nat.zero_le _) (Nat.zero_le _) (fun m hm => by cases hm) (by omega)⟩
      · refine (Range_ok d1 (by omega) (by omega) (by omega)).bind fun p16 ⟨b1, b2, b3, _⟩ => ?_
        have b4 := b3 (by omega)
        exact ⟨_, rfl, b1, mkS i64_0 i64_0 i64_0 (i64_s (by omega) (by omega)) (Nat.zero_le _) (Nat.zero_le _) (fun m hm => by cases hm) (by omega)⟩
    refine Yd.cond (fun _ => ?_) fun _ => ?_
    · rw [hc, if_neg (by omega)]
      refine Yd.cond (fun _ => ?_) fun _ => ?_
      · refine (Envelope_m c1 hn1 (by omega)).bind fun p17 ⟨d1, d2⟩ => ?_
        refine (N_ok d1 (by omega)).bind fun p18 ⟨e1, e2, e3, _⟩ => ?_
        refine (N_ok e1 (by omega)).bind fun p19 ⟨f1, f2, f3, _⟩ => ?_
        have f4 := f3 (by omega)
        have hv := d2.val
        have it : I64 p19.1 := i64_s (by omega) (by omega)
        refine ⟨_, rfl, f1, ⟨⟨in1, it, i64_0, i64_0, i1, Nat.zero_le _, Nat.le_trans hv (by omega), BdT.nil i64_0, by simp [wT, wL], ⟨BdT.nil i64_0, d2.trust.bd, by simp, by simp⟩, by simp, by simp⟩, by simp [wT, wL], by simp, fun h => ?_, Nat.zero_le _, hv⟩⟩
        exact absurd (show (5 : Int) = 3 from h) (by omega)
      · refine (N_ok c1 (by omega)).bind fun p20 ⟨d1, _⟩ => ?_
        refine Yd.cond (fun _ => ?_) fun _ => ?_
        · refine (Trust_ok d1 hn1 (by omega)).bind fun p21 ⟨e1, e2, _⟩ => ?_
          have hw := good_w e2
          exact ⟨_, rfl, e1, ⟨⟨in1, i64_0, i64_0, i64_0, i64_0, Nat.zero_le _, Nat.zero_le _, e2.bd, by show wT p21.1 ≤ _; omega, bd_L0, by simp, by simp⟩, by show wT p21.1 ≤ _; omega, by simp, fun _ => e2, Nat.zero_le _, Nat.zero_le _⟩⟩
        · exact hj3 _ d1
    refine Yd.cond (fun _ => ?_) fun _ => ?_
    · rw [hc, if_neg (by omega)]
      refine Yd.cond (fun _ => ?_) fun _ => ?_
      · refine (N_ok c1 (by omega)).bind fun p22 ⟨d1, d2, d3, _⟩ => ?_
        have d4 := d3 (by omega)
        have it : I64 p22.1 := i64_s (by omega) (by omega)
        refine (Value_ok d1).bind fun p23 ⟨e1, e2⟩ => ?_
        have e3 := e2.size.2
        refine Yd.bind (p := fun r => r = lieP p1.1 p22.1 1 p23.1) ⟨_, rfl, rfl⟩ fun r24 hr => ?_
        subst hr
        exact ⟨_, rfl, e1, ⟨lie_bd in1 it i1 (Nat.le_trans e3 (by omega)), by simp [lieP, T0, wT, wL], by simp [lieP], fun h => absurd (show (5 : Int) = 3 from h) (by omega), Nat.zero_le _, e3⟩⟩
      · exact hj3 _ c1
    · exact hj3 _ c1
  · refine Yd.cond (fun _ => hj9 _ trivial) fun _ => hj9 _ trivial
end Go.Proofs.YtnhgcpiljggmmaaGreatDoor

set_option linter.unusedVariables false
set_option linter.unusedSimpArgs false
namespace Go.Proofs.YtnhgcpiljggmmaaGreatDoor
open Go.TQ Go.Proofs

theorem or_fin : ∀ (a : Fin 16) (i : Fin 4) (b : Fin 2), 0 ≤ orI .i64 ((a.val : Nat) : Int) (shlI .i64 ((b.val : Nat) : Int) ((i.val : Nat) : Int)) ∧ orI .i64 ((a.val : Nat) : Int) (shlI .i64 ((b.val : Nat) : Int) ((i.val : Nat) : Int)) < 16 := by decide
theorem or_ok {a b i : Int} (a0 : 0 ≤ a) (a1 : a < 16) (b0 : 0 ≤ b) (b1 : b < 2) (i0 : 0 ≤ i) (i1 : i < 4) : 0 ≤ orI .i64 a (shlI .i64 b i) ∧ orI .i64 a (shlI .i64 b i) < 16 := by
  obtain ⟨x, rfl⟩ := Int.eq_ofNat_of_zero_le a0
  obtain ⟨y, rfl⟩ := Int.eq_ofNat_of_zero_le b0
  obtain ⟨z, rfl⟩ := Int.eq_ofNat_of_zero_le i0
  exact or_fin ⟨x, by omega⟩ ⟨z, by omega⟩ ⟨y, by omega⟩
theorem shl_fin : ∀ i : Fin 4, 0 ≤ shlI .i64 1 ((i.val : Nat) : Int) ∧ shlI .i64 1 ((i.val : Nat) : Int) < 1024 := by decide
theorem shl_ok {i : Int} (i0 : 0 ≤ i) (i1 : i < 4) : 0 ≤ shlI .i64 1 i ∧ shlI .i64 1 i < 1024 := by
  obtain ⟨z, rfl⟩ := Int.eq_ofNat_of_zero_le i0
  exact shl_fin ⟨z, by omega⟩
theorem Some_m {s : TSrc} (h : OkS s) {n : Int} (hn : n ≤ 4) : Yd (F_play_Src_Some s n) fun p => OkS p.2 ∧ 0 ≤ p.1 ∧ p.1 < 16 := by
  unfold F_play_Src_Some
  have key : ∀ (k : Nat) (m i : Int) (s : TSrc), OkS s → 0 ≤ m → m < 16 → 0 ≤ i → n ≤ i + k → Yd (loopO (fun (v1 : Int × Int × TSrc × Unit) =>
      bif (decide (v1.2.1 < n)) then
        Option.bind (F_play_Src_N v1.2.2.1 (2 : Int)) fun p2 =>
        if (convI .u64 v1.2.1) < 0 then none else some (Sum.inl ((orI .i64 v1.1 (shlI .i64 p2.1 (convI .u64 v1.2.1))), (addI .i64 v1.2.1 (1 : Int)), p2.2, ()))
      else Option.map Sum.inr (some (v1.1, v1.2.2.1))) (m, i, s, ())) fun p => OkS p.2 ∧ 0 ≤ p.1 ∧ p.1 < 16 := by
    intro k
    induction k with
    | zero =>
      intro m i s h h0 h1 h2 h3
      refine Yd.loop ?_
      simp only []
      rw [decide_eq_false (by omega), cond_false]
      exact ⟨_, rfl, h, h0, h1⟩
    | succ k ih =>
      intro m i s h h0 h1 h2 h3
      refine Yd.loop ?_
      simp only []
      by_cases hi : i < n
      · rw [decide_eq_true hi, cond_true]
        refine (N_ok h (by omega)).bind fun p2 ⟨b1, b2, b3, _⟩ => ?_
        have b4 := b3 (by omega)
        rw [conv_u h2 (by omega), if_neg (by omega), add64 (by omega) (by omega)]
        have := or_ok h0 h1 b2 b4 h2 (by omega)
        exact ⟨_, rfl, ih _ (i + 1) p2.2 b1 this.1 this.2 (by omega) (by omega)⟩
      · rw [decide_eq_false hi, cond_false]
        exact ⟨_, rfl, h, h0, h1⟩
  exact key 4 0 0 s h (by omega) (by omega) (by omega) (by omega)
theorem Ill_m (s : TSrc) (h : OkS s) (n : Int) (hn1 : 1 ≤ n) (hn : n ≤ 4) : Yd (F_play_Src_Ill s n) fun p => OkS p.2 ∧ 0 ≤ p.1 ∧ p.1 < 1024 := by
  unfold F_play_Src_Ill
  refine (N_ok h (by omega)).bind fun p1 ⟨a1, _⟩ => ?_
  refine Yd.join (fun _ => True) (fun v _ => ?_) fun j3 hj3 => ?_
  · refine Yd.cond (fun _ => ?_) fun _ => ?_
    · exact ⟨_, rfl, a1, by show (0 : Int) ≤ 0; omega, by show (0 : Int) < 1024; omega⟩
    refine Yd.cond (fun _ => ?_) fun _ => ?_
    · refine (N_ok a1 (by omega)).bind fun p4 ⟨b1, b2, b3, _⟩ => ?_
      have b4 := b3 (by omega)
      rw [conv_u b2 (by omega), if_neg (by omega)]
      have := shl_ok b2 (by omega)
      exact ⟨_, rfl, b1, this.1, this.2⟩
    · refine (Some_m a1 hn).bind fun p5 ⟨b1, b2, b3⟩ => ?_
      exact ⟨_, rfl, b1, b2, by show p5.1 < 1024; omega⟩
  · refine Yd.cond (fun _ => hj3 _ trivial) fun _ => hj3 _ trivial
theorem Steps_m {s : TSrc} (h : OkS s) {n : Nat} {ill m : Int} (hn1 : 1 ≤ n) (hn : n ≤ 4) (hm0 : 0 ≤ m) (hm : m ≤ 1000) : Yd (F_play_Src_Steps s n ill m) fun p => OkS p.2 ∧ (p.1.length : Int) ≤ m ∧ ∀ x ∈ p.1, SrcS x := by
  unfold F_play_Src_Steps
  simp only [step_eta]
  rw [add64 (by omega) (by omega)]
  refine (N_ok h (by omega)).bind fun p1 ⟨a1, a2, a3, _⟩ => ?_
  have a4 := a3 (by omega)
  have key : ∀ (k : Nat) (i : Int) (acc : List TStep) (s : TSrc), OkS s → 0 ≤ i → i ≤ k → (acc.length : Int) + i ≤ m → (∀ x ∈ acc, SrcS x) → Yd (loopO (fun (v2 : Int × (List TStep) × TSrc × Unit) =>
      bif (decide ((0 : Int) < v2.1)) then
        Option.bind (F_play_Src_Step v2.2.2.1 n ill) fun p3 =>
        bif lenOk 448 (List.length v2.2.1 + List.length [p3.1]) then some (Sum.inl ((subI .i64 v2.1 (1 : Int)), (v2.2.1 ++ [p3.1]), p3.2, ())) else none
      else Option.map Sum.inr (some (v2.2.1, v2.2.2.1))) (i, acc, s, ())) fun p => OkS p.2 ∧ (p.1.length : Int) ≤ m ∧ ∀ x ∈ p.1, SrcS x := by
    intro k
    induction k with
    | zero =>
      intro i acc s h h0 h1 h2 h3
      refine Yd.loop ?_
      simp only []
      rw [decide_eq_false (by omega), cond_false]
      exact ⟨_, rfl, h, by show (acc.length : Int) ≤ m; omega, h3⟩
    | succ k ih =>
      intro i acc s h h0 h1 h2 h3
      refine Yd.loop ?_
      simp only []
      by_cases hi : 0 < i
      · rw [decide_eq_true hi, cond_true]
        refine (Step_m h hn1 hn).bind fun p3 ⟨b1, b2⟩ => ?_
        rw [lenOk_small (by simp; omega), cond_true, sub64 (by omega) (by omega)]
        refine ⟨_, rfl, ih (i - 1) (acc ++ [p3.1]) p3.2 b1 (by omega) (by omega) (by rw [List.length_append, List.length_singleton]; omega) fun x hx => ?_⟩
        rcases List.mem_append.1 hx with hx | hx
        · exact h3 x hx
        · rw [List.mem_singleton] at hx; rw [hx]; exact b2
      · rw [decide_eq_false hi, cond_false]
        exact ⟨_, rfl, h, by show (acc.length : Int) ≤ m; omega, h3⟩
  exact key 1000 p1.1 [] p1.2 a1 a2 (by omega) (by show ((0 : Nat) : Int) + p1.1 ≤ m; omega) fun x hx => by cases hx
theorem Begin_m {s : TSrc} (h : OkS s) {n : Nat} {ill : Int} (hn1 : 1 ≤ n) (hn : n ≤ 4) : Yd (F_play_Src_Begin s n ill 7) fun p => OkS p.2 ∧ p.1.length ≤ 11 ∧ ∀ x ∈ p.1, SrcS x := by
  unfold F_play_Src_Begin
  have key : ∀ (k : Nat) (i : Int) (acc : List TStep) (s : TSrc), OkS s → 0 ≤ i → (n : Int) ≤ i + k → i ≤ n → (acc.length : Int) ≤ i → (∀ x ∈ acc, SrcS x) → Yd (loopO (fun (v1 : Int × (List TStep) × TSrc × Unit) =>
      bif (decide (v1.1 < (n : Int))) then
        letJ (fun (v2 : (List TStep) × TSrc × Unit) => some (Sum.inl ((addI .i64 v1.1 (1 : Int)), v2.1, v2.2.1, ()))) fun j3 =>
        if (convI .u64 v1.1) < 0 then none else
        bif (decide ((andI .i64 (shrI .i64 ill (convI .u64 v1.1)) (1 : Int)) = (0 : Int))) then
          Option.bind (F_play_Src_Text v1.2.2.1 [(ByteArray.mk #[97]), (ByteArray.mk #[98])]) fun p4 =>
          bif lenOk 448 (List.length v1.2.1 + List.length [(TStep.mk (8 : Int) v1.1 (0 : Int) (1 : Int) (0 : Int) p4.1 T0 L0 ([] : List Int))]) then
            j3 ((v1.2.1 ++ [(TStep.mk (8 : Int) v1.1 (0 : Int) (1 : Int) (0 : Int) p4.1 T0 L0 ([] : List Int))]), p4.2, ())
          else none
        else j3 (v1.2.1, v1.2.2.1, ())
      else
        Option.map Sum.inr (Option.bind (F_play_Src_Steps v1.2.2.1 n ill 7) fun p5 =>
          bif lenOk 448 (List.length v1.2.1 + List.length p5.1) then some ((v1.2.1 ++ p5.1), p5.2) else none)) (i, acc, s, ())) fun p => OkS p.2 ∧ p.1.length ≤ 11 ∧ ∀ x ∈ p.1, SrcS x := by
    intro k
    have fin : ∀ (i : Int) (acc : List TStep) (s : TSrc), OkS s → (acc.length : Int) ≤ 4 → (∀ x ∈ acc, SrcS x) → Yd (Option.bind (F_play_Src_Steps s n ill 7) fun p5 =>
          bif lenOk 448 (List.length acc + List.length p5.1) then some ((acc ++ p5.1), p5.2) else none) fun p => OkS p.2 ∧ p.1.length ≤ 11 ∧ ∀ x ∈ p.1, SrcS x := by
      intro i acc s h h1 h2
      refine (Steps_m h hn1 hn (by omega) (by omega)).bind fun p5 ⟨b1, b2, b3⟩ => ?_
      rw [lenOk_small (by omega), cond_true]
      refine ⟨_, rfl, b1, ?_, fun x hx => ?_⟩
      · show (acc ++ p5.1).length ≤ 11
        rw [List.length_append]; omega
      · rcases List.mem_append.1 hx with hx | hx
        · exact h2 x hx
        · exact b3 x hx
    induction k with
    | zero =>
      intro i acc s h h0 h1 h2 h3 h4
      refine Yd.loop ?_
      simp only []
      rw [decide_eq_false (by omega), cond_false]
      exact Yd.inr (fin i acc s h (by omega) h4)
    | succ k ih =>
      intro i acc s h h0 h1 h2 h3 h4
      refine Yd.loop ?_
      simp only []
      by_cases hi : i < n
      · rw [decide_eq_true hi, cond_true, letJ_eq, conv_u h0 (by omega), if_neg (by omega), add64 (by omega) (by omega)]
        refine Yd.cond (fun _ => ?_) fun _ => ?_
        · refine (Text_ok h (by simp) (by simp)).bind fun p4 ⟨b1, b2⟩ => ?_
          have hv : p4.1.size ≤ 2 := by
            simp only [List.mem_cons, List.not_mem_nil, or_false] at b2
            rcases b2 with e | e <;> rw [e] <;> decide
          rw [lenOk_small (by simp; omega), cond_true]
          refine ⟨_, rfl, ih (i + 1) _ p4.2 b1 (by omega) (by omega) (by omega) (by rw [List.length_append, List.length_singleton]; omega) fun x hx => ?_⟩
          rcases List.mem_append.1 hx with hx | hx
          · exact h4 x hx
          · rw [List.mem_singleton] at hx
            rw [hx]
            exact mkS (i64_s (by omega) (by omega)) i64_0 (i64_s (by omega) (by omega)) i64_0 hv (Nat.zero_le _) (fun m hm => by cases hm) (by omega)
        · exact ⟨_, rfl, ih (i + 1) acc s h (by omega) (by omega) (by omega) (by omega) h4⟩
      · rw [decide_eq_false hi, cond_false]
        exact Yd.inr (fin i acc s h (by omega) h4)
  exact key n 0 [] s h (by omega) (by omega) (by omega) (by show ((0 : Nat) : Int) ≤ 0; omega) fun x hx => by cases hx
end Go.Proofs.YtnhgcpiljggmmaaGreatDoor
