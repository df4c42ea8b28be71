/-
  The order of ballots; joins. No program here.
-/
import Derived.Test.YtncjalhhkmojlaaCmp
namespace Go.Proofs.Ytncjalhhkmojlaa
open Go.TQ

theorem bl_irrefl : ∀ x : List UInt8, Op.bytesLess x x = false
  | [] => rfl
  | a :: x => by simp [Op.bytesLess, bl_irrefl x, UInt8.lt_irrefl]
theorem bl_trans : ∀ {x y z : List UInt8}, Op.bytesLess x y = true → Op.bytesLess y z = true → Op.bytesLess x z = true
  | [], [], _, h, _ => by simp [Op.bytesLess] at h
  | _ :: _, [], _, h, _ => by simp [Op.bytesLess] at h
  | [], _ :: _, [], _, h => by simp [Op.bytesLess] at h
  | [], _ :: _, _ :: _, _, _ => rfl
  | _ :: _, _ :: _, [], _, h => by simp [Op.bytesLess] at h
  | a :: x, b :: y, c :: z, h, h' => by
    simp only [Op.bytesLess, Bool.or_eq_true, decide_eq_true_eq, Bool.and_eq_true, beq_iff_eq] at h h' ⊢
    rcases h with h | ⟨rfl, h⟩
    · rcases h' with h' | ⟨rfl, h'⟩
      · exact .inl (UInt8.lt_trans h h')
      · exact .inl h
    · rcases h' with h' | ⟨rfl, h'⟩
      · exact .inl h'
      · exact .inr ⟨rfl, bl_trans h h'⟩
theorem bl_total : ∀ {x y : List UInt8}, x ≠ y → Op.bytesLess x y = true ∨ Op.bytesLess y x = true
  | [], [], h => absurd rfl h
  | [], _ :: _, _ => .inl rfl
  | _ :: _, [], _ => .inr rfl
  | a :: x, b :: y, h => by
    simp only [Op.bytesLess, Bool.or_eq_true, decide_eq_true_eq, Bool.and_eq_true, beq_iff_eq]
    by_cases hab : a = b
    · subst hab
      rcases bl_total (show x ≠ y from fun e => h (by rw [e])) with h1 | h1
      · exact .inl (.inr ⟨rfl, h1⟩)
      · exact .inr (.inr ⟨rfl, h1⟩)
    · have : a.toNat ≠ b.toNat := fun e => hab (UInt8.toNat_inj.1 e)
      rcases Nat.lt_or_gt_of_ne this with h1 | h1
      · exact .inl (.inl (UInt8.lt_iff_toNat_lt.2 h1))
      · exact .inr (.inl (UInt8.lt_iff_toNat_lt.2 h1))
theorem sless_irrefl (a : ByteArray) : sless a a = false := bl_irrefl _
theorem sless_trans {a b c : ByteArray} (h : sless a b = true) (h' : sless b c = true) : sless a c = true := bl_trans h h'
theorem sless_total {a b : ByteArray} (h : a ≠ b) : sless a b = true ∨ sless b a = true :=
  bl_total fun e => h (by
    rw [Lib.toList_data, Lib.toList_data] at e
    cases a; cases b
    rename_i x y
    cases x; cases y
    simp_all)

theorem lessB_iff (a b : Ballot) : lessB a b = true ↔ a.c < b.c ∨ a.c = b.c ∧ (a.v.size < b.v.size ∨ a.v.size = b.v.size ∧ sless a.v b.v = true) := by
  have hs := sless_total (a := a.v) (b := b.v)
  simp only [lessB, cmpB, cmpV, orI, cmpI, cmpS, decide_eq_true_eq]
  grind
theorem lessBr_eq (a b : Ballot) : lessBr a b = lessB a b := by
  rw [Bool.eq_iff_iff, lessB_iff]
  simp only [lessBr, lessVr]
  grind
theorem lessB_irrefl (a : Ballot) : lessB a a = false := by
  rw [← Bool.not_eq_true, lessB_iff]
  simp [sless_irrefl]
theorem lessB_trans {a b c : Ballot} (h : lessB a b = true) (h' : lessB b c = true) : lessB a c = true := by
  rw [lessB_iff] at *
  have := sless_trans (a := a.v) (b := b.v) (c := c.v)
  grind
theorem lessB_total {a b : Ballot} (h : a ≠ b) : lessB a b = true ∨ lessB b a = true := by
  rw [lessB_iff, lessB_iff]
  have := sless_total (a := a.v) (b := b.v)
  have : a.c = b.c → a.v ≠ b.v := fun h1 h2 => h (Ballot.ext' h1 h2)
  grind
theorem coversR_eq (p b : Ballot) : coversR p b = covers p b := rfl
theorem abortsR_eq (p b : Ballot) : abortsR p b = aborts p b := by simp [abortsR, aborts, lessBr_eq]
theorem preparesR_eq (p q b : Ballot) : preparesR p q b = prepares p q b := by simp [preparesR, prepares, lessBr_eq, coversR_eq]

/-! ### joins -/
def join (hi lo b : Ballot) : Ballot × Ballot :=
  if zeroB b then (hi, lo) else if zeroB hi then (b, lo) else
  if lessB hi b then (b, if compat hi b then (if compat lo b then ⟨0, ⟨#[]⟩⟩ else lo) else hi) else
  if lessB b hi && !compat hi b && (zeroB lo || lessB lo b) then (hi, b) else (hi, lo)
def Joined (hi lo : Ballot) (all : List Ballot) : Prop :=
  (zeroB hi = true → all = [] ∧ zeroB lo = true) ∧ (zeroB lo = false → lessB lo hi = true ∧ compat lo hi = false) ∧ ∀ c ∈ all, prepares hi lo c = true
theorem zeroB_iff (b : Ballot) : zeroB b = true ↔ b = ⟨0, ⟨#[]⟩⟩ := by
  cases b; simp [zeroB]
theorem prepares_iff (p q b : Ballot) : prepares p q b = true ↔ (zeroB p = false ∧ p.v = b.v ∧ b.c ≤ p.c) ∨ (zeroB q = false ∧ q.v = b.v ∧ b.c ≤ q.c) ∨ (zeroB q = false ∧ lessB b q = true) := by
  simp [prepares, covers, compat, and_assoc, or_assoc]
theorem covers_less {p b : Ballot} (h : p.v = b.v) (hc : b.c ≤ p.c) : b = p ∨ lessB b p = true := by
  by_cases he : b.c = p.c
  · exact .inl (Ballot.ext' he h.symm)
  · exact .inr ((lessB_iff _ _).2 (.inl (by omega)))
theorem compat_less {p b : Ballot} (h : p.v = b.v) (hl : lessB b p = true) : b.c ≤ p.c := by
  rw [lessB_iff, h] at hl
  rcases hl with hl | ⟨hl, _⟩ <;> omega
theorem join_ok {hi lo b : Ballot} {all : List Ballot} (h : Joined hi lo all) (hb : zeroB b = false) :
    zeroB (join hi lo b).1 = false ∧ Joined (join hi lo b).1 (join hi lo b).2 (all ++ [b]) := by
  obtain ⟨h1, h2, h3⟩ := h
  unfold join
  rw [if_neg (by simp [hb])]
  cases hz : zeroB hi with
  | true =>
    obtain ⟨rfl, hl⟩ := h1 hz
    simp only [if_true]
    refine ⟨hb, by simp [hb], by simp [hl], ?_⟩
    simp [prepares_iff, hb]
  | false =>
    simp only [Bool.false_eq_true, if_false]
    cases hlt : lessB hi b with
    | true =>
      simp only [if_true]
      cases hc : compat hi b with
      | true =>
        have hcv : hi.v = b.v := by simpa [compat] using hc
        simp only [if_true]
        cases hcl : compat lo b with
        | true =>
          have hclv : lo.v = b.v := by simpa [compat] using hcl
          have hzl : zeroB lo = true := by
            cases hq : zeroB lo with
            | true => rfl
            | false => have := (h2 hq).2; simp [compat] at this; exact absurd (hclv.trans hcv.symm) this
          have hz0 : zeroB ⟨0, ⟨#[]⟩⟩ = true := by simp [zeroB]
          simp only [if_true]
          refine ⟨hb, by simp [hb], by simp [hz0], fun c hc' => ?_⟩
          rw [prepares_iff]
          rcases List.mem_append.1 hc' with hm | hm
          · have := (prepares_iff _ _ _).1 (h3 c hm)
            rcases this with ⟨_, p, q⟩ | ⟨p, _⟩ | ⟨p, _⟩
            · exact .inl ⟨hb, hcv.symm.trans p, by have := compat_less hcv.symm hlt; omega⟩
            · rw [hzl] at p; cases p
            · rw [hzl] at p; cases p
          · simp at hm; subst hm; exact .inl ⟨hb, rfl, Int.le_refl _⟩
        | false =>
          simp only [Bool.false_eq_true, if_false]
          refine ⟨hb, by simp [hb], fun hq => ⟨lessB_trans (h2 hq).1 hlt, hcl⟩, fun c hc' => ?_⟩
          rw [prepares_iff]
          rcases List.mem_append.1 hc' with hm | hm
          · have := (prepares_iff _ _ _).1 (h3 c hm)
            rcases this with ⟨_, p, q⟩ | h | h
            · exact .inl ⟨hb, hcv.symm.trans p, by have := compat_less hcv.symm hlt; omega⟩
            · exact .inr (.inl h)
            · exact .inr (.inr h)
          · simp at hm; subst hm; exact .inl ⟨hb, rfl, Int.le_refl _⟩
      | false =>
        simp only [Bool.false_eq_true, if_false]
        refine ⟨hb, by simp [hb], fun _ => ⟨hlt, hc⟩, fun c hc' => ?_⟩
        rw [prepares_iff]
        rcases List.mem_append.1 hc' with hm | hm
        · have := (prepares_iff _ _ _).1 (h3 c hm)
          rcases this with ⟨_, p, q⟩ | ⟨hq, p, q⟩ | ⟨hq, p⟩
          · exact .inr (.inl ⟨hz, p, q⟩)
          · rcases covers_less p q with rfl | h
            · exact .inr (.inr ⟨hz, (h2 hq).1⟩)
            · exact .inr (.inr ⟨hz, lessB_trans h (h2 hq).1⟩)
          · exact .inr (.inr ⟨hz, lessB_trans p (h2 hq).1⟩)
        · simp at hm; subst hm; exact .inl ⟨hb, rfl, Int.le_refl _⟩
    | false =>
      simp only [Bool.false_eq_true, if_false]
      cases hlt2 : lessB b hi && !compat hi b && (zeroB lo || lessB lo b) with
      | true =>
        simp only [Bool.and_eq_true, Bool.not_eq_true', Bool.or_eq_true] at hlt2
        obtain ⟨⟨p1, p2⟩, p3⟩ := hlt2
        simp only [if_true]
        refine ⟨hz, by simp [hz], fun _ => ⟨p1, by simp [compat] at p2 ⊢; exact fun e => p2 e.symm⟩, fun c hc' => ?_⟩
        rw [prepares_iff]
        rcases List.mem_append.1 hc' with hm | hm
        · have := (prepares_iff _ _ _).1 (h3 c hm)
          rcases this with h | ⟨hq, p, q⟩ | ⟨hq, p⟩
          · exact .inl h
          · rcases p3 with p3 | p3
            · rw [hq] at p3; cases p3
            · rcases covers_less p q with rfl | h
              · exact .inr (.inr ⟨hb, p3⟩)
              · exact .inr (.inr ⟨hb, lessB_trans h p3⟩)
          · rcases p3 with p3 | p3
            · rw [hq] at p3; cases p3
            · exact .inr (.inr ⟨hb, lessB_trans p p3⟩)
        · simp at hm; subst hm; exact .inr (.inl ⟨hb, rfl, Int.le_refl _⟩)
      | false =>
        simp only [Bool.false_eq_true, if_false]
        refine ⟨hz, by simp [hz], h2, fun c hc' => ?_⟩
        rcases List.mem_append.1 hc' with hm | hm
        · exact h3 c hm
        · simp at hm; subst hm
          rw [prepares_iff]
          by_cases he : c = hi
          · subst he; exact .inl ⟨hz, rfl, Int.le_refl _⟩
          · have hch : lessB c hi = true := by
              rcases lessB_total he with h | h
              · exact h
              · rw [hlt] at h; cases h
            cases hcc : compat hi c with
            | true =>
              have hcv : hi.v = c.v := by simpa [compat] using hcc
              exact .inl ⟨hz, hcv, compat_less hcv hch⟩
            | false =>
              simp [hch, hcc] at hlt2
              by_cases he2 : c = lo
              · subst he2; exact .inr (.inl ⟨hb, rfl, Int.le_refl _⟩)
              · rcases lessB_total he2 with h | h
                · exact .inr (.inr ⟨hlt2.1, h⟩)
                · rw [hlt2.2] at h; cases h
end Go.Proofs.Ytncjalhhkmojlaa
