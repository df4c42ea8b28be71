/-
  The law CommitParts as a plain function: it returns true. Conditions: none.
-/
import Derived.Test.YtncjalhhkmojlaaGreatPEnvs
set_option linter.unusedVariables false
namespace Go.Proofs.YtncjalhhkmojlaaGreat
open Go.TQ

theorem cConfirms_eq {node : Nat} (hn : node < 10) {t : TTrust} (ht : SmT t) {l : List TEnvelope} (hl : SmL l) (val : ByteArray) (lo hi : Int) : F_commit_Confirms node t l val lo hi = some (commSure node t l val lo hi) := by
  simp only [F_commit_Confirms, TTrust.eta, look_eq hn ht hl, sure_eq hn ht hl, Option.bind_some]
theorem rAcceptsC_val {e : TEnvelope} (h : SmT e.Trust) (v : ByteArray) (lo hi : Int) : ∃ b, F_ref24_AcceptsCommit e v lo hi = some b ∧ (b = true → e.Ballot.Value = v) := by
  have hv := rValid_eq h
  unfold F_ref24_AcceptsCommit
  simp only [TTrust.eta, TEnvelope.eta, hv, Option.bind_some]
  by_cases hval : e.Ballot.Value = v
  · cases isValid e <;> simp [hval] <;> (repeat' split) <;> simp
  · cases isValid e <;> simp [hval]
theorem parts (t : List Int) : F_law26_CommitParts t = some true := by
  refine Yd.eq_true ?_
  unfold F_law26_CommitParts
  refine (New_ok t).bind fun s hs => ?_
  refine (Envelopes_ok (n := 5) hs (by omega) (by omega)).bind fun p2 ⟨a1, a2⟩ => ?_
  refine (N_ok a1 (by omega)).bind fun p3 ⟨b1, b2, b3, _⟩ => ?_
  refine (Trust_ok (n := 5) b1 (by omega) (by omega)).bind fun p4 ⟨c1, c2, c3, c4⟩ => ?_
  refine (Value_ok c1).bind fun p5 ⟨d1, d2⟩ => ?_
  refine (Value_ok d1).bind fun p6 ⟨e1, e2⟩ => ?_
  refine (Range_ok e1 (by omega) (by omega) (by omega)).bind fun p7 ⟨f1, f2, f3, _⟩ => ?_
  refine (N_ok f1 (by omega)).bind fun p8 ⟨g1, g2, g3, _⟩ => ?_
  have f4 := f3 (by omega)
  have g4 := g3 (by omega)
  have hhi : addI .i64 p7.1 p8.1 = p7.1 + p8.1 := add64 (by omega) (by omega)
  rw [hhi]
  refine (Range_ok g1 (by omega) (by omega) (by omega)).bind fun p9 ⟨h1, h2, h3, _⟩ => ?_
  have h4 := h3 (by omega)
  obtain ⟨node, hnode⟩ : ∃ node : Nat, p3.1 = node := ⟨p3.1.toNat, by omega⟩
  have b4 := b3 (by omega)
  have hn : node < 10 := by omega
  have hsm := a2.sm (by omega)
  simp only [TTrust.eta, TEnvelope.eta, hnode, cAccepts_eq hn c2.sm hsm, cConfirms_eq hn c2.sm hsm, Option.bind_some, bif_some]
  have r1 := ready_part (node := node) c2.sm hsm (v := p5.1) h2 h4
  have r2 := sure_part (node := node) c2.sm hsm (v := p5.1) h2 h4
  have e3 : (bif commReady node p4.1 p2.1 p5.1 p7.1 (p7.1 + p8.1) then !commReady node p4.1 p2.1 p5.1 p9.1 p9.1 else false) = false := by
    cases hc : commReady node p4.1 p2.1 p5.1 p7.1 (p7.1 + p8.1) with
    | false => rfl
    | true => rw [r1 hc]; rfl
  have e4 : (bif commSure node p4.1 p2.1 p5.1 p7.1 (p7.1 + p8.1) then !commSure node p4.1 p2.1 p5.1 p9.1 p9.1 else false) = false := by
    cases hc : commSure node p4.1 p2.1 p5.1 p7.1 (p7.1 + p8.1) with
    | false => rfl
    | true => rw [r2 hc]; rfl
  rw [e3, e4]
  simp only [cond_false]
  have hlen := a2.len
  suffices key : ∀ (k i : Nat), i + k = p2.1.length → Yd (loopO _ ((i : Int), ())) _ from key p2.1.length 0 (by omega)
  intro k
  induction k with
  | zero =>
    intro i hi
    obtain rfl : i = p2.1.length := by omega
    refine Yd.loop ?_
    have hd : decide (((p2.1.length : Nat) : Int) < ((p2.1.length : Nat) : Int)) = false := decide_eq_false (Int.lt_irrefl _)
    simp only [hd, cond_false, sane26, Option.bind_some]
    exact Yd.inr (Yd.some rfl)
  | succ k ih =>
    intro i hi
    have hlt : i < p2.1.length := by omega
    have hd : decide ((i : Int) < ((p2.1.length : Nat) : Int)) = true := decide_eq_true (by omega)
    have hw : addI .i64 (i : Int) 1 = ((i + 1 : Nat) : Int) := add64 (by omega) (by omega)
    have hx : idx p2.1 (i : Int) = some p2.1[i] := by rw [idx_nat]; exact List.getElem?_eq_getElem hlt
    have hse := hsm.trust _ (List.getElem_mem hlt)
    obtain ⟨x, hx1, hx2⟩ := rAcceptsC_val hse p5.1 p9.1 p9.1
    obtain ⟨y, hy1, hy2⟩ := rAcceptsC_val hse p6.1 p9.1 p9.1
    refine Yd.loop ?_
    simp only [hd, hw, hx, cond_true, Option.bind_some, hx1, hy1, bif_some]
    have e5 : (bif (bif (!decide (p5.1 = p6.1)) then x else false) then y else false) = false := by
      by_cases hpp : p5.1 = p6.1
      · simp [hpp]
      · cases x with
        | false => simp
        | true =>
          cases y with
          | false => simp
          | true => exact absurd ((hx2 rfl).symm.trans (hy2 rfl)) hpp
    rw [e5, cond_false]
    exact Yd.some (ih (i + 1) (by omega))
end Go.Proofs.YtncjalhhkmojlaaGreat
