/-
  The law PrepareQuorum as a plain function: it returns true. Conditions: none.
-/
import Derived.Test.YtncjalhhkmojlaaGreatPLawB
namespace Go.Proofs.YtncjalhhkmojlaaGreat
open Go.TQ

/-! ### what a view shows -/
theorem view_get : ∀ (l : List TEnvelope) (ms : List TMember) (k : Nat) (m : TMember), ms[k]? = some m →
    (l.foldl viewStep ms)[k]? = some (if m.Declared then m else match (rights l).find? (fun e => decide (e.Node.toNat = k)) with | some e => ⟨true, e.Trust⟩ | none => m)
  | [], ms, k, m, h => by simp [rights, h]
  | e :: l, ms, k, m, h => by
    rw [List.foldl_cons]
    by_cases hv : isValid e = true
    · have hr : rights (e :: l) = e :: rights l := by simp [rights, hv]
      rw [hr, List.find?_cons]
      by_cases hk : e.Node.toNat = k
      · have hstep : (viewStep ms e)[k]? = some (if m.Declared then m else ⟨true, e.Trust⟩) := by
          unfold viewStep
          rw [hv, hk, h]
          cases hm : m.Declared with
          | true => simp [hm, h]
          | false =>
            have hlt : k < ms.length := (List.getElem?_eq_some_iff.1 h).1
            simp [hm, hlt]
        rw [view_get l _ k _ hstep]
        cases hm : m.Declared with
        | true => simp [hm]
        | false => simp [hk]
      · have hstep : (viewStep ms e)[k]? = some m := by
          unfold viewStep
          split
          · rw [List.getElem?_set_ne hk]; exact h
          · exact h
        rw [view_get l _ k m hstep]
        simp [hk]
    · have hv' : isValid e = false := by simpa using hv
      have hr : rights (e :: l) = rights l := by simp [rights, hv']
      have hstep : viewStep ms e = ms := by simp [viewStep, hv']
      rw [hr, hstep]
      exact view_get l ms k m h
theorem viewN_get {node : Nat} {t : TTrust} {l : List TEnvelope} {k : Nat} (hk : k < 10) (hn : node < 10) :
    (viewN node t l)[k]? = some (if k = node then ⟨true, t⟩ else match (rights l).find? (fun e => decide (e.Node.toNat = k)) with | some e => ⟨true, e.Trust⟩ | none => noMember) := by
  unfold viewN
  by_cases h : k = node
  · subst h
    rw [view_get l _ k ⟨true, t⟩ (by simp [hk])]
    simp
  · rw [view_get l _ k noMember (by
      rw [List.getElem?_set_ne (fun e => h e.symm), List.getElem?_replicate, if_pos hk])]
    simp [h, noMember]
theorem isDecl_of {l : List TMember} {k : Nat} {m : TMember} (hk : k < 10) (h : l[k]? = some m) (hd : m.Declared = true) : isDecl l k = true := by
  rw [isDecl, declN_bit, h]
  simp [hk, hd]
/-- a node sees the trust of another one that has sent it -/
theorem view_sees {node : Nat} (hn : node < 10) {t : TTrust} {l : List TEnvelope} (T : Nat → TTrust) (ht : T node = t) (hT : ∀ e ∈ rights l, e.Trust = T e.Node.toNat) {k : Nat} (hk : k < 10) (hs : k = node ∨ ∃ e ∈ rights l, e.Node.toNat = k) :
    isDecl (viewN node t l) k = true ∧ trustAt (viewN node t l) k = T k := by
  have hg := viewN_get (t := t) (l := l) hk hn
  by_cases h : k = node
  · rw [if_pos h] at hg
    exact ⟨isDecl_of hk hg rfl, by rw [trustAt_get hg, h, ht]⟩
  · rw [if_neg h] at hg
    obtain ⟨e, he, hek⟩ := hs.resolve_left h
    cases hf : (rights l).find? (fun e => decide (e.Node.toNat = k)) with
    | none =>
      have := List.find?_eq_none.1 hf e he
      simp [hek] at this
    | some e' =>
      rw [hf] at hg
      have h1 := List.mem_of_find?_eq_some hf
      have h2 := List.find?_some hf
      simp only [decide_eq_true_eq] at h2
      exact ⟨isDecl_of hk hg rfl, by rw [trustAt_get hg, ← h2]; exact hT e' h1⟩

/-- chosen envelopes: those of the nodes of a set -/
def Chosen (b p : TBallot) (ts : List TTrust) (q n : Nat) (l : List TEnvelope) : Prop :=
  l.length ≤ n ∧ (∀ e ∈ l, ∃ i t, i < n ∧ q.testBit i = true ∧ ts[i]? = some t ∧ e = vE b p i t) ∧ ∀ i t, i < n → q.testBit i = true → ts[i]? = some t → vE b p i t ∈ l
theorem Chosen.nil (b p : TBallot) (ts : List TTrust) (q : Nat) : Chosen b p ts q 0 [] := ⟨by simp, by simp, fun i t h => by omega⟩
theorem Chosen.take {b p : TBallot} {ts : List TTrust} {q n : Nat} {l : List TEnvelope} (h : Chosen b p ts q n l) (hq : q.testBit n = true) {t : TTrust} (ht : ts[n]? = some t) : Chosen b p ts q (n + 1) (l ++ [vE b p n t]) := by
  obtain ⟨h1, h2, h3⟩ := h
  refine ⟨by simp; omega, fun e he => ?_, fun i t' hi hb ht' => ?_⟩
  · rcases List.mem_append.1 he with he | he
    · obtain ⟨i, t, a, b, c⟩ := h2 e he
      exact ⟨i, t, by omega, b, c⟩
    · simp only [List.mem_singleton] at he
      exact ⟨n, t, by omega, hq, ht, he⟩
  · rcases Nat.lt_or_ge i n with h | h
    · exact List.mem_append.2 (.inl (h3 i t' h hb ht'))
    · obtain rfl : i = n := by omega
      rw [ht] at ht'
      injection ht' with ht'
      subst ht'
      exact List.mem_append.2 (.inr (by simp))
section
variable {b p : TBallot} (hb : LowB b) (hp : zeroB p = true ∨ validB p = true) {ts : List TTrust} (hts : ∀ t ∈ ts, GoodT t) {q : Nat} {l : List TEnvelope} (hlen : ts.length ≤ 5) (hc : Chosen b p ts q ts.length l)
 include hb hp hts hlen hc
end
end Go.Proofs.YtncjalhhkmojlaaGreat
