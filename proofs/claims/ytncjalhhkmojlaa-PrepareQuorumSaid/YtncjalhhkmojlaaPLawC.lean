/-
  The law PrepareQuorum as a plain function: it returns true. Conditions: none.
-/
import Derived.Test.YtncjalhhkmojlaaPLawB
namespace Go.Proofs.Ytncjalhhkmojlaa
open Go.TQ

/-! ### what a view shows -/
theorem view_get : ∀ (l : List TEnvelope) (ms : List TMember) (k : Nat) (m : TMember), ms[k]? = some m →
    (l.foldl viewStep ms)[k]? = some (if m.Declared then m else match (rights l).find? (fun e => decide (e.Node.toNat = k)) with | some e => ⟨true, e.Trust⟩ | none => m)
  | [], ms, k, m, h => by simp [rights, h]
  | e :: l, ms, k, m, h => by
    rw [List.foldl_cons]
    by_cases hv : isValid e = true
    · have hr : rights (e :: l) = e :: rights l := by simp [rights, hv]
      rw [hr, List.find?_cons]
      by_cases hk : e.Node.toNat = k
      · have hstep : (viewStep ms e)[k]? = some (if m.Declared then m else ⟨true, e.Trust⟩) := by
          unfold viewStep
          rw [hv, hk, h]
          cases hm : m.Declared with
          | true => simp [hm, h]
          | false =>
            have hlt : k < ms.length := (List.getElem?_eq_some_iff.1 h).1
            simp [hm, hlt]
        rw [view_get l _ k _ hstep]
        cases hm : m.Declared with
        | true => simp [hm]
        | false => simp [hk]
      · have hstep : (viewStep ms e)[k]? = some m := by
          unfold viewStep
          split
          · rw [List.getElem?_set_ne hk]; exact h
          · exact h
        rw [view_get l _ k m hstep]
        simp [hk]
    · have hv' : isValid e = false := by simpa using hv
      have hr : rights (e :: l) = rights l := by simp [rights, hv']
      have hstep : viewStep ms e = ms := by simp [viewStep, hv']
      rw [hr, hstep]
      exact view_get l ms k m h
theorem viewN_get {node : Nat} {t : TTrust} {l : List TEnvelope} {k : Nat} (hk : k < 10) (hn : node < 10) :
    (viewN node t l)[k]? = some (if k = node then ⟨true, t⟩ else match (rights l).find? (fun e => decide (e.Node.toNat = k)) with | some e => ⟨true, e.Trust⟩ | none => noMember) := by
  unfold viewN
  by_cases h : k = node
  · subst h
    rw [view_get l _ k ⟨true, t⟩ (by simp [hk])]
    simp
  · rw [view_get l _ k noMember (by
      rw [List.getElem?_set_ne (fun e => h e.symm), List.getElem?_replicate, if_pos hk])]
    simp [h, noMember]
theorem isDecl_of {l : List TMember} {k : Nat} {m : TMember} (hk : k < 10) (h : l[k]? = some m) (hd : m.Declared = true) : isDecl l k = true := by
  rw [isDecl, declN_bit, h]
  simp [hk, hd]
/-- a node sees the trust of another one that has sent it -/
theorem view_sees {node : Nat} (hn : node < 10) {t : TTrust} {l : List TEnvelope} (T : Nat → TTrust) (ht : T node = t) (hT : ∀ e ∈ rights l, e.Trust = T e.Node.toNat) {k : Nat} (hk : k < 10) (hs : k = node ∨ ∃ e ∈ rights l, e.Node.toNat = k) :
    isDecl (viewN node t l) k = true ∧ trustAt (viewN node t l) k = T k := by
  have hg := viewN_get (t := t) (l := l) hk hn
  by_cases h : k = node
  · rw [if_pos h] at hg
    exact ⟨isDecl_of hk hg rfl, by rw [trustAt_get hg, h, ht]⟩
  · rw [if_neg h] at hg
    obtain ⟨e, he, hek⟩ := hs.resolve_left h
    cases hf : (rights l).find? (fun e => decide (e.Node.toNat = k)) with
    | none =>
      have := List.find?_eq_none.1 hf e he
      simp [hek] at this
    | some e' =>
      rw [hf] at hg
      have h1 := List.mem_of_find?_eq_some hf
      have h2 := List.find?_some hf
      simp only [decide_eq_true_eq] at h2
      exact ⟨isDecl_of hk hg rfl, by rw [trustAt_get hg, ← h2]; exact hT e' h1⟩

/-! ### members and their envelopes -/
def envs (b p : TBallot) (ts : List TTrust) : List TEnvelope := ts.mapIdx (vE b p)
def mems (ts : List TTrust) : List TMember := ts.map (TMember.mk true)
theorem envs_app (b p : TBallot) (ts : List TTrust) (t : TTrust) : envs b p (ts ++ [t]) = envs b p ts ++ [vE b p ts.length t] := by
  simp [envs, List.mapIdx_concat]
theorem envs_get {b p : TBallot} {ts : List TTrust} {i : Nat} {t : TTrust} (h : ts[i]? = some t) : (envs b p ts)[i]? = some (vE b p i t) := by
  simp [envs, List.getElem?_mapIdx, h]
theorem mems_get {ts : List TTrust} {i : Nat} {t : TTrust} (h : ts[i]? = some t) : (mems ts)[i]? = some ⟨true, t⟩ := by
  simp [mems, h]
theorem mems_sm {ts : List TTrust} (hl : ts.length ≤ 10) (h : ∀ t ∈ ts, GoodT t) : SmC ⟨mems ts⟩ := by
  refine ⟨by simp [mems]; omega, fun m hm => ?_⟩
  simp only [mems, List.mem_map] at hm
  obtain ⟨t, ht, rfl⟩ := hm
  exact (h t ht).sm
/-- chosen envelopes: those of the nodes of a set -/
def Chosen (b p : TBallot) (ts : List TTrust) (q n : Nat) (l : List TEnvelope) : Prop :=
  l.length ≤ n ∧ (∀ e ∈ l, ∃ i t, i < n ∧ q.testBit i = true ∧ ts[i]? = some t ∧ e = vE b p i t) ∧ ∀ i t, i < n → q.testBit i = true → ts[i]? = some t → vE b p i t ∈ l
theorem Chosen.nil (b p : TBallot) (ts : List TTrust) (q : Nat) : Chosen b p ts q 0 [] := ⟨by simp, by simp, fun i t h => by omega⟩
theorem Chosen.skip {b p : TBallot} {ts : List TTrust} {q n : Nat} {l : List TEnvelope} (h : Chosen b p ts q n l) (hq : q.testBit n = false) : Chosen b p ts q (n + 1) l := by
  obtain ⟨h1, h2, h3⟩ := h
  refine ⟨by omega, fun e he => ?_, fun i t hi hb ht => ?_⟩
  · obtain ⟨i, t, a, b, c⟩ := h2 e he
    exact ⟨i, t, by omega, b, c⟩
  · rcases Nat.lt_or_ge i n with h | h
    · exact h3 i t h hb ht
    · obtain rfl : i = n := by omega
      rw [hq] at hb; cases hb
theorem Chosen.take {b p : TBallot} {ts : List TTrust} {q n : Nat} {l : List TEnvelope} (h : Chosen b p ts q n l) (hq : q.testBit n = true) {t : TTrust} (ht : ts[n]? = some t) : Chosen b p ts q (n + 1) (l ++ [vE b p n t]) := by
  obtain ⟨h1, h2, h3⟩ := h
  refine ⟨by simp; omega, fun e he => ?_, fun i t' hi hb ht' => ?_⟩
  · rcases List.mem_append.1 he with he | he
    · obtain ⟨i, t, a, b, c⟩ := h2 e he
      exact ⟨i, t, by omega, b, c⟩
    · simp only [List.mem_singleton] at he
      exact ⟨n, t, by omega, hq, ht, he⟩
  · rcases Nat.lt_or_ge i n with h | h
    · exact List.mem_append.2 (.inl (h3 i t' h hb ht'))
    · obtain rfl : i = n := by omega
      rw [ht] at ht'
      injection ht' with ht'
      subst ht'
      exact List.mem_append.2 (.inr (by simp))
theorem ch_sm {b p : TBallot} {ts : List TTrust} (hts : ∀ t ∈ ts, GoodT t) {q : Nat} {l : List TEnvelope} (hlen : ts.length ≤ 5) (hc : Chosen b p ts q ts.length l) : SmL l := by
  refine ⟨by have := hc.1; omega, fun e he => ?_⟩
  obtain ⟨i, t, h1, _, h3, rfl⟩ := hc.2.1 e he
  exact (hts t (List.mem_of_getElem? h3)).sm
section
variable {b p : TBallot} (hb : LowB b) (hp : zeroB p = true ∨ validB p = true) {ts : List TTrust} (hts : ∀ t ∈ ts, GoodT t) {q : Nat} {l : List TEnvelope} (hlen : ts.length ≤ 5) (hc : Chosen b p ts q ts.length l)
 include hb hp hts hlen hc
theorem ch_valid : ∀ e ∈ l, isValid e = true := by
  intro e he
  obtain ⟨i, t, h1, _, h3, rfl⟩ := hc.2.1 e he
  exact vE_valid hb hp (by omega) (hts t (List.mem_of_getElem? h3))
theorem ch_who (hq : ∀ k, q.testBit k = true → k < ts.length) (P : TEnvelope → Bool) (hP : ∀ i t, P (vE b p i t) = true) : whoN P (rights l) = q := by
  rw [rights_all (ch_valid hb hp hts hlen hc)]
  refine nat_ext fun k => ?_
  rw [whoN_bit, Bool.eq_iff_iff, List.any_eq_true]
  constructor
  · rintro ⟨e, he, h⟩
    obtain ⟨i, t, h1, h2, h3, rfl⟩ := hc.2.1 e he
    simp only [Bool.and_eq_true, decide_eq_true_eq] at h
    have : i = k := by simpa [vE] using h.2
    rw [← this]; exact h2
  · intro hk
    have hlt := hq k hk
    exact ⟨_, hc.2.2 k ts[k] hlt hk (List.getElem?_eq_getElem hlt), by rw [hP]; simp [vE]⟩
theorem ch_none (P : TEnvelope → Bool) (hP : ∀ i t, P (vE b p i t) = false) : whoN P (rights l) = 0 := by
  rw [rights_all (ch_valid hb hp hts hlen hc)]
  refine nat_ext fun k => ?_
  rw [whoN_bit, Nat.zero_testBit, List.any_eq_false]
  intro e he
  obtain ⟨i, t, h1, h2, h3, rfl⟩ := hc.2.1 e he
  simp [hP]
/-- the quorum is one in the view of each of its members -/
theorem ch_quorum (hg : Inside (mems ts) q q) {i : Nat} {t : TTrust} (hi : ts[i]? = some t) : Inside (viewN i t l) q q := by
  have hilt : i < ts.length := (List.getElem?_eq_some_iff.1 hi).1
  intro k hk
  obtain ⟨hk10, m, hm, _⟩ := isDecl_get (hg k hk).2.1
  have hklt : k < ts.length := by
    have := (List.getElem?_eq_some_iff.1 hm).1
    simpa [mems] using this
  have hr := rights_all (ch_valid hb hp hts hlen hc)
  have hsee := view_sees (node := i) (by omega) (t := t) (l := l) (fun k => ts[k]?.getD ⟨0, [], []⟩) (by simp [hi]) (fun e he => by
    rw [hr] at he
    obtain ⟨j, t', _, _, h3, rfl⟩ := hc.2.1 e he
    simp [vE, h3]) hk10 (.inr ⟨vE b p k ts[k], by rw [hr]; exact hc.2.2 k ts[k] hklt hk (List.getElem?_eq_getElem hklt), by simp [vE]⟩)
  refine ⟨hk, hsee.1, ?_⟩
  have h3 := (hg k hk).2.2
  rw [hsee.2]
  rw [trustAt_get (mems_get (List.getElem?_eq_getElem hklt))] at h3
  simpa [List.getElem?_eq_getElem hklt] using h3
end
theorem quorum (t : List Int) : F_law25_PrepareQuorum t = some true := by
  refine Yd.eq_true ?_
  unfold F_law25_PrepareQuorum
  refine (New_ok t).bind fun s hs => ?_
  refine (Range_ok hs (by omega) (by omega) (by omega)).bind fun p2 ⟨a1, a2, a3, _⟩ => ?_
  have a4 := a3 (by omega)
  refine (Low_ok a1).bind fun p3 ⟨b1, b2, b3, b4⟩ => ?_
  have hb : LowB p3.1 := ⟨b2, b3, b4⟩
  generalize p2.1 = n0 at *
  obtain ⟨n, rfl⟩ := Int.eq_ofNat_of_zero_le (show 0 ≤ n0 by omega)
  simp only [letJ_eq, TTrust.eta, TEnvelope.eta]
  suffices key : ∀ (k i : Nat) (ts : List TTrust) (s : TSrc) (c : TConfig), i + k = n → ts.length = i → (∀ t ∈ ts, GoodT t) → OkS s →
      Yd (loopO _ ((i : Int), envs p3.1 ⟨0, ByteArray.mk #[]⟩ ts, envs p3.1 p3.1 ts, s, c, mems ts, ())) _ from key n 0 [] p3.2 ⟨[]⟩ (by omega) rfl (by simp) b1
  intro k
  induction k with
  | zero =>
    intro i ts s c hi hlen hts hs
    obtain rfl : i = n := by omega
    refine Yd.loop ?_
    have hd : decide ((i : Int) < (i : Int)) = false := decide_eq_false (Int.lt_irrefl _)
    simp only [hd, cond_false]
    refine Yd.inr ?_
    have hpw : 2 ^ i ≤ 2 ^ 5 := Nat.pow_le_pow_right (by omega) (by omega)
    have hpos : 0 < 2 ^ i := Nat.pow_pos (by omega)
    have hset : subI .i64 (shlI .i64 1 (i : Int)) 1 = ((2 ^ i - 1 : Nat) : Int) := by
      rw [shlI_one i (by omega), sub64 (by omega) (by omega)]
      omega
    have hsm := mems_sm (ts := ts) (by omega) hts
    rw [convU (by omega), if_neg (by omega), hset, rGreatest_eq hsm (by omega), Option.bind_some]
    have hg := gq_is hsm (s := 2 ^ i - 1) (by omega)
    generalize gq (mems ts) (2 ^ i - 1) = q at hg
    have hg1 : Inside (mems ts) q q := fun k hk => ⟨hk, (hg.inside k hk).2⟩
    have hqlt : q < 1024 := hg.lt
    have hqn : ∀ k, q.testBit k = true → k < ts.length := by
      intro k hk
      obtain ⟨_, m, hm, _⟩ := isDecl_get (hg1 k hk).2.1
      have := (List.getElem?_eq_some_iff.1 hm).1
      simpa [mems] using this
    have hbit : ∀ j : Nat, j < 10 → decide (andI .i64 (shrI .i64 (q : Int) (j : Int)) 1 = 1) = q.testBit j := by
      intro j hj
      have := shr_testBit (s := (q : Int)) (x := (j : Int)) (by omega) (by omega) (by omega) (by omega)
      simp only [Int.toNat_natCast] at this
      rw [Bool.eq_iff_iff, decide_eq_true_eq, this]
    have hbit0 : ∀ j : Nat, j < 10 → decide (andI .i64 (shrI .i64 (q : Int) (j : Int)) 1 = 0) = !q.testBit j := by
      intro j hj
      have hle : q >>> j ≤ q := by rw [Nat.shiftRight_eq_div_pow]; exact Nat.div_le_self _ _
      rw [shrI_nat q j (by omega), show (1 : Int) = ((1 : Nat) : Int) from rfl, andI_nat _ 1 (by omega) (by omega)]
      rw [Nat.testBit, Nat.and_comm]
      rcases Nat.mod_two_eq_zero_or_one (q >>> j) with h | h <;> simp [Nat.one_and_eq_mod_two, h]
    -- the chosen envelopes
    suffices key2 : ∀ (k j : Nat) (v a : List TEnvelope), j + k = i → Chosen p3.1 ⟨0, ByteArray.mk #[]⟩ ts q j v → Chosen p3.1 p3.1 ts q j a → Yd (loopO _ ((j : Int), v, a, ())) _ from key2 i 0 [] [] (by omega) (.nil _ _ _ _) (.nil _ _ _ _)
    intro k
    induction k with
    | zero =>
      intro j v a hj hv ha
      obtain rfl : j = i := by omega
      refine Yd.loop ?_
      simp only [hd, cond_false]
      refine Yd.inr ?_
      subst hlen
      -- each member
      suffices key3 : ∀ (k j : Nat), j + k = ts.length → Yd (loopO _ ((j : Int), ())) _ from key3 ts.length 0 (by omega)
      intro k
      induction k with
      | zero =>
        intro j hj
        obtain rfl : j = ts.length := by omega
        refine Yd.loop ?_
        simp only [hd, cond_false, sane25]
        exact Yd.some rfl
      | succ k ih3 =>
        intro j hj
        have hjlt : j < ts.length := by omega
        have hdj : decide ((j : Int) < ((ts.length : Nat) : Int)) = true := decide_eq_true (by omega)
        have hwj : addI .i64 (j : Int) 1 = ((j + 1 : Nat) : Int) := add64 (by omega) (by omega)
        have hmj : (mems ts)[j]? = some ⟨true, ts[j]⟩ := mems_get (List.getElem?_eq_getElem hjlt)
        have hij : idx (mems ts) (j : Int) = some ⟨true, ts[j]⟩ := by rw [idx_nat]; exact hmj
        have hgj := hts ts[j] (List.getElem_mem hjlt)
        refine Yd.loop ?_
        simp only [hdj, hwj, cond_true, convU (show j < 1000000 by omega), show ¬ (j : Int) < 0 by omega, if_false, hbit0 j (by omega), hij, hmj, Int.toNat_natCast, Option.bind_some]
        cases hqj : q.testBit j with
        | false => exact Yd.some (ih3 (j + 1) (by omega))
        | true =>
          have hpz : zeroB (TBallot.mk 0 (ByteArray.mk #[])) = true ∨ validB (TBallot.mk 0 (ByteArray.mk #[])) = true := .inl zb
          have hpv : zeroB p3.1 = true ∨ validB p3.1 = true := .inr hb.valid
          have s1 := ch_sm hts (by omega) hv
          have s2 := ch_sm hts (by omega) ha
          have w1 := ch_who hb hpz hts (by omega) hv hqn (fun e => votesP e p3.1 || acceptsP e p3.1) (fun i t => by rw [vE_votes hb]; rfl)
          have w2 := ch_none hb hpz hts (by omega) hv (acceptsP · p3.1) (fun i t => vE_nacc i t)
          have w3 := ch_who hb hpv hts (by omega) ha hqn (acceptsP · p3.1) (fun i t => vE_acc hb i t)
          have q1 := ch_quorum hb hpz hts (by omega) hv hg1 (List.getElem?_eq_getElem hjlt)
          have q2 := ch_quorum hb hpv hts (by omega) ha hg1 (List.getElem?_eq_getElem hjlt)
          have r1 : prepAccepts j ts[j] v p3.1 = true := by
            rw [prepAccepts, w1, w2, fedAccepts, Nat.or_zero, (gq_is (viewN_sm hgj.sm s1) hqlt).max q q1 j hqj]
            simp
          have r2 : prepConfirms j ts[j] a p3.1 = true := by
            rw [prepConfirms, w3, (gq_is (viewN_sm hgj.sm s2) hqlt).max q q2 j hqj]
          have r3 : prepConfirms j ts[j] v p3.1 = false := by
            rw [prepConfirms, w2]
            cases h : (gq (viewN j ts[j] v) 0).testBit j with
            | false => rfl
            | true =>
              have := ((gq_is (viewN_sm hgj.sm s1) (by omega)).inside j h).1
              simp at this
          simp only [Accepts_eq (show j < 10 by omega) hgj.sm s1, Confirms_eq (show j < 10 by omega) hgj.sm s1, Confirms_eq (show j < 10 by omega) hgj.sm s2, r1, r2, r3, Option.bind_some]
          exact Yd.some (ih3 (j + 1) (by omega))
    | succ k ih2 =>
      intro j v a hj hv ha
      have hjlt : j < ts.length := by omega
      have hdj : decide ((j : Int) < ((i : Nat) : Int)) = true := decide_eq_true (by omega)
      have hwj : addI .i64 (j : Int) 1 = ((j + 1 : Nat) : Int) := add64 (by omega) (by omega)
      have g1 : (envs p3.1 ⟨0, ByteArray.mk #[]⟩ ts)[j]? = some (vE p3.1 ⟨0, ByteArray.mk #[]⟩ j ts[j]) := envs_get (List.getElem?_eq_getElem hjlt)
      have g2 : (envs p3.1 p3.1 ts)[j]? = some (vE p3.1 p3.1 j ts[j]) := envs_get (List.getElem?_eq_getElem hjlt)
      have g3 : idx (envs p3.1 ⟨0, ByteArray.mk #[]⟩ ts) (j : Int) = some (vE p3.1 ⟨0, ByteArray.mk #[]⟩ j ts[j]) := by rw [idx_nat]; exact g1
      have g4 : idx (envs p3.1 p3.1 ts) (j : Int) = some (vE p3.1 p3.1 j ts[j]) := by rw [idx_nat]; exact g2
      refine Yd.loop ?_
      simp only [hdj, hwj, cond_true, convU (show j < 1000000 by omega), show ¬ (j : Int) < 0 by omega, if_false, hbit j (by omega), g1, g2, g3, g4, Int.toNat_natCast, Option.bind_some]
      have l1 := hv.1
      have l2 := ha.1
      rw [lenOk_small (by simp; omega), lenOk_small (by simp; omega)]
      cases hqj : q.testBit j with
      | false => exact Yd.some (ih2 (j + 1) v a (by omega) (hv.skip hqj) (ha.skip hqj))
      | true => exact Yd.some (ih2 (j + 1) _ _ (by omega) (hv.take hqj (List.getElem?_eq_getElem hjlt)) (ha.take hqj (List.getElem?_eq_getElem hjlt)))
  | succ k ih =>
    intro i ts s c hi hlen hts hs
    have hd : decide ((i : Int) < (n : Int)) = true := decide_eq_true (by omega)
    have hw : addI .i64 (i : Int) 1 = ((i + 1 : Nat) : Int) := add64 (by omega) (by omega)
    refine Yd.loop ?_
    simp only [hd, hw, cond_true]
    refine (Trust_ok (n := n) hs (by omega) (by omega)).bind fun p5 ⟨e1, e2, _, _⟩ => ?_
    rw [lenOk_small (by simp [mems]; omega), lenOk_small (by simp [envs]; omega), lenOk_small (by simp [envs]; omega)]
    have hnext := ih (i + 1) (ts ++ [p5.1]) p5.2 ⟨[]⟩ (by omega) (by simp [hlen]) (fun t ht => by
      rcases List.mem_append.1 ht with ht | ht
      · exact hts t ht
      · simp only [List.mem_singleton] at ht; rw [ht]; exact e2) e1
    rw [envs_app, envs_app, hlen, show mems (ts ++ [p5.1]) = mems ts ++ [⟨true, p5.1⟩] by simp [mems]] at hnext
    exact Yd.some hnext
end Go.Proofs.Ytncjalhhkmojlaa
