/-
  Plain Lean: what the turned functions compute. Conditions: none beyond those that each theorem names.
-/
import Derived.Test.YtncjalhhkmojlaaGreatPrepareGrowsPlainA
set_option linter.unusedVariables false
namespace Go.Proofs.YtncjalhhkmojlaaGreat
open Go.TQ

/-! ### envelopes that are replaced -/
section
variable {f : TEnvelope → TEnvelope} {l : List TEnvelope} (hf : ∀ e ∈ l, (f e).Node = e.Node ∧ (f e).Trust = e.Trust ∧ isValid (f e) = isValid e)
 include hf
theorem rights_map : rights (l.map f) = (rights l).map f := by
  induction l with
  | nil => rfl
  | cons e l ih =>
    have h1 := (hf e (by simp)).2.2
    have ih := ih fun e he => hf e (by simp [he])
    unfold rights at ih ⊢
    rw [List.map_cons, List.filter_cons, List.filter_cons, h1, ih]
    cases isValid e <;> rfl
theorem view_map (node : Nat) (t : TTrust) : viewN node t (l.map f) = viewN node t l := by
  unfold viewN
  generalize (List.replicate 10 noMember).set node ⟨true, t⟩ = ms
  induction l generalizing ms with
  | nil => rfl
  | cons e l ih =>
    obtain ⟨h1, h2, h3⟩ := hf e (by simp)
    rw [List.map_cons, List.foldl_cons, List.foldl_cons]
    have : viewStep ms (f e) = viewStep ms e := by simp only [viewStep, h1, h2, h3]
    rw [this]
    exact ih (fun e he => hf e (by simp [he])) _
theorem who_map {p : TEnvelope → Bool} (hp : ∀ e ∈ rights l, p e = true → p (f e) = true) (k : Nat) (hk : (whoN p (rights l)).testBit k = true) : (whoN p (rights (l.map f))).testBit k = true := by
  rw [rights_map hf]
  rw [whoN_bit, List.any_eq_true] at hk ⊢
  obtain ⟨e, he, h⟩ := hk
  rw [Bool.and_eq_true] at h
  have hn := (hf e (List.mem_filter.1 he).1).1
  exact ⟨f e, List.mem_map.2 ⟨e, he, rfl⟩, by rw [hp e he h.1, hn, h.2]; rfl⟩
end
/-- the others say that they accept it, too -/
noncomputable def moreE (node : Nat) (b : TBallot) (e : TEnvelope) : TEnvelope :=
  if e.Node = node then e else if isValid e && acceptsP e b then e else ⟨e.Node, 1, 20, e.Trust, 1, b, b, ⟨0, noVal⟩, 0, 0⟩
theorem said_new {e : TEnvelope} {b : TBallot} (hb : LowB b) : acceptsP (⟨e.Node, 1, 20, e.Trust, 1, b, b, ⟨0, noVal⟩, 0, 0⟩ : TEnvelope) b = true := by
  simp [acceptsP, hb.nz, preparesB, covers_self hb.nz]
theorem valid_new {e : TEnvelope} {b : TBallot} (hb : LowB b) (hv : isValid e = true) : isValid (⟨e.Node, 1, 20, e.Trust, 1, b, b, ⟨0, noVal⟩, 0, 0⟩ : TEnvelope) = true := by
  have hn := isValid_node hv
  have h1 : decide (tval e.Trust = 0) = true := by
    unfold isValid validE at hv
    rw [Bool.and_eq_true, Bool.and_eq_true] at hv
    exact hv.1.2
  have q2 : zeroB (TBallot.mk 0 noVal) = true := by decide +kernel
  have h2 := hb.lo
  have h3 := hb.hi
  simp [isValid, validE, headOk, h1, prepOk, finite, hb.valid, primeOk, q2, hn.1, hn.2]
  omega
theorem more_ok {node : Nat} {b : TBallot} (hb : LowB b) {l : List TEnvelope} (hv : ∀ e ∈ l, isValid e = true) : ∀ e ∈ l, (moreE node b e).Node = e.Node ∧ (moreE node b e).Trust = e.Trust ∧ isValid (moreE node b e) = isValid e := by
  intro e he
  unfold moreE
  split
  · exact ⟨rfl, rfl, rfl⟩
  · split
    · exact ⟨rfl, rfl, rfl⟩
    · exact ⟨rfl, rfl, by rw [valid_new hb (hv e he), hv e he]⟩
theorem grow {node : Nat} {t : TTrust} (ht : SmT t) {b : TBallot} (hb : LowB b) {l : List TEnvelope} (hl : SmL l) (hv : ∀ e ∈ l, isValid e = true) (h : prepAccepts node t l b = true) : prepAccepts node t (l.map (moreE node b)) b = true := by
  have hm := more_ok (node := node) hb hv
  have hin := rights_in l
  have hin' := rights_in (l.map (moreE node b))
  unfold prepAccepts at h ⊢
  rw [view_map hm]
  have ha : ∀ e ∈ rights l, acceptsP e b = true → acceptsP (moreE node b e) b = true := fun e he h => by
    unfold moreE
    split
    · exact h
    · rw [hv e (List.mem_filter.1 he).1, h]; exact h
  refine fed_mono (viewN_sm ht hl) (whoN_lt hin) (whoN_lt hin) (whoN_lt hin') (whoN_lt hin') (who_map hm fun e he h => ?_) (who_map hm ha) h
  cases hac : acceptsP e b with
  | true => rw [ha e he hac, Bool.or_true]
  | false =>
    unfold moreE
    split
    · exact h
    · rw [hac, Bool.and_false, if_neg (by simp), said_new hb, Bool.or_true]

/-! ### the one of a node -/
theorem last_of {l : List TEnvelope} (h : l.Pairwise fun a b => a.Node < b.Node) (i : Int) (z : TEnvelope) : (∃ e ∈ l, e.Node = i ∧ l.foldl (fun s e => if e.Node = i then e else s) z = e ∧ l.filter (fun e => decide (e.Node < i + 1)) = l.filter (fun e => decide (e.Node < i)) ++ [e]) ∨
    ((∀ e ∈ l, e.Node ≠ i) ∧ l.foldl (fun s e => if e.Node = i then e else s) z = z ∧ l.filter (fun e => decide (e.Node < i + 1)) = l.filter (fun e => decide (e.Node < i))) := by
  induction l generalizing z with
  | nil => exact .inr ⟨by simp, rfl, rfl⟩
  | cons x l ih =>
    rw [List.pairwise_cons] at h
    rw [List.foldl_cons]
    by_cases hx : x.Node = i
    · have hgt : ∀ e ∈ l, i < e.Node := fun e he => by have := h.1 e he; omega
      have hn : l.foldl (fun s e => if e.Node = i then e else s) x = x := by
        rcases ih h.2 x with ⟨e, he, h1, _⟩ | ⟨_, h2, _⟩
        · have := hgt e he; omega
        · exact h2
      refine .inl ⟨x, by simp, hx, by rw [if_pos hx]; exact hn, ?_⟩
      have e1 : l.filter (fun e => decide (e.Node < i + 1)) = [] := List.filter_eq_nil_iff.2 fun e he => by have := hgt e he; simp; omega
      have e2 : l.filter (fun e => decide (e.Node < i)) = [] := List.filter_eq_nil_iff.2 fun e he => by have := hgt e he; simp; omega
      rw [List.filter_cons, List.filter_cons, e1, e2, if_pos (by simp; omega), if_neg (by simp; omega)]
      rfl
    · have hc : decide (x.Node < i + 1) = decide (x.Node < i) := by rw [decide_eq_decide]; omega
      rw [if_neg hx, List.filter_cons, List.filter_cons, hc]
      rcases ih h.2 z with ⟨e, he, h1, h2, h3⟩ | ⟨h1, h2, h3⟩
      · refine .inl ⟨e, by simp [he], h1, h2, ?_⟩
        rw [h3]
        split <;> rfl
      · refine .inr ⟨fun e he => ?_, h2, by rw [h3]⟩
        rcases List.mem_cons.1 he with rfl | he
        · exact hx
        · exact h1 e he
theorem join_low {p q : TBallot} (hp : p.Counter ≤ 6) (hq : q.Counter ≤ 6) : ∃ x y, F_ref25_Join p ⟨0, ByteArray.mk #[]⟩ q = some (x, y, ()) ∧ x.Counter ≤ 6 ∧ y.Counter ≤ 6 := by
  have h0 : (TBallot.mk 0 (ByteArray.mk #[])).Counter ≤ 6 := by decide
  have z0 : zeroB (TBallot.mk 0 (ByteArray.mk #[])) = true := by decide +kernel
  simp only [F_ref25_Join, F_ref23_Zero_eq, F_ref23_Less_eq, F_ref23_Compatible_eq, Option.bind_some, letJ_eq, bif_some, z0]
  cases zeroB q
  · cases zeroB p
    · cases lessB p q
      · cases lessB q p
        · exact ⟨_, _, rfl, hp, h0⟩
        · cases compat q p
          · exact ⟨_, _, rfl, hp, hq⟩
          · exact ⟨_, _, rfl, hp, h0⟩
      · cases compat p q
        · exact ⟨_, _, rfl, hq, hp⟩
        · simp only [cond_true, cond_false, Bool.not_true]
          cases compat (TBallot.mk 0 (ByteArray.mk #[])) q
          · exact ⟨_, _, rfl, hq, h0⟩
          · exact ⟨_, _, rfl, hq, h0⟩
    · exact ⟨_, _, rfl, hq, h0⟩
  · exact ⟨_, _, rfl, hp, h0⟩
theorem endless_low {b : TBallot} (h : b.Counter ≤ 6) : endless b = b := by
  unfold endless
  rw [if_neg (by omega)]
theorem any_yd {α ρ : Type} {p : ρ → Prop} (l : List α) (hl : l.length ≤ 1000000) (P : α → Bool) (hany : l.any P = true) {step : Bool × Int × Unit → Option ((Bool × Int × Unit) ⊕ ρ)}
    (h1 : ∀ (i : Nat) (x : α) (b : Bool), x ∈ l → decide ((i : Int) < ((l.length : Nat) : Int)) = true → idx l (i : Int) = some x → addI .i64 (i : Int) 1 = ((i + 1 : Nat) : Int) → step (b, (i : Int), ()) = some (.inl (b || P x, ((i + 1 : Nat) : Int), ())))
    (h2 : decide (((l.length : Nat) : Int) < ((l.length : Nat) : Int)) = false → Yd (step (true, ((l.length : Nat) : Int), ())) fun y => match y with | .inl _ => False | .inr r => p r) : Yd (loopO step (false, (0 : Int), ())) p := by
  suffices key : ∀ (k i : Nat), i + k = l.length → Yd (loopO step ((l.take i).any P, (i : Int), ())) p from key l.length 0 (by omega)
  intro k
  induction k with
  | zero =>
    intro i hi
    obtain rfl : i = l.length := by omega
    rw [List.take_length, hany]
    obtain ⟨y, hy, hp⟩ := h2 (decide_eq_false (Int.lt_irrefl _))
    cases y with
    | inl s => exact hp.elim
    | inr r => exact ⟨r, loopO_inr hy, hp⟩
  | succ k ih =>
    intro i hi
    have hlt : i < l.length := by omega
    have hx : l[i]? = some l[i] := List.getElem?_eq_getElem hlt
    rw [loopO_inl (h1 i l[i] _ (List.getElem_mem hlt) (decide_eq_true (by omega)) (by rw [idx_nat]; exact hx) (add64 (by omega) (by omega)))]
    have := ih (i + 1) (by omega)
    rw [List.take_succ_eq_append_getElem hlt, List.any_append] at this
    simpa using this

theorem grows (t : List Int) : F_law25_PrepareGrows t = some true := by
  refine Yd.eq_true ?_
  unfold F_law25_PrepareGrows
  simp only [TTrust.eta, TEnvelope.eta]
  refine (New_ok t).bind fun s hs => ?_
  refine (Envelopes_ok (n := 5) hs (by omega) (by omega)).bind fun p2 ⟨a1, a2⟩ => ?_
  refine (N_ok a1 (by omega)).bind fun p3 ⟨b1, b2, b3, _⟩ => ?_
  refine (Trust_ok (n := 5) b1 (by omega) (by omega)).bind fun p4 ⟨c1, c2, c3, c4⟩ => ?_
  refine (Low_ok c1).bind fun p5 ⟨d1, d2, d3, d4⟩ => ?_
  obtain ⟨node, hnode⟩ : ∃ node : Nat, p3.1 = node := ⟨p3.1.toNat, by omega⟩
  have b4 := b3 (by omega)
  have hn : node < 10 := by omega
  have hsm := a2.sm (by omega)
  have hval := a2.valid
  have hlen5 := a2.len
  have hasc := a2.asc
  have hnodes : ∀ e ∈ p2.1, 0 ≤ e.Node ∧ e.Node < 5 ∧ 1 ≤ e.Seq := fun e he => by
    obtain ⟨i, hi, h⟩ := a2.of e he
    have := h.node
    have := h.seq
    omega
  have hlen : p2.1.length ≤ 1000 := by omega
  have ht := c2.sm
  have hb : LowB p5.1 := ⟨d2, d3, d4⟩
  generalize p2.1 = l at *
  rw [hnode]
  suffices key : ∀ (m i : Nat) (more : List TEnvelope), i + m = 5 → more = (l.filter fun e => decide (e.Node < (i : Int))).map (moreE node p5.1) → Yd (loopO _ ((i : Int), more, ())) (· = true) from key 5 0 [] (by omega) (by
    rw [List.filter_eq_nil_iff.2 fun e he => by have := hnodes e he; simp; omega]; rfl)
  intro m
  induction m with
  | zero =>
    intro i more hi hmore
    obtain rfl : i = 5 := by omega
    refine Yd.loop ?_
    have hd : decide (((5 : Nat) : Int) < 5) = false := by decide
    have hall : l.filter (fun e => decide (e.Node < ((5 : Nat) : Int))) = l := List.filter_eq_self.2 fun e he => by have := hnodes e he; simp; omega
    rw [hall] at hmore
    have hm := more_ok (node := node) hb hval
    have hsm' : SmL more := by
      rw [hmore]
      refine ⟨by rw [List.length_map]; omega, fun e he => ?_⟩
      obtain ⟨e', he', rfl⟩ := List.mem_map.1 he
      rw [(hm e' he').2.1]
      exact hsm.trust e' he'
    simp only [hd, cond_false, TTrust.eta, Accepts_eq hn ht hsm, Accepts_eq hn ht hsm', Confirms_eq hn ht hsm, Option.bind_some, letJ_eq]
    have e1 : (bif prepAccepts node p4.1 l p5.1 then some (!prepAccepts node p4.1 more p5.1) else some false) = some false := by
      cases hc : prepAccepts node p4.1 l p5.1 with
      | false => rfl
      | true => rw [hmore, grow ht hb hsm hval hc]; rfl
    simp only [e1, Option.bind_some, cond_false]
    have hnext : Yd (Option.bind (F_play_Src_Low p5.2) fun p24 => Option.bind (F_play_Src_Low p24.2) fun p25 => Option.bind (F_ref25_Join p24.1 (TBallot.mk (0 : Int) (ByteArray.mk #[])) p25.1) fun r26 =>
        Option.bind (F_prepare_Next (node : Int) p4.1 l r26.1 r26.2.1 (ByteArray.mk #[])) fun r27 => Option.bind (F_ref23_Zero r27) fun r28 =>
        Option.bind (bif r28 then some true else Option.bind (F_ref23_Prepares r26.1 r26.2.1 r27) fun r29 => Option.bind (bif (!r29) then Option.bind (F_prepare_Accepts (node : Int) p4.1 l r27) fun r30 => some r30 else some false) fun b31 => some b31) fun b32 =>
        Option.bind (bif b32 then Option.bind (F_law25_sane) fun r33 => some r33 else some false) fun b34 => some b34) (· = true) := by
      refine (Low_ok d1).bind fun p24 ⟨f1, f2, f3, f4⟩ => ?_
      refine (Low_ok f1).bind fun p25 ⟨g1, g2, g3, g4⟩ => ?_
      obtain ⟨x, y, hj, hx, hy⟩ := join_low (p := p24.1) (q := p25.1) f3 g3
      simp only [hj, Option.bind_some, Next_eq hn ht hsm hlen, F_ref23_Zero_eq, F_ref23_Prepares_eq, Accepts_eq hn ht hsm, sane25]
      cases hf : (ballotsN l).find? (nextC node p4.1 l x y (ByteArray.mk #[])) with
      | none =>
        have z0 : zeroB noB = true := by decide +kernel
        simp only [Option.getD_none, z0, cond_true, Option.bind_some]
        exact Yd.some rfl
      | some b =>
        have h := List.find?_some hf
        simp only [nextC, Bool.and_eq_true, Bool.not_eq_true', endless_low hx, endless_low hy] at h
        obtain ⟨⟨_, h1⟩, h2⟩ := h
        simp only [Option.getD_some, h1, h2, Bool.not_false, cond_true, Option.bind_some, bif_same]
        exact Yd.some rfl
    simp only [Option.bind_some, Accepts_eq hn ht hsm] at hnext
    cases hc : prepConfirms node p4.1 l p5.1 with
    | false =>
      simp only [cond_false]
      exact Yd.inr hnext
    | true =>
      simp only [cond_true]
      have hany : l.any (fun e => decide (e.Node = (node : Int)) && (isValid e && acceptsP e p5.1)) = true := by
        have h1 := ((gq_is (viewN_sm ht hsm) (whoN_lt (p := (acceptsP · p5.1)) (rights_in l))).inside node hc).1
        rw [whoN_bit, List.any_eq_true] at h1
        obtain ⟨e, he, h1⟩ := h1
        rw [Bool.and_eq_true, decide_eq_true_eq] at h1
        have he' := (List.mem_filter.1 he).1
        have := hnodes e he'
        rw [List.any_eq_true]
        refine ⟨e, he', ?_⟩
        rw [hval e he', h1.1, show decide (e.Node = (node : Int)) = true from decide_eq_true (by omega)]
        rfl
      refine Yd.inr (any_yd l (by omega) (fun e => decide (e.Node = (node : Int)) && (isValid e && acceptsP e p5.1)) hany (fun k e vb he hd' hx' hw' => ?_) (fun hd' => ?_))
      · simp only [hd', hx', hw', cond_true, Option.bind_some, TTrust.eta, TEnvelope.eta, rAcceptsP_eq (hsm.trust e he)]
        cases vb <;> cases decide (e.Node = (node : Int)) <;> cases (isValid e && acceptsP e p5.1) <;> simp
      · simp only [hd', cond_false, Bool.not_true]
        exact Yd.inr hnext
  | succ m ih =>
    intro i more hi hmore
    refine Yd.loop ?_
    have hd : decide ((i : Int) < 5) = true := decide_eq_true (by omega)
    have hw : addI .i64 (i : Int) 1 = ((i + 1 : Nat) : Int) := add64 (by omega) (by omega)
    simp only [hd, cond_true, letJ_eq]
    have hml : more.length ≤ 5 := by
      rw [hmore, List.length_map]
      exact Nat.le_trans (List.length_filter_le _ _) hlen5
    have inner : ∀ {ρ : Type} {p : ρ → Prop} {step : Int × TEnvelope × Unit → Option ((Int × TEnvelope × Unit) ⊕ ρ)} (z : TEnvelope)
        (h1 : ∀ (k : Nat) (x a : TEnvelope), x ∈ l → decide ((k : Int) < ((l.length : Nat) : Int)) = true → idx l (k : Int) = some x → addI .i64 (k : Int) 1 = ((k + 1 : Nat) : Int) → step ((k : Int), a, ()) = some (.inl (((k + 1 : Nat) : Int), (if x.Node = (i : Int) then x else a), ())))
        (h2 : ∀ a, a = l.foldl (fun s e => if e.Node = (i : Int) then e else s) z → decide (((l.length : Nat) : Int) < ((l.length : Nat) : Int)) = false → Yd (step (((l.length : Nat) : Int), a, ())) fun y => match y with | .inl _ => False | .inr r => p r), Yd (loopO step ((0 : Int), z, ())) p := by
      intro ρ p step z h1 h2
      suffices key : ∀ (k j : Nat) (a : TEnvelope), j + k = l.length → a = (l.take j).foldl (fun s e => if e.Node = (i : Int) then e else s) z → Yd (loopO step ((j : Int), a, ())) p from key l.length 0 z (by omega) rfl
      intro k
      induction k with
      | zero =>
        intro j a hj ha
        obtain rfl : j = l.length := by omega
        rw [List.take_length] at ha
        obtain ⟨y, hy, hp⟩ := h2 a ha (decide_eq_false (Int.lt_irrefl _))
        cases y with
        | inl s => exact hp.elim
        | inr r => exact ⟨r, loopO_inr hy, hp⟩
      | succ k ih =>
        intro j a hj ha
        have hlt : j < l.length := by omega
        rw [loopO_inl (h1 j l[j] a (List.getElem_mem hlt) (decide_eq_true (by omega)) (by rw [idx_nat]; exact List.getElem?_eq_getElem hlt) (add64 (by omega) (by omega)))]
        refine ih (j + 1) _ (by omega) ?_
        rw [List.take_succ_eq_append_getElem hlt, List.foldl_append, ← ha]
        rfl
    have hok : ∀ e : TEnvelope, lenOk 176 (more.length + [e].length) = true := fun e => lenOk_small (by simp; omega)
    refine inner _ (fun k x a hx hd' hx' hw' => ?_) (fun a ha hd' => ?_)
    · simp only [hd', hx', hw', cond_true, Option.bind_some, TTrust.eta, TEnvelope.eta]
      by_cases hxi : x.Node = (i : Int) <;> simp [hxi]
    · simp only [hd', cond_false, TTrust.eta, TEnvelope.eta, hok, cond_true]
      refine Yd.inr ?_
      rcases last_of hasc (i : Int) (TEnvelope.mk 0 0 0 (TTrust.mk 0 [] []) 0 (TBallot.mk 0 (ByteArray.mk #[])) (TBallot.mk 0 (ByteArray.mk #[])) (TBallot.mk 0 (ByteArray.mk #[])) 0 0) with ⟨e, he, h1, h2, h3⟩ | ⟨h1, h2, h3⟩
      · rw [h2] at ha
        subst ha
        have hse := hnodes a he
        have hsq : decide (a.Seq = 0) = false := decide_eq_false (by omega)
        have hnext : more ++ [moreE node p5.1 a] = (l.filter fun e => decide (e.Node < ((i + 1 : Nat) : Int))).map (moreE node p5.1) := by
          rw [hmore, show ((i + 1 : Nat) : Int) = (i : Int) + 1 by omega, h3, List.map_append]
          rfl
        simp only [hsq, cond_false, Option.bind_some, Bool.not_false, cond_true, hw, rAcceptsP_eq (hsm.trust a he)]
        by_cases hin : (i : Int) = (node : Int)
        · have hm : moreE node p5.1 a = a := by unfold moreE; rw [if_pos (by omega)]
          rw [hm] at hnext
          have hdin : decide ((i : Int) = (node : Int)) = true := decide_eq_true hin
          simp only [hdin, cond_true]
          exact Yd.some (ih (i + 1) _ (by omega) hnext)
        · have hne : ¬ a.Node = (node : Int) := by omega
          have hdin : decide ((i : Int) = (node : Int)) = false := decide_eq_false hin
          simp only [hdin, cond_false]
          cases hc : (isValid a && acceptsP a p5.1) with
          | true =>
            have hm : moreE node p5.1 a = a := by unfold moreE; rw [if_neg hne, if_pos hc]
            rw [hm] at hnext
            simp only [Bool.not_true, cond_false]
            exact Yd.some (ih (i + 1) _ (by omega) hnext)
          | false =>
            have hm : moreE node p5.1 a = ⟨(i : Int), 1, 20, a.Trust, 1, p5.1, p5.1, ⟨0, noVal⟩, 0, 0⟩ := by unfold moreE; rw [if_neg hne, if_neg (by simp [hc]), h1]
            rw [hm] at hnext
            simp only [Bool.not_false, cond_true]
            exact Yd.some (ih (i + 1) _ (by omega) hnext)
      · rw [h2] at ha
        subst ha
        have hnext : more = (l.filter fun e => decide (e.Node < ((i + 1 : Nat) : Int))).map (moreE node p5.1) := by
          rw [hmore, show ((i + 1 : Nat) : Int) = (i : Int) + 1 by omega, h3]
        have hsq : decide ((0 : Int) = 0) = true := rfl
        simp only [hsq, cond_true, Option.bind_some, Bool.not_true, cond_false, hw]
        exact Yd.some (ih (i + 1) _ (by omega) hnext)
end Go.Proofs.YtncjalhhkmojlaaGreat
