/-
  Plain Lean: what the turned functions compute. Conditions: none beyond those that each theorem names.
-/
import Derived.Test.YtnhgcpiljggmmaaGreatDoorLaboratoryBackPlainA
set_option linter.unusedVariables false
set_option linter.unusedSimpArgs false
namespace Go.Proofs.YtnhgcpiljggmmaaGreatDoor
open Go.TQ Go.Proofs

theorem or_fin : ∀ (a : Fin 16) (i : Fin 4) (b : Fin 2), 0 ≤ orI .i64 ((a.val : Nat) : Int) (shlI .i64 ((b.val : Nat) : Int) ((i.val : Nat) : Int)) ∧ orI .i64 ((a.val : Nat) : Int) (shlI .i64 ((b.val : Nat) : Int) ((i.val : Nat) : Int)) < 16 := by decide
theorem or_ok {a b i : Int} (a0 : 0 ≤ a) (a1 : a < 16) (b0 : 0 ≤ b) (b1 : b < 2) (i0 : 0 ≤ i) (i1 : i < 4) : 0 ≤ orI .i64 a (shlI .i64 b i) ∧ orI .i64 a (shlI .i64 b i) < 16 := by
  obtain ⟨x, rfl⟩ := Int.eq_ofNat_of_zero_le a0
  obtain ⟨y, rfl⟩ := Int.eq_ofNat_of_zero_le b0
  obtain ⟨z, rfl⟩ := Int.eq_ofNat_of_zero_le i0
  exact or_fin ⟨x, by omega⟩ ⟨z, by omega⟩ ⟨y, by omega⟩
theorem shl_fin : ∀ i : Fin 4, 0 ≤ shlI .i64 1 ((i.val : Nat) : Int) ∧ shlI .i64 1 ((i.val : Nat) : Int) < 1024 := by decide
theorem shl_ok {i : Int} (i0 : 0 ≤ i) (i1 : i < 4) : 0 ≤ shlI .i64 1 i ∧ shlI .i64 1 i < 1024 := by
  obtain ⟨z, rfl⟩ := Int.eq_ofNat_of_zero_le i0
  exact shl_fin ⟨z, by omega⟩
theorem Some_m {s : TSrc} (h : OkS s) {n : Int} (hn : n ≤ 4) : Yd (F_play_Src_Some s n) fun p => OkS p.2 ∧ 0 ≤ p.1 ∧ p.1 < 16 := by
  unfold F_play_Src_Some
  have key : ∀ (k : Nat) (m i : Int) (s : TSrc), OkS s → 0 ≤ m → m < 16 → 0 ≤ i → n ≤ i + k → Yd (loopO (fun (v1 : Int × Int × TSrc × Unit) =>
      bif (decide (v1.2.1 < n)) then
        Option.bind (F_play_Src_N v1.2.2.1 (2 : Int)) fun p2 =>
        if (convI .u64 v1.2.1) < 0 then none else some (Sum.inl ((orI .i64 v1.1 (shlI .i64 p2.1 (convI .u64 v1.2.1))), (addI .i64 v1.2.1 (1 : Int)), p2.2, ()))
      else Option.map Sum.inr (some (v1.1, v1.2.2.1))) (m, i, s, ())) fun p => OkS p.2 ∧ 0 ≤ p.1 ∧ p.1 < 16 := by
    intro k
    induction k with
    | zero =>
      intro m i s h h0 h1 h2 h3
      refine Yd.loop ?_
      simp only []
      rw [decide_eq_false (by omega), cond_false]
      exact ⟨_, rfl, h, h0, h1⟩
    | succ k ih =>
      intro m i s h h0 h1 h2 h3
      refine Yd.loop ?_
      simp only []
      by_cases hi : i < n
      · rw [decide_eq_true hi, cond_true]
        refine (N_ok h (by omega)).bind fun p2 ⟨b1, b2, b3, _⟩ => ?_
        have b4 := b3 (by omega)
        rw [conv_u h2 (by omega), if_neg (by omega), add64 (by omega) (by omega)]
        have := or_ok h0 h1 b2 b4 h2 (by omega)
        exact ⟨_, rfl, ih _ (i + 1) p2.2 b1 this.1 this.2 (by omega) (by omega)⟩
      · rw [decide_eq_false hi, cond_false]
        exact ⟨_, rfl, h, h0, h1⟩
  exact key 4 0 0 s h (by omega) (by omega) (by omega) (by omega)
theorem Ill_m (s : TSrc) (h : OkS s) (n : Int) (hn1 : 1 ≤ n) (hn : n ≤ 4) : Yd (F_play_Src_Ill s n) fun p => OkS p.2 ∧ 0 ≤ p.1 ∧ p.1 < 1024 := by
  unfold F_play_Src_Ill
  refine (N_ok h (by omega)).bind fun p1 ⟨a1, _⟩ => ?_
  refine Yd.join (fun _ => True) (fun v _ => ?_) fun j3 hj3 => ?_
  · refine Yd.cond (fun _ => ?_) fun _ => ?_
    · exact ⟨_, rfl, a1, by show (0 : Int) ≤ 0; omega, by show (0 : Int) < 1024; omega⟩
    refine Yd.cond (fun _ => ?_) fun _ => ?_
    · refine (N_ok a1 (by omega)).bind fun p4 ⟨b1, b2, b3, _⟩ => ?_
      have b4 := b3 (by omega)
      rw [conv_u b2 (by omega), if_neg (by omega)]
      have := shl_ok b2 (by omega)
      exact ⟨_, rfl, b1, this.1, this.2⟩
    · refine (Some_m a1 hn).bind fun p5 ⟨b1, b2, b3⟩ => ?_
      exact ⟨_, rfl, b1, b2, by show p5.1 < 1024; omega⟩
  · refine Yd.cond (fun _ => hj3 _ trivial) fun _ => hj3 _ trivial
theorem Steps_m {s : TSrc} (h : OkS s) {n : Nat} {ill m : Int} (hn1 : 1 ≤ n) (hn : n ≤ 4) (hm0 : 0 ≤ m) (hm : m ≤ 1000) : Yd (F_play_Src_Steps s n ill m) fun p => OkS p.2 ∧ (p.1.length : Int) ≤ m ∧ ∀ x ∈ p.1, SrcS x := by
  unfold F_play_Src_Steps
  simp only [step_eta]
  rw [add64 (by omega) (by omega)]
  refine (N_ok h (by omega)).bind fun p1 ⟨a1, a2, a3, _⟩ => ?_
  have a4 := a3 (by omega)
  have key : ∀ (k : Nat) (i : Int) (acc : List TStep) (s : TSrc), OkS s → 0 ≤ i → i ≤ k → (acc.length : Int) + i ≤ m → (∀ x ∈ acc, SrcS x) → Yd (loopO (fun (v2 : Int × (List TStep) × TSrc × Unit) =>
      bif (decide ((0 : Int) < v2.1)) then
        Option.bind (F_play_Src_Step v2.2.2.1 n ill) fun p3 =>
        bif lenOk 448 (List.length v2.2.1 + List.length [p3.1]) then some (Sum.inl ((subI .i64 v2.1 (1 : Int)), (v2.2.1 ++ [p3.1]), p3.2, ())) else none
      else Option.map Sum.inr (some (v2.2.1, v2.2.2.1))) (i, acc, s, ())) fun p => OkS p.2 ∧ (p.1.length : Int) ≤ m ∧ ∀ x ∈ p.1, SrcS x := by
    intro k
    induction k with
    | zero =>
      intro i acc s h h0 h1 h2 h3
      refine Yd.loop ?_
      simp only []
      rw [decide_eq_false (by omega), cond_false]
      exact ⟨_, rfl, h, by show (acc.length : Int) ≤ m; omega, h3⟩
    | succ k ih =>
      intro i acc s h h0 h1 h2 h3
      refine Yd.loop ?_
      simp only []
      by_cases hi : 0 < i
      · rw [decide_eq_true hi, cond_true]
        refine (Step_m h hn1 hn).bind fun p3 ⟨b1, b2⟩ => ?_
        rw [lenOk_small (by simp; omega), cond_true, sub64 (by omega) (by omega)]
        refine ⟨_, rfl, ih (i - 1) (acc ++ [p3.1]) p3.2 b1 (by omega) (by omega) (by rw [List.length_append, List.length_singleton]; omega) fun x hx => ?_⟩
        rcases List.mem_append.1 hx with hx | hx
        · exact h3 x hx
        · rw [List.mem_singleton] at hx; rw [hx]; exact b2
      · rw [decide_eq_false hi, cond_false]
        exact ⟨_, rfl, h, by show (acc.length : Int) ≤ m; omega, h3⟩
  exact key 1000 p1.1 [] p1.2 a1 a2 (by omega) (by show ((0 : Nat) : Int) + p1.1 ≤ m; omega) fun x hx => by cases hx
theorem Begin_m {s : TSrc} (h : OkS s) {n : Nat} {ill : Int} (hn1 : 1 ≤ n) (hn : n ≤ 4) : Yd (F_play_Src_Begin s n ill 7) fun p => OkS p.2 ∧ p.1.length ≤ 11 ∧ ∀ x ∈ p.1, SrcS x := by
  unfold F_play_Src_Begin
  have key : ∀ (k : Nat) (i : Int) (acc : List TStep) (s : TSrc), OkS s → 0 ≤ i → (n : Int) ≤ i + k → i ≤ n → (acc.length : Int) ≤ i → (∀ x ∈ acc, SrcS x) → Yd (loopO (fun (v1 : Int × (List TStep) × TSrc × Unit) =>
      bif (decide (v1.1 < (n : Int))) then
        letJ (fun (v2 : (List TStep) × TSrc × Unit) => some (Sum.inl ((addI .i64 v1.1 (1 : Int)), v2.1, v2.2.1, ()))) fun j3 =>
        if (convI .u64 v1.1) < 0 then none else
        bif (decide ((andI .i64 (shrI .i64 ill (convI .u64 v1.1)) (1 : Int)) = (0 : Int))) then
          Option.bind (F_play_Src_Text v1.2.2.1 [(ByteArray.mk #[97]), (ByteArray.mk #[98])]) fun p4 =>
          bif lenOk 448 (List.length v1.2.1 + List.length [(TStep.mk (8 : Int) v1.1 (0 : Int) (1 : Int) (0 : Int) p4.1 T0 L0 ([] : List Int))]) then
            j3 ((v1.2.1 ++ [(TStep.mk (8 : Int) v1.1 (0 : Int) (1 : Int) (0 : Int) p4.1 T0 L0 ([] : List Int))]), p4.2, ())
          else none
        else j3 (v1.2.1, v1.2.2.1, ())
      else
        Option.map Sum.inr (Option.bind (F_play_Src_Steps v1.2.2.1 n ill 7) fun p5 =>
          bif lenOk 448 (List.length v1.2.1 + List.length p5.1) then some ((v1.2.1 ++ p5.1), p5.2) else none)) (i, acc, s, ())) fun p => OkS p.2 ∧ p.1.length ≤ 11 ∧ ∀ x ∈ p.1, SrcS x := by
    intro k
    have fin : ∀ (i : Int) (acc : List TStep) (s : TSrc), OkS s → (acc.length : Int) ≤ 4 → (∀ x ∈ acc, SrcS x) → Yd (Option.bind (F_play_Src_Steps s n ill 7) fun p5 =>
          bif lenOk 448 (List.length acc + List.length p5.1) then some ((acc ++ p5.1), p5.2) else none) fun p => OkS p.2 ∧ p.1.length ≤ 11 ∧ ∀ x ∈ p.1, SrcS x := by
      intro i acc s h h1 h2
      refine (Steps_m h hn1 hn (by omega) (by omega)).bind fun p5 ⟨b1, b2, b3⟩ => ?_
      rw [lenOk_small (by omega), cond_true]
      refine ⟨_, rfl, b1, ?_, fun x hx => ?_⟩
      · show (acc ++ p5.1).length ≤ 11
        rw [List.length_append]; omega
      · rcases List.mem_append.1 hx with hx | hx
        · exact h2 x hx
        · exact b3 x hx
    induction k with
    | zero =>
      intro i acc s h h0 h1 h2 h3 h4
      refine Yd.loop ?_
      simp only []
      rw [decide_eq_false (by omega), cond_false]
      exact Yd.inr (fin i acc s h (by omega) h4)
    | succ k ih =>
      intro i acc s h h0 h1 h2 h3 h4
      refine Yd.loop ?_
      simp only []
      by_cases hi : i < n
      · rw [decide_eq_true hi, cond_true, letJ_eq, conv_u h0 (by omega), if_neg (by omega), add64 (by omega) (by omega)]
        refine Yd.cond (fun _ => ?_) fun _ => ?_
        · refine (Text_ok h (by simp) (by simp)).bind fun p4 ⟨b1, b2⟩ => ?_
          have hv : p4.1.size ≤ 2 := by
            simp only [List.mem_cons, List.not_mem_nil, or_false] at b2
            rcases b2 with e | e <;> rw [e] <;> decide
          rw [lenOk_small (by simp; omega), cond_true]
          refine ⟨_, rfl, ih (i + 1) _ p4.2 b1 (by omega) (by omega) (by omega) (by rw [List.length_append, List.length_singleton]; omega) fun x hx => ?_⟩
          rcases List.mem_append.1 hx with hx | hx
          · exact h4 x hx
          · rw [List.mem_singleton] at hx
            rw [hx]
            exact mkS (i64_s (by omega) (by omega)) i64_0 (i64_s (by omega) (by omega)) i64_0 hv (Nat.zero_le _) (fun m hm => by cases hm) (by omega)
        · exact ⟨_, rfl, ih (i + 1) acc s h (by omega) (by omega) (by omega) (by omega) h4⟩
      · rw [decide_eq_false hi, cond_false]
        exact Yd.inr (fin i acc s h (by omega) h4)
  exact key n 0 [] s h (by omega) (by omega) (by omega) (by show ((0 : Nat) : Int) ≤ 0; omega) fun x hx => by cases hx
end Go.Proofs.YtnhgcpiljggmmaaGreatDoor

set_option linter.unusedVariables false
set_option linter.unusedSimpArgs false
namespace Go.Proofs.YtnhgcpiljggmmaaGreatDoor
open Go.TQ Go.Proofs

theorem join_no {c : UInt8} {sep : Str} (hs : c ∉ sep) : ∀ (ws : List Str), (∀ w ∈ ws, c ∉ w) → c ∉ Lib.join ws sep
  | [], _ => by show c ∉ ([] : Str); simp
  | [x], h => by rw [Lib.join_one]; exact h x (by simp)
  | x :: y :: r, h => by
    rw [join_two]
    have h1 := join_no hs (y :: r) fun w hw => h w (by simp at hw ⊢; exact Or.inr hw)
    have h2 := h x (by simp)
    simp only [List.mem_append, not_or]
    exact ⟨⟨h2, hs⟩, h1⟩
theorem writeT_no {t : TTrust} (h : GoodT t) : (10 : UInt8) ∉ writeT t := by
  obtain ⟨th, ns, is⟩ := t
  obtain ⟨h1, _, h3, h4, h5⟩ := h
  simp only at h1 h3 h4 h5
  have hl : is.length ≤ 1 := by rcases h4 with rfl | ⟨x, _, _, rfl⟩ <;> simp
  have hth := (itoa_nosp (n := th) (by omega) (by omega)).2
  have key : ∀ (t : Int) (ws : List Str), (10 : UInt8) ∉ Lib.itoa t → (∀ w ∈ ws, (10 : UInt8) ∉ w) → (10 : UInt8) ∉ Lib.itoa t ++ [32, 111, 102, 32, 40] ++ Lib.join ws [44, 32] ++ [41] := by
    intro t ws ht hw
    have := join_no (c := 10) (sep := [44, 32]) (by decide) ws hw
    simp only [List.mem_append, not_or]
    exact ⟨⟨⟨ht, by decide⟩, this⟩, by decide⟩
  have hns : ∀ w ∈ ns.map Lib.itoa, (10 : UInt8) ∉ w := by
    intro w hw
    obtain ⟨m, hm, rfl⟩ := List.mem_map.1 hw
    have := h1 m hm
    exact (itoa_nosp (by omega) (by omega)).2
  rw [writeT]
  refine key th _ hth fun w hw => ?_
  rcases List.mem_append.1 hw with hw | hw
  · exact hns w hw
  · rcases h4 with rfl | ⟨x, hx0, hx1, rfl⟩
    · rw [writeL] at hw; cases hw
    · rw [writeL, writeL, List.mem_singleton] at hw
      rw [hw, writeT]
      refine key 1 _ (itoa_nosp (by omega) (by omega)).2 fun w hw => ?_
      rw [writeL, List.append_nil, List.map_cons, List.map_nil, List.mem_singleton] at hw
      rw [hw]
      exact (itoa_nosp (by omega) (by omega)).2
theorem textT_good {t : TTrust} (h : GoodT t) : textT t = writeT t := by unfold textT; rw [if_pos (tval_good h)]
/-- steps of the source that have lines -/
structure SrcOk (x : TStep) : Prop where
  src : SrcS x
  ok : StepOk x
theorem word_fact {x : TStep} (h : SrcOk x) : (∀ w ∈ wordsP x, (10 : UInt8) ∉ w) ∧ (wordsP x).length ≤ 40 ∧ Lib.lens (wordsP x) ≤ 700 := by
  have hb := h.ok.bd
  have hok := h.ok.ok
  have l1 := itoa_le hb.node
  have l2 := itoa_le hb.slot
  have l3 := itoa_le hb.count
  have l4 := itoa_le hb.to
  have l5 := itoa_le hb.lslot
  have l6 : x.Value.data.toList.length ≤ 2 := by rw [← size_data]; exact h.src.val
  have l8 := h.src.val
  have l9 := h.src.bval
  have l7 : x.Letter.Envelope.Ballot.Value.data.toList.length ≤ 2 := by rw [← size_data]; exact h.src.bval
  by_cases h1 : x.Kind = 1
  · have e1 : wordsP x = [sPropose, Lib.itoa x.Node, Lib.itoa x.Slot, x.Value.data.toList] := by simp [wordsP, h1]
    have e3 : okP x = (nodeB x.Node && (countB' x.Slot && wordOk x.Value)) := by simp [okP, h1]
    rw [e3, Bool.and_eq_true, Bool.and_eq_true] at hok
    obtain ⟨k1, k2, k3⟩ := hok
    rw [e1]
    refine ⟨fun w hw => ?_, by simp, by simp [Lib.lens, sPropose]; omega⟩
    simp only [List.mem_cons, List.not_mem_nil, or_false] at hw
    rcases hw with rfl | rfl | rfl | rfl
    · decide
    · exact (itoa_nosp (nodeB_of k1).1 (nodeB_of k1).2).2
    · exact (itoa_nosp (countB_of k2).1 (countB_of k2).2).2
    · exact (word_nosp k3).2
  by_cases h8 : x.Kind = 8
  · have e1 : wordsP x = [sPrefer, Lib.itoa x.Node, Lib.itoa x.Slot, x.Value.data.toList] := by simp [wordsP, h8]
    have e3 : okP x = (nodeB x.Node && (countB' x.Slot && wordOk x.Value)) := by simp [okP, h8]
    rw [e3, Bool.and_eq_true, Bool.and_eq_true] at hok
    obtain ⟨k1, k2, k3⟩ := hok
    rw [e1]
    refine ⟨fun w hw => ?_, by simp, by simp [Lib.lens, sPrefer]; omega⟩
    simp only [List.mem_cons, List.not_mem_nil, or_false] at hw
    rcases hw with rfl | rfl | rfl | rfl
    · decide
    · exact (itoa_nosp (nodeB_of k1).1 (nodeB_of k1).2).2
    · exact (itoa_nosp (countB_of k2).1 (countB_of k2).2).2
    · exact (word_nosp k3).2
  by_cases h2 : x.Kind = 2
  · have e1 : wordsP x = [sTick, Lib.itoa x.Count] := by simp [wordsP, h2]
    have e3 : okP x = countB' x.Count := by simp [okP, h2]
    rw [e3] at hok
    rw [e1]
    refine ⟨fun w hw => ?_, by simp, by simp [Lib.lens, sTick]; omega⟩
    simp only [List.mem_cons, List.not_mem_nil, or_false] at hw
    rcases hw with rfl | rfl
    · decide
    · exact (itoa_nosp (countB_of hok).1 (countB_of hok).2).2
  by_cases h4 : x.Kind = 4
  · have e1 : wordsP x = [sStop, Lib.itoa x.Node] := by simp [wordsP, h4]
    have e3 : okP x = nodeB x.Node := by simp [okP, h4]
    rw [e3] at hok
    rw [e1]
    refine ⟨fun w hw => ?_, by simp, by simp [Lib.lens, sStop]; omega⟩
    simp only [List.mem_cons, List.not_mem_nil, or_false] at hw
    rcases hw with rfl | rfl
    · decide
    · exact (itoa_nosp (nodeB_of hok).1 (nodeB_of hok).2).2
  by_cases h7 : x.Kind = 7
  · have e1 : wordsP x = [sDelay, Lib.itoa x.Node, Lib.itoa x.To, Lib.itoa x.Count] := by simp [wordsP, h7]
    have e3 : okP x = (nodeB x.Node && (nodeB x.To && countB' x.Count)) := by simp [okP, h7]
    rw [e3, Bool.and_eq_true, Bool.and_eq_true] at hok
    obtain ⟨k1, k2, k3⟩ := hok
    rw [e1]
    refine ⟨fun w hw => ?_, by simp, by simp [Lib.lens, sDelay]; omega⟩
    simp only [List.mem_cons, List.not_mem_nil, or_false] at hw
    rcases hw with rfl | rfl | rfl | rfl
    · decide
    · exact (itoa_nosp (nodeB_of k1).1 (nodeB_of k1).2).2
    · exact (itoa_nosp (nodeB_of k2).1 (nodeB_of k2).2).2
    · exact (itoa_nosp (countB_of k3).1 (countB_of k3).2).2
  by_cases h6 : x.Kind = 6
  · have e1 : wordsP x = sPart :: x.Parts.map Lib.itoa := by simp [wordsP, h6]
    have e3 : okP x = (decide (0 < x.Parts.length) && !(x.Parts.any fun n => !setB n)) := by simp [okP, h6]
    rw [e3] at hok
    simp only [Bool.and_eq_true, Bool.not_eq_true', List.any_eq_false] at hok
    have hp := h.src.parts
    have hl := lens_itoa x.Parts hb.part
    rw [e1]
    refine ⟨fun w hw => ?_, by simp; omega, ?_⟩
    · simp only [List.mem_cons, List.mem_map] at hw
      rcases hw with rfl | ⟨m, hm, rfl⟩
      · decide
      · have hs : setB m = true := by have := hok.2 m hm; simpa using this
        exact (itoa_nosp (setB_of hs).1 (setB_of hs).2).2
    · have : Lib.lens (sPart :: x.Parts.map Lib.itoa) = 4 + Lib.lens (x.Parts.map Lib.itoa) := by simp [Lib.lens, sPart]
      omega
  by_cases h3 : x.Kind = 3
  · have hg := h.ok.good h3
    have hwr := writeT_le x.Trust hb.trust
    have hw13 := good_w hg
    have e1 : wordsP x = [sDeclare, Lib.itoa x.Node, writeT x.Trust] := by rw [← textT_good hg]; simp [wordsP, h3]
    have e3 : okP x = (nodeB x.Node && decide (tval x.Trust = 0)) := by simp [okP, h3]
    rw [e3, Bool.and_eq_true] at hok
    obtain ⟨k1, k2⟩ := hok
    rw [e1]
    refine ⟨fun w hw => ?_, by simp, by simp [Lib.lens, sDeclare]; omega⟩
    simp only [List.mem_cons, List.not_mem_nil, or_false] at hw
    rcases hw with rfl | rfl | rfl
    · decide
    · exact (itoa_nosp (nodeB_of k1).1 (nodeB_of k1).2).2
    · exact writeT_no hg
  by_cases h5 : x.Kind = 5
  · have e1 : wordsP x = [sLie, Lib.itoa x.Node, Lib.itoa x.To, Lib.itoa x.Letter.Slot, x.Letter.Envelope.Ballot.Value.data.toList] := by simp [wordsP, h5]
    have e3 : okP x = (nodeB x.Node && (nodeB x.To && (countB' x.Letter.Slot && wordOk x.Letter.Envelope.Ballot.Value))) := by simp [okP, h5]
    rw [e3, Bool.and_eq_true, Bool.and_eq_true, Bool.and_eq_true] at hok
    obtain ⟨k1, k2, k3, k4⟩ := hok
    rw [e1]
    refine ⟨fun w hw => ?_, by simp, by simp [Lib.lens, sLie]; omega⟩
    simp only [List.mem_cons, List.not_mem_nil, or_false] at hw
    rcases hw with rfl | rfl | rfl | rfl | rfl
    · decide
    · exact (itoa_nosp (nodeB_of k1).1 (nodeB_of k1).2).2
    · exact (itoa_nosp (nodeB_of k2).1 (nodeB_of k2).2).2
    · exact (itoa_nosp (countB_of k3).1 (countB_of k3).2).2
    · exact (word_nosp k4).2
  have e1 : wordsP x = [] := by simp [wordsP, h1, h8, h2, h4, h7, h6, h3, h5]
  rw [e1]
  exact ⟨(fun w hw => nomatch hw), Nat.zero_le _, Nat.zero_le _⟩
theorem line_fact {x : TStep} (h : SrcOk x) : (10 : UInt8) ∉ lineT x ∧ (lineT x).length ≤ 740 := by
  have hw := word_fact h
  refine ⟨join_no (by decide) _ hw.1, ?_⟩
  have := join_le [32] (wordsP x)
  simp only [List.length_cons, List.length_nil] at this
  unfold lineT
  omega
theorem text_len : ∀ (xs : List TStep), (∀ x ∈ xs, SrcOk x) → (textOf (xs.map lineT)).length ≤ 741 * xs.length
  | [], _ => Nat.zero_le _
  | x :: xs, h => by
    have h1 := text_len xs fun y hy => h y (by simp [hy])
    have h2 := (line_fact (h x (by simp))).2
    rw [List.map_cons, textOf_cons, List.length_append, List.length_cons, List.length_cons]
    omega
theorem scr_src {xs : List TStep} (h : ∀ x ∈ xs, SrcOk x) (hn : xs.length ≤ 12) : Scr xs :=
  ⟨fun x hx => (h x hx).ok, by omega, fun x hx => (line_fact (h x hx)).1, by have := text_len xs h; omega⟩
theorem lines_m (s : TSrc) (h : OkS s) (n ill : Int) (hn1 : 1 ≤ n) (hn : n ≤ 4) : Yd (F_law45_lines s n ill) fun p => OkS p.2 ∧ Scr p.1 := by
  obtain ⟨n, rfl⟩ := Int.eq_ofNat_of_zero_le (show 0 ≤ n by omega)
  unfold F_law45_lines
  refine (Begin_m h (by omega) (by omega)).bind fun p1 ⟨a1, a2, a3⟩ => ?_
  obtain ⟨xs, s1⟩ := p1
  simp only at a1 a2 a3
  simp only [step_eta, letJ_eq]
  have key : ∀ (l pre acc : List TStep), xs = pre ++ l → acc.length ≤ pre.length → (∀ x ∈ acc, SrcOk x) → Yd (loopO (fun (v2 : Int × (List TStep) × Unit) =>
      bif (decide (v2.1 < ((List.length xs : Nat) : Int))) then
        Option.bind (idx xs v2.1) fun x5 =>
        Option.bind (F_ref45_Step x5) fun r6 =>
        bif r6.2.1 then
          bif lenOk 448 (List.length v2.2.1 + List.length [x5]) then some (Sum.inl ((addI .i64 v2.1 (1 : Int)), (v2.2.1 ++ [x5]), ())) else none
        else some (Sum.inl ((addI .i64 v2.1 (1 : Int)), v2.2.1, ()))
      else Option.map Sum.inr (some (v2.2.1, s1))) ((pre.length : Int), acc, ())) fun p => OkS p.2 ∧ Scr p.1 := by
    intro l
    induction l with
    | nil =>
      intro pre acc he hl hacc
      rw [List.append_nil] at he
      subst he
      refine Yd.loop ?_
      simp only []
      rw [decide_eq_false (by omega), cond_false]
      exact ⟨_, rfl, a1, scr_src hacc (by show acc.length ≤ 12; omega)⟩
    | cons u l ihl =>
      intro pre acc he hl hacc
      have hlen : xs.length = pre.length + l.length + 1 := by rw [he]; simp; omega
      have hu : SrcS u := a3 u (by rw [he]; simp)
      refine Yd.loop ?_
      simp only []
      rw [decide_eq_true (by omega), cond_true, idx_nat, show xs[pre.length]? = some u by rw [he]; simp, Option.bind_some]
      refine (step45 hu.bd hu.w hu.parts).bind fun r6 hr6 => ?_
      rw [add64 (by omega) (by omega)]
      have go : ∀ acc' : List TStep, acc'.length ≤ pre.length + 1 → (∀ x ∈ acc', SrcOk x) → _ := fun acc' h1 h2 => ihl (pre ++ [u]) acc' (by rw [he]; simp) (by rw [List.length_append, List.length_singleton]; exact h1) h2
      rw [show (((pre ++ [u]).length : Nat) : Int) = (pre.length : Int) + 1 by simp] at go
      refine Yd.cond (fun hb => ?_) fun _ => ?_
      · have := hr6 hb
        rw [lenOk_small (by simp; omega), cond_true]
        refine ⟨_, rfl, go (acc ++ [u]) (by rw [List.length_append, List.length_singleton]; omega) fun x hx => ?_⟩
        rcases List.mem_append.1 hx with hx | hx
        · exact hacc x hx
        · rw [List.mem_singleton] at hx
          rw [hx]
          exact ⟨hu, ⟨hu.bd, this.1, this.2, hu.trust⟩⟩
      · exact ⟨_, rfl, go acc (by omega) hacc⟩
  exact key xs [] [] rfl (Nat.zero_le _) fun x hx => by cases hx
theorem needs : Needs where
  ill := Ill_m
  lines := fun s h n ill h1 h2 _ _ => lines_m s h n ill h1 h2
  refl := fun xs h => steps43 (fun x hx => (h.ok x hx).bd) (by have := h.few; omega)
theorem back (l : List Int) : F_law45_LaboratoryBack l = some true := back_law needs l
end Go.Proofs.YtnhgcpiljggmmaaGreatDoor
