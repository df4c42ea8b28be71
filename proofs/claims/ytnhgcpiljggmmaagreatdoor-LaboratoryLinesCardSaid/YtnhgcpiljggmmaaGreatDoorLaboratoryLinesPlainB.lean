/-
  Plain Lean: what the turned functions compute. Conditions: none beyond those that each theorem names.
-/
import Derived.Test.YtnhgcpiljggmmaaGreatDoorLaboratoryLinesPlainA
set_option linter.unusedVariables false
set_option linter.unusedSimpArgs false
namespace Go.Proofs.YtnhgcpiljggmmaaGreatDoor
open Go.TQ Go.Proofs

theorem join_no {c : UInt8} {sep : Str} (hs : c ∉ sep) : ∀ (ws : List Str), (∀ w ∈ ws, c ∉ w) → c ∉ Lib.join ws sep
  | [], _ => by show c ∉ ([] : Str); simp
  | [x], h => by rw [Lib.join_one]; exact h x (by simp)
  | x :: y :: r, h => by
    rw [join_two]
    have h1 := join_no hs (y :: r) fun w hw => h w (by simp at hw ⊢; exact Or.inr hw)
    have h2 := h x (by simp)
    simp only [List.mem_append, not_or]
    exact ⟨⟨h2, hs⟩, h1⟩
theorem writeT_no {t : TTrust} (h : GoodT t) : (10 : UInt8) ∉ writeT t := by
  obtain ⟨th, ns, is⟩ := t
  obtain ⟨h1, _, h3, h4, h5⟩ := h
  simp only at h1 h3 h4 h5
  have hl : is.length ≤ 1 := by rcases h4 with rfl | ⟨x, _, _, rfl⟩ <;> simp
  have hth := (itoa_nosp (n := th) (by omega) (by omega)).2
  have key : ∀ (t : Int) (ws : List Str), (10 : UInt8) ∉ Lib.itoa t → (∀ w ∈ ws, (10 : UInt8) ∉ w) → (10 : UInt8) ∉ Lib.itoa t ++ [32, 111, 102, 32, 40] ++ Lib.join ws [44, 32] ++ [41] := by
    intro t ws ht hw
    have := join_no (c := 10) (sep := [44, 32]) (by decide) ws hw
    simp only [List.mem_append, not_or]
    exact ⟨⟨⟨ht, by decide⟩, this⟩, by decide⟩
  have hns : ∀ w ∈ ns.map Lib.itoa, (10 : UInt8) ∉ w := by
    intro w hw
    obtain ⟨m, hm, rfl⟩ := List.mem_map.1 hw
    have := h1 m hm
    exact (itoa_nosp (by omega) (by omega)).2
  rw [writeT]
  refine key th _ hth fun w hw => ?_
  rcases List.mem_append.1 hw with hw | hw
  · exact hns w hw
  · rcases h4 with rfl | ⟨x, hx0, hx1, rfl⟩
    · rw [writeL] at hw; cases hw
    · rw [writeL, writeL, List.mem_singleton] at hw
      rw [hw, writeT]
      refine key 1 _ (itoa_nosp (by omega) (by omega)).2 fun w hw => ?_
      rw [writeL, List.append_nil, List.map_cons, List.map_nil, List.mem_singleton] at hw
      rw [hw]
      exact (itoa_nosp (by omega) (by omega)).2
theorem textT_good {t : TTrust} (h : GoodT t) : textT t = writeT t := by unfold textT; rw [if_pos (tval_good h)]
/-- steps of the source that have lines -/
structure SrcOk (x : TStep) : Prop where
  src : SrcS x
  ok : StepOk x
theorem word_fact {x : TStep} (h : SrcOk x) : (∀ w ∈ wordsP x, (10 : UInt8) ∉ w) ∧ (wordsP x).length ≤ 40 ∧ Lib.lens (wordsP x) ≤ 700 := by
  have hb := h.ok.bd
  have hok := h.ok.ok
  have l1 := itoa_le hb.node
  have l2 := itoa_le hb.slot
  have l3 := itoa_le hb.count
  have l4 := itoa_le hb.to
  have l5 := itoa_le hb.lslot
  have l6 : x.Value.data.toList.length ≤ 2 := by rw [← size_data]; exact h.src.val
  have l8 := h.src.val
  have l9 := h.src.bval
  have l7 : x.Letter.Envelope.Ballot.Value.data.toList.length ≤ 2 := by rw [← size_data]; exact h.src.bval
  by_cases h1 : x.Kind = 1
  · have e1 : wordsP x = [sPropose, Lib.itoa x.Node, Lib.itoa x.Slot, x.Value.data.toList] := by simp [wordsP, h1]
    have e3 : okP x = (nodeB x.Node && (countB' x.Slot && wordOk x.Value)) := by simp [okP, h1]
    rw [e3, Bool.and_eq_true, Bool.and_eq_true] at hok
    obtain ⟨k1, k2, k3⟩ := hok
    rw [e1]
    refine ⟨fun w hw => ?_, by simp, by simp [Lib.lens, sPropose]; omega⟩
    simp only [List.mem_cons, List.not_mem_nil, or_false] at hw
    rcases hw with rfl | rfl | rfl | rfl
    · decide
    · exact (itoa_nosp (nodeB_of k1).1 (nodeB_of k1).2).2
    · exact (itoa_nosp (countB_of k2).1 (countB_of k2).2).2
    · exact (word_nosp k3).2
  by_cases h8 : x.Kind = 8
  · have e1 : wordsP x = [sPrefer, Lib.itoa x.Node, Lib.itoa x.Slot, x.Value.data.toList] := by simp [wordsP, h8]
    have e3 : okP x = (nodeB x.Node && (countB' x.Slot && wordOk x.Value)) := by simp [okP, h8]
    rw [e3, Bool.and_eq_true, Bool.and_eq_true] at hok
    obtain ⟨k1, k2, k3⟩ := hok
    rw [e1]
    refine ⟨fun w hw => ?_, by simp, by simp [Lib.lens, sPrefer]; omega⟩
    simp only [List.mem_cons, List.not_mem_nil, or_false] at hw
    rcases hw with rfl | rfl | rfl | rfl
    · decide
    · exact (itoa_nosp (nodeB_of k1).1 (nodeB_of k1).2).2
    · exact (itoa_nosp (countB_of k2).1 (countB_of k2).2).2
    · exact (word_nosp k3).2
  by_cases h2 : x.Kind = 2
  · have e1 : wordsP x = [sTick, Lib.itoa x.Count] := by simp [wordsP, h2]
    have e3 : okP x = countB' x.Count := by simp [okP, h2]
    rw [e3] at hok
    rw [e1]
    refine ⟨fun w hw => ?_, by simp, by simp [Lib.lens, sTick]; omega⟩
    simp only [List.mem_cons, List.not_mem_nil, or_false] at hw
    rcases hw with rfl | rfl
    · decide
    · exact (itoa_nosp (countB_of hok).1 (countB_of hok).2).2
  by_cases h4 : x.Kind = 4
  · have e1 : wordsP x = [sStop, Lib.itoa x.Node] := by simp [wordsP, h4]
    have e3 : okP x = nodeB x.Node := by simp [okP, h4]
    rw [e3] at hok
    rw [e1]
    refine ⟨fun w hw => ?_, by simp, by simp [Lib.lens, sStop]; omega⟩
    simp only [List.mem_cons, List.not_mem_nil, or_false] at hw
    rcases hw with rfl | rfl
    · decide
    · exact (itoa_nosp (nodeB_of hok).1 (nodeB_of hok).2).2
  by_cases h7 : x.Kind = 7
  · have e1 : wordsP x = [sDelay, Lib.itoa x.Node, Lib.itoa x.To, Lib.itoa x.Count] := by simp [wordsP, h7]
    have e3 : okP x = (nodeB x.Node && (nodeB x.To && countB' x.Count)) := by simp [okP, h7]
    rw [e3, Bool.and_eq_true, Bool.and_eq_true] at hok
    obtain ⟨k1, k2, k3⟩ := hok
    rw [e1]
    refine ⟨fun w hw => ?_, by simp, by simp [Lib.lens, sDelay]; omega⟩
    simp only [List.mem_cons, List.not_mem_nil, or_false] at hw
    rcases hw with rfl | rfl | rfl | rfl
    · decide
    · exact (itoa_nosp (nodeB_of k1).1 (nodeB_of k1).2).2
    · exact (itoa_nosp (nodeB_of k2).1 (nodeB_of k2).2).2
    · exact (itoa_nosp (countB_of k3).1 (countB_of k3).2).2
  by_cases h6 : x.Kind = 6
  · have e1 : wordsP x = sPart :: x.Parts.map Lib.itoa := by simp [wordsP, h6]
    have e3 : okP x = (decide (0 < x.Parts.length) && !(x.Parts.any fun n => !setB n)) := by simp [okP, h6]
    rw [e3] at hok
    simp only [Bool.and_eq_true, Bool.not_eq_true', List.any_eq_false] at hok
    have hp := h.src.parts
    have hl := lens_itoa x.Parts hb.part
    rw [e1]
    refine ⟨fun w hw => ?_, by simp; omega, ?_⟩
    · simp only [List.mem_cons, List.mem_map] at hw
      rcases hw with rfl | ⟨m, hm, rfl⟩
      · decide
      · have hs : setB m = true := by have := hok.2 m hm; simpa using this
        exact (itoa_nosp (setB_of hs).1 (setB_of hs).2).2
    · have : Lib.lens (sPart :: x.Parts.map Lib.itoa) = 4 + Lib.lens (x.Parts.map Lib.itoa) := by simp [Lib.lens, sPart]
      omega
  by_cases h3 : x.Kind = 3
  · have hg := h.ok.good h3
    have hwr := writeT_le x.Trust hb.trust
    have hw13 := good_w hg
    have e1 : wordsP x = [sDeclare, Lib.itoa x.Node, writeT x.Trust] := by rw [← textT_good hg]; simp [wordsP, h3]
    have e3 : okP x = (nodeB x.Node && decide (tval x.Trust = 0)) := by simp [okP, h3]
    rw [e3, Bool.and_eq_true] at hok
    obtain ⟨k1, k2⟩ := hok
    rw [e1]
    refine ⟨fun w hw => ?_, by simp, by simp [Lib.lens, sDeclare]; omega⟩
    simp only [List.mem_cons, List.not_mem_nil, or_false] at hw
    rcases hw with rfl | rfl | rfl
    · decide
    · exact (itoa_nosp (nodeB_of k1).1 (nodeB_of k1).2).2
    · exact writeT_no hg
  by_cases h5 : x.Kind = 5
  · have e1 : wordsP x = [sLie, Lib.itoa x.Node, Lib.itoa x.To, Lib.itoa x.Letter.Slot, x.Letter.Envelope.Ballot.Value.data.toList] := by simp [wordsP, h5]
    have e3 : okP x = (nodeB x.Node && (nodeB x.To && (countB' x.Letter.Slot && wordOk x.Letter.Envelope.Ballot.Value))) := by simp [okP, h5]
    rw [e3, Bool.and_eq_true, Bool.and_eq_true, Bool.and_eq_true] at hok
    obtain ⟨k1, k2, k3, k4⟩ := hok
    rw [e1]
    refine ⟨fun w hw => ?_, by simp, by simp [Lib.lens, sLie]; omega⟩
    simp only [List.mem_cons, List.not_mem_nil, or_false] at hw
    rcases hw with rfl | rfl | rfl | rfl | rfl
    · decide
    · exact (itoa_nosp (nodeB_of k1).1 (nodeB_of k1).2).2
    · exact (itoa_nosp (nodeB_of k2).1 (nodeB_of k2).2).2
    · exact (itoa_nosp (countB_of k3).1 (countB_of k3).2).2
    · exact (word_nosp k4).2
  have e1 : wordsP x = [] := by simp [wordsP, h1, h8, h2, h4, h7, h6, h3, h5]
  rw [e1]
  exact ⟨(fun w hw => nomatch hw), Nat.zero_le _, Nat.zero_le _⟩
theorem line_fact {x : TStep} (h : SrcOk x) : (10 : UInt8) ∉ lineT x ∧ (lineT x).length ≤ 740 := by
  have hw := word_fact h
  refine ⟨join_no (by decide) _ hw.1, ?_⟩
  have := join_le [32] (wordsP x)
  simp only [List.length_cons, List.length_nil] at this
  unfold lineT
  omega
theorem text_len : ∀ (xs : List TStep), (∀ x ∈ xs, SrcOk x) → (textOf (xs.map lineT)).length ≤ 741 * xs.length
  | [], _ => Nat.zero_le _
  | x :: xs, h => by
    have h1 := text_len xs fun y hy => h y (by simp [hy])
    have h2 := (line_fact (h x (by simp))).2
    rw [List.map_cons, textOf_cons, List.length_append, List.length_cons, List.length_cons]
    omega
theorem scr_src {xs : List TStep} (h : ∀ x ∈ xs, SrcOk x) (hn : xs.length ≤ 12) : Scr xs :=
  ⟨fun x hx => (h x hx).ok, by omega, fun x hx => (line_fact (h x hx)).1, by have := text_len xs h; omega⟩
theorem lines_m (s : TSrc) (h : OkS s) (n ill : Int) (hn1 : 1 ≤ n) (hn : n ≤ 4) : Yd (F_law45_lines s n ill) fun p => OkS p.2 ∧ Scr p.1 := by
  obtain ⟨n, rfl⟩ := Int.eq_ofNat_of_zero_le (show 0 ≤ n by omega)
  unfold F_law45_lines
  refine (Begin_m h (by omega) (by omega)).bind fun p1 ⟨a1, a2, a3⟩ => ?_
  obtain ⟨xs, s1⟩ := p1
  simp only at a1 a2 a3
  simp only [step_eta, letJ_eq]
  have key : ∀ (l pre acc : List TStep), xs = pre ++ l → acc.length ≤ pre.length → (∀ x ∈ acc, SrcOk x) → Yd (loopO (fun (v2 : Int × (List TStep) × Unit) =>
      bif (decide (v2.1 < ((List.length xs : Nat) : Int))) then
        Option.bind (idx xs v2.1) fun x5 =>
        Option.bind (F_ref45_Step x5) fun r6 =>
        bif r6.2.1 then
          bif lenOk 448 (List.length v2.2.1 + List.length [x5]) then some (Sum.inl ((addI .i64 v2.1 (1 : Int)), (v2.2.1 ++ [x5]), ())) else none
        else some (Sum.inl ((addI .i64 v2.1 (1 : Int)), v2.2.1, ()))
      else Option.map Sum.inr (some (v2.2.1, s1))) ((pre.length : Int), acc, ())) fun p => OkS p.2 ∧ Scr p.1 := by
    intro l
    induction l with
    | nil =>
      intro pre acc he hl hacc
      rw [List.append_nil] at he
      subst he
      refine Yd.loop ?_
      simp only []
      rw [decide_eq_false (by omega), cond_false]
      exact ⟨_, rfl, a1, scr_src hacc (by show acc.length ≤ 12; omega)⟩
    | cons u l ihl =>
      intro pre acc he hl hacc
      have hlen : xs.length = pre.length + l.length + 1 := by rw [he]; simp; omega
      have hu : SrcS u := a3 u (by rw [he]; simp)
      refine Yd.loop ?_
      simp only []
      rw [decide_eq_true (by omega), cond_true, idx_nat, show xs[pre.length]? = some u by rw [he]; simp, Option.bind_some]
      refine (step45 hu.bd hu.w hu.parts).bind fun r6 hr6 => ?_
      rw [add64 (by omega) (by omega)]
      have go : ∀ acc' : List TStep, acc'.length ≤ pre.length + 1 → (∀ x ∈ acc', SrcOk x) → _ := fun acc' h1 h2 => ihl (pre ++ [u]) acc' (by rw [he]; simp) (by rw [List.length_append, List.length_singleton]; exact h1) h2
      rw [show (((pre ++ [u]).length : Nat) : Int) = (pre.length : Int) + 1 by simp] at go
      refine Yd.cond (fun hb => ?_) fun _ => ?_
      · have := hr6 hb
        rw [lenOk_small (by simp; omega), cond_true]
        refine ⟨_, rfl, go (acc ++ [u]) (by rw [List.length_append, List.length_singleton]; omega) fun x hx => ?_⟩
        rcases List.mem_append.1 hx with hx | hx
        · exact hacc x hx
        · rw [List.mem_singleton] at hx
          rw [hx]
          exact ⟨hu, ⟨hu.bd, this.1, this.2, hu.trust⟩⟩
      · exact ⟨_, rfl, go acc (by omega) hacc⟩
  exact key xs [] [] rfl (Nat.zero_le _) fun x hx => by cases hx
end Go.Proofs.YtnhgcpiljggmmaaGreatDoor

set_option linter.unusedVariables false
set_option linter.unusedSimpArgs false
namespace Go.Proofs.YtnhgcpiljggmmaaGreatDoor
open Go.TQ Go.Proofs

/-- no line end is found where there is none -/
theorem scan_line {ρ : Type} {y : Str} (hn : (10 : UInt8) ∉ y) (hl : y.length ≤ 1000000) {bad fin : Option ρ} {p : ρ → Prop} (hf : Yd fin p) : ∀ (zs pre : Str), y = pre ++ zs →
    Yd (loopO (fun (v8 : Int × Unit) =>
      bif (decide (v8.1 < ((ByteArray.size (bs y) : Nat) : Int))) then
        Option.bind (sidx (bs y) v8.1) fun x9 =>
        bif (decide (x9 = (10 : Int))) then Option.map Sum.inr bad else some (Sum.inl ((addI .i64 v8.1 (1 : Int)), ()))
      else Option.map Sum.inr fin) ((pre.length : Int), ())) p
  | [], pre, he => by
    refine Yd.loop ?_
    rw [List.append_nil] at he
    subst he
    simp only []
    rw [decide_eq_false (show ¬ ((y.length : Nat) : Int) < (((bs y).size : Nat) : Int) by rw [bs_size]; omega), cond_false]
    exact Yd.inr hf
  | z :: zs, pre, he => by
    have hz : z ≠ 10 := fun e => hn (by rw [he, e]; simp)
    have hlen : y.length = pre.length + zs.length + 1 := by rw [he]; simp; omega
    refine Yd.loop ?_
    simp only []
    rw [decide_eq_true (show ((pre.length : Nat) : Int) < (((bs y).size : Nat) : Int) by rw [bs_size]; omega), cond_true, sidx_bs, show y[pre.length]? = some z by rw [he]; simp]
    simp only [Option.map_some, Option.bind_some]
    have h1 : ((z.toNat : Nat) : Int) ≠ 10 := fun e => hz (UInt8.toNat_inj.1 (by show z.toNat = 10; omega))
    rw [decide_eq_false h1, cond_false, add64 (by omega) (by omega)]
    refine ⟨_, rfl, ?_⟩
    have := scan_line hn hl (bad := bad) hf zs (pre ++ [z]) (by rw [he]; simp)
    rw [show (((pre ++ [z]).length : Nat) : Int) = (pre.length : Int) + 1 by simp] at this
    exact this
/-- a loop whose states are known -/
theorem Yd.upto {τ ρ : Type} {p : ρ → Prop} {step : τ → Option (τ ⊕ ρ)} (n : Nat) (mk : Nat → τ) (h1 : ∀ i, i < n → Yd (step (mk i)) fun y => y = .inl (mk (i + 1)))
    (h2 : Yd (step (mk n)) fun y => match y with | .inl _ => False | .inr r => p r) : Yd (loopO step (mk 0)) p := by
  suffices key : ∀ k i, i + k = n → Yd (loopO step (mk i)) p from key n 0 (by omega)
  intro k
  induction k with
  | zero =>
    intro i hi
    obtain rfl : i = n := by omega
    refine Yd.loop (h2.mono fun y hy => ?_)
    cases y with
    | inl s => exact hy.elim
    | inr r => exact hy
  | succ k ih =>
    intro i hi
    refine Yd.loop ((h1 i (by omega)).mono fun y hy => ?_)
    rw [hy]
    exact ih (i + 1) (by omega)
theorem textOf_app (a b : List Str) : textOf (a ++ b) = textOf a ++ textOf b := by simp [textOf]
def sNo : Str := [110, 111, 116, 104, 105, 110, 103, 32, 49]
theorem read_no : (readP (cutC 32 sNo)).2 = false := by
  have : cutC 32 sNo = [[110, 111, 116, 104, 105, 110, 103], [49]] := by decide
  rw [this]
  unfold readP
  simp [wdP, finP, sPropose, sPrefer, sTick, sStop, sDelay, sPart, sDeclare, sLie]
/-- a wrong line is told by its number -/
theorem parse_wrong {xs : List TStep} (h : Scr xs) (k : Nat) (hk : k ≤ xs.length) : parseL (textOf ((xs.take k).map lineT) ++ (sNo ++ [10]) ++ textOf (xs.map lineT)) = ([], ((k + 1 : Nat) : Int), 2) := by
  have e : textOf ((xs.take k).map lineT) ++ (sNo ++ [10]) ++ textOf (xs.map lineT) = textOf ((xs.take k).map lineT ++ ([sNo] ++ xs.map lineT)) := by
    rw [textOf_app, textOf_app]
    simp [textOf]
  have hm : ∀ y ∈ xs.map lineT, (10 : UInt8) ∉ y := fun y hy => by
    obtain ⟨x, hx, rfl⟩ := List.mem_map.1 hy
    exact h.nl x hx
  have hT : (textOf (xs.map lineT)).length = (textOf ((xs.take k).map lineT)).length + (textOf ((xs.drop k).map lineT)).length := by
    rw [← List.length_append, ← textOf_app, ← List.map_append, List.take_append_drop]
  have hnl : ∀ y ∈ (xs.take k).map lineT ++ ([sNo] ++ xs.map lineT), (10 : UInt8) ∉ y := fun y hy => by
    rcases List.mem_append.1 hy with hy | hy
    · obtain ⟨x, hx, rfl⟩ := List.mem_map.1 hy
      exact h.nl x (List.mem_of_mem_take hx)
    · rcases List.mem_append.1 hy with hy | hy
      · rw [List.mem_singleton.1 hy]; decide
      · exact hm y hy
  have h1 := h.short
  have h2 := h.few
  unfold parseL
  rw [e, if_neg, linesP_text _ hnl, List.map_append, List.map_map]
  · have := go_ok (xs.take k) 0 (([sNo] ++ xs.map lineT).map (· ++ [10])) [] fun x hx => h.ok x (List.mem_of_mem_take hx)
    refine Eq.trans this ?_
    rw [List.singleton_append, List.map_cons, goP, trimP_line, if_neg (by rw [read_no]; simp), List.length_take, Nat.min_eq_left hk, Nat.zero_add]
  · rw [count_text _ hnl]
    rw [← e]
    have : sNo.length = 9 := rfl
    simp only [List.length_append, List.length_map, List.length_take, List.length_cons, List.length_nil]
    omega
theorem lines (l : List Int) {a : Int} (h0 : 0 ≤ a) (hu : a < 256) : F_law45_LaboratoryLines l a = some true := by
  refine Yd.eq_true ?_
  unfold F_law45_LaboratoryLines
  refine (New_ok l).bind fun r1 h1 => ?_
  refine (Range_ok h1 (a := 1) (b := 4) (by omega) (by omega) (by omega)).bind fun p2 ⟨h2, a1, a2, _⟩ => ?_
  refine (Ill_m p2.2 h2 p2.1 a1 (a2 (by omega))).bind fun p3 ⟨h3, b1, b2⟩ => ?_
  refine (lines_m p3.2 h3 p2.1 p3.1 a1 (a2 (by omega))).bind fun p4 ⟨h4, hS⟩ => ?_
  obtain ⟨xs, s'⟩ := p4
  simp only [step_eta] at h4 hS ⊢
  have hsh := hS.short
  have hfew := hS.few
  have hpre : ∀ k, (textOf ((xs.take k).map lineT)).length ≤ 9000 := fun k => by
    have : (textOf (xs.map lineT)).length = (textOf ((xs.take k).map lineT)).length + (textOf ((xs.drop k).map lineT)).length := by
      rw [← List.length_append, ← textOf_app, ← List.map_append, List.take_append_drop]
    omega
  refine Yd.upto xs.length (fun i => (bs (textOf ((xs.take i).map lineT)), (i : Int), ())) (fun i hi => ?_) ?_
  · have hu : xs[i] ∈ xs := List.getElem_mem hi
    have ok := hS.ok _ hu
    have hline := hpre (i + 1)
    have htk : xs.take (i + 1) = xs.take i ++ [xs[i]] := by rw [List.take_add_one, List.getElem?_eq_getElem hi]; rfl
    have hs1 : textOf ((xs.take (i + 1)).map lineT) = textOf ((xs.take i).map lineT) ++ (lineT xs[i] ++ [10]) := by
      rw [htk, List.map_append, textOf_app]
      simp [textOf]
    rw [hs1] at hline ⊢
    simp only [List.length_append, List.length_cons, List.length_nil] at hline
    simp only []
    rw [decide_eq_true (by omega), cond_true, idx_nat, List.getElem?_eq_getElem hi, Option.bind_some, step_ok ok.bd ok.plain ok.ok, Option.bind_some]
    simp only [Bool.not_true, cond_false]
    refine scan_line (hS.nl _ hu) (by omega) ?_ _ [] rfl
    rw [show (ByteArray.mk #[10]) = bs [10] from rfl, scat_bs _ _ (by simp only [List.length_append, List.length_cons, List.length_nil]; omega), Option.bind_some, scat_bs _ _ (by simp only [List.length_append, List.length_cons, List.length_nil]; omega), Option.bind_some, add64 (by omega) (by omega)]
    exact ⟨_, rfl, rfl⟩
  · simp only [List.take_length]
    rw [decide_eq_false (by omega), cond_false]
    refine Yd.inr ?_
    rw [scr_format hS, Option.bind_some]
    simp only [decide_true, Bool.not_true, cond_false, Option.bind_some]
    have hn : addI .i64 ((xs.length : Nat) : Int) 1 = ((xs.length + 1 : Nat) : Int) := by rw [add64 (by omega) (by omega)]; omega
    obtain ⟨k, hk, hkl⟩ : ∃ k : Nat, remI .i64 (convI .i64 a) ((xs.length + 1 : Nat) : Int) = k ∧ k ≤ xs.length := by
      obtain ⟨b, rfl⟩ := Int.eq_ofNat_of_zero_le h0
      rw [convI_i64_u8 b (by omega)]
      refine ⟨b % (xs.length + 1), ?_, by have := Nat.mod_lt b (show 0 < xs.length + 1 by omega); omega⟩
      show Int.tmod (b : Int) ((xs.length + 1 : Nat) : Int) = _
      rw [Int.tmod_eq_emod_of_nonneg (by omega)]
      rfl
    rw [hn, hk, if_neg (by omega), show slcOk (0 : Int) (k : Int) xs.length = true by simp [slcOk]; omega, cond_true]
    simp only [Int.toNat_natCast, Int.toNat_zero, List.drop_zero]
    have hSk : Scr (xs.take k) := ⟨fun x hx => hS.ok x (List.mem_of_mem_take hx), by rw [List.length_take]; omega, fun x hx => hS.nl x (List.mem_of_mem_take hx), hpre k⟩
    have hk9 := hpre k
    have hno : sNo.length = 9 := rfl
    rw [scr_format hSk, Option.bind_some]
    simp only []
    rw [show (ByteArray.mk #[110, 111, 116, 104, 105, 110, 103, 32, 49, 10]) = bs (sNo ++ [10]) from rfl, scat_bs _ _ (by simp only [List.length_append, List.length_cons, List.length_nil]; omega), Option.bind_some, scat_bs _ _ (by simp only [List.length_append, List.length_cons, List.length_nil]; omega), Option.bind_some,
      parseL_eq _ (by simp only [List.length_append, List.length_cons, List.length_nil]; omega), parse_wrong hS k hkl, Option.bind_some]
    simp only [decide_true, cond_true, Option.bind_some]
    rw [add64 (by omega) (by omega), decide_eq_true (show (((k + 1 : Nat) : Int)) = (k : Int) + 1 by omega), cond_true]
    rw [sane45]
    exact ⟨_, rfl, rfl⟩
end Go.Proofs.YtnhgcpiljggmmaaGreatDoor
