/-
  Contracts: the source of numbers and what it makes. Conditions: none.
-/
import Derived.Test.YtncjalhhkmojlaaCmp
namespace Go.Proofs.Ytncjalhhkmojlaa
open Go.TQ

/-- a source of numbers: the numbers, the next place -/
structure Sr where
  l : List Int
  k : Nat
def Sr.cells (s : Sr) : List PV := [.sl (s.l.map ofI), I s.k]
theorem Sr.inj {s t : Sr} (h : s.cells = t.cells) : s = t := by
  cases s; cases t
  simp [Sr.cells] at h
  rw [ofI_inj h.1, Int.ofNat.inj h.2]
def Sr.ok (s : Sr) : Prop := s.l.length ≤ 800 ∧ s.k ≤ s.l.length

def draw (s : Sr) (n : Int) : Int × Sr :=
  if n < 1 then (0, s) else
  match s.l[s.k]? with
  | none => (0, s)
  | some x => (x % n, ⟨s.l, s.k + 1⟩)
theorem draw_ok {s : Sr} (h : s.ok) (n : Int) : (draw s n).2.ok := by
  unfold draw
  split
  · exact h
  · split
    · exact h
    · rename_i x hx
      have := (List.getElem?_eq_some_iff.1 hx).1
      exact ⟨h.1, by simp; omega⟩
theorem draw_lt (s : Sr) (n : Int) (hn : 1 ≤ n) : 0 ≤ (draw s n).1 ∧ (draw s n).1 < n := by
  unfold draw
  split
  · omega
  · split
    · exact ⟨Int.le_refl _, by omega⟩
    · exact ⟨Int.emod_nonneg _ (by omega), Int.emod_lt_of_pos _ (by omega)⟩
theorem draw_l (s : Sr) (n : Int) : (draw s n).2.l = s.l := by
  unfold draw
  split
  · rfl
  · split <;> rfl

noncomputable def nM : Model := mkR Sr.cells (fun n : Int => [I n]) (fun s n => s.ok ∧ n ≤ 1000000) fun s n => (I (draw s n).1, (draw s n).2)
theorem mod_mod (x n : Int) (hn : 1 ≤ n) : (x.tmod n + n).tmod n = x % n := by
  have h1 : x.tmod n = x % n ∨ x.tmod n = x % n - n := by
    rw [Int.tmod_eq_emod]
    split
    · left; omega
    · right; rw [Int.natAbs_of_nonneg (by omega)]
  have h2 := Int.emod_nonneg x (show n ≠ 0 by omega)
  have h3 := Int.emod_lt_of_pos x (show 0 < n by omega)
  rcases h1 with h1 | h1
  · rw [h1, Int.tmod_eq_emod_of_nonneg (by omega), Int.add_emod_right, Int.emod_eq_of_lt h2 h3]
  · rw [h1, show x % n - n + n = x % n by omega, Int.tmod_eq_emod_of_nonneg h2, Int.emod_eq_of_lt h2 h3]
theorem tmod_bd (x n : Int) (hn : 1 ≤ n) : -n < x.tmod n ∧ x.tmod n < n := by
  have h2 := Int.emod_nonneg x (show n ≠ 0 by omega)
  have h3 := Int.emod_lt_of_pos x (show 0 < n by omega)
  rw [Int.tmod_eq_emod]
  split
  · omega
  · rw [Int.natAbs_of_nonneg (by omega)]
    omega
theorem n_ok : SoundM Try.prog 13 nM := mkR_sound ok_trustquorumplay_Src_N.enters fun s n hp => by
  obtain ⟨⟨h1, h2⟩, h3⟩ := hp
  obtain ⟨l, k⟩ := s
  refine ok_trustquorumplay_Src_N.con (by simp) (ev_sound (tab_ok (l := []) trivial) _ _ _ ?_)
  simp only at h1 h2
  by_cases hk : k < l.length
  · by_cases hn : n < 1
    · have h5 : ¬ (l.length : Int) ≤ (k : Int) := by omega
      simp [c_trustquorumplay_Src_N, Sr.cells, draw, hn, h5]
    · have h5 : ¬ (l.length : Int) ≤ (k : Int) := by omega
      have h0 : n ≠ 0 := by omega
      have hw : IntKind.i64.wrap ((k : Int) + 1) = (k : Int) + 1 := i64_in (by omega) (by omega)
      have hw2 : IntKind.i64.wrap (k : Int) = (k : Int) := i64_in (by omega) (by omega)
      have hb := tmod_bd l[k] n (by omega)
      have hw3 : IntKind.i64.wrap (l[k].tmod n + n) = l[k].tmod n + n := i64_in (by omega) (by omega)
      have hm := mod_mod l[k] n (by omega)
      simp [c_trustquorumplay_Src_N, Sr.cells, draw, hn, h5, h0, hw, hw2, hk, ofI, hw3, hm]
  · have h5 : (l.length : Int) ≤ (k : Int) := by omega
    have h6 : k = l.length := by omega
    subst h6
    by_cases hn : n < 1 <;> simp [c_trustquorumplay_Src_N, Sr.cells, draw, hn]
attribute [simp] draw_ok
theorem n_m (s : Sr) (n : Int) (h : s.ok) (hn : n ≤ 1000000) : nM.m [.sl (List.map ofI s.l), I s.k] [I n] = some (I (draw s n).1, [.sl (List.map ofI (draw s n).2.l), I (draw s n).2.k]) :=
  mkR_m (encS := Sr.cells) (enc := fun n : Int => [I n]) (pre := fun s n => s.ok ∧ n ≤ 1000000) (spec := fun s n => (I (draw s n).1, (draw s n).2)) (fun _ _ h => Sr.inj h) (fun x y h => by simpa using h) s n ⟨h, hn⟩
@[simp] theorem n_r : nM.recv = true := rfl
@[simp] theorem n_f : nM.fresh = false := rfl
@[simp] theorem wrap_small (n : Nat) (h : n ≤ 1000000) : IntKind.i64.wrap (n : Int) = n := i64_in (by omega) (by omega)

def range (s : Sr) (lo hi : Int) : Int × Sr := (lo + (draw s (hi - lo + 1)).1, (draw s (hi - lo + 1)).2)
theorem range_ok {s : Sr} (h : s.ok) (lo hi : Int) : (range s lo hi).2.ok := draw_ok h _
theorem range_bd (s : Sr) (lo hi : Int) (h : lo ≤ hi) : lo ≤ (range s lo hi).1 ∧ (range s lo hi).1 ≤ hi := by
  have := draw_lt s (hi - lo + 1) (by omega)
  unfold range
  simp only
  omega
attribute [simp] range_ok
noncomputable def rangeM : Model := mkR Sr.cells (fun p : Int × Int => [I p.1, I p.2]) (fun s p => s.ok ∧ -1000000 ≤ p.1 ∧ p.1 ≤ 1000000 ∧ p.2 ≤ 1000000 ∧ p.2 - p.1 + 1 ≤ 1000000 ∧ -1000000 ≤ p.2) fun s p => (I (range s p.1 p.2).1, (range s p.1 p.2).2)
theorem range_sound : SoundM Try.prog 26 rangeM := mkR_sound ok_trustquorumplay_Src_Range.enters fun s p hp => by
  obtain ⟨lo, hi⟩ := p
  obtain ⟨hs, h1, h2, h3, h4, h5⟩ := hp
  refine ok_trustquorumplay_Src_Range.con (by simp) (ev_sound (tab_ok (l := [(13, nM)]) ⟨n_ok, trivial⟩) _ _ _ ?_)
  simp only at h1 h2 h3 h4 h5
  have w1 : IntKind.i64.wrap (hi - lo) = hi - lo := i64_in (by omega) (by omega)
  have w2 : IntKind.i64.wrap (hi - lo + 1) = hi - lo + 1 := i64_in (by omega) (by omega)
  have hd : 0 ≤ (draw s (hi - lo + 1)).1 ∧ (draw s (hi - lo + 1)).1 ≤ 1000000 := by
    by_cases hp : 1 ≤ hi - lo + 1
    · have := draw_lt s _ hp; omega
    · unfold draw; rw [if_pos (by omega)]; simp
  have w3 : IntKind.i64.wrap (lo + (draw s (hi - lo + 1)).1) = lo + (draw s (hi - lo + 1)).1 := i64_in (by omega) (by omega)
  have hm := n_m s (hi - lo + 1) hs h4
  simp [c_trustquorumplay_Src_Range, Sr.cells, range, w1, w2, w3, hm]
theorem range_m (s : Sr) (lo hi : Int) (h : s.ok) (h1 : -1000000 ≤ lo) (h2 : lo ≤ 1000000) (h3 : hi ≤ 1000000) (h4 : hi - lo + 1 ≤ 1000000) (h5 : -1000000 ≤ hi) :
    rangeM.m [.sl (List.map ofI s.l), I s.k] [I lo, I hi] = some (I (range s lo hi).1, [.sl (List.map ofI (range s lo hi).2.l), I (range s lo hi).2.k]) :=
  mkR_m (encS := Sr.cells) (enc := fun p : Int × Int => [I p.1, I p.2]) (pre := fun s p => s.ok ∧ -1000000 ≤ p.1 ∧ p.1 ≤ 1000000 ∧ p.2 ≤ 1000000 ∧ p.2 - p.1 + 1 ≤ 1000000 ∧ -1000000 ≤ p.2) (spec := fun s p => (I (range s p.1 p.2).1, (range s p.1 p.2).2)) (fun _ _ h => Sr.inj h) (fun x y h => by simp at h; exact Prod.ext h.1 h.2) s (lo, hi) ⟨h, h1, h2, h3, h4, h5⟩
@[simp] theorem range_r : rangeM.recv = true := rfl
@[simp] theorem range_f : rangeM.fresh = false := rfl

/-! ### texts -/
def ofS (s : ByteArray) : List PV := [.str s]
@[simp] theorem ofS_length (s : ByteArray) : (ofS s).length = 1 := rfl
theorem ofS_inj : ∀ {a b : List ByteArray}, a.map ofS = b.map ofS → a = b
  | [], [], _ => rfl
  | [], _ :: _, h => by simp at h
  | _ :: _, [], h => by simp at h
  | x :: a, y :: b, h => by
    simp [ofS] at h
    rw [h.1, ofS_inj h.2]
def text (s : Sr) (l : List ByteArray) : ByteArray × Sr := (l.getD (draw s l.length).1.toNat ⟨#[]⟩, (draw s l.length).2)
noncomputable def textM : Model := mkR Sr.cells (fun l : List ByteArray => [.sl (l.map ofS)]) (fun s l => s.ok ∧ 1 ≤ l.length ∧ l.length ≤ 1000) fun s l => (.str (text s l).1, (text s l).2)
theorem text_sound : SoundM Try.prog 46 textM := mkR_sound ok_trustquorumplay_Src_Text.enters fun s l hp => by
  obtain ⟨hs, h1, h2⟩ := hp
  refine ok_trustquorumplay_Src_Text.con (by simp) (ev_sound (tab_ok (l := [(13, nM)]) ⟨n_ok, trivial⟩) _ _ _ ?_)
  have hd := draw_lt s l.length (by omega)
  have hm := n_m s l.length hs (by omega)
  have hlt : (draw s l.length).1.toNat < l.length := by omega
  simp [c_trustquorumplay_Src_Text, Sr.cells, text, hm, hd, hlt, ofS]
theorem text_m (s : Sr) (l : List ByteArray) (h : s.ok) (h1 : 1 ≤ l.length) (h2 : l.length ≤ 1000) : textM.m [.sl (List.map ofI s.l), I s.k] [.sl (l.map ofS)] = some (.str (text s l).1, [.sl (List.map ofI (text s l).2.l), I (text s l).2.k]) :=
  mkR_m (encS := Sr.cells) (enc := fun l : List ByteArray => [.sl (l.map ofS)]) (pre := fun s l => s.ok ∧ 1 ≤ l.length ∧ l.length ≤ 1000) (spec := fun s l => (.str (text s l).1, (text s l).2)) (fun _ _ h => Sr.inj h) (fun x y h => by simp at h; exact ofS_inj h) s l ⟨h, h1, h2⟩
@[simp] theorem text_r : textM.recv = true := rfl
@[simp] theorem text_f : textM.fresh = false := rfl
def vals : List ByteArray := [⟨#[97]⟩, ⟨#[98]⟩, ⟨#[99]⟩, ⟨#[97, 97]⟩]
def value (s : Sr) : ByteArray × Sr := text s vals
theorem value_ok {s : Sr} (h : s.ok) : (value s).2.ok := draw_ok h _
attribute [simp] value_ok
noncomputable def valueM : Model := mkR Sr.cells (fun _ : Unit => []) (fun s _ => s.ok) fun s _ => (.str (value s).1, (value s).2)
theorem value_sound : SoundM Try.prog 14 valueM := mkR_sound ok_trustquorumplay_Src_Value.enters fun s _ hs => by
  refine ok_trustquorumplay_Src_Value.con (by simp) (ev_sound (tab_ok (l := [(46, textM)]) ⟨text_sound, trivial⟩) _ _ _ ?_)
  have hm := text_m s vals hs (by simp [vals]) (by simp [vals])
  simp [vals, ofS] at hm
  simp [c_trustquorumplay_Src_Value, Sr.cells, hm, value, vals]
theorem value_m (s : Sr) (h : s.ok) : valueM.m [.sl (List.map ofI s.l), I s.k] [] = some (.str (value s).1, [.sl (List.map ofI (value s).2.l), I (value s).2.k]) :=
  mkR_m (encS := Sr.cells) (enc := fun _ : Unit => []) (pre := fun s _ => s.ok) (spec := fun s _ => (.str (value s).1, (value s).2)) (fun _ _ h => Sr.inj h) (fun _ _ _ => rfl) s () h
@[simp] theorem value_r : valueM.recv = true := rfl
@[simp] theorem value_f : valueM.fresh = false := rfl
theorem value_mem (s : Sr) : (value s).1 ∈ vals := by
  have hd := draw_lt s vals.length (by simp [vals])
  unfold value text
  simp only
  have hlt : (draw s vals.length).1.toNat < vals.length := by omega
  rw [List.getD_eq_getElem?_getD, List.getElem?_eq_getElem hlt]
  exact List.getElem_mem hlt

def low (s : Sr) : Ballot × Sr := (⟨(range s 1 6).1, (value (range s 1 6).2).1⟩, (value (range s 1 6).2).2)
theorem low_ok {s : Sr} (h : s.ok) : (low s).2.ok := value_ok (range_ok h _ _)
attribute [simp] low_ok
noncomputable def lowM : Model := mkR Sr.cells (fun _ : Unit => []) (fun s _ => s.ok) fun s _ => (B (low s).1, (low s).2)
theorem low_sound : SoundM Try.prog 18 lowM := mkR_sound ok_trustquorumplay_Src_Low.enters fun s _ hs => by
  refine ok_trustquorumplay_Src_Low.con (by simp) (ev_sound (tab_ok (l := [(26, rangeM), (14, valueM)]) ⟨range_sound, value_sound, trivial⟩) _ _ _ ?_)
  have hm := range_m s 1 6 hs (by omega) (by omega) (by omega) (by omega) (by omega)
  have hm2 := value_m (range s 1 6).2 (range_ok hs _ _)
  simp [c_trustquorumplay_Src_Low, Sr.cells, hm, hm2, low]
theorem low_m (s : Sr) (h : s.ok) : lowM.m [.sl (List.map ofI s.l), I s.k] [] = some (B (low s).1, [.sl (List.map ofI (low s).2.l), I (low s).2.k]) :=
  mkR_m (encS := Sr.cells) (enc := fun _ : Unit => []) (pre := fun s _ => s.ok) (spec := fun s _ => (B (low s).1, (low s).2)) (fun _ _ h => Sr.inj h) (fun _ _ _ => rfl) s () h
@[simp] theorem low_r : lowM.recv = true := rfl
@[simp] theorem low_f : lowM.fresh = false := rfl

/-! ### New -/
noncomputable def newM : Model := mkN (fun l : List Int => [.sl (l.map ofI)]) (fun l => l.length ≤ 9223372036854775807) fun l => Sr.cells ⟨l.take 800, 0⟩
theorem new_sound : SoundM Try.prog 11 newM := mkN_sound ok_trustquorumplay_New.enters fun l hl => by
  refine ok_trustquorumplay_New.conN (by simp) (ev_sound (tab_ok (l := []) trivial) _ _ _ ?_)
  by_cases h : (800 : Int) < l.length
  · have h2 : (800 : Int) ≤ l.length := by omega
    simp [c_trustquorumplay_New, Sr.cells, h, h2, List.map_take]
  · have h2 : l.take 800 = l := List.take_of_length_le (by omega)
    simp [c_trustquorumplay_New, Sr.cells, h, h2]
    exact List.take_of_length_le (by simp)
theorem new_m (cs : List PV) (l : List Int) (h : l.length ≤ 9223372036854775807) : newM.m cs [.sl (l.map ofI)] = some (.any, [.sl (List.map ofI (Sr.mk (l.take 800) 0).l), I (Sr.mk (l.take 800) 0).k]) :=
  mkN_m (enc := fun l : List Int => [.sl (l.map ofI)]) (pre := fun l => l.length ≤ 9223372036854775807) (spec := fun l => Sr.cells ⟨l.take 800, 0⟩) (fun x y h => by simp at h; rw [ofI_inj h]) cs l h
@[simp] theorem new_r : newM.recv = false := rfl
@[simp] theorem new_f : newM.fresh = true := rfl
theorem new_ok (l : List Int) : (Sr.mk (l.take 800) 0).ok := ⟨by simp; omega, by simp⟩
end Go.Proofs.Ytncjalhhkmojlaa
