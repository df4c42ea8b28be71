/-
  Contracts: comparing numbers, strings, ballots. Conditions: none.
-/
import Derived.Test.YtncjalhhkmojlaaTy
import Derived.Test.YtncjalhhkmojlaaCodesA
namespace Go.Proofs.Ytncjalhhkmojlaa
open Go.TQ

abbrev I (n : Int) : PV := .int .i64 n

/-! ### cmp.Compare at int -/
def cmpI (a b : Int) : Int := if a < b then -1 else if b < a then 1 else 0
noncomputable def isNaNM : Model := mkM (fun n : Int => [I n]) (fun _ => True) (fun _ => .bool false)
theorem isNaN_ok : SoundM Try.prog 133 isNaNM := mkM_sound ok_cmp_isNaN_int.enters fun n _ => by
  refine ok_cmp_isNaN_int.con (by simp) (ev_sound (tab_ok (l := []) trivial) _ _ _ ?_)
  simp [c_cmp_isNaN_int]
@[simp] theorem isNaN_m (n : Int) : isNaNM.m [] [I n] = some (.bool false, []) := mkM_m (fun _ _ _ => rfl) _ n trivial
@[simp] theorem isNaN_r : isNaNM.recv = false := rfl
@[simp] theorem isNaN_f : isNaNM.fresh = false := rfl
noncomputable def cmpIM : Model := mkM (fun p : Int × Int => [I p.1, I p.2]) (fun _ => True) (fun p => I (cmpI p.1 p.2))
theorem cmpI_ok : SoundM Try.prog 111 cmpIM := mkM_sound ok_cmp_Compare_int.enters fun p _ => by
  obtain ⟨a, b⟩ := p
  refine ok_cmp_Compare_int.con (by simp) (ev_sound (tab_ok (l := [(133, isNaNM)]) ⟨isNaN_ok, trivial⟩) _ _ _ ?_)
  simp [c_cmp_Compare_int, cmpI]
  grind
@[simp] theorem cmpI_m (a b : Int) : cmpIM.m [] [I a, I b] = some (I (cmpI a b), []) := mkM_m (x := (a, b)) (fun x y h => by simp_all) _ trivial
@[simp] theorem cmpI_r : cmpIM.recv = false := rfl
@[simp] theorem cmpI_f : cmpIM.fresh = false := rfl

/-! ### cmp.Compare at string -/
def cmpS (a b : ByteArray) : Int := if sless a b then -1 else if a = b then 0 else 1
noncomputable def isNaNSM : Model := mkM (fun s : ByteArray => [.str s]) (fun _ => True) (fun _ => .bool false)
theorem isNaNS_ok : SoundM Try.prog 144 isNaNSM := mkM_sound ok_cmp_isNaN_string.enters fun n _ => by
  refine ok_cmp_isNaN_string.con (by simp) (ev_sound (tab_ok (l := []) trivial) _ _ _ ?_)
  simp [c_cmp_isNaN_string]
@[simp] theorem isNaNS_m (s : ByteArray) : isNaNSM.m [] [.str s] = some (.bool false, []) := mkM_m (fun _ _ _ => rfl) _ s trivial
@[simp] theorem isNaNS_r : isNaNSM.recv = false := rfl
@[simp] theorem isNaNS_f : isNaNSM.fresh = false := rfl
noncomputable def cmpSM : Model := mkM (fun p : ByteArray × ByteArray => [.str p.1, .str p.2]) (fun _ => True) (fun p => I (cmpS p.1 p.2))
theorem cmpS_ok : SoundM Try.prog 136 cmpSM := mkM_sound ok_cmp_Compare_string.enters fun p _ => by
  obtain ⟨a, b⟩ := p
  refine ok_cmp_Compare_string.con (by simp) (ev_sound (tab_ok (l := [(144, isNaNSM)]) ⟨isNaNS_ok, trivial⟩) _ _ _ ?_)
  simp [c_cmp_Compare_string, cmpS]
  grind
@[simp] theorem cmpS_m (a b : ByteArray) : cmpSM.m [] [.str a, .str b] = some (I (cmpS a b), []) := mkM_m (x := (a, b)) (fun x y h => by simp_all) _ trivial
@[simp] theorem cmpS_r : cmpSM.recv = false := rfl
@[simp] theorem cmpS_f : cmpSM.fresh = false := rfl

/-! ### cmp.Or -/
def ofI (n : Int) : List PV := [I n]
@[simp] theorem ofI_length (n : Int) : (ofI n).length = 1 := rfl
theorem ofI_inj : ∀ {a b : List Int}, a.map ofI = b.map ofI → a = b
  | [], [], _ => rfl
  | [], _ :: _, h => by simp at h
  | _ :: _, [], h => by simp at h
  | x :: a, y :: b, h => by
    simp [ofI] at h
    rw [h.1, ofI_inj h.2]
def orI : List Int → Int
  | [] => 0
  | n :: l => if n = 0 then orI l else n
theorem orI_drop : ∀ (l : List Int) (k : Nat), (∀ j x, j < k → l[j]? = some x → x = 0) → orI l = orI (l.drop k)
  | [], k, _ => by simp
  | x :: l, 0, _ => by simp
  | x :: l, k + 1, h => by
    have h0 : x = 0 := h 0 x (by omega) (by simp)
    simp only [orI, h0, if_true, List.drop_succ_cons]
    exact orI_drop l k fun j y hj hy => h (j + 1) y (by omega) (by simpa using hy)
noncomputable def orIM : Model := mkM (fun l : List Int => [.sl (l.map ofI)]) (fun l => l.length ≤ 1000000) (fun l => I (orI l))
theorem orI_ok : SoundM Try.prog 118 orIM := mkM_sound ok_cmp_Or_int.enters fun l hl => by
  refine ok_cmp_Or_int.con (by simp) (ev_sound (tab_ok (l := []) trivial) _ _ _ ?_)
  simp [c_cmp_Or_int]
  refine VS_loop [3, 6, 7, 8] 0 (fun m S => ∃ k : Nat, k ≤ l.length ∧ m = l.length - k ∧ S.env 3 = I 0 ∧ S.env 6 = .sl (l.map ofI) ∧ S.env 7 = I l.length ∧ S.env 8 = I k ∧ ∀ (j : Nat) (x : Int), j < k → l[j]? = some x → x = 0) l.length ?_ ?_ ?_
  · exact ⟨by simp, by simp, by simp⟩
  · exact ⟨0, by simp, by simp, by simp, by simp, by simp, by simp, by simp⟩
  · rintro m S ⟨k, hk, rfl, h3, h6, h7, h8, hz⟩ hN hf hU
    refine ev_sound (tab_ok (l := []) trivial) _ _ _ ?_
    by_cases hlt : k < l.length
    · have hw : IntKind.i64.wrap ((k : Int) + 1) = (k : Int) + 1 := i64_in (by omega) (by omega)
      have hd := orI_drop l k hz
      rw [List.drop_eq_getElem_cons hlt, orI] at hd
      simp [h3, h6, h7, h8, hN, hlt, ofI, hw]
      refine ⟨fun h => by rw [hd, if_neg h], fun h => ⟨l.length - (k + 1), by omega, k + 1, by omega, rfl, by simp, fun j x hj hx => ?_⟩⟩
      by_cases hjk : j = k
      · subst hjk
        rw [List.getElem?_eq_getElem hlt] at hx
        injection hx with hx
        rw [← hx, h]
      · exact hz j x (by omega) hx
    · simp [h3, h6, h7, h8, hN, hlt]
      rw [orI_drop l k hz, List.drop_eq_nil_of_le (by omega)]
      rfl
@[simp] theorem orI_m2 (a b : Int) : orIM.m [] [.sl [[I a], [I b]]] = some (I (orI [a, b]), []) := mkM_m (x := [a, b]) (fun x y h => by simp at h; rw [ofI_inj h]) _ (by simp)
@[simp] theorem orI_r : orIM.recv = false := rfl
@[simp] theorem orI_f : orIM.fresh = false := rfl

/-! ### ballots -/
structure Ballot where
  c : Int
  v : ByteArray
def Ballot.cells (b : Ballot) : List PV := [I b.c, .str b.v]
abbrev B (b : Ballot) : PV := .agg [I b.c, .str b.v]
def cmpV (a b : ByteArray) : Int := orI [cmpI a.size b.size, cmpS a b]
def cmpB (a b : Ballot) : Int := orI [cmpI a.c b.c, cmpV a.v b.v]
noncomputable def cmpVM : Model := mkM (fun p : ByteArray × ByteArray => [.str p.1, .str p.2]) (fun _ => True) (fun p => I (cmpV p.1 p.2))
theorem cmpV_ok : SoundM Try.prog 119 cmpVM := mkM_sound ok_ballots_CompareValues.enters fun p _ => by
  obtain ⟨a, b⟩ := p
  refine ok_ballots_CompareValues.con (by simp) (ev_sound (tab_ok (l := [(111, cmpIM), (136, cmpSM), (118, orIM)]) ⟨cmpI_ok, cmpS_ok, orI_ok, trivial⟩) _ _ _ ?_)
  simp [c_ballots_CompareValues, cmpV]
@[simp] theorem cmpV_m (a b : ByteArray) : cmpVM.m [] [.str a, .str b] = some (I (cmpV a b), []) := mkM_m (x := (a, b)) (fun x y h => by simp_all) _ trivial
@[simp] theorem cmpV_r : cmpVM.recv = false := rfl
@[simp] theorem cmpV_f : cmpVM.fresh = false := rfl
theorem Ballot.ext' {a b : Ballot} (h1 : a.c = b.c) (h2 : a.v = b.v) : a = b := by cases a; cases b; simp_all
/-! models over ballots -/
noncomputable def m1B (spec : Ballot → PV) : Model := mkM (fun b : Ballot => [B b]) (fun _ => True) spec
noncomputable def m2B (spec : Ballot → Ballot → PV) : Model := mkM (fun p : Ballot × Ballot => [B p.1, B p.2]) (fun _ => True) fun p => spec p.1 p.2
noncomputable def m3B (spec : Ballot → Ballot → Ballot → PV) : Model := mkM (fun p : Ballot × Ballot × Ballot => [B p.1, B p.2.1, B p.2.2]) (fun _ => True) fun p => spec p.1 p.2.1 p.2.2
@[simp] theorem m1B_m (spec : Ballot → PV) (cs : List PV) (a : Int) (s : ByteArray) : (m1B spec).m cs [.agg [I a, .str s]] = some (spec ⟨a, s⟩, []) :=
  mkM_m (enc := fun b : Ballot => [B b]) (pre := fun _ => True) (spec := spec) (fun x y h => by simp at h; rw [Ballot.ext' h.1 h.2]) cs ⟨a, s⟩ trivial
@[simp] theorem m2B_m (spec : Ballot → Ballot → PV) (cs : List PV) (a b : Int) (s t : ByteArray) : (m2B spec).m cs [.agg [I a, .str s], .agg [I b, .str t]] = some (spec ⟨a, s⟩ ⟨b, t⟩, []) :=
  mkM_m (enc := fun p : Ballot × Ballot => [B p.1, B p.2]) (pre := fun _ => True) (spec := fun p => spec p.1 p.2) (fun x y h => by simp at h; rw [Ballot.ext' h.1.1 h.1.2, Ballot.ext' h.2.1 h.2.2]) cs (⟨a, s⟩, ⟨b, t⟩) trivial
@[simp] theorem m3B_m (spec : Ballot → Ballot → Ballot → PV) (cs : List PV) (a b d : Int) (s t u : ByteArray) : (m3B spec).m cs [.agg [I a, .str s], .agg [I b, .str t], .agg [I d, .str u]] = some (spec ⟨a, s⟩ ⟨b, t⟩ ⟨d, u⟩, []) :=
  mkM_m (enc := fun p : Ballot × Ballot × Ballot => [B p.1, B p.2.1, B p.2.2]) (pre := fun _ => True) (spec := fun p => spec p.1 p.2.1 p.2.2) (fun x y h => by simp at h; rw [Ballot.ext' h.1.1 h.1.2, Ballot.ext' h.2.1.1 h.2.1.2, Ballot.ext' h.2.2.1 h.2.2.2]) cs (⟨a, s⟩, ⟨b, t⟩, ⟨d, u⟩) trivial
@[simp] theorem m1B_r (spec : Ballot → PV) : (m1B spec).recv = false := rfl
@[simp] theorem m1B_f (spec : Ballot → PV) : (m1B spec).fresh = false := rfl
@[simp] theorem m2B_r (spec : Ballot → Ballot → PV) : (m2B spec).recv = false := rfl
@[simp] theorem m2B_f (spec : Ballot → Ballot → PV) : (m2B spec).fresh = false := rfl
@[simp] theorem m3B_r (spec : Ballot → Ballot → Ballot → PV) : (m3B spec).recv = false := rfl
@[simp] theorem m3B_f (spec : Ballot → Ballot → Ballot → PV) : (m3B spec).fresh = false := rfl
theorem m1B_ok {P : Program} {f : FuncId} {spec : Ballot → PV} (he : Enters P f) (h : ∀ a s, Con P f false [] [.agg [I a, .str s]] (spec ⟨a, s⟩) []) : SoundM P f (m1B spec) := mkM_sound he fun x _ => by obtain ⟨a, s⟩ := x; exact h a s
theorem m2B_ok {P : Program} {f : FuncId} {spec : Ballot → Ballot → PV} (he : Enters P f) (h : ∀ a s b t, Con P f false [] [.agg [I a, .str s], .agg [I b, .str t]] (spec ⟨a, s⟩ ⟨b, t⟩) []) : SoundM P f (m2B spec) := mkM_sound he fun x _ => by obtain ⟨⟨a, s⟩, ⟨b, t⟩⟩ := x; exact h a s b t
theorem m3B_ok {P : Program} {f : FuncId} {spec : Ballot → Ballot → Ballot → PV} (he : Enters P f) (h : ∀ a s b t d u, Con P f false [] [.agg [I a, .str s], .agg [I b, .str t], .agg [I d, .str u]] (spec ⟨a, s⟩ ⟨b, t⟩ ⟨d, u⟩) []) : SoundM P f (m3B spec) := mkM_sound he fun x _ => by obtain ⟨⟨a, s⟩, ⟨b, t⟩, ⟨d, u⟩⟩ := x; exact h a s b t d u

def zeroB (b : Ballot) : Bool := decide (b.c = 0) && decide (b.v = ⟨#[]⟩)
def lessB (a b : Ballot) : Bool := decide (cmpB a b < 0)
def compat (a b : Ballot) : Bool := decide (a.v = b.v)
def covers (p b : Ballot) : Bool := !zeroB p && compat p b && decide (b.c ≤ p.c)
def aborts (p b : Ballot) : Bool := !zeroB p && !compat p b && lessB b p
def prepares (p q b : Ballot) : Bool := covers p b || covers q b || !zeroB q && lessB b q
def validB (b : Ballot) : Bool := (decide (1 ≤ b.c) && decide (b.c ≤ 1000) || decide (b.c = 1000000)) && decide (1 ≤ b.v.size) && decide (b.v.size ≤ 200)
def lessVr (a b : ByteArray) : Bool := if (a.size : Int) = b.size then sless a b else decide ((a.size : Int) < b.size)
def lessBr (a b : Ballot) : Bool := if a.c = b.c then lessVr a.v b.v else decide (a.c < b.c)
def coversR (p b : Ballot) : Bool := !zeroB p && compat p b && decide (b.c ≤ p.c)
def abortsR (p b : Ballot) : Bool := !zeroB p && !compat p b && lessBr b p
def preparesR (p q b : Ballot) : Bool := coversR p b || coversR q b || !zeroB q && lessBr b q
noncomputable abbrev cmpBM : Model := m2B fun p b => I (cmpB p b)
theorem cmpB_ok : SoundM Try.prog 90 cmpBM := m2B_ok ok_ballots_Compare.enters fun a s b t => by
  refine ok_ballots_Compare.con (by simp) (ev_sound (tab_ok (l := [(111, cmpIM), (119, cmpVM), (118, orIM)]) ⟨cmpI_ok, cmpV_ok, orI_ok, trivial⟩) _ _ _ ?_)
  simp [c_ballots_Compare, cmpB]

noncomputable abbrev zeroM : Model := m1B fun p => .bool (zeroB p)
theorem zero_ok : SoundM Try.prog 48 zeroM := m1B_ok ok_ballots_Zero.enters fun a s => by
  refine ok_ballots_Zero.con (by simp) (ev_sound (tab_ok (l := []) trivial) _ _ _ ?_)
  simp [c_ballots_Zero, zeroB]

noncomputable abbrev rzeroM : Model := m1B fun p => .bool (zeroB p)
theorem rzero_ok : SoundM Try.prog 20 rzeroM := m1B_ok ok_trustquorumref23_Zero.enters fun a s => by
  refine ok_trustquorumref23_Zero.con (by simp) (ev_sound (tab_ok (l := []) trivial) _ _ _ ?_)
  simp [c_trustquorumref23_Zero, zeroB]

noncomputable abbrev lessM : Model := m2B fun p b => .bool (lessB p b)
theorem less_ok : SoundM Try.prog 49 lessM := m2B_ok ok_ballots_Less.enters fun a s b t => by
  refine ok_ballots_Less.con (by simp) (ev_sound (tab_ok (l := [(90, cmpBM)]) ⟨cmpB_ok, trivial⟩) _ _ _ ?_)
  simp [c_ballots_Less, lessB]

noncomputable abbrev compatM : Model := m2B fun p b => .bool (compat p b)
theorem compat_ok : SoundM Try.prog 50 compatM := m2B_ok ok_ballots_Compatible.enters fun a s b t => by
  refine ok_ballots_Compatible.con (by simp) (ev_sound (tab_ok (l := []) trivial) _ _ _ ?_)
  simp [c_ballots_Compatible, compat]

noncomputable abbrev rcompatM : Model := m2B fun p b => .bool (compat p b)
theorem rcompat_ok : SoundM Try.prog 22 rcompatM := m2B_ok ok_trustquorumref23_Compatible.enters fun a s b t => by
  refine ok_trustquorumref23_Compatible.con (by simp) (ev_sound (tab_ok (l := []) trivial) _ _ _ ?_)
  simp [c_trustquorumref23_Compatible, compat]

noncomputable abbrev coversM : Model := m2B fun p b => .bool (covers p b)
theorem covers_ok : SoundM Try.prog 99 coversM := m2B_ok ok_ballots_Covers.enters fun a s b t => by
  refine ok_ballots_Covers.con (by simp) (ev_sound (tab_ok (l := [(48, zeroM), (50, compatM)]) ⟨zero_ok, compat_ok, trivial⟩) _ _ _ ?_)
  cases h1 : zeroB ⟨a, s⟩ <;> cases h2 : compat ⟨a, s⟩ ⟨b, t⟩ <;> simp [c_ballots_Covers, covers, h1, h2]

noncomputable abbrev abortsM : Model := m2B fun p b => .bool (aborts p b)
theorem aborts_ok : SoundM Try.prog 98 abortsM := m2B_ok ok_ballots_Aborts.enters fun a s b t => by
  refine ok_ballots_Aborts.con (by simp) (ev_sound (tab_ok (l := [(48, zeroM), (50, compatM), (49, lessM)]) ⟨zero_ok, compat_ok, less_ok, trivial⟩) _ _ _ ?_)
  cases h1 : zeroB ⟨a, s⟩ <;> cases h2 : compat ⟨a, s⟩ ⟨b, t⟩ <;> simp [c_ballots_Aborts, aborts, h1, h2]

noncomputable abbrev preparesM : Model := m3B fun p q b => .bool (prepares p q b)
theorem prepares_ok : SoundM Try.prog 97 preparesM := m3B_ok ok_ballots_Prepares.enters fun a s b t d u => by
  refine ok_ballots_Prepares.con (by simp) (ev_sound (tab_ok (l := [(99, coversM), (48, zeroM), (49, lessM)]) ⟨covers_ok, zero_ok, less_ok, trivial⟩) _ _ _ ?_)
  cases h1 : covers ⟨a, s⟩ ⟨d, u⟩ <;> cases h2 : covers ⟨b, t⟩ ⟨d, u⟩ <;> cases h3 : zeroB ⟨b, t⟩ <;> simp [c_ballots_Prepares, prepares, h1, h2, h3]

noncomputable def rlessVM : Model := mkM (fun p : ByteArray × ByteArray => [.str p.1, .str p.2]) (fun _ => True) (fun p => .bool (lessVr p.1 p.2))
theorem rlessV_ok : SoundM Try.prog 51 rlessVM := mkM_sound ok_trustquorumref23_LessValue.enters fun p _ => by
  obtain ⟨a, b⟩ := p
  refine ok_trustquorumref23_LessValue.con (by simp) (ev_sound (tab_ok (l := []) trivial) _ _ _ ?_)
  by_cases h : (a.size : Int) = b.size <;> simp [c_trustquorumref23_LessValue, lessVr, h]
@[simp] theorem rlessV_m (cs : List PV) (a b : ByteArray) : rlessVM.m cs [.str a, .str b] = some (.bool (lessVr a b), []) :=
  mkM_m (enc := fun p : ByteArray × ByteArray => [.str p.1, .str p.2]) (pre := fun _ => True) (spec := fun p => .bool (lessVr p.1 p.2)) (fun x y h => by simp at h; rw [h.1, h.2]) cs (a, b) trivial
@[simp] theorem rlessV_r : rlessVM.recv = false := rfl
@[simp] theorem rlessV_f : rlessVM.fresh = false := rfl

noncomputable abbrev rlessM : Model := m2B fun p b => .bool (lessBr p b)
theorem rless_ok : SoundM Try.prog 21 rlessM := m2B_ok ok_trustquorumref23_Less.enters fun a s b t => by
  refine ok_trustquorumref23_Less.con (by simp) (ev_sound (tab_ok (l := [(51, rlessVM)]) ⟨rlessV_ok, trivial⟩) _ _ _ ?_)
  by_cases h : a = b <;> simp [c_trustquorumref23_Less, lessBr, h]

noncomputable abbrev rcoversM : Model := m2B fun p b => .bool (coversR p b)
theorem rcovers_ok : SoundM Try.prog 29 rcoversM := m2B_ok ok_trustquorumref23_Covers.enters fun a s b t => by
  refine ok_trustquorumref23_Covers.con (by simp) (ev_sound (tab_ok (l := [(20, rzeroM), (22, rcompatM)]) ⟨rzero_ok, rcompat_ok, trivial⟩) _ _ _ ?_)
  cases h1 : zeroB ⟨a, s⟩ <;> cases h2 : compat ⟨a, s⟩ ⟨b, t⟩ <;> simp [c_trustquorumref23_Covers, coversR, h1, h2]

noncomputable abbrev rabortsM : Model := m2B fun p b => .bool (abortsR p b)
theorem raborts_ok : SoundM Try.prog 17 rabortsM := m2B_ok ok_trustquorumref23_Aborts.enters fun a s b t => by
  refine ok_trustquorumref23_Aborts.con (by simp) (ev_sound (tab_ok (l := [(20, rzeroM), (22, rcompatM), (21, rlessM)]) ⟨rzero_ok, rcompat_ok, rless_ok, trivial⟩) _ _ _ ?_)
  cases h1 : zeroB ⟨a, s⟩ <;> cases h2 : compat ⟨a, s⟩ ⟨b, t⟩ <;> simp [c_trustquorumref23_Aborts, abortsR, h1, h2]

noncomputable abbrev rpreparesM : Model := m3B fun p q b => .bool (preparesR p q b)
theorem rprepares_ok : SoundM Try.prog 23 rpreparesM := m3B_ok ok_trustquorumref23_Prepares.enters fun a s b t d u => by
  refine ok_trustquorumref23_Prepares.con (by simp) (ev_sound (tab_ok (l := [(29, rcoversM), (20, rzeroM), (21, rlessM)]) ⟨rcovers_ok, rzero_ok, rless_ok, trivial⟩) _ _ _ ?_)
  cases h1 : coversR ⟨a, s⟩ ⟨d, u⟩ <;> cases h2 : coversR ⟨b, t⟩ ⟨d, u⟩ <;> cases h3 : zeroB ⟨b, t⟩ <;> simp [c_trustquorumref23_Prepares, preparesR, h1, h2, h3]
end Go.Proofs.Ytncjalhhkmojlaa
