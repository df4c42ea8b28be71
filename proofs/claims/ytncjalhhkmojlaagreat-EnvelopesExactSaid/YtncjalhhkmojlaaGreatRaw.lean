/-
  Raw arguments, as a row's frame reads them, are plain data. Conditions: none.
-/
import Derived.Test.YtncjalhhkmojlaaGreatUni
import Derived.Test.YtncjalhhkmojlaaGreatRow
import Derived.ChangeArms
import Derived.DataReads
import Derived.OpenShut
import Derived.WideShapes
set_option linter.unusedVariables false
namespace Go.TQ
open Go.RowKit

def Ty.ls : Ty → List Ty
  | .st n => n.leaves
  | t => [t]
/-- the leaves of fields that lie side by side -/
def lsFs (P : Program) (rec : TypeId → Option (List Ty)) : Nat → List Field → Option (Nat × List Ty)
  | off, [] => some (off, [])
  | off, f :: fs => (match Nat.beq f.offset off with
    | true => (match rec f.type with
      | some l => (match Nat.beq l.length (P.cellsOf f.type) with
        | true => (match lsFs P rec (off + l.length) fs with
          | some (e, r) => some (e, l ++ r)
          | none => none)
        | false => none)
      | none => none)
    | false => none)
/-- the leaves of a type of the program; R: elements of slices that may be met -/
def lsOf (P : Program) (R : List Nat) : Nat → TypeId → Option (List Ty)
  | 0, _ => none
  | f + 1, t => (match P.underlying t with
    | some (.int k) => some [.i k]
    | some .bool => some [.bool]
    | some .string => some [.str]
    | some (.slice e) => (match memN e R with
      | true => (match tyFind e tyTab with | some T => some [.sl T] | none => none)
      | false => none)
    | some (.struct fs) => (match lsFs P (lsOf P R f) 0 fs.toList with
      | some (e, l) => (match Nat.beq e (P.cellsOf t) with | true => some l | false => none)
      | none => none)
    | _ => none)
def lsBeq : List Ty → List Ty → Bool
  | [], [] => true
  | a :: l, b :: m => Ty.beq a b && lsBeq l m
  | _, _ => false
theorem lsBeq_eq : ∀ {l m : List Ty}, lsBeq l m = true → l = m
  | [], [], _ => rfl
  | a :: l, b :: m, h => by
    rw [lsBeq, Bool.and_eq_true] at h
    rw [Ty.eq_of_beq h.1, lsBeq_eq h.2]
  | [], _ :: _, h => by cases h
  | _ :: _, [], h => by cases h
def okR (P : Program) (R : List Nat) : Bool := R.all fun e => (match tyFind e tyTab with
  | some T => (match lsOf P R 20 e with | some l => lsBeq l T.ls && Nat.beq T.ls.length (P.cellsOf e) | none => false)
  | none => false)
def Ty.ofLs : (T : Ty) → LDen T.ls → T.den
  | .st n, v => n.ofL v
  | .i _, v => v.1
  | .bool, v => v.1
  | .str, v => v.1
  | .sl _, v => v.1
theorem Ty.ofLs_pv : ∀ (T : Ty) (v : LDen T.ls), T.pv (T.ofLs v) = leafPV T.ls v
  | .st n, v => by
    exact (n.pv_eq (n.ofL v)).trans (congrArg (leafPV n.leaves) (n.to_of v))
  | .i _, v => rfl
  | .bool, v => rfl
  | .str, v => rfl
  | .sl _, v => rfl
theorem ls_leaf : ∀ T : Ty, T.ls.all Ty.leaf = true
  | .st n => n.leaf_ok
  | .i _ => rfl
  | .bool => rfl
  | .str => rfl
  | .sl _ => rfl
def appL : {l m : List Ty} → LDen l → LDen m → LDen (l ++ m)
  | [], _, _, w => w
  | _ :: _, _, v, w => (v.1, appL v.2 w)
theorem appL_pv : ∀ {l m : List Ty} (v : LDen l) (w : LDen m), leafPV (l ++ m) (appL v w) = leafPV l v ++ leafPV m w
  | [], _, _, _ => rfl
  | t :: l, m, v, w => by
    show t.pv v.1 ++ leafPV (l ++ m) (appL v.2 w) = (t.pv v.1 ++ leafPV l v.2) ++ leafPV m w
    rw [appL_pv v.2 w, List.append_assoc]
theorem flat_pv_len {T : Ty} {k : Nat} (h : ∀ v : T.den, (T.pv v).length = k) : ∀ xs : List T.den, ((xs.map T.pv).flatten).length = xs.length * k
  | [] => by simp
  | x :: xs => by rw [List.map_cons, List.flatten_cons, List.length_append, h, flat_pv_len h xs, List.length_cons, Nat.succ_mul, Nat.add_comm]
section
variable {P : Program} {R : List Nat} (hR : okR P R = true) {H : Type} {enc : TypeId × Value → H} {w : World} {M : Nat → Prop} (hM : ∀ b, ¬ M b)
theorem fields_rep {off : Nat} {rec : TypeId → Option (List Ty)} {cs : List Value} : ∀ {fs : List Field} {off e : Nat} {l : List Ty}, lsFs P rec off fs = some (e, l) →
    (∀ f ∈ fs, ∀ l, rec f.type = some l → ∃ v : LDen l, RepL w M Gh0 (leafPV l v) ((cs.drop f.offset).take (P.cellsOf f.type))) → e ≤ cs.length → off ≤ e ∧ ∃ v : LDen l, RepL w M Gh0 (leafPV l v) ((cs.drop off).take (e - off))
  | [], off, e, l, h, _, _ => by
    rw [lsFs] at h
    injection h with h
    injection h with h1 h2
    subst h1 h2
    exact ⟨Nat.le_refl _, (), by rw [Nat.sub_self, List.take_zero]; exact .nil⟩
  | f :: fs, off, e, l, h, hf, he => by
    rw [lsFs] at h
    split at h
    · rename_i ho
      have ho := Nat.eq_of_beq_eq_true ho
      split at h
      · rename_i l1 hl1
        split at h
        · rename_i hc
          have hc := Nat.eq_of_beq_eq_true hc
          split at h
          · rename_i e2 r hr
            injection h with h
            injection h with h1 h2
            subst h1 h2
            obtain ⟨h3, v2, h4⟩ := fields_rep (off := off + l1.length) hr (fun f' hf' => hf f' (by simp [hf'])) he
            obtain ⟨v1, h5⟩ := hf f (by simp) l1 hl1
            refine ⟨by omega, appL v1 v2, ?_⟩
            rw [appL_pv]
            have hs : (cs.drop off).take (e2 - off) = (cs.drop f.offset).take (P.cellsOf f.type) ++ (cs.drop (off + l1.length)).take (e2 - (off + l1.length)) := by
              rw [ho, ← hc, ← List.drop_drop, show e2 - off = l1.length + (e2 - (off + l1.length)) by omega, List.take_add]
            rw [hs]
            exact h5.append h4
          · cases h
        · cases h
      · cases h
    · cases h
 include hR hM
theorem trod_rep : ∀ (fuel : Nat) (t : TypeId) (cs : List Value) (x : DataW H × List MemPlace), DataW.trod enc P w 0 (fun _ => true) true fuel t cs = some x → ∀ (f : Nat) (ls : List Ty), lsOf P R f t = some ls → ∃ v : LDen ls, RepL w M Gh0 (leafPV ls v) cs
  | 0, t, cs, x, h => by rw [DataW.trod] at h; cases h
  | fuel + 1, t, cs, x, h => by
    intro f ls hl
    cases f with
    | zero => rw [lsOf] at hl; cases hl
    | succ f =>
    rw [lsOf] at hl
    split at hl
    · rename_i k hu
      injection hl with hl
      subst hl
      obtain ⟨n, rfl, _⟩ := DataW.trod_int hu h
      exact ⟨(n, ()), .cons (.int k n) .nil⟩
    · rename_i hu
      injection hl with hl
      subst hl
      obtain ⟨b, rfl, _⟩ := DataW.trod_bool hu h
      exact ⟨(b, ()), .cons (.bool b) .nil⟩
    · rename_i hu
      injection hl with hl
      subst hl
      obtain ⟨s, rfl, _⟩ := DataW.trod_string hu h
      exact ⟨(s, ()), .cons (.str s) .nil⟩
    · rename_i e hu
      split at hl
      · rename_i he
        split at hl
        · rename_i T hT
          injection hl with hl
          subst hl
          have hok := List.all_eq_true.1 hR e (memN_iff.1 he)
          rw [hT] at hok
          simp only at hok
          split at hok
          · rename_i le hle
            rw [Bool.and_eq_true] at hok
            have hle2 : le = T.ls := lsBeq_eq hok.1
            have hk := Nat.eq_of_beq_eq_true hok.2
            subst hle2
            rcases DataW.trod_slice hu h with ⟨rfl, _⟩ | ⟨a, len, cap, elems, rest, m, hfm, rfl, _, _, hlc, hcm, hlen, hel, _, _⟩
            · exact ⟨(([] : List T.den), ()), .cons .slnil .nil⟩
            · injection hfm with hfm
              subst hfm
              -- each element
              have each : ∀ i, i < len → ∃ (ci : List Value) (v : T.den), (∀ j u, ci[j]? = some u → w.cell? ((a.add (i * P.cellsOf e)).add j) = some u) ∧ RepL w M Gh0 (T.pv v) ci := by
                intro i hi
                have h1 := hel i hi
                have hex : ∃ y, elems[i]? = some y := ⟨_, List.getElem?_eq_getElem (by omega)⟩
                obtain ⟨y, hy⟩ := hex
                rw [hy, Option.bind_eq_some_iff] at h1
                obtain ⟨ci, hci, hty⟩ := h1
                obtain ⟨v, hv⟩ := trod_rep fuel e ci y hty 20 T.ls hle
                refine ⟨ci, T.ofLs v, fun j u hju => ?_, by rw [Ty.ofLs_pv]; exact hv⟩
                have hs := World.cells?_some hci
                have hjl : j < ci.length := (List.getElem?_eq_some_iff.1 hju).1
                have := hs.2.2 j (by have := hs.2.1; omega)
                rw [this, hju]
              have hpl : ∀ v : T.den, (T.pv v).length = P.cellsOf e := fun v => by
                rw [← hk]
                cases T with
                | st n => exact (congrArg List.length (n.pv_eq v)).trans (pv_len _ _ n.leaf_ok)
                | _ => rfl
              have all : ∀ n, n ≤ len → ∃ (vs : List Value) (xs : List T.den), xs.length = n ∧ RepL w M Gh0 ((xs.map T.pv).flatten) vs ∧ ∀ j u, vs[j]? = some u → w.cell? (a.add j) = some u := by
                intro n
                induction n with
                | zero => exact fun _ => ⟨[], [], rfl, .nil, fun j u h => by simp at h⟩
                | succ n ih =>
                  intro hn
                  obtain ⟨vs, xs, h1, h2, h3⟩ := ih (by omega)
                  obtain ⟨ci, v, h4, h5⟩ := each n (by omega)
                  refine ⟨vs ++ ci, xs ++ [v], by simp [h1], by simpa using h2.append h5, fun j u hj => ?_⟩
                  have hvl : vs.length = n * P.cellsOf e := by rw [h2.1, flat_pv_len hpl, h1]
                  by_cases hjv : j < vs.length
                  · rw [List.getElem?_append_left hjv] at hj
                    exact h3 j u hj
                  · rw [List.getElem?_append_right (by omega)] at hj
                    have := h4 _ u hj
                    rw [Addr.add_add, show n * P.cellsOf e + (j - vs.length) = j by omega] at this
                    exact this
              obtain ⟨vs, xs, h1, h2, h3⟩ := all len (Nat.le_refl _)
              refine ⟨(xs, ()), .cons ?_ .nil⟩
              have := Rep.sl (w := w) (M := M) (G := Gh0) (xs.map T.pv) a cap (P.cellsOf e) vs (fun u hu => by obtain ⟨v, _, rfl⟩ := List.mem_map.1 hu; exact hpl v) h2.1 (fun i u hu => ⟨h3 i u hu, hM _⟩) h2.2 (by simpa [h1] using hlc) hcm
              rw [List.length_map, h1] at this
              exact this
          · cases hok
        · cases hl
      · cases hl
    · rename_i fs hu
      split at hl
      · rename_i e l hfs
        split at hl
        · rename_i hc
          injection hl with hl
          subst hl
          have hc := Nat.eq_of_beq_eq_true hc
          obtain ⟨xs, m, hfm, _, hlen, hxl, hf⟩ := DataW.trod_struct hu h
          injection hfm with hfm
          subst hfm
          obtain ⟨_, v, hv⟩ := fields_rep (off := 0) (w := w) (M := M) (cs := cs) hfs (fun fd hfd l hl => by
            obtain ⟨i, hi⟩ := List.getElem?_of_mem hfd
            have h1 := hf i fd (by simpa using hi)
            have hil : i < fs.size := by simpa using (List.getElem?_eq_some_iff.1 hi).1
            have hex : ∃ y, xs[i]? = some y := ⟨_, List.getElem?_eq_getElem (by omega)⟩
            obtain ⟨y, hy⟩ := hex
            rw [hy] at h1
            exact trod_rep fuel fd.type _ y h1 f l hl) (by omega)
          refine ⟨v, ?_⟩
          rw [List.drop_zero, Nat.sub_zero, List.take_of_length_le (by omega)] at hv
          exact hv
        · cases hl
      · cases hl
    · cases hl
theorem raw_st {n : SName} {t : TypeId} {fs : Array Field} {v : Value} {d : DataW H} {ps : List MemPlace} {b0 : Nat} (hu : P.underlying t = some (.struct fs)) (hl : lsOf P R 20 t = some n.leaves)
    (hval : Value.okWide P w .any b0 t v) (h : DataW.Trod enc P w 0 (fun _ => true) true t v d ps) : ∃ x : (Ty.st n).den, Rep w M Gh0 (valPV (U := U) (Ty.st n) x) v := by
  obtain ⟨cs, rfl, _⟩ := Go.WideShapes.okWide_struct hu hval
  obtain ⟨fuel, hf⟩ := h
  obtain ⟨x, hx⟩ := trod_rep hR hM fuel t _ _ hf 20 n.leaves hl
  have := Rep.agg (w := w) (M := M) (G := Gh0) _ _ hx.1 hx.2
  have e : (Value.agg (Value.agg cs).cells.toList.toArray) = .agg cs := by simp [Value.cells]
  rw [e] at this
  exact ⟨(Ty.st n).ofLs x, (congrArg (fun l => Rep w M Gh0 (.agg l) (.agg cs)) (Ty.ofLs_pv (.st n) x)).mpr this⟩
theorem raw_sl {T : Ty} {t e : TypeId} {v : Value} {d : DataW H} {ps : List MemPlace} {b0 : Nat} (hu : P.underlying t = some (.slice e)) (hl : lsOf P R 20 t = some [.sl T])
    (hval : Value.okWide P w .any b0 t v) (h : DataW.Trod enc P w 0 (fun _ => true) true t v d ps) : ∃ x : List T.den, Rep w M Gh0 (valPV (U := U) (Ty.sl T) x) v := by
  obtain ⟨a, len, cap, rfl⟩ := Go.WideShapes.okWide_slice hu hval
  obtain ⟨fuel, hf⟩ := h
  obtain ⟨x, hx⟩ := trod_rep hR hM fuel t _ _ hf 20 _ hl
  exact ⟨x.1, hx.2 0 _ _ rfl rfl⟩
 omit hR hM in
theorem raw_len {T : Ty} {x : List T.den} {v : Value} (h : Rep w M Gh0 (valPV (U := U) (Ty.sl T) x) v) : x.length ≤ 9223372036854775807 := by
  have h : Rep w M Gh0 (.sl (x.map T.pv)) v := h
  have hl : (x.map T.pv).length = x.length := List.length_map _
  rw [← hl]
  generalize x.map T.pv = es at h
  cases h with
  | sl _ _ _ _ _ _ _ _ _ hn hm => simp only [maxLen] at hm; omega
  | slnil => simp
end
end Go.TQ
