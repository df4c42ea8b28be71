/-
  What the row's listed variables and the world's shape give a walk (GI); the wrap that keeps both. Seat ZD.
-/
import Derived.Test.YtnhgcpiljggmmaaGreatDoorCards
import Derived.Test.YtnhgcpiljggmmaaGreatDoorLays
import Derived.Test.YtnhgcpiljggmmaaGreatDoorRow
import Derived.Handed
import Derived.HandedShaped
import Derived.ChangeSame
import Derived.ChangeVars
import Derived.JoinedOf
import Derived.RowKit
import Derived.RowKitTokens
import Derived.LaidLaws
import Derived.Stop.LaidErr
import Derived.KernelRfl
set_option linter.unusedVariables false
namespace Go.Proofs.YtnhgcpiljggmmaaGreatDoor.Gi
open Go Go.ChangeShapes Go.WideShapes Go.RowKit

theorem wrap {H : Type} {enc : TypeId × Value → H} {a : Assume} {C : Checked} {os : Os} {f : FuncId} {fn : Func} {s : ChangeSpec} {conds : List PathCond} {apart fresh handsOn again : Bool} {X : World → Array Value → Prop}
    (hX : ∀ (w w' : World) (args : Array Value), w.heap = w'.heap → X w args → X w' args)
    (own : ownKnob C.prog.godebug = none) (started : os.Started) (noInit : C.prog.inits.idxOf? f = none) (hfn : C.prog.funcs[f]? = some fn)
    (witness : ∃ (w : World) (tape : Tape) (i : Input), w.os = os ∧ (w.forCall tape i).Shaped C.prog ∧ i.vars = [] ∧ Input.okWide C.prog (w.forCall tape i) .any w.heap.size f i ∧
      ((s.pre enc C.prog fn conds apart (w.forCall tape i).memory i.args ∧ X (w.forCall tape i).memory i.args) ∧ sizedMet enc C.prog fn (OpenSpec.ofChange s) apart (w.forCall tape i).memory i.args) ∧ a.holds C.prog (lone (Frame.enter C.prog f i.args .normal) [] (w.forCall tape i)))
    (contract : ∀ (W : World) (base : Nat) (args : Array Value) (ds gs : List (DataW H)) (before : List MemPlace),
      (∀ (j : Nat) t v, fn.params[j]? = some t → args[j]? = some v → Value.okWide C.prog W .any base t v) →
      DataW.Whole enc C.prog fn.params.toList s.vars apart W args.toList ds gs before →
      X W args → W.ShapedOpen C.prog →
      Calls C.prog f args W fun e W' => ∃ v, e = .returned v ∧ s.post enc C.prog fn apart fresh handsOn again W args v W') :
    ReturnsInHanded a C os f .any (fun w args => (s.pre enc C.prog fn conds apart w args ∧ X w args) ∧ sizedMet enc C.prog fn (OpenSpec.ofChange s) apart w args) (s.post enc C.prog fn apart fresh handsOn again) := by
  refine returnsInHanded_of_calls own started noInit witness ?_
  intro w tape i _ hsh _ hok hpre hholds
  obtain ⟨_, _, _, fn', hfn', _, _, _, _, hval⟩ := hok
  have e : fn' = fn := Option.some.inj (hfn'.symm.trans hfn)
  subst e
  obtain ⟨⟨⟨ds, gs, before, hw, hc⟩, hx⟩, hz⟩ := hpre
  have hw' := DataW.Whole.of_heap (w' := w.forCall tape i) (by rfl) hw
  refine (contract (w.forCall tape i) w.heap.size i.args ds gs before hval hw' (hX _ _ _ (by rfl) hx) hsh).mono fun e W' ⟨v, he, hp⟩ => ?_
  subst he
  exact ChangeSpec.post_blind hp

set_option maxRecDepth 100000 in
theorem maxLen_of {W : World} (h : W.ShapedOpen Tryz.prog) : ∃ m T fr, W.heap[0]? = some (.cells #[.int .i64 m] T fr) := by
  obtain ⟨cs, h1, h2, h3⟩ := h.1 0 #[.int .i64 0] 3 (of_decide_eq_true (by kernel_rfl)) (by kernel_rfl)
  obtain ⟨l⟩ := cs
  have hl : l.length = 1 := h2
  obtain ⟨v, rfl⟩ : ∃ v, l = [v] := by
    match l, hl with
    | [v], _ => exact ⟨v, rfl⟩
  obtain ⟨ts, h4, _, h5⟩ := h3 (by kernel_rfl)
  have e : Tryz.prog.cellTypes Tryz.prog.depth 3 = some [3] := by kernel_rfl
  obtain rfl := Option.some.inj (e.symm.trans h4)
  obtain ⟨u, h6, h7⟩ := h5 0 v rfl
  obtain rfl : 3 = u := Option.some.inj h6
  unfold Cell.ok at h7
  rw [Tryz.underlying3] at h7
  cases v with
  | int k m =>
    have h8 : k = .i64 ∧ _ := h7
    obtain ⟨rfl, _⟩ := h8
    exact ⟨m, _, _, h1⟩
  | _ => exact h7.elim

theorem syn_g : Tryz.prog.globalNamed "strconv.ErrSyntax" = some 1 := by kernel_rfl
theorem ran_g : Tryz.prog.globalNamed "strconv.ErrRange" = some 2 := by kernel_rfl
theorem tab_g : Tryz.prog.globalNamed "internal/strconv.uint64pow10" = some 5 := by kernel_rfl
theorem syn_t : (Tryz.prog.globals[1]?).map (·.type) = some 78 := by kernel_rfl
theorem ran_t : (Tryz.prog.globals[2]?).map (·.type) = some 78 := by kernel_rfl
theorem tab_t : (Tryz.prog.globals[5]?).map (·.type) = some 290 := by kernel_rfl
theorem star : "*" ++ "errors.errorString" = "*errors.errorString" := by decide
theorem var_row {W : World} {P : Program} {n : String} {g : Nat} {cs : Array Value} (hg : P.globalNamed n = some g) (h : W.var? P n = some cs) : ∃ T fr, W.heap[g]? = some (.cells cs T fr) := by
  unfold World.var? at h
  simp only [hg, Option.bind_some] at h
  split at h
  · rename_i cs' T fr e
    obtain rfl := Option.some.inj h
    exact ⟨T, fr, e⟩
  · cases h
theorem row286 (u : TypeId) (h : Tryz.prog.typeName? 3 u = some "*errors.errorString") : u = 286 :=
  typeName_ptr_named (nm := "errors.errorString") (by rw [star]; kernel_rfl) (by kernel_rfl) (by decide) u (by rw [star]; exact h)
theorem cells288 : Tryz.prog.cellsOf 288 = 1 := by kernel_rfl
theorem cells9 : Tryz.prog.cellsOf 9 = 1 := by kernel_rfl
theorem sent_of {W : World} {n : String} {g : Nat} {text : List UInt8} {r : List (String × DataW Unit)} (h : laidMet Tryz.prog ((n, .iface "*errors.errorString" (.ptr (.agg [.lit (.string text)]))) :: r) W)
    (hg : Tryz.prog.globalNamed n = some g) (ht : (Tryz.prog.globals[g]?).map (·.type) = some 78) : ∃ tp p T fr, W.heap[g]? = some (.cells #[.iface tp p] T fr) := by
  obtain ⟨a, s, hv, _⟩ := laid_sentinel h hg ht Tryz.underlying78 row286 Tryz.underlying286 Tryz.underlying288 rfl rfl Tryz.underlying9 cells288 cells9
  obtain ⟨T, fr, h1⟩ := var_row hg hv
  exact ⟨_, _, T, fr, h1⟩
theorem int_of_trod {H : Type} {enc : TypeId × Value → H} {P : Program} {w : World} {base : Nat} {sp : Nat → Bool} {held : Bool} {fuel : Nat} {t : TypeId} {k : IntKind} {c : Value} {y : DataW H × List MemPlace}
    (ht : P.underlying t = some (.int k)) (h : DataW.trod enc P w base sp held fuel t [c] = some y) : ∃ n, c = .int k n ∧ y = (.lit (.int k n), []) := by
  cases fuel with
  | zero => simp [DataW.trod] at h
  | succ fuel =>
    cases c <;> simp [DataW.trod, ht] at h
    rename_i k' n
    obtain ⟨⟨rfl, _⟩, rfl⟩ := h
    exact ⟨n, rfl, rfl⟩
theorem cells290 : Tryz.prog.cellsOf 290 = 20 := by kernel_rfl
theorem cells198 : Tryz.prog.cellsOf 198 = 1 := by kernel_rfl
set_option maxHeartbeats 4000000 in
set_option maxRecDepth 100000 in
theorem tab_of {W : World} {r : List (String × DataW Unit)} (h : laidMet Tryz.prog (("internal/strconv.uint64pow10", Rows.laid_internal_strconv_uint64pow10) :: r) W) :
    W.var? Tryz.prog "internal/strconv.uint64pow10" = some (((List.range 20).map fun i => Value.int .u64 ((10 ^ i : Nat) : Int)).toArray) := by
  obtain ⟨ps, ⟨g, t, cs, fuel, p, q, hg, ht, hvar, hd, _, _⟩, _⟩ := h
  obtain rfl := Option.some.inj (tab_g.symm.trans hg)
  obtain rfl := Option.some.inj (tab_t.symm.trans ht)
  rw [hvar]
  congr 1
  obtain ⟨l⟩ := cs
  cases fuel with
  | zero => simp [DataW.trod] at hd
  | succ fuel =>
    simp only [DataW.trod, Tryz.underlying290, cells290, cells198] at hd
    split at hd
    · rename_i hl
      obtain ⟨c0, c1, c2, c3, c4, c5, c6, c7, c8, c9, c10, c11, c12, c13, c14, c15, c16, c17, c18, c19, rfl⟩ : ∃ c0 c1 c2 c3 c4 c5 c6 c7 c8 c9 c10 c11 c12 c13 c14 c15 c16 c17 c18 c19, l = [c0, c1, c2, c3, c4, c5, c6, c7, c8, c9, c10, c11, c12, c13, c14, c15, c16, c17, c18, c19] := by
        match l, hl with
        | [c0, c1, c2, c3, c4, c5, c6, c7, c8, c9, c10, c11, c12, c13, c14, c15, c16, c17, c18, c19], _ => exact ⟨c0, c1, c2, c3, c4, c5, c6, c7, c8, c9, c10, c11, c12, c13, c14, c15, c16, c17, c18, c19, rfl⟩
      have e : List.range 20 = [0, 1, 2, 3, 4, 5, 6, 7, 8, 9, 10, 11, 12, 13, 14, 15, 16, 17, 18, 19] := rfl
      rw [e] at hd
      simp only [Option.map_eq_some_iff, List.mapM_cons, List.mapM_nil, Option.bind_eq_bind, Option.bind_eq_some_iff, Option.pure_def, Option.some.injEq] at hd
      obtain ⟨xs, ⟨y0, h0, _, ⟨y1, h1, _, ⟨y2, h2, _, ⟨y3, h3, _, ⟨y4, h4, _, ⟨y5, h5, _, ⟨y6, h6, _, ⟨y7, h7, _, ⟨y8, h8, _, ⟨y9, h9, _, ⟨y10, h10, _, ⟨y11, h11, _, ⟨y12, h12, _, ⟨y13, h13, _, ⟨y14, h14, _, ⟨y15, h15, _, ⟨y16, h16, _, ⟨y17, h17, _, ⟨y18, h18, _, ⟨y19, h19, _, rfl, rfl⟩, rfl⟩, rfl⟩, rfl⟩, rfl⟩, rfl⟩, rfl⟩, rfl⟩, rfl⟩, rfl⟩, rfl⟩, rfl⟩, rfl⟩, rfl⟩, rfl⟩, rfl⟩, rfl⟩, rfl⟩, rfl⟩, rfl⟩, hx⟩ := hd
      obtain ⟨n0, rfl, rfl⟩ := int_of_trod Tryz.underlying198 h0
      obtain ⟨n1, rfl, rfl⟩ := int_of_trod Tryz.underlying198 h1
      obtain ⟨n2, rfl, rfl⟩ := int_of_trod Tryz.underlying198 h2
      obtain ⟨n3, rfl, rfl⟩ := int_of_trod Tryz.underlying198 h3
      obtain ⟨n4, rfl, rfl⟩ := int_of_trod Tryz.underlying198 h4
      obtain ⟨n5, rfl, rfl⟩ := int_of_trod Tryz.underlying198 h5
      obtain ⟨n6, rfl, rfl⟩ := int_of_trod Tryz.underlying198 h6
      obtain ⟨n7, rfl, rfl⟩ := int_of_trod Tryz.underlying198 h7
      obtain ⟨n8, rfl, rfl⟩ := int_of_trod Tryz.underlying198 h8
      obtain ⟨n9, rfl, rfl⟩ := int_of_trod Tryz.underlying198 h9
      obtain ⟨n10, rfl, rfl⟩ := int_of_trod Tryz.underlying198 h10
      obtain ⟨n11, rfl, rfl⟩ := int_of_trod Tryz.underlying198 h11
      obtain ⟨n12, rfl, rfl⟩ := int_of_trod Tryz.underlying198 h12
      obtain ⟨n13, rfl, rfl⟩ := int_of_trod Tryz.underlying198 h13
      obtain ⟨n14, rfl, rfl⟩ := int_of_trod Tryz.underlying198 h14
      obtain ⟨n15, rfl, rfl⟩ := int_of_trod Tryz.underlying198 h15
      obtain ⟨n16, rfl, rfl⟩ := int_of_trod Tryz.underlying198 h16
      obtain ⟨n17, rfl, rfl⟩ := int_of_trod Tryz.underlying198 h17
      obtain ⟨n18, rfl, rfl⟩ := int_of_trod Tryz.underlying198 h18
      obtain ⟨n19, rfl, rfl⟩ := int_of_trod Tryz.underlying198 h19
      simp [Rows.laid_internal_strconv_uint64pow10] at hx
      obtain ⟨⟨rfl, rfl, rfl, rfl, rfl, rfl, rfl, rfl, rfl, rfl, rfl, rfl, rfl, rfl, rfl, rfl, rfl, rfl, rfl, rfl⟩, _⟩ := hx
      rfl
    · cases hd
end Go.Proofs.YtnhgcpiljggmmaaGreatDoor.Gi
