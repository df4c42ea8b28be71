/-
  laboratory.Format, walked: a strings.Builder that takes a line a step. Conditions: draws are not counted.
-/
import Derived.Test.YtnhgcpiljggmmaaGreatDoorLibs
import Derived.WalkKit
import Derived.BigCall
set_option linter.unusedVariables false
set_option linter.unusedSimpArgs false
namespace Go.Proofs.YtnhgcpiljggmmaaGreatDoor
open Go.TQ Go.RowKit Go.Proofs

theorem Tryz.writeString (B b : Nat) (bs : List Value) (s : ByteArray) (w : World) (h : Lib.IsBuilderF 76 5 B b bs w) (hlen : bs.length + s.size ≤ 140737488355328) (hBw : B ≤ w.heap.size) :
    Calls Tryz.prog 23 #[.pointer (some ⟨b, 0, none⟩), .string s] w fun e w' => e = .returned (.tuple #[.int .i64 s.size, .nilIface]) ∧ (Lib.BuilderAtF 76 5 B b (.pointer (some ⟨b, 0, none⟩)) (bs ++ Lib.strCells s) w' ∧ Below B w w' ∧ Lib.OthersKept 5 (some b) w w') :=
  Any.Builder_WriteString_k (P := Tryz.prog) (ρ := Tryz.lays156_ren) { Tryz.lays156 with } Tryz.Builder_Extra_156 B b bs s w h hlen hBw

/-- what is written, step after step -/
def fmtGo (F : TStep → Option (ByteArray × Bool × Unit)) : List TStep → List UInt8 → Option (List UInt8 × Bool)
  | [], acc => some (acc, true)
  | t :: l, acc => (F t).bind fun r => bif r.2.1 then (if acc.length + r.1.size + 1 ≤ 140737488355328 then fmtGo F l (acc ++ (r.1.data.toList ++ [10])) else none) else some (acc, false)

/-- a row's element, read in whatever later world -/
theorem el_at {w : World} {X : Nat → Prop} {es : List (List PV)} {p : Option Addr} {n c : Nat} (h : Rep w X Gh0 (.sl es) (.slice p n c)) {i : Nat} {e : List PV} (hi : es[i]? = some e) (h34 : ∀ e ∈ es, e.length = 34) (h1 : ∀ y ∈ e, y.one = true) :
    ∃ (a : Addr) (vs : List Value), p = some a ∧ vs.length = 34 ∧ (∀ v ∈ vs, v.oneCell' = true) ∧ RepL w X Gh0 e vs ∧ a.block < w.heap.size ∧ ¬ X a.block ∧ ∀ W, W.heap[a.block]? = w.heap[a.block]? → (loadVar 51 (a.add (i * 34))).run Tryz.prog W = .ok (.agg vs.toArray) W := by
  rcases h.sl_inv with ⟨_, h0⟩ | ⟨ad, c', k, us, hv, hk, hr, hc, _, _⟩
  · rw [h0] at hi; cases hi
  · injection hv with hp _ _
    have hm := List.mem_of_getElem? hi
    have hk34 : k = 34 := by rw [← hk e hm, h34 e hm]
    subst hk34
    have he34 := h34 e hm
    have hsub : RepL w X Gh0 e ((us.drop (i * 34)).take 34) := by
      have h2 := (hr.drop (i * 34)).take 34
      have h3 : (es.flatten.drop (i * 34)).take 34 = e := by
        apply List.ext_getElem?
        intro j
        rw [List.getElem?_take]
        split
        · rename_i hj
          rw [List.getElem?_drop, flatten_at es 34 i e hk hi j hj]
        · rw [List.getElem?_eq_none (by omega)]
      rw [h3] at h2
      exact h2
    have hcell : ∀ (j : Nat) (v : Value), ((us.drop (i * 34)).take 34)[j]? = some v → w.cell? ((ad.add (i * 34)).add j) = some v ∧ ¬ X ad.block := fun j v hv => by
      rw [List.getElem?_take] at hv
      split at hv
      · rw [List.getElem?_drop] at hv
        rw [Addr.add_add]
        exact hc _ v hv
      · cases hv
    have hl : ((us.drop (i * 34)).take 34).length = 34 := by rw [hsub.1, he34]
    have h0 := hcell 0 _ (List.getElem?_eq_getElem (by omega))
    have hblk : ((ad.add (i * 34)).add 0).block = ad.block := by rw [block_add, block_add]
    have hlt : ad.block < w.heap.size := by
      have := World.block_lt_of_cell? w _ h0.1
      rwa [hblk] at this
    refine ⟨ad, (us.drop (i * 34)).take 34, hp, hl, fun v hv => ?_, hsub, hlt, h0.2, fun W hW => ?_⟩
    · obtain ⟨j, hj, rfl⟩ := List.getElem_of_mem hv
      have hj' : j < e.length := by rw [← hsub.1]; exact hj
      exact ((hsub.2 j e[j] _ (List.getElem?_eq_getElem hj') (List.getElem?_eq_getElem hj)).one (h1 _ (List.getElem_mem hj'))).1
    · refine loadVar_agg (n := 34) (by kernel_rfl) hl fun j v hv => ?_
      rw [World.cell?_of_block (w := w) (w' := W) (by rw [block_add, block_add]; exact hW)]
      exact (hcell j v hv).1

theorem wpList_ld {P : Program} {ops : Array Oper} {rest : List Oper} {o : Oper} {a : Act} {w : World} {Q : Exit → Act → World → Prop} (hgd : o.guard = none) (ty : TypeId) (x : Operand) (ho : o.op = .load ty x)
    (ad : Addr) (v : Value) (hx : a.eval x = .pointer (some ad)) (hr : (loadVar ty ad).run P w = .ok v w) (h : wpList P ops Q rest (a.put o.dst v) w) : wpList P ops Q (o :: rest) a w :=
  wpList_plain hgd fun K hK => by
    unfold Oper.wp execOp
    simp only [ho, hx, Instr.loadAt, Instr.sureAddr, Sem.run_bind, Sem.run_pure, Result.andThen_ok, hr]
    exact hK _ _ h

theorem builder_keep {T e B b : Nat} {bs : List Value} {w w' : World} (h : Lib.IsBuilderF T e B b bs w) (hk : ∀ k, k < w.heap.size → w'.heap[k]? = w.heap[k]?) : Lib.IsBuilderF T e B b bs w' := by
  have one : ∀ p, Lib.BuilderAtF T e B b p bs w → Lib.BuilderAtF T e B b p bs w' := by
    rintro p ⟨h1, v, h2, h3, h4⟩
    refine ⟨h1, v, (hk b (Array.getElem?_eq_some_iff.1 h2).1).trans h2, ⟨h3.1, ?_⟩, h4⟩
    rcases h3.2 with h5 | ⟨g, cap, cur, fz, e1, e2, e3, e4⟩
    · exact .inl h5
    · exact .inr ⟨g, cap, cur, fz, e1, e2, (hk g (Array.getElem?_eq_some_iff.1 e3).1).trans e3, e4⟩
  exact h.elim (fun x => .inl (one _ x)) (fun x => .inr (one _ x))

theorem step_one (t : TStep) : ∀ y ∈ pv_TStep t, y.one = true := by
  intro y hy
  simp only [pv_TStep, List.mem_cons, List.not_mem_nil, or_false] at hy
  rcases hy with h | h | h | h | h | h | h | h | h | h | h | h | h | h | h | h | h | h | h | h | h | h | h | h | h | h | h | h | h | h | h | h | h | h <;> (subst h; rfl)

theorem row_new (w : World) (Z cs : Array Value) (T : TypeId) : ((w.alloc (.cells Z T)).setRow w.heap.size cs).heap[w.heap.size]? = some (.cells cs T (0, 0)) ∧ Below w.heap.size w ((w.alloc (.cells Z T)).setRow w.heap.size cs) := by
  constructor
  · unfold World.setRow
    simp only
    rw [Array.getElem?_modify, if_pos rfl, World.alloc_heap_new]
    rfl
  · refine ⟨rfl, rfl, rfl, by simp [World.setRow], fun k hk => ?_⟩
    unfold World.setRow
    simp only
    rw [Array.getElem?_modify, if_neg (by omega)]
    exact Below.heap_alloc w _ k hk
def zStep : Array Value := #[Value.int IntKind.i64 0, Value.int IntKind.i64 0, Value.int IntKind.i64 0, Value.int IntKind.i64 0, Value.int IntKind.i64 0, Value.string { data := #[] }, Value.int IntKind.i64 0, Value.slice none 0 0, Value.slice none 0 0, Value.int IntKind.i64 0, Value.int IntKind.i64 0, Value.int IntKind.i64 0, Value.int IntKind.i64 0, Value.int IntKind.i64 0, Value.slice none 0 0, Value.slice none 0 0, Value.slice none 0 0, Value.slice none 0 0, Value.int IntKind.i64 0, Value.int IntKind.i64 0, Value.int IntKind.i64 0, Value.int IntKind.i64 0, Value.slice none 0 0, Value.slice none 0 0, Value.int IntKind.i64 0, Value.int IntKind.i64 0, Value.string { data := #[] }, Value.int IntKind.i64 0, Value.string { data := #[] }, Value.int IntKind.i64 0, Value.string { data := #[] }, Value.int IntKind.i64 0, Value.int IntKind.i64 0, Value.slice none 0 0]
theorem strbool_inv {w : World} {M : Nat → Prop} {G : Gh} {s : ByteArray} {b : Bool} {v : Value} (h : Rep w M G (.tup [.str s, .bool b]) v) : v = .tuple #[.string s, .bool b] := by
  cases h with
  | tup cs vs hl h =>
    match vs, hl, h with
    | [x, y], _, h =>
      have h1 := str_inv (h 0 _ _ rfl rfl)
      have h2 := h 1 _ _ rfl rfl
      cases h2
      rw [h1]

set_option maxHeartbeats 2000000 in
set_option maxRecDepth 1000000 in
theorem fmt_walk {F : TStep → Option (ByteArray × Bool × Unit)} (hF : ∀ t r, F t = some r → Con Tryz.prog 16 false [] [.agg (pv_TStep t)] (.tup [.str r.1, .bool r.2.1]) []) (l : List TStep) (res : List UInt8 × Bool) (hres : fmtGo F l [] = some res) (hlen : l.length ≤ 300)
    (w : World) (X : Nat → Prop) (hX : XOk w X) (p : Option Addr) (c : Nat) (hv : Rep w X Gh0 (.sl (l.map pv_TStep)) (.slice p l.length c)) :
    Calls Tryz.prog 10 #[.slice p l.length c] w fun e w' => e = .returned (.tuple (if res.2 then #[.string ⟨res.1.toArray⟩, .int .i64 0] else #[.string ⟨#[]⟩, .int .i64 63])) ∧ Below w.heap.size w w' := by
  go_enter Tryz.func10, Tryz.ntmps10
  go_wp2
  go_loopw [14] (fun vi wr => ∃ (i : Nat) (acc : List UInt8), vi = .int .i64 i ∧ i ≤ l.length ∧ Lib.IsBuilderF 76 5 w.heap.size w.heap.size (Lib.byteCells acc) wr ∧ Below w.heap.size w wr ∧ fmtGo F (l.drop i) acc = some res) (fun vi _ => l.length - (Lib.intOf vi).toNat)
  case atStart =>
    exact ⟨0, [], rfl, Nat.zero_le _, Lib.IsBuilderF.of (Lib.fresh_isBuilder 76 5 w), (Below.refl _ w).alloc (Nat.le_refl _) _, hres⟩
  case round =>
    obtain ⟨i, acc, rfl, hil, hI, hbw, hacc⟩ := hrel
    by_cases hi : i < l.length
    · obtain ⟨t, ht⟩ : ∃ t, l[i]? = some t := ⟨l[i], List.getElem?_eq_getElem hi⟩
      obtain ⟨a, vs, rfl, hvl, hv1, hvr, hab, hax, hld⟩ := el_at hv (i := i) (e := pv_TStep t) (by rw [List.getElem?_map, ht]; rfl) (fun e he => by
        obtain ⟨t, _, rfl⟩ := List.mem_map.1 he
        rfl) (step_one t)
      have hL1 := hld wr (hbw.block _ hab)
      have hi51 : (Tryz.prog.info? 51).map (·.size) = some vs.toArray.size := by rw [List.size_toArray, hvl]; kernel_rfl
      have hone : vs.toArray.all (·.oneCell') = true := by simpa using hv1
      have hszb : w.heap.size < wr.heap.size := by
        rcases hI with h | h <;> exact (Array.getElem?_eq_some_iff.1 h.2.choose_spec.1).1
      rw [List.drop_eq_getElem_cons hi, show l[i] = t from by rw [List.getElem?_eq_getElem hi] at ht; injection ht] at hacc
      obtain ⟨r, hr, hacc⟩ := Option.bind_eq_some_iff.1 hacc
      have hold : zStep.size = vs.toArray.size := by rw [show vs.toArray.size = 34 by rw [List.size_toArray, hvl]]; rfl
      obtain ⟨s, b, u⟩ := r
      simp only at hacc
      go_wp2_with (first
        | (refine wpList_ld rfl 51 _ rfl _ _ rfl hL1 ?_; clear hL1)
        | (refine wpList_store_row rfl 51 _ _ rfl ?_ ?_ ?_ ?_ ?_ ?_ ?_ ?_ ?_ ?_ ?_
           exact wr.heap.size
           exact vs.toArray
           exact rfl
           exact rfl
           exact 51
           exact zStep
           exact World.alloc_heap_new wr _
           exact hi51
           exact hold
           exact hone
           obtain ⟨hW1, hW2⟩ := row_new wr zStep vs.toArray 51
           unfold zStep at hW1 hW2
           revert hW1 hW2
           generalize ((wr.alloc _).setRow wr.heap.size vs.toArray) = W2
           intro hW1 hW2
           have hL2 : (loadVar 51 ⟨wr.heap.size, 0, none⟩).run Tryz.prog W2 = .ok (.agg vs.toArray) W2 := run_loadVar_row W2 wr.heap.size 51 51 vs.toArray (0, 0) _ hW1 Tryz.underlying51 rfl hi51)
        | (refine wpList_ld rfl 51 _ rfl _ _ rfl hL2 ?_; clear hL2))
      have hb2 : Below w.heap.size w W2 := hbw.trans (hW2.mono hbw.size)
      have hX2 : XOk W2 X := ⟨fun k hk => Nat.lt_of_lt_of_le (hX.lt k hk) hb2.size, hX.ng, hX.gi.keep fun k hk => hb2.block k (hX.gi.lt hk)⟩
      have hst : Stays w W2 X (Mc false 0 X) := ⟨fun a v ha hm => ⟨(World.cell?_of_block (hb2.block _ (World.block_lt_of_cell? w a ha))).trans ha, fun h => by
          rcases h with ⟨h, _⟩ | h
          · cases h
          · exact hm h⟩, fun k es ck hk hm => ⟨(hb2.block k (Array.getElem?_eq_some_iff.1 hk).1).trans hk, fun h => by
          rcases h with ⟨h, _⟩ | h
          · cases h
          · exact hm h⟩⟩
      have hargs : RepL W2 (Mc false 0 X) Gh0 [.agg (pv_TStep t)] [.agg vs.toArray] := by
        refine RepL.cons ?_ RepL.nil
        have := hvr.mono hst (Gh.le.refl _)
        exact .agg _ _ this.1 this.2
      refine (show Calls Tryz.prog 16 #[Value.agg vs.toArray] W2 _ from hF t (s, b, u) hr W2 X hX2 0 0 [] [.agg vs.toArray] (fun e => by cases e) hargs).mono ?_
      rintro e W3 ⟨v, _, rfl, hrv, _, hf3⟩
      obtain rfl := strbool_inv hrv
      have hb3 : Below w.heap.size w W3 := hb2.trans ⟨hf3.os, hf3.tape, hf3.output, hf3.size, fun k hk => hf3.block k (Nat.lt_of_lt_of_le hk hb2.size) (by simp)⟩
      have hI3 : Lib.IsBuilderF 76 5 w.heap.size w.heap.size (Lib.byteCells acc) W3 := builder_keep (builder_keep hI hW2.block) fun k hk => hf3.block k hk (by simp)
      cases b with
      | false =>
        injection hacc with hacc
        subst hacc
        go_wp2
        go_ret2
        exact ⟨rfl, hb3⟩
      | true =>
        simp only [cond_true] at hacc
        split at hacc
        · rename_i hsz
          go_wp2_with (go_at_call 23; refine (Tryz.writeString w.heap.size w.heap.size _ _ W3 hI3 ?_ hb3.size).mono ?_)
          · rw [Lib.byteCells_length, ByteArray.size_append]
            exact hsz
          · rintro e W4 ⟨rfl, h1, b1, k1⟩
            go_wp2
            go_roundw
            case rel =>
              refine ⟨i + 1, acc ++ (s.data.toList ++ [10]), ?_, by omega, Or.inr ?_, hb3.trans b1, hacc⟩
              · rfl
              · rw [Lib.byteCells_append]
                exact h1
            case measure =>
              show l.length - (↑i + 1 : Int).toNat < l.length - (↑i : Int).toNat
              omega
        · cases hacc
    · go_wp2_with (go_at_call 24; refine (Tryz.Builder_String_any_k w.heap.size w.heap.size acc wr hI hbw.size).mono ?_)
      rintro e W1 ⟨rfl, _, b1, _⟩
      rw [List.drop_eq_nil_of_le (by omega)] at hacc
      injection hacc with hacc
      subst hacc
      go_wp2
      go_ret2
      exact ⟨rfl, hbw.trans b1⟩

theorem fmt_walk0 (p : Option Addr) (n c : Nat) (h : 300 < n) (w : World) : Calls Tryz.prog 10 #[.slice p n c] w fun e w' => e = .returned (.tuple #[.string ⟨#[]⟩, .int .i64 3]) ∧ w' = w := by
  go_enter Tryz.func10, Tryz.ntmps10
  go_wp2
  go_ret2
  exact ⟨rfl, rfl⟩

/-- laboratory.Format -/
def formatF (F : TStep → Option (ByteArray × Bool × Unit)) (l : List TStep) : Option (ByteArray × Int × Unit) :=
  if 300 < l.length then some (⟨#[]⟩, 3, ()) else (fmtGo F l []).map fun r => bif r.2 then (⟨r.1.toArray⟩, 0, ()) else (⟨#[]⟩, 63, ())
theorem strint_rep {w : World} {M : Nat → Prop} {G : Gh} {s : ByteArray} {n : Int} : Rep w M G (.tup [.str s, .int .i64 n]) (.tuple #[.string s, .int .i64 n]) := by
  refine .tup _ [.string s, .int .i64 n] rfl fun i x v h1 h2 => ?_
  match i, h1, h2 with
  | 0, h1, h2 => injection h1 with h1; injection h2 with h2; subst h1 h2; exact .str _
  | 1, h1, h2 => injection h1 with h1; injection h2 with h2; subst h1 h2; exact .int _ _
theorem fmt_con {F : TStep → Option (ByteArray × Bool × Unit)} (hC : ∀ t r, F t = some r → Con Tryz.prog 16 false [] [.agg (pv_TStep t)] (.tup [.str r.1, .bool r.2.1]) []) (l : List TStep) (r : ByteArray × Int × Unit) (h : formatF F l = some r) :
    Con Tryz.prog 10 false [] [.sl (l.map pv_TStep)] (.tup [.str r.1, .int .i64 r.2.1]) [] := by
  unfold formatF at h
  have hsl : ∀ {w : World} {X : Nat → Prop} {v : Value}, Rep w X Gh0 (.sl (l.map pv_TStep)) v → ∃ p c, v = .slice p l.length c := fun {w X v} hv => by
    rcases hv.sl_inv with ⟨rfl, h0⟩ | ⟨ad, c, k, us, rfl, _⟩
    · rw [List.map_eq_nil_iff] at h0
      exact ⟨none, 0, by rw [h0]; rfl⟩
    · exact ⟨some ad, c, by rw [List.length_map]⟩
  intro w X hX rb T rvs vs _ hv
  obtain ⟨v, rfl, hv1⟩ := a1_inv hv
  have hv1 : Rep w X Gh0 (.sl (l.map pv_TStep)) v := hv1.mono (Stays.of fun q hq h => hq (.inr h)) (Gh.le.refl _)
  obtain ⟨p, c, rfl⟩ := hsl hv1
  split at h
  · rename_i hn
    injection h with h
    subst h
    refine (fmt_walk0 p l.length c hn w).mono ?_
    rintro e w' ⟨rfl, rfl⟩
    exact ⟨_, [], rfl, strint_rep, fun e => (by cases e), Fr.refl _ _⟩
  · rename_i hn
    obtain ⟨res, hres, h⟩ := Option.map_eq_some_iff.1 h
    subst h
    refine (fmt_walk hC l res hres (by omega) w X hX p c hv1).mono ?_
    rintro e w' ⟨rfl, hb⟩
    obtain ⟨acc, b⟩ := res
    cases b
    · exact ⟨_, [], rfl, strint_rep, fun e => (by cases e), fr_below rfl hb⟩
    · exact ⟨_, [], rfl, strint_rep, fun e => (by cases e), fr_below rfl hb⟩
theorem lib10 {F : TStep → Option (ByteArray × Bool × Unit)} (hF : KFun.Sound Tryz.prog (U := U) (.fn 16 [.ty (Ty.st .Step)] (.many [Ty.str, Ty.bool]) fun a => F a.1)) :
    KFun.Sound Tryz.prog (U := U) (.fn 10 [.ty (Ty.sl (Ty.st .Step))] (.many [Ty.str, (Ty.i .i64)]) fun a => formatF F a.1) :=
  ⟨⟨_, Tryz.func10, by kernel_rfl, by kernel_rfl⟩, fun a r h => fmt_con (fun t r h => hF.2 (t, ()) r h) a.1 r h⟩
end Go.Proofs.YtnhgcpiljggmmaaGreatDoor
