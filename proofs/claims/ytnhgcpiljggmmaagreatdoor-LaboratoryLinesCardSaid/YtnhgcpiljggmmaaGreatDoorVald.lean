/-
  (*laboratory.reader).valued, walked: two objects are lent by their pointers. Conditions: none.
-/
import Derived.Test.YtnhgcpiljggmmaaGreatDoorLib
import Derived.Test.YtnhgcpiljggmmaaGreatDoorProg
import Derived.WalkKit
import Derived.BigCall
import Derived.KernelRfl
set_option linter.unusedVariables false
set_option linter.unusedSimpArgs false
namespace Go.Proofs.YtnhgcpiljggmmaaGreatDoor
open Go.TQ Go.RowKit Go.Proofs

/-- two objects, and what is known of them -/
structure Two (M : Nat → Prop) (b c : Nat) (w0 w : World) (cs ds : List PV) (us vs : List Value) (T U : TypeId) : Prop where
  x : XOk w M
  hb : w.heap[b]? = some (.cells us.toArray T (0, 0))
  hc : w.heap[c]? = some (.cells vs.toArray U (0, 0))
  rb : RepL w M Gh0 cs us
  rc : RepL w M Gh0 ds vs
  fr : Fr2 b c w0 w
theorem two_stays {M : Nat → Prop} {b c : Nat} {w w' : World} (h1 : M b) (h2 : M c) (h : ∀ k, k < w.heap.size → k ≠ b → k ≠ c → w'.heap[k]? = w.heap[k]?) : Stays w w' M M :=
  ⟨fun a v ha hm => ⟨(World.cell?_of_block (h _ (World.block_lt_of_cell? w a ha) (fun e => hm (by rw [e]; exact h1)) (fun e => hm (by rw [e]; exact h2)))).trans ha, hm⟩,
   fun k es ck hk hm => ⟨(h k (Array.getElem?_eq_some_iff.1 hk).1 (fun e => hm (by rw [e]; exact h1)) (fun e => hm (by rw [e]; exact h2))).trans hk, hm⟩⟩
theorem two_xok {M : Nat → Prop} {b c : Nat} {w w' : World} (hX : XOk w M) (h1 : M b) (h2 : M c) (hs : w.heap.size ≤ w'.heap.size) (h : ∀ k, k < w.heap.size → k ≠ b → k ≠ c → w'.heap[k]? = w.heap[k]?) : XOk w' M :=
  ⟨fun k hk => Nat.lt_of_lt_of_le (hX.lt k hk) hs, hX.ng, hX.gi.keep fun k hk => h k (hX.gi.lt hk) (fun e => hX.ng b h1 (by rw [← e]; exact hk)) (fun e => hX.ng c h2 (by rw [← e]; exact hk))⟩
theorem fr2_trans {b c : Nat} {w0 w w' : World} (h : Fr2 b c w0 w) (k : Fr2 b c w w') : Fr2 b c w0 w' :=
  ⟨k.os.trans h.os, k.tape.trans h.tape, k.output.trans h.output, Nat.le_trans h.size k.size, fun i hi h1 h2 => (k.block i (Nat.lt_of_lt_of_le hi h.size) h1 h2).trans (h.block i hi h1 h2), h.drawn.trans k.drawn⟩
theorem Two.call {P : Program} {f : FuncId} {M : Nat → Prop} {b c : Nat} {w0 w : World} {cs ds cs' : List PV} {us vs : List Value} {T U : TypeId} {r : PV} (h : Two M b c w0 w cs ds us vs T U) (h1 : M b) (h2 : M c) (hbc : b ≠ c)
    (hf : ConAt P f 0 true cs [] r cs') : Calls P f #[.pointer (some ⟨b, 0, none⟩)] w fun e w' => ∃ v us' T', e = .returned v ∧ Rep w' M Gh0 r v ∧ Two M b c w0 w' cs' ds us' vs T' U := by
  have hst : Stays w w M (Mc true b M) := Stays.of fun q hq => by
    rintro (⟨_, rfl⟩ | h)
    · exact hq h1
    · exact hq h
  have hst' : ∀ w, Stays w w (Mc true b M) M := fun w => Stays.of fun q hq hm => hq (.inr hm)
  refine (hf w M h.x b T us [] (fun _ => ⟨h.hb, h.rb.mono hst (Gh.le.refl _), h.x.ng b h1⟩) RepL.nil).mono ?_
  rintro e w' ⟨v, us', rfl, hr, hc, hfr⟩
  obtain ⟨⟨T', hb'⟩, hr'⟩ := hc rfl
  have hblk : ∀ k, k < w.heap.size → k ≠ b → k ≠ c → w'.heap[k]? = w.heap[k]? := fun k hk hkb _ => hfr.block k hk (by simp; exact fun e => hkb e.symm)
  exact ⟨v, us', T', rfl, hr.mono (hst' w') (Gh.le.refl _), two_xok h.x h1 h2 hfr.size hblk, hb', (hfr.block c (h.x.lt c h2) (by simp; exact hbc)).trans h.hc, hr'.mono (hst' w') (Gh.le.refl _), h.rc.mono (two_stays h1 h2 hblk) (Gh.le.refl _),
    fr2_trans h.fr ⟨hfr.os, hfr.tape, hfr.output, hfr.size, hblk, hfr.drawn⟩⟩
theorem repL_put {w : World} {M : Nat → Prop} {G : Gh} {cs : List PV} {vs : List Value} (h : RepL w M G cs vs) (i : Nat) {x : PV} {v : Value} (hx : Rep w M G x v) : RepL w M G (cs.set i x) (vs.set i v) := by
  refine ⟨by rw [List.length_set, List.length_set]; exact h.1, fun j y u hy hu => ?_⟩
  rw [List.getElem?_set] at hy hu
  split at hy
  · rename_i hij
    rw [if_pos hij] at hu
    split at hy
    · injection hy with hy
      split at hu
      · injection hu with hu
        rw [← hy, ← hu]
        exact hx
      · cases hu
    · cases hy
  · rename_i hij
    rw [if_neg hij] at hu
    exact h.2 j y u hy hu
theorem Two.store {M : Nat → Prop} {b c : Nat} {w0 w : World} {cs ds : List PV} {us vs : List Value} {T U : TypeId} (h : Two M b c w0 w cs ds us vs T U) (h1 : M b) (h2 : M c) (hbc : b ≠ c)
    {i : Nat} (hi : i < vs.length) {x : PV} {v : Value} (hx : ∀ w, Rep w M Gh0 x v) : Two M b c w0 (w.setCell ⟨c, i, none⟩ v) cs (ds.set i x) us (vs.set i v) T U := by
  have hlt : c < w.heap.size := h.x.lt c h2
  have hblk : ∀ k, k < w.heap.size → k ≠ b → k ≠ c → (w.setCell ⟨c, i, none⟩ v).heap[k]? = w.heap[k]? := fun k _ _ hk => Below.heap_setCell _ _ _ k hk
  have hsz : (w.setCell ⟨c, i, none⟩ v).heap.size = w.heap.size := by simp [World.setCell]
  have hnew : (w.setCell ⟨c, i, none⟩ v).heap[c]? = some (.cells (vs.set i v).toArray U (0, 0)) := by
    unfold World.setCell
    simp only
    rw [Array.getElem?_modify, if_pos rfl, h.hc]
    simp
  have hs := two_stays (w := w) (w' := w.setCell ⟨c, i, none⟩ v) h1 h2 hblk
  exact ⟨two_xok h.x h1 h2 (by rw [hsz]; exact Nat.le_refl _) hblk, (Below.heap_setCell _ _ _ b (fun e => hbc e)).trans h.hb, hnew, h.rb.mono hs (Gh.le.refl _), repL_put (h.rc.mono hs (Gh.le.refl _)) i (hx _),
    fr2_trans h.fr ⟨rfl, rfl, rfl, by rw [hsz]; exact Nat.le_refl _, hblk, DL.of (by simp [World.setCell])⟩⟩

theorem Two.cellc {M : Nat → Prop} {b c : Nat} {w0 w : World} {cs ds : List PV} {us vs : List Value} {T U : TypeId} (h : Two M b c w0 w cs ds us vs T U) {i : Nat} (hi : i < vs.length) : w.cell? ⟨c, i, none⟩ = some vs[i] ∧ w.frozen? ⟨c, i, none⟩ = false := by
  constructor
  · unfold World.cell?
    simp only
    rw [h.hc]
    simp [hi]
  · unfold World.frozen?
    simp only
    rw [h.hc]
    simp

set_option maxHeartbeats 2000000 in
set_option maxRecDepth 1000000 in
theorem valued_walk {cs c1 c2 c3 ds : List PV} {n1 n2 : Int} {s3 : ByteArray} (hN1 : ConAt Tryz.prog 57 0 true cs [] (.int .i64 n1) c1) (hN2 : ConAt Tryz.prog 57 0 true c1 [] (.int .i64 n2) c2) (hW : ConAt Tryz.prog 55 0 true c2 [] (.str s3) c3) (hl : 5 < ds.length) :
    Con2 Tryz.prog 56 cs ds c3 (((ds.set 1 (.int .i64 n1)).set 3 (.int .i64 n2)).set 5 (.str s3)) := by
  intro w M b c T U us vs hX h1 h2 hbc hb hc hr1 hr2
  have K0 : Two M b c w w cs ds us vs T U := ⟨hX, hb, hc, hr1, hr2, ⟨rfl, rfl, rfl, Nat.le_refl _, fun _ _ _ _ => rfl, DL.refl _⟩⟩
  have hlv : 5 < vs.length := by rw [hr2.1]; exact hl
  go_enter Tryz.func56, Tryz.ntmps56
  go_wp2_with (go_at_call 57; refine (K0.call h1 h2 hbc hN1).mono ?_)
  rintro e W1 ⟨v1, us1, T1, rfl, hv1, K1⟩
  obtain rfl := int_inv hv1
  have C1 := (K1.cellc (i := 1) (by omega)).1
  have F1 := (K1.cellc (i := 1) (by omega)).2
  have K1' := K1.store h1 h2 hbc (i := 1) (by omega) (x := .int .i64 n1) (v := .int .i64 n1) fun _ => .int _ _
  go_wp2_with (go_at_call 57; refine (K1'.call h1 h2 hbc hN2).mono ?_)
  rintro e W2 ⟨v2, us2, T2, rfl, hv2, K2⟩
  obtain rfl := int_inv hv2
  have C2 := (K2.cellc (i := 3) (by simp; omega)).1
  have F2 := (K2.cellc (i := 3) (by simp; omega)).2
  have K2' := K2.store h1 h2 hbc (i := 3) (by simp; omega) (x := .int .i64 n2) (v := .int .i64 n2) fun _ => .int _ _
  go_wp2_with (go_at_call 55; refine (K2'.call h1 h2 hbc hW).mono ?_)
  rintro e W3 ⟨v3, us3, T3, rfl, hv3, K3⟩
  obtain rfl := str_inv hv3
  have C3 := (K3.cellc (i := 5) (by simp; omega)).1
  have F3 := (K3.cellc (i := 5) (by simp; omega)).2
  have K3' := K3.store h1 h2 hbc (i := 5) (by simp; omega) (x := .str s3) (v := .string s3) fun _ => .str _
  go_wp2
  go_end0
  exact ⟨_, _, _, _, rfl, K3'.hb, K3'.hc, K3'.rb, K3'.rc, K3'.fr⟩

/-- reader.valued -/
def valuedF (N : TLaboratoryReader → Option (Int × TLaboratoryReader)) (W : TLaboratoryReader → Option (ByteArray × TLaboratoryReader)) (s : TLaboratoryReader) (t : TStep) : Option (TLaboratoryReader × TStep) :=
  (N s).bind fun p => (N p.2).bind fun q => (W q.2).bind fun v => some (v.2, { t with Node := p.1, Slot := q.1, Value := v.1 })
theorem lib56 {N : TLaboratoryReader → Option (Int × TLaboratoryReader)} {W : TLaboratoryReader → Option (ByteArray × TLaboratoryReader)} (hN : KFun.Sound Tryz.prog (U := U) (.rc 57 0 (Ty.st .LaboratoryReader) [] (.one (Ty.i .i64)) fun s a => N s)) (hW : KFun.Sound Tryz.prog (U := U) (.rc 55 0 (Ty.st .LaboratoryReader) [] (.one Ty.str) fun s a => W s)) :
    KFun.Sound Tryz.prog (U := U) (.r2 56 (Ty.st .LaboratoryReader) (Ty.st .Step) fun s t => valuedF N W s t) := by
  refine ⟨⟨_, Tryz.func56, by kernel_rfl, by kernel_rfl⟩, fun s t s' t' h => ?_⟩
  have h : valuedF N W s t = some (s', t') := h
  unfold valuedF at h
  obtain ⟨p, hp, h⟩ := Option.bind_eq_some_iff.1 h
  obtain ⟨q, hq, h⟩ := Option.bind_eq_some_iff.1 h
  obtain ⟨v, hv, h⟩ := Option.bind_eq_some_iff.1 h
  injection h with h
  injection h with h3 h4
  subst h3 h4
  exact valued_walk (hN.2 s () p.1 p.2 hp) (hN.2 p.2 () q.1 q.2 hq) (hW.2 q.2 () v.1 v.2 hv) (by show 5 < (pv_TStep t).length; unfold pv_TStep; simp)
end Go.Proofs.YtnhgcpiljggmmaaGreatDoor
