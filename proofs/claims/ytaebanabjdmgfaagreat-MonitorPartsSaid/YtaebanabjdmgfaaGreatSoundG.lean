/-
  Every operation: 'exec' is right. Conditions: none (generic in the program).
-/
import Derived.Test.YtaebanabjdmgfaaGreatSoundF
namespace Go.TQ
open Go.RowKit
section
variable {P : Program} {E : En} {S : St} {a : Act} {w : World} {L : Nat → Value} {o : Oper} {x : PV} {wr : Option (Nat × AObj)} {Γ : Tab} {nid : Nat} {hs : List Nat}

theorem run_callFunc {f : FuncId} (hen : Enters P f) (args : Array Value) : (callFunc f args).run P w = .ok (.enter f args) w := by
  obtain ⟨fn, hf, hb, hn⟩ := hen
  have hb' : ¬ fn.body = none := by intro e; rw [e] at hb; cases hb
  have hn' : ¬ fn.name = "runtime.NumGoroutine" := by simpa using hn
  simp [callFunc, program, Sem.run, hf, hb', hn']

theorem call_wp {f : FuncId} {args : Array Value} (hrun : (execOp a.eval o).run P w = .ok (.enter f args) w)
    (hcall : Calls P f args w (fun e w' => ∃ v L', e = .returned v ∧ Rel E (S.appH wr) a w' L' ∧ Rep w' (mutb E (S.appH wr) L') ((S.appH wr).gh L') x v)) (hnd : NoDefer o) (hd : ∀ t, o.dst = some t → E.can t) {K : Act → World → Prop} {Q : Exit → Act → World → Prop}
    (hK : ∀ a' w' L', Rel E (S.app o.dst x wr) a' w' L' → K a' w') : o.wpIn (WF E.rd) 0 P a w K Q := by
  unfold Oper.wpIn
  rw [Oper.semAt_eq _ _ _ hnd, hrun]
  refine ⟨fun _ _ => trivial, (fun h => by cases h), callsIn_wf.2 (Calls.mono hcall ?_)⟩
  rintro e w' ⟨v, L', rfl, h1, h2⟩
  exact hK _ _ _ (show Rel E (S.app o.dst x wr) (a.put o.dst v) w' L' from h1.putd hd h2)

theorem cop_nodefer {s : SOp} (hc : cop P hs o = some s) : NoDefer o := by
  intro c e
  unfold cop at hc
  rw [e] at hc
  cases hc

theorem exec_sound (hΓ : TabOk P Γ) {s : SOp} (hc : cop P hs o = some s) (h : Rel E S a w L) (hn : nid < S.N) (he : exec Γ nid S s = some (x, wr)) (hd : ∀ t, o.dst = some t → E.can t) {K : Act → World → Prop} {Q : Exit → Act → World → Prop}
    (hK : ∀ a' w' L', Rel E (S.app o.dst x wr) a' w' L' → K a' w') : o.wpIn (WF E.rd) 0 P a w K Q := by
  have hnd : NoDefer o := cop_nodefer hc
  unfold cop at hc
  split at hc
  case h_1 y hop =>
    simp only [Option.bind_eq_bind, Option.bind_eq_some_iff, Option.some.injEq] at hc
    obtain ⟨y', hy, rfl⟩ := hc
    simp only [exec] at he
    obtain ⟨rfl, rfl⟩ := some_inv he
    exact (g_mov h (.inl hop) hy).wp hnd hd hK
  case h_2 y hop =>
    simp only [Option.bind_eq_bind, Option.bind_eq_some_iff, Option.some.injEq] at hc
    obtain ⟨y', hy, rfl⟩ := hc
    simp only [exec] at he
    obtain ⟨rfl, rfl⟩ := some_inv he
    exact (g_mov h (.inr hop) hy).wp hnd hd hK
  case h_3 c y z hop =>
    simp only [Option.bind_eq_bind, Option.bind_eq_some_iff, Option.some.injEq] at hc
    obtain ⟨c', hc', y', hy, z', hz, rfl⟩ := hc
    exact (g_pick h hop hc' hy hz he).wp hnd hd hK
  case h_4 t y hop =>
    simp only [Option.bind_eq_bind, Option.bind_eq_some_iff, Option.some.injEq] at hc
    obtain ⟨y', hy, rfl⟩ := hc
    exact (g_box h hn hop hy he).wp hnd hd hK
  case h_5 t hop =>
    simp only [Option.bind_eq_bind, Option.bind_eq_some_iff, Option.some.injEq] at hc
    obtain ⟨z, hz, rfl⟩ := hc
    exact (g_alloc h hn hop hz he).wp hnd hd hK
  case h_6 t y hop =>
    simp only [Option.bind_eq_bind, Option.bind_eq_some_iff, Option.some.injEq] at hc
    obtain ⟨n, hn', y', hy, rfl⟩ := hc
    exact (g_load h hop hn' hy he).wp hnd hd hK
  case h_7 t y z hop =>
    simp only [Option.bind_eq_bind, Option.bind_eq_some_iff, Option.some.injEq] at hc
    obtain ⟨i, hi, y', hy, z', hz, rfl⟩ := hc
    exact (g_store h hop hi hy hz he).wp hnd hd hK
  case h_8 t parts hop =>
    split at hc
    · rename_i fields hu
      simp only [Option.bind_eq_bind, Option.bind_eq_some_iff, Option.some.injEq] at hc
      obtain ⟨z, hz, places, hp, ps, hps, rfl⟩ := hc
      exact (g_build h hop hz (.inl ⟨fields, places, hu, hp, hps⟩) he).wp hnd hd hK
    · rename_i n e hu
      simp only [Option.bind_eq_bind, Option.bind_eq_some_iff, Option.some.injEq] at hc
      obtain ⟨z, hz, i, hi, ps, hps, rfl⟩ := hc
      exact (g_build h hop hz (.inr ⟨n, e, i, hu, hi, hps⟩) he).wp hnd hd hK
    · cases hc
  case h_9 t len parts hop =>
    split at hc
    · rename_i e hu
      simp only [Option.bind_eq_bind, Option.bind_eq_some_iff] at hc
      obtain ⟨i, hi, z, hz, ps, hps, hc⟩ := hc
      split at hc
      · rename_i hb
        injection hc with hc
        subst hc
        exact (g_bsl h hn hop hu hi hz hps hb.1 hb.2.1 hb.2.2 he).wp hnd hd hK
      · cases hc
    · cases hc
  case h_10 s0 y f hop =>
    split at hc
    · rename_i fields hu
      simp only [Option.bind_eq_bind, Option.bind_eq_some_iff] at hc
      obtain ⟨fd, hf, i, hi, hc⟩ := hc
      split at hc
      · cases hc
      · rename_i h0
        simp only [Option.bind_eq_some_iff, Option.some.injEq] at hc
        obtain ⟨y', hy, rfl⟩ := hc
        exact (g_faddr h hop hu hf hi h0 hy he).wp hnd hd hK
    · cases hc
  case h_11 t y z hop =>
    split at hc
    · rename_i e hu
      simp only [Option.bind_eq_bind, Option.bind_eq_some_iff, Option.some.injEq] at hc
      obtain ⟨i, hi, y', hy, z', hz, rfl⟩ := hc
      exact (g_iaddr h hop hu hi hy hz he).wp hnd hd hK
    · rename_i n e hu
      simp only [Option.bind_eq_bind, Option.bind_eq_some_iff, Option.some.injEq] at hc
      obtain ⟨i, hi, y', hy, z', hz, rfl⟩ := hc
      exact (g_aaddr h hop hu hi hy hz he).wp hnd hd hK
    · cases hc
  case h_12 op t y z t2 hop =>
    split at hc
    · rename_i fs hu
      split at hc
      · rename_i f g hfs
        split at hc
        · rename_i k0 hf hg
          split at hc
          · rename_i hb
            obtain ⟨b1, b2, b3, b4, b5, b6⟩ := hb
            split at hc
            · simp only [Option.bind_eq_bind, Option.bind_eq_some_iff, Option.some.injEq] at hc
              obtain ⟨y', hy, z', hz, rfl⟩ := hc
              exact (g_eq2 (neg := false) h (by simpa using hop) hu hfs hf hg b1 b2 b3 b4 b5 b6 hy hz he).wp hnd hd hK
            · simp only [Option.bind_eq_bind, Option.bind_eq_some_iff, Option.some.injEq] at hc
              obtain ⟨y', hy, z', hz, rfl⟩ := hc
              exact (g_eq2 (neg := true) h (by simpa using hop) hu hfs hf hg b1 b2 b3 b4 b5 b6 hy hz he).wp hnd hd hK
            · cases hc
          · cases hc
        · cases hc
      · cases hc
    · rename_i e hu
      split at hc
      · split at hc
        · simp only [Option.bind_eq_bind, Option.bind_eq_some_iff, Option.some.injEq] at hc
          obtain ⟨y', hy, rfl⟩ := hc
          exact (g_isnil (neg := false) h (by simpa using hop) hu hy he).wp hnd hd hK
        · simp only [Option.bind_eq_bind, Option.bind_eq_some_iff, Option.some.injEq] at hc
          obtain ⟨y', hy, rfl⟩ := hc
          exact (g_isnil (neg := true) h (by simpa using hop) hu hy he).wp hnd hd hK
        · cases hc
      · cases hc
    · rename_i hu
      split at hc
      · simp only [Option.bind_eq_bind, Option.bind_eq_some_iff, Option.some.injEq] at hc
        obtain ⟨y', hy, z', hz, rfl⟩ := hc
        exact (g_eqb (neg := false) h (by simpa using hop) hu hy hz he).wp hnd hd hK
      · simp only [Option.bind_eq_bind, Option.bind_eq_some_iff, Option.some.injEq] at hc
        obtain ⟨y', hy, z', hz, rfl⟩ := hc
        exact (g_eqb (neg := true) h (by simpa using hop) hu hy hz he).wp hnd hd hK
      · cases hc
    · simp only [Option.bind_eq_bind, Option.bind_eq_some_iff, Option.some.injEq] at hc
      obtain ⟨y', hy, z', hz, rfl⟩ := hc
      exact (g_bin h hop hy hz he).wp hnd hd hK
  case h_13 t y hop =>
    simp only [Option.bind_eq_bind, Option.bind_eq_some_iff, Option.some.injEq] at hc
    obtain ⟨y', hy, rfl⟩ := hc
    exact (g_not h hop hy he).wp hnd hd hK
  case h_14 src dst y hop =>
    split at hc
    · rename_i k0 k hs ht
      simp only [Option.bind_eq_bind, Option.bind_eq_some_iff, Option.some.injEq] at hc
      obtain ⟨y', hy, rfl⟩ := hc
      exact (g_conv h hop hs ht hy he).wp hnd hd hK
    · cases hc
  case h_15 t y z hop =>
    split at hc
    · rename_i hu
      simp only [Option.bind_eq_bind, Option.bind_eq_some_iff, Option.some.injEq] at hc
      obtain ⟨y', hy, z', hz, rfl⟩ := hc
      exact (g_sidx h hop hu hy hz he).wp hnd hd hK
    · rename_i len e hu
      simp only [Option.bind_eq_bind, Option.bind_eq_some_iff, Option.some.injEq] at hc
      obtain ⟨n, hn, i, hi, y', hy, z', hz, rfl⟩ := hc
      exact (g_aidx h hop hu hn hi hy hz he).wp hnd hd hK
    · cases hc
  case h_16 t y z ok hop =>
    split at hc
    · rename_i kt vt hu
      split at hc
      · rename_i fs hkt
        split at hc
        · rename_i f g hfs
          split at hc
          · rename_i k0 l0 hf hg
            split at hc
            · rename_i hb
              obtain ⟨b1, b2, b3, b4, b5⟩ := hb
              simp only [Option.bind_eq_bind, Option.bind_eq_some_iff, Option.some.injEq] at hc
              obtain ⟨i, hi, z0, hz0, zv, hz, y', hy, z', hzz, rfl⟩ := hc
              exact (g_lookup h hop hu hkt hfs hf hg b1 b2 b3 b4 b5 hi hz0 hz hy hzz he).wp hnd hd hK
            · cases hc
          · cases hc
        · cases hc
      · cases hc
    · cases hc
  case h_17 y hop =>
    simp only [Option.bind_eq_bind, Option.bind_eq_some_iff, Option.some.injEq] at hc
    obtain ⟨y', hy, rfl⟩ := hc
    exact (g_nilck h hop hy he).wp hnd hd hK
  case h_18 y i hop =>
    simp only [Option.bind_eq_bind, Option.bind_eq_some_iff, Option.some.injEq] at hc
    obtain ⟨y', hy, rfl⟩ := hc
    exact (g_extr h hop hy he).wp hnd hd hK
  case h_19 f first caps hop =>
    split at hc
    · rename_i h0
      simp only [Option.bind_eq_bind, Option.bind_eq_some_iff, Option.some.injEq] at hc
      obtain ⟨cs, hcs, rfl⟩ := hc
      exact (g_mkf h hop h0 hcs he).wp hnd hd hK
    · cases hc
  case h_20 t l c hop =>
    split at hc
    · rename_i e hu
      simp only [Option.bind_eq_bind, Option.bind_eq_some_iff] at hc
      obtain ⟨i, hi, hc⟩ := hc
      split at hc
      · rename_i h0
        simp only [Option.bind_eq_some_iff, Option.some.injEq] at hc
        obtain ⟨z, hz, l', hl, c', hc', rfl⟩ := hc
        exact (g_mks h hn hop hu hi h0 hz hl hc' he).wp hnd hd hK
      · cases hc
    · cases hc
  case h_21 t y lo hi hop =>
    split at hc
    · rename_i e hu
      simp only [Option.bind_eq_bind, Option.bind_eq_some_iff, Option.some.injEq] at hc
      obtain ⟨i, hi0, y', hy, lo', hlo, hi', hhi, rfl⟩ := hc
      exact (g_slc h hop hu hi0 hy hlo hhi he).wp hnd hd hK
    · cases hc
  case h_22 fop args ats hop =>
    simp only [Option.bind_eq_bind, Option.bind_eq_some_iff] at hc
    obtain ⟨xs, hxs, hc⟩ := hc
    have hr := h.opds hxs
    have ha : args.map a.eval = (args.toList.map a.eval).toArray := by rw [← Array.toList_map, Array.toArray_toList]
    split at hc
    · rename_i f
      injection hc with hc
      subst hc
      simp only [exec] at he
      obtain ⟨hen, hcall⟩ := call_ok hΓ h hn hr he
      exact call_wp (by simp [execOp, hop, resolve, Act.eval, Deferred.ofValue, invoke, ha, run_callFunc hen]) hcall hnd hd hK
    · simp only [Option.bind_eq_some_iff, Option.some.injEq] at hc
      obtain ⟨fv, hfv, rfl⟩ := hc
      have rf := h.opd hfv
      simp only [exec] at he
      split at he
      · rename_i f caps ef
        rw [ef] at rf
        obtain ⟨vs, hv, hrc⟩ := rf.clo_inv
        obtain ⟨hen, hcall⟩ := call_ok hΓ h hn (hr.append hrc) he
        refine call_wp ?_ hcall hnd hd hK
        simp only [execOp, hop, resolve, hv, Deferred.ofValue, Sem.run_bind, Sem.run_pure, Result.andThen_ok, invoke, ha]
        simp [run_callFunc hen]
      · cases he
  case h_23 b args ats hop =>
    split at hc
    · rename_i y t hargs hats
      have ha : args = #[y] := by rw [← Array.toArray_toList (xs := args), hargs]
      have hb : ats = #[t] := by rw [← Array.toArray_toList (xs := ats), hats]
      subst ha hb
      split at hc
      · rename_i hu
        simp only [Option.bind_eq_bind, Option.bind_eq_some_iff, Option.some.injEq] at hc
        obtain ⟨y', hy, rfl⟩ := hc
        exact (g_lens h hop hu hy he).wp hnd hd hK
      · rename_i e hu
        simp only [Option.bind_eq_bind, Option.bind_eq_some_iff, Option.some.injEq] at hc
        obtain ⟨y', hy, rfl⟩ := hc
        exact (g_len h hop hu hy he).wp hnd hd hK
      · cases hc
    · rename_i y z t t' hargs hats
      have ha : args = #[y, z] := by rw [← Array.toArray_toList (xs := args), hargs]
      have hb : ats = #[t, t'] := by rw [← Array.toArray_toList (xs := ats), hats]
      subst ha hb
      split at hc
      · rename_i e hu
        simp only [Option.bind_eq_bind, Option.bind_eq_some_iff] at hc
        obtain ⟨i, hi, zv, hzv, hc⟩ := hc
        split at hc
        · rename_i hb
          obtain ⟨rfl, b2, b3⟩ := hb
          simp only [Option.bind_eq_some_iff, Option.some.injEq] at hc
          obtain ⟨y', hy, z', hz, rfl⟩ := hc
          exact (g_app h hn hop hu hi hzv b2 b3 hy hz he).wp hnd hd hK
        · cases hc
      · cases hc
    · rename_i y t hargs hats
      have ha : args = #[y] := by rw [← Array.toArray_toList (xs := args), hargs]
      have hb : ats = #[t] := by rw [← Array.toArray_toList (xs := ats), hats]
      subst ha hb
      split at hc
      · rename_i e hu
        simp only [Option.bind_eq_bind, Option.bind_eq_some_iff, Option.some.injEq] at hc
        obtain ⟨i, hi, z, hz, y', hy, rfl⟩ := hc
        exact (g_clear h hop hu hi hz hy he).wp hnd hd hK
      · cases hc
    · rename_i y z hargs
      have ha : args = #[y, z] := by rw [← Array.toArray_toList (xs := args), hargs]
      subst ha
      simp only [Option.bind_eq_bind, Option.bind_eq_some_iff, Option.some.injEq] at hc
      obtain ⟨y', hy, z', hz, rfl⟩ := hc
      exact (g_minmax (mx := false) h (by simpa using hop) hy hz he).wp hnd hd hK
    · rename_i y z hargs
      have ha : args = #[y, z] := by rw [← Array.toArray_toList (xs := args), hargs]
      subst ha
      simp only [Option.bind_eq_bind, Option.bind_eq_some_iff, Option.some.injEq] at hc
      obtain ⟨y', hy, z', hz, rfl⟩ := hc
      exact (g_minmax (mx := true) h (by simpa using hop) hy hz he).wp hnd hd hK
    · cases hc
  case h_24 => cases hc
end
end Go.TQ
