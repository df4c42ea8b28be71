/-
  Every operation: 'exec' is right. Conditions: none (generic in the program).
-/
import Derived.Test.YtnhgcpiljggmmaaGreatDoorSoundF
namespace Go.TQ
open Go.RowKit
section
variable {P : Program} {E : En} {S : St} {a : Act} {w : World} {L : Nat → Value} {o : Oper} {x : PV} {wr : Option (Nat × AObj)} {Γ : Tab} {nid : Nat} {hs : List Nat}

theorem upd_self {α : Type} (f : Nat → α) (i : Nat) : upd f i (f i) = f := by
  funext j; unfold upd; split
  · rename_i h; rw [h]
  · rfl
theorem Rel.kill (h : Rel E S a w L) {id : Nat} (hid : id < S.N) (hl : (S.H id).c.live = true) : Rel E { S with H := upd S.H id ⟨(S.H id).ver, .dead⟩ } a w L := by
  have := (h.turn (w' := w) hid ⟨(S.H id).ver, .dead⟩ (L id) (.inl ⟨rfl, rfl, hl⟩) rfl rfl rfl (Nat.le_refl _) (fun _ _ _ => rfl) (fun b hl => by cases hl) (fun _ _ => trivial)).1
  rwa [upd_self] at this
theorem Rel.frz2 (h : Rel E S a w L) {id e k : Nat} {es : List (List PV)} (hN : id < S.N) (hc : (S.H id).c = .row e k es) (hcl : ∀ u ∈ es, u.all PV.closed = true) :
    Rel E { S with H := upd S.H id ⟨(S.H id).ver, .dead⟩ } a w L ∧ ∀ v, v = L id → Rep w (mutb E { S with H := upd S.H id ⟨(S.H id).ver, .dead⟩ } L) (St.gh { S with H := upd S.H id ⟨(S.H id).ver, .dead⟩ } L) (.sl es) v := by
  have hlive : (S.H id).c.live = true := by rw [hc]; rfl
  refine ⟨h.kill hN hlive, fun v hv => ?_⟩
  obtain ⟨vs, hown, hk, hr⟩ := h.row_at hN hc
  rw [hv]
  have hM : ∀ b, mutb E { S with H := upd S.H id ⟨(S.H id).ver, .dead⟩ } L b → mutb E S L b ∧ (blk (L id) = some b → E.X b) := by
    rintro b (⟨j, hj, hlv, hb⟩ | hx)
    · simp only at hj hlv
      by_cases hji : j = id
      · subst hji; rw [upd_same] at hlv; cases hlv
      · rw [upd_ne _ _ hji] at hlv
        exact ⟨.inl ⟨j, hj, hlv, hb⟩, fun hb' => absurd (h.apart j id b hj hN hlv hlive hb hb') hji⟩
    · exact ⟨.inr hx, fun _ => hx⟩
  rcases hown.2 with ⟨hL, h0⟩ | ⟨g, cap, cur, hL, hb1, hh, hnc, hcm, _⟩
  · have : es = [] := List.eq_nil_of_length_eq_zero h0
    subst this
    rw [hL]
    exact .slnil
  · rw [hL]
    have hcf : es.flatten.all PV.closed = true := by
      refine List.all_eq_true.2 fun y hy => ?_
      obtain ⟨u, hu, hyu⟩ := List.mem_flatten.1 hy
      exact List.all_eq_true.1 (hcl u hu) y hyu
    have hr2 := RepL.closed (M' := mutb E { S with H := upd S.H id ⟨(S.H id).ver, .dead⟩ } L) (G' := Gh0) hcf (fun b hb => (hM b hb).1) hr
    refine .sl _ _ _ k vs hk hr2.1 (fun i u hu => ⟨hown.cells (g := g) (by rw [hL]; rfl) i u hu, fun hm => ?_⟩) hr2.2 (by simpa using hnc) hcm
    have hxg := (hM g hm).2 (by rw [hL]; rfl)
    have hbg : blk (L id) = some g := by rw [hL]; rfl
    rcases rowBase_at hbg hb1 with ⟨h6, h7⟩ | h6
    · exact E.hxr h6 g h7 hxg
    · have := E.hX.lt g hxg
      omega
theorem Rel.frz (h : Rel E S a w L) {id e k : Nat} {es : List (List PV)} {v : Value} (r : Rep w (mutb E S L) (S.gh L) (.own id (S.H id).ver) v) (hc : (S.H id).c = .row e k es) (hcl : ∀ u ∈ es, u.all PV.closed = true) :
    Rel E { S with H := upd S.H id ⟨(S.H id).ver, .dead⟩ } a w L ∧ Rep w (mutb E { S with H := upd S.H id ⟨(S.H id).ver, .dead⟩ } L) (St.gh { S with H := upd S.H id ⟨(S.H id).ver, .dead⟩ } L) (.sl es) v := by
  obtain ⟨hN, hv⟩ := r.own_inv (show (S.gh L).V id = (S.H id).ver from rfl)
  obtain ⟨h1, h2⟩ := h.frz2 hN hc hcl
  exact ⟨h1, h2 v hv⟩
theorem app_true {e k b : Nat} {s y : Opd} (he : exec Γ nid S (.app true e k b s y) = some (x, wr)) : ∃ id ver es, exec Γ nid S (.app false e k b s y) = some (.own id ver, some (id, ⟨ver, .row e k es⟩)) ∧ x = .sl es ∧ wr = some (id, ⟨ver, .dead⟩) ∧ ∀ u ∈ es, u.all PV.closed = true := by
  have key : ∀ {id ver : Nat} {es : List (List PV)}, appR true id ver e k es = some (x, wr) → ∃ id' ver' es', appR false id ver e k es = some (.own id' ver', some (id', ⟨ver', .row e k es'⟩)) ∧ x = .sl es' ∧ wr = some (id', ⟨ver', .dead⟩) ∧ ∀ u ∈ es', u.all PV.closed = true := by
    intro id ver es h
    simp only [appR] at h
    split at h
    · rename_i hall
      obtain ⟨rfl, rfl⟩ := some_inv h
      exact ⟨id, ver, es, rfl, rfl, rfl, fun u hu => List.all_eq_true.1 hall u hu⟩
    · cases h
  simp only [exec] at he ⊢
  split at he
  · rename_i news hn
    split at he
    · rename_i hall
      simp only [hall, if_true]
      split at he
      · split at he
        · rename_i hb
          rw [if_pos hb]
          exact key he
        · cases he
      · rename_i id ver hv
        split at he
        · rename_i hver
          rw [if_pos hver]
          split at he
          · rename_i e' k' es hc
            split at he
            · rename_i hb
              simp only [if_pos hb]
              exact key he
            · cases he
          · cases he
        · cases he
      · cases he
    · cases he
  · cases he
theorem Good.frz {id ver e k : Nat} {es : List (List PV)} (h : Good P E S a w o (.own id ver) (some (id, ⟨ver, .row e k es⟩))) (hcl : ∀ u ∈ es, u.all PV.closed = true) : Good P E S a w o (.sl es) (some (id, ⟨ver, .dead⟩)) := by
  obtain ⟨nx, w', L', v, h1, h2, h3, h4⟩ := h
  have hH : (S.appH (some (id, ⟨ver, .row e k es⟩))).H id = ⟨ver, .row e k es⟩ := upd_same _ _ _
  have hv : ((S.appH (some (id, ⟨ver, .row e k es⟩))).H id).ver = ver := by rw [hH]
  have hc : ((S.appH (some (id, ⟨ver, .row e k es⟩))).H id).c = .row e k es := by rw [hH]
  generalize hS : S.appH (some (id, ⟨ver, .row e k es⟩)) = S1 at h3 h4 hH hv hc
  rw [← hv] at h3
  obtain ⟨g1, g2⟩ := h4.frz h3 hc hcl
  rw [hv, ← hS] at g1 g2
  have e1 : ({ S.appH (some (id, ⟨ver, .row e k es⟩)) with H := upd (S.appH (some (id, ⟨ver, .row e k es⟩))).H id ⟨ver, .dead⟩ } : St) = S.appH (some (id, ⟨ver, .dead⟩)) := by
    unfold St.appH
    simp only [St.mk.injEq, true_and, and_true]
    funext j
    unfold upd
    split <;> rfl
  rw [e1] at g1 g2
  exact ⟨nx, w', L', v, h1, h2, g2, g1⟩
theorem run_callFunc {f : FuncId} (hen : Enters P f) (args : Array Value) : (callFunc f args).run P w = .ok (.enter f args) w := by
  obtain ⟨fn, hf, hb, hn⟩ := hen
  have hb' : ¬ fn.body = none := by intro e; rw [e] at hb; cases hb
  have hn' : ¬ fn.name = "runtime.NumGoroutine" := by simpa using hn
  simp [callFunc, program, Sem.run, hf, hb', hn']

theorem call_wp {f : FuncId} {args : Array Value} (hrun : (execOp a.eval o).run P w = .ok (.enter f args) w)
    (hcall : Calls P f args w (fun e w' => ∃ v L', e = .returned v ∧ Rel E (S.appH wr) a w' L' ∧ Rep w' (mutb E (S.appH wr) L') ((S.appH wr).gh L') x v)) (hnd : NoDefer o) (hd : ∀ t, o.dst = some t → E.can t) {K : Act → World → Prop} {Q : Exit → Act → World → Prop}
    (hK : ∀ a' w' L', Rel E (S.app o.dst x wr) a' w' L' → K a' w') : o.wpIn (WF E.rd) 0 P a w K Q := by
  unfold Oper.wpIn
  rw [Oper.semAt_eq _ _ _ hnd, hrun]
  refine ⟨fun _ _ => trivial, (fun h => by cases h), callsIn_wf.2 (Calls.mono hcall ?_)⟩
  rintro e w' ⟨v, L', rfl, h1, h2⟩
  exact hK _ _ _ (show Rel E (S.app o.dst x wr) (a.put o.dst v) w' L' from h1.putd hd h2)

theorem cop_call_inv {f : FuncId} {xs : List Opd} (hc : cop P hs o = some (.call f xs)) : ∃ (args : Array Operand) (ats : Array TypeId), o.op = .call { callee := .value (.func f), args := args, argTypes := ats } ∧ args.toList.mapM copd = some xs := by
  unfold cop at hc
  split at hc
  case h_22 fop args ats hop =>
    simp only [Option.bind_eq_bind, Option.bind_eq_some_iff] at hc
    obtain ⟨ys, hys, hc⟩ := hc
    split at hc
    · injection hc with hc
      injection hc with h1 h2
      subst h1 h2
      exact ⟨_, _, hop, hys⟩
    · simp only [Option.bind_eq_some_iff, Option.some.injEq, reduceCtorEq, and_false, exists_false] at hc
  all_goals (repeat' split at hc) <;> (try simp only [Option.bind_eq_bind, Option.bind_eq_some_iff, Option.some.injEq, reduceCtorEq, and_false, exists_false] at hc) <;> (try (obtain ⟨_, _, hc⟩ := hc)) <;> (try (obtain ⟨_, _, hc⟩ := hc)) <;> (try (obtain ⟨_, _, hc⟩ := hc)) <;> (repeat' split at hc) <;> (try simp only [Option.bind_eq_bind, Option.bind_eq_some_iff, Option.some.injEq, reduceCtorEq, and_false, exists_false] at hc) <;> cases hc
theorem cop_nodefer {s : SOp} (hc : cop P hs o = some s) : NoDefer o := by
  intro c e
  unfold cop at hc
  rw [e] at hc
  cases hc

theorem exec_sound (hΓ : TabOk P Γ) {s : SOp} (hc : cop P hs o = some s) (h : Rel E S a w L) (hn : nid < S.N) (he : exec Γ nid S s = some (x, wr)) (hd : ∀ t, o.dst = some t → E.can t) {K : Act → World → Prop} {Q : Exit → Act → World → Prop}
    (hK : ∀ a' w' L', Rel E (S.app o.dst x wr) a' w' L' → K a' w') : o.wpIn (WF E.rd) 0 P a w K Q := by
  have hnd : NoDefer o := cop_nodefer hc
  unfold cop at hc
  split at hc
  case h_1 y hop =>
    simp only [Option.bind_eq_bind, Option.bind_eq_some_iff, Option.some.injEq] at hc
    obtain ⟨y', hy, rfl⟩ := hc
    simp only [exec] at he
    obtain ⟨rfl, rfl⟩ := some_inv he
    exact (g_mov h (.inl hop) hy).wp hnd hd hK
  case h_2 y hop =>
    simp only [Option.bind_eq_bind, Option.bind_eq_some_iff, Option.some.injEq] at hc
    obtain ⟨y', hy, rfl⟩ := hc
    simp only [exec] at he
    obtain ⟨rfl, rfl⟩ := some_inv he
    exact (g_mov h (.inr hop) hy).wp hnd hd hK
  case h_3 c y z hop =>
    simp only [Option.bind_eq_bind, Option.bind_eq_some_iff, Option.some.injEq] at hc
    obtain ⟨c', hc', y', hy, z', hz, rfl⟩ := hc
    exact (g_pick h hop hc' hy hz he).wp hnd hd hK
  case h_4 t y hop =>
    simp only [Option.bind_eq_bind, Option.bind_eq_some_iff, Option.some.injEq] at hc
    obtain ⟨y', hy, rfl⟩ := hc
    split at he
    · split at he
      · exact (g_boxr h hop hy he).wp hnd hd hK
      · exact (g_box h hn hop hy he).wp hnd hd hK
    · exact (g_box h hn hop hy he).wp hnd hd hK
  case h_5 t hop =>
    simp only [Option.bind_eq_bind, Option.bind_eq_some_iff, Option.some.injEq] at hc
    obtain ⟨z, hz, rfl⟩ := hc
    exact (g_alloc h hn hop hz he).wp hnd hd hK
  case h_6 t y hop =>
    simp only [Option.bind_eq_bind, Option.bind_eq_some_iff, Option.some.injEq] at hc
    obtain ⟨n, hn', y', hy, rfl⟩ := hc
    exact (g_load h hop hn' hy he).wp hnd hd hK
  case h_7 t y z hop =>
    simp only [Option.bind_eq_bind, Option.bind_eq_some_iff, Option.some.injEq] at hc
    obtain ⟨i, hi, y', hy, z', hz, rfl⟩ := hc
    exact (g_store h hop hi hy hz he).wp hnd hd hK
  case h_8 t parts hop =>
    split at hc
    · rename_i fields hu
      simp only [Option.bind_eq_bind, Option.bind_eq_some_iff, Option.some.injEq] at hc
      obtain ⟨z, hz, places, hp, ps, hps, rfl⟩ := hc
      exact (g_build h hop hz (.inl ⟨fields, places, hu, hp, hps⟩) he).wp hnd hd hK
    · rename_i n e hu
      simp only [Option.bind_eq_bind, Option.bind_eq_some_iff, Option.some.injEq] at hc
      obtain ⟨z, hz, i, hi, ps, hps, rfl⟩ := hc
      exact (g_build h hop hz (.inr ⟨n, e, i, hu, hi, hps⟩) he).wp hnd hd hK
    · cases hc
  case h_9 t len parts hop =>
    split at hc
    · rename_i e hu
      simp only [Option.bind_eq_bind, Option.bind_eq_some_iff] at hc
      obtain ⟨i, hi, z, hz, ps, hps, hc⟩ := hc
      split at hc
      · rename_i hb
        injection hc with hc
        subst hc
        exact (g_bsl h hn hop hu hi hz hps hb.1 hb.2.1 hb.2.2 he).wp hnd hd hK
      · cases hc
    · cases hc
  case h_10 s0 y f hop =>
    split at hc
    · rename_i fields hu
      simp only [Option.bind_eq_bind, Option.bind_eq_some_iff] at hc
      obtain ⟨fd, hf, i, hi, hc⟩ := hc
      split at hc
      · cases hc
      · rename_i h0
        simp only [Option.bind_eq_some_iff, Option.some.injEq] at hc
        obtain ⟨y', hy, rfl⟩ := hc
        exact (g_faddr h hop hu hf hi h0 hy he).wp hnd hd hK
    · cases hc
  case h_11 t y z hop =>
    split at hc
    · rename_i e hu
      simp only [Option.bind_eq_bind, Option.bind_eq_some_iff, Option.some.injEq] at hc
      obtain ⟨i, hi, y', hy, z', hz, rfl⟩ := hc
      exact (g_iaddr h hop hu hi hy hz he).wp hnd hd hK
    · rename_i n e hu
      simp only [Option.bind_eq_bind, Option.bind_eq_some_iff, Option.some.injEq] at hc
      obtain ⟨i, hi, y', hy, z', hz, rfl⟩ := hc
      exact (g_aaddr h hop hu hi hy hz he).wp hnd hd hK
    · cases hc
  case h_12 op t y z t2 hop =>
    split at hc
    · rename_i fs hu
      split at hc
      · rename_i f g hfs
        split at hc
        · rename_i k0 hf hg
          split at hc
          · rename_i hb
            obtain ⟨b1, b2, b3, b4, b5, b6⟩ := hb
            split at hc
            · simp only [Option.bind_eq_bind, Option.bind_eq_some_iff, Option.some.injEq] at hc
              obtain ⟨y', hy, z', hz, rfl⟩ := hc
              exact (g_eq2 (neg := false) h (by simpa using hop) hu hfs hf hg b1 b2 b3 b4 b5 b6 hy hz he).wp hnd hd hK
            · simp only [Option.bind_eq_bind, Option.bind_eq_some_iff, Option.some.injEq] at hc
              obtain ⟨y', hy, z', hz, rfl⟩ := hc
              exact (g_eq2 (neg := true) h (by simpa using hop) hu hfs hf hg b1 b2 b3 b4 b5 b6 hy hz he).wp hnd hd hK
            · cases hc
          · cases hc
        · split at hc
          · rename_i ks hks
            split at hc
            · rename_i hgu
              split at hc
              · simp only [Option.bind_eq_bind, Option.bind_eq_some_iff, Option.some.injEq] at hc
                obtain ⟨y', hy, z', hz, rfl⟩ := hc
                exact (g_eqs (neg := false) h (by simpa using hop) hu hks hgu hy hz he).wp hnd hd hK
              · simp only [Option.bind_eq_bind, Option.bind_eq_some_iff, Option.some.injEq] at hc
                obtain ⟨y', hy, z', hz, rfl⟩ := hc
                exact (g_eqs (neg := true) h (by simpa using hop) hu hks hgu hy hz he).wp hnd hd hK
              · cases hc
            · cases hc
          · cases hc
      · split at hc
        · rename_i ks hks
          split at hc
          · rename_i hgu
            split at hc
            · simp only [Option.bind_eq_bind, Option.bind_eq_some_iff, Option.some.injEq] at hc
              obtain ⟨y', hy, z', hz, rfl⟩ := hc
              exact (g_eqs (neg := false) h (by simpa using hop) hu hks hgu hy hz he).wp hnd hd hK
            · simp only [Option.bind_eq_bind, Option.bind_eq_some_iff, Option.some.injEq] at hc
              obtain ⟨y', hy, z', hz, rfl⟩ := hc
              exact (g_eqs (neg := true) h (by simpa using hop) hu hks hgu hy hz he).wp hnd hd hK
            · cases hc
          · cases hc
        · cases hc
    · rename_i e hu
      split at hc
      · split at hc
        · simp only [Option.bind_eq_bind, Option.bind_eq_some_iff, Option.some.injEq] at hc
          obtain ⟨y', hy, rfl⟩ := hc
          exact (g_isnil (neg := false) h (by simpa using hop) hu hy he).wp hnd hd hK
        · simp only [Option.bind_eq_bind, Option.bind_eq_some_iff, Option.some.injEq] at hc
          obtain ⟨y', hy, rfl⟩ := hc
          exact (g_isnil (neg := true) h (by simpa using hop) hu hy he).wp hnd hd hK
        · cases hc
      · cases hc
    · rename_i hu
      split at hc
      · simp only [Option.bind_eq_bind, Option.bind_eq_some_iff, Option.some.injEq] at hc
        obtain ⟨y', hy, z', hz, rfl⟩ := hc
        exact (g_eqb (neg := false) h (by simpa using hop) hu hy hz he).wp hnd hd hK
      · simp only [Option.bind_eq_bind, Option.bind_eq_some_iff, Option.some.injEq] at hc
        obtain ⟨y', hy, z', hz, rfl⟩ := hc
        exact (g_eqb (neg := true) h (by simpa using hop) hu hy hz he).wp hnd hd hK
      · cases hc
    · rename_i hu
      split at hc
      · simp only [Option.bind_eq_bind, Option.bind_eq_some_iff, Option.some.injEq] at hc
        obtain ⟨y', hy, z', hz, rfl⟩ := hc
        exact (g_scat h hop hy hz he).wp hnd hd hK
      · simp only [Option.bind_eq_bind, Option.bind_eq_some_iff, Option.some.injEq] at hc
        obtain ⟨y', hy, z', hz, rfl⟩ := hc
        exact (g_bin h hop hy hz he).wp hnd hd hK
    · rename_i ms hu
      split at hc
      · split at hc
        · simp only [Option.bind_eq_bind, Option.bind_eq_some_iff, Option.some.injEq] at hc
          obtain ⟨y', hy, rfl⟩ := hc
          exact (g_inil (neg := false) h (by simpa using hop) hu hy he).wp hnd hd hK
        · simp only [Option.bind_eq_bind, Option.bind_eq_some_iff, Option.some.injEq] at hc
          obtain ⟨y', hy, rfl⟩ := hc
          exact (g_inil (neg := true) h (by simpa using hop) hu hy he).wp hnd hd hK
        · cases hc
      · cases hc
    · simp only [Option.bind_eq_bind, Option.bind_eq_some_iff, Option.some.injEq] at hc
      obtain ⟨y', hy, z', hz, rfl⟩ := hc
      exact (g_bin h hop hy hz he).wp hnd hd hK
  case h_13 t y hop =>
    simp only [Option.bind_eq_bind, Option.bind_eq_some_iff, Option.some.injEq] at hc
    obtain ⟨y', hy, rfl⟩ := hc
    exact (g_not h hop hy he).wp hnd hd hK
  case h_14 src dst y hop =>
    split at hc
    · rename_i k0 k hs ht
      simp only [Option.bind_eq_bind, Option.bind_eq_some_iff, Option.some.injEq] at hc
      obtain ⟨y', hy, rfl⟩ := hc
      exact (g_conv h hop hs ht hy he).wp hnd hd hK
    · rename_i e hs ht
      split at hc
      · rename_i hb
        simp only [Option.bind_eq_bind, Option.bind_eq_some_iff, Option.some.injEq] at hc
        obtain ⟨y', hy, rfl⟩ := hc
        exact (g_b2s h hop hs hb ht hy he).wp hnd hd hK
      · cases hc
    · cases hc
  case h_15 t y z hop =>
    split at hc
    · rename_i hu
      simp only [Option.bind_eq_bind, Option.bind_eq_some_iff, Option.some.injEq] at hc
      obtain ⟨y', hy, z', hz, rfl⟩ := hc
      exact (g_sidx h hop hu hy hz he).wp hnd hd hK
    · rename_i len e hu
      simp only [Option.bind_eq_bind, Option.bind_eq_some_iff, Option.some.injEq] at hc
      obtain ⟨n, hn, i, hi, y', hy, z', hz, rfl⟩ := hc
      exact (g_aidx h hop hu hn hi hy hz he).wp hnd hd hK
    · cases hc
  case h_16 t y z ok hop =>
    split at hc
    · rename_i kt vt hu
      split at hc
      · rename_i fs hkt
        split at hc
        · rename_i f g hfs
          split at hc
          · rename_i k0 l0 hf hg
            split at hc
            · rename_i hb
              obtain ⟨b1, b2, b3, b4, b5⟩ := hb
              simp only [Option.bind_eq_bind, Option.bind_eq_some_iff, Option.some.injEq] at hc
              obtain ⟨i, hi, z0, hz0, zv, hz, y', hy, z', hzz, rfl⟩ := hc
              exact (g_lookup h hop hu hkt hfs hf hg b1 b2 b3 b4 b5 hi hz0 hz hy hzz he).wp hnd hd hK
            · cases hc
          · cases hc
        · cases hc
      · cases hc
    · cases hc
  case h_17 y hop =>
    simp only [Option.bind_eq_bind, Option.bind_eq_some_iff, Option.some.injEq] at hc
    obtain ⟨y', hy, rfl⟩ := hc
    exact (g_nilck h hop hy he).wp hnd hd hK
  case h_18 y i hop =>
    simp only [Option.bind_eq_bind, Option.bind_eq_some_iff, Option.some.injEq] at hc
    obtain ⟨y', hy, rfl⟩ := hc
    exact (g_extr h hop hy he).wp hnd hd hK
  case h_19 f first caps hop =>
    split at hc
    · rename_i h0
      simp only [Option.bind_eq_bind, Option.bind_eq_some_iff, Option.some.injEq] at hc
      obtain ⟨cs, hcs, rfl⟩ := hc
      exact (g_mkf h hop h0 hcs he).wp hnd hd hK
    · split at hc
      · rename_i h0
        simp only [Option.bind_eq_bind, Option.bind_eq_some_iff, Option.some.injEq] at hc
        obtain ⟨cs, hcs, rfl⟩ := hc
        exact (g_mkb h hop h0 hcs he).wp hnd hd hK
      · cases hc
  case h_20 t l c hop =>
    split at hc
    · rename_i e hu
      simp only [Option.bind_eq_bind, Option.bind_eq_some_iff] at hc
      obtain ⟨i, hi, hc⟩ := hc
      split at hc
      · rename_i h0
        simp only [Option.bind_eq_some_iff, Option.some.injEq] at hc
        obtain ⟨z, hz, l', hl, c', hc', rfl⟩ := hc
        exact (g_mks h hn hop hu hi h0 hz hl hc' he).wp hnd hd hK
      · cases hc
    · cases hc
  case h_21 t y lo hi hop =>
    split at hc
    · rename_i e hu
      simp only [Option.bind_eq_bind, Option.bind_eq_some_iff, Option.some.injEq] at hc
      obtain ⟨i, hi0, y', hy, lo', hlo, hi', hhi, rfl⟩ := hc
      exact (g_slc h hop hu hi0 hy hlo hhi he).wp hnd hd hK
    · rename_i hu
      split at hc
      · cases hc
      · simp only [Option.bind_eq_bind, Option.bind_eq_some_iff, Option.some.injEq] at hc
        obtain ⟨y', hy, l', hl, rfl⟩ := hc
        exact (g_sslc h hop hu hy (.inl ⟨_, _, rfl, rfl, hl, rfl⟩) he).wp hnd hd hK
      · simp only [Option.bind_eq_bind, Option.bind_eq_some_iff, Option.some.injEq] at hc
        obtain ⟨y', hy, l', hl, rfl⟩ := hc
        exact (g_sslc h hop hu hy (.inr (.inl ⟨_, _, rfl, rfl, hl, rfl⟩)) he).wp hnd hd hK
      · simp only [Option.bind_eq_bind, Option.bind_eq_some_iff, Option.some.injEq] at hc
        obtain ⟨y', hy, l', hl, m', hm, rfl⟩ := hc
        exact (g_sslc h hop hu hy (.inr (.inr ⟨_, _, _, _, rfl, rfl, hl, hm, rfl⟩)) he).wp hnd hd hK
    · cases hc
  case h_22 fop args ats hop =>
    simp only [Option.bind_eq_bind, Option.bind_eq_some_iff] at hc
    obtain ⟨xs, hxs, hc⟩ := hc
    have hr := h.opds hxs
    have ha : args.map a.eval = (args.toList.map a.eval).toArray := by rw [← Array.toList_map, Array.toArray_toList]
    split at hc
    · rename_i f
      injection hc with hc
      subst hc
      simp only [exec] at he
      obtain ⟨hen, hcall⟩ := call_ok hΓ h hn hr he
      exact call_wp (by simp [execOp, hop, resolve, Act.eval, Deferred.ofValue, invoke, ha, run_callFunc hen]) hcall hnd hd hK
    · simp only [Option.bind_eq_some_iff, Option.some.injEq] at hc
      obtain ⟨fv, hfv, rfl⟩ := hc
      have rf := h.opd hfv
      simp only [exec] at he
      split at he
      · rename_i f caps ef
        rw [ef] at rf
        obtain ⟨vs, hv, hrc⟩ := rf.clo_inv
        obtain ⟨hen, hcall⟩ := call_ok hΓ h hn (hr.append hrc) he
        refine call_wp ?_ hcall hnd hd hK
        simp only [execOp, hop, resolve, hv, Deferred.ofValue, Sem.run_bind, Sem.run_pure, Result.andThen_ok, invoke, ha]
        simp [run_callFunc hen]
      · rename_i f caps ef
        rw [ef] at rf
        obtain ⟨vs, hv, hrc⟩ := rf.bnd_inv
        obtain ⟨hen, hcall⟩ := call_ok hΓ h hn (hrc.append hr) he
        refine call_wp ?_ hcall hnd hd hK
        simp only [execOp, hop, resolve, hv, Deferred.ofValue, Sem.run_bind, Sem.run_pure, Result.andThen_ok, invoke, ha]
        simp [run_callFunc hen]
      · cases he
  case h_23 b args ats hop =>
    split at hc
    · rename_i y t hargs hats
      have ha : args = #[y] := by rw [← Array.toArray_toList (xs := args), hargs]
      have hb : ats = #[t] := by rw [← Array.toArray_toList (xs := ats), hats]
      subst ha hb
      split at hc
      · rename_i hu
        simp only [Option.bind_eq_bind, Option.bind_eq_some_iff, Option.some.injEq] at hc
        obtain ⟨y', hy, rfl⟩ := hc
        exact (g_lens h hop hu hy he).wp hnd hd hK
      · rename_i e hu
        simp only [Option.bind_eq_bind, Option.bind_eq_some_iff, Option.some.injEq] at hc
        obtain ⟨y', hy, rfl⟩ := hc
        exact (g_len h hop hu hy he).wp hnd hd hK
      · cases hc
    · rename_i y z t t' hargs hats
      have ha : args = #[y, z] := by rw [← Array.toArray_toList (xs := args), hargs]
      have hb : ats = #[t, t'] := by rw [← Array.toArray_toList (xs := ats), hats]
      subst ha hb
      split at hc
      · rename_i e hu
        simp only [Option.bind_eq_bind, Option.bind_eq_some_iff] at hc
        obtain ⟨i, hi, zv, hzv, hc⟩ := hc
        split at hc
        · rename_i hb
          obtain ⟨rfl, b2, b3⟩ := hb
          simp only [Option.bind_eq_some_iff, Option.some.injEq] at hc
          obtain ⟨y', hy, z', hz, rfl⟩ := hc
          cases hf : zHint hs o with
          | false =>
            rw [hf] at he
            exact (g_app h hn hop hu hi hzv b2 b3 hy hz he).wp hnd hd hK
          | true =>
            rw [hf] at he
            obtain ⟨id, ver, es, g1, rfl, rfl, g2⟩ := app_true he
            exact ((g_app h hn hop hu hi hzv b2 b3 hy hz g1).frz g2).wp hnd hd hK
        · cases hc
      · cases hc
    · rename_i y t hargs hats
      have ha : args = #[y] := by rw [← Array.toArray_toList (xs := args), hargs]
      have hb : ats = #[t] := by rw [← Array.toArray_toList (xs := ats), hats]
      subst ha hb
      split at hc
      · rename_i e hu
        simp only [Option.bind_eq_bind, Option.bind_eq_some_iff, Option.some.injEq] at hc
        obtain ⟨i, hi, z, hz, y', hy, rfl⟩ := hc
        exact (g_clear h hop hu hi hz hy he).wp hnd hd hK
      · cases hc
    · rename_i y z t t' hargs hats
      have ha : args = #[y, z] := by rw [← Array.toArray_toList (xs := args), hargs]
      have hb : ats = #[t, t'] := by rw [← Array.toArray_toList (xs := ats), hats]
      subst ha hb
      split at hc
      · rename_i e hu
        simp only [Option.bind_eq_bind, Option.bind_eq_some_iff] at hc
        obtain ⟨i, hi, hc⟩ := hc
        split at hc
        · rename_i hb
          obtain ⟨rfl, _⟩ := hb
          simp only [Option.bind_eq_some_iff, Option.some.injEq] at hc
          obtain ⟨y', hy, z', hz, rfl⟩ := hc
          exact (g_cpy h hop hu hi hy hz he).wp hnd hd hK
        · cases hc
      · cases hc
    · rename_i y z hargs
      have ha : args = #[y, z] := by rw [← Array.toArray_toList (xs := args), hargs]
      subst ha
      simp only [Option.bind_eq_bind, Option.bind_eq_some_iff, Option.some.injEq] at hc
      obtain ⟨y', hy, z', hz, rfl⟩ := hc
      exact (g_minmax (mx := false) h (by simpa using hop) hy hz he).wp hnd hd hK
    · rename_i y z hargs
      have ha : args = #[y, z] := by rw [← Array.toArray_toList (xs := args), hargs]
      subst ha
      simp only [Option.bind_eq_bind, Option.bind_eq_some_iff, Option.some.injEq] at hc
      obtain ⟨y', hy, z', hz, rfl⟩ := hc
      exact (g_minmax (mx := true) h (by simpa using hop) hy hz he).wp hnd hd hK
    · cases hc
  case h_24 t y i hop =>
    split at hc
    · rename_i fs hu
      split at hc
      · rename_i f hf
        simp only [Option.bind_eq_bind, Option.bind_eq_some_iff, Option.some.injEq] at hc
        obtain ⟨n, hn, y', hy, rfl⟩ := hc
        exact (g_fld h hop hu hf hn hy he).wp hnd hd hK
      · cases hc
    · cases hc
  case h_25 t y hop =>
    split at hc
    · rename_i ht
      simp only [Option.bind_eq_bind, Option.bind_eq_some_iff, Option.some.injEq] at hc
      obtain ⟨y', hy, rfl⟩ := hc
      exact (g_mki h hop ht hy he).wp hnd hd hK
    · cases hc
  case h_26 y t0 t hop =>
    split at hc
    · cases hc
    · rename_i u i hni hu hi
      simp only [Option.bind_eq_bind, Option.bind_eq_some_iff, Option.some.injEq] at hc
      obtain ⟨zv, hz, zp, hzp, y', hy, rfl⟩ := hc
      exact (g_tas h hop hu (fun ms e => by subst e; exact hni _ rfl) hi hz hzp hy he).wp hnd hd hK
    · cases hc
  case h_27 t y hop =>
    simp only [Option.bind_eq_bind, Option.bind_eq_some_iff, Option.some.injEq] at hc
    obtain ⟨y', hy, rfl⟩ := hc
    exact (g_neg h hop hy he).wp hnd hd hK
  case h_28 => cases hc
end
end Go.TQ
