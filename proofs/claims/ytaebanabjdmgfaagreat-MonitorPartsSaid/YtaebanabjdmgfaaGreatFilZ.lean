/-
  The monitor's files: the loop, the function against a plain one. Conditions: none.
-/
import Derived.Test.YtaebanabjdmgfaaGreatFilT
set_option linter.unusedVariables false
set_option linter.unusedSimpArgs false
namespace Go.Proofs.YtaebanabjdmgfaaGreat
open Go.RowKit Go.TQ
namespace fil26
theorem loop {V : (TEnvelope × Unit) → Option Bool} (hV : KFun.Sound Tryz.prog (U := U) (.fn 60 [.ty (Ty.st .Envelope)] (.one Ty.bool) V)) {w0 : World} {X : Nat → Prop} (hX : ∀ b, X b → b < w0.heap.size) {lv : Value} {l : List TSighting} (hlv : Rep w0 X Gh0 (.sl (l.map pv_TSighting)) lv)
    {G : List (TPlace × List TEnvelope)} {ps : List TPlace} {q : List (TPlace × List TEnvelope) × List TPlace} (hq : filL 176 16 (fun e => V (e, ())) l G ps = some q) (hlen : l.length ≤ maxLen) {a : Act} {w : World} (hJ : J w0 X lv l.length G ps 0 a w) {Q : Exit → Act → World → Prop} (hQ : ∀ a' w', J w0 X lv l.length q.1 q.2 l.length a' w' → Q (.exit 0) a' w') :
    (Code.loop cL).wpIn (WF none) 0 Tryz.prog Q a w := by
  refine wpIn_loop_ghost (fun m a w => ∃ j G ps, m + j = l.length ∧ filL 176 16 (fun e => V (e, ())) (l.drop j) G ps = some q ∧ J w0 X lv l.length G ps j a w) l.length ⟨0, G, ps, rfl, hq, hJ⟩ ?_
  clear hJ hq
  rintro m a w ⟨j, G, ps, hm, hq, hJ⟩
  rw [hL]
  refine wpIn_seq ?_
  rw [hR4]
  refine wpIn_region_list (wpR_sound _ r4 _ _ i4 ⟨_, _, runs_lss hJ.t13 hJ.t12, ?_⟩)
  have hsz := hJ.sz
  have hJ1 : J w0 X lv l.length G ps j (a.put (some 14) (.bool (decide ((j : Int) < (l.length : Int))))) w := hJ.step (by simp [sz_put, hsz]) (by simp [df_put, hJ.df]) (fun t ht => by
    have n1 : t ≠ 14 := by
      simp only [kept, Bool.or_eq_true, beq_iff_eq] at ht
      omega
    simp (disch := simp [sz_put, hsz]) [tv_put, n1]) (Fr.refl _ _)
  have h14 : tv (a.put (some 14) (.bool (decide ((j : Int) < (l.length : Int))))) 14 = .bool (decide ((j : Int) < (l.length : Int))) := by simp (disch := simp [sz_put, hsz]) [tv_put]
  show (Code.seq (.cond (.tmp 14) .skip (.exit 0)) (.seq (.block 1 cB) R12)).wpIn (WF none) 0 Tryz.prog _ _ w
  generalize a.put (some 14) (.bool (decide ((j : Int) < (l.length : Int)))) = a1 at hJ1 h14
  refine wpIn_seq (wpIn_cond h14 ?_)
  by_cases hlt : j < l.length
  · have hx : l[j]? = some l[j] := List.getElem?_eq_getElem hlt
    rw [decide_eq_true (by omega : (j : Int) < (l.length : Int)), if_pos rfl]
    refine wpIn_skip ?_
    rw [List.drop_eq_getElem_cons hlt] at hq
    simp only [filL, Option.bind_eq_some_iff] at hq
    obtain ⟨o, ho, q1, hq1, hq2⟩ := hq
    refine wpIn_seq (wpIn_block (round hV hX hlv hJ1 hx ho hq1 fun a' w' hJ' => ?_))
    -- the counter
    have fin : (R12.wpIn (WF none) 0 Tryz.prog (Exit.then (fun a' w' => ∃ n', n' < m ∧ ∃ j G ps, n' + j = l.length ∧ filL 176 16 (fun e => V (e, ())) (l.drop j) G ps = some q ∧ J w0 X lv l.length G ps j a' w') Q) a' w') := by
      rw [hR12]
      have hsz' := hJ'.sz
      refine wpIn_region_list (wpR_sound _ r12 _ _ i12 ⟨_, _, runs_addc hJ'.t13, _, _, runs_mv 58, ?_⟩)
      have hw : IntKind.i64.wrap ((j : Int) + 1) = ((j + 1 : Nat) : Int) := by
        rw [IntKind.wrap_i64]
        simp only [maxLen] at hlen
        omega
      refine ⟨m - 1, by omega, j + 1, q1.1, q1.2, by omega, hq2, ?_⟩
      have kk : ∀ t, t ≠ 13 → t ≠ 58 → tv ((a'.put (some 58) (.int .i64 (IntKind.i64.wrap ((j : Int) + 1)))).put (some 13) (tv (a'.put (some 58) (.int .i64 (IntKind.i64.wrap ((j : Int) + 1)))) 58)) t = tv a' t := fun t h1 h2 => by
        simp (disch := simp [sz_put, hsz']) [tv_put, h1, h2]
      obtain ⟨es, ck, e1, e2, e3, e5⟩ := hJ'.ex
      refine ⟨by simp [sz_put, hsz'], by simp [df_put, hJ'.df], (kk 4 (by decide) (by decide)).trans hJ'.t4, (kk 11 (by decide) (by decide)).trans hJ'.t11, (kk 12 (by decide) (by decide)).trans hJ'.t12, ?_, hJ'.fr, hJ'.sN, es, ck, e1, ?_⟩
      · simp (disch := simp [sz_put, hsz']) [tv_put, hw]
      · have h5 := kk 5 (by decide) (by decide)
        rw [h5]
        exact ⟨e2, e3, e5⟩
    exact ⟨fin, by simp only [Exit.inBlock, if_true]; exact fin⟩
  · rw [decide_eq_false (by omega : ¬ (j : Int) < (l.length : Int)), if_neg (by simp)]
    refine wpIn_exit ?_
    have hj : j = l.length := by
      rcases Nat.lt_trichotomy j l.length with h | h | h
      · exact absurd h hlt
      · exact h
      · omega
    rw [List.drop_eq_nil_of_le (by omega)] at hq
    simp only [filL, Option.some.injEq] at hq
    subst hq
    rw [hj] at hJ1
    exact hQ _ _ hJ1
/-- the map, when all is done -/
theorem map_rep {X : Nat → Prop} {N0 : Nat} {w : World} {es : Array MapEntry} {ck : Nat} {M : Nat → Prop} {G : List (TPlace × List TEnvelope)} (hm : w.heap[N0]? = some (.map es ck)) (h : GE M N0 38 15 kf pv_TEnvelope w G es ck) (hXM : ∀ b, X b → M b) (hX : ∀ b, X b → b < N0) :
    Rep w X Gh0 (valPV (U := U) (Ty.mp (Ty.st .Place) (Ty.sl (Ty.st .Envelope))) G) (.map (some N0)) := by
  show Rep w X Gh0 (.mapv (G.map fun p => PV.agg (pv_TPlace p.1)) (G.map fun p => PV.sl (p.2.map pv_TEnvelope))) _
  have hl : es.size = G.length := by have := h.len; simpa using this
  refine .mapv _ _ N0 es ck hm (fun hx => Nat.lt_irrefl _ (hX _ hx)) (by rw [List.length_map]; exact hl) (by rw [List.length_map]; exact hl) (fun i x e hx he => ?_) (fun i x e hx he => ?_)
  · rw [List.getElem?_map, Option.map_eq_some_iff] at hx
    obtain ⟨g, hg, rfl⟩ := hx
    obtain ⟨h1, _⟩ := h.at_ i e g (by simpa using he) hg
    rw [h1]
    exact .agg _ [.int .i64 g.1.node, .int .i64 g.1.slot] rfl (RepL.cons (.int _ _) (.cons (.int _ _) .nil)).2
  · rw [List.getElem?_map, Option.map_eq_some_iff] at hx
    obtain ⟨g, hg, rfl⟩ := hx
    obtain ⟨_, vs, h2, h3⟩ := h.at_ i e g (by simpa using he) hg
    refine row_sl (es := g.2.map pv_TEnvelope) (by rw [List.length_map]; exact h2) (fun x hx => ?_) (h3.mono (Stays.of fun b hb hx => hb (hXM b hx)) (Gh.le.refl _)) (fun b hb hx => ?_)
    · obtain ⟨e, _, rfl⟩ := List.mem_map.1 hx
      rfl
    · have := (h2.lt b hb).1
      have := hX b hx
      omega
theorem own_blk {w : World} {base e k n : Nat} {v : Value} {xs : List Value} (h : w.ownsRow base e k v n xs) : v.ownBlock = blk v := by
  rcases h.2 with ⟨rfl, _⟩ | ⟨g, cap, cur, rfl, _⟩ <;> rfl
theorem body {V : (TEnvelope × Unit) → Option Bool} (hV : KFun.Sound Tryz.prog (U := U) (.fn 60 [.ty (Ty.st .Envelope)] (.one Ty.bool) V)) {Srt : List TPlace → Option (Unit × List TPlace)} (hS : KFun.Sound Tryz.prog (U := U) (.rw 61 74 2 (Ty.st .Place) [.clo 62 []] (.many []) fun s _ => Srt s))
    {w0 : World} {X : Nat → Prop} (hX : ∀ b, X b → b < w0.heap.size) {lv : Value} {l : List TSighting} (hlv : Rep w0 X Gh0 (.sl (l.map pv_TSighting)) lv) {q : List (TPlace × List TEnvelope) × List TPlace} (hq : filL 176 16 (fun e => V (e, ())) l [] [] = some q) {ps' : List TPlace} {u : Unit} (hs : Srt q.2 = some (u, ps'))
    {a0 : Act} (hsz : a0.tmps.size = 63) (hdf : a0.defers = []) (h0 : tv a0 0 = lv) {Q : Exit → Act → World → Prop}
    (hQ : ∀ a' w', a'.defers = [] → Fr none w0 w' → Rep w' X Gh0 (valPV (U := U) (Ty.mp (Ty.st .Place) (Ty.sl (Ty.st .Envelope))) q.1) (tv a' 2) → Rep w' X Gh0 (.sl (ps'.map pv_TPlace)) (tv a' 3) → Q .ret a' w') : c0.wpIn (WF none) 0 Tryz.prog Q a0 w0 := by
  have hlsl : ∃ ad c, lv = .slice ad l.length c ∧ l.length ≤ maxLen := by
    rcases hlv.sl_inv with ⟨h, h0⟩ | ⟨ad, c, k, us, h, _, _, _, h5, h6⟩
    · have : l = [] := by simpa using h0
      subst this
      exact ⟨none, 0, h, Nat.zero_le _⟩
    · exact ⟨some ad, c, by simpa using h, by simp at h5; omega⟩
  obtain ⟨ad, cc, hlv2, hlen⟩ := hlsl
  rw [hc0]
  refine wpIn_seq ?_
  rw [hR0]
  refine wpIn_region_list (wpR_sound _ r0 _ _ i0 ⟨_, _, runs_ac _, _, _, runs_ac _, ?_⟩)
  refine wpIn_seq ?_
  rw [hR1]
  refine wpIn_region_list (wpR_sound _ r1 _ _ i1 ⟨_, _, runs_makeMap _, _, _, runs_as 10, ?_⟩)
  refine wpIn_seq ?_
  rw [hR2]
  refine wpIn_region_list (wpR_sound _ r2 _ _ i2 ⟨_, _, runs_ac _, ?_⟩)
  refine wpIn_seq (wpIn_seq ?_)
  rw [hR3]
  refine wpIn_region_list (wpR_sound _ r3 _ _ i3 ⟨_, _, runs_mv 0, _, _, runs_len (e := 57) (n := l.length) (ad := ad) (c := cc) ulT ?_, _, _, runs_mc _, ?_⟩)
  · simp (disch := simp [sz_put, hsz]) [tv_put, h0, hlv2]
  have hg1 := World.grownBy_alloc w0 (.map #[] 0) none
  refine wpIn_block (loop hV hX hlv hq hlen ?_ ?_)
  · have t5 : ∀ {a : Act}, tv a 5 = .slice none 0 0 → ∃ es ck, (w0.alloc (.map #[] 0)).heap[w0.heap.size]? = some (.map es ck) ∧ GE (MS X w0.heap.size es (tv a 5)) w0.heap.size 38 15 kf pv_TEnvelope (w0.alloc (.map #[] 0)) ([] : List (TPlace × List TEnvelope)) es ck ∧
        (∃ vs, (w0.alloc (.map #[] 0)).ownsRow (w0.heap.size + 1) 74 2 (tv a 5) ([] : List TPlace).length vs ∧ RepL (w0.alloc (.map #[] 0)) (MS X w0.heap.size es (tv a 5)) Gh0 (([] : List TPlace).map pv_TPlace).flatten vs) ∧ ∀ e ∈ es.toList, ∀ b, e.val.ownBlock = some b → (tv a 5).ownBlock ≠ some b := fun {a} h5 => by
      refine ⟨#[], 0, heap_alloc_new w0 _, ⟨rfl, ⟨by simp, fun e he => by simp at he⟩, fun i e g he => by simp at he, fun i i' e e' b he => by simp at he⟩, ⟨[], by rw [h5]; exact World.ownsRow_nil _ _ _ _, .nil⟩, fun e he => by simp at he⟩
    refine ⟨by simp [sz_put, hsz], by simp [df_put, hdf], ?_, ?_, ?_, ?_, ⟨hg1.os, hg1.tape, hg1.output, hg1.size, fun b hb _ => hg1.block b hb (by simp)⟩, by simp, t5 ?_⟩ <;> simp (disch := simp [sz_put, hsz]) [tv_put, h0]
  · intro a' w' hJ
    show Code.wpIn (WF none) 0 Tryz.prog (.seq R13 (.seq R14 .ret)) Q a' w'
    obtain ⟨es, ck, e1, e2, ⟨vs, e3, e4⟩, e5⟩ := hJ.ex
    obtain ⟨o1, o2, hl, ⟨p1, p2, p3⟩, ⟨p4, p5, p6⟩⟩ := i13
    have hsz' := hJ.sz
    refine wpIn_seq ?_
    rw [hR13]
    refine wpIn_region_list ?_
    rw [hl]
    refine wpList_run (v := tv a' 5) (w' := w') p1 p2 p3 (fun c h => by cases h) (runs_mv 5) ?_
    have hen := hS.1
    have hbo := own_blk e3
    have h59 : (a'.put (some 59) (tv a' 5)).tmps.getD 59 undef = tv a' 5 := by
      have : tv (a'.put (some 59) (tv a' 5)) 59 = tv a' 5 := by simp (disch := simp [sz_put, hsz']) [tv_put]
      exact this
    have hXb : ∀ b, (X b ∨ b = w0.heap.size ∨ ∃ e ∈ es.toList, e.val.ownBlock = some b) → b < w'.heap.size := by
      rintro b (h | h | ⟨e, he, h⟩)
      · exact Nat.lt_trans (hX b h) hJ.sN
      · rw [h]; exact hJ.sN
      · exact (e2.blocks e he b h).2
    have hMS : ∀ b, Mv (tv a' 5) (fun b => X b ∨ b = w0.heap.size ∨ ∃ e ∈ es.toList, e.val.ownBlock = some b) b ↔ MS X w0.heap.size es (tv a' 5) b := fun b => by
      unfold Mv MS
      rw [hbo]
      constructor
      · rintro (h | h | h | h)
        · exact .inr (.inr (.inr h))
        · exact .inl h
        · exact .inr (.inl h)
        · exact .inr (.inr (.inl h))
      · rintro (h | h | h | h)
        · exact .inr (.inl h)
        · exact .inr (.inr (.inl h))
        · exact .inr (.inr (.inr h))
        · exact .inl h
    have hst : Stays w' w' (MS X w0.heap.size es (tv a' 5)) (Mv (tv a' 5) (fun b => X b ∨ b = w0.heap.size ∨ ∃ e ∈ es.toList, e.val.ownBlock = some b)) := Stays.of fun b hb h => hb ((hMS b).1 h)
    have hcall := hS.2 q.2 ((), ()) u ps' hs w' (fun b => X b ∨ b = w0.heap.size ∨ ∃ e ∈ es.toList, e.val.ownBlock = some b) hXb (tv a' 5) [.func (.func 62) #[] #[]] (fun b hb h => by
      rw [← hbo] at hb
      rcases h with h | h | ⟨e, he, h⟩
      · have := (e3.lt b hb).1; have := hX b h; omega
      · have := (e3.lt b hb).1; omega
      · exact e5 e he b h hb) ⟨vs, by show w'.ownsRow 0 74 2 (tv a' 5) (q.2.map pv_TPlace).length vs; rw [List.length_map]; exact ⟨e3.1, e3.2.imp id fun ⟨g, cap, cur, g1, g2, g3⟩ => ⟨g, cap, cur, g1, Nat.zero_le _, g3⟩⟩, fun x hx => by
        obtain ⟨p, _, rfl⟩ := List.mem_map.1 hx
        rfl, e4.mono hst (Gh.le.refl _)⟩ (RepL.cons (.clo 62 [] [] rfl (fun i x v hx _ => by simp at hx)) .nil)
    refine wpList_call (f := 61) (args := #[tv a' 5, .func (.func 62) #[] #[]]) p6 (fun c h => by rw [p5] at h; cases h) ?_ hcall ?_
    · simp only [execOp, p5, resolve, Act.eval, Deferred.ofValue, invoke, Sem.run_bind, Sem.run_pure, Result.andThen_ok]
      simp only [List.map_toArray, List.map_cons, List.map_nil, h59]
      simp [run_callFunc hen]
      exact ⟨h59, rfl⟩
    · rintro en w2 ⟨u2, rfl, _, ⟨vs2, g1, g2, g3⟩, hfr⟩
      refine ⟨u2, rfl, ?_⟩
      show Code.wpIn (WF none) 0 Tryz.prog (.seq R14 .ret) Q _ w2
      have k4 : tv ((a'.put (some 59) (tv a' 5)).put (some 60) u2) 4 = tv a' 4 := by simp (disch := simp [sz_put, hsz']) [tv_put]
      have k5 : tv ((a'.put (some 59) (tv a' 5)).put (some 60) u2) 5 = tv a' 5 := by simp (disch := simp [sz_put, hsz']) [tv_put]
      rw [p4]
      refine wpIn_seq ?_
      rw [hR14]
      refine wpIn_region_list (wpR_sound _ r14 _ _ i14 ⟨_, _, runs_mv 4, _, _, runs_mv 5, _, _, runs_as 61, _, _, runs_as 62, ?_⟩)
      show Code.wpIn (WF none) 0 Tryz.prog .ret Q _ w2
      have hg : w'.grownBy w2 (tv a' 5).ownBlock := ⟨hfr.os, hfr.tape, hfr.output, hfr.size, fun b hb hne => hfr.block b hb (fun h => hne (by rw [hbo, h]))⟩
      have plt : ∀ b, (tv a' 5).ownBlock = some b → w0.heap.size + 1 ≤ b := fun b hb => (e3.lt b hb).1
      have hm2 : w2.heap[w0.heap.size]? = some (.map es ck) := (hg.block _ hJ.sN (fun e => by have := plt _ e.symm; omega)).trans e1
      have e2' : GE (MS X w0.heap.size es (tv a' 5)) w0.heap.size 38 15 kf pv_TEnvelope w2 q.1 es ck := e2.mono hg (stays_grown hg (fun b hb => .inr (.inr (.inr hb))) fun b _ hb => hb) fun e he => by
        cases hu : e.val.ownBlock with
        | none => exact .inl rfl
        | some b => exact .inr fun h => e5 e he b hu h.symm
      refine wpIn_ret (hQ _ _ ?_ ?_ ?_ ?_)
      · simp [df_put, hJ.df]
      · exact ⟨hfr.os.trans hJ.fr.os, hfr.tape.trans hJ.fr.tape, hfr.output.trans hJ.fr.output, Nat.le_trans hJ.fr.size hfr.size, fun b hb _ => (hg.block b (Nat.lt_trans hb hJ.sN) (fun e => by have := plt _ e.symm; omega)).trans (hJ.fr.block b hb (by simp))⟩
      · simp (disch := simp [sz_put, hsz']) [tv_put]
        rw [hJ.t4]
        exact map_rep hm2 e2' (fun b hb => .inl hb) hX
      · simp (disch := simp [sz_put, hsz']) [tv_put]
        refine row_sl (base := 0) (e := 74) (k := 2) g1 g2 (g3.mono (Stays.of fun b hb h => hb (.inr (.inl h))) (Gh.le.refl _)) fun b hb h => ?_
        have := plt b hb
        have := hX b h
        omega
theorem con {V : (TEnvelope × Unit) → Option Bool} (hV : KFun.Sound Tryz.prog (U := U) (.fn 60 [.ty (Ty.st .Envelope)] (.one Ty.bool) V)) {Srt : List TPlace → Option (Unit × List TPlace)} (hS : KFun.Sound Tryz.prog (U := U) (.rw 61 74 2 (Ty.st .Place) [.clo 62 []] (.many []) fun s _ => Srt s))
    {l : List TSighting} {r : List (TPlace × List TEnvelope) × List TPlace × Unit} (hr : filesF 176 16 (fun e => V (e, ())) Srt l = some r) :
    Con Tryz.prog 26 false [] [.sl (l.map pv_TSighting)] (.tup [valPV (U := U) (Ty.mp (Ty.st .Place) (Ty.sl (Ty.st .Envelope))) r.1, .sl (r.2.1.map pv_TPlace)]) [] := by
  intro w0 X hX rb T rvs vs _ hargs
  obtain ⟨lv, vs', rfl, hlv, hnil⟩ := hargs.cons_inv
  have := hnil.nil_inv
  subst this
  have hMc : ∀ b, Mc false rb X b ↔ X b := fun b => ⟨fun h => by rcases h with ⟨h, _⟩ | h; cases h; exact h, fun h => .inr h⟩
  have hlv' : Rep w0 X Gh0 (.sl (l.map pv_TSighting)) lv := hlv.mono (Stays.of fun b hb h => hb ((hMc b).2 h)) (Gh.le.refl _)
  unfold filesF at hr
  rw [Option.bind_eq_some_iff] at hr
  obtain ⟨q, hq, hr2⟩ := hr
  rw [Option.bind_eq_some_iff] at hr2
  obtain ⟨⟨u, ps'⟩, hs, he⟩ := hr2
  injection he with he
  subst he
  have hnt : Tryz.f26.ntmps = 63 := by kernel_rfl
  have hres : Tryz.f26.results = #[.tmp 2, .tmp 3] := by kernel_rfl
  refine callsIn_wf.1 (callsIn_of_wp_marks (F := WF none) (n := 0) (show Tryz.prog.funcs[26]? = some Tryz.f26 from Tryz.func26) hbody trivial (body hV hS hX hlv' hq hs ?_ rfl ?_ ?_))
  · simp [insAt, recvL, hnt]
  · simp [tv, insAt, recvL, Array.getD_eq_getD_getElem?]
  · intro a' w' hd hfr h2 h3
    show LeavesInM (WF none) 0 Tryz.prog Tryz.f26 a'.tmps _ a'.defers .returning w'
    rw [hd]
    refine ⟨.tuple #[tv a' 2, tv a' 3], ?_, ?_⟩
    · simp [results, hres, tv]
    · refine ⟨_, [], rfl, ?_, (fun h => by cases h), hfr⟩
      have hst : Stays w' w' X (Mc false rb X) := Stays.of fun b hb h => hb ((hMc b).1 h)
      have := RepL.cons (h2.mono hst (Gh.le.refl _)) (.cons (h3.mono hst (Gh.le.refl _)) .nil)
      exact .tup _ _ this.1 this.2
/-- the function -/
theorem sound {V : (TEnvelope × Unit) → Option Bool} (hV : KFun.Sound Tryz.prog (U := U) (.fn 60 [.ty (Ty.st .Envelope)] (.one Ty.bool) V)) {Srt : List TPlace → Option (Unit × List TPlace)} (hS : KFun.Sound Tryz.prog (U := U) (.rw 61 74 2 (Ty.st .Place) [.clo 62 []] (.many []) fun s _ => Srt s)) :
    KFun.Sound Tryz.prog (U := U) (.fn 26 [.ty (Ty.sl (Ty.st .Sighting))] (.many [Ty.mp (Ty.st .Place) (Ty.sl (Ty.st .Envelope)), Ty.sl (Ty.st .Place)]) fun a => filesF 176 16 (fun e => V (e, ())) Srt a.1) := by
  exact ⟨⟨Tryz.f26, Tryz.func26, by kernel_rfl, by kernel_rfl⟩, fun a r hr => con hV hS hr⟩
end fil26
end Go.Proofs.YtaebanabjdmgfaaGreat
