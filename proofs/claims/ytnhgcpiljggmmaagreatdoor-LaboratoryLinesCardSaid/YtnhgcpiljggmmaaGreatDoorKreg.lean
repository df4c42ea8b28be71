/-
  Regions over typed data. Conditions: none (generic in the program).
-/
import Derived.Test.YtnhgcpiljggmmaaGreatDoorKex
import Derived.Test.YtnhgcpiljggmmaaGreatDoorOwn
namespace Go.TQ
open Go.RowKit

section
variable {P : Program} {E : En} {S : St} {a : Act} {w : World} {L : Nat → Value}

/-- a row is cut to its first elements -/
theorem Rel.cutv (h : Rel E S a w L) {id ver k n e0 k' : Nat} {es : List (List PV)} {v : Value} (r : Rep w (mutb E S L) (S.gh L) (.view id ver k 0 n) v) (hver : (S.H id).ver = ver) (hc : (S.H id).c = .row e0 k' es) :
    Rel E { S with H := upd S.H id ⟨ver + 1, .row e0 k' (es.take n)⟩ } a w (upd L id v) ∧ Rep w (mutb E { S with H := upd S.H id ⟨ver + 1, .row e0 k' (es.take n)⟩ } (upd L id v)) (St.gh { S with H := upd S.H id ⟨ver + 1, .row e0 k' (es.take n)⟩ } (upd L id v)) (.own id (ver + 1)) v := by
  obtain ⟨hN, ad, c, hv, hat⟩ := r.view_inv (show (S.gh L).V id = ver from hver)
  have hle := h.view_le hN hc hat
  obtain ⟨a0, m0, c0, hl, q1, q2, q3, q4⟩ := hat
  have hl : L id = .slice a0 m0 c0 := hl
  have hlive : (S.H id).c.live = true := by rw [hc]; rfl
  obtain ⟨vs, hown, hk, hr⟩ := h.row_at hN hc
  have had : ad = a0 := by
    rcases q4 with q4 | q4
    · exact absurd rfl q4.2.1
    · rw [q4]; cases a0 <;> simp [Addr.add]
  have hc0 : c = c0 := by omega
  subst had hc0
  have hbv : blk v = blk (L id) := by rw [hv, hl]; cases ad <;> rfl
  have hlen : (es.take n).length = n := by simp; omega
  have hnew : w.ownsRow (rowBase E v) e0 k' v (es.take n).length (vs.take (n * k')) := by
    rw [rowBase_congr hbv, hlen]
    have hvl : vs.length = es.length * k' := hown.1
    have hnk : n * k' ≤ es.length * k' := Nat.mul_le_mul_right _ (by omega)
    refine ⟨by rw [List.length_take, hvl]; omega, ?_⟩
    rcases hown.2 with ⟨hL, h0⟩ | ⟨g, cap, cur, hL, hb1, hh, hnc, hcm, hcs, htake⟩
    · left
      rw [hl] at hL
      injection hL with e1 e2 e3
      subst e1 e2 e3
      have hn0 : n = 0 := by omega
      subst hn0
      exact ⟨hv, rfl⟩
    · right
      rw [hl] at hL
      injection hL with e1 e2 e3
      subst e1 e2 e3
      refine ⟨g, c, cur, hv, hb1, hh, by omega, hcm, hcs, ?_⟩
      rw [← htake, List.take_take, Nat.min_eq_left hnk]
  obtain ⟨h1, hs, hg⟩ := h.turn (w' := w) hN ⟨ver + 1, .row e0 k' (es.take n)⟩ v (.inr (by show (S.H id).ver < ver + 1; omega)) rfl rfl rfl (Nat.le_refl _) (fun _ _ _ => rfl)
    (fun b _ hb => .inl ⟨hlive, by rw [← hbv]; exact hb⟩)
    (fun hs hg => ⟨_, hnew, fun u hu => hk u (List.mem_of_mem_take hu), by rw [flatten_take k' n es hk]; exact (hr.take _).mono hs hg⟩)
  refine ⟨h1, ?_⟩
  subst hv
  exact .own _ _ _ _ _ hN (by simp [St.gh]) (fun _ => by simp [St.gh])
/-- the cells of a box, seen otherwise -/
theorem Rel.rebox (h : Rel E S a w L) {id : Nat} {cs cs' : List PV} (hid : id < S.N) (hc : (S.H id).c = .box cs) (hr : ∀ vs, RepL w (mutb E S L) (S.gh L) cs vs → RepL w (mutb E S L) (S.gh L) cs' vs) :
    Rel E { S with H := upd S.H id ⟨(S.H id).ver, .box cs'⟩ } a w L := by
  have := (h.turn (w' := w) hid ⟨(S.H id).ver, .box cs'⟩ (L id) (.inl ⟨rfl, rfl, by rw [hc]; rfl⟩) rfl rfl rfl (Nat.le_refl _) (fun _ _ _ => rfl) (fun b _ hb => .inl ⟨by rw [hc]; rfl, hb⟩) (fun hs hg => by
    obtain ⟨b, cur, T, h1, h2, h3, h4⟩ := h.box_at hid hc
    exact ⟨b, cur, T, h1, h2, h4, (hr _ h3).mono hs hg⟩)).1
  rwa [upd_self] at this
theorem RepL.set {M : Nat → Prop} {G : Gh} {cs : List PV} {vs : List Value} (h : RepL w M G cs vs) (i : Nat) (y : PV) (hy : ∀ v, vs[i]? = some v → Rep w M G y v) : RepL w M G (cs.set i y) vs := by
  refine ⟨by rw [List.length_set]; exact h.1, fun j x v hx hv => ?_⟩
  rw [List.getElem?_set] at hx
  split at hx
  · rename_i hij
    subst hij
    split at hx
    · injection hx with hx; subst hx; exact hy v hv
    · cases hx
  · exact h.2 j x v hx hv

/-- less is known of the temporaries -/
theorem Rel.weakEnv (h : Rel E S a w L) {S' : St} (hH : S'.H = S.H) (hN : S'.N = S.N) (he : ∀ t, S'.env t = S.env t ∨ S'.env t = .any) : Rel E S' a w L := by
  obtain ⟨env, H, N⟩ := S
  obtain ⟨env', H', N'⟩ := S'
  simp only at hH hN he
  subst hH hN
  refine ⟨h.defers, h.size, fun t => ?_, h.obj, h.apart, h.fresh, h.fr, h.rcv⟩
  rcases he t with e | e
  · show Rep _ _ _ (env' t) _; rw [e]; exact h.env t
  · show Rep _ _ _ (env' t) _; rw [e]; exact .any _
end

section
variable {U : TU}
inductive Ps (U : TU) where
  | own (t e k : Nat) (T : U.Ty)
  | frz (t : Nat)
  | ownB (t off e k : Nat) (T : U.Ty)
  | frzB (t off : Nat)
  | cut (t : Nat)
def Ps.run (S : KSt U) : Ps U → Option (KSt U)
  | .own t e k T => (match S.env t with
    | .nils => some { env := updK S.env t (.own S.N 1), H := updK S.H S.N ⟨1, .row e k T []⟩, N := S.N + 1 }
    | _ => none)
  | .frz t => (match S.env t with
    | .own id ver => (match S.row? id ver with
      | some r => some { env := updK S.env t (.sl r.T r.xs), H := updK S.H id ⟨ver, .dead⟩, N := S.N }
      | none => none)
    | _ => none)
  | .ownB t off e k T => (match S.env t with
    | .ptr id ver _ => (match S.box? id ver with
      | some cs => (match cs[off]? with
        | some .nils => some { env := S.env, H := updK (updK S.H S.N ⟨1, .row e k T []⟩) id ⟨ver, .box (cs.set off (.own S.N 1))⟩, N := S.N + 1 }
        | _ => none)
      | none => none)
    | _ => none)
  | .frzB t off => (match S.env t with
    | .ptr id ver _ => (match S.box? id ver with
      | some cs => (match cs[off]? with
        | some (.own i v) => (match S.row? i v with
          | some r => some { env := S.env, H := updK (updK S.H i ⟨v, .dead⟩) id ⟨ver, .box (cs.set off (.sl r.T r.xs))⟩, N := S.N }
          | none => none)
        | _ => none)
      | none => none)
    | _ => none)
  | .cut t => (match S.env t with
    | .view id ver _ lo n => (match S.row? id ver with
      | some r => (match Nat.beq lo 0 with
        | true => some { env := updK S.env t (.own id (ver + 1)), H := updK S.H id ⟨ver + 1, .row r.e r.k r.T (r.xs.take n)⟩, N := S.N }
        | false => none)
      | none => none)
    | _ => none)
/-- what it touches: temporaries, objects -/
def Ps.tmps : Ps U → List Nat
  | .own t _ _ _ | .frz t | .cut t => [t]
  | .ownB _ _ _ _ _ | .frzB _ _ => []
def Ps.objs (S : KSt U) : Ps U → List Nat
  | .own _ _ _ _ => [S.N]
  | .frz t => (match S.env t with | .own id _ => [id] | _ => [])
  | .cut t => (match S.env t with | .view id _ _ _ _ => [id] | _ => [])
  | .ownB t _ _ _ _ => S.N :: (match S.env t with | .ptr id _ _ => [id] | _ => [])
  | .frzB t off => (match S.env t with
    | .ptr id ver _ => id :: (match S.box? id ver with
      | some cs => (match cs[off]? with | some (.own i _) => [i] | _ => [])
      | none => [])
    | _ => [])

theorem Ps.sound (K : TK U) {S S' : KSt U} {p : Ps U} (hp : p.run S = some S') {E : En} {a : Act} {w : World} {L : Nat → Value} (h : Rel E S.st a w L) : ∃ L', Rel E S'.st a w L' := by
  cases p with
  | own t e k T =>
    simp only [Ps.run] at hp
    split at hp
    · rename_i ht
      injection hp with hp
      subst hp
      have h0 := h.room 1
      have hf : (S.st.H S.N) = ⟨0, .dead⟩ := h.fresh S.N (Nat.le_refl _)
      have hid : S.N < ({ S.st with N := S.st.N + 1 } : St).N := Nat.lt_succ_self S.N
      have h1 := h0.row0 hid e k
      refine ⟨upd L S.N (.slice none 0 0), ?_⟩
      have heq : (KSt.st { env := updK S.env t (.own S.N 1), H := updK S.H S.N ⟨1, .row e k T []⟩, N := S.N + 1 } : St) = { env := upd S.st.env t (.own S.N 1), H := upd S.st.H S.N ⟨(S.st.H S.N).ver + 1, .row e k []⟩, N := S.st.N + 1 } := by
        rw [hf]
        unfold KSt.st
        congr 1
        · simp only [updK_upd]; exact upd_map _ _ _ _
        · simp only [updK_upd]; exact upd_map _ _ _ _
      rw [heq]
      refine ⟨h1.defers, h1.size, fun j => ?_, h1.obj, h1.apart, h1.fresh, h1.fr, h1.rcv⟩
      show Rep w _ _ (upd S.st.env t _ j) _
      by_cases hj : j = t
      · subst hj
        have h2 := h.env j
        have h3 : S.st.env j = .nils := by simp only [KSt.st, ht, KV.pv]
        rw [h3] at h2
        rw [upd_same]
        have := own0 (L := L) (S := { S.st with N := S.st.N + 1 }) hid e k (w := w) (M := mutb E { env := S.st.env, H := upd S.st.H S.N ⟨(S.st.H S.N).ver + 1, .row e k []⟩, N := S.st.N + 1 } (upd L S.N (.slice none 0 0))) h2.nils_inv
        have hv : (S.st.H S.N).ver + 1 = 1 := by rw [hf]
        simp only [hv] at this ⊢
        exact this
      · rw [upd_ne _ _ hj]
        exact h1.env j
    · cases hp
  | frz t =>
    simp only [Ps.run] at hp
    split at hp
    · rename_i id ver ht
      split at hp
      · rename_i r hr
        injection hp with hp
        subst hp
        obtain ⟨hv, hc⟩ := row_st hr
        have h2 := h.env t
        have h3 : S.st.env t = .own id (S.st.H id).ver := by rw [hv]; simp only [KSt.st, ht, KV.pv]
        rw [h3] at h2
        obtain ⟨h4, h5⟩ := h.frz h2 hc (fun u hu => by
          obtain ⟨x, _, rfl⟩ := List.mem_map.1 hu
          exact List.all_eq_true.2 fun y hy => good_closed (K.good _ _ _ hy))
        rw [hv] at h4 h5
        refine ⟨L, ?_⟩
        have heq : (KSt.st { env := updK S.env t (.sl r.T r.xs), H := updK S.H id ⟨ver, .dead⟩, N := S.N } : St) = { env := upd S.st.env t (.sl (r.xs.map (U.pv r.T))), H := upd S.st.H id ⟨ver, .dead⟩, N := S.st.N } := by
          unfold KSt.st
          congr 1
          · simp only [updK_upd]; exact upd_map _ _ _ _
          · simp only [updK_upd]; exact upd_map _ _ _ _
        rw [heq]
        refine ⟨h4.defers, h4.size, fun j => ?_, h4.obj, h4.apart, h4.fresh, h4.fr, h4.rcv⟩
        show Rep w _ _ (upd S.st.env t _ j) _
        by_cases hj : j = t
        · subst hj; rw [upd_same]; exact h5
        · rw [upd_ne _ _ hj]; exact h4.env j
      · cases hp
    · cases hp

  | cut t =>
    simp only [Ps.run] at hp
    split at hp
    · rename_i id ver k lo n ht
      split at hp
      · rename_i r hr
        split at hp
        · rename_i hlo
          injection hp with hp
          subst hp
          have hlo := Nat.eq_of_beq_eq_true hlo
          subst hlo
          obtain ⟨hv, hc⟩ := row_st hr
          have h2 := h.env t
          have h3 : S.st.env t = .view id ver k 0 n := by simp only [KSt.st, ht, KV.pv]
          rw [h3] at h2
          obtain ⟨h4, h5⟩ := h.cutv h2 hv hc
          refine ⟨upd L id (a.tmps.getD t undef), ?_⟩
          have heq : (KSt.st { env := updK S.env t (.own id (ver + 1)), H := updK S.H id ⟨ver + 1, .row r.e r.k r.T (r.xs.take n)⟩, N := S.N } : St) = { env := upd S.st.env t (.own id (ver + 1)), H := upd S.st.H id ⟨ver + 1, .row r.e r.k ((r.xs.map (U.pv r.T)).take n)⟩, N := S.st.N } := by
            unfold KSt.st
            congr 1
            · simp only [updK_upd]; exact upd_map _ _ _ _
            · simp only [updK_upd]; rw [← List.map_take]; exact upd_map _ _ _ _
          rw [heq]
          refine ⟨h4.defers, h4.size, fun j => ?_, h4.obj, h4.apart, h4.fresh, h4.fr, h4.rcv⟩
          show Rep w _ _ (upd S.st.env t _ j) _
          by_cases hj : j = t
          · subst hj; rw [upd_same]; exact h5
          · rw [upd_ne _ _ hj]; exact h4.env j
        · cases hp
      · cases hp
    · cases hp
  | ownB t off e k T =>
    simp only [Ps.run] at hp
    split at hp
    · rename_i id ver o ht
      split at hp
      · rename_i cs hb
        split at hp
        · rename_i hcell
          injection hp with hp
          subst hp
          obtain ⟨hv, hc⟩ := box_st hb
          have h3 : S.st.env t = .ptr id ver o := by simp only [KSt.st, ht, KV.pv]
          have hlt : id < S.N := by
            have h2 := h.env t
            rw [h3] at h2
            exact (h2.ptr_inv (show (S.st.gh L).V id = ver from hv)).1
          have h0 := h.room 1
          have hf : (S.st.H S.N) = ⟨0, .dead⟩ := h.fresh S.N (Nat.le_refl _)
          have hid : S.N < ({ S.st with N := S.st.N + 1 } : St).N := Nat.lt_succ_self S.N
          have h1 := h0.row0 hid e k
          have hne : id ≠ S.N := Nat.ne_of_lt hlt
          have h2 := h1.rebox (id := id) (cs := cs.map KV.pv) (cs' := (cs.map KV.pv).set off (.own S.N ((S.st.H S.N).ver + 1))) (Nat.lt_succ_of_lt hlt) (by show (upd S.st.H S.N _ id).c = _; rw [upd_ne _ _ hne]; exact hc)
            (fun vs hr => hr.set _ _ fun v hvv => by
              have hn : (cs.map KV.pv)[off]? = some .nils := by rw [List.getElem?_map, hcell]; rfl
              exact own0 (L := L) (S := { S.st with N := S.st.N + 1 }) hid e k (hr.2 off .nils v hn hvv).nils_inv)
          refine ⟨upd L S.N (.slice none 0 0), ?_⟩
          have heq : (KSt.st { env := S.env, H := updK (updK S.H S.N ⟨1, .row e k T []⟩) id ⟨ver, .box (cs.set off (.own S.N 1))⟩, N := S.N + 1 } : St)
              = { env := S.st.env, H := upd (upd S.st.H S.N ⟨(S.st.H S.N).ver + 1, .row e k []⟩) id ⟨(upd S.st.H S.N ⟨(S.st.H S.N).ver + 1, .row e k []⟩ id).ver, .box ((cs.map KV.pv).set off (.own S.N ((S.st.H S.N).ver + 1)))⟩, N := S.st.N + 1 } := by
            rw [upd_ne _ _ hne, hv, hf]
            unfold KSt.st
            congr 1
            simp only [updK_upd]
            rw [upd_map, upd_map]
            simp only [KObj.pv, KCont.pv, List.map_set, KV.pv, List.map_nil]
          rw [heq]
          exact h2
        · cases hp
      · cases hp
    · cases hp
  | frzB t off =>
    simp only [Ps.run] at hp
    split at hp
    · rename_i id ver o ht
      split at hp
      · rename_i cs hb
        split at hp
        · rename_i i v hcell
          split at hp
          · rename_i r hr
            injection hp with hp
            subst hp
            obtain ⟨hv, hc⟩ := box_st hb
            obtain ⟨hv2, hc2⟩ := row_st hr
            have h3 : S.st.env t = .ptr id ver o := by simp only [KSt.st, ht, KV.pv]
            have hlt : id < S.N := by
              have h2 := h.env t
              rw [h3] at h2
              exact (h2.ptr_inv (show (S.st.gh L).V id = ver from hv)).1
            have hcell' : (cs.map KV.pv)[off]? = some (.own i v) := by rw [List.getElem?_map, hcell]; rfl
            have hili : i < S.N := by
              obtain ⟨b, cur, T, h5, h6, h7, h8⟩ := h.box_at hlt hc
              obtain ⟨u, hu, hru⟩ := h7.get hcell'
              exact (hru.own_inv (show (S.st.gh L).V i = v from hv2)).1
            have hne : id ≠ i := by
              intro e
              subst e
              rw [hc] at hc2
              cases hc2
            obtain ⟨h4, h5⟩ := h.frz2 hili hc2 (fun u hu => by
              obtain ⟨x, _, rfl⟩ := List.mem_map.1 hu
              exact List.all_eq_true.2 fun y hy => good_closed (K.good _ _ _ hy))
            have h6 := h4.rebox (id := id) (cs := cs.map KV.pv) (cs' := (cs.map KV.pv).set off (.sl (r.xs.map (U.pv r.T)))) hlt (by show (upd S.st.H i _ id).c = _; rw [upd_ne _ _ hne]; exact hc)
              (fun vs hrr => hrr.set _ _ fun u hu => h5 u (by
                have := hrr.2 off _ u hcell' hu
                exact (this.own_inv (show (upd S.st.H i ⟨(S.st.H i).ver, .dead⟩ i).ver = v by rw [upd_same]; exact hv2)).2))
            refine ⟨L, ?_⟩
            have heq : (KSt.st { env := S.env, H := updK (updK S.H i ⟨v, .dead⟩) id ⟨ver, .box (cs.set off (.sl r.T r.xs))⟩, N := S.N } : St)
                = { env := S.st.env, H := upd (upd S.st.H i ⟨(S.st.H i).ver, .dead⟩) id ⟨(upd S.st.H i ⟨(S.st.H i).ver, .dead⟩ id).ver, .box ((cs.map KV.pv).set off (.sl (r.xs.map (U.pv r.T))))⟩, N := S.st.N } := by
              rw [upd_ne _ _ hne, hv, hv2]
              unfold KSt.st
              congr 1
              simp only [updK_upd]
              rw [upd_map, upd_map]
              simp only [KObj.pv, KCont.pv, List.map_set, KV.pv]
            rw [heq]
            exact h6
          · cases hp
        · cases hp
      · cases hp
    · cases hp

/-! ### regions -/
inductive RS (U : TU) where
  | nil
  | op (o : SG) (r : RS U)
  | ps (p : Ps U) (r : RS U)
  | spl (t : Nat) (r : RS U)
  | ite (t : Nat) (want : Bool) (body : RS U) (d : Nat) (g : Option (Nat × Bool)) (x y : Opd) (r : RS U)
  | two (d : Option Nat) (f : FuncId) (x y : Opd) (r : RS U)
  | pr (t1 : Nat) (f g : FuncId) (x : Opd) (t2 : Nat) (r : RS U)
def RS.flat : RS U → List SG
  | .nil => []
  | .op o r => o :: r.flat
  | .ps _ r => r.flat
  | .spl _ r => r.flat
  | .ite t _ b d g x y r => b.flat ++ ⟨some d, g, .pick (.tmp t) x y⟩ :: r.flat
  | .two d f x y r => ⟨d, none, .call f [x, y]⟩ :: r.flat
  | .pr t1 f g x t2 r => ⟨some t1, none, .call f [x]⟩ :: ⟨some t2, none, .call g [.tmp t1]⟩ :: r.flat
def RS.dsts : RS U → List Nat
  | .nil => []
  | .op o r => (match o.d with | some t => t :: r.dsts | none => r.dsts)
  | .ps p r => p.tmps ++ r.dsts
  | .spl _ r => r.dsts
  | .ite _ _ b d _ _ _ r => b.dsts ++ d :: r.dsts
  | .two d _ _ _ r => (match d with | some t => t :: r.dsts | none => r.dsts)
  | .pr t1 _ _ _ t2 r => t1 :: t2 :: r.dsts
def dstsG : List SG → List Nat
  | [] => []
  | o :: l => (match o.d with | some t => t :: dstsG l | none => dstsG l)
def RS.len : RS U → Nat
  | .nil => 0
  | .op _ r => r.len + 1
  | .ps _ r => r.len
  | .spl _ r => r.len
  | .ite _ _ b _ _ _ _ r => b.len + (r.len + 1)
  | .two _ _ _ _ r => r.len + 1
  | .pr _ _ _ _ _ r => r.len + 1 + 1
theorem RS.len_flat : ∀ (r : RS U), r.flat.length = r.len
  | .nil => rfl
  | .op _ r => by simp [RS.flat, RS.len, r.len_flat]
  | .ps _ r => r.len_flat
  | .spl _ r => r.len_flat
  | .ite _ _ b _ _ _ _ r => by simp [RS.flat, RS.len, b.len_flat, r.len_flat]
  | .two _ _ _ _ r => by simp [RS.flat, RS.len, r.len_flat]
  | .pr _ _ _ _ _ r => by simp [RS.flat, RS.len, r.len_flat]

def memN (t : Nat) : List Nat → Bool
  | [] => false
  | x :: l => (match Nat.beq t x with | true => true | false => memN t l)
theorem memN_iff {t : Nat} : ∀ {l : List Nat}, memN t l = true ↔ t ∈ l
  | [] => by simp [memN]
  | x :: l => by
    simp only [memN]
    split
    · rename_i h; simp [Nat.eq_of_beq_eq_true h]
    · rename_i h; rw [memN_iff]; simp [Nat.ne_of_beq_eq_false h]
theorem memN_not {t : Nat} {l : List Nat} (h : memN t l = false) : t ∉ l := fun hm => by rw [memN_iff.2 hm] at h; cases h

def beqB : Bool → Bool → Bool
  | true, b => b
  | false, true => false
  | false, false => true
theorem beqB_eq (x y : Bool) : beqB x y = (x == y) := by cases x <;> cases y <;> rfl
/-- the objects that may be written -/
abbrev WS := Option (Nat × List Nat)
def okW : WS → Nat → Bool
  | none, _ => false
  | some (n, l), id => Nat.ble n id || memN id l
def okWr (W : WS) : Option (Nat × KObj U) → Bool
  | none => true
  | some (id, _) => okW W id

/-- all are left out if t is not as wanted -/
def skipOk (t : Nat) (want : Bool) : List Nat → List SG → Bool
  | _, [] => true
  | u, o :: l => (match o.g with
    | some (t', want') => (Nat.beq t' t && beqB want' want) || memN t' u
    | none => false) && (match o.d with
      | some d => !Nat.beq d t && skipOk t want (d :: u) l
      | none => skipOk t want u l)

variable (K : TK U)
def effK {ρ : Type} (Γ : List (KFun U)) (W : WS) (nid : Nat) (S : KSt U) (o : SG) (k : KV U → Option (Nat × KObj U) → Option ρ) : Option ρ :=
  match o.g with
  | none => execK K Γ nid S o.op fun x wr => (match okWr W wr with | true => k x wr | false => none)
  | some (t, want) => match S.env t with
    | .bool b => (match beqB b want with
      | true => execK K Γ nid S o.op fun x wr => (match okWr W wr with | true => k x wr | false => none)
      | false => k .undef none)
    | .undef => k .undef none
    | _ => none
def stepK {ρ : Type} (Γ : List (KFun U)) (W : WS) (nid : Nat) (S : KSt U) (o : SG) (k : KSt U → Option ρ) : Option ρ :=
  effK K Γ W nid S o fun x wr => k (S.app o.d x wr)
def wantK (S : KSt U) (ds : List Nat) : Option (Nat × Bool) → Bool
  | none => true
  | some (t, want) => (match S.env t with | .bool b => beqB b want && !memN t ds | _ => false)
def KSt.forget (S : KSt U) (ds : List Nat) : KSt U := { env := fun t => (match memN t ds with | true => .any | false => S.env t), H := S.H, N := S.N }
def cstB : Opd → Option Bool
  | .cst (.bool b) => some b
  | _ => none

/-- a call with two receivers -/
def twoK {ρ : Type} (S : KSt U) (W : WS) (f : FuncId) (x y : KV U) (k : KSt U → Option ρ) : List (KFun U) → Option ρ
  | [] => none
  | .r2 g R1 R2 F :: Γ => (match Nat.beq f g with
    | true => (match x, y with
      | .ptr i v 0, .ptr j u 0 => (match S.box? i v, S.box? j u, Nat.beq i j, okW W i && okW W j with
        | some cs, some ds, false, true => (match K.dec R1 noLk cs, K.dec R2 noLk ds with
          | some s, some t => (F s t).bind fun p => k { S with H := updK (updK S.H i ⟨v, .box (K.enc R1 p.1)⟩) j ⟨u, .box (K.enc R2 p.2)⟩ }
          | _, _ => none)
        | _, _, _, _ => none)
      | _, _ => none)
    | false => twoK S W f x y k Γ)
  | _ :: Γ => twoK S W f x y k Γ
/-- two calls, the second one of what the first one hands back -/
def prK {ρ : Type} (S : KSt U) (W : WS) (nid : Nat) (f g : FuncId) (x : KV U) (k : (Nat × KObj U) → Option ρ) : List (KFun U) → Option ρ
  | [] => none
  | .pr f' g' as e kk T F :: Γ => (match Nat.beq f f' && Nat.beq g g' with
    | true => (match decAs K S none as [x] with
      | some a => (match (U.plain T || x.closeds) && Nat.ble (asDepth as) 9 && okW W nid with
        | true => (F a).bind fun ys => k (nid, ⟨(S.H nid).ver + 1, .row e kk T ys⟩)
        | false => none)
      | none => none)
    | false => prK S W nid f g x k Γ)
  | _ :: Γ => prK S W nid f g x k Γ
def runR (Γ : List (KFun U)) : RS U → {ρ : Type} → (W : WS) → (nid : Nat) → (S : KSt U) → (k : KSt U → Option ρ) → Option ρ
  | .nil, _, _, _, S, k => k S
  | .op o r, _, W, nid, S, k => stepK K Γ W nid S o fun S' => runR Γ r W (nid + 1) S' k
  | .ps p r, _, W, nid, S, k => (match (p.objs S).all (okW W) with
    | true => (match p.run S with | some S' => runR Γ r W nid S' k | none => none)
    | false => none)
  | .spl t r, _, W, nid, S, k => (match S.env t with
    | .bool b => bif b then runR Γ r W nid (S.app (some t) (.bool true) none) k else runR Γ r W nid (S.app (some t) (.bool false) none) k
    | .undef => runR Γ r W nid S k
    | _ => none)
  | .ite t want body d g x y r, _, W, nid, S, k => (match S.env t with
    | .bool b => (match wantK S body.dsts g && (skipOk t want [] body.flat && !memN t body.dsts) with
      | true => (match want with
        | true => (match cstB y with
          | some c => (bif b then runR Γ body none nid (S.app (some t) (.bool true) none) (fun S1 => decB (x.kval S1)) else some c).bind fun v => runR Γ r W (nid + (body.len + 1)) ((S.forget body.dsts).app (some d) (.bool v) none) k
          | none => none)
        | false => (match cstB x with
          | some c => (bif b then some c else runR Γ body none nid (S.app (some t) (.bool false) none) (fun S1 => decB (y.kval S1))).bind fun v => runR Γ r W (nid + (body.len + 1)) ((S.forget body.dsts).app (some d) (.bool v) none) k
          | none => none))
      | false => none)
    | _ => none)
  | .two d f x y r, _, W, nid, S, k => twoK K S W f (x.kval S) (y.kval S) (fun S1 => runR Γ r W (nid + 1) (S1.app d (.tup []) none) k) Γ
  | .pr t1 f g x t2 r, _, W, nid, S, k => (match Nat.beq t1 t2 with
    | true => none
    | false => prK K S W (nid + 1) f g (x.kval S) (fun o => runR Γ r W (nid + 1 + 1) ((S.app (some t1) .any none).app (some t2) (.own (nid + 1) ((S.H (nid + 1)).ver + 1)) (some o)) k) Γ)

/-- what stays -/
structure Frm (D : List Nat) (W : WS) (S S' : KSt U) : Prop where
  env : ∀ t, t ∉ D → S'.env t = S.env t
  H : ∀ id, okW W id = false → S'.H id = S.H id
  N : S.N ≤ S'.N
  Nn : W = none → S'.N = S.N
theorem Frm.refl (D : List Nat) (W : WS) (S : KSt U) : Frm D W S S := ⟨fun _ _ => rfl, fun _ _ => rfl, Nat.le_refl _, fun _ => rfl⟩
theorem Frm.trans {D D' D'' : List Nat} {W : WS} {S S' S'' : KSt U} (h : Frm D W S S') (h' : Frm D' W S' S'') (hd : ∀ t, t ∉ D'' → t ∉ D ∧ t ∉ D') : Frm D'' W S S'' :=
  ⟨fun t ht => (h'.env t (hd t ht).2).trans (h.env t (hd t ht).1), fun id hid => (h'.H id hid).trans (h.H id hid), Nat.le_trans h.N h'.N, fun e => (h'.Nn e).trans (h.Nn e)⟩

theorem app_env_ne (S : KSt U) (d : Option Nat) (x : KV U) (wr : Option (Nat × KObj U)) {t : Nat} (h : d ≠ some t) : (S.app d x wr).env t = S.env t := by
  cases d with
  | none => rfl
  | some d => simp only [KSt.app, updK_upd]; exact upd_ne _ _ (fun e => h (by rw [e]))
theorem app_H_ne (S : KSt U) (d : Option Nat) (x : KV U) (wr : Option (Nat × KObj U)) {i : Nat} (h : wr.map (·.1) ≠ some i) : (S.app d x wr).H i = S.H i := by
  cases wr with
  | none => rfl
  | some p => simp only [KSt.app, updK_upd]; exact upd_ne _ _ (fun e => h (by rw [e]; rfl))
theorem app_frm (S : KSt U) (W : WS) (d : Option Nat) (x : KV U) (wr : Option (Nat × KObj U)) (h : okWr W wr = true) : Frm d.toList W S (S.app d x wr) := by
  refine ⟨fun t ht => app_env_ne _ _ _ _ (fun e => ht (by simp [e])), fun id hid => app_H_ne _ _ _ _ (fun e => ?_), Nat.le_refl _, fun _ => rfl⟩
  cases wr with
  | none => cases e
  | some p => simp only [Option.map_some, Option.some.injEq] at e; simp only [okWr] at h; rw [e, hid] at h; cases h

variable {K}
variable {P : Program}
theorem effK_sound {ρ : Type} {Γ : List (KFun U)} {W : WS} {nid : Nat} {S : KSt U} {o : SG} {k : KV U → Option (Nat × KObj U) → Option ρ} {r : ρ} (hΓ : AllK P Γ) (ho : o.op.okc = true) (h : effK K Γ W nid S o k = some r) :
    ∃ Γ' x wr, TabOk P Γ' ∧ eff Γ' nid S.st o = some (x.pv, wr.map objpv) ∧ okWr W wr = true ∧ k x wr = some r := by
  have run : ∀ (hw : o.wanted S.st = some true), execK K Γ nid S o.op (fun x wr => (match okWr W wr with | true => k x wr | false => none)) = some r →
      ∃ Γ' x wr, TabOk P Γ' ∧ eff Γ' nid S.st o = some (x.pv, wr.map objpv) ∧ okWr W wr = true ∧ k x wr = some r := by
    intro hw h
    obtain ⟨Γ', x, wr, h1, h2, h3⟩ := execK_sound hΓ ho h
    split at h3
    · rename_i hok
      refine ⟨Γ', x, wr, h1, ?_, hok, h3⟩
      rw [eff, hw]
      exact h2
    · cases h3
  have skip : ∀ (hw : o.wanted S.st = some false), k .undef none = some r →
      ∃ Γ' x wr, TabOk P Γ' ∧ eff Γ' nid S.st o = some (x.pv, wr.map objpv) ∧ okWr W wr = true ∧ k x wr = some r := by
    intro hw h
    refine ⟨fun _ => none, .undef, none, fun f m hm => (by cases hm), ?_, rfl, h⟩
    rw [eff, hw]
    rfl
  unfold effK at h
  split at h
  · rename_i hg
    exact run (by rw [SG.wanted, hg]) h
  · rename_i t want hg
    split at h
    · rename_i b hb
      have hb' : S.st.env t = .bool b := by simp only [KSt.st, hb, KV.pv]
      split at h
      · rename_i hbw
        exact run (by simp only [SG.wanted, hg, hb']; rw [beqB_eq] at hbw; rw [hbw]) h
      · rename_i hbw
        refine skip ?_ h
        simp only [SG.wanted, hg, hb']
        rw [beqB_eq] at hbw
        rw [hbw]
    · rename_i hb
      have hb' : S.st.env t = .undef := by simp only [KSt.st, hb, KV.pv]
      exact skip (by simp only [SG.wanted, hg, hb']) h
    · cases h

theorem stepK_sound {ρ : Type} {Γ : List (KFun U)} {W : WS} {nid : Nat} {S : KSt U} {o : SG} {k : KSt U → Option ρ} {r : ρ} (hΓ : AllK P Γ) (ho : o.op.okc = true) (h : stepK K Γ W nid S o k = some r) :
    ∃ Γ' x wr, TabOk P Γ' ∧ eff Γ' nid S.st o = some (x.pv, wr.map objpv) ∧ okWr W wr = true ∧ k (S.app o.d x wr) = some r := effK_sound hΓ ho h

theorem noTab : TabOk P (fun _ => none) := fun f m hm => by cases hm

/-- nothing of it is done -/
theorem skip_sound {E : En} {hs : List Nat} {ops : Array Oper} {t : Nat} {want : Bool} {Q : Exit → Act → World → Prop} {l2 : List Oper} : ∀ (l1 : List Oper) (gs : List SG) (u : List Nat) (S : St) (a : Act) (w : World) (L : Nat → Value),
    l1.mapM (cog P hs ops) = some gs → Rel E S a w L → 0 < S.N → (∀ o ∈ l1, ∀ t, o.dst = some t → E.can t) → skipOk t want u gs = true → S.env t = .bool (!want) → (∀ x ∈ u, S.env x = .undef) →
    (∀ S' a' w' L', (∀ x, x ∉ dstsG gs → S'.env x = S.env x) → S'.H = S.H → S'.N = S.N → Rel E S' a' w' L' → wpListIn (WF E.rd) 0 P ops Q l2 a' w') → wpListIn (WF E.rd) 0 P ops Q (l1 ++ l2) a w
  | [], gs, u, S, a, w, L, hm, h, hN, hd, hs, ht, hu, hk => by
    simp at hm
    subst hm
    exact hk S a w L (fun _ _ => rfl) rfl rfl h
  | o :: l1, gs, u, S, a, w, L, hm, h, hN, hd, hs, ht, hu, hk => by
    simp only [List.mapM_cons, Option.bind_eq_bind, Option.bind_eq_some_iff, Option.pure_def, Option.some.injEq] at hm
    obtain ⟨g, hg, gs', hgs, rfl⟩ := hm
    simp only [skipOk, Bool.and_eq_true] at hs
    obtain ⟨h1, h2⟩ := hs
    have hw : g.wanted S = some false := by
      split at h1
      · rename_i t' want' hgg
        rw [Bool.or_eq_true, Bool.and_eq_true] at h1
        rw [SG.wanted, hgg]
        rcases h1 with ⟨h3, h4⟩ | h3
        · rw [Nat.eq_of_beq_eq_true h3]
          rw [beqB_eq] at h4
          simp only [ht]
          have := eq_of_beq h4
          subst this
          cases want' <;> rfl
        · simp only [hu t' (memN_iff.1 h3)]
      · cases h1
    have hst : stp (fun _ => none) 0 S g = some (S.app g.d .undef none) := by rw [stp, hw]
    rw [List.cons_append]
    refine wpListIn_step fun K hK => ?_
    refine stp_sound noTab hg h hN (hd o (by simp)) hst (fun a' w' L' h' => hK _ _ ?_)
    split at h2
    · rename_i d hdd
      rw [Bool.and_eq_true] at h2
      have hdt : d ≠ t := fun e => by subst e; have := h2.1; simp at this
      refine skip_sound l1 gs' (d :: u) _ a' w' L' hgs h' hN (fun o' ho' => hd o' (by simp [ho'])) h2.2 ?_ ?_ ?_
      · rw [hdd, St.app_env_ne _ _ _ (by simp [hdt])]; exact ht
      · intro x hx
        rw [hdd]
        by_cases hxd : x = d
        · subst hxd; exact upd_same _ _ _
        · rw [St.app_env_ne _ _ _ (by simpa using fun e => hxd e.symm)]
          exact hu x ((List.mem_cons.1 hx).resolve_left hxd)
      · intro S' a' w' L' he hH hN h'
        refine hk S' a' w' L' (fun x hx => ?_) hH hN h'
        simp only [dstsG, hdd, List.mem_cons, not_or] at hx
        rw [he x hx.2, hdd, St.app_env_ne _ _ _ (by simpa using fun e => hx.1 e.symm)]
    · rename_i hdd
      refine skip_sound l1 gs' u _ a' w' L' hgs h' hN (fun o' ho' => hd o' (by simp [ho'])) h2 ?_ ?_ ?_
      · rw [hdd]; exact ht
      · intro x hx; rw [hdd]; exact hu x hx
      · intro S' a' w' L' he hH hN h'
        refine hk S' a' w' L' (fun x hx => ?_) hH hN h'
        simp only [dstsG, hdd] at hx
        rw [he x hx, hdd]
        rfl

def RS.okc : RS U → Bool
  | .nil => true
  | .op o r => o.op.okc && r.okc
  | .ps _ r => r.okc
  | .spl _ r => r.okc
  | .ite _ _ b _ _ x y r => b.okc && (x.okc && y.okc) && r.okc
  | .two _ _ x y r => (x.okc && y.okc) && r.okc
  | .pr _ _ _ x _ r => x.okc && r.okc
/-- no more temporaries are named than are set -/
theorem dstsG_flat : ∀ (r : RS U) (t : Nat), t ∈ dstsG r.flat → t ∈ r.dsts
  | .nil, t, h => h
  | .op o r, t, h => by
    simp only [RS.flat, dstsG] at h
    simp only [RS.dsts]
    split at h
    · rcases List.mem_cons.1 h with h | h
      · exact List.mem_cons.2 (.inl h)
      · exact List.mem_cons.2 (.inr (dstsG_flat r t h))
    · exact dstsG_flat r t h
  | .two d f x y r, t, h => by
    simp only [RS.flat, dstsG] at h
    simp only [RS.dsts]
    split at h
    · rcases List.mem_cons.1 h with h | h
      · exact List.mem_cons.2 (.inl h)
      · exact List.mem_cons.2 (.inr (dstsG_flat r t h))
    · exact dstsG_flat r t h
  | .pr t1 f g x t2 r, t, h => by
    simp only [RS.flat, dstsG, List.mem_cons] at h
    simp only [RS.dsts, List.mem_cons]
    rcases h with h | h | h
    · exact .inl h
    · exact .inr (.inl h)
    · exact .inr (.inr (dstsG_flat r t h))
  | .ps p r, t, h => List.mem_append.2 (.inr (dstsG_flat r t h))
  | .spl _ r, t, h => dstsG_flat r t h
  | .ite t0 want b d g x y r, t, h => by
    have app : ∀ (l1 l2 : List SG), t ∈ dstsG (l1 ++ l2) → t ∈ dstsG l1 ∨ t ∈ dstsG l2 := by
      intro l1 l2
      induction l1 with
      | nil => exact fun h => .inr h
      | cons o l1 ih =>
        intro h
        simp only [List.cons_append, dstsG] at h ⊢
        cases hd : o.d with
        | none => rw [hd] at h; exact ih h
        | some e =>
          rw [hd] at h
          simp only [List.mem_cons] at h ⊢
          rcases h with h | h
          · exact .inl (.inl h)
          · rcases ih h with h | h
            · exact .inl (.inr h)
            · exact .inr h
    simp only [RS.flat] at h
    simp only [RS.dsts, List.mem_append, List.mem_cons]
    rcases app _ _ h with h | h
    · exact .inl (dstsG_flat b t h)
    · simp only [dstsG, List.mem_cons] at h
      rcases h with h | h
      · exact .inr (.inl h)
      · exact .inr (.inr (dstsG_flat r t h))

theorem decB_pv {x : KV U} {b : Bool} (h : decB x = some b) : x = .bool b := by
  unfold decB at h
  split at h
  · injection h with h; rw [h]
  · cases h
theorem app_self {S : KSt U} {t : Nat} {x : KV U} (h : S.env t = x) : S.app (some t) x none = S := by
  unfold KSt.app
  obtain ⟨env, H, N⟩ := S
  simp only at h ⊢
  congr 1
  rw [updK_upd, ← h]
  exact upd_self _ _

theorem Ps.frm {S S' : KSt U} {p : Ps U} (hp : p.run S = some S') {W : WS} (hW : (p.objs S).all (okW W) = true) : Frm p.tmps W S S' := by
  have ne : ∀ {id id' : Nat}, okW W id = true → okW W id' = false → id' ≠ id := fun h1 h2 e => by subst e; rw [h1] at h2; cases h2
  have hN : ∀ {n : Nat}, okW W n = true → W ≠ none := fun h e => by rw [e] at h; cases h
  cases p with
  | own t e k T =>
    simp only [Ps.run] at hp
    split at hp
    · injection hp with hp
      subst hp
      simp only [Ps.objs, List.all_cons, List.all_nil, Bool.and_true] at hW
      exact ⟨fun x hx => by simp only [updK_upd]; exact upd_ne _ _ (by simpa [Ps.tmps] using hx), fun id hid => by simp only [updK_upd]; exact upd_ne _ _ (ne hW hid), Nat.le_succ _, fun e => absurd e (hN hW)⟩
    · cases hp
  | frz t =>
    simp only [Ps.run] at hp
    split at hp
    · rename_i id ver ht
      split at hp
      · injection hp with hp
        subst hp
        simp only [Ps.objs, ht, List.all_cons, List.all_nil, Bool.and_true] at hW
        exact ⟨fun x hx => by simp only [updK_upd]; exact upd_ne _ _ (by simpa [Ps.tmps] using hx), fun id' hid => by simp only [updK_upd]; exact upd_ne _ _ (ne hW hid), Nat.le_refl _, fun _ => rfl⟩
      · cases hp
    · cases hp
  | cut t =>
    simp only [Ps.run] at hp
    split at hp
    · rename_i id ver k lo n ht
      split at hp
      · split at hp
        · injection hp with hp
          subst hp
          simp only [Ps.objs, ht, List.all_cons, List.all_nil, Bool.and_true] at hW
          exact ⟨fun x hx => by simp only [updK_upd]; exact upd_ne _ _ (by simpa [Ps.tmps] using hx), fun id' hid => by simp only [updK_upd]; exact upd_ne _ _ (ne hW hid), Nat.le_refl _, fun _ => rfl⟩
        · cases hp
      · cases hp
    · cases hp
  | ownB t off e k T =>
    simp only [Ps.run] at hp
    split at hp
    · rename_i id ver o ht
      split at hp
      · rename_i cs hb
        split at hp
        · injection hp with hp
          subst hp
          simp only [Ps.objs, ht, List.all_cons, List.all_nil, Bool.and_true, Bool.and_eq_true] at hW
          exact ⟨fun x hx => rfl, fun id' hid => by simp only [updK_upd]; rw [upd_ne _ _ (ne hW.2 hid), upd_ne _ _ (ne hW.1 hid)], Nat.le_succ _, fun e => absurd e (hN hW.1)⟩
        · cases hp
      · cases hp
    · cases hp
  | frzB t off =>
    simp only [Ps.run] at hp
    split at hp
    · rename_i id ver o ht
      split at hp
      · rename_i cs hb
        split at hp
        · rename_i i v hcell
          split at hp
          · injection hp with hp
            subst hp
            simp only [Ps.objs, ht, hb, hcell, List.all_cons, List.all_nil, Bool.and_true, Bool.and_eq_true] at hW
            exact ⟨fun x hx => rfl, fun id' hid => by simp only [updK_upd]; rw [upd_ne _ _ (ne hW.1 hid), upd_ne _ _ (ne hW.2 hid)], Nat.le_refl _, fun _ => rfl⟩
          · cases hp
        · cases hp
      · cases hp
    · cases hp

theorem mapM_append_inv {α β : Type} {f : α → Option β} : ∀ {l : List α} {r1 r2 : List β}, l.mapM f = some (r1 ++ r2) → ∃ l1 l2, l = l1 ++ l2 ∧ l1.mapM f = some r1 ∧ l2.mapM f = some r2
  | l, [], r2, h => ⟨[], l, rfl, rfl, h⟩
  | [], x :: r1, r2, h => by simp at h
  | y :: l, x :: r1, r2, h => by
    simp only [List.mapM_cons, Option.bind_eq_bind, Option.bind_eq_some_iff, Option.pure_def, Option.some.injEq, List.cons_append, List.cons.injEq] at h
    obtain ⟨z, hz, ys, hys, rfl, rfl⟩ := h
    obtain ⟨l1, l2, rfl, h1, h2⟩ := mapM_append_inv hys
    exact ⟨y :: l1, l2, rfl, by simp [List.mapM_cons, hz, h1], h2⟩

theorem st_updH (S : KSt U) (i : Nat) (o : KObj U) : ({ S with H := updK S.H i o } : KSt U).st = { S.st with H := upd S.st.H i o.pv } := by
  unfold KSt.st
  congr 1
  simp only [updK_upd]
  exact upd_map _ _ _ _
theorem cog_none {P : Program} {hs : List Nat} {ops : Array Oper} {o : Oper} {d : Option Nat} {s : SOp} (h : cog P hs ops o = some ⟨d, none, s⟩) : o.guard = none ∧ o.dst = d ∧ cop P hs o = some s := by
  unfold cog at h
  split at h
  · cases h
  · rename_i s' hs'
    split at h
    · rename_i hg
      injection h with h
      injection h with h1 h2 h3
      exact ⟨hg, h1, by rw [hs', h3]⟩
    · repeat' split at h
      all_goals first | cases h | (simp only [Option.some.injEq, SG.mk.injEq, reduceCtorEq, false_and, and_false] at h) | (simp at h)
theorem twoK_some {P : Program} {K : TK U} {ρ : Type} {S : KSt U} {W : WS} {f : FuncId} {x y : KV U} {k : KSt U → Option ρ} {r : ρ} : ∀ {Γ : List (KFun U)}, AllK P Γ → twoK K S W f x y k Γ = some r →
    ∃ (i v j u : Nat) (cs ds : List (KV U)) (R1 R2 : U.Ty) (s s' : U.den R1) (t t' : U.den R2), x = .ptr i v 0 ∧ y = .ptr j u 0 ∧ S.box? i v = some cs ∧ S.box? j u = some ds ∧ i ≠ j ∧ (okW W i = true ∧ okW W j = true) ∧ K.dec R1 noLk cs = some s ∧ K.dec R2 noLk ds = some t ∧
      Enters P f ∧ Con2 P f (U.pv R1 s) (U.pv R2 t) (U.pv R1 s') (U.pv R2 t') ∧ k { S with H := updK (updK S.H i ⟨v, .box (K.enc R1 s')⟩) j ⟨u, .box (K.enc R2 t')⟩ } = some r
  | [], _, h => by cases h
  | .r2 g R1 R2 F :: Γ, hΓ, h => by
    simp only [twoK] at h
    split at h
    · rename_i hg
      have hg := Nat.eq_of_beq_eq_true hg
      subst hg
      split at h
      · rename_i i v j u
        split at h
        · rename_i cs ds h1 h2 h3 h4
          split at h
          · rename_i s t h5 h6
            simp only [Option.bind_eq_some_iff] at h
            obtain ⟨⟨s', t'⟩, hF, hk⟩ := h
            rw [Bool.and_eq_true] at h4
            exact ⟨i, v, j, u, cs, ds, R1, R2, s, s', t, t', rfl, rfl, h1, h2, Nat.ne_of_beq_eq_false h3, h4, h5, h6, hΓ.1.1, hΓ.1.2 s t s' t' hF, hk⟩
          · cases h
        · cases h
      · cases h
    · exact twoK_some hΓ.2 h
  | .pr .. :: Γ, hΓ, h | .bk .. :: Γ, hΓ, h | .ro .. :: Γ, hΓ, h | .rw .. :: Γ, hΓ, h | .cw .. :: Γ, hΓ, h | .fw .. :: Γ, hΓ, h | .fn .. :: Γ, hΓ, h | .rc .. :: Γ, hΓ, h | .nw .. :: Γ, hΓ, h => twoK_some (Γ := Γ) hΓ.2 h
theorem prK_some {P : Program} {K : TK U} {ρ : Type} {S : KSt U} {W : WS} {nid : Nat} {f g : FuncId} {x : KV U} {k : (Nat × KObj U) → Option ρ} {r : ρ} : ∀ {Γ : List (KFun U)}, AllK P Γ → prK K S W nid f g x k Γ = some r →
    ∃ (e kk : Nat) (T : U.Ty) (ys : List (U.den T)), (Enters P f ∧ Enters P g) ∧ ConP P f g ([x.pv].map (fz S.st.H none 9)) e kk (ys.map (U.pv T)) ∧ (plRows (ys.map (U.pv T)) || [x.pv].all PV.closeds) = true ∧ okW W nid = true ∧ k (nid, ⟨(S.H nid).ver + 1, .row e kk T ys⟩) = some r
  | [], _, h => by cases h
  | .pr f' g' as e kk T F :: Γ, hΓ, h => by
    simp only [prK] at h
    split at h
    · rename_i hg
      rw [Bool.and_eq_true] at hg
      obtain rfl := Nat.eq_of_beq_eq_true hg.1
      obtain rfl := Nat.eq_of_beq_eq_true hg.2
      split at h
      · rename_i a ha
        split at h
        · rename_i hc
          rw [Bool.and_eq_true, Bool.and_eq_true] at hc
          obtain ⟨⟨h1, h2⟩, h3⟩ := hc
          simp only [Option.bind_eq_some_iff] at h
          obtain ⟨ys, hF, hk⟩ := h
          have hfz := decAs_fz (ex := none) (fun id' h => by cases h) as 9 [x] a (Nat.le_of_ble_eq_true h2) ha
          refine ⟨e, kk, T, ys, hΓ.1.1, ?_, ?_, h3, hk⟩
          · have := hΓ.1.2 a ys hF
            rw [← hfz] at this
            exact this
          · rw [Bool.or_eq_true] at h1 ⊢
            rcases h1 with h1 | h1
            · exact .inl (plRows_K K h1 ys)
            · exact .inr (by simp only [List.all_cons, List.all_nil, Bool.and_true, closeds_pv]; exact h1)
        · cases h
      · cases h
    · exact prK_some hΓ.2 h
  | .r2 .. :: Γ, hΓ, h | .bk .. :: Γ, hΓ, h | .ro .. :: Γ, hΓ, h | .rw .. :: Γ, hΓ, h | .cw .. :: Γ, hΓ, h | .fw .. :: Γ, hΓ, h | .fn .. :: Γ, hΓ, h | .rc .. :: Γ, hΓ, h | .nw .. :: Γ, hΓ, h => prK_some (Γ := Γ) hΓ.2 h
theorem wanted_none {o : Oper} {p : Nat → Option Bool} (h : o.guard = none) : Region.wanted o p = true := by simp [Region.wanted, h]
theorem enter_run {P : Program} {a : Act} {w : World} {o : Oper} {f : FuncId} {args : Array Operand} {ats : Array TypeId} (hop : o.op = .call { callee := .value (.func f), args := args, argTypes := ats }) (hen : Enters P f) :
    (execOp a.eval o).run P w = .ok (.enter f (args.toList.map a.eval).toArray) w := by
  have ha : args.map a.eval = (args.toList.map a.eval).toArray := by rw [← Array.toList_map, Array.toArray_toList]
  simp [execOp, hop, resolve, Act.eval, Deferred.ofValue, invoke, ha, run_callFunc hen]
theorem runR_sound {E : En} {Γ : List (KFun U)} (hΓ : AllK P Γ) {hs : List Nat} {ops : Array Oper} {Q : Exit → Act → World → Prop} : ∀ (rs : RS U) {ρ : Type} (W : WS) (nid : Nat) (S : KSt U) (k : KSt U → Option ρ) (r : ρ) (l1 l2 : List Oper) (a : Act) (w : World) (L : Nat → Value),
    rs.okc = true → l1.mapM (cog P hs ops) = some rs.flat → Rel E S.st a w L → nid + rs.len ≤ S.N → (∀ o ∈ l1, ∀ t, o.dst = some t → E.can t) → runR K Γ rs W nid S k = some r →
    (∀ S' a' w' L', Frm rs.dsts W S S' → Rel E S'.st a' w' L' → k S' = some r → wpListIn (WF E.rd) 0 P ops Q l2 a' w') → wpListIn (WF E.rd) 0 P ops Q (l1 ++ l2) a w
  | .nil, ρ, W, nid, S, k, r, l1, l2, a, w, L, hok, hm, h, hN, hd, hr, hk => by
    have : l1 = [] := by
      have := mapM_length hm
      exact List.eq_nil_of_length_eq_zero (by simpa [RS.flat] using this.symm)
    subst this
    exact hk S a w L (Frm.refl _ _ _) h hr
  | .op o rs, ρ, W, nid, S, k, r, l1, l2, a, w, L, hok, hm, h, hN, hd, hr, hk => by
    simp only [RS.okc, Bool.and_eq_true] at hok
    cases l1 with
    | nil => simp [RS.flat] at hm
    | cons p l1 =>
    simp only [RS.flat, List.mapM_cons, Option.bind_eq_bind, Option.bind_eq_some_iff, Option.pure_def, Option.some.injEq, List.cons.injEq] at hm
    obtain ⟨g, hg, gs', hgs, rfl, rfl⟩ := hm
    simp only [RS.len] at hN
    obtain ⟨Γ', x, wr, hΓ', he, hwr, hr'⟩ := stepK_sound hΓ hok.1 hr
    have hst : stp Γ' nid S.st g = some (S.app g.d x wr).st := by rw [stp_eff, he, st_app]; rfl
    rw [List.cons_append]
    refine wpListIn_step fun K hK => ?_
    refine stp_sound hΓ' hg h (show nid < S.N by omega) (hd p (by simp)) hst (fun a' w' L' h' => hK _ _ ?_)
    refine runR_sound hΓ rs W (nid + 1) _ k r l1 l2 a' w' L' hok.2 hgs h' (by show _ ≤ S.N; omega) (fun o' ho' => hd o' (by simp [ho'])) hr' (fun S' a' w' L' hf h' hk' => hk S' a' w' L' ?_ h' hk')
    refine (app_frm S W g.d x wr hwr).trans hf fun t ht => ?_
    simp only [RS.dsts] at ht
    cases hdd : g.d with
    | none => rw [hdd] at ht; exact ⟨by simp, ht⟩
    | some d => rw [hdd] at ht; simp only [List.mem_cons, not_or] at ht; exact ⟨by simpa using fun e => ht.1 e, ht.2⟩
  | .two d f x y rs, ρ, W, nid, S, k, r, l1, l2, a, w, L, hok, hm, h, hN, hd, hr, hk => by
    simp only [RS.okc, Bool.and_eq_true] at hok
    cases l1 with
    | nil => simp [RS.flat] at hm
    | cons p l1 =>
    simp only [RS.flat, List.mapM_cons, Option.bind_eq_bind, Option.bind_eq_some_iff, Option.pure_def, Option.some.injEq, List.cons.injEq] at hm
    obtain ⟨g, hg, gs', hgs, rfl, rfl⟩ := hm
    simp only [RS.len] at hN
    simp only [runR] at hr
    obtain ⟨i, v, j, u, cs, ds, R1, R2, s, s', t, t', hx, hy, hb1, hb2, hne, hW, hs, ht, hen, hcon, hr'⟩ := twoK_some hΓ hr
    obtain ⟨hgu, hds, hcop⟩ := cog_none hg
    obtain ⟨args, ats, hop, hxs⟩ := cop_call_inv hcop
    have hv := h.opds hxs
    obtain ⟨x1, vs1, e1, rx, hv⟩ := hv.cons_inv
    obtain ⟨y1, vs2, e2, ry, hv⟩ := hv.cons_inv
    obtain rfl := hv.nil_inv
    subst e2
    simp only [kval_pv hok.1.1, hx, KV.pv] at rx
    simp only [kval_pv hok.1.2, hy, KV.pv] at ry
    obtain ⟨k1, k2⟩ := box_st hb1
    obtain ⟨k3, k4⟩ := box_st hb2
    obtain ⟨n1, n2⟩ := cells_nz (K.dec_ok _ _ _ _ hs)
    obtain ⟨n3, n4⟩ := cells_nz (K.dec_ok _ _ _ _ ht)
    rw [← n1, ← n3] at hcon
    have hcall := two_ok hcon h rx ry k1 k3 k2 k4 hne (by rw [all_closed_pv]; exact n2) (by rw [all_closed_pv]; exact n4)
    rw [List.cons_append]
    refine wpListIn_step fun KK hKK => ?_
    rw [wanted_none hgu, if_pos rfl]
    unfold Oper.wpIn
    rw [Oper.semAt_eq _ _ _ (cop_nodefer hcop), enter_run hop hen, e1]
    refine ⟨fun _ _ => trivial, (fun h => by cases h), callsIn_wf.2 (Calls.mono hcall ?_)⟩
    rintro e w' ⟨L', rfl, h2⟩
    have h3 := h2.putd (d := p.dst) (hd p (by simp)) (x := .tup []) (v := .tuple #[]) (.tup [] [] rfl fun q z z' hz => by simp at hz)
    have hst : ({ S with H := updK (updK S.H i ⟨v, .box (K.enc R1 s')⟩) j ⟨u, .box (K.enc R2 t')⟩ } : KSt U).st = { S.st with H := upd (upd S.st.H i ⟨v, .box (U.pv R1 s')⟩) j ⟨u, .box (U.pv R2 t')⟩ } := by
      have e1 := st_updH { S with H := updK S.H i ⟨v, .box (K.enc R1 s')⟩ } j ⟨u, .box (K.enc R2 t')⟩
      have e2 := st_updH S i ⟨v, .box (K.enc R1 s')⟩
      simp only at e1
      rw [e1, e2]
      simp only [KObj.pv, KCont.pv, K.enc_pv]
    rw [← hst] at h3
    refine hKK _ _ ?_
    refine runR_sound hΓ rs W (nid + 1) _ k r l1 l2 (a.put p.dst (.tuple #[])) w' L' hok.2 hgs (by rw [st_app, ← hds]; exact h3) (by show _ ≤ S.N; omega) (fun o' ho' => hd o' (by simp [ho'])) hr' (fun S' a' w' L' hf h' hk' => hk S' a' w' L' ?_ h' hk')
    have f1 : Frm [] W S { S with H := updK (updK S.H i ⟨v, .box (K.enc R1 s')⟩) j ⟨u, .box (K.enc R2 t')⟩ } := ⟨fun _ _ => rfl, fun q hq => by
      have n1 : q ≠ i := fun e => by rw [e, hW.1] at hq; cases hq
      have n2 : q ≠ j := fun e => by rw [e, hW.2] at hq; cases hq
      simp only [updK_upd]
      rw [upd_ne _ _ n2, upd_ne _ _ n1], Nat.le_refl _, fun _ => rfl⟩
    refine (f1.trans (app_frm _ W d (.tup []) none rfl) (D'' := d.toList) fun q hq => ⟨by simp, hq⟩).trans hf fun q hq => ?_
    simp only [RS.dsts] at hq
    cases hdd : d with
    | none => rw [hdd] at hq; exact ⟨by simp, hq⟩
    | some d => rw [hdd] at hq; simp only [List.mem_cons, not_or] at hq; exact ⟨by simpa using fun e => hq.1 e, hq.2⟩
  | .pr t1 f g x t2 rs, ρ, W, nid, S, k, r, l1, l2, a, w, L, hok, hm, h, hN, hd, hr, hk => by
    simp only [RS.okc, Bool.and_eq_true] at hok
    cases l1 with
    | nil => simp [RS.flat] at hm
    | cons p l1 =>
    cases l1 with
    | nil =>
      have := mapM_length hm
      simp [RS.flat] at this
    | cons p2 l1 =>
    simp only [RS.flat, List.mapM_cons, Option.bind_eq_bind, Option.bind_eq_some_iff, Option.pure_def, Option.some.injEq, List.cons.injEq] at hm
    obtain ⟨g1, hg1, gs1, ⟨g2, hg2, gs', hgs, rfl⟩, rfl, rfl, rfl⟩ := hm
    simp only [RS.len] at hN
    simp only [runR] at hr
    split at hr
    · cases hr
    rename_i hne
    have hne := Nat.ne_of_beq_eq_false hne
    obtain ⟨e, kk, T, ys, ⟨hen1, hen2⟩, hcon, hpl, hW, hr'⟩ := prK_some hΓ hr
    obtain ⟨hgu1, hds1, hcop1⟩ := cog_none hg1
    obtain ⟨hgu2, hds2, hcop2⟩ := cog_none hg2
    obtain ⟨args, ats, hop, hxs⟩ := cop_call_inv hcop1
    obtain ⟨args2, ats2, hop2, hxs2⟩ := cop_call_inv hcop2
    have hv := h.opds hxs
    rw [show [x].map (·.val S.st) = [(x.kval S).pv] by simp only [List.map_cons, List.map_nil, kval_pv hok.1]] at hv
    have hcall := pair_ok (nid := nid + 1) hcon h (show nid + 1 < S.N by omega) hv hpl
    rw [List.cons_append, List.cons_append]
    refine wpListIn_step fun KK hKK => ?_
    rw [wanted_none hgu1, if_pos rfl]
    unfold Oper.wpIn
    rw [Oper.semAt_eq _ _ _ (cop_nodefer hcop1), enter_run hop hen1]
    refine ⟨fun _ _ => trivial, (fun h => by cases h), callsIn_wf.2 (Calls.mono hcall ?_)⟩
    rintro e' w1 ⟨v, rfl, hcall2⟩
    refine hKK _ _ ?_
    refine wpListIn_step fun KK2 hKK2 => ?_
    rw [wanted_none hgu2, if_pos rfl]
    have hct1 : E.can t1 := hd p (by simp) t1 hds1
    have hct2 : E.can t2 := hd p2 (by simp) t2 hds2
    have hev : (args2.toList.map (a.put p.dst v).eval).toArray = #[v] := by
      cases hq : args2.toList with
      | nil => rw [hq] at hxs2; simp at hxs2
      | cons q l =>
        rw [hq] at hxs2
        simp only [List.mapM_cons, Option.bind_eq_bind, Option.bind_eq_some_iff, Option.pure_def, Option.some.injEq, List.cons.injEq] at hxs2
        obtain ⟨z, hz, zs, hzs, rfl, rfl⟩ := hxs2
        have hl : l = [] := by
          have := mapM_length hzs
          exact List.eq_nil_of_length_eq_zero (by simpa using this.symm)
        subst hl
        cases q with
        | tmp t =>
          simp only [copd, Option.some.injEq, Opd.tmp.injEq] at hz
          subst hz
          rw [hds1]
          simp only [List.map_cons, List.map_nil, Act.eval, Act.put, Array.getD_eq_getD_getElem?]
          rw [Array.getElem?_setIfInBounds_self_of_lt (by rw [h.size.1]; exact hct1.1)]
          rfl
        | const c => simp only [copd, Option.map_eq_some_iff, reduceCtorEq, and_false, exists_false] at hz
        | func c => simp only [copd, Option.some.injEq, reduceCtorEq] at hz
        | «global» c => simp only [copd, reduceCtorEq] at hz
    unfold Oper.wpIn
    rw [Oper.semAt_eq _ _ _ (cop_nodefer hcop2), enter_run hop2 hen2, hev]
    refine ⟨fun _ _ => trivial, (fun h => by cases h), callsIn_wf.2 (Calls.mono hcall2 ?_)⟩
    rintro e' w' ⟨u, L', rfl, h2, hu⟩
    refine hKK2 _ _ ?_
    have h3 := h2.put (d := t1) (x := .any) (v := v) hct1 (.any _)
    have h4 := h3.put (d := t2) (x := .own (nid + 1) ((S.st.H (nid + 1)).ver + 1)) (v := u) hct2 hu
    refine runR_sound hΓ rs W (nid + 1 + 1) _ k r l1 l2 ((a.put p.dst v).put p2.dst u) w' L' hok.2 hgs ?_ (by show _ ≤ S.N; omega) (fun o' ho' => hd o' (by simp [ho'])) hr' (fun S' a' w' L' hf h' hk' => hk S' a' w' L' ?_ h' hk')
    · rw [hds1, hds2, st_app, st_app]
      exact h4
    · refine ((app_frm S W (some t1) .any none rfl).trans (app_frm _ W (some t2) (.own (nid + 1) ((S.H (nid + 1)).ver + 1)) (some (nid + 1, ⟨(S.H (nid + 1)).ver + 1, .row e kk T ys⟩)) hW) (D'' := [t1, t2]) fun q hq => ?_).trans hf fun q hq => ?_
      · simp only [List.mem_cons, List.not_mem_nil, or_false, not_or] at hq
        simp only [Option.toList_some, List.mem_cons, List.not_mem_nil, or_false]
        exact ⟨hq.1, hq.2⟩
      · simp only [RS.dsts, List.mem_cons, not_or] at hq
        simp only [List.mem_cons, List.not_mem_nil, or_false, not_or]
        exact ⟨⟨hq.1, hq.2.1⟩, hq.2.2⟩
  | .ps p rs, ρ, W, nid, S, k, r, l1, l2, a, w, L, hok, hm, h, hN, hd, hr, hk => by
    simp only [runR] at hr
    split at hr
    · rename_i hW
      split at hr
      · rename_i S1 hp
        obtain ⟨L1, h1⟩ := Ps.sound K hp h
        have hf := Ps.frm hp hW
        refine runR_sound hΓ rs W nid S1 k r l1 l2 a w L1 hok hm h1 (Nat.le_trans hN hf.N) hd hr (fun S' a' w' L' hf' h' hk' => hk S' a' w' L' (hf.trans hf' fun t ht => ?_) h' hk')
        simp only [RS.dsts, List.mem_append, not_or] at ht
        exact ht
      · cases hr
    · cases hr
  | .spl t rs, ρ, W, nid, S, k, r, l1, l2, a, w, L, hok, hm, h, hN, hd, hr, hk => by
    simp only [runR] at hr
    split at hr
    · rename_i b hb
      cases b with
      | true =>
        rw [cond_true, app_self hb] at hr
        exact runR_sound hΓ rs W nid S k r l1 l2 a w L hok hm h hN hd hr hk
      | false =>
        rw [cond_false, app_self hb] at hr
        exact runR_sound hΓ rs W nid S k r l1 l2 a w L hok hm h hN hd hr hk
    · exact runR_sound hΓ rs W nid S k r l1 l2 a w L hok hm h hN hd hr hk
    · cases hr
  | .ite t want body d g x y rs, ρ, W, nid, S, k, r, l1, l2, a, w, L, hok, hm, h, hN, hd, hr, hk => by
    simp only [RS.okc, Bool.and_eq_true] at hok
    obtain ⟨⟨hokb, hokx, hoky⟩, hokr⟩ := hok
    simp only [RS.flat] at hm
    obtain ⟨lb, lr, rfl, hmb, hmr⟩ := mapM_append_inv hm
    cases lr with
    | nil => simp at hmr
    | cons p lr =>
    simp only [List.mapM_cons, Option.bind_eq_bind, Option.bind_eq_some_iff, Option.pure_def, Option.some.injEq, List.cons.injEq] at hmr
    obtain ⟨pg, hpg, gs', hgs, rfl, rfl⟩ := hmr
    simp only [RS.len] at hN
    simp only [runR] at hr
    split at hr
    · rename_i b hb
      split at hr
      · rename_i hchk
        simp only [Bool.and_eq_true, Bool.not_eq_true'] at hchk
        obtain ⟨hwant, hskip, htd⟩ := hchk
        have htd := memN_not htd
        -- the pick, from a state that agrees with S outside the body
        have fin : ∀ (v : Bool) (S1 : St) (a1 : Act) (w1 : World) (L1 : Nat → Value), (∀ x, x ∉ body.dsts → S1.env x = S.st.env x) → S1.H = S.st.H → S1.N = S.st.N → Rel E S1 a1 w1 L1 →
            (if b then x else y).val S1 = .bool v → runR K Γ rs W (nid + (body.len + 1)) ((S.forget body.dsts).app (some d) (.bool v) none) k = some r → wpListIn (WF E.rd) 0 P ops Q (p :: (lr ++ l2)) a1 w1 := by
          intro v S1 a1 w1 L1 he hH hN1 h1 hv hr1
          have hpw : (⟨some d, g, .pick (.tmp t) x y⟩ : SG).wanted S1 = some true := by
            rw [SG.wanted]
            cases g with
            | none => rfl
            | some q =>
              obtain ⟨t', want'⟩ := q
              simp only [wantK] at hwant
              split at hwant
              · rename_i b' hb'
                simp only [Bool.and_eq_true, Bool.not_eq_true'] at hwant
                have : S1.env t' = .bool b' := by rw [he t' (memN_not hwant.2)]; simp only [KSt.st, hb', KV.pv]
                simp only [this]
                rw [beqB_eq] at hwant
                rw [hwant.1]
              · cases hwant
          have hbt : S1.env t = .bool b := by rw [he t htd]; simp only [KSt.st, hb, KV.pv]
          have hst : stp (fun _ => none) nid S1 ⟨some d, g, .pick (.tmp t) x y⟩ = some (S1.app (some d) (.bool v) none) := by
            rw [stp, hpw]
            have hbt' : (Opd.tmp t).val S1 = .bool b := hbt
            simp only [exec, hbt']
            cases b with
            | true => simp only [if_true] at hv; simp only [hv]; rfl
            | false => simp only [Bool.false_eq_true, if_false] at hv; simp only [hv]; rfl
          refine wpListIn_step fun KK hKK => ?_
          refine stp_sound noTab hpg h1 (show nid < S1.N by rw [hN1]; show nid < S.N; omega) (hd p (by simp)) hst (fun a' w' L' h' => hKK _ _ ?_)
          have h2 : Rel E ((S.forget body.dsts).app (some d) (.bool v) none).st a' w' L' := by
            refine h'.weakEnv (by rw [st_app]; exact hH.symm) (by rw [st_app]; exact hN1.symm) fun t' => ?_
            rw [st_app]
            by_cases htd' : t' = d
            · subst htd'
              left
              rw [show (S1.app (some t') (.bool v) none).env t' = .bool v from upd_same _ _ _]
              exact upd_same _ _ _
            · rw [St.app_env_ne _ _ _ (by simpa using fun e => htd' e.symm), St.app_env_ne _ _ _ (by simpa using fun e => htd' e.symm)]
              cases hmm : memN t' body.dsts with
              | true => right; simp only [KSt.st, KSt.forget, hmm, KV.pv]
              | false => left; simp only [KSt.st, KSt.forget, hmm]; exact (he t' (memN_not hmm)).symm
          refine runR_sound hΓ rs W (nid + (body.len + 1)) _ k r lr l2 a' w' L' hokr hgs h2 (by show _ ≤ S.N; omega) (fun o' ho' => hd o' (by simp [ho'])) hr1 (fun S' a' w' L' hf h' hk' => hk S' a' w' L' ?_ h' hk')
          refine Frm.trans (S' := (S.forget body.dsts).app (some d) (.bool v) none) (D := body.dsts ++ [d]) ⟨fun t' ht' => ?_, fun id _ => rfl, Nat.le_refl _, fun _ => rfl⟩ hf fun t' ht' => ?_
          · simp only [List.mem_append, List.mem_singleton, not_or] at ht'
            rw [app_env_ne _ _ _ _ (by simpa using fun e => ht'.2 e.symm)]
            have : memN t' body.dsts = false := by
              cases hmm : memN t' body.dsts with
              | true => exact absurd (memN_iff.1 hmm) ht'.1
              | false => rfl
            simp only [KSt.forget, this]
          · simp only [RS.dsts, List.mem_append, List.mem_cons, not_or] at ht'
            exact ⟨by simp [ht'.1, ht'.2.1], ht'.2.2⟩
        -- the body is run
        have body_run : ∀ (z : Opd) (v : Bool), b = want → z.okc = true → z = (if b then x else y) → runR K Γ body none nid (S.app (some t) (.bool b) none) (fun S1 => decB (z.kval S1)) = some v →
            runR K Γ rs W (nid + (body.len + 1)) ((S.forget body.dsts).app (some d) (.bool v) none) k = some r → wpListIn (WF E.rd) 0 P ops Q (lb ++ p :: (lr ++ l2)) a w := by
          intro z v _ hz hzz hrb hrr
          rw [app_self hb] at hrb
          refine runR_sound hΓ body none nid S _ v lb _ a w L hokb hmb h (by omega) (fun o' ho' => hd o' (by simp [ho'])) hrb (fun S' a' w' L' hf h' hk' => ?_)
          have hH : S'.H = S.H := funext fun id => hf.H id rfl
          have hNN : S'.N = S.N := hf.Nn rfl
          refine fin v S'.st a' w' L' (fun x' hx' => by simp only [KSt.st, hf.env x' hx']) (by simp only [KSt.st, hH]) hNN h' ?_ hrr
          rw [← hzz, kval_pv hz, decB_pv hk']
          rfl
        have body_skip : ∀ (c : Bool), b = !want → (if b then x else y) = .cst (.bool c) → runR K Γ rs W (nid + (body.len + 1)) ((S.forget body.dsts).app (some d) (.bool c) none) k = some r → wpListIn (WF E.rd) 0 P ops Q (lb ++ p :: (lr ++ l2)) a w := by
          intro c hbw hc hrr
          refine skip_sound lb _ [] S.st a w L hmb h (show 0 < S.N by omega) (fun o' ho' => hd o' (by simp [ho'])) hskip ?_ (by simp) (fun S' a' w' L' he hH hN' h' => ?_)
          · simp only [KSt.st, hb, KV.pv, hbw]
          · refine fin c S' a' w' L' (fun x' hx' => he x' fun hmem => hx' (dstsG_flat _ _ hmem)) hH hN' h' ?_ hrr
            rw [hc]
            rfl
        rw [List.append_assoc, List.cons_append]
        split at hr
        · split at hr
          · rename_i c hc
            have hy : y = .cst (.bool c) := by
              unfold cstB at hc
              split at hc
              · injection hc with hc; rw [hc]
              · cases hc
            rw [Option.bind_eq_some_iff] at hr
            obtain ⟨v, hv, hr⟩ := hr
            cases b with
            | true => exact body_run x v rfl hokx (by simp) hv hr
            | false =>
              rw [cond_false] at hv
              injection hv with hv
              subst hv
              exact body_skip c rfl (by simpa using hy) hr
          · cases hr
        · split at hr
          · rename_i c hc
            have hx : x = .cst (.bool c) := by
              unfold cstB at hc
              split at hc
              · injection hc with hc; rw [hc]
              · cases hc
            rw [Option.bind_eq_some_iff] at hr
            obtain ⟨v, hv, hr⟩ := hr
            cases b with
            | false => exact body_run y v rfl hoky (by simp) hv hr
            | true =>
              rw [cond_true] at hv
              injection hv with hv
              subst hv
              exact body_skip c rfl (by simpa using hx) hr
          · cases hr
      · cases hr
    · cases hr
end
end Go.TQ
