/-
  Functions over typed data. Conditions: none (generic in the program).
-/
import Derived.Test.YtaebanabjdmgfaaGreatKev
namespace Go.TQ
open Go.RowKit

section
variable {P : Program} {E : En} {S : St} {a : Act} {w : World} {L : Nat → Value} {nt : Nat}
theorem VS.post {sc : SC} {Q Q' : Exit → St → Prop} {S : St} (h : VS P nt sc Q S) (hq : ∀ e A, Q e A → ∃ A', (∀ (E : En) (a : Act) (w : World) (L : Nat → Value), Rel E A a w L → ∃ L', Rel E A' a w L') ∧ Q' e A') : VS P nt sc Q' S :=
  fun c hs hc E hE hk a w L hr => wpIn_mono (h c hs hc E hE hk a w L hr) fun e a' w' ⟨S', L', h1, h2⟩ => by
    obtain ⟨A', h3, h4⟩ := hq e S' h2
    obtain ⟨L'', h5⟩ := h3 E a' w' L' h1
    exact ⟨A', L'', h5, h4⟩
theorem Rel.nzbox (h : Rel E S a w L) {id : Nat} {cs : List PV} (hid : id < S.N) (hc : (S.H id).c = .box cs) : Rel E { S with H := upd S.H id ⟨(S.H id).ver, .box (cs.map nz)⟩ } a w L := by
  have := (h.turn (w' := w) hid ⟨(S.H id).ver, .box (cs.map nz)⟩ (L id) (.inl ⟨rfl, rfl, by rw [hc]; rfl⟩) rfl rfl rfl (Nat.le_refl _) (fun _ _ _ => rfl) (fun b _ hb => .inl ⟨by rw [hc]; rfl, hb⟩) (fun hs hg => by
    obtain ⟨b, cur, T, h1, h2, h3, h4⟩ := h.box_at hid hc
    exact ⟨b, cur, T, h1, h2, h4, (h3.mono hs hg).nz⟩)).1
  rwa [upd_self] at this
end

section
variable {U : TU}
def resK1 (S : KSt U) : RV → Option (KV U)
  | .tmp t => some (S.env t)
  | .cell t n => (match S.env t with
    | .ptr id ver off => (match S.box? id ver with | some cs => ldnK n (cs.drop off) | none => none)
    | _ => none)
def resKL (S : KSt U) : List RV → Option (List (KV U))
  | [] => some []
  | r :: rs => (match resK1 S r with
    | some x => (match resKL S rs with | some xs => some (x :: xs) | none => none)
    | none => none)
def tupK : List (KV U) → KV U
  | [x] => x
  | xs => .tup xs
def resK (S : KSt U) (rs : List RV) : Option (KV U) :=
  match resKL S rs with
  | some xs => some (tupK xs)
  | none => none
theorem resK1_ok {S : KSt U} {r : RV} {x : KV U} (h : resK1 S r = some x) : res1 S.st r = some x.pv := by
  cases r with
  | tmp t => injection h with h; subst h; rfl
  | cell t n =>
    simp only [resK1] at h
    split at h
    · rename_i id ver off ht
      split at h
      · rename_i cs hb
        obtain ⟨h1, h2⟩ := box_st hb
        have h3 : S.st.env t = .ptr id ver off := by simp only [KSt.st, ht, KV.pv]
        simp only [res1, h3]
        rw [if_pos h1, h2]
        have := ldnK_ok h
        rw [List.map_drop] at this
        exact this
      · cases h
    · cases h
theorem resKL_ok {S : KSt U} : ∀ {rs : List RV} {xs : List (KV U)}, resKL S rs = some xs → resL S.st rs = some (xs.map KV.pv)
  | [], xs, h => by injection h with h; subst h; rfl
  | r :: rs, xs, h => by
    simp only [resKL] at h
    split at h
    · rename_i x hx
      split at h
      · rename_i ys hys
        injection h with h
        subst h
        simp only [resL, resK1_ok hx, resKL_ok hys, List.map_cons]
      · cases h
    · cases h
theorem resK_ok {S : KSt U} {rs : List RV} {x : KV U} (h : resK S rs = some x) : resPV S.st rs = some x.pv := by
  unfold resK at h
  split at h
  · rename_i xs hxs
    injection h with h
    subst h
    have := resKL_ok hxs
    unfold resPV
    rw [this]
    match xs with
    | [] => rfl
    | [x] => rfl
    | x :: y :: l => simp only [List.map_cons, tupK, KV.pv, KV.pvs_map]
  · cases h
variable (K : TK U)
def decR (S : KSt U) (ex : Option Nat) : (r : RTy U) → KV U → Option r.den
  | .one T, x => unval K S.lk T x
  | .many Ts, x => (match x with | .tup xs => decTs K S.lk Ts xs | _ => none)
  | .fn a, x => (match Nat.ble a.depth 9 with | true => decA K S ex a x | false => none)
variable {K}
theorem decR_fz {S : KSt U} {ex : Option Nat} (hex : ∀ id, ex = some id → ∀ e k T xs, (S.H id).c ≠ .row e k T xs) {r : RTy U} {x : KV U} {v : r.den} (h : decR K S ex r x = some v) : fz S.st.H ex 9 x.pv = rsPV r v := by
  cases r with
  | one T => exact unval_fz hex 7 h
  | many Ts =>
    simp only [decR] at h
    split at h
    · rename_i xs
      rw [KV.pv, KV.pvs_map, fz, rsPV, decTs_fz hex 6 Ts _ v h]
    · cases h
  | fn a =>
    simp only [decR] at h
    split at h
    · rename_i hd
      exact decA_fz hex a 9 x v (Nat.le_of_ble_eq_true hd) h
    · cases h
variable (K)
def KSt0 (as : List (KV U)) : KSt U :=
  { env := fun t => (as[t]?).getD .undef, H := fun _ => ⟨0, .dead⟩, N := 0 }
def KSt1 (pos : Nat) (cs as : List (KV U)) : KSt U :=
  { env := fun t => ((insAt pos [KV.ptr 0 0 0] as)[t]?).getD .undef, H := fun id => (match Nat.beq id 0 with | true => ⟨0, .box cs⟩ | false => ⟨0, .dead⟩), N := 1 }
def endK {ρ : Type} (ex : Option Nat) (rs : List RV) (r : RTy U) (k : KSt U → r.den → Option ρ) (e : Exit) (S : KSt U) : Option ρ :=
  match e with
  | .ret | .normal => (match resK S rs with
    | some x => (match decR K S ex r x with | some v => k S v | none => none)
    | none => none)
  | _ => none
/-- no result lies in the receiver -/
def noCell0 (S : KSt U) : List RV → Bool
  | [] => true
  | .tmp _ :: l => noCell0 S l
  | .cell t _ :: l => (match S.env t with | .ptr id _ _ => !Nat.beq id 0 | _ => false) && noCell0 S l
noncomputable def fnK (Γ : List (KFun U)) (sa : SA U) (rs : List RV) (as : List (ATy U)) (r : RTy U) (a : ADen as) : Option r.den :=
  evK K Γ sa [] (some (0, [])) (endK K none rs r fun _ v => some v) (KSt0 (asK K as a))
noncomputable def rcK (Γ : List (KFun U)) (sa : SA U) (rs : List RV) (pos : Nat) (R : U.Ty) (as : List (ATy U)) (r : RTy U) (s : U.den R) (a : ADen as) : Option (r.den × U.den R) :=
  evK K Γ sa [] (some (0, [])) (endK K (some 0) rs r fun S v => (match noCell0 S rs with
    | true => (match S.box? 0 0 with
      | some cs => (match K.dec R noLk cs with | some s' => some (v, s') | none => none)
      | none => none)
    | false => none)) (KSt1 pos (K.enc R s) (asK K as a))
noncomputable def nwK (Γ : List (KFun U)) (sa : SA U) (rs : List RV) (as : List (ATy U)) (R : U.Ty) (a : ADen as) : Option (U.den R) :=
  evK K Γ sa [] (some (0, [])) (fun e S => (match e with
    | .ret => (match resK S rs with
      | some (.ptr id ver 0) => (match S.box? id ver with | some cs => K.dec R noLk cs | none => none)
      | _ => none)
    | _ => none)) (KSt0 (asK K as a))
variable {K}
variable {P : Program} {nt : Nat}
theorem asPV_len : ∀ (as : List (ATy U)) (a : ADen as), (asPV as a).length = as.length
  | [], _ => by rw [asPV]; rfl
  | _ :: l, a => by rw [asPV, List.length_cons, asPV_len l a.2, List.length_cons]
theorem KSt0_st (as : List (ATy U)) (a : ADen as) : (KSt0 (asK K as a)).st = St0At 0 false [] (asPV as a) := by
  unfold KSt0 KSt.st St0At
  congr 1
  · funext t
    rw [← asK_pv K]
    simp only [Bool.false_eq_true, if_false, insAt_nil, List.getElem?_map]
    cases (asK K as a)[t]? <;> rfl
theorem KSt1_st (pos : Nat) (R : U.Ty) (s : U.den R) (as : List (ATy U)) (a : ADen as) : (KSt1 pos (K.enc R s) (asK K as a)).st = St0At pos true (U.pv R s) (asPV as a) := by
  unfold KSt1 KSt.st St0At
  congr 1
  · funext t
    rw [← asK_pv K]
    simp only [if_true]
    have : (insAt pos [PV.ptr 0 0 0] ((asK K as a).map KV.pv)) = (insAt pos [KV.ptr 0 0 0] (asK K as a)).map KV.pv := by simp [insAt, KV.pv]
    rw [this, List.getElem?_map]
    cases (insAt pos [KV.ptr 0 0 0] (asK K as a))[t]? <;> rfl
  · funext id
    cases id with
    | zero => simp only [and_self, if_true, KObj.pv, KCont.pv, K.enc_pv]
    | succ id => simp [Nat.beq, KObj.pv, KCont.pv]
theorem endK_some {ρ : Type} {ex : Option Nat} {rs : List RV} {r : RTy U} {k : KSt U → r.den → Option ρ} {e : Exit} {S : KSt U} {z : ρ} (h : endK K ex rs r k e S = some z) : (e = .ret ∨ e = .normal) ∧ ∃ x v, resK S rs = some x ∧ decR K S ex r x = some v ∧ k S v = some z := by
  unfold endK at h
  have go : ∀ {o : Option ρ}, o = some z → o = (match resK S rs with
    | some x => (match decR K S ex r x with | some v => k S v | none => none)
    | none => none) → ∃ x v, resK S rs = some x ∧ decR K S ex r x = some v ∧ k S v = some z := by
    intro o ho he
    rw [ho] at he
    replace he := he.symm
    split at he
    · rename_i x hx
      split at he
      · rename_i v hv; exact ⟨x, v, hx, hv, he⟩
      · cases he
    · cases he
  split at h
  · exact ⟨.inl rfl, go h rfl⟩
  · exact ⟨.inr rfl, go h rfl⟩
  · cases h

theorem fnK_sound {f : FuncId} {Γ : List (KFun U)} {sa : SA U} {rs : List RV} {as : List (ATy U)} {r : RTy U} (hf : FnOk P f nt sa.erase rs) (hok : sa.okc = true) (hlen : as.length ≤ nt) (hΓ : AllK P Γ) {F : ADen as → Option r.den} (hF : ∀ a, fnK K Γ sa rs as r a = F a) : KFun.Sound P (.fn f as r F) := by
  refine ⟨hf.enters, fun a v hv => ?_⟩
  rw [← hF a] at hv
  refine hf.con (by simpa [asPV_len] using hlen) ?_
  rw [← KSt0_st (K := K)]
  refine (evK_sound hΓ sa [] _ _ _ _ hok hv).mono ?_
  rintro e A ⟨S', rfl, _, hk⟩
  obtain ⟨he, x, v', h1, h2, h3⟩ := endK_some hk
  injection h3 with h3
  subst h3
  have hret : retOk rs false (fun r' cs'' => r' = rsPV r v' ∧ (false = true → cs'' = [])) S'.st := by
    unfold retOk
    rw [resK_ok h1]
    exact ⟨decR_fz (fun id hid => by cases hid) h2, fun h => by cases h⟩
  rcases he with rfl | rfl <;> exact hret

theorem nz_box {S : KSt U} {id ver : Nat} {cs : List (KV U)} (hb : S.box? id ver = some cs) {R : U.Ty} {s : U.den R} (hd : K.dec R noLk cs = some s) (hN : id < S.N) : (∀ (E : En) (a : Act) (w : World) (L : Nat → Value), Rel E S.st a w L → ∃ L', Rel E { S.st with H := upd S.st.H id ⟨ver, .box (U.pv R s)⟩ } a w L') := by
  intro E a w L h
  obtain ⟨h1, h2⟩ := box_st hb
  have := h.nzbox hN h2
  rw [h1, (cells_nz (K.dec_ok _ _ _ _ hd)).1] at this
  exact ⟨L, this⟩
theorem good_all (K : TK U) (R : U.Ty) (s : U.den R) : (U.pv R s).all PV.closed = true := List.all_eq_true.2 fun y hy => good_closed (K.good R s y hy)

theorem rcK_sound {f : FuncId} {Γ : List (KFun U)} {sa : SA U} {rs : List RV} {pos : Nat} {R : U.Ty} {as : List (ATy U)} {r : RTy U} (hf : FnOk P f nt sa.erase rs) (hok : sa.okc = true) (hlen : 1 + as.length ≤ nt) (hΓ : AllK P Γ)
    {F : U.den R → ADen as → Option (r.den × U.den R)} (hF : ∀ s a, rcK K Γ sa rs pos R as r s a = F s a) : KFun.Sound P (.rc f pos R as r F) := by
  refine ⟨hf.enters, fun s a v s' hv => ?_⟩
  rw [← hF s a] at hv
  refine hf.con (by simpa [asPV_len] using hlen) ?_
  rw [← KSt1_st (K := K)]
  refine (evK_sound hΓ sa [] _ _ _ _ hok hv).post ?_
  rintro e A ⟨S', rfl, hfr, hk⟩
  obtain ⟨he, x, v', h1, h2, h3⟩ := endK_some hk
  split at h3
  case h_2 => cases h3
  rename_i hnc
  split at h3
  · rename_i cs hb
    split at h3
    · rename_i s'' hd
      injection h3 with h3
      injection h3 with h4 h5
      subst h4 h5
      have hN : 0 < S'.N := Nat.lt_of_lt_of_le (show 0 < 1 from Nat.one_pos) hfr.N
      refine ⟨_, nz_box hb hd hN, ?_⟩
      have h6 := resK_ok h1
      have hres : ∀ rs : List RV, noCell0 S' rs = true → resL { S'.st with H := upd S'.st.H 0 ⟨0, .box (U.pv R s'')⟩ } rs = resL S'.st rs := by
        intro rs hrs
        induction rs with
        | nil => rfl
        | cons q rs ih =>
          cases q with
          | tmp t => simp only [noCell0] at hrs; simp only [resL, res1, ih hrs]
          | cell t n =>
            simp only [noCell0, Bool.and_eq_true] at hrs
            have h9 := hrs.1
            split at h9
            · rename_i id ver off ht
              have hne : id ≠ 0 := by intro e; subst e; simp at h9
              have h10 : S'.st.env t = .ptr id ver off := by simp only [KSt.st, ht, KV.pv]
              simp only [resL, res1, h10, upd_ne _ _ hne, ih hrs.2]
            · cases h9
      have hret : retOk rs true (fun r' cs'' => r' = rsPV r v' ∧ (true = true → cs'' = U.pv R s'')) { S'.st with H := upd S'.st.H 0 ⟨0, .box (U.pv R s'')⟩ } := by
        unfold retOk
        have h7 : resPV { S'.st with H := upd S'.st.H 0 ⟨0, .box (U.pv R s'')⟩ } rs = some x.pv := by
          rw [← h6]
          unfold resPV
          have h8 := hres rs hnc
          simp only [h8]
        rw [h7]
        simp only [upd_same]
        refine ⟨good_all K R s'', ?_, by simp⟩
        have hbx := (box?_some hb).2
        rw [← decR_fz (K := K) (S := S') (ex := some 0) (fun id hid => by injection hid with hid; subst hid; intro e k T xs hq; rw [hbx] at hq; cases hq) h2]
        have hz : ∀ (n : Nat) (y : PV), fz (upd S'.st.H 0 ⟨0, .box (U.pv R s'')⟩) (some 0) n y = fz S'.st.H (some 0) n y := by
          intro n
          induction n with
          | zero => intro y; simp only [fz]
          | succ n ih =>
            intro y
            have hu : ∀ id, ¬ (some id = some 0) → upd S'.st.H 0 ⟨0, .box (U.pv R s'')⟩ id = S'.st.H id := fun id hid => upd_ne _ _ (fun e => hid (by rw [e]))
            have hm : fz (upd S'.st.H 0 ⟨0, .box (U.pv R s'')⟩) (some 0) n = fz S'.st.H (some 0) n := funext ih
            cases y with
            | own id ver =>
              simp only [fz, hm]
              by_cases h0 : some id = some 0
              · rw [if_pos (.inl h0), if_pos (.inl h0)]
              · rw [hu id h0]
            | ptr id ver off =>
              simp only [fz, hm]
              by_cases h0 : some id = some 0
              · rw [if_pos (.inl h0), if_pos (.inl h0)]
              · rw [hu id h0]
            | agg cs => simp only [fz, hm]
            | tup cs => simp only [fz, hm]
            | clo f cs => simp only [fz, hm]
            | _ => simp only [fz]
        exact hz 9 x.pv
      rcases he with rfl | rfl <;> exact hret
    · cases h3
  · cases h3

theorem nwK_sound {f : FuncId} {Γ : List (KFun U)} {sa : SA U} {t : Nat} {as : List (ATy U)} {R : U.Ty} (hf : FnOk P f nt sa.erase [.tmp t]) (hok : sa.okc = true) (hlen : as.length ≤ nt) (hΓ : AllK P Γ) {F : ADen as → Option (U.den R)} (hF : ∀ a, nwK K Γ sa [.tmp t] as R a = F a) : KFun.Sound P (.nw f as R F) := by
  refine ⟨hf.enters, fun a s hv => ?_⟩
  rw [← hF a] at hv
  refine hf.conN (by simpa [asPV_len] using hlen) ?_
  rw [← KSt0_st (K := K)]
  intro c hs hc E hE hkt a' w L hr
  refine wpIn_mono (evK_sound hΓ sa [] _ _ _ _ hok hv c hs hc E hE hkt a' w L hr) ?_
  rintro e a2 w2 ⟨A, L2, hrel, S', rfl, _, hk⟩
  split at hk
  · split at hk
    · rename_i id ver hx
      split at hk
      · rename_i cs hb
        have hre : S'.st.env t = .ptr id ver 0 := by
          have := resK_ok hx
          simpa [resPV, resL, res1, KV.pv] using this
        have hN : id < S'.N := by
          have := hrel.env t
          rw [hre] at this
          exact (this.ptr_inv (show (S'.st.gh L2).V id = ver from (box_st hb).1)).1
        obtain ⟨L3, h3⟩ := nz_box hb hk hN E a2 w2 L2 hrel
        refine ⟨_, L3, h3, ?_⟩
        have h7 : resPV { S'.st with H := upd S'.st.H id ⟨ver, .box (U.pv R s)⟩ } [.tmp t] = some (.ptr id ver 0) := by
          simp only [resPV, resL, res1]
          rw [hre]
        simp only [newQ]
        rw [h7]
        simp only [upd_same, if_true]
        exact ⟨good_all K R s, trivial⟩
      · cases hk
    · cases hk
  · cases hk

/-! ### rows -/
def KStR (e k : Nat) (T : U.Ty) (xs : List (U.den T)) (as : List (KV U)) : KSt U :=
  { env := fun t => (((KV.own 0 0) :: as)[t]?).getD .undef, H := fun id => (match Nat.beq id 0 with | true => ⟨0, .row e k T xs⟩ | false => ⟨0, .dead⟩), N := 1 }
theorem KStR_st (e k : Nat) (T : U.Ty) (xs : List (U.den T)) (as : List (ATy U)) (a : ADen as) : (KStR e k T xs (asK K as a)).st = St0R e k (xs.map (U.pv T)) (asPV as a) := by
  unfold KStR KSt.st St0R
  congr 1
  · funext t
    rw [← asK_pv K]
    cases t with
    | zero => rfl
    | succ t =>
      simp only [List.getElem?_cons_succ, List.getElem?_map]
      cases (asK K as a)[t]? <;> rfl
  · funext id
    cases id with
    | zero => simp [KObj.pv, KCont.pv]
    | succ id => simp [Nat.beq, KObj.pv, KCont.pv]
variable (K)
/-- a row of this kind at an object -/
def rowAt (S : KSt U) (id ver e k : Nat) (T : U.Ty) : Option (List (U.den T)) :=
  match S.row? id ver with
  | some r => (match Nat.beq r.e e && Nat.beq r.k k with | true => castL r.T T r.xs | false => none)
  | none => none
theorem rowAt_some {S : KSt U} {id ver e k : Nat} {T : U.Ty} {xs : List (U.den T)} (h : rowAt S id ver e k T = some xs) : (S.H id).ver = ver ∧ (S.H id).c = .row e k T xs := by
  unfold rowAt at h
  split at h
  · rename_i r hr
    obtain ⟨h1, h2⟩ := row?_some hr
    split at h
    · rename_i hek
      rw [Bool.and_eq_true] at hek
      obtain ⟨eT, rfl⟩ := castL_some h
      obtain ⟨re, rk, rT, rxs⟩ := r
      simp only at eT h2 hek
      subst eT
      exact ⟨h1, by rw [h2, Nat.eq_of_beq_eq_true hek.1, Nat.eq_of_beq_eq_true hek.2]⟩
    · cases h
  · cases h
def endR {ρ : Type} (rs : List RV) (r : RTy U) (e k : Nat) (T : U.Ty) (j : r.den → List (U.den T) → Option ρ) (en : Exit) (S : KSt U) : Option ρ :=
  match en with
  | .ret | .normal => (match resK S rs with
    | some x => (match decR K (S.hide 0 0) (some 0) r x with
      | some v => (match rowAt S 0 0 e k T with | some ys => j v ys | none => none)
      | none => none)
    | none => none)
  | _ => none
def endC {ρ : Type} (rs : List RV) (e k : Nat) (T : U.Ty) (j : List (U.den T) → Option ρ) (en : Exit) (S : KSt U) : Option ρ :=
  match en with
  | .ret | .normal => (match resK S rs with
    | some (.own id ver) => (match rowAt S id ver e k T with | some ys => j ys | none => none)
    | _ => none)
  | _ => none
noncomputable def rwK (Γ : List (KFun U)) (sa : SA U) (rs : List RV) (e k : Nat) (T : U.Ty) (as : List (ATy U)) (r : RTy U) (xs : List (U.den T)) (a : ADen as) : Option (r.den × List (U.den T)) :=
  evK K Γ sa [] (some (0, [])) (endR K rs r e k T fun v ys => some (v, ys)) (KStR e k T xs (asK K as a))
noncomputable def cwK (Γ : List (KFun U)) (sa : SA U) (rs : List RV) (e k : Nat) (T : U.Ty) (as : List (ATy U)) (xs : List (U.den T)) (a : ADen as) : Option (List (U.den T)) :=
  evK K Γ sa [] (some (0, [])) (endC rs e k T fun ys => some ys) (KStR e k T xs (asK K as a))
noncomputable def fwK (Γ : List (KFun U)) (sa : SA U) (rs : List RV) (as : List (ATy U)) (e k : Nat) (T : U.Ty) (a : ADen as) : Option (List (U.den T)) :=
  evK K Γ sa [] (some (0, [])) (endC rs e k T fun ys => some ys) (KSt0 (asK K as a))
variable {K}
theorem endR_some {ρ : Type} {rs : List RV} {r : RTy U} {e k : Nat} {T : U.Ty} {j : r.den → List (U.den T) → Option ρ} {en : Exit} {S : KSt U} {z : ρ} (h : endR K rs r e k T j en S = some z) :
    (en = .ret ∨ en = .normal) ∧ ∃ x v ys, resK S rs = some x ∧ decR K (S.hide 0 0) (some 0) r x = some v ∧ (S.H 0).ver = 0 ∧ (S.H 0).c = .row e k T ys ∧ j v ys = some z := by
  have go : (match resK S rs with
    | some x => (match decR K (S.hide 0 0) (some 0) r x with
      | some v => (match rowAt S 0 0 e k T with | some ys => j v ys | none => none)
      | none => none)
    | none => none) = some z → ∃ x v ys, resK S rs = some x ∧ decR K (S.hide 0 0) (some 0) r x = some v ∧ (S.H 0).ver = 0 ∧ (S.H 0).c = .row e k T ys ∧ j v ys = some z := by
    intro he
    split at he
    · rename_i x hx
      split at he
      · rename_i v hv
        split at he
        · rename_i ys hys
          obtain ⟨h1, h2⟩ := rowAt_some hys
          exact ⟨x, v, ys, hx, hv, h1, h2, he⟩
        · cases he
      · cases he
    · cases he
  unfold endR at h
  split at h
  · exact ⟨.inl rfl, go h⟩
  · exact ⟨.inr rfl, go h⟩
  · cases h
theorem endC_some {ρ : Type} {rs : List RV} {e k : Nat} {T : U.Ty} {j : List (U.den T) → Option ρ} {en : Exit} {S : KSt U} {z : ρ} (h : endC rs e k T j en S = some z) :
    (en = .ret ∨ en = .normal) ∧ ∃ id ver ys, resK S rs = some (.own id ver) ∧ (S.H id).ver = ver ∧ (S.H id).c = .row e k T ys ∧ j ys = some z := by
  have go : (match resK S rs with
    | some (.own id ver) => (match rowAt S id ver e k T with | some ys => j ys | none => none)
    | _ => none) = some z → ∃ id ver ys, resK S rs = some (.own id ver) ∧ (S.H id).ver = ver ∧ (S.H id).c = .row e k T ys ∧ j ys = some z := by
    intro he
    split at he
    · rename_i id ver hx
      split at he
      · rename_i ys hys
        obtain ⟨h1, h2⟩ := rowAt_some hys
        exact ⟨id, ver, ys, hx, h1, h2, he⟩
      · cases he
    · cases he
  unfold endC at h
  split at h
  · exact ⟨.inl rfl, go h⟩
  · exact ⟨.inr rfl, go h⟩
  · cases h
theorem rwK_sound {f : FuncId} {Γ : List (KFun U)} {sa : SA U} {rs : List RV} {e k : Nat} {T : U.Ty} {as : List (ATy U)} {r : RTy U} (hf : FnOk P f nt sa.erase rs) (hok : sa.okc = true) (hlen : 1 + as.length ≤ nt) (hΓ : AllK P Γ)
    {F : List (U.den T) → ADen as → Option (r.den × List (U.den T))} (hF : ∀ xs a, rwK K Γ sa rs e k T as r xs a = F xs a) : KFun.Sound P (.rw f e k T as r F) := by
  refine ⟨hf.enters, fun xs a v ys hv => ?_⟩
  rw [← hF xs a] at hv
  refine hf.conR (by simpa [asPV_len] using hlen) ?_
  rw [← KStR_st (K := K)]
  refine (evK_sound hΓ sa [] _ _ _ _ hok hv).mono ?_
  rintro en A ⟨S', rfl, _, hk⟩
  obtain ⟨he, x, v', ys', h1, h2, h3, h4, h5⟩ := endR_some hk
  injection h5 with h5
  injection h5 with h6 h7
  subst h6 h7
  have hH : S'.st.H 0 = ⟨0, .row e k (ys'.map (U.pv T))⟩ := by
    simp only [KSt.st, KObj.pv, h3, h4, KCont.pv]
  have hret : retR rs e k (fun r' es'' => r' = rsPV r v' ∧ es'' = ys'.map (U.pv T)) .ret S'.st := by
    simp only [retR]
    rw [resK_ok h1]
    simp only [hH]
    refine ⟨trivial, trivial, okRows_K K T ys', ?_, trivial⟩
    rw [← decR_fz (K := K) (hide_hex S' 0 0) h2, hide_fz]
  rcases he with rfl | rfl <;> exact hret
theorem endC_ret {rs : List RV} {e k : Nat} {T : U.Ty} {S' : KSt U} {id ver : Nat} {ys : List (U.den T)} (h1 : resK S' rs = some (.own id ver)) (h2 : (S'.H id).ver = ver) (h3 : (S'.H id).c = .row e k T ys) (K : TK U) : retC rs e k (fun es'' => es'' = ys.map (U.pv T)) .ret S'.st := by
  simp only [retC]
  rw [resK_ok h1]
  simp only [KV.pv]
  refine ⟨h2, ?_⟩
  have : (S'.st.H id).c = .row e k (ys.map (U.pv T)) := by simp only [KSt.st, KObj.pv, h3, KCont.pv]
  rw [this]
  exact ⟨rfl, rfl, okRows_K K T ys, rfl⟩
theorem cwK_sound {f : FuncId} {Γ : List (KFun U)} {sa : SA U} {rs : List RV} {e k : Nat} {T : U.Ty} {as : List (ATy U)} (hf : FnOk P f nt sa.erase rs) (hok : sa.okc = true) (hlen : 1 + as.length ≤ nt) (hΓ : AllK P Γ)
    {F : List (U.den T) → ADen as → Option (List (U.den T))} (hF : ∀ xs a, cwK K Γ sa rs e k T as xs a = F xs a) : KFun.Sound P (.cw f e k T as F) := by
  refine ⟨hf.enters, fun xs a ys hv => ?_⟩
  rw [← hF xs a] at hv
  refine hf.conC (by simpa [asPV_len] using hlen) ?_
  rw [← KStR_st (K := K)]
  refine (evK_sound hΓ sa [] _ _ _ _ hok hv).mono ?_
  rintro en A ⟨S', rfl, _, hk⟩
  obtain ⟨he, id, ver, ys', h1, h2, h3, h5⟩ := endC_some hk
  injection h5 with h5
  subst h5
  have hret := endC_ret h1 h2 h3 K
  rcases he with rfl | rfl <;> exact hret
theorem fwK_sound {f : FuncId} {Γ : List (KFun U)} {sa : SA U} {rs : List RV} {e k : Nat} {T : U.Ty} {as : List (ATy U)} (hf : FnOk P f nt sa.erase rs) (hok : sa.okc = true) (hlen : as.length ≤ nt) (hΓ : AllK P Γ)
    {F : ADen as → Option (List (U.den T))} (hF : ∀ a, fwK K Γ sa rs as e k T a = F a) : KFun.Sound P (.fw f as e k T F) := by
  refine ⟨hf.enters, fun a ys hv => ?_⟩
  rw [← hF a] at hv
  refine hf.conF (by simpa [asPV_len] using hlen) ?_
  rw [← KSt0_st (K := K)]
  refine (evK_sound hΓ sa [] _ _ _ _ hok hv).mono ?_
  rintro en A ⟨S', rfl, _, hk⟩
  obtain ⟨he, id, ver, ys', h1, h2, h3, h5⟩ := endC_some hk
  injection h5 with h5
  subst h5
  have hret := endC_ret h1 h2 h3 K
  rcases he with rfl | rfl <;> exact hret
end
end Go.TQ
