/-
  Functions over typed data. Conditions: none (generic in the program).
-/
import Derived.Test.YtnhgcpiljggmmaaGreatDoorKev
namespace Go.TQ
open Go.RowKit

section
variable {P : Program} {E : En} {S : St} {a : Act} {w : World} {L : Nat → Value} {nt : Nat}
theorem VS.post {sc : SC} {Q Q' : Exit → St → Prop} {S : St} (h : VS P nt sc Q S) (hq : ∀ e A, Q e A → ∃ A', (∀ (E : En) (a : Act) (w : World) (L : Nat → Value), Rel E A a w L → ∃ L', Rel E A' a w L') ∧ Q' e A') : VS P nt sc Q' S :=
  fun c hs hc E hE hk a w L hr => wpIn_mono (h c hs hc E hE hk a w L hr) fun e a' w' ⟨S', L', h1, h2⟩ => by
    obtain ⟨A', h3, h4⟩ := hq e S' h2
    obtain ⟨L'', h5⟩ := h3 E a' w' L' h1
    exact ⟨A', L'', h5, h4⟩
theorem Rel.nzbox (h : Rel E S a w L) {id : Nat} {cs : List PV} (hid : id < S.N) (hc : (S.H id).c = .box cs) : Rel E { S with H := upd S.H id ⟨(S.H id).ver, .box (cs.map nz)⟩ } a w L := by
  have := (h.turn (w' := w) hid ⟨(S.H id).ver, .box (cs.map nz)⟩ (L id) (.inl ⟨rfl, rfl, by rw [hc]; rfl⟩) rfl rfl rfl (Nat.le_refl _) (fun _ _ _ => rfl) (fun b _ hb => .inl ⟨by rw [hc]; rfl, hb⟩) (fun hs hg => by
    obtain ⟨b, cur, T, h1, h2, h3, h4⟩ := h.box_at hid hc
    exact ⟨b, cur, T, h1, h2, h4, (h3.mono hs hg).nz⟩)).1
  rwa [upd_self] at this
end

section
variable {U : TU}
def resK1 (S : KSt U) : RV → Option (KV U)
  | .tmp t => some (S.env t)
  | .cell t n => (match S.env t with
    | .ptr id ver off => (match S.box? id ver with | some cs => ldnK n (cs.drop off) | none => none)
    | _ => none)
def resKL (S : KSt U) : List RV → Option (List (KV U))
  | [] => some []
  | r :: rs => (match resK1 S r with
    | some x => (match resKL S rs with | some xs => some (x :: xs) | none => none)
    | none => none)
def tupK : List (KV U) → KV U
  | [x] => x
  | xs => .tup xs
def resK (S : KSt U) (rs : List RV) : Option (KV U) :=
  match resKL S rs with
  | some xs => some (tupK xs)
  | none => none
theorem resK1_ok {S : KSt U} {r : RV} {x : KV U} (h : resK1 S r = some x) : res1 S.st r = some x.pv := by
  cases r with
  | tmp t => injection h with h; subst h; rfl
  | cell t n =>
    simp only [resK1] at h
    split at h
    · rename_i id ver off ht
      split at h
      · rename_i cs hb
        obtain ⟨h1, h2⟩ := box_st hb
        have h3 : S.st.env t = .ptr id ver off := by simp only [KSt.st, ht, KV.pv]
        simp only [res1, h3]
        rw [if_pos h1, h2]
        have := ldnK_ok h
        rw [List.map_drop] at this
        exact this
      · cases h
    · cases h
theorem resKL_ok {S : KSt U} : ∀ {rs : List RV} {xs : List (KV U)}, resKL S rs = some xs → resL S.st rs = some (xs.map KV.pv)
  | [], xs, h => by injection h with h; subst h; rfl
  | r :: rs, xs, h => by
    simp only [resKL] at h
    split at h
    · rename_i x hx
      split at h
      · rename_i ys hys
        injection h with h
        subst h
        simp only [resL, resK1_ok hx, resKL_ok hys, List.map_cons]
      · cases h
    · cases h
theorem resK_ok {S : KSt U} {rs : List RV} {x : KV U} (h : resK S rs = some x) : resPV S.st rs = some x.pv := by
  unfold resK at h
  split at h
  · rename_i xs hxs
    injection h with h
    subst h
    have := resKL_ok hxs
    unfold resPV
    rw [this]
    match xs with
    | [] => rfl
    | [x] => rfl
    | x :: y :: l => simp only [List.map_cons, tupK, KV.pv, KV.pvs_map]
  · cases h
variable (K : TK U)
def decR (S : KSt U) (ex : Option Nat) : (r : RTy U) → KV U → Option r.den
  | .one T, x => unval K S.lk T x
  | .many Ts, x => (match x with | .tup xs => decTs K S.lk Ts xs | _ => none)
  | .fn a, x => (match Nat.ble a.depth 9 with | true => decA K S ex a x | false => none)
variable {K}
theorem decR_fz {S : KSt U} {ex : Option Nat} (hex : ∀ id, ex = some id → ∀ e k T xs, (S.H id).c ≠ .row e k T xs) {r : RTy U} {x : KV U} {v : r.den} (h : decR K S ex r x = some v) : fz S.st.H ex 9 x.pv = rsPV r v := by
  cases r with
  | one T => exact unval_fz hex 7 h
  | many Ts =>
    simp only [decR] at h
    split at h
    · rename_i xs
      rw [KV.pv, KV.pvs_map, fz, rsPV, decTs_fz hex 6 Ts _ v h]
    · cases h
  | fn a =>
    simp only [decR] at h
    split at h
    · rename_i hd
      exact decA_fz hex a 9 x v (Nat.le_of_ble_eq_true hd) h
    · cases h
variable (K)
def KSt0 (as : List (KV U)) : KSt U :=
  { env := fun t => (as[t]?).getD .undef, H := fun _ => ⟨0, .dead⟩, N := 0 }
def KSt1 (pos : Nat) (cs as : List (KV U)) : KSt U :=
  { env := fun t => ((insAt pos [KV.ptr 0 0 0] as)[t]?).getD .undef, H := fun id => (match Nat.beq id 0 with | true => ⟨0, .box cs⟩ | false => ⟨0, .dead⟩), N := 1 }
def endK {ρ : Type} (ex : Option Nat) (rs : List RV) (r : RTy U) (k : KSt U → r.den → Option ρ) (e : Exit) (S : KSt U) : Option ρ :=
  match e with
  | .ret | .normal => (match resK S rs with
    | some x => (match decR K S ex r x with | some v => k S v | none => none)
    | none => none)
  | _ => none
/-- no result lies in the receiver -/
def noCell0 (S : KSt U) : List RV → Bool
  | [] => true
  | .tmp _ :: l => noCell0 S l
  | .cell t _ :: l => (match S.env t with | .ptr id _ _ => !Nat.beq id 0 | _ => false) && noCell0 S l
noncomputable def fnK (Γ : List (KFun U)) (sa : SA U) (rs : List RV) (as : List (ATy U)) (r : RTy U) (a : ADen as) : Option r.den :=
  evK K Γ sa [] (some (0, [])) (endK K none rs r fun _ v => some v) (KSt0 (asK K as a))
noncomputable def rcK (Γ : List (KFun U)) (sa : SA U) (rs : List RV) (pos : Nat) (R : U.Ty) (as : List (ATy U)) (r : RTy U) (s : U.den R) (a : ADen as) : Option (r.den × U.den R) :=
  evK K Γ sa [] (some (0, [])) (endK K (some 0) rs r fun S v => (match noCell0 S rs with
    | true => (match S.box? 0 0 with
      | some cs => (match K.dec R noLk cs with | some s' => some (v, s') | none => none)
      | none => none)
    | false => none)) (KSt1 pos (K.enc R s) (asK K as a))
noncomputable def nwK (Γ : List (KFun U)) (sa : SA U) (rs : List RV) (as : List (ATy U)) (R : U.Ty) (a : ADen as) : Option (U.den R) :=
  evK K Γ sa [] (some (0, [])) (fun e S => (match e with
    | .ret => (match resK S rs with
      | some (.ptr id ver 0) => (match S.box? id ver with | some cs => K.dec R noLk cs | none => none)
      | _ => none)
    | _ => none)) (KSt0 (asK K as a))
variable {K}
variable {P : Program} {nt : Nat}
theorem asPV_len : ∀ (as : List (ATy U)) (a : ADen as), (asPV as a).length = as.length
  | [], _ => by rw [asPV]; rfl
  | _ :: l, a => by rw [asPV, List.length_cons, asPV_len l a.2, List.length_cons]
theorem KSt0_st (as : List (ATy U)) (a : ADen as) : (KSt0 (asK K as a)).st = St0At 0 false [] (asPV as a) := by
  unfold KSt0 KSt.st St0At
  congr 1
  · funext t
    rw [← asK_pv K]
    simp only [Bool.false_eq_true, if_false, insAt_nil, List.getElem?_map]
    cases (asK K as a)[t]? <;> rfl
theorem KSt1_st (pos : Nat) (R : U.Ty) (s : U.den R) (as : List (ATy U)) (a : ADen as) : (KSt1 pos (K.enc R s) (asK K as a)).st = St0At pos true (U.pv R s) (asPV as a) := by
  unfold KSt1 KSt.st St0At
  congr 1
  · funext t
    rw [← asK_pv K]
    simp only [if_true]
    have : (insAt pos [PV.ptr 0 0 0] ((asK K as a).map KV.pv)) = (insAt pos [KV.ptr 0 0 0] (asK K as a)).map KV.pv := by simp [insAt, KV.pv]
    rw [this, List.getElem?_map]
    cases (insAt pos [KV.ptr 0 0 0] (asK K as a))[t]? <;> rfl
  · funext id
    cases id with
    | zero => simp only [and_self, if_true, KObj.pv, KCont.pv, K.enc_pv]
    | succ id => simp [Nat.beq, KObj.pv, KCont.pv]
theorem endK_some {ρ : Type} {ex : Option Nat} {rs : List RV} {r : RTy U} {k : KSt U → r.den → Option ρ} {e : Exit} {S : KSt U} {z : ρ} (h : endK K ex rs r k e S = some z) : (e = .ret ∨ e = .normal) ∧ ∃ x v, resK S rs = some x ∧ decR K S ex r x = some v ∧ k S v = some z := by
  unfold endK at h
  have go : ∀ {o : Option ρ}, o = some z → o = (match resK S rs with
    | some x => (match decR K S ex r x with | some v => k S v | none => none)
    | none => none) → ∃ x v, resK S rs = some x ∧ decR K S ex r x = some v ∧ k S v = some z := by
    intro o ho he
    rw [ho] at he
    replace he := he.symm
    split at he
    · rename_i x hx
      split at he
      · rename_i v hv; exact ⟨x, v, hx, hv, he⟩
      · cases he
    · cases he
  split at h
  · exact ⟨.inl rfl, go h rfl⟩
  · exact ⟨.inr rfl, go h rfl⟩
  · cases h

theorem fnK_sound {f : FuncId} {Γ : List (KFun U)} {sa : SA U} {rs : List RV} {as : List (ATy U)} {r : RTy U} (hf : FnOk P f nt sa.erase rs) (hok : sa.okc = true) (hlen : as.length ≤ nt) (hΓ : AllK P Γ) {F : ADen as → Option r.den} (hF : ∀ a, fnK K Γ sa rs as r a = F a) : KFun.Sound P (.fn f as r F) := by
  refine ⟨hf.enters, fun a v hv => ?_⟩
  rw [← hF a] at hv
  refine hf.con (by simpa [asPV_len] using hlen) ?_
  rw [← KSt0_st (K := K)]
  refine (evK_sound hΓ sa [] _ _ _ _ hok hv).mono ?_
  rintro e A ⟨S', rfl, _, hk⟩
  obtain ⟨he, x, v', h1, h2, h3⟩ := endK_some hk
  injection h3 with h3
  subst h3
  have hret : retOk rs false (fun r' cs'' => r' = rsPV r v' ∧ (false = true → cs'' = [])) S'.st := by
    unfold retOk
    rw [resK_ok h1]
    exact ⟨decR_fz (fun id hid => by cases hid) h2, fun h => by cases h⟩
  rcases he with rfl | rfl <;> exact hret

theorem nz_box {S : KSt U} {id ver : Nat} {cs : List (KV U)} (hb : S.box? id ver = some cs) {R : U.Ty} {s : U.den R} (hd : K.dec R noLk cs = some s) (hN : id < S.N) : (∀ (E : En) (a : Act) (w : World) (L : Nat → Value), Rel E S.st a w L → ∃ L', Rel E { S.st with H := upd S.st.H id ⟨ver, .box (U.pv R s)⟩ } a w L') := by
  intro E a w L h
  obtain ⟨h1, h2⟩ := box_st hb
  have := h.nzbox hN h2
  rw [h1, (cells_nz (K.dec_ok _ _ _ _ hd)).1] at this
  exact ⟨L, this⟩
theorem good_all (K : TK U) (R : U.Ty) (s : U.den R) : (U.pv R s).all PV.closed = true := List.all_eq_true.2 fun y hy => good_closed (K.good R s y hy)

theorem rcK_sound {f : FuncId} {Γ : List (KFun U)} {sa : SA U} {rs : List RV} {pos : Nat} {R : U.Ty} {as : List (ATy U)} {r : RTy U} (hf : FnOk P f nt sa.erase rs) (hok : sa.okc = true) (hlen : 1 + as.length ≤ nt) (hΓ : AllK P Γ)
    {F : U.den R → ADen as → Option (r.den × U.den R)} (hF : ∀ s a, rcK K Γ sa rs pos R as r s a = F s a) : KFun.Sound P (.rc f pos R as r F) := by
  refine ⟨hf.enters, fun s a v s' hv => ?_⟩
  rw [← hF s a] at hv
  refine hf.con (by simpa [asPV_len] using hlen) ?_
  rw [← KSt1_st (K := K)]
  refine (evK_sound hΓ sa [] _ _ _ _ hok hv).post ?_
  rintro e A ⟨S', rfl, hfr, hk⟩
  obtain ⟨he, x, v', h1, h2, h3⟩ := endK_some hk
  split at h3
  case h_2 => cases h3
  rename_i hnc
  split at h3
  · rename_i cs hb
    split at h3
    · rename_i s'' hd
      injection h3 with h3
      injection h3 with h4 h5
      subst h4 h5
      have hN : 0 < S'.N := Nat.lt_of_lt_of_le (show 0 < 1 from Nat.one_pos) hfr.N
      refine ⟨_, nz_box hb hd hN, ?_⟩
      have h6 := resK_ok h1
      have hres : ∀ rs : List RV, noCell0 S' rs = true → resL { S'.st with H := upd S'.st.H 0 ⟨0, .box (U.pv R s'')⟩ } rs = resL S'.st rs := by
        intro rs hrs
        induction rs with
        | nil => rfl
        | cons q rs ih =>
          cases q with
          | tmp t => simp only [noCell0] at hrs; simp only [resL, res1, ih hrs]
          | cell t n =>
            simp only [noCell0, Bool.and_eq_true] at hrs
            have h9 := hrs.1
            split at h9
            · rename_i id ver off ht
              have hne : id ≠ 0 := by intro e; subst e; simp at h9
              have h10 : S'.st.env t = .ptr id ver off := by simp only [KSt.st, ht, KV.pv]
              simp only [resL, res1, h10, upd_ne _ _ hne, ih hrs.2]
            · cases h9
      have hret : retOk rs true (fun r' cs'' => r' = rsPV r v' ∧ (true = true → cs'' = U.pv R s'')) { S'.st with H := upd S'.st.H 0 ⟨0, .box (U.pv R s'')⟩ } := by
        unfold retOk
        have h7 : resPV { S'.st with H := upd S'.st.H 0 ⟨0, .box (U.pv R s'')⟩ } rs = some x.pv := by
          rw [← h6]
          unfold resPV
          have h8 := hres rs hnc
          simp only [h8]
        rw [h7]
        simp only [upd_same]
        refine ⟨good_all K R s'', ?_, by simp⟩
        have hbx := (box?_some hb).2
        rw [← decR_fz (K := K) (S := S') (ex := some 0) (fun id hid => by injection hid with hid; subst hid; intro e k T xs hq; rw [hbx] at hq; cases hq) h2]
        have hz : ∀ (n : Nat) (y : PV), fz (upd S'.st.H 0 ⟨0, .box (U.pv R s'')⟩) (some 0) n y = fz S'.st.H (some 0) n y := by
          intro n
          induction n with
          | zero => intro y; simp only [fz]
          | succ n ih =>
            intro y
            have hu : ∀ id, ¬ (some id = some 0) → upd S'.st.H 0 ⟨0, .box (U.pv R s'')⟩ id = S'.st.H id := fun id hid => upd_ne _ _ (fun e => hid (by rw [e]))
            have hm : fz (upd S'.st.H 0 ⟨0, .box (U.pv R s'')⟩) (some 0) n = fz S'.st.H (some 0) n := funext ih
            cases y with
            | own id ver =>
              simp only [fz, hm]
              by_cases h0 : some id = some 0
              · rw [if_pos (.inl h0), if_pos (.inl h0)]
              · rw [hu id h0]
            | ptr id ver off =>
              simp only [fz, hm]
              by_cases h0 : some id = some 0
              · rw [if_pos (.inl h0), if_pos (.inl h0)]
              · rw [hu id h0]
            | agg cs => simp only [fz, hm]
            | tup cs => simp only [fz, hm]
            | clo f cs => simp only [fz, hm]
            | _ => simp only [fz]
        exact hz 9 x.pv
      rcases he with rfl | rfl <;> exact hret
    · cases h3
  · cases h3

theorem nwK_sound {f : FuncId} {Γ : List (KFun U)} {sa : SA U} {t : Nat} {as : List (ATy U)} {R : U.Ty} (hf : FnOk P f nt sa.erase [.tmp t]) (hok : sa.okc = true) (hlen : as.length ≤ nt) (hΓ : AllK P Γ) {F : ADen as → Option (U.den R)} (hF : ∀ a, nwK K Γ sa [.tmp t] as R a = F a) : KFun.Sound P (.nw f as R F) := by
  refine ⟨hf.enters, fun a s hv => ?_⟩
  rw [← hF a] at hv
  refine hf.conN (by simpa [asPV_len] using hlen) ?_
  rw [← KSt0_st (K := K)]
  intro c hs hc E hE hkt a' w L hr
  refine wpIn_mono (evK_sound hΓ sa [] _ _ _ _ hok hv c hs hc E hE hkt a' w L hr) ?_
  rintro e a2 w2 ⟨A, L2, hrel, S', rfl, _, hk⟩
  split at hk
  · split at hk
    · rename_i id ver hx
      split at hk
      · rename_i cs hb
        have hre : S'.st.env t = .ptr id ver 0 := by
          have := resK_ok hx
          simpa [resPV, resL, res1, KV.pv] using this
        have hN : id < S'.N := by
          have := hrel.env t
          rw [hre] at this
          exact (this.ptr_inv (show (S'.st.gh L2).V id = ver from (box_st hb).1)).1
        obtain ⟨L3, h3⟩ := nz_box hb hk hN E a2 w2 L2 hrel
        refine ⟨_, L3, h3, ?_⟩
        have h7 : resPV { S'.st with H := upd S'.st.H id ⟨ver, .box (U.pv R s)⟩ } [.tmp t] = some (.ptr id ver 0) := by
          simp only [resPV, resL, res1]
          rw [hre]
        simp only [newQ]
        rw [h7]
        simp only [upd_same, if_true]
        exact ⟨good_all K R s, trivial⟩
      · cases hk
    · cases hk
  · cases hk

variable (K)
variable {K}
end
end Go.TQ
