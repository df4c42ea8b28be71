/-
  Code over typed data: its evaluation, and that it is the code's. Conditions: none (generic in the program).
-/
import Derived.Test.YtnhgcpiljggmmaaGreatDoorKit
import Derived.Sort.LoopGhostIn
namespace Go.TQ
open Go.RowKit

/-! ### loops of plain functions -/
def iterO {σ ρ : Type} (step : σ → Option (σ ⊕ ρ)) : Nat → σ → Option ρ
  | 0, _ => none
  | n + 1, s => match step s with
    | none => none
    | some (.inr r) => some r
    | some (.inl s') => iterO step n s'
theorem iterO_mono {σ ρ : Type} {step : σ → Option (σ ⊕ ρ)} {r : ρ} : ∀ {n m : Nat} {s : σ}, n ≤ m → iterO step n s = some r → iterO step m s = some r
  | 0, _, _, _, h => by cases h
  | n + 1, 0, _, hnm, _ => by omega
  | n + 1, m + 1, s, hnm, h => by
    simp only [iterO] at h ⊢
    split at h
    · cases h
    · exact h
    · exact iterO_mono (by omega) h
theorem iterO_det {σ ρ : Type} {step : σ → Option (σ ⊕ ρ)} {r r' : ρ} {n m : Nat} {s : σ} (h : iterO step n s = some r) (h' : iterO step m s = some r') : r = r' := by
  have h1 := iterO_mono (Nat.le_max_left n m) h
  have h2 := iterO_mono (Nat.le_max_right n m) h'
  rw [h1] at h2
  injection h2
open Classical in
noncomputable def loopO {σ ρ : Type} (step : σ → Option (σ ⊕ ρ)) (s : σ) : Option ρ :=
  if h : ∃ r, ∃ n, iterO step n s = some r then some (Classical.choose h) else none
theorem loopO_some {σ ρ : Type} {step : σ → Option (σ ⊕ ρ)} {s : σ} {r : ρ} (h : loopO step s = some r) : ∃ n, iterO step n s = some r := by
  unfold loopO at h
  split at h
  · rename_i hx
    injection h with h
    obtain ⟨n, hn⟩ := Classical.choose_spec hx
    exact ⟨n, by rw [hn, h]⟩
  · cases h
theorem loopO_of {σ ρ : Type} {step : σ → Option (σ ⊕ ρ)} {s : σ} {r : ρ} {n : Nat} (h : iterO step n s = some r) : loopO step s = some r := by
  unfold loopO
  have hx : ∃ r, ∃ n, iterO step n s = some r := ⟨r, n, h⟩
  rw [dif_pos hx]
  obtain ⟨m, hm⟩ := Classical.choose_spec hx
  rw [iterO_det hm h]
theorem loopO_eq {σ ρ : Type} (step : σ → Option (σ ⊕ ρ)) (s : σ) : loopO step s = match step s with | none => none | some (.inr r) => some r | some (.inl s') => loopO step s' := by
  cases hs : step s with
  | none =>
    cases h : loopO step s with
    | none => rfl
    | some r =>
      obtain ⟨n, hn⟩ := loopO_some h
      cases n with
      | zero => cases hn
      | succ n => simp [iterO, hs] at hn
  | some x =>
    cases x with
    | inr r => exact loopO_of (n := 1) (by simp [iterO, hs])
    | inl s' =>
      simp only
      cases h' : loopO step s' with
      | some r =>
        obtain ⟨n, hn⟩ := loopO_some h'
        exact loopO_of (n := n + 1) (by simp only [iterO, hs]; exact hn)
      | none =>
        cases h : loopO step s with
        | none => rfl
        | some r =>
          obtain ⟨n, hn⟩ := loopO_some h
          cases n with
          | zero => cases hn
          | succ n => simp only [iterO, hs] at hn; rw [loopO_of hn] at h'; cases h'
open Classical in
/-- both ways say the same -/
noncomputable def both {ρ : Type} (x y : Option ρ) : Option ρ := if x = y then x else none
theorem both_some {ρ : Type} {x y : Option ρ} {r : ρ} (h : both x y = some r) : x = some r ∧ y = some r := by
  unfold both at h
  split at h
  · rename_i e; exact ⟨h, e ▸ h⟩
  · cases h
@[simp] theorem both_self {ρ : Type} (x : Option ρ) : both x x = x := if_pos rfl
/-- a way that is met -/
def letJ {σ ρ : Type} (j : σ → Option ρ) (f : (σ → Option ρ) → Option ρ) : Option ρ := f j

/-- from last to first, with places -/
def backO {α σ ρ : Type} (step : Nat → α → σ → Option (σ ⊕ ρ)) (fin : σ → Option ρ) : List α → σ → Option ρ
  | [], s => fin s
  | a :: l, s => match step l.length a s with
    | none => none
    | some (.inr r) => some r
    | some (.inl s') => backO step fin l s'

section
variable {U : TU}
/-! ### code with notes -/
inductive SA (U : TU) where
  | skip
  | reg (rs : RS U)
  | drw (un : List (Nat × Nat)) (rs : RS U)
  | seq (x y : SA U)
  | join (J : JS U) (x y : SA U)
  | cond (c : Opd) (x y : SA U)
  | block (id : Nat) (x : SA U)
  | loop (J : JS U) (x : SA U)
  | unr (n : Nat) (x : SA U)
  | back (J : JS U) (f k : Nat) (nE : Option Nat) (T : U.Ty) (tg p0 p1 : Nat) (x y : SA U)
  | exit (id : Nat)
  | ret
  | ps (p : Ps U) (x : SA U)
  | pst (p : Ps U) (x : SA U)
def SA.erase : SA U → SC
  | .skip => .skip
  | .reg rs => .reg rs.flat
  | .drw un rs => .drw un rs.flat
  | .seq x y => .seq x.erase y.erase
  | .join _ x y => .seq x.erase y.erase
  | .cond c x y => .cond c x.erase y.erase
  | .block id x => .block id x.erase
  | .loop _ x => .loop x.erase
  | .unr _ x => .loop x.erase
  | .back _ _ _ _ _ tg p0 p1 x y => .rfn (.tmp tg) [p0, p1] x.erase y.erase
  | .exit id => .exit id
  | .ret => .ret
  | .ps _ x => x.erase
  | .pst _ x => x.erase
def SA.okc : SA U → Bool
  | .reg rs => rs.okc
  | .drw _ rs => rs.okc
  | .seq x y => x.okc && y.okc
  | .join _ x y => x.okc && y.okc
  | .cond c x y => c.okc && x.okc && y.okc
  | .block _ x => x.okc
  | .loop _ x => x.okc
  | .unr _ x => x.okc
  | .back _ _ _ _ _ _ _ _ x y => x.okc && y.okc
  | .ps _ x => x.okc
  | .pst _ x => x.okc
  | _ => true

variable (K : TK U)
def runDK (Γ : List (KFun U)) {ρ : Type} (W : WS) (base : Nat) : RS U → (i : Nat) → (S : KSt U) → (k : KSt U → List Foot → Option ρ) → Option ρ
  | .nil, _, S, k => k S []
  | .op o r, i, S, k => effK K Γ W (base + i) S o fun x wr => runDK Γ W base r (i + 1) (S.app o.d x wr) fun S' fs => k S' (⟨o.d, o.uses, grd (base + i) S.st o, wr.map (·.1)⟩ :: fs)
  | .spl t r, i, S, k => (match S.env t with
    | .bool b => bif b then runDK Γ W base r i (S.app (some t) (.bool true) none) k else runDK Γ W base r i (S.app (some t) (.bool false) none) k
    | .undef => runDK Γ W base r i S k
    | _ => none)
  | _, _, _, _ => none
def offB (F : List Nat) (ds : List Nat) : Bool := ds.all fun t => !memN t F
def KSt.more (S : KSt U) (n : Nat) : KSt U := { env := S.env, H := S.H, N := S.N + n }

/-- what is not set -/
def KSt.dropK (S : KSt U) (D : List Nat) : KSt U := { env := fun t => (match memN t D with | true => .any | false => S.env t), H := S.H, N := S.N }
def nEok (U : TU) (T : U.Ty) : Option Nat → Bool
  | none => !U.agg T
  | some n => U.agg T && Nat.beq n (U.size T)
/-- a loop whose rounds are laid out -/
def unrK {ρ : Type} (f : (KSt U → Option ρ) → KSt U → Option ρ) : Nat → KSt U → Option ρ
  | 0, _ => none
  | n + 1, S => f (unrK f n) S
noncomputable def evK (Γ : List (KFun U)) : SA U → {ρ : Type} → (F : List Nat) → (W : WS) → (k : Exit → KSt U → Option ρ) → (S : KSt U) → Option ρ
  | .skip, _, _, _, k, S => k .normal S
  | .reg rs, _, F, W, k, S => (match offB F rs.dsts with
    | true => runR K Γ rs W S.N (S.more rs.len) fun S' => k .normal S'
    | false => none)
  | .drw un rs, _, F, W, k, S => (match offB F rs.dsts with
    | true => runDK K Γ W S.N rs 0 (S.more rs.len) fun S' fs => (match un.all (fun p => match fs[p.1]?, fs[p.2]? with | some a, some b => indepB a b | _, _ => false) with
      | true => k .normal S'
      | false => none)
    | false => none)
  | .seq x y, _, F, W, k, S => evK Γ x F W (fun e S' => match e with
    | .normal => evK Γ y F W k S'
    | e => k e S') S
  | .join J x y, _, F, W, k, S => (match chkJ S J F W with
    | true => letJ (fun v => evK Γ y F W k (unpack K S J v)) fun j => evK Γ x J.keep (some (S.N, idsOf J.items)) (fun e S' => match e with
      | .normal => (match pack K S' J.items with | some v => j v | none => none)
      | e => k e S') S
    | false => none)
  | .cond c x y, _, F, W, k, S => (match c.kval S with
    | .bool b => bif b then evK Γ x F W k S else evK Γ y F W k S
    | .ubool => both (evK Γ x F W k S) (evK Γ y F W k S)
    | _ => none)
  | .block id x, _, F, W, k, S => evK Γ x F W (fun e S' => match e with
    | .exit i => (match Nat.beq i id with | true => k .normal S' | false => k (.exit i) S')
    | e => k e S') S
  | .loop J x, _, F, W, k, S => (match chkJ S J F W with
    | true => (match pack K S J.items with
      | some v0 => loopO (fun v => evK Γ x J.keep (some (S.N, idsOf J.items)) (fun e S' => match e with
        | .normal => (match pack K S' J.items with | some v => some (Sum.inl v) | none => none)
        | e => (k e S').map Sum.inr) (unpack K S J v)) v0
      | none => none)
    | false => none)
  | .unr n x, _, F, W, k, S => unrK (fun ih S => evK Γ x F W (fun e S' => match e with | .normal => ih S' | e => k e S') S) n S
  | .back J f kk nE T tg p0 p1 x y, _, F, W, k, S =>
    let D := SC.sets (.rfn (.tmp tg) [p0, p1] x.erase y.erase)
    (match hasBk f kk nE Γ && Nat.beq (U.size T) kk && nEok U T nE && memN tg J.keep && offB J.keep D && offB F D && chkJ (S.dropK D) J F W with
    | true => (match S.env tg with
      | .clo f' [.ref [.sl T' xs']] => (match Nat.beq f' f with
        | true => (match castL T' T xs' with
          | some xs => (match pack K (S.dropK D) J.items with
            | some v0 => backO (fun m a v => evK Γ x J.keep (some (S.N, idsOf J.items)) (fun e S1 => match e with
              | .normal => evK Γ y J.keep (some (S.N, idsOf J.items)) (fun e S' => match e with
                | .normal => (match pack K (S'.dropK D) J.items with | some v => some (Sum.inl v) | none => none)
                | .ret => (k .ret (S'.dropK D)).map Sum.inr
                | .exit i => (k (.exit i) (S'.dropK D)).map Sum.inr
                | _ => none) S1
              | _ => none) { (unpack K (S.dropK D) J v) with env := updK (updK (unpack K (S.dropK D) J v).env p0 (.int .i64 m)) p1 (valK K T a) }) (fun v => k .normal (unpack K (S.dropK D) J v)) xs.reverse v0
            | none => none)
          | none => none)
        | false => none)
      | _ => none)
    | false => none)
  | .exit id, _, _, _, k, S => k (.exit id) S
  | .ret, _, _, _, k, S => k .ret S
  | .ps p x, _, F, W, k, S => (match (p.objs S).all (okW W) && offB F p.tmps with
    | true => (match p.run S with | some S' => evK Γ x F W k S' | none => none)
    | false => none)
  | .pst p x, _, F, W, k, S => evK Γ x F W (fun e S' => match e with
    | .normal => (match (p.objs S').all (okW W) && offB F p.tmps with
      | true => (match p.run S' with | some S1 => k .normal S1 | none => none)
      | false => none)
    | e => k e S') S

/-! ### that it is so -/
structure FrmC (F : List Nat) (W : WS) (S S' : KSt U) : Prop where
  env : ∀ t ∈ F, S'.env t = S.env t
  H : ∀ id, okW W id = false → S'.H id = S.H id
  N : S.N ≤ S'.N
theorem FrmC.refl (F : List Nat) (W : WS) (S : KSt U) : FrmC F W S S := ⟨fun _ _ => rfl, fun _ _ => rfl, Nat.le_refl _⟩
theorem FrmC.trans {F : List Nat} {W : WS} {S S' S'' : KSt U} (h : FrmC F W S S') (h' : FrmC F W S' S'') : FrmC F W S S'' :=
  ⟨fun t ht => (h'.env t ht).trans (h.env t ht), fun id hid => (h'.H id hid).trans (h.H id hid), Nat.le_trans h.N h'.N⟩
theorem Frm.toC {D F : List Nat} {W : WS} {S S' : KSt U} (h : Frm D W S S') (ho : offB F D = true) : FrmC F W S S' :=
  ⟨fun t ht => h.env t (fun hd => by have h1 := List.all_eq_true.1 ho t hd; rw [memN_iff.2 ht] at h1; cases h1), h.H, h.N⟩
theorem FrmC.more {F : List Nat} {W : WS} {S S' : KSt U} {n : Nat} (h : FrmC F W (S.more n) S') : FrmC F W S S' :=
  ⟨h.env, h.H, Nat.le_trans (Nat.le_add_right _ _) h.N⟩

variable {K}
variable {P : Program} {nt : Nat}
theorem VS_weak {sc : SC} {Q : Exit → St → Prop} {S S' : St} (hw : ∀ (E : En) (a : Act) (w : World) (L : Nat → Value), Rel E S a w L → ∃ L', Rel E S' a w L') (h : VS P nt sc Q S') : VS P nt sc Q S :=
  fun c hs hc E hE hk a w L hr => by
    obtain ⟨L', h'⟩ := hw E a w L hr
    exact h c hs hc E hE hk a w L' h'

theorem VS_post {sc : SC} {Q Q' : Exit → St → Prop} {S : St} (h : VS P nt sc Q' S) (hq : ∀ e A, Q' e A → ∃ A', Q e A' ∧ ∀ (E : En) (a : Act) (w : World) (L : Nat → Value), Rel E A a w L → ∃ L', Rel E A' a w L') : VS P nt sc Q S :=
  fun c hs hc E hE hk a w L hr => wpIn_mono (h c hs hc E hE hk a w L hr) fun _ _ _ ⟨S', L', h1, h2⟩ => by
    obtain ⟨A', h3, h4⟩ := hq _ _ h2
    obtain ⟨L'', h5⟩ := h4 _ _ _ _ h1
    exact ⟨A', L'', h5, h3⟩
theorem VS_regK {Γ : List (KFun U)} (hΓ : AllK P Γ) {rs : RS U} {W : WS} {ρ : Type} {k : KSt U → Option ρ} {r : ρ} {S : KSt U} (hok : rs.okc = true) (hr : runR K Γ rs W S.N (S.more rs.len) k = some r) {Q : Exit → St → Prop}
    (h : ∀ S', Frm rs.dsts W (S.more rs.len) S' → k S' = some r → Q .normal S'.st) : VS P nt (.reg rs.flat) Q S.st := by
  intro c hs hc
  cases c with
  | region id ops d =>
    cases d with
    | true => simp only [ccode] at hc; (try split at hc) <;> (try split at hc) <;> (try split at hc) <;> cases hc
    | false =>
      simp only [ccode] at hc
      split at hc
      · rename_i gs' hgs
        split at hc
        · rename_i hd
          injection hc with hc
          injection hc with hc
          subst hc
          intro E hE hk a w L hrel
          refine wpIn_region_list ?_
          have h0 : Rel E (S.more rs.len).st a w L := hrel.room rs.len
          have := runR_sound (K := K) (E := E) hΓ (ops := ops) (Q := fun e a' w' => ∃ S' L', Rel E S' a' w' L' ∧ Q e S') rs W S.N (S.more rs.len) k r ops.toList [] a w L hok hgs h0 (Nat.le_refl _) (can_of hE hk (dst_lt hd)) hr (fun S' a' w' L' hf h' hk' => ⟨S'.st, L', h', h S' hf hk'⟩)
          simpa using this
        · cases hc
      · cases hc
  | seq x y => simp only [ccode] at hc; split at hc <;> cases hc
  | cond c x y => simp only [ccode] at hc; split at hc <;> cases hc
  | block id c => simp only [ccode, Option.map_eq_some_iff] at hc; obtain ⟨_, _, hc⟩ := hc; cases hc
  | loop c => simp only [ccode, Option.map_eq_some_iff] at hc; obtain ⟨_, _, hc⟩ := hc; cases hc
  | rangeFunc g ps x y => simp only [ccode] at hc; split at hc <;> (try split at hc) <;> cases hc
  | _ => simp only [ccode] at hc <;> cases hc

theorem runF_congr {Γs Γs' : Nat → Tab} {base : Nat} : ∀ (l : List (Nat × SG)) (S : St), (∀ p ∈ l, Γs p.1 = Γs' p.1) → runF Γs base l S = runF Γs' base l S
  | [], _, _ => rfl
  | (i, g) :: l, S, h => by
    simp only [runF, h (i, g) (by simp)]
    split
    · rfl
    · rename_i p hp
      rw [runF_congr l _ fun q hq => h q (List.mem_cons_of_mem _ hq)]
theorem runDK_sound {Γ : List (KFun U)} (hΓ : AllK P Γ) {W : WS} {base : Nat} {ρ : Type} {r : ρ} : ∀ (rs : RS U) (i : Nat) (S : KSt U) (k : KSt U → List Foot → Option ρ), rs.okc = true → runDK K Γ W base rs i S k = some r →
    ∃ (Γs : Nat → Tab) (S' : KSt U) (fs : List Foot), (∀ j, TabOk P (Γs j)) ∧ runF Γs base ((rs.flat.zipIdx i).map fun p => (p.2, p.1)) S.st = some (S'.st, fs) ∧ Frm rs.dsts W S S' ∧ k S' fs = some r
  | .nil, i, S, k, _, h => ⟨fun _ _ => none, S, [], fun _ => noTab, rfl, Frm.refl _ _ _, h⟩
  | .op o rs, i, S, k, hok, h => by
    simp only [RS.okc, Bool.and_eq_true] at hok
    simp only [runDK] at h
    obtain ⟨Γ', x, wr, h1, h2, h3, h4⟩ := effK_sound hΓ hok.1 h
    obtain ⟨Γs, S', fs, h5, h6, h7, h8⟩ := runDK_sound hΓ rs (i + 1) _ _ hok.2 h4
    refine ⟨fun j => if j = i then Γ' else Γs j, S', _, fun j => ?_, ?_, ?_, h8⟩
    · simp only
      split
      · exact h1
      · exact h5 j
    · simp only [RS.flat, List.zipIdx_cons, List.map_cons, runF, if_true, h2]
      have : runF (fun j => if j = i then Γ' else Γs j) base ((rs.flat.zipIdx (i + 1)).map fun p => (p.2, p.1)) (S.st.app o.d x.pv (wr.map objpv)) = some (S'.st, fs) := by
        rw [← st_app, ← h6]
        refine runF_congr _ _ fun p hp => ?_
        obtain ⟨q, hq, rfl⟩ := List.mem_map.1 hp
        have := List.mem_zipIdx hq
        simp only
        rw [if_neg (by omega)]
      rw [this]
      simp only [fpOf]
      cases wr with
      | none => rfl
      | some p => rfl
    · refine (app_frm S W o.d x wr h3).trans h7 fun t ht => ?_
      simp only [RS.dsts] at ht
      cases hdd : o.d with
      | none => rw [hdd] at ht; exact ⟨by simp, ht⟩
      | some d => rw [hdd] at ht; simp only [List.mem_cons, not_or] at ht; exact ⟨by simpa using fun e => ht.1 e, ht.2⟩
  | .spl t rs, i, S, k, hok, h => by
    simp only [runDK] at h
    split at h
    · rename_i b hb
      cases b with
      | true => rw [cond_true, app_self hb] at h; exact runDK_sound hΓ rs i S k hok h
      | false => rw [cond_false, app_self hb] at h; exact runDK_sound hΓ rs i S k hok h
    · exact runDK_sound hΓ rs i S k hok h
    · cases h
  | .ps _ _, _, _, _, _, h => by cases h
  | .ite _ _ _ _ _ _ _ _, _, _, _, _, h => by cases h
  | .two _ _ _ _ _, _, _, _, _, h => by cases h
  | .pr _ _ _ _ _ _, _, _, _, _, h => by cases h

theorem V_loopW {c : Code} {Q : Exit → St → Prop} {S : St} (I : Nat → St → Prop) (m0 : Nat) {S0 : St} (hw0 : ∀ (E : En) (a : Act) (w : World) (L : Nat → Value), Rel E S a w L → ∃ L', Rel E S0 a w L') (h0 : I m0 S0)
    (hr : ∀ m S, I m S → V P nt c (fun e S' => match e with | .normal => ∃ m', m' < m ∧ ∃ S'', (∀ (E : En) (a : Act) (w : World) (L : Nat → Value), Rel E S' a w L → ∃ L', Rel E S'' a w L') ∧ I m' S'' | e => Q e S') S) : V P nt (.loop c) Q S := fun E hE hk a w L hrel => by
  refine wpIn_loop_ghost (fun m a w => ∃ S L, I m S ∧ Rel E S a w L) m0 ?_ ?_
  · obtain ⟨L', h'⟩ := hw0 E a w L hrel
    exact ⟨S0, L', h0, h'⟩
  rintro m a w ⟨S1, L1, hI, h1⟩
  refine wpIn_mono (hr m S1 hI E hE hk a w L1 h1) ?_
  rintro e a' w' ⟨S', L', h2, h3⟩
  cases e with
  | normal =>
    obtain ⟨m', hlt, S'', hw, hI'⟩ := h3
    obtain ⟨L'', h4⟩ := hw E a' w' L' h2
    exact ⟨m', hlt, S'', L'', hI', h4⟩
  | exit i => exact ⟨S', L', h2, h3⟩
  | goto l => exact ⟨S', L', h2, h3⟩
  | ret => exact ⟨S', L', h2, h3⟩
  | panic c => exact ⟨S', L', h2, h3⟩
  | outgrown => exact ⟨S', L', h2, h3⟩
theorem VS_loopW {x : SC} {Q : Exit → St → Prop} {S : St} (I : Nat → St → Prop) (m0 : Nat) {S0 : St} (hw0 : ∀ (E : En) (a : Act) (w : World) (L : Nat → Value), Rel E S a w L → ∃ L', Rel E S0 a w L') (h0 : I m0 S0)
    (hr : ∀ m S, I m S → VS P nt x (fun e S' => match e with | .normal => ∃ m', m' < m ∧ ∃ S'', (∀ (E : En) (a : Act) (w : World) (L : Nat → Value), Rel E S' a w L → ∃ L', Rel E S'' a w L') ∧ I m' S'' | e => Q e S') S) : VS P nt (.loop x) Q S := by
  intro c hs hc
  cases c with
  | loop p =>
    simp only [ccode, Option.map_eq_some_iff] at hc
    obtain ⟨x', hx, hc⟩ := hc
    injection hc with h1
    subst h1
    exact V_loopW I m0 hw0 h0 (fun m S hI => hr m S hI p hs hx)
  | region id ops d => cases d <;> simp only [ccode] at hc <;> (try split at hc) <;> (try split at hc) <;> (try split at hc) <;> cases hc
  | seq x y => simp only [ccode] at hc; split at hc <;> cases hc
  | cond c x y => simp only [ccode] at hc; split at hc <;> cases hc
  | block id c => simp only [ccode, Option.map_eq_some_iff] at hc; obtain ⟨_, _, hc⟩ := hc; cases hc
  | rangeFunc g ps x y => simp only [ccode] at hc; split at hc <;> (try split at hc) <;> cases hc
  | _ => simp only [ccode] at hc <;> cases hc

/-- a state where ways meet, seen from where they part -/
theorem meet_frm {S : KSt U} {J : JS U} {F : List Nat} {W : WS} (hchk : chkJ S J F W = true) (v : IDen J.items) : FrmC F W S (unpack K S J v) := by
  simp only [chkJ, Bool.and_eq_true, List.all_eq_true] at hchk
  obtain ⟨⟨⟨⟨⟨⟨hnd, hids⟩, hokv⟩, hkeep⟩, hobj⟩, hF⟩, hW⟩ := hchk
  refine ⟨fun t ht => ?_, fun id hid => ?_, ?_⟩
  · have hk := memN_iff.1 (hF t ht)
    have hns : memN t (slotsOf J.items) = false := by simpa using (hkeep t hk).2
    rcases putIs_env (K := K) (S.base J.keep) J.items v t with ⟨⟨i, d⟩, hmem, h1, h2⟩ | ⟨_, h2⟩
    · exact absurd (mem_slots (pair_mem hmem) h1) (memN_not hns)
    · rw [show (unpack K S J v).env t = _ from h2, base_env, if_pos hk]
  · have hlt : id < S.N := by
      cases W with
      | none => cases hW
      | some q =>
        obtain ⟨n, l⟩ := q
        simp only at hW
        simp only [okW, Bool.or_eq_false_iff] at hid
        have h1 := Nat.le_of_ble_eq_true hW
        have h2 : ¬ n ≤ id := fun hle => by rw [Nat.ble_eq_true_of_le hle] at hid; cases hid.1
        omega
    rcases putIs_H (K := K) (S.base J.keep) J.items v id hnd with ⟨⟨i, d⟩, hmem, h1, h2⟩ | ⟨_, h2⟩
    · have := (hids id (mem_ids (pair_mem hmem) h1)).2
      rw [hid] at this
      cases this
    · rw [show (unpack K S J v).H id = _ from h2, base_H, if_pos hlt]
  · rw [unpack, putIs_N, base_N]
    exact Nat.le_refl _
theorem meet_weak {S S1 : KSt U} {J : JS U} {F : List Nat} {W : WS} (hchk : chkJ S J F W = true) {v : IDen J.items} (hp : pack K S1 J.items = some v) (hf : FrmC J.keep (some (S.N, idsOf J.items)) S S1) :
    ∀ (E : En) (a : Act) (w : World) (L : Nat → Value), Rel E S1.st a w L → ∃ L', Rel E (unpack K S J v).st a w L' := by
  intro E a w L h
  refine ⟨L, Rel.meet hchk hp hf.env (fun id hid hni => hf.H id ?_) hf.N h⟩
  simp only [okW, Bool.or_eq_false_iff]
  refine ⟨?_, ?_⟩
  · cases hb : Nat.ble S.N id with
    | false => rfl
    | true => have := Nat.le_of_ble_eq_true hb; omega
  · cases hb : memN id (idsOf J.items) with
    | false => rfl
    | true => exact absurd (memN_iff.1 hb) hni

theorem st_dropK (S : KSt U) (D : List Nat) : (S.dropK D).st = S.st.dropT D := by
  unfold KSt.dropK KSt.st St.dropT
  congr 1
  funext t
  simp only
  by_cases h : t ∈ D
  · rw [if_pos h, memN_iff.2 h]
    rfl
  · rw [if_neg h]
    cases hb : memN t D with
    | true => exact absurd (memN_iff.1 hb) h
    | false => rfl
theorem drop_frm {F D : List Nat} (h : offB F D = true) (W : WS) (S : KSt U) : FrmC F W S (S.dropK D) :=
  ⟨fun t ht => by
    have hn : memN t D = false := by
      cases hb : memN t D with
      | false => rfl
      | true =>
        have := List.all_eq_true.1 h t (memN_iff.1 hb)
        rw [memN_iff.2 ht] at this
        cases this
    simp only [KSt.dropK, hn], fun _ _ => rfl, Nat.le_refl _⟩
theorem loop_sub {S : KSt U} {J : JS U} {F : List Nat} {W : WS} (hchk : chkJ S J F W = true) (v : IDen J.items) {S' : KSt U} (hf : FrmC J.keep (some (S.N, idsOf J.items)) (unpack K S J v) S') : FrmC F W S S' := by
  have hm := meet_frm (K := K) hchk v
  refine hm.trans ?_
  simp only [chkJ, Bool.and_eq_true, List.all_eq_true] at hchk
  obtain ⟨⟨⟨⟨⟨⟨hnd, hids⟩, hokv⟩, hkeep⟩, hobj⟩, hF⟩, hW⟩ := hchk
  refine ⟨fun t ht => hf.env t (memN_iff.1 (hF t ht)), fun id hid => hf.H id ?_, hf.N⟩
  simp only [okW, Bool.or_eq_false_iff]
  refine ⟨?_, ?_⟩
  · cases W with
    | none => cases hW
    | some q =>
      obtain ⟨n, l⟩ := q
      simp only at hW
      simp only [okW, Bool.or_eq_false_iff] at hid
      have h1 := Nat.le_of_ble_eq_true hW
      cases hb : Nat.ble S.N id with
      | false => rfl
      | true => have := Nat.le_of_ble_eq_true hb; rw [Nat.ble_eq_true_of_le (Nat.le_trans h1 this)] at hid; cases hid.1
  · cases hb : memN id (idsOf J.items) with
    | false => rfl
    | true => have := (hids id (memN_iff.1 hb)).2; rw [hid] at this; cases this
theorem loop_keep {S : KSt U} {J : JS U} {F : List Nat} {W : WS} (hchk : chkJ S J F W = true) (v : IDen J.items) {t : Nat} (ht : t ∈ J.keep) : (unpack K S J v).env t = S.env t := by
  simp only [chkJ, Bool.and_eq_true, List.all_eq_true] at hchk
  obtain ⟨⟨⟨⟨⟨⟨hnd, hids⟩, hokv⟩, hkeep⟩, hobj⟩, hF⟩, hW⟩ := hchk
  have hns : memN t (slotsOf J.items) = false := by simpa using (hkeep t ht).2
  rcases putIs_env (K := K) (S.base J.keep) J.items v t with ⟨⟨i, d⟩, hmem, h1, h2⟩ | ⟨_, h2⟩
  · exact absurd (mem_slots (pair_mem hmem) h1) (memN_not hns)
  · rw [show (unpack K S J v).env t = _ from h2, base_env, if_pos ht]
/-- a state at the loop's head is unpacked again as it was -/
theorem loop_self {S : KSt U} {J : JS U} {F : List Nat} {W : WS} (hchk : chkJ S J F W = true) (v : IDen J.items) {S' : KSt U} (hf : FrmC J.keep (some (S.N, idsOf J.items)) (unpack K S J v) S') {v' : IDen J.items} (hv' : pack K S' J.items = some v') :
    ∀ (E : En) (a : Act) (w : World) (L : Nat → Value), Rel E S'.st a w L → ∃ L', Rel E (unpack K S J v').st a w L' := by
  intro E a w L hrel
  have hkp := fun {t} ht => loop_keep (K := K) hchk v (t := t) ht
  have hc := hchk
  simp only [chkJ, Bool.and_eq_true, List.all_eq_true] at hc
  obtain ⟨⟨⟨⟨⟨⟨hnd, hids⟩, hokv⟩, hkeep⟩, hobj⟩, hF⟩, hW⟩ := hc
  refine ⟨L, Rel.meet hchk hv' (fun t ht => (hf.env t ht).trans (hkp ht)) (fun id hid hni => (hf.H id ?_).trans ?_) (by have := hf.N; rw [unpack, putIs_N, base_N] at this; exact this) hrel⟩
  · simp only [okW, Bool.or_eq_false_iff]
    refine ⟨?_, ?_⟩
    · cases hb : Nat.ble S.N id with
      | false => rfl
      | true => have := Nat.le_of_ble_eq_true hb; omega
    · cases hb : memN id (idsOf J.items) with
      | false => rfl
      | true => exact absurd (memN_iff.1 hb) hni
  · rcases putIs_H (K := K) (S.base J.keep) J.items v id hnd with ⟨⟨i, d⟩, hmem, h1, h2⟩ | ⟨_, h2⟩
    · exact absurd (mem_ids (pair_mem hmem) h1) hni
    · rw [show (unpack K S J v).H id = _ from h2, base_H, if_pos hid]
theorem backIn_K {T : U.Ty} {k : Nat} {nE : Option Nat} (hsz : U.size T = k) (hnE : nEok U T nE = true) (xs : List (U.den T)) : BackIn k nE (xs.map (U.pv T)) ∧ ∀ a : U.den T, evB nE (U.pv T a) = (valK K T a).pv := by
  have key : ∀ a : U.den T, ldn nE (U.pv T a) = some (valPV T a) := by
    intro a
    unfold valPV
    cases nE with
    | none =>
      simp only [nEok, Bool.not_eq_true'] at hnE
      have h1 := K.len T a
      rw [K.one T hnE] at h1
      rw [hnE]
      match h2 : U.pv T a with
      | [] => rw [h2] at h1; cases h1
      | x :: l => rfl
    | some n =>
      simp only [nEok, Bool.and_eq_true] at hnE
      have h1 := Nat.eq_of_beq_eq_true hnE.2
      subst h1
      rw [hnE.1, ldn, if_pos (by rw [K.len]; exact Nat.le_refl _), ← K.len T a, List.take_length]
  have hev : ∀ a : U.den T, evB nE (U.pv T a) = valPV T a := fun a => by simp only [evB, key, Option.getD_some]
  refine ⟨⟨fun e he => ?_, fun e he => ?_, fun e he => ?_⟩, fun a => by rw [hev, valK_pv]⟩
  · obtain ⟨a, _, rfl⟩ := List.mem_map.1 he
    rw [K.len, hsz]
  · obtain ⟨a, _, rfl⟩ := List.mem_map.1 he
    rw [hev, key]
  · obtain ⟨a, _, rfl⟩ := List.mem_map.1 he
    rw [hev]
    unfold valPV
    split
    · exact List.all_eq_true.2 fun y hy => good_closed (K.good T a y hy)
    · cases h2 : U.pv T a with
      | nil => have := K.len T a; rename_i hag; rw [K.one T hag, h2] at this; cases this
      | cons x l =>
        have h3 := good_closed (K.good T a x (by rw [h2]; exact List.mem_cons_self))
        have h4 := K.good T a x (by rw [h2]; exact List.mem_cons_self)
        cases x <;> first | exact h3 | (cases h4)

theorem evK_sound {Γ : List (KFun U)} (hΓ : AllK P Γ) : ∀ (sa : SA U) {ρ : Type} (F : List Nat) (W : WS) (k : Exit → KSt U → Option ρ) (S : KSt U) (r : ρ), sa.okc = true → evK K Γ sa F W k S = some r →
    VS P nt sa.erase (fun e A => ∃ S', A = S'.st ∧ FrmC F W S S' ∧ k e S' = some r) S.st
  | .skip, ρ, F, W, k, S, r, hok, h => VS_skip ⟨S, rfl, FrmC.refl _ _ _, h⟩
  | .exit id, ρ, F, W, k, S, r, hok, h => VS_exit ⟨S, rfl, FrmC.refl _ _ _, h⟩
  | .ret, ρ, F, W, k, S, r, hok, h => VS_ret ⟨S, rfl, FrmC.refl _ _ _, h⟩
  | .reg rs, ρ, F, W, k, S, r, hok, h => by
    simp only [evK] at h
    split at h
    · rename_i ho
      exact VS_regK hΓ hok h fun S' hf hk => ⟨S', rfl, (hf.toC ho).more, hk⟩
    · cases h
  | .drw un rs, ρ, F, W, k, S, r, hok, h => by
    simp only [evK] at h
    split at h
    · rename_i ho
      obtain ⟨Γs, S', fs, h1, h2, h3, h4⟩ := runDK_sound hΓ rs 0 _ _ hok h
      split at h4
      · rename_i hun
        refine VS_drw h1 (S' := S'.st) ?_ ⟨S', rfl, (h3.toC ho).more, h4⟩
        rw [RS.len_flat]
        have e : ({ S.st with N := S.st.N + rs.len } : St) = (S.more rs.len).st := rfl
        rw [e, runD]
        rw [show S.st.N = S.N from rfl, h2]
        exact if_pos hun
      · cases h4
    · cases h
  | .seq x y, ρ, F, W, k, S, r, hok, h => by
    simp only [SA.okc, Bool.and_eq_true] at hok
    refine VS_seq ((evK_sound hΓ x F W _ S r hok.1 h).mono ?_)
    rintro e A ⟨S', rfl, hf, hk⟩
    cases e with
    | normal => exact (evK_sound hΓ y F W k S' r hok.2 hk).mono fun e A ⟨S'', h1, h2, h3⟩ => ⟨S'', h1, hf.trans h2, h3⟩
    | exit i => exact ⟨S', rfl, hf, hk⟩
    | goto l => exact ⟨S', rfl, hf, hk⟩
    | ret => exact ⟨S', rfl, hf, hk⟩
    | panic c => exact ⟨S', rfl, hf, hk⟩
    | outgrown => exact ⟨S', rfl, hf, hk⟩
  | .join J x y, ρ, F, W, k, S, r, hok, h => by
    simp only [SA.okc, Bool.and_eq_true] at hok
    simp only [evK] at h
    split at h
    · rename_i hchk
      unfold letJ at h
      have hsub : ∀ S', FrmC J.keep (some (S.N, idsOf J.items)) S S' → FrmC F W S S' := by
        intro S' hf
        simp only [chkJ, Bool.and_eq_true, List.all_eq_true] at hchk
        obtain ⟨⟨⟨⟨⟨⟨hnd, hids⟩, hokv⟩, hkeep⟩, hobj⟩, hF⟩, hW⟩ := hchk
        refine ⟨fun t ht => hf.env t (memN_iff.1 (hF t ht)), fun id hid => hf.H id ?_, hf.N⟩
        simp only [okW, Bool.or_eq_false_iff]
        refine ⟨?_, ?_⟩
        · cases W with
          | none => cases hW
          | some q =>
            obtain ⟨n, l⟩ := q
            simp only at hW
            simp only [okW, Bool.or_eq_false_iff] at hid
            have h1 := Nat.le_of_ble_eq_true hW
            cases hb : Nat.ble S.N id with
            | false => rfl
            | true => have := Nat.le_of_ble_eq_true hb; rw [Nat.ble_eq_true_of_le (Nat.le_trans h1 this)] at hid; cases hid.1
        · cases hb : memN id (idsOf J.items) with
          | false => rfl
          | true => have := (hids id (memN_iff.1 hb)).2; rw [hid] at this; cases this
      refine VS_seq ((evK_sound hΓ x J.keep _ _ S r hok.1 h).mono ?_)
      rintro e A ⟨S', rfl, hf, hk⟩
      cases e with
      | normal =>
        simp only at hk
        split at hk
        · rename_i v hv
          refine VS_weak (meet_weak hchk hv hf) ?_
          exact (evK_sound hΓ y F W k _ r hok.2 hk).mono fun e A ⟨S'', h1, h2, h3⟩ => ⟨S'', h1, (meet_frm hchk v).trans h2, h3⟩
        · cases hk
      | exit i => exact ⟨S', rfl, hsub S' hf, hk⟩
      | goto l => exact ⟨S', rfl, hsub S' hf, hk⟩
      | ret => exact ⟨S', rfl, hsub S' hf, hk⟩
      | panic c => exact ⟨S', rfl, hsub S' hf, hk⟩
      | outgrown => exact ⟨S', rfl, hsub S' hf, hk⟩
    · cases h
  | .cond c x y, ρ, F, W, k, S, r, hok, h => by
    simp only [SA.okc, Bool.and_eq_true] at hok
    simp only [evK] at h
    split at h
    · rename_i b hb
      have hv : c.val S.st = .bool b := by rw [kval_pv hok.1.1, hb]; rfl
      refine VS_cond hv ?_
      cases b with
      | true => exact evK_sound hΓ x F W k S r hok.1.2 h
      | false => exact evK_sound hΓ y F W k S r hok.2 h
    · rename_i hb
      have hv : c.val S.st = .ubool := by rw [kval_pv hok.1.1, hb]; rfl
      obtain ⟨h1, h2⟩ := both_some h
      exact VS_condU hv (evK_sound hΓ x F W k S r hok.1.2 h1) (evK_sound hΓ y F W k S r hok.2 h2)
    · cases h
  | .block id x, ρ, F, W, k, S, r, hok, h => by
    refine VS_block ((evK_sound hΓ x F W _ S r hok h).mono ?_)
    rintro e A ⟨S', rfl, hf, hk⟩
    cases e with
    | exit i =>
      simp only at hk
      simp only [blockQ]
      split at hk
      · rename_i hi; rw [if_pos (Nat.eq_of_beq_eq_true hi)]; exact ⟨S', rfl, hf, hk⟩
      · rename_i hi; rw [if_neg (Nat.ne_of_beq_eq_false hi)]; exact ⟨S', rfl, hf, hk⟩
    | normal => exact ⟨S', rfl, hf, hk⟩
    | goto l => exact ⟨S', rfl, hf, hk⟩
    | ret => exact ⟨S', rfl, hf, hk⟩
    | panic c => exact ⟨S', rfl, hf, hk⟩
    | outgrown => exact ⟨S', rfl, hf, hk⟩
  | .loop J x, ρ, F, W, k, S, r, hok, h => by
    simp only [evK] at h
    split at h
    · rename_i hchk
      split at h
      · rename_i v0 hv0
        have hsub : ∀ v S', FrmC J.keep (some (S.N, idsOf J.items)) (unpack K S J v) S' → FrmC F W S S' := by
          intro v S' hf
          have hm := meet_frm (K := K) hchk v
          refine hm.trans ?_
          simp only [chkJ, Bool.and_eq_true, List.all_eq_true] at hchk
          obtain ⟨⟨⟨⟨⟨⟨hnd, hids⟩, hokv⟩, hkeep⟩, hobj⟩, hF⟩, hW⟩ := hchk
          refine ⟨fun t ht => hf.env t (memN_iff.1 (hF t ht)), fun id hid => hf.H id ?_, hf.N⟩
          simp only [okW, Bool.or_eq_false_iff]
          refine ⟨?_, ?_⟩
          · cases W with
            | none => cases hW
            | some q =>
              obtain ⟨n, l⟩ := q
              simp only at hW
              simp only [okW, Bool.or_eq_false_iff] at hid
              have h1 := Nat.le_of_ble_eq_true hW
              cases hb : Nat.ble S.N id with
              | false => rfl
              | true => have := Nat.le_of_ble_eq_true hb; rw [Nat.ble_eq_true_of_le (Nat.le_trans h1 this)] at hid; cases hid.1
          · cases hb : memN id (idsOf J.items) with
            | false => rfl
            | true => have := (hids id (memN_iff.1 hb)).2; rw [hid] at this; cases this
        -- a state at the loop's head is unpacked again as it was
        have hself : ∀ v S', FrmC J.keep (some (S.N, idsOf J.items)) (unpack K S J v) S' → ∀ v', pack K S' J.items = some v' → ∀ (E : En) (a : Act) (w : World) (L : Nat → Value), Rel E S'.st a w L → ∃ L', Rel E (unpack K S J v').st a w L' := by
          intro v S' hf v' hv' E a w L hrel
          have hc := hchk
          simp only [chkJ, Bool.and_eq_true, List.all_eq_true] at hc
          obtain ⟨⟨⟨⟨⟨⟨hnd, hids⟩, hokv⟩, hkeep⟩, hobj⟩, hF⟩, hW⟩ := hc
          refine ⟨L, Rel.meet hchk hv' (fun t ht => (hf.env t ht).trans ?_) (fun id hid hni => (hf.H id ?_).trans ?_) (by have := hf.N; rw [unpack, putIs_N, base_N] at this; exact this) hrel⟩
          · have hns : memN t (slotsOf J.items) = false := by simpa using (hkeep t ht).2
            rcases putIs_env (K := K) (S.base J.keep) J.items v t with ⟨⟨i, d⟩, hmem, h1, h2⟩ | ⟨_, h2⟩
            · exact absurd (mem_slots (pair_mem hmem) h1) (memN_not hns)
            · rw [show (unpack K S J v).env t = _ from h2, base_env, if_pos ht]
          · simp only [okW, Bool.or_eq_false_iff]
            refine ⟨?_, ?_⟩
            · cases hb : Nat.ble S.N id with
              | false => rfl
              | true => have := Nat.le_of_ble_eq_true hb; omega
            · cases hb : memN id (idsOf J.items) with
              | false => rfl
              | true => exact absurd (memN_iff.1 hb) hni
          · rcases putIs_H (K := K) (S.base J.keep) J.items v id hnd with ⟨⟨i, d⟩, hmem, h1, h2⟩ | ⟨_, h2⟩
            · exact absurd (mem_ids (pair_mem hmem) h1) hni
            · rw [show (unpack K S J v).H id = _ from h2, base_H, if_pos hid]
        obtain ⟨n, hn⟩ := loopO_some h
        refine VS_loopW (fun m A => ∃ v, A = (unpack K S J v).st ∧ iterO (fun v => evK K Γ x J.keep (some (S.N, idsOf J.items)) (fun e S' => match e with
          | .normal => (match pack K S' J.items with | some v => some (Sum.inl v) | none => none)
          | e => (k e S').map Sum.inr) (unpack K S J v)) m v = some r) n (meet_weak hchk hv0 (FrmC.refl _ _ _)) ⟨v0, rfl, hn⟩ ?_
        rintro m A ⟨v, rfl, hm⟩
        cases m with
        | zero => cases hm
        | succ m =>
          simp only [iterO] at hm
          split at hm
          · cases hm
          · rename_i r' hs
            injection hm with hm
            subst hm
            refine (evK_sound hΓ x J.keep _ _ _ _ hok hs).mono ?_
            rintro e A ⟨S', rfl, hf, hk⟩
            cases e with
            | normal =>
              simp only at hk
              split at hk <;> cases hk
            | exit i => simp only [Option.map_eq_some_iff] at hk; obtain ⟨q, hq, e⟩ := hk; injection e with e; subst e; exact ⟨S', rfl, hsub v S' hf, hq⟩
            | goto l => simp only [Option.map_eq_some_iff] at hk; obtain ⟨q, hq, e⟩ := hk; injection e with e; subst e; exact ⟨S', rfl, hsub v S' hf, hq⟩
            | ret => simp only [Option.map_eq_some_iff] at hk; obtain ⟨q, hq, e⟩ := hk; injection e with e; subst e; exact ⟨S', rfl, hsub v S' hf, hq⟩
            | panic c => simp only [Option.map_eq_some_iff] at hk; obtain ⟨q, hq, e⟩ := hk; injection e with e; subst e; exact ⟨S', rfl, hsub v S' hf, hq⟩
            | outgrown => simp only [Option.map_eq_some_iff] at hk; obtain ⟨q, hq, e⟩ := hk; injection e with e; subst e; exact ⟨S', rfl, hsub v S' hf, hq⟩
          · rename_i v' hs
            refine (evK_sound hΓ x J.keep _ _ _ _ hok hs).mono ?_
            rintro e A ⟨S', rfl, hf, hk⟩
            cases e with
            | normal =>
              simp only at hk
              split at hk
              · rename_i v1 hv1
                injection hk with hk
                injection hk with hk
                subst hk
                exact ⟨m, Nat.lt_succ_self m, _, hself v S' hf v1 hv1, v1, rfl, hm⟩
              · cases hk
            | exit i => simp only [Option.map_eq_some_iff] at hk; obtain ⟨q, hq, e⟩ := hk; cases e
            | goto l => simp only [Option.map_eq_some_iff] at hk; obtain ⟨q, hq, e⟩ := hk; cases e
            | ret => simp only [Option.map_eq_some_iff] at hk; obtain ⟨q, hq, e⟩ := hk; cases e
            | panic c => simp only [Option.map_eq_some_iff] at hk; obtain ⟨q, hq, e⟩ := hk; cases e
            | outgrown => simp only [Option.map_eq_some_iff] at hk; obtain ⟨q, hq, e⟩ := hk; cases e
      · cases h
    · cases h
  | .unr n x, ρ, F, W, k, S, r, hok, h => by
    simp only [evK] at h
    have ⟨g, hg, h⟩ := (⟨_, rfl, h⟩ : ∃ g, g = _ ∧ unrK g n S = some r)
    refine VS_loopW (fun m A => ∃ S1 : KSt U, A = S1.st ∧ FrmC F W S S1 ∧ unrK g m S1 = some r) n (fun E a w L h => ⟨L, h⟩) ⟨S, rfl, FrmC.refl _ _ _, h⟩ ?_
    rintro m A ⟨S1, rfl, hf1, hm⟩
    cases m with
    | zero => cases hm
    | succ m =>
      simp only [unrK] at hm
      rw [hg] at hm
      simp only at hm
      rw [← hg] at hm
      refine (evK_sound hΓ x F W _ S1 r hok hm).mono ?_
      rintro e A ⟨S', rfl, hf, hk⟩
      cases e with
      | normal => exact ⟨m, Nat.lt_succ_self m, S'.st, fun E a w L h => ⟨L, h⟩, S', rfl, hf1.trans hf, hk⟩
      | exit i => exact ⟨S', rfl, hf1.trans hf, hk⟩
      | goto l => exact ⟨S', rfl, hf1.trans hf, hk⟩
      | ret => exact ⟨S', rfl, hf1.trans hf, hk⟩
      | panic c => exact ⟨S', rfl, hf1.trans hf, hk⟩
      | outgrown => exact ⟨S', rfl, hf1.trans hf, hk⟩
  | .back J f kk nE T tg p0 p1 x y, ρ, F, W, k, S, r, hok, h => by
    simp only [SA.okc, Bool.and_eq_true] at hok
    simp only [evK] at h
    obtain ⟨D, hD⟩ : ∃ D, SC.sets (.rfn (.tmp tg) [p0, p1] x.erase y.erase) = D := ⟨_, rfl⟩
    rw [hD] at h
    split at h
    · rename_i hcond
      simp only [Bool.and_eq_true] at hcond
      obtain ⟨⟨⟨⟨⟨⟨hbk, hsz⟩, hnE⟩, htk⟩, hkD⟩, hFD⟩, hchk⟩ := hcond
      have hsz := Nat.eq_of_beq_eq_true hsz
      have htk := memN_iff.1 htk
      have htD : tg ∉ D := fun hm => by
        have := List.all_eq_true.1 hkD tg hm
        rw [memN_iff.2 htk] at this
        cases this
      have hp : ∀ q, q = p0 ∨ q = p1 → memN q J.keep = false := by
        intro q hq
        have hqD : q ∈ D := by rw [← hD]; rcases hq with rfl | rfl <;> simp [SC.sets]
        simpa using List.all_eq_true.1 hkD q hqD
      split at h
      · rename_i f' T' xs' hclo
        split at h
        · rename_i hff
          have hff := Nat.eq_of_beq_eq_true hff
          subst hff
          split at h
          · rename_i xs hcast
            obtain ⟨eT, hxs⟩ := castL_some hcast
            subst eT
            simp only at hxs
            subst hxs
            split at h
            · rename_i v0 hv0
              obtain ⟨hin, hev⟩ := backIn_K (K := K) hsz hnE xs
              have ⟨step, hstep, h⟩ := (⟨_, rfl, h⟩ : ∃ step, step = _ ∧ backO step (fun v => k .normal (unpack K (S.dropK D) J v)) xs.reverse v0 = some r)
              have hN : (S.dropK D).N = S.N := rfl
              refine VS_back (hasBk_ok hΓ hbk) hin (by rw [hD]; exact htD) (fun i A => ∃ v, A = (unpack K (S.dropK D) J v).st ∧ backO step (fun v => k .normal (unpack K (S.dropK D) J v)) (xs.take i).reverse v = some r) ?_ ?_ ?_ ?_
              · rw [hD, ← st_dropK]
                refine ⟨_, meet_weak hchk hv0 (FrmC.refl _ _ _), v0, rfl, ?_⟩
                rw [List.length_map, List.take_length]
                exact h
              · rintro i A ⟨v, rfl, _⟩
                show ((unpack K (S.dropK D) J v).env tg).pv = _
                rw [loop_keep hchk v htk]
                have : (S.dropK D).env tg = S.env tg := (drop_frm hkD none S).env tg htk
                rw [this, hclo]
                rfl
              · rintro m A e ⟨v, rfl, hm⟩ he
                rw [List.getElem?_map, Option.map_eq_some_iff] at he
                obtain ⟨a, ha, rfl⟩ := he
                have hml : m < xs.length := (List.getElem?_eq_some_iff.1 ha).1
                rw [List.take_add_one, ha, Option.toList_some, List.reverse_append] at hm
                simp only [List.reverse_cons, List.reverse_nil, List.nil_append, List.singleton_append, backO] at hm
                rw [List.length_reverse, List.length_take, Nat.min_eq_left (Nat.le_of_lt hml)] at hm
                obtain ⟨z, hz, hzr⟩ : ∃ z, step m a v = some z ∧ (match z with | .inr r' => r' = r | .inl s' => backO step (fun v => k .normal (unpack K (S.dropK D) J v)) (xs.take m).reverse s' = some r) := by
                  split at hm
                  · cases hm
                  · rename_i r' hs
                    injection hm with hm
                    exact ⟨_, hs, hm⟩
                  · rename_i s' hs
                    exact ⟨_, hs, hm⟩
                clear hm
                rw [hstep] at hz
                simp only at hz
                have hst : ({ (unpack K (S.dropK D) J v).st with env := upd (upd (unpack K (S.dropK D) J v).st.env p0 (.int .i64 m)) p1 (evB nE (U.pv _ a)) } : St) = KSt.st { (unpack K (S.dropK D) J v) with env := updK (updK (unpack K (S.dropK D) J v).env p0 (.int .i64 m)) p1 (valK K _ a) } := by
                  have henv : upd (upd (unpack K (S.dropK D) J v).st.env p0 (.int .i64 m)) p1 (evB nE (U.pv _ a)) = fun t => ((updK (updK (unpack K (S.dropK D) J v).env p0 (.int .i64 m)) p1 (valK K _ a)) t).pv := by
                    funext t
                    simp only [updK_upd, hev]
                    unfold upd
                    split
                    · rfl
                    · split
                      · rfl
                      · rfl
                  exact congrArg (fun e => ({ (unpack K (S.dropK D) J v).st with env := e } : St)) henv
                rw [hst]
                have hf0 : FrmC J.keep (some (S.N, idsOf J.items)) (unpack K (S.dropK D) J v) { (unpack K (S.dropK D) J v) with env := updK (updK (unpack K (S.dropK D) J v).env p0 (.int .i64 m)) p1 (valK K _ a) } := by
                  refine ⟨fun t ht => ?_, fun _ _ => rfl, Nat.le_refl _⟩
                  simp only [updK_upd]
                  rw [upd_ne _ _ (fun e => by have := hp t (.inr e); rw [memN_iff.2 ht] at this; cases this), upd_ne _ _ (fun e => by have := hp t (.inl e); rw [memN_iff.2 ht] at this; cases this)]
                refine (evK_sound hΓ x J.keep _ _ _ _ hok.1 hz).mono ?_
                rintro e A ⟨S1, rfl, hf1, hk1⟩
                cases e with
                | normal =>
                  simp only at hk1
                  refine (evK_sound hΓ y J.keep _ _ _ _ hok.2 hk1).mono ?_
                  rintro e A ⟨S2, rfl, hf2, hk2⟩
                  have hf3 : FrmC J.keep (some (S.N, idsOf J.items)) (unpack K (S.dropK D) J v) (S2.dropK D) := ((hf0.trans hf1).trans hf2).trans (drop_frm hkD _ _)
                  have hf4 : FrmC F W S (S2.dropK D) := (drop_frm hFD W S).trans (loop_sub hchk v hf3)
                  rw [hD]
                  cases e with
                  | normal =>
                    simp only at hk2
                    split at hk2
                    · rename_i v' hv'
                      injection hk2 with hk2
                      subst hk2
                      refine ⟨_, ?_, v', rfl, hzr⟩
                      rw [← st_dropK]
                      exact loop_self hchk v hf3 hv'
                    · cases hk2
                  | ret =>
                    simp only [Option.map_eq_some_iff] at hk2
                    obtain ⟨q, hq, rfl⟩ := hk2
                    simp only at hzr
                    subst hzr
                    exact ⟨S2.dropK D, (st_dropK _ _).symm, hf4, hq⟩
                  | exit i =>
                    simp only [Option.map_eq_some_iff] at hk2
                    obtain ⟨q, hq, rfl⟩ := hk2
                    simp only at hzr
                    subst hzr
                    exact ⟨S2.dropK D, (st_dropK _ _).symm, hf4, hq⟩
                  | goto i => cases hk2
                  | panic ch => cases hk2
                  | outgrown => cases hk2
                | ret => cases hk1
                | exit i => cases hk1
                | goto i => cases hk1
                | panic ch => cases hk1
                | outgrown => cases hk1
              · rintro A ⟨v, rfl, hm⟩
                simp only [List.take_zero, List.reverse_nil, backO] at hm
                exact ⟨_, rfl, (drop_frm hFD W S).trans (loop_sub hchk v (FrmC.refl _ _ _)), hm⟩
            · cases h
          · cases h
        · cases h
      · cases h
    · cases h
  | .ps p x, ρ, F, W, k, S, r, hok, h => by
    simp only [evK] at h
    split at h
    · rename_i hW
      simp only [Bool.and_eq_true] at hW
      split at h
      · rename_i S1 hp
        refine VS_weak (fun E a w L hr => Ps.sound K hp hr) ((evK_sound hΓ x F W k S1 r hok h).mono fun e A ⟨S'', h1, h2, h3⟩ => ⟨S'', h1, FrmC.trans ?_ h2, h3⟩)
        exact (Ps.frm hp hW.1).toC hW.2
      · cases h
    · cases h
  | .pst p x, ρ, F, W, k, S, r, hok, h => by
    refine VS_post (evK_sound hΓ x F W _ S r hok h) ?_
    rintro e A ⟨S', rfl, hf, hk⟩
    cases e with
    | normal =>
      simp only at hk
      split at hk
      · rename_i hW
        simp only [Bool.and_eq_true] at hW
        split at hk
        · rename_i S1 hp
          exact ⟨S1.st, ⟨S1, rfl, hf.trans ((Ps.frm hp hW.1).toC hW.2), hk⟩, fun E a w L hr => Ps.sound K hp hr⟩
        · cases hk
      · cases hk
    | exit i => exact ⟨_, ⟨S', rfl, hf, hk⟩, fun E a w L hr => ⟨L, hr⟩⟩
    | goto l => exact ⟨_, ⟨S', rfl, hf, hk⟩, fun E a w L hr => ⟨L, hr⟩⟩
    | ret => exact ⟨_, ⟨S', rfl, hf, hk⟩, fun E a w L hr => ⟨L, hr⟩⟩
    | panic c => exact ⟨_, ⟨S', rfl, hf, hk⟩, fun E a w L hr => ⟨L, hr⟩⟩
    | outgrown => exact ⟨_, ⟨S', rfl, hf, hk⟩, fun E a w L hr => ⟨L, hr⟩⟩
end
end Go.TQ
