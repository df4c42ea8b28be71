/-
  What a place where ways meet keeps in mind. Conditions: none (generic in the program).
-/
import Derived.Test.YtnhgcpiljggmmaaGreatDoorKreg
namespace Go.TQ
open Go.RowKit

/-! ### which objects a value speaks of -/
def PV.ok1 (p : Nat → Bool) : PV → Bool
  | .own id _ | .ptr id _ _ | .eptr id _ _ _ _ | .view id _ _ _ _ => p id
  | .agg _ | .tup _ | .clo _ _ | .bnd _ _ => false
  | _ => true
def PV.okr (p : Nat → Bool) : PV → Bool
  | .agg cs | .tup cs | .clo _ cs | .bnd _ cs => cs.all (PV.ok1 p)
  | x => x.ok1 p
section
variable {w : World}
theorem Rep.ok1 {p : Nat → Bool} {M M' : Nat → Prop} {G G' : Gh} {x : PV} {v : Value} (hx : x.ok1 p = true) (hM : ∀ b, M' b → M b) (hp : ∀ id, p id = true → id < G'.N ∧ G'.V id = G.V id ∧ G'.L id = G.L id) (h : Rep w M G x v) : Rep w M' G' x v := by
  have hs : Stays w w M M' := (Stays.of fun _ hm => fun h' => hm (hM _ h'))
  cases h with
  | any => exact .any _
  | undef => exact .undef
  | int => exact .int _ _
  | bool => exact .bool _
  | ubool => exact .ubool _
  | str => exact .str _
  | nilp => exact .nilp
  | nils => exact .nils
  | clo => simp [PV.ok1] at hx
  | bnd => simp [PV.ok1] at hx
  | agg => simp [PV.ok1] at hx
  | tup => simp [PV.ok1] at hx
  | ptr id ver off a hN hVe h => obtain ⟨h1, h2, h3⟩ := hp id hx; exact .ptr _ _ _ _ h1 (by rw [h2]; exact hVe) (fun e => by rw [h3]; exact h (by rw [e, h2]))
  | ref cs ad vs hl hcell h => exact .ref cs ad vs hl (fun i u hu => ⟨(hcell i u hu).1, fun h' => (hcell i u hu).2 (hM _ h')⟩) (fun i p u hp hu => (h i p u hp hu).mono hs (Gh.le.refl _))
  | sl es ad c k vs hk hl hcell h hn hm => exact .sl es ad c k vs hk hl (fun i u hu => ⟨(hcell i u hu).1, fun h' => (hcell i u hu).2 (hM _ h')⟩) (fun i p u hp hu => (h i p u hp hu).mono hs (Gh.le.refl _)) hn hm
  | slnil => exact .slnil
  | own id ver a n c hN hVe h => obtain ⟨h1, h2, h3⟩ := hp id hx; exact .own _ _ _ _ _ h1 (by rw [h2]; exact hVe) (fun e => by rw [h3]; exact h (by rw [e, h2]))
  | eptr id ver k i off a hN hVe h => obtain ⟨h1, h2, h3⟩ := hp id hx; exact .eptr _ _ _ _ _ _ h1 (by rw [h2]; exact hVe) (fun e => by rw [h3]; exact h (by rw [e, h2]))
  | view id ver k lo n a c hN hVe h => obtain ⟨h1, h2, h3⟩ := hp id hx; exact .view _ _ _ _ _ _ _ h1 (by rw [h2]; exact hVe) (fun e => by rw [h3]; exact h (by rw [e, h2]))
  | nilt => exact .nilt
  | nilf T v => exact .nilf T v
  | ifc T x v hp h => exact .ifc T x v hp (h.plain hp)
  | mapv ks us b es ck hb hMb hk hv g1 g2 => exact .mapv ks us b es ck hb (fun h' => hMb (hM _ h')) hk hv (fun i p e hp he => (g1 i p e hp he).mono hs (Gh.le.refl _)) (fun i p e hp he => (g2 i p e hp he).mono hs (Gh.le.refl _))
theorem Rep.okr {p : Nat → Bool} {M M' : Nat → Prop} {G G' : Gh} {x : PV} {v : Value} (hx : x.okr p = true) (hM : ∀ b, M' b → M b) (hp : ∀ id, p id = true → id < G'.N ∧ G'.V id = G.V id ∧ G'.L id = G.L id) (h : Rep w M G x v) : Rep w M' G' x v := by
  have go : ∀ {cs : List PV} {vs : List Value}, cs.all (PV.ok1 p) = true → RepL w M G cs vs → RepL w M' G' cs vs := fun hc h => ⟨h.1, fun i y v hy hv => (h.2 i y v hy hv).ok1 (List.all_eq_true.1 hc y (List.mem_of_getElem? hy)) hM hp⟩
  cases x with
  | agg cs => obtain ⟨vs, rfl, hr⟩ := h.agg_inv; have := go (by simpa [PV.okr] using hx) hr; exact .agg _ _ this.1 this.2
  | tup cs => obtain ⟨vs, rfl, hr⟩ := h.tup_inv; have := go (by simpa [PV.okr] using hx) hr; exact .tup _ _ this.1 this.2
  | clo f cs => obtain ⟨vs, rfl, hr⟩ := h.clo_inv; have := go (by simpa [PV.okr] using hx) hr; exact .clo _ _ _ this.1 this.2
  | bnd f cs => obtain ⟨vs, rfl, hr⟩ := h.bnd_inv; have := go (by simpa [PV.okr] using hx) hr; exact .bnd _ _ _ this.1 this.2
  | _ => exact h.ok1 (by simpa [PV.okr] using hx) hM hp
end

section
variable {U : TU}
def KV.ok1 (p : Nat → Bool) : KV U → Bool
  | .own id _ | .ptr id _ _ | .eptr id _ _ _ _ | .view id _ _ _ _ => p id
  | .agg _ | .tup _ | .clo _ _ | .bnd _ _ => false
  | _ => true
def KV.okr (p : Nat → Bool) : KV U → Bool
  | .agg cs | .tup cs | .clo _ cs | .bnd _ cs => cs.all (KV.ok1 p)
  | x => x.ok1 p
theorem ok1_pv (p : Nat → Bool) (x : KV U) : x.pv.ok1 p = x.ok1 p := by cases x <;> simp [KV.pv, PV.ok1, KV.ok1]
theorem all_ok1_pv (p : Nat → Bool) (l : List (KV U)) : (l.map KV.pv).all (PV.ok1 p) = l.all (KV.ok1 p) := by
  induction l with
  | nil => rfl
  | cons x l ih => simp only [List.map_cons, List.all_cons, ok1_pv, ih]
theorem okr_pv (p : Nat → Bool) (x : KV U) : x.pv.okr p = x.okr p := by
  cases x with
  | agg cs => simp only [KV.pv, PV.okr, KV.okr, KV.pvs_map]; exact all_ok1_pv p cs
  | tup cs => simp only [KV.pv, PV.okr, KV.okr, KV.pvs_map]; exact all_ok1_pv p cs
  | clo f cs => simp only [KV.pv, PV.okr, KV.okr, KV.pvs_map]; exact all_ok1_pv p cs
  | bnd f cs => simp only [KV.pv, PV.okr, KV.okr, KV.pvs_map]; exact all_ok1_pv p cs
  | _ => simp [KV.pv, PV.okr, KV.okr, PV.ok1, KV.ok1]
def KCont.okr (p : Nat → Bool) : KCont U → Bool
  | .dead => true
  | .box cs => cs.all (KV.okr p)
  | .row _ _ _ _ => true
  | .raw _ _ es => es.all fun c => c.all (KV.okr p)

/-! ### items -/
inductive It (U : TU) where
  | val (t : Nat) (T : U.Ty)
  | own (t id ver e k : Nat) (T : U.Ty)
  | box (id ver : Nat) (T : U.Ty) (m : List (Nat × Nat × Nat))
  | rowb (id ver e k : Nat) (T : U.Ty)
@[reducible] def It.den : It U → Type
  | .val _ T => U.den T
  | .own _ _ _ _ _ T => List (U.den T)
  | .box _ _ T _ => U.den T
  | .rowb _ _ _ _ T => List (U.den T)
@[reducible] def IDen : List (It U) → Type
  | [] => Unit
  | i :: l => i.den × IDen l
/-- cells that are rows of their own: place, row, version -/
def unmask : List (Nat × Nat × Nat) → List (KV U) → List (KV U)
  | [], cs => cs
  | (off, _, _) :: m, cs => unmask m (cs.set off .nils)
def remask : List (Nat × Nat × Nat) → List (KV U) → List (KV U)
  | [], cs => cs
  | (off, id, ver) :: m, cs => (remask m cs).set off (.own id ver)
def maskOk (S : KSt U) (cs : List (KV U)) : List (Nat × Nat × Nat) → Bool
  | [] => true
  | (off, id, _) :: m => (match cs[off]? with | some (.own i v) => Nat.beq i id && Nat.beq v (S.H id).ver | _ => false) && maskOk S cs m
theorem remask_len (cs : List (KV U)) : ∀ (m : List (Nat × Nat × Nat)), (remask m cs).length = cs.length
  | [] => rfl
  | (off, id, ver) :: m => by rw [remask, List.length_set, remask_len cs m]
theorem unmask_len : ∀ (m : List (Nat × Nat × Nat)) (cs : List (KV U)), (unmask m cs).length = cs.length
  | [], _ => rfl
  | (off, id, ver) :: m, cs => by rw [unmask, unmask_len m, List.length_set]
theorem remask_get (cs : List (KV U)) {i : Nat} {y : KV U} : ∀ (m : List (Nat × Nat × Nat)), (remask m cs)[i]? = some y → (∃ id ver, (i, id, ver) ∈ m ∧ y = .own id ver) ∨ ((∀ q ∈ m, q.1 ≠ i) ∧ cs[i]? = some y)
  | [], h => .inr ⟨by simp, h⟩
  | (off, id, ver) :: m, h => by
    rw [remask, List.getElem?_set] at h
    split at h
    · rename_i e
      subst e
      split at h
      · injection h with h
        exact .inl ⟨id, ver, List.mem_cons_self, h.symm⟩
      · cases h
    · rename_i e
      rcases remask_get cs m h with ⟨a, b, h1, h2⟩ | ⟨h1, h2⟩
      · exact .inl ⟨a, b, List.mem_cons_of_mem _ h1, h2⟩
      · refine .inr ⟨fun q hq => ?_, h2⟩
        rcases List.mem_cons.1 hq with rfl | hq
        · exact e
        · exact h1 q hq
theorem unmask_get {i : Nat} : ∀ (m : List (Nat × Nat × Nat)) (cs : List (KV U)), (∀ q ∈ m, q.1 ≠ i) → (unmask m cs)[i]? = cs[i]?
  | [], _, _ => rfl
  | (off, id, ver) :: m, cs, h => by
    rw [unmask, unmask_get m _ fun q hq => h q (List.mem_cons_of_mem _ hq), List.getElem?_set, if_neg (h _ List.mem_cons_self)]
theorem maskOk_get {S : KSt U} {cs : List (KV U)} {off id ver : Nat} : ∀ {m : List (Nat × Nat × Nat)}, maskOk S cs m = true → (off, id, ver) ∈ m → cs[off]? = some (.own id (S.H id).ver)
  | [], _, h => by cases h
  | (o, i, v) :: m, hm, h => by
    rw [maskOk, Bool.and_eq_true] at hm
    rcases List.mem_cons.1 h with e | h
    · injection e with e1 e2
      injection e2 with e2 e3
      subst e1 e2 e3
      have h1 := hm.1
      split at h1
      · rename_i i' v' hc
        rw [Bool.and_eq_true] at h1
        rw [hc, Nat.eq_of_beq_eq_true h1.1, Nat.eq_of_beq_eq_true h1.2]
      · cases h1
    · exact maskOk_get hm.2 h
variable (K : TK U)
def itK (S : KSt U) : (i : It U) → Option i.den
  | .val t T => unval K noLk T (S.env t)
  | .own t id ver e k T => (match S.env t with
    | .own id' v => (match Nat.beq id' id with
      | true => (match S.row? id' v with
        | some r => (match Nat.beq r.e e && Nat.beq r.k k && (Nat.blt 0 ver || Nat.beq v 0) with | true => castL r.T T r.xs | false => none)
        | none => none)
      | false => none)
    | _ => none)
  | .box id ver T m => (match S.box? id ver with
    | some cs => (match maskOk S cs m with | true => K.dec T noLk (unmask m cs) | false => none)
    | none => none)
  | .rowb id ver e k T => (match (S.H id).c with
    | .row e' k' T' xs => (match Nat.beq e' e && Nat.beq k' k && (Nat.blt 0 ver || Nat.beq (S.H id).ver 0) with | true => castL T' T xs | false => none)
    | _ => none)
def pack (S : KSt U) : (l : List (It U)) → Option (IDen l)
  | [] => some ()
  | i :: l => (match itK K S i with
    | some v => (match pack S l with | some vs => some (v, vs) | none => none)
    | none => none)
def putI (S : KSt U) : (i : It U) → i.den → KSt U
  | .val t T, v => { env := updK S.env t (valK K T v), H := S.H, N := S.N }
  | .own t id ver e k T, xs => { env := updK S.env t (.own id ver), H := updK S.H id ⟨ver, .row e k T xs⟩, N := S.N }
  | .box id ver T m, v => { env := S.env, H := updK S.H id ⟨ver, .box (remask m (K.enc T v))⟩, N := S.N }
  | .rowb id ver e k T, xs => { env := S.env, H := updK S.H id ⟨ver, .row e k T xs⟩, N := S.N }
def putIs (S : KSt U) : (l : List (It U)) → IDen l → KSt U
  | [], _ => S
  | i :: l, v => putI K (putIs S l v.2) i v.1
structure JS (U : TU) where
  items : List (It U)
  keep : List Nat
def KSt.base (S : KSt U) (keep : List Nat) : KSt U :=
  { env := fun t => (match memN t keep with | true => S.env t | false => .any)
    H := fun id => (match Nat.blt id S.N with | true => S.H id | false => ⟨0, .dead⟩)
    N := S.N }
def unpack (S : KSt U) (J : JS U) (v : IDen J.items) : KSt U := putIs K (S.base J.keep) J.items v

def It.slot : It U → Option Nat
  | .val t _ | .own t _ _ _ _ _ => some t
  | .box _ _ _ _ | .rowb _ _ _ _ _ => none
def It.id : It U → Option Nat
  | .val _ _ => none
  | .own _ id _ _ _ _ | .box id _ _ _ | .rowb id _ _ _ _ => some id
def It.okv : It U → Bool
  | .own _ _ _ _ _ _ | .rowb _ _ _ _ _ => true
  | _ => true
/-- a row that may have moved -/
def It.row : It U → Option Nat
  | .own _ id ver _ _ _ | .rowb id ver _ _ _ => (match ver with | 0 => none | _ + 1 => some id)
  | _ => none
/-- the row is among them -/
def It.isRow (id ver : Nat) : It U → Bool
  | .rowb id' ver' _ _ _ => Nat.beq id' id && Nat.beq ver' ver
  | _ => false
def hasRow (id ver : Nat) : List (It U) → Bool
  | [] => false
  | i :: l => i.isRow id ver || hasRow id ver l
def It.okm (l : List (It U)) : It U → Bool
  | .box _ _ _ m => m.all fun q => hasRow q.2.1 q.2.2 l
  | _ => true
theorem hasRow_mem {id ver : Nat} : ∀ {l : List (It U)}, hasRow id ver l = true → ∃ e k T, (It.rowb id ver e k T) ∈ l
  | [], h => by cases h
  | i :: l, h => by
    rw [hasRow, Bool.or_eq_true] at h
    rcases h with h | h
    · cases i with
      | rowb id' ver' e k T =>
        simp only [It.isRow, Bool.and_eq_true] at h
        rw [Nat.eq_of_beq_eq_true h.1, Nat.eq_of_beq_eq_true h.2]
        exact ⟨e, k, T, List.mem_cons_self⟩
      | _ => cases h
    · obtain ⟨e, k, T, h⟩ := hasRow_mem h
      exact ⟨e, k, T, List.mem_cons_of_mem _ h⟩
def idsOf : List (It U) → List Nat
  | [] => []
  | i :: l => (match i.id with | some id => id :: idsOf l | none => idsOf l)
def rowsOf : List (It U) → List Nat
  | [] => []
  | i :: l => (match i.row with | some id => id :: rowsOf l | none => rowsOf l)
def slotsOf : List (It U) → List Nat
  | [] => []
  | i :: l => (match i.slot with | some id => id :: slotsOf l | none => slotsOf l)
def nodupN : List Nat → Bool
  | [] => true
  | x :: l => !memN x l && nodupN l
def allLtB : Nat → (Nat → Bool) → Bool
  | 0, _ => true
  | n + 1, p => allLtB n p && p n
theorem allLtB_iff {p : Nat → Bool} : ∀ {n : Nat}, allLtB n p = true → ∀ i, i < n → p i = true
  | 0, _, i, hi => absurd hi (Nat.not_lt_zero _)
  | n + 1, h, i, hi => by
    simp only [allLtB, Bool.and_eq_true] at h
    by_cases e : i = n
    · rw [e]; exact h.2
    · exact allLtB_iff h.1 i (by omega)
/-- may it be a place where ways meet? F: temporaries that must be kept, W: objects that may be written -/
def chkJ (S : KSt U) (J : JS U) (F : List Nat) (W : WS) : Bool :=
  let ids := idsOf J.items
  let rows := rowsOf J.items
  let p := fun id => Nat.blt id S.N && !memN id rows
  nodupN ids && ids.all (fun id => Nat.blt id S.N && okW W id) && (J.items.all It.okv && J.items.all (It.okm J.items)) && J.keep.all (fun t => (S.env t).okr p && !memN t (slotsOf J.items)) && allLtB S.N (fun id => memN id ids || (S.H id).c.okr p)
    && F.all (fun t => memN t J.keep) && (match W with | some (n, _) => Nat.ble n S.N | none => false)

/-! ### what they are -/
def pairs : (l : List (It U)) → IDen l → List (Sigma (It.den (U := U)))
  | [], _ => []
  | i :: l, v => ⟨i, v.1⟩ :: pairs l v.2
variable {K}
theorem pack_pairs {S : KSt U} : ∀ {l : List (It U)} {v : IDen l}, pack K S l = some v → ∀ p ∈ pairs l v, itK K S p.1 = some p.2
  | [], v, h, p, hp => by cases hp
  | i :: l, v, h, p, hp => by
    rw [pack] at h
    split at h
    · rename_i v1 h1
      split at h
      · rename_i vs h2
        injection h with h
        subst h
        rcases List.mem_cons.1 hp with rfl | hp
        · exact h1
        · exact pack_pairs h2 p hp
      · cases h
    · cases h
def kvI : (i : It U) → i.den → KV U
  | .val _ T, v => valK K T v
  | .own _ id ver _ _ _, _ => .own id ver
  | .box _ _ _ _, _ => .any
  | .rowb _ _ _ _ _, _ => .any
def objI : (i : It U) → i.den → KObj U
  | .val _ _, _ => ⟨0, .dead⟩
  | .own _ _ ver e k T, xs => ⟨ver, .row e k T xs⟩
  | .box _ ver T m, v => ⟨ver, .box (remask m (K.enc T v))⟩
  | .rowb _ ver e k T, xs => ⟨ver, .row e k T xs⟩
theorem putI_env (S : KSt U) (i : It U) (v : i.den) (t : Nat) : (i.slot = some t ∧ (putI K S i v).env t = kvI (K := K) i v) ∨ (i.slot ≠ some t ∧ (putI K S i v).env t = S.env t) := by
  cases i with
  | val t' T =>
    by_cases e : t' = t
    · subst e; left; exact ⟨rfl, by simp only [putI, updK_upd]; exact upd_same _ _ _⟩
    · right; exact ⟨by simpa [It.slot] using e, by simp only [putI, updK_upd]; exact upd_ne _ _ (fun h => e h.symm)⟩
  | own t' id ver ee k T =>
    by_cases e : t' = t
    · subst e; left; exact ⟨rfl, by simp only [putI, updK_upd]; exact upd_same _ _ _⟩
    · right; exact ⟨by simpa [It.slot] using e, by simp only [putI, updK_upd]; exact upd_ne _ _ (fun h => e h.symm)⟩
  | box id ver T m => right; exact ⟨by simp [It.slot], rfl⟩
  | rowb id ver e k T => right; exact ⟨by simp [It.slot], rfl⟩
theorem putI_H (S : KSt U) (i : It U) (v : i.den) (id : Nat) : (i.id = some id ∧ (putI K S i v).H id = objI (K := K) i v) ∨ (i.id ≠ some id ∧ (putI K S i v).H id = S.H id) := by
  cases i with
  | val t' T => right; exact ⟨by simp [It.id], rfl⟩
  | own t' id' ver ee k T =>
    by_cases e : id' = id
    · subst e; left; exact ⟨rfl, by simp only [putI, updK_upd]; exact upd_same _ _ _⟩
    · right; exact ⟨by simpa [It.id] using e, by simp only [putI, updK_upd]; exact upd_ne _ _ (fun h => e h.symm)⟩
  | box id' ver T m =>
    by_cases e : id' = id
    · subst e; left; exact ⟨rfl, by simp only [putI, updK_upd]; exact upd_same _ _ _⟩
    · right; exact ⟨by simpa [It.id] using e, by simp only [putI, updK_upd]; exact upd_ne _ _ (fun h => e h.symm)⟩
  | rowb id' ver ee k T =>
    by_cases e : id' = id
    · subst e; left; exact ⟨rfl, by simp only [putI, updK_upd]; exact upd_same _ _ _⟩
    · right; exact ⟨by simpa [It.id] using e, by simp only [putI, updK_upd]; exact upd_ne _ _ (fun h => e h.symm)⟩
theorem putI_N (S : KSt U) (i : It U) (v : i.den) : (putI K S i v).N = S.N := by cases i <;> rfl
theorem putIs_N (S : KSt U) : ∀ (l : List (It U)) (v : IDen l), (putIs K S l v).N = S.N
  | [], _ => rfl
  | i :: l, v => by rw [putIs, putI_N, putIs_N S l]
theorem mem_ids {id : Nat} : ∀ {l : List (It U)} {i : It U}, i ∈ l → i.id = some id → id ∈ idsOf l
  | j :: l, i, hi, h => by
    simp only [idsOf]
    rcases List.mem_cons.1 hi with rfl | hi
    · rw [h]; exact List.mem_cons_self
    · have := mem_ids hi h
      split
      · exact List.mem_cons_of_mem _ this
      · exact this
theorem mem_rows {id : Nat} : ∀ {l : List (It U)} {i : It U}, i ∈ l → i.row = some id → id ∈ rowsOf l
  | j :: l, i, hi, h => by
    simp only [rowsOf]
    rcases List.mem_cons.1 hi with rfl | hi
    · rw [h]; exact List.mem_cons_self
    · have := mem_rows hi h
      split
      · exact List.mem_cons_of_mem _ this
      · exact this
theorem mem_slots {id : Nat} : ∀ {l : List (It U)} {i : It U}, i ∈ l → i.slot = some id → id ∈ slotsOf l
  | j :: l, i, hi, h => by
    simp only [slotsOf]
    rcases List.mem_cons.1 hi with rfl | hi
    · rw [h]; exact List.mem_cons_self
    · have := mem_slots hi h
      split
      · exact List.mem_cons_of_mem _ this
      · exact this
theorem pair_mem : ∀ {l : List (It U)} {v : IDen l} {p : Sigma (It.den (U := U))}, p ∈ pairs l v → p.1 ∈ l
  | i :: l, v, p, hp => by
    rcases List.mem_cons.1 hp with rfl | hp
    · exact List.mem_cons_self
    · exact List.mem_cons_of_mem _ (pair_mem hp)
theorem mem_pair : ∀ {l : List (It U)} {v : IDen l} {i : It U}, i ∈ l → ∃ d, (⟨i, d⟩ : Sigma (It.den (U := U))) ∈ pairs l v
  | j :: l, v, i, hi => by
    rcases List.mem_cons.1 hi with rfl | hi
    · exact ⟨v.1, List.mem_cons_self⟩
    · obtain ⟨d, hd⟩ := mem_pair (v := v.2) hi
      exact ⟨d, List.mem_cons_of_mem _ hd⟩
theorem putIs_env (S : KSt U) : ∀ (l : List (It U)) (v : IDen l) (t : Nat), (∃ p ∈ pairs l v, p.1.slot = some t ∧ (putIs K S l v).env t = kvI (K := K) p.1 p.2) ∨ (t ∉ slotsOf l ∧ (putIs K S l v).env t = S.env t)
  | [], v, t => .inr ⟨by simp [slotsOf], rfl⟩
  | i :: l, v, t => by
    rcases putI_env (K := K) (putIs K S l v.2) i v.1 t with ⟨h1, h2⟩ | ⟨h1, h2⟩
    · exact .inl ⟨⟨i, v.1⟩, List.mem_cons_self, h1, h2⟩
    · rcases putIs_env S l v.2 t with ⟨p, hp, h3, h4⟩ | ⟨h3, h4⟩
      · exact .inl ⟨p, List.mem_cons_of_mem _ hp, h3, h2.trans h4⟩
      · refine .inr ⟨?_, h2.trans h4⟩
        simp only [slotsOf]
        split
        · rename_i s hs; simp only [List.mem_cons, not_or]; exact ⟨fun e => h1 (by rw [hs, e]), h3⟩
        · exact h3
theorem putIs_H (S : KSt U) : ∀ (l : List (It U)) (v : IDen l) (id : Nat), nodupN (idsOf l) = true → (∃ p ∈ pairs l v, p.1.id = some id ∧ (putIs K S l v).H id = objI (K := K) p.1 p.2) ∨ (id ∉ idsOf l ∧ (putIs K S l v).H id = S.H id)
  | [], v, t, _ => .inr ⟨by simp [idsOf], rfl⟩
  | i :: l, v, id, hn => by
    have hn' : nodupN (idsOf l) = true := by
      simp only [idsOf] at hn
      split at hn
      · simp only [nodupN, Bool.and_eq_true] at hn; exact hn.2
      · exact hn
    rcases putI_H (K := K) (putIs K S l v.2) i v.1 id with ⟨h1, h2⟩ | ⟨h1, h2⟩
    · exact .inl ⟨⟨i, v.1⟩, List.mem_cons_self, h1, h2⟩
    · rcases putIs_H S l v.2 id hn' with ⟨p, hp, h3, h4⟩ | ⟨h3, h4⟩
      · exact .inl ⟨p, List.mem_cons_of_mem _ hp, h3, h2.trans h4⟩
      · refine .inr ⟨?_, h2.trans h4⟩
        simp only [idsOf]
        split
        · rename_i s hs; simp only [List.mem_cons, not_or]; exact ⟨fun e => h1 (by rw [hs, e]), h3⟩
        · exact h3
/-- each item's object is as the item says -/
theorem putIs_obj (S : KSt U) : ∀ (l : List (It U)) (v : IDen l), nodupN (idsOf l) = true → ∀ p ∈ pairs l v, ∀ id, p.1.id = some id → (putIs K S l v).H id = objI (K := K) p.1 p.2
  | [], v, _, p, hp => by cases hp
  | i :: l, v, hn, p, hp => by
    intro id hid
    have hn' : nodupN (idsOf l) = true := by
      simp only [idsOf] at hn
      split at hn
      · simp only [nodupN, Bool.and_eq_true] at hn; exact hn.2
      · exact hn
    rcases List.mem_cons.1 hp with rfl | hp
    · rcases putI_H (K := K) (putIs K S l v.2) i v.1 id with ⟨h1, h2⟩ | ⟨h1, h2⟩
      · exact h2
      · exact absurd hid h1
    · rcases putI_H (K := K) (putIs K S l v.2) i v.1 id with ⟨h1, h2⟩ | ⟨h1, h2⟩
      · exfalso
        simp only [idsOf, h1, nodupN, Bool.and_eq_true, Bool.not_eq_true'] at hn
        exact memN_not hn.1 (mem_ids (pair_mem hp) hid)
      · exact h2.trans (putIs_obj S l v.2 hn' p hp id hid)
theorem base_N (S : KSt U) (keep : List Nat) : (S.base keep).N = S.N := rfl
theorem base_env {S : KSt U} {keep : List Nat} {t : Nat} : (S.base keep).env t = if t ∈ keep then S.env t else .any := by
  simp only [KSt.base]
  split
  · rename_i h; rw [if_pos (memN_iff.1 h)]
  · rename_i h; rw [if_neg (memN_not h)]
theorem base_H {S : KSt U} {keep : List Nat} {id : Nat} : (S.base keep).H id = if id < S.N then S.H id else ⟨0, .dead⟩ := by
  simp only [KSt.base]
  split
  · rename_i h; rw [if_pos (show id < S.N from Nat.le_of_ble_eq_true h)]
  · rename_i h
    rw [if_neg]
    intro hlt
    have : Nat.blt id S.N = true := Nat.ble_eq_true_of_le hlt
    rw [this] at h
    cases h

/-- cells of closed data -/
theorem CellsOk.rep {w : World} {M : Nat → Prop} {G : Gh} {xs : List (KV U)} {ys : List PV} (h : CellsOk noLk xs ys) : ∀ {vs : List Value}, RepL w M G (xs.map KV.pv) vs → RepL w M G ys vs := by
  induction h with
  | nil => intro vs h; exact h
  | cons hc _ ih =>
    intro vs h
    obtain ⟨v, vs', rfl, h1, h2⟩ := RepL.cons_inv h
    refine RepL.cons ?_ (ih h2)
    cases hc with
    | nils => rw [KV.pv] at h1; rw [h1.nils_inv]; exact .slnil
    | own _ _ _ _ hn => cases hn
    | _ => simpa [KV.pv] using h1
theorem CellOk.rep {w : World} {M : Nat → Prop} {G : Gh} {x : KV U} {y : PV} (hc : CellOk noLk x y) {v : Value} (h1 : Rep w M G x.pv v) : Rep w M G y v := by
  cases hc with
  | nils => rw [KV.pv] at h1; rw [h1.nils_inv]; exact .slnil
  | own _ _ _ _ hn => cases hn
  | _ => simpa [KV.pv] using h1
theorem CellsOk.len {lk : Lk U} {xs : List (KV U)} {ys : List PV} (h : CellsOk lk xs ys) : xs.length = ys.length := by
  induction h with
  | nil => rfl
  | cons _ _ ih => rw [List.length_cons, List.length_cons, ih]
theorem CellsOk.get {lk : Lk U} {xs : List (KV U)} {ys : List PV} (h : CellsOk lk xs ys) : ∀ {i : Nat} {x : KV U} {y : PV}, xs[i]? = some x → ys[i]? = some y → CellOk lk x y := by
  induction h with
  | nil => intro i x y h; simp at h
  | cons hc _ ih =>
    intro i x y hx hy
    cases i with
    | zero => simp only [List.getElem?_cons_zero, Option.some.injEq] at hx hy; subst hx hy; exact hc
    | succ i => exact ih (by simpa using hx) (by simpa using hy)
theorem unval_rep {w : World} {M : Nat → Prop} {G : Gh} {T : U.Ty} {x : KV U} {d : U.den T} {v : Value} (h : unval K noLk T x = some d) (r : Rep w M G x.pv v) : Rep w M G (valPV T d) v := by
  unfold unval at h
  unfold valPV
  split at h
  · split at h
    · rename_i cs
      rw [KV.pv, KV.pvs_map] at r
      obtain ⟨vs, rfl, hr⟩ := r.agg_inv
      have := (K.dec_ok _ _ _ _ h).rep hr
      exact .agg _ _ this.1 this.2
    · cases h
  · rename_i ha
    have hc := K.dec_ok _ _ _ _ h
    have h1 : RepL w M G ([x].map KV.pv) [v] := .cons r .nil
    have h2 := hc.rep h1
    generalize U.pv T d = ys at h2
    obtain ⟨hl, h2⟩ := h2
    cases ys with
    | nil => simp at hl
    | cons y l => exact h2 0 y v rfl rfl

/-- the state at a place where ways meet -/
theorem Rel.meet {S0 S1 : KSt U} {J : JS U} {F : List Nat} {W : WS} (hchk : chkJ S0 J F W = true) {v : IDen J.items} (hp : pack K S1 J.items = some v)
    (hk : ∀ t ∈ J.keep, S1.env t = S0.env t) (hH : ∀ id, id < S0.N → id ∉ idsOf J.items → S1.H id = S0.H id) (hN : S0.N ≤ S1.N)
    {E : En} {a : Act} {w : World} {L : Nat → Value} (h : Rel E S1.st a w L) : Rel E (unpack K S0 J v).st a w L := by
  simp only [chkJ, Bool.and_eq_true, List.all_eq_true] at hchk
  obtain ⟨⟨⟨⟨⟨⟨hnd, hids⟩, hokv, hokm⟩, hkeep⟩, hobj⟩, hF⟩, hW⟩ := hchk
  have hpk := pack_pairs hp
  have hN' : (unpack K S0 J v).N = S0.N := by rw [unpack, putIs_N, base_N]
  have hlt : ∀ id ∈ idsOf J.items, id < S0.N := fun id hid => Nat.le_of_ble_eq_true (hids id hid).1
  -- the objects
  have hHc : ∀ id, (∃ p ∈ pairs J.items v, p.1.id = some id ∧ (unpack K S0 J v).H id = objI (K := K) p.1 p.2) ∨ (id ∉ idsOf J.items ∧ (unpack K S0 J v).H id = if id < S0.N then S0.H id else ⟨0, .dead⟩) := by
    intro id
    rcases putIs_H (K := K) (S0.base J.keep) J.items v id hnd with h1 | ⟨h1, h2⟩
    · exact .inl h1
    · exact .inr ⟨h1, h2.trans base_H⟩
  -- what an item's object was
  have hrow : ∀ t id ver e k T (xs : List (U.den T)), (⟨.own t id ver e k T, xs⟩ : Sigma (It.den (U := U))) ∈ pairs J.items v → S1.env t = .own id (S1.H id).ver ∧ (S1.H id).c = .row e k T xs ∧ (ver = 0 → (S1.H id).ver = 0) := by
    intro t id ver e k T xs hmem
    have := hpk _ hmem
    simp only [itK] at this
    split at this
    · rename_i id' v' he
      split at this
      · rename_i hid
        have hid := Nat.eq_of_beq_eq_true hid
        subst hid
        split at this
        · rename_i r hr
          obtain ⟨h1, h2⟩ := row?_some hr
          split at this
          · rename_i hek
            rw [Bool.and_eq_true, Bool.and_eq_true, Bool.or_eq_true] at hek
            obtain ⟨re, rk, rT, rxs⟩ := r
            obtain ⟨eT, hxs⟩ := castL_some this
            simp only at eT hxs h2 hek
            subst eT
            refine ⟨by rw [he, h1], by rw [h2, hxs, Nat.eq_of_beq_eq_true hek.1.1, Nat.eq_of_beq_eq_true hek.1.2], fun hz => ?_⟩
            rcases hek.2 with h9 | h9
            · rw [hz] at h9; cases h9
            · rw [h1]; exact Nat.eq_of_beq_eq_true h9
          · cases this
        · cases this
      · cases this
    · cases this
  have hbox : ∀ id ver T m (d : U.den T), (⟨.box id ver T m, d⟩ : Sigma (It.den (U := U))) ∈ pairs J.items v → (S1.H id).ver = ver ∧ ∃ cs, (S1.H id).c = .box cs ∧ maskOk S1 cs m = true ∧ CellsOk noLk (unmask m cs) (U.pv T d) := by
    intro id ver T m d hmem
    have := hpk _ hmem
    simp only [itK] at this
    split at this
    · rename_i cs hcs
      obtain ⟨h1, h2⟩ := box?_some hcs
      split at this
      · rename_i hmk
        exact ⟨h1, cs, h2, hmk, K.dec_ok _ _ _ _ this⟩
      · cases this
    · cases this
  have hrowb : ∀ id ver e k T (xs : List (U.den T)), (⟨.rowb id ver e k T, xs⟩ : Sigma (It.den (U := U))) ∈ pairs J.items v → (S1.H id).c = .row e k T xs ∧ (ver = 0 → (S1.H id).ver = 0) := by
    intro id ver e k T xs hmem
    have := hpk _ hmem
    simp only [itK] at this
    split at this
    · rename_i e' k' T' ys hc
      split at this
      · rename_i hek
        rw [Bool.and_eq_true, Bool.and_eq_true, Bool.or_eq_true] at hek
        obtain ⟨eT, hxs⟩ := castL_some this
        subst eT
        refine ⟨by rw [hc, hxs, Nat.eq_of_beq_eq_true hek.1.1, Nat.eq_of_beq_eq_true hek.1.2], fun hz => ?_⟩
        rcases hek.2 with h9 | h9
        · rw [hz] at h9; cases h9
        · exact Nat.eq_of_beq_eq_true h9
      · cases this
    · cases this
  have hlive : ∀ id, id < S0.N → ((unpack K S0 J v).st.H id).c.live = true → (S1.st.H id).c.live = true := by
    intro id hid hl
    rcases hHc id with ⟨⟨i, d⟩, hmem, h1, h2⟩ | ⟨h1, h2⟩
    · cases i with
      | val t T => cases h1
      | own t id' ver e k T =>
        simp only [It.id, Option.some.injEq] at h1
        subst h1
        have := (hrow _ _ _ _ _ _ _ hmem).2.1
        simp only [KSt.st, KObj.pv, this, KCont.pv]
        rfl
      | box id' ver T m =>
        simp only [It.id, Option.some.injEq] at h1
        subst h1
        obtain ⟨_, cs, h3, _, _⟩ := hbox _ _ _ _ _ hmem
        simp only [KSt.st, KObj.pv, h3, KCont.pv]
        rfl
      | rowb id' ver e k T =>
        simp only [It.id, Option.some.injEq] at h1
        subst h1
        have := (hrowb _ _ _ _ _ _ hmem).1
        simp only [KSt.st, KObj.pv, this, KCont.pv]
        rfl
    · rw [if_pos hid] at h2
      simp only [KSt.st] at hl ⊢
      rw [h2, ← hH id hid h1] at hl
      exact hl
  have hM : ∀ b, mutb E (unpack K S0 J v).st L b → mutb E S1.st L b := by
    rintro b (⟨id, hid, hl, hb⟩ | hb)
    · have hid' : id < S0.N := by simpa only [KSt.st, hN'] using hid
      exact .inl ⟨id, Nat.lt_of_lt_of_le hid' hN, hlive id hid' hl, hb⟩
    · exact .inr hb
  have hpok : ∀ id, (Nat.blt id S0.N && !memN id (rowsOf J.items)) = true → id < ((unpack K S0 J v).st.gh L).N ∧ ((unpack K S0 J v).st.gh L).V id = (S1.st.gh L).V id ∧ ((unpack K S0 J v).st.gh L).L id = (S1.st.gh L).L id := by
    intro id hid
    simp only [Bool.and_eq_true, Bool.not_eq_true'] at hid
    have hid1 : id < S0.N := Nat.le_of_ble_eq_true hid.1
    refine ⟨by simpa only [St.gh, KSt.st, hN'] using hid1, ?_, rfl⟩
    simp only [St.gh, KSt.st, KObj.pv]
    rcases hHc id with ⟨⟨i, d⟩, hmem, h1, h2⟩ | ⟨h1, h2⟩
    · cases i with
      | val t T => cases h1
      | own t id' ver e k T =>
        simp only [It.id, Option.some.injEq] at h1
        subst h1
        cases ver with
        | zero =>
          rw [h2]
          exact ((hrow _ _ _ _ _ _ _ hmem).2.2 rfl).symm
        | succ n => exact absurd (mem_rows (pair_mem hmem) rfl) (memN_not hid.2)
      | box id' ver T m =>
        simp only [It.id, Option.some.injEq] at h1
        subst h1
        rw [h2]
        exact (hbox _ _ _ _ _ hmem).1.symm
      | rowb id' ver e k T =>
        simp only [It.id, Option.some.injEq] at h1
        subst h1
        cases ver with
        | zero =>
          rw [h2]
          exact ((hrowb _ _ _ _ _ _ hmem).2 rfl).symm
        | succ n => exact absurd (mem_rows (pair_mem hmem) rfl) (memN_not hid.2)
    · rw [if_pos hid1] at h2
      rw [h2, hH id hid1 h1]
  refine ⟨h.defers, h.size, fun t => ?_, fun id hid => ?_, fun i j b hi hj hli hlj hbi hbj => ?_, fun id hid => ?_, h.fr, fun hb hlv hvr => ?_⟩
  · show Rep _ _ _ (((unpack K S0 J v).env t).pv) _
    rcases putIs_env (K := K) (S0.base J.keep) J.items v t with ⟨⟨i, d⟩, hmem, h1, h2⟩ | ⟨_, h2⟩
    · rw [show (unpack K S0 J v).env t = _ from h2]
      cases i with
      | val t' T =>
        simp only [It.slot, Option.some.injEq] at h1
        subst h1
        simp only [kvI, valK_pv]
        have h3 := hpk _ hmem
        simp only [itK] at h3
        have h4 := unval_rep h3 (h.env t')
        have hg : (valPV T d).okr (fun _ => false) = true := by
          have := valPV_closeds K d
          have h5 := valPV_not_tup K d
          cases hv : valPV T d with
          | agg cs =>
            simp only [PV.okr]
            refine List.all_eq_true.2 fun y hy => ?_
            cases ha : U.agg T with
            | true =>
              rw [valPV_agg d ha] at hv
              injection hv with hv
              rw [← hv] at hy
              have := K.good T d y hy
              cases y <;> first | rfl | cases this
            | false => obtain ⟨y0, h6, h7⟩ := valPV_head K d ha; have h8 := K.good T d y0 h7; rw [← h6, hv] at h8; cases h8
          | tup cs => exact absurd hv (h5 cs)
          | clo f cs =>
            exfalso
            cases ha : U.agg T with
            | true => rw [valPV_agg d ha] at hv; cases hv
            | false => obtain ⟨y, h6, h7⟩ := valPV_head K d ha; have h8 := K.good T d y h7; rw [← h6, hv] at h8; cases h8
          | _ => rw [hv] at this; first | rfl | cases this
        exact h4.okr hg hM (fun id hid => by cases hid)
      | own t' id ver e k T =>
        simp only [It.slot, Option.some.injEq] at h1
        subst h1
        obtain ⟨h3, h4, _⟩ := hrow _ _ _ _ _ _ _ hmem
        have h5 := h.env t'
        have h6 : S1.st.env t' = .own id (S1.st.H id).ver := by simp only [KSt.st, h3, KV.pv, KObj.pv]
        rw [h6] at h5
        obtain ⟨h7, h8⟩ := h5.own_inv (show (S1.st.gh L).V id = _ from rfl)
        have hidlt := hlt id (mem_ids (pair_mem hmem) rfl)
        have h9 := putIs_obj (K := K) (S0.base J.keep) J.items v hnd _ hmem id rfl
        simp only [kvI, KV.pv]
        have hsl : ∃ ad n c, a.tmps.getD t' undef = .slice ad n c := by
          generalize a.tmps.getD t' undef = vv at h5
          cases h5 with
          | own _ _ ad n c _ _ _ => exact ⟨ad, n, c, rfl⟩
        obtain ⟨ad, n, c, hv⟩ := hsl
        rw [hv] at h8 ⊢
        refine .own _ _ _ _ _ (by simpa only [St.gh, KSt.st, hN'] using hidlt) ?_ (fun _ => h8)
        simp only [St.gh, KSt.st, KObj.pv, show (unpack K S0 J v).H id = _ from h9, objI]
        exact Nat.le_refl _
      | box id ver T m => cases h1
      | rowb id ver e k T => cases h1
    · rw [show (unpack K S0 J v).env t = _ from h2, base_env]
      split
      · rename_i ht
        have h3 := (hkeep t ht).1
        rw [← okr_pv] at h3
        refine Rep.okr h3 hM hpok ?_
        have := h.env t
        simp only [KSt.st, hk t ht] at this
        exact this
      · exact .any _
  · have hid' : id < S0.N := by simpa only [KSt.st, hN'] using hid
    show ObjOk _ _ _ _ _ (((unpack K S0 J v).H id).c.pv)
    rcases hHc id with ⟨⟨i, d⟩, hmem, h1, h2⟩ | ⟨h1, h2⟩
    · rw [h2]
      cases i with
      | val t T => cases h1
      | own t id' ver e k T =>
        simp only [It.id, Option.some.injEq] at h1
        subst h1
        have h3 := (hrow _ _ _ _ _ _ _ hmem).2.1
        have h4 : (S1.st.H id').c = .row e k (d.map (U.pv T)) := by simp only [KSt.st, KObj.pv, h3, KCont.pv]
        obtain ⟨vs, h5, h6, h7⟩ := h.row_at (Nat.lt_of_lt_of_le hid' hN) h4
        refine ⟨vs, h5, h6, RepL.closed ?_ hM h7⟩
        refine List.all_eq_true.2 fun y hy => ?_
        obtain ⟨u, hu, hyu⟩ := List.mem_flatten.1 hy
        obtain ⟨x, _, rfl⟩ := List.mem_map.1 hu
        exact good_closed (K.good T x y hyu)
      | box id' ver T m =>
        simp only [It.id, Option.some.injEq] at h1
        subst h1
        obtain ⟨_, cs, h3, hmk, hcs⟩ := hbox _ _ _ _ _ hmem
        have h4 : (S1.st.H id').c = .box (cs.map KV.pv) := by simp only [KSt.st, KObj.pv, h3, KCont.pv]
        obtain ⟨b, cur, T', h5, h6, h7, h8⟩ := h.box_at (Nat.lt_of_lt_of_le hid' hN) h4
        refine ⟨b, cur, T', h5, h6, h8, ?_, fun i y u hy hu => ?_⟩
        · have e1 := congrArg List.length (K.enc_pv T d)
          rw [List.length_map] at e1
          rw [List.length_map, remask_len, e1, ← hcs.len, unmask_len, h7.1, List.length_map]
        · rw [List.getElem?_map, Option.map_eq_some_iff] at hy
          obtain ⟨z, hz, rfl⟩ := hy
          rcases remask_get _ m hz with ⟨rid, rver, hmm, rfl⟩ | ⟨hnm, hz⟩
          · have hci := maskOk_get hmk hmm
            have h9 := h7.2 i _ u (by rw [List.getElem?_map, hci]; rfl) hu
            rw [KV.pv] at h9
            obtain ⟨h10, h11⟩ := h9.own_inv (show (S1.st.gh L).V rid = _ from rfl)
            have hmi : (It.box id' ver T m) ∈ J.items := pair_mem hmem
            obtain ⟨e, k, T2, hrm⟩ := hasRow_mem (List.all_eq_true.1 (hokm _ hmi) _ hmm)
            have hridlt := hlt rid (mem_ids hrm rfl)
            have hsl : ∃ ad n c, u = .slice ad n c := by
              cases h9 with
              | own _ _ ad n c _ _ _ => exact ⟨ad, n, c, rfl⟩
            obtain ⟨ad, n, c, hv⟩ := hsl
            rw [hv] at h11 ⊢
            rw [KV.pv]
            refine .own _ _ _ _ _ (by simpa only [St.gh, KSt.st, hN'] using hridlt) ?_ (fun _ => h11)
            obtain ⟨d2, hd2⟩ := mem_pair (v := v) hrm
            have h12 := putIs_obj (K := K) (S0.base J.keep) J.items v hnd _ hd2 rid rfl
            simp only [St.gh, KSt.st, KObj.pv, show (unpack K S0 J v).H rid = _ from h12, objI]
            exact Nat.le_refl _
          · have hzp : (U.pv T d)[i]? = some z.pv := by rw [← K.enc_pv, List.getElem?_map, hz]; rfl
            have hil : i < cs.length := by
              have := (List.getElem?_eq_some_iff.1 hzp).1
              rw [← hcs.len, unmask_len] at this
              exact this
            have hci : cs[i]? = some cs[i] := List.getElem?_eq_getElem hil
            have hck := hcs.get (by rw [unmask_get m cs hnm]; exact hci) hzp
            have h9 := h7.2 i _ u (by rw [List.getElem?_map, hci]; rfl) hu
            exact (hck.rep h9).closed (good_closed (K.good T d _ (List.mem_of_getElem? hzp))) hM
      | rowb id' ver e k T =>
        simp only [It.id, Option.some.injEq] at h1
        subst h1
        have h3 := (hrowb _ _ _ _ _ _ hmem).1
        have h4 : (S1.st.H id').c = .row e k (d.map (U.pv T)) := by simp only [KSt.st, KObj.pv, h3, KCont.pv]
        obtain ⟨vs, h5, h6, h7⟩ := h.row_at (Nat.lt_of_lt_of_le hid' hN) h4
        refine ⟨vs, h5, h6, RepL.closed ?_ hM h7⟩
        refine List.all_eq_true.2 fun y hy => ?_
        obtain ⟨u, hu, hyu⟩ := List.mem_flatten.1 hy
        obtain ⟨x, _, rfl⟩ := List.mem_map.1 hu
        exact good_closed (K.good T x y hyu)
    · rw [h2, if_pos hid', ← hH id hid' h1]
      have ho := h.obj id (Nat.lt_of_lt_of_le hid' hN)
      have hc := allLtB_iff hobj id hid'
      rw [Bool.or_eq_true] at hc
      have hc := hc.resolve_left (fun e => h1 (memN_iff.1 e))
      rw [← hH id hid' h1] at hc
      change ObjOk _ _ _ _ _ ((S1.H id).c.pv) at ho
      cases hcc : (S1.H id).c with
      | dead => trivial
      | box cs =>
        rw [hcc] at ho hc
        obtain ⟨b, cur, T', h5, h6, h7, h8⟩ := ho
        refine ⟨b, cur, T', h5, h6, h7, h8.1, fun i y u hy hu => ?_⟩
        simp only [KCont.okr, List.all_eq_true] at hc
        rw [List.getElem?_map, Option.map_eq_some_iff] at hy
        obtain ⟨z, hz, rfl⟩ := hy
        refine Rep.okr (by rw [okr_pv]; exact hc z (List.mem_of_getElem? hz)) hM hpok (h8.2 i z.pv u (by rw [List.getElem?_map, hz]; rfl) hu)
      | raw e k es =>
        rw [hcc] at ho hc
        obtain ⟨vs, h5, h6, h7⟩ := ho
        refine ⟨vs, h5, h6, h7.1, fun i y u hy hu => ?_⟩
        simp only [KCont.okr, List.all_eq_true] at hc
        obtain ⟨l, hl, hyl⟩ := List.mem_flatten.1 (List.mem_of_getElem? hy)
        obtain ⟨c, hcm, rfl⟩ := List.mem_map.1 hl
        obtain ⟨z, hz, rfl⟩ := List.mem_map.1 hyl
        exact Rep.okr (by rw [okr_pv]; exact hc c hcm z hz) hM hpok (h7.2 i _ u hy hu)
      | row e k T xs =>
        rw [hcc] at ho
        obtain ⟨vs, h5, h6, h7⟩ := ho
        refine ⟨vs, h5, h6, RepL.closed ?_ hM h7⟩
        refine List.all_eq_true.2 fun y hy => ?_
        obtain ⟨u, hu, hyu⟩ := List.mem_flatten.1 hy
        obtain ⟨x, _, rfl⟩ := List.mem_map.1 hu
        exact good_closed (K.good T x y hyu)
  · have hi' : i < S0.N := by simpa only [KSt.st, hN'] using hi
    have hj' : j < S0.N := by simpa only [KSt.st, hN'] using hj
    exact h.apart i j b (Nat.lt_of_lt_of_le hi' hN) (Nat.lt_of_lt_of_le hj' hN) (hlive i hi' hli) (hlive j hj' hlj) hbi hbj
  · have hid' : S0.N ≤ id := by simpa only [KSt.st, hN'] using hid
    rcases hHc id with ⟨⟨i, d⟩, hmem, h1, h2⟩ | ⟨h1, h2⟩
    · have := hlt id (mem_ids (pair_mem hmem) h1)
      omega
    · rw [if_neg (by omega)] at h2
      simp only [KSt.st, h2, KObj.pv, KCont.pv]
  · by_cases h0 : 0 < S0.N
    · refine h.rcv hb (hlive 0 h0 hlv) ?_
      simp only [KSt.st, KObj.pv] at hvr ⊢
      rcases hHc 0 with ⟨⟨i, d⟩, hmem, h1, h2⟩ | ⟨h1, h2⟩
      · rw [h2] at hvr
        cases i with
        | val t T => cases h1
        | own t id' ver e k T =>
          simp only [It.id, Option.some.injEq] at h1
          subst h1
          exact (hrow _ _ _ _ _ _ _ hmem).2.2 hvr
        | box id' ver T m =>
          simp only [It.id, Option.some.injEq] at h1
          subst h1
          rw [(hbox _ _ _ _ _ hmem).1]
          exact hvr
        | rowb id' ver e k T =>
          simp only [It.id, Option.some.injEq] at h1
          subst h1
          exact (hrowb _ _ _ _ _ _ hmem).2 hvr
      · rw [if_pos h0] at h2
        rw [hH 0 h0 h1, ← h2]
        exact hvr
    · rcases hHc 0 with ⟨⟨i, d⟩, hmem, h1, h2⟩ | ⟨h1, h2⟩
      · exact absurd (hlt 0 (mem_ids (pair_mem hmem) h1)) h0
      · rw [if_neg h0] at h2
        simp only [KSt.st, KObj.pv, h2, KCont.pv] at hlv
        cases hlv
end
end Go.TQ
