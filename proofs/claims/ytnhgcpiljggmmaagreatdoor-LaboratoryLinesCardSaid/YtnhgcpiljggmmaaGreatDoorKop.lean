/-
  Operations over typed data: their evaluation and that it is the operations' own. Conditions: none (generic in the program).
-/
import Derived.Test.YtnhgcpiljggmmaaGreatDoorKv
import Derived.Test.YtnhgcpiljggmmaaGreatDoorRfn
namespace Go.TQ
section
variable {U : TU}

/-! ### arguments and results -/
inductive ATy (U : TU) where
  | ty (T : U.Ty)
  | clo (f : FuncId) (cs : List (ATy U))
  | ref (a : ATy U)
  | agg (cs : List (ATy U))
inductive RTy (U : TU) where
  | one (T : U.Ty)
  | many (Ts : List U.Ty)
  | fn (a : ATy U)
@[reducible] def TDen (U : TU) : List U.Ty → Type
  | [] => Unit
  | T :: l => U.den T × TDen U l
mutual
@[reducible] def ATy.den : ATy U → Type
  | .ty T => U.den T
  | .clo _ cs => ADen cs
  | .ref a => a.den
  | .agg cs => ADen cs
@[reducible] def ADen : List (ATy U) → Type
  | [] => Unit
  | a :: l => a.den × ADen l
end
@[reducible] def RTy.den : RTy U → Type
  | .one T => U.den T
  | .many Ts => TDen U Ts
  | .fn a => a.den
def tsPV : (Ts : List U.Ty) → TDen U Ts → List PV
  | [], _ => []
  | T :: l, v => valPV T v.1 :: tsPV l v.2
mutual
def argPV : (a : ATy U) → a.den → PV
  | .ty T, v => valPV T v
  | .clo f cs, v => .clo f (asPV cs v)
  | .ref a, v => .ref (argCs a v)
  | .agg cs, v => .agg (asPV cs v)
def argCs : (a : ATy U) → a.den → List PV
  | .ty T, v => U.pv T v
  | .clo f cs, v => [.clo f (asPV cs v)]
  | .ref a, v => [.ref (argCs a v)]
  | .agg cs, v => asPV cs v
def asPV : (as : List (ATy U)) → ADen as → List PV
  | [], _ => []
  | a :: l, v => argPV a v.1 :: asPV l v.2
end
def rsPV : (r : RTy U) → r.den → PV
  | .one T, v => valPV T v
  | .many Ts, v => .tup (tsPV Ts v)
  | .fn a, v => argPV a v

variable (K : TK U)
def tsK : (Ts : List U.Ty) → TDen U Ts → List (KV U)
  | [], _ => []
  | T :: l, v => valK K T v.1 :: tsK l v.2
mutual
def argK : (a : ATy U) → a.den → KV U
  | .ty T, v => valK K T v
  | .clo f cs, v => .clo f (asK cs v)
  | .ref a, v => .ref (argCK a v)
  | .agg cs, v => .agg (asK cs v)
def argCK : (a : ATy U) → a.den → List (KV U)
  | .ty T, v => K.enc T v
  | .clo f cs, v => [.clo f (asK cs v)]
  | .ref a, v => [.ref (argCK a v)]
  | .agg cs, v => asK cs v
def asK : (as : List (ATy U)) → ADen as → List (KV U)
  | [], _ => []
  | a :: l, v => argK a v.1 :: asK l v.2
end
def rsK : (r : RTy U) → r.den → KV U
  | .one T, v => valK K T v
  | .many Ts, v => .tup (tsK K Ts v)
  | .fn a, v => argK K a v
theorem tsK_pv : ∀ (Ts : List U.Ty) (v : TDen U Ts), (tsK K Ts v).map KV.pv = tsPV Ts v
  | [], _ => rfl
  | T :: l, v => by rw [tsK, tsPV, List.map_cons, valK_pv, tsK_pv l v.2]
mutual
theorem argK_pv : ∀ (a : ATy U) (v : a.den), (argK K a v).pv = argPV a v
  | .ty T, v => by rw [argK, argPV]; exact valK_pv K T v
  | .clo f cs, v => by rw [argK, argPV, KV.pv, KV.pvs_map, asK_pv cs v]
  | .ref a, v => by rw [argK, argPV, KV.pv, KV.pvs_map, argCK_pv a v]
  | .agg cs, v => by rw [argK, argPV, KV.pv, KV.pvs_map, asK_pv cs v]
theorem argCK_pv : ∀ (a : ATy U) (v : a.den), (argCK K a v).map KV.pv = argCs a v
  | .ty T, v => by rw [argCK, argCs]; exact K.enc_pv T v
  | .clo f cs, v => by rw [argCK, argCs, List.map_cons, List.map_nil, KV.pv, KV.pvs_map, asK_pv cs v]
  | .ref a, v => by rw [argCK, argCs, List.map_cons, List.map_nil, KV.pv, KV.pvs_map, argCK_pv a v]
  | .agg cs, v => by rw [argCK, argCs, asK_pv cs v]
theorem asK_pv : ∀ (as : List (ATy U)) (v : ADen as), (asK K as v).map KV.pv = asPV as v
  | [], _ => by rw [asK, asPV]; rfl
  | a :: l, v => by rw [asK, asPV, List.map_cons, argK_pv a v.1, asK_pv l v.2]
end
theorem rsK_pv : ∀ (r : RTy U) (v : r.den), (rsK K r v).pv = rsPV r v
  | .one T, v => valK_pv K T v
  | .many Ts, v => by rw [rsK, rsPV, KV.pv, KV.pvs_map, tsK_pv]
  | .fn a, v => argK_pv K a v

def decTs (lk : Lk U) : (Ts : List U.Ty) → List (KV U) → Option (TDen U Ts)
  | [], xs => match xs with | [] => some () | _ => none
  | T :: l, xs => match xs with
    | x :: xs => (match unval K lk T x with
      | some v => (match decTs lk l xs with | some vs => some (v, vs) | none => none)
      | none => none)
    | [] => none
def KV.noNil : KV U → Bool
  | .nils => false
  | _ => true
def exNe : Option Nat → Nat → Bool
  | none, _ => true
  | some i, id => !Nat.beq i id
def head1 : List (KV U) → KV U
  | [x] => x
  | _ => .any
/-- exact: nothing is looked up -/
def decS0 (T : U.Ty) (cs : List (KV U)) : Option (U.den T) :=
  match cs.all KV.noNil with
  | true => K.dec T noLk cs
  | false => none
def onClo {α : Type} (f : FuncId) (x : KV U) (k : List (KV U) → Option α) : Option α :=
  match x with
  | .clo g caps => (match Nat.beq g f with | true => k caps | false => none)
  | _ => none
def onAgg {α : Type} (x : KV U) (k : List (KV U) → Option α) : Option α :=
  match x with
  | .agg cs => k cs
  | _ => none
def onRef {α : Type} (x : KV U) (k : List (KV U) → Option α) : Option α :=
  match x with
  | .ref cs => k cs
  | _ => none
def onNil (xs : List (KV U)) : Option Unit :=
  match xs with
  | [] => some ()
  | _ => none
def onCons {α β : Type} (xs : List (KV U)) (k : KV U → Option α) (m : List (KV U) → Option β) : Option (α × β) :=
  match xs with
  | x :: l => (match k x with
    | some v => (match m l with | some vs => some (v, vs) | none => none)
    | none => none)
  | [] => none
def onPtr {α : Type} (S : KSt U) (ex : Option Nat) (x : KV U) (k0 k1 : List (KV U) → Option α) : Option α :=
  match x with
  | .ref cells => k0 cells
  | .ptr id ver off => (match Nat.beq off 0 && exNe ex id with
    | true => (match Nat.beq (S.H id).ver ver with
      | true => (match (S.H id).c with
        | .box cells => k1 cells
        | _ => none)
      | false => none)
    | false => none)
  | _ => none
theorem onClo_some {α : Type} {f : FuncId} {x : KV U} {k : List (KV U) → Option α} {r : α} (h : onClo f x k = some r) : ∃ caps, x = .clo f caps ∧ k caps = some r := by
  unfold onClo at h
  split at h
  · split at h
    · rename_i hg; exact ⟨_, by rw [Nat.eq_of_beq_eq_true hg], h⟩
    · cases h
  · cases h
theorem onAgg_some {α : Type} {x : KV U} {k : List (KV U) → Option α} {r : α} (h : onAgg x k = some r) : ∃ cs, x = .agg cs ∧ k cs = some r := by
  unfold onAgg at h
  split at h
  · exact ⟨_, rfl, h⟩
  · cases h
theorem onRef_some {α : Type} {x : KV U} {k : List (KV U) → Option α} {r : α} (h : onRef x k = some r) : ∃ cs, x = .ref cs ∧ k cs = some r := by
  unfold onRef at h
  split at h
  · exact ⟨_, rfl, h⟩
  · cases h
theorem onNil_some {xs : List (KV U)} {r : Unit} (h : onNil xs = some r) : xs = [] := by
  unfold onNil at h
  split at h
  · rfl
  · cases h
theorem onCons_some {α β : Type} {xs : List (KV U)} {k : KV U → Option α} {m : List (KV U) → Option β} {r : α × β} (h : onCons xs k m = some r) : ∃ x l, xs = x :: l ∧ k x = some r.1 ∧ m l = some r.2 := by
  unfold onCons at h
  split at h
  · split at h
    · rename_i h1
      split at h
      · rename_i h2
        injection h with h
        subst h
        exact ⟨_, _, rfl, h1, h2⟩
      · cases h
    · cases h
  · cases h
theorem onPtr_some {α : Type} {S : KSt U} {ex : Option Nat} {x : KV U} {k0 k1 : List (KV U) → Option α} {r : α} (h : onPtr S ex x k0 k1 = some r) :
    (∃ cs, x = .ref cs ∧ k0 cs = some r) ∨ ∃ id ver cells, x = .ptr id ver 0 ∧ exNe ex id = true ∧ (S.H id).ver = ver ∧ (S.H id).c = .box cells ∧ k1 cells = some r := by
  unfold onPtr at h
  split at h
  · exact .inl ⟨_, rfl, h⟩
  · split at h
    · rename_i hoff
      rw [Bool.and_eq_true] at hoff
      split at h
      · rename_i hver
        split at h
        · rename_i hc
          exact .inr ⟨_, _, _, by rw [Nat.eq_of_beq_eq_true hoff.1], hoff.2, Nat.eq_of_beq_eq_true hver, hc, h⟩
        · cases h
      · cases h
    · cases h
  · cases h
mutual
def decA0 : (a : ATy U) → KV U → Option a.den
  | .ty T, x => (match U.agg T with
    | true => onAgg x fun cs => decS0 K T cs
    | false => decS0 K T [x])
  | .clo f cs, x => onClo f x fun caps => decAs0 cs caps
  | .ref a, x => onRef x fun cells => decC0 a cells
  | .agg cs, x => onAgg x fun cells => decAs0 cs cells
def decC0 : (a : ATy U) → List (KV U) → Option a.den
  | .ty T, cells => decS0 K T cells
  | .clo f cs, cells => onClo f (head1 cells) fun caps => decAs0 cs caps
  | .ref a, cells => onRef (head1 cells) fun cells => decC0 a cells
  | .agg cs, cells => decAs0 cs cells
def decAs0 : (as : List (ATy U)) → List (KV U) → Option (ADen as)
  | [], xs => onNil xs
  | a :: l, xs => onCons xs (fun x => decA0 a x) fun xs => decAs0 l xs
end
mutual
def decA (S : KSt U) (ex : Option Nat) : (a : ATy U) → KV U → Option a.den
  | .ty T, x => unval K S.lk T x
  | .clo f cs, x => onClo f x fun caps => decAs S ex cs caps
  | .ref a, x => onPtr S ex x (fun cells => decC0 K a cells) fun cells => decC S ex a cells
  | .agg cs, x => onAgg x fun cells => decAs S ex cs cells
def decC (S : KSt U) (ex : Option Nat) : (a : ATy U) → List (KV U) → Option a.den
  | .ty T, cells => K.dec T S.lk cells
  | .clo f cs, cells => onClo f (head1 cells) fun caps => decAs S ex cs caps
  | .ref a, cells => onPtr S ex (head1 cells) (fun cells => decC0 K a cells) fun cells => decC S ex a cells
  | .agg cs, cells => decAs S ex cs cells
def decAs (S : KSt U) (ex : Option Nat) : (as : List (ATy U)) → List (KV U) → Option (ADen as)
  | [], xs => onNil xs
  | a :: l, xs => onCons xs (fun x => decA S ex a x) fun xs => decAs S ex l xs
end
mutual
def ATy.depth : ATy U → Nat
  | .ty _ => 2
  | .clo _ cs => asDepth cs + 1
  | .ref a => a.depth + 1
  | .agg cs => asDepth cs + 1
def asDepth : List (ATy U) → Nat
  | [] => 2
  | a :: l => max a.depth (asDepth l)
end
def RTy.plain : RTy U → Bool
  | .one T => U.plain T
  | .many Ts => Ts.all U.plain
  | .fn _ => false
def ATy.isRef : ATy U → Bool
  | .ref _ => true
  | _ => false
def RTy.ok : RTy U → Bool
  | .fn (.clo _ cs) => cs.all ATy.isRef
  | .fn _ => false
  | _ => true

/-! ### as a callee sees them -/
theorem fz_good {H : Nat → AObj} {ex : Option Nat} : ∀ (n : Nat) {y : PV}, y.good = true → fz H ex n y = y
  | 0, y, h => by cases y <;> simp [PV.good] at h <;> simp [fz, PV.closed]
  | n + 1, y, h => by cases y <;> simp [PV.good] at h <;> simp [fz, PV.closed]
theorem fz_goods {H : Nat → AObj} {ex : Option Nat} (n : Nat) {l : List PV} (h : ∀ y ∈ l, y.good = true) : l.map (fz H ex n) = l := by
  induction l with
  | nil => rfl
  | cons x l ih => rw [List.map_cons, fz_good n (h x (by simp)), ih fun y hy => h y (by simp [hy])]
theorem lk_some {S : KSt U} {id ver : Nat} {T : U.Ty} {xs : List (U.den T)} (h : S.lk id ver T = some xs) : (S.H id).ver = ver ∧ ∃ e k, (S.H id).c = .row e k T xs := by
  unfold KSt.lk at h
  split at h
  · rename_i hv
    split at h
    · rename_i e k T' ys hc
      obtain ⟨eq, rfl⟩ := castL_some h
      subst eq
      exact ⟨Nat.eq_of_beq_eq_true hv, e, k, hc⟩
    · cases h
  · cases h
variable {K}
variable {S : KSt U} {ex : Option Nat}
theorem cell_fz (hex : ∀ id, ex = some id → ∀ e k T xs, (S.H id).c ≠ .row e k T xs) (n : Nat) {x : KV U} {y : PV} (h : CellOk S.lk x y) (K : TK U) : fz S.st.H ex (n + 1) x.pv = y := by
  cases h with
  | int => simp [KV.pv, fz, PV.closed]
  | bool => simp [KV.pv, fz, PV.closed]
  | str => simp [KV.pv, fz, PV.closed]
  | nils => simp [KV.pv, fz]
  | sl T xs => simp [KV.pv, fz, PV.closed]
  | mapv A B xs => simp [KV.pv, fz, PV.closed]
  | nili => simp [KV.pv, fz, PV.closed]
  | ifc T x => simp [KV.pv, fz, PV.closed]
  | dyn => simp [KV.pv, fz, PV.closed]
  | own id ver T xs h =>
    obtain ⟨hv, e, k, hc⟩ := lk_some h
    have hne : ¬ (some id = ex ∨ (S.st.H id).ver ≠ ver) := by
      rintro (h1 | h1)
      · exact hex id h1.symm _ _ _ _ hc
      · exact h1 hv
    have hcp : (S.st.H id).c = .row e k (xs.map (U.pv T)) := by simp [KSt.st, KObj.pv, hc, KCont.pv]
    simp only [KV.pv, fz]
    rw [if_neg hne, hcp]
    simp only [List.map_map]
    congr 1
    refine List.map_congr_left fun v _ => ?_
    exact fz_goods n fun y hy => K.good T v y hy
theorem cells_fz (hex : ∀ id, ex = some id → ∀ e k T xs, (S.H id).c ≠ .row e k T xs) (n : Nat) {xs : List (KV U)} {ys : List PV} (h : CellsOk S.lk xs ys) (K : TK U) : (xs.map KV.pv).map (fz S.st.H ex (n + 1)) = ys := by
  induction h with
  | nil => rfl
  | cons h _ ih => rw [List.map_cons, List.map_cons, cell_fz hex n h K, ih]
theorem unval_fz (hex : ∀ id, ex = some id → ∀ e k T xs, (S.H id).c ≠ .row e k T xs) (n : Nat) {T : U.Ty} {x : KV U} {v : U.den T} (h : unval K S.lk T x = some v) : fz S.st.H ex (n + 2) x.pv = valPV T v := by
  unfold unval at h
  unfold valPV
  split at h
  · rename_i ha
    split at h
    · rename_i cs
      simp only [KV.pv, KV.pvs_map, fz, cells_fz hex n (K.dec_ok _ _ _ _ h) K]
    · cases h
  · rename_i ha
    have h1 := cells_fz hex (n + 1) (K.dec_ok _ _ _ _ h) K
    simp only [List.map_cons, List.map_nil] at h1
    simp only [← h1, List.headD_cons]
theorem decTs_fz (hex : ∀ id, ex = some id → ∀ e k T xs, (S.H id).c ≠ .row e k T xs) (n : Nat) : ∀ (Ts : List U.Ty) (xs : List (KV U)) (v : TDen U Ts), decTs K S.lk Ts xs = some v → (xs.map KV.pv).map (fz S.st.H ex (n + 2)) = tsPV Ts v
  | [], [], _, _ => rfl
  | [], _ :: _, _, h => by cases h
  | T :: l, [], _, h => by cases h
  | T :: l, x :: xs, v, h => by
    rw [decTs] at h
    split at h
    · rename_i v1 h1
      split at h
      · rename_i vs h2
        injection h with h
        subst h
        rw [List.map_cons, List.map_cons, tsPV, unval_fz hex n h1, decTs_fz hex n l xs vs h2]
      · cases h
    · cases h
theorem strict_pv {xs : List (KV U)} {ys : List PV} (h : CellsOk noLk xs ys) : xs.all KV.noNil = true → xs.map KV.pv = ys := by
  induction h with
  | nil => intro _; rfl
  | cons hc _ ih =>
    intro hn
    rw [List.all_cons, Bool.and_eq_true] at hn
    rw [List.map_cons, ih hn.2]
    congr 1
    cases hc with
    | nils => cases hn.1
    | own _ _ _ _ h => cases h
    | _ => rfl
theorem decS0_pv {T : U.Ty} {cs : List (KV U)} {v : U.den T} (h : decS0 K T cs = some v) : cs.map KV.pv = U.pv T v := by
  unfold decS0 at h
  split at h
  · rename_i hn; exact strict_pv (K.dec_ok _ _ _ _ h) hn
  · cases h
theorem head1_some {cs : List (KV U)} {f : FuncId} {caps : List (KV U)} (h : head1 cs = .clo f caps) : cs = [.clo f caps] := by
  unfold head1 at h
  split at h
  · rw [h]
  · cases h
theorem head1_ref {cs cells : List (KV U)} (h : head1 cs = .ref cells) : cs = [.ref cells] := by
  unfold head1 at h
  split at h
  · rw [h]
  · cases h
theorem head1_ptr {cs : List (KV U)} {id ver off : Nat} (h : head1 cs = .ptr id ver off) : cs = [.ptr id ver off] := by
  unfold head1 at h
  split at h
  · rw [h]
  · cases h
mutual
theorem decA0_pv : ∀ (a : ATy U) (x : KV U) (v : a.den), decA0 K a x = some v → x.pv = argPV a v
  | .ty T, x, v, h => by
    rw [decA0] at h
    rw [argPV]
    split at h
    · rename_i ha
      obtain ⟨cs, rfl, h⟩ := onAgg_some h
      rw [KV.pv, KV.pvs_map, decS0_pv h, valPV, ha]
    · rename_i ha
      have := decS0_pv h
      rw [valPV, ha, ← this]
      rfl
  | .clo f cs, x, v, h => by
    rw [decA0] at h
    rw [argPV]
    obtain ⟨caps, rfl, h'⟩ := onClo_some h
    rw [KV.pv, KV.pvs_map, decAs0_pv cs caps v h']
  | .ref a, x, v, h => by
    rw [decA0] at h
    rw [argPV]
    obtain ⟨cells, rfl, h⟩ := onRef_some h
    rw [KV.pv, KV.pvs_map, decC0_pv a cells v h]
  | .agg cs, x, v, h => by
    rw [decA0] at h
    rw [argPV]
    obtain ⟨cells, rfl, h⟩ := onAgg_some h
    rw [KV.pv, KV.pvs_map, decAs0_pv cs cells v h]
theorem decC0_pv : ∀ (a : ATy U) (cs : List (KV U)) (v : a.den), decC0 K a cs = some v → cs.map KV.pv = argCs a v
  | .ty T, cs, v, h => by rw [decC0] at h; rw [argCs]; exact decS0_pv h
  | .clo f cs, cells, v, h => by
    rw [decC0] at h
    rw [argCs]
    obtain ⟨caps, hh, h⟩ := onClo_some h
    rw [head1_some hh, List.map_cons, List.map_nil, KV.pv, KV.pvs_map, decAs0_pv cs caps v h]
  | .ref a, cells, v, h => by
    rw [decC0] at h
    rw [argCs]
    obtain ⟨cells', hh, h⟩ := onRef_some h
    rw [head1_ref hh, List.map_cons, List.map_nil, KV.pv, KV.pvs_map, decC0_pv a cells' v h]
  | .agg cs, cells, v, h => by
    rw [decC0] at h
    rw [argCs]
    exact decAs0_pv cs cells v h
theorem decAs0_pv : ∀ (as : List (ATy U)) (xs : List (KV U)) (v : ADen as), decAs0 K as xs = some v → xs.map KV.pv = asPV as v
  | [], xs, v, h => by
    rw [decAs0] at h
    rw [asPV, onNil_some h]
    rfl
  | a :: l, xs, v, h => by
    rw [decAs0] at h
    rw [asPV]
    obtain ⟨x, xs, rfl, h1, h2⟩ := onCons_some h
    rw [List.map_cons, decA0_pv a x v.1 h1, decAs0_pv l xs v.2 h2]
end
mutual
theorem decA_fz (hex : ∀ id, ex = some id → ∀ e k T xs, (S.H id).c ≠ .row e k T xs) : ∀ (a : ATy U) (n : Nat) (x : KV U) (v : a.den), a.depth ≤ n → decA K S ex a x = some v → fz S.st.H ex n x.pv = argPV a v
  | .ty T, n, x, v, hd, h => by
    rw [decA] at h
    rw [argPV]
    rw [ATy.depth] at hd
    obtain ⟨m, rfl⟩ : ∃ m, n = m + 2 := ⟨n - 2, by omega⟩
    exact unval_fz hex m h
  | .clo f cs, n, x, v, hd, h => by
    rw [decA] at h
    rw [argPV]
    rw [ATy.depth] at hd
    obtain ⟨m, rfl⟩ : ∃ m, n = m + 1 := ⟨n - 1, by omega⟩
    obtain ⟨caps, rfl, h'⟩ := onClo_some h
    rw [KV.pv, KV.pvs_map, fz, decAs_fz hex cs m caps v (by omega) h']
  | .ref a, n, x, v, hd, h => by
    rw [decA] at h
    rw [argPV]
    rw [ATy.depth] at hd
    obtain ⟨m, rfl⟩ : ∃ m, n = m + 1 := ⟨n - 1, by omega⟩
    rcases onPtr_some h with ⟨cells, rfl, h⟩ | ⟨id, ver, cells, rfl, hex2, hver, hc, h⟩
    · rw [KV.pv, KV.pvs_map, decC0_pv a cells v h]
      simp [fz, PV.closed]
    · have hne : ¬ (some id = ex ∨ (S.st.H id).ver ≠ ver) := by
        rintro (h1 | h1)
        · rw [← h1] at hex2
          simp [exNe] at hex2
        · exact h1 hver
      have hcp : (S.st.H id).c = .box (cells.map KV.pv) := by simp [KSt.st, KObj.pv, hc, KCont.pv]
      simp only [KV.pv, fz]
      rw [if_neg hne, hcp]
      simp only [List.drop_zero]
      rw [decC_fz hex a m cells v (by omega) h]
  | .agg cs, n, x, v, hd, h => by
    rw [decA] at h
    rw [argPV]
    rw [ATy.depth] at hd
    obtain ⟨m, rfl⟩ : ∃ m, n = m + 1 := ⟨n - 1, by omega⟩
    obtain ⟨caps, rfl, h'⟩ := onAgg_some h
    rw [KV.pv, KV.pvs_map, fz, decAs_fz hex cs m caps v (by omega) h']
theorem decC_fz (hex : ∀ id, ex = some id → ∀ e k T xs, (S.H id).c ≠ .row e k T xs) : ∀ (a : ATy U) (n : Nat) (cs : List (KV U)) (v : a.den), a.depth ≤ n → decC K S ex a cs = some v → (cs.map KV.pv).map (fz S.st.H ex n) = argCs a v
  | .ty T, n, cs, v, hd, h => by
    rw [decC] at h
    rw [argCs]
    rw [ATy.depth] at hd
    obtain ⟨m, rfl⟩ : ∃ m, n = m + 1 := ⟨n - 1, by omega⟩
    exact cells_fz hex m (K.dec_ok _ _ _ _ h) K
  | .clo f cs, n, cells, v, hd, h => by
    rw [decC] at h
    rw [argCs]
    rw [ATy.depth] at hd
    obtain ⟨m, rfl⟩ : ∃ m, n = m + 1 := ⟨n - 1, by omega⟩
    obtain ⟨caps, hh, h⟩ := onClo_some h
    rw [head1_some hh, List.map_cons, List.map_nil, List.map_cons, List.map_nil, KV.pv, KV.pvs_map, fz, decAs_fz hex cs m caps v (by omega) h]
  | .ref a, n, cells, v, hd, h => by
    rw [decC] at h
    rw [argCs]
    rw [ATy.depth] at hd
    obtain ⟨m, rfl⟩ : ∃ m, n = m + 1 := ⟨n - 1, by omega⟩
    rcases onPtr_some h with ⟨cells', hh, h⟩ | ⟨id, ver, cells', hh, hex2, hver, hc, h⟩
    · rw [head1_ref hh, List.map_cons, List.map_nil, KV.pv, KV.pvs_map, decC0_pv a cells' v h]
      simp [fz, PV.closed]
    · have hne : ¬ (some id = ex ∨ (S.st.H id).ver ≠ ver) := by
        rintro (h1 | h1)
        · rw [← h1] at hex2
          simp [exNe] at hex2
        · exact h1 hver
      have hcp : (S.st.H id).c = .box (cells'.map KV.pv) := by simp [KSt.st, KObj.pv, hc, KCont.pv]
      rw [head1_ptr hh]
      simp only [List.map_cons, List.map_nil, KV.pv, fz]
      rw [if_neg hne, hcp]
      simp only [List.drop_zero]
      rw [decC_fz hex a m cells' v (by omega) h]
  | .agg cs, n, cells, v, hd, h => by
    rw [decC] at h
    rw [argCs]
    rw [ATy.depth] at hd
    exact decAs_fz hex cs n cells v (by omega) h
theorem decAs_fz (hex : ∀ id, ex = some id → ∀ e k T xs, (S.H id).c ≠ .row e k T xs) : ∀ (as : List (ATy U)) (n : Nat) (xs : List (KV U)) (v : ADen as), asDepth as ≤ n → decAs K S ex as xs = some v → (xs.map KV.pv).map (fz S.st.H ex n) = asPV as v
  | [], n, xs, v, hd, h => by
    rw [decAs] at h
    rw [asPV, onNil_some h]
    rfl
  | a :: l, n, xs, v, hd, h => by
    rw [decAs] at h
    rw [asPV]
    rw [asDepth] at hd
    obtain ⟨x, xs, rfl, h1, h2⟩ := onCons_some h
    rw [List.map_cons, List.map_cons, decA_fz hex a n x v.1 (by omega) h1, decAs_fz hex l n xs v.2 (by omega) h2]
end
theorem cells_nz {xs : List (KV U)} {ys : List PV} (h : CellsOk noLk xs ys) : (xs.map KV.pv).map nz = ys ∧ xs.all KV.closed = true := by
  induction h with
  | nil => exact ⟨rfl, rfl⟩
  | cons h _ ih =>
    obtain ⟨h1, h2⟩ := ih
    simp only [List.map_cons, List.all_cons, h1, h2, Bool.and_true]
    cases h with
    | own _ _ _ _ h => cases h
    | _ => simp [KV.pv, nz, KV.closed]

/-! ### functions -/
/-- a row is out of sight -/
def KSt.hide (S : KSt U) (id ver : Nat) : KSt U := { env := S.env, H := updK S.H id ⟨ver, .dead⟩, N := S.N }
theorem fz_ex {H H' : Nat → AObj} {ex : Option Nat} (h : ∀ j, some j ≠ ex → H' j = H j) : ∀ (n : Nat) (y : PV), fz H' ex n y = fz H ex n y
  | 0, y => by simp only [fz]
  | n + 1, y => by
    have hm : fz H' ex n = fz H ex n := funext (fz_ex h n)
    cases y with
    | own id ver =>
      simp only [fz, hm]
      by_cases h0 : some id = ex
      · rw [if_pos (.inl h0), if_pos (.inl h0)]
      · rw [h id h0]
    | ptr id ver off =>
      simp only [fz, hm]
      by_cases h0 : some id = ex
      · rw [if_pos (.inl h0), if_pos (.inl h0)]
      · rw [h id h0]
    | agg cs => simp only [fz, hm]
    | tup cs => simp only [fz, hm]
    | clo f cs => simp only [fz, hm]
    | _ => simp only [fz]
theorem hide_fz (S : KSt U) (id ver n : Nat) (y : PV) : fz (S.hide id ver).st.H (some id) n y = fz S.st.H (some id) n y := by
  refine fz_ex (fun j hj => ?_) n y
  have : j ≠ id := fun e => hj (by rw [e])
  simp only [KSt.hide, KSt.st, updK_upd, upd_ne _ _ this]
theorem hide_hex (S : KSt U) (id ver : Nat) : ∀ j, some id = some j → ∀ e k T xs, ((S.hide id ver).H j).c ≠ .row e k T xs := by
  intro j hj e k T xs
  injection hj with hj
  subst hj
  simp only [KSt.hide, updK_upd, upd_same]
  intro h
  cases h
inductive KFun (U : TU) where
  | rw (f : FuncId) (e k : Nat) (T : U.Ty) (as : List (ATy U)) (rs : RTy U) (F : List (U.den T) → ADen as → Option (rs.den × List (U.den T)))
  | cw (f : FuncId) (e k : Nat) (T : U.Ty) (as : List (ATy U)) (F : List (U.den T) → ADen as → Option (List (U.den T)))
  | fw (f : FuncId) (as : List (ATy U)) (e k : Nat) (T : U.Ty) (F : ADen as → Option (List (U.den T)))
  | fn (f : FuncId) (as : List (ATy U)) (rs : RTy U) (F : ADen as → Option rs.den)
  | rc (f : FuncId) (pos : Nat) (R : U.Ty) (as : List (ATy U)) (rs : RTy U) (F : U.den R → ADen as → Option (rs.den × U.den R))
  | nw (f : FuncId) (as : List (ATy U)) (R : U.Ty) (F : ADen as → Option (U.den R))
  /-- a receiver that is only read -/
  | ro (f : FuncId) (pos : Nat) (R : U.Ty) (as : List (ATy U)) (rs : RTy U) (F : U.den R → ADen as → Option (rs.den × U.den R))
  /-- two receivers -/
  | r2 (f : FuncId) (R1 R2 : U.Ty) (F : U.den R1 → U.den R2 → Option (U.den R1 × U.den R2))
  /-- what f hands back, g takes at once -/
  | pr (f g : FuncId) (as : List (ATy U)) (e k : Nat) (T : U.Ty) (F : ADen as → Option (List (U.den T)))
  /-- the iterator of slices.Backward -/
  | bk (f k : Nat) (nE : Option Nat)
def KFun.Sound (P : Program) : KFun U → Prop
  | .rw f e k T as rs F => Enters P f ∧ ∀ xs a r ys, F xs a = some (r, ys) → ConR P f e k (xs.map (U.pv T)) (asPV as a) (rsPV rs r) (ys.map (U.pv T))
  | .cw f e k T as F => Enters P f ∧ ∀ xs a ys, F xs a = some ys → ConC P f e k (xs.map (U.pv T)) (asPV as a) (ys.map (U.pv T))
  | .fw f as e k T F => Enters P f ∧ ∀ a ys, F a = some ys → ConF P f (asPV as a) e k (ys.map (U.pv T))
  | .fn f as rs F => Enters P f ∧ ∀ a r, F a = some r → Con P f false [] (asPV as a) (rsPV rs r) []
  | .rc f pos R as rs F => Enters P f ∧ ∀ s a r s', F s a = some (r, s') → ConAt P f pos true (U.pv R s) (asPV as a) (rsPV rs r) (U.pv R s')
  | .ro f pos R as rs F => Enters P f ∧ ∀ s a r s', F s a = some (r, s') → s' = s ∧ ConAt P f pos true (U.pv R s) (asPV as a) (rsPV rs r) (U.pv R s')
  | .nw f as R F => Enters P f ∧ ∀ a s, F a = some s → ConN P f (asPV as a) (U.pv R s)
  | .r2 f R1 R2 F => Enters P f ∧ ∀ s t s' t', F s t = some (s', t') → Con2 P f (U.pv R1 s) (U.pv R2 t) (U.pv R1 s') (U.pv R2 t')
  | .pr f g as e k T F => (Enters P f ∧ Enters P g) ∧ ∀ a ys, F a = some ys → ConP P f g (asPV as a) e k (ys.map (U.pv T))
  | .bk f k nE => FnOk P f 19 (backSC k nE) []
def AllK (P : Program) : List (KFun U) → Prop
  | [] => True
  | f :: l => f.Sound P ∧ AllK P l
def hasBk (f k : Nat) (nE : Option Nat) : List (KFun U) → Bool
  | [] => false
  | .bk f' k' nE' :: Γ => (Nat.beq f f' && Nat.beq k k' && (match nE, nE' with | none, none => true | some a, some b => Nat.beq a b | _, _ => false)) || hasBk f k nE Γ
  | _ :: Γ => hasBk f k nE Γ
theorem hasBk_ok {P : Program} {f k : Nat} {nE : Option Nat} : ∀ {Γ : List (KFun U)}, AllK P Γ → hasBk f k nE Γ = true → FnOk P f 19 (backSC k nE) []
  | [], _, h => by cases h
  | .bk f' k' nE' :: Γ, hΓ, h => by
    simp only [hasBk, Bool.or_eq_true, Bool.and_eq_true] at h
    rcases h with ⟨⟨h1, h2⟩, h3⟩ | h
    · have h1 := Nat.eq_of_beq_eq_true h1
      have h2 := Nat.eq_of_beq_eq_true h2
      subst h1 h2
      have h4 : nE = nE' := by
        cases nE <;> cases nE' <;> simp only at h3 <;> first | rfl | (cases h3) | (rw [Nat.eq_of_beq_eq_true h3])
      subst h4
      exact hΓ.1
    · exact hasBk_ok hΓ.2 h
  | .ro .. :: Γ, hΓ, h | .rw .. :: Γ, hΓ, h | .cw .. :: Γ, hΓ, h | .fw .. :: Γ, hΓ, h | .fn .. :: Γ, hΓ, h | .rc .. :: Γ, hΓ, h | .nw .. :: Γ, hΓ, h | .r2 .. :: Γ, hΓ, h | .pr .. :: Γ, hΓ, h => hasBk_ok (Γ := Γ) hΓ.2 h

theorem good_closed' {y : PV} (h : y.good = true) : y.closed = true := by
  cases y <;> first | rfl | cases h
open Classical in
noncomputable def mFact (recv : Bool) (pos : Nat) (fresh ro : Bool) (cs args : List PV) (r : PV) (cs' : List PV) : Model :=
  { recv := recv, pos := pos, fresh := fresh, m := fun c a => if c = cs ∧ a = args then some (r, cs') else none, rk := .no, ro := ro, rm := fun _ _ => none }
open Classical in
noncomputable def rFact (rk : RK) (es : List (List PV)) (args : List PV) (r : PV) (es' : List (List PV)) : Model :=
  { recv := false, pos := 0, fresh := false, m := fun _ _ => none, rk := rk, ro := false, rm := fun c a => if c = es ∧ a = args then some (r, es') else none }
noncomputable def oneTab (f : FuncId) (m : Model) : Tab := fun g => if g = f then some m else none
theorem oneTab_ok {P : Program} {f : FuncId} {m : Model} (h : SoundM P f m) : TabOk P (oneTab f m) := by
  intro g m' hg
  unfold oneTab at hg
  split at hg
  · rename_i e; subst e; injection hg with hg; subst hg; exact h
  · cases hg
theorem oneTab_at (f : FuncId) (m : Model) : oneTab f m f = some m := if_pos rfl

def KSt.box? (S : KSt U) (id ver : Nat) : Option (List (KV U)) :=
  match Nat.beq (S.H id).ver ver with
  | true => match (S.H id).c with
    | .box cs => some cs
    | _ => none
  | false => none
theorem box?_some {id ver : Nat} {cs : List (KV U)} (h : S.box? id ver = some cs) : (S.H id).ver = ver ∧ (S.H id).c = .box cs := by
  unfold KSt.box? at h
  split at h
  · rename_i hv
    split at h
    · rename_i hc; injection h with h; subst h; exact ⟨Nat.eq_of_beq_eq_true hv, hc⟩
    · cases h
  · cases h

structure KRow (U : TU) where
  e : Nat
  k : Nat
  T : U.Ty
  xs : List (U.den T)
def KSt.row? (S : KSt U) (id ver : Nat) : Option (KRow U) :=
  match Nat.beq (S.H id).ver ver with
  | true => match (S.H id).c with
    | .row e k T xs => some ⟨e, k, T, xs⟩
    | _ => none
  | false => none
theorem row?_some {id ver : Nat} {r : KRow U} (h : S.row? id ver = some r) : (S.H id).ver = ver ∧ (S.H id).c = .row r.e r.k r.T r.xs := by
  unfold KSt.row? at h
  split at h
  · rename_i hv
    split at h
    · rename_i hc; injection h with h; subst h; exact ⟨Nat.eq_of_beq_eq_true hv, hc⟩
    · cases h
  · cases h
theorem row_st {id ver : Nat} {r : KRow U} (h : S.row? id ver = some r) : (S.st.H id).ver = ver ∧ (S.st.H id).c = .row r.e r.k (r.xs.map (U.pv r.T)) := by
  obtain ⟨h1, h2⟩ := row?_some h
  exact ⟨h1, by simp [KSt.st, KObj.pv, h2, KCont.pv]⟩
/-- a row of raw cells -/
structure KRaw (U : TU) where
  e : Nat
  k : Nat
  es : List (List (KV U))
def KSt.raw? (S : KSt U) (id ver : Nat) : Option (KRaw U) :=
  match Nat.beq (S.H id).ver ver with
  | true => match (S.H id).c with
    | .raw e k es => some ⟨e, k, es⟩
    | _ => none
  | false => none
theorem raw_st {id ver : Nat} {r : KRaw U} (h : S.raw? id ver = some r) : (S.st.H id).ver = ver ∧ (S.st.H id).c = .row r.e r.k (r.es.map fun c => c.map KV.pv) := by
  unfold KSt.raw? at h
  split at h
  · rename_i hv
    split at h
    · rename_i hc
      injection h with h
      subst h
      exact ⟨Nat.eq_of_beq_eq_true hv, by simp [KSt.st, KObj.pv, hc, KCont.pv]⟩
    · cases h
  · cases h
/-- the first argument is a row of this kind -/
def onRow {α : Type} (S : KSt U) (e k : Nat) (T : U.Ty) (args : List (KV U)) (j : Nat → Nat → List (U.den T) → List (KV U) → Option α) : Option α :=
  match args with
  | .own id ver :: rest => (match S.row? id ver with
    | some r => (match Nat.beq r.e e && Nat.beq r.k k with
      | true => (match castL r.T T r.xs with | some xs => j id ver xs rest | none => none)
      | false => none)
    | none => none)
  | _ => none
theorem onRow_some {α : Type} {e k : Nat} {T : U.Ty} {args : List (KV U)} {j : Nat → Nat → List (U.den T) → List (KV U) → Option α} {r : α} (h : onRow S e k T args j = some r) :
    ∃ id ver xs rest, args = .own id ver :: rest ∧ (S.H id).ver = ver ∧ (S.H id).c = .row e k T xs ∧ j id ver xs rest = some r := by
  unfold onRow at h
  split at h
  · rename_i id ver rest
    split at h
    · rename_i rr hr
      obtain ⟨h1, h2⟩ := row?_some hr
      split at h
      · rename_i hek
        rw [Bool.and_eq_true] at hek
        split at h
        · rename_i xs hxs
          obtain ⟨eT, rfl⟩ := castL_some hxs
          obtain ⟨re, rk, rT, rxs⟩ := rr
          simp only at eT h2 hek
          subst eT
          exact ⟨id, ver, _, rest, rfl, h1, by rw [h2, Nat.eq_of_beq_eq_true hek.1, Nat.eq_of_beq_eq_true hek.2], h⟩
        · cases h
      · cases h
    · cases h
  · cases h
theorem okRows_K (K : TK U) (T : U.Ty) (xs : List (U.den T)) : okRows (xs.map (U.pv T)) = true := by
  refine List.all_eq_true.2 fun u hu => ?_
  obtain ⟨x, _, rfl⟩ := List.mem_map.1 hu
  exact List.all_eq_true.2 fun y hy => good_closed' (K.good T x y hy)
theorem plRows_K (K : TK U) {T : U.Ty} (hp : U.plain T = true) (xs : List (U.den T)) : plRows (xs.map (U.pv T)) = true := by
  refine List.all_eq_true.2 fun u hu => ?_
  obtain ⟨x, _, rfl⟩ := List.mem_map.1 hu
  exact List.all_eq_true.2 fun y hy => K.plain T hp x y hy
variable (K)
def callK {ρ : Type} (nid : Nat) (S : KSt U) (f : FuncId) (args : List (KV U)) (k : KV U → Option (Nat × KObj U) → Option ρ) : List (KFun U) → Option ρ
  | [] => none
  | .bk _ _ _ :: Γ | .r2 .. :: Γ | .pr .. :: Γ => callK nid S f args k Γ
  | .rw g e kk T as rs F :: Γ => match Nat.beq f g with
    | true => onRow S e kk T args fun id ver xs rest => (match decAs K (S.hide id ver) (some id) as rest with
      | some a => (match (rs.plain || rest.all KV.closeds) && (U.plain T || rest.all KV.closeds) && (rs.ok && Nat.ble (asDepth as) 9) with
        | true => (F xs a).bind fun p => k (rsK K rs p.1) (some (id, ⟨ver, .row e kk T p.2⟩))
        | false => none)
      | none => callK nid S f args k Γ)
    | false => callK nid S f args k Γ
  | .cw g e kk T as F :: Γ => match Nat.beq f g with
    | true => onRow S e kk T args fun id ver xs rest => (match decAs K (S.hide id ver) (some id) as rest with
      | some a => (match (U.plain T || rest.all KV.closeds) && Nat.ble (asDepth as) 9 with
        | true => (F xs a).bind fun ys => k (.own id (ver + 1)) (some (id, ⟨ver + 1, .row e kk T ys⟩))
        | false => none)
      | none => callK nid S f args k Γ)
    | false => callK nid S f args k Γ
  | .fw g as e kk T F :: Γ => match Nat.beq f g with
    | true => (match decAs K S none as args with
      | some a => (match (U.plain T || args.all KV.closeds) && Nat.ble (asDepth as) 9 with
        | true => (F a).bind fun ys => k (.own nid ((S.H nid).ver + 1)) (some (nid, ⟨(S.H nid).ver + 1, .row e kk T ys⟩))
        | false => none)
      | none => callK nid S f args k Γ)
    | false => callK nid S f args k Γ
  | .fn g as rs F :: Γ => match Nat.beq f g with
    | true => (match decAs K S none as args with
      | some a => (match (rs.plain || args.all KV.closeds) && (rs.ok && Nat.ble (asDepth as) 9) with
        | true => (F a).bind fun r => k (rsK K rs r) none
        | false => none)
      | none => callK nid S f args k Γ)
    | false => callK nid S f args k Γ
  | .rc g pos R as rs F :: Γ => match Nat.beq f g with
    | true => (match args[pos]? with
      | some (.ptr id ver 0) => (match S.box? id ver with
        | some cs => (match K.dec R noLk cs with
          | some s => (match decAs K S (some id) as (cutAt pos args) with
            | some a => (match ((rs.plain && U.plain R) || (cutAt pos args).all KV.closeds) && (rs.ok && Nat.ble (asDepth as) 9) with
              | true => (F s a).bind fun p => k (rsK K rs p.1) (some (id, ⟨ver, .box (K.enc R p.2)⟩))
              | false => none)
            | none => callK nid S f args k Γ)
          | none => none)
        | none => none)
      | _ => none)
    | false => callK nid S f args k Γ
  | .ro g pos R as rs F :: Γ => match Nat.beq f g with
    | true => (match args[pos]? with
      | some (.ptr id ver 0) => (match S.box? id ver with
        | some cs => (match decS0 K R cs with
          | some s => (match decAs K S (some id) as (cutAt pos args) with
            | some a => (match ((rs.plain && U.plain R) || (cutAt pos args).all KV.closeds) && (rs.ok && Nat.ble (asDepth as) 9) with
              | true => (F s a).bind fun p => k (rsK K rs p.1) none
              | false => none)
            | none => callK nid S f args k Γ)
          | none => none)
        | none => none)
      | _ => none)
    | false => callK nid S f args k Γ
  | .nw g as R F :: Γ => match Nat.beq f g with
    | true => (match decAs K S none as args with
      | some a => (match (U.plain R || args.all KV.closeds) && Nat.ble (asDepth as) 9 with
        | true => (F a).bind fun s => k (.ptr nid ((S.H nid).ver + 1) 0) (some (nid, ⟨(S.H nid).ver + 1, .box (K.enc R s)⟩))
        | false => none)
      | none => callK nid S f args k Γ)
    | false => callK nid S f args k Γ

variable {K}
theorem valPV_head {T : U.Ty} (K : TK U) (v : U.den T) (ha : U.agg T = false) : ∃ y, valPV T v = y ∧ y ∈ U.pv T v := by
  have h1 := K.len T v
  rw [K.one T ha] at h1
  cases hq : U.pv T v with
  | nil => rw [hq] at h1; cases h1
  | cons y l => exact ⟨y, by rw [valPV, ha, hq]; rfl, List.mem_cons_self⟩
theorem valPV_agg {T : U.Ty} (v : U.den T) (ha : U.agg T = true) : valPV T v = .agg (U.pv T v) := by rw [valPV, ha]
theorem plain_plain1 {y : PV} (h : y.plain = true) : y.plain1 = true := by
  cases y <;> first | exact h | cases h
theorem good_closed {y : PV} (h : y.good = true) : y.closed = true := by
  cases y <;> first | rfl | cases h
theorem good_closeds {y : PV} (h : y.good = true) : y.closeds = true := by
  cases y <;> first | rfl | cases h
theorem valPV_plain (K : TK U) {T : U.Ty} (hp : U.plain T = true) (v : U.den T) : (valPV T v).plain1 = true := by
  cases ha : U.agg T with
  | true => rw [valPV_agg v ha]; exact List.all_eq_true.2 fun y hy => K.plain T hp v y hy
  | false => obtain ⟨y, h1, h2⟩ := valPV_head K v ha; rw [h1]; exact plain_plain1 (K.plain T hp v y h2)
theorem valPV_closeds {T : U.Ty} (K : TK U) (v : U.den T) : (valPV T v).closeds = true := by
  cases ha : U.agg T with
  | true => rw [valPV_agg v ha]; exact List.all_eq_true.2 fun y hy => good_closed (K.good T v y hy)
  | false => obtain ⟨y, h1, h2⟩ := valPV_head K v ha; rw [h1]; exact good_closeds (K.good T v y h2)
theorem tsPV_plain (K : TK U) : ∀ (Ts : List U.Ty) (v : TDen U Ts), Ts.all U.plain = true → (tsPV Ts v).all PV.plain1 = true
  | [], v, _ => rfl
  | T :: l, v, h => by
    rw [List.all_cons, Bool.and_eq_true] at h
    rw [tsPV, List.all_cons, valPV_plain K h.1 v.1, tsPV_plain K l v.2 h.2]; rfl
theorem tsPV_closeds (K : TK U) : ∀ (Ts : List U.Ty) (v : TDen U Ts), (tsPV Ts v).all PV.closeds = true
  | [], v => rfl
  | T :: l, v => by rw [tsPV, List.all_cons, valPV_closeds K v.1, tsPV_closeds K l v.2]; rfl
theorem plains_of {y : PV} (h : y.plain1 = true) : y.plains = true := by
  cases y <;> first | exact h | cases h
theorem valPV_not_tup {T : U.Ty} (K : TK U) (v : U.den T) (cs : List PV) : valPV T v ≠ .tup cs := by
  intro h
  cases ha : U.agg T with
  | true => rw [valPV_agg v ha] at h; cases h
  | false => obtain ⟨y, h1, h2⟩ := valPV_head K v ha; have h3 := K.good T v y h2; rw [← h1, h] at h3; cases h3
theorem rsPV_plains (K : TK U) : ∀ (r : RTy U) (v : r.den), r.plain = true → (rsPV r v).plains = true
  | .one T, v, h => plains_of (valPV_plain K h v)
  | .many Ts, v, h => tsPV_plain K Ts v h
  | .fn _, _, h => by cases h
theorem asPV_refs : ∀ (as : List (ATy U)) (v : ADen as), as.all ATy.isRef = true → (asPV as v).all PV.closed = true
  | [], _, _ => by rw [asPV]; rfl
  | a :: l, v, h => by
    rw [List.all_cons, Bool.and_eq_true] at h
    rw [asPV, List.all_cons, asPV_refs l v.2 h.2, Bool.and_true]
    cases a with
    | ref a => rw [argPV]; rfl
    | ty T => cases h.1
    | clo f cs => cases h.1
    | agg cs => cases h.1
theorem rsPV_closedr (K : TK U) : ∀ (r : RTy U) (v : r.den), r.ok = true → (rsPV r v).closedr = true
  | .fn (.clo f cs), v, h => by
    show (argPV (.clo f cs) v).closedr = true
    rw [argPV]
    exact asPV_refs cs v h
  | .fn (.ty _), v, h => by cases h
  | .fn (.ref _), v, h => by cases h
  | .fn (.agg _), v, h => by cases h
  | .one T, v, _ => by
    show (valPV T v).closedr = true
    have h1 := valPV_closeds K v
    have h2 := valPV_not_tup K v
    generalize valPV T v = y at h1 h2
    cases y <;> first | exact h1 | exact absurd rfl (h2 _)
  | .many Ts, v, _ => tsPV_closeds K Ts v
theorem all_closeds_pv (l : List (KV U)) : (l.map KV.pv).all PV.closeds = l.all KV.closeds := by
  induction l with
  | nil => rfl
  | cons x l ih => simp only [List.map_cons, List.all_cons, closeds_pv, ih]

theorem callK_sound {P : Program} {ρ : Type} {nid : Nat} {f : FuncId} {args : List (KV U)} {k : KV U → Option (Nat × KObj U) → Option ρ} {r : ρ} : ∀ {Γ : List (KFun U)}, AllK P Γ → callK K nid S f args k Γ = some r →
    ∃ Γ' x wr, TabOk P Γ' ∧ callPV Γ' nid S.st f (args.map KV.pv) = some (x.pv, wr.map objpv) ∧ k x wr = some r
  | [], _, h => by cases h
  | .bk _ _ _ :: Γ, hΓ, h => callK_sound (Γ := Γ) hΓ.2 h
  | .r2 .. :: Γ, hΓ, h => callK_sound (Γ := Γ) hΓ.2 h
  | .pr .. :: Γ, hΓ, h => callK_sound (Γ := Γ) hΓ.2 h
  | .rw g e kk T as rs F :: Γ, hΓ, h => by
    simp only [callK] at h
    split at h
    · rename_i hg
      have hg := Nat.eq_of_beq_eq_true hg
      subst hg
      obtain ⟨id, ver, xs, rest, rfl, hver, hc, h'⟩ := onRow_some h
      split at h'
      · rename_i a ha
        split at h'
        · rename_i hcl
          simp only [Option.bind_eq_some_iff] at h'
          obtain ⟨⟨v, ys⟩, hv, hk⟩ := h'
          rw [Bool.and_eq_true, Bool.and_eq_true, Bool.and_eq_true] at hcl
          obtain ⟨⟨hcl1, hcl2⟩, hrok, hdep⟩ := hcl
          have hfz := decAs_fz (ex := some id) (hide_hex S id ver) as 9 rest a (Nat.le_of_ble_eq_true hdep) ha
          have hfz' : (rest.map KV.pv).map (fz S.st.H (some id) 9) = asPV as a := by
            rw [← hfz]
            exact List.map_congr_left fun y _ => (hide_fz S id ver 9 y).symm
          obtain ⟨hen, hcon⟩ := hΓ.1
          refine ⟨oneTab f (rFact (.bor e kk) (xs.map (U.pv T)) (asPV as a) (rsPV rs v) (ys.map (U.pv T))), rsK K rs v, some (id, ⟨ver, .row e kk T ys⟩), oneTab_ok ⟨hen, (fun _ cs as' r' cs' hm => by cases hm), (fun hq => by cases hq), fun es as' r' es' hm => ?_, (fun hq => by cases hq)⟩, ?_, hk⟩
          · simp only [rFact] at hm
            split at hm
            · rename_i he
              injection hm with hm
              injection hm with h1 h2
              subst h1 h2
              obtain ⟨rfl, rfl⟩ := he
              exact hcon xs a v ys hv
            · cases hm
          · have hv1 : (S.st.H id).ver = ver := hver
            have hc1 : (S.st.H id).c = .row e kk (xs.map (U.pv T)) := by simp [KSt.st, KObj.pv, hc, KCont.pv]
            simp only [List.map_cons, KV.pv, callPV, oneTab_at, rFact, callBor, hv1, hc1, if_true, okRows_K K T xs, and_self, hfz', rsK_pv, Option.map_some, objpv, KObj.pv, KCont.pv]
            rw [if_pos]
            rw [all_closeds_pv, rsPV_closedr K rs v hrok, okRows_K K T ys]
            simp only [Bool.or_eq_true] at hcl1 hcl2
            rcases hcl1 with hcl1 | hcl1
            · rw [rsPV_plains K rs v hcl1]
              rcases hcl2 with hcl2 | hcl2
              · rw [plRows_K K hcl2 ys]; rfl
              · rw [hcl2]; simp
            · rw [hcl1]; simp
        · cases h'
      · exact callK_sound hΓ.2 h'
    · exact callK_sound hΓ.2 h
  | .cw g e kk T as F :: Γ, hΓ, h => by
    simp only [callK] at h
    split at h
    · rename_i hg
      have hg := Nat.eq_of_beq_eq_true hg
      subst hg
      obtain ⟨id, ver, xs, rest, rfl, hver, hc, h'⟩ := onRow_some h
      split at h'
      · rename_i a ha
        split at h'
        · rename_i hcl
          simp only [Option.bind_eq_some_iff] at h'
          obtain ⟨ys, hv, hk⟩ := h'
          rw [Bool.and_eq_true] at hcl
          obtain ⟨hcl2, hdep⟩ := hcl
          have hfz := decAs_fz (ex := some id) (hide_hex S id ver) as 9 rest a (Nat.le_of_ble_eq_true hdep) ha
          have hfz' : (rest.map KV.pv).map (fz S.st.H (some id) 9) = asPV as a := by
            rw [← hfz]
            exact List.map_congr_left fun y _ => (hide_fz S id ver 9 y).symm
          obtain ⟨hen, hcon⟩ := hΓ.1
          refine ⟨oneTab f (rFact (.con e kk) (xs.map (U.pv T)) (asPV as a) .any (ys.map (U.pv T))), .own id (ver + 1), some (id, ⟨ver + 1, .row e kk T ys⟩), oneTab_ok ⟨hen, (fun _ cs as' r' cs' hm => by cases hm), (fun hq => by cases hq), fun es as' r' es' hm => ?_, (fun hq => by cases hq)⟩, ?_, hk⟩
          · simp only [rFact] at hm
            split at hm
            · rename_i he
              injection hm with hm
              injection hm with h1 h2
              subst h1 h2
              obtain ⟨rfl, rfl⟩ := he
              exact hcon xs a ys hv
            · cases hm
          · have hv1 : (S.st.H id).ver = ver := hver
            have hc1 : (S.st.H id).c = .row e kk (xs.map (U.pv T)) := by simp [KSt.st, KObj.pv, hc, KCont.pv]
            simp only [List.map_cons, KV.pv, callPV, oneTab_at, rFact, callCon, hv1, hc1, if_true, okRows_K K T xs, and_self, hfz', Option.map_some, objpv, KObj.pv, KCont.pv]
            rw [if_pos]
            rw [all_closeds_pv, okRows_K K T ys]
            simp only [Bool.or_eq_true] at hcl2
            rcases hcl2 with hcl2 | hcl2
            · rw [plRows_K K hcl2 ys]; rfl
            · rw [hcl2]; simp
        · cases h'
      · exact callK_sound hΓ.2 h'
    · exact callK_sound hΓ.2 h
  | .fw g as e kk T F :: Γ, hΓ, h => by
    simp only [callK] at h
    split at h
    · rename_i hg
      have hg := Nat.eq_of_beq_eq_true hg
      subst hg
      split at h
      · rename_i a ha
        split at h
        · rename_i hcl
          simp only [Option.bind_eq_some_iff] at h
          obtain ⟨ys, hv, hk⟩ := h
          rw [Bool.and_eq_true] at hcl
          obtain ⟨hcl2, hdep⟩ := hcl
          have hfz := decAs_fz (ex := none) (fun id h => by cases h) as 9 args a (Nat.le_of_ble_eq_true hdep) ha
          obtain ⟨hen, hcon⟩ := hΓ.1
          refine ⟨oneTab f (rFact (.fre e kk) [] (asPV as a) .any (ys.map (U.pv T))), .own nid ((S.H nid).ver + 1), some (nid, ⟨(S.H nid).ver + 1, .row e kk T ys⟩), oneTab_ok ⟨hen, (fun _ cs as' r' cs' hm => by cases hm), (fun hq => by cases hq), fun as' r' es' hm => ?_, (fun hq => by cases hq)⟩, ?_, hk⟩
          · simp only [rFact] at hm
            split at hm
            · rename_i he
              injection hm with hm
              injection hm with h1 h2
              subst h1 h2
              obtain ⟨_, rfl⟩ := he
              exact hcon a ys hv
            · cases hm
          · simp only [callPV, oneTab_at, rFact, callFre, hfz, and_self, if_true, Option.map_some, objpv, KObj.pv, KCont.pv, KV.pv]
            rw [if_pos]
            · rfl
            rw [all_closeds_pv, okRows_K K T ys]
            simp only [Bool.or_eq_true] at hcl2
            rcases hcl2 with hcl2 | hcl2
            · rw [plRows_K K hcl2 ys]; rfl
            · rw [hcl2]; simp
        · cases h
      · exact callK_sound hΓ.2 h
    · exact callK_sound hΓ.2 h
  | .fn g as rs F :: Γ, hΓ, h => by
    simp only [callK] at h
    split at h
    · rename_i hg
      have hg := Nat.eq_of_beq_eq_true hg
      subst hg
      split at h
      · rename_i a ha
        split at h
        · rename_i hcl
          simp only [Option.bind_eq_some_iff] at h
          obtain ⟨v, hv, hk⟩ := h
          rw [Bool.and_eq_true, Bool.and_eq_true] at hcl
          obtain ⟨hcl, hrok, hdep⟩ := hcl
          have hfz := decAs_fz (ex := none) (fun id h => by cases h) as 9 args a (Nat.le_of_ble_eq_true hdep) ha
          obtain ⟨hen, hcon⟩ := hΓ.1
          refine ⟨oneTab f (mFact false 0 false false [] (asPV as a) (rsPV rs v) []), _, none, oneTab_ok ⟨hen, fun _ cs as' r' cs' hm => ?_, (fun hq => by cases hq), trivial, (fun hq => by cases hq)⟩, ?_, hk⟩
          · simp only [mFact] at hm
            split at hm
            · rename_i he
              injection hm with hm
              injection hm with h1 h2
              subst h1 h2
              obtain ⟨rfl, rfl⟩ := he
              exact hcon a v hv
            · cases hm
          · simp only [callPV, oneTab_at, mFact, Bool.false_eq_true, if_false, hfz, and_self, if_true, rsK_pv, Option.map_none]
            rw [if_pos]
            rw [all_closeds_pv, rsPV_closedr K rs v hrok]
            simp only [Bool.or_eq_true] at hcl
            rcases hcl with hcl | hcl
            · rw [rsPV_plains K rs v hcl]; rfl
            · rw [hcl]; simp
        · cases h
      · obtain ⟨Γ', x, wr, h1, h2, h3⟩ := callK_sound hΓ.2 h
        exact ⟨Γ', x, wr, h1, h2, h3⟩
    · exact callK_sound hΓ.2 h
  | .rc g pos R as rs F :: Γ, hΓ, h => by
    simp only [callK] at h
    split at h
    · rename_i hg
      have hg := Nat.eq_of_beq_eq_true hg
      subst hg
      split at h
      · rename_i id ver hpos
        have hpos : args[pos]? = some (.ptr id ver 0) := hpos
        generalize hrest : cutAt pos args = rest at h
        split at h
        · rename_i cs hbox
          split at h
          · rename_i s hs
            split at h
            · rename_i a ha
              split at h
              · rename_i hcl
                simp only [Option.bind_eq_some_iff] at h
                obtain ⟨⟨v, s'⟩, hv, hk⟩ := h
                obtain ⟨hver, hc⟩ := box?_some hbox
                rw [Bool.and_eq_true, Bool.and_eq_true] at hcl
                obtain ⟨hcl, hrok, hdep⟩ := hcl
                have hfz := decAs_fz (ex := some id) (fun id' h => by injection h with h; subst h; intro e k T xs hq; rw [hc] at hq; cases hq) as 9 rest a (Nat.le_of_ble_eq_true hdep) ha
                obtain ⟨hnz, hclo⟩ := cells_nz (K.dec_ok _ _ _ _ hs)
                obtain ⟨hen, hcon⟩ := hΓ.1
                refine ⟨oneTab f (mFact true pos false false (U.pv R s) (asPV as a) (rsPV rs v) (U.pv R s')), _, _, oneTab_ok ⟨hen, fun _ cs as' r' cs' hm => ?_, (fun hq => by cases hq), trivial, (fun hq => by cases hq)⟩, ?_, hk⟩
                · simp only [mFact] at hm
                  split at hm
                  · rename_i he
                    injection hm with hm
                    injection hm with h1 h2
                    subst h1 h2
                    obtain ⟨rfl, rfl⟩ := he
                    exact hcon s a v s' hv
                  · cases hm
                · have hv1 : (S.st.H id).ver = ver := hver
                  have hc1 : (S.st.H id).c = .box (cs.map KV.pv) := by simp [KSt.st, KObj.pv, hc, KCont.pv]
                  have hpos' : (args.map KV.pv)[pos]? = some (.ptr id ver 0) := by rw [List.getElem?_map, hpos]; rfl
                  have hrest' : cutAt pos (args.map KV.pv) = rest.map KV.pv := by rw [← hrest]; simp [cutAt]
                  simp only [callPV, oneTab_at, mFact, Bool.false_and, Bool.false_eq_true, if_false, if_true, hpos', hrest', hv1, hc1, all_closed_pv, hclo, hnz, hfz, and_self, rsK_pv, Option.map_some, objpv, KObj.pv, KCont.pv, K.enc_pv]
                  rw [if_pos]
                  have hgs : (U.pv R s').all PV.closed = true := List.all_eq_true.2 fun y hy => good_closed (K.good R s' y hy)
                  rw [all_closeds_pv, rsPV_closedr K rs v hrok, hgs]
                  simp only [Bool.or_eq_true, Bool.and_eq_true] at hcl
                  rcases hcl with ⟨hcl1, hcl2⟩ | hcl
                  · rw [rsPV_plains K rs v hcl1, List.all_eq_true.2 fun y hy => K.plain R hcl2 s' y hy]; rfl
                  · rw [hcl]; simp
              · cases h
            · exact callK_sound hΓ.2 h
          · cases h
        · cases h
      · cases h
    · exact callK_sound hΓ.2 h
  | .ro g pos R as rs F :: Γ, hΓ, h => by
    simp only [callK] at h
    split at h
    · rename_i hg
      have hg := Nat.eq_of_beq_eq_true hg
      subst hg
      split at h
      · rename_i id ver hpos
        have hpos : args[pos]? = some (.ptr id ver 0) := hpos
        generalize hrest : cutAt pos args = rest at h
        split at h
        · rename_i cs hbox
          split at h
          · rename_i s hs
            split at h
            · rename_i a ha
              split at h
              · rename_i hcl
                simp only [Option.bind_eq_some_iff] at h
                obtain ⟨⟨v, s'⟩, hv, hk⟩ := h
                obtain ⟨hver, hc⟩ := box?_some hbox
                rw [Bool.and_eq_true, Bool.and_eq_true] at hcl
                obtain ⟨hcl, hrok, hdep⟩ := hcl
                have hfz := decAs_fz (ex := some id) (fun id' h => by injection h with h; subst h; intro e k T xs hq; rw [hc] at hq; cases hq) as 9 rest a (Nat.le_of_ble_eq_true hdep) ha
                obtain ⟨hnn, hs⟩ : cs.all KV.noNil = true ∧ K.dec R noLk cs = some s := by
                  unfold decS0 at hs
                  split at hs
                  · rename_i hn; exact ⟨hn, hs⟩
                  · cases hs
                obtain ⟨hnz, hclo⟩ := cells_nz (K.dec_ok _ _ _ _ hs)
                have hnnp : (cs.map KV.pv).all PV.noNils = true := by
                  rw [List.all_eq_true]
                  intro y hy
                  obtain ⟨x, hx, rfl⟩ := List.mem_map.1 hy
                  have := List.all_eq_true.1 hnn x hx
                  cases x <;> first | rfl | cases this
                obtain ⟨hen, hcon⟩ := hΓ.1
                refine ⟨oneTab f (mFact true pos false true (U.pv R s) (asPV as a) (rsPV rs v) (U.pv R s')), _, none, oneTab_ok ⟨hen, fun _ cs as' r' cs' hm => ?_, (fun hq => by cases hq), trivial, fun _ cs as' r' cs' hm => ?_⟩, ?_, hk⟩
                · simp only [mFact] at hm
                  split at hm
                  · rename_i he
                    injection hm with hm
                    injection hm with h1 h2
                    subst h1 h2
                    obtain ⟨rfl, rfl⟩ := he
                    exact (hcon s a v s' hv).2
                  · cases hm
                · simp only [mFact] at hm
                  split at hm
                  · rename_i he
                    injection hm with hm
                    injection hm with h1 h2
                    subst h1 h2
                    rw [(hcon s a v s' hv).1, he.1]
                  · cases hm
                · have hv1 : (S.st.H id).ver = ver := hver
                  have hc1 : (S.st.H id).c = .box (cs.map KV.pv) := by simp [KSt.st, KObj.pv, hc, KCont.pv]
                  have hpos' : (args.map KV.pv)[pos]? = some (.ptr id ver 0) := by rw [List.getElem?_map, hpos]; rfl
                  have hrest' : cutAt pos (args.map KV.pv) = rest.map KV.pv := by rw [← hrest]; simp [cutAt]
                  simp only [callPV, oneTab_at, mFact, Bool.false_eq_true, if_false, if_true, hpos', hrest', hv1, hc1, all_closed_pv, hclo, hnz, hfz, and_self, rsK_pv, Option.map_none, hnnp, Bool.and_self]
                  rw [if_pos]
                  have hgs : (U.pv R s').all PV.closed = true := List.all_eq_true.2 fun y hy => good_closed (K.good R s' y hy)
                  rw [all_closeds_pv, rsPV_closedr K rs v hrok, hgs]
                  simp only [Bool.or_eq_true, Bool.and_eq_true] at hcl
                  rcases hcl with ⟨hcl1, hcl2⟩ | hcl
                  · rw [rsPV_plains K rs v hcl1, List.all_eq_true.2 fun y hy => K.plain R hcl2 s' y hy]; rfl
                  · rw [hcl]; simp
              · cases h
            · exact callK_sound hΓ.2 h
          · cases h
        · cases h
      · cases h
    · exact callK_sound hΓ.2 h
  | .nw g as R F :: Γ, hΓ, h => by
    simp only [callK] at h
    split at h
    · rename_i hg
      have hg := Nat.eq_of_beq_eq_true hg
      subst hg
      split at h
      · rename_i a ha
        split at h
        · rename_i hcl
          simp only [Option.bind_eq_some_iff] at h
          obtain ⟨s, hs, hk⟩ := h
          rw [Bool.and_eq_true] at hcl
          obtain ⟨hcl, hdep⟩ := hcl
          have hfz := decAs_fz (ex := none) (fun id h => by cases h) as 9 args a (Nat.le_of_ble_eq_true hdep) ha
          obtain ⟨hen, hcon⟩ := hΓ.1
          refine ⟨oneTab f (mFact false 0 true false [] (asPV as a) .any (U.pv R s)), _, _, oneTab_ok ⟨hen, (fun hq => by cases hq), fun _ as' r' cs' hm => ?_, trivial, (fun hq => by cases hq)⟩, ?_, hk⟩
          · simp only [mFact] at hm
            split at hm
            · rename_i he
              injection hm with hm
              injection hm with h1 h2
              subst h1 h2
              obtain ⟨_, rfl⟩ := he
              exact hcon a s hs
            · cases hm
          · simp only [callPV, oneTab_at, mFact, if_true, hfz, and_self, Option.map_some, objpv, KObj.pv, KCont.pv, K.enc_pv]
            have hgs : (U.pv R s).all PV.closed = true := List.all_eq_true.2 fun y hy => good_closed (K.good R s y hy)
            rw [if_pos]
            · rfl
            rw [all_closeds_pv, hgs]
            simp only [Bool.or_eq_true] at hcl
            rcases hcl with hcl | hcl
            · rw [List.all_eq_true.2 fun y hy => K.plain R hcl s y hy]; rfl
            · rw [hcl]; simp
        · cases h
      · exact callK_sound hΓ.2 h
    · exact callK_sound hΓ.2 h
end
end Go.TQ
